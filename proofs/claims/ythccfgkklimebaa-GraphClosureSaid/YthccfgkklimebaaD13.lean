/- Chapter 11: GraphClosure. Printed by walk.py from g13.walk.py. -/
import Derived.Test.YthccfgkklimebaaD12
set_option linter.unusedVariables false
set_option linter.unusedSimpArgs false
namespace Go.Proofs.Ythccfgkklimebaa.F
open Go Go.SX

theorem clos_sorted (n : Int) (l : List (Int × Int)) (a : Int) : (clos n l a).Pairwise (· < ·) := List.pairwise_lt_range.filter _
theorem bN_own {n : Int} (h0 : 0 ≤ n) (h1 : n ≤ 100) : ((bN n : Nat) : Int) = n := by unfold bN; split; omega; split <;> omega
theorem clos_sub {n : Int} {l : List (Int × Int)} {a : Int} {v : Nat} (h : v ∈ clos n l a) : (clos n l (v : Int)).length ≤ (clos n l a).length := by
  obtain ⟨h1, h2, h3⟩ := mem_clos.1 h
  have hs : ∀ x ∈ clos n l (v : Int), x ∈ clos n l a := fun x hx => by
    obtain ⟨g1, g2, g3⟩ := mem_clos.1 hx
    exact mem_clos.2 ⟨g1, h2, rB_trans n l _ _ _ h3 (by simpa using g3)⟩
  have e : clos n l (v : Int) = (clos n l a).filter (fun x => decide (x ∈ clos n l (v : Int))) := by
    unfold clos pk at hs ⊢
    rw [List.filter_filter]
    apply List.filter_congr
    intro x hx
    have hx' : x < bN n := by simpa using hx
    rw [Bool.eq_iff_iff]
    simp only [Bool.and_eq_true, decide_eq_true_eq, List.mem_filter, List.mem_range]
    constructor
    · intro h; exact ⟨⟨hx', h⟩, by have := hs x (by simp only [List.mem_filter, List.mem_range]; exact ⟨hx', h⟩); exact (List.mem_filter.1 this).2⟩
    · exact fun h => h.1.2
  rw [e]; exact List.length_filter_le _ _
/-- What a list has, marked. -/
def Mk (N : Nat) (c : List Nat) (i : Nat) (x : List Bool) : Prop := x.length = N ∧ ∀ v, v < N → (x.getD v false = true ↔ v ∈ c.take i)
def s9 (n : Int) (l : List (Int × Int)) (a : Nat) (c : List Nat) (s : Slots) : Slots := (0, iv n) :: (1, .ro 2 (eds l)) :: (2, iv a) :: (8, .ro 1 (nats c)) :: (9, .own 9048 1 0 (bN n)) :: s
def I9 (n : Int) (l : List (Int × Int)) (a : Nat) (c : List Nat) (m : Nat) (st : St) : Prop := ∃ (i : Nat) (x : List Bool), i ≤ c.length ∧ Mk (bN n) c i x ∧ m = c.length - i ∧ st = ⟨s9 n l a c [(10, iv i)], [(9048, .arr 4 1 (bools x))], []⟩
def I9b (n : Int) (l : List (Int × Int)) (a : Nat) (c : List Nat) (x : List Bool) (k : Nat) (m : Nat) (st : St) : Prop := ∃ i : Nat, i ≤ (if k = 11 then l.length else c.length) ∧ m = (if k = 11 then l.length else c.length) - i ∧ st = ⟨s9 n l a c [(k, iv i)], [(9048, .arr 4 1 (bools x))], []⟩

theorem c9 : chkFn Try.prog 9 172 3 a9 a9R = true := by kernel_rfl
set_option maxHeartbeats 8000000 in
/-- colloquy/colloquylaw11.GraphClosure -/
theorem d9 (n : Int) (l : List (Int × Int)) (a : Int) : DoesT 9 [iv n, .ro 2 (eds l), iv a] (bv true) := by
  refine Does.of (nt := 172) (ac := a9) (rds := a9R) c9 (fun c hc => ?_)
  unfold a9
  apply J.seq
  refine J.regE (by simp; rfl) ?_
  simp
  apply J.seq
  apply J.reg
  refine runL_tree rfl (d10) (by simp) hc ?_
  simp
  refine runL_step rfl (by simp; rfl) ?_
  simp [runL]
  apply J.seq
  apply J.seq
  rcases (show ((n < 0)) ∨ (¬ (n < 0) ∧ (100 < n)) ∨ (¬ (n < 0) ∧ ¬ (100 < n) ∧ ((300 : Int) < l.length)) ∨ (¬ (n < 0) ∧ ¬ (100 < n) ∧ ¬ ((300 : Int) < l.length) ∧ (a < 0)) ∨ (¬ (n < 0) ∧ ¬ (100 < n) ∧ ¬ ((300 : Int) < l.length) ∧ ¬ (a < 0) ∧ (n ≤ a)) ∨ (¬ (n < 0) ∧ ¬ (100 < n) ∧ ¬ ((300 : Int) < l.length) ∧ ¬ (a < 0) ∧ ¬ (n ≤ a)) by omega) with q0 | ⟨q0, q1⟩ | ⟨q0, q1, q2⟩ | ⟨q0, q1, q2, q3⟩ | ⟨q0, q1, q2, q3, q4⟩ | ⟨q0, q1, q2, q3, q4⟩
  ·
    apply J.reg
    iterate 24 refine runL_step rfl (by simp [q0]; rfl) ?_
    simp [runL]
    apply J.cond; simp
    apply J.seq
    refine J.regE (by simp; rfl) ?_
    simp
    apply J.ret
    refine ⟨by simp, rfl, _, [], by simp [a9R]; rfl, ?_⟩
    simp
  ·
    apply J.reg
    iterate 24 refine runL_step rfl (by simp [q0, q1]; rfl) ?_
    simp [runL]
    apply J.cond; simp
    apply J.seq
    refine J.regE (by simp; rfl) ?_
    simp
    apply J.ret
    refine ⟨by simp, rfl, _, [], by simp [a9R]; rfl, ?_⟩
    simp
  ·
    apply J.reg
    iterate 24 refine runL_step rfl (by simp [q0, q1, q2]; rfl) ?_
    simp [runL]
    apply J.cond; simp
    apply J.seq
    refine J.regE (by simp; rfl) ?_
    simp
    apply J.ret
    refine ⟨by simp, rfl, _, [], by simp [a9R]; rfl, ?_⟩
    simp
  ·
    apply J.reg
    iterate 24 refine runL_step rfl (by simp [q0, q1, q2, q3]; rfl) ?_
    simp [runL]
    apply J.cond; simp
    apply J.seq
    refine J.regE (by simp; rfl) ?_
    simp
    apply J.ret
    refine ⟨by simp, rfl, _, [], by simp [a9R]; rfl, ?_⟩
    simp
  ·
    apply J.reg
    iterate 24 refine runL_step rfl (by simp [q0, q1, q2, q3, q4]; rfl) ?_
    simp [runL]
    apply J.cond; simp
    apply J.seq
    refine J.regE (by simp; rfl) ?_
    simp
    apply J.ret
    refine ⟨by simp, rfl, _, [], by simp [a9R]; rfl, ?_⟩
    simp
  ·
    apply J.reg
    iterate 24 refine runL_step rfl (by simp [q0, q1, q2, q3, q4]; rfl) ?_
    simp [runL]
    apply J.cond; simp
    apply J.skip; simp
    apply J.seq
    obtain ⟨a, rfl⟩ := Int.eq_ofNat_of_zero_le (by omega : 0 ≤ a)
    have hN := bN_own (n := n) (by omega) (by omega)
    have hN2 := bN_le n
    have ha : a < bN n := by omega
    apply J.reg
    iterate 3 refine runL_step rfl (by simp; rfl) ?_
    refine runL_tree rfl (d15 n l a (by omega)) (by simp) hc ?_
    simp
    refine runL_step rfl (by simp; rfl) ?_
    simp [runL]
    have hcl := clos_length n l a
    have hcs := clos_sorted n l a
    have hcm : ∀ v, v ∈ clos n l a ↔ v < bN n ∧ rB n l a v = true := fun v => by
      rw [mem_clos]
      have : isT n (a : Int) = true := (isT_iff _ _).2 ⟨by omega, by omega⟩
      simp [this]
    have hsub : ∀ v ∈ clos n l a, (clos n l (v : Int)).length ≤ (clos n l a).length := fun v hv => clos_sub hv
    have hself : clos n l a = clos n l a := rfl
    generalize hcc : clos n l (a : Int) = c0 at hcl hcs hcm hsub hself ⊢
    apply J.seq
    rw [← hN]
    refine J.regE (by simp [show ((bN n : Nat) : Int) ≤ 281474976710656 from by omega, bools_zero]; rfl) ?_
    simp
    rw [hN]
    apply J.seq
    apply J.seq
    refine J.regE (by simp; rfl) ?_
    simp
    apply J.block
    refine J.loop hc (I9 n l a c0) ?_ ?_
    · refine ⟨_, _, ?_, 0, List.replicate (bN n) false, by omega, ⟨by simp, fun v hv => by simp [List.getElem?_replicate, hv]⟩, rfl, rfl⟩
      apply le_sub <;> simp [s9]
    rintro n st ⟨i, x, hi, hM, rfl, rfl⟩
    unfold s9
    apply J.seq
    apply J.seq
    refine J.regE (by simp; rfl) ?_
    simp
    apply J.cond; simp
    refine ⟨fun hlt => ?_, fun hlt => ?_⟩
    ·
      have hw : IntKind.i64.wrap ((i : Int) + 1) = i + 1 := wrap_id (by omega) (by omega)
      have hci := ((hcm _).1 (List.getElem_mem hlt)).1
      have hxl : c0[i] < x.length := by rw [hM.1]; exact hci
      have g1 : ¬ ((c0[i] : Nat) : Int) < 0 := by omega
      have g2 : ¬ n ≤ ((c0[i] : Nat) : Int) := by omega
      apply J.skip; simp
      apply J.seq
      apply J.block
      apply J.seq
      apply J.seq
      rcases (show i = 0 ∨ ∃ j, i = j + 1 by cases i; exact .inl rfl; exact .inr ⟨_, rfl⟩) with hi0 | ⟨j, hi0⟩
      ·
        have hz1 : ¬ (0 : Int) < (i : Int) := by omega
        have hz2 : ¬ 0 < i := by omega
        apply J.draw; intro c' hc'
        iterate 29 refine runP_stepQ (by simp [hlt, g1, g2, hz1, hz2]; rfl) ?_
        simp [runP]
        apply J.cond; simp
        apply J.skip; simp
        refine J.regE (by simp [hlt, hxl, hci]; rfl) ?_
        simp
        refine J.regE (by simp [hw]; rfl) ?_
        simp
        refine ⟨_, by omega, _, ?_, i + 1, x.set c0[i] true, by omega, ⟨by simp [hM.1], fun v hv => ?_⟩, rfl, rfl⟩
        · apply le_sub <;> simp [s9]
        · rw [List.take_add_one, List.getElem?_eq_getElem hlt, List.mem_append]
          by_cases e : v = c0[i]
          · subst e; simp [hxl]
          · simp only [List.getD_eq_getElem?_getD, List.getElem?_set_ne (Ne.symm e)]
            have := hM.2 v hv
            simp only [List.getD_eq_getElem?_getD] at this
            rw [this]; simp [e]
      ·
        have hz1 : (0 : Int) < (i : Int) := by omega
        have hz2 : 0 < i := by omega
        have hjw : IntKind.i64.wrap ((i : Int) - 1) = j := by rw [wrap_id (by omega) (by omega)]; omega
        have hj1 : j < c0.length := by omega
        have hj2 : ¬ c0[i] ≤ c0[j] := by have := List.pairwise_iff_getElem.1 hcs j i hj1 hlt (by omega); omega
        apply J.draw; intro c' hc'
        iterate 29 refine runP_stepQ (by simp [hlt, g1, g2, hz1, hz2, hjw, hj1, hj2]; rfl) ?_
        simp [runP]
        apply J.cond; simp
        apply J.skip; simp
        refine J.regE (by simp [hlt, hxl, hci]; rfl) ?_
        simp
        refine J.regE (by simp [hw]; rfl) ?_
        simp
        refine ⟨_, by omega, _, ?_, i + 1, x.set c0[i] true, by omega, ⟨by simp [hM.1], fun v hv => ?_⟩, rfl, rfl⟩
        · apply le_sub <;> simp [s9]
        · rw [List.take_add_one, List.getElem?_eq_getElem hlt, List.mem_append]
          by_cases e : v = c0[i]
          · subst e; simp [hxl]
          · simp only [List.getD_eq_getElem?_getD, List.getElem?_set_ne (Ne.symm e)]
            have := hM.2 v hv
            simp only [List.getD_eq_getElem?_getD] at this
            rw [this]; simp [e]
    ·
      have : i = c0.length := by omega
      subst this
      have hxm : ∀ v, v < bN n → (x.getD v false = true ↔ v ∈ c0) := fun v hv => by have := hM.2 v hv; rwa [List.take_length] at this
      have hxl := hM.1
      apply J.exit; simp
      apply J.seq
      apply J.seq
      refine J.regE (by simp; rfl) ?_
      simp
      apply J.block
      refine J.loop hc (I9b n l a c0 x 11) ?_ ?_
      · refine ⟨_, _, ?_, 0, by simp, rfl, rfl⟩
        apply le_sub <;> simp [s9]
      rintro n st ⟨i, hi, rfl, rfl⟩
      simp only [if_pos] at hi
      unfold s9
      apply J.seq
      apply J.seq
      refine J.regE (by simp; rfl) ?_
      simp
      apply J.cond; simp
      refine ⟨fun hlt => ?_, fun hlt => ?_⟩
      ·
        have hw : IntKind.i64.wrap ((i : Int) + 1) = i + 1 := wrap_id (by omega) (by omega)
        obtain ⟨⟨p, q⟩, hpq⟩ : ∃ p, l[i] = p := ⟨_, rfl⟩
        have hx2 : x.getD p.toNat false = false ∨ x.getD p.toNat false = true := by cases x.getD p.toNat false <;> simp
        have hshut : ∀ u v : Nat, p = u → q = v → u < bN n → v < bN n → x.getD u false = true → x.getD v false = true := fun u v hp hq hu hv h => by
          subst hp; subst hq
          refine (hxm v hv).2 ((hcm v).2 ⟨hv, ?_⟩)
          exact rB_iff.2 ((rB_iff.1 ((hcm u).1 ((hxm u hu).1 h)).2).step ⟨hu, hv, hpq ▸ List.getElem_mem hlt⟩)
        have H : ¬ 0 ≤ p ∨ (0 ≤ p ∧ ¬ p < n) ∨ (0 ≤ p ∧ p < n ∧ ¬ 0 ≤ q) ∨ (0 ≤ p ∧ p < n ∧ 0 ≤ q ∧ ¬ q < n) ∨ (0 ≤ p ∧ p < n ∧ 0 ≤ q ∧ q < n ∧ x.getD p.toNat false = false) ∨ (0 ≤ p ∧ p < n ∧ 0 ≤ q ∧ q < n ∧ x.getD p.toNat false = true) := by
          by_cases a0 : 0 ≤ p
          · by_cases a1 : p < n
            · by_cases a2 : 0 ≤ q
              · by_cases a3 : q < n
                · rcases hx2 with h | h
                  · exact .inr (.inr (.inr (.inr (.inl ⟨a0, a1, a2, a3, h⟩))))
                  · exact .inr (.inr (.inr (.inr (.inr ⟨a0, a1, a2, a3, h⟩))))
                · exact .inr (.inr (.inr (.inl ⟨a0, a1, a2, a3⟩)))
              · exact .inr (.inr (.inl ⟨a0, a1, a2⟩))
            · exact .inr (.inl ⟨a0, a1⟩)
          · exact .inl a0
        apply J.skip; simp
        apply J.seq
        apply J.block
        apply J.seq
        refine J.regE (by simp [hlt, hpq]; rfl) ?_
        simp
        apply J.seq
        refine J.regE (by simp [hlt, hpq]; rfl) ?_
        simp
        apply J.seq
        rcases H with q0 | ⟨q0, q1⟩ | ⟨q0, q1, q2⟩ | ⟨q0, q1, q2, q3⟩ | ⟨q0, q1, q2, q3, q4⟩ | ⟨q0, q1, q2, q3, q4⟩
        ·
          apply J.reg
          iterate 29 refine runL_step rfl (by simp [q0]; rfl) ?_
          simp [runL]
          apply J.cond; simp
          apply J.skip; simp
          refine J.regE (by simp [hw]; rfl) ?_
          simp
          refine ⟨_, ?_, _, ?_, i + 1, by simp; omega, rfl, rfl⟩
          · simp; omega
          · apply le_sub <;> simp [s9]
        ·
          apply J.reg
          iterate 29 refine runL_step rfl (by simp [q0, q1]; rfl) ?_
          simp [runL]
          apply J.cond; simp
          apply J.skip; simp
          refine J.regE (by simp [hw]; rfl) ?_
          simp
          refine ⟨_, ?_, _, ?_, i + 1, by simp; omega, rfl, rfl⟩
          · simp; omega
          · apply le_sub <;> simp [s9]
        ·
          apply J.reg
          iterate 29 refine runL_step rfl (by simp [q0, q1, q2]; rfl) ?_
          simp [runL]
          apply J.cond; simp
          apply J.skip; simp
          refine J.regE (by simp [hw]; rfl) ?_
          simp
          refine ⟨_, ?_, _, ?_, i + 1, by simp; omega, rfl, rfl⟩
          · simp; omega
          · apply le_sub <;> simp [s9]
        ·
          apply J.reg
          iterate 29 refine runL_step rfl (by simp [q0, q1, q2, q3]; rfl) ?_
          simp [runL]
          apply J.cond; simp
          apply J.skip; simp
          refine J.regE (by simp [hw]; rfl) ?_
          simp
          refine ⟨_, ?_, _, ?_, i + 1, by simp; omega, rfl, rfl⟩
          · simp; omega
          · apply le_sub <;> simp [s9]
        ·
          obtain ⟨u, rfl⟩ := Int.eq_ofNat_of_zero_le q0
          obtain ⟨v, rfl⟩ := Int.eq_ofNat_of_zero_le q2
          have hu : u < bN n := by omega
          have hul : u < x.length := by omega
          have hxu : x[u] = false := by simpa [hul] using q4
          apply J.reg
          iterate 29 refine runL_step rfl (by simp [q1, q3, hu, hul, hxu]; rfl) ?_
          simp [runL]
          apply J.cond; simp
          apply J.skip; simp
          refine J.regE (by simp [hw]; rfl) ?_
          simp
          refine ⟨_, ?_, _, ?_, i + 1, by simp; omega, rfl, rfl⟩
          · simp; omega
          · apply le_sub <;> simp [s9]
        ·
          obtain ⟨u, rfl⟩ := Int.eq_ofNat_of_zero_le q0
          obtain ⟨v, rfl⟩ := Int.eq_ofNat_of_zero_le q2
          have hu : u < bN n := by omega
          have hul : u < x.length := by omega
          have hv : v < bN n := by omega
          have hvl : v < x.length := by omega
          have hxu : x[u] = true := by simpa [hul] using q4
          have hxv : x[v] = true := by have := hshut u v rfl rfl hu hv (by simpa using q4); simpa [hvl] using this
          apply J.reg
          iterate 29 refine runL_step rfl (by simp [q1, q3, hu, hul, hxu, hv, hvl, hxv]; rfl) ?_
          simp [runL]
          apply J.cond; simp
          apply J.skip; simp
          refine J.regE (by simp [hw]; rfl) ?_
          simp
          refine ⟨_, ?_, _, ?_, i + 1, by simp; omega, rfl, rfl⟩
          · simp; omega
          · apply le_sub <;> simp [s9]
      ·
        have : i = l.length := by omega
        subst this
        apply J.exit; simp
        apply J.seq
        apply J.seq
        refine J.regE (by simp; rfl) ?_
        simp
        apply J.block
        refine J.loop hc (I9b n l a c0 x 14) ?_ ?_
        · refine ⟨_, _, ?_, 0, by simp, rfl, rfl⟩
          apply le_sub <;> simp [s9]
        rintro n st ⟨i, hi, rfl, rfl⟩
        simp at hi
        unfold s9
        apply J.seq
        apply J.seq
        refine J.regE (by simp; rfl) ?_
        simp
        apply J.cond; simp
        refine ⟨fun hlt => ?_, fun hlt => ?_⟩
        ·
          have hw : IntKind.i64.wrap ((i : Int) + 1) = i + 1 := wrap_id (by omega) (by omega)
          have hle := hsub _ (List.getElem_mem hlt)
          have hle2 : ¬ c0.length < (clos n l (c0[i] : Int)).length := by omega
          apply J.skip; simp
          apply J.seq
          apply J.block
          apply J.seq
          apply J.reg
          iterate 6 refine runL_step rfl (by simp [hlt]; rfl) ?_
          refine runL_tree rfl (d15 n l c0[i] (by omega)) (by simp) hc ?_
          simp
          refine runL_step rfl (by simp [hlt]; rfl) ?_
          simp [runL]
          apply J.seq
          apply J.reg
          iterate 2 refine runL_step rfl (by simp; rfl) ?_
          refine runL_tree rfl (d14 c0 (clos n l c0[i]) (by omega)) (by simp) hc ?_
          simp
          refine runL_step rfl (by simp; rfl) ?_
          simp [runL]
          apply J.seq
          by_cases hca : c0[i] = a
          ·
            have hca2 : ((c0[i] : Nat) : Int) = a := by omega
            apply J.reg
            iterate 17 refine runL_step rfl (by simp [hlt, hca2, hcc, hle2]; rfl) ?_
            simp [runL]
            apply J.cond; simp
            apply J.skip; simp
            refine J.regE (by simp [hw]; rfl) ?_
            simp
            refine ⟨_, ?_, _, ?_, i + 1, by simp; omega, rfl, rfl⟩
            · simp; omega
            · apply le_sub <;> simp [s9]
          ·
            have hca2 : ¬ ((c0[i] : Nat) : Int) = a := by omega
            apply J.reg
            iterate 17 refine runL_step rfl (by simp [hlt, hca2, hle2]; rfl) ?_
            simp [runL]
            apply J.cond; simp
            apply J.skip; simp
            refine J.regE (by simp [hw]; rfl) ?_
            simp
            refine ⟨_, ?_, _, ?_, i + 1, by simp; omega, rfl, rfl⟩
            · simp; omega
            · apply le_sub <;> simp [s9]
        ·
          have : i = c0.length := by omega
          subst this
          have hxl2 : a < x.length := by omega
          have hxa : x[a] = true := by have := (hxm a ha).2 ((hcm a).2 ⟨ha, rB_refl n l a⟩); simpa [hxl2] using this
          apply J.exit; simp
          apply J.seq
          refine J.regE (by simp [ha, hxl2, hxa]; rfl) ?_
          simp
          apply J.ret
          refine ⟨by simp, rfl, _, [], by simp [a9R]; rfl, ?_⟩
          simp

end Go.Proofs.Ythccfgkklimebaa.F
