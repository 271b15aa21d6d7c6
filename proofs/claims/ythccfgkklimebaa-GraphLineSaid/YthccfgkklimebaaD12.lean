/- Chapter 11: GraphReaches, GraphReach, GraphTwice. Printed by walk.py from g12.walk.py. -/
import Derived.Test.YthccfgkklimebaaD10
import Derived.Test.YthccfgkklimebaaPL
import Derived.Test.YthccfgkklimebaaCodeB
set_option linter.unusedVariables false
set_option linter.unusedSimpArgs false
namespace Go.Proofs.Ythccfgkklimebaa.F
open Go Go.SX

theorem isT_own {n a : Int} (h0 : 0 ≤ n) (h1 : n ≤ 100) : isT n a = (decide (0 ≤ a) && decide (a < n)) := by
  have : ((bN n : Nat) : Int) = n := by unfold bN; split; omega; split <;> omega
  simp [isT, this]
theorem reB_self (n : Int) (l : List (Int × Int)) (a : Int) : reB n l a a = isT n a := by
  unfold reB; rw [rB_refl]; cases isT n a <;> rfl
theorem reB_trans {n : Int} {l : List (Int × Int)} {a b c : Int} (h1 : reB n l a b = true) (h2 : reB n l b c = true) : reB n l a c = true := by
  simp only [reB, Bool.and_eq_true] at h1 h2 ⊢
  exact ⟨h1.1, h2.2.1, rB_trans n l _ _ _ h1.2.2 h2.2.2⟩
theorem reB_mono {n : Int} {l m : List (Int × Int)} {a b : Int} (h : ∀ e ∈ l, e ∈ m) (h1 : reB n l a b = true) : reB n m a b = true := by
  simp only [reB, Bool.and_eq_true] at h1 ⊢
  exact ⟨h1.1, h1.2.1, rB_iff.2 (reach_mono h (rB_iff.1 h1.2.2))⟩

/-- The edges, each twice, the last ones first, too. -/
def twice (l : List (Int × Int)) : Nat → List (Int × Int)
  | 0 => []
  | i + 1 => twice l i ++ [l.getD (l.length - 1 - i) (0, 0), l.getD i (0, 0)]
theorem twice_mem (l : List (Int × Int)) : ∀ (i : Nat), i ≤ l.length → ∀ e ∈ twice l i, e ∈ l
  | 0, _, e, h => by simp [twice] at h
  | i + 1, hi, e, h => by
    simp only [twice, List.mem_append, List.mem_cons, List.not_mem_nil, or_false] at h
    rcases h with h | h | h
    · exact twice_mem l i (by omega) e h
    · have h1 : l.length - 1 - i < l.length := by omega
      rw [h, List.getD_eq_getElem?_getD, List.getElem?_eq_getElem h1]; exact List.getElem_mem h1
    · have h1 : i < l.length := by omega
      rw [h, List.getD_eq_getElem?_getD, List.getElem?_eq_getElem h1]; exact List.getElem_mem h1
theorem twice_has (l : List (Int × Int)) : ∀ (i : Nat), i ≤ l.length → ∀ k (h : k < l.length), k < i → l[k] ∈ twice l i
  | 0, _, k, _, hk => by omega
  | i + 1, hi, k, h, hk => by
    simp only [twice, List.mem_append, List.mem_cons, List.not_mem_nil, or_false]
    by_cases e : k = i
    · subst e; right; right; simp [h]
    · left; exact twice_has l i (by omega) k h (by omega)
theorem twice_length (l : List (Int × Int)) : ∀ i, (twice l i).length = 2 * i
  | 0 => rfl
  | i + 1 => by simp [twice, twice_length l i]; omega
def m7 (far : Int) (l : List (Int × Int)) (i : Nat) : List (Int × Int) := [(far, 0), (0, far), (-1, 0)] ++ twice l i
theorem m7_length (far : Int) (l : List (Int × Int)) (i : Nat) : (m7 far l i).length = 3 + 2 * i := by simp [m7, twice_length]; omega
theorem m7_comps {n far : Int} {l : List (Int × Int)} (h0 : 0 ≤ n) (h1 : n ≤ 30) (hf : n ≤ far) : compsL n (m7 far l l.length) = compsL n l := by
  unfold compsL
  have hb : ((bN n : Nat) : Int) = n := by unfold bN; split; omega; split <;> omega
  rw [eN_ext (l := m7 far l l.length) (m := l)]
  intro a b ha hb2
  simp only [m7, List.mem_append, List.mem_cons, List.not_mem_nil, or_false]
  constructor
  · rintro ((h | h | h) | h)
    · injection h with h _; omega
    · injection h with _ h; omega
    · injection h with h _; omega
    · exact twice_mem l _ (Nat.le_refl _) _ h
  · intro h
    obtain ⟨k, hk, e⟩ := List.mem_iff_getElem.1 h
    right
    rw [← e]
    exact twice_has l _ (Nat.le_refl _) k hk hk
def I7 (n far : Int) (l : List (Int × Int)) (m : Nat) (st : St) : Prop := ∃ i : Nat, i ≤ l.length ∧ m = l.length - i ∧ st = ⟨[(0, iv n), (1, .ro 2 (eds l)), (8, .own 7038 2 0 (m7 far l i).length), (9, iv i)], [(7038, .arr 33 2 (eds (m7 far l i)))], []⟩

theorem c4 : chkFn Try.prog 4 43 4 a4 a4R = true := by kernel_rfl
/-- colloquy/colloquylaw11.GraphReaches -/
theorem d4 (n : Int) (l : List (Int × Int)) (a b : Int) : DoesT 4 [iv n, .ro 2 (eds l), iv a, iv b] (bv true) := by
  refine Does.of (nt := 43) (ac := a4) (rds := a4R) c4 (fun c hc => ?_)
  unfold a4
  apply J.seq
  refine J.regE (by simp; rfl) ?_
  simp
  apply J.seq
  apply J.reg
  refine runL_tree rfl (d10) (by simp) hc ?_
  simp
  refine runL_step rfl (by simp; rfl) ?_
  simp [runL]
  apply J.seq
  apply J.seq
  rcases (show (((300 : Int) < l.length)) ∨ (¬ ((300 : Int) < l.length)) by omega) with q0 | ⟨q0⟩
  ·
    apply J.reg
    iterate 7 refine runL_step rfl (by simp [q0]; rfl) ?_
    simp [runL]
    apply J.cond; simp
    apply J.seq
    refine J.regE (by simp; rfl) ?_
    simp
    apply J.ret
    refine ⟨by simp, rfl, _, [], by simp [a4R]; rfl, ?_⟩
    simp
  ·
    apply J.reg
    iterate 7 refine runL_step rfl (by simp [q0]; rfl) ?_
    simp [runL]
    apply J.cond; simp
    apply J.skip; simp
    apply J.seq
    apply J.reg
    iterate 3 refine runL_step rfl (by simp; rfl) ?_
    refine runL_tree rfl (d15 n l a (by omega)) (by simp) hc ?_
    simp
    iterate 3 refine runL_step rfl (by simp; rfl) ?_
    refine runL_tree rfl (d16 n l a (by omega)) (by simp) hc ?_
    simp
    refine runL_tree rfl (d14 (clos n l a) (clos n l a) (by have := clos_length n l a; omega)) (by simp) hc ?_
    simp
    refine runL_step rfl (by simp; rfl) ?_
    simp [runL]
    apply J.seq
    apply J.reg
    iterate 6 refine runL_step rfl (by simp; rfl) ?_
    refine runL_do (by simp) ?_
    refine runL_tree rfl (d17 n l a b (by omega)) (by simp) hc ?_
    simp
    iterate 4 refine runL_step rfl (by simp; rfl) ?_
    refine runL_do (by simp) ?_
    refine runL_tree rfl (d18 n l a b (by omega)) (by simp) hc ?_
    simp
    iterate 3 refine runL_step rfl (by simp; rfl) ?_
    simp [runL]
    apply J.ret
    refine ⟨by simp, rfl, _, [], by simp [a4R]; rfl, ?_⟩
    simp

theorem c6 : chkFn Try.prog 6 90 6 a6 a6R = true := by kernel_rfl
/-- colloquy/colloquylaw11.GraphReach -/
theorem d6 (n : Int) (l : List (Int × Int)) (a b d : Int) (e : Int × Int) : DoesT 6 [iv n, .ro 2 (eds l), iv a, iv b, iv d, .agg [iv e.1, iv e.2]] (bv true) := by
  refine Does.of (nt := 90) (ac := a6) (rds := a6R) c6 (fun c hc => ?_)
  unfold a6
  apply J.seq
  refine J.regE (by simp; rfl) ?_
  simp
  apply J.seq
  apply J.reg
  refine runL_tree rfl (d10) (by simp) hc ?_
  simp
  refine runL_step rfl (by simp; rfl) ?_
  simp [runL]
  apply J.seq
  apply J.seq
  rcases (show ((n < 0)) ∨ (¬ (n < 0) ∧ (100 < n)) ∨ (¬ (n < 0) ∧ ¬ (100 < n) ∧ ((300 : Int) < l.length)) ∨ (¬ (n < 0) ∧ ¬ (100 < n) ∧ ¬ ((300 : Int) < l.length)) by omega) with q0 | ⟨q0, q1⟩ | ⟨q0, q1, q2⟩ | ⟨q0, q1, q2⟩
  ·
    apply J.reg
    iterate 15 refine runL_step rfl (by simp [q0]; rfl) ?_
    simp [runL]
    apply J.cond; simp
    apply J.seq
    refine J.regE (by simp; rfl) ?_
    simp
    apply J.ret
    refine ⟨by simp, rfl, _, [], by simp [a6R]; rfl, ?_⟩
    simp
  ·
    apply J.reg
    iterate 15 refine runL_step rfl (by simp [q0, q1]; rfl) ?_
    simp [runL]
    apply J.cond; simp
    apply J.seq
    refine J.regE (by simp; rfl) ?_
    simp
    apply J.ret
    refine ⟨by simp, rfl, _, [], by simp [a6R]; rfl, ?_⟩
    simp
  ·
    apply J.reg
    iterate 15 refine runL_step rfl (by simp [q0, q1, q2]; rfl) ?_
    simp [runL]
    apply J.cond; simp
    apply J.seq
    refine J.regE (by simp; rfl) ?_
    simp
    apply J.ret
    refine ⟨by simp, rfl, _, [], by simp [a6R]; rfl, ?_⟩
    simp
  ·
    apply J.reg
    iterate 15 refine runL_step rfl (by simp [q0, q1, q2]; rfl) ?_
    simp [runL]
    apply J.cond; simp
    apply J.skip; simp
    apply J.seq
    apply J.reg
    iterate 4 refine runL_step rfl (by simp; rfl) ?_
    refine runL_tree rfl (d17 n l a b (by omega)) (by simp) hc ?_
    simp
    refine runL_step rfl (by simp; rfl) ?_
    simp [runL]
    apply J.seq
    apply J.reg
    iterate 4 refine runL_step rfl (by simp; rfl) ?_
    refine runL_tree rfl (d17 n l b d (by omega)) (by simp) hc ?_
    simp
    refine runL_step rfl (by simp; rfl) ?_
    simp [runL]
    apply J.seq
    refine J.regJ ⟨[(0, iv n), (1, .ro 2 (eds l)), (2, iv a), (3, iv b), (4, iv d), (11, .ptr 6011 0 0 0), (14, bv (reB n l a b)), (15, bv (reB n l b d)), (16, bv (isT n a))], [(6011, .obj 33 [iv e.1, iv e.2])], []⟩ ?_ ?_
    · rw [isT_own (n := n) (a := a) (by omega) (by omega)]; by_cases h1 : 0 ≤ a <;> by_cases h2 : a < n <;> (apply Exists.intro; apply And.intro; (iterate 8 refine evalL_step rfl (by simp [h1, h2]; rfl) ?_); rfl; simp [h1, h2])
    simp [thenQ, blockQ, loopQ, scopeQ]
    apply J.seq
    apply J.draw; intro c' hc'
    iterate 2 refine runP_stepQ (by simp; rfl) ?_
    have hlb : l.length * 16 ≤ 140737488355328 := by omega
    have hlb2 : (l.length + 1) * 16 ≤ 140737488355328 := by omega
    refine runP_alt rfl rfl (by simp [hlb]; rfl) ?_ (.inr (runP_alt rfl rfl (by simp [hlb]; rfl) ?_ (.inl rfl)))
    · refine runP_one rfl rfl (by simp; rfl) ?_
      refine runP_one rfl rfl (by simp [hlb2, List.take_of_length_le]; rfl) ?_
      refine runP_stepQ (by simp; rfl) ?_
      simp [runP]
      refine J.freeze hc 6053 rfl ?_
      simp [List.take_of_length_le]
      have hmono : reB n l a b = true → reB n (l ++ [(e.1, e.2)]) a b = true := reB_mono (fun x hx => by simp [hx])
      cases hx : reB n l a b
      · apply J.seq
        apply J.reg
        iterate 11 refine runL_step rfl (by simp [hx]; rfl) ?_
        refine runL_pass rfl (by decide) ?_
        simp
        iterate 6 refine runL_step rfl (by simp [hx]; rfl) ?_
        refine runL_do (by simp) ?_
        refine runL_tree rfl (d17 n l a a (by omega)) (by simp) hc ?_
        simp [reB_self]
        iterate 11 refine runL_step rfl (by simp [hx]; rfl) ?_
        refine runL_pass rfl (by decide) ?_
        simp
        iterate 3 refine runL_step rfl (by simp [hx]; rfl) ?_
        simp [runL]
        apply J.ret
        refine ⟨by simp, rfl, _, [], by simp [a6R]; rfl, ?_⟩
        simp
      · have hm := hmono hx
        cases hy : reB n l b d
        · apply J.seq
          apply J.reg
          iterate 11 refine runL_step rfl (by simp [hx, hy, hm]; rfl) ?_
          refine runL_pass rfl (by decide) ?_
          simp
          iterate 6 refine runL_step rfl (by simp [hx, hy, hm]; rfl) ?_
          refine runL_do (by simp) ?_
          refine runL_tree rfl (d17 n l a a (by omega)) (by simp) hc ?_
          simp [reB_self]
          iterate 11 refine runL_step rfl (by simp [hx, hy, hm]; rfl) ?_
          refine runL_do (by simp) ?_
          refine runL_tree rfl (d17 n (l ++ [(e.1, e.2)]) a b (by simp; omega)) (by simp) hc ?_
          simp [hx, hy, hm]
          iterate 3 refine runL_step rfl (by simp [hx, hy, hm]; rfl) ?_
          simp [runL]
          apply J.ret
          refine ⟨by simp, rfl, _, [], by simp [a6R]; rfl, ?_⟩
          simp
        · have hz := reB_trans hx hy
          apply J.seq
          apply J.reg
          iterate 11 refine runL_step rfl (by simp [hx, hy, hm, hz]; rfl) ?_
          refine runL_do (by simp) ?_
          refine runL_tree rfl (d17 n l a d (by omega)) (by simp) hc ?_
          simp [hx, hy, hm, hz]
          iterate 6 refine runL_step rfl (by simp [hx, hy, hm, hz]; rfl) ?_
          refine runL_do (by simp) ?_
          refine runL_tree rfl (d17 n l a a (by omega)) (by simp) hc ?_
          simp [reB_self]
          iterate 11 refine runL_step rfl (by simp [hx, hy, hm, hz]; rfl) ?_
          refine runL_do (by simp) ?_
          refine runL_tree rfl (d17 n (l ++ [(e.1, e.2)]) a b (by simp; omega)) (by simp) hc ?_
          simp [hx, hy, hm, hz]
          iterate 3 refine runL_step rfl (by simp [hx, hy, hm, hz]; rfl) ?_
          simp [runL]
          apply J.ret
          refine ⟨by simp, rfl, _, [], by simp [a6R]; rfl, ?_⟩
          simp
    · refine runP_one rfl rfl (by simp [hlb]; rfl) ?_
      refine runP_one rfl rfl (by simp [hlb2, List.take_of_length_le]; rfl) ?_
      refine runP_stepQ (by simp; rfl) ?_
      simp [runP]
      refine J.freeze hc 6053 rfl ?_
      simp [List.take_of_length_le]
      have hmono : reB n l a b = true → reB n (l ++ [(e.1, e.2)]) a b = true := reB_mono (fun x hx => by simp [hx])
      cases hx : reB n l a b
      · apply J.seq
        apply J.reg
        iterate 11 refine runL_step rfl (by simp [hx]; rfl) ?_
        refine runL_pass rfl (by decide) ?_
        simp
        iterate 6 refine runL_step rfl (by simp [hx]; rfl) ?_
        refine runL_do (by simp) ?_
        refine runL_tree rfl (d17 n l a a (by omega)) (by simp) hc ?_
        simp [reB_self]
        iterate 11 refine runL_step rfl (by simp [hx]; rfl) ?_
        refine runL_pass rfl (by decide) ?_
        simp
        iterate 3 refine runL_step rfl (by simp [hx]; rfl) ?_
        simp [runL]
        apply J.ret
        refine ⟨by simp, rfl, _, [], by simp [a6R]; rfl, ?_⟩
        simp
      · have hm := hmono hx
        cases hy : reB n l b d
        · apply J.seq
          apply J.reg
          iterate 11 refine runL_step rfl (by simp [hx, hy, hm]; rfl) ?_
          refine runL_pass rfl (by decide) ?_
          simp
          iterate 6 refine runL_step rfl (by simp [hx, hy, hm]; rfl) ?_
          refine runL_do (by simp) ?_
          refine runL_tree rfl (d17 n l a a (by omega)) (by simp) hc ?_
          simp [reB_self]
          iterate 11 refine runL_step rfl (by simp [hx, hy, hm]; rfl) ?_
          refine runL_do (by simp) ?_
          refine runL_tree rfl (d17 n (l ++ [(e.1, e.2)]) a b (by simp; omega)) (by simp) hc ?_
          simp [hx, hy, hm]
          iterate 3 refine runL_step rfl (by simp [hx, hy, hm]; rfl) ?_
          simp [runL]
          apply J.ret
          refine ⟨by simp, rfl, _, [], by simp [a6R]; rfl, ?_⟩
          simp
        · have hz := reB_trans hx hy
          apply J.seq
          apply J.reg
          iterate 11 refine runL_step rfl (by simp [hx, hy, hm, hz]; rfl) ?_
          refine runL_do (by simp) ?_
          refine runL_tree rfl (d17 n l a d (by omega)) (by simp) hc ?_
          simp [hx, hy, hm, hz]
          iterate 6 refine runL_step rfl (by simp [hx, hy, hm, hz]; rfl) ?_
          refine runL_do (by simp) ?_
          refine runL_tree rfl (d17 n l a a (by omega)) (by simp) hc ?_
          simp [reB_self]
          iterate 11 refine runL_step rfl (by simp [hx, hy, hm, hz]; rfl) ?_
          refine runL_do (by simp) ?_
          refine runL_tree rfl (d17 n (l ++ [(e.1, e.2)]) a b (by simp; omega)) (by simp) hc ?_
          simp [hx, hy, hm, hz]
          iterate 3 refine runL_step rfl (by simp [hx, hy, hm, hz]; rfl) ?_
          simp [runL]
          apply J.ret
          refine ⟨by simp, rfl, _, [], by simp [a6R]; rfl, ?_⟩
          simp

theorem c7 : chkFn Try.prog 7 68 3 a7 a7R = true := by kernel_rfl
/-- colloquy/colloquylaw11.GraphTwice -/
theorem d7 (n : Int) (l : List (Int × Int)) (far : Int) : DoesT 7 [iv n, .ro 2 (eds l), iv far] (bv true) := by
  refine Does.of (nt := 68) (ac := a7) (rds := a7R) c7 (fun c hc => ?_)
  unfold a7
  apply J.seq
  refine J.regE (by simp; rfl) ?_
  simp
  apply J.seq
  apply J.reg
  refine runL_tree rfl (d10) (by simp) hc ?_
  simp
  refine runL_step rfl (by simp; rfl) ?_
  simp [runL]
  apply J.seq
  apply J.seq
  rcases (show ((n < 0)) ∨ (¬ (n < 0) ∧ (30 < n)) ∨ (¬ (n < 0) ∧ ¬ (30 < n) ∧ ((100 : Int) < l.length)) ∨ (¬ (n < 0) ∧ ¬ (30 < n) ∧ ¬ ((100 : Int) < l.length) ∧ (far < n)) ∨ (¬ (n < 0) ∧ ¬ (30 < n) ∧ ¬ ((100 : Int) < l.length) ∧ ¬ (far < n)) by omega) with q0 | ⟨q0, q1⟩ | ⟨q0, q1, q2⟩ | ⟨q0, q1, q2, q3⟩ | ⟨q0, q1, q2, q3⟩
  ·
    apply J.reg
    iterate 20 refine runL_step rfl (by simp [q0]; rfl) ?_
    simp [runL]
    apply J.cond; simp
    apply J.seq
    refine J.regE (by simp; rfl) ?_
    simp
    apply J.ret
    refine ⟨by simp, rfl, _, [], by simp [a7R]; rfl, ?_⟩
    simp
  ·
    apply J.reg
    iterate 20 refine runL_step rfl (by simp [q0, q1]; rfl) ?_
    simp [runL]
    apply J.cond; simp
    apply J.seq
    refine J.regE (by simp; rfl) ?_
    simp
    apply J.ret
    refine ⟨by simp, rfl, _, [], by simp [a7R]; rfl, ?_⟩
    simp
  ·
    apply J.reg
    iterate 20 refine runL_step rfl (by simp [q0, q1, q2]; rfl) ?_
    simp [runL]
    apply J.cond; simp
    apply J.seq
    refine J.regE (by simp; rfl) ?_
    simp
    apply J.ret
    refine ⟨by simp, rfl, _, [], by simp [a7R]; rfl, ?_⟩
    simp
  ·
    apply J.reg
    iterate 20 refine runL_step rfl (by simp [q0, q1, q2, q3]; rfl) ?_
    simp [runL]
    apply J.cond; simp
    apply J.seq
    refine J.regE (by simp; rfl) ?_
    simp
    apply J.ret
    refine ⟨by simp, rfl, _, [], by simp [a7R]; rfl, ?_⟩
    simp
  ·
    apply J.reg
    iterate 20 refine runL_step rfl (by simp [q0, q1, q2, q3]; rfl) ?_
    simp [runL]
    apply J.cond; simp
    apply J.skip; simp
    apply J.seq
    refine J.regE (by simp; rfl) ?_
    simp
    apply J.seq
    apply J.seq
    refine J.regE (by simp; rfl) ?_
    simp
    apply J.block
    refine J.loop hc (I7 n far l) ?_ ?_
    · refine ⟨_, _, ?_, 0, by omega, rfl, rfl⟩
      apply le_sub <;> simp [m7, twice, eds]
    rintro n st ⟨i, hi, rfl, rfl⟩
    apply J.seq
    apply J.seq
    refine J.regE (by simp; rfl) ?_
    simp
    apply J.cond; simp
    refine ⟨fun hlt => ?_, fun hlt => ?_⟩
    ·
      have hw : IntKind.i64.wrap ((i : Int) + 1) = i + 1 := wrap_id (by omega) (by omega)
      have h2 : l.length - 1 - i < l.length := by omega
      have w1 : IntKind.i64.wrap ((l.length : Int) - 1) = ((l.length - 1 : Nat) : Int) := by rw [wrap_id (by omega) (by omega)]; omega
      have w2 : IntKind.i64.wrap (((l.length - 1 : Nat) : Int) - i) = ((l.length - 1 - i : Nat) : Int) := by rw [wrap_id (by omega) (by omega)]; omega
      have hml := m7_length far l i
      apply J.skip; simp
      apply J.seq
      apply J.block
      apply J.draw; intro c' hc'
      iterate 13 refine runP_stepQ (by simp [hlt, h2, w1, w2]; rfl) ?_
      refine runP_one rfl rfl (by simp; rfl) ?_
      refine runP_one rfl rfl (by simp [List.take_of_length_le, show ((m7 far l i).length + 2) * 16 ≤ 140737488355328 from by omega]; rfl) ?_
      refine runP_stepQ (by simp; rfl) ?_
      simp [runP]
      refine J.regE (by simp [hw]; rfl) ?_
      simp
      have hs : m7 far l (i + 1) = m7 far l i ++ [l[l.length - 1 - i], l[i]] := by simp [m7, twice, h2, hlt]
      refine ⟨_, by omega, _, ?_, i + 1, by omega, rfl, rfl⟩
      apply le_sub <;> simp [hs, eds]
    ·
      have : i = l.length := by omega
      subst this
      have hml := m7_length far l l.length
      apply J.exit; simp
      apply J.seq
      apply J.reg
      iterate 2 refine runL_step rfl (by simp; rfl) ?_
      refine runL_tree rfl (d12 n l (by omega)) (by simp) hc ?_
      simp
      iterate 2 refine runL_step rfl (by simp; rfl) ?_
      refine runL_freeze hc 7038 rfl ?_
      simp [List.take_of_length_le]
      refine runL_tree rfl (d12 n (m7 far l l.length) (by omega)) (by simp) hc ?_
      rw [m7_comps (by omega) (by omega) (by omega)]
      simp
      refine runL_tree rfl (d11 (compsL n l) (compsL n l) (by have := (compsL_small n l).1; omega) (fun r hr => by have := (compsL_small n l).2 r hr; omega)) (by simp) hc ?_
      simp
      refine runL_step rfl (by simp; rfl) ?_
      simp [runL]
      apply J.seq
      refine J.regE (by simp; rfl) ?_
      simp
      apply J.ret
      refine ⟨by simp, rfl, _, [], by simp [a7R]; rfl, ?_⟩
      simp

end Go.Proofs.Ythccfgkklimebaa.F
