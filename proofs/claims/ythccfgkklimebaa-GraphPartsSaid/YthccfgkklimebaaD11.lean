/- Chapter 11: GraphParts, out of what it calls. Printed by walk.py from g11.walk.py. -/
import Derived.Test.YthccfgkklimebaaD10
import Derived.Test.YthccfgkklimebaaD7
set_option linter.unusedVariables false
set_option linter.unusedSimpArgs false
namespace Go.Proofs.Ythccfgkklimebaa.F
open Go Go.SX
theorem run_small {N : Nat} {R : Nat → Nat → Bool} : ∀ (f : Nat) (tl : List Bool), (run N R f tl).length ≤ f ∧ ∀ r ∈ run N R f tl, r.length ≤ N
  | 0, _ => by simp [run]
  | f + 1, tl => by
    simp only [run]
    cases hp : pick N R tl with
    | none => simp
    | some k =>
      obtain ⟨h1, h2⟩ := run_small f (mark N R tl k)
      refine ⟨by simpa using h1, fun r hr => ?_⟩
      rcases List.mem_cons.1 hr with rfl | hr
      · exact Nat.le_trans (List.length_filter_le _ _) (by simp)
      · exact h2 r hr
theorem compsL_small (n : Int) (l : List (Int × Int)) : (compsL n l).length ≤ 100 ∧ ∀ r ∈ compsL n l, r.length ≤ 100 := by
  have hN := bN_le n
  obtain ⟨h1, h2⟩ := run_small (N := bN n) (R := rB n l) (unset (List.replicate (bN n) false)) (List.replicate (bN n) false)
  have : unset (List.replicate (bN n) false) ≤ bN n := by simp [unset]
  exact ⟨Nat.le_trans h1 (by omega), fun r hr => Nat.le_trans (h2 r hr) hN⟩

theorem c3 : chkFn Try.prog 3 28 2 a3 a3R = true := by kernel_rfl
/-- colloquy/colloquylaw11.GraphParts -/
theorem d3 (n : Int) (l : List (Int × Int)) : DoesT 3 [iv n, .ro 2 (eds l)] (bv true) := by
  refine Does.of (nt := 28) (ac := a3) (rds := a3R) c3 (fun c hc => ?_)
  unfold a3
  apply J.seq
  refine J.regE (by simp; rfl) ?_
  simp
  apply J.seq
  apply J.reg
  refine runL_tree rfl (d10) (by simp) hc ?_
  simp
  refine runL_step rfl (by simp; rfl) ?_
  simp [runL]
  apply J.seq
  apply J.seq
  rcases (show 30 < n ∨ (¬ 30 < n ∧ (300 : Int) < l.length) ∨ (¬ 30 < n ∧ ¬ (300 : Int) < l.length) by omega) with h1 | ⟨h1, h2⟩ | ⟨h1, h2⟩
  ·
    apply J.reg
    iterate 11 refine runL_step rfl (by simp [h1]; rfl) ?_
    simp [runL]
    apply J.cond; simp
    apply J.seq
    refine J.regE (by simp; rfl) ?_
    simp
    apply J.ret
    refine ⟨by simp, rfl, _, [], by simp [a3R]; rfl, ?_⟩
    simp
  ·
    apply J.reg
    iterate 11 refine runL_step rfl (by simp [h1, h2]; rfl) ?_
    simp [runL]
    apply J.cond; simp
    apply J.seq
    refine J.regE (by simp; rfl) ?_
    simp
    apply J.ret
    refine ⟨by simp, rfl, _, [], by simp [a3R]; rfl, ?_⟩
    simp
  ·
    apply J.reg
    iterate 11 refine runL_step rfl (by simp [h1, h2]; rfl) ?_
    simp [runL]
    apply J.cond; simp
    apply J.skip; simp
    apply J.seq
    apply J.reg
    iterate 2 refine runL_step rfl (by simp; rfl) ?_
    refine runL_tree rfl (d12 n l (by omega)) (by simp) hc ?_
    simp
    iterate 2 refine runL_step rfl (by simp; rfl) ?_
    refine runL_tree rfl (d13 n l (by omega)) (by simp) hc ?_
    simp
    refine runL_tree rfl (d11 (compsL n l) (compsL n l) (by have := (compsL_small n l).1; omega) (fun r hr => by have := (compsL_small n l).2 r hr; omega)) (by simp) hc ?_
    simp
    refine runL_step rfl (by simp; rfl) ?_
    simp [runL]
    apply J.seq
    refine J.regE (by simp; rfl) ?_
    simp
    apply J.ret
    refine ⟨by simp, rfl, _, [], by simp [a3R]; rfl, ?_⟩
    simp

end Go.Proofs.Ythccfgkklimebaa.F
