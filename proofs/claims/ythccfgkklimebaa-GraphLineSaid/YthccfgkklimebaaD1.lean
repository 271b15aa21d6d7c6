/- Chapter 11: the document's functions and the closure. Printed by walk.py from g1.walk.py. -/
import Derived.Test.YthccfgkklimebaaSxP
import Derived.Test.YthccfgkklimebaaCode
import Derived.Test.YthccfgkklimebaaCodeB
import Derived.Test.YthccfgkklimebaaProg
import Derived.KernelRfl
set_option linter.unusedVariables false
set_option linter.unusedSimpArgs false
namespace Go.Proofs.Ythccfgkklimebaa.F
open Go Go.SX

/-- What a function answers, taking trees. -/
abbrev DoesT (f : Nat) (args : List AV) (r : AV) : Prop := Does Try.prog f args [] [] (fun r' m => m = [] ∧ r' = r)

/-- How many things there are. -/
def bN (n : Int) : Nat := if n < 0 then 0 else if 100 < n then 100 else n.toNat
theorem bN_le (n : Int) : bN n ≤ 100 := by unfold bN; split; omega; split <;> omega
def isT (n i : Int) : Bool := decide (0 ≤ i) && decide (i < (bN n : Int))
theorem isT_iff (n i : Int) : isT n i = true ↔ 0 ≤ i ∧ i < (bN n : Int) := by simp [isT]

theorem c23 : chkFn Try.prog 23 8 1 a23 a23R = true := by kernel_rfl
/-- colloquy/colloquyref11.Bound -/
theorem d23 (n : Int) : DoesT 23 [iv n] (iv (bN n : Nat)) := by
  refine Does.of (nt := 8) (ac := a23) (rds := a23R) c23 (fun c hc => ?_)
  unfold a23
  apply J.seq
  refine J.regE (by simp; rfl) ?_
  simp
  apply J.seq
  apply J.seq
  refine J.regE (by simp; rfl) ?_
  simp
  apply J.cond; simp
  refine ⟨fun h4 => ?_, fun h4 => ?_⟩
  ·
    apply J.seq
    refine J.regE (by simp; rfl) ?_
    simp
    apply J.ret
    refine ⟨by simp, rfl, _, [], by simp [a23R]; rfl, ?_⟩
    simp [bN, h4]
  ·
    apply J.skip; simp
    apply J.seq
    apply J.seq
    refine J.regE (by simp; rfl) ?_
    simp
    apply J.cond; simp
    refine ⟨fun h6 => ?_, fun h6 => ?_⟩
    ·
      apply J.seq
      refine J.regE (by simp; rfl) ?_
      simp
      apply J.ret
      refine ⟨by simp, rfl, _, [], by simp [a23R]; rfl, ?_⟩
      simp [bN, Int.not_lt.2 h4, h6]
    ·
      apply J.skip; simp
      apply J.seq
      refine J.regE (by simp; rfl) ?_
      simp
      apply J.ret
      refine ⟨by simp, rfl, _, [], by simp [a23R]; rfl, ?_⟩
      simp [bN, Int.not_lt.2 h4, Int.not_lt.2 h6]
      omega

theorem c26 : chkFn Try.prog 26 13 2 a26 a26R = true := by kernel_rfl
/-- colloquy/colloquyref11.thing -/
theorem d26 (n i : Int) : DoesT 26 [iv n, iv i] (bv (isT n i)) := by
  refine Does.of (nt := 13) (ac := a26) (rds := a26R) c26 (fun c hc => ?_)
  unfold a26
  apply J.seq
  refine J.regE (by simp; rfl) ?_
  simp
  apply J.seq
  apply J.reg
  iterate 3 refine runL_step rfl (by simp; rfl) ?_
  by_cases h : 0 ≤ i
  · iterate 2 refine runL_step rfl (by simp [h]; rfl) ?_
    refine runL_do (by simp [h]) ?_
    refine runL_tree rfl (d23 n) (by simp) hc ?_
    simp
    iterate 3 refine runL_step rfl (by simp [h]; rfl) ?_
    simp [runL]
    apply J.ret
    refine ⟨by simp, rfl, _, [], by simp [a26R]; rfl, ?_⟩
    simp [isT, h]
  iterate 2 refine runL_step rfl (by simp [h]; rfl) ?_
  refine runL_skip (by simp [h]; rfl) (by simp) ?_
  iterate 3 refine runL_step rfl (by simp [h]; rfl) ?_
  simp [runL]
  apply J.ret
  refine ⟨by simp, rfl, _, [], by simp [a26R]; rfl, ?_⟩
  simp [isT, h]

end Go.Proofs.Ythccfgkklimebaa.F
