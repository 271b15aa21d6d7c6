/- Chapter 16: small functions. Printed by walk.py from w1.walk.py. -/
import Derived.Test.YtifpfpiljionmaaDoorU9
import Derived.Test.YtifpfpiljionmaaDoorSxX
set_option linter.unusedVariables false
set_option linter.unusedSimpArgs false
namespace Go.Proofs.YtifpfpiljionmaaDoor.F
open Go Go.SX

/-- What a function answers, taking trees. -/
abbrev DoesT (f : Nat) (args : List AV) (r : AV) : Prop := Does Tryd.prog f args [] [] (fun r' m => m = [] ∧ r' = r)
def btw (n a b : Int) : Bool := decide (a ≤ n) && decide (n ≤ b)

theorem c39 : chkFn Tryd.prog 39 15 3 a39 a39R = true := by kernel_rfl
/-- colloquy/posts.between -/
theorem d39 (n a b : Int) : DoesT 39 [iv n, iv a, iv b] (bv (btw n a b)) := by
  refine Does.of (nt := 15) (ac := a39) (rds := a39R) c39 (fun c hc => ?_)
  unfold a39
  apply J.seq
  refine J.regE (by simp; rfl) ?_
  simp
  apply J.seq
  by_cases h : a ≤ n
  ·
    refine J.regE (by simp [h]; rfl) ?_
    simp
    apply J.ret
    refine ⟨by simp, rfl, _, [], by simp [a39R]; rfl, ?_⟩
    simp [h, btw]
  ·
    refine J.regE (by simp [h]; rfl) ?_
    simp
    apply J.ret
    refine ⟨by simp, rfl, _, [], by simp [a39R]; rfl, ?_⟩
    simp [h, btw]

end Go.Proofs.YtifpfpiljionmaaDoor.F
