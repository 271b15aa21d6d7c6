/- Chapter 11: the chapter's examples. Printed by walk.py from g10.walk.py. -/
import Derived.Test.YthccfgkklimebaaAwake
set_option linter.unusedVariables false
set_option linter.unusedSimpArgs false
namespace Go.Proofs.Ythccfgkklimebaa.F
open Go Go.SX

theorem c10 : chkFn Try.prog 10 47 0 a10 a10R = true := by kernel_rfl
/-- colloquy/colloquylaw11.awake -/
theorem d10  : DoesT 10 [] (bv true) := by
  refine Does.of (nt := 47) (ac := a10) (rds := a10R) c10 (fun c hc => ?_)
  unfold a10
  apply J.seq
  refine J.regE (by simp; rfl) ?_
  simp
  apply J.seq
  apply J.reg
  iterate 4 refine runL_step rfl (by simp; rfl) ?_
  refine runL_freeze hc 10006 rfl ?_
  simp
  refine runL_tree (args := [iv 3, .ro 2 (eds ex1)]) rfl (d12 3 ex1 (by decide)) (by simp) hc ?_
  simp
  refine runL_step rfl (by simp; rfl) ?_
  simp [runL]
  rw [comps1]
  apply J.seq
  apply J.reg
  iterate 2 refine runL_step rfl (by simp; rfl) ?_
  refine runL_freeze hc 10009 rfl ?_
  simp
  refine runL_tree (args := [iv 3, .ro 2 (eds ex2)]) rfl (d12 3 ex2 (by decide)) (by simp) hc ?_
  simp
  refine runL_step rfl (by simp; rfl) ?_
  simp [runL]
  rw [comps2]
  apply J.seq
  apply J.reg
  iterate 32 refine runL_step rfl (by simp [rws, nats]; rfl) ?_
  iterate 2 refine runL_step rfl (by simp [rws, nats]; rfl) ?_
  refine runL_do (by simp) ?_
  refine runL_freeze hc 10044 rfl ?_
  simp
  refine runL_tree (args := [iv 3, .ro 2 (eds ex2), iv 0, iv 2]) rfl (d17 3 ex2 0 2 (by decide)) (by simp) hc ?_
  rw [reach2]
  simp
  iterate 2 refine runL_step rfl (by simp; rfl) ?_
  simp [runL]
  apply J.ret
  refine ⟨by simp, rfl, _, [], by simp [a10R]; rfl, ?_⟩
  simp

end Go.Proofs.Ythccfgkklimebaa.F
