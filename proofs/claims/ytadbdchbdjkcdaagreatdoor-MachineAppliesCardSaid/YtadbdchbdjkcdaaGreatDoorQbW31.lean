/- The walk of LawMachineApplies. -/
import Derived.Test.YtadbdchbdjkcdaaGreatDoorQb11
set_option linter.unusedVariables false
set_option linter.unusedSimpArgs false
namespace Go.Proofs.YtadbdchbdjkcdaaGreatDoor.F
open Go Go.SX
theorem c4 : chkFn Tryz.prog 4 74 3 a4 a4R = true := by kernel_rfl
theorem d4 (s : Sta) (m : Cmd) (t : Sta) (hb : Big s) (hbt : Big t) : DoesT 4 [.agg (eS s), .agg (eM m), .agg (eS t)] (bv true) := by
 have h16 := d16 s hb
 obtain ⟨A0, hA0⟩ : ∃ A, fewS s = A := ⟨_, rfl⟩
 rw [hA0] at h16
 have h16t := d16 t hbt
 obtain ⟨B0, hB0⟩ : ∃ A, fewS t = A := ⟨_, rfl⟩
 rw [hB0] at h16t
 refine Does.of (nt := 74) (ac := a4) (rds := a4R) c4 (fun c hc => ?_)
 unfold a4
 apply J.seq
 refine J.regE (by simp [eS, eM, eA]; rfl) ?_
 simp
 apply J.seq
 apply J.reg
 refine runL_tree rfl (d10) (by simp) hc ?_
 simp
 refine runL_step rfl (by simp [eS, eM, eA]; rfl) ?_
 simp [runL]
 apply J.seq
 apply J.reg
 refine runL_step rfl (by simp [eS, eM, eA]; rfl) ?_
 refine runL_tree rfl (h16) (by simp) hc ?_
 simp
 refine runL_step rfl (by simp [eS, eM, eA]; rfl) ?_
 simp [runL]
 apply J.seq
 apply J.reg
 refine runL_step rfl (by simp [eS, eM, eA]; rfl) ?_
 refine runL_tree rfl (h16t) (by simp) hc ?_
 simp
 refine runL_step rfl (by simp [eS, eM, eA]; rfl) ?_
 simp [runL]
 apply J.seq
 apply J.seq
 apply J.reg
 iterate 7 refine runL_step rfl (by simp [eS, eM, eA]; rfl) ?_
 refine runL_if rfl (fun g26 => ?_) (fun g26 => ?_)
 ·
  try simp only [g26]
  try simp at g26
  iterate 4 refine runL_step rfl (by simp [eS, eM, eA]; rfl) ?_
  refine runL_if rfl (fun g30 => ?_) (fun g30 => ?_)
  ·
   try simp only [g30]
   try simp at g30
   iterate 5 refine runL_step rfl (by simp [eS, eM, eA]; rfl) ?_
   simp [runL]
   refine J.condB rfl (fun h35 => ?_) (fun h35 => ?_)
   ·
    simp at h35
    apply J.seq
    refine J.regE (by simp [eS, eM, eA]; rfl) ?_
    simp
    apply J.ret
    refine ⟨by simp, rfl, _, [], by simp [a4R]; rfl, ?_⟩
    simp
   ·
    simp at h35
    subst g26
    subst g30
    have hfs := few_fit hA0
    have hft := few_fit hB0
    have h17 := d17 s m (by omega) hfs
    have h18 := d18 s m (by omega) hfs
    have hfx := apply_fit (m := m) hfs (by omega)
    have h13 := d13 (applyS s m).1 (applyS s m).1 (by omega) hfx hfx
    rw [eqB_refl] at h13
    have h15 := d15 s (by omega) hfs
    have h19 := d19 s (by omega) hfs
    have h20 := d20 s t (by omega) hfs hft
    have h13t := d13 s t (by omega) hfs hft
    apply J.skip; simp
    apply J.seq
    apply J.reg
    iterate 2 refine runL_step rfl (by simp [eS, eM, eA]; rfl) ?_
    refine runL_tree rfl (h17) (by simp) hc ?_
    simp
    iterate 7 refine runL_step rfl (by simp [eS, eM, eA]; rfl) ?_
    simp [runL]
    apply J.seq
    apply J.reg
    iterate 2 refine runL_step rfl (by simp [eS, eM, eA]; rfl) ?_
    refine runL_tree rfl (h18) (by simp) hc ?_
    simp
    iterate 7 refine runL_step rfl (by simp [eS, eM, eA]; rfl) ?_
    simp [runL]
    apply J.seq
    apply J.reg
    iterate 2 refine runL_step rfl (by simp [eS, eM, eA]; rfl) ?_
    refine runL_tree rfl (h13) (by simp) hc ?_
    simp
    refine runL_step rfl (by simp [eS, eM, eA]; rfl) ?_
    simp [runL]
    apply J.seq
    refine J.drawT rfl hc (fun c' hs' hc' => ?_)
    iterate 9 refine runP_stepQ (by simp [eS, eM, eA]; rfl) ?_
    refine runP_do (by simp) ?_
    refine runP_treeT rfl (h15) (by simp) hs' ?_
    simp
    refine runP_do (by simp) ?_
    refine runP_treeT rfl (h19) (by simp) hs' ?_
    simp
    iterate 7 refine runP_stepQ (by simp [eS, eM, eA]; rfl) ?_
    refine runP_do (by simp) ?_
    refine runP_treeT rfl (h20) (by simp) hs' ?_
    simp
    refine runP_do (by simp) ?_
    refine runP_treeT rfl (h13t) (by simp) hs' ?_
    simp
    iterate 3 refine runP_stepQ (by simp [eS, eM, eA]; rfl) ?_
    simp [runP]
    apply J.ret
    refine ⟨by simp, rfl, _, [], by simp [a4R]; rfl, ?_⟩
    simp
  ·
   try simp only [g30]
   try simp at g30
   iterate 4 refine runL_step rfl (by simp [eS, eM, eA]; rfl) ?_
   simp [runL]
   apply J.cond; simp [eS, eM, eA]
   apply J.seq
   refine J.regE (by simp [eS, eM, eA]; rfl) ?_
   simp
   apply J.ret
   refine ⟨by simp, rfl, _, [], by simp [a4R]; rfl, ?_⟩
   simp
 ·
  try simp only [g26]
  try simp at g26
  iterate 8 refine runL_step rfl (by simp [eS, eM, eA]; rfl) ?_
  simp [runL]
  apply J.cond; simp [eS, eM, eA]
  apply J.seq
  refine J.regE (by simp [eS, eM, eA]; rfl) ?_
  simp
  apply J.ret
  refine ⟨by simp, rfl, _, [], by simp [a4R]; rfl, ?_⟩
  simp
end Go.Proofs.YtadbdchbdjkcdaaGreatDoor.F
