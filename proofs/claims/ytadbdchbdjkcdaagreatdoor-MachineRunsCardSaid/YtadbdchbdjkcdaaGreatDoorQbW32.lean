/- The walk of LawMachineRuns. -/
import Derived.Test.YtadbdchbdjkcdaaGreatDoorQb11
set_option linter.unusedVariables false
set_option linter.unusedSimpArgs false
namespace Go.Proofs.YtadbdchbdjkcdaaGreatDoor.F
open Go Go.SX
def a3r0 : AC := .reg [oI 2 (.mov (.c (.lit (.bool false))))] [0]
def a3r1 : AC := .reg [oI 10 (.callv (.c (.fn 10 [])) []), oI 3 (.mov (.s 10))] [0, 3]
def a3r2 : AC := .reg [oI 11 (.mov (.s 3)), oI 12 (.not (.s 11)), oI 13 (.mov (.s 12)), oG 14 13 false (.mov (.s 0)), oG 15 13 false (.len (.s 14)), oG 16 13 false (.iop .gtr (.s 15) (.c (.lit (.int .i64 80)))), oI 17 (.pick (.s 13) (.c (.lit (.bool true))) (.s 16))] [0, 3, 17]
def a3r3 : AC := .reg [oI 18 (.mov (.s 3)), oI 2 (.mov (.s 18))] [2]
def a3r4 : AC := .reg [oI 20 (.build [(.nils 4), (.nils 3)] []), oI 21 (.mov (.s 0)), oI 22 (.callv (.c (.fn 11 [])) [(.s 20), (.s 21)]), oI 19 (.mov (.s 22)), oI 23 (.extract 0 (.s 19)), oI 24 (.extract 1 (.s 19)), oI 4 (.alloc 3004 27 [(.nils 4), (.nils 3)]), oN (.store 2 (.s 4) (.s 23)), oI 5 (.mov (.s 24))] [0, 4, 5]
def a3r5 : AC := .reg [oI 26 (.build [(.nils 4), (.nils 3)] []), oI 27 (.mov (.s 0)), oI 28 (.callv (.c (.fn 12 [])) [(.s 26), (.s 27)]), oI 25 (.mov (.s 28)), oI 29 (.extract 0 (.s 25)), oI 30 (.extract 1 (.s 25)), oI 6 (.alloc 3006 27 [(.nils 4), (.nils 3)]), oN (.store 2 (.s 6) (.s 29)), oI 7 (.mov (.s 30))] [4, 5, 6, 7]
def a3r6 : AC := .reg [oI 31 (.load 2 true (.s 4)), oI 32 (.load 2 true (.s 6)), oI 33 (.callv (.c (.fn 13 [])) [(.s 31), (.s 32)]), oI 8 (.mov (.s 33))] [4, 5, 7, 8]
def a3r7 : AC := .reg [oI 34 (.mov (.s 5)), oI 35 (.mov (.s 7)), oI 36 (.callv (.c (.fn 14 [])) [(.s 34), (.s 35)]), oI 9 (.mov (.s 36))] [4, 8, 9]
def a3r8 : AC := .reg [oI 37 (.mov (.s 8)), oI 38 (.mov (.s 37)), oG 39 38 true (.mov (.s 9)), oI 40 (.pick (.s 38) (.s 39) (.c (.lit (.bool false)))), oI 41 (.mov (.s 40)), oG 42 41 true (.load 2 true (.s 4)), oG 43 41 true (.callv (.c (.fn 15 [])) [(.s 42)]), oI 44 (.pick (.s 41) (.s 43) (.c (.lit (.bool false)))), oI 2 (.mov (.s 44))] [2]
def a3 : AC := .seq a3r0 (.seq a3r1 (.seq (.seq a3r2 (.cond (.s 17) (.seq a3r3 (.ret)) (.skip))) (.seq a3r4 (.seq a3r5 (.seq a3r6 (.seq a3r7 (.seq a3r8 (.ret))))))))
def a3R : List RD := [.tmp 2]
end Go.Proofs.YtadbdchbdjkcdaaGreatDoor.F
namespace Go.Proofs.YtadbdchbdjkcdaaGreatDoor.F
open Go Go.SX
theorem c3 : chkFn Tryz.prog 3 45 1 a3 a3R = true := by kernel_rfl
theorem d3 (l : List Cmd) (hl : l.length ≤ 9223372036854775807) : DoesT 3 [.ro 6 (eMs l)] (bv true) := by
 refine Does.of (nt := 45) (ac := a3) (rds := a3R) c3 (fun c hc => ?_)
 unfold a3
 apply J.seq
 refine J.regE (by simp [eS, eA]; rfl) ?_
 simp
 apply J.seq
 apply J.reg
 refine runL_tree rfl (d10) (by simp) hc ?_
 simp
 refine runL_step rfl (by simp [eS, eA]; rfl) ?_
 simp [runL]
 apply J.seq
 apply J.seq
 apply J.reg
 iterate 7 refine runL_step rfl (by simp [eS, eA]; rfl) ?_
 simp [runL]
 refine J.condB rfl (fun h17 => ?_) (fun h17 => ?_)
 ·
  simp at h17
  apply J.seq
  refine J.regE (by simp [eS, eA]; rfl) ?_
  simp
  apply J.ret
  refine ⟨by simp, rfl, _, [], by simp [a3R]; rfl, ?_⟩
  simp
 ·
  simp at h17
  have h11 := d11 noS l (n := 8) (by omega) (by omega) (fit_no 8)
  have h12 := d12 noS l (n := 8) (by omega) (by omega) (fit_no 8)
  have hf := run_fit (l := l) (fit_no 8) (by omega)
  have hm := run_keep (l := l) (s := noS) rfl
  have hn := run_len l noS
  generalize hQ : runS noS l = q at h11 h12 hf hm hn
  obtain ⟨t1, a1⟩ := q
  simp only at h11 h12 hf hm hn
  have hf : FitS 200 t1 := fit_mono (by omega) hf
  have h13 := d13 t1 t1 (n := 200) (by omega) hf hf
  rw [eqB_refl] at h13
  have h14 := d14 a1 a1 (by omega) (by omega)
  rw [eqB_refl] at h14
  have h15 := d15 t1 (n := 200) (by omega) hf
  rw [hm] at h15
  apply J.skip; simp
  apply J.seq
  apply J.reg
  iterate 2 refine runL_step rfl (by simp [eS, eA]; rfl) ?_
  refine runL_le hc (le_nz _) ?_
  simp
  refine runL_tree rfl (h11) (by simp) hc ?_
  simp
  iterate 6 refine runL_step rfl (by simp [eS, eA]; rfl) ?_
  simp [runL]
  apply J.seq
  apply J.reg
  iterate 2 refine runL_step rfl (by simp [eS, eA]; rfl) ?_
  refine runL_le hc (le_nz _) ?_
  simp
  refine runL_tree rfl (h12) (by simp) hc ?_
  simp
  iterate 6 refine runL_step rfl (by simp [eS, eA]; rfl) ?_
  simp [runL]
  apply J.seq
  apply J.reg
  iterate 2 refine runL_step rfl (by simp [eS, eA]; rfl) ?_
  refine runL_tree rfl (h13) (by simp) hc ?_
  simp
  refine runL_step rfl (by simp [eS, eA]; rfl) ?_
  simp [runL]
  apply J.seq
  apply J.reg
  iterate 2 refine runL_step rfl (by simp [eS, eA]; rfl) ?_
  refine runL_tree rfl (h14) (by simp) hc ?_
  simp
  refine runL_step rfl (by simp [eS, eA]; rfl) ?_
  simp [runL]
  apply J.seq
  apply J.reg
  iterate 6 refine runL_step rfl (by simp [eS, eA]; rfl) ?_
  refine runL_do (by simp) ?_
  refine runL_tree rfl (h15) (by simp) hc ?_
  simp
  iterate 2 refine runL_step rfl (by simp [eS, eA]; rfl) ?_
  simp [runL]
  apply J.ret
  refine ⟨by simp, rfl, _, [], by simp [a3R]; rfl, ?_⟩
  simp
end Go.Proofs.YtadbdchbdjkcdaaGreatDoor.F
