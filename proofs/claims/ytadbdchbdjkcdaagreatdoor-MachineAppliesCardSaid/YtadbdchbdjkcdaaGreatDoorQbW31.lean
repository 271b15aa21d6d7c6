/- The walk of LawMachineApplies. -/
import Derived.Test.YtadbdchbdjkcdaaGreatDoorQb11
set_option linter.unusedVariables false
set_option linter.unusedSimpArgs false
namespace Go.Proofs.YtadbdchbdjkcdaaGreatDoor.F
open Go Go.SX
def a4r0 : AC := .reg [oI 3 (.box 4003 27 2 (.s 0)), oI 4 (.box 4004 36 6 (.s 1)), oI 5 (.box 4005 27 2 (.s 2)), oI 6 (.mov (.c (.lit (.bool false))))] [3, 4, 5]
def a4r1 : AC := .reg [oI 15 (.callv (.c (.fn 10 [])) []), oI 7 (.mov (.s 15))] [3, 4, 5, 7]
def a4r2 : AC := .reg [oI 16 (.load 2 true (.s 3)), oI 17 (.callv (.c (.fn 16 [])) [(.s 16)]), oI 8 (.mov (.s 17))] [3, 4, 5, 7, 8]
def a4r3 : AC := .reg [oI 18 (.load 2 true (.s 5)), oI 19 (.callv (.c (.fn 16 [])) [(.s 18)]), oI 9 (.mov (.s 19))] [3, 4, 5, 7, 8, 9]
def a4r4 : AC := .reg [oI 20 (.mov (.s 7)), oI 21 (.not (.s 20)), oI 22 (.mov (.s 21)), oG 23 22 false (.mov (.s 8)), oG 24 22 false (.not (.s 23)), oI 25 (.pick (.s 22) (.c (.lit (.bool true))) (.s 24)), oI 26 (.mov (.s 25)), oG 27 26 false (.mov (.s 9)), oG 28 26 false (.not (.s 27)), oI 29 (.pick (.s 26) (.c (.lit (.bool true))) (.s 28)), oI 30 (.mov (.s 29)), oG 31 30 false (.faddr 5 (.s 4)), oG 32 30 false (.load 1 false (.s 31)), oG 33 30 false (.slen (.s 32)), oG 34 30 false (.iop .gtr (.s 33) (.c (.lit (.int .i64 500)))), oI 35 (.pick (.s 30) (.c (.lit (.bool true))) (.s 34))] [3, 4, 5, 7, 35]
def a4r5 : AC := .reg [oI 36 (.mov (.s 7)), oI 6 (.mov (.s 36))] [6]
def a4r6 : AC := .reg [oI 38 (.load 2 true (.s 3)), oI 39 (.load 6 true (.s 4)), oI 40 (.callv (.c (.fn 17 [])) [(.s 38), (.s 39)]), oI 37 (.mov (.s 40)), oI 41 (.extract 0 (.s 37)), oI 42 (.extract 1 (.s 37)), oI 10 (.alloc 4010 27 [(.nils 4), (.nils 3)]), oI 11 (.alloc 4011 39 [(.lit (.int .i64 0)), (.lit (.int .i64 0)), (.lit (.string ⟨#[]⟩))]), oN (.store 2 (.s 10) (.s 41)), oN (.store 3 (.s 11) (.s 42))] [3, 4, 5, 10, 11]
def a4r7 : AC := .reg [oI 44 (.load 2 true (.s 3)), oI 45 (.load 6 true (.s 4)), oI 46 (.callv (.c (.fn 18 [])) [(.s 44), (.s 45)]), oI 43 (.mov (.s 46)), oI 47 (.extract 0 (.s 43)), oI 48 (.extract 1 (.s 43)), oI 12 (.alloc 4012 27 [(.nils 4), (.nils 3)]), oI 13 (.alloc 4013 39 [(.lit (.int .i64 0)), (.lit (.int .i64 0)), (.lit (.string ⟨#[]⟩))]), oN (.store 2 (.s 12) (.s 47)), oN (.store 3 (.s 13) (.s 48))] [3, 5, 10, 11, 12, 13]
def a4r8 : AC := .reg [oI 49 (.load 2 true (.s 10)), oI 50 (.load 2 true (.s 12)), oI 51 (.callv (.c (.fn 13 [])) [(.s 49), (.s 50)]), oI 14 (.mov (.s 51))] [3, 5, 11, 13, 14]
def a4r9 : AC := .draw [7] (.take 0 (oI 52 (.mov (.s 14))) <| .take 1 (oI 53 (.mov (.s 52))) <| .take 2 (oG 54 53 true (.load 3 true (.s 11))) <| .take 3 (oG 55 53 true (.load 3 true (.s 13))) <| .take 4 (oG 56 53 true (.seql false [1, 1, 2] (.s 54) (.s 55))) <| .take 5 (oI 57 (.pick (.s 53) (.s 56) (.c (.lit (.bool false))))) <| .take 6 (oI 58 (.mov (.s 57))) <| .take 7 (oG 59 58 true (.load 2 true (.s 3))) <| .take 9 (oG 61 58 true (.load 2 true (.s 3))) <| .alt 8 (oG 60 58 true (.callv (.c (.fn 15 [])) [(.s 59)])) ( .alt 10 (oG 62 58 true (.callv (.c (.fn 19 [])) [(.s 61)])) ( .take 11 (oG 63 58 true (.beq false (.s 60) (.s 62))) <| .take 12 (oI 64 (.pick (.s 58) (.s 63) (.c (.lit (.bool false))))) <| .take 13 (oI 65 (.mov (.s 64))) <| .take 14 (oG 66 65 true (.load 2 true (.s 3))) <| .take 15 (oG 67 65 true (.load 2 true (.s 5))) <| .take 17 (oG 69 65 true (.load 2 true (.s 3))) <| .take 18 (oG 70 65 true (.load 2 true (.s 5))) <| .alt 16 (oG 68 65 true (.callv (.c (.fn 20 [])) [(.s 66), (.s 67)])) ( .alt 19 (oG 71 65 true (.callv (.c (.fn 13 [])) [(.s 69), (.s 70)])) ( .take 20 (oG 72 65 true (.beq false (.s 68) (.s 71))) <| .take 21 (oI 73 (.pick (.s 65) (.s 72) (.c (.lit (.bool false))))) <| .take 22 (oI 6 (.mov (.s 73))) <| .done) .done) .done) .done) .done) [6]
def a4 : AC := .seq a4r0 (.seq a4r1 (.seq a4r2 (.seq a4r3 (.seq (.seq a4r4 (.cond (.s 35) (.seq a4r5 (.ret)) (.skip))) (.seq a4r6 (.seq a4r7 (.seq a4r8 (.seq a4r9 (.ret)))))))))
def a4R : List RD := [.tmp 6]
end Go.Proofs.YtadbdchbdjkcdaaGreatDoor.F
namespace Go.Proofs.YtadbdchbdjkcdaaGreatDoor.F
open Go Go.SX
theorem c4 : chkFn Tryz.prog 4 74 3 a4 a4R = true := by kernel_rfl
theorem d4 (s : Sta) (m : Cmd) (t : Sta) (hb : Big s) (hbt : Big t) : DoesT 4 [.agg (eS s), .agg (eM m), .agg (eS t)] (bv true) := by
 have h16 := d16 s hb
 obtain ⟨A0, hA0⟩ : ∃ A, fewS s = A := ⟨_, rfl⟩
 rw [hA0] at h16
 have h16t := d16 t hbt
 obtain ⟨B0, hB0⟩ : ∃ A, fewS t = A := ⟨_, rfl⟩
 rw [hB0] at h16t
 refine Does.of (nt := 74) (ac := a4) (rds := a4R) c4 (fun c hc => ?_)
 unfold a4
 apply J.seq
 refine J.regE (by simp [eS, eM, eA]; rfl) ?_
 simp
 apply J.seq
 apply J.reg
 refine runL_tree rfl (d10) (by simp) hc ?_
 simp
 refine runL_step rfl (by simp [eS, eM, eA]; rfl) ?_
 simp [runL]
 apply J.seq
 apply J.reg
 refine runL_step rfl (by simp [eS, eM, eA]; rfl) ?_
 refine runL_tree rfl (h16) (by simp) hc ?_
 simp
 refine runL_step rfl (by simp [eS, eM, eA]; rfl) ?_
 simp [runL]
 apply J.seq
 apply J.reg
 refine runL_step rfl (by simp [eS, eM, eA]; rfl) ?_
 refine runL_tree rfl (h16t) (by simp) hc ?_
 simp
 refine runL_step rfl (by simp [eS, eM, eA]; rfl) ?_
 simp [runL]
 apply J.seq
 apply J.seq
 apply J.reg
 iterate 7 refine runL_step rfl (by simp [eS, eM, eA]; rfl) ?_
 refine runL_if rfl (fun g26 => ?_) (fun g26 => ?_)
 ·
  try simp only [g26]
  try simp at g26
  iterate 4 refine runL_step rfl (by simp [eS, eM, eA]; rfl) ?_
  refine runL_if rfl (fun g30 => ?_) (fun g30 => ?_)
  ·
   try simp only [g30]
   try simp at g30
   iterate 5 refine runL_step rfl (by simp [eS, eM, eA]; rfl) ?_
   simp [runL]
   refine J.condB rfl (fun h35 => ?_) (fun h35 => ?_)
   ·
    simp at h35
    apply J.seq
    refine J.regE (by simp [eS, eM, eA]; rfl) ?_
    simp
    apply J.ret
    refine ⟨by simp, rfl, _, [], by simp [a4R]; rfl, ?_⟩
    simp
   ·
    simp at h35
    subst g26
    subst g30
    have hfs := few_fit hA0
    have hft := few_fit hB0
    have h17 := d17 s m (by omega) hfs
    have h18 := d18 s m (by omega) hfs
    have hfx := apply_fit (m := m) hfs (by omega)
    have h13 := d13 (applyS s m).1 (applyS s m).1 (by omega) hfx hfx
    rw [eqB_refl] at h13
    have h15 := d15 s (by omega) hfs
    have h19 := d19 s (by omega) hfs
    have h20 := d20 s t (by omega) hfs hft
    have h13t := d13 s t (by omega) hfs hft
    apply J.skip; simp
    apply J.seq
    apply J.reg
    iterate 2 refine runL_step rfl (by simp [eS, eM, eA]; rfl) ?_
    refine runL_tree rfl (h17) (by simp) hc ?_
    simp
    iterate 7 refine runL_step rfl (by simp [eS, eM, eA]; rfl) ?_
    simp [runL]
    apply J.seq
    apply J.reg
    iterate 2 refine runL_step rfl (by simp [eS, eM, eA]; rfl) ?_
    refine runL_tree rfl (h18) (by simp) hc ?_
    simp
    iterate 7 refine runL_step rfl (by simp [eS, eM, eA]; rfl) ?_
    simp [runL]
    apply J.seq
    apply J.reg
    iterate 2 refine runL_step rfl (by simp [eS, eM, eA]; rfl) ?_
    refine runL_tree rfl (h13) (by simp) hc ?_
    simp
    refine runL_step rfl (by simp [eS, eM, eA]; rfl) ?_
    simp [runL]
    apply J.seq
    refine J.drawT rfl hc (fun c' hs' hc' => ?_)
    iterate 9 refine runP_stepQ (by simp [eS, eM, eA]; rfl) ?_
    refine runP_do (by simp) ?_
    refine runP_treeT rfl (h15) (by simp) hs' ?_
    simp
    refine runP_do (by simp) ?_
    refine runP_treeT rfl (h19) (by simp) hs' ?_
    simp
    iterate 7 refine runP_stepQ (by simp [eS, eM, eA]; rfl) ?_
    refine runP_do (by simp) ?_
    refine runP_treeT rfl (h20) (by simp) hs' ?_
    simp
    refine runP_do (by simp) ?_
    refine runP_treeT rfl (h13t) (by simp) hs' ?_
    simp
    iterate 3 refine runP_stepQ (by simp [eS, eM, eA]; rfl) ?_
    simp [runP]
    apply J.ret
    refine ⟨by simp, rfl, _, [], by simp [a4R]; rfl, ?_⟩
    simp
  ·
   try simp only [g30]
   try simp at g30
   iterate 4 refine runL_step rfl (by simp [eS, eM, eA]; rfl) ?_
   simp [runL]
   apply J.cond; simp [eS, eM, eA]
   apply J.seq
   refine J.regE (by simp [eS, eM, eA]; rfl) ?_
   simp
   apply J.ret
   refine ⟨by simp, rfl, _, [], by simp [a4R]; rfl, ?_⟩
   simp
 ·
  try simp only [g26]
  try simp at g26
  iterate 8 refine runL_step rfl (by simp [eS, eM, eA]; rfl) ?_
  simp [runL]
  apply J.cond; simp [eS, eM, eA]
  apply J.seq
  refine J.regE (by simp [eS, eM, eA]; rfl) ?_
  simp
  apply J.ret
  refine ⟨by simp, rfl, _, [], by simp [a4R]; rfl, ?_⟩
  simp
end Go.Proofs.YtadbdchbdjkcdaaGreatDoor.F
