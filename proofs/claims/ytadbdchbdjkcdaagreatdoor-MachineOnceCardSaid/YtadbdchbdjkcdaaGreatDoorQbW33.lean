/- The walk of LawMachineOnce. -/
import Derived.Test.YtadbdchbdjkcdaaGreatDoorQb11
set_option linter.unusedVariables false
set_option linter.unusedSimpArgs false
namespace Go.Proofs.YtadbdchbdjkcdaaGreatDoor.F
open Go Go.SX
def a5r0 : AC := .reg [oI 3 (.box 5003 27 2 (.s 0)), oI 4 (.box 5004 36 6 (.s 1)), oI 6 (.mov (.c (.lit (.bool false))))] [2, 3, 4]
def a5r1 : AC := .reg [oI 15 (.callv (.c (.fn 10 [])) []), oI 7 (.mov (.s 15))] [2, 3, 4, 7]
def a5r2 : AC := .reg [oI 16 (.load 2 true (.s 3)), oI 17 (.callv (.c (.fn 16 [])) [(.s 16)]), oI 8 (.mov (.s 17))] [2, 3, 4, 7, 8]
def a5r3 : AC := .reg [oI 18 (.mov (.s 7)), oI 19 (.not (.s 18)), oI 20 (.mov (.s 19)), oG 21 20 false (.mov (.s 8)), oG 22 20 false (.not (.s 21)), oI 23 (.pick (.s 20) (.c (.lit (.bool true))) (.s 22)), oI 24 (.mov (.s 23)), oG 25 24 false (.faddr 5 (.s 4)), oG 26 24 false (.load 1 false (.s 25)), oG 27 24 false (.slen (.s 26)), oG 28 24 false (.iop .gtr (.s 27) (.c (.lit (.int .i64 500)))), oI 29 (.pick (.s 24) (.c (.lit (.bool true))) (.s 28)), oI 30 (.mov (.s 29)), oG 31 30 false (.mov (.s 2)), oG 32 30 false (.iop .lss (.s 31) (.c (.lit (.int .i64 0)))), oI 33 (.pick (.s 30) (.c (.lit (.bool true))) (.s 32)), oI 34 (.mov (.s 33)), oG 35 34 false (.mov (.s 2)), oG 36 34 false (.iop .gtr (.s 35) (.c (.lit (.int .i64 10)))), oI 37 (.pick (.s 34) (.c (.lit (.bool true))) (.s 36)), oI 38 (.mov (.s 37)), oG 39 38 false (.load 2 true (.s 3)), oG 40 38 false (.callv (.c (.fn 15 [])) [(.s 39)]), oG 41 38 false (.not (.s 40)), oI 42 (.pick (.s 38) (.c (.lit (.bool true))) (.s 41)), oI 43 (.mov (.s 42)), oG 44 43 false (.faddr 2 (.s 4)), oG 45 43 false (.load 1 false (.s 44)), oG 46 43 false (.iop .eql (.s 45) (.c (.lit (.int .i64 0)))), oI 47 (.pick (.s 43) (.c (.lit (.bool true))) (.s 46))] [2, 3, 4, 7, 47]
def a5r4 : AC := .reg [oI 48 (.mov (.s 7)), oI 6 (.mov (.s 48))] [6]
def a5r5 : AC := .reg [oI 50 (.load 2 true (.s 3)), oI 51 (.load 6 true (.s 4)), oI 52 (.callv (.c (.fn 17 [])) [(.s 50), (.s 51)]), oI 49 (.mov (.s 52)), oI 53 (.extract 0 (.s 49)), oI 54 (.extract 1 (.s 49)), oI 9 (.alloc 5009 27 [(.nils 4), (.nils 3)]), oI 10 (.alloc 5010 39 [(.lit (.int .i64 0)), (.lit (.int .i64 0)), (.lit (.string ⟨#[]⟩))]), oN (.store 2 (.s 9) (.s 53)), oN (.store 3 (.s 10) (.s 54))] [2, 4, 9, 10]
def a5r6 : AC := .reg [oI 11 (.mov (.c (.lit (.int .i64 0))))] [2, 4, 9, 10, 11]
def a5r7 : AC := .reg [oI 55 (.mov (.s 11)), oI 56 (.mov (.s 2)), oI 57 (.iop .lss (.s 55) (.s 56))] [2, 4, 9, 10, 11, 57]
def a5r9 : AC := .reg [oI 61 (.load 2 true (.s 9)), oI 62 (.load 6 true (.s 4)), oI 63 (.callv (.c (.fn 17 [])) [(.s 61), (.s 62)]), oI 60 (.mov (.s 63)), oI 64 (.extract 0 (.s 60)), oI 65 (.extract 1 (.s 60)), oI 12 (.alloc 5012 27 [(.nils 4), (.nils 3)]), oI 13 (.alloc 5013 39 [(.lit (.int .i64 0)), (.lit (.int .i64 0)), (.lit (.string ⟨#[]⟩))]), oN (.store 2 (.s 12) (.s 64)), oN (.store 3 (.s 13) (.s 65))] [2, 4, 9, 10, 11, 12, 13]
def a5r10 : AC := .reg [oI 66 (.load 2 true (.s 9)), oI 67 (.load 2 true (.s 12)), oI 68 (.callv (.c (.fn 20 [])) [(.s 66), (.s 67)]), oI 14 (.mov (.s 68))] [2, 4, 9, 10, 11, 13, 14]
def a5r11 : AC := .reg [oI 69 (.mov (.s 14)), oI 70 (.not (.s 69)), oI 71 (.mov (.s 70)), oG 72 71 false (.load 3 true (.s 13)), oG 73 71 false (.load 3 true (.s 10)), oG 74 71 false (.seql true [1, 1, 2] (.s 72) (.s 73)), oG 75 71 false (.mov (.s 74)), oG 76 75 true (.faddr 0 (.s 13)), oG 77 75 true (.load 1 false (.s 76)), oG 78 75 true (.iop .neq (.s 77) (.c (.lit (.int .i64 9)))), oG 79 71 false (.pick (.s 75) (.s 78) (.c (.lit (.bool false)))), oI 80 (.pick (.s 71) (.c (.lit (.bool true))) (.s 79))] [2, 4, 9, 10, 11, 80]
def a5r12 : AC := .reg [oI 6 (.mov (.c (.lit (.bool false))))] [6]
def a5r8 : AC := .reg [oI 58 (.mov (.s 11)), oI 59 (.iop .add (.s 58) (.c (.lit (.int .i64 1)))), oI 11 (.mov (.s 59))] [2, 4, 9, 10, 11]
def a5L7 : AC := .seq (.seq a5r7 (.cond (.s 57) (.skip) (.exit 0))) (.seq (.block 1 (.seq a5r9 (.seq a5r10 (.seq a5r11 (.cond (.s 80) (.seq a5r12 (.ret)) (.skip)))))) a5r8)
def a5r13 : AC := .reg [oI 81 (.load 2 true (.s 9)), oI 82 (.callv (.c (.fn 15 [])) [(.s 81)]), oI 6 (.mov (.s 82))] [6]
def a5 : AC := .seq a5r0 (.seq a5r1 (.seq a5r2 (.seq (.seq a5r3 (.cond (.s 47) (.seq a5r4 (.ret)) (.skip))) (.seq a5r5 (.seq (.seq a5r6 (.block 0 (.loop a5L7))) (.seq a5r13 (.ret)))))))
def a5R : List RD := [.tmp 6]
end Go.Proofs.YtadbdchbdjkcdaaGreatDoor.F
namespace Go.Proofs.YtadbdchbdjkcdaaGreatDoor.F
open Go Go.SX
def I5 (again : Int) (m : Cmd) (x : Sta) (a : Ans) (mm : Nat) (st : St) : Prop := ∃ i : Nat, (i : Int) ≤ again ∧ mm = again.toNat - i ∧ st = ⟨[(2, iv again), (4, .ptr 5004 0 0 0), (9, .ptr 5009 0 0 0), (10, .ptr 5010 0 0 0), (11, iv (i : Nat))], [(5004, .obj 36 (eM m)), (5009, .obj 27 (eS x)), (5010, .obj 39 (eA a))], []⟩
theorem c5 : chkFn Tryz.prog 5 83 3 a5 a5R = true := by kernel_rfl
theorem d5 (s : Sta) (m : Cmd) (again : Int) (hb : Big s) : DoesT 5 [.agg (eS s), .agg (eM m), iv again] (bv true) := by
 have h16 := d16 s hb
 obtain ⟨A0, hA0⟩ : ∃ A, fewS s = A := ⟨_, rfl⟩
 rw [hA0] at h16
 refine Does.of (nt := 83) (ac := a5) (rds := a5R) c5 (fun c hc => ?_)
 unfold a5
 apply J.seq
 refine J.regE (by simp [eS, eM, eA]; rfl) ?_
 simp
 apply J.seq
 apply J.reg
 refine runL_tree rfl (d10) (by simp) hc ?_
 simp
 refine runL_step rfl (by simp [eS, eM, eA]; rfl) ?_
 simp [runL]
 apply J.seq
 apply J.reg
 refine runL_step rfl (by simp [eS, eM, eA]; rfl) ?_
 refine runL_tree rfl (h16) (by simp) hc ?_
 simp
 refine runL_step rfl (by simp [eS, eM, eA]; rfl) ?_
 simp [runL]
 apply J.seq
 apply J.seq
 apply J.reg
 iterate 7 refine runL_step rfl (by simp [eS, eM, eA]; rfl) ?_
 refine runL_if rfl (fun g24 => ?_) (fun g24 => ?_)
 ·
  try simp only [g24]
  try simp at g24
  iterate 6 refine runL_step rfl (by simp [eS, eM, eA]; rfl) ?_
  refine runL_if rfl (fun g30 => ?_) (fun g30 => ?_)
  ·
   try simp only [g30]
   try simp at g30
   iterate 4 refine runL_step rfl (by simp [eS, eM, eA]; rfl) ?_
   refine runL_if rfl (fun g34 => ?_) (fun g34 => ?_)
   ·
    try simp only [g34]
    try simp at g34
    iterate 4 refine runL_step rfl (by simp [eS, eM, eA]; rfl) ?_
    refine runL_if rfl (fun g38 => ?_) (fun g38 => ?_)
    ·
     try simp only [g38]
     try simp at g38
     refine runL_step rfl (by simp [eS, eM, eA]; rfl) ?_
     refine runL_do (by simp) ?_
     refine runL_tree rfl (d15 s (n := 50) (by omega) (few_fit (by rw [hA0, g24]))) (by simp) hc ?_
     simp
     iterate 3 refine runL_step rfl (by simp [eS, eM, eA]; rfl) ?_
     refine runL_if rfl (fun g43 => ?_) (fun g43 => ?_)
     ·
      try simp only [g43]
      try simp at g43
      iterate 4 refine runL_step rfl (by simp [eS, eM, eA]; rfl) ?_
      simp [runL]
      refine J.condB rfl (fun h47 => ?_) (fun h47 => ?_)
      ·
       simp at h47
       apply J.seq
       refine J.regE (by simp [eS, eM, eA]; rfl) ?_
       simp
       apply J.ret
       refine ⟨by simp, rfl, _, [], by simp [a5R]; rfl, ?_⟩
       simp
      ·
       simp at h47
       have hfs := few_fit (s := s) (by rw [hA0, g24])
       have h17 := d17 s m (n := 50) (by omega) hfs
       have hfx := apply_fit (m := m) hfs (by omega)
       have hk := apply_keep (m := m) g43
       obtain ⟨b, hb1, hb2⟩ := apply_again (m := m) g43 h47
       generalize hQ : applyS s m = q at h17 hfx hk hb1 hb2
       obtain ⟨x, a⟩ := q
       simp only at h17 hfx hk hb1 hb2
       have h17b := d17 x m (n := 51) (by omega) hfx
       rw [hb1] at h17b
       simp only at h17b
       have h20 := d20 x x (n := 51) (by omega) hfx hfx
       rw [eqB_refl] at h20
       have h15 := d15 x (n := 51) (by omega) hfx
       rw [hk] at h15
       apply J.skip; simp
       apply J.seq
       apply J.reg
       iterate 2 refine runL_step rfl (by simp [eS, eM, eA]; rfl) ?_
       refine runL_tree rfl (h17) (by simp) hc ?_
       simp
       iterate 7 refine runL_step rfl (by simp [eS, eM, eA]; rfl) ?_
       simp [runL]
       apply J.seq
       apply J.seq
       refine J.regE (by simp [eS, eM, eA]; rfl) ?_
       simp
       apply J.block
       refine J.loop hc (I5 again m x a) ?_ ?_
       ·refine ⟨_, _, ?_, 0, by omega, rfl, rfl⟩
        apply le_sub <;> simp [eS, eM, eA]
       rintro n st ⟨i, hi, rfl, rfl⟩
       apply J.seq
       apply J.seq
       refine J.regE (by simp [eS, eM, eA]; rfl) ?_
       simp
       apply J.cond; simp [eS, eM, eA]
       refine ⟨fun hlt => ?_, fun hlt => ?_⟩
       ·
        have hw : IntKind.i64.wrap ((i : Int) + 1) = (i : Int) + 1 := wrap_id (by omega) (by omega)
        apply J.skip; simp
        apply J.seq
        apply J.block
        apply J.seq
        apply J.reg
        iterate 2 refine runL_step rfl (by simp [eS, eM, eA]; rfl) ?_
        refine runL_tree rfl (h17b) (by simp) hc ?_
        simp
        iterate 7 refine runL_step rfl (by simp [eS, eM, eA]; rfl) ?_
        simp [runL]
        apply J.seq
        apply J.reg
        iterate 2 refine runL_step rfl (by simp [eS, eM, eA]; rfl) ?_
        refine runL_tree rfl (h20) (by simp) hc ?_
        simp
        refine runL_step rfl (by simp [eS, eM, eA]; rfl) ?_
        simp [runL]
        apply J.seq
        apply J.reg
        iterate 7 refine runL_step rfl (by simp [eS, eM, eA]; rfl) ?_
        refine runL_if rfl (fun g75 => ?_) (fun g75 => ?_)
        ·
         try simp only [g75]
         try simp at g75
         iterate 5 refine runL_step rfl (by simp [eS, eM, eA]; rfl) ?_
         simp [runL]
         refine J.condB rfl (fun h80 => ?_) (fun h80 => ?_)
         ·
          exfalso
          simp at h80
          rcases hb2 with hb2 | hb2
          ·subst hb2; simp at g75
          ·exact h80 hb2
         ·
          skip
          apply J.skip; simp
          refine J.regE (by simp [eS, eM, eA, hw]; rfl) ?_
          simp
          refine ⟨_, ?_, _, ?_, i + 1, by omega, rfl, rfl⟩
          ·omega
          apply le_sub <;> simp [eS, eM, eA]
        ·
         try simp only [g75]
         try simp at g75
         iterate 4 refine runL_step rfl (by simp [eS, eM, eA]; rfl) ?_
         simp [runL]
         apply J.cond; simp [eS, eM, eA]
         apply J.skip; simp
         refine J.regE (by simp [eS, eM, eA, hw]; rfl) ?_
         simp
         refine ⟨_, ?_, _, ?_, i + 1, by omega, rfl, rfl⟩
         ·omega
         apply le_sub <;> simp [eS, eM, eA]
       ·
        apply J.exit; simp
        apply J.seq
        apply J.reg
        refine runL_step rfl (by simp [eS, eM, eA]; rfl) ?_
        refine runL_tree rfl (h15) (by simp) hc ?_
        simp
        refine runL_step rfl (by simp [eS, eM, eA]; rfl) ?_
        simp [runL]
        apply J.ret
        refine ⟨by simp, rfl, _, [], by simp [a5R]; rfl, ?_⟩
        simp
     ·
      try simp only [g43]
      try simp at g43
      iterate 3 refine runL_step rfl (by simp [eS, eM, eA]; rfl) ?_
      simp [runL]
      apply J.cond; simp [eS, eM, eA]
      apply J.seq
      refine J.regE (by simp [eS, eM, eA]; rfl) ?_
      simp
      apply J.ret
      refine ⟨by simp, rfl, _, [], by simp [a5R]; rfl, ?_⟩
      simp
    ·
     try simp only [g38]
     try simp at g38
     refine runL_pass (b := _) rfl (by simp) ?_
     simp
     iterate 7 refine runL_step rfl (by simp [eS, eM, eA]; rfl) ?_
     simp [runL]
     apply J.cond; simp [eS, eM, eA]
     apply J.seq
     refine J.regE (by simp [eS, eM, eA]; rfl) ?_
     simp
     apply J.ret
     refine ⟨by simp, rfl, _, [], by simp [a5R]; rfl, ?_⟩
     simp
   ·
    try simp only [g34]
    try simp at g34
    iterate 4 refine runL_step rfl (by simp [eS, eM, eA]; rfl) ?_
    refine runL_pass (b := _) rfl (by simp) ?_
    simp
    iterate 7 refine runL_step rfl (by simp [eS, eM, eA]; rfl) ?_
    simp [runL]
    apply J.cond; simp [eS, eM, eA]
    apply J.seq
    refine J.regE (by simp [eS, eM, eA]; rfl) ?_
    simp
    apply J.ret
    refine ⟨by simp, rfl, _, [], by simp [a5R]; rfl, ?_⟩
    simp
  ·
   try simp only [g30]
   try simp at g30
   iterate 8 refine runL_step rfl (by simp [eS, eM, eA]; rfl) ?_
   refine runL_pass (b := _) rfl (by simp) ?_
   simp
   iterate 7 refine runL_step rfl (by simp [eS, eM, eA]; rfl) ?_
   simp [runL]
   apply J.cond; simp [eS, eM, eA]
   apply J.seq
   refine J.regE (by simp [eS, eM, eA]; rfl) ?_
   simp
   apply J.ret
   refine ⟨by simp, rfl, _, [], by simp [a5R]; rfl, ?_⟩
   simp
 ·
  try simp only [g24]
  try simp at g24
  iterate 14 refine runL_step rfl (by simp [eS, eM, eA]; rfl) ?_
  refine runL_pass (b := _) rfl (by simp) ?_
  simp
  iterate 7 refine runL_step rfl (by simp [eS, eM, eA]; rfl) ?_
  simp [runL]
  apply J.cond; simp [eS, eM, eA]
  apply J.seq
  refine J.regE (by simp [eS, eM, eA]; rfl) ?_
  simp
  apply J.ret
  refine ⟨by simp, rfl, _, [], by simp [a5R]; rfl, ?_⟩
  simp
end Go.Proofs.YtadbdchbdjkcdaaGreatDoor.F
