/- Chapter 11: GraphLine. Printed by walk.py from g16.walk.py. -/
import Derived.Test.YthccfgkklimebaaLine
import Derived.Test.YthccfgkklimebaaD15
set_option linter.unusedVariables false
set_option linter.unusedSimpArgs false
namespace Go.Proofs.Ythccfgkklimebaa.F
open Go Go.SX
def I8 (m : Nat) (k : Nat) (st : St) : Prop := ∃ i : Nat, i + 1 ≤ m ∧ k = m - i ∧ st = ⟨[(0, iv (m : Nat)), (4, .own 8033 2 0 (line i).length), (5, iv i)], [(8033, .arr 33 2 (eds (line i)))], []⟩
def I8b (m : Nat) (k : Nat) (st : St) : Prop := ∃ i : Nat, i ≤ m ∧ k = m - i ∧ st = ⟨[(0, iv (m : Nat)), (6, .ro 1 (rws ((List.range m).map fun k => [m - 1 - k]))), (7, .ro 1 (rws [List.range m])), (8, iv i)], [], []⟩

theorem c8 : chkFn Try.prog 8 97 1 a8 a8R = true := by kernel_rfl
set_option maxHeartbeats 8000000 in
/-- colloquy/colloquylaw11.GraphLine -/
theorem d8 (n : Int) : DoesT 8 [iv n] (bv true) := by
  refine Does.of (nt := 97) (ac := a8) (rds := a8R) c8 (fun c hc => ?_)
  unfold a8
  apply J.seq
  refine J.regE (by simp; rfl) ?_
  simp
  apply J.seq
  apply J.reg
  refine runL_tree rfl (d10) (by simp) hc ?_
  simp
  refine runL_step rfl (by simp; rfl) ?_
  simp [runL]
  apply J.seq
  apply J.seq
  rcases (show ((n < 1)) ∨ (¬ (n < 1) ∧ (30 < n)) ∨ (¬ (n < 1) ∧ ¬ (30 < n)) by omega) with q0 | ⟨q0, q1⟩ | ⟨q0, q1⟩
  ·
    apply J.reg
    iterate 10 refine runL_step rfl (by simp [q0]; rfl) ?_
    simp [runL]
    apply J.cond; simp
    apply J.seq
    refine J.regE (by simp; rfl) ?_
    simp
    apply J.ret
    refine ⟨by simp, rfl, _, [], by simp [a8R]; rfl, ?_⟩
    simp
  ·
    apply J.reg
    iterate 10 refine runL_step rfl (by simp [q0, q1]; rfl) ?_
    simp [runL]
    apply J.cond; simp
    apply J.seq
    refine J.regE (by simp; rfl) ?_
    simp
    apply J.ret
    refine ⟨by simp, rfl, _, [], by simp [a8R]; rfl, ?_⟩
    simp
  ·
    apply J.reg
    iterate 10 refine runL_step rfl (by simp [q0, q1]; rfl) ?_
    simp [runL]
    apply J.cond; simp
    apply J.skip; simp
    apply J.seq
    obtain ⟨m, rfl⟩ := Int.eq_ofNat_of_zero_le (by omega : 0 ≤ n)
    have h1 : 1 ≤ m := by omega
    have h2 : m ≤ 30 := by omega
    refine J.regE (by simp; rfl) ?_
    simp
    refine J.nilrow hc 4 8033 33 rfl rfl rfl ?_
    simp
    apply J.seq
    apply J.seq
    refine J.regE (by simp; rfl) ?_
    simp
    apply J.block
    refine J.loop hc (I8 m) ?_ ?_
    · refine ⟨_, _, ?_, 0, by omega, rfl, rfl⟩
      apply le_sub <;> simp [line]
    rintro n st ⟨i, hi, rfl, rfl⟩
    apply J.seq
    apply J.seq
    have hw : IntKind.i64.wrap ((i : Int) + 1) = i + 1 := wrap_id (by omega) (by omega)
    have hll := line_length i
    refine J.regE (by simp [hw]; rfl) ?_
    simp
    apply J.cond; simp
    refine ⟨fun hlt => ?_, fun hlt => ?_⟩
    ·
      apply J.skip; simp
      apply J.seq
      apply J.block
      refine J.regE (by simp [hw, List.take_of_length_le, show ((line i).length + 1) * 16 ≤ 140737488355328 from by omega]; rfl) ?_
      simp
      refine J.regE (by simp [hw]; rfl) ?_
      simp
      refine ⟨_, ?_, _, ?_, i + 1, by omega, rfl, rfl⟩
      · omega
      · apply le_sub <;> simp [line_succ]
    ·
      have him : i = m - 1 := by omega
      subst him
      have hmw : IntKind.i64.wrap ((m : Int) - 1) = ((m - 1 : Nat) : Int) := by rw [wrap_id (by omega) (by omega)]; omega
      apply J.exit; simp
      apply J.seq
      apply J.reg
      iterate 2 refine runL_step rfl (by simp; rfl) ?_
      refine runL_call [8033] [8033] rfl rfl (d12o (m : Int) (line (m - 1)) (by omega)) (by simp) (by simp) (by simp) hc ?_
      rintro rv m1 ⟨rfl, rfl⟩
      refine ⟨by simp, ?_⟩
      rw [line_comps h1 h2]
      simp
      refine runL_step rfl (by simp; rfl) ?_
      simp [runL]
      apply J.seq
      refine J.regE (by simp [hmw, List.take_of_length_le, show ((line (m - 1)).length + 1) * 16 ≤ 140737488355328 from by omega]; rfl) ?_
      simp
      apply J.seq
      apply J.reg
      iterate 2 refine runL_step rfl (by simp; rfl) ?_
      refine runL_freeze hc 8033 rfl ?_
      simp [List.take_of_length_le]
      refine runL_tree (args := [iv (m : Nat), .ro 2 (eds (cyc m))]) rfl (d12 (m : Int) (cyc m) (by simp [cyc]; omega)) (by simp) hc ?_
      rw [cyc_comps h1 h2]
      simp
      refine runL_step rfl (by simp; rfl) ?_
      simp [runL]
      apply J.seq
      apply J.seq
      apply J.reg
      iterate 17 refine runL_step rfl (by simp [rws, nats]; rfl) ?_
      simp [runL]
      apply J.cond; simp
      apply J.skip; simp
      apply J.seq
      apply J.seq
      refine J.regE (by simp; rfl) ?_
      simp
      apply J.block
      refine J.loop hc (I8b m) ?_ ?_
      · refine ⟨_, _, ?_, 0, by omega, rfl, rfl⟩
        apply le_sub <;> simp [rws, nats]
      rintro n st ⟨i, hi, rfl, rfl⟩
      apply J.seq
      apply J.seq
      refine J.regE (by simp; rfl) ?_
      simp
      apply J.cond; simp
      refine ⟨fun hlt => ?_, fun hlt => ?_⟩
      ·
        have hw : IntKind.i64.wrap ((i : Int) + 1) = i + 1 := wrap_id (by omega) (by omega)
        have hmw : IntKind.i64.wrap ((m : Int) - 1) = ((m - 1 : Nat) : Int) := by rw [wrap_id (by omega) (by omega)]; omega
        have hmi : IntKind.i64.wrap (((m - 1 : Nat) : Int) - i) = ((m - 1 - i : Nat) : Int) := by rw [wrap_id (by omega) (by omega)]; omega
        apply J.skip; simp
        apply J.seq
        apply J.block
        apply J.seq
        apply J.reg
        iterate 29 refine runL_step rfl (by simp [hlt, hmw, hmi]; rfl) ?_
        simp [runL]
        apply J.cond; simp
        apply J.skip; simp
        refine J.regE (by simp [hw]; rfl) ?_
        simp
        refine ⟨_, ?_, _, ?_, i + 1, by omega, rfl, rfl⟩
        · omega
        · apply le_sub <;> simp
      ·
        apply J.exit; simp
        apply J.seq
        refine J.regE (by simp; rfl) ?_
        simp
        apply J.ret
        refine ⟨by simp, rfl, _, [], by simp [a8R]; rfl, ?_⟩
        simp

end Go.Proofs.Ythccfgkklimebaa.F
