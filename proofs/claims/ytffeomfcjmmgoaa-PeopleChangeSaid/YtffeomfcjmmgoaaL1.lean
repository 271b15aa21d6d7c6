/- Chapter 15: slices.Clone, slices.Insert, slices.Delete at []int. -/
import Derived.Test.YtffeomfcjmmgoaaSxO
import Derived.Test.YtffeomfcjmmgoaaCode
import Derived.Test.YtffeomfcjmmgoaaProg
import Derived.KernelRfl
set_option linter.unusedVariables false
set_option linter.unusedSimpArgs false
namespace Go.Proofs.Ytffeomfcjmmgoaa.F
open Go Go.SX
attribute [simp] ownAt asOwn boundc

theorem c22 : chkFn Try.prog 22 95 3 a22 a22R = true := by kernel_rfl
theorem c23 : chkFn Try.prog 23 8 1 a23 a23R = true := by kernel_rfl
theorem c26 : chkFn Try.prog 26 33 3 a26 a26R = true := by kernel_rfl

theorem d23 (es : List (List AV)) (hn : es.length < 1000000) : Does Try.prog 23 [.ro 1 es] [] [] (fun r m => r = .nils 1 ∧ m = [] ∧ es = [] ∨ r = .own 23005 1 0 es.length ∧ m = [(23005, .arr 3 1 es)]) := by
  refine Does.of (nt := 8) (ac := a23) (rds := a23R) c23 (fun c hc => ?_)
  unfold a23
  apply J.seq; refine J.regE (by simp; rfl) ?_
  simp
  apply J.seq; apply J.seq; refine J.regC (by simp; exact ⟨rfl, rfl⟩) ?_
  refine runL_ext (extK_isnil (sz := 1) (es := es) (by simp) (fun t ht => ?_))
  refine runL_end (by simp; rfl) ?_
  simp
  apply J.cond; simp
  refine ⟨fun hb => ?_, fun hb => ?_⟩
  · apply J.seq; refine J.regE (by simp; rfl) ?_
    simp
    apply J.ret
    refine ⟨by simp, rfl, _, [], by simp [a23R]; rfl, ?_⟩
    simp [ht hb]
  · apply J.skip; simp
    apply J.seq; refine J.regE (by simp [show es.length * 8 ≤ 140737488355328 from by omega]; rfl) ?_
    simp
    apply J.ret
    refine ⟨by simp, rfl, _, [(23005, .arr 3 1 es)], by simp [a23R]; rfl, ?_⟩
    simp

theorem d22 (es : List (List AV)) (e : List AV) (i : Nat) (hi : i ≤ es.length) (hn : es.length < 1000000) :
    Does Try.prog 22 [.own 23005 1 0 es.length, iv i, .own 9040 1 0 1] [(23005, .arr 3 1 es), (9040, .arr 3 1 [e])] [] (fun r m => ∃ b, (b = 23005 ∨ b = 22040) ∧ r = .own b 1 0 (es.length + 1) ∧ m = [(b, .arr 3 1 (es.take i ++ [e] ++ es.drop i))]) := by
  refine Does.of (nt := 95) (ac := a22) (rds := a22R) c22 (fun c hc => ?_)
  unfold a22
  have hi' : (i : Int) ≤ (es.length : Int) := by omega
  have hw1 : IntKind.i64.wrap ((es.length : Int) + 1) = es.length + 1 := wrap_id (by omega) (by omega)
  apply J.seq; refine J.regE (by simp; rfl) ?_
  simp
  apply J.seq; refine J.regE (by simp [hi']; rfl) ?_
  simp
  apply J.seq; refine J.regE (by simp; rfl) ?_
  simp
  apply J.seq; apply J.seq; refine J.regE (by simp; rfl) ?_
  simp
  apply J.cond; simp
  apply J.skip; simp
  apply J.seq; refine J.regE (by simp; rfl) ?_
  simp
  apply J.seq; apply J.seq; refine J.regE (by simp; rfl) ?_
  simp
  apply J.cond; simp
  refine ⟨fun hb => ?_, fun hb => ?_⟩
  · apply J.seq; refine J.regE (by simp [show (es.length + 1) * 8 ≤ 140737488355328 from by omega]; rfl) ?_
    simp
    apply J.ret
    refine ⟨by simp, rfl, _, [(23005, .arr 3 1 (es ++ [e]))], by simp [a22R]; rfl, ?_⟩
    have : i = es.length := by omega
    subst this
    simp
  have hin : i < es.length := by omega
  apply J.skip; simp
  refine J.reveal (s := 0) rfl (by omega) (fun cap hcap => ?_)
  apply J.seq; apply J.seq; refine J.regC (by simp [hw1]; exact ⟨rfl, rfl⟩) ?_
  refine runL_ext (extK_cap (by simp; exact ⟨rfl, rfl, rfl, rfl, rfl⟩) ?_)
  refine runL_end (by simp; rfl) ?_
  simp
  apply J.cond; simp
  refine ⟨fun hgr => ?_, fun hrm => ?_⟩
  · have hwi : IntKind.i64.wrap ((es.length : Int) + 1 - i) = (es.length + 1 - i : Nat) := by rw [wrap_id (by omega) (by omega)]; omega
    have hcap0 : 0 < cap := by omega
    have hic : i < cap := by omega
    have hi1 : i + 1 ≤ es.length + 1 := by omega
    have hwp : IntKind.i64.wrap ((i : Int) + 1) = (i + 1 : Nat) := by rw [wrap_id (by omega) (by omega)]; omega
    apply J.seq; refine J.regC (by simp [hw1, hwi, show i ≤ cap from by omega, hcap0]; exact ⟨rfl, rfl⟩) ?_
    refine runL_ext (extK_appendZeros (id := 22040) (m := es.length + 1 - i) rfl rfl rfl (by omega) (by omega) (by omega) (by omega) rfl rfl trivial ?_)
    refine runL_end (by simp; rfl) ?_
    simp [show i + (es.length + 1 - i) = es.length + 1 from by omega]
    apply J.seq; refine J.regC (by simp [show (i : Int) ≤ (es.length : Int) + 1 from by omega]; exact ⟨rfl, rfl⟩) ?_
    refine runL_ext (extK_copy (m := 1) rfl rfl rfl rfl rfl rfl (by omega) (by omega) (by simp; omega) (by simp) trivial ?_)
    refine runL_end (by simp; rfl) ?_
    simp
    apply J.seq
    refine J.drawC (by simp [hwp, hic, hi1, show (0 : Int) ≤ (i : Int) + 1 from by omega, show (i : Int) + 1 ≤ (es.length : Int) + 1 from by omega, show (i : Int) ≤ (es.length : Int) from by omega]; exact ⟨rfl, rfl⟩) (fun c' _ => ?_)
    refine runP_ext (extK_copy (m := es.length - i) rfl rfl rfl rfl rfl rfl (by omega) (by omega) (by simp; omega) (by omega) (by simp) ?_)
    refine runP_end (by simp; rfl) ?_
    have g1 : (es.take i).drop (i + 1) = [] := List.drop_of_length_le (by simp; omega)
    have g2 : (es.take i ++ [e]).take (i + 1) = es.take i ++ [e] := List.take_of_length_le (by simp; omega)
    have g3 : (es.take i ++ [e]).drop (i + 1 + (es.length - i)) = [] := List.drop_of_length_le (by simp; omega)
    have g4 : (es.drop i).take (es.length - i) = es.drop i := List.take_of_length_le (by simp)
    have g0 : (es.take i).take i = es.take i := by rw [List.take_take, Nat.min_self]
    simp only [g0] at g1 g2 g3 ⊢
    simp [g0, g1, g2, g3, g4]
    apply J.seq; refine J.regE (by simp; rfl) ?_
    simp
    apply J.ret
    refine ⟨by simp, rfl, _, [(22040, .arr 3 1 (es.take i ++ [e] ++ es.drop i))], by simp [a22R]; rfl, ?_⟩
    simp
  · have hi1 : i + 1 ≤ es.length + 1 := by omega
    have hwp : IntKind.i64.wrap ((i : Int) + 1) = (i + 1 : Nat) := by rw [wrap_id (by omega) (by omega)]; omega
    have hcr : es.length + 1 ≤ cap := by omega
    apply J.skip; simp
    apply J.seq; refine J.regE (by simp [hw1, hcr, show (0 : Int) ≤ (es.length : Int) + 1 from by omega, show (es.length : Int) + 1 ≤ (cap : Int) from by omega, show 0 < cap from by omega]; rfl) ?_
    simp
    apply J.seq; apply J.seq; refine J.regC (by simp [hwp, show (0 : Int) ≤ (i : Int) + 1 from by omega, show (i : Int) + 1 ≤ (es.length : Int) + 1 from by omega, show i + 1 < cap from by omega]; exact ⟨rfl, rfl⟩) ?_
    refine runL_ext (extK_overlaps (fn := Try.f30) (tS := 22) (tR := 4) (e := 3) (by kernel_rfl) (by kernel_rfl) (by kernel_rfl) (by kernel_rfl) (by kernel_rfl) (by kernel_rfl) (by kernel_rfl) rfl rfl rfl rfl (by omega) (by omega) (by omega) rfl rfl (by omega) ?_)
    refine runL_end (by simp; rfl) ?_
    simp
    apply J.cond; simp
    apply J.seq
    refine J.drawC (by simp [hwp, show (0 : Int) ≤ (i : Int) + 1 from by omega, show (i : Int) + 1 ≤ (es.length : Int) + 1 from by omega, show i + 1 < cap from by omega, show (i : Int) ≤ (es.length : Int) + 1 from by omega, show i < cap from by omega]; exact ⟨rfl, rfl⟩) (fun c' _ => ?_)
    refine runP_ext (extK_copy (m := es.length - i) rfl rfl rfl rfl rfl rfl (by omega) (by omega) (by omega) (by omega) (by simp) ?_)
    refine runP_end (by simp; rfl) ?_
    have g1 : es.drop (i + 1 + (es.length - i)) = [] := List.drop_of_length_le (by omega)
    have g4 : (es.drop i).take (es.length - i) = es.drop i := List.take_of_length_le (by simp)
    simp [g1, g4]
    apply J.seq; refine J.regC (by simp [show (i : Int) ≤ (es.length : Int) + 1 from by omega, show i < cap from by omega]; exact ⟨rfl, rfl⟩) ?_
    refine runL_ext (extK_copy (m := 1) rfl rfl rfl rfl rfl rfl (by omega) (by omega) (by simp; omega) (by simp) trivial ?_)
    refine runL_end (by simp; rfl) ?_
    have g5 : (es.take (i + 1) ++ es.drop i).take i = es.take i := by rw [List.take_append_of_le_length (by simp; omega), List.take_take]; congr 1; omega
    have g6 : (es.take (i + 1) ++ es.drop i).drop (i + 1) = es.drop i := by rw [List.drop_append_of_le_length (by simp; omega), List.drop_of_length_le (by simp; omega)]; rfl
    simp [g5, g6]
    apply J.seq; refine J.regE (by simp; rfl) ?_
    simp
    refine J.le hc (le_own (st := ⟨[], _, _⟩) 6 23005 1 0 (es.length + 1) cap) ?_
    apply J.ret
    refine ⟨by simp, rfl, _, [(23005, .arr 3 1 (es.take i ++ [e] ++ es.drop i))], by simp [a22R]; rfl, ?_⟩
    simp

theorem d26 (es : List (List AV)) (i : Nat) (hi : i < es.length) (hn : es.length < 1000000) :
    Does Try.prog 26 [.own 23005 1 0 es.length, iv i, iv ((i : Int) + 1)] [(23005, .arr 3 1 es)] [] (fun r m => r = .own 23005 1 0 (es.length - 1) ∧ m = [(23005, .arr 3 1 (es.take i ++ es.drop (i + 1)))]) := by
  refine Does.of (nt := 33) (ac := a26) (rds := a26R) c26 (fun c hc => ?_)
  unfold a26
  apply J.seq; refine J.regE (by simp; rfl) ?_
  simp
  refine J.reveal (s := 0) rfl (by omega) (fun cap hcap => ?_)
  apply J.seq; refine J.regC (by simp; exact ⟨rfl, rfl⟩) ?_
  refine runL_ext (extK_slice3 (L := i) (H := i + 1) (M := es.length) rfl rfl (by omega) rfl rfl rfl (by omega) (by omega) (by omega) ?_)
  refine runL_end (by simp; rfl) ?_
  simp
  apply J.seq; apply J.seq; refine J.regE (by simp; rfl) ?_
  simp
  apply J.cond; simp
  refine ⟨fun h => by omega, fun _ => ?_⟩
  apply J.skip; simp
  apply J.seq; refine J.regE (by simp; rfl) ?_
  simp
  apply J.seq
  have hdl : (es.drop (i + 1)).length = es.length - (i + 1) := by simp
  have hrow : ∀ (s : St), SX.look s.mem 23005 = some (.arr 3 1 es) → rowOf s (.own 23005 1 (i + 1) (es.length - (i + 1))) = some (es.drop (i + 1)) := by
    rintro s hm
    simp only [rowOf, hm]
    rw [if_pos ⟨trivial, by omega⟩, List.take_of_length_le (by omega)]
  have hrow0 : ∀ (s : St), SX.look s.mem 23005 = some (.arr 3 1 es) → rowOf s (.own 23005 1 (i + 1) 0) = some [] := by
    rintro s hm
    simp only [rowOf, hm]
    rw [if_pos ⟨trivial, by omega⟩, List.take_zero]
  have hend : J Try.prog 33 c (a26r6.seq (a26r7.seq AC.ret)) ⟨[(0, .ownc 23005 1 0 (es.length - 1) cap), (7, iv es.length)], [(23005, .arr 3 1 (es.take i ++ (es.drop (i + 1) ++ es.drop (es.length - 1))))], []⟩ (doneQ [] a26R fun r m => r = .own 23005 1 0 (es.length - 1) ∧ m = [(23005, .arr 3 1 (es.take i ++ es.drop (i + 1)))]) := by
    apply J.seq; refine J.regC (by simp [show (es.length - 1 : Nat) < cap from by omega, show es.length - 1 ≤ es.length from by omega, show (es.length : Int) ≤ (cap : Int) from by omega]; exact ⟨rfl, rfl⟩) ?_
    refine runL_ext (extK_clear rfl rfl (by omega) rfl trivial ?_)
    refine runL_end (by simp; rfl) ?_
    simp
    apply J.seq; refine J.regE (by simp; rfl) ?_
    simp
    refine J.le hc (le_own (st := ⟨[], _, _⟩) 6 23005 1 0 (es.length - 1) cap) ?_
    apply J.ret
    refine ⟨by simp, rfl, _, [(23005, .arr 3 1 (es.take i ++ es.drop (i + 1)))], by simp [a26R]; rfl, ?_⟩
    simp
    rw [← List.append_assoc, List.take_append_of_le_length (by simp; omega), List.take_of_length_le (by simp; omega)]
  by_cases hj : i + 1 < cap
  · refine J.drawC (by simp [hj, show (0 : Int) ≤ (i : Int) + 1 from by omega, show (i : Int) + 1 ≤ (es.length : Int) from by omega, show (i : Int) ≤ (cap : Int) from by omega, show 0 < cap from by omega]; exact ⟨rfl, rfl⟩) (fun c' _ => ?_)
    refine runP_ext (extK_appendRoom (ys := es.drop (i + 1)) rfl rfl (hrow _ rfl) (.inr rfl) rfl (by rw [hdl]; omega) (by omega) (by simp) ?_)
    refine runP_end (by simp; rfl) ?_
    simp [show i + (es.length - (i + 1)) = es.length - 1 from by omega]
    exact hend
  · refine J.drawC (by simp [hj, show (0 : Int) ≤ (i : Int) + 1 from by omega, show (i : Int) + 1 ≤ (es.length : Int) from by omega, show (i : Int) ≤ (cap : Int) from by omega, show 0 < cap from by omega]; exact ⟨rfl, rfl⟩) (fun c' _ => ?_)
    refine runP_ext (extK_appendRoom (ys := []) rfl rfl (hrow0 _ rfl) (.inl rfl) rfl (by simp; omega) (by omega) (by simp) ?_)
    refine runP_end (by simp; rfl) ?_
    have g1 : es.drop (i + 1) = [] := List.drop_of_length_le (by omega)
    have g2 : es.length - 1 = i := by omega
    rw [g1, g2] at hend
    simp at hend
    simp [g1, g2]
    exact hend
end Go.Proofs.Ytffeomfcjmmgoaa.F
