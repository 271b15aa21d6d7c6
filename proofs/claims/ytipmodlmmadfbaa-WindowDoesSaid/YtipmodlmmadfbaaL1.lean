/- Chapter 17: slices.Clone, slices.Insert at []api.Told. -/
import Derived.Test.YtipmodlmmadfbaaSxO
import Derived.Test.YtipmodlmmadfbaaCode
import Derived.Test.YtipmodlmmadfbaaProg
import Derived.KernelRfl
set_option linter.unusedVariables false
set_option linter.unusedSimpArgs false
namespace Go.Proofs.Ytipmodlmmadfbaa.F
open Go Go.SX
attribute [simp] ownAt asOwn boundc

theorem c18 : chkFn Try.prog 18 95 3 a18 a18R = true := by kernel_rfl
theorem c19 : chkFn Try.prog 19 8 1 a19 a19R = true := by kernel_rfl

theorem d19 (es : List (List AV)) (hn : es.length < 1000000) : Does Try.prog 19 [.ro 4 es] [] [] (fun r m => r = .nils 4 ∧ m = [] ∧ es = [] ∨ r = .own 19005 4 0 es.length ∧ m = [(19005, .arr 42 4 es)]) := by
  refine Does.of (nt := 8) (ac := a19) (rds := a19R) c19 (fun c hc => ?_)
  unfold a19
  apply J.seq; refine J.regE (by simp; rfl) ?_
  simp
  apply J.seq; apply J.seq; refine J.regC (by simp; exact ⟨rfl, rfl⟩) ?_
  refine runL_ext (extK_isnil (sz := 4) (es := es) (by simp) (fun t ht => ?_))
  refine runL_end (by simp; rfl) ?_
  simp
  apply J.cond; simp
  refine ⟨fun hb => ?_, fun hb => ?_⟩
  · apply J.seq; refine J.regE (by simp; rfl) ?_
    simp
    apply J.ret
    refine ⟨by simp, rfl, _, [], by simp [a19R]; rfl, ?_⟩
    simp [ht hb]
  · apply J.skip; simp
    apply J.seq; refine J.regE (by simp [show es.length * 40 ≤ 140737488355328 from by omega]; rfl) ?_
    simp
    apply J.ret
    refine ⟨by simp, rfl, _, [(19005, .arr 42 4 es)], by simp [a19R]; rfl, ?_⟩
    simp

theorem d18 (es : List (List AV)) (e : List AV) (i : Nat) (hi : i ≤ es.length) (hn : es.length < 1000000) :
    Does Try.prog 18 [.own 19005 4 0 es.length, iv i, .own 12042 4 0 1] [(19005, .arr 42 4 es), (12042, .arr 42 4 [e])] [] (fun r m => ∃ b, (b = 19005 ∨ b = 18040) ∧ r = .own b 4 0 (es.length + 1) ∧ m = [(b, .arr 42 4 (es.take i ++ [e] ++ es.drop i))]) := by
  refine Does.of (nt := 95) (ac := a18) (rds := a18R) c18 (fun c hc => ?_)
  unfold a18
  have hi' : (i : Int) ≤ (es.length : Int) := by omega
  have hw1 : IntKind.i64.wrap ((es.length : Int) + 1) = es.length + 1 := wrap_id (by omega) (by omega)
  apply J.seq; refine J.regE (by simp; rfl) ?_
  simp
  apply J.seq; refine J.regE (by simp [hi']; rfl) ?_
  simp
  apply J.seq; refine J.regE (by simp; rfl) ?_
  simp
  apply J.seq; apply J.seq; refine J.regE (by simp; rfl) ?_
  simp
  apply J.cond; simp
  apply J.skip; simp
  apply J.seq; refine J.regE (by simp; rfl) ?_
  simp
  apply J.seq; apply J.seq; refine J.regE (by simp; rfl) ?_
  simp
  apply J.cond; simp
  refine ⟨fun hb => ?_, fun hb => ?_⟩
  · apply J.seq; refine J.regE (by simp [show (es.length + 1) * 40 ≤ 140737488355328 from by omega]; rfl) ?_
    simp
    apply J.ret
    refine ⟨by simp, rfl, _, [(19005, .arr 42 4 (es ++ [e]))], by simp [a18R]; rfl, ?_⟩
    have : i = es.length := by omega
    subst this
    simp
  have hin : i < es.length := by omega
  apply J.skip; simp
  refine J.reveal (s := 0) rfl (by omega) (fun cap hcap => ?_)
  apply J.seq; apply J.seq; refine J.regC (by simp [hw1]; exact ⟨rfl, rfl⟩) ?_
  refine runL_ext (extK_cap (by simp; exact ⟨rfl, rfl, rfl, rfl, rfl⟩) ?_)
  refine runL_end (by simp; rfl) ?_
  simp
  apply J.cond; simp
  refine ⟨fun hgr => ?_, fun hrm => ?_⟩
  · have hwi : IntKind.i64.wrap ((es.length : Int) + 1 - i) = (es.length + 1 - i : Nat) := by rw [wrap_id (by omega) (by omega)]; omega
    have hcap0 : 0 < cap := by omega
    have hic : i < cap := by omega
    have hi1 : i + 1 ≤ es.length + 1 := by omega
    have hwp : IntKind.i64.wrap ((i : Int) + 1) = (i + 1 : Nat) := by rw [wrap_id (by omega) (by omega)]; omega
    apply J.seq; refine J.regC (by simp [hw1, hwi, show i ≤ cap from by omega, hcap0]; exact ⟨rfl, rfl⟩) ?_
    refine runL_ext (extK_appendZeros (id := 18040) (m := es.length + 1 - i) rfl rfl rfl (by omega) (by omega) (by omega) (by omega) rfl rfl trivial ?_)
    refine runL_end (by simp; rfl) ?_
    simp [show i + (es.length + 1 - i) = es.length + 1 from by omega]
    apply J.seq; refine J.regC (by simp [show (i : Int) ≤ (es.length : Int) + 1 from by omega]; exact ⟨rfl, rfl⟩) ?_
    refine runL_ext (extK_copy (m := 1) rfl rfl rfl rfl rfl rfl (by omega) (by omega) (by simp; omega) (by simp) trivial ?_)
    refine runL_end (by simp; rfl) ?_
    simp
    apply J.seq
    refine J.drawC (by simp [hwp, hic, hi1, show (0 : Int) ≤ (i : Int) + 1 from by omega, show (i : Int) + 1 ≤ (es.length : Int) + 1 from by omega, show (i : Int) ≤ (es.length : Int) from by omega]; exact ⟨rfl, rfl⟩) (fun c' _ => ?_)
    refine runP_ext (extK_copy (m := es.length - i) rfl rfl rfl rfl rfl rfl (by omega) (by omega) (by simp; omega) (by omega) (by simp) ?_)
    refine runP_end (by simp; rfl) ?_
    have g1 : (es.take i).drop (i + 1) = [] := List.drop_of_length_le (by simp; omega)
    have g2 : (es.take i ++ [e]).take (i + 1) = es.take i ++ [e] := List.take_of_length_le (by simp; omega)
    have g3 : (es.take i ++ [e]).drop (i + 1 + (es.length - i)) = [] := List.drop_of_length_le (by simp; omega)
    have g4 : (es.drop i).take (es.length - i) = es.drop i := List.take_of_length_le (by simp)
    have g0 : (es.take i).take i = es.take i := by rw [List.take_take, Nat.min_self]
    simp only [g0] at g1 g2 g3 ⊢
    simp [g0, g1, g2, g3, g4]
    apply J.seq; refine J.regE (by simp; rfl) ?_
    simp
    apply J.ret
    refine ⟨by simp, rfl, _, [(18040, .arr 42 4 (es.take i ++ [e] ++ es.drop i))], by simp [a18R]; rfl, ?_⟩
    simp
  · have hi1 : i + 1 ≤ es.length + 1 := by omega
    have hwp : IntKind.i64.wrap ((i : Int) + 1) = (i + 1 : Nat) := by rw [wrap_id (by omega) (by omega)]; omega
    have hcr : es.length + 1 ≤ cap := by omega
    apply J.skip; simp
    apply J.seq; refine J.regE (by simp [hw1, hcr, show (0 : Int) ≤ (es.length : Int) + 1 from by omega, show (es.length : Int) + 1 ≤ (cap : Int) from by omega, show 0 < cap from by omega]; rfl) ?_
    simp
    apply J.seq; apply J.seq; refine J.regC (by simp [hwp, show (0 : Int) ≤ (i : Int) + 1 from by omega, show (i : Int) + 1 ≤ (es.length : Int) + 1 from by omega, show i + 1 < cap from by omega]; exact ⟨rfl, rfl⟩) ?_
    refine runL_ext (extK_overlaps (fn := Try.f23) (tS := 22) (tR := 4) (e := 42) (by kernel_rfl) (by kernel_rfl) (by kernel_rfl) (by kernel_rfl) (by kernel_rfl) (by kernel_rfl) (by kernel_rfl) rfl rfl rfl rfl (by omega) (by omega) (by omega) rfl rfl (by omega) ?_)
    refine runL_end (by simp; rfl) ?_
    simp
    apply J.cond; simp
    apply J.seq
    refine J.drawC (by simp [hwp, show (0 : Int) ≤ (i : Int) + 1 from by omega, show (i : Int) + 1 ≤ (es.length : Int) + 1 from by omega, show i + 1 < cap from by omega, show (i : Int) ≤ (es.length : Int) + 1 from by omega, show i < cap from by omega]; exact ⟨rfl, rfl⟩) (fun c' _ => ?_)
    refine runP_ext (extK_copy (m := es.length - i) rfl rfl rfl rfl rfl rfl (by omega) (by omega) (by omega) (by omega) (by simp) ?_)
    refine runP_end (by simp; rfl) ?_
    have g1 : es.drop (i + 1 + (es.length - i)) = [] := List.drop_of_length_le (by omega)
    have g4 : (es.drop i).take (es.length - i) = es.drop i := List.take_of_length_le (by simp)
    simp [g1, g4]
    apply J.seq; refine J.regC (by simp [show (i : Int) ≤ (es.length : Int) + 1 from by omega, show i < cap from by omega]; exact ⟨rfl, rfl⟩) ?_
    refine runL_ext (extK_copy (m := 1) rfl rfl rfl rfl rfl rfl (by omega) (by omega) (by simp; omega) (by simp) trivial ?_)
    refine runL_end (by simp; rfl) ?_
    have g5 : (es.take (i + 1) ++ es.drop i).take i = es.take i := by rw [List.take_append_of_le_length (by simp; omega), List.take_take]; congr 1; omega
    have g6 : (es.take (i + 1) ++ es.drop i).drop (i + 1) = es.drop i := by rw [List.drop_append_of_le_length (by simp; omega), List.drop_of_length_le (by simp; omega)]; rfl
    simp [g5, g6]
    apply J.seq; refine J.regE (by simp; rfl) ?_
    simp
    refine J.le hc (le_own (st := ⟨[], _, _⟩) 6 19005 4 0 (es.length + 1) cap) ?_
    apply J.ret
    refine ⟨by simp, rfl, _, [(19005, .arr 42 4 (es.take i ++ [e] ++ es.drop i))], by simp [a18R]; rfl, ?_⟩
    simp


/-- Into a row that there is not. -/
theorem d18n (e : List AV) : Does Try.prog 18 [.nils 4, iv 0, .own 12042 4 0 1] [(12042, .arr 42 4 [e])] [] (fun r m => r = .own 18025 4 0 1 ∧ m = [(18025, .arr 42 4 [e])]) := by
  refine Does.of (nt := 95) (ac := a18) (rds := a18R) c18 (fun c hc => ?_)
  unfold a18
  apply J.seq; refine J.regE (by simp; rfl) ?_
  simp
  apply J.seq; refine J.regE (by simp; rfl) ?_
  simp
  apply J.seq; refine J.regE (by simp; rfl) ?_
  simp
  apply J.seq; apply J.seq; refine J.regE (by simp; rfl) ?_
  simp
  apply J.cond; simp
  apply J.skip; simp
  apply J.seq; refine J.regE (by simp; rfl) ?_
  simp
  apply J.seq; apply J.seq; refine J.regE (by simp; rfl) ?_
  simp
  apply J.cond; simp
  apply J.seq; refine J.regE (by simp; rfl) ?_
  simp
  apply J.ret
  refine ⟨by simp, rfl, _, [(18025, .arr 42 4 [e])], by simp [a18R]; rfl, ?_⟩
  simp
end Go.Proofs.Ytipmodlmmadfbaa.F
