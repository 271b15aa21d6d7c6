/- Chapter 15: the chapter's examples (Awake), out of what they call. -/
import Derived.Test.YtffeomfcjmmgoaaL3
set_option linter.unusedVariables false
set_option linter.unusedSimpArgs false
namespace Go.Proofs.Ytffeomfcjmmgoaa.F
open Go Go.SX

theorem c8 : chkFn Try.prog 8 65 0 a8 a8R = true := by kernel_rfl

theorem d8 (hO : Does Try.prog 13 [iv 3, iv 7] [] [] (fun r m => m = [] ∧ r = .tup [.agg [iv 3, iv 7, .ro 1 (ints [7])], iv 0]))
    (hJ : Does Try.prog 9 [.agg [iv 3, iv 7, .ro 1 (ints [7])], iv 5] [] [] (fun r m => ∃ q, (q = 23005 ∨ q = 22040) ∧ r = .tup [.agg [iv 3, iv 7, .own q 1 0 2], iv 0] ∧ m = [(q, .arr 3 1 (ints [5, 7]))]))
    (hL1 : Does Try.prog 11 [.agg [iv 3, iv 7, .ro 1 (ints [5, 7])], iv 7] [] [] (fun r m => r = noCh 8 ∧ m = []))
    (hL2 : Does Try.prog 11 [.agg [iv 3, iv 7, .ro 1 (ints [5, 7])], iv 5] [] [] (fun r m => r = .tup [.agg [iv 3, iv 7, .own 23005 1 0 1], iv 0] ∧ m = [(23005, .arr 3 1 (ints [7]))]))
    (hI : Does Try.prog 18 [.agg [iv 3, iv 7, .ro 1 (ints [5, 7])], iv 7] [] [] (fun r m => m = [] ∧ r = bv true)) : Does Try.prog 8 [] [] [] (fun r m => m = [] ∧ r = bv true) := by
  refine Does.of (nt := 65) (ac := a8) (rds := a8R) c8 (fun c hc => ?_)
  unfold a8
  apply J.seq; refine J.regE (by simp; rfl) ?_
  simp
  apply J.seq; refine J.regC (by simp; exact ⟨rfl, rfl⟩) ?_
  refine runL_call [] [] rfl rfl hO (by simp) (by simp) (by simp) hc ?_
  rintro _ _ ⟨rfl, rfl⟩
  refine ⟨by simp, ?_⟩
  refine runL_end (by simp; rfl) ?_
  simp
  apply J.seq; refine J.regC (by simp; exact ⟨rfl, rfl⟩) ?_
  refine runL_call [] [] rfl rfl hJ (by simp) (by simp) (by simp) hc ?_
  have hrest : ∀ q, (q = 23005 ∨ q = 22040) → J Try.prog 65 c (a8r3.seq (a8r4.seq (a8r5.seq AC.ret))) ⟨[(2, iv 0), (3, .ptr 8003 0 0 0), (4, iv 0)], [(q, .arr 3 1 (ints [5, 7])), (8001, .obj 24 [iv 3, iv 7, .ro 1 (ints [7])]), (8003, .obj 24 [iv 3, iv 7, .own q 1 0 2])], []⟩ (doneQ [] a8R fun r m => m = [] ∧ r = bv true) := by
    intro q hq
    refine J.le hc (st' := ⟨[(2, iv 0), (3, .ptr 8003 0 0 0), (4, iv 0)], [(8003, .obj 24 [iv 3, iv 7, .ro 1 (ints [5, 7])])], []⟩) ?_ ?_
    · refine le_retell (fun p hp => ?_) (fun p hp => ?_) rfl (by simp)
      · simp at hp
        rcases hp with rfl | rfl | rfl
        · exact ⟨_, rfl, .same (by simp)⟩
        · exact ⟨_, rfl, .same (by simp)⟩
        · exact ⟨_, rfl, .same (by simp)⟩
      · simp at hp
        subst hp
        rcases hq with rfl | rfl
        all_goals
          simp
          refine .obj rfl (fun i x hx => ?_)
          match i with
          | 0 => simp at hx; subst hx; exact .same (by simp)
          | 1 => simp at hx; subst hx; exact .same (by simp)
          | 2 =>
            simp at hx; subst hx; simp
            exact (show Re _ _ (.own _ 1 0 2) (.ro 1 (((ints [5, 7]).drop 0).take 2)) from Re.row (ty := 3) (es := ints [5, 7]) rfl rfl (by omega) (by simp))
          | (i + 3) => simp at hx
    apply J.seq; refine J.regC (by simp; exact ⟨rfl, rfl⟩) ?_
    refine runL_call [] [] rfl rfl hL1 (by simp) (by simp) (by simp) hc ?_
    rintro _ _ ⟨rfl, rfl⟩
    refine ⟨by simp, ?_⟩
    refine runL_end (by simp; rfl) ?_
    simp
    apply J.seq; refine J.regC (by simp; exact ⟨rfl, rfl⟩) ?_
    refine runL_call [] [] rfl rfl hL2 (by simp) (by simp) (by simp) hc ?_
    rintro _ _ ⟨rfl, rfl⟩
    refine ⟨by simp, ?_⟩
    refine runL_end (by simp; rfl) ?_
    simp
    apply J.seq; apply J.reg
    repeat refine runL_step rfl (by simp [ints]; rfl) ?_
    refine runL_do rfl ?_
    refine runL_call [] [] rfl rfl hI (by simp) (by simp) (by simp) hc ?_
    rintro _ _ ⟨rfl, rfl⟩
    refine ⟨by simp, ?_⟩
    refine runL_end (by simp; rfl) ?_
    simp
    apply J.ret
    refine ⟨by simp, rfl, _, [], by simp [a8R]; rfl, ?_⟩
    simp
  rintro _ _ ⟨q, hq, rfl, rfl⟩
  rcases hq with rfl | rfl
  · refine ⟨by simp, ?_⟩
    refine runL_end (by simp; rfl) ?_
    simp
    exact hrest 23005 (.inl rfl)
  · refine ⟨by simp, ?_⟩
    refine runL_end (by simp; rfl) ?_
    simp
    exact hrest 22040 (.inr rfl)
end Go.Proofs.Ytffeomfcjmmgoaa.F
