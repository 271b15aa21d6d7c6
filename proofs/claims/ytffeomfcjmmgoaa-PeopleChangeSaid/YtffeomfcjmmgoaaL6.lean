/- Chapter 15: PeopleChange, out of what it calls. -/
import Derived.Test.YtffeomfcjmmgoaaL5
set_option linter.unusedVariables false
set_option linter.unusedSimpArgs false
namespace Go.Proofs.Ytffeomfcjmmgoaa.F
open Go Go.SX

theorem c3 : chkFn Try.prog 3 116 3 a3 a3R = true := by kernel_rfl

set_option maxHeartbeats 4000000 in
theorem d3 (a b u o : Int) (l : List Int) (R V W : Int × Int × List Int × Int) (m n : Bool) (hA : DoesT 8 [] (bv true)) (h : l.length ≤ 100 → DoesT 9 [chA a b l, iv u] (chR R) ∧ DoesT 10 [chA a b l, iv u] (chR R) ∧ DoesT 11 [chA a b l, iv u] (chR V) ∧ DoesT 12 [chA a b l, iv u] (chR V) ∧
      DoesT 13 [iv o, iv u] (chR W) ∧ DoesT 14 [iv o, iv u] (chR W) ∧ (∀ x : Int × Int × List Int × Int, x = R ∨ x = V ∨ x = W → DoesT 15 [chA x.1 x.2.1 x.2.2.1, chA x.1 x.2.1 x.2.2.1] (bv true)) ∧ DoesT 16 [chA a b l] (bv m) ∧ DoesT 17 [chA a b l] (bv m) ∧ DoesT 18 [chA a b l, iv u] (bv n) ∧ DoesT 19 [chA a b l, iv u] (bv n)) : DoesT 3 [chA a b l, iv u, iv o] (bv true) := by
  refine Does.of (nt := 116) (ac := a3) (rds := a3R) c3 (fun c hc => ?_)
  unfold a3
  apply J.seq; refine J.regE (by simp; rfl) ?_
  simp
  apply J.seq; apply J.reg
  refine runL_tree rfl hA (by simp) hc ?_
  simp
  repeat refine runL_step rfl (by simp; rfl) ?_
  apply J.seq; apply J.seq; apply J.reg
  repeat refine runL_step rfl (by simp; rfl) ?_
  simp [runL]
  apply J.cond; simp
  refine ⟨fun hlong => ?_, fun hlong => ?_⟩
  · apply J.seq; refine J.regE (by simp; rfl) ?_
    simp
    apply J.ret
    refine ⟨by simp, rfl, _, [], by simp [a3R]; rfl, ?_⟩
    simp
  obtain ⟨h1, h2, h3, h4, h5, h6, h7, h8, h9, h10, h11⟩ := h (by omega)
  apply J.skip; simp
  apply J.seq; apply J.reg
  repeat refine runL_step rfl (by simp; rfl) ?_
  refine runL_tree rfl h1 (by simp) hc ?_
  simp
  repeat refine runL_step rfl (by simp; rfl) ?_
  simp [runL]
  apply J.seq; apply J.reg
  repeat refine runL_step rfl (by simp; rfl) ?_
  refine runL_tree rfl h2 (by simp) hc ?_
  simp
  repeat refine runL_step rfl (by simp; rfl) ?_
  simp [runL]
  apply J.seq; apply J.reg
  repeat refine runL_step rfl (by simp; rfl) ?_
  refine runL_tree rfl h3 (by simp) hc ?_
  simp
  repeat refine runL_step rfl (by simp; rfl) ?_
  simp [runL]
  apply J.seq; apply J.reg
  repeat refine runL_step rfl (by simp; rfl) ?_
  refine runL_tree rfl h4 (by simp) hc ?_
  simp
  repeat refine runL_step rfl (by simp; rfl) ?_
  simp [runL]
  apply J.seq; apply J.reg
  repeat refine runL_step rfl (by simp; rfl) ?_
  refine runL_tree rfl h5 (by simp) hc ?_
  simp
  repeat refine runL_step rfl (by simp; rfl) ?_
  simp [runL]
  apply J.seq; apply J.reg
  repeat refine runL_step rfl (by simp; rfl) ?_
  refine runL_tree rfl h6 (by simp) hc ?_
  simp
  repeat refine runL_step rfl (by simp; rfl) ?_
  simp [runL]
  apply J.seq; apply J.reg
  repeat refine runL_step rfl (by simp; rfl) ?_
  refine runL_tree rfl (h7 R (.inl rfl)) (by simp) hc ?_
  simp
  repeat refine runL_step rfl (by simp; rfl) ?_
  simp [runL]
  apply J.seq; apply J.reg
  repeat refine runL_step rfl (by simp; rfl) ?_
  refine runL_tree rfl (h7 V (.inr (.inl rfl))) (by simp) hc ?_
  simp
  repeat refine runL_step rfl (by simp; rfl) ?_
  simp [runL]
  apply J.seq; apply J.reg
  repeat refine runL_step rfl (by simp; rfl) ?_
  refine runL_tree rfl (h7 W (.inr (.inr rfl))) (by simp) hc ?_
  simp
  repeat refine runL_step rfl (by simp; rfl) ?_
  simp [runL]
  apply J.seq; apply J.draw; intro c' _
  repeat refine runP_step rfl (by simp; rfl) ?_
  refine runP_do rfl (runP_tree rfl h8 (by simp) rfl ?_)
  refine runP_do rfl (runP_tree rfl h9 (by simp) rfl ?_)
  simp
  repeat refine runP_step rfl (by simp; rfl) ?_
  refine runP_do rfl (runP_tree rfl h10 (by simp) rfl ?_)
  refine runP_do rfl (runP_tree rfl h11 (by simp) rfl ?_)
  simp
  repeat refine runP_step rfl (by simp; rfl) ?_
  simp [runP]
  apply J.ret
  refine ⟨by simp, rfl, _, [], by simp [a3R]; rfl, ?_⟩
  simp
end Go.Proofs.Ytffeomfcjmmgoaa.F
