/- Chapter 15: two laws, out of what they call. -/
import Derived.Test.YtffeomfcjmmgoaaL4
import Derived.Test.YtffeomfcjmmgoaaCodeB
set_option linter.unusedVariables false
set_option linter.unusedSimpArgs false
namespace Go.Proofs.Ytffeomfcjmmgoaa.F
open Go Go.SX

theorem c5 : chkFn Try.prog 5 92 3 a5 a5R = true := by kernel_rfl

abbrev chA (a b : Int) (l : List Int) : AV := .agg [iv a, iv b, .ro 1 (ints l)]
abbrev chR (x : Int × Int × List Int × Int) : AV := .tup [chA x.1 x.2.1 x.2.2.1, iv x.2.2.2]
abbrev DoesT (f : Nat) (args : List AV) (v : AV) : Prop := Does Try.prog f args [] [] (fun r m => m = [] ∧ r = v)

set_option maxHeartbeats 4000000 in
theorem d5 (a b u o : Int) (l x : List Int) (R : Int × Int × List Int × Int) (hA : DoesT 8 [] (bv true)) (hJ : l.length ≤ 100 → DoesT 9 [chA a b l, iv u] (chR R)) (hE : R.2.2.2 ≠ 0 → R.2.2.1 = [])
    (hOK : l.length ≤ 100 → R.2.2.2 = 0 → R = (a, b, x, 0) ∧ DoesT 9 [chA a b x, iv u] (chR (0, 0, [], 6)) ∧ DoesT 11 [chA a b x, iv u] (chR (a, b, l, 0)) ∧ DoesT 11 [chA a b l, iv u] (chR (0, 0, [], 5)) ∧
      DoesT 15 [chA a b l, chA a b l] (bv true) ∧ DoesT 18 [chA a b x, iv u] (bv true) ∧ (o ≠ u → ∃ t, DoesT 18 [chA a b x, iv o] (bv t) ∧ DoesT 18 [chA a b l, iv o] (bv t))) : DoesT 5 [chA a b l, iv u, iv o] (bv true) := by
  refine Does.of (nt := 92) (ac := a5) (rds := a5R) c5 (fun c hc => ?_)
  unfold a5
  apply J.seq; refine J.regE (by simp; rfl) ?_
  simp
  apply J.seq; apply J.reg
  refine runL_tree rfl hA (by simp) hc ?_
  simp
  repeat refine runL_step rfl (by simp; rfl) ?_
  apply J.seq; apply J.seq; apply J.reg
  repeat refine runL_step rfl (by simp; rfl) ?_
  simp [runL]
  apply J.cond; simp
  refine ⟨fun hlong => ?_, fun hlong => ?_⟩
  · apply J.seq; refine J.regE (by simp; rfl) ?_
    simp
    apply J.ret
    refine ⟨by simp, rfl, _, [], by simp [a5R]; rfl, ?_⟩
    simp
  have hl : l.length ≤ 100 := by omega
  apply J.skip; simp
  apply J.seq; apply J.reg
  repeat refine runL_step rfl (by simp; rfl) ?_
  refine runL_tree rfl (hJ hl) (by simp) hc ?_
  simp
  repeat refine runL_step rfl (by simp; rfl) ?_
  simp [runL]
  apply J.seq; apply J.seq; refine J.regE (by simp; rfl) ?_
  simp
  apply J.cond; simp
  refine ⟨fun he => ?_, fun he => ?_⟩
  · have := hE he
    apply J.seq; refine J.regE (by simp; rfl) ?_
    simp
    apply J.ret
    refine ⟨by simp, rfl, _, [], by simp [a5R]; rfl, ?_⟩
    simp [this]
  obtain ⟨rfl, h1, h2, h3, h4, h5, h6⟩ := hOK hl he
  apply J.skip; simp
  apply J.seq; apply J.reg
  repeat refine runL_step rfl (by simp; rfl) ?_
  refine runL_tree rfl h1 (by simp) hc ?_
  simp
  repeat refine runL_step rfl (by simp; rfl) ?_
  simp [runL]
  apply J.seq; apply J.reg
  repeat refine runL_step rfl (by simp; rfl) ?_
  refine runL_tree rfl h2 (by simp) hc ?_
  simp
  repeat refine runL_step rfl (by simp; rfl) ?_
  simp [runL]
  apply J.seq; apply J.reg
  repeat refine runL_step rfl (by simp; rfl) ?_
  refine runL_tree rfl h3 (by simp) hc ?_
  simp
  repeat refine runL_step rfl (by simp; rfl) ?_
  simp [runL]
  apply J.seq; apply J.reg
  repeat refine runL_step rfl (by simp; rfl) ?_
  refine runL_tree rfl h4 (by simp) hc ?_
  simp
  repeat refine runL_step rfl (by simp; rfl) ?_
  simp [runL]
  apply J.seq; apply J.draw; intro c' _
  repeat refine runP_step rfl (by simp; rfl) ?_
  refine runP_do rfl (runP_tree rfl h5 (by simp) rfl ?_)
  simp
  by_cases hou : o = u
  · subst hou
    repeat refine runP_step rfl (by simp; rfl) ?_
    refine runP_skip rfl (by simp) ?_
    refine runP_skip rfl (by simp) ?_
    simp
    repeat refine runP_step rfl (by simp; rfl) ?_
    simp [runP]
    apply J.ret
    refine ⟨by simp, rfl, _, [], by simp [a5R]; rfl, ?_⟩
    simp
  · obtain ⟨t, h7, h8⟩ := h6 hou
    repeat refine runP_step rfl (by simp [hou]; rfl) ?_
    refine runP_do (by simp [hou]) (runP_tree rfl h7 (by simp) rfl ?_)
    refine runP_do (by simp [hou]) (runP_tree rfl h8 (by simp) rfl ?_)
    simp
    repeat refine runP_step rfl (by simp [hou]; rfl) ?_
    simp [runP]
    apply J.ret
    refine ⟨by simp, rfl, _, [], by simp [a5R]; rfl, ?_⟩
    simp
end Go.Proofs.Ytffeomfcjmmgoaa.F
namespace Go.Proofs.Ytffeomfcjmmgoaa.F
open Go Go.SX Go.RowKit Go.Proofs.YtffeomfcjmmgoaaW.PrintWords
/-- A law of a channel and two numbers, called from without. -/
theorem law3 {f : Nat} {a b u o : Int} {l : List Int} {A : Option Addr} {c : Nat} {w : World} (h : DoesT f [chA a b l, iv u, iv o] (bv true)) (hC : Kd.C (Kd.int .i64) w A l.length l) (hc : l.length ≤ c) :
    Calls Try.prog f #[.agg #[.int .i64 a, .int .i64 b, .slice A l.length c], .int .i64 u, .int .i64 o] w fun e w' => e = .returned (.bool true) ∧ Below w.heap.size w w' := by
  refine (Does.calls h (vs := #[.agg #[.int .i64 a, .int .i64 b, .slice A l.length c], .int .i64 u, .int .i64 o]) rfl (fun i x hx => ?_)).mono ?_
  · match i, hx with
    | 0, hx =>
      injection hx with hx; subst hx
      refine .agg rfl (fun i x hx => ?_)
      match i, hx with
      | 0, hx => injection hx with hx; subst hx; exact .tree (.lit rfl)
      | 1, hx => injection hx with hx; subst hx; exact .tree (.lit rfl)
      | 2, hx => injection hx with hx; subst hx; exact .tree ((Flat.int .i64).tree hC hc (fun k hk => by rcases hk with hk | ⟨_, _, hk⟩; exact hk; cases hk))
      | (i + 3), hx => simp at hx
    | 1, hx => injection hx with hx; subst hx; exact .tree (.lit rfl)
    | 2, hx => injection hx with hx; subst hx; exact .tree (.lit rfl)
    | (i + 3), hx => simp at hx
  rintro e w' ⟨v, r, m, ρ', rfl, ⟨rfl, rfl⟩, hM, hv, hA⟩
  obtain ⟨rfl, _⟩ := hv.lit_inv
  exact ⟨rfl, hA.below⟩
end Go.Proofs.Ytffeomfcjmmgoaa.F
