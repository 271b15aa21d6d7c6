/- Whether any last answers may be, what was answered to any number, and what they are with any one more: of all windows (of more than 50 answers the law says nothing). -/
import Derived.Test.YtipmodlmmadfbaaQWindowDoes
import Derived.Test.YtipmodlmmadfbaaL6
namespace Go.Proofs.Ytipmodlmmadfbaa.Pure
open Go Go.RowKit Go.Proofs.Ytipmodlmmadfbaa.PWindowDoes Go.Proofs.YtipmodlmmadfbaaW.PrintWords Go.Proofs.YtipmodlmmadfbaaW.PrintLast

theorem WindowDoes (low y e n : Int) (t : ByteArray) (l : List S42) (hl : l.length ≤ 9223372036854775807) : F.DoesT 3 [F.win low (l.map tlOf), Go.SX.iv y, F.an (e, n, t)] (Go.SX.bv true) := by
  refine F.d3 low y (l.map tlOf) (e, n, t) (decide ((l.length : Int) ≤ 50)) (lookW low l y) ((putW low l y e n t).1, (putW low l y e n t).2.1.map tlOf, (putW low l y e n t).2.2) (decide (Wf low l)) awake_does (few_does low l hl) (fun hf => ?_)
  have hf' : (l.length : Int) ≤ 50 := of_decide_eq_true hf
  have hlen : (putW low l y e n t).2.1.length ≤ 1000 := by
    by_cases h0 : (putW low l y e n t).2.2 = 0
    · have := (put_ok h0).2.2.2.2.2.1.2.2.1; omega
    · rw [(put_err h0).2]; simp
  exact ⟨lk_does low l y (by omega), rlook_does low l y (by omega), put_does low l y e n t (by omega), rput_does low l y e n t (by omega), same_does _ _ hlen, may_does low l (by omega), rmay_does low l (by omega)⟩

/-- The law, called from without. -/
theorem law3 {w : World} {A : Option Addr} {c : Nat} {low y e n : Int} {t : ByteArray} {l : List S42} (hr : Kd.C k42 w A l.length l) (hc : l.length ≤ c) : Calls Try.prog 3 #[.agg #[.int .i64 low, .slice A l.length c], .int .i64 y, .agg #[.int .i64 e, .int .i64 n, .string t]] w fun e w' => e = .returned (.bool true) ∧ Below w.heap.size w w' := by
  refine ((WindowDoes low y e n t l hr.2.1).calls (vs := #[.agg #[.int .i64 low, .slice A l.length c], .int .i64 y, .agg #[.int .i64 e, .int .i64 n, .string t]]) rfl (fun i x hx => ?_)).mono ?_
  · match i, hx with
    | 0, hx => injection hx with hx; subst hx; exact arg_win hr hc
    | 1, hx => injection hx with hx; subst hx; exact .tree (.lit rfl)
    | 2, hx =>
      injection hx with hx; subst hx
      refine .agg rfl (fun i x hx => ?_)
      match i, hx with
      | 0, hx => injection hx with hx; subst hx; exact .tree (.lit rfl)
      | 1, hx => injection hx with hx; subst hx; exact .tree (.lit rfl)
      | 2, hx => injection hx with hx; subst hx; exact .tree (.lit rfl)
      | (i + 3), hx => simp at hx
    | (i + 3), hx => simp at hx
  · rintro e w' ⟨v, r, m, ρ', rfl, ⟨rfl, rfl⟩, hM, hv, hA⟩
    obtain ⟨rfl, _⟩ := hv.lit_inv
    exact ⟨rfl, hA.below⟩
end Go.Proofs.Ytipmodlmmadfbaa.Pure
