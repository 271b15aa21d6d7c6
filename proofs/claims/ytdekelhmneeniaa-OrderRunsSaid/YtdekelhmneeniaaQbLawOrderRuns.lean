/- The row of OrderRuns, out of its walk. Its parameters are whatever can be read as data. -/
import Derived.Test.YtdekelhmneeniaaQbW10
import Derived.Test.YtdekelhmneeniaaRows
import Derived.WalkKit
import Derived.ProofKit
import Derived.OpenShut
import Derived.ShutString
import Derived.ChangeOld
import Derived.Below
import Derived.SizedLaws
import Derived.Lib.SmallJoins
namespace Go.Proofs.Ytdekelhmneeniaa.orderRuns
open Go.ChangeShapes Go.WideShapes Go.ChangeAt Go.RowKit
set_option linter.unusedVariables false
theorem own : ownKnob Try.prog.godebug = none := by kernel_rfl
theorem laidOut : laidOutB Try.prog = true := by kernel_rfl
set_option maxRecDepth 100000 in
theorem lifted (os : Os) (started : os.Started) (H : Type) (enc : TypeId × Value → H) :
    ReturnsInHanded {} Try.checked os 3 .any (Rows.orderRunsSpec.pre6 enc Try.prog Try.f3 Rows.orderRunsRow.domain false) (Rows.orderRunsSpec.post enc Try.prog Try.f3 false true false false) := by
  refine returnsInHanded_of_change_sized (C := Try.checked) own started (by kernel_rfl) Try.func3
    (ChangeSpec.witness6 (enc := enc) (C := Try.checked) false ⟨#[], #[.slice none 0 0, .slice none 0 0, .agg #[.int .i64 0, .int .i64 0, .int .i64 0, .slice none 0 0], .agg #[.int .i64 0, .int .i64 0, .int .i64 0, .slice none 0 0]], []⟩ 8 (by kernel_rfl) (by kernel_rfl) (by kernel_rfl) (by kernel_rfl)) ?_
  intro W base args ds gs before hval0 hW hcnd hsz0 _
  have hT : Go.SX.theTab.p W := trivial
  have hval : ∀ (j : Nat) t v, Try.f3.params[j]? = some t → args[j]? = some v → Value.okWide Try.prog W .any base t v := hval0
  have hW' := hW
  obtain ⟨p, q, hA0, hV, rfl, hfz, hnd⟩ := hW
  have hA : DataW.TrodAll enc Try.prog W 0 (fun _ => true) true Try.f3.params.toList args.toList ds p := hA0
  rw [Try.params3] at hA hval
  obtain ⟨v0, vs0, d0, ds0, p0, q0, hargs, rfl, rfl, h0, r0⟩ := trodAll_cons hA
  obtain ⟨v1, vs1, d1, ds1, p1, q1, rfl, rfl, rfl, h1, r1⟩ := trodAll_cons r0
  obtain ⟨v2, vs2, d2, ds2, p2, q2, rfl, rfl, rfl, h2, r2⟩ := trodAll_cons r1
  obtain ⟨v3, vs3, d3, ds3, p3, q3, rfl, rfl, rfl, h3, r3⟩ := trodAll_cons r2
  obtain ⟨rfl, rfl, rfl⟩ := trodAll_nil r3
  obtain rfl : args = #[v0, v1, v2, v3] := by cases args; simp_all
  obtain ⟨rfl, rfl⟩ := trodVars_none hV
  have k0 := h0
  have lt0 : ∀ x ∈ p0, x.block < W.heap.size := by obtain ⟨m, hm⟩ := k0; exact DataW.trod_lt m _ _ _ hm
  obtain ⟨fuel0, hf0⟩ := h0
  obtain ⟨A0, n0, c0, rfl⟩ := okWide_slice Try.underlying22 (hval 0 22 v0 rfl rfl)
  obtain ⟨z0, hz0⟩ := F.opn_nodes.get enc _ _ _ _ _ _ _ hf0
  have k1 := h1
  have lt1 : ∀ x ∈ p1, x.block < W.heap.size := by obtain ⟨m, hm⟩ := k1; exact DataW.trod_lt m _ _ _ hm
  obtain ⟨fuel1, hf1⟩ := h1
  obtain ⟨A1, n1, c1, rfl⟩ := okWide_slice Try.underlying23 (hval 1 23 v1 rfl rfl)
  obtain ⟨z1, hz1⟩ := F.opn_insts.get enc _ _ _ _ _ _ _ hf1
  have k2 := h2
  have lt2 : ∀ x ∈ p2, x.block < W.heap.size := by obtain ⟨m, hm⟩ := k2; exact DataW.trod_lt m _ _ _ hm
  obtain ⟨fuel2, hf2⟩ := h2
  obtain ⟨cs2, rfl, _⟩ := okWide_struct Try.underlying30 (hval 2 30 v2 rfl rfl)
  obtain ⟨z2, hz2⟩ := F.opn_node.get enc _ _ _ _ _ _ _ hf2
  have k3 := h3
  have lt3 : ∀ x ∈ p3, x.block < W.heap.size := by obtain ⟨m, hm⟩ := k3; exact DataW.trod_lt m _ _ _ hm
  obtain ⟨fuel3, hf3⟩ := h3
  obtain ⟨cs3, rfl, _⟩ := okWide_struct Try.underlying30 (hval 3 30 v3 rfl rfl)
  obtain ⟨z3, hz3⟩ := F.opn_node.get enc _ _ _ _ _ _ _ hf3
  have hcall : Calls Try.prog 3 #[.slice A0 n0 c0, .slice A1 n1 c1, .agg cs2, .agg cs3] W fun e w' => e = .returned (.bool true) ∧ Below W.heap.size W w' := by
    refine (Go.SX.Does.calls (vs := #[.slice A0 n0 c0, .slice A1 n1 c1, .agg cs2, .agg cs3]) (F.d3 z0.1 z1.1 z2 z3) hT rfl (fun i x hx => ?_)).mono ?_
    · match i, hx with
      | 0, hx =>
        injection hx with hx; subst hx
        exact .tree (hz0.val (fun k hk => by rcases hk with hk | ⟨_, _, hk⟩; exact hk; cases hk))
      | 1, hx =>
        injection hx with hx; subst hx
        exact .tree (hz1.val (fun k hk => by rcases hk with hk | ⟨_, _, hk⟩; exact hk; cases hk))
      | 2, hx =>
        injection hx with hx; subst hx
        exact .tree (Go.SX.Says.agg hz2 (fun k hk => by rcases hk with hk | ⟨_, _, hk⟩; exact hk; cases hk))
      | 3, hx =>
        injection hx with hx; subst hx
        exact .tree (Go.SX.Says.agg hz3 (fun k hk => by rcases hk with hk | ⟨_, _, hk⟩; exact hk; cases hk))
      | (i + 4), hx => simp at hx
    · rintro e w' ⟨v, r, m, ρ', rfl, ⟨rfl, rfl⟩, hM, hv, hA⟩
      obtain ⟨rfl, _⟩ := hv.lit_inv
      exact ⟨rfl, hA.below⟩
  refine hcall.mono fun e W' ⟨he, bel⟩ => ?_
  subst he
  exact ⟨_, rfl, _, _, _, [], _, [], hW', trodAll_mk1 (shut_bool Try.underlying4 _), (trodAll_cons_mk (Below.trod laidOut (by kernel_rfl) (of_decide_eq_true (by kernel_rfl)) k0 bel lt0) (trodAll_cons_mk (Below.trod laidOut (by kernel_rfl) (of_decide_eq_true (by kernel_rfl)) k1 bel lt1) (trodAll_cons_mk (Below.trod laidOut (by kernel_rfl) (of_decide_eq_true (by kernel_rfl)) k2 bel lt2) (trodAll_cons_mk (Below.trod laidOut (by kernel_rfl) (of_decide_eq_true (by kernel_rfl)) k3 bel lt3) trodAll_mk0)))), rfl, bel.frame _, fun h => by cases h⟩
theorem over : Rows.orderRunsRow.holds Try.pinned (OpenSpec.ofChange Rows.orderRunsSpec) :=
  OpenClaim.holds_of_wide 3 Try.f3 rfl rfl rfl rfl rfl rfl rfl ⟨rfl, rfl, rfl, rfl, rfl⟩ rfl rfl rfl rfl rfl (by kernel_rfl) Try.func3 (by kernel_rfl)
    (of_decide_eq_true (by kernel_rfl)) (by unfold Func.isWrapper; first | (rw [if_pos (by decide +kernel)]; kernel_rfl) | (rw [if_neg (by decide +kernel)]; exact ⟨rfl, rfl⟩))
    (fun os started H enc _ => lifted os started H enc)
theorem proved : Rows.OrderRunsSaid := over
#print axioms proved
end Go.Proofs.Ytdekelhmneeniaa.orderRuns
namespace Go.Proofs.Ytdekelhmneeniaa
/-- The statement, under a short name, for the claim. -/
theorem orderRuns_holds : Rows.OrderRunsSaid := orderRuns.proved
end Go.Proofs.Ytdekelhmneeniaa
