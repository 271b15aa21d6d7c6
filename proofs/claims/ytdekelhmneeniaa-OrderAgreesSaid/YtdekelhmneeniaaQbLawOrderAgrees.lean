/- The row of OrderAgrees, out of its walk. Its parameters are whatever can be read as data. -/
import Derived.Test.YtdekelhmneeniaaQbW17
import Derived.Test.YtdekelhmneeniaaRows
import Derived.WalkKit
import Derived.ProofKit
import Derived.OpenShut
import Derived.ShutString
import Derived.ChangeOld
import Derived.Below
import Derived.SizedLaws
import Derived.Lib.SmallJoins
namespace Go.Proofs.Ytdekelhmneeniaa.orderAgrees
open Go.ChangeShapes Go.WideShapes Go.ChangeAt Go.RowKit
set_option linter.unusedVariables false
theorem own : ownKnob Try.prog.godebug = none := by kernel_rfl
theorem laidOut : laidOutB Try.prog = true := by kernel_rfl
set_option maxRecDepth 100000 in
theorem lifted (os : Os) (started : os.Started) (H : Type) (enc : TypeId × Value → H) :
    ReturnsInHanded {} Try.checked os 5 .any (Rows.orderAgreesSpec.pre6 enc Try.prog Try.f5 Rows.orderAgreesRow.domain false) (Rows.orderAgreesSpec.post enc Try.prog Try.f5 false true false false) := by
  refine returnsInHanded_of_change_sized (C := Try.checked) own started (by kernel_rfl) Try.func5
    (ChangeSpec.witness6 (enc := enc) (C := Try.checked) false ⟨#[], #[.slice none 0 0, .slice none 0 0], []⟩ 8 (by kernel_rfl) (by kernel_rfl) (by kernel_rfl) (by kernel_rfl)) ?_
  intro W base args ds gs before hval0 hW hcnd hsz0 _
  have hT : Go.SX.theTab.p W := trivial
  have hval : ∀ (j : Nat) t v, Try.f5.params[j]? = some t → args[j]? = some v → Value.okWide Try.prog W .any base t v := hval0
  have hW' := hW
  obtain ⟨p, q, hA0, hV, rfl, hfz, hnd⟩ := hW
  have hA : DataW.TrodAll enc Try.prog W 0 (fun _ => true) true Try.f5.params.toList args.toList ds p := hA0
  rw [Try.params5] at hA hval
  obtain ⟨v0, vs0, d0, ds0, p0, q0, hargs, rfl, rfl, h0, r0⟩ := trodAll_cons hA
  obtain ⟨v1, vs1, d1, ds1, p1, q1, rfl, rfl, rfl, h1, r1⟩ := trodAll_cons r0
  obtain ⟨rfl, rfl, rfl⟩ := trodAll_nil r1
  obtain rfl : args = #[v0, v1] := by cases args; simp_all
  obtain ⟨rfl, rfl⟩ := trodVars_none hV
  have k0 := h0
  have lt0 : ∀ x ∈ p0, x.block < W.heap.size := by obtain ⟨m, hm⟩ := k0; exact DataW.trod_lt m _ _ _ hm
  obtain ⟨fuel0, hf0⟩ := h0
  obtain ⟨A0, n0, c0, rfl⟩ := okWide_slice Try.underlying22 (hval 0 22 v0 rfl rfl)
  obtain ⟨z0, hz0⟩ := F.opn_nodes.get enc _ _ _ _ _ _ _ hf0
  have k1 := h1
  have lt1 : ∀ x ∈ p1, x.block < W.heap.size := by obtain ⟨m, hm⟩ := k1; exact DataW.trod_lt m _ _ _ hm
  obtain ⟨fuel1, hf1⟩ := h1
  obtain ⟨A1, n1, c1, rfl⟩ := okWide_slice Try.underlying41 (hval 1 41 v1 rfl rfl)
  obtain ⟨z1, hz1⟩ := F.opn_bools.get enc _ _ _ _ _ _ _ hf1
  have hcall : Calls Try.prog 5 #[.slice A0 n0 c0, .slice A1 n1 c1] W fun e w' => e = .returned (.bool true) ∧ Below W.heap.size W w' := by
    refine (Go.SX.Does.calls (vs := #[.slice A0 n0 c0, .slice A1 n1 c1]) (F.d5 z0.1 z1.1) hT rfl (fun i x hx => ?_)).mono ?_
    · match i, hx with
      | 0, hx =>
        injection hx with hx; subst hx
        exact .tree (hz0.val (fun k hk => by rcases hk with hk | ⟨_, _, hk⟩; exact hk; cases hk))
      | 1, hx =>
        injection hx with hx; subst hx
        exact .tree (hz1.val (fun k hk => by rcases hk with hk | ⟨_, _, hk⟩; exact hk; cases hk))
      | (i + 2), hx => simp at hx
    · rintro e w' ⟨v, r, m, ρ', rfl, ⟨rfl, rfl⟩, hM, hv, hA⟩
      obtain ⟨rfl, _⟩ := hv.lit_inv
      exact ⟨rfl, hA.below⟩
  refine hcall.mono fun e W' ⟨he, bel⟩ => ?_
  subst he
  exact ⟨_, rfl, _, _, _, [], _, [], hW', trodAll_mk1 (shut_bool Try.underlying4 _), (trodAll_cons_mk (Below.trod laidOut (by kernel_rfl) (of_decide_eq_true (by kernel_rfl)) k0 bel lt0) (trodAll_cons_mk (Below.trod laidOut (by kernel_rfl) (of_decide_eq_true (by kernel_rfl)) k1 bel lt1) trodAll_mk0)), rfl, bel.frame _, fun h => by cases h⟩
theorem over : Rows.orderAgreesRow.holds Try.pinned (OpenSpec.ofChange Rows.orderAgreesSpec) :=
  OpenClaim.holds_of_wide 5 Try.f5 rfl rfl rfl rfl rfl rfl rfl ⟨rfl, rfl, rfl, rfl, rfl⟩ rfl rfl rfl rfl rfl (by kernel_rfl) Try.func5 (by kernel_rfl)
    (of_decide_eq_true (by kernel_rfl)) (by unfold Func.isWrapper; first | (rw [if_pos (by decide +kernel)]; kernel_rfl) | (rw [if_neg (by decide +kernel)]; exact ⟨rfl, rfl⟩))
    (fun os started H enc _ => lifted os started H enc)
theorem proved : Rows.OrderAgreesSaid := over
#print axioms proved
end Go.Proofs.Ytdekelhmneeniaa.orderAgrees
namespace Go.Proofs.Ytdekelhmneeniaa
/-- The statement, under a short name, for the claim. -/
theorem orderAgrees_holds : Rows.OrderAgreesSaid := orderAgrees.proved
end Go.Proofs.Ytdekelhmneeniaa
