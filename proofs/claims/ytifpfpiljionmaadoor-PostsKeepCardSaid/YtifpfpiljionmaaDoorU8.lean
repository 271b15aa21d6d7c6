/- Chapter 16: utf8.ValidString, by the library's contract. -/
import Derived.Test.YtifpfpiljionmaaDoorIt
import Derived.Test.YtifpfpiljionmaaDoorShelf
import Derived.Shelf.Unicode.ValidAny
set_option linter.unusedVariables false
set_option linter.unusedSimpArgs false
namespace Go.SX
open Go Go.RowKit
/-- A contract of the kit's over what lies for good, as ours: what it answers is a value. -/
theorem Does.of_plainT {P : Program} {f : FuncId} {args : List AV} {r : AV} {v : Value} (hfn : fnOK P f = true) (hr : ∀ w Own ρ, VRel w Own ρ r v)
    (h : ∀ (w : World) (Own : Nat → Prop) (vs : Array Value), theTab.p w → args.length = vs.size → (∀ (i : Nat) x, args[i]? = some x → VRel w Own (fun _ => none) x (vs.getD i undef)) → Calls P f vs w fun e w' => e = .returned v ∧ Below w.heap.size w w') : Does P f args [] [] (fun r' m => m = [] ∧ r' = r) := by
  refine ⟨hfn, fun A ρ w vs ht1 ht2 hM hlen hv => ?_⟩
  have hρ : ρ = fun _ => none := by
    funext b
    cases e : ρ b with
    | none => rfl
    | some p => obtain ⟨k, o⟩ := p; obtain ⟨blk, hl⟩ := hM.dom b k o e; simp [SX.look] at hl
  subst hρ
  refine (h w _ vs ht1 hlen hv).mono ?_
  rintro e w' ⟨rfl, hb⟩
  obtain ⟨h1, h2⟩ := after_drawn hb hM (fun k cur ty fr hk hh => by rw [hb.block k hk] at hh; exact ⟨cur, ty, fr, hh, rfl⟩)
  exact ⟨v, r, [], _, rfl, ⟨rfl, rfl⟩, h1, hr _ _ _, h2⟩
end Go.SX
namespace Go.Proofs.YtifpfpiljionmaaDoor.F
open Go Go.SX

theorem d43 (s : ByteArray) (hs : s.size ≤ 9223372036854775807) : Does Tryd.prog 43 [sv s] [] [] (fun r m => m = [] ∧ r = bv (Lib.validD s.data.toList)) := by
  refine Does.of_plainT (v := .bool (Lib.validD s.data.toList)) (by kernel_rfl) (fun _ _ _ => .tree (.lit rfl)) (fun w Own vs ht hlen hv => ?_)
  have h0 := (hv 0 _ rfl).lit_inv.1
  have hvs : vs = #[.string s] := by
    apply Array.ext
    · simpa using hlen.symm
    · intro i h1 h2
      have : i = 0 := by simp at h2; omega
      subst this
      simpa [Array.getD_eq_getD_getElem?, h1] using h0
  subst hvs
  exact Any.utf8_ValidString Tryd.laysValid s w hs ht
end Go.Proofs.YtifpfpiljionmaaDoor.F
