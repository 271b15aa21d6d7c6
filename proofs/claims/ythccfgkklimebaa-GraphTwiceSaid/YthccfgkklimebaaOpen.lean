/- Chapter 11: a row of edges that came in. -/
import Derived.Test.YthccfgkklimebaaSxRx
import Derived.Test.YthccfgkklimebaaProg
import Derived.KernelRfl
set_option linter.unusedVariables false
set_option linter.unusedSimpArgs false
namespace Go.Proofs.Ythccfgkklimebaa.F
open Go Go.SX
theorem open_eds {H : Type} {enc : TypeId × Value → H} {w : World} {base : Nat} {spare : Nat → Bool} {held : Bool} {fuel : Nat} {v : Value} {y : DataW H × List MemPlace} (h : DataW.trod enc Try.prog w base spare held fuel 22 [v] = some y) :
    ∃ l : List (Int × Int), ∀ Own : Nat → Prop, (∀ k, ¬ Own k) → TRel w Own (.ro 2 (eds l)) v := by
  have k3 : Try.prog.cellsOf 3 = 1 := by kernel_rfl
  obtain ⟨A, c, l, rfl, h1, h2, h3⟩ := Go.SX.rows_open (sz := 2) Try.underlying22 (by kernel_rfl) (fun p : Int × Int => [.int .i64 p.1, .int .i64 p.2]) (fun n cs y hy hl => by
    obtain ⟨y0, y1, n', _, _, h0, h1⟩ := Go.ChangeShapes.trod_struct2 Try.underlying33 hy
    match cs, hl with
    | [c0, c1], _ =>
      simp [k3] at h0
      simp [k3] at h1
      obtain ⟨a, ea, _⟩ := DataW.trod_int Try.underlying3 h0
      obtain ⟨b, eb, _⟩ := DataW.trod_int Try.underlying3 h1
      injection ea with ea; injection eb with eb
      exact ⟨(a, b), by rw [ea, eb]⟩) h
  refine ⟨l, fun Own ho => ?_⟩
  have := tree_open (sz := 2) (cells := fun p : Int × Int => [.int .i64 p.1, .int .i64 p.2]) (by omega) (fun _ => rfl) (fun p u hu => by simp at hu; rcases hu with rfl | rfl <;> rfl) h1 h3 ho
  simpa [eds] using this
end Go.Proofs.Ythccfgkklimebaa.F
