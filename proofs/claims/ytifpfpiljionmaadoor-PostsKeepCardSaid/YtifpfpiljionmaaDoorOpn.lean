/- Chapter 16: posts and ops that came in. -/
import Derived.Test.YtifpfpiljionmaaDoorSxOp
import Derived.Test.YtifpfpiljionmaaDoorW19
set_option linter.unusedVariables false
set_option linter.unusedSimpArgs false
namespace Go.Proofs.YtifpfpiljionmaaDoor.F
open Go Go.SX
theorem opn_post : Opens Tryd.prog 33 eP := by
  refine Opens.struct Tryd.underlying33 (OpensF.cons rfl (by kernel_rfl) (Opens.int Tryd.underlying3) (fun _ => rfl) (OpensF.cons rfl (by kernel_rfl) (Opens.int Tryd.underlying3) (fun _ => rfl) (OpensF.cons rfl (by kernel_rfl) (Opens.str Tryd.underlying9) (fun _ => rfl)
    (OpensF.cons rfl (by kernel_rfl) (Opens.int Tryd.underlying3) (fun _ => rfl) (OpensF.cons rfl (by kernel_rfl) (Opens.bool Tryd.underlying4) (fun _ => rfl) OpensF.nil))))) (fun p => (⟨p.1, p.2.1, p.2.2.1, p.2.2.2.1, p.2.2.2.2.1⟩ : Post)) (fun _ => rfl) (fun _ => by kernel_rfl)
theorem opn_op : Opens Tryd.prog 24 eO := by
  refine Opens.struct Tryd.underlying24 (OpensF.cons rfl (by kernel_rfl) (Opens.int Tryd.underlying3) (fun _ => rfl) (OpensF.cons rfl (by kernel_rfl) (Opens.int Tryd.underlying3) (fun _ => rfl) (OpensF.cons rfl (by kernel_rfl) (Opens.int Tryd.underlying3) (fun _ => rfl)
    (OpensF.cons rfl (by kernel_rfl) (Opens.int Tryd.underlying3) (fun _ => rfl) (OpensF.cons rfl (by kernel_rfl) (Opens.str Tryd.underlying9) (fun _ => rfl) OpensF.nil))))) (fun p => (⟨p.1, p.2.1, p.2.2.1, p.2.2.2.1, p.2.2.2.2.1⟩ : POp)) (fun _ => rfl) (fun _ => by kernel_rfl)
theorem opn_posts : Opens Tryd.prog 22 (fun l : { l : List Post // l.length ≤ maxLen ∧ ∀ a ∈ l, (eP a).length = 5 } => [.ro 5 (ePs l.1)]) := Opens.slice Tryd.underlying22 (by kernel_rfl) (by omega) opn_post
theorem opn_ops : Opens Tryd.prog 37 (fun l : { l : List POp // l.length ≤ maxLen ∧ ∀ a ∈ l, (eO a).length = 5 } => [.ro 5 (eOs l.1)]) := Opens.slice Tryd.underlying37 (by kernel_rfl) (by omega) opn_op
theorem lenI {n : Nat} (h : n ≤ maxLen) : n ≤ 9223372036854775807 := by unfold maxLen at h; omega
end Go.Proofs.YtifpfpiljionmaaDoor.F
