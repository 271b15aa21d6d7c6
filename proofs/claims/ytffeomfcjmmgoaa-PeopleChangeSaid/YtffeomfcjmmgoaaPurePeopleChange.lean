/- Whether any channel may be, who is in it, and what it is with a user more, or less, or newly opened: of all channels and users (of more than 100 members the law says nothing). -/
import Derived.Test.YtffeomfcjmmgoaaQPeopleChange
import Derived.Test.YtffeomfcjmmgoaaL6
namespace Go.Proofs.Ytffeomfcjmmgoaa.Pure
open Go.RowKit Go.Proofs.Ytffeomfcjmmgoaa.PPeopleChange Go.Proofs.YtffeomfcjmmgoaaW.PrintWords Go.Proofs.YtffeomfcjmmgoaaW.PrintLast

theorem PeopleChange (a b u o : Int) (l : List Int) : F.DoesT 3 [F.chA a b l, Go.SX.iv u, Go.SX.iv o] (Go.SX.bv true) := by
  refine F.d3 a b u o l (joinS a b l u) (leaveS a b l u) (openS o u) (mayB a b l) (inS a b l u) awake_does (fun hl => ⟨join_does a b u l (by omega), rjoin_does a b u l hl, leave_does a b u l (by omega), rleave_does a b u l hl, open_does o u, ropen_does o u, fun x hx => ?_, may_does a b l (by omega), rmay_does a b l (by omega), in_does a b u l (by omega), rin_does a b u l (by omega)⟩)
  refine same_does _ _ _ ?_
  rcases hx with rfl | rfl | rfl
  · unfold joinS; split
    · simp
    split
    · simp
    split
    · simp
    rename_i h2 h3
    rw [ins_length h2]; omega
  · unfold leaveS; split
    · simp
    split
    · simp
    split
    · simp
    exact Nat.le_trans (List.length_filter_le _ _) (by omega)
  · unfold openS; split <;> simp
end Go.Proofs.Ytffeomfcjmmgoaa.Pure
