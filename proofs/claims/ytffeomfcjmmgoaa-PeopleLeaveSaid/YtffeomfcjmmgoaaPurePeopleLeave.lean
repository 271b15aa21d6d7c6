/- Who is in a channel, and not its owner, may leave it; nobody else may. The law holds of all channels and users (of more than 100 members it says nothing). -/
import Derived.Test.YtffeomfcjmmgoaaQPeopleLeave
import Derived.Test.YtffeomfcjmmgoaaPPeopleLeavex3
namespace Go.Proofs.Ytffeomfcjmmgoaa.Pure
open Go.RowKit Go.Proofs.Ytffeomfcjmmgoaa.PPeopleLeave Go.Proofs.YtffeomfcjmmgoaaW.PrintWords Go.Proofs.YtffeomfcjmmgoaaW.PrintLast

theorem PeopleLeave (a b : Int) (l : List Int) (u : Int) : ∃ k, colloquylaw15_PeopleLeave.f k a b l u = some true := by
  refine Ev.rounds (r := true) ?_
  unfold colloquylaw15_PeopleLeave.f colloquylaw15_Awake.f
  simp only [Option.bind_some, if_true]
  have hj0 : Ev (fun k => colloquylaw15_PeopleLeave.j0 k u true true a b l) true := Ev.step (f := fun _ => some true) (fun k => by simp only [colloquylaw15_PeopleLeave.j0, if_true]) (Ev.now _)
  by_cases hlong : (l.length : Int) > 100
  · exact Ev.congr (fun k => if_pos hlong) hj0
  refine Ev.congr (fun k => if_neg hlong) (Ev.bind (may_is a b l (by omega)) ?_)
  cases hm : mayB a b l
  · exact hj0
  obtain ⟨_, _, h1, h2, hup, hb⟩ := may_up hm
  refine Ev.step (f := fun k => (people_Leave.f k a b l u).bind fun bt142 => ((people_In.f k a b l u).bind fun t149 => (if t149 = true then (if u = b then (some (bt142.2.2.2 == 8)) else (if bt142.2.2.2 = 0 then ((people_In.f k bt142.1 bt142.2.1 bt142.2.2.1 u).bind fun t150 => (if t150 = true then (some false) else (if (bt142.2.2.1.length : Int) = (wrap64 ((l.length : Int) - 1)) then ((people_May.f k bt142.1 bt142.2.1 bt142.2.2.1).bind fun t151 => (some t151)) else (some false)))) else (some false))) else (some (bt142.2.2.2 == 5))))) (fun k => by simp only [colloquylaw15_PeopleLeave.j0]; exact if_neg (by simp)) ?_
  refine Ev.bind (leave_is a b l u (by omega)) (Ev.bind (in_is a b l u (by omega)) ?_)
  have hin : inS a b l u = decide (u ∈ l) := by unfold inS; rw [hm, Bool.true_and]
  rw [hin]
  unfold leaveS
  rw [if_neg (by rw [hm]; simp)]
  by_cases hu : u ∈ l
  · rw [decide_eq_true hu, if_neg (by simpa using hu)]
    refine Ev.congr (fun k => if_pos rfl) ?_
    by_cases hbu : b = u
    · rw [if_pos hbu]; exact Ev.congr (fun k => if_pos hbu.symm) (Ev.now _)
    · rw [if_neg hbu]
      refine Ev.congr (fun k => (if_neg (Ne.symm hbu)).trans (if_pos rfl)) ?_
      have hd := del_length hup hu
      have hbd : b ∈ del l u := mem_del.2 ⟨hb, hbu⟩
      have hpos := List.length_pos_of_mem hbd
      have hmd : mayB a b (del l u) = true := may_mk ⟨(may_up hm).1, (may_up hm).2.1, by omega, by omega, up_del hup, hbd⟩
      refine Ev.bind (in_is a b (del l u) u (by omega)) ?_
      have hnin : inS a b (del l u) u = false := by unfold inS; rw [hmd, Bool.true_and]; exact decide_eq_false (fun h => (mem_del.1 h).2 rfl)
      rw [hnin]
      refine Ev.congr (fun k => (if_neg (by simp)).trans (if_pos ?_)) (Ev.bind (may_is a b (del l u) (by omega)) ?_)
      · show ((del l u).length : Int) = wrap64 ((l.length : Int) - 1)
        rw [wrap_in (by omega) (by omega)]; omega
      · rw [hmd]; exact Ev.now _
  · rw [decide_eq_false hu, if_pos hu]
    exact Ev.congr (fun k => if_neg (by simp)) (Ev.now _)

end Go.Proofs.Ytffeomfcjmmgoaa.Pure
