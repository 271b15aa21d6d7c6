/- A channel that may be has from 1 to 16 members; who asks to join a full one is refused, if not in it; nobody else is. The law holds of all channels and users (of more than 100 members it says nothing). -/
import Derived.Test.YtffeomfcjmmgoaaQPeopleFull
import Derived.Test.YtffeomfcjmmgoaaPPeopleFullx3
namespace Go.Proofs.Ytffeomfcjmmgoaa.Pure
open Go.RowKit Go.Proofs.Ytffeomfcjmmgoaa.PPeopleFull Go.Proofs.YtffeomfcjmmgoaaW.PrintWords Go.Proofs.YtffeomfcjmmgoaaW.PrintLast

theorem PeopleFull (a b : Int) (l : List Int) (u : Int) : ∃ k, colloquylaw15_PeopleFull.f k a b l u = some true := by
  refine Ev.rounds (r := true) ?_
  unfold colloquylaw15_PeopleFull.f colloquylaw15_Awake.f
  simp only [Option.bind_some, if_true]
  have hj0 : Ev (fun k => colloquylaw15_PeopleFull.j0 k u true true a b l) true := Ev.step (f := fun _ => some true) (fun k => by simp only [colloquylaw15_PeopleFull.j0, if_true]) (Ev.now _)
  by_cases hlong : (l.length : Int) > 100
  · exact Ev.congr (fun k => if_pos hlong) hj0
  refine Ev.congr (fun k => if_neg hlong) (Ev.bind (may_is a b l (by omega)) ?_)
  cases hm : mayB a b l
  · exact Ev.congr (fun k => if_neg (by simp)) hj0
  refine Ev.congr (fun k => if_pos rfl) ?_
  obtain ⟨m1, m2, h1, h2, hup, hb⟩ := may_up hm
  by_cases hu1 : u < 1
  · exact Ev.congr (fun k => if_pos hu1) hj0
  refine Ev.congr (fun k => if_neg hu1) ?_
  by_cases hu2 : u > 1048576
  · rw [decide_eq_true hu2]; exact hj0
  rw [decide_eq_false hu2]
  refine Ev.step (f := fun k => (people_Join.f k a b l u).bind fun bt142 => ((people_In.f k a b l u).bind fun t149 => (if t149 = true then (some (bt142.2.2.2 == 6)) else (if (l.length : Int) = 16 then (some (bt142.2.2.2 == 7)) else (if bt142.2.2.2 = 0 then (if (bt142.2.2.1.length : Int) = (wrap64 ((l.length : Int) + 1)) then (if (l.length : Int) ≥ 1 then ((people_In.f k bt142.1 bt142.2.1 bt142.2.2.1 b).bind fun t150 => (some t150)) else (some false)) else (some false)) else (some false)))))) (fun k => by simp only [colloquylaw15_PeopleFull.j0]; exact if_neg (by simp)) ?_
  refine Ev.bind (join_is a b l u (by omega)) (Ev.bind (in_is a b l u (by omega)) ?_)
  have hin : inS a b l u = decide (u ∈ l) := by unfold inS; rw [hm, Bool.true_and]
  have hru : up 0 [u] = true := by simp [up]; omega
  rw [hin]
  unfold joinS
  rw [if_neg (by rw [hm, hru]; simp)]
  by_cases hu : u ∈ l
  · rw [decide_eq_true hu, if_pos hu]
    exact Ev.congr (fun k => if_pos rfl) (Ev.now _)
  rw [decide_eq_false hu, if_neg hu]
  refine Ev.congr (fun k => if_neg (by simp)) ?_
  by_cases h16 : 16 ≤ l.length
  · rw [if_pos h16]
    exact Ev.congr (fun k => if_pos (by omega)) (Ev.now _)
  rw [if_neg h16]
  have hl := ins_length hu
  have hmi : mayB a b (ins l u) = true := may_mk ⟨m1, m2, by omega, by omega, up_ins hup (by omega) (by omega), mem_ins.2 (.inr hb)⟩
  refine Ev.congr (fun k => (if_neg (by omega)).trans ((if_pos rfl).trans ((if_pos ?_).trans (if_pos (by omega))))) (Ev.bind (in_is a b (ins l u) b (by omega)) ?_)
  · show ((ins l u).length : Int) = wrap64 ((l.length : Int) + 1)
    rw [wrap_in (by omega) (by omega)]; omega
  · have : inS a b (ins l u) b = true := by unfold inS; rw [hmi, Bool.true_and]; exact decide_eq_true (mem_ins.2 (.inr hb))
    rw [this]; exact Ev.now _

end Go.Proofs.Ytffeomfcjmmgoaa.Pure
