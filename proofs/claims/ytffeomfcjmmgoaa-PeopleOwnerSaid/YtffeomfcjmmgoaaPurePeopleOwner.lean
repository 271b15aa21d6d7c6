/- Whoever joins and leaves a channel, in whatever order, at most 100 times, the channel may be, its owner is in it, and it stays the owner's. The law holds of all numbers and all lists of numbers. -/
import Derived.Test.YtffeomfcjmmgoaaQPeopleOwner
import Derived.Test.YtffeomfcjmmgoaaPPeopleOwnerx3
namespace Go.Proofs.Ytffeomfcjmmgoaa.Pure
open Go.RowKit Go.Proofs.Ytffeomfcjmmgoaa.PPeopleOwner Go.Proofs.YtffeomfcjmmgoaaW.PrintWords Go.Proofs.YtffeomfcjmmgoaaW.PrintLast

theorem owner_in {a b : Int} {l : List Int} (h : mayB a b l = true) : inS a b l b = true := by
  unfold inS; rw [h]; simp [(may_up h).2.2.2.2.2]

theorem owner_loop (x0 x1 : Int) (x2 : List Int) (hl : x2.length ≤ 100) : ∀ (d i : Nat) (l : List Int), i + d = x2.length → mayB x0 x1 l = true → Ev (fun k => colloquylaw15_PeopleOwner.l0 k x0 x1 x2 (i : Int) x0 x1 l) true
  | 0, i, l, h, hm => by
    refine Ev.step (f := fun _ => some true) (fun k => ?_) (Ev.now _)
    simp only [colloquylaw15_PeopleOwner.l0]; rw [if_neg (by omega)]
  | d + 1, i, l, h, hm => by
    have hi : i < x2.length := by omega
    have hw : wrap64 ((i : Int) + 1) = ((i + 1 : Nat) : Int) := by rw [wrap_in (by omega) (by omega)]; omega
    have hlen := (may_up hm).2.2.2.1
    have j3 : ∀ l', mayB x0 x1 l' = true → Ev (fun k => colloquylaw15_PeopleOwner.j3 k x0 x1 x2 (i : Int) x0 x1 l') true := fun l' hm' => by
      have hlen' := (may_up hm').2.2.2.1
      have ih := owner_loop x0 x1 x2 hl d (i + 1) l' (by omega) hm'
      refine Ev.step (f := fun k => (people_May.f k x0 x1 l').bind fun t163 => (if t163 = true then ((people_In.f k x0 x1 l' x1).bind fun t164 => (if t164 = true then (if x1 = x1 then (if x0 = x0 then (colloquylaw15_PeopleOwner.l0 k x0 x1 x2 (wrap64 ((i : Int) + 1)) x0 x1 l') else (some false)) else (some false)) else (some false))) else (some false))) (fun k => rfl) ?_
      refine Ev.bind (may_is x0 x1 l' (by omega)) ?_
      rw [hm']
      refine Ev.congr (fun k => if_pos rfl) (Ev.bind (in_is x0 x1 l' x1 (by omega)) ?_)
      rw [owner_in hm']
      refine Ev.congr (fun k => (if_pos rfl).trans ((if_pos rfl).trans (if_pos rfl))) ?_
      rw [hw]; exact ih
    have j2 : ∀ (r : Int × Int × List Int × Int), (r.2.2.2 = 0 → r.1 = x0 ∧ r.2.1 = x1 ∧ mayB x0 x1 r.2.2.1 = true) → Ev (fun k => colloquylaw15_PeopleOwner.j2 k x0 x1 x2 (i : Int) r.2.2.2 x0 x1 l r.1 r.2.1 r.2.2.1) true := fun r hr => by
      by_cases h0 : r.2.2.2 = 0
      · obtain ⟨e1, e2, e3⟩ := hr h0
        refine Ev.step (f := fun k => colloquylaw15_PeopleOwner.j3 k x0 x1 x2 (i : Int) r.1 r.2.1 r.2.2.1) (fun k => by simp only [colloquylaw15_PeopleOwner.j2]; rw [if_pos h0]) ?_
        rw [e1, e2]; exact j3 _ e3
      · exact Ev.step (f := fun k => colloquylaw15_PeopleOwner.j3 k x0 x1 x2 (i : Int) x0 x1 l) (fun k => by simp only [colloquylaw15_PeopleOwner.j2]; rw [if_neg h0]) (j3 l hm)
    refine Ev.step (f := fun k => (people_Join.f k x0 x1 l (rd x2 (i : Int))).bind fun bt148 => (if (rd x2 (i : Int)) < 0 then ((people_Leave.f k x0 x1 l (wrap64 (-(rd x2 (i : Int))))).bind fun bt157 => (colloquylaw15_PeopleOwner.j2 k x0 x1 x2 (i : Int) bt157.2.2.2 x0 x1 l bt157.1 bt157.2.1 bt157.2.2.1)) else (colloquylaw15_PeopleOwner.j2 k x0 x1 x2 (i : Int) bt148.2.2.2 x0 x1 l bt148.1 bt148.2.1 bt148.2.2.1))) (fun k => by simp only [colloquylaw15_PeopleOwner.l0]; rw [if_pos (by omega), if_pos (by omega)]) ?_
    refine Ev.bind (join_is x0 x1 l _ (by omega)) ?_
    by_cases hneg : rd x2 (i : Int) < 0
    · refine Ev.congr (fun k => if_pos hneg) (Ev.bind (leave_is x0 x1 l _ (by omega)) (j2 _ (fun h0 => ?_)))
      obtain ⟨e, hm', _⟩ := leave_may h0
      rw [e]; exact ⟨rfl, rfl, hm'⟩
    · refine Ev.congr (fun k => if_neg hneg) (j2 _ (fun h0 => ?_))
      obtain ⟨e, hm', _⟩ := join_may h0
      rw [e]; exact ⟨rfl, rfl, hm'⟩

theorem PeopleOwner : colloquylaw15_PeopleOwner.Pure := by
  intro a0 a1 l2 _ _ _ _ _
  refine Ev.rounds (r := true) ?_
  unfold colloquylaw15_PeopleOwner.f colloquylaw15_Awake.f
  simp only [Option.bind_some, if_true]
  refine Ev.bind (open_is a0 a1) ?_
  have hj0 : ∀ a b l, Ev (fun k => colloquylaw15_PeopleOwner.j0 k a0 a1 l2 true true a b l) true := fun a b l => Ev.step (f := fun _ => some true) (fun k => by simp only [colloquylaw15_PeopleOwner.j0, if_true]) (Ev.now _)
  unfold openS
  by_cases hm : mayB a0 a1 [a1] = true
  · rw [if_pos hm]
    simp only [if_true]
    by_cases hlong : l2.length > 100
    · rw [decide_eq_true (show (l2.length : Int) > 100 by omega)]; exact hj0 _ _ _
    · rw [decide_eq_false (show ¬ (l2.length : Int) > 100 by omega)]
      refine Ev.step (f := fun k => colloquylaw15_PeopleOwner.l0 k a0 a1 l2 0 a0 a1 [a1]) (fun k => by simp only [colloquylaw15_PeopleOwner.j0]; rw [if_neg (by simp)]) ?_
      have := owner_loop a0 a1 l2 (by omega) l2.length 0 [a1] (by omega) hm
      simpa using this
  · rw [if_neg hm]
    exact Ev.congr (fun k => if_neg (by decide)) (hj0 _ _ _)

end Go.Proofs.Ytffeomfcjmmgoaa.Pure
