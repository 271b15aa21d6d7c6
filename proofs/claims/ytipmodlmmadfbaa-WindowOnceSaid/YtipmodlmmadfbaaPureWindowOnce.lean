/- What was put is looked up as it was, or is stale, and can't be put once more; other answers stay, or the first of them is stale: of all windows (of more than 50 answers the law says nothing). -/
import Derived.Test.YtipmodlmmadfbaaQWindowOnce
namespace Go.Proofs.Ytipmodlmmadfbaa.Pure
open Go Go.RowKit Go.Proofs.Ytipmodlmmadfbaa.PWindowOnce Go.Proofs.YtipmodlmmadfbaaW.PrintWords Go.Proofs.YtipmodlmmadfbaaW.PrintLast

theorem other_ev (low : Int) (l : List S42) (y e n o : Int) (t : ByteArray) (hl : l.length ≤ 1000000) (h : (putW low l y e n t).2.2 = 0) : Ev (fun k => colloquylaw17_WindowOnce.j1 k y o false low l (putW low l y e n t).1 (putW low l y e n t).2.1) true := by
  obtain ⟨m, hm⟩ : ∃ m, m = putW low l y e n t := ⟨_, rfl⟩
  have hO := fun ho => put_other (o := o) h ho
  have hml : (putW low l y e n t).2.1.length ≤ 8 := (put_ok h).2.2.2.2.2.1.2.2.1
  rw [← hm] at hO hml ⊢
  refine Ev.step (f := fun k => (window_Look.f k low l o).bind fun bt159 => ((window_Look.f k m.1 m.2.1 o).bind fun bt165 => (if o = y then (some true) else (if bt165.2.2.2.2 = 9 then (some true) else (if (bt159.1 == bt165.1 && (bt159.2.1 == bt165.2.1 && (bt159.2.2.1.toList == bt165.2.2.1.toList))) = true then (if (bt159.2.2.2.1 == bt165.2.2.2.1) = true then (some (bt159.2.2.2.2 == bt165.2.2.2.2)) else (some false)) else (some false)))))) (fun k => by simp only [colloquylaw17_WindowOnce.j1, Bool.false_eq_true, if_false]) ?_
  refine Ev.bind (look_is low l o (by omega)) (Ev.bind (look_is m.1 m.2.1 o (by omega)) ?_)
  by_cases ho : o = y
  · simp only [ho, if_true]; exact Ev.now _
  simp only [ho, if_false]
  rcases hO ho with h9 | heq
  · simp only [h9, if_true]; exact Ev.now _
  · rw [heq]
    by_cases h9 : (lookW m.1 m.2.1 o).2.2.2.2 = 9
    · simp only [h9, if_true]; exact Ev.now _
    · simp only [h9, if_false, beq_self_eq_true, Bool.and_self, if_true]; exact Ev.now _

theorem WindowOnce (low : Int) (l : List S42) (y e n : Int) (t : ByteArray) (o : Int) (hl : l.length ≤ 9223372036854775807) : ∃ k, colloquylaw17_WindowOnce.f k low l y e n t o = some true := by
  refine Ev.rounds (g := fun k => colloquylaw17_WindowOnce.f k low l y e n t o) ?_
  unfold colloquylaw17_WindowOnce.f
  refine Ev.bind awake_is ?_
  simp only [colloquylaw17_Few.f, Option.bind_some, if_true]
  by_cases hf : (l.length : Int) ≤ 50
  · rw [decide_eq_true hf]
    refine Ev.step (f := fun k => (window_Put.f k low l y e n t).bind fun bt140 => (if bt140.2.2 = 0 then ((window_Look.f k bt140.1 bt140.2.1 y).bind fun bt146 => ((window_Put.f k bt140.1 bt140.2.1 y e n t).bind fun bt152 => ((window_May.f k bt140.1 bt140.2.1).bind fun t158 => (if t158 = true then (if bt152.2.2 = 0 then (colloquylaw17_WindowOnce.j1 k y o true low l bt140.1 bt140.2.1) else (if bt146.2.2.2.2 = 0 then (if bt146.2.2.2.1 = true then (if (!(bt146.1 == e) || (!(bt146.2.1 == n) || (!(bt146.2.2.1.toList == t.toList)))) = true then (colloquylaw17_WindowOnce.j1 k y o true low l bt140.1 bt140.2.1) else (colloquylaw17_WindowOnce.j1 k y o false low l bt140.1 bt140.2.1)) else (colloquylaw17_WindowOnce.j1 k y o true low l bt140.1 bt140.2.1)) else (colloquylaw17_WindowOnce.j1 k y o (bt146.2.2.2.2 != 9) low l bt140.1 bt140.2.1))) else (colloquylaw17_WindowOnce.j1 k y o true low l bt140.1 bt140.2.1))))) else (if (bt140.2.1.length : Int) = 0 then (some (bt140.1 == 0)) else (some false)))) (fun k => by simp only [colloquylaw17_WindowOnce.j0, Bool.not_true, Bool.false_eq_true, if_false]) ?_
    refine Ev.bind (put_is low l y e n t (by omega)) ?_
    by_cases h0 : (putW low l y e n t).2.2 = 0
    · have hO := other_ev low l y e n o t (by omega) h0
      have hs := put_self h0
      have ha := put_again (e' := e) (n' := n) (t' := t) h0
      have hw := (put_ok h0).2.2.2.2.2.1
      have hml := hw.2.2.1
      obtain ⟨m, hm⟩ : ∃ m, m = putW low l y e n t := ⟨_, rfl⟩
      rw [← hm] at hO hs ha hw hml h0 ⊢
      simp only [h0, if_true]
      refine Ev.bind (look_is m.1 m.2.1 y (by omega)) (Ev.bind (put_is m.1 m.2.1 y e n t (by omega)) (Ev.bind (may_is m.1 m.2.1 (by omega)) ?_))
      simp only [hw, decide_true, if_true, ha, if_false]
      rcases hs with hs | hs
      · simp only [hs, if_true, beq_self_eq_true, Bool.not_true, Bool.or_self, Bool.false_eq_true, if_false]; exact hO
      · simp only [hs, show ¬ (9 : Int) = 0 from by omega, if_false, bne_self_eq_false]; exact hO
    · obtain ⟨e1, e2⟩ := put_err h0
      simp only [h0, if_false, e1, e2, List.length_nil, Int.natCast_zero, if_true, beq_self_eq_true]; exact Ev.now _
  · rw [decide_eq_false hf]
    exact Ev.step (f := fun _ => some true) (fun k => by simp only [colloquylaw17_WindowOnce.j0, Bool.not_false, if_true]) (Ev.now _)
end Go.Proofs.Ytipmodlmmadfbaa.Pure
