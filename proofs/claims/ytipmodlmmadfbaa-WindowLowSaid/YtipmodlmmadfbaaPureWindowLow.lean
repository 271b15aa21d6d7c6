/- Behind any puts the first number above Low is not stale; Low never falls, and is 0, or a number that was put: of all lists (of more than 100 numbers the law says nothing). -/
import Derived.Test.YtipmodlmmadfbaaQWindowLow
namespace Go.Proofs.Ytipmodlmmadfbaa.Pure
open Go.RowKit Go.Proofs.Ytipmodlmmadfbaa.PWindowLow Go.Proofs.YtipmodlmmadfbaaW.PrintWords Go.Proofs.YtipmodlmmadfbaaW.PrintLast

theorem was_ev (z : List Int) (hz : z.length ≤ 1000000) (low : Int) (l : List S42) (hw : Wf low l) : ∀ (d i : Nat) (b : Bool), i + d = z.length → (b = true ∨ low ∈ z.drop i) → Ev (fun k => colloquylaw17_WindowLow.l1 k z b (i : Int) low l) true
  | 0, i, b, h, hb => by
    have hb' : b = true := by
      rcases hb with h' | h'
      · exact h'
      · rw [List.drop_of_length_le (by omega)] at h'; simp at h'
    subst hb'
    have hwr : wrap64 (low + 1) = low + 1 := by have := hw.1; have := hw.2.1; exact wrap_in (by omega) (by omega)
    have hk := look_is low l (low + 1) (by have := hw.2.2.1; omega)
    have hm := may_is low l (by have := hw.2.2.1; omega)
    refine Ev.step (f := fun k => (window_Look.f k low l (low + 1)).bind fun bt145 => ((window_May.f k low l).bind fun t151 => (if t151 = true then (if bt145.2.2.2.2 = 0 then (some true) else (some (low == 1073741824))) else (some false)))) (fun k => ?_) (Ev.bind hk (Ev.bind hm ?_))
    · simp only [colloquylaw17_WindowLow.l1, if_true]; rw [if_neg (by omega), hwr]
    · simp only [hw, decide_true, if_true]
      by_cases hM : low = 1073741824
      · subst hM
        by_cases h0 : (lookW 1073741824 l (1073741824 + 1)).2.2.2.2 = 0
        · simp only [h0, if_true]; exact Ev.now _
        · simp only [h0, if_false]; exact Ev.now _
      · have := look_in (y := low + 1) hw (by have := hw.1; omega) (by have := hw.2.1; omega) (by omega)
        simp only [this, if_true]; exact Ev.now _
  | d + 1, i, b, h, hb => by
    have hi : i < z.length := by omega
    have hw' := wrap_up hi (by omega)
    rw [List.drop_eq_getElem_cons hi] at hb
    cases b
    · refine Ev.step (f := fun k => colloquylaw17_WindowLow.l1 k z (z[i] == low) ((i + 1 : Nat) : Int) low l) (fun k => ?_) (was_ev z hz low l hw d (i + 1) _ (by omega) ?_)
      · simp only [colloquylaw17_WindowLow.l1, Bool.false_eq_true, if_false]; rw [if_pos (by omega), if_pos (by omega), rd_at hi, hw']
      · rcases hb with h' | h'
        · cases h'
        · rcases List.mem_cons.1 h' with h' | h'
          · exact .inl (by simp [h'])
          · exact .inr h'
    · refine Ev.step (f := fun k => colloquylaw17_WindowLow.l1 k z true ((i + 1 : Nat) : Int) low l) (fun k => ?_) (was_ev z hz low l hw d (i + 1) _ (by omega) (.inl rfl))
      simp only [colloquylaw17_WindowLow.l1, if_true]; rw [if_pos (by omega), hw']

theorem run_ev (z : List Int) (hz : z.length ≤ 100) : ∀ (d i : Nat) (low : Int) (l : List S42), i + d = z.length → Wf low l → (∀ x ∈ ks l, x ∈ z) → (low = 0 ∨ low ∈ z) → Ev (fun k => colloquylaw17_WindowLow.l0 k z (i : Int) low l) true
  | 0, i, low, l, e, hw, hk, hlow => by
    refine Ev.step (f := fun k => colloquylaw17_WindowLow.l1 k z (low == 0) 0 low l) (fun k => by simp only [colloquylaw17_WindowLow.l0]; rw [if_neg (by omega)]) ?_
    refine was_ev z (by omega) low l hw z.length 0 _ (by omega) ?_
    rcases hlow with h | h
    · exact .inl (by simp [h])
    · exact .inr (by simpa using h)
  | d + 1, i, low, l, e, hw, hk, hlow => by
    have hi : i < z.length := by omega
    have hw' := wrap_up hi (by omega)
    have hp := put_is low l z[i] 0 0 noA (by have := hw.2.2.1; omega)
    refine Ev.step (f := fun k => (window_Put.f k low l z[i] 0 0 noA).bind fun bt138 => (if bt138.2.2 = 0 then (if bt138.1 < low then (some false) else (colloquylaw17_WindowLow.l0 k z ((i + 1 : Nat) : Int) bt138.1 bt138.2.1)) else (colloquylaw17_WindowLow.l0 k z ((i + 1 : Nat) : Int) low l))) (fun k => ?_) (Ev.bind hp ?_)
    · simp only [colloquylaw17_WindowLow.l0]; rw [if_pos (by omega), if_pos (by omega), rd_at hi, hw']
    by_cases h0 : (putW low l z[i] 0 0 noA).2.2 = 0
    · obtain ⟨_, _, _, _, _, a5, a6, _, a7⟩ := put_ok h0
      have hin : ∀ x ∈ ks (putL l z[i] 0 0 noA), x ∈ z := fun x hx => by
        rcases mem_putL.1 hx with rfl | hx
        · exact List.getElem_mem _
        · exact hk x hx
      simp only [h0, if_true, show ¬ (putW low l z[i] 0 0 noA).1 < low from by omega, if_false]
      refine run_ev z hz d (i + 1) _ _ (by omega) a5 ?_ ?_
      · rcases a7 with ⟨e1, e2, e3⟩ | ⟨e1, e2, e3, e4⟩
        · rw [e3]; exact hin
        · intro x hx; exact hin x (by rw [e3]; exact List.mem_cons_of_mem _ hx)
      · rcases a7 with ⟨e1, e2, e3⟩ | ⟨e1, e2, e3, e4⟩
        · rw [e1]; exact hlow
        · right; rw [e4]; refine hin _ ?_
          have : (putL l z[i] 0 0 noA).getD 0 z42 ∈ putL l z[i] 0 0 noA := by rw [e3]; simp
          exact List.mem_map.2 ⟨_, this, rfl⟩
    · simp only [h0, if_false]
      exact run_ev z hz d (i + 1) low l (by omega) hw hk hlow

theorem WindowLow : colloquylaw17_WindowLow.Pure := by
  intro z h1 h2 h3
  refine Ev.rounds (g := fun k => colloquylaw17_WindowLow.f k z) ?_
  unfold colloquylaw17_WindowLow.f
  refine Ev.bind awake_is ?_
  simp only [if_true]
  by_cases hz : (z.length : Int) > 100
  · refine Ev.congr (fun k => ?_) (Ev.step (g := fun k => colloquylaw17_WindowLow.j0 k z true true) (f := fun _ => some true) (fun k => by simp only [colloquylaw17_WindowLow.j0, if_true]) (Ev.now _))
    rw [decide_eq_true hz]
  · refine Ev.congr (fun k => ?_) (Ev.step (g := fun k => colloquylaw17_WindowLow.j0 k z true false) (f := fun k => colloquylaw17_WindowLow.l0 k z 0 0 []) (fun k => by simp only [colloquylaw17_WindowLow.j0]; rw [if_neg (by simp)]) ?_)
    · rw [decide_eq_false hz]
    · exact run_ev z (by omega) z.length 0 0 [] (by omega) wf0 (by simp [ks]) (.inl rfl)
end Go.Proofs.Ytipmodlmmadfbaa.Pure
