/- Whatever numbers are put, in whatever order, each is put at most once; the greatest of them, up to eight, are never stale: of all lists (of more than 100 numbers the law says nothing). -/
import Derived.Test.YtipmodlmmadfbaaQWindowRuns
namespace Go.Proofs.Ytipmodlmmadfbaa.Pure
open Go.RowKit Go.Proofs.Ytipmodlmmadfbaa.PWindowRuns Go.Proofs.YtipmodlmmadfbaaW.PrintWords Go.Proofs.YtipmodlmmadfbaaW.PrintLast

/-- What is known behind some puts: 'done' were put. -/
structure Inv (low : Int) (l : List S42) (done : List Int) : Prop where
  wf : Wf low l
  nodup : done.Nodup
  old : ∀ x ∈ done, x ≤ low ∨ x ∈ ks l
  new : ∀ x ∈ ks l, x ∈ done
  full : low = 0 ∨ l.length = 8
  one : ∀ x ∈ done, 1 ≤ x ∧ x ≤ 1073741824

theorem Inv.put {low : Int} {l : List S42} {done : List Int} (h : Inv low l done) {y e n : Int} {t : ByteArray} (hp : (putW low l y e n t).2.2 = 0) : y ∉ done ∧ Inv (putW low l y e n t).1 (putW low l y e n t).2.1 (done ++ [y]) := by
  obtain ⟨hw, a1, a2, a3, a4, a5, a6, _, a7⟩ := put_ok hp
  have hy : y ∉ done := fun hd => by
    rcases h.old y hd with h | h
    · omega
    · exact a4 h
  have hnd : (done ++ [y]).Nodup := by
    rw [List.nodup_append]
    exact ⟨h.nodup, by simp, fun a ha b hb => by simp at hb; subst hb; exact fun h => hy (h ▸ ha)⟩
  have hone : ∀ x ∈ done ++ [y], 1 ≤ x ∧ x ≤ 1073741824 := fun x hx => by
    rcases List.mem_append.1 hx with hx | hx
    · exact h.one x hx
    · simp at hx; subst hx; exact ⟨a1, a2⟩
  have hall : ∀ x ∈ done ++ [y], x ≤ low ∨ x ∈ ks (putL l y e n t) := fun x hx => by
    rcases List.mem_append.1 hx with hx | hx
    · rcases h.old x hx with h | h
      · exact .inl h
      · exact .inr (mem_putL.2 (.inr h))
    · simp at hx; subst hx; exact .inr (mem_putL.2 (.inl rfl))
  have hin : ∀ x ∈ ks (putL l y e n t), x ∈ done ++ [y] := fun x hx => by
    rcases mem_putL.1 hx with rfl | hx
    · simp
    · exact List.mem_append.2 (.inl (h.new x hx))
  refine ⟨hy, ?_⟩
  rcases a7 with ⟨e1, e2, e3⟩ | ⟨e1, e2, e3, e4⟩
  · rw [e1, e3] at a5 ⊢
    refine ⟨a5, hnd, hall, hin, ?_, hone⟩
    rcases h.full with h | h
    · exact .inl h
    · omega
  · refine ⟨a5, hnd, fun x hx => ?_, fun x hx => hin x (by rw [e3]; exact List.mem_cons_of_mem _ hx), .inr e2, hone⟩
    rcases hall x hx with h' | h'
    · exact .inl (by omega)
    · rw [e3] at h'
      simp only [ks, List.map_cons] at h'
      rcases List.mem_cons.1 h' with h' | h'
      · exact .inl (by omega)
      · exact .inr h'

theorem seen_ev (z done : List Int) (y : Int) (i : Nat) (hi : i < z.length) (he : z[i] = y) (hn : y ∉ done) (hd : done.length ≤ 1000000) (low : Int) (l : List S42) (g : Nat → Option Bool) (r : Bool) (hz : z.length ≤ 1000000) (hr : Ev (fun k => colloquylaw17_WindowRuns.l0 k z (done ++ [y]) ((i + 1 : Nat) : Int) low l) r) :
    ∀ (d j : Nat), j + d = done.length → Ev (fun k => colloquylaw17_WindowRuns.l1 k z done (i : Int) (j : Int) low l) r
  | 0, j, h => by
    have hw := wrap_up hi (by omega)
    refine Ev.step (f := fun k => colloquylaw17_WindowRuns.l0 k z (done ++ [y]) ((i + 1 : Nat) : Int) low l) (fun k => ?_) hr
    simp only [colloquylaw17_WindowRuns.l1]; rw [if_neg (by omega), if_pos (by omega), if_pos (by omega), if_pos (by omega), rd_at hi, he, hw]
  | d + 1, j, h => by
    have hj : j < done.length := by omega
    have hw := wrap_up hj (by omega)
    refine Ev.step (f := fun k => colloquylaw17_WindowRuns.l1 k z done (i : Int) ((j + 1 : Nat) : Int) low l) (fun k => ?_) (seen_ev z done y i hi he hn hd low l g r hz hr d (j + 1) (by omega))
    have hne : ¬ done[j] = z[i] := fun h => hn (by rw [← he, ← h]; exact List.getElem_mem _)
    simp only [colloquylaw17_WindowRuns.l1]; rw [if_pos (by omega), if_pos (by omega), if_pos (by omega), if_pos (by omega), rd_at hj, rd_at hi, if_neg hne, hw]

def above (done : List Int) (y : Int) : Nat := (done.filter fun x => decide (x > y)).length
theorem count_ev (done : List Int) (hd : done.length ≤ 1000000) (low : Int) (l : List S42) (hl : l.length ≤ 8) (i : Nat) (hi : i < done.length) (hok : above done done[i] < 8 → (lookW low l done[i]).2.2.2.1 = true ∧ (lookW low l done[i]).2.2.2.2 = 0)
    (hr : Ev (fun k => colloquylaw17_WindowRuns.l2 k done ((i + 1 : Nat) : Int) low l) true) : ∀ (d j a : Nat), j + d = done.length → a ≤ j → a + ((done.drop j).filter fun x => decide (x > done[i])).length = above done done[i] → Ev (fun k => colloquylaw17_WindowRuns.l3 k done (i : Int) (a : Int) (j : Int) low l) true
  | 0, j, a, h, ha, hs => by
    have hw := wrap_up hi (by omega)
    rw [List.drop_of_length_le (by omega)] at hs
    simp only [List.filter_nil, List.length_nil, Nat.add_zero] at hs
    have hk := look_is low l done[i] (by omega)
    refine Ev.step (f := fun k => (window_Look.f k low l done[i]).bind fun bt153 => (if (a : Int) < 8 then (if bt153.2.2.2.1 = true then (if bt153.2.2.2.2 = 0 then (colloquylaw17_WindowRuns.l2 k done ((i + 1 : Nat) : Int) low l) else (some false)) else (some false)) else (colloquylaw17_WindowRuns.l2 k done ((i + 1 : Nat) : Int) low l))) (fun k => ?_) (Ev.bind hk ?_)
    · simp only [colloquylaw17_WindowRuns.l3]; rw [if_neg (by omega), if_pos (by omega), if_pos (by omega), rd_at hi, hw]
    · by_cases h8 : (a : Int) < 8
      · obtain ⟨o1, o2⟩ := hok (by omega)
        simp only [h8, o1, o2, if_true]; exact hr
      · simp only [h8, if_false]; exact hr
  | d + 1, j, a, h, ha, hs => by
    have hj : j < done.length := by omega
    have hw := wrap_up hj (by omega)
    have hwa : wrap64 ((a : Int) + 1) = ((a + 1 : Nat) : Int) := by rw [wrap_in (by omega) (by omega)]; omega
    rw [List.drop_eq_getElem_cons hj] at hs
    by_cases hg : done[j] > done[i]
    · rw [List.filter_cons_of_pos (by simpa using hg), List.length_cons] at hs
      refine Ev.step (f := fun k => colloquylaw17_WindowRuns.l3 k done (i : Int) ((a + 1 : Nat) : Int) ((j + 1 : Nat) : Int) low l) (fun k => ?_) (count_ev done hd low l hl i hi hok hr d (j + 1) (a + 1) (by omega) (by omega) (by omega))
      simp only [colloquylaw17_WindowRuns.l3]; rw [if_pos (by omega), if_pos (by omega), if_pos (by omega), if_pos (by omega), rd_at hj, rd_at hi, if_pos hg, hw, hwa]
    · rw [List.filter_cons_of_neg (by simpa using hg)] at hs
      refine Ev.step (f := fun k => colloquylaw17_WindowRuns.l3 k done (i : Int) (a : Int) ((j + 1 : Nat) : Int) low l) (fun k => ?_) (count_ev done hd low l hl i hi hok hr d (j + 1) a (by omega) (by omega) (by omega))
      simp only [colloquylaw17_WindowRuns.l3]; rw [if_pos (by omega), if_pos (by omega), if_pos (by omega), if_pos (by omega), rd_at hj, rd_at hi, if_neg hg, hw]

theorem Inv.look {low : Int} {l : List S42} {done : List Int} (h : Inv low l done) {y : Int} (hy : y ∈ done) (ha : above done y < 8) : (lookW low l y).2.2.2.1 = true ∧ (lookW low l y).2.2.2.2 = 0 := by
  obtain ⟨h1, h2⟩ := h.one y hy
  have hin : y ∈ ks l := by
    rcases h.old y hy with h' | h'
    · rcases h.full with hf | hf
      · omega
      · have : (ks l).length ≤ (done.filter fun x => decide (x > y)).length := nodup_le (up_nodup h.wf.up) (fun x hx => List.mem_filter.2 ⟨h.new x hx, by have := (h.wf.above hx).1; simp; omega⟩)
        unfold above at ha
        simp only [ks, List.length_map] at this
        omega
    · exact h'
  have he := look_in h.wf h1 h2 (h.wf.above hin).1
  exact ⟨(look_ok he).2.2.2.2.2 hin, he⟩

theorem check_ev (done : List Int) (hd : done.length ≤ 1000000) (low : Int) (l : List S42) (h : Inv low l done) : ∀ (d i : Nat), i + d = done.length → Ev (fun k => colloquylaw17_WindowRuns.l2 k done (i : Int) low l) true
  | 0, i, e => by
    refine Ev.step (f := fun _ => some true) (fun k => ?_) (Ev.now _)
    simp only [colloquylaw17_WindowRuns.l2]; rw [if_neg (by omega), decide_eq_true (by have := h.wf.2.2.1; omega)]
  | d + 1, i, e => by
    have hi : i < done.length := by omega
    refine Ev.step (f := fun k => colloquylaw17_WindowRuns.l3 k done (i : Int) 0 0 low l) (fun k => by simp only [colloquylaw17_WindowRuns.l2]; rw [if_pos (by omega)]) ?_
    exact count_ev done hd low l h.wf.2.2.1 i hi (fun ha => h.look (List.getElem_mem _) ha) (check_ev done hd low l h d (i + 1) (by omega)) done.length 0 0 (by omega) (by omega) (by simp [above])

theorem run_ev (z : List Int) (hz : z.length ≤ 100) : ∀ (d i : Nat) (low : Int) (l : List S42) (done : List Int), i + d = z.length → done.length ≤ i → Inv low l done → Ev (fun k => colloquylaw17_WindowRuns.l0 k z done (i : Int) low l) true
  | 0, i, low, l, done, e, hd, h => by
    refine Ev.step (f := fun k => colloquylaw17_WindowRuns.l2 k done 0 low l) (fun k => by simp only [colloquylaw17_WindowRuns.l0]; rw [if_neg (by omega)]) ?_
    exact check_ev done (by omega) low l h done.length 0 (by omega)
  | d + 1, i, low, l, done, e, hd, h => by
    have hi : i < z.length := by omega
    have hw := wrap_up hi (by omega)
    have hp := put_is low l z[i] 0 (i : Int) noA (by have := h.wf.2.2.1; omega)
    refine Ev.step (f := fun k => (window_Put.f k low l z[i] 0 (i : Int) noA).bind fun bt138 => (if bt138.2.2 = 0 then (colloquylaw17_WindowRuns.l1 k z done (i : Int) 0 bt138.1 bt138.2.1) else (colloquylaw17_WindowRuns.l0 k z done ((i + 1 : Nat) : Int) low l))) (fun k => ?_) (Ev.bind hp ?_)
    · simp only [colloquylaw17_WindowRuns.l0]; rw [if_pos (by omega), if_pos (by omega), rd_at hi, hw]
    by_cases h0 : (putW low l z[i] 0 (i : Int) noA).2.2 = 0
    · obtain ⟨hn, hI⟩ := h.put h0
      simp only [h0, if_true]
      exact seen_ev z done z[i] i hi rfl hn (by omega) _ _ (fun _ => none) true (by omega) (run_ev z hz d (i + 1) _ _ _ (by omega) (by simp; omega) hI) done.length 0 (by omega)
    · simp only [h0, if_false]
      exact run_ev z hz d (i + 1) low l done (by omega) (by omega) h

theorem WindowRuns : colloquylaw17_WindowRuns.Pure := by
  intro z h1 h2 h3
  refine Ev.rounds (g := fun k => colloquylaw17_WindowRuns.f k z) ?_
  unfold colloquylaw17_WindowRuns.f
  refine Ev.bind awake_is ?_
  simp only [if_true]
  by_cases hz : (z.length : Int) > 100
  · refine Ev.congr (fun k => ?_) (Ev.step (g := fun k => colloquylaw17_WindowRuns.j0 k z true true) (f := fun _ => some true) (fun k => by simp only [colloquylaw17_WindowRuns.j0, if_true]) (Ev.now _))
    rw [decide_eq_true hz]
  · refine Ev.congr (fun k => ?_) (Ev.step (g := fun k => colloquylaw17_WindowRuns.j0 k z true false) (f := fun k => colloquylaw17_WindowRuns.l0 k z [] 0 0 []) (fun k => by simp only [colloquylaw17_WindowRuns.j0]; rw [if_neg (by simp)]) ?_)
    · rw [decide_eq_false hz]
    · exact run_ev z (by omega) z.length 0 0 [] [] (by omega) (by simp) ⟨wf0, by simp, by simp, by simp [ks], .inl rfl, by simp⟩
end Go.Proofs.Ytipmodlmmadfbaa.Pure
