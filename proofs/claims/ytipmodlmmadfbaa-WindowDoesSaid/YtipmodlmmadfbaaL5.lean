/- Chapter 17: where a number is, told by counting; a window that is handed back. -/
import Derived.Test.YtipmodlmmadfbaaL4
set_option linter.unusedVariables false
set_option linter.unusedSimpArgs false
namespace Go.SX
open Go
theorem arr1 {a : Array Value} {x : Value} (h : a.size = 1) (h0 : a.getD 0 undef = x) : a = #[x] := by
  apply Array.ext
  · simpa using h
  · intro i hi _; have : i = 0 := by omega
    subst this; simp [hi] at h0; simpa using h0
theorem arr2 {a : Array Value} {x y : Value} (h : a.size = 2) (h0 : a.getD 0 undef = x) (h1 : a.getD 1 undef = y) : a = #[x, y] := by
  apply Array.ext
  · simpa using h
  · intro i hi _
    match i, hi with
    | 0, hi => simp [hi] at h0; simpa using h0
    | 1, hi => simp [hi] at h1; simpa using h1
    | (i + 2), hi => omega
theorem arr3 {a : Array Value} {x y z : Value} (h : a.size = 3) (h0 : a.getD 0 undef = x) (h1 : a.getD 1 undef = y) (h2 : a.getD 2 undef = z) : a = #[x, y, z] := by
  apply Array.ext
  · simpa using h
  · intro i hi _
    match i, hi with
    | 0, hi => simp [hi] at h0; simpa using h0
    | 1, hi => simp [hi] at h1; simpa using h1
    | 2, hi => simp [hi] at h2; simpa using h2
    | (i + 3), hi => omega
end Go.SX
namespace Go.Proofs.Ytipmodlmmadfbaa.F
open Go Go.SX Go.RowKit Go.Proofs.YtipmodlmmadfbaaW.PrintWords

def cnt (ks : List Int) (y : Int) : Nat := (ks.filter fun x => decide (x < y)).length

theorem at_cnt {l : List Tl} {y : Int} {p : Nat} {f : Bool} (hu : Up l) (h : At l y p f) : p = cnt (l.map (·.1)) y ∧ f = decide (y ∈ l.map (·.1)) := by
  obtain ⟨hp, hf, h1, h2⟩ := h
  refine ⟨?_, ?_⟩
  · have e : (l.map (·.1)).filter (fun x => decide (x < y)) = (l.map (·.1)).take p := by
      conv => lhs; rw [← List.take_append_drop p (l.map (·.1))]
      rw [List.filter_append, List.filter_eq_self.2, List.filter_eq_nil_iff.2, List.append_nil]
      · intro x hx
        obtain ⟨q, hq, rfl⟩ := List.mem_iff_getElem.1 hx
        have hq' : q < l.length - p := by simpa using hq
        have := h2 (p + q) (by omega) (by omega)
        simp; omega
      · intro x hx
        obtain ⟨q, hq, rfl⟩ := List.mem_iff_getElem.1 hx
        have hq' : q < min p l.length := by simpa using hq
        have := h1 q (by omega) (by omega)
        simpa using this
    unfold cnt
    rw [e]; simp; omega
  · cases f
    · symm
      refine decide_eq_false (fun hm => ?_)
      obtain ⟨x, hx, hxy⟩ := List.mem_map.1 hm
      obtain ⟨q, hq, rfl⟩ := List.mem_iff_getElem.1 hx
      have hqp : p ≤ q := by rcases Nat.lt_or_ge q p with h | h; have := h1 q hq h; omega; exact h
      have hpl : p < l.length := by omega
      have := h2 p hpl (Nat.le_refl _)
      have hne : ¬ l[p].1 = y := fun h => by have := hf.2 ⟨hpl, h⟩; cases this
      rcases Nat.lt_or_ge p q with h | h
      · have := hu p q hpl hq h; omega
      · have : p = q := by omega
        subst this; exact hne hxy
    · symm
      obtain ⟨hpl, he⟩ := hf.1 rfl
      exact decide_eq_true (List.mem_map.2 ⟨_, List.getElem_mem hpl, he⟩)
end Go.Proofs.Ytipmodlmmadfbaa.F
