/- Chapter 11: what reaches what. Plain: no program in sight. -/
import Derived.Test.YthccfgkklimebaaD1
import Derived.Test.YthccfgkklimebaaTarjan
namespace Go.Proofs.Ythccfgkklimebaa.F
open Go Go.SX

/-- One thing waits for another one. -/
def eN (n : Int) (l : List (Int × Int)) (a b : Nat) : Prop := a < bN n ∧ b < bN n ∧ ((a : Int), (b : Int)) ∈ l
abbrev RR (n : Int) (l : List (Int × Int)) := T.Reach (eN n l)
open Classical in
noncomputable def rB (n : Int) (l : List (Int × Int)) (a b : Nat) : Bool := decide (RR n l a b)
theorem rB_iff {n : Int} {l : List (Int × Int)} {a b : Nat} : rB n l a b = true ↔ RR n l a b := by simp [rB]
noncomputable def fromL (n : Int) (l : List (Int × Int)) (a : Int) : List Bool := if isT n a then (List.range (bN n)).map (rB n l a.toNat) else List.replicate (bN n) false

structure Part (n : Int) (l : List (Int × Int)) (a : Nat) (out : List Bool) : Prop where
  len : out.length = bN n
  lt : a < bN n
  own : out.getD a false = true
  only : ∀ v : Nat, out.getD v false = true → RR n l a v

theorem reach_closed {n : Int} {l : List (Int × Int)} {S : Nat → Prop} (hc : ∀ u v, eN n l u v → S u → S v) {a v : Nat} (h : RR n l a v) (ha : S a) : S v := by
  induction h with
  | refl => exact ha
  | step _ e ih => exact hc _ _ e ih

theorem Part.eq {n : Int} {l : List (Int × Int)} {a : Nat} {out : List Bool} (h : Part n l a out) (hc : ∀ u v : Nat, eN n l u v → out.getD u false = true → out.getD v false = true) : out = fromL n l a := by
  have hT : isT n a = true := (isT_iff _ _).2 ⟨by omega, by have := h.lt; omega⟩
  unfold fromL
  rw [if_pos hT]
  apply List.ext_getElem
  · simp [h.len]
  · intro i h1 h2
    have e : out.getD i false = out[i] := by simp [h1]
    rw [← e]
    simp only [List.getElem_map, List.getElem_range]
    rw [Bool.eq_iff_iff, rB_iff]
    exact ⟨h.only i, fun hr => reach_closed (S := fun v => out.getD v false = true) hc hr h.own⟩

theorem Part.start {n : Int} {l : List (Int × Int)} {a : Nat} (h : a < bN n) : Part n l a ((List.replicate (bN n) false).set a true) where
  len := by simp
  lt := h
  own := by simp [h]
  only v hv := by
    by_cases e : v = a
    · subst e; exact .refl _
    · simp [List.getD_eq_getElem?_getD, List.getElem?_set_ne (Ne.symm e), List.getElem?_replicate] at hv
      split at hv <;> simp at hv

theorem Part.more {n : Int} {l : List (Int × Int)} {a : Nat} {out : List Bool} (h : Part n l a out) {u v : Nat} (hu : out.getD u false = true) (e : eN n l u v) : Part n l a (out.set v true) where
  len := by simp [h.len]
  lt := h.lt
  own := by
    by_cases e2 : v = a
    · subst e2; simp [h.len, h.lt]
    · simp only [List.getD_eq_getElem?_getD, List.getElem?_set_ne e2]; simpa [List.getD_eq_getElem?_getD] using h.own
  only w hw := by
    by_cases e2 : w = v
    · subst e2; exact .step (h.only u hu) e
    · exact h.only w (by simp only [List.getD_eq_getElem?_getD, List.getElem?_set_ne (Ne.symm e2)] at hw ⊢; exact hw)

/-- How many are not reached yet. -/
def unset (out : List Bool) : Nat := out.count false
theorem unset_set {out : List Bool} {v : Nat} (hv : v < out.length) (h : out[v] = false) : unset (out.set v true) + 1 = unset out := by
  have h1 : 0 < out.count false := List.count_pos_iff.2 (h ▸ List.getElem_mem hv)
  unfold unset
  rw [List.count_set hv]
  simp [h]
  omega
end Go.Proofs.Ythccfgkklimebaa.F
