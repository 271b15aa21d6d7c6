/- Chapter 11: things each of which waits for the next one. Plain. -/
import Derived.Test.YthccfgkklimebaaD12
set_option linter.unusedVariables false
set_option linter.unusedSimpArgs false
namespace Go.Proofs.Ythccfgkklimebaa.F
open Go Go.SX

def line (i : Nat) : List (Int × Int) := (List.range i).map fun k : Nat => ((k : Int), ((k + 1 : Nat) : Int))
theorem line_length (i : Nat) : (line i).length = i := by simp [line]
theorem line_succ (i : Nat) : line (i + 1) = line i ++ [((i : Int), ((i + 1 : Nat) : Int))] := by simp [line, List.range_succ]
theorem mem_line {i a b : Nat} : ((a : Int), (b : Int)) ∈ line i ↔ a < i ∧ b = a + 1 := by
  simp only [line, List.mem_map, List.mem_range, Prod.mk.injEq]
  constructor
  · rintro ⟨k, hk, h1, h2⟩; omega
  · rintro ⟨h1, h2⟩; exact ⟨a, h1, rfl, by omega⟩
def cyc (m : Nat) : List (Int × Int) := line (m - 1) ++ [(((m - 1 : Nat) : Int), 0)]

section
variable {m : Nat} (h1 : 1 ≤ m) (h2 : m ≤ 30)
include h1 h2
theorem bN_m : bN (m : Int) = m := by unfold bN; rw [if_neg (by omega), if_neg (by omega)]; simp
theorem line_reach {a b : Nat} (h : a ≤ b) (hb : b < m) : RR (m : Int) (line (m - 1)) a b := by
  have hN := bN_m h1 h2
  obtain ⟨d, rfl⟩ : ∃ d, b = a + d := ⟨b - a, by omega⟩
  induction d with
  | zero => exact .refl _
  | succ d ih => exact .step (ih (by omega) (by omega)) ⟨by omega, by omega, mem_line.2 ⟨by omega, rfl⟩⟩
theorem line_rB {a b : Nat} (ha : a < m) (hb : b < m) : rB (m : Int) (line (m - 1)) a b = decide (a ≤ b) := by
  have hN := bN_m h1 h2
  refine rB_eq (R' := fun a b => decide (a ≤ b)) (fun a _ => by simp) (fun a _ b _ c _ h e => ?_) (fun a ha b hb h => line_reach h1 h2 (by simpa using h) (by omega)) (by omega) (by omega)
  have := (mem_line.1 e.2.2).2
  simp at h ⊢; omega
theorem cyc_rB {a b : Nat} (ha : a < m) (hb : b < m) : rB (m : Int) (cyc m) a b = true := by
  have hN := bN_m h1 h2
  rw [rB_iff]
  have hsub : ∀ e ∈ line (m - 1), e ∈ cyc m := fun e he => by simp [cyc, he]
  have r1 := reach_mono hsub (line_reach h1 h2 (a := a) (b := m - 1) (by omega) (by omega))
  have r2 := reach_mono hsub (line_reach h1 h2 (a := 0) (b := b) (by omega) (by omega))
  exact (r1.step ⟨by omega, by omega, by simp [cyc]⟩).trans r2

/-- What is told of a line: the last ones. -/
def lt_ (m t : Nat) : List Bool := (List.range m).map fun v => decide (m - t ≤ v)
omit h1 h2 in
theorem lt_get {t v : Nat} (hv : v < m) : (lt_ m t).getD v false = decide (m - t ≤ v) := by simp [lt_, hv]
omit h1 h2 in
theorem line_pick {t : Nat} (ht : t < m) : pick m (fun a b => decide (a ≤ b)) (lt_ m t) = some (m - 1 - t) := by
  refine pick_some.2 ⟨elig_iff.2 ⟨?_, fun j hj ha hb => ?_⟩, by omega, fun j hj => ?_⟩
  · rw [lt_get (by omega)]; simp; omega
  · rw [lt_get hj]; simp at ha hb ⊢; omega
  · cases he : elig m (fun a b => decide (a ≤ b)) (lt_ m t) j
    · rfl
    · have := (elig_iff.1 he).2 (j + 1) (by omega) (by simp) (by simp)
      rw [lt_get (by omega)] at this
      simp at this; omega
omit h1 h2 in
theorem line_rest : ∀ (d t : Nat), t + d = m → rest m (fun a b => decide (a ≤ b)) (lt_ m t) = (List.range' t d).map fun k => [m - 1 - k]
  | 0, t, h => by
    rw [rest_none]
    · simp
    · refine pick_none.2 (fun k hk => ?_)
      cases he : elig m (fun a b => decide (a ≤ b)) (lt_ m t) k
      · rfl
      · have := (elig_iff.1 he).1
        rw [lt_get hk] at this; simp at this; omega
  | d + 1, t, h => by
    rw [rest_some (fun k => by simp) (by simp [lt_]) (line_pick (by omega)), List.range'_succ, List.map_cons]
    have hc : cls m (fun a b => decide (a ≤ b)) (m - 1 - t) = [m - 1 - t] := by
      unfold cls
      have : (fun j => decide (m - 1 - t ≤ j) && decide (j ≤ m - 1 - t)) = fun j => decide (j = m - 1 - t) := by
        funext j; rw [Bool.eq_iff_iff]; simp; omega
      rw [this]
      have hs : List.range m = List.range (m - 1 - t) ++ (m - 1 - t) :: List.range' (m - 1 - t + 1) t := by
        have e : m = (m - 1 - t) + (t + 1) := by omega
        conv => lhs; rw [e, List.range_eq_range', ← List.range'_append_1, ← List.range_eq_range']
        simp [List.range'_succ]
      rw [hs, List.filter_append, List.filter_cons]
      have f1 : (List.range (m - 1 - t)).filter (fun j => decide (j = m - 1 - t)) = [] := by simp; omega
      have f2 : (List.range' (m - 1 - t + 1) t).filter (fun j => decide (j = m - 1 - t)) = [] := by simp; omega
      rw [f1, f2]; simp
    have hm : mark m (fun a b => decide (a ≤ b)) (lt_ m t) (m - 1 - t) = lt_ m (t + 1) := by
      unfold mark
      rw [show lt_ m (t + 1) = (List.range m).map fun v => decide (m - (t + 1) ≤ v) from rfl]
      refine List.map_congr_left (fun v hv => ?_)
      have hv : v < m := by simpa using hv
      rw [lt_get hv, Bool.eq_iff_iff]; simp; omega
    rw [hc, hm, line_rest d (t + 1) (by omega)]
theorem line_comps : compsL (m : Int) (line (m - 1)) = (List.range m).map fun k => [m - 1 - k] := by
  unfold compsL
  rw [bN_m h1 h2, comps_congr (R' := fun a b => decide (a ≤ b)) (fun a ha b hb => line_rB h1 h2 ha hb)]
  unfold comps
  have : List.replicate m false = lt_ m 0 := by
    apply List.ext_getElem
    · simp [lt_]
    · intro i g1 g2; simp [lt_]; simpa using g1
  rw [this, line_rest m 0 (by omega), List.range_eq_range']
theorem cyc_comps : compsL (m : Int) (cyc m) = [List.range m] := by
  unfold compsL
  rw [bN_m h1 h2, comps_congr (R' := fun _ _ => true) (fun a ha b hb => cyc_rB h1 h2 ha hb)]
  unfold comps
  have hp : pick m (fun _ _ => true) (List.replicate m false) = some 0 := pick_some.2 ⟨elig_iff.2 ⟨by simp [List.getElem?_replicate]; split <;> rfl, fun j hj _ h => by cases h⟩, by omega, fun j hj => by omega⟩
  rw [rest_some (fun _ => rfl) (by simp) hp]
  have hc : cls m (fun _ _ => true) 0 = List.range m := by unfold cls; simp
  have hr : rest m (fun _ _ => true) (mark m (fun _ _ => true) (List.replicate m false) 0) = [] := by
    refine rest_none (pick_none.2 (fun k hk => ?_))
    cases he : elig m (fun _ _ => true) (mark m (fun _ _ => true) (List.replicate m false) 0) k
    · rfl
    · have := (elig_iff.1 he).1
      rw [mark_getD hk] at this; simp at this
  rw [hc, hr]
end
end Go.Proofs.Ythccfgkklimebaa.F
