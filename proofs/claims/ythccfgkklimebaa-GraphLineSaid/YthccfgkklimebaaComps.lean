/- Chapter 11: the components' order, plain: no program in sight. -/
import Derived.Test.YthccfgkklimebaaD4
set_option linter.unusedVariables false
set_option linter.unusedSimpArgs false
namespace Go.Proofs.Ythccfgkklimebaa.F
open Go Go.SX

section
variable (N : Nat) (R : Nat → Nat → Bool)
/-- May a thing be told next? -/
def elig (tl : List Bool) (k : Nat) : Bool := !tl.getD k false && (List.range N).all fun j => !(R k j && !R j k && !tl.getD j false)
def pick (tl : List Bool) : Option Nat := (List.range N).find? (elig N R tl)
def cls (k : Nat) : List Nat := (List.range N).filter fun j => R k j && R j k
def mark (tl : List Bool) (k : Nat) : List Bool := (List.range N).map fun v => tl.getD v false || (R k v && R v k)
def run : Nat → List Bool → List (List Nat)
  | 0, _ => []
  | f + 1, tl => match pick N R tl with
    | none => []
    | some k => cls N R k :: run f (mark N R tl k)
/-- The components behind what is told. -/
def rest (tl : List Bool) : List (List Nat) := run N R (unset tl) tl
def comps : List (List Nat) := rest N R (List.replicate N false)
end

section
variable {N : Nat} {R : Nat → Nat → Bool}
theorem elig_iff {tl : List Bool} {k : Nat} : elig N R tl k = true ↔ tl.getD k false = false ∧ ∀ j, j < N → R k j = true → R j k = false → tl.getD j false = true := by
  simp only [elig, Bool.and_eq_true, Bool.not_eq_true', List.all_eq_true, List.mem_range, Bool.and_eq_false_iff, Bool.not_eq_false']
  constructor
  · rintro ⟨h1, h2⟩
    refine ⟨h1, fun j hj ha hb => ?_⟩
    rcases h2 j hj with (h | h) | h
    · rw [ha] at h; cases h
    · rw [hb] at h; cases h
    · exact h
  · rintro ⟨h1, h2⟩
    refine ⟨h1, fun j hj => ?_⟩
    cases ha : R k j
    · exact .inl (.inl rfl)
    · cases hb : R j k
      · exact .inr (h2 j hj ha hb)
      · exact .inl (.inr rfl)

theorem pick_some {tl : List Bool} {k : Nat} : pick N R tl = some k ↔ elig N R tl k = true ∧ k < N ∧ ∀ j, j < k → elig N R tl j = false := by
  unfold pick
  rw [List.find?_range_eq_some]
  simp
theorem pick_none {tl : List Bool} : pick N R tl = none ↔ ∀ k, k < N → elig N R tl k = false := by
  unfold pick
  rw [List.find?_eq_none]
  simp

theorem mark_length (tl : List Bool) (k : Nat) : (mark N R tl k).length = N := by simp [mark]
theorem mark_getD {tl : List Bool} {k v : Nat} (h : v < N) : (mark N R tl k).getD v false = (tl.getD v false || (R k v && R v k)) := by simp [mark, h]

theorem count_le : ∀ (a b : List Bool), a.length = b.length → (∀ v, b.getD v false = false → a.getD v false = false → True) → (∀ v, v < a.length → a.getD v false = true → b.getD v false = true) → b.count false ≤ a.count false
  | [], [], _, _, _ => Nat.le_refl _
  | x :: a, y :: b, hl, _, h => by
    have ih := count_le a b (by simpa using hl) (fun _ _ _ => trivial) (fun v hv hx => by have := h (v + 1) (by simp; omega) (by simpa using hx); simpa using this)
    have h0 := h 0 (by simp)
    simp only [List.count_cons]
    cases x <;> cases y <;> simp at h0 ⊢ <;> omega
  | [], _ :: _, hl, _, _ => by simp at hl
  | _ :: _, [], hl, _, _ => by simp at hl

theorem unset_le {a b : List Bool} (hl : a.length = b.length) (h : ∀ v, v < a.length → a.getD v false = true → b.getD v false = true) : unset b ≤ unset a := count_le a b hl (fun _ _ _ => trivial) h
theorem unset_lt {a b : List Bool} (hl : a.length = b.length) (h : ∀ v, v < a.length → a.getD v false = true → b.getD v false = true) {k : Nat} (hk : k < a.length) (h0 : a.getD k false = false) (h1 : b.getD k false = true) : unset b < unset a := by
  have h2 := unset_set hk (by simpa [hk] using h0)
  have h3 : unset b ≤ unset (a.set k true) := unset_le (by simp [hl]) (fun v hv hx => by
    by_cases e : v = k
    · subst e; exact h1
    · refine h v (by simpa using hv) ?_
      simpa [List.getD_eq_getElem?_getD, List.getElem?_set_ne (Ne.symm e)] using hx)
  omega

theorem unset_mark {tl : List Bool} {k : Nat} (hl : tl.length = N) (hr : R k k = true) (hk : pick N R tl = some k) : unset (mark N R tl k) < unset tl := by
  obtain ⟨h1, h2, _⟩ := pick_some.1 hk
  refine unset_lt (by simp [mark_length, hl]) (fun v hv hx => ?_) (by omega : k < tl.length) (elig_iff.1 h1).1 ?_
  · rw [mark_getD (by omega), hx]; rfl
  · rw [mark_getD h2, hr]; simp

theorem run_eq (hr : ∀ k, R k k = true) : ∀ (f g : Nat) (tl : List Bool), tl.length = N → unset tl ≤ f → unset tl ≤ g → run N R f tl = run N R g tl
  | 0, 0, _, _, _, _ => rfl
  | 0, g + 1, tl, hl, h, _ => by
    simp only [run]
    cases hp : pick N R tl with
    | none => rfl
    | some k => have := unset_mark hl (hr k) hp; omega
  | f + 1, 0, tl, hl, _, h => by
    simp only [run]
    cases hp : pick N R tl with
    | none => rfl
    | some k => have := unset_mark hl (hr k) hp; omega
  | f + 1, g + 1, tl, hl, h1, h2 => by
    simp only [run]
    cases hp : pick N R tl with
    | none => rfl
    | some k =>
      have := unset_mark hl (hr k) hp
      simp only
      rw [run_eq hr f g _ (mark_length _ _) (by omega) (by omega)]

theorem rest_some (hr : ∀ k, R k k = true) {tl : List Bool} (hl : tl.length = N) {k : Nat} (hk : pick N R tl = some k) : rest N R tl = cls N R k :: rest N R (mark N R tl k) := by
  have h := unset_mark hl (hr k) hk
  unfold rest
  obtain ⟨f, hf⟩ : ∃ f, unset tl = f + 1 := ⟨unset tl - 1, by omega⟩
  rw [hf]
  simp only [run, hk]
  rw [run_eq hr f _ _ (mark_length _ _) (by omega) (Nat.le_refl _)]
theorem rest_none {tl : List Bool} (hk : pick N R tl = none) : rest N R tl = [] := by
  unfold rest
  cases unset tl <;> simp [run, hk]

/-- What is told leads only to what is told. -/
def Shut (N : Nat) (R : Nat → Nat → Bool) (tl : List Bool) : Prop := ∀ v w, v < N → w < N → tl.getD v false = true → R v w = true → tl.getD w false = true

theorem Shut.start : Shut N R (List.replicate N false) := fun v w hv _ h => by simp [List.getElem?_replicate, hv] at h

/-- How many a thing reaches. -/
def size (N : Nat) (R : Nat → Nat → Bool) (k : Nat) : Nat := (List.range N).countP (R k)

theorem size_lt (ht : ∀ a b c, R a b = true → R b c = true → R a c = true) (hr : ∀ a, R a a = true) {k j : Nat} (hk : k < N) (h1 : R k j = true) (h2 : R j k = false) : size N R j < size N R k := by
  unfold size
  have key : ∀ l : List Nat, l.countP (R j) ≤ l.countP (R k) := fun l => List.countP_mono_left (fun x _ hx => ht _ _ _ h1 hx)
  have hs : List.range N = (List.range N).take k ++ k :: (List.range N).drop (k + 1) := by
    have := List.take_append_drop k (List.range N)
    rw [List.drop_eq_getElem_cons (by simpa using hk)] at this
    simpa using this.symm
  rw [hs, List.countP_append, List.countP_append, List.countP_cons, List.countP_cons]
  have := key ((List.range N).take k)
  have := key ((List.range N).drop (k + 1))
  rw [h2, hr k]
  simp only [Bool.false_eq_true, if_false, if_true]
  omega

theorem pick_exists (ht : ∀ a b c, R a b = true → R b c = true → R a c = true) (hr : ∀ a, R a a = true) {tl : List Bool} : ∀ (s : Nat) (v : Nat), v < N → tl.getD v false = false → size N R v ≤ s → ∃ k, pick N R tl = some k
  | s, v, hv, h0, hs => by
    cases hp : pick N R tl with
    | some k => exact ⟨k, rfl⟩
    | none =>
      exfalso
      have hn := pick_none.1 hp v hv
      have : ¬ ∀ j, j < N → R v j = true → R j v = false → tl.getD j false = true := fun h => by
        rw [elig_iff.2 ⟨h0, h⟩] at hn; cases hn
      have : ∃ j, j < N ∧ R v j = true ∧ R j v = false ∧ tl.getD j false = false := by
        refine Classical.byContradiction (fun hne => this (fun j hj h1 h2 => ?_))
        cases h3 : tl.getD j false
        · exact absurd ⟨j, hj, h1, h2, h3⟩ hne
        · rfl
      obtain ⟨j, hj, h1, h2, h3⟩ := this
      have hlt := size_lt ht hr hv h1 h2
      cases s with
      | zero => omega
      | succ s =>
        obtain ⟨k, hk⟩ := pick_exists ht hr s j hj h3 (by omega)
        rw [hp] at hk; cases hk
end

theorem rB_refl (n : Int) (l : List (Int × Int)) (a : Nat) : rB n l a a = true := rB_iff.2 (.refl a)
theorem rB_trans (n : Int) (l : List (Int × Int)) (a b c : Nat) (h1 : rB n l a b = true) (h2 : rB n l b c = true) : rB n l a c = true := rB_iff.2 ((rB_iff.1 h1).trans (rB_iff.1 h2))
noncomputable def compsL (n : Int) (l : List (Int × Int)) : List (List Nat) := comps (bN n) (rB n l)
end Go.Proofs.Ythccfgkklimebaa.F
