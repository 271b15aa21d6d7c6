/- Chapter 11: the components of graphs that are told. Plain. -/
import Derived.Test.YthccfgkklimebaaD9
set_option linter.unusedVariables false
set_option linter.unusedSimpArgs false
namespace Go.Proofs.Ythccfgkklimebaa.F
open Go Go.SX

theorem rB_eq {n : Int} {l : List (Int × Int)} {R' : Nat → Nat → Bool} (h0 : ∀ a, a < bN n → R' a a = true) (h1 : ∀ a, a < bN n → ∀ b, b < bN n → ∀ c, c < bN n → R' a b = true → eN n l b c → R' a c = true) (h2 : ∀ a, a < bN n → ∀ b, b < bN n → R' a b = true → RR n l a b) {a b : Nat} (ha : a < bN n) (hb : b < bN n) : rB n l a b = R' a b := by
  rw [Bool.eq_iff_iff, rB_iff]
  refine ⟨fun h => ?_, h2 a ha b hb⟩
  induction h with
  | refl => exact h0 a ha
  | step h e ih => exact h1 a ha _ e.1 _ hb (ih e.1) e

section
variable {N : Nat} {R R' : Nat → Nat → Bool} (h : ∀ a, a < N → ∀ b, b < N → R a b = R' a b)
include h
theorem elig_congr {tl : List Bool} {k : Nat} (hk : k < N) : elig N R tl k = elig N R' tl k := by
  unfold elig
  congr 1
  rw [Bool.eq_iff_iff, List.all_eq_true, List.all_eq_true]
  refine forall_congr' (fun j => ?_)
  simp only [List.mem_range]
  refine forall_congr' (fun hj => ?_)
  rw [h k hk j hj, h j hj k hk]
theorem pick_congr {tl : List Bool} : pick N R tl = pick N R' tl := by
  unfold pick
  have key : ∀ l : List Nat, (∀ x ∈ l, x < N) → l.find? (elig N R tl) = l.find? (elig N R' tl) := by
    intro l
    induction l with
    | nil => intro _; rfl
    | cons x r ih =>
      intro hl
      simp only [List.find?_cons]
      rw [elig_congr h (hl x (by simp)), ih (fun y hy => hl y (by simp [hy]))]
  exact key _ (fun x hx => by simpa using hx)
theorem run_congr : ∀ (f : Nat) (tl : List Bool), run N R f tl = run N R' f tl
  | 0, _ => rfl
  | f + 1, tl => by
    simp only [run]
    rw [pick_congr h]
    cases hp : pick N R' tl with
    | none => rfl
    | some k =>
      obtain ⟨_, hk, _⟩ := pick_some.1 hp
      have h1 : cls N R k = cls N R' k := List.filter_congr (fun j hj => by have hj : j < N := by simpa using hj
                                                                            rw [h k hk j hj, h j hj k hk])
      have h2 : mark N R tl k = mark N R' tl k := List.map_congr_left (fun j hj => by have hj : j < N := by simpa using hj
                                                                                      rw [h k hk j hj, h j hj k hk])
      simp only
      rw [h1, h2, run_congr f]
theorem comps_congr : comps N R = comps N R' := run_congr h _ _
end

def ex1 : List (Int × Int) := [(0, 1), (1, 0), (2, 1)]
def ex2 : List (Int × Int) := [(0, 2)]
def r1 (a b : Nat) : Bool := a == b || (a == 0 && b == 1) || (a == 1 && b == 0) || (a == 2 && b == 1) || (a == 2 && b == 0)
def r2 (a b : Nat) : Bool := a == b || (a == 0 && b == 2)
instance (n : Int) (l : List (Int × Int)) (a b : Nat) : Decidable (eN n l a b) := by unfold eN; infer_instance

theorem lt3 {P : Nat → Prop} (h0 : P 0) (h1 : P 1) (h2 : P 2) : ∀ a, a < bN 3 → P a := by
  intro a ha
  have : a < 3 := ha
  match a with
  | 0 => exact h0
  | 1 => exact h1
  | 2 => exact h2
  | a + 3 => omega

theorem comps1 : compsL 3 ex1 = [[0, 1], [2]] := by
  have : ∀ a, a < bN 3 → ∀ b, b < bN 3 → rB 3 ex1 a b = r1 a b := fun a ha b hb => rB_eq (lt3 rfl rfl rfl) (lt3 (lt3 (lt3 (by decide) (by decide) (by decide)) (lt3 (by decide) (by decide) (by decide)) (lt3 (by decide) (by decide) (by decide))) (lt3 (lt3 (by decide) (by decide) (by decide)) (lt3 (by decide) (by decide) (by decide)) (lt3 (by decide) (by decide) (by decide))) (lt3 (lt3 (by decide) (by decide) (by decide)) (lt3 (by decide) (by decide) (by decide)) (lt3 (by decide) (by decide) (by decide))))
    (lt3 (lt3 (fun _ => .refl _) (fun _ => .one (by decide)) (fun h => absurd h (by decide))) (lt3 (fun _ => .one (by decide)) (fun _ => .refl _) (fun h => absurd h (by decide))) (lt3 (fun _ => .step (.one (show eN 3 ex1 2 1 by decide)) (by decide)) (fun _ => .one (by decide)) (fun _ => .refl _))) ha hb
  unfold compsL
  rw [comps_congr this]
  decide
theorem comps2 : compsL 3 ex2 = [[1], [2], [0]] := by
  have : ∀ a, a < bN 3 → ∀ b, b < bN 3 → rB 3 ex2 a b = r2 a b := fun a ha b hb => rB_eq (lt3 rfl rfl rfl) (lt3 (lt3 (lt3 (by decide) (by decide) (by decide)) (lt3 (by decide) (by decide) (by decide)) (lt3 (by decide) (by decide) (by decide))) (lt3 (lt3 (by decide) (by decide) (by decide)) (lt3 (by decide) (by decide) (by decide)) (lt3 (by decide) (by decide) (by decide))) (lt3 (lt3 (by decide) (by decide) (by decide)) (lt3 (by decide) (by decide) (by decide)) (lt3 (by decide) (by decide) (by decide))))
    (lt3 (lt3 (fun _ => .refl _) (fun h => absurd h (by decide)) (fun _ => .one (by decide))) (lt3 (fun h => absurd h (by decide)) (fun _ => .refl _) (fun h => absurd h (by decide))) (lt3 (fun h => absurd h (by decide)) (fun h => absurd h (by decide)) (fun _ => .refl _))) ha hb
  unfold compsL
  rw [comps_congr this]
  decide
theorem reach2 : reB 3 ex2 0 2 = true := by
  have : rB 3 ex2 0 2 = true := rB_iff.2 (.one (by decide))
  simp only [reB]
  have h0 : isT 3 0 = true := by decide
  have h2 : isT 3 2 = true := by decide
  rw [h0, h2]
  exact this
end Go.Proofs.Ythccfgkklimebaa.F
