/- SX, part N: families of rows: as many blocks as a number says. -/
import Derived.Test.YtifpfpiljionmaaDoorSxM
set_option linter.unusedVariables false
set_option linter.unusedSimpArgs false
namespace Go.SX
open Go

def fam (base ty sz : Nat) (f : Nat → List (List AV)) (n : Nat) : Mem := (List.range n).map fun c => (base + c, .arr ty sz (f c))

theorem look_map {α : Type} (g : Nat → Nat × α) (hg : ∀ i j, (g i).1 = (g j).1 → i = j) : ∀ (l : List Nat) (c : Nat), c ∈ l → look (l.map g) (g c).1 = some (g c).2
  | x :: r, c, h => by
    rcases hgc : g x with ⟨k, v⟩
    simp only [List.map_cons, hgc, look]
    by_cases e : x = c
    · subst e; rw [hgc, if_pos rfl]
    · have hk : k ≠ (g c).1 := fun e2 => e (hg x c (by rw [hgc]; exact e2))
      rw [if_neg hk]
      rcases List.mem_cons.1 h with h | h
      · exact absurd h.symm e
      · exact look_map g hg r c h

theorem look_map_none {α : Type} (g : Nat → Nat × α) (d : Nat) : ∀ (l : List Nat), (∀ c ∈ l, (g c).1 ≠ d) → look (l.map g) d = none
  | [], _ => rfl
  | x :: r, h => by
    rcases hgc : g x with ⟨k, v⟩
    simp only [List.map_cons, hgc, look]
    rw [if_neg (by have := h x (by simp); rw [hgc] at this; exact this)]
    exact look_map_none g d r (fun c hc => h c (by simp [hc]))

theorem look_fam {base ty sz : Nat} {f : Nat → List (List AV)} {n c : Nat} (h : c < n) : look (fam base ty sz f n) (base + c) = some (.arr ty sz (f c)) :=
  look_map (fun c => (base + c, Blk.arr ty sz (f c))) (fun i j e => by simpa using e) (List.range n) c (by simpa using h)

theorem look_fam_lt {base ty sz : Nat} {f : Nat → List (List AV)} {n d : Nat} (h : d < base) : look (fam base ty sz f n) d = none :=
  look_map_none (fun c => (base + c, Blk.arr ty sz (f c))) d _ (fun c _ => by simp; omega)

theorem look_fam_ge {base ty sz : Nat} {f : Nat → List (List AV)} {n d : Nat} (h : base + n ≤ d) : look (fam base ty sz f n) d = none :=
  look_map_none (fun c => (base + c, Blk.arr ty sz (f c))) d _ (fun c hc => by simp at hc ⊢; omega)

theorem mem_fam {base ty sz : Nat} {f : Nat → List (List AV)} {n : Nat} {p : Nat × Blk} (h : p ∈ fam base ty sz f n) : ∃ c, c < n ∧ p = (base + c, .arr ty sz (f c)) := by
  obtain ⟨c, hc, rfl⟩ := List.mem_map.1 h
  exact ⟨c, by simpa using hc, rfl⟩

/-- The cells that lead to a family. -/
def famCells (base sz : Nat) (len : Nat → Nat) (n : Nat) : List AV := (List.range n).map fun c => .own (base + c) sz 0 (len c)

@[simp] theorem famCells_length (base sz : Nat) (len : Nat → Nat) (n : Nat) : (famCells base sz len n).length = n := by simp [famCells]
theorem famCells_get {base sz : Nat} {len : Nat → Nat} {n c : Nat} (h : c < n) : (famCells base sz len n)[c]? = some (.own (base + c) sz 0 (len c)) := by simp [famCells, h]
end Go.SX
