/- A parameter that is a row of structs, opened: each element's cells. No program in sight. -/
import Derived.ChangeShapes
import Derived.OpenShut
import Derived.Test.YtifpfpiljionmaaDoorSxP
import Derived.ChangeArms
import Derived.ChangeSame
import Derived.Lib.SmallJoins
set_option linter.unusedVariables false
set_option linter.unusedSimpArgs false
namespace Go.SX
open Go
section
variable {H : Type} {enc : TypeId × Value → H} {P : Program} {w : World} {base : Nat} {spare : Nat → Bool} {held : Bool}

theorem cells_get {a : Addr} {n : Nat} {cs : List Value} (h : w.cells? base a n = some cs) : cs.length = n ∧ ∀ i u, cs[i]? = some u → w.cell? (a.add i) = some u := by
  unfold World.cells? at h
  split at h
  · have key : ∀ (l : List Nat) (cs : List Value), l.mapM (fun i => w.cell? (a.add i)) = some cs → cs.length = l.length ∧ ∀ (i : Nat) (u : Value), cs[i]? = some u → ∃ q, l[i]? = some q ∧ w.cell? (a.add q) = some u := by
      intro l
      induction l with
      | nil => intro cs h; simp at h; subst h; simp
      | cons x r ih =>
        intro cs h
        simp only [List.mapM_cons, Option.bind_eq_bind, Option.bind_eq_some_iff, Option.pure_def, Option.some.injEq] at h
        obtain ⟨c, hc, cs', hr, rfl⟩ := h
        obtain ⟨h1, h2⟩ := ih _ hr
        refine ⟨by simp [h1], fun i u hu => ?_⟩
        cases i with
        | zero => simp at hu; subst hu; exact ⟨x, rfl, hc⟩
        | succ i => simpa using h2 i u (by simpa using hu)
    obtain ⟨h1, h2⟩ := key _ _ h
    refine ⟨by simpa using h1, fun i u hu => ?_⟩
    obtain ⟨q, hq, hc⟩ := h2 i u hu
    rw [List.getElem?_range (by have := (List.getElem?_eq_some_iff.1 hq).1; simpa using this)] at hq
    injection hq with hq; subst hq; exact hc
  · cases h

theorem add_add' (a : Addr) (i j : Nat) : (a.add i).add j = a.add (i + j) := by
  unfold Addr.add
  repeat' split
  all_goals first | rfl | simp_all [Nat.add_assoc] | omega

theorem rows_open {α : Type} {t e : TypeId} {fuel sz : Nat} {v : Value} {y : DataW H × List MemPlace} (ht : P.underlying t = some (.slice e)) (hsz : P.cellsOf e = sz) (cells : α → List Value)
    (hel : ∀ n cs y, DataW.trod enc P w base spare held n e cs = some y → cs.length = sz → ∃ z : α, cs = cells z) (h : DataW.trod enc P w base spare held fuel t [v] = some y) :
    ∃ A cap, ∃ l : List α, v = .slice A l.length cap ∧ l.length ≤ cap ∧ l.length ≤ maxLen ∧ (0 < l.length → ∃ ad, A = some ad ∧ ∀ j p, l[j]? = some p → ∀ i u, (cells p)[i]? = some u → w.cell? (ad.add (j * sz + i)) = some u) := by
  rcases DataW.trod_slice ht h with ⟨hcs, _⟩ | ⟨a, len, cap, elems, rest, n, _, hcs, _, _, hl, hm, hlen, hE, _⟩
  · simp at hcs; exact ⟨none, 0, [], by simpa using hcs, Nat.le_refl _, by simp, by simp⟩
  · simp at hcs
    have hz : ∀ i, i < len → ∃ z : α, ∀ j u, (cells z)[j]? = some u → w.cell? (a.add (i * sz + j)) = some u := fun i hi => by
      have h1 := hE i hi
      have h2 : ∃ x, elems[i]? = some x := ⟨elems[i], List.getElem?_eq_getElem (by omega)⟩
      obtain ⟨x, hx⟩ := h2
      rw [hx, hsz] at h1
      obtain ⟨cs, hcs', hx'⟩ := Option.bind_eq_some_iff.1 h1
      obtain ⟨hl1, hl2⟩ := cells_get hcs'
      obtain ⟨z, rfl⟩ := hel _ _ _ hx' hl1
      exact ⟨z, fun j u hu => by rw [← add_add']; exact hl2 j u hu⟩
    classical
    refine ⟨some a, cap, List.ofFn (fun i : Fin len => (hz i.1 i.2).choose), by simpa using hcs, by simpa using hl, by simp; omega, fun _ => ⟨a, rfl, fun j p hj i u hu => ?_⟩⟩
    rw [List.getElem?_ofFn] at hj
    split at hj
    · rename_i hlt
      injection hj with hj; subst hj
      exact (hz j hlt).choose_spec i u hu
    · cases hj
end

/-- A row that came in, as a tree: its elements' cells lead nowhere. -/
theorem tree_open {α : Type} {w : World} {A : Option Addr} {cap sz : Nat} {l : List α} {cells : α → List Value} (hs : 0 < sz) (hl : ∀ p, (cells p).length = sz) (hf : ∀ p, ∀ u ∈ cells p, flat u = true) (hc : l.length ≤ cap)
    (h : 0 < l.length → ∃ ad, A = some ad ∧ ∀ j p, l[j]? = some p → ∀ i u, (cells p)[i]? = some u → w.cell? (ad.add (j * sz + i)) = some u) {Own : Nat → Prop} (ho : ∀ k, ¬ Own k) : TRel w Own (.ro sz (l.map fun p => (cells p).map AV.lit)) (.slice A l.length cap) := by
  have hlen : (l.map fun p => (cells p).map AV.lit).length = l.length := by simp
  by_cases hne : l = []
  · subst hne; exact .ronil
  · obtain ⟨ad, rfl, hcell⟩ := h (List.length_pos_iff.2 hne)
    rw [← hlen]
    refine TRel.row ⟨hs, fun e he => ?_, ho _, fun i j x hx => ?_⟩ (by omega)
    · obtain ⟨p, _, rfl⟩ := List.mem_map.1 he
      simp [hl p]
    · obtain ⟨e, he, hj⟩ := Option.bind_eq_some_iff.1 hx
      rw [List.getElem?_map] at he
      obtain ⟨p, hp, rfl⟩ := Option.map_eq_some_iff.1 he
      rw [List.getElem?_map] at hj
      obtain ⟨u, hu, rfl⟩ := Option.map_eq_some_iff.1 hj
      have hfu := hf p u (List.mem_of_getElem? hu)
      exact ⟨u, hcell i p hp j u hu, by cases u <;> first | rfl | (simp [flat] at hfu), .lit hfu⟩
end Go.SX
