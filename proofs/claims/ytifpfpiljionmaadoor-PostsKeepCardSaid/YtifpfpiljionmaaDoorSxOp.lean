/- SX, part Op: what came in, as trees: numbers, texts, structs, slices of these, to whatever depth. No program in sight. -/
import Derived.Test.YtifpfpiljionmaaDoorSxRx
import Derived.ChangeShapes
import Derived.OpenShut
import Derived.ChangeArms
import Derived.ChangeSame
import Derived.Lib.SmallJoins
set_option linter.unusedVariables false
set_option linter.unusedSimpArgs false
namespace Go.SX
open Go

/-- What these cells say, as trees. -/
def Says (w : World) (xs : List AV) (cs : List Value) : Prop := xs.length = cs.length ∧ ∀ Own : Nat → Prop, (∀ k, ¬ Own k) → ∀ (i : Nat) x, xs[i]? = some x → ∃ v, cs[i]? = some v ∧ one v = true ∧ TRel w Own x v
/-- A type whose values can be told so. -/
structure Opens (P : Program) (t : TypeId) {α : Type} (f : α → List AV) : Prop where
  get : ∀ {H : Type} (enc : TypeId × Value → H) (w : World) (base : Nat) (spare : Nat → Bool) (held : Bool) (fuel : Nat) (cs : List Value) (y : DataW H × List MemPlace),
  DataW.trod enc P w base spare held fuel t cs = some y → ∃ a : α, Says w (f a) cs

theorem Says.one {w : World} {v : Value} (h : flat v = true) (h1 : SX.one v = true) : Says w [.lit v] [v] :=
  ⟨rfl, fun Own _ i x hx => by cases i <;> simp at hx; subst hx; exact ⟨v, rfl, h1, .lit h⟩⟩
theorem Says.app {w : World} {xs ys : List AV} {cs ds : List Value} (h : Says w xs cs) (k : Says w ys ds) : Says w (xs ++ ys) (cs ++ ds) := by
  refine ⟨by simp [h.1, k.1], fun Own ho i x hx => ?_⟩
  rcases Nat.lt_or_ge i xs.length with h1 | h1
  · rw [List.getElem?_append_left h1] at hx
    rw [List.getElem?_append_left (by rw [← h.1]; exact h1)]
    exact h.2 Own ho i x hx
  · rw [List.getElem?_append_right h1] at hx
    rw [List.getElem?_append_right (by rw [← h.1]; exact h1), ← h.1]
    exact k.2 Own ho _ x hx
theorem Says.agg {w : World} {xs : List AV} {cs : Array Value} (h : Says w xs cs.toList) {Own : Nat → Prop} (ho : ∀ k, ¬ Own k) : TRel w Own (.agg xs) (.agg cs) :=
  .agg (by simpa using h.1) (fun i x hx => by
    obtain ⟨v, hv, _, ht⟩ := h.2 Own ho i x hx
    have e : cs[i]? = some v := by simpa using hv
    simpa [Array.getD_eq_getD_getElem?, e] using ht)
theorem Says.val {w : World} {x : AV} {v : Value} (h : Says w [x] [v]) {Own : Nat → Prop} (ho : ∀ k, ¬ Own k) : TRel w Own x v := by
  obtain ⟨u, hu, _, ht⟩ := h.2 Own ho 0 x rfl
  simp at hu; subst hu; exact ht

section
variable {P : Program} {t : TypeId}
theorem Opens.int {k : IntKind} (ht : P.underlying t = some (.int k)) : Opens P t (fun n : Int => [.lit (.int k n)]) := ⟨fun _ _ _ _ _ _ _ _ h => by
  obtain ⟨n, rfl, _⟩ := DataW.trod_int ht h
  exact ⟨n, .one rfl rfl⟩⟩
theorem Opens.bool (ht : P.underlying t = some .bool) : Opens P t (fun b : Bool => [.lit (.bool b)]) := ⟨fun _ _ _ _ _ _ _ _ h => by
  obtain ⟨n, rfl, _⟩ := DataW.trod_bool ht h
  exact ⟨n, .one rfl rfl⟩⟩
theorem Opens.str (ht : P.underlying t = some .string) : Opens P t (fun s : ByteArray => [.lit (.string s)]) := ⟨fun _ _ _ _ _ _ _ _ h => by
  obtain ⟨n, rfl, _⟩ := DataW.trod_string ht h
  exact ⟨n, .one rfl rfl⟩⟩
/-- A slice that came in: no longer than the form lets in. -/
theorem Opens.slice {e : TypeId} {sz : Nat} {α : Type} {f : α → List AV} (ht : P.underlying t = some (.slice e)) (hsz : P.cellsOf e = sz) (hs : 0 < sz) (he : Opens P e f) :
    Opens P t (fun l : { l : List α // l.length ≤ maxLen ∧ ∀ a ∈ l, (f a).length = sz } => [.ro sz (l.1.map f)]) := ⟨fun enc w base spare held fuel cs y h => by
  rcases DataW.trod_slice ht h with ⟨rfl, _⟩ | ⟨a, len, cap, elems, rest, n, _, rfl, _, _, hl, hm, hlen, hE, _⟩
  · refine ⟨⟨[], by simp, by simp⟩, rfl, fun Own ho i x hx => ?_⟩
    cases i <;> simp at hx
    subst hx; exact ⟨_, rfl, rfl, .ronil⟩
  · have hz : ∀ i, i < len → ∃ z : α, (f z).length = sz ∧ ∃ cs : List Value, Says w (f z) cs ∧ ∀ j u, cs[j]? = some u → w.cell? (a.add (i * sz + j)) = some u := fun i hi => by
      have h1 := hE i hi
      obtain ⟨x, hx⟩ : ∃ x, elems[i]? = some x := ⟨elems[i], List.getElem?_eq_getElem (by omega)⟩
      rw [hx, hsz] at h1
      obtain ⟨cs, hcs', hx'⟩ := Option.bind_eq_some_iff.1 h1
      obtain ⟨hl1, hl2⟩ := cells_get hcs'
      obtain ⟨z, hz⟩ := he.get _ _ _ _ _ _ _ _ hx'
      exact ⟨z, by rw [hz.1, hl1], cs, hz, fun j u hu => by rw [← add_add']; exact hl2 j u hu⟩
    classical
    let L : List α := List.ofFn (fun i : Fin len => (hz i.1 i.2).choose)
    have hL : L.length = len := by simp [L]
    have hg : ∀ (j : Nat) p, L[j]? = some p → (f p).length = sz ∧ ∃ cs : List Value, Says w (f p) cs ∧ ∀ i u, cs[i]? = some u → w.cell? (a.add (j * sz + i)) = some u := fun j p hj => by
      simp only [L, List.getElem?_ofFn] at hj
      split at hj
      · rename_i hlt
        injection hj with hj; subst hj
        exact (hz j hlt).choose_spec
      · cases hj
    refine ⟨⟨L, by rw [hL]; omega, fun p hp => by obtain ⟨j, hj, rfl⟩ := List.getElem_of_mem hp; exact (hg j _ (List.getElem?_eq_getElem hj)).1⟩, rfl, fun Own ho i x hx => ?_⟩
    cases i <;> simp at hx
    subst hx
    refine ⟨_, rfl, rfl, ?_⟩
    by_cases hne : L = []
    · have : len = 0 := by rw [← hL, hne]; rfl
      subst this
      simp only [hne, List.map_nil]
      exact .ronil
    · have e : len = (L.map f).length := by simp [hL]
      conv => rhs; rw [e]
      refine TRel.row ⟨hs, fun e he => ?_, ho _, fun i j x hx => ?_⟩ (by simp [hL]; omega)
      · obtain ⟨p, hp, rfl⟩ := List.mem_map.1 he
        obtain ⟨j, hj, rfl⟩ := List.getElem_of_mem hp
        exact (hg j _ (List.getElem?_eq_getElem hj)).1
      · obtain ⟨e, he, hj⟩ := Option.bind_eq_some_iff.1 hx
        rw [List.getElem?_map] at he
        obtain ⟨p, hp, rfl⟩ := Option.map_eq_some_iff.1 he
        obtain ⟨_, cs, hcs, hc⟩ := hg i p hp
        obtain ⟨v, hv, h1, htr⟩ := hcs.2 Own ho j x hj
        exact ⟨v, hc j v hv, h1, htr⟩⟩

/-- Fields that lie one behind the other, from a place on. -/
structure OpensF (P : Program) (fs : List Field) (off : Nat) {α : Type} (f : α → List AV) : Prop where
  get : ∀ {H : Type} (enc : TypeId × Value → H) (w : World) (base : Nat) (spare : Nat → Bool) (held : Bool) (n : Nat) (cs : List Value),
  (∀ (i : Nat) (fd : Field), fs[i]? = some fd → ∃ y, DataW.trod enc P w base spare held n fd.type ((cs.drop fd.offset).take (P.cellsOf fd.type)) = some y) → ∃ a : α, ∃ m, Says w (f a) ((cs.drop off).take m) ∧ m = (f a).length
theorem OpensF.nil {off : Nat} : OpensF P [] off (fun _ : Unit => []) := ⟨fun _ _ _ _ _ _ _ _ => ⟨(), 0, ⟨by simp, fun _ _ i x hx => by simp at hx⟩, rfl⟩⟩
theorem OpensF.cons {fd : Field} {fs : List Field} {off sz : Nat} {α β : Type} {f : α → List AV} {g : β → List AV} (ho : fd.offset = off) (hsz : P.cellsOf fd.type = sz) (hf : Opens P fd.type f) (hl : ∀ a, (f a).length = sz) (hg : OpensF P fs (off + sz) g) :
    OpensF P (fd :: fs) off (fun p : α × β => f p.1 ++ g p.2) := ⟨fun enc w base spare held n cs h => by
  obtain ⟨y, hy⟩ := h 0 fd rfl
  rw [ho, hsz] at hy
  obtain ⟨a, ha⟩ := hf.get _ _ _ _ _ _ _ _ hy
  obtain ⟨b, m, hb, hm⟩ := hg.get enc w base spare held n cs (fun i fd' hfd => h (i + 1) fd' (by simpa using hfd))
  refine ⟨(a, b), sz + m, ?_, by simp [hl, hm]⟩
  rw [List.take_add, List.drop_drop]
  exact ha.app hb⟩
theorem Opens.struct {fs : List Field} {α β : Type} {f : α → List AV} {g : β → List AV} (ht : P.underlying t = some (.struct fs.toArray)) (hF : OpensF P fs 0 f) (to : α → β) (hto : ∀ a, g (to a) = f a) (hl : ∀ b, (g b).length = P.cellsOf t) : Opens P t g := ⟨fun enc w base spare held fuel cs y h => by
  obtain ⟨xs, n, _, _, hlen, hxs, hall⟩ := DataW.trod_struct ht h
  obtain ⟨a, m, ha, hm⟩ := hF.get enc w base spare held n cs (fun i fd hfd => by
    have h2 : fs.toArray[i]? = some fd := by simpa using hfd
    have h3 := hall i fd h2
    have hi : i < xs.length := by rw [hxs]; exact (Array.getElem?_eq_some_iff.1 h2).1
    exact ⟨xs[i], by rw [h3]; exact List.getElem?_eq_getElem hi⟩)
  refine ⟨to a, ?_⟩
  rw [hto]
  have e : m = cs.length := by rw [hm, ← hto, hl, hlen]
  subst e
  simpa using ha⟩
end
end Go.SX
