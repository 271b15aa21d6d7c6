/- Chapter 11: what the components keep, plain. -/
import Derived.Test.YthccfgkklimebaaAwake
set_option linter.unusedVariables false
set_option linter.unusedSimpArgs false
namespace Go.Proofs.Ythccfgkklimebaa.F
open Go Go.SX

section
variable {N : Nat} {R : Nat → Nat → Bool}
theorem mem_cls {k v : Nat} : v ∈ cls N R k ↔ v < N ∧ R k v = true ∧ R v k = true := by simp [cls]
theorem cls_sorted (k : Nat) : (cls N R k).Pairwise (· < ·) := List.pairwise_lt_range.filter _

theorem Shut.mark (ht : ∀ a b c, R a b = true → R b c = true → R a c = true) {tl : List Bool} {k : Nat} (hs : Shut N R tl) (hk : pick N R tl = some k) : Shut N R (mark N R tl k) := by
  obtain ⟨he, hkN, _⟩ := pick_some.1 hk
  obtain ⟨he1, he2⟩ := elig_iff.1 he
  intro v w hv hw h1 h2
  rw [mark_getD hw]
  rw [mark_getD hv] at h1
  simp only [Bool.or_eq_true, Bool.and_eq_true] at h1 ⊢
  rcases h1 with h1 | ⟨h1, h3⟩
  · exact .inl (hs v w hv hw h1 h2)
  · have hkw := ht _ _ _ h1 h2
    cases h4 : R w k
    · exact .inl (he2 w hw hkw h4)
    · exact .inr ⟨hkw, rfl⟩

theorem run_spec (ht : ∀ a b c, R a b = true → R b c = true → R a c = true) (hr : ∀ a, R a a = true) : ∀ (f : Nat) (tl : List Bool), tl.length = N → unset tl ≤ f → Shut N R tl →
    (∀ r ∈ run N R f tl, ∃ k, k < N ∧ r = cls N R k) ∧ (∀ v, v ∈ (run N R f tl).flatten ↔ v < N ∧ tl.getD v false = false) ∧ (run N R f tl).flatten.Nodup ∧ (run N R f tl).Pairwise (fun r1 r2 => ∀ a ∈ r1, ∀ b ∈ r2, R a b = false)
  | 0, tl, hl, h, _ => by
    refine ⟨by simp [run], fun v => ?_, by simp [run], by simp [run]⟩
    simp only [run, List.flatten_nil, List.not_mem_nil, false_iff]
    rintro ⟨hv, h0⟩
    have h1 : false ∈ tl := by
      have : tl.getD v false = tl[v] := by simp [hl, hv]
      rw [this] at h0; exact h0 ▸ List.getElem_mem _
    have := List.count_pos_iff.2 h1
    unfold unset at h; omega
  | f + 1, tl, hl, h, hs => by
    simp only [run]
    cases hp : pick N R tl with
    | none =>
      refine ⟨by simp, fun v => ?_, by simp, by simp⟩
      simp only [List.flatten_nil, List.not_mem_nil, false_iff]
      rintro ⟨hv, h0⟩
      obtain ⟨k, hk⟩ := pick_exists ht hr (tl := tl) _ v hv h0 (Nat.le_refl _)
      rw [hp] at hk; cases hk
    | some k =>
      have hm := unset_mark hl (hr k) hp
      obtain ⟨he, hkN, _⟩ := pick_some.1 hp
      obtain ⟨he1, he2⟩ := elig_iff.1 he
      obtain ⟨i1, i2, i3, i4⟩ := run_spec ht hr f (mark N R tl k) (mark_length _ _) (by omega) (hs.mark ht hp)
      have hnew : ∀ v, v < N → (mark N R tl k).getD v false = false → tl.getD v false = false ∧ ¬ (R k v = true ∧ R v k = true) := fun v hv h0 => by
        rw [mark_getD hv] at h0
        simp only [Bool.or_eq_false_iff, Bool.and_eq_false_iff] at h0
        refine ⟨h0.1, fun ⟨a, b⟩ => ?_⟩
        rcases h0.2 with h0 | h0
        · rw [a] at h0; cases h0
        · rw [b] at h0; cases h0
      refine ⟨fun r hr' => ?_, fun v => ?_, ?_, ?_⟩
      · rcases List.mem_cons.1 hr' with rfl | hr'
        · exact ⟨k, hkN, rfl⟩
        · exact i1 r hr'
      · rw [List.flatten_cons, List.mem_append, i2, mem_cls]
        constructor
        · rintro (⟨h1, h2, h3⟩ | ⟨h1, h2⟩)
          · refine ⟨h1, ?_⟩
            cases h4 : tl.getD v false
            · rfl
            · exfalso
              rw [hs v k h1 hkN h4 h3] at he1; cases he1
          · exact ⟨h1, (hnew v h1 h2).1⟩
        · rintro ⟨h1, h2⟩
          by_cases h3 : R k v = true ∧ R v k = true
          · exact .inl ⟨h1, h3⟩
          · right
            refine ⟨h1, ?_⟩
            rw [mark_getD h1, h2]
            cases h4 : R k v <;> cases h5 : R v k <;> simp_all
      · rw [List.flatten_cons, List.nodup_append]
        refine ⟨(cls_sorted k).imp (fun h => Nat.ne_of_lt h), i3, fun a ha b hb e => ?_⟩
        subst e
        obtain ⟨h1, h2⟩ := (i2 a).1 hb
        exact (hnew a h1 h2).2 (mem_cls.1 ha).2
      · refine List.pairwise_cons.2 ⟨fun r hr' a ha b hb => ?_, i4⟩
        obtain ⟨g1, g2, g3⟩ := mem_cls.1 ha
        obtain ⟨h1, h2⟩ := (i2 b).1 (List.mem_flatten.2 ⟨r, hr', hb⟩)
        obtain ⟨h3, h4⟩ := hnew b h1 h2
        cases hab : R a b
        · rfl
        · exfalso
          have hkb := ht _ _ _ g2 hab
          cases hbk : R b k
          · rw [he2 b h1 hkb hbk] at h3; cases h3
          · exact h4 ⟨hkb, hbk⟩
end

theorem run_small {N : Nat} {R : Nat → Nat → Bool} : ∀ (f : Nat) (tl : List Bool), (run N R f tl).length ≤ f ∧ ∀ r ∈ run N R f tl, r.length ≤ N
  | 0, _ => by simp [run]
  | f + 1, tl => by
    simp only [run]
    cases hp : pick N R tl with
    | none => simp
    | some k =>
      obtain ⟨h1, h2⟩ := run_small f (mark N R tl k)
      refine ⟨by simpa using h1, fun r hr => ?_⟩
      rcases List.mem_cons.1 hr with rfl | hr
      · exact Nat.le_trans (List.length_filter_le _ _) (by simp)
      · exact h2 r hr
theorem compsL_small (n : Int) (l : List (Int × Int)) : (compsL n l).length ≤ 100 ∧ ∀ r ∈ compsL n l, r.length ≤ 100 := by
  have hN := bN_le n
  obtain ⟨h1, h2⟩ := run_small (N := bN n) (R := rB n l) (unset (List.replicate (bN n) false)) (List.replicate (bN n) false)
  have : unset (List.replicate (bN n) false) ≤ bN n := by simp [unset]
  exact ⟨Nat.le_trans h1 (by omega), fun r hr => Nat.le_trans (h2 r hr) hN⟩


section
variable {n : Int} {l : List (Int × Int)}
theorem compsL_spec (n : Int) (l : List (Int × Int)) : (∀ r ∈ compsL n l, ∃ k, k < bN n ∧ r = cls (bN n) (rB n l) k) ∧ (∀ v, v ∈ (compsL n l).flatten ↔ v < bN n) ∧ (compsL n l).flatten.Nodup ∧ (compsL n l).Pairwise (fun r1 r2 => ∀ a ∈ r1, ∀ b ∈ r2, rB n l a b = false) := by
  obtain ⟨h1, h2, h3, h4⟩ := run_spec (rB_trans n l) (rB_refl n l) _ (List.replicate (bN n) false) (by simp) (Nat.le_refl _) Shut.start
  refine ⟨h1, fun v => ?_, h3, h4⟩
  have := h2 v
  unfold compsL comps rest
  rw [this]
  constructor
  · exact fun h => h.1
  · exact fun h => ⟨h, by simp [List.getElem?_replicate, h]⟩
theorem compsL_total (n : Int) (l : List (Int × Int)) : (compsL n l).flatten.length = bN n := by
  obtain ⟨_, h2, h3, _⟩ := compsL_spec n l
  have := ((List.perm_ext_iff_of_nodup h3 (List.nodup_range (n := bN n))).2 (fun v => by rw [h2, List.mem_range])).length_eq
  simpa using this

theorem eN_ext {m : List (Int × Int)} (h : ∀ a b : Nat, a < bN n → b < bN n → (((a : Int), (b : Int)) ∈ l ↔ ((a : Int), (b : Int)) ∈ m)) : rB n l = rB n m := by
  have : eN n l = eN n m := by
    funext a b
    apply propext
    unfold eN
    constructor
    · rintro ⟨h1, h2, h3⟩; exact ⟨h1, h2, (h a b h1 h2).1 h3⟩
    · rintro ⟨h1, h2, h3⟩; exact ⟨h1, h2, (h a b h1 h2).2 h3⟩
  funext a b
  rw [Bool.eq_iff_iff, rB_iff, rB_iff, RR, RR, this]
theorem reach_mono {m : List (Int × Int)} (h : ∀ e ∈ l, e ∈ m) {a b : Nat} (hr : RR n l a b) : RR n m a b := by
  induction hr with
  | refl => exact .refl _
  | step _ e ih => exact .step ih ⟨e.1, e.2.1, h _ e.2.2⟩

/-- Where a thing stands. -/
theorem compsL_at {v : Nat} (hv : v < bN n) : ∃ (k j : Nat) (hk : k < (compsL n l).length) (hj : j < ((compsL n l)[k]).length), ((compsL n l)[k])[j] = v ∧ ∀ (k' j' : Nat) (hk' : k' < (compsL n l).length) (hj' : j' < ((compsL n l)[k']).length), ((compsL n l)[k'])[j'] = v → k' = k ∧ j' = j := by
  obtain ⟨h1, h2, h3, h4⟩ := compsL_spec n l
  obtain ⟨r, hr, hvr⟩ := List.mem_flatten.1 ((h2 v).2 hv)
  obtain ⟨k, hk, rfl⟩ := List.mem_iff_getElem.1 hr
  obtain ⟨j, hj, he⟩ := List.mem_iff_getElem.1 hvr
  refine ⟨k, j, hk, hj, he, fun k' j' hk' hj' he' => ?_⟩
  unfold List.Nodup at h3
  rw [List.pairwise_flatten] at h3
  obtain ⟨g1, g2⟩ := h3
  have hkk : k' = k := by
    rcases Nat.lt_trichotomy k' k with h | h | h
    · exact absurd (he'.trans he.symm) (List.pairwise_iff_getElem.1 g2 k' k hk' hk h _ (List.getElem_mem hj') _ (List.getElem_mem hj))
    · exact h
    · exact absurd (he.trans he'.symm) (List.pairwise_iff_getElem.1 g2 k k' hk hk' h _ (List.getElem_mem hj) _ (List.getElem_mem hj'))
  subst hkk
  refine ⟨rfl, ?_⟩
  have g3 := g1 _ (List.getElem_mem hk)
  rcases Nat.lt_trichotomy j' j with h | h | h
  · exact absurd (he'.trans he.symm) (List.pairwise_iff_getElem.1 g3 j' j hj' hj h)
  · exact h
  · exact absurd (he.trans he'.symm) (List.pairwise_iff_getElem.1 g3 j j' hj hj' h)
/-- Of two of one component each reaches the other. -/
theorem compsL_same {k : Nat} (hk : k < (compsL n l).length) {i j : Nat} (hi : i < ((compsL n l)[k]).length) (hj : j < ((compsL n l)[k]).length) : rB n l ((compsL n l)[k])[i] ((compsL n l)[k])[j] = true := by
  obtain ⟨c, hc, e⟩ := (compsL_spec n l).1 _ (List.getElem_mem hk)
  have key : ∀ x ∈ (compsL n l)[k], rB n l c x = true ∧ rB n l x c = true := fun x hx => by rw [e] at hx; exact (mem_cls.1 hx).2
  exact rB_trans n l _ _ _ (key _ (List.getElem_mem hi)).2 (key _ (List.getElem_mem hj)).1
theorem compsL_lt {k i : Nat} (hk : k < (compsL n l).length) (hi : i < ((compsL n l)[k]).length) : ((compsL n l)[k])[i] < bN n :=
  ((compsL_spec n l).2.1 _).1 (List.mem_flatten.2 ⟨_, List.getElem_mem hk, List.getElem_mem hi⟩)
theorem compsL_sorted {k i : Nat} (hk : k < (compsL n l).length) (hi : i + 1 < ((compsL n l)[k]).length) : ((compsL n l)[k])[i] < ((compsL n l)[k])[i + 1] := by
  obtain ⟨c, hc, e⟩ := (compsL_spec n l).1 _ (List.getElem_mem hk)
  have := cls_sorted (N := bN n) (R := rB n l) c
  rw [← e] at this
  exact List.pairwise_iff_getElem.1 this i (i + 1) (by omega) hi (by omega)
theorem compsL_order {k k' i i' : Nat} (hk : k < (compsL n l).length) (hk' : k' < (compsL n l).length) (hi : i < ((compsL n l)[k]).length) (hi' : i' < ((compsL n l)[k']).length) (h : k < k') : rB n l ((compsL n l)[k])[i] ((compsL n l)[k'])[i'] = false :=
  List.pairwise_iff_getElem.1 (compsL_spec n l).2.2.2 k k' hk hk' h _ (List.getElem_mem hi) _ (List.getElem_mem hi')
end
end Go.Proofs.Ythccfgkklimebaa.F
