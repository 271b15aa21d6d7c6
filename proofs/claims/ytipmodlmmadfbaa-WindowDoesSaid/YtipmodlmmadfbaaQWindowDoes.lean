/- Chapter 15: what the printed functions come to, in plain words. -/
import Derived.Test.YtipmodlmmadfbaaPWindowDoesx0
import Derived.Test.YtipmodlmmadfbaaPWindowDoesx1
import Derived.Test.YtipmodlmmadfbaaPWindowDoesx2
import Derived.Test.YtipmodlmmadfbaaPWindowDoesx3
import Derived.Test.YtipmodlmmadfbaaPWindowDoesx4
import Derived.Test.YtipmodlmmadfbaaPWindowDoesx5
import Derived.Test.YtipmodlmmadfbaaSxRw
import Derived.Test.YtipmodlmmadfbaaL6
namespace Go.Proofs.Ytipmodlmmadfbaa.Pure
open Go Go.RowKit Go.Proofs.Ytipmodlmmadfbaa.PWindowDoes Go.Proofs.YtipmodlmmadfbaaW.PrintWords Go.Proofs.YtipmodlmmadfbaaW.PrintLast

theorem wrap_in {x : Int} (h0 : -9223372036854775808 ≤ x) (h1 : x ≤ 9223372036854775807) : wrap64 x = x := by unfold wrap64; omega
theorem wrap_up {i n : Nat} (h : i < n) (hn : n ≤ 1000000000000) : wrap64 ((i : Int) + 1) = ((i + 1 : Nat) : Int) := by rw [wrap_in (by omega) (by omega)]; omega
theorem rdT_at {l : List S42} {i : Nat} (h : i < l.length) : rd_T42 l (i : Int) = l[i] := by simp [rd_T42, List.getD_eq_getElem?_getD, h]
theorem rd_at {l : List Int} {i : Nat} (h : i < l.length) : rd l (i : Int) = l[i] := by simp [rd, List.getD_eq_getElem?_getD, h]

/-- A window: its numbers. -/
def ks (l : List S42) : List Int := l.map (·.f0)
def Wf (low : Int) (l : List S42) : Prop := 0 ≤ low ∧ low ≤ 1073741824 ∧ l.length ≤ 8 ∧ (low :: ks l).Pairwise (· < ·) ∧ ∀ x ∈ ks l, x ≤ 1073741824
instance (low : Int) (l : List S42) : Decidable (Wf low l) := by unfold Wf; infer_instance

def rise : Int → List S42 → Bool
  | _, [] => true
  | a, x :: r => decide (a < x.f0) && decide (x.f0 ≤ 1073741824) && rise x.f0 r
theorem rise_iff : ∀ {l : List S42} {a : Int}, rise a l = true ↔ (a :: ks l).Pairwise (· < ·) ∧ ∀ x ∈ ks l, x ≤ 1073741824
  | [], a => by simp [rise, ks]
  | y :: r, a => by
    simp only [rise, Bool.and_eq_true, decide_eq_true_eq, rise_iff (l := r) (a := y.f0)]
    simp only [ks, List.map_cons]
    constructor
    · rintro ⟨⟨h1, h2⟩, h3, h4⟩
      refine ⟨List.pairwise_cons.2 ⟨fun x hx => ?_, h3⟩, fun x hx => ?_⟩
      · rcases List.mem_cons.1 hx with rfl | hx
        · exact h1
        · have := (List.pairwise_cons.1 h3).1 x hx; omega
      · rcases List.mem_cons.1 hx with rfl | hx
        · exact h2
        · exact h4 x hx
    · rintro ⟨h1, h2⟩
      obtain ⟨h3, h4⟩ := List.pairwise_cons.1 h1
      exact ⟨⟨h3 _ List.mem_cons_self, h2 _ List.mem_cons_self⟩, h4, fun x hx => h2 x (List.mem_cons_of_mem _ hx)⟩

theorem may_ev (low : Int) (l : List S42) (hl : l.length ≤ 1000000000000) : ∀ (d i : Nat) (a : Int), i + d = l.length → Ev (fun k => window_May.l0 k a l (l.length : Int) (i : Int) low l) (rise a (l.drop i) && (decide (0 ≤ low) && decide (low ≤ 1073741824) && decide (l.length ≤ 8)))
  | 0, i, a, h => by
    refine Ev.step (f := fun _ => some (decide (0 ≤ low) && decide (low ≤ 1073741824) && decide (l.length ≤ 8))) (fun k => ?_) ?_
    · simp only [window_May.l0]; rw [if_neg (by omega)]
      by_cases h1 : low ≥ 0
      · by_cases h2 : low ≤ 1073741824
        · rw [if_pos h1, if_pos h2, decide_eq_true (p := 0 ≤ low) h1, decide_eq_true h2, Bool.true_and, Bool.true_and]
          congr 1; simp only [decide_eq_decide]; omega
        · rw [if_pos h1, if_neg h2, decide_eq_false h2]; simp
      · rw [if_neg h1, decide_eq_false (p := 0 ≤ low) (by omega)]; simp
    · rw [List.drop_of_length_le (by omega)]; exact Ev.now _
  | d + 1, i, a, h => by
    have hi : i < l.length := by omega
    have hw := wrap_up hi hl
    have ih := may_ev low l hl d (i + 1) l[i].f0 (by omega)
    rw [List.drop_eq_getElem_cons hi]
    by_cases h1 : l[i].f0 ≤ a
    · refine Ev.step (f := fun _ => some false) (fun k => ?_) ?_
      · simp only [window_May.l0]; rw [if_pos (by omega), if_pos (by omega), if_pos (by omega), rdT_at hi, if_pos h1]
      · simp only [rise, show ¬ a < l[i].f0 from by omega, decide_false, Bool.false_and]; exact Ev.now false
    · by_cases h2 : l[i].f0 > 1073741824
      · refine Ev.step (f := fun _ => some false) (fun k => ?_) ?_
        · simp only [window_May.l0]; rw [if_pos (by omega), if_pos (by omega), if_pos (by omega), rdT_at hi, if_neg h1, if_pos h2]
        · simp only [rise, show ¬ l[i].f0 ≤ 1073741824 from by omega, decide_false, Bool.and_false, Bool.false_and]; exact Ev.now false
      · refine Ev.step (f := fun k => window_May.l0 k l[i].f0 l (l.length : Int) ((i + 1 : Nat) : Int) low l) (fun k => ?_) ?_
        · simp only [window_May.l0]; rw [if_pos (by omega), if_pos (by omega), if_pos (by omega), rdT_at hi, if_neg h1, if_neg h2, hw]
        · simp only [rise, show a < l[i].f0 from by omega, show l[i].f0 ≤ 1073741824 from by omega, decide_true, Bool.and_self, Bool.true_and]; exact ih

theorem may_is (low : Int) (l : List S42) (hl : l.length ≤ 1000000000000) : Ev (fun k => window_May.f k low l) (decide (Wf low l)) := by
  have := may_ev low l hl l.length 0 low (by omega)
  have e : decide (Wf low l) = (rise low l && (decide (0 ≤ low) && decide (low ≤ 1073741824) && decide (l.length ≤ 8))) := by
    rw [Bool.eq_iff_iff]
    constructor
    · intro h
      obtain ⟨a, b, c, d, e⟩ := of_decide_eq_true h
      simp only [Bool.and_eq_true, rise_iff, decide_eq_true_eq]
      exact ⟨⟨d, e⟩, ⟨a, b⟩, c⟩
    · intro h
      simp only [Bool.and_eq_true, rise_iff, decide_eq_true_eq] at h
      obtain ⟨⟨d, e⟩, ⟨a, b⟩, c⟩ := h
      exact decide_eq_true ⟨a, b, c, d, e⟩
  rw [e]
  simpa [window_May.f] using this

theorem Wf.up {low : Int} {l : List S42} (h : Wf low l) : (ks l).Pairwise (· < ·) := (List.pairwise_cons.1 h.2.2.2.1).2
theorem Wf.above {low : Int} {l : List S42} (h : Wf low l) {x : Int} (hx : x ∈ ks l) : low < x ∧ x ≤ 1073741824 := ⟨(List.pairwise_cons.1 h.2.2.2.1).1 x hx, h.2.2.2.2 x hx⟩

abbrev noA : ByteArray := ⟨#[]⟩
def hitW (l : List S42) (y : Int) : Int × Int × ByteArray × Bool × Int :=
  match l.find? (fun x => decide (x.f0 = y)) with
  | some x => (x.f1.f0, x.f1.f1, x.f1.f2, true, 0)
  | none => (0, 0, noA, false, 0)
theorem hit_some {l : List S42} {y : Int} {x : S42} (h : l.find? (fun x => decide (x.f0 = y)) = some x) : hitW l y = (x.f1.f0, x.f1.f1, x.f1.f2, true, 0) := by unfold hitW; rw [h]
theorem hit_none {l : List S42} {y : Int} (h : l.find? (fun x => decide (x.f0 = y)) = none) : hitW l y = (0, 0, noA, false, 0) := by unfold hitW; rw [h]
def lookW (low : Int) (l : List S42) (y : Int) : Int × Int × ByteArray × Bool × Int :=
  if ¬ Wf low l ∨ y < 1 ∨ y > 1073741824 then (0, 0, noA, false, 1) else if y ≤ low then (0, 0, noA, false, 9) else hitW l y

/-- Where a number is, in a row that rises. -/
theorem cnt_split {l : List S42} (h : (ks l).Pairwise (· < ·)) (y : Int) : l.take (F.cnt (ks l) y) = l.filter (fun x => decide (x.f0 < y)) ∧ l.drop (F.cnt (ks l) y) = l.filter (fun x => decide (y ≤ x.f0)) := by
  induction l with
  | nil => simp
  | cons x r ih =>
    simp only [ks, List.map_cons] at h
    obtain ⟨h1, h2⟩ := List.pairwise_cons.1 h
    obtain ⟨i1, i2⟩ := ih h2
    by_cases hx : x.f0 < y
    · have e : F.cnt (ks (x :: r)) y = F.cnt (ks r) y + 1 := by simp [F.cnt, ks, hx]
      rw [e, List.take_succ_cons, List.drop_succ_cons, i1, i2, List.filter_cons_of_pos (by simpa using hx), List.filter_cons_of_neg (by simp; omega)]
      exact ⟨rfl, rfl⟩
    · have hall : ∀ z ∈ x :: r, y ≤ z.f0 := fun z hz => by
        rcases List.mem_cons.1 hz with rfl | hz
        · omega
        · have := h1 z.f0 (List.mem_map.2 ⟨z, hz, rfl⟩); omega
      have e : F.cnt (ks (x :: r)) y = 0 := by
        unfold F.cnt
        rw [List.length_eq_zero_iff, List.filter_eq_nil_iff]
        intro k hk
        obtain ⟨z, hz, rfl⟩ := List.mem_map.1 hk
        have := hall z hz; simp; omega
      rw [e, List.filter_eq_nil_iff.2 (fun z hz => by have := hall z hz; simp; omega), List.filter_eq_self.2 (fun z hz => by have := hall z hz; simpa using this)]
      exact ⟨rfl, rfl⟩

theorem find_at {l : List S42} (h : (ks l).Pairwise (· < ·)) {y : Int} (hy : y ∈ ks l) : ∃ hp : F.cnt (ks l) y < l.length, l.find? (fun x => decide (x.f0 = y)) = some l[F.cnt (ks l) y] := by
  obtain ⟨e1, e2⟩ := cnt_split h y
  obtain ⟨x, hx, rfl⟩ := List.mem_map.1 hy
  have hd : x ∈ l.drop (F.cnt (ks l) x.f0) := by rw [e2]; exact List.mem_filter.2 ⟨hx, by simp⟩
  have hp : F.cnt (ks l) x.f0 < l.length := by
    rcases Nat.lt_or_ge (F.cnt (ks l) x.f0) l.length with h | h
    · exact h
    · rw [List.drop_of_length_le h] at hd; simp at hd
  refine ⟨hp, ?_⟩
  have hge : x.f0 ≤ l[F.cnt (ks l) x.f0].f0 := by
    have : l[F.cnt (ks l) x.f0] ∈ l.drop (F.cnt (ks l) x.f0) := by rw [List.drop_eq_getElem_cons hp]; exact List.mem_cons_self
    rw [e2] at this
    simpa using (List.mem_filter.1 this).2
  have heq : l[F.cnt (ks l) x.f0].f0 = x.f0 := by
    rw [List.drop_eq_getElem_cons hp] at hd
    rcases List.mem_cons.1 hd with h' | h'
    · rw [← h']
    · have hpw : (ks (l.drop (F.cnt (ks l) x.f0))).Pairwise (· < ·) := by
        have := h.sublist (List.drop_sublist (F.cnt (ks l) x.f0) (ks l))
        simpa [ks, List.map_drop] using this
      rw [List.drop_eq_getElem_cons hp] at hpw
      simp only [ks, List.map_cons] at hpw
      have := (List.pairwise_cons.1 hpw).1 x.f0 (List.mem_map.2 ⟨x, h', rfl⟩)
      simp only [ks] at hge; omega
  have hl : l = l.take (F.cnt (ks l) x.f0) ++ l[F.cnt (ks l) x.f0] :: l.drop (F.cnt (ks l) x.f0 + 1) := by rw [← List.drop_eq_getElem_cons hp, List.take_append_drop]
  have hnone : (l.take (F.cnt (ks l) x.f0)).find? (fun z => decide (z.f0 = x.f0)) = none := by
    rw [List.find?_eq_none]
    intro z hz
    rw [e1] at hz
    have := (List.mem_filter.1 hz).2
    simp at this ⊢; omega
  conv => lhs; rw [hl]
  rw [List.find?_append, hnone, Option.none_or, List.find?_cons_of_pos (by simpa using heq)]
theorem find_none {l : List S42} {y : Int} (hy : y ∉ ks l) : l.find? (fun x => decide (x.f0 = y)) = none := by
  rw [List.find?_eq_none]
  intro z hz
  simp only [decide_eq_true_eq]
  rintro rfl
  exact hy (List.mem_map.2 ⟨z, hz, rfl⟩)

theorem find_f {l : List S42} (h : (ks l).Pairwise (· < ·)) (hl : l.length < 1000000) (y : Int) : window_find.f l y = some ((F.cnt (ks l) y : Int), decide (y ∈ ks l)) := by
  unfold window_find.f
  rw [if_pos ⟨h, hl⟩]; rfl

theorem look_is (low : Int) (l : List S42) (y : Int) (hl : l.length ≤ 1000000000000) : Ev (fun k => window_Look.f k low l y) (lookW low l y) := by
  have ht : Ev (fun k => window_Look.j0 k y true low l) (0, 0, noA, false, 1) := Ev.step (f := fun _ => some (0, 0, noA, false, 1)) (fun k => by simp only [window_Look.j0, if_true]) (Ev.now _)
  unfold window_Look.f lookW
  refine Ev.bind (may_is low l hl) ?_
  by_cases hw : Wf low l
  · simp only [hw, decide_true, if_true, not_true, false_or]
    by_cases h1 : y < 1
    · simp only [h1, if_true, true_or]; exact ht
    by_cases h2 : y > 1073741824
    · simp only [h1, h2, if_false, decide_true, or_true, if_true]; exact ht
    simp only [h1, h2, if_false, decide_false, or_self]
    have hlt : l.length < 1000000 := by have := hw.2.2.1; omega
    refine Ev.step (f := fun _ => some (if y ≤ low then (0, 0, noA, false, 9) else hitW l y)) (fun k => ?_) (Ev.now _)
    simp only [window_Look.j0, Bool.false_eq_true, if_false]
    by_cases h3 : y ≤ low
    · rw [if_pos h3, if_pos h3]
    rw [if_neg h3, if_neg h3, find_f hw.up hlt]
    simp only [Option.bind_some]
    by_cases hy : y ∈ ks l
    · obtain ⟨hp, hf⟩ := find_at hw.up hy
      rw [decide_eq_true hy, if_pos rfl, if_pos (by omega), if_pos (by omega), hit_some hf, rdT_at hp]
    · rw [decide_eq_false hy, if_neg (by simp), hit_none (find_none hy)]
  · simp only [hw, decide_false, Bool.false_eq_true, if_false, not_false_eq_true, true_or, if_true]; exact ht

def putL (l : List S42) (y e n : Int) (t : ByteArray) : List S42 := l.filter (fun x => decide (x.f0 < y)) ++ (⟨y, ⟨e, n, t⟩⟩ : S42) :: l.filter (fun x => decide (y < x.f0))
def putW (low : Int) (l : List S42) (y e n : Int) (t : ByteArray) : Int × List S42 × Int :=
  if (lookW low l y).2.2.2.2 ≠ 0 then (0, [], (lookW low l y).2.2.2.2) else if (lookW low l y).2.2.2.1 = true then (0, [], 6) else
    if l.length + 1 ≤ 8 then (low, putL l y e n t, 0) else (((putL l y e n t).getD 0 z42).f0, (putL l y e n t).drop 1, 0)

/-- What a number's being looked up tells. -/
theorem look_ok {low : Int} {l : List S42} {y : Int} (h : (lookW low l y).2.2.2.2 = 0) : Wf low l ∧ 1 ≤ y ∧ y ≤ 1073741824 ∧ low < y ∧ ((lookW low l y).2.2.2.1 = true ↔ y ∈ ks l) := by
  unfold lookW at h ⊢
  split at h
  · simp at h
  rename_i h1
  simp only [not_or, Classical.not_not] at h1
  split at h
  · simp at h
  rename_i h2
  refine ⟨h1.1, by omega, by omega, by omega, ?_⟩
  rw [if_neg (by simp [h1]), if_neg h2]
  by_cases hy : y ∈ ks l
  · obtain ⟨hp, hf⟩ := find_at h1.1.up hy
    rw [hit_some hf]; simp [hy]
  · rw [hit_none (find_none hy)]; simp [hy]
theorem look_in {low : Int} {l : List S42} {y : Int} (hw : Wf low l) (h1 : 1 ≤ y) (h2 : y ≤ 1073741824) (h3 : low < y) : (lookW low l y).2.2.2.2 = 0 := by
  unfold lookW
  rw [if_neg (by simp [hw]; omega), if_neg (by omega)]
  unfold hitW
  split <;> rfl

theorem put_is (low : Int) (l : List S42) (y e n : Int) (t : ByteArray) (hl : l.length ≤ 1000000000000) : Ev (fun k => window_Put.f k low l y e n t) (putW low l y e n t) := by
  unfold window_Put.f putW
  refine Ev.bind (look_is low l y hl) ?_
  by_cases he : (lookW low l y).2.2.2.2 = 0
  · obtain ⟨hw, h1, h2, h3, hi⟩ := look_ok he
    simp only [he, ne_eq, not_true_eq_false, if_false]
    by_cases hy : y ∈ ks l
    · simp only [hi.2 hy, if_true]; exact Ev.now _
    · have hlt : l.length < 1000000 := by have := hw.2.2.1; omega
      have hf : (lookW low l y).2.2.2.1 = false := by cases h : (lookW low l y).2.2.2.1; rfl; exact absurd (hi.1 h) hy
      simp only [hf, Bool.false_eq_true, if_false]
      rw [find_f hw.up hlt]
      simp only [Option.bind_some, Int.toNat_natCast]
      obtain ⟨e1, e2⟩ := cnt_split hw.up y
      have e3 : l.filter (fun x => decide (y ≤ x.f0)) = l.filter (fun x => decide (y < x.f0)) := List.filter_congr (fun x hx => by
        have : x.f0 ≠ y := fun h => hy (List.mem_map.2 ⟨x, hx, h⟩)
        simp only [decide_eq_decide]; omega)
      rw [if_pos (by have := hw.2.2.1; omega), e1, e2, e3]
      have : l.filter (fun x => decide (x.f0 < y)) ++ [(⟨y, ⟨e, n, t⟩⟩ : S42)] ++ l.filter (fun x => decide (y < x.f0)) = putL l y e n t := by simp [putL]
      rw [this]
      by_cases h8 : l.length + 1 ≤ 8
      · simp only [h8, if_true]; exact Ev.now _
      · simp only [h8, if_false]; exact Ev.now _
  · simp only [he, ne_eq, not_false_eq_true, if_true]; exact Ev.now _

theorem ks_putL {l : List S42} {y e n : Int} {t : ByteArray} : ks (putL l y e n t) = (ks l).filter (fun x => decide (x < y)) ++ y :: (ks l).filter (fun x => decide (y < x)) := by
  simp [ks, putL, List.filter_map, Function.comp_def]
theorem mem_putL {l : List S42} {y e n x : Int} {t : ByteArray} : x ∈ ks (putL l y e n t) ↔ x = y ∨ x ∈ ks l := by
  rw [ks_putL]
  simp only [List.mem_append, List.mem_filter, List.mem_cons, decide_eq_true_eq]
  constructor
  · rintro (h | rfl | h)
    · exact .inr h.1
    · exact .inl rfl
    · exact .inr h.1
  · rintro (rfl | h)
    · exact .inr (.inl rfl)
    · by_cases h1 : x < y
      · exact .inl ⟨h, h1⟩
      · by_cases h2 : y < x
        · exact .inr (.inr ⟨h, h2⟩)
        · exact .inr (.inl (by omega))
theorem up_putL {l : List S42} {y e n : Int} {t : ByteArray} (h : (ks l).Pairwise (· < ·)) : (ks (putL l y e n t)).Pairwise (· < ·) := by
  rw [ks_putL]
  refine List.pairwise_append.2 ⟨h.filter _, List.pairwise_cons.2 ⟨fun x hx => by simpa using (List.mem_filter.1 hx).2, h.filter _⟩, fun x hx z hz => ?_⟩
  have hxy : x < y := by simpa using (List.mem_filter.1 hx).2
  rcases List.mem_cons.1 hz with rfl | hz
  · exact hxy
  · have : y < z := by simpa using (List.mem_filter.1 hz).2
    omega
theorem length_putL {l : List S42} {y e n : Int} {t : ByteArray} (hy : y ∉ ks l) : (putL l y e n t).length = l.length + 1 := by
  have : l.length = (l.filter (fun x => decide (x.f0 < y))).length + (l.filter (fun x => decide (y < x.f0))).length := by
    induction l with
    | nil => rfl
    | cons x r ih =>
      simp only [ks, List.map_cons, List.mem_cons, not_or] at hy
      have := ih hy.2
      by_cases h : x.f0 < y
      · rw [List.filter_cons_of_pos (by simpa using h), List.filter_cons_of_neg (by simp; omega)]; simp; omega
      · rw [List.filter_cons_of_neg (by simpa using h), List.filter_cons_of_pos (by simp; omega)]; simp; omega
  simp [putL]; omega

theorem awake_is : Ev (fun k => colloquylaw17_awake.f k) true := Ev.of (fun k => colloquylaw17_awake.mono k) (k := 60) (by kernel_rfl)

theorem nodup_le : ∀ {a b : List Int}, a.Nodup → (∀ x ∈ a, x ∈ b) → a.length ≤ b.length
  | [], _, _, _ => Nat.zero_le _
  | x :: r, b, hn, hs => by
    obtain ⟨h1, h2⟩ := List.nodup_cons.1 hn
    have hx := hs x List.mem_cons_self
    have ih := nodup_le (a := r) (b := b.erase x) h2 (fun z hz => by
      have hzx : z ≠ x := fun h => h1 (h ▸ hz)
      exact (List.mem_erase_of_ne hzx).2 (hs z (List.mem_cons_of_mem _ hz)))
    have := List.length_erase_of_mem hx
    have := List.length_pos_of_mem hx
    simp only [List.length_cons]; omega
theorem up_nodup {l : List Int} (h : l.Pairwise (· < ·)) : l.Nodup := h.imp (fun h => by omega)

/-- A window with one number more. -/
theorem put_ok {low : Int} {l : List S42} {y e n : Int} {t : ByteArray} (h : (putW low l y e n t).2.2 = 0) : Wf low l ∧ 1 ≤ y ∧ y ≤ 1073741824 ∧ low < y ∧ y ∉ ks l ∧
    Wf (putW low l y e n t).1 (putW low l y e n t).2.1 ∧ low ≤ (putW low l y e n t).1 ∧ (putW low l y e n t).1 < 1073741824 + 1 ∧
    ((putW low l y e n t).1 = low ∧ l.length + 1 ≤ 8 ∧ (putW low l y e n t).2.1 = putL l y e n t ∨ 8 ≤ l.length ∧ (putW low l y e n t).2.1.length = 8 ∧ putL l y e n t = (putL l y e n t).getD 0 z42 :: (putW low l y e n t).2.1 ∧ (putW low l y e n t).1 = ((putL l y e n t).getD 0 z42).f0) := by
  unfold putW at h ⊢
  split at h
  · rename_i h1; exact absurd h h1
  rename_i h1
  simp only [ne_eq, Classical.not_not] at h1
  obtain ⟨hw, a1, a2, a3, a4⟩ := look_ok h1
  split at h
  · simp at h
  rename_i h2
  have hy : y ∉ ks l := fun h => h2 (a4.2 h)
  have hlen := length_putL (e := e) (n := n) (t := t) hy
  have hup := up_putL (y := y) (e := e) (n := n) (t := t) hw.up
  have hgt : ∀ x ∈ ks (putL l y e n t), low < x ∧ x ≤ 1073741824 := fun x hx => by
    rcases mem_putL.1 hx with rfl | hx
    · exact ⟨a3, a2⟩
    · exact hw.above hx
  rw [if_neg (by simpa using h1), if_neg h2]
  by_cases h8 : l.length + 1 ≤ 8
  · rw [if_pos h8]
    exact ⟨hw, a1, a2, a3, hy, ⟨hw.1, hw.2.1, by show (putL l y e n t).length ≤ 8; omega, List.pairwise_cons.2 ⟨fun x hx => (hgt x hx).1, hup⟩, fun x hx => (hgt x hx).2⟩, by simp, by have := hw.2.1; simp; omega, .inl ⟨rfl, h8, rfl⟩⟩
  · rw [if_neg h8]
    have hl8 : l.length = 8 := by have := hw.2.2.1; omega
    cases hL : putL l y e n t with
    | nil => rw [hL] at hlen; simp at hlen
    | cons x r =>
      rw [hL] at hlen hup hgt
      simp only [List.length_cons] at hlen
      simp only [ks, List.map_cons] at hup hgt
      have hx := hgt x.f0 List.mem_cons_self
      refine ⟨hw, a1, a2, a3, hy, ⟨?_, ?_, ?_, ?_, ?_⟩, ?_, ?_, .inr ⟨by omega, by simp; omega, by simp, by simp⟩⟩
      · have := hw.1; simp; omega
      · simp; omega
      · simp; omega
      · simpa [ks] using hup
      · intro z hz; exact (hgt z (List.mem_cons_of_mem _ hz)).2
      · simp; omega
      · simp; omega
theorem put_no {low : Int} {l : List S42} {y e n : Int} {t : ByteArray} (hw : Wf low l) (h1 : 1 ≤ y) (h2 : y ≤ 1073741824) (h3 : low < y) (hy : y ∉ ks l) : (putW low l y e n t).2.2 = 0 := by
  have he := look_in hw h1 h2 h3
  have hi := (look_ok he).2.2.2.2
  unfold putW
  rw [if_neg (by simpa using he), if_neg (fun h => hy (hi.1 h))]
  split <;> rfl
theorem wf0 : Wf 0 [] := ⟨by omega, by omega, by simp, by simp [ks], by simp [ks]⟩

theorem same_ev (a : Int) (l : List S42) (hl : l.length ≤ 1000000) : ∀ (d i : Nat), i + d = l.length → Ev (fun k => colloquyref17_Same.l0 k (i : Int) a l a l) true
  | 0, i, h => Ev.step (f := fun _ => some true) (fun k => by simp only [colloquyref17_Same.l0]; rw [if_neg (by omega)]) (Ev.now _)
  | d + 1, i, h => by
    have hi : i < l.length := by omega
    have hw := wrap_up hi (by omega)
    refine Ev.step (f := fun k => colloquyref17_Same.l0 k ((i + 1 : Nat) : Int) a l a l) (fun k => ?_) (same_ev a l hl d (i + 1) (by omega))
    simp only [colloquyref17_Same.l0]; rw [if_pos (by omega), if_pos (by omega), if_pos (by omega), if_neg (by simp), hw]
theorem same_is (a : Int) (l : List S42) (hl : l.length ≤ 1000000) : Ev (fun k => colloquyref17_Same.f k a l a l) true := by
  unfold colloquyref17_Same.f
  simp only [if_true]
  refine Ev.step (f := fun k => colloquyref17_Same.l0 k 0 a l a l) (fun k => by simp only [colloquyref17_Same.j0]; rw [if_neg (by simp)]) ?_
  simpa using same_ev a l hl l.length 0 (by omega)

theorem find_uniq {l : List S42} (h : (ks l).Pairwise (· < ·)) {z : S42} (hz : z ∈ l) : l.find? (fun x => decide (x.f0 = z.f0)) = some z := by
  induction l with
  | nil => simp at hz
  | cons x r ih =>
    simp only [ks, List.map_cons] at h
    obtain ⟨h1, h2⟩ := List.pairwise_cons.1 h
    rcases List.mem_cons.1 hz with rfl | hz
    · rw [List.find?_cons_of_pos (by simp)]
    · have := h1 z.f0 (List.mem_map.2 ⟨z, hz, rfl⟩)
      rw [List.find?_cons_of_neg (by simp; omega)]; exact ih h2 hz
theorem mem_putL' {l : List S42} {y e n : Int} {t : ByteArray} {z : S42} : z ∈ putL l y e n t ↔ z = ⟨y, ⟨e, n, t⟩⟩ ∨ z ∈ l ∧ z.f0 ≠ y := by
  simp only [putL, List.mem_append, List.mem_filter, List.mem_cons, decide_eq_true_eq]
  constructor
  · rintro (h | rfl | h)
    · exact .inr ⟨h.1, by omega⟩
    · exact .inl rfl
    · exact .inr ⟨h.1, by omega⟩
  · rintro (rfl | ⟨h, h1⟩)
    · exact .inr (.inl rfl)
    · by_cases h2 : z.f0 < y
      · exact .inl ⟨h, h2⟩
      · exact .inr (.inr ⟨h, by omega⟩)

/-- What a number that was put is looked up as. -/
theorem put_self {low : Int} {l : List S42} {y e n : Int} {t : ByteArray} (h : (putW low l y e n t).2.2 = 0) :
    lookW (putW low l y e n t).1 (putW low l y e n t).2.1 y = (e, n, t, true, 0) ∨ (lookW (putW low l y e n t).1 (putW low l y e n t).2.1 y).2.2.2.2 = 9 := by
  obtain ⟨hw, a1, a2, a3, a4, a5, a6, _, a7⟩ := put_ok h
  by_cases hle : y ≤ (putW low l y e n t).1
  · right; unfold lookW; rw [if_neg (by simp [a5]; omega), if_pos hle]
  · left
    have hin : (⟨y, ⟨e, n, t⟩⟩ : S42) ∈ (putW low l y e n t).2.1 := by
      have h0 : (⟨y, ⟨e, n, t⟩⟩ : S42) ∈ putL l y e n t := mem_putL'.2 (.inl rfl)
      rcases a7 with ⟨e1, e2, e3⟩ | ⟨e1, e2, e3, e4⟩
      · rw [e3]; exact h0
      · rw [e3] at h0
        rcases List.mem_cons.1 h0 with h' | h'
        · exact absurd (by rw [e4, ← h']; exact Int.le_refl _) hle
        · exact h'
    have hf := find_uniq a5.up hin
    unfold lookW
    rw [if_neg (by simp [a5]; omega), if_neg hle, hit_some hf]
/-- .. and it can't be put once more. -/
theorem put_again {low : Int} {l : List S42} {y e n e' n' : Int} {t t' : ByteArray} (h : (putW low l y e n t).2.2 = 0) : (putW (putW low l y e n t).1 (putW low l y e n t).2.1 y e' n' t').2.2 ≠ 0 := by
  obtain ⟨m, hm⟩ : ∃ m, m = putW low l y e n t := ⟨_, rfl⟩
  have hs := put_self h
  rw [← hm] at hs ⊢
  unfold putW
  rcases hs with hs | hs
  · rw [if_neg (by simp [hs]), if_pos (by simp [hs])]; simp
  · rw [if_pos (by simp [hs])]; simp [hs]
/-- Other numbers stay. -/
theorem put_other {low : Int} {l : List S42} {y e n o : Int} {t : ByteArray} (h : (putW low l y e n t).2.2 = 0) (ho : o ≠ y) :
    (lookW (putW low l y e n t).1 (putW low l y e n t).2.1 o).2.2.2.2 = 9 ∨ lookW low l o = lookW (putW low l y e n t).1 (putW low l y e n t).2.1 o := by
  obtain ⟨hw, a1, a2, a3, a4, a5, a6, _, a7⟩ := put_ok h
  by_cases hr : o < 1 ∨ o > 1073741824
  · right; unfold lookW; rw [if_pos (.inr hr), if_pos (.inr hr)]
  by_cases hle : o ≤ (putW low l y e n t).1
  · left; unfold lookW; rw [if_neg (by simp [a5]; omega), if_pos hle]
  · right
    unfold lookW
    rw [if_neg (by simp [hw]; omega), if_neg (show ¬ o ≤ low by omega), if_neg (by simp [a5]; omega), if_neg hle]
    have hmem : ∀ z : S42, z.f0 = o → (z ∈ l ↔ z ∈ (putW low l y e n t).2.1) := fun z hz => by
      have h0 : z ∈ l ↔ z ∈ putL l y e n t := by
        rw [mem_putL']
        exact ⟨fun h => .inr ⟨h, by omega⟩, fun h => by rcases h with rfl | h; exact absurd hz (Ne.symm ho); exact h.1⟩
      rw [h0]
      rcases a7 with ⟨e1, e2, e3⟩ | ⟨e1, e2, e3, e4⟩
      · rw [e3]
      · rw [e3]
        constructor
        · intro h'
          rcases List.mem_cons.1 h' with h' | h'
          · exact absurd (by rw [e4, ← h', hz]; exact Int.le_refl _) hle
          · exact h'
        · intro h'; exact List.mem_cons_of_mem _ h'
    by_cases hin : o ∈ ks l
    · obtain ⟨z, hz, rfl⟩ := List.mem_map.1 hin
      rw [hit_some (find_uniq hw.up hz), hit_some (find_uniq a5.up ((hmem z rfl).1 hz))]
    · have hin' : o ∉ ks (putW low l y e n t).2.1 := fun h' => by
        obtain ⟨z, hz, hzo⟩ := List.mem_map.1 h'
        exact hin (List.mem_map.2 ⟨z, (hmem z hzo).2 hz, hzo⟩)
      rw [hit_none (find_none hin), hit_none (find_none hin')]
theorem put_err {low : Int} {l : List S42} {y e n : Int} {t : ByteArray} (h : (putW low l y e n t).2.2 ≠ 0) : (putW low l y e n t).1 = 0 ∧ (putW low l y e n t).2.1 = [] := by
  unfold putW at h ⊢
  split
  · exact ⟨rfl, rfl⟩
  rename_i h1
  rw [if_neg h1] at h
  split
  · exact ⟨rfl, rfl⟩
  rename_i h2
  rw [if_neg h2] at h
  split at h <;> simp at h

/-! The document's functions. -/
theorem rmay_ev (low : Int) (l : List S42) (hl : l.length ≤ 1000000) : ∀ (d i : Nat) (a : Int), i + d = l.length → Ev (fun k => colloquyref17_May.l0 k a (i : Int) low l) (rise a (l.drop i))
  | 0, i, a, h => by
    refine Ev.step (f := fun _ => some true) (fun k => ?_) ?_
    · simp only [colloquyref17_May.l0]; rw [if_neg (by omega)]
    · rw [List.drop_of_length_le (by omega)]; exact Ev.now _
  | d + 1, i, a, h => by
    have hi : i < l.length := by omega
    have hw := wrap_up hi (by omega)
    have ih := rmay_ev low l hl d (i + 1) l[i].f0 (by omega)
    rw [List.drop_eq_getElem_cons hi]
    by_cases h1 : l[i].f0 ≤ a
    · refine Ev.step (f := fun _ => some false) (fun k => ?_) ?_
      · simp only [colloquyref17_May.l0]; rw [if_pos (by omega), if_pos (by omega), rdT_at hi, if_pos h1]
      · simp only [rise, show ¬ a < l[i].f0 from by omega, decide_false, Bool.false_and]; exact Ev.now false
    · by_cases h2 : l[i].f0 > 1073741824
      · refine Ev.step (f := fun _ => some false) (fun k => ?_) ?_
        · simp only [colloquyref17_May.l0]; rw [if_pos (by omega), if_pos (by omega), rdT_at hi, if_neg h1, if_pos h2]
        · simp only [rise, show ¬ l[i].f0 ≤ 1073741824 from by omega, decide_false, Bool.and_false, Bool.false_and]; exact Ev.now false
      · refine Ev.step (f := fun k => colloquyref17_May.l0 k l[i].f0 ((i + 1 : Nat) : Int) low l) (fun k => ?_) ?_
        · simp only [colloquyref17_May.l0]; rw [if_pos (by omega), if_pos (by omega), rdT_at hi, if_neg h1, if_neg h2, hw]
        · simp only [rise, show a < l[i].f0 from by omega, show l[i].f0 ≤ 1073741824 from by omega, decide_true, Bool.and_self, Bool.true_and]; exact ih
theorem rmay_is (low : Int) (l : List S42) (hl : l.length ≤ 1000000) : Ev (fun k => colloquyref17_May.f k low l) (decide (Wf low l)) := by
  have ht : Ev (fun k => colloquyref17_May.j0 k true low l) false := Ev.step (f := fun _ => some false) (fun k => by simp only [colloquyref17_May.j0, if_true]) (Ev.now _)
  unfold colloquyref17_May.f
  by_cases h1 : low < 0
  · have e : decide (Wf low l) = false := decide_eq_false (fun h : Wf low l => by have := h.1; omega)
    rw [e]
    simp only [h1, if_true]; exact ht
  by_cases h2 : low > 1073741824
  · have e : decide (Wf low l) = false := decide_eq_false (fun h : Wf low l => by have := h.2.1; omega)
    rw [e]
    simp only [h1, h2, if_false, if_true]; exact ht
  by_cases h3 : (l.length : Int) > 8
  · have e : decide (Wf low l) = false := decide_eq_false (fun h : Wf low l => by have := h.2.2.1; omega)
    rw [e]
    simp only [h1, h2, h3, if_false, decide_true]; exact ht
  · simp only [h1, h2, h3, if_false, decide_false]
    have e : decide (Wf low l) = rise low l := by
      rw [Bool.eq_iff_iff]
      constructor
      · intro h
        obtain ⟨a, b, c, d, e⟩ := of_decide_eq_true h
        exact rise_iff.2 ⟨d, e⟩
      · intro h
        obtain ⟨d, e⟩ := rise_iff.1 h
        exact decide_eq_true ⟨by omega, by omega, by omega, d, e⟩
    rw [e]
    refine Ev.step (f := fun k => colloquyref17_May.l0 k low 0 low l) (fun k => by simp only [colloquyref17_May.j0]; rw [if_neg (by simp)]) ?_
    simpa using rmay_ev low l hl l.length 0 low (by omega)

theorem rlook_ev (low : Int) (l : List S42) (y : Int) (hl : l.length ≤ 1000000) : ∀ (d i : Nat), i + d = l.length → Ev (fun k => colloquyref17_Look.l0 k y (i : Int) low l) (hitW (l.drop i) y)
  | 0, i, h => by
    refine Ev.step (f := fun _ => some (0, 0, noA, false, 0)) (fun k => ?_) ?_
    · simp only [colloquyref17_Look.l0]; rw [if_neg (by omega)]
    · rw [List.drop_of_length_le (by omega)]; exact Ev.now _
  | d + 1, i, h => by
    have hi : i < l.length := by omega
    have hw := wrap_up hi (by omega)
    have ih := rlook_ev low l y hl d (i + 1) (by omega)
    rw [List.drop_eq_getElem_cons hi]
    by_cases h1 : l[i].f0 = y
    · refine Ev.step (f := fun _ => some (l[i].f1.f0, l[i].f1.f1, l[i].f1.f2, true, 0)) (fun k => ?_) ?_
      · simp only [colloquyref17_Look.l0]; rw [if_pos (by omega), if_pos (by omega), rdT_at hi, if_pos h1]
      · rw [hit_some (List.find?_cons_of_pos (by simpa using h1))]; exact Ev.now _
    · refine Ev.step (f := fun k => colloquyref17_Look.l0 k y ((i + 1 : Nat) : Int) low l) (fun k => ?_) ?_
      · simp only [colloquyref17_Look.l0]; rw [if_pos (by omega), if_pos (by omega), rdT_at hi, if_neg h1, hw]
      · have : hitW (l[i] :: l.drop (i + 1)) y = hitW (l.drop (i + 1)) y := by unfold hitW; rw [List.find?_cons_of_neg (by simpa using h1)]
        rw [this]; exact ih
theorem rlook_is (low : Int) (l : List S42) (y : Int) (hl : l.length ≤ 1000000) : Ev (fun k => colloquyref17_Look.f k low l y) (lookW low l y) := by
  have ht : Ev (fun k => colloquyref17_Look.j0 k y true low l) (0, 0, noA, false, 1) := Ev.step (f := fun _ => some (0, 0, noA, false, 1)) (fun k => by simp only [colloquyref17_Look.j0, if_true]) (Ev.now _)
  unfold colloquyref17_Look.f lookW
  refine Ev.bind (rmay_is low l hl) ?_
  by_cases hw : Wf low l
  · simp only [hw, decide_true, if_true, not_true, false_or]
    by_cases h1 : y < 1
    · simp only [h1, if_true, true_or]; exact ht
    by_cases h2 : y > 1073741824
    · simp only [h1, h2, if_false, decide_true, or_true, if_true]; exact ht
    simp only [h1, h2, if_false, decide_false, or_self]
    by_cases h3 : y ≤ low
    · rw [if_pos h3]
      exact Ev.step (f := fun _ => some (0, 0, noA, false, 9)) (fun k => by simp only [colloquyref17_Look.j0, Bool.false_eq_true, if_false]; rw [if_pos h3]) (Ev.now _)
    · rw [if_neg h3]
      refine Ev.step (f := fun k => colloquyref17_Look.l0 k y 0 low l) (fun k => by simp only [colloquyref17_Look.j0, Bool.false_eq_true, if_false]; rw [if_neg h3]) ?_
      simpa using rlook_ev low l y hl l.length 0 (by omega)
  · simp only [hw, decide_false, Bool.false_eq_true, if_false, not_false_eq_true, true_or, if_true]; exact ht

def insF (y e n : Int) (t : ByteArray) : List S42 → List S42
  | [] => [⟨y, ⟨e, n, t⟩⟩]
  | x :: r => if x.f0 > y then ⟨y, ⟨e, n, t⟩⟩ :: x :: r else x :: insF y e n t r
theorem insF_putL {y e n : Int} {t : ByteArray} : ∀ {l : List S42}, (ks l).Pairwise (· < ·) → y ∉ ks l → insF y e n t l = putL l y e n t
  | [], _, _ => rfl
  | x :: r, hp, hu => by
    simp only [ks, List.map_cons, List.mem_cons, not_or] at hp hu
    obtain ⟨h1, h2⟩ := List.pairwise_cons.1 hp
    unfold insF
    by_cases hx : x.f0 > y
    · rw [if_pos hx]
      unfold putL
      have hall : ∀ z ∈ x :: r, y < z.f0 := fun z hz => by
        rcases List.mem_cons.1 hz with rfl | hz
        · exact hx
        · have := h1 z.f0 (List.mem_map.2 ⟨z, hz, rfl⟩); omega
      rw [List.filter_eq_nil_iff.2 (fun z hz => by have := hall z hz; simp; omega), List.filter_eq_self.2 (fun z hz => by have := hall z hz; simpa using this)]; rfl
    · rw [if_neg hx, insF_putL h2 hu.2]
      unfold putL
      rw [List.filter_cons_of_pos (p := fun x : S42 => decide (x.f0 < y)) (by simp; omega), List.filter_cons_of_neg (p := fun x : S42 => decide (y < x.f0)) (by simp; omega)]; rfl
def fin (low : Int) (a : List S42) : Int × List S42 × Int := if (a.length : Int) > 8 then ((a.getD 0 z42).f0, a.drop 1, 0) else (low, a, 0)
theorem rput_done (low y e n : Int) (t : ByteArray) (l : List S42) (hl : l.length ≤ 1000) : ∀ (d i : Nat) (acc : List S42), i + d = l.length → acc.length ≤ i + 1 → 0 < acc.length → Ev (fun k => colloquyref17_Put.l0 k y acc true (i : Int) low l e n t) (fin low (acc ++ l.drop i))
  | 0, i, acc, h, ha, hp => by
    refine Ev.step (f := fun _ => some (fin low acc)) (fun k => ?_) ?_
    · simp only [colloquyref17_Put.l0, if_true]; rw [if_neg (by omega)]
      unfold fin
      by_cases h8 : (acc.length : Int) > 8
      · rw [if_pos h8, if_pos h8, if_pos (by omega), if_pos (by omega)]; rfl
      · rw [if_neg h8, if_neg h8]
    · rw [List.drop_of_length_le (by omega), List.append_nil]; exact Ev.now _
  | d + 1, i, acc, h, ha, hp => by
    have hi : i < l.length := by omega
    have hw := wrap_up hi (by omega)
    have ih := rput_done low y e n t l hl d (i + 1) (acc ++ [l[i]]) (by omega) (by simp; omega) (by simp)
    refine Ev.step (f := fun k => colloquyref17_Put.l0 k y (acc ++ [l[i]]) true ((i + 1 : Nat) : Int) low l e n t) (fun k => ?_) ?_
    · simp only [colloquyref17_Put.l0, if_true]; rw [if_pos (by omega), if_pos (by omega), if_pos (by omega), rdT_at hi, hw]
    · rw [List.drop_eq_getElem_cons hi]; simpa using ih
theorem rput_ev (low y e n : Int) (t : ByteArray) (l : List S42) (hl : l.length ≤ 1000) : ∀ (d i : Nat) (acc : List S42), i + d = l.length → acc.length ≤ i → Ev (fun k => colloquyref17_Put.l0 k y acc false (i : Int) low l e n t) (fin low (acc ++ insF y e n t (l.drop i)))
  | 0, i, acc, h, ha => by
    refine Ev.step (f := fun _ => some (fin low (acc ++ [⟨y, ⟨e, n, t⟩⟩]))) (fun k => ?_) ?_
    · simp only [colloquyref17_Put.l0, Bool.false_eq_true, if_false]; rw [if_neg (by omega), if_pos (by omega)]
      simp only [Option.bind_some]
      have hp : 0 < (acc ++ [(⟨y, ⟨e, n, t⟩⟩ : S42)]).length := by simp
      obtain ⟨A, hA⟩ : ∃ A, A = acc ++ [(⟨y, ⟨e, n, t⟩⟩ : S42)] := ⟨_, rfl⟩
      rw [← hA] at hp ⊢
      unfold fin
      by_cases h8 : (A.length : Int) > 8
      · rw [if_pos h8, if_pos h8, if_pos (by omega), if_pos (by omega)]; rfl
      · rw [if_neg h8, if_neg h8]
    · rw [List.drop_of_length_le (by omega)]; exact Ev.now _
  | d + 1, i, acc, h, ha => by
    have hi : i < l.length := by omega
    have hw := wrap_up hi (by omega)
    rw [List.drop_eq_getElem_cons hi]
    unfold insF
    by_cases hx : l[i].f0 > y
    · have ih := rput_done low y e n t l hl d (i + 1) (acc ++ [⟨y, ⟨e, n, t⟩⟩] ++ [l[i]]) (by omega) (by simp; omega) (by simp)
      refine Ev.step (f := fun k => colloquyref17_Put.l0 k y (acc ++ [⟨y, ⟨e, n, t⟩⟩] ++ [l[i]]) true ((i + 1 : Nat) : Int) low l e n t) (fun k => ?_) ?_
      · simp only [colloquyref17_Put.l0, Bool.false_eq_true, if_false]; rw [if_pos (by omega), if_pos (by omega), rdT_at hi, if_pos hx, if_pos (by omega)]
        simp only [Option.bind_some]; rw [if_pos (by simp; omega), hw]
      · rw [if_pos hx]; simpa using ih
    · have ih := rput_ev low y e n t l hl d (i + 1) (acc ++ [l[i]]) (by omega) (by simp; omega)
      refine Ev.step (f := fun k => colloquyref17_Put.l0 k y (acc ++ [l[i]]) false ((i + 1 : Nat) : Int) low l e n t) (fun k => ?_) ?_
      · simp only [colloquyref17_Put.l0, Bool.false_eq_true, if_false]; rw [if_pos (by omega), if_pos (by omega), rdT_at hi, if_neg hx, if_pos (by omega), hw]
      · rw [if_neg hx]; simpa using ih
theorem rput_is (low : Int) (l : List S42) (y e n : Int) (t : ByteArray) (hl : l.length ≤ 1000) : Ev (fun k => colloquyref17_Put.f k low l y e n t) (putW low l y e n t) := by
  unfold colloquyref17_Put.f putW
  refine Ev.bind (rlook_is low l y (by omega)) ?_
  by_cases he : (lookW low l y).2.2.2.2 = 0
  · obtain ⟨hw, h1, h2, h3, hi⟩ := look_ok he
    simp only [he, ne_eq, not_true_eq_false, if_false, if_true]
    by_cases hy : y ∈ ks l
    · simp only [hi.2 hy, if_true]; exact Ev.now _
    · have hf : (lookW low l y).2.2.2.1 = false := by cases h : (lookW low l y).2.2.2.1; rfl; exact absurd (hi.1 h) hy
      simp only [hf, Bool.false_eq_true, if_false]
      have := rput_ev low y e n t l hl l.length 0 [] (by omega) (by simp)
      rw [List.drop_zero, List.nil_append, insF_putL hw.up hy] at this
      unfold fin at this
      rw [length_putL hy] at this
      by_cases h8 : l.length + 1 ≤ 8
      · rw [if_neg (by omega)] at this; simp only [h8, if_true]; exact this
      · rw [if_pos (by omega)] at this; simp only [h8, if_false]; exact this
  · simp only [he, ne_eq, not_false_eq_true, if_true, if_false]; exact Ev.now _

/-! Each, told as a tree. -/
theorem ev_at {α : Type} {g : Nat → Option α} {r : α} (h : Ev g r) : ∃ k, g k = some r := h.rounds
theorem few_does (low : Int) (l : List S42) (hl : l.length ≤ 9223372036854775807) : F.DoesT 9 [F.win low (l.map tlOf)] (Go.SX.bv (decide ((l.length : Int) ≤ 50))) := by
  refine Go.SX.Does.of_plain (v := .bool (decide ((l.length : Int) ≤ 50))) (by kernel_rfl) (fun _ _ _ => .tree (.lit rfl)) (fun w Own vs hlen hv => ?_)
  obtain ⟨A, c, e0, hc, hC⟩ := win_arg (hv 0 _ rfl) hl
  rw [Go.SX.arr1 (by simpa using hlen.symm) e0]
  refine (colloquylaw17_Few.calls low A c l _ w hC hc rfl).mono ?_
  rintro e w' ⟨rfl, hd⟩
  first | exact ⟨rfl, hd⟩ | exact ⟨rfl, hd.below⟩
theorem may_does (low : Int) (l : List S42) (hl : l.length ≤ 1000) : F.DoesT 15 [F.win low (l.map tlOf)] (Go.SX.bv (decide (Wf low l))) := by
  obtain ⟨k, e⟩ := ev_at (may_is low l (by omega))
  refine Go.SX.Does.of_plain (v := .bool (decide (Wf low l))) (by kernel_rfl) (fun _ _ _ => .tree (.lit rfl)) (fun w Own vs hlen hv => ?_)
  obtain ⟨A, c, e0, hc, hC⟩ := win_arg (hv 0 _ rfl) (by omega)
  rw [Go.SX.arr1 (by simpa using hlen.symm) e0]
  refine (window_May.calls k low A c l _ w hC hc e).mono ?_
  rintro e w' ⟨rfl, hd⟩
  first | exact ⟨rfl, hd⟩ | exact ⟨rfl, hd.below⟩
theorem rmay_does (low : Int) (l : List S42) (hl : l.length ≤ 1000) : F.DoesT 16 [F.win low (l.map tlOf)] (Go.SX.bv (decide (Wf low l))) := by
  obtain ⟨k, e⟩ := ev_at (rmay_is low l (by omega))
  refine Go.SX.Does.of_plain (v := .bool (decide (Wf low l))) (by kernel_rfl) (fun _ _ _ => .tree (.lit rfl)) (fun w Own vs hlen hv => ?_)
  obtain ⟨A, c, e0, hc, hC⟩ := win_arg (hv 0 _ rfl) (by omega)
  rw [Go.SX.arr1 (by simpa using hlen.symm) e0]
  refine (colloquyref17_May.calls k low A c l _ w hC hc e).mono ?_
  rintro e w' ⟨rfl, hd⟩
  first | exact ⟨rfl, hd⟩ | exact ⟨rfl, hd.below⟩
theorem lk_does (low : Int) (l : List S42) (y : Int) (hl : l.length ≤ 1000) : F.DoesT 10 [F.win low (l.map tlOf), Go.SX.iv y] (F.lk (lookW low l y)) := by
  obtain ⟨k, e⟩ := ev_at (look_is low l y (by omega))
  rcases hr : lookW low l y with ⟨r1, r2, r3, r4, r5⟩
  exact look_does k low l y r1 r2 r3 r4 r5 (by omega) (by rw [e, hr])
theorem rlook_does (low : Int) (l : List S42) (y : Int) (hl : l.length ≤ 1000) : F.DoesT 11 [F.win low (l.map tlOf), Go.SX.iv y] (F.lk (lookW low l y)) := by
  obtain ⟨k, e⟩ := ev_at (rlook_is low l y (by omega))
  rcases hr : lookW low l y with ⟨r1, r2, r3, r4, r5⟩
  refine Go.SX.Does.of_plain (v := .tuple #[.agg #[.int .i64 r1, .int .i64 r2, .string r3], .bool r4, .int .i64 r5]) (by kernel_rfl) (fun w Own ρ => .tup rfl (fun i x hx => ?_)) (fun w Own vs hlen hv => ?_)
  · match i, hx with
    | 0, hx =>
      injection hx with hx; subst hx
      refine .agg rfl (fun i x hx => ?_)
      match i, hx with
      | 0, hx => injection hx with hx; subst hx; exact .tree (.lit rfl)
      | 1, hx => injection hx with hx; subst hx; exact .tree (.lit rfl)
      | 2, hx => injection hx with hx; subst hx; exact .tree (.lit rfl)
      | (i + 3), hx => simp at hx
    | 1, hx => injection hx with hx; subst hx; exact .tree (.lit rfl)
    | 2, hx => injection hx with hx; subst hx; exact .tree (.lit rfl)
    | (i + 3), hx => simp at hx
  · obtain ⟨A, c, e0, hc, hC⟩ := win_arg (hv 0 _ rfl) (by omega)
    obtain ⟨e1, _⟩ := (hv 1 _ rfl).lit_inv
    rw [Go.SX.arr2 (by simpa using hlen.symm) e0 e1]
    refine (colloquyref17_Look.calls k low A c l y r1 r2 r3 r4 r5 w hC hc (by rw [e, hr])).mono ?_
    rintro e w' ⟨rfl, hd⟩
    first | exact ⟨rfl, hd⟩ | exact ⟨rfl, hd.below⟩
theorem same_does (low : Int) (l : List S42) (hl : l.length ≤ 1000) : F.DoesT 14 [F.win low (l.map tlOf), F.win low (l.map tlOf)] (Go.SX.bv true) := by
  obtain ⟨k, e⟩ := ev_at (same_is low l (by omega))
  refine Go.SX.Does.of_plain (v := .bool true) (by kernel_rfl) (fun _ _ _ => .tree (.lit rfl)) (fun w Own vs hlen hv => ?_)
  obtain ⟨A, c, e0, hc, hC⟩ := win_arg (hv 0 _ rfl) (by omega)
  obtain ⟨A2, c2, e1, hc2, hC2⟩ := win_arg (hv 1 _ rfl) (by omega)
  rw [Go.SX.arr2 (by simpa using hlen.symm) e0 e1]
  refine (colloquyref17_Same.calls k low A c l low A2 c2 l true w hC hc hC2 hc2 e).mono ?_
  rintro e w' ⟨rfl, hd⟩
  first | exact ⟨rfl, hd⟩ | exact ⟨rfl, hd.below⟩
theorem an_arg {w : World} {Own : Nat → Prop} {e n : Int} {t : ByteArray} {v : Value} (h : Go.SX.VRel w Own (fun _ => none) (F.an (e, n, t)) v) : v = .agg #[.int .i64 e, .int .i64 n, .string t] := by
  obtain ⟨us, hu, hul, hus⟩ := h.agg_inv
  obtain ⟨e0, _⟩ := (hus 0 _ rfl).lit_inv
  obtain ⟨e1, _⟩ := (hus 1 _ rfl).lit_inv
  obtain ⟨e2, _⟩ := (hus 2 _ rfl).lit_inv
  rw [hu, Go.SX.arr3 (by simpa using hul.symm) e0 e1 e2]
theorem wr_res {w' : World} {Own' : Nat → Prop} {r1 r3 : Int} {r2 : List S42} {v1 : Value} (h : Go.SX.TRel w' Own' (.ro 4 (F.tls (r2.map tlOf))) v1) : Go.SX.VRel w' Own' (fun _ => none) (F.wr (r1, r2.map tlOf, r3)) (.tuple #[.agg #[.int .i64 r1, v1], .int .i64 r3]) := by
  refine .tree (.tup rfl (fun i x hx => ?_))
  match i, hx with
  | 0, hx =>
    injection hx with hx; subst hx
    refine .agg rfl (fun i x hx => ?_)
    match i, hx with
    | 0, hx => injection hx with hx; subst hx; exact .lit rfl
    | 1, hx => injection hx with hx; subst hx; exact h
    | (i + 2), hx => simp at hx
  | 1, hx => injection hx with hx; subst hx; exact .lit rfl
  | (i + 2), hx => simp at hx
theorem rput_does (low : Int) (l : List S42) (y e n : Int) (t : ByteArray) (hl : l.length ≤ 1000) : F.DoesT 13 [F.win low (l.map tlOf), Go.SX.iv y, F.an (e, n, t)] (F.wr ((putW low l y e n t).1, (putW low l y e n t).2.1.map tlOf, (putW low l y e n t).2.2)) := by
  obtain ⟨k, hk⟩ := ev_at (rput_is low l y e n t hl)
  rcases hr : putW low l y e n t with ⟨r1, r2, r3⟩
  refine Go.SX.Does.of_ret (by kernel_rfl) (fun w Own vs hlen hv => ?_)
  obtain ⟨A, c, e0, hc, hC⟩ := win_arg (hv 0 _ rfl) (by omega)
  obtain ⟨e1, _⟩ := (hv 1 _ rfl).lit_inv
  rw [Go.SX.arr3 (by simpa using hlen.symm) e0 e1 (an_arg (hv 2 _ rfl))]
  refine (colloquyref17_Put.calls k low A c l y e n t r1 r2 r3 w hC hc (by rw [hk, hr])).mono ?_
  rintro e w' ⟨v1, rfl, hQ, hb⟩
  exact ⟨_, rfl, hb, fun Own' ho => wr_res (by have := flat42.treeQ hQ ho; rwa [cells_tls] at this)⟩
theorem put_does (low : Int) (l : List S42) (y e n : Int) (t : ByteArray) (hl : l.length ≤ 999) : F.DoesT 12 [F.win low (l.map tlOf), Go.SX.iv y, F.an (e, n, t)] (F.wr ((putW low l y e n t).1, (putW low l y e n t).2.1.map tlOf, (putW low l y e n t).2.2)) := by
  have dL := lk_does low l y (by omega)
  have hF : (lookW low l y).2.2.2.2 = 0 → (lookW low l y).2.2.2.1 = false → F.DoesT 17 [.ro 4 (F.tls (l.map tlOf)), Go.SX.iv y] (.tup [Go.SX.iv ((F.cnt (ks l) y : Nat) : Int), Go.SX.bv (decide (y ∈ ks l))]) := fun h _ =>
    (find_does l y _ _ (find_f (look_ok h).1.up (by omega) y)).1
  have hp : (lookW low l y).2.2.2.2 = 0 → (lookW low l y).2.2.2.1 = false → F.cnt (ks l) y ≤ (l.map tlOf).length ∧ (l.map tlOf).length < 1000 := fun _ _ => by
    have : F.cnt (ks l) y ≤ (ks l).length := List.length_filter_le _ _
    simp [ks] at this ⊢; omega
  have hD := F.d12 low y (l.map tlOf) (e, n, t) _ _ _ _ _ (F.cnt (ks l) y) (decide (y ∈ ks l)) hp dL hF
  refine hD.tree _ (fun r m hpost A ρ' w' v hM hv => ?_)
  unfold F.PutPost at hpost
  have herr : ∀ er, r = F.noW er → putW low l y e n t = (0, [], er) → Go.SX.VRel w' (Go.SX.OwnBy A fun _ => none) (fun _ => none) (F.wr ((putW low l y e n t).1, (putW low l y e n t).2.1.map tlOf, (putW low l y e n t).2.2)) v := by
    rintro er rfl he
    rw [he]
    obtain ⟨us, rfl, hul, hus⟩ := hv.tup_inv
    obtain ⟨cs, hc, hcl, hcs⟩ := (hus 0 _ rfl).agg_inv
    obtain ⟨e1, _⟩ := (hus 1 _ rfl).lit_inv
    obtain ⟨g0, _⟩ := (hcs 0 _ rfl).lit_inv
    have h1 := Go.SX.arr2 (by simpa using hul.symm) hc e1
    have h2 : cs = #[.int .i64 0, cs.getD 1 undef] := Go.SX.arr2 (by simpa using hcl.symm) g0 rfl
    rw [h1, h2]
    exact wr_res (r2 := []) (Go.SX.nils_tree (hcs 1 _ rfl))
  by_cases h00 : (lookW low l y).2.2.2.2 ≠ 0
  · rw [if_pos h00] at hpost
    exact herr _ hpost.1 (by unfold putW; rw [if_pos h00])
  have h0 : (lookW low l y).2.2.2.2 = 0 := Classical.not_not.1 h00
  rw [if_neg h00] at hpost
  obtain ⟨hw, _, _, _, hi⟩ := look_ok h0
  by_cases h1 : (lookW low l y).2.2.2.1 = true
  · rw [if_pos h1] at hpost
    exact herr _ hpost.1 (by unfold putW; rw [if_neg (by simpa using h0), if_pos h1])
  rw [if_neg h1] at hpost
  have hy : y ∉ ks l := fun h => h1 (hi.2 h)
  obtain ⟨q, _, hm, hr⟩ := hpost
  have hL : (l.map tlOf).take (F.cnt (ks l) y) ++ [(y, (e, n, t))] ++ (l.map tlOf).drop (F.cnt (ks l) y) = (putL l y e n t).map tlOf := by
    obtain ⟨e1, e2⟩ := cnt_split hw.up y
    have e3 : l.filter (fun x => decide (y ≤ x.f0)) = l.filter (fun x => decide (y < x.f0)) := List.filter_congr (fun x hx => by
      have : x.f0 ≠ y := fun h => hy (List.mem_map.2 ⟨x, hx, h⟩)
      simp only [decide_eq_decide]; omega)
    rw [← List.map_take, ← List.map_drop, e1, e2, e3]
    simp [putL, tlOf]
  rw [hL] at hm hr
  have hlen := length_putL (e := e) (n := n) (t := t) hy
  have hshape : ∀ lw lo, r = .tup [.agg [Go.SX.iv lw, .own q 4 lo (l.length + 1 - lo)], Go.SX.iv 0] → lo ≤ 1 → Go.SX.VRel w' (Go.SX.OwnBy A fun _ => none) (fun _ => none) (F.wr (lw, ((putL l y e n t).drop lo).map tlOf, 0)) v := by
    rintro lw lo rfl hlo
    obtain ⟨us, rfl, hul, hus⟩ := hv.tup_inv
    obtain ⟨cs, hc, hcl, hcs⟩ := (hus 0 _ rfl).agg_inv
    obtain ⟨e1, _⟩ := (hus 1 _ rfl).lit_inv
    obtain ⟨g0, _⟩ := (hcs 0 _ rfl).lit_inv
    have h1 := Go.SX.arr2 (by simpa using hul.symm) hc e1
    have h2 : cs = #[.int .i64 lw, cs.getD 1 undef] := Go.SX.arr2 (by simpa using hcl.symm) g0 rfl
    rw [h1, h2]
    refine wr_res ?_
    have hlk : Go.SX.look m q = some (.arr 42 4 (F.tls ((putL l y e n t).map tlOf))) := by rw [hm]; simp [Go.SX.look]
    have := Go.SX.own_tree_from (by omega) hM hlk (hcs 1 _ rfl) (by simp [hlen]; omega)
    rwa [F.tls_drop, ← List.map_drop] at this
  unfold putW
  rw [if_neg (by simpa using h0), if_neg h1]
  by_cases h8 : l.length + 1 ≤ 8
  · rw [if_pos h8]
    rw [dif_pos (by simpa using h8)] at hr
    simpa using hshape low 0 (by simpa using hr) (by omega)
  · rw [if_neg h8]
    rw [dif_neg (by simpa using h8)] at hr
    refine hshape _ 1 ?_ (by omega)
    rw [hr]
    have : (((putL l y e n t).map tlOf).getD 0 (0, 0, 0, ⟨#[]⟩)).1 = ((putL l y e n t).getD 0 z42).f0 := by
      cases hq : putL l y e n t with
      | nil => rw [hq] at hlen; simp at hlen
      | cons a b => simp [tlOf]
    rw [this]; simp
theorem awake_does : F.DoesT 8 [] (Go.SX.bv true) := by
  obtain ⟨k, e⟩ := ev_at awake_is
  refine Go.SX.Does.of_plain (v := .bool true) (by kernel_rfl) (fun _ _ _ => .tree (.lit rfl)) (fun w Own vs hlen _ => ?_)
  have : vs = #[] := Array.eq_empty_of_size_eq_zero hlen.symm
  rw [this]
  refine (colloquylaw17_awake.calls k true w e).mono ?_
  rintro e w' ⟨rfl, hd⟩
  first | exact ⟨rfl, hd⟩ | exact ⟨rfl, hd.below⟩

/-- A parameter that is a row of numbers and answers, opened. -/
theorem open42 {H : Type} {enc : TypeId × Value → H} {w : World} {base : Nat} {spare : Nat → Bool} {held : Bool} {fuel : Nat} {v : Value} {y : DataW H × List MemPlace} (h : DataW.trod enc Try.prog w base spare held fuel 22 [v] = some y) :
    ∃ A c, ∃ l : List S42, v = .slice A l.length c ∧ l.length ≤ c ∧ Kd.C k42 w A l.length l := by
  have k3 : Try.prog.cellsOf 3 = 1 := by kernel_rfl
  have k25 : Try.prog.cellsOf 25 = 1 := by kernel_rfl
  have k9 : Try.prog.cellsOf 9 = 1 := by kernel_rfl
  have k27 : Try.prog.cellsOf 27 = 3 := by kernel_rfl
  obtain ⟨A, c, l, rfl, h1, h2, h3⟩ := Go.SX.rows_open (sz := 4) Try.underlying22 (by kernel_rfl) e42 (fun n cs y hy hl => by
    obtain ⟨y0, y1, n', _, _, h0, h1⟩ := Go.ChangeShapes.trod_struct2 Try.underlying42 hy
    match cs, hl with
    | [c0, c1, c2, c3], _ =>
      simp [k3] at h0
      simp [k27] at h1
      obtain ⟨z0, z1, z2, m, _, _, g0, g1, g2⟩ := Go.Deep.trod_struct3 Try.underlying27 h1
      simp [k25] at g0
      simp [k3] at g1
      simp [k9] at g2
      obtain ⟨a, ea, _⟩ := DataW.trod_int Try.underlying3 h0
      obtain ⟨b, eb, _⟩ := DataW.trod_int Try.underlying25 g0
      obtain ⟨d, ed, _⟩ := DataW.trod_int Try.underlying3 g1
      obtain ⟨s, es, _⟩ := DataW.trod_string Try.underlying9 g2
      injection ea with ea; injection eb with eb; injection ed with ed; injection es with es
      exact ⟨⟨a, ⟨b, d, s⟩⟩, by rw [ea, eb, ed, es]; rfl⟩) h
  refine ⟨A, c, l, rfl, h1, rfl, by simp [maxLen] at h2; omega, fun hn => ?_⟩
  obtain ⟨ad, rfl, hc⟩ := h3 hn
  exact ⟨ad, rfl, fun j p hj => ⟨e42 p, rfl, (flat42.K _ _ _).2 rfl, fun i u hu => hc j p hj i u hu⟩⟩

end Go.Proofs.Ytipmodlmmadfbaa.Pure
