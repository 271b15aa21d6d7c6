/- Chapter 15: what the printed functions come to, in plain words. -/
import Derived.Test.YtffeomfcjmmgoaaPPeopleChangex0
import Derived.Test.YtffeomfcjmmgoaaPPeopleChangex1
import Derived.Test.YtffeomfcjmmgoaaPPeopleChangex2
import Derived.Test.YtffeomfcjmmgoaaPPeopleChangex3
import Derived.Test.YtffeomfcjmmgoaaPPeopleChangex4
import Derived.Test.YtffeomfcjmmgoaaPPeopleChangex5
import Derived.Test.YtffeomfcjmmgoaaL6
namespace Go.Proofs.Ytffeomfcjmmgoaa.Pure
open Go Go.RowKit Go.Proofs.Ytffeomfcjmmgoaa.PPeopleChange Go.Proofs.YtffeomfcjmmgoaaW.PrintWords Go.Proofs.YtffeomfcjmmgoaaW.PrintLast

theorem wrap_in {x : Int} (h0 : -9223372036854775808 ≤ x) (h1 : x ≤ 9223372036854775807) : wrap64 x = x := by unfold wrap64; omega
theorem rd_at {l : List Int} {i : Nat} (h : i < l.length) : rd l (i : Int) = l[i] := by simp [rd, List.getD_eq_getElem?_getD, h]

/-- Numbers that rise. -/
def up : Int → List Int → Bool
  | _, [] => true
  | a, x :: r => decide (a < x) && decide (x ≤ 1048576) && up x r

theorem rises_ev (l : List Int) (hl : l.length ≤ 1000000000000) : ∀ (d i : Nat) (a : Int), i + d = l.length → Ev (fun k => people_rises.l0 k a l (l.length : Int) (i : Int)) (up a (l.drop i))
  | 0, i, a, h => by
    refine Ev.step (f := fun _ => some true) (fun k => ?_) ?_
    · simp only [people_rises.l0]; rw [if_neg (by omega)]
    · rw [List.drop_of_length_le (by omega)]; exact Ev.now true
  | d + 1, i, a, h => by
    have hi : i < l.length := by omega
    have hw : wrap64 ((i : Int) + 1) = ((i + 1 : Nat) : Int) := by rw [wrap_in (by omega) (by omega)]; omega
    have ih := rises_ev l hl d (i + 1) l[i] (by omega)
    rw [List.drop_eq_getElem_cons hi]
    by_cases h1 : l[i] ≤ a
    · refine Ev.step (f := fun _ => some false) (fun k => ?_) ?_
      · simp only [people_rises.l0]; rw [if_pos (by omega), if_pos (by omega), if_pos (by omega), rd_at hi, if_pos h1]
      · simp only [up, show ¬ a < l[i] from by omega, decide_false, Bool.false_and]; exact Ev.now false
    · by_cases h2 : l[i] > 1048576
      · refine Ev.step (f := fun _ => some false) (fun k => ?_) ?_
        · simp only [people_rises.l0]; rw [if_pos (by omega), if_pos (by omega), if_pos (by omega), rd_at hi, if_neg h1, if_pos h2]
        · simp only [up, show ¬ l[i] ≤ 1048576 from by omega, decide_false, Bool.and_false, Bool.false_and]; exact Ev.now false
      · refine Ev.step (f := fun k => people_rises.l0 k l[i] l (l.length : Int) ((i + 1 : Nat) : Int)) (fun k => ?_) ?_
        · simp only [people_rises.l0]; rw [if_pos (by omega), if_pos (by omega), if_pos (by omega), rd_at hi, if_neg h1, if_neg h2, hw]
        · simp only [up, show a < l[i] from by omega, show l[i] ≤ 1048576 from by omega, decide_true, Bool.and_self, Bool.true_and]; exact ih

theorem rises_is (l : List Int) (hl : l.length ≤ 1000000000000) : Ev (fun k => people_rises.f k l) (up 0 l) := by
  have := rises_ev l hl l.length 0 0 (by omega)
  simpa [people_rises.f] using this

theorem index_ev (l : List Int) (u : Int) (hl : l.length ≤ 1000000000000) : ∀ (d i : Nat), i + d = l.length → ∃ r, Ev (fun k => slices_Index_int_int.l0 k l u (l.length : Int) (i : Int)) r ∧ (0 ≤ r ↔ u ∈ l.drop i)
  | 0, i, h => by
    refine ⟨-1, Ev.step (f := fun _ => some (-1)) (fun k => ?_) (Ev.now _), ?_⟩
    · simp only [slices_Index_int_int.l0]; rw [if_neg (by omega)]
    · rw [List.drop_of_length_le (by omega)]; simp
  | d + 1, i, h => by
    have hi : i < l.length := by omega
    have hw : wrap64 ((i : Int) + 1) = ((i + 1 : Nat) : Int) := by rw [wrap_in (by omega) (by omega)]; omega
    obtain ⟨r, hr, hm⟩ := index_ev l u hl d (i + 1) (by omega)
    rw [List.drop_eq_getElem_cons hi]
    by_cases h1 : u = l[i]
    · refine ⟨i, Ev.step (f := fun _ => some (i : Int)) (fun k => ?_) (Ev.now _), ?_⟩
      · simp only [slices_Index_int_int.l0]; rw [if_pos (by omega), if_pos (by omega), if_pos (by omega), rd_at hi, if_pos h1]
      · exact ⟨fun _ => by rw [h1]; exact List.mem_cons_self, fun _ => by omega⟩
    · refine ⟨r, Ev.step (f := fun k => slices_Index_int_int.l0 k l u (l.length : Int) ((i + 1 : Nat) : Int)) (fun k => ?_) hr, ?_⟩
      · simp only [slices_Index_int_int.l0]; rw [if_pos (by omega), if_pos (by omega), if_pos (by omega), rd_at hi, if_neg h1, hw]
      · rw [hm, List.mem_cons]; exact ⟨.inr, fun h => h.resolve_left h1⟩

theorem contains_is (l : List Int) (u : Int) (hl : l.length ≤ 1000000000000) : Ev (fun k => slices_Contains_int_int.f k l u) (decide (u ∈ l)) := by
  obtain ⟨r, hr, hm⟩ := index_ev l u hl l.length 0 (by omega)
  have hr' : Ev (fun k => slices_Index_int_int.f k l u) r := by simpa [slices_Index_int_int.f] using hr
  unfold slices_Contains_int_int.f
  refine Ev.bind hr' ?_
  have : decide (r ≥ 0) = decide (u ∈ l) := by
    have : (r ≥ 0) ↔ u ∈ l := by simpa using hm
    simp [this]
  rw [this]; exact Ev.now _

def mayB (a b : Int) (l : List Int) : Bool := decide (1 ≤ a) && decide (a ≤ 1048576) && decide (1 ≤ l.length) && decide (l.length ≤ 16) && up 0 l && decide (b ∈ l)

theorem may_is (a b : Int) (l : List Int) (hl : l.length ≤ 1000000000000) : Ev (fun k => people_May.f k a b l) (mayB a b l) := by
  have hj1 : Ev (fun k => people_May.j1 k false a b l) (up 0 l && decide (b ∈ l)) := by
    refine Ev.step (f := fun k => (people_rises.f k l).bind fun t105 => (if t105 = true then ((slices_Contains_int_int.f k l b).bind fun t106 => (some t106)) else (some false))) (fun k => by simp only [people_May.j1]; rw [if_neg (by simp)]) ?_
    refine Ev.bind (rises_is l hl) ?_
    cases up 0 l
    · exact Ev.congr (fun k => if_neg (by decide)) (Ev.now _)
    · rw [Bool.true_and]; exact Ev.congr (fun k => if_pos rfl) (Ev.bind (contains_is l b hl) (Ev.now _))
  have hj1t : Ev (fun k => people_May.j1 k true a b l) false := Ev.step (f := fun _ => some false) (fun k => by simp only [people_May.j1, if_true]) (Ev.now _)
  have hj0 : Ev (fun k => people_May.j0 k (l.length : Int) false a b l) (decide (1 ≤ l.length) && decide (l.length ≤ 16) && up 0 l && decide (b ∈ l)) := by
    by_cases h1 : l.length < 1
    · refine Ev.step (f := fun k => people_May.j1 k true a b l) (fun k => by simp only [people_May.j0]; rw [if_neg (by simp), if_pos (by omega)]) ?_
      simp only [show ¬ 1 ≤ l.length from by omega, decide_false, Bool.false_and]; exact hj1t
    · by_cases h2 : 16 < l.length
      · refine Ev.step (f := fun k => people_May.j1 k true a b l) (fun k => by simp only [people_May.j0]; rw [if_neg (by simp), if_neg (by omega), decide_eq_true (by omega)]) ?_
        simp only [show ¬ l.length ≤ 16 from by omega, decide_false, Bool.and_false, Bool.false_and]; exact hj1t
      · refine Ev.step (f := fun k => people_May.j1 k false a b l) (fun k => by simp only [people_May.j0]; rw [if_neg (by simp), if_neg (by omega), decide_eq_false (by omega)]) ?_
        simp only [show 1 ≤ l.length from by omega, show l.length ≤ 16 from by omega, decide_true, Bool.true_and, Bool.and_self]; exact hj1
  have hj0t : Ev (fun k => people_May.j0 k (l.length : Int) true a b l) false := Ev.step (f := fun k => people_May.j1 k true a b l) (fun k => by simp only [people_May.j0, if_true]) hj1t
  unfold people_May.f mayB
  by_cases h1 : a < 1
  · simp only [h1, if_true, show ¬ 1 ≤ a from by omega, decide_false, Bool.false_and]; exact hj0t
  · by_cases h2 : 1048576 < a
    · simp only [h1, if_false, show ¬ a ≤ 1048576 from by omega, show a > 1048576 from h2, decide_true, decide_false, Bool.and_false, Bool.false_and]; exact hj0t
    · simp only [h1, if_false, show 1 ≤ a from by omega, show a ≤ 1048576 from by omega, show ¬ a > 1048576 from h2, decide_true, decide_false, Bool.true_and]; exact hj0

theorem up_mem : ∀ {l : List Int} {a : Int}, up a l = true → ∀ x ∈ l, a < x ∧ x ≤ 1048576
  | [], _, _, x, h => by simp at h
  | y :: r, a, hu, x, h => by
    simp only [up, Bool.and_eq_true, decide_eq_true_eq] at hu
    rcases List.mem_cons.1 h with rfl | h
    · exact hu.1
    · have := up_mem hu.2 x h; omega

theorem up_nth : ∀ {l : List Int} {a : Int}, up a l = true → ∀ (i j : Nat) (hi : i < l.length) (hj : j < l.length), i < j → l[i] < l[j]
  | [], _, _, i, j, hi, _, _ => by simp at hi
  | y :: r, a, hu, i, j, hi, hj, hij => by
    simp only [up, Bool.and_eq_true, decide_eq_true_eq] at hu
    cases j with
    | zero => omega
    | succ j =>
      simp only [List.length_cons] at hi hj
      cases i with
      | zero => simp; exact (up_mem hu.2 _ (List.getElem_mem _)).1
      | succ i => simp; exact up_nth hu.2 i j (by omega) (by omega) (by omega)

/-- Where a number is, or would be. -/
theorem search_ev (l : List Int) (u : Int) (hl : l.length ≤ 1000000000000) : ∀ (d i j : Nat), i ≤ j → j ≤ l.length → j - i = d → ∃ p : Nat, ∃ f : Bool, i ≤ p ∧ p ≤ j ∧ Ev (fun k => slices_BinarySearch_int_int.l0 k l u (l.length : Int) (i : Int) (j : Int)) ((p : Int), f) ∧ (f = true ↔ ∃ h : p < l.length, l[p] = u) ∧
    (up 0 l = true → (∀ q (h : q < l.length), q < i → l[q] < u) → (∀ q (h : q < l.length), j ≤ q → u ≤ l[q]) → (∀ q (h : q < l.length), q < p → l[q] < u) ∧ (∀ q (h : q < l.length), p ≤ q → u ≤ l[q])) := by
  intro d
  induction d using Nat.strongRecOn with
  | _ d ih =>
  intro i j hij hj hd
  by_cases hlt : i < j
  · have hmul : wrap64 ((i : Int) + (j : Int)) = ((i + j : Nat) : Int) := by rw [wrap_in (by omega) (by omega)]; omega
    have hu64 : IntKind.u64.wrap ((i + j : Nat) : Int) = ((i + j : Nat) : Int) := IntWalk.u64_in _ ⟨by omega, by omega⟩
    obtain ⟨m, hmm⟩ : ∃ m : Nat, m = (i + j) / 2 := ⟨_, rfl⟩
    have hh : wrap64 (IntKind.u64.wrap (wrap64 ((i : Int) + (j : Int))) / 2) = (m : Int) := by rw [hmul, hu64, wrap_in (by omega) (by omega)]; omega
    have hm1 : i ≤ m := by omega
    have hm2 : m < j := by omega
    clear hmul hu64 hmm
    have hw : wrap64 ((m : Int) + 1) = ((m + 1 : Nat) : Int) := by rw [wrap_in (by omega) (by omega)]; omega
    have hml : m < l.length := by omega
    have hless : cmp_Less_int.f l[m] u = some (decide (l[m] < u)) := by simp [cmp_Less_int.f, cmp_isNaN_int.f]
    have hij' : (i : Int) < (j : Int) := by omega
    by_cases hc : l[m] < u
    · obtain ⟨p, f, h1, h2, h3, h4, h5⟩ := ih (j - (m + 1)) (by omega) (m + 1) j (by omega) hj rfl
      refine ⟨p, f, by omega, h2, Ev.step (f := fun k => slices_BinarySearch_int_int.l0 k l u (l.length : Int) ((m + 1 : Nat) : Int) (j : Int)) (fun k => ?_) h3, h4, fun hu ha hb => h5 hu (fun q hq hqm => ?_) hb⟩
      · simp only [slices_BinarySearch_int_int.l0]
        rw [if_pos hij', hh, if_pos (by omega), if_pos (by omega), rd_at hml, hless]
        simp only [Option.bind_some, hc, decide_true, if_true, hw]
      · rcases Nat.lt_or_ge q m with h | h
        · have := up_nth hu q m hq hml h; omega
        · have : q = m := by omega
          subst this; exact hc
    · obtain ⟨p, f, h1, h2, h3, h4, h5⟩ := ih (m - i) (by omega) i m (by omega) (by omega) rfl
      refine ⟨p, f, h1, by omega, Ev.step (f := fun k => slices_BinarySearch_int_int.l0 k l u (l.length : Int) (i : Int) (m : Int)) (fun k => ?_) h3, h4, fun hu ha hb => h5 hu ha (fun q hq hqm => ?_)⟩
      · simp only [slices_BinarySearch_int_int.l0]
        rw [if_pos hij', hh, if_pos (by omega), if_pos (by omega), rd_at hml, hless]
        simp only [Option.bind_some, hc, decide_false, Bool.false_eq_true, if_false]
      · rcases Nat.lt_or_ge m q with h | h
        · have := up_nth hu m q hml hq h; omega
        · have : q = m := by omega
          subst this; omega
  · have : i = j := by omega
    subst this
    by_cases hil : i < l.length
    · by_cases he : l[i] = u
      · refine ⟨i, true, Nat.le_refl _, Nat.le_refl _, Ev.step (f := fun _ => some ((i : Int), true)) (fun k => ?_) (Ev.now _), by simp [hil, he], fun _ ha hb => ⟨ha, hb⟩⟩
        simp only [slices_BinarySearch_int_int.l0]; rw [if_neg (by omega), if_pos (by omega), if_pos (by omega), if_pos (by omega), rd_at hil, if_pos he]
      · refine ⟨i, false, Nat.le_refl _, Nat.le_refl _, Ev.step (f := fun _ => some ((i : Int), false)) (fun k => ?_) (Ev.now _), by simp [he], fun _ ha hb => ⟨ha, hb⟩⟩
        simp only [slices_BinarySearch_int_int.l0]; rw [if_neg (by omega), if_pos (by omega), if_pos (by omega), if_pos (by omega), rd_at hil, if_neg he]
        simp [slices_isNaN_int.f]
    · refine ⟨i, false, Nat.le_refl _, Nat.le_refl _, Ev.step (f := fun _ => some ((i : Int), false)) (fun k => ?_) (Ev.now _), by simp [hil], fun _ ha hb => ⟨ha, hb⟩⟩
      simp only [slices_BinarySearch_int_int.l0]; rw [if_neg (by omega), if_neg (by omega)]

theorem search_is (l : List Int) (u : Int) (hl : l.length ≤ 1000000000000) : ∃ p : Nat, ∃ f : Bool, p ≤ l.length ∧ Ev (fun k => slices_BinarySearch_int_int.f k l u) ((p : Int), f) ∧ (f = true ↔ ∃ h : p < l.length, l[p] = u) ∧ (up 0 l = true → (∀ q (h : q < l.length), q < p → l[q] < u) ∧ (∀ q (h : q < l.length), p ≤ q → u ≤ l[q])) := by
  obtain ⟨p, f, h1, h2, h3, h4, h5⟩ := search_ev l u hl l.length 0 l.length (by omega) (Nat.le_refl _) rfl
  exact ⟨p, f, h2, by simpa [slices_BinarySearch_int_int.f] using h3, h4, fun hu => h5 hu (fun q _ h => by omega) (fun q h h' => by omega)⟩

theorem up_iff : ∀ {l : List Int} {a : Int}, up a l = true ↔ (a :: l).Pairwise (· < ·) ∧ ∀ x ∈ l, x ≤ 1048576
  | [], a => by simp [up]
  | y :: r, a => by
    simp only [up, Bool.and_eq_true, decide_eq_true_eq, up_iff (l := r) (a := y)]
    constructor
    · rintro ⟨⟨h1, h2⟩, h3, h4⟩
      refine ⟨List.pairwise_cons.2 ⟨fun x hx => ?_, h3⟩, fun x hx => ?_⟩
      · rcases List.mem_cons.1 hx with rfl | hx
        · exact h1
        · have := (List.pairwise_cons.1 h3).1 x hx; omega
      · rcases List.mem_cons.1 hx with rfl | hx
        · exact h2
        · exact h4 x hx
    · rintro ⟨h1, h2⟩
      obtain ⟨h3, h4⟩ := List.pairwise_cons.1 h1
      exact ⟨⟨h3 y List.mem_cons_self, h2 y List.mem_cons_self⟩, h4, fun x hx => h2 x (List.mem_cons_of_mem _ hx)⟩

/-- A number more, a number less. -/
def ins (l : List Int) (u : Int) : List Int := l.filter (fun x => decide (x < u)) ++ u :: l.filter (fun x => decide (u < x))
def del (l : List Int) (u : Int) : List Int := l.filter (fun x => decide (x ≠ u))

theorem mem_take' {l : List Int} {p : Nat} {x : Int} (h : x ∈ l.take p) : ∃ q, ∃ hq : q < l.length, q < p ∧ l[q] = x := by
  obtain ⟨q, hq, rfl⟩ := List.mem_iff_getElem.1 h
  have h2 : q < min p l.length := by simpa using hq
  exact ⟨q, by omega, by omega, by simp⟩
theorem mem_drop' {l : List Int} {p : Nat} {x : Int} (h : x ∈ l.drop p) : ∃ q, ∃ hq : q < l.length, p ≤ q ∧ l[q] = x := by
  obtain ⟨q, hq, rfl⟩ := List.mem_iff_getElem.1 h
  have h2 : q < l.length - p := by simpa using hq
  exact ⟨p + q, by omega, by omega, by simp⟩

theorem filter_split {l : List Int} {p : Nat} {P : Int → Bool} (h1 : ∀ x ∈ l.take p, P x = true) (h2 : ∀ x ∈ l.drop p, P x = false) : l.filter P = l.take p := by
  conv => lhs; rw [← List.take_append_drop p l]
  rw [List.filter_append, List.filter_eq_self.2 h1, List.filter_eq_nil_iff.2 (fun x hx => by simp [h2 x hx]), List.append_nil]
theorem filter_split' {l : List Int} {p : Nat} {P : Int → Bool} (h1 : ∀ x ∈ l.take p, P x = false) (h2 : ∀ x ∈ l.drop p, P x = true) : l.filter P = l.drop p := by
  conv => lhs; rw [← List.take_append_drop p l]
  rw [List.filter_append, List.filter_eq_self.2 h2, List.filter_eq_nil_iff.2 (fun x hx => by simp [h1 x hx]), List.nil_append]

theorem ins_eq {l : List Int} {u : Int} {p : Nat} (h1 : ∀ q (h : q < l.length), q < p → l[q] < u) (h2 : ∀ q (h : q < l.length), p ≤ q → u < l[q]) : ins l u = l.take p ++ [u] ++ l.drop p := by
  have a1 : ∀ x ∈ l.take p, x < u := fun x hx => by obtain ⟨q, hq, hqp, rfl⟩ := mem_take' hx; exact h1 q hq hqp
  have a2 : ∀ x ∈ l.drop p, u < x := fun x hx => by obtain ⟨q, hq, hqp, rfl⟩ := mem_drop' hx; exact h2 q hq hqp
  unfold ins
  rw [filter_split (p := p) (fun x hx => by simpa using a1 x hx) (fun x hx => by have := a2 x hx; simp; omega), filter_split' (p := p) (fun x hx => by have := a1 x hx; simp; omega) (fun x hx => by simpa using a2 x hx)]
  simp

theorem del_eq {l : List Int} {u : Int} {p : Nat} (hp : p < l.length) (h1 : ∀ q (h : q < l.length), q < p → l[q] < u) (he : l[p] = u) (h2 : ∀ q (h : q < l.length), p < q → u < l[q]) : del l u = l.take p ++ l.drop (p + 1) := by
  have a1 : ∀ x ∈ l.take p, x < u := fun x hx => by obtain ⟨q, hq, hqp, rfl⟩ := mem_take' hx; exact h1 q hq hqp
  have a2 : ∀ x ∈ l.drop (p + 1), u < x := fun x hx => by obtain ⟨q, hq, hqp, rfl⟩ := mem_drop' hx; exact h2 q hq (by omega)
  have hs : l = l.take p ++ l[p] :: l.drop (p + 1) := by rw [← List.drop_eq_getElem_cons hp, List.take_append_drop]
  unfold del
  conv => lhs; rw [hs]
  rw [List.filter_append, List.filter_eq_self.2 (fun x hx => by have := a1 x hx; simp; omega), List.filter_cons_of_neg (by simp [he]), List.filter_eq_self.2 (fun x hx => by have := a2 x hx; simp; omega)]

theorem ins_length {l : List Int} {u : Int} (hu : u ∉ l) : (ins l u).length = l.length + 1 := by
  have : l.length = (l.filter (fun x => decide (x < u))).length + (l.filter (fun x => decide (u < x))).length := by
    induction l with
    | nil => rfl
    | cons y r ih =>
      simp only [List.mem_cons, not_or] at hu
      have := ih hu.2
      by_cases h : y < u
      · rw [List.filter_cons_of_pos (by simpa using h), List.filter_cons_of_neg (by simp; omega)]; simp; omega
      · rw [List.filter_cons_of_neg (by simpa using h), List.filter_cons_of_pos (by simp; omega)]; simp; omega
  simp [ins]; omega
theorem mem_ins {l : List Int} {u x : Int} : x ∈ ins l u ↔ x = u ∨ x ∈ l := by
  simp only [ins, List.mem_append, List.mem_filter, List.mem_cons, decide_eq_true_eq]
  constructor
  · rintro (h | rfl | h)
    · exact .inr h.1
    · exact .inl rfl
    · exact .inr h.1
  · rintro (rfl | h)
    · exact .inr (.inl rfl)
    · by_cases h1 : x < u
      · exact .inl ⟨h, h1⟩
      · by_cases h2 : u < x
        · exact .inr (.inr ⟨h, h2⟩)
        · exact .inr (.inl (by omega))
theorem mem_del {l : List Int} {u x : Int} : x ∈ del l u ↔ x ∈ l ∧ x ≠ u := by simp [del]
theorem up_ins {l : List Int} {u : Int} (h : up 0 l = true) (h0 : 0 < u) (h1 : u ≤ 1048576) : up 0 (ins l u) = true := by
  obtain ⟨h2, h3⟩ := up_iff.1 h
  obtain ⟨h4, h5⟩ := List.pairwise_cons.1 h2
  refine up_iff.2 ⟨List.pairwise_cons.2 ⟨fun x hx => ?_, ?_⟩, fun x hx => ?_⟩
  · rcases mem_ins.1 hx with rfl | hx
    · exact h0
    · exact h4 x hx
  · refine List.pairwise_append.2 ⟨h5.filter _, List.pairwise_cons.2 ⟨fun x hx => by simpa using (List.mem_filter.1 hx).2, h5.filter _⟩, fun x hx y hy => ?_⟩
    have hxu : x < u := by simpa using (List.mem_filter.1 hx).2
    rcases List.mem_cons.1 hy with rfl | hy
    · exact hxu
    · have : u < y := by simpa using (List.mem_filter.1 hy).2
      omega
  · rcases mem_ins.1 hx with rfl | hx
    · exact h1
    · exact h3 x hx
theorem up_del {l : List Int} {u : Int} (h : up 0 l = true) : up 0 (del l u) = true := by
  obtain ⟨h2, h3⟩ := up_iff.1 h
  obtain ⟨h4, h5⟩ := List.pairwise_cons.1 h2
  exact up_iff.2 ⟨List.pairwise_cons.2 ⟨fun x hx => h4 x (mem_del.1 hx).1, h5.filter _⟩, fun x hx => h3 x (mem_del.1 hx).1⟩
theorem del_length {l : List Int} {u : Int} (h : up 0 l = true) (hu : u ∈ l) : (del l u).length + 1 = l.length := by
  obtain ⟨p, hp, he⟩ := List.mem_iff_getElem.1 hu
  rw [del_eq hp (fun q hq hqp => by rw [← he]; exact up_nth h q p hq hp hqp) he (fun q hq hqp => by rw [← he]; exact up_nth h p q hp hq hqp)]
  simp; omega

def joinS (a b : Int) (l : List Int) (u : Int) : Int × Int × List Int × Int :=
  if mayB a b l = false ∨ up 0 [u] = false then (0, 0, [], 1) else if u ∈ l then (0, 0, [], 6) else if 16 ≤ l.length then (0, 0, [], 7) else (a, b, ins l u, 0)
def leaveS (a b : Int) (l : List Int) (u : Int) : Int × Int × List Int × Int :=
  if mayB a b l = false then (0, 0, [], 1) else if u ∉ l then (0, 0, [], 5) else if b = u then (0, 0, [], 8) else (a, b, del l u, 0)
def openS (a u : Int) : Int × Int × List Int × Int := if mayB a u [u] = true then (a, u, [u], 0) else (0, 0, [], 1)
def inS (a b : Int) (l : List Int) (u : Int) : Bool := mayB a b l && decide (u ∈ l)

theorem may_up {a b : Int} {l : List Int} (h : mayB a b l = true) : 1 ≤ a ∧ a ≤ 1048576 ∧ 1 ≤ l.length ∧ l.length ≤ 16 ∧ up 0 l = true ∧ b ∈ l := by
  simpa [mayB, and_assoc] using h
theorem may_mk {a b : Int} {l : List Int} (h : 1 ≤ a ∧ a ≤ 1048576 ∧ 1 ≤ l.length ∧ l.length ≤ 16 ∧ up 0 l = true ∧ b ∈ l) : mayB a b l = true := by
  simpa [mayB, and_assoc] using h

theorem join_is (a b : Int) (l : List Int) (u : Int) (hl : l.length ≤ 1000000) : Ev (fun k => people_Join.f k a b l u) (joinS a b l u) := by
  obtain ⟨p, f, hp, hs, hf, hsp⟩ := search_is l u (by omega)
  unfold people_Join.f joinS
  refine Ev.bind hs (Ev.bind (may_is a b l (by omega)) ?_)
  cases hm : mayB a b l
  · simp only [if_true, true_or]; exact Ev.now _
  simp only [Bool.true_eq_false, if_false, false_or]
  refine Ev.bind (rises_is [u] (by simp)) ?_
  cases hr : up 0 [u]
  · simp only [if_true]; exact Ev.now _
  simp only [Bool.true_eq_false, if_false]
  obtain ⟨_, _, h1, h2, hup, _⟩ := may_up hm
  obtain ⟨hs1, hs2⟩ := hsp hup
  have hfm : f = true ↔ u ∈ l := by
    rw [hf]
    constructor
    · rintro ⟨h, rfl⟩; exact List.getElem_mem _
    · intro hu
      obtain ⟨q, hq, he⟩ := List.mem_iff_getElem.1 hu
      have hqp : p ≤ q := by rcases Nat.lt_or_ge q p with h | h; have := hs1 q hq h; omega; exact h
      have hpl : p < l.length := by omega
      refine ⟨hpl, ?_⟩
      have := hs2 p hpl (Nat.le_refl _)
      rcases Nat.lt_or_ge p q with h | h
      · have := up_nth hup p q hpl hq h; omega
      · have : p = q := by omega
        subst this; exact he
  by_cases hu : u ∈ l
  · rw [if_pos hu]; simp only [hfm.2 hu, if_true]; exact Ev.now _
  rw [if_neg hu]
  have hff : f = false := by cases f; rfl; exact absurd (hfm.1 rfl) hu
  subst hff
  simp only [Bool.false_eq_true, if_false]
  by_cases h16 : 16 ≤ l.length
  · simp only [h16, if_true]; exact Ev.now _
  simp only [h16, if_false]
  rw [if_pos ⟨by omega, by omega, by rintro rfl; simp at h1⟩, ins_eq (p := p) hs1 (fun q hq hqp => by
    have := hs2 q hq hqp
    have hne : l[q] ≠ u := fun h => hu (h ▸ List.getElem_mem _)
    omega)]
  exact Ev.now _

theorem leave_is (a b : Int) (l : List Int) (u : Int) (hl : l.length ≤ 1000000) : Ev (fun k => people_Leave.f k a b l u) (leaveS a b l u) := by
  obtain ⟨p, f, hp, hs, hf, hsp⟩ := search_is l u (by omega)
  unfold people_Leave.f leaveS
  refine Ev.bind hs (Ev.bind (may_is a b l (by omega)) ?_)
  cases hm : mayB a b l
  · simp only [if_true]; exact Ev.now _
  simp only [Bool.true_eq_false, if_false]
  obtain ⟨_, _, h1, h2, hup, _⟩ := may_up hm
  obtain ⟨hs1, hs2⟩ := hsp hup
  by_cases hu : u ∈ l
  · obtain ⟨q, hq, he⟩ := List.mem_iff_getElem.1 hu
    have hqp : p ≤ q := by rcases Nat.lt_or_ge q p with h | h; have := hs1 q hq h; omega; exact h
    have hpl : p < l.length := by omega
    have hpu : l[p] = u := by
      have := hs2 p hpl (Nat.le_refl _)
      rcases Nat.lt_or_ge p q with h | h
      · have := up_nth hup p q hpl hq h; omega
      · have : p = q := by omega
        subst this; exact he
    have hft : f = true := hf.2 ⟨hpl, hpu⟩
    subst hft
    simp only [hu, not_true, Bool.true_eq_false, if_false]
    by_cases hb : b = u
    · simp only [hb, if_true]; exact Ev.now _
    simp only [hb, if_false]
    rw [if_pos ⟨by omega, by omega, by omega⟩, del_eq hpl hs1 hpu (fun q hq hqp => by have := up_nth hup p q hpl hq hqp; omega)]
    exact Ev.now _
  · have hff : f = false := by
      cases f
      · rfl
      · obtain ⟨h, he⟩ := hf.1 rfl; exact absurd (he ▸ List.getElem_mem _) hu
    subst hff
    simp only [hu, not_false_eq_true, if_true]; exact Ev.now _

theorem open_is (a u : Int) : Ev (fun k => people_Open.f k a u) (openS a u) := by
  unfold people_Open.f openS
  simp only [Option.bind_some]
  refine Ev.bind (may_is a u [u] (by simp)) ?_
  cases mayB a u [u]
  · exact Ev.congr (fun k => if_neg (by decide)) (Ev.now _)
  · exact Ev.congr (fun k => if_pos rfl) (Ev.now _)

theorem in_is (a b : Int) (l : List Int) (u : Int) (hl : l.length ≤ 1000000) : Ev (fun k => people_In.f k a b l u) (inS a b l u) := by
  unfold people_In.f inS
  refine Ev.bind (may_is a b l (by omega)) ?_
  cases mayB a b l
  · exact Ev.congr (fun k => if_neg (by decide)) (Ev.now _)
  · rw [Bool.true_and]; exact Ev.congr (fun k => if_pos rfl) (Ev.bind (contains_is l u (by omega)) (Ev.now _))

/-- A channel that may be stays one. -/
theorem join_may {a b : Int} {l : List Int} {u : Int} (h : (joinS a b l u).2.2.2 = 0) : joinS a b l u = (a, b, ins l u, 0) ∧ mayB a b (ins l u) = true ∧ mayB a b l = true ∧ u ∉ l := by
  unfold joinS at h ⊢
  split at h
  · simp at h
  rename_i h1
  rw [not_or] at h1
  split at h
  · simp at h
  rename_i h2
  split at h
  · simp at h
  rename_i h3
  have hm : mayB a b l = true := by cases hq : mayB a b l; exact absurd hq h1.1; rfl
  have hr : up 0 [u] = true := by cases hq : up 0 [u]; exact absurd hq h1.2; rfl
  obtain ⟨m1, m2, m3, m4, m5, m6⟩ := may_up hm
  have hu := up_mem hr u (by simp)
  rw [if_neg (by rw [not_or]; exact h1), if_neg h2, if_neg h3]
  exact ⟨rfl, may_mk ⟨m1, m2, by rw [ins_length h2]; omega, by rw [ins_length h2]; omega, up_ins m5 hu.1 hu.2, mem_ins.2 (.inr m6)⟩, hm, h2⟩

theorem leave_may {a b : Int} {l : List Int} {u : Int} (h : (leaveS a b l u).2.2.2 = 0) : leaveS a b l u = (a, b, del l u, 0) ∧ mayB a b (del l u) = true ∧ mayB a b l = true ∧ u ∈ l ∧ b ≠ u := by
  unfold leaveS at h ⊢
  split at h
  · simp at h
  rename_i h1
  split at h
  · simp at h
  rename_i h2
  split at h
  · simp at h
  rename_i h3
  have hm : mayB a b l = true := by cases hq : mayB a b l; exact absurd hq h1; rfl
  have hu : u ∈ l := by simpa using h2
  obtain ⟨m1, m2, m3, m4, m5, m6⟩ := may_up hm
  have hd := del_length m5 hu
  rw [if_neg h1, if_neg h2, if_neg h3]
  have hb : b ∈ del l u := mem_del.2 ⟨m6, h3⟩
  have hpos : 1 ≤ (del l u).length := by have := List.length_pos_of_mem hb; omega
  exact ⟨rfl, may_mk ⟨m1, m2, hpos, by omega, up_del m5, hb⟩, hm, hu, h3⟩

/-- The print's contracts as ours, told by what they come to. -/
theorem ev_at {α : Type} {g : Nat → Option α} {r : α} (h : Ev g r) : ∃ k, g k = some r := h.rounds

theorem ch_arg {w : World} {Own : Nat → Prop} {a b : Int} {l : List Int} {v : Value} (h : Go.SX.VRel w Own (fun _ => none) (F.chA a b l) v) (hm : l.length ≤ 9223372036854775807) : ∃ A c, v = .agg #[.int .i64 a, .int .i64 b, .slice A l.length c] ∧ l.length ≤ c ∧ Kd.C (Kd.int .i64) w A l.length l := by
  obtain ⟨us, hu, hul, hus⟩ := h.agg_inv
  obtain ⟨e0, _⟩ := (hus 0 _ rfl).lit_inv
  obtain ⟨e1, _⟩ := (hus 1 _ rfl).lit_inv
  obtain ⟨A, c, e2, hc, hC⟩ := (Go.SX.Flat.int .i64).reads (l := l) ((hus 2 _ rfl).toTree rfl) hm
  exact ⟨A, c, by rw [hu, Go.SX.arr3 (by simpa using hul.symm) e0 e1 e2], hc, hC⟩

theorem ch_res {w w' : World} {r1 r2 r4 : Int} {r3 : List Int} {v2 : Value} (hR : Kd.R (Kd.int .i64) 3 w' w.heap.size (fun _ => True) v2 r3) (Own' : Nat → Prop) (ho : ∀ k, Own' k → k < w.heap.size) : Go.SX.VRel w' Own' (fun _ => none) (F.chR (r1, r2, r3, r4)) (.tuple #[.agg #[.int .i64 r1, .int .i64 r2, v2], .int .i64 r4]) := by
  refine .tree (.tup rfl (fun i x hx => ?_))
  match i, hx with
  | 0, hx =>
    injection hx with hx; subst hx
    refine .agg rfl (fun i x hx => ?_)
    match i, hx with
    | 0, hx => injection hx with hx; subst hx; exact .lit rfl
    | 1, hx => injection hx with hx; subst hx; exact .lit rfl
    | 2, hx => injection hx with hx; subst hx; exact (Go.SX.Flat.int .i64).treeR hR ho
    | (i + 3), hx => simp at hx
  | 1, hx => injection hx with hx; subst hx; exact .lit rfl
  | (i + 2), hx => simp at hx

theorem arg_int {w : World} {Own : Nat → Prop} {u : Int} {v : Value} (h : Go.SX.VRel w Own (fun _ => none) (Go.SX.iv u) v) : v = .int .i64 u := h.lit_inv.1

theorem awake_does : F.DoesT 8 [] (Go.SX.bv true) :=
  Go.SX.Does.of_plain (v := .bool true) (by kernel_rfl) (fun _ _ _ => .tree (.lit rfl)) (fun w Own vs hlen _ => by
    have : vs = #[] := Array.eq_empty_of_size_eq_zero hlen.symm
    rw [this]
    exact colloquylaw15_Awake.calls true w rfl)

theorem join_does (a b u : Int) (l : List Int) (hl : l.length ≤ 1000000) : F.DoesT 9 [F.chA a b l, Go.SX.iv u] (F.chR (joinS a b l u)) := by
  obtain ⟨p, f, hp, hs, hf, hsp⟩ := search_is l u (by omega)
  obtain ⟨k1, e1⟩ := ev_at hs
  obtain ⟨k2, e2⟩ := ev_at (may_is a b l (by omega))
  obtain ⟨k3, e3⟩ := ev_at (rises_is [u] (by simp))
  obtain ⟨kj, ej⟩ := ev_at (join_is a b l u hl)
  have hat : mayB a b l = true → up 0 [u] = true → f = false → l.length < 16 → (0 : Int) ≤ (p : Int) ∧ (p : Int) ≤ l.length ∧ l ≠ [] := fun hm _ _ _ => ⟨by omega, by omega, by rintro rfl; have := (may_up hm).2.2.1; simp at this⟩
  have hD := F.d9 a b u l p f (mayB a b l) (up 0 [u]) hat (slices_BinarySearch_int_int.does k1 l u p f (by omega) e1) (people_May.does k2 a b l _ (by omega) e2) (fun _ => people_rises.does k3 [u] _ (by simp) e3)
  refine hD.tree _ (fun r m hpost A ρ' w' v hM hv => ?_)
  have herr : ∀ e, r = F.noCh e → joinS a b l u = (0, 0, [], e) → Go.SX.VRel w' (Go.SX.OwnBy A fun _ => none) (fun _ => none) (F.chR (joinS a b l u)) v := by
    rintro e rfl he
    rw [he]
    obtain ⟨us, rfl, hul, hus⟩ := hv.tup_inv
    obtain ⟨cs, hc, hcl, hcs⟩ := (hus 0 _ rfl).agg_inv
    refine .tree (.tup hul (fun i x hx => ?_))
    match i, hx with
    | 0, hx =>
      injection hx with hx; subst hx
      rw [hc]
      refine .agg hcl (fun i x hx => ?_)
      match i, hx with
      | 0, hx => injection hx with hx; subst hx; exact ((hcs 0 _ rfl).lit_inv.1) ▸ .lit rfl
      | 1, hx => injection hx with hx; subst hx; exact ((hcs 1 _ rfl).lit_inv.1) ▸ .lit rfl
      | 2, hx => injection hx with hx; subst hx; exact Go.SX.nils_tree (hcs 2 _ rfl)
      | (i + 3), hx => simp at hx
    | 1, hx => injection hx with hx; subst hx; exact ((hus 1 _ rfl).lit_inv.1) ▸ .lit rfl
    | (i + 2), hx => simp at hx
  have hj : ∀ k, people_Join.f k a b l u = some (joinS a b l u) → True := fun _ _ => trivial
  unfold F.JoinPost at hpost
  split at hpost
  · rename_i h1
    exact herr 1 hpost.1 (by unfold joinS; rw [if_pos h1])
  rename_i h1
  have hup := (may_up (a := a) (b := b) (l := l) (by cases hq : mayB a b l; exact absurd (.inl hq) h1; rfl)).2.2.2.2.1
  obtain ⟨hs1, hs2⟩ := hsp hup
  have hfm : f = true ↔ u ∈ l := by
    rw [hf]
    constructor
    · rintro ⟨h, rfl⟩; exact List.getElem_mem _
    · intro hu
      obtain ⟨q, hq, he⟩ := List.mem_iff_getElem.1 hu
      have hqp : p ≤ q := by rcases Nat.lt_or_ge q p with h | h; have := hs1 q hq h; omega; exact h
      have hpl : p < l.length := by omega
      refine ⟨hpl, ?_⟩
      have := hs2 p hpl (Nat.le_refl _)
      rcases Nat.lt_or_ge p q with h | h
      · have := up_nth hup p q hpl hq h; omega
      · have : p = q := by omega
        subst this; exact he
  split at hpost
  · rename_i h2
    exact herr 6 hpost.1 (by unfold joinS; rw [if_neg h1, if_pos (hfm.1 h2)])
  rename_i h2
  have hu : u ∉ l := fun h => h2 (hfm.2 h)
  split at hpost
  · rename_i h3
    exact herr 7 hpost.1 (by unfold joinS; rw [if_neg h1, if_neg hu, if_pos h3])
  rename_i h3
  obtain ⟨q, _, rfl, rfl⟩ := hpost
  have he : joinS a b l u = (a, b, l.take p ++ [u] ++ l.drop p, 0) := by
    unfold joinS
    rw [if_neg h1, if_neg hu, if_neg h3, ins_eq (p := p) hs1 (fun q hq hqp => by
      have := hs2 q hq hqp
      have hne : l[q] ≠ u := fun h => hu (h ▸ List.getElem_mem _)
      omega)]
  rw [he]
  obtain ⟨us, rfl, hul, hus⟩ := hv.tup_inv
  obtain ⟨cs, hc, hcl, hcs⟩ := (hus 0 _ rfl).agg_inv
  refine .tree (.tup hul (fun i x hx => ?_))
  match i, hx with
  | 0, hx =>
    injection hx with hx; subst hx
    rw [hc]
    refine .agg hcl (fun i x hx => ?_)
    match i, hx with
    | 0, hx => injection hx with hx; subst hx; exact ((hcs 0 _ rfl).lit_inv.1) ▸ .lit rfl
    | 1, hx => injection hx with hx; subst hx; exact ((hcs 1 _ rfl).lit_inv.1) ▸ .lit rfl
    | 2, hx => injection hx with hx; subst hx; exact Go.SX.own_tree (by omega) hM (by simp [Go.SX.look]; rfl) (hcs 2 _ rfl) (by simp [Go.SX.ints]; omega)
    | (i + 3), hx => simp at hx
  | 1, hx => injection hx with hx; subst hx; exact ((hus 1 _ rfl).lit_inv.1) ▸ .lit rfl
  | (i + 2), hx => simp at hx

theorem leave_does (a b u : Int) (l : List Int) (hl : l.length ≤ 100000) : F.DoesT 11 [F.chA a b l, Go.SX.iv u] (F.chR (leaveS a b l u)) := by
  obtain ⟨p, f, hp, hs, hf, hsp⟩ := search_is l u (by omega)
  obtain ⟨k1, e1⟩ := ev_at hs
  obtain ⟨k2, e2⟩ := ev_at (may_is a b l (by omega))
  have hat : mayB a b l = true → f = true → b ≠ u → (0 : Int) ≤ (p : Int) ∧ (p : Int) < l.length ∧ l.length < 1000000 := fun hm hft _ => by
    obtain ⟨h, _⟩ := hf.1 hft
    exact ⟨by omega, by omega, by omega⟩
  have hD := F.d11 a b u l p f (mayB a b l) hat (slices_BinarySearch_int_int.does k1 l u p f (by omega) e1) (people_May.does k2 a b l _ (by omega) e2)
  refine hD.tree _ (fun r m hpost A ρ' w' v hM hv => ?_)
  have herr : ∀ e, r = F.noCh e → leaveS a b l u = (0, 0, [], e) → Go.SX.VRel w' (Go.SX.OwnBy A fun _ => none) (fun _ => none) (F.chR (leaveS a b l u)) v := by
    rintro e rfl he
    rw [he]
    obtain ⟨us, rfl, hul, hus⟩ := hv.tup_inv
    obtain ⟨cs, hc, hcl, hcs⟩ := (hus 0 _ rfl).agg_inv
    refine .tree (.tup hul (fun i x hx => ?_))
    match i, hx with
    | 0, hx =>
      injection hx with hx; subst hx
      rw [hc]
      refine .agg hcl (fun i x hx => ?_)
      match i, hx with
      | 0, hx => injection hx with hx; subst hx; exact ((hcs 0 _ rfl).lit_inv.1) ▸ .lit rfl
      | 1, hx => injection hx with hx; subst hx; exact ((hcs 1 _ rfl).lit_inv.1) ▸ .lit rfl
      | 2, hx => injection hx with hx; subst hx; exact Go.SX.nils_tree (hcs 2 _ rfl)
      | (i + 3), hx => simp at hx
    | 1, hx => injection hx with hx; subst hx; exact ((hus 1 _ rfl).lit_inv.1) ▸ .lit rfl
    | (i + 2), hx => simp at hx
  unfold F.LeavePost at hpost
  split at hpost
  · rename_i h1
    exact herr 1 hpost.1 (by unfold leaveS; rw [if_pos h1])
  rename_i h1
  have hup := (may_up (a := a) (b := b) (l := l) (by cases hq : mayB a b l; exact absurd hq h1; rfl)).2.2.2.2.1
  obtain ⟨hs1, hs2⟩ := hsp hup
  split at hpost
  · rename_i h2
    refine herr 5 hpost.1 ?_
    have hu : u ∉ l := fun hu => by
      obtain ⟨q, hq, he⟩ := List.mem_iff_getElem.1 hu
      have hqp : p ≤ q := by rcases Nat.lt_or_ge q p with h | h; have := hs1 q hq h; omega; exact h
      have hpl : p < l.length := by omega
      have hpu : l[p] = u := by
        have := hs2 p hpl (Nat.le_refl _)
        rcases Nat.lt_or_ge p q with h | h
        · have := up_nth hup p q hpl hq h; omega
        · have : p = q := by omega
          subst this; exact he
      rw [hf.2 ⟨hpl, hpu⟩] at h2; cases h2
    unfold leaveS; rw [if_neg h1, if_pos hu]
  rename_i h2
  have hft : f = true := by cases f; exact absurd rfl h2; rfl
  obtain ⟨hpl, hpu⟩ := hf.1 hft
  have hu : u ∈ l := hpu ▸ List.getElem_mem _
  split at hpost
  · rename_i h3
    exact herr 8 hpost.1 (by unfold leaveS; rw [if_neg h1, if_neg (by simpa using hu), if_pos h3])
  rename_i h3
  obtain ⟨rfl, rfl⟩ := hpost
  have he : leaveS a b l u = (a, b, l.take p ++ l.drop (p + 1), 0) := by
    unfold leaveS
    rw [if_neg h1, if_neg (by simpa using hu), if_neg h3, del_eq hpl hs1 hpu (fun q hq hqp => by have := up_nth hup p q hpl hq hqp; omega)]
  rw [he]
  obtain ⟨us, rfl, hul, hus⟩ := hv.tup_inv
  obtain ⟨cs, hc, hcl, hcs⟩ := (hus 0 _ rfl).agg_inv
  refine .tree (.tup hul (fun i x hx => ?_))
  match i, hx with
  | 0, hx =>
    injection hx with hx; subst hx
    rw [hc]
    refine .agg hcl (fun i x hx => ?_)
    match i, hx with
    | 0, hx => injection hx with hx; subst hx; exact ((hcs 0 _ rfl).lit_inv.1) ▸ .lit rfl
    | 1, hx => injection hx with hx; subst hx; exact ((hcs 1 _ rfl).lit_inv.1) ▸ .lit rfl
    | 2, hx => injection hx with hx; subst hx; exact Go.SX.own_tree (by omega) hM (by simp [Go.SX.look]; rfl) (hcs 2 _ rfl) (by simp [Go.SX.ints]; omega)
    | (i + 3), hx => simp at hx
  | 1, hx => injection hx with hx; subst hx; exact ((hus 1 _ rfl).lit_inv.1) ▸ .lit rfl
  | (i + 2), hx => simp at hx

theorem in_does (a b u : Int) (l : List Int) (hl : l.length ≤ 1000000) : F.DoesT 18 [F.chA a b l, Go.SX.iv u] (Go.SX.bv (inS a b l u)) := by
  obtain ⟨k, e⟩ := ev_at (in_is a b l u hl)
  exact people_In.does k a b l u _ (by omega) e

/-- Two channels that are the same. -/
theorem same_ev (a b : Int) (l : List Int) (hl : l.length ≤ 1000000) : ∀ (d i : Nat), i + d = l.length → Ev (fun k => colloquyref15_Same.l0 k (i : Int) a b l a b l) true
  | 0, i, h => Ev.step (f := fun _ => some true) (fun k => by simp only [colloquyref15_Same.l0]; rw [if_neg (by omega)]) (Ev.now _)
  | d + 1, i, h => by
    have hi : i < l.length := by omega
    have hw : wrap64 ((i : Int) + 1) = ((i + 1 : Nat) : Int) := by rw [wrap_in (by omega) (by omega)]; omega
    refine Ev.step (f := fun k => colloquyref15_Same.l0 k ((i + 1 : Nat) : Int) a b l a b l) (fun k => ?_) (same_ev a b l hl d (i + 1) (by omega))
    simp only [colloquyref15_Same.l0, if_true]; rw [if_pos (by omega), if_pos (by omega), if_pos (by omega), hw]
theorem same_is (a b : Int) (l : List Int) (hl : l.length ≤ 1000000) : Ev (fun k => colloquyref15_Same.f k a b l a b l) true := by
  unfold colloquyref15_Same.f
  simp only [if_true]
  refine Ev.step (f := fun k => colloquyref15_Same.l0 k 0 a b l a b l) (fun k => by simp only [colloquyref15_Same.j0]; rw [if_neg (by simp)]) ?_
  simpa using same_ev a b l hl l.length 0 (by omega)
theorem same_does (a b : Int) (l : List Int) (hl : l.length ≤ 1000000) : F.DoesT 15 [F.chA a b l, F.chA a b l] (Go.SX.bv true) := by
  obtain ⟨k, e⟩ := ev_at (same_is a b l hl)
  refine Go.SX.Does.of_plain (v := .bool true) (by kernel_rfl) (fun _ _ _ => .tree (.lit rfl)) (fun w Own vs hlen hv => ?_)
  obtain ⟨A, c, e0, hc, hC⟩ := ch_arg (hv 0 _ rfl) (by omega)
  obtain ⟨A2, c2, e1, hc2, hC2⟩ := ch_arg (hv 1 _ rfl) (by omega)
  rw [Go.SX.arr2 (by simpa using hlen.symm) e0 e1]
  refine (colloquyref15_Same.calls k a b A c l a b A2 c2 l true w hC hc hC2 hc2 e).mono ?_
  rintro e w' ⟨rfl, hd⟩
  first | exact ⟨rfl, hd⟩ | exact ⟨rfl, hd.below⟩

/-! The document's functions. -/
def userB (u : Int) : Bool := decide (1 ≤ u) && decide (u ≤ 1048576)
theorem user_is (u : Int) : colloquyref15_user.f u = some (userB u) := by
  unfold colloquyref15_user.f userB
  by_cases h : u ≥ 1
  · rw [if_pos h, decide_eq_true (p := 1 ≤ u) h, Bool.true_and]
  · rw [if_neg h, decide_eq_false (p := 1 ≤ u) h, Bool.false_and]
theorem user_up (u : Int) : userB u = up 0 [u] := by
  unfold userB
  simp only [up, Bool.and_true]
  have : decide (1 ≤ u) = decide (0 < u) := by simp only [decide_eq_decide]; omega
  rw [this]

theorem has_ev (l : List Int) (u : Int) (hl : l.length ≤ 1000000) : ∀ (d i : Nat), i + d = l.length → Ev (fun k => colloquyref15_has.l0 k l u (i : Int)) (decide (u ∈ l.drop i))
  | 0, i, h => by
    refine Ev.step (f := fun _ => some false) (fun k => ?_) ?_
    · simp only [colloquyref15_has.l0]; rw [if_neg (by omega)]
    · rw [List.drop_of_length_le (by omega)]; simpa using Ev.now false
  | d + 1, i, h => by
    have hi : i < l.length := by omega
    have hw : wrap64 ((i : Int) + 1) = ((i + 1 : Nat) : Int) := by rw [wrap_in (by omega) (by omega)]; omega
    have ih := has_ev l u hl d (i + 1) (by omega)
    rw [List.drop_eq_getElem_cons hi]
    by_cases h1 : l[i] = u
    · refine Ev.step (f := fun _ => some true) (fun k => ?_) ?_
      · simp only [colloquyref15_has.l0]; rw [if_pos (by omega), if_pos (by omega), rd_at hi, if_pos h1]
      · rw [decide_eq_true (by rw [h1]; exact List.mem_cons_self)]; exact Ev.now _
    · refine Ev.step (f := fun k => colloquyref15_has.l0 k l u ((i + 1 : Nat) : Int)) (fun k => ?_) ?_
      · simp only [colloquyref15_has.l0]; rw [if_pos (by omega), if_pos (by omega), rd_at hi, if_neg h1, hw]
      · have : decide (u ∈ l[i] :: l.drop (i + 1)) = decide (u ∈ l.drop (i + 1)) := by
          simp only [decide_eq_decide, List.mem_cons]
          exact ⟨fun h => h.resolve_left (fun h => h1 h.symm), .inr⟩
        rw [this]; exact ih
theorem has_is (l : List Int) (u : Int) (hl : l.length ≤ 1000000) : Ev (fun k => colloquyref15_has.f k l u) (decide (u ∈ l)) := by
  have := has_ev l u hl l.length 0 (by omega)
  simpa [colloquyref15_has.f] using this

theorem rmay_ev (a b : Int) (l : List Int) (hl : l.length ≤ 1000000) : ∀ (d i : Nat) (p : Int), i + d = l.length → 0 ≤ p → (i = 0 ∧ p = 0 ∨ ∃ h : i - 1 < l.length, 0 < i ∧ p = l[i - 1]) → Ev (fun k => colloquyref15_May.l0 k (i : Int) a b l) (up p (l.drop i) && decide (b ∈ l))
  | 0, i, p, h, h0, hp => by
    refine Ev.step (f := fun k => (colloquyref15_has.f k l b).bind fun t145 => (some t145)) (fun k => ?_) ?_
    · simp only [colloquyref15_May.l0]; rw [if_neg (by omega)]
    · rw [List.drop_of_length_le (by omega)]; simp only [up, Bool.true_and]
      exact Ev.bind (has_is l b hl) (Ev.now _)
  | d + 1, i, p, h, h0, hp => by
    have hi : i < l.length := by omega
    have hw : wrap64 ((i : Int) + 1) = ((i + 1 : Nat) : Int) := by rw [wrap_in (by omega) (by omega)]; omega
    rw [List.drop_eq_getElem_cons hi]
    simp only [up]
    cases hu : userB l[i]
    · refine Ev.step (f := fun _ => some false) (fun k => ?_) ?_
      · simp only [colloquyref15_May.l0]; rw [if_pos (by omega), if_pos (by omega), rd_at hi, user_is, hu]; rfl
      · have : (decide (p < l[i]) && decide (l[i] ≤ 1048576)) = false := by
          simp only [userB, Bool.and_eq_false_iff, decide_eq_false_iff_not] at hu ⊢; omega
        rw [this, Bool.false_and, Bool.false_and]; exact Ev.now _
    · have hx : 1 ≤ l[i] ∧ l[i] ≤ 1048576 := by simpa [userB] using hu
      have ih := rmay_ev a b l hl d (i + 1) l[i] (by omega) (by omega) (.inr ⟨by omega, by omega, by simp⟩)
      by_cases hi0 : i = 0
      · have hp0 : p = 0 := by rcases hp with h | ⟨_, h, _⟩ <;> omega
        refine Ev.step (f := fun k => colloquyref15_May.l0 k ((i + 1 : Nat) : Int) a b l) (fun k => ?_) ?_
        · simp only [colloquyref15_May.l0]; rw [if_pos (by omega), if_pos (by omega), rd_at hi, user_is, hu]
          simp only [Option.bind_some, if_true]; rw [if_neg (by omega), hw]
        · rw [decide_eq_true (p := p < l[i]) (by omega), decide_eq_true hx.2, Bool.true_and, Bool.true_and]; exact ih
      · obtain ⟨hb, _, hpe⟩ : ∃ h : i - 1 < l.length, 0 < i ∧ p = l[i - 1] := by rcases hp with h | h; exact absurd h.1 hi0; exact h
        have hw1 : wrap64 ((i : Int) - 1) = ((i - 1 : Nat) : Int) := by rw [wrap_in (by omega) (by omega)]; omega
        by_cases hle : l[i] ≤ l[i - 1]
        · refine Ev.step (f := fun _ => some false) (fun k => ?_) ?_
          · simp only [colloquyref15_May.l0]; rw [if_pos (by omega), if_pos (by omega), rd_at hi, user_is, hu]
            simp only [Option.bind_some, if_true]; rw [if_pos (by omega), hw1, if_pos (by omega), if_pos (by omega), rd_at hb, if_pos hle]
          · rw [decide_eq_false (p := p < l[i]) (by omega), Bool.false_and, Bool.false_and, Bool.false_and]; exact Ev.now _
        · refine Ev.step (f := fun k => colloquyref15_May.l0 k ((i + 1 : Nat) : Int) a b l) (fun k => ?_) ?_
          · simp only [colloquyref15_May.l0]; rw [if_pos (by omega), if_pos (by omega), rd_at hi, user_is, hu]
            simp only [Option.bind_some, if_true]; rw [if_pos (by omega), hw1, if_pos (by omega), if_pos (by omega), rd_at hb, if_neg hle, hw]
          · rw [decide_eq_true (p := p < l[i]) (by omega), decide_eq_true hx.2, Bool.true_and, Bool.true_and]; exact ih

theorem rmay_is (a b : Int) (l : List Int) (hl : l.length ≤ 1000000) : Ev (fun k => colloquyref15_May.f k a b l) (mayB a b l) := by
  have hl0 : Ev (fun k => colloquyref15_May.l0 k 0 a b l) (up 0 l && decide (b ∈ l)) := by
    simpa using rmay_ev a b l hl l.length 0 0 (by omega) (by omega) (.inl ⟨rfl, rfl⟩)
  have ht : Ev (fun k => colloquyref15_May.j0 k true a b l) false := Ev.step (f := fun _ => some false) (fun k => by simp only [colloquyref15_May.j0, if_true]) (Ev.now _)
  have hf : Ev (fun k => colloquyref15_May.j0 k false a b l) (up 0 l && decide (b ∈ l)) := Ev.step (f := fun k => colloquyref15_May.l0 k 0 a b l) (fun k => by simp only [colloquyref15_May.j0]; rw [if_neg (by simp)]) hl0
  unfold colloquyref15_May.f mayB
  by_cases h1 : a < 1
  · simp only [h1, if_true, show ¬ 1 ≤ a from by omega, decide_false, Bool.false_and]; exact ht
  by_cases h2 : a > 1048576
  · simp only [h1, h2, if_false, if_true, show ¬ a ≤ 1048576 from by omega, decide_false, Bool.and_false, Bool.false_and]; exact ht
  by_cases h3 : (l.length : Int) < 1
  · simp only [h1, h2, h3, if_false, if_true, show ¬ 1 ≤ l.length from by omega, decide_false, Bool.and_false, Bool.false_and]; exact ht
  by_cases h4 : (l.length : Int) > 16
  · simp only [h1, h2, h3, h4, if_false, decide_true, show ¬ l.length ≤ 16 from by omega, decide_false, Bool.and_false, Bool.false_and]; exact ht
  · simp only [h1, h2, h3, h4, if_false, decide_false, show 1 ≤ a from by omega, show a ≤ 1048576 from by omega, show 1 ≤ l.length from by omega, show l.length ≤ 16 from by omega, decide_true, Bool.true_and]; exact hf

def insF (u : Int) : List Int → List Int
  | [] => [u]
  | x :: r => if x > u then u :: x :: r else x :: insF u r
theorem insF_ins {u : Int} : ∀ {l : List Int}, l.Pairwise (· < ·) → u ∉ l → insF u l = ins l u
  | [], _, _ => rfl
  | x :: r, hp, hu => by
    simp only [List.mem_cons, not_or] at hu
    obtain ⟨h1, h2⟩ := List.pairwise_cons.1 hp
    unfold insF
    by_cases hx : x > u
    · rw [if_pos hx]
      unfold ins
      have hA : (x :: r).filter (fun x => decide (x < u)) = [] := List.filter_eq_nil_iff.2 (fun y hy => by
        rcases List.mem_cons.1 hy with rfl | hy
        · simp; omega
        · have := h1 y hy; simp; omega)
      have hB : (x :: r).filter (fun x => decide (u < x)) = x :: r := List.filter_eq_self.2 (fun y hy => by
        rcases List.mem_cons.1 hy with rfl | hy
        · simp; omega
        · have := h1 y hy; simp; omega)
      rw [hA, hB]; rfl
    · rw [if_neg hx, insF_ins h2 hu.2]
      unfold ins
      rw [List.filter_cons_of_pos (p := fun x => decide (x < u)) (by simp; omega), List.filter_cons_of_neg (p := fun x => decide (u < x)) (by simp; omega)]; rfl

theorem rjoin_done (a b u : Int) (l : List Int) (hl : l.length ≤ 100) : ∀ (d i : Nat) (acc : List Int), i + d = l.length → acc.length ≤ i + 1 → Ev (fun k => colloquyref15_Join.l0 k u acc true (i : Int) a b l) (a, b, acc ++ l.drop i, 0)
  | 0, i, acc, h, ha => by
    refine Ev.step (f := fun _ => some (a, b, acc, 0)) (fun k => ?_) ?_
    · simp only [colloquyref15_Join.l0, if_true]; rw [if_neg (by omega)]
    · rw [List.drop_of_length_le (by omega), List.append_nil]; exact Ev.now _
  | d + 1, i, acc, h, ha => by
    have hi : i < l.length := by omega
    have hw : wrap64 ((i : Int) + 1) = ((i + 1 : Nat) : Int) := by rw [wrap_in (by omega) (by omega)]; omega
    have ih := rjoin_done a b u l hl d (i + 1) (acc ++ [l[i]]) (by omega) (by simp; omega)
    refine Ev.step (f := fun k => colloquyref15_Join.l0 k u (acc ++ [l[i]]) true ((i + 1 : Nat) : Int) a b l) (fun k => ?_) ?_
    · simp only [colloquyref15_Join.l0, if_true]; rw [if_pos (by omega), if_pos (by omega), if_pos (by omega), rd_at hi, hw]
    · rw [List.drop_eq_getElem_cons hi]; simpa using ih
theorem rjoin_ev (a b u : Int) (l : List Int) (hl : l.length ≤ 100) : ∀ (d i : Nat) (acc : List Int), i + d = l.length → acc.length ≤ i → Ev (fun k => colloquyref15_Join.l0 k u acc false (i : Int) a b l) (a, b, acc ++ insF u (l.drop i), 0)
  | 0, i, acc, h, ha => by
    refine Ev.step (f := fun _ => some (a, b, acc ++ [u], 0)) (fun k => ?_) ?_
    · simp only [colloquyref15_Join.l0]; rw [if_neg (by omega), if_neg (by simp), if_pos (by omega)]
    · rw [List.drop_of_length_le (by omega)]; exact Ev.now _
  | d + 1, i, acc, h, ha => by
    have hi : i < l.length := by omega
    have hw : wrap64 ((i : Int) + 1) = ((i + 1 : Nat) : Int) := by rw [wrap_in (by omega) (by omega)]; omega
    rw [List.drop_eq_getElem_cons hi]
    unfold insF
    by_cases hx : l[i] > u
    · have ih := rjoin_done a b u l hl d (i + 1) (acc ++ [u] ++ [l[i]]) (by omega) (by simp; omega)
      refine Ev.step (f := fun k => colloquyref15_Join.l0 k u (acc ++ [u] ++ [l[i]]) true ((i + 1 : Nat) : Int) a b l) (fun k => ?_) ?_
      · simp only [colloquyref15_Join.l0]; rw [if_pos (by omega), if_neg (by simp), if_pos (by omega), rd_at hi, if_pos hx, if_pos (by omega)]
        simp only [Option.bind_some]; rw [if_pos (by simp; omega), hw]
      · rw [if_pos hx]; simpa using ih
    · have ih := rjoin_ev a b u l hl d (i + 1) (acc ++ [l[i]]) (by omega) (by simp; omega)
      refine Ev.step (f := fun k => colloquyref15_Join.l0 k u (acc ++ [l[i]]) false ((i + 1 : Nat) : Int) a b l) (fun k => ?_) ?_
      · simp only [colloquyref15_Join.l0]; rw [if_pos (by omega), if_neg (by simp), if_pos (by omega), rd_at hi, if_neg hx, if_pos (by omega), hw]
      · rw [if_neg hx]; simpa using ih

theorem rjoin_is (a b : Int) (l : List Int) (u : Int) (hl : l.length ≤ 100) : Ev (fun k => colloquyref15_Join.f k a b l u) (joinS a b l u) := by
  unfold colloquyref15_Join.f joinS
  refine Ev.bind (rmay_is a b l (by omega)) ?_
  simp only [user_is, Option.bind_some, user_up]
  have ht : Ev (fun k => colloquyref15_Join.j0 k u true a b l) (0, 0, [], 1) := Ev.step (f := fun _ => some (0, 0, [], 1)) (fun k => by simp only [colloquyref15_Join.j0, if_true]) (Ev.now _)
  cases hm : mayB a b l
  · simp only [Bool.false_eq_true, if_false, true_or, if_true]; exact ht
  cases hr : up 0 [u]
  · simp only [if_true, or_true, Bool.not_false]; exact ht
  simp only [if_true, Bool.true_eq_false, or_self, if_false, Bool.not_true]
  refine Ev.step (f := fun k => ((colloquyref15_has.f k l u).bind fun t150 => (if t150 = true then (some (0, 0, ([] : List Int), 6)) else (if (l.length : Int) ≥ 16 then (some (0, 0, ([] : List Int), 7)) else (colloquyref15_Join.l0 k u ([] : List Int) false 0 a b l))))) (fun k => by simp only [colloquyref15_Join.j0]; rw [if_neg (by simp)]) ?_
  refine Ev.bind (has_is l u (by omega)) ?_
  by_cases hu : u ∈ l
  · simp only [hu, decide_true, if_true]; exact Ev.now _
  simp only [hu, decide_false, Bool.false_eq_true, if_false]
  by_cases h16 : 16 ≤ l.length
  · simp only [h16, show (l.length : Int) ≥ 16 from by omega, if_true]; exact Ev.now _
  simp only [h16, show ¬ (l.length : Int) ≥ 16 from by omega, if_false]
  have := rjoin_ev a b u l hl l.length 0 [] (by omega) (by simp)
  rw [List.drop_zero, List.nil_append, insF_ins (List.pairwise_cons.1 (up_iff.1 (may_up hm).2.2.2.2.1).1).2 hu] at this
  exact this

theorem rleave_ev (a b u : Int) (l : List Int) (hl : l.length ≤ 100) : ∀ (d i : Nat) (acc : List Int), i + d = l.length → acc.length ≤ i → Ev (fun k => colloquyref15_Leave.l0 k u acc (i : Int) a b l) (a, b, acc ++ del (l.drop i) u, 0)
  | 0, i, acc, h, ha => by
    refine Ev.step (f := fun _ => some (a, b, acc, 0)) (fun k => ?_) ?_
    · simp only [colloquyref15_Leave.l0]; rw [if_neg (by omega)]
    · rw [List.drop_of_length_le (by omega)]; simpa [del] using Ev.now _
  | d + 1, i, acc, h, ha => by
    have hi : i < l.length := by omega
    have hw : wrap64 ((i : Int) + 1) = ((i + 1 : Nat) : Int) := by rw [wrap_in (by omega) (by omega)]; omega
    rw [List.drop_eq_getElem_cons hi]
    unfold del
    by_cases hx : l[i] = u
    · have ih := rleave_ev a b u l hl d (i + 1) acc (by omega) (by omega)
      refine Ev.step (f := fun k => colloquyref15_Leave.l0 k u acc ((i + 1 : Nat) : Int) a b l) (fun k => ?_) ?_
      · simp only [colloquyref15_Leave.l0]; rw [if_pos (by omega), if_pos (by omega), rd_at hi, if_pos hx, hw]
      · rw [List.filter_cons_of_neg (by simp [hx])]; exact ih
    · have ih := rleave_ev a b u l hl d (i + 1) (acc ++ [l[i]]) (by omega) (by simp; omega)
      refine Ev.step (f := fun k => colloquyref15_Leave.l0 k u (acc ++ [l[i]]) ((i + 1 : Nat) : Int) a b l) (fun k => ?_) ?_
      · simp only [colloquyref15_Leave.l0]; rw [if_pos (by omega), if_pos (by omega), rd_at hi, if_neg hx, if_pos (by omega), hw]
      · rw [List.filter_cons_of_pos (by simp [hx])]; simpa [del] using ih
theorem rleave_is (a b : Int) (l : List Int) (u : Int) (hl : l.length ≤ 100) : Ev (fun k => colloquyref15_Leave.f k a b l u) (leaveS a b l u) := by
  unfold colloquyref15_Leave.f leaveS
  refine Ev.bind (rmay_is a b l (by omega)) ?_
  cases hm : mayB a b l
  · simp only [Bool.false_eq_true, if_false, if_true]; exact Ev.now _
  simp only [if_true, Bool.true_eq_false, if_false]
  refine Ev.bind (has_is l u (by omega)) ?_
  by_cases hu : u ∈ l
  · simp only [hu, decide_true, if_true, not_true, if_false]
    by_cases hb : b = u
    · simp only [hb, if_true]; exact Ev.now _
    simp only [hb, if_false]
    simpa using rleave_ev a b u l hl l.length 0 [] (by omega) (by simp)
  · simp only [hu, decide_false, Bool.false_eq_true, if_false, not_false_eq_true, if_true]; exact Ev.now _
theorem ropen_is (a u : Int) : Ev (fun k => colloquyref15_Open.f k a u) (openS a u) := by
  unfold colloquyref15_Open.f openS
  simp only [Option.bind_some]
  refine Ev.bind (rmay_is a u [u] (by simp)) ?_
  cases mayB a u [u]
  · exact Ev.congr (fun k => if_neg (by decide)) (Ev.now _)
  · exact Ev.congr (fun k => if_pos rfl) (Ev.now _)
theorem rin_is (a b : Int) (l : List Int) (u : Int) (hl : l.length ≤ 1000000) : Ev (fun k => colloquyref15_In.f k a b l u) (inS a b l u) := by
  unfold colloquyref15_In.f inS
  refine Ev.bind (rmay_is a b l hl) (Ev.bind (has_is l u hl) ?_)
  cases mayB a b l
  · exact Ev.congr (fun k => if_neg (by decide)) (Ev.now _)
  · rw [Bool.true_and]; exact Ev.congr (fun k => if_pos rfl) (Ev.now _)

/-! Each, told as a tree. -/
theorem may_does (a b : Int) (l : List Int) (hl : l.length ≤ 1000000) : F.DoesT 16 [F.chA a b l] (Go.SX.bv (mayB a b l)) := by
  obtain ⟨k, e⟩ := ev_at (may_is a b l (by omega))
  exact people_May.does k a b l _ (by omega) e
theorem rmay_does (a b : Int) (l : List Int) (hl : l.length ≤ 1000000) : F.DoesT 17 [F.chA a b l] (Go.SX.bv (mayB a b l)) := by
  obtain ⟨k, e⟩ := ev_at (rmay_is a b l hl)
  refine Go.SX.Does.of_plain (v := .bool (mayB a b l)) (by kernel_rfl) (fun _ _ _ => .tree (.lit rfl)) (fun w Own vs hlen hv => ?_)
  obtain ⟨A, c, e0, hc, hC⟩ := ch_arg (hv 0 _ rfl) (by omega)
  rw [Go.SX.arr1 (by simpa using hlen.symm) e0]
  refine (colloquyref15_May.calls k a b A c l _ w hC hc e).mono ?_
  rintro e w' ⟨rfl, hd⟩
  first | exact ⟨rfl, hd⟩ | exact ⟨rfl, hd.below⟩
theorem rin_does (a b u : Int) (l : List Int) (hl : l.length ≤ 1000000) : F.DoesT 19 [F.chA a b l, Go.SX.iv u] (Go.SX.bv (inS a b l u)) := by
  obtain ⟨k, e⟩ := ev_at (rin_is a b l u hl)
  refine Go.SX.Does.of_plain (v := .bool (inS a b l u)) (by kernel_rfl) (fun _ _ _ => .tree (.lit rfl)) (fun w Own vs hlen hv => ?_)
  obtain ⟨A, c, e0, hc, hC⟩ := ch_arg (hv 0 _ rfl) (by omega)
  rw [Go.SX.arr2 (by simpa using hlen.symm) e0 (arg_int (hv 1 _ rfl))]
  refine (colloquyref15_In.calls k a b A c l u _ w hC hc e).mono ?_
  rintro e w' ⟨rfl, hd⟩
  first | exact ⟨rfl, hd⟩ | exact ⟨rfl, hd.below⟩
theorem rjoin_does (a b u : Int) (l : List Int) (hl : l.length ≤ 100) : F.DoesT 10 [F.chA a b l, Go.SX.iv u] (F.chR (joinS a b l u)) := by
  obtain ⟨k, e⟩ := ev_at (rjoin_is a b l u hl)
  refine Go.SX.Does.of_ret (by kernel_rfl) (fun w Own vs hlen hv => ?_)
  obtain ⟨A, c, e0, hc, hC⟩ := ch_arg (hv 0 _ rfl) (by omega)
  rw [Go.SX.arr2 (by simpa using hlen.symm) e0 (arg_int (hv 1 _ rfl))]
  rcases hr : joinS a b l u with ⟨r1, r2, r3, r4⟩
  refine (colloquyref15_Join.calls k a b A c l u r1 r2 r3 r4 w hC hc (by rw [e, hr])).mono ?_
  rintro e w' ⟨v2, rfl, hR, hb⟩
  exact ⟨_, rfl, hb, fun Own' ho => ch_res hR Own' ho⟩
theorem rleave_does (a b u : Int) (l : List Int) (hl : l.length ≤ 100) : F.DoesT 12 [F.chA a b l, Go.SX.iv u] (F.chR (leaveS a b l u)) := by
  obtain ⟨k, e⟩ := ev_at (rleave_is a b l u hl)
  refine Go.SX.Does.of_ret (by kernel_rfl) (fun w Own vs hlen hv => ?_)
  obtain ⟨A, c, e0, hc, hC⟩ := ch_arg (hv 0 _ rfl) (by omega)
  rw [Go.SX.arr2 (by simpa using hlen.symm) e0 (arg_int (hv 1 _ rfl))]
  rcases hr : leaveS a b l u with ⟨r1, r2, r3, r4⟩
  refine (colloquyref15_Leave.calls k a b A c l u r1 r2 r3 r4 w hC hc (by rw [e, hr])).mono ?_
  rintro e w' ⟨v2, rfl, hR, hb⟩
  exact ⟨_, rfl, hb, fun Own' ho => ch_res hR Own' ho⟩
theorem open_does (a u : Int) : F.DoesT 13 [Go.SX.iv a, Go.SX.iv u] (F.chR (openS a u)) := by
  obtain ⟨k, e⟩ := ev_at (open_is a u)
  rcases hr : openS a u with ⟨r1, r2, r3, r4⟩
  exact people_Open.does k a u r1 r2 r3 r4 (by rw [e, hr])
theorem ropen_does (a u : Int) : F.DoesT 14 [Go.SX.iv a, Go.SX.iv u] (F.chR (openS a u)) := by
  obtain ⟨k, e⟩ := ev_at (ropen_is a u)
  refine Go.SX.Does.of_ret (by kernel_rfl) (fun w Own vs hlen hv => ?_)
  rw [Go.SX.arr2 (by simpa using hlen.symm) (arg_int (hv 0 _ rfl)) (arg_int (hv 1 _ rfl))]
  rcases hr : openS a u with ⟨r1, r2, r3, r4⟩
  refine (colloquyref15_Open.calls k a u r1 r2 r3 r4 w (by rw [e, hr])).mono ?_
  rintro e w' ⟨v2, rfl, hR, hb⟩
  exact ⟨_, rfl, hb, fun Own' ho => ch_res hR Own' ho⟩

end Go.Proofs.Ytffeomfcjmmgoaa.Pure
