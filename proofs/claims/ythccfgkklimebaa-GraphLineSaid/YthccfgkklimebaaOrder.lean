/- Chapter 11: which component is told next, plain. -/
import Derived.Test.YthccfgkklimebaaD8
import Derived.Test.YthccfgkklimebaaW3
set_option linter.unusedVariables false
set_option linter.unusedSimpArgs false
namespace Go.Proofs.Ythccfgkklimebaa.F
open Go Go.SX

/-- What the search's numbers come to. -/
structure Num (n : Int) (l : List (Int × Int)) (of : List Nat) (many : Nat) : Prop where
  len : of.length = bN n
  pos : ∀ v, v < bN n → 1 ≤ ix of v ∧ ix of v ≤ many
  same : ∀ x y, x < bN n → y < bN n → (ix of x = ix of y ↔ rB n l x y = true ∧ rB n l y x = true)
  each : ∀ c, c < many → ∃ v, v < bN n ∧ ix of v = c + 1
  small : many ≤ 100

theorem toL_reach (n : Int) (l : List (Int × Int)) : (fun a b => b ∈ rw_ (toL n l) a) = eN n l := by
  funext a b
  apply propext
  unfold rw_
  rcases Nat.lt_or_ge a (toL n l).length with h | h
  · simp only [List.getD_eq_getElem?_getD, List.getElem?_eq_getElem h, Option.getD_some]
    exact mem_to h
  · simp only [List.getD_eq_getElem?_getD, List.getElem?_eq_none h, Option.getD_none]
    refine ⟨fun hm => by simp at hm, fun he => ?_⟩
    have := he.1
    rw [toL_length] at h
    omega

theorem Good.num {n : Int} {l : List (Int × Int)} {order low of : List Nat} {many at_ : Nat} (h : Good (toL n l) order low [] of many at_ []) (hv : ∀ v, v < (toL n l).length → ix order v ≠ 0) : Num n l of many := by
  have hcl : ∀ v, v < bN n → ix of v ≠ 0 := fun v hv2 h0 => by
    have := (h.inv.opn_iff v).2 ⟨hv v (by rw [toL_length]; exact hv2), h0⟩
    simp at this
  refine ⟨h.lf.trans (toL_length n l), fun v hv2 => ⟨by have := hcl v hv2; omega, h.inv.fle v⟩, fun x y hx hy => ?_, fun c hc => ?_, ?_⟩
  · rw [rB_iff, rB_iff]
    have := h.inv.same x y (hcl x hx) (hcl y hy)
    rw [toL_reach] at this
    exact this
  · obtain ⟨v, hv2⟩ := h.inv.each (c + 1) (by omega) (by omega)
    refine ⟨v, ?_, hv2⟩
    have := h.inv.dom v (h.inv.fo v (by omega))
    rw [toL_length] at this
    exact this
  · have := h.bounds; simp at this; exact this

section
variable {n : Int} {l : List (Int × Int)} {of : List Nat} {many : Nat}

/-- What is told, thing by thing. -/
def tv (n : Int) (of : List Nat) (tc : List Bool) : List Bool := (List.range (bN n)).map fun v => tc.getD (ix of v - 1) false
theorem tv_length (tc : List Bool) : (tv n of tc).length = bN n := by simp [tv]
theorem tv_getD {tc : List Bool} {v : Nat} (h : v < bN n) : (tv n of tc).getD v false = tc.getD (ix of v - 1) false := by simp [tv, h]

theorem parts_length : (parts of many).length = many := by simp [parts]
theorem parts_get {c : Nat} (h : c < many) : (parts of many).getD c [] = (List.range of.length).filter fun i => ix of i == c + 1 := by simp [parts, h]
theorem mem_parts {c v : Nat} (h : c < many) : v ∈ (parts of many).getD c [] ↔ v < of.length ∧ ix of v = c + 1 := by
  rw [parts_get h]; simp

/-- A component's least thing. -/
def hd (of : List Nat) (many c : Nat) : Nat := ((parts of many).getD c []).headD 0
theorem sorted_range : ∀ (m : Nat), (List.range m).Pairwise (· < ·) := fun m => List.pairwise_lt_range
theorem Num.hdS (h : Num n l of many) {c : Nat} (hc : c < many) : hd of many c < bN n ∧ ix of (hd of many c) = c + 1 ∧ ∀ v, v < bN n → ix of v = c + 1 → hd of many c ≤ v := by
  obtain ⟨v0, hv0, he0⟩ := h.each c hc
  unfold F.hd
  have hm : ∀ v, v ∈ (parts of many).getD c [] ↔ v < bN n ∧ ix of v = c + 1 := fun v => by rw [mem_parts hc, h.len]
  have hs : ((parts of many).getD c []).Pairwise (· < ·) := by rw [parts_get hc]; exact (sorted_range _).filter _
  generalize (parts of many).getD c [] = r at hm hs
  cases r with
  | nil => exact absurd ((hm v0).2 ⟨hv0, he0⟩) (by simp)
  | cons x r =>
    have hx := (hm x).1 (by simp)
    refine ⟨hx.1, hx.2, fun v hv he => ?_⟩
    have := (hm v).2 ⟨hv, he⟩
    simp only [List.headD_cons]
    rcases List.mem_cons.1 this with rfl | h2
    · exact Nat.le_refl _
    · exact Nat.le_of_lt ((List.pairwise_cons.1 hs).1 v h2)

theorem frB_iff (h : Num n l of many) {tc : List Bool} {c : Nat} (hc : c < many) : frB (parts of many) (toL n l) of tc c = true ↔ ∀ i k, eN n l i k → ix of i = c + 1 → ix of k = c + 1 ∨ tc.getD (ix of k - 1) false = true := by
  unfold frB
  simp only [List.all_eq_true]
  have hk1 : ∀ k, k < bN n → (okE of tc c k = true ↔ ix of k = c + 1 ∨ tc.getD (ix of k - 1) false = true) := by
    intro k hk
    have h0 : of.getD k 0 = ix of k := rfl
    obtain ⟨h1, _⟩ := h.pos k hk
    unfold okE
    rw [h0]
    simp only [Bool.or_eq_true, beq_iff_eq]
    constructor
    · rintro (h2 | h2)
      · left; omega
      · exact .inr h2
    · rintro (h2 | h2)
      · left; omega
      · exact .inr h2
  have hget : ∀ i, i < bN n → ∀ k, k ∈ (toL n l).getD i [] ↔ eN n l i k := fun i hi k => by
    have hl : i < (toL n l).length := by rw [toL_length]; exact hi
    have : (toL n l).getD i [] = (toL n l)[i] := by simp [hl]
    rw [this]; exact mem_to hl
  constructor
  · intro hA i k he hi
    have := hA i ((mem_parts hc).2 ⟨by rw [h.len]; exact he.1, hi⟩) k ((hget i he.1 k).2 he)
    exact (hk1 k he.2.1).1 this
  · intro hA i hi k hk
    obtain ⟨h1, h2⟩ := (mem_parts hc).1 hi
    rw [h.len] at h1
    have he := (hget i h1 k).1 hk
    exact (hk1 k he.2.1).2 (hA i k he h2)

/-- A component may be told just if its things may. -/
theorem Num.eligS (h : Num n l of many) {tc : List Bool} (hs : Shut (bN n) (rB n l) (tv n of tc)) {c k : Nat} (hc : c < many) (hk : k < bN n) (he : ix of k = c + 1) :
    elig (bN n) (rB n l) (tv n of tc) k = true ↔ tc.getD c false = false ∧ frB (parts of many) (toL n l) of tc c = true := by
  rw [elig_iff, frB_iff h hc, tv_getD hk, he]
  refine and_congr Iff.rfl ⟨fun hA i j hij hi => ?_, fun hA j hj h1 h2 => ?_⟩
  · by_cases e : ix of j = c + 1
    · exact .inl e
    · right
      have hki := (h.same k i hk hij.1).1 (he.trans hi.symm)
      have hkj : rB n l k j = true := rB_iff.2 ((rB_iff.1 hki.1).step hij)
      have hjk : rB n l j k = false := by
        cases hb : rB n l j k
        · rfl
        · exact absurd (((h.same k j hk hij.2.1).2 ⟨hkj, hb⟩).symm.trans he) e
      have := hA j hij.2.1 hkj hjk
      rwa [tv_getD hij.2.1] at this
  · have key : ∀ x, RR n l k x → x < bN n ∧ (ix of x = c + 1 ∨ (tv n of tc).getD x false = true) := by
      intro x hx
      induction hx with
      | refl => exact ⟨hk, .inl he⟩
      | @step y z hy e ih =>
        refine ⟨e.2.1, ?_⟩
        rcases ih.2 with ih | ih
        · rcases hA _ _ e ih with h3 | h3
          · exact .inl h3
          · right; rw [tv_getD e.2.1]; exact h3
        · exact .inr (hs _ _ e.1 e.2.1 ih (rB_iff.2 (.one e)))
    rcases (key j (rB_iff.1 h1)).2 with h3 | h3
    · rw [((h.same k j hk hj).1 (he.trans h3.symm)).2] at h2; cases h2
    · exact h3

/-- The one that is told next: of those that may, the one with the least thing. -/
theorem Num.pickS (h : Num n l of many) {tc : List Bool} (hs : Shut (bN n) (rB n l) (tv n of tc)) {b : Nat} (hb : b < many) (h1 : tc.getD b false = false) (h2 : frB (parts of many) (toL n l) of tc b = true)
    (hmin : ∀ c, c < many → tc.getD c false = false → frB (parts of many) (toL n l) of tc c = true → hd of many b ≤ hd of many c) : pick (bN n) (rB n l) (tv n of tc) = some (hd of many b) := by
  obtain ⟨g1, g2, g3⟩ := h.hdS hb
  refine pick_some.2 ⟨(h.eligS hs hb g1 g2).2 ⟨h1, h2⟩, g1, fun j hj => ?_⟩
  cases he : F.elig (bN n) (rB n l) (tv n of tc) j
  · rfl
  · have hjN : j < bN n := by omega
    obtain ⟨p1, p2⟩ := h.pos j hjN
    have hc : ix of j - 1 < many := by omega
    have hej : ix of j = (ix of j - 1) + 1 := by omega
    obtain ⟨q1, q2⟩ := (h.eligS hs hc hjN hej).1 he
    have := hmin _ hc q1 q2
    have := (h.hdS hc).2.2 j hjN hej
    omega

theorem Num.clsS (h : Num n l of many) {b : Nat} (hb : b < many) : cls (bN n) (rB n l) (hd of many b) = (parts of many).getD b [] := by
  obtain ⟨g1, g2, g3⟩ := h.hdS hb
  rw [parts_get hb, h.len]
  unfold F.cls
  apply List.filter_congr
  intro v hv
  have hv : v < bN n := by simpa using hv
  rw [Bool.eq_iff_iff, Bool.and_eq_true, ← h.same _ _ g1 hv, g2, beq_iff_eq]
  exact eq_comm

theorem Num.markS (h : Num n l of many) {tc : List Bool} (hl : tc.length = many) {b : Nat} (hb : b < many) : mark (bN n) (rB n l) (tv n of tc) (hd of many b) = tv n of (tc.set b true) := by
  obtain ⟨g1, g2, g3⟩ := h.hdS hb
  unfold F.mark
  rw [show tv n of (tc.set b true) = (List.range (bN n)).map fun v => (tc.set b true).getD (ix of v - 1) false from rfl]
  apply List.map_congr_left
  intro v hv
  have hv : v < bN n := by simpa using hv
  obtain ⟨p1, p2⟩ := h.pos v hv
  rw [tv_getD hv]
  have hR : (rB n l (hd of many b) v && rB n l v (hd of many b)) = decide (ix of v - 1 = b) := by
    rw [Bool.eq_iff_iff, Bool.and_eq_true, ← h.same _ _ g1 hv, g2]
    simp; omega
  rw [hR]
  by_cases e : ix of v - 1 = b
  · simp [e, hl, hb]
  · simp only [List.getD_eq_getElem?_getD, List.getElem?_set_ne (Ne.symm e)]; simp [e]

theorem Num.shutS (h : Num n l of many) {tc : List Bool} (hl : tc.length = many) (hs : Shut (bN n) (rB n l) (tv n of tc)) {b : Nat} (hb : b < many) (h1 : tc.getD b false = false) (h2 : frB (parts of many) (toL n l) of tc b = true) : Shut (bN n) (rB n l) (tv n of (tc.set b true)) := by
  obtain ⟨g1, g2, g3⟩ := h.hdS hb
  have hset : ∀ v, v < bN n → ((tv n of (tc.set b true)).getD v false = true ↔ (tv n of tc).getD v false = true ∨ ix of v = b + 1) := by
    intro v hv
    obtain ⟨p1, p2⟩ := h.pos v hv
    rw [tv_getD hv, tv_getD hv]
    by_cases e : ix of v - 1 = b
    · simp [e, hl, hb]; right; omega
    · simp only [List.getD_eq_getElem?_getD, List.getElem?_set_ne (Ne.symm e)]
      constructor
      · exact .inl
      · rintro (h3 | h3)
        · exact h3
        · omega
  intro v w hv hw hvt hr
  rw [hset w hw]
  rcases (hset v hv).1 hvt with h3 | h3
  · exact .inl (hs v w hv hw h3 hr)
  · by_cases e : ix of w = b + 1
    · exact .inr e
    · left
      have hel := (elig_iff.1 ((h.eligS hs hb hv h3).2 ⟨h1, h2⟩)).2 w hw hr
      refine hel ?_
      cases hb2 : rB n l w v
      · rfl
      · exact absurd (((h.same v w hv hw).2 ⟨hr, hb2⟩).symm.trans h3) e

theorem Num.exists_ (h : Num n l of many) {tc : List Bool} (hl : tc.length = many) (hs : Shut (bN n) (rB n l) (tv n of tc)) (hu : 0 < unset tc) : ∃ c, c < many ∧ tc.getD c false = false ∧ frB (parts of many) (toL n l) of tc c = true := by
  obtain ⟨c, hc, e⟩ := List.mem_iff_getElem.1 (List.count_pos_iff.1 hu)
  have hcm : c < many := by omega
  obtain ⟨v, hv, he⟩ := h.each c hcm
  obtain ⟨k, hk⟩ := pick_exists (rB_trans n l) (rB_refl n l) (tl := tv n of tc) _ v hv (by rw [tv_getD hv, he]; simp [hc, e]) (Nat.le_refl _)
  obtain ⟨k1, k2, _⟩ := pick_some.1 hk
  obtain ⟨p1, p2⟩ := h.pos k k2
  have hkc : ix of k - 1 < many := by omega
  exact ⟨_, hkc, (h.eligS hs hkc k2 (by omega)).1 k1⟩

/-- One component more. -/
theorem Num.nextS (h : Num n l of many) {tc : List Bool} (hl : tc.length = many) (hs : Shut (bN n) (rB n l) (tv n of tc)) {b : Nat} (hb : b < many) (h1 : tc.getD b false = false) (h2 : frB (parts of many) (toL n l) of tc b = true)
    (hmin : ∀ c, c < many → tc.getD c false = false → frB (parts of many) (toL n l) of tc c = true → hd of many b ≤ hd of many c) : rest (bN n) (rB n l) (tv n of tc) = (parts of many).getD b [] :: rest (bN n) (rB n l) (tv n of (tc.set b true)) := by
  rw [rest_some (rB_refl n l) (tv_length tc) (h.pickS hs hb h1 h2 hmin), h.clsS hb, h.markS hl hb]

theorem rest_told (h : Num n l of many) {tc : List Bool} (hl : tc.length = many) (hu : unset tc = 0) : rest (bN n) (rB n l) (tv n of tc) = [] := by
  refine rest_none (pick_none.2 (fun k hk => ?_))
  cases he : F.elig (bN n) (rB n l) (tv n of tc) k
  · rfl
  · have h1 := (elig_iff.1 he).1
    obtain ⟨p1, p2⟩ := h.pos k hk
    rw [tv_getD hk] at h1
    have hlt : ix of k - 1 < tc.length := by omega
    have h2 : tc[ix of k - 1] = false := by simpa [hlt] using h1
    have : false ∈ tc := h2 ▸ List.getElem_mem hlt
    have := List.count_pos_iff.2 this
    unfold unset at hu
    omega
end
end Go.Proofs.Ythccfgkklimebaa.F
