/- Chapter 16: pages, numbers, what is kept. Plain. -/
import Derived.Test.YtifpfpiljionmaaDoorW16
set_option linter.unusedVariables false
set_option linter.unusedSimpArgs false
namespace Go.Proofs.YtifpfpiljionmaaDoor.F
open Go Go.SX

/-! ### pages -/
def live (l : List Post) : List Post := l.filter fun x => !x.gone
def hits (frm : Int) (l : List Post) : List Post := l.filter (hit frm)
theorem hits_live (frm : Int) (l : List Post) : hits frm l = (live l).filter fun x => decide (frm ≤ x.no) := by
  unfold hits live
  rw [List.filter_filter]
  exact List.filter_congr (fun x _ => by simp only [hit]; rw [Bool.and_comm])
abbrev Asc (l : List Post) : Prop := l.Pairwise fun a b => a.no < b.no
theorem mayFrom_lt : ∀ {l : List Post} {q : Int}, mayFrom (some q) l = true → ∀ x ∈ l, q < x.no
  | [], _, _, x, hx => by simp at hx
  | y :: r, q, h, x, hx => by
    simp only [mayFrom, Bool.and_eq_true, beq_iff_eq] at h
    rcases List.mem_cons.1 hx with rfl | hx
    · omega
    · have := mayFrom_lt h.2 x hx; omega
theorem mayFrom_asc : ∀ {l : List Post} {p : Option Int}, mayFrom p l = true → Asc l
  | [], _, _ => List.Pairwise.nil
  | y :: r, p, h => by
    simp only [mayFrom, Bool.and_eq_true] at h
    exact List.Pairwise.cons (mayFrom_lt h.2) (mayFrom_asc h.2)
theorem filter_all {l : List Post} {f : Post → Bool} (h : ∀ x ∈ l, f x = true) : l.filter f = l := List.filter_eq_self.2 h
theorem asc_drop : ∀ {L : List Post} {j : Nat} {x : Post}, Asc L → L[j]? = some x → L.filter (fun y => decide (x.no ≤ y.no)) = L.drop j
  | [], j, x, _, h => by simp at h
  | y :: r, 0, x, hs, h => by
    simp at h; subst h
    refine filter_all (fun z hz => ?_)
    rcases List.mem_cons.1 hz with rfl | hz
    · simp
    · have := (List.pairwise_cons.1 hs).1 z hz; simp; omega
  | y :: r, j + 1, x, hs, h => by
    have hx : r[j]? = some x := by simpa using h
    have h1 := (List.pairwise_cons.1 hs).1 x (List.mem_of_getElem? hx)
    rw [List.filter_cons_of_neg (by simp; omega), asc_drop (List.pairwise_cons.1 hs).2 hx]
    rfl
theorem pageR_eq {frm : Int} {m : Nat} : ∀ (l pg : List Post), pg.length ≤ m → pageR frm (m : Int) l pg = (pg ++ (hits frm l).take (m - pg.length), match (hits frm l)[m - pg.length]? with | some x => x.no | none => 0)
  | [], pg, _ => by simp [pageR, hits]
  | x :: r, pg, h => by
    simp only [pageR]
    by_cases hh : hit frm x = true
    · have hc : hits frm (x :: r) = x :: hits frm r := by simp [hits, hh]
      rw [if_pos hh, hc]
      by_cases hm : (m : Int) ≤ (pg.length : Int)
      · rw [if_pos hm]
        have : m - pg.length = 0 := by omega
        simp [this]
      · rw [if_neg hm, pageR_eq r (pg ++ [x]) (by simp; omega)]
        obtain ⟨k, hk⟩ : ∃ k, m - pg.length = k + 1 := ⟨m - pg.length - 1, by omega⟩
        have e : m - (pg ++ [x]).length = k := by simp; omega
        rw [hk, e]
        simp
    · have hc : hits frm (x :: r) = hits frm r := by simp [hits, hh]
      rw [if_neg hh, hc, pageR_eq r pg h]

/-- Where who pages on is: what was seen, the number to go on with. -/
structure PageAt (l : List Post) (i : Nat) (seen : List Post) (next : Int) : Prop where
  done : next ≤ 0 → seen = live l ∧ next = 0
  go : 0 < next → ∃ k, i ≤ k ∧ seen = (live l).take k ∧ hits next l = (live l).drop k ∧ (0 < i → k < (live l).length)
theorem pageAt_start {l : List Post} (h : mayPs l = true) : PageAt l 0 [] 1 := by
  refine ⟨fun h => absurd h (by omega), fun _ => ⟨0, by omega, by simp, ?_, fun h => absurd h (by omega)⟩⟩
  simp only [mayPs, Bool.and_eq_true] at h
  rw [hits_live, List.drop_zero]
  refine filter_all (fun x hx => ?_)
  have := mayP_text (mayFrom_all h.1 x (List.mem_filter.1 hx).1)
  simp; omega
theorem pageAt_step {l seen : List Post} {i m : Nat} {next : Int} (h : mayPs l = true) (hm : 1 ≤ m) (hn : 0 < next) (hP : PageAt l i seen next) :
    (pageP l next m).1.length ≤ m ∧ (0 < (pageP l next m).2 → (pageP l next m).1.length = m) ∧ PageAt l (i + 1) (seen ++ (pageP l next m).1) (pageP l next m).2 := by
  have hF : fairL l = l := by unfold fairL; rw [if_pos h]
  obtain ⟨k, hik, rfl, hh, _⟩ := hP.go hn
  have hmay := h
  simp only [mayPs, Bool.and_eq_true] at hmay
  have hasc : Asc (live l) := (mayFrom_asc hmay.1).filter _
  unfold pageP
  rw [hF, pageR_eq l [] (by simp)]
  simp only [List.length_nil, Nat.sub_zero, List.nil_append, hh]
  have htk : (live l).take k ++ ((live l).drop k).take m = (live l).take (k + m) := by rw [← List.take_add]
  refine ⟨by simp; omega, ?_, ?_⟩
  · cases hx : ((live l).drop k)[m]? with
    | none => simp
    | some x =>
      intro _
      have := (List.getElem?_eq_some_iff.1 hx).1
      simp at this ⊢; omega
  · rw [htk]
    cases hx : ((live l).drop k)[m]? with
    | none =>
      have : (live l).length ≤ k + m := by
        have := List.getElem?_eq_none_iff.1 hx
        simp at this; omega
      exact ⟨fun _ => ⟨List.take_of_length_le this, rfl⟩, fun h => absurd h (by simp)⟩
    | some x =>
      have hx' : (live l)[k + m]? = some x := by rw [List.getElem?_drop] at hx; exact hx
      have hlt := (List.getElem?_eq_some_iff.1 hx').1
      have hb := mayP_text (mayFrom_all hmay.1 x (List.mem_filter.1 (List.mem_of_getElem? hx')).1)
      refine ⟨fun h => by simp only at h; omega, fun _ => ⟨k + m, by omega, rfl, ?_, fun _ => hlt⟩⟩
      rw [hits_live]
      exact asc_drop hasc hx'
theorem pageAt_end {l seen : List Post} {i : Nat} {next : Int} (hP : PageAt l i seen next) (he : l.length < i ∨ next ≤ 0) : seen = live l ∧ next = 0 := by
  rcases Int.lt_or_le 0 next with h | h
  · obtain ⟨k, hik, _, _, h4⟩ := hP.go h
    have : (live l).length ≤ l.length := List.length_filter_le _ _
    rcases he with he | he
    · have := h4 (by omega); omega
    · omega
  · exact hP.done h

/-! ### numbers -/
theorem fair_of {l : List Post} (h : mayPs l = true) : fairL l = l := by unfold fairL; rw [if_pos h]
theorem lastP_of {l : List Post} (h : mayPs l = true) : lastP l = match l.getLast? with | some x => x.no | none => 0 := by unfold lastP; rw [fair_of h]; rfl
theorem asc_uniq {l : List Post} (h : Asc l) {x y : Post} (hx : x ∈ l) (hy : y ∈ l) (he : x.no = y.no) : x = y := by
  obtain ⟨i, hi, rfl⟩ := List.getElem_of_mem hx
  obtain ⟨j, hj, rfl⟩ := List.getElem_of_mem hy
  rcases Nat.lt_trichotomy i j with h1 | rfl | h1
  · have := List.pairwise_iff_getElem.1 h i j hi hj h1; omega
  · rfl
  · have := List.pairwise_iff_getElem.1 h j i hj hi h1; omega
theorem asc_last {l : List Post} (h : Asc l) {x z : Post} (hz : l.getLast? = some z) (hx : x ∈ l) : x.no ≤ z.no := by
  rcases List.eq_nil_or_concat l with rfl | ⟨r, y, rfl⟩
  · simp at hx
  · simp at hz; subst hz
    have h' : Asc (r ++ [y]) := by simpa using h
    have hx' : x ∈ r ++ [y] := by simpa using hx
    rcases List.mem_append.1 hx' with h1 | h1
    · have := (List.pairwise_append.1 h').2.2 x h1 y (by simp); omega
    · rw [List.mem_singleton.1 h1]; exact Int.le_refl _
/-- What holds between posts and posts behind an op. -/
structure Then (l m : List Post) (added : Int) : Prop where
  last : lastP m = lastP l + added
  len : l.length ≤ m.length
  pair : ∀ x ∈ l, ∀ y ∈ m, x.no = y.no → x.user = y.user ∧ (x.gone = true → y.gone = true) ∧ x.edits ≤ y.edits
theorem then_set {l : List Post} {i : Nat} {x y : Post} (h : mayPs l = true) (hx : l[i]? = some x) (hn : y.no = x.no) (hu : y.user = x.user) (hg : x.gone = true → y.gone = true) (he : x.edits ≤ y.edits) (hy : mayP y = true) : Then l (l.set i y) 0 := by
  have hmay := h
  simp only [mayPs, Bool.and_eq_true, decide_eq_true_eq] at hmay
  have hasc := mayFrom_asc hmay.1
  have hset : mayPs (l.set i y) = true := by
    have := mayPs_set (l := l) (i := i) (x := x) (y := y) (by rw [fair_of h]; exact hx) hn hy
    rwa [fair_of h] at this
  have hi := (List.getElem?_eq_some_iff.1 hx)
  refine ⟨?_, by simp, fun a ha b hb hab => ?_⟩
  · rw [lastP_of hset, lastP_of h, List.getLast?_eq_getElem?, List.getLast?_eq_getElem?, List.length_set, List.getElem?_set]
    by_cases e : i = l.length - 1
    · rw [if_pos e, if_pos hi.1, ← e, hx]
      simp [hn]
    · rw [if_neg e]; simp
  · rcases List.mem_or_eq_of_mem_set hb with hb | rfl
    · have := asc_uniq hasc ha hb hab
      subst this; exact ⟨rfl, id, Int.le_refl _⟩
    · have := asc_uniq hasc ha (List.mem_of_getElem? hx) (by omega)
      subst this; exact ⟨hu.symm, hg, he⟩
theorem does_then {l : List Post} {o : POp} (h : mayPs l = true) (he : (doesP l o).2 = 0) : Then l (doesP l o).1 (if o.kind = 0 then 1 else 0) := by
  have hmay := h
  simp only [mayPs, Bool.and_eq_true, decide_eq_true_eq] at hmay
  have hasc := mayFrom_asc hmay.1
  have hF := fair_of h
  unfold doesP at he ⊢
  split at he <;> rename_i hk
  · rw [if_pos hk, if_pos hk]
    unfold addP at he ⊢
    split at he
    · simp at he
    · rename_i h1
      split at he
      · simp at he
      · rename_i h2
        rw [if_neg h1, if_neg h2]
        have hnew := mayPs_add l o.user o.text
        unfold addP at hnew
        rw [if_neg h1, if_neg h2] at hnew
        simp only at hnew ⊢
        rw [hF] at hnew ⊢
        have hlast : ∀ x ∈ l, x.no < lastP l + 1 := fun x hx => by
          rw [lastP_of h]
          cases hg : l.getLast? with
          | none => rw [List.getLast?_eq_none_iff] at hg; subst hg; simp at hx
          | some z => have := asc_last hasc hg hx; simp only; omega
        refine ⟨?_, by simp; omega, fun x hx y hy hxy => ?_⟩
        · rw [lastP_of hnew, List.getLast?_drop, if_neg (by simp; omega)]
          simp
        · have := List.mem_of_mem_drop hy
          rcases List.mem_append.1 this with hy' | hy'
          · have := asc_uniq hasc hx hy' hxy
            subst this; exact ⟨rfl, id, Int.le_refl _⟩
          · simp at hy'; subst hy'
            have := hlast x hx
            simp only at hxy; omega
  · rw [if_neg hk, if_neg hk]
    split at he <;> rename_i hk1
    · rw [if_pos hk1]
      unfold editP at he ⊢
      split at he
      · simp at he
      · rename_i h1
        rw [if_neg h1]
        cases hst : stopAt o.no (fairL l) 0 with
        | none => rw [hst] at he; simp at he
        | some p =>
          obtain ⟨i, x⟩ := p
          rw [hst] at he
          obtain ⟨_, hx, hno, hg⟩ := stopAt_get hst
          simp only [Nat.sub_zero] at hx
          have hxm := fairL_may x (List.mem_of_getElem? hx)
          simp only at he ⊢
          split at he <;> rename_i h2
          · rw [if_pos h2]
            unfold dofE at h2 ⊢
            split at h2 <;> rename_i h3
            · simp at h2
            · split at h2 <;> rename_i h4
              · simp at h2
              · rw [if_neg h3, if_neg h4]
                rw [hF] at hx ⊢
                exact then_set h hx rfl rfl (fun h => by rw [hg] at h; cases h) (by simp; omega) (mayP_edit hxm hg (by simpa using h1) h4)
          · exact absurd he h2
    · rw [if_neg hk1]
      unfold delP at he ⊢
      cases hst : stopAt o.no (fairL l) 0 with
      | none => rw [hst] at he; simp at he
      | some p =>
        obtain ⟨i, x⟩ := p
        rw [hst] at he
        obtain ⟨_, hx, hno, hg⟩ := stopAt_get hst
        simp only [Nat.sub_zero] at hx
        have hxm := fairL_may x (List.mem_of_getElem? hx)
        simp only at he ⊢
        split at he <;> rename_i h2
        · rw [if_pos h2]
          unfold dofD at h2 ⊢
          split at h2 <;> rename_i h3
          · simp at h2
          · rw [if_neg h3]
            rw [hF] at hx ⊢
            exact then_set h hx rfl rfl (fun _ => rfl) (Int.le_refl _) (mayP_del hxm)
        · exact absurd he h2
theorem does_err {l : List Post} {o : POp} (he : (doesP l o).2 ≠ 0) : (doesP l o).1 = [] := by
  unfold doesP at he ⊢
  split at he <;> rename_i hk
  · rw [if_pos hk]
    unfold addP at he ⊢
    split
    · rfl
    · split
      · rfl
      · rename_i h1 h2; rw [if_neg h1, if_neg h2] at he; exact absurd rfl he
  · rw [if_neg hk]
    split at he <;> rename_i hk1
    · rw [if_pos hk1]
      unfold editP at he ⊢
      split
      · rfl
      · rename_i h1
        rw [if_neg h1] at he
        split
        · rfl
        · rename_i i x hst
          rw [hst] at he
          simp only at he
          split
          · rename_i h2; rw [if_pos h2] at he; exact absurd rfl he
          · rfl
    · rw [if_neg hk1]
      unfold delP at he ⊢
      split
      · rfl
      · rename_i i x hst
        rw [hst] at he
        simp only at he
        split
        · rename_i h2; rw [if_pos h2] at he; exact absurd rfl he
        · rfl

/-! ### what is kept -/
def kp (user : Int) (s : ByteArray) (k : Nat) : Post := ⟨(k : Int), user, s, 0, false⟩
/-- The last 32 posts of 'i'. -/
def keepL (user : Int) (s : ByteArray) (i : Nat) : List Post := ((List.range' 1 i).map (kp user s)).drop (i - 32)
section
variable {user : Int} {s : ByteArray} (hu : btw user 1 1048576 = true) (hs : Tryd.mayR s = true)
include hu hs
theorem kp_may {k : Nat} (h1 : 1 ≤ k) (h2 : k ≤ 1000) : mayP (kp user s k) = true := by
  have : btw (k : Int) 1 1073741824 = true := by simp [btw]; omega
  simp [kp, mayP, hu, hs, mayR_noT hs, this]
  simp [btw]
theorem run_may : ∀ (n a : Nat), 1 ≤ a → a + n ≤ 1000 → mayFrom none ((List.range' a n).map (kp user s)) = true ∧ mayFrom (some ((a : Int) - 1)) ((List.range' a n).map (kp user s)) = true
  | 0, a, _, _ => ⟨rfl, rfl⟩
  | n + 1, a, h1, h2 => by
    have hm := kp_may hu hs (k := a) h1 (by omega)
    have ih := (run_may n (a + 1) (by omega) (by omega)).2
    have e : ((a + 1 : Nat) : Int) - 1 = (kp user s a).no := by simp [kp]
    rw [e] at ih
    simp only [List.range'_succ, List.map_cons, mayFrom, hm, ih, Bool.and_true, Bool.true_and, beq_iff_eq, and_true, true_and, true_and]
    simp [kp]
theorem keep_may {i : Nat} (h : i ≤ 100) : mayPs (keepL user s i) = true := by
  simp only [mayPs, keepL, Bool.and_eq_true, decide_eq_true_eq]
  exact ⟨mayFrom_drop (run_may hu hs i 1 (by omega) (by omega)).1, by simp; omega⟩
theorem keep_last {i : Nat} (h : i ≤ 100) : lastP (keepL user s i) = i := by
  rw [lastP_of (keep_may hu hs h)]
  unfold keepL
  cases i with
  | zero => simp
  | succ i =>
    rw [List.getLast?_drop, if_neg (by simp; omega)]
    simp [List.range'_concat, kp]
    omega
theorem keep_add {i : Nat} (h : i < 100) : addP (keepL user s i) user s = (keepL user s (i + 1), 0) := by
  have hl := keep_last hu hs (i := i) (by omega)
  have hF := fair_of (keep_may hu hs (i := i) (by omega))
  unfold addP
  rw [if_neg (by simp [hu, hs]), hl, if_neg (by omega), hF]
  congr 1
  simp only
  have e : keepL user s i ++ [⟨(i : Int) + 1, user, s, 0, false⟩] = ((List.range' 1 (i + 1)).map (kp user s)).drop (i - 32) := by
    unfold keepL
    rw [List.range'_concat, List.map_append, List.drop_append_of_le_length (by simp)]
    congr 1
    simp [kp]; omega
  rw [e, List.drop_drop]
  unfold keepL
  congr 1
  simp
  omega
omit hu hs in
theorem keep_len {i : Nat} : (keepL user s i).length = if i ≤ 32 then i else 32 := by
  unfold keepL; simp; split <;> omega
omit hu hs in
theorem keep_get {i j : Nat} (h : j < (keepL user s i).length) : (keepL user s i)[j]? = some (kp user s (i - 32 + j + 1)) := by
  unfold keepL at h ⊢
  have hj : i - 32 + j < i := by simp at h; omega
  simp [hj]
  congr 1
  omega
omit hu hs in
theorem stop_run (no : Int) : ∀ (n a k : Nat), stopAt no ((List.range' a n).map (kp user s)) k = if (a : Int) ≤ no ∧ no < (a : Int) + n then some (k + (no - a).toNat, kp user s no.toNat) else none
  | 0, a, k => by simp [stopAt]
  | n + 1, a, k => by
    simp only [List.range'_succ, List.map_cons, stopAt]
    have ih := stop_run no n (a + 1) (k + 1)
    by_cases h1 : no ≤ (a : Int)
    · have : hit no (kp user s a) = true := by simp [hit, kp, h1]
      rw [if_pos this]
      by_cases h2 : (a : Int) = no
      · rw [if_pos (by simpa [kp] using h2), if_pos (by omega)]
        subst h2
        simp
      · rw [if_neg (by simpa [kp] using h2), if_neg (by omega)]
    · have : hit no (kp user s a) = false := by simp [hit, kp, h1]
      rw [this, ih]
      simp only [Bool.false_eq_true, if_false]
      by_cases h3 : no < (a : Int) + (n + 1 : Nat)
      · rw [if_pos (by omega), if_pos (by omega)]
        have e : k + 1 + (no - ((a + 1 : Nat) : Int)).toNat = k + (no - (a : Int)).toNat := by omega
        rw [e]
      · rw [if_neg (by omega), if_neg (by omega)]
theorem keep_find {i : Nat} {no : Int} (h : i ≤ 100) : findP (keepL user s i) no = if ((i - 32 : Nat) : Int) + 1 ≤ no ∧ no ≤ i then (kp user s no.toNat, 0) else (zeroP, 5) := by
  unfold findP
  rw [fair_of (keep_may hu hs h)]
  have e : keepL user s i = (List.range' (i - 32 + 1) (i - (i - 32))).map (kp user s) := by
    unfold keepL
    rw [← List.map_drop, List.drop_range']
    congr 2; omega
  rw [e, stop_run no]
  by_cases hc : ((i - 32 : Nat) : Int) + 1 ≤ no ∧ no ≤ i
  · rw [if_pos (by omega), if_pos hc]
  · rw [if_neg (by omega), if_neg hc]
end
theorem keep_bad {user : Int} {s : ByteArray} (h : ¬ (btw user 1 1048576 = true ∧ Tryd.mayR s = true)) (l : List Post) : addP l user s = ([], 1) := by
  unfold addP
  rw [if_pos (by
    by_cases h1 : btw user 1 1048576 = true
    · right
      simpa using fun h2 => h ⟨h1, h2⟩
    · left; simpa using h1)]
end Go.Proofs.YtifpfpiljionmaaDoor.F
