/- Chapter 11: graph.Closure, graph.Reaches. Printed by walk.py from g4.walk.py. -/
import Derived.Test.YthccfgkklimebaaD5
set_option linter.unusedVariables false
set_option linter.unusedSimpArgs false
namespace Go.Proofs.Ythccfgkklimebaa.F
open Go Go.SX

theorem toL_length (n : Int) (l : List (Int × Int)) : (toL n l).length = bN n := by simp [toL]
theorem mem_succ {n : Int} {l : List (Int × Int)} {a b : Nat} : b ∈ succ n l l.length a ↔ b < bN n ∧ ((a : Int), (b : Int)) ∈ l := by
  simp only [succ, List.take_length, List.mem_filterMap]
  constructor
  · rintro ⟨⟨x, y⟩, he, h⟩
    split at h
    · rename_i hc
      obtain ⟨rfl, hy⟩ := hc
      obtain ⟨h1, h2⟩ := (isT_iff _ _).1 hy
      injection h with h
      subst h
      refine ⟨by simp only; omega, ?_⟩
      have : ((y.toNat : Nat) : Int) = y := by simp only at h1; omega
      simp only [this]; exact he
    · cases h
  · rintro ⟨hb, he⟩
    refine ⟨_, he, ?_⟩
    rw [if_pos ⟨rfl, (isT_iff _ _).2 ⟨by omega, by omega⟩⟩]
    simp
theorem mem_to {n : Int} {l : List (Int × Int)} {a b : Nat} (ha : a < (toL n l).length) : b ∈ (toL n l)[a] ↔ eN n l a b := by
  have ha' : a < bN n := by rw [← toL_length n l]; exact ha
  simp only [toL, List.getElem_map, List.getElem_range, mem_succ, eN]
  simp [ha']

/-- What the closure's stack keeps true: of 'i', whose successors are looked at, 'd' are done. -/
structure Stk (n : Int) (l : List (Int × Int)) (a : Nat) (seen : List Bool) (stk : List Nat) (i d : Nat) : Prop where
  part : Part n l a seen
  sz : stk.length + unset seen ≤ bN n
  instk : ∀ v ∈ stk, seen.getD v false = true ∧ v < bN n
  done : ∀ u v : Nat, eN n l u v → seen.getD u false = true → u ∉ stk → u ≠ i → seen.getD v false = true
  top : ∀ r, (toL n l)[i]? = some r → ∀ v ∈ r.take d, seen.getD v false = true
  own : i < bN n → seen.getD i false = true

theorem clos_none {n : Int} {l : List (Int × Int)} {a : Int} (h : isT n a = false) : clos n l a = [] := by
  unfold clos fromL pk
  rw [h]
  simp [List.getElem?_replicate]
  intro i hi
  split <;> rfl
theorem mem_clos {n : Int} {l : List (Int × Int)} {a : Int} {v : Nat} : v ∈ clos n l a ↔ v < bN n ∧ isT n a = true ∧ rB n l a.toNat v = true := by
  unfold clos fromL pk
  simp only [List.mem_filter, List.mem_range]
  constructor
  · rintro ⟨h1, h2⟩
    cases h : isT n a
    · rw [h] at h2; simp [List.getElem?_replicate, h1] at h2
    · rw [h] at h2; simp [h1] at h2; exact ⟨h1, rfl, h2⟩
  · rintro ⟨h1, h2, h3⟩
    rw [h2]; simp [h1, h3]
theorem clos_length (n : Int) (l : List (Int × Int)) (a : Int) : (clos n l a).length ≤ 100 := Nat.le_trans (pk_length _ _) (bN_le n)
theorem contains_clos (n : Int) (l : List (Int × Int)) (a b : Int) : decide (∃ y ∈ clos n l a, (y : Int) = b) = reB n l a b := by
  rw [Bool.eq_iff_iff]
  simp only [decide_eq_true_eq, reB, Bool.and_eq_true, mem_clos]
  constructor
  · rintro ⟨y, ⟨h1, h2, h3⟩, rfl⟩
    exact ⟨h2, (isT_iff _ _).2 ⟨by omega, by omega⟩, h3⟩
  · rintro ⟨h1, h2, h3⟩
    obtain ⟨g1, g2⟩ := (isT_iff _ _).1 h2
    exact ⟨b.toNat, ⟨by omega, h1, h3⟩, by omega⟩

theorem getD_set {l : List Bool} {k v : Nat} (h : l.getD v false = true) : (l.set k true).getD v false = true := by
  by_cases e : k = v
  · subst e
    have : k < l.length := by
      rcases Nat.lt_or_ge k l.length with h' | h'
      · exact h'
      · simp [List.getElem?_eq_none h'] at h
    simp [this]
  · simpa [List.getD_eq_getElem?_getD, List.getElem?_set_ne e] using h

theorem Stk.start {n : Int} {l : List (Int × Int)} {a : Nat} (ha : a < bN n) : Stk n l a ((List.replicate (bN n) false).set a true) [a] (bN n) 0 where
  part := Part.start ha
  sz := by
    have := unset_set (out := List.replicate (bN n) false) (v := a) (by simpa using ha) (by simp)
    simp [unset] at this ⊢
    omega
  instk v hv := by
    simp at hv; subst hv
    exact ⟨(Part.start (l := l) ha).own, ha⟩
  done u v he hu hn _ := by
    exfalso; apply hn
    by_cases e : u = a
    · simp [e]
    · simp [List.getD_eq_getElem?_getD, List.getElem?_set_ne (Ne.symm e), List.getElem?_replicate] at hu
      split at hu <;> simp at hu
  top r _ v hv := by simp at hv
  own h := by omega
theorem Stk.pop {n : Int} {l : List (Int × Int)} {a v : Nat} {seen : List Bool} {K : List Nat} (h : Stk n l a seen (K ++ [v]) (bN n) 0) : Stk n l a seen K v 0 where
  part := h.part
  sz := by have := h.sz; simp at this; omega
  instk u hu := h.instk u (by simp [hu])
  done u w he hu hn hv := h.done u w he hu (by simp [hn, hv]) (by have := he.1; omega)
  top r _ w hw := by simp at hw
  own _ := (h.instk v (by simp)).1
theorem Stk.seen {n : Int} {l : List (Int × Int)} {a v j : Nat} {seen : List Bool} {K r : List Nat} (h : Stk n l a seen K v j) (hr : (toL n l)[v]? = some r) (hj : j < r.length) (hs : seen.getD r[j] false = true) : Stk n l a seen K v (j + 1) := by
  refine { h with top := fun r' hr' w hw => ?_ }
  rw [hr] at hr'; injection hr' with hr'; subst hr'
  rw [List.take_add_one, List.getElem?_eq_getElem hj] at hw
  rcases List.mem_append.1 hw with hw | hw
  · exact h.top _ hr w hw
  · simp at hw; rw [hw]; exact hs
theorem Stk.push {n : Int} {l : List (Int × Int)} {a v j : Nat} {seen : List Bool} {K r : List Nat} (h : Stk n l a seen K v j) (hr : (toL n l)[v]? = some r) (hj : j < r.length) (hs : r[j] < seen.length) (h0 : seen[r[j]] = false) : Stk n l a (seen.set r[j] true) (K ++ [r[j]]) v (j + 1) := by
  have hv : v < (toL n l).length := (List.getElem?_eq_some_iff.1 hr).1
  have he : eN n l v r[j] := (mem_to hv).1 (by rw [(List.getElem?_eq_some_iff.1 hr).2]; exact List.getElem_mem hj)
  have hvs : seen.getD v false = true := h.own (by rw [← toL_length n l]; exact hv)
  have hun := unset_set hs h0
  have hmem : ∀ w, (seen.set r[j] true).getD w false = true → w = r[j] ∨ seen.getD w false = true := by
    intro w hw
    by_cases e : w = r[j]
    · exact .inl e
    · right
      simpa [List.getD_eq_getElem?_getD, List.getElem?_set_ne (Ne.symm e)] using hw
  refine ⟨h.part.more hvs he, by have := h.sz; simp; omega, fun w hw => ?_, fun u w hw hu hn hne => ?_, fun r' hr' w hw => ?_, fun hb => getD_set (h.own hb)⟩
  · rcases List.mem_append.1 hw with hw | hw
    · exact ⟨getD_set (h.instk w hw).1, (h.instk w hw).2⟩
    · simp at hw; subst hw; exact ⟨by simp [hs], he.2.1⟩
  · rcases hmem u hu with e | hu'
    · exact absurd (by simp [e]) hn
    · exact getD_set (h.done u w hw hu' (fun hk => hn (by simp [hk])) hne)
  · rw [hr] at hr'; injection hr' with hr'; subst hr'
    rw [List.take_add_one, List.getElem?_eq_getElem hj] at hw
    rcases List.mem_append.1 hw with hw | hw
    · exact getD_set (h.top _ hr w hw)
    · simp at hw; rw [hw]; simp [hs]
theorem Stk.fin {n : Int} {l : List (Int × Int)} {a v : Nat} {seen : List Bool} {K r : List Nat} (h : Stk n l a seen K v r.length) (hr : (toL n l)[v]? = some r) : Stk n l a seen K (bN n) 0 := by
  refine { h with done := fun u w he hu hn _ => ?_, top := fun r' _ w hw => by simp at hw, own := fun hb => by omega }
  by_cases e : u = v
  · subst e
    have hv : u < (toL n l).length := (List.getElem?_eq_some_iff.1 hr).1
    refine h.top r hr w ?_
    rw [List.take_length, ← (List.getElem?_eq_some_iff.1 hr).2, mem_to hv]
    exact he
  · exact h.done u w he hu hn e
theorem Stk.eq {n : Int} {l : List (Int × Int)} {a : Nat} {seen : List Bool} (h : Stk n l a seen [] (bN n) 0) : seen = fromL n l a :=
  h.part.eq (fun u v he hu => h.done u v he hu (by simp) (by have := he.1; omega))

def stK (n : Int) (l : List (Int × Int)) (seen : List Bool) (stk : List Nat) (s : Slots) : St := ⟨(7, .ro 1 (rws (toL n l))) :: (8, .own 15029 1 0 (bN n)) :: (9, .own 15034 1 0 stk.length) :: s, [(15029, .arr 4 1 (bools seen)), (15034, .arr 3 1 (nats stk))], []⟩
def I15 (n : Int) (l : List (Int × Int)) (a : Nat) (m : Nat) (st : St) : Prop := ∃ seen stk, Stk n l a seen stk (bN n) 0 ∧ m = 2 * unset seen + stk.length ∧ st = stK n l seen stk []
def I15b (n : Int) (l : List (Int × Int)) (a v m0 : Nat) (r : List Nat) (m : Nat) (st : St) : Prop := ∃ (seen : List Bool) (stk : List Nat) (j : Nat), j ≤ r.length ∧ Stk n l a seen stk v j ∧ 2 * unset seen + stk.length < m0 ∧ m = r.length - j ∧ st = stK n l seen stk [(52, .ro 1 (nats r)), (53, iv r.length), (54, iv j)]
def I15c (x : List Bool) (m : Nat) (st : St) : Prop := ∃ i : Nat, i ≤ x.length ∧ m = x.length - i ∧ st = ⟨[(13, .own 15082 1 0 (pk x i).length), (71, .ro 1 (bools x)), (72, iv x.length), (73, iv i)], [(15082, .arr 3 1 (nats (pk x i)))], []⟩

theorem c15 : chkFn Try.prog 15 85 3 a15 a15R = true := by kernel_rfl
/-- colloquy/graph.Closure -/
theorem d15 (n : Int) (l : List (Int × Int)) (a : Int) (hl : l.length ≤ 1000000) : DoesT 15 [iv n, .ro 2 (eds l), iv a] (.ro 1 (nats (clos n l a))) := by
  have hN := bN_le n
  have hNb : ((bN n : Nat) : Int) ≤ 281474976710656 := by omega
  have htl := toL_length n l
  refine Does.of (nt := 85) (ac := a15) (rds := a15R) c15 (fun c hc => ?_)
  unfold a15
  apply J.seq
  refine J.regE (by simp; rfl) ?_
  simp
  apply J.seq
  apply J.reg
  iterate 2 refine runL_step rfl (by simp; rfl) ?_
  refine runL_tree rfl (d20 n l hl) (by simp) hc ?_
  simp
  refine runL_step rfl (by simp; rfl) ?_
  simp [runL]
  apply J.seq
  apply J.seq
  by_cases h0 : a < 0
  rotate_left 1
  by_cases h1 : ((bN n : Nat) : Int) ≤ a
  rotate_left 1
  ·
    apply J.reg
    iterate 8 refine runL_step rfl (by simp [h0, h1, htl]; rfl) ?_
    simp [runL]
    apply J.cond; simp
    apply J.skip; simp
    apply J.seq
    refine J.regE (by simp [htl, hNb, bools_zero]; rfl) ?_
    simp
    apply J.seq
    obtain ⟨a, rfl⟩ := Int.eq_ofNat_of_zero_le (by omega : 0 ≤ a)
    have ha : a < bN n := by omega
    refine J.regE (by simp [ha]; rfl) ?_
    simp
    apply J.seq
    apply J.seq
    refine J.regE (by simp; rfl) ?_
    simp
    have hS := Part.start (l := l) ha
    apply J.block
    refine J.loop hc (I15 n l a) ?_ ?_
    · refine ⟨_, _, ?_, _, [a], Stk.start ha, rfl, rfl⟩
      apply le_sub <;> simp [stK, nats]
    rintro n st ⟨seen, stk, hK, rfl, rfl⟩
    unfold stK
    apply J.seq
    apply J.seq
    refine J.regE (by simp; rfl) ?_
    simp
    apply J.cond; simp
    refine ⟨fun hpos => ?_, fun hpos => ?_⟩
    ·
      obtain ⟨K, v, rfl⟩ : ∃ K v, stk = K ++ [v] := ⟨stk.dropLast, stk.getLast (by intro e; subst e; simp at hpos), (List.dropLast_concat_getLast _).symm⟩
      obtain ⟨hsv, hv⟩ := hK.instk v (by simp)
      have hlen := hK.part.len
      have hsz := hK.sz
      simp at hsz
      have hkl : K.length ≤ 100 := by omega
      have hwk : IntKind.i64.wrap ((K.length : Int)) = K.length := wrap_id (by omega) (by omega)
      have hklt : (K.length : Int) < (K.length : Int) + 1 := by omega
      have hkle : (K.length : Int) ≤ (K.length : Int) + 1 := by omega
      apply J.skip; simp
      apply J.block
      apply J.seq
      refine J.regE (by simp [hwk, hklt]; rfl) ?_
      simp
      apply J.seq
      refine J.regE (by simp [hwk, hkle]; rfl) ?_
      simp
      refine J.le hc (le_trunc (b := 15034) (k := K.length) rfl) ?_
      simp
      apply J.seq
      refine J.regE (by simp [hv, htl]; rfl) ?_
      simp
      have hr : (toL n l)[v]? = some ((toL n l)[v]'(by rw [htl]; exact hv)) := List.getElem?_eq_getElem (by rw [htl]; exact hv)
      have hrs : ∀ x ∈ (toL n l)[v]'(by rw [htl]; exact hv), x < bN n := fun x hx => ((mem_to (by rw [htl]; exact hv)).1 hx).2.1
      have hrl : ((toL n l)[v]'(by rw [htl]; exact hv)).length ≤ 1000000 := by simp only [toL, List.getElem_map, List.getElem_range]; exact Nat.le_trans (succ_length _ _ _ _) hl
      generalize (toL n l)[v]'(by rw [htl]; exact hv) = r at hr hrs hrl ⊢
      apply J.block
      refine J.loop hc (I15b n l a v (2 * unset seen + (K ++ [v]).length) r) ?_ ?_
      · refine ⟨_, _, ?_, seen, K, 0, by omega, hK.pop, by simp, rfl, rfl⟩
        apply le_sub <;> simp [stK]
      rintro n st ⟨seen, stk, j, hj, hK, hm, rfl, rfl⟩
      simp at hm
      unfold stK
      apply J.seq
      refine J.regE (by simp; rfl) ?_
      simp
      apply J.seq
      apply J.cond; simp
      refine ⟨fun hjl => ?_, fun hjl => ?_⟩
      ·
        have hw : IntKind.i64.wrap ((j : Int) + 1) = j + 1 := wrap_id (by omega) (by omega)
        have hk := hrs r[j] (List.getElem_mem hjl)
        have hlen := hK.part.len
        have hks : r[j] < seen.length := by omega
        apply J.skip; simp
        apply J.seq
        apply J.block
        apply J.seq
        refine J.regE (by simp [hjl]; rfl) ?_
        simp
        apply J.seq
        cases h0 : seen[r[j]]
        ·
          refine J.regE (by simp [hk, hks, h0]; rfl) ?_
          simp
          apply J.cond; simp
          apply J.seq
          refine J.regE (by simp [hk, hks]; rfl) ?_
          simp
          have hsz := hK.sz
          refine J.regE (by simp [List.take_of_length_le, show (stk.length + 1) * 8 ≤ 140737488355328 from by omega]; rfl) ?_
          simp
          refine J.regE (by simp [hw]; rfl) ?_
          simp
          refine ⟨_, by omega, _, ?_, seen.set r[j] true, stk ++ [r[j]], j + 1, by omega, hK.push hr hjl hks h0, by have := unset_set hks h0; simp; omega, rfl, rfl⟩
          apply le_sub <;> simp [stK]
        ·
          have hs : seen.getD r[j] false = true := by simp [hks, h0]
          refine J.regE (by simp [hk, hks, h0]; rfl) ?_
          simp
          apply J.cond; simp
          apply J.skip; simp
          refine J.regE (by simp [hw]; rfl) ?_
          simp
          refine ⟨_, by omega, _, ?_, seen, stk, j + 1, by omega, hK.seen hr hjl hs, hm, rfl, rfl⟩
          apply le_sub <;> simp [stK]
      ·
        have : j = r.length := by omega
        subst this
        apply J.exit; simp
        refine ⟨_, hm, _, ?_, seen, stk, hK.fin hr, rfl, rfl⟩
        apply le_sub <;> simp [stK]
    ·
      have hst : stk = [] := by simpa using hpos
      subst hst
      have hsl := hK.part.len
      have hseen := hK.eq
      apply J.exit; simp
      apply J.seq
      refine J.freeze hc 15029 rfl ?_
      have e1 : bN n ≤ seen.length := by omega
      have e2 : List.take (bN n) seen = seen := List.take_of_length_le (by omega)
      simp [e1, e2]
      refine J.regE (by simp; rfl) ?_
      simp
      refine J.nilrow hc 13 15082 3 rfl rfl rfl ?_
      simp
      apply J.seq
      apply J.seq
      refine J.regE (by simp; rfl) ?_
      simp
      rw [hseen]
      apply J.block
      refine J.loop hc (I15c (fromL n l a)) ?_ ?_
      · refine ⟨_, _, ?_, 0, by omega, rfl, rfl⟩
        apply le_sub <;> simp [pk]
      rintro n st ⟨i, hi, rfl, rfl⟩
      apply J.seq
      refine J.regE (by simp; rfl) ?_
      simp
      apply J.seq
      apply J.cond; simp
      refine ⟨fun hlt => ?_, fun hlt => ?_⟩
      ·
        have hfl := fromL_length n l a
        have hw : IntKind.i64.wrap ((i : Int) + 1) = i + 1 := wrap_id (by omega) (by omega)
        have hb := pk_length (fromL n l a) i
        have hget : (fromL n l a).getD i false = (fromL n l a)[i] := by simp [hlt]
        apply J.skip; simp
        apply J.seq
        apply J.block
        apply J.seq
        have hpk := pk_succ (fromL n l a) i
        rw [hget] at hpk
        cases hx : (fromL n l a)[i] <;> simp [hx] at hpk
        ·
          refine J.regE (by simp [hlt, hx]; rfl) ?_
          simp
          apply J.seq
          refine J.regE (by simp; rfl) ?_
          simp
          apply J.cond; simp
          apply J.skip; simp
          refine J.regE (by simp [hw]; rfl) ?_
          simp
          exact ⟨_, by omega, _, by apply le_sub <;> simp [hpk], i + 1, by omega, rfl, rfl⟩
        ·
          refine J.regE (by simp [hlt, hx]; rfl) ?_
          simp
          apply J.seq
          refine J.regE (by simp; rfl) ?_
          simp
          apply J.cond; simp
          refine J.regE (by simp [show ((pk (fromL n l a) i).length + 1) * 8 ≤ 140737488355328 from by omega, List.take_of_length_le]; rfl) ?_
          simp
          refine J.regE (by simp [hw]; rfl) ?_
          simp
          exact ⟨_, by omega, _, by apply le_sub <;> simp [hpk], i + 1, by omega, rfl, rfl⟩
      ·
        have : i = (fromL n l a).length := by omega
        subst this
        apply J.exit; simp
        apply J.seq
        refine J.freeze hc 15082 rfl ?_
        simp
        refine J.regE (by simp; rfl) ?_
        simp
        apply J.ret
        refine ⟨by simp, rfl, _, [], by simp [a15R]; rfl, ?_⟩
        simp [clos, List.take_of_length_le, fromL_length]
  ·
    apply J.reg
    iterate 8 refine runL_step rfl (by simp [h0, htl]; rfl) ?_
    simp [runL]
    apply J.cond; simp
    apply J.seq
    refine J.regE (by simp; rfl) ?_
    simp
    refine J.nilrow hc 6 15082 3 rfl rfl rfl ?_
    simp
    refine J.freeze hc 15082 rfl ?_
    simp
    apply J.ret
    refine ⟨by simp, rfl, _, [], by simp [a15R]; rfl, ?_⟩
    simp [clos_none (n := n) (l := l) (a := a) (by simp [isT]; omega)]
  ·
    apply J.reg
    iterate 8 refine runL_step rfl (by simp [h0, h1, htl]; rfl) ?_
    simp [runL]
    apply J.cond; simp
    apply J.seq
    refine J.regE (by simp; rfl) ?_
    simp
    refine J.nilrow hc 6 15082 3 rfl rfl rfl ?_
    simp
    refine J.freeze hc 15082 rfl ?_
    simp
    apply J.ret
    refine ⟨by simp, rfl, _, [], by simp [a15R]; rfl, ?_⟩
    simp [clos_none (n := n) (l := l) (a := a) (by simp [isT]; omega)]

theorem c17 : chkFn Try.prog 17 15 4 a17 a17R = true := by kernel_rfl
/-- colloquy/graph.Reaches -/
theorem d17 (n : Int) (l : List (Int × Int)) (a b : Int) (hl : l.length ≤ 1000000) : DoesT 17 [iv n, .ro 2 (eds l), iv a, iv b] (bv (reB n l a b)) := by
  refine Does.of (nt := 15) (ac := a17) (rds := a17R) c17 (fun c hc => ?_)
  unfold a17
  apply J.seq
  refine J.regE (by simp; rfl) ?_
  simp
  apply J.seq
  apply J.reg
  iterate 3 refine runL_step rfl (by simp; rfl) ?_
  refine runL_tree rfl (d15 n l a hl) (by simp) hc ?_
  simp
  refine runL_step rfl (by simp; rfl) ?_
  refine runL_tree rfl (d25 (clos n l a) b (by have := clos_length n l a; omega)) (by simp) hc ?_
  simp
  refine runL_step rfl (by simp; rfl) ?_
  simp [runL]
  apply J.ret
  refine ⟨by simp, rfl, _, [], by simp [a17R]; rfl, ?_⟩
  simp [contains_clos]

end Go.Proofs.Ythccfgkklimebaa.F
