/- Chapter 11: the document's Components. Printed by walk.py from g7.walk.py. -/
import Derived.Test.YthccfgkklimebaaComps
set_option linter.unusedVariables false
set_option linter.unusedSimpArgs false
namespace Go.Proofs.Ythccfgkklimebaa.F
open Go Go.SX

noncomputable def allL (n : Int) (l : List (Int × Int)) (i : Nat) : List (List Bool) := (List.range i).map fun (a : Nat) => fromL n l (a : Int)
theorem allL_succ (n : Int) (l : List (Int × Int)) (i : Nat) : allL n l (i + 1) = allL n l i ++ [fromL n l i] := by simp [allL, List.range_succ]
theorem allL_length (n : Int) (l : List (Int × Int)) (i : Nat) : (allL n l i).length = i := by simp [allL]
theorem allL_get {n : Int} {l : List (Int × Int)} {k j : Nat} (hk : k < bN n) (hj : j < bN n) (h1 : k < (allL n l (bN n)).length) (h2 : j < ((allL n l (bN n))[k]).length) : ((allL n l (bN n))[k])[j] = rB n l k j := by
  have hT : isT n k = true := (isT_iff _ _).2 ⟨by omega, by omega⟩
  have e : (allL n l (bN n))[k] = (List.range (bN n)).map (rB n l k) := by simp [allL, fromL, hT]
  simp [e]
theorem allL_len {n : Int} {l : List (Int × Int)} {k : Nat} (h1 : k < (allL n l (bN n)).length) : ((allL n l (bN n))[k]).length = bN n := by simp [allL, fromL_length]

def I13 (n : Int) (l : List (Int × Int)) (m : Nat) (st : St) : Prop := ∃ i : Nat, i ≤ bN n ∧ m = bN n - i ∧ st = ⟨[(0, iv n), (1, .ro 2 (eds l)), (5, iv (bN n : Nat)), (6, .own 13030 1 0 i), (7, iv i)], [(13030, .arr 38 1 (bws (allL n l i)))], []⟩
/-- The document's state. -/
def st13 (n : Int) (A : List (List Bool)) (tl : List Bool) (out : List (List Nat)) (i : Nat) (s : Slots) (m : Mem) : St := ⟨(5, iv (bN n : Nat)) :: (6, .ro 1 (bws A)) :: (8, .own 13032 1 0 (bN n)) :: (9, .own 13121 1 0 out.length) :: (10, iv i) :: s, (13032, .arr 4 1 (bools tl)) :: (13121, .arr 29 1 (rws out)) :: m, []⟩
def I13b (n : Int) (l : List (Int × Int)) (A : List (List Bool)) (m : Nat) (st : St) : Prop := ∃ (i : Nat) (tl : List Bool) (out : List (List Nat)), i ≤ bN n ∧ tl.length = bN n ∧ (∀ v, v < i → tl.getD v false = true) ∧ out ++ rest (bN n) (rB n l) tl = compsL n l ∧ out.length + unset tl ≤ bN n ∧ m = (bN n - i) + unset tl ∧ st = st13 n A tl out i [] []
def atI (at_ : Option Nat) : Int := match at_ with | some q => (q : Int) | none => -1
def I13c (n : Int) (l : List (Int × Int)) (A : List (List Bool)) (tl : List Bool) (out : List (List Nat)) (i : Nat) (m : Nat) (st : St) : Prop := ∃ (k : Nat) (at_ : Option Nat), k ≤ bN n ∧ (∀ j, j < k → at_ ≠ some j → elig (bN n) (rB n l) tl j = false) ∧ (∀ q, at_ = some q → k = q + 1 ∧ elig (bN n) (rB n l) tl q = true) ∧ m = bN n - k ∧ st = st13 n A tl out i [(11, iv (atI at_)), (12, iv k)] []
def I13d (n : Int) (l : List (Int × Int)) (A : List (List Bool)) (tl : List Bool) (out : List (List Nat)) (i k : Nat) (m : Nat) (st : St) : Prop := ∃ (j : Nat) (ok : Bool), j ≤ bN n ∧ ok = (!tl.getD k false && (List.range j).all fun j => !(rB n l k j && !rB n l j k && !tl.getD j false)) ∧ m = bN n - j ∧ st = st13 n A tl out i [(11, iv (-1)), (12, iv k), (13, bv ok), (14, iv j)] []
def I13e (n : Int) (l : List (Int × Int)) (A : List (List Bool)) (tl : List Bool) (out : List (List Nat)) (i q : Nat) (m : Nat) (st : St) : Prop := ∃ (j : Nat) (tl' : List Bool), j ≤ bN n ∧ tl'.length = bN n ∧ (∀ v, v < bN n → tl'.getD v false = (tl.getD v false || (decide (v < j) && rB n l q v && rB n l v q))) ∧ m = bN n - j ∧
  st = st13 n A tl' out i [(11, iv (q : Int)), (15, .own 13114 1 0 ((List.range j).filter fun j => rB n l q j && rB n l j q).length), (16, iv j)] [(13114, .arr 3 1 (nats ((List.range j).filter fun j => rB n l q j && rB n l j q)))]

theorem c13 : chkFn Try.prog 13 123 2 a13 a13R = true := by kernel_rfl
set_option maxHeartbeats 8000000 in
/-- colloquy/colloquyref11.Components -/
theorem d13 (n : Int) (l : List (Int × Int)) (hl : l.length ≤ 1000000) : DoesT 13 [iv n, .ro 2 (eds l)] (.ro 1 (rws (compsL n l))) := by
  have hN := bN_le n
  have hNb : ((bN n : Nat) : Int) ≤ 281474976710656 := by omega
  refine Does.of (nt := 123) (ac := a13) (rds := a13R) c13 (fun c hc => ?_)
  unfold a13
  apply J.seq
  refine J.regE (by simp; rfl) ?_
  simp
  apply J.seq
  apply J.reg
  refine runL_step rfl (by simp; rfl) ?_
  refine runL_tree rfl (d23 n) (by simp) hc ?_
  simp
  refine runL_step rfl (by simp; rfl) ?_
  simp [runL]
  apply J.seq
  refine J.regE (by simp; rfl) ?_
  simp
  refine J.nilrow hc 6 13030 38 rfl rfl rfl ?_
  simp
  apply J.seq
  apply J.seq
  refine J.regE (by simp; rfl) ?_
  simp
  apply J.block
  refine J.loop hc (I13 n l) ?_ ?_
  · exact ⟨_, _, by apply le_sub <;> simp [allL], 0, by omega, rfl, rfl⟩
  rintro n st ⟨i, hi, rfl, rfl⟩
  apply J.seq
  apply J.seq
  refine J.regE (by simp; rfl) ?_
  simp
  apply J.cond; simp
  refine ⟨fun hlt => ?_, fun hlt => ?_⟩
  ·
    have hwi : IntKind.i64.wrap ((i : Int) + 1) = i + 1 := wrap_id (by omega) (by omega)
    apply J.skip; simp
    apply J.seq
    apply J.block
    apply J.reg
    iterate 4 refine runL_step rfl (by simp [allL_length, List.take_of_length_le, show (i + 1) * 24 ≤ 140737488355328 from by omega]; rfl) ?_
    refine runL_tree rfl (d24 n l i hl) (by simp) hc ?_
    simp
    iterate 3 refine runL_step rfl (by simp [allL_length, List.take_of_length_le, show (i + 1) * 24 ≤ 140737488355328 from by omega]; rfl) ?_
    simp [runL]
    refine J.regE (by simp [hwi]; rfl) ?_
    simp
    exact ⟨_, by omega, _, by apply le_sub <;> simp [allL_succ], i + 1, by omega, rfl, rfl⟩
  ·
    have : i = bN n := by omega
    subst this
    apply J.exit; simp
    apply J.seq
    refine J.freeze hc 13030 rfl ?_
    simp [allL_length, List.take_of_length_le]
    have hAl := allL_length n l (bN n)
    have hA1 : ∀ k (h : k < (allL n l (bN n)).length), ((allL n l (bN n))[k]).length = bN n := fun k h => allL_len h
    have hA2 : ∀ k j (hk : k < (allL n l (bN n)).length) (hj : j < ((allL n l (bN n))[k]).length), ((allL n l (bN n))[k])[j] = rB n l k j := fun k j hk hj => allL_get (by omega) (by rw [← hA1 k hk]; exact hj) hk hj
    generalize allL n l (bN n) = A at hAl hA1 hA2 ⊢
    refine J.regE (by simp [hNb, bools_zero]; rfl) ?_
    simp
    apply J.seq
    refine J.regE (by simp; rfl) ?_
    simp
    refine J.nilrow hc 9 13121 29 rfl rfl rfl ?_
    simp
    apply J.seq
    apply J.seq
    refine J.regE (by simp; rfl) ?_
    simp
    apply J.block
    refine J.loop hc (I13b n l A) ?_ ?_
    · refine ⟨_, _, ?_, 0, List.replicate (bN n) false, [], by omega, by simp, fun v hv => by omega, rfl, by simp [unset], rfl, rfl⟩
      apply le_sub <;> simp [st13]
    rintro n st ⟨i, tl, out, hi, htl, htold, hout, hol, rfl, rfl⟩
    unfold st13
    apply J.seq
    apply J.seq
    refine J.regE (by simp; rfl) ?_
    simp
    apply J.cond; simp
    refine ⟨fun hlt => ?_, fun hlt => ?_⟩
    ·
      have hwi : IntKind.i64.wrap ((i : Int) + 1) = i + 1 := wrap_id (by omega) (by omega)
      have hit : i < tl.length := by omega
      apply J.skip; simp
      apply J.block
      apply J.seq
      apply J.seq
      cases ht : tl[i]
      ·
        refine J.regE (by simp [hlt, hit, ht]; rfl) ?_
        simp
        apply J.cond; simp
        apply J.skip; simp
        apply J.seq
        refine J.regE (by simp; rfl) ?_
        simp
        apply J.seq
        apply J.seq
        refine J.regE (by simp; rfl) ?_
        simp
        apply J.block
        refine J.loop hc (I13c n l A tl out i) ?_ ?_
        · refine ⟨_, _, ?_, 0, none, by omega, (fun j hj => by omega), (fun q hq => by cases hq), rfl, rfl⟩
          apply le_sub <;> simp [st13, atI]
        rintro n st ⟨k, at_, hk, hno, hyes, rfl, rfl⟩
        unfold st13
        apply J.seq
        apply J.seq
        refine J.regJ ⟨[(5, iv (bN n : Nat)), (6, .ro 1 (bws A)), (8, .own 13032 1 0 (bN n)), (9, .own 13121 1 0 out.length), (10, iv i), (11, iv (atI at_)), (12, iv k), (48, bv (decide (k < bN n ∧ at_ = none)))], [(13032, .arr 4 1 (bools tl)), (13121, .arr 29 1 (rws out))], []⟩ ?_ ?_
        · rcases at_ with _ | q <;> by_cases hkl : k < bN n <;> exact ⟨_, by simp [hkl, atI]; rfl, by simp [hkl, atI]⟩
        simp [thenQ, blockQ, loopQ, scopeQ]
        apply J.cond; simp
        refine ⟨fun hgo => ?_, fun hgo => ?_⟩
        ·
          intro hat
          subst hat
          have hkl := hgo
          have hkt : k < tl.length := by omega
          have hkA : k < A.length := by omega
          have hwk : IntKind.i64.wrap ((k : Int) + 1) = k + 1 := wrap_id (by omega) (by omega)
          have hkg : tl.getD k false = tl[k] := by simp [hkt]
          apply J.skip; simp
          apply J.seq
          apply J.block
          apply J.seq
          refine J.regE (by simp [hkl, hkt]; rfl) ?_
          simp
          apply J.seq
          apply J.seq
          refine J.regE (by simp; rfl) ?_
          simp
          apply J.block
          refine J.loop hc (I13d n l A tl out i k) ?_ ?_
          · refine ⟨_, _, ?_, 0, !tl[k], by omega, by simp [hkt], rfl, rfl⟩
            apply le_sub <;> simp [st13, atI]
          rintro n st ⟨j, ok, hj, hok, rfl, rfl⟩
          unfold st13
          apply J.seq
          apply J.seq
          refine J.regE (by simp; rfl) ?_
          simp
          apply J.cond; simp
          refine ⟨fun hjl => ?_, fun hjl => ?_⟩
          ·
            have hwj : IntKind.i64.wrap ((j : Int) + 1) = j + 1 := wrap_id (by omega) (by omega)
            have hjt : j < tl.length := by omega
            have hjA : j < A.length := by omega
            have hjg : tl.getD j false = tl[j] := by simp [hjt]
            have hkj : j < A[k].length := by rw [hA1]; omega
            have hjk : k < A[j].length := by rw [hA1]; omega
            have a1 := hA2 k j hkA hkj
            have a2 := hA2 j k hjA hjk
            apply J.skip; simp
            apply J.seq
            apply J.block
            apply J.seq
            refine J.regJ ⟨[(5, iv (bN n : Nat)), (6, .ro 1 (bws A)), (8, .own 13032 1 0 (bN n)), (9, .own 13121 1 0 out.length), (10, iv i), (11, iv (-1)), (12, iv k), (13, bv ok), (14, iv j), (84, bv (rB n l k j && !rB n l j k && !tl[j]))], [(13032, .arr 4 1 (bools tl)), (13121, .arr 29 1 (rws out))], []⟩ ?_ ?_
            · cases h1 : rB n l k j <;> cases h2 : rB n l j k <;> cases h3 : tl[j] <;> rw [h1] at a1 <;> rw [h2] at a2  <;> (apply Exists.intro; apply And.intro; (iterate 24 refine evalL_step rfl (by simp [a1, a2, h3, hkA, hjA, hkj, hjk, hjt, hjl]; rfl) ?_); rfl; simp)
            simp [thenQ, blockQ, loopQ, scopeQ]
            apply J.cond; simp
            refine ⟨fun hb0 => ?_, fun hb0 => ?_⟩
            ·
              intro h2 h3
              have hb : (rB n l k j && !rB n l j k && !tl[j]) = true := by simp [hb0, h2, h3]
              refine J.regE (by simp; rfl) ?_
              simp
              refine J.regE (by simp [hwj]; rfl) ?_
              simp
              refine ⟨_, ?_, _, ?_, j + 1, false, by omega, ?_, rfl, rfl⟩
              · omega
              · apply le_sub <;> simp [st13]
              · rw [List.range_succ, List.all_append]; simp only [List.all_cons, List.all_nil, hjg, hb]; simp
            ·
              have hb : (rB n l k j && !rB n l j k && !tl[j]) = false := by cases h1 : rB n l k j <;> cases h2 : rB n l j k <;> cases h3 : tl[j] <;> simp_all
              apply J.skip; simp
              refine J.regE (by simp [hwj]; rfl) ?_
              simp
              refine ⟨_, ?_, _, ?_, j + 1, ok, by omega, ?_, rfl, rfl⟩
              · omega
              · apply le_sub <;> simp [st13]
              · rw [List.range_succ, List.all_append, ← Bool.and_assoc, ← hok]; simp only [List.all_cons, List.all_nil, hjg, hb]; simp
          ·
            have : j = bN n := by omega
            subst this
            apply J.exit; simp
            apply J.seq
            have hel : elig (bN n) (rB n l) tl k = ok := hok.symm
            cases ok
            rotate_left 1
            ·
              refine J.regE (by simp; rfl) ?_
              simp
              apply J.cond; simp
              refine J.regE (by simp; rfl) ?_
              simp
              refine J.regE (by simp [hwk]; rfl) ?_
              simp
              refine ⟨_, ?_, _, ?_, k + 1, some k, by omega, fun j hj hne => hno j (by simp at hne; omega) (by simp), fun q hq => ?_, rfl, rfl⟩
              · omega
              · apply le_sub <;> simp [st13, atI]
              · simp at hq; subst hq; exact ⟨rfl, hel⟩
            ·
              refine J.regE (by simp; rfl) ?_
              simp
              apply J.cond; simp
              apply J.skip; simp
              refine J.regE (by simp [hwk]; rfl) ?_
              simp
              refine ⟨_, ?_, _, ?_, k + 1, none, by omega, fun j hj hne => ?_, (fun q hq => by cases hq), rfl, rfl⟩
              · omega
              · apply le_sub <;> simp [st13, atI]
              · by_cases e : j = k
                · subst e; exact hel
                · exact hno j (by omega) (by simp)
        ·
          have hpick : pick (bN n) (rB n l) tl = at_ := by
            rcases at_ with _ | q
            · have : k = bN n := by simp at hgo; omega
              exact pick_none.2 (fun j hj => hno j (by omega) (by simp))
            · obtain ⟨h1, h2⟩ := hyes q rfl
              exact pick_some.2 ⟨h2, by omega, fun j hj => hno j (by omega) (by simp; omega)⟩
          apply J.exit; simp
          apply J.seq
          apply J.seq
          rcases at_ with _ | q
          ·
            refine J.regE (by simp [atI]; rfl) ?_
            simp
            apply J.cond; simp
            apply J.seq
            rw [rest_none hpick, List.append_nil] at hout
            refine J.freeze hc 13121 rfl ?_
            simp [List.take_of_length_le]
            refine J.regE (by simp; rfl) ?_
            simp
            apply J.ret
            refine ⟨by simp, rfl, _, [], by simp [a13R]; rfl, ?_⟩
            simp [hout]
          ·
            obtain ⟨hel, hql, hlow⟩ := pick_some.1 hpick
            have hqA : q < A.length := by omega
            refine J.regE (by simp [atI, show ¬ ((q : Nat) : Int) < 0 from by omega]; rfl) ?_
            simp
            apply J.cond; simp
            apply J.skip; simp
            apply J.seq
            refine J.regE (by simp; rfl) ?_
            simp
            refine J.nilrow hc 15 13114 3 rfl rfl rfl ?_
            simp
            apply J.seq
            apply J.seq
            refine J.regE (by simp; rfl) ?_
            simp
            apply J.block
            refine J.loop hc (I13e n l A tl out i q) ?_ ?_
            · refine ⟨_, _, ?_, 0, tl, by omega, htl, fun v hv => by simp, rfl, rfl⟩
              apply le_sub <;> simp [st13, atI]
            rintro n st ⟨j, tl', hj, htl', hmk, rfl, rfl⟩
            unfold st13
            apply J.seq
            apply J.seq
            refine J.regE (by simp; rfl) ?_
            simp
            apply J.cond; simp
            refine ⟨fun hjl => ?_, fun hjl => ?_⟩
            ·
              have hwj : IntKind.i64.wrap ((j : Int) + 1) = j + 1 := wrap_id (by omega) (by omega)
              have hjt : j < tl'.length := by omega
              have hjA : j < A.length := by omega
              have hqj : j < A[q].length := by rw [hA1]; omega
              have hjq : q < A[j].length := by rw [hA1]; omega
              have a1 := hA2 q j hqA hqj
              have a2 := hA2 j q hjA hjq
              apply J.skip; simp
              apply J.seq
              apply J.block
              apply J.seq
              refine J.regJ ⟨[(5, iv (bN n : Nat)), (6, .ro 1 (bws A)), (8, .own 13032 1 0 (bN n)), (9, .own 13121 1 0 out.length), (10, iv i), (11, iv (q : Int)), (15, .own 13114 1 0 ((List.range j).filter fun j => rB n l q j && rB n l j q).length), (16, iv j), (110, bv (rB n l q j && rB n l j q))], [(13032, .arr 4 1 (bools tl')), (13121, .arr 29 1 (rws out)), (13114, .arr 3 1 (nats ((List.range j).filter fun j => rB n l q j && rB n l j q)))], []⟩ ?_ ?_
              · cases h1 : rB n l q j <;> cases h2 : rB n l j q <;> rw [h1] at a1 <;> rw [h2] at a2  <;> (apply Exists.intro; apply And.intro; (iterate 16 refine evalL_step rfl (by simp [a1, a2, hqA, hjA, hqj, hjq, hjl]; rfl) ?_); rfl; simp)
              simp [thenQ, blockQ, loopQ, scopeQ]
              apply J.cond; simp
              refine ⟨fun hb => ?_, fun hb => ?_⟩
              ·
                intro hb2
                apply J.seq
                refine J.regE (by simp [List.take_of_length_le, show (((List.range j).filter fun j => rB n l q j && rB n l j q).length + 1) * 8 ≤ 140737488355328 from by have := List.length_filter_le (fun j => rB n l q j && rB n l j q) (List.range j); simp at this; omega]; rfl) ?_
                simp
                refine J.regE (by simp [hjl, hjt]; rfl) ?_
                simp
                refine J.regE (by simp [hwj]; rfl) ?_
                simp
                have hfs : (List.range (j + 1)).filter (fun j => rB n l q j && rB n l j q) = (List.range j).filter (fun j => rB n l q j && rB n l j q) ++ [j] := by rw [List.range_succ, List.filter_append]; simp [hb, hb2]
                refine ⟨_, ?_, _, ?_, j + 1, tl'.set j true, by omega, by simp [htl'], fun v hv => ?_, rfl, rfl⟩
                · omega
                · apply le_sub <;> simp [st13, hfs]
                · by_cases e : v = j
                  · subst e; simp [hjt, hb, hb2]
                  · have h1 := hmk v hv
                    simp only [List.getD_eq_getElem?_getD, List.getElem?_set_ne (Ne.symm e)] at h1 ⊢
                    rw [h1]; simp [show v < j + 1 ↔ v < j by omega]
              ·
                have hb3 : (rB n l q j && rB n l j q) = false := by cases h1 : rB n l q j <;> cases h2 : rB n l j q <;> simp_all
                apply J.skip; simp
                refine J.regE (by simp [hwj]; rfl) ?_
                simp
                have hfs : (List.range (j + 1)).filter (fun j => rB n l q j && rB n l j q) = (List.range j).filter (fun j => rB n l q j && rB n l j q) := by rw [List.range_succ, List.filter_append]; simp only [List.filter_cons, hb3]; simp
                refine ⟨_, ?_, _, ?_, j + 1, tl', by omega, htl', fun v hv => ?_, rfl, rfl⟩
                · omega
                · apply le_sub <;> simp [st13, hfs]
                · rw [hmk v hv]
                  by_cases e : v = j
                  · subst e; simp [hb3]
                  · simp [show v < j + 1 ↔ v < j by omega]
            ·
              have : j = bN n := by omega
              subst this
              have hmark : tl' = mark (bN n) (rB n l) tl q := by
                apply List.ext_getElem
                · rw [htl', mark_length]
                · intro v h1 h2
                  have h3 := hmk v (by omega)
                  have h4 := mark_getD (N := bN n) (R := rB n l) (tl := tl) (k := q) (v := v) (by omega)
                  have e1 : tl'.getD v false = tl'[v] := by simp [h1]
                  have e2 : (mark (bN n) (rB n l) tl q).getD v false = (mark (bN n) (rB n l) tl q)[v] := by simp [h2]
                  rw [← e1, ← e2, h3, h4]
                  simp [show v < bN n by omega]
              subst hmark
              apply J.exit; simp
              refine J.freeze hc 13114 rfl ?_
              simp [List.take_of_length_le]
              refine J.regE (by simp [List.take_of_length_le, show (out.length + 1) * 24 ≤ 140737488355328 from by omega]; rfl) ?_
              simp
              have hm := unset_mark htl (rB_refl n l q) hpick
              rw [rest_some (rB_refl n l) htl hpick] at hout
              refine ⟨_, ?_, _, ?_, i, mark (bN n) (rB n l) tl q, out ++ [cls (bN n) (rB n l) q], hi, mark_length _ _, (fun v hv => by rw [mark_getD (by omega), htold v hv]; rfl), by rw [List.append_assoc]; exact hout, by simp; omega, rfl, rfl⟩
              · omega
              · apply le_sub <;> simp [st13, cls]
      ·
        refine J.regE (by simp [hlt, hit, ht]; rfl) ?_
        simp
        apply J.cond; simp
        apply J.seq
        refine J.regE (by simp [hwi]; rfl) ?_
        simp
        apply J.exit; simp
        refine ⟨_, ?_, _, ?_, i + 1, tl, out, by omega, htl, fun v hv => ?_, hout, hol, rfl, rfl⟩
        · omega
        · apply le_sub <;> simp [st13]
        · by_cases e : v = i
          · subst e; simp [hit, ht]
          · exact htold v (by omega)
    ·
      have : i = bN n := by omega
      subst this
      have hpn : pick (bN n) (rB n l) tl = none := pick_none.2 (fun k hk => by have := htold k hk; cases he : elig (bN n) (rB n l) tl k; rfl; have := (elig_iff.1 he).1; simp_all)
      rw [rest_none hpn, List.append_nil] at hout
      subst hout
      apply J.exit; simp
      apply J.seq
      refine J.freeze hc 13121 rfl ?_
      simp [List.take_of_length_le]
      refine J.regE (by simp; rfl) ?_
      simp
      apply J.ret
      refine ⟨by simp, rfl, _, [], by simp [a13R]; rfl, ?_⟩
      simp

end Go.Proofs.Ythccfgkklimebaa.F
