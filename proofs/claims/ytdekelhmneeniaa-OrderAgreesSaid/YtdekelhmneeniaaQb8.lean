/- Parts of a symbolic execution and of walks by it, for the statements of this seat: PD7, W5, SxSo, Shelf, Sr, W6, W7, W8. -/
import Derived.Test.YtdekelhmneeniaaQb7
import Derived.Shelf.SlSortCmp.NoneTotal
import Derived.Test.YtdekelhmneeniaaProg
import Derived.Ground.SlsfProg
import Derived.Ground.NamesProg
set_option linter.unusedVariables false
set_option linter.unusedSimpArgs false
namespace Go.Proofs.Ytdekelhmneeniaa.P11
open Go Go.SX
noncomputable def allL (n : Int) (l : List (Int × Int)) (i : Nat) : List (List Bool) := (List.range i).map fun (a : Nat) => fromL n l (a : Int)
theorem allL_succ (n : Int) (l : List (Int × Int)) (i : Nat) : allL n l (i + 1) = allL n l i ++ [fromL n l i] := by simp [allL, List.range_succ]
theorem allL_length (n : Int) (l : List (Int × Int)) (i : Nat) : (allL n l i).length = i := by simp [allL]
theorem allL_get {n : Int} {l : List (Int × Int)} {k j : Nat} (hk : k < bN n) (hj : j < bN n) (h1 : k < (allL n l (bN n)).length) (h2 : j < ((allL n l (bN n))[k]).length) : ((allL n l (bN n))[k])[j] = rB n l k j := by
  have hT : isT n k = true := (isT_iff _ _).2 ⟨by omega, by omega⟩
  have e : (allL n l (bN n))[k] = (List.range (bN n)).map (rB n l k) := by simp [allL, fromL, hT]
  simp [e]
theorem allL_len {n : Int} {l : List (Int × Int)} {k : Nat} (h1 : k < (allL n l (bN n)).length) : ((allL n l (bN n))[k]).length = bN n := by simp [allL, fromL_length]
def I13 (n : Int) (l : List (Int × Int)) (m : Nat) (st : St) : Prop := ∃ i : Nat, i ≤ bN n ∧ m = bN n - i ∧ st = ⟨[(0, iv n), (1, .ro 2 (eds l)), (5, iv (bN n : Nat)), (6, .own 13030 1 0 i), (7, iv i)], [(13030, .arr 41 1 (bws (allL n l i)))], []⟩
def st13 (n : Int) (A : List (List Bool)) (tl : List Bool) (out : List (List Nat)) (i : Nat) (s : Slots) (m : Mem) : St := ⟨(5, iv (bN n : Nat)) :: (6, .ro 1 (bws A)) :: (8, .own 13032 1 0 (bN n)) :: (9, .own 13121 1 0 out.length) :: (10, iv i) :: s, (13032, .arr 4 1 (bools tl)) :: (13121, .arr 26 1 (rws out)) :: m, []⟩
def I13b (n : Int) (l : List (Int × Int)) (A : List (List Bool)) (m : Nat) (st : St) : Prop := ∃ (i : Nat) (tl : List Bool) (out : List (List Nat)), i ≤ bN n ∧ tl.length = bN n ∧ (∀ v, v < i → tl.getD v false = true) ∧ out ++ rest (bN n) (rB n l) tl = compsL n l ∧ out.length + unset tl ≤ bN n ∧ m = (bN n - i) + unset tl ∧ st = st13 n A tl out i [] []
def atI (at_ : Option Nat) : Int := match at_ with | some q => (q : Int) | none => -1
def I13c (n : Int) (l : List (Int × Int)) (A : List (List Bool)) (tl : List Bool) (out : List (List Nat)) (i : Nat) (m : Nat) (st : St) : Prop := ∃ (k : Nat) (at_ : Option Nat), k ≤ bN n ∧ (∀ j, j < k → at_ ≠ some j → elig (bN n) (rB n l) tl j = false) ∧ (∀ q, at_ = some q → k = q + 1 ∧ elig (bN n) (rB n l) tl q = true) ∧ m = bN n - k ∧ st = st13 n A tl out i [(11, iv (atI at_)), (12, iv k)] []
def I13d (n : Int) (l : List (Int × Int)) (A : List (List Bool)) (tl : List Bool) (out : List (List Nat)) (i k : Nat) (m : Nat) (st : St) : Prop := ∃ (j : Nat) (ok : Bool), j ≤ bN n ∧ ok = (!tl.getD k false && (List.range j).all fun j => !(rB n l k j && !rB n l j k && !tl.getD j false)) ∧ m = bN n - j ∧ st = st13 n A tl out i [(11, iv (-1)), (12, iv k), (13, bv ok), (14, iv j)] []
def I13e (n : Int) (l : List (Int × Int)) (A : List (List Bool)) (tl : List Bool) (out : List (List Nat)) (i q : Nat) (m : Nat) (st : St) : Prop := ∃ (j : Nat) (tl' : List Bool), j ≤ bN n ∧ tl'.length = bN n ∧ (∀ v, v < bN n → tl'.getD v false = (tl.getD v false || (decide (v < j) && rB n l q v && rB n l v q))) ∧ m = bN n - j ∧
  st = st13 n A tl' out i [(11, iv (q : Int)), (15, .own 13114 1 0 ((List.range j).filter fun j => rB n l q j && rB n l j q).length), (16, iv j)] [(13114, .arr 3 1 (nats ((List.range j).filter fun j => rB n l q j && rB n l j q)))]
theorem c13 : chkFn Try.prog 32 123 2 a13 a13R = true := by kernel_rfl
set_option maxHeartbeats 8000000 in
theorem d13 (n : Int) (l : List (Int × Int)) (hl : l.length ≤ 1000000) : DoesT 32 [iv n, .ro 2 (eds l)] (.ro 1 (rws (compsL n l))) := by
  have hN := bN_le n
  have hNb : ((bN n : Nat) : Int) ≤ 281474976710656 := by omega
  refine Does.of (nt := 123) (ac := a13) (rds := a13R) c13 (fun c hc => ?_)
  unfold a13
  apply J.seq
  refine J.regE (by simp; rfl) ?_
  simp
  apply J.seq
  apply J.reg
  refine runL_step rfl (by simp; rfl) ?_
  refine runL_tree rfl (d23 n) (by simp) hc ?_
  simp
  refine runL_step rfl (by simp; rfl) ?_
  simp [runL]
  apply J.seq
  refine J.regE (by simp; rfl) ?_
  simp
  refine J.nilrow hc 6 13030 41 rfl rfl rfl ?_
  simp
  apply J.seq
  apply J.seq
  refine J.regE (by simp; rfl) ?_
  simp
  apply J.block
  refine J.loop hc (I13 n l) ?_ ?_
  · exact ⟨_, _, by apply le_sub <;> simp [allL], 0, by omega, rfl, rfl⟩
  rintro n st ⟨i, hi, rfl, rfl⟩
  apply J.seq
  apply J.seq
  refine J.regE (by simp; rfl) ?_
  simp
  apply J.cond; simp
  refine ⟨fun hlt => ?_, fun hlt => ?_⟩
  ·
    have hwi : IntKind.i64.wrap ((i : Int) + 1) = i + 1 := wrap_id (by omega) (by omega)
    apply J.skip; simp
    apply J.seq
    apply J.block
    apply J.reg
    iterate 4 refine runL_step rfl (by simp [allL_length, List.take_of_length_le, show (i + 1) * 24 ≤ 140737488355328 from by omega]; rfl) ?_
    refine runL_tree rfl (d24 n l i hl) (by simp) hc ?_
    simp
    iterate 3 refine runL_step rfl (by simp [allL_length, List.take_of_length_le, show (i + 1) * 24 ≤ 140737488355328 from by omega]; rfl) ?_
    simp [runL]
    refine J.regE (by simp [hwi]; rfl) ?_
    simp
    exact ⟨_, by omega, _, by apply le_sub <;> simp [allL_succ], i + 1, by omega, rfl, rfl⟩
  ·
    have : i = bN n := by omega
    subst this
    apply J.exit; simp
    apply J.seq
    refine J.freeze hc 13030 rfl ?_
    simp [allL_length, List.take_of_length_le]
    have hAl := allL_length n l (bN n)
    have hA1 : ∀ k (h : k < (allL n l (bN n)).length), ((allL n l (bN n))[k]).length = bN n := fun k h => allL_len h
    have hA2 : ∀ k j (hk : k < (allL n l (bN n)).length) (hj : j < ((allL n l (bN n))[k]).length), ((allL n l (bN n))[k])[j] = rB n l k j := fun k j hk hj => allL_get (by omega) (by rw [← hA1 k hk]; exact hj) hk hj
    generalize allL n l (bN n) = A at hAl hA1 hA2 ⊢
    refine J.regE (by simp [hNb, bools_zero]; rfl) ?_
    simp
    apply J.seq
    refine J.regE (by simp; rfl) ?_
    simp
    refine J.nilrow hc 9 13121 26 rfl rfl rfl ?_
    simp
    apply J.seq
    apply J.seq
    refine J.regE (by simp; rfl) ?_
    simp
    apply J.block
    refine J.loop hc (I13b n l A) ?_ ?_
    · refine ⟨_, _, ?_, 0, List.replicate (bN n) false, [], by omega, by simp, fun v hv => by omega, rfl, by simp [unset], rfl, rfl⟩
      apply le_sub <;> simp [st13]
    rintro n st ⟨i, tl, out, hi, htl, htold, hout, hol, rfl, rfl⟩
    unfold st13
    apply J.seq
    apply J.seq
    refine J.regE (by simp; rfl) ?_
    simp
    apply J.cond; simp
    refine ⟨fun hlt => ?_, fun hlt => ?_⟩
    ·
      have hwi : IntKind.i64.wrap ((i : Int) + 1) = i + 1 := wrap_id (by omega) (by omega)
      have hit : i < tl.length := by omega
      apply J.skip; simp
      apply J.block
      apply J.seq
      apply J.seq
      cases ht : tl[i]
      ·
        refine J.regE (by simp [hlt, hit, ht]; rfl) ?_
        simp
        apply J.cond; simp
        apply J.skip; simp
        apply J.seq
        refine J.regE (by simp; rfl) ?_
        simp
        apply J.seq
        apply J.seq
        refine J.regE (by simp; rfl) ?_
        simp
        apply J.block
        refine J.loop hc (I13c n l A tl out i) ?_ ?_
        · refine ⟨_, _, ?_, 0, none, by omega, (fun j hj => by omega), (fun q hq => by cases hq), rfl, rfl⟩
          apply le_sub <;> simp [st13, atI]
        rintro n st ⟨k, at_, hk, hno, hyes, rfl, rfl⟩
        unfold st13
        apply J.seq
        apply J.seq
        refine J.regJ ⟨[(5, iv (bN n : Nat)), (6, .ro 1 (bws A)), (8, .own 13032 1 0 (bN n)), (9, .own 13121 1 0 out.length), (10, iv i), (11, iv (atI at_)), (12, iv k), (48, bv (decide (k < bN n ∧ at_ = none)))], [(13032, .arr 4 1 (bools tl)), (13121, .arr 26 1 (rws out))], []⟩ ?_ ?_
        · rcases at_ with _ | q <;> by_cases hkl : k < bN n <;> exact ⟨_, by simp [hkl, atI]; rfl, by simp [hkl, atI]⟩
        simp [thenQ, blockQ, loopQ, scopeQ]
        apply J.cond; simp
        refine ⟨fun hgo => ?_, fun hgo => ?_⟩
        ·
          intro hat
          subst hat
          have hkl := hgo
          have hkt : k < tl.length := by omega
          have hkA : k < A.length := by omega
          have hwk : IntKind.i64.wrap ((k : Int) + 1) = k + 1 := wrap_id (by omega) (by omega)
          have hkg : tl.getD k false = tl[k] := by simp [hkt]
          apply J.skip; simp
          apply J.seq
          apply J.block
          apply J.seq
          refine J.regE (by simp [hkl, hkt]; rfl) ?_
          simp
          apply J.seq
          apply J.seq
          refine J.regE (by simp; rfl) ?_
          simp
          apply J.block
          refine J.loop hc (I13d n l A tl out i k) ?_ ?_
          · refine ⟨_, _, ?_, 0, !tl[k], by omega, by simp [hkt], rfl, rfl⟩
            apply le_sub <;> simp [st13, atI]
          rintro n st ⟨j, ok, hj, hok, rfl, rfl⟩
          unfold st13
          apply J.seq
          apply J.seq
          refine J.regE (by simp; rfl) ?_
          simp
          apply J.cond; simp
          refine ⟨fun hjl => ?_, fun hjl => ?_⟩
          ·
            have hwj : IntKind.i64.wrap ((j : Int) + 1) = j + 1 := wrap_id (by omega) (by omega)
            have hjt : j < tl.length := by omega
            have hjA : j < A.length := by omega
            have hjg : tl.getD j false = tl[j] := by simp [hjt]
            have hkj : j < A[k].length := by rw [hA1]; omega
            have hjk : k < A[j].length := by rw [hA1]; omega
            have a1 := hA2 k j hkA hkj
            have a2 := hA2 j k hjA hjk
            apply J.skip; simp
            apply J.seq
            apply J.block
            apply J.seq
            refine J.regJ ⟨[(5, iv (bN n : Nat)), (6, .ro 1 (bws A)), (8, .own 13032 1 0 (bN n)), (9, .own 13121 1 0 out.length), (10, iv i), (11, iv (-1)), (12, iv k), (13, bv ok), (14, iv j), (84, bv (rB n l k j && !rB n l j k && !tl[j]))], [(13032, .arr 4 1 (bools tl)), (13121, .arr 26 1 (rws out))], []⟩ ?_ ?_
            · cases h1 : rB n l k j <;> cases h2 : rB n l j k <;> cases h3 : tl[j] <;> rw [h1] at a1 <;> rw [h2] at a2  <;> (apply Exists.intro; apply And.intro; (iterate 24 refine evalL_step rfl (by simp [a1, a2, h3, hkA, hjA, hkj, hjk, hjt, hjl]; rfl) ?_); rfl; simp)
            simp [thenQ, blockQ, loopQ, scopeQ]
            apply J.cond; simp
            refine ⟨fun hb0 => ?_, fun hb0 => ?_⟩
            ·
              intro h2 h3
              have hb : (rB n l k j && !rB n l j k && !tl[j]) = true := by simp [hb0, h2, h3]
              refine J.regE (by simp; rfl) ?_
              simp
              refine J.regE (by simp [hwj]; rfl) ?_
              simp
              refine ⟨_, ?_, _, ?_, j + 1, false, by omega, ?_, rfl, rfl⟩
              · omega
              · apply le_sub <;> simp [st13]
              · rw [List.range_succ, List.all_append]; simp only [List.all_cons, List.all_nil, hjg, hb]; simp
            ·
              have hb : (rB n l k j && !rB n l j k && !tl[j]) = false := by cases h1 : rB n l k j <;> cases h2 : rB n l j k <;> cases h3 : tl[j] <;> simp_all
              apply J.skip; simp
              refine J.regE (by simp [hwj]; rfl) ?_
              simp
              refine ⟨_, ?_, _, ?_, j + 1, ok, by omega, ?_, rfl, rfl⟩
              · omega
              · apply le_sub <;> simp [st13]
              · rw [List.range_succ, List.all_append, ← Bool.and_assoc, ← hok]; simp only [List.all_cons, List.all_nil, hjg, hb]; simp
          ·
            have : j = bN n := by omega
            subst this
            apply J.exit; simp
            apply J.seq
            have hel : elig (bN n) (rB n l) tl k = ok := hok.symm
            cases ok
            rotate_left 1
            ·
              refine J.regE (by simp; rfl) ?_
              simp
              apply J.cond; simp
              refine J.regE (by simp; rfl) ?_
              simp
              refine J.regE (by simp [hwk]; rfl) ?_
              simp
              refine ⟨_, ?_, _, ?_, k + 1, some k, by omega, fun j hj hne => hno j (by simp at hne; omega) (by simp), fun q hq => ?_, rfl, rfl⟩
              · omega
              · apply le_sub <;> simp [st13, atI]
              · simp at hq; subst hq; exact ⟨rfl, hel⟩
            ·
              refine J.regE (by simp; rfl) ?_
              simp
              apply J.cond; simp
              apply J.skip; simp
              refine J.regE (by simp [hwk]; rfl) ?_
              simp
              refine ⟨_, ?_, _, ?_, k + 1, none, by omega, fun j hj hne => ?_, (fun q hq => by cases hq), rfl, rfl⟩
              · omega
              · apply le_sub <;> simp [st13, atI]
              · by_cases e : j = k
                · subst e; exact hel
                · exact hno j (by omega) (by simp)
        ·
          have hpick : pick (bN n) (rB n l) tl = at_ := by
            rcases at_ with _ | q
            · have : k = bN n := by simp at hgo; omega
              exact pick_none.2 (fun j hj => hno j (by omega) (by simp))
            · obtain ⟨h1, h2⟩ := hyes q rfl
              exact pick_some.2 ⟨h2, by omega, fun j hj => hno j (by omega) (by simp; omega)⟩
          apply J.exit; simp
          apply J.seq
          apply J.seq
          rcases at_ with _ | q
          ·
            refine J.regE (by simp [atI]; rfl) ?_
            simp
            apply J.cond; simp
            apply J.seq
            rw [rest_none hpick, List.append_nil] at hout
            refine J.freeze hc 13121 rfl ?_
            simp [List.take_of_length_le]
            refine J.regE (by simp; rfl) ?_
            simp
            apply J.ret
            refine ⟨by simp, rfl, _, [], by simp [a13R]; rfl, ?_⟩
            simp [hout]
          ·
            obtain ⟨hel, hql, hlow⟩ := pick_some.1 hpick
            have hqA : q < A.length := by omega
            refine J.regE (by simp [atI, show ¬ ((q : Nat) : Int) < 0 from by omega]; rfl) ?_
            simp
            apply J.cond; simp
            apply J.skip; simp
            apply J.seq
            refine J.regE (by simp; rfl) ?_
            simp
            refine J.nilrow hc 15 13114 3 rfl rfl rfl ?_
            simp
            apply J.seq
            apply J.seq
            refine J.regE (by simp; rfl) ?_
            simp
            apply J.block
            refine J.loop hc (I13e n l A tl out i q) ?_ ?_
            · refine ⟨_, _, ?_, 0, tl, by omega, htl, fun v hv => by simp, rfl, rfl⟩
              apply le_sub <;> simp [st13, atI]
            rintro n st ⟨j, tl', hj, htl', hmk, rfl, rfl⟩
            unfold st13
            apply J.seq
            apply J.seq
            refine J.regE (by simp; rfl) ?_
            simp
            apply J.cond; simp
            refine ⟨fun hjl => ?_, fun hjl => ?_⟩
            ·
              have hwj : IntKind.i64.wrap ((j : Int) + 1) = j + 1 := wrap_id (by omega) (by omega)
              have hjt : j < tl'.length := by omega
              have hjA : j < A.length := by omega
              have hqj : j < A[q].length := by rw [hA1]; omega
              have hjq : q < A[j].length := by rw [hA1]; omega
              have a1 := hA2 q j hqA hqj
              have a2 := hA2 j q hjA hjq
              apply J.skip; simp
              apply J.seq
              apply J.block
              apply J.seq
              refine J.regJ ⟨[(5, iv (bN n : Nat)), (6, .ro 1 (bws A)), (8, .own 13032 1 0 (bN n)), (9, .own 13121 1 0 out.length), (10, iv i), (11, iv (q : Int)), (15, .own 13114 1 0 ((List.range j).filter fun j => rB n l q j && rB n l j q).length), (16, iv j), (110, bv (rB n l q j && rB n l j q))], [(13032, .arr 4 1 (bools tl')), (13121, .arr 26 1 (rws out)), (13114, .arr 3 1 (nats ((List.range j).filter fun j => rB n l q j && rB n l j q)))], []⟩ ?_ ?_
              · cases h1 : rB n l q j <;> cases h2 : rB n l j q <;> rw [h1] at a1 <;> rw [h2] at a2  <;> (apply Exists.intro; apply And.intro; (iterate 16 refine evalL_step rfl (by simp [a1, a2, hqA, hjA, hqj, hjq, hjl]; rfl) ?_); rfl; simp)
              simp [thenQ, blockQ, loopQ, scopeQ]
              apply J.cond; simp
              refine ⟨fun hb => ?_, fun hb => ?_⟩
              ·
                intro hb2
                apply J.seq
                refine J.regE (by simp [List.take_of_length_le, show (((List.range j).filter fun j => rB n l q j && rB n l j q).length + 1) * 8 ≤ 140737488355328 from by have := List.length_filter_le (fun j => rB n l q j && rB n l j q) (List.range j); simp at this; omega]; rfl) ?_
                simp
                refine J.regE (by simp [hjl, hjt]; rfl) ?_
                simp
                refine J.regE (by simp [hwj]; rfl) ?_
                simp
                have hfs : (List.range (j + 1)).filter (fun j => rB n l q j && rB n l j q) = (List.range j).filter (fun j => rB n l q j && rB n l j q) ++ [j] := by rw [List.range_succ, List.filter_append]; simp [hb, hb2]
                refine ⟨_, ?_, _, ?_, j + 1, tl'.set j true, by omega, by simp [htl'], fun v hv => ?_, rfl, rfl⟩
                · omega
                · apply le_sub <;> simp [st13, hfs]
                · by_cases e : v = j
                  · subst e; simp [hjt, hb, hb2]
                  · have h1 := hmk v hv
                    simp only [List.getD_eq_getElem?_getD, List.getElem?_set_ne (Ne.symm e)] at h1 ⊢
                    rw [h1]; simp [show v < j + 1 ↔ v < j by omega]
              ·
                have hb3 : (rB n l q j && rB n l j q) = false := by cases h1 : rB n l q j <;> cases h2 : rB n l j q <;> simp_all
                apply J.skip; simp
                refine J.regE (by simp [hwj]; rfl) ?_
                simp
                have hfs : (List.range (j + 1)).filter (fun j => rB n l q j && rB n l j q) = (List.range j).filter (fun j => rB n l q j && rB n l j q) := by rw [List.range_succ, List.filter_append]; simp only [List.filter_cons, hb3]; simp
                refine ⟨_, ?_, _, ?_, j + 1, tl', by omega, htl', fun v hv => ?_, rfl, rfl⟩
                · omega
                · apply le_sub <;> simp [st13, hfs]
                · rw [hmk v hv]
                  by_cases e : v = j
                  · subst e; simp [hb3]
                  · simp [show v < j + 1 ↔ v < j by omega]
            ·
              have : j = bN n := by omega
              subst this
              have hmark : tl' = mark (bN n) (rB n l) tl q := by
                apply List.ext_getElem
                · rw [htl', mark_length]
                · intro v h1 h2
                  have h3 := hmk v (by omega)
                  have h4 := mark_getD (N := bN n) (R := rB n l) (tl := tl) (k := q) (v := v) (by omega)
                  have e1 : tl'.getD v false = tl'[v] := by simp [h1]
                  have e2 : (mark (bN n) (rB n l) tl q).getD v false = (mark (bN n) (rB n l) tl q)[v] := by simp [h2]
                  rw [← e1, ← e2, h3, h4]
                  simp [show v < bN n by omega]
              subst hmark
              apply J.exit; simp
              refine J.freeze hc 13114 rfl ?_
              simp [List.take_of_length_le]
              refine J.regE (by simp [List.take_of_length_le, show (out.length + 1) * 24 ≤ 140737488355328 from by omega]; rfl) ?_
              simp
              have hm := unset_mark htl (rB_refl n l q) hpick
              rw [rest_some (rB_refl n l) htl hpick] at hout
              refine ⟨_, ?_, _, ?_, i, mark (bN n) (rB n l) tl q, out ++ [cls (bN n) (rB n l) q], hi, mark_length _ _, (fun v hv => by rw [mark_getD (by omega), htold v hv]; rfl), by rw [List.append_assoc]; exact hout, by simp; omega, rfl, rfl⟩
              · omega
              · apply le_sub <;> simp [st13, cls]
      ·
        refine J.regE (by simp [hlt, hit, ht]; rfl) ?_
        simp
        apply J.cond; simp
        apply J.seq
        refine J.regE (by simp [hwi]; rfl) ?_
        simp
        apply J.exit; simp
        refine ⟨_, ?_, _, ?_, i + 1, tl, out, by omega, htl, fun v hv => ?_, hout, hol, rfl, rfl⟩
        · omega
        · apply le_sub <;> simp [st13]
        · by_cases e : v = i
          · subst e; simp [hit, ht]
          · exact htold v (by omega)
    ·
      have : i = bN n := by omega
      subst this
      have hpn : pick (bN n) (rB n l) tl = none := pick_none.2 (fun k hk => by have := htold k hk; cases he : elig (bN n) (rB n l) tl k; rfl; have := (elig_iff.1 he).1; simp_all)
      rw [rest_none hpn, List.append_nil] at hout
      subst hout
      apply J.exit; simp
      apply J.seq
      refine J.freeze hc 13121 rfl ?_
      simp [List.take_of_length_le]
      refine J.regE (by simp; rfl) ?_
      simp
      apply J.ret
      refine ⟨by simp, rfl, _, [], by simp [a13R]; rfl, ?_⟩
      simp
end Go.Proofs.Ytdekelhmneeniaa.P11
namespace Go.Proofs.Ytdekelhmneeniaa.F
open Go Go.SX
theorem len_pre {α : Type} {a b c : List α} (h : a ++ b = c) : a.length ≤ c.length := by rw [← h]; simp
def s30 (z : List Node) (ms : List (Int × Int)) (o : List Node) (s : Slots) : St := ⟨(0, .ro 4 (eNs z)) :: (1, .ro 2 (eds ms)) :: (5, .ro 2 (eds (edgs z))) :: (6, .own 30048 4 0 o.length) :: s, [(30048, .arr 30 4 (eNs o))], []⟩
def I30 (z : List Node) (ms : List (Int × Int)) (m : Nat) (st : St) : Prop := ∃ (i : Nat) (o : List Node), i ≤ z.length ∧ m = z.length - i ∧ o ++ rdyR z ms i (z.drop i) = rdy z ms ∧ st = s30 z ms o [(7, iv i)]
def I30b (z : List Node) (ms : List (Int × Int)) (o : List Node) (i : Nat) (r : List Nat) (m : Nat) (st : St) : Prop := ∃ (k : Nat) (ok : Bool), k ≤ r.length ∧ m = r.length - k ∧ (!r.any fun k => lacks ms (ndAt z k)) = (ok && !(r.drop k).any fun k => lacks ms (ndAt z k)) ∧ st = s30 z ms o [(7, iv i), (8, bv ok), (9, .ro 1 (nats r)), (10, iv k)]
theorem clos_lt {n : Nat} {l : List (Int × Int)} {a : Int} {v : Nat} (h : v ∈ P11.clos (n : Nat) l a) (hn : n ≤ 100) : v < n := by
 unfold P11.clos P11.pk at h
 have h2 := List.mem_range.1 (List.mem_filter.1 h).1
 have h3 : P11.bN (n : Nat) = n := by unfold P11.bN; rw [if_neg (by omega), if_neg (by omega)]; simp
 omega
theorem clos_length (n : Nat) (l : List (Int × Int)) (a : Int) : (P11.clos (n : Nat) l a).length ≤ 100 := Nat.le_trans (List.length_filter_le _ _) (by simp [P11.bN_le])
def I35 (l : List Node) (m : Nat) (st : St) : Prop := ∃ (i : Nat) (o : List Node), i ≤ l.length ∧ m = l.length - i ∧ o.length = i ∧ srtR o (l.drop i) = srt l ∧ st = ⟨[(0, .ro 4 (eNs l)), (3, .ro 4 (eNs o)), (4, iv i)], [], []⟩
def I35b (l : List Node) (o : List Node) (i : Nat) (y : Node) (m : Nat) (st : St) : Prop := ∃ k : Nat, k ≤ o.length ∧ m = o.length - k ∧ posN y o = k + posN y (o.drop k) ∧ st = ⟨[(0, .ro 4 (eNs l)), (3, .ro 4 (eNs o)), (4, iv i), (5, iv k)], [], []⟩
theorem ins_row {α : Type} {X : List α} {e : α} {k n : Nat} (h : k ≤ X.length) (hn : n = X.length) : List.take (k + 1) (List.take k (List.take k X) ++ [e]) ++ List.drop k (List.take n X) = List.take k X ++ e :: List.drop k X := by
 subst hn
 rw [List.take_length, List.take_of_length_le (i := k) (by simp; omega), List.take_of_length_le (i := k + 1) (by simp; omega)]
 simp
theorem readyR_length (r : List Node) : ∀ ps : List (List Nat), (readyR r ps).length = ps.flatten.length
 | [] => rfl
 | p :: q => by have := readyR_length r q; simp only [readyR, List.flatMap_cons, List.length_append, List.flatten_cons] at this ⊢; rw [this]; simp [partL, insL, srt_length]
def s13 (r : List Node) (ps : List (List Nat)) (o : List (Int × Int)) (s : Slots) (m : Mem) : St := ⟨(6, .ro 4 (eNs r)) :: (7, .ro 1 (rws ps)) :: (8, .own 13057 2 0 o.length) :: s, (13057, .arr 25 2 (eds o)) :: m, []⟩
def I13 (r : List Node) (ps : List (List Nat)) (m : Nat) (st : St) : Prop := ∃ (i : Nat) (o : List (Int × Int)), i ≤ ps.length ∧ m = ps.length - i ∧ o ++ readyR r (ps.drop i) = readyR r ps ∧ st = s13 r ps o [(9, iv i)] []
def I13b (r : List Node) (ps : List (List Nat)) (o : List (Int × Int)) (i : Nat) (p : List Nat) (m : Nat) (st : St) : Prop := ∃ k : Nat, k ≤ p.length ∧ m = p.length - k ∧ st = s13 r ps o [(9, iv i), (10, .own 13052 4 0 ((p.take k).map (ndAt r)).length), (11, iv k)] [(13052, .arr 30 4 (eNs ((p.take k).map (ndAt r))))]
theorem compsL_bd {n : Nat} {l : List (Int × Int)} {p : List Nat} (hp : p ∈ P11.compsL (n : Nat) l) (hn : n ≤ 100) {v : Nat} (hv : v ∈ p) : v < n := by
 have h1 := ((P11.compsL_spec (n : Nat) l).2.1 v).1 (List.mem_flatten.2 ⟨p, hp, hv⟩)
 have h3 : P11.bN (n : Nat) = n := by unfold P11.bN; rw [if_neg (by omega), if_neg (by omega)]; simp
 omega
theorem c15 : chkFn Try.prog 15 10 2 a15 a15R = true := by kernel_rfl
theorem d15 (l : List Node) (done : List (Int × Int)) (hl : l.length < 1000000) (hdn : done.length < 1000000) (hd : ∀ n ∈ l, n.d.length < 1000000) : DoesT 15 [.ro 4 (eNs l), .ro 2 (eds done)] (.ro 2 (eds (missL l done))) := by
 have hcl := cnt_length l done
 refine Does.of (nt := 10) (ac := a15) (rds := a15R) c15 (fun c hc => ?_)
 unfold a15
 apply J.seq
 refine J.regE (by simp; rfl) ?_
 simp
 apply J.seq
 apply J.reg
 iterate 2 refine runL_step rfl (by simp; rfl) ?_
 refine runL_tree rfl (d21 l done hl hdn hd) (by simp) hc ?_
 simp
 refine runL_step rfl (by simp; rfl) ?_
 refine runL_tree rfl (d31 (cnt l done) done (by omega) hdn (fun n hn => hd n (mem_cnt hn).1)) (by simp) hc ?_
 simp
 refine runL_step rfl (by simp; rfl) ?_
 simp [runL]
 apply J.ret
 refine ⟨by simp, rfl, _, [], by simp [a15R]; rfl, ?_⟩
 simp [missL]
theorem c30 : chkFn Try.prog 30 50 2 a30 a30R = true := by kernel_rfl
theorem d30 (z : List Node) (ms : List (Int × Int)) (hl : z.length ≤ 100) (hms : ms.length < 1000000) (hd : ∀ n ∈ z, n.d.length < 1000000) : DoesT 30 [.ro 4 (eNs z), .ro 2 (eds ms)] (.ro 4 (eNs (rdy z ms))) := by
 have hel := edgs_length (c := z) (by omega)
 have hrl := rdy_length z ms
 refine Does.of (nt := 50) (ac := a30) (rds := a30R) c30 (fun c hc => ?_)
 unfold a30
 apply J.seq
 refine J.regE (by simp [eNs, eN, eNs_length, eI]; rfl) ?_
 simp
 apply J.seq
 apply J.reg
 refine runL_step rfl (by simp [eNs, eN, eNs_length, eI]; rfl) ?_
 refine runL_tree rfl (d33 z (by omega) hd) (by simp) hc ?_
 simp
 refine runL_step rfl (by simp [eNs, eN, eNs_length, eI]; rfl) ?_
 simp [runL]
 apply J.seq
 refine J.regE (by simp [eNs, eN, eNs_length, eI]; rfl) ?_
 simp
 refine J.nilrow hc 6 30048 30 rfl rfl rfl ?_
 simp
 apply J.seq
 apply J.seq
 refine J.regE (by simp [eNs, eN, eNs_length, eI]; rfl) ?_
 simp
 apply J.block
 refine J.loop hc (I30 z ms) ?_ ?_
 ·exact ⟨_, _, by apply le_sub <;> simp [eNs, s30], 0, [], by omega, rfl, rfl, rfl⟩
 rintro n st ⟨i, o, hi, rfl, hI, rfl⟩
 unfold s30
 apply J.seq
 apply J.seq
 refine J.regE (by simp [eNs, eN, eNs_length, eI]; rfl) ?_
 simp
 refine J.condB rfl (fun h17 => ?_) (fun h17 => ?_)
 ·
  try simp [eNs_length] at h17
  have hi0 : i < z.length := by omega
  obtain ⟨a, hx, hgx, hg, hge, hdr, hw, hlt2, htk⟩ := getL (eN) (show i < z.length by omega) (by omega)
  rw [hdr] at hI
  simp only [rdyR] at hI
  obtain ⟨r, hr⟩ : ∃ r, P11.clos (z.length : Nat) (edgs z) (i : Nat) = r := ⟨_, rfl⟩
  have hrb : ∀ v ∈ r, v < z.length := fun v hv => clos_lt (hr ▸ hv) hl
  have hrn : r.length ≤ 100 := hr ▸ clos_length _ _ _
  have hok : okB z ms i = !r.any fun k => lacks ms (ndAt z k) := by rw [← hr]; rfl
  have h56 := P11.d16 (z.length : Nat) (edgs z) (i : Nat) (by omega)
  rw [hr] at h56
  apply J.skip; simp
  apply J.seq
  apply J.block
  apply J.seq
  refine J.regE (by simp [eNs, eN, eNs_length, eI]; rfl) ?_
  simp
  apply J.seq
  apply J.reg
  iterate 4 refine runL_step rfl (by simp [eNs, eN, eNs_length, eI]; rfl) ?_
  refine runL_tree rfl (by simpa [eNs] using h56) (by simp) hc ?_
  simp
  refine runL_step rfl (by simp [eNs, eN, eNs_length, eI]; rfl) ?_
  simp [runL]
  apply J.seq
  apply J.seq
  refine J.regE (by simp [eNs, eN, eNs_length, eI]; rfl) ?_
  simp
  apply J.block
  refine J.loop hc (I30b z ms o i r) ?_ ?_
  ·refine ⟨_, _, ?_, 0, true, by omega, rfl, by simp, rfl⟩
   apply le_sub <;> simp [eNs, eN, s30]
  rintro n st ⟨k, ok, hk, rfl, hA, rfl⟩
  unfold s30
  apply J.seq
  apply J.seq
  refine J.regE (by simp [eNs, eN, eNs_length, eI]; rfl) ?_
  simp
  refine J.condB rfl (fun h28 => ?_) (fun h28 => ?_)
  ·
   try simp at h28
   have hk0 : k < r.length := by omega
   obtain ⟨v, hxk, hgxk, hgk, hgek, hdrk, hwk, hlt2k, htkk⟩ := getL (fun x : Nat => [iv (x : Int)]) (show k < r.length by omega) (by omega)
   have hv := hrb v (List.mem_of_getElem? hxk)
   have hmv := hd _ (ndAt_mem hv)
   have hndv : ∀ h, z[v]'h = ndAt z v := fun h => by simp [ndAt, h]
   rw [hdrk, List.any_cons] at hA
   apply J.skip; simp
   apply J.seq
   apply J.block
   apply J.seq
   apply J.reg
   iterate 8 refine runL_step rfl (by simp [eNs, eN, eNs_length, eI, hk0, hgxk, hv, hndv]; rfl) ?_
   refine runL_tree rfl (d57 (ndAt z v) ms hms hmv) (by simp) hc ?_
   simp
   refine runL_step rfl (by simp [eNs, eN, eNs_length, eI, hk0, hgxk, hv, hndv]; rfl) ?_
   simp [runL]
   apply J.seq
   refine J.regE (by simp [eNs, eN, eNs_length, eI]; rfl) ?_
   simp
   refine J.condB rfl (fun h40 => ?_) (fun h40 => ?_)
   ·
    try simp at h40
    have hA2 := hA
    simp only [h40, Bool.true_or, Bool.not_true, Bool.and_false] at hA2
    rw [show false = (false && !(r.drop (k + 1)).any fun k => lacks ms (ndAt z k)) by simp] at hA2
    refine J.regE (by simp [eNs, eN, eNs_length, eI]; rfl) ?_
    simp
    refine J.regE (by simp [eNs, eN, eNs_length, eI, hwk]; rfl) ?_
    simp
    refine ⟨_, ?_, _, ?_, k + 1, _, ?_, rfl, hA2, rfl⟩
    ·omega
    ·apply le_sub <;> simp [eNs, eN, s30]
    ·omega
   ·
    try simp at h40
    have hA2 := hA
    simp only [h40, Bool.false_or] at hA2
    apply J.skip; simp
    refine J.regE (by simp [eNs, eN, eNs_length, eI, hwk]; rfl) ?_
    simp
    refine ⟨_, ?_, _, ?_, k + 1, _, ?_, rfl, hA2, rfl⟩
    ·omega
    ·apply le_sub <;> simp [eNs, eN, s30]
    ·omega
  ·
   try simp at h28
   obtain rfl : k = r.length := by omega
   rw [List.drop_length] at hA
   simp only [List.any_nil, Bool.not_false, Bool.and_true] at hA
   rw [hA] at hok
   rw [hok] at hI
   apply J.exit; simp
   apply J.seq
   refine J.regE (by simp [eNs, eN, eNs_length, eI]; rfl) ?_
   simp
   refine J.condB rfl (fun h41 => ?_) (fun h41 => ?_)
   ·
    subst h41
    have hI2 : (o ++ [a]) ++ rdyR z ms (i + 1) (z.drop (i + 1)) = rdy z ms := by simpa using hI
    have hlen := len_pre hI2
    simp at hlen
    apply J.reg
    iterate 8 refine runL_step rfl (by simp [eNs, eN, eNs_length, eI, eNs, eN, eNs_length, eI, hi0, hgx, show (o.length + 1) * 48 ≤ 140737488355328 from by omega, List.take_of_length_le]; rfl) ?_
    simp [runL]
    refine J.regE (by simp [eNs, eN, eNs_length, eI, hw]; rfl) ?_
    simp
    refine ⟨_, ?_, _, ?_, i + 1, _, ?_, rfl, hI2, rfl⟩
    ·omega
    ·apply le_sub <;> simp [eNs, eN, s30]
    ·omega
   ·
    subst h41
    have hI2 : o ++ rdyR z ms (i + 1) (z.drop (i + 1)) = rdy z ms := by simpa using hI
    apply J.skip; simp
    refine J.regE (by simp [eNs, eN, eNs_length, eI, hw]; rfl) ?_
    simp
    refine ⟨_, ?_, _, ?_, i + 1, _, ?_, rfl, hI2, rfl⟩
    ·omega
    ·apply le_sub <;> simp [eNs, eN, s30]
    ·omega
 ·
  try simp [eNs_length] at h17
  obtain rfl : i = z.length := by omega
  rw [List.drop_length] at hI
  simp only [rdyR, List.append_nil] at hI
  apply J.exit; simp
  apply J.seq
  refine J.freeze hc 30048 rfl ?_
  simp
  refine J.regE (by simp [eNs, eN, eNs_length, eI]; rfl) ?_
  simp
  apply J.ret
  refine ⟨by simp, rfl, _, [], by simp [a30R]; rfl, ?_⟩
  simp [hI, eNs, List.take_of_length_le]
theorem c35 : chkFn Try.prog 35 48 1 a35 a35R = true := by kernel_rfl
theorem d35 (l : List Node) (hl : l.length ≤ 1000) : DoesT 35 [.ro 4 (eNs l)] (.ro 4 (eNs (srt l))) := by
 refine Does.of (nt := 48) (ac := a35) (rds := a35R) c35 (fun c hc => ?_)
 unfold a35
 apply J.seq
 refine J.regE (by simp [eNs, eN, eNs_length, eI]; rfl) ?_
 simp
 apply J.seq
 refine J.regE (by simp [eNs, eN, eNs_length, eI]; rfl) ?_
 simp
 refine J.nz hc ?_
 simp
 apply J.seq
 apply J.seq
 refine J.regE (by simp [eNs, eN, eNs_length, eI]; rfl) ?_
 simp
 apply J.block
 refine J.loop hc (I35 l) ?_ ?_
 ·exact ⟨_, _, by apply le_sub <;> simp [eNs], 0, [], by omega, rfl, rfl, rfl, rfl⟩
 rintro n st ⟨i, o, hi, rfl, ho, hI, rfl⟩
 apply J.seq
 apply J.seq
 refine J.regE (by simp [eNs, eN, eNs_length, eI]; rfl) ?_
 simp
 refine J.condB rfl (fun h11 => ?_) (fun h11 => ?_)
 ·
  try simp [eNs_length] at h11
  have hi0 : i < l.length := by omega
  obtain ⟨y, hx, hgx, hg, hge, hdr, hw, hlt2, htk⟩ := getL (eN) (show i < l.length by omega) (by omega)
  rw [hdr] at hI
  simp only [srtR] at hI
  have hpl := posN_le y o
  apply J.skip; simp
  apply J.seq
  apply J.block
  apply J.seq
  refine J.regE (by simp [eNs, eN, eNs_length, eI]; rfl) ?_
  simp
  apply J.seq
  apply J.block
  refine J.loop hc (I35b l o i y) ?_ ?_
  ·refine ⟨_, _, ?_, 0, by omega, rfl, by simp, rfl⟩
   apply le_sub <;> simp [eNs]
  rintro n st ⟨k, hk, rfl, hP, rfl⟩
  apply J.seq
  apply J.seq
  refine J.regE (by simp [eNs, eN, eNs_length, eI]; rfl) ?_
  simp
  refine J.condB rfl (fun h17 => ?_) (fun h17 => ?_)
  ·
   try simp [eNs_length] at h17
   have hk0 : k < o.length := by omega
   obtain ⟨b, hxk, hgxk, hgk, hgek, hdrk, hwk, hlt2k, htkk⟩ := getL (eN) (show k < o.length by omega) (by omega)
   rw [hdrk] at hP
   simp only [posN] at hP
   apply J.skip; simp
   apply J.block
   apply J.seq
   apply J.draw; intro c' hc'
   iterate 8 refine runP_stepQ (by simp [eNs, eN, eNs_length, eI, hi0, hgx, hk0, hgxk]; rfl) ?_
   refine runP_tree rfl (d17 y b) (by simp) rfl ?_
   simp
   refine runP_stepQ (by simp [eNs, eN, eNs_length, eI, hi0, hgx, hk0, hgxk]; rfl) ?_
   simp [runP]
   apply J.seq
   apply J.seq
   refine J.regE (by simp [eNs, eN, eNs_length, eI]; rfl) ?_
   simp
   refine J.condB rfl (fun h27 => ?_) (fun h27 => ?_)
   ·
    try simp at h27
    have hpk : posN y o = k := by rw [hP, h27]; simp
    apply J.exit; simp
    apply J.seq
    have hmk : min k o.length = k := by omega
    apply J.reg
    iterate 5 refine runL_step rfl (by simp [eNs, eN, eNs_length, eI, eNs, eN, eNs_length, eI, hk, hmk, show k * 48 ≤ 140737488355328 from by omega]; rfl) ?_
    simp [runL]
    apply J.seq
    apply J.reg
    iterate 8 refine runL_step rfl (by simp [eNs, eN, eNs_length, eI, eNs, eN, eNs_length, eI, hi0, hgx, hk, hmk, show (k + 1) * 48 ≤ 140737488355328 from by omega]; rfl) ?_
    simp [runL]
    apply J.seq
    apply J.reg
    iterate 6 refine runL_step rfl (by simp [eNs, eN, eNs_length, eI, eNs, eN, eNs_length, eI, hk, hmk, show (k + 1 + (o.length - k)) * 48 ≤ 140737488355328 from by omega]; rfl) ?_
    simp [runL]
    refine J.regE (by simp [eNs, eN, eNs_length, eI]; rfl) ?_
    simp
    refine J.freeze hc 35033 rfl ?_
    simp
    refine J.regE (by simp [eNs, eN, eNs_length, eI, hw]; rfl) ?_
    simp
    refine ⟨_, ?_, _, ?_, i + 1, insN y o, ?_, rfl, ?_, hI, rfl⟩
    ·omega
    ·rw [ins_row (X := List.map eN o) (by simpa using hk) (by simp)]
     apply le_sub <;> simp [eNs, eN, insN, hpk, hmk]
     rw [List.take_of_length_le (by simp; omega)]
    ·omega
    ·rw [insN_length, ho]
   ·
    try simp at h27
    have hP2 : posN y o = (k + 1) + posN y (o.drop (k + 1)) := by rw [hP, h27]; simp; omega
    apply J.skip; simp
    refine J.regE (by simp [eNs, eN, eNs_length, eI, hwk]; rfl) ?_
    simp
    refine ⟨_, ?_, _, ?_, k + 1, ?_, rfl, hP2, rfl⟩
    ·omega
    ·apply le_sub <;> simp [eNs]
    ·omega
  ·
   try simp [eNs_length] at h17
   have hke : k = o.length := by omega
   rw [hke, List.drop_length] at hP
   simp only [posN] at hP
   have hpk : posN y o = k := by omega
   apply J.exit; simp
   apply J.seq
   have hmk : min k o.length = k := by omega
   apply J.reg
   iterate 5 refine runL_step rfl (by simp [eNs, eN, eNs_length, eI, eNs, eN, eNs_length, eI, hk, hmk, show k * 48 ≤ 140737488355328 from by omega]; rfl) ?_
   simp [runL]
   apply J.seq
   apply J.reg
   iterate 8 refine runL_step rfl (by simp [eNs, eN, eNs_length, eI, eNs, eN, eNs_length, eI, hi0, hgx, hk, hmk, show (k + 1) * 48 ≤ 140737488355328 from by omega]; rfl) ?_
   simp [runL]
   apply J.seq
   apply J.reg
   iterate 6 refine runL_step rfl (by simp [eNs, eN, eNs_length, eI, eNs, eN, eNs_length, eI, hk, hmk, show (k + 1 + (o.length - k)) * 48 ≤ 140737488355328 from by omega]; rfl) ?_
   simp [runL]
   refine J.regE (by simp [eNs, eN, eNs_length, eI]; rfl) ?_
   simp
   refine J.freeze hc 35033 rfl ?_
   simp
   refine J.regE (by simp [eNs, eN, eNs_length, eI, hw]; rfl) ?_
   simp
   refine ⟨_, ?_, _, ?_, i + 1, insN y o, ?_, rfl, ?_, hI, rfl⟩
   ·omega
   ·rw [ins_row (X := List.map eN o) (by simpa using hk) (by simp)]
    apply le_sub <;> simp [eNs, eN, insN, hpk, hmk]
    rw [List.take_of_length_le (by simp; omega)]
   ·omega
   ·rw [insN_length, ho]
 ·
  try simp [eNs_length] at h11
  obtain rfl : i = l.length := by omega
  rw [List.drop_length] at hI
  simp only [srtR] at hI
  apply J.exit; simp
  apply J.seq
  refine J.regE (by simp [eNs, eN, eNs_length, eI]; rfl) ?_
  simp
  apply J.ret
  refine ⟨by simp, rfl, _, [], by simp [a35R]; rfl, ?_⟩
  simp [hI, eNs]
theorem c13 : chkFn Try.prog 13 59 2 a13 a13R = true := by kernel_rfl
theorem d13 (l : List Node) (done : List (Int × Int)) (hl : l.length < 1000000) (hdn : done.length < 1000000) (hd : ∀ n ∈ l, n.d.length < 1000000) : DoesT 13 [.ro 4 (eNs l), .ro 2 (eds done)] (.ro 2 (eds (readyL l done))) := by
 obtain ⟨z, hz⟩ : ∃ z, cnt l done = z := ⟨_, rfl⟩
 obtain ⟨ms, hms⟩ : ∃ ms, miss z done = ms := ⟨_, rfl⟩
 obtain ⟨r, hr⟩ : ∃ r, rdy z ms = r := ⟨_, rfl⟩
 obtain ⟨ps, hps⟩ : ∃ ps, P11.compsL (r.length : Nat) (edgs r) = ps := ⟨_, rfl⟩
 have hzl : z.length ≤ 100 := hz ▸ cnt_few l done
 have hzd : ∀ n ∈ z, n.d.length < 1000000 := fun n hn => hd n (mem_cnt (hz ▸ hn)).1
 have hml : ms.length ≤ 420 := hms ▸ miss_length z done
 have hrl : r.length ≤ 100 := by have := rdy_length z ms; rw [hr] at this; omega
 have hrd : ∀ n ∈ r, n.d.length < 1000000 := fun n hn => hzd n (mem_rdy (hr ▸ hn))
 have hel := edgs_length (c := r) (by omega)
 have hpb : ∀ p ∈ ps, ∀ v ∈ p, v < r.length := fun p hp v hv => compsL_bd (hps ▸ hp) hrl hv
 have hpl := P11.compsL_small (r.length : Nat) (edgs r)
 rw [hps] at hpl
 have hRL : readyL l done = readyR r ps := by unfold readyL; rw [hz, hms, hr, hps]
 have hsum : (readyR r ps).length ≤ 100 := by rw [readyR_length, ← hps]; exact compsL_sum _ _
 have h21 := d21 l done hl hdn hd
 rw [hz] at h21
 have h31 := d31 z done (by omega) hdn hzd
 rw [hms] at h31
 have h30 := d30 z ms hzl (by omega) hzd
 rw [hr] at h30
 have h33 := d33 r (by omega) hrd
 have h32 := P11.d13 (r.length : Nat) (edgs r) (by omega)
 rw [hps] at h32
 rw [hRL]
 refine Does.of (nt := 59) (ac := a13) (rds := a13R) c13 (fun c hc => ?_)
 unfold a13
 apply J.seq
 refine J.regE (by simp [eNs, eN, eNs_length, eI]; rfl) ?_
 simp
 apply J.seq
 apply J.reg
 iterate 2 refine runL_step rfl (by simp [eNs, eN, eNs_length, eI]; rfl) ?_
 refine runL_tree rfl (h21) (by simp) hc ?_
 simp
 refine runL_step rfl (by simp [eNs, eN, eNs_length, eI]; rfl) ?_
 simp [runL]
 apply J.seq
 apply J.reg
 iterate 3 refine runL_step rfl (by simp [eNs, eN, eNs_length, eI]; rfl) ?_
 refine runL_tree rfl (h31) (by simp) hc ?_
 simp
 refine runL_tree rfl (h30) (by simp) hc ?_
 simp
 refine runL_step rfl (by simp [eNs, eN, eNs_length, eI]; rfl) ?_
 simp [runL]
 apply J.seq
 apply J.reg
 iterate 3 refine runL_step rfl (by simp [eNs, eN, eNs_length, eI]; rfl) ?_
 refine runL_tree rfl (h33) (by simp) hc ?_
 simp
 refine runL_tree rfl (by simpa [eNs] using h32) (by simp) hc ?_
 simp
 refine runL_step rfl (by simp [eNs, eN, eNs_length, eI]; rfl) ?_
 simp [runL]
 apply J.seq
 refine J.regE (by simp [eNs, eN, eNs_length, eI]; rfl) ?_
 simp
 refine J.nilrow hc 8 13057 25 rfl rfl rfl ?_
 simp
 apply J.seq
 apply J.seq
 refine J.regE (by simp [eNs, eN, eNs_length, eI]; rfl) ?_
 simp
 apply J.block
 refine J.loop hc (I13 r ps) ?_ ?_
 ·exact ⟨_, _, by apply le_sub <;> simp [eNs, s13], 0, [], by omega, rfl, rfl, rfl⟩
 rintro n st ⟨i, o, hi, rfl, hI, rfl⟩
 unfold s13
 apply J.seq
 apply J.seq
 refine J.regE (by simp [eNs, eN, eNs_length, eI]; rfl) ?_
 simp
 refine J.condB rfl (fun h28 => ?_) (fun h28 => ?_)
 ·
  try simp at h28
  have hi0 : i < ps.length := by omega
  obtain ⟨p, hx, hgx, hg, hge, hdr, hw, hlt2, htk⟩ := getL (fun p => [.ro 1 (nats p)]) (show i < ps.length by omega) (by omega)
  rw [hdr] at hI
  have hpm := List.mem_of_getElem? hx
  have hpn := hpl.2 p hpm
  have hpv := hpb p hpm
  have hI2 : (o ++ partL r p) ++ readyR r (ps.drop (i + 1)) = readyR r ps := by rw [← hI]; simp [readyR]
  have hlen := len_pre hI2
  simp at hlen
  have hsl : (srt (p.map (ndAt r))).length = p.length := by simp [srt_length]
  have hpL : (partL r p).length = p.length := by simp [partL, insL, hsl]
  apply J.skip; simp
  apply J.seq
  apply J.block
  apply J.seq
  refine J.regE (by simp [eNs, eN, eNs_length, eI]; rfl) ?_
  simp
  refine J.nilrow hc 10 13052 30 rfl rfl rfl ?_
  simp
  apply J.seq
  apply J.seq
  refine J.regE (by simp [eNs, eN, eNs_length, eI]; rfl) ?_
  simp
  apply J.block
  refine J.loop hc (I13b r ps o i p) ?_ ?_
  ·refine ⟨_, _, ?_, 0, by omega, rfl, rfl⟩
   apply le_sub <;> simp [eNs, eN, s13]
  rintro n st ⟨k, hk, rfl, rfl⟩
  unfold s13
  apply J.seq
  apply J.seq
  refine J.regE (by simp [eNs, eN, eNs_length, eI, hi0, hgx]; rfl) ?_
  simp
  refine J.condB rfl (fun h37 => ?_) (fun h37 => ?_)
  ·
   try simp at h37
   have hk0 : k < p.length := by omega
   obtain ⟨v, hxk, hgxk, hgk, hgek, hdrk, hwk, hlt2k, htkk⟩ := getL (fun x : Nat => [iv (x : Int)]) (show k < p.length by omega) (by omega)
   have hv := hpv v (List.mem_of_getElem? hxk)
   have hndv : ∀ h, r[v]'h = ndAt r v := fun h => by simp [ndAt, h]
   have hkl : min k p.length = k := by omega
   apply J.skip; simp
   apply J.seq
   apply J.block
   apply J.reg
   iterate 14 refine runL_step rfl (by simp [eNs, eN, eNs_length, eI, eNs, eNs_length, eI, hi0, hgx, hk0, hgxk, hv, hndv, hkl, show (k + 1) * 48 ≤ 140737488355328 from by omega, List.take_of_length_le]; rfl) ?_
   simp [runL]
   refine J.regE (by simp [eNs, eN, eNs_length, eI, hwk]; rfl) ?_
   simp
   refine ⟨_, ?_, _, ?_, k + 1, ?_, rfl, rfl⟩
   ·omega
   ·apply le_sub <;> simp [eNs, eN, s13, htkk, hkl]
   ·omega
  ·
   try simp at h37
   obtain rfl : k = p.length := by omega
   apply J.exit; simp
   refine J.freeze hc 13052 rfl ?_
   simp [eNs, List.take_of_length_le]
   have h34 := d34 (srt (p.map (ndAt r))) (by rw [hsl]; omega)
   rw [show insL (srt (p.map (ndAt r))) = partL r p from rfl] at h34
   apply J.reg
   iterate 2 refine runL_step rfl (by simp [eNs, eN, eNs_length, eI, show (o.length + (partL r p).length) * 16 ≤ 140737488355328 from by omega, List.take_of_length_le]; rfl) ?_
   refine runL_tree rfl (by simpa [eNs, List.map_map] using d35 (p.map (ndAt r)) (by simp; omega)) (by simp) hc ?_
   simp
   refine runL_tree rfl (by simpa [eNs] using h34) (by simp) hc ?_
   simp
   iterate 2 refine runL_step rfl (by simp [eNs, eN, eNs_length, eI, show (o.length + (partL r p).length) * 16 ≤ 140737488355328 from by omega, List.take_of_length_le]; rfl) ?_
   simp [runL]
   refine J.regE (by simp [eNs, eN, eNs_length, eI, hw]; rfl) ?_
   simp
   refine ⟨_, ?_, _, ?_, i + 1, _, ?_, rfl, hI2, rfl⟩
   ·omega
   ·apply le_sub <;> simp [eNs, eN, s13]
   ·omega
 ·
  try simp at h28
  obtain rfl : i = ps.length := by omega
  rw [List.drop_length] at hI
  simp only [readyR, List.flatMap_nil, List.append_nil] at hI
  apply J.exit; simp
  apply J.seq
  refine J.freeze hc 13057 rfl ?_
  simp
  refine J.regE (by simp [eNs, eN, eNs_length, eI]; rfl) ?_
  simp
  apply J.ret
  refine ⟨by simp, rfl, _, [], by simp [a13R]; rfl, ?_⟩
  simp [hI, readyR]
end Go.Proofs.Ytdekelhmneeniaa.F
namespace Go.SX
open Go Go.Proofs Go.Shelf Go.RowKit Go.Lib Go.Sort
abbrev El (w : World) (Own : Nat → Prop) (sz : Nat) (Q : List AV → Prop) : Type :=
  {p : List AV × List Value // Q p.1 ∧ p.1.length = sz ∧ p.2.length = sz ∧ (∀ v ∈ p.2, one v = true) ∧ ∀ (i : Nat) x, p.1[i]? = some x → ∃ v, p.2[i]? = some v ∧ TRel w Own x v}
def SortedBy (cf : List AV → List AV → Int) (l : List (List AV)) : Prop := l.Pairwise fun a b => ¬ cf b a < 0
theorem enter_of {P : Program} {f : FuncId} (h : fnOK P f = true) : ∀ args w, (callFunc f args).run P w = .ok (.enter f args) w := by
  unfold fnOK at h
  split at h <;> try (cases h; done)
  rename_i fn hfn
  simp only [Bool.and_eq_true, bne_iff_ne] at h
  obtain ⟨h1, h2⟩ := h
  have h3 : fn.body.isNone = false := by cases hb : fn.body <;> simp_all
  have h4 : (fn.name == "runtime.NumGoroutine") = false := by simpa using h2
  intro args w
  have hp : (program).run P w = .ok P w := rfl
  rw [callFunc, Sem.run_bind, hp, Result.andThen_ok]
  simp only [hfn, h4, h3, Bool.false_eq_true, if_false, Sem.run_pure]
theorem after_grow {w w' : World} {ρ' : Map} {fx : List Nat} (h : After w w' (fun _ => none) ρ' fx) : ∃ q os', w' = grow (w.drewN q) os' := by
  refine ⟨w'.drawn - w.drawn, w'.heap.extract w.heap.size w'.heap.size, ?_⟩
  have hd := h.output.drawn
  have hh : w'.heap = w.heap ++ w'.heap.extract w.heap.size w'.heap.size := by
    apply Array.ext_getElem?
    intro i
    have hs := h.size
    rw [Array.getElem?_append]
    split
    · exact h.frame i (by assumption) (fun _ _ h => by cases h)
    · rename_i hi
      rw [Array.getElem?_extract]
      split
      · congr 1; omega
      · apply Array.getElem?_eq_none; omega
  cases w' with
  | mk heap tape drawn os output =>
    cases w with
    | mk heap0 tape0 drawn0 os0 output0 =>
      have h1 := h.os; have h2 := h.tape; have h3 := h.output.eq
      simp only at h1 h2 h3 hd hh
      subst h1; subst h2; subst h3
      simp only [grow, World.drewN, World.mk.injEq]
      exact ⟨hh, trivial, by omega, trivial, trivial⟩
section
variable {P : Program} {ren : Ren}
theorem does_sort (L : SlLaysF0.n6 P ren) (hfn : fnOK P (ren.f 6) = true) {sz : Nat} (hs0 : 0 < sz) (aE : ∀ w, (isAgg (ren.t 24)).run P w = .ok true w) (zE : ∀ w, (Go.sizeOf (ren.t 24)).run P w = .ok sz w)
    {g : FuncId} {cf : List AV → List AV → Int} {Q : List AV → Prop} (hO : SWO fun x y : List AV => decide (cf x y < 0)) (hcmp : ∀ x y, Q x → Q y → x.length = sz → y.length = sz → Does P g [.agg x, .agg y] [] [] (fun r m => m = [] ∧ r = iv (cf x y))) (hg : fnOK P g = true)
    {b ty : Nat} {es : List (List AV)} {fixed : List Nat} (hQ : ∀ e ∈ es, Q e) (hsz : es.length < 4611686018427387904) :
    Does P (ren.f 6) [.own b sz 0 es.length, .fn g []] [(b, .arr ty sz es)] fixed (fun r m => r = .tup [] ∧ ∃ es', es'.Perm es ∧ SortedBy cf es' ∧ m = [(b, .arr ty sz es')]) := by
  refine ⟨hfn, fun A ρ w vs ht1 ht2 hM hlen hv => ?_⟩
  have hB := hM.mem b (.arr ty sz es) (by simp [look])
  have hv0 := hv 0 _ rfl
  obtain ⟨cs, e1, hcs, -⟩ := fn_inv (hv 1 _ rfl)
  have hcs0 : cs = #[] := by apply Array.eq_empty_of_size_eq_zero; simpa using hcs.symm
  subst hcs0
  obtain ⟨v0, v1, rfl⟩ : ∃ v0 v1, vs = #[v0, v1] := by
    refine ⟨vs.getD 0 undef, vs.getD 1 undef, ?_⟩
    apply Array.ext
    · simpa using hlen.symm
    · intro i h1 h2
      have : i = 0 ∨ i = 1 := by simp at h2; omega
      rcases this with rfl | rfl <;> simp [Array.getD, h1]
  simp only [List.size_toArray, Array.getD_eq_getD_getElem?] at e1 hv0
  simp at e1 hv0
  subst e1
  -- nothing to sort
  have hnone : ∀ (p : Option Addr) (cap : Nat), es = [] → v0 = .slice p 0 cap → Calls P (ren.f 6) #[v0, .func (.func g) #[] #[]] w fun e w' => ∃ v r m' ρ', e = .returned v ∧ (r = .tup [] ∧ ∃ es', es'.Perm es ∧ SortedBy cf es' ∧ m' = [(b, .arr ty sz es')]) ∧ MemOK A m' ρ' w' ∧ VRel w' (OwnBy A ρ') ρ' r v ∧ After w w' ρ ρ' fixed := by
    rintro p cap rfl rfl
    refine (AnyF.slices_SortFunc_none L p cap (.func (.func g) #[] #[]) w).mono ?_
    rintro e w' ⟨rfl, rfl⟩
    refine ⟨.tuple #[], .tup [], _, ρ, rfl, ⟨rfl, [], List.Perm.refl _, List.Pairwise.nil, rfl⟩, hM, .tup rfl (fun i x hx => by simp at hx), ?_⟩
    exact { os := rfl, tape := rfl, output := OutLe.refl _, size := Nat.le_refl _, frame := fun _ _ _ => rfl, mine := fun b k o h => .inl ⟨b, o, h⟩, fix := fun _ _ => rfl, rows := fun k cur ty fr _ hh => ⟨cur, ty, fr, hh, rfl⟩ }
  by_cases hne : es = []
  · subst hne
    simp only [List.length_nil] at hv0
    generalize hx : (AV.own b sz 0 0) = xx at hv0
    cases hv0 with
    | tree h => subst hx; cases h
    | ownnil => exact hnone none 0 rfl rfl
    | ownz h => exact hnone _ _ rfl rfl
    | own h hn hr => injection hx with h1 h2 h3 h4; subst h4; exact hnone _ _ rfl rfl
    | _ => cases hx
  · have hpos : 0 < es.length := List.length_pos_iff.2 hne
    obtain ⟨k, o, cap, hρ, rfl⟩ : ∃ k o cap, ρ b = some (k, o) ∧ v0 = .slice (some ⟨k, o, none⟩) es.length cap := by
      generalize hx : (AV.own b sz 0 es.length) = xx at hv0
      cases hv0 with
      | tree h => subst hx; cases h
      | ownnil => injection hx with h1 h2 h3 h4; omega
      | ownz h => injection hx with h1 h2 h3 h4; omega
      | @own b' sz' lo n k o cap h hn hr => injection hx with h1 h2 h3 h4; subst h1 h2 h3 h4; exact ⟨k, o, cap, h, by simp⟩
      | _ => cases hx
    simp only [BRel, hρ] at hB
    obtain ⟨cur, hk, hlens, hfit, hcell⟩ := hB
    have hklt : k < w.heap.size := hM.lt _ _ _ hρ
    -- the elements
    have hel : ∀ i : Fin es.length, Q es[i] ∧ (es[i]).length = sz ∧ ((List.range sz).map fun j => (cur[o + (i * sz + j)]?).getD undef).length = sz ∧ (∀ v ∈ (List.range sz).map fun j => (cur[o + (i * sz + j)]?).getD undef, one v = true) ∧ ∀ (j : Nat) x, (es[i])[j]? = some x → ∃ v, ((List.range sz).map fun j => (cur[o + (i * sz + j)]?).getD undef)[j]? = some v ∧ TRel w (OwnBy A ρ) x v := by
      intro i
      have hl := hlens es[i] (List.getElem_mem ..)
      have hc : ∀ j, j < sz → ∃ x v, (es[i])[j]? = some x ∧ cur[o + (i * sz + j)]? = some v ∧ one v = true ∧ TRel w (OwnBy A ρ) x v := by
        intro j hj
        have hx : (es[i])[j]? = some ((es[i])[j]'(by omega)) := List.getElem?_eq_getElem _
        obtain ⟨v, h1, h2, h3⟩ := hcell i j _ (by unfold cellAt; rw [List.getElem?_eq_getElem i.2]; exact hx)
        exact ⟨_, v, hx, h1, h2, h3⟩
      refine ⟨hQ _ (List.getElem_mem ..), hl, by simp, ?_, ?_⟩
      · intro v hv
        obtain ⟨j, hj, rfl⟩ := List.mem_map.1 hv
        obtain ⟨x, v, _, h1, h2, _⟩ := hc j (List.mem_range.1 hj)
        rw [h1]; exact h2
      · intro j x hx
        have hj : j < sz := by have := (List.getElem?_eq_some_iff.1 hx).1; omega
        obtain ⟨x', v, h0, h1, h2, h3⟩ := hc j hj
        rw [hx] at h0; injection h0 with h0; subst h0
        refine ⟨v, ?_, h3⟩
        rw [List.getElem?_map, List.getElem?_range hj]
        simp [h1]
    let α := El w (OwnBy A ρ) sz Q
    let d : Array α := Array.ofFn (n := es.length) fun i => ⟨(es[i], (List.range sz).map fun j => (cur[o + (i * sz + j)]?).getD undef), hel i⟩
    haveI : Inhabited α := ⟨d[0]'(by simp [d]; exact hpos)⟩
    have hds : d.size = es.length := by simp [d]
    let enc : α → List Value := fun x => x.1.2
    have hk1 : ∀ x : α, (enc x).length = sz := fun x => x.2.2.2.1
    have h1 : ∀ x : α, ∀ v ∈ enc x, v.oneCell' = true := fun x v hv => oneCell_of (x.2.2.2.2.1 v hv)
    let cf' : α → α → Int := fun x y => cf x.1.1 y.1.1
    have hO' : SWO (ltOf cf') := ⟨fun x => hO.irrefl x.1.1, fun x y z => hO.trans x.1.1 y.1.1 z.1.1, fun x y z => hO.ntrans x.1.1 y.1.1 z.1.1⟩
    have hdi : ∀ i, i < es.length → (d[i]!).1.1 = es[i]! ∧ (d[i]!).1.2 = (List.range sz).map fun j => (cur[o + (i * sz + j)]?).getD undef := by
      intro i hi
      rw [getElem!_pos d i (by omega), getElem!_pos es i hi]
      simp [d]
    have hH : HoldsK enc sz w k o d := by
      intro t ht
      rw [size_flatK] at ht
      rw [get_flatK _ _ _ _ ht]
      have hi : t / sz < es.length := by rw [← hds]; exact Nat.div_lt_of_lt_mul (by rw [Nat.mul_comm]; exact ht)
      have hj : t % sz < sz := Nat.mod_lt _ hs0
      have hij : t / sz * sz + t % sz = t := by rw [Nat.mul_comm]; exact Nat.div_add_mod t sz
      have hbnd : o + t < cur.size := by
        have : t < es.length * sz := by rw [← hds]; exact ht
        omega
      refine ⟨?_, ?_⟩
      · simp only [World.cell?, hk, Option.isSome_none, Bool.false_eq_true, if_false]
        show cur[o + t]? = some ((enc d[t / sz]!)[t % sz]!)
        have : enc d[t / sz]! = (List.range sz).map fun j => (cur[o + (t / sz * sz + j)]?).getD undef := (hdi _ hi).2
        rw [this, getElem!_pos _ _ (by simpa using hj)]
        simp only [List.getElem_map, List.getElem_range, hij]
        rw [Array.getElem?_eq_getElem hbnd]; rfl
      · simp [World.frozen?, hk]
    have hkeep : ∀ (w' : World), w.heap.size ≤ w'.heap.size → (∀ q, q < w.heap.size → q ≠ k → w'.heap[q]? = w.heap[q]?) → Keeps w w' (OwnBy A ρ) (OwnBy A ρ) := fun w' h1 h2 =>
      ⟨h1, fun q hq hno => h2 q hq (fun e => hno (.inr ⟨b, o, e ▸ hρ⟩)), fun _ _ h => h⟩
    have hheap : ∀ (m : Nat) (dk : Array α) (os : Array Obj) q, q < w.heap.size → q ≠ k → (sortWorldK enc sz w k o m dk os).heap[q]? = w.heap[q]? := by
      intro m dk os q hq hne
      unfold sortWorldK
      rw [heap_grow_old _ _ (by rw [size_putRowK]; exact hq)]
      simp only [putRowK, putRow, mapBlock, Array.getElem?_modify]
      rw [if_neg (fun e => hne e.symm)]; rfl
    have hC : CmpLays P g #[] enc sz cf' k o d.size w := by
      intro m os dk hdk x y
      have hW1 := size_sortWorldK_c enc sz w k o m dk os
      have hW2 := hheap m dk os
      generalize hW : sortWorldK enc sz w k o m dk os = W at hW1 hW2
      have hkW := hkeep W hW1 hW2
      have hrel : ∀ z : α, VRel W (OwnBy (OwnBy A ρ) fun _ => none) (fun _ => none) (.agg z.1.1) (.agg (enc z).toArray) := by
        intro z
        refine .agg (by rw [List.size_toArray, hk1]; exact z.2.2.1) (fun i x' hx' => .tree ?_)
        obtain ⟨v, hv', ht⟩ := z.2.2.2.2.2 i x' hx'
        have : (enc z).toArray.getD i undef = v := by
          rw [Array.getD_eq_getD_getElem?]
          have : (enc z).toArray[i]? = some v := by simpa [enc] using hv'
          rw [this]; rfl
        rw [this]
        exact (ht.keep hkW).sub (fun q hq => by rcases hq with hq | ⟨_, _, hq⟩; exact hq; cases hq)
      refine ((hcmp x.1.1 y.1.1 x.2.1 y.2.1 x.2.2.1 y.2.2.1).2 (OwnBy A ρ) (fun _ => none) W _ (theTab.stab w W (fun q hq => hW2 q (theTab.lt w ht1 q hq) (fun e => ht2 q hq b o (e ▸ hρ))) ht1) (fun _ _ _ _ h => by cases h) ?_ (by simp) ?_).mono ?_
      · exact ⟨fun b blk h => (by simp [look] at h), fun _ _ _ h => (by cases h), fun _ _ _ h => (by cases h), fun _ _ _ _ _ h => (by cases h), fun _ _ _ h => (by cases h), fun q hq => by
          rcases hq with hq | ⟨b', o', hq⟩
          · exact Nat.lt_of_lt_of_le (hM.alt q hq) hW1
          · exact Nat.lt_of_lt_of_le (hM.lt _ _ _ hq) hW1⟩
      · intro i x' hx'
        match i, hx' with
        | 0, hx' => simp at hx'; subst hx'; exact hrel x
        | 1, hx' => simp at hx'; subst hx'; exact hrel y
        | i + 2, hx' => simp at hx'
      · rintro e w' ⟨v, r, m', ρ', rfl, ⟨rfl, rfl⟩, -, hr, hA⟩
        refine ⟨?_, after_grow hA⟩
        cases hr with
        | tree h => cases h with
          | lit h => rfl
    have hsort := AnyQ.slices_SortFunc L sz aE zE enc hk1 h1 cf' hO' g #[] k o cap d w (enter_of hg) hC hH hklt (by rw [hds]; exact hsz)
    rw [hds] at hsort
    refine hsort.mono ?_
    rintro e w' ⟨rfl, d', n, os, hperm, hsorted, rfl⟩
    obtain ⟨hps, -, hpp⟩ := hperm
    have hfull : ∀ a : Array α, a.size = es.length → (a.extract 0 es.length).toList = a.toList := by
      intro a ha
      rw [← ha]; simp
    rw [hfull d' (by rw [hps, hds]), hfull d hds] at hpp
    have hmapd : d.toList.map (fun x => x.1.1) = es := by
      apply List.ext_getElem
      · simp [hds]
      · intro i h1 h2
        simp [d]
    have hds' : d'.size = es.length := by rw [hps, hds]
    refine ⟨.tuple #[], .tup [], _, ρ, rfl, ⟨rfl, d'.toList.map (fun x => x.1.1), ?_, ?_, rfl⟩, ?_, .tup rfl (fun i x hx => by simp at hx), ?_⟩
    · rw [← hmapd]; exact hpp.map _
    · unfold SortedBy
      rw [List.pairwise_iff_getElem]
      intro i j hi hj hij
      have := hsorted i j (Nat.zero_le _) hij (by simpa [hds'] using hj)
      simp only [List.length_map, Array.length_toList] at hi hj
      rw [getElem!_pos d' j hj, getElem!_pos d' i hi] at this
      simp only [List.getElem_map, Array.getElem_toList]
      simpa [ltOf, cf'] using this
    · have hW1 := size_sortWorldK_c enc sz w k o n d' os
      have hW2 := hheap n d' os
      have hH' := holdsK_sortWorldK_c enc sz w k o d d' n os hH hklt (by rw [hds', hds])
      have hkc : ∃ cur', (sortWorldK enc sz w k o n d' os).heap[k]? = some (.cells cur' ty (0, 0)) ∧ cur'.size = cur.size := by
        unfold sortWorldK
        rw [heap_grow_old _ _ (by rw [size_putRowK]; exact hklt)]
        refine ⟨putCells id o (flatK enc sz d') cur, ?_, by simp [putCells]⟩
        simp only [putRowK, putRow, mapBlock, Array.getElem?_modify, if_true]
        show Option.map _ w.heap[k]? = _
        rw [hk]; rfl
      generalize sortWorldK enc sz w k o n d' os = W at hW1 hW2 hH' hkc
      obtain ⟨cur', hk', hcs'⟩ := hkc
      have hkW := hkeep W hW1 hW2
      refine { mem := ?_, dom := ?_, lt := fun b' k' o' h => Nat.lt_of_lt_of_le (hM.lt _ _ _ h) hW1, inj := hM.inj, far := hM.far, alt := fun q hq => Nat.lt_of_lt_of_le (hM.alt q hq) hW1 }
      · intro b' blk hb'
        simp only [look] at hb'
        split at hb'
        · rename_i e; subst e
          injection hb' with hb'; subst hb'
          simp only [BRel, hρ]
          refine ⟨cur', hk', ?_, by rw [hcs']; simpa [hds'] using hfit, ?_⟩
          · intro e he
            obtain ⟨z, _, rfl⟩ := List.mem_map.1 he
            exact z.2.2.1
          · intro i j x hx
            obtain ⟨e, he, hj⟩ := Option.bind_eq_some_iff.1 hx
            rw [List.getElem?_map] at he
            obtain ⟨z, hz, rfl⟩ := Option.map_eq_some_iff.1 he
            obtain ⟨hi, hz⟩ := List.getElem?_eq_some_iff.1 hz
            have hi' : i < d'.size := by simpa using hi
            have hzj : j < sz := by have := (List.getElem?_eq_some_iff.1 hj).1; have := z.2.2.1; omega
            obtain ⟨v, hv', ht⟩ := z.2.2.2.2.2 j x hj
            refine ⟨v, ?_, z.2.2.2.2.1 v (List.mem_of_getElem? hv'), ht.keep hkW⟩
            have hc := (HoldsK.cell hH' hi' hzj).1
            simp only [World.cell?, hk', Option.isSome_none, Bool.false_eq_true, if_false] at hc
            rw [← Nat.add_assoc]
            refine hc.trans ?_
            rw [getElem!_pos d' i hi']
            have e2 : d'[i] = z := by simpa using hz
            rw [e2]
            show some ((enc z)[j]!) = some v
            obtain ⟨hl, hv'⟩ := List.getElem?_eq_some_iff.1 hv'
            rw [getElem!_pos (enc z) j hl]; exact congrArg some hv'
        · simp [look] at hb'
      · intro b' k' o' h
        obtain ⟨blk, hb'⟩ := hM.dom b' k' o' h
        simp only [look] at hb' ⊢
        split
        · exact ⟨_, rfl⟩
        · rename_i e; simp [e] at hb'
    · have hW1 := size_sortWorldK_c enc sz w k o n d' os
      have hW2 := hheap n d' os
      have hW3 : (sortWorldK enc sz w k o n d' os).heap[k]? = some (.cells (putCells id o (flatK enc sz d') cur) ty (0, 0)) := by
        unfold sortWorldK
        rw [heap_grow_old _ _ (by rw [size_putRowK]; exact hklt)]
        simp only [putRowK, putRow, mapBlock, Array.getElem?_modify, if_true]
        show Option.map _ w.heap[k]? = _
        rw [hk]; rfl
      refine { os := rfl, tape := rfl, output := ⟨rfl, Nat.le_add_right _ _⟩, size := hW1, frame := fun q hq hno => hW2 q hq (fun e => hno b o (e ▸ hρ)), mine := fun b k o h => .inl ⟨b, o, h⟩, fix := fun _ _ => rfl, rows := ?_ }
      intro q cur1 ty1 fr1 hq hh
      by_cases e : q = k
      · subst e
        rw [hW3] at hh
        injection hh with hh; injection hh with h1 h2 h3; subst h1
        exact ⟨cur, ty, (0, 0), hk, by simp [putCells]⟩
      · rw [hW2 q hq e] at hh; exact ⟨cur1, ty1, fr1, hh, rfl⟩
end
end Go.SX
namespace Go.Proofs
open Go.Shelf
def Try.sortN_ren : Go.Shelf.Ren := ⟨fun | 6 => 28 | 15 => 53 | 14 => 52 | 28 => 76 | 29 => 77 | 20 => 68 | 21 => 69 | 22 => 70 | 23 => 71 | 24 => 72 | 25 => 73 | 26 => 74 | 27 => 75 | 46 => 91 | 47 => 92 | 48 => 93 | 49 => 94 | 50 => 95 | 57 => 99 | n => n, fun | 22 => 22 | 24 => 30 | 25 => 52 | 3 => 3 | 39 => 71 | 0 => 0 | 53 => 94 | 55 => 96 | 4 => 4 | 46 => 87 | 45 => 86 | 50 => 91 | 5 => 5 | 9 => 9 | 66 => 109 | 70 => 113 | 76 => 117 | 77 => 118 | n => n, fun | n => n⟩
theorem Try.sortN : Go.Proofs.SlLaysF0.n6 Try.prog Try.sortN_ren := {
  mixed := by kernel_rfl
  f6 := ⟨Try.f28.name, by decide, Try.func28.trans (congrArg some (by kernel_rfl))⟩
  f14 := ⟨Try.f52.name, by decide, Try.func52.trans (congrArg some (by kernel_rfl))⟩
  f15 := Try.func53.trans (congrArg some (by kernel_rfl))
  f20 := ⟨Try.f68.name, by decide, Try.func68.trans (congrArg some (by kernel_rfl))⟩
  f21 := ⟨Try.f69.name, by decide, Try.func69.trans (congrArg some (by kernel_rfl))⟩
  f22 := ⟨Try.f70.name, by decide, Try.func70.trans (congrArg some (by kernel_rfl))⟩
  f23 := ⟨Try.f71.name, by decide, Try.func71.trans (congrArg some (by kernel_rfl))⟩
  f24 := ⟨Try.f72.name, by decide, Try.func72.trans (congrArg some (by kernel_rfl))⟩
  f25 := ⟨Try.f73.name, by decide, Try.func73.trans (congrArg some (by kernel_rfl))⟩
  f26 := ⟨Try.f74.name, by decide, Try.func74.trans (congrArg some (by kernel_rfl))⟩
  f27 := ⟨Try.f75.name, by decide, Try.func75.trans (congrArg some (by kernel_rfl))⟩
  f28 := Try.func76.trans (congrArg some (by kernel_rfl))
  f29 := Try.func77.trans (congrArg some (by kernel_rfl))
  f46 := ⟨Try.f91.name, by decide, Try.func91.trans (congrArg some (by kernel_rfl))⟩
  f47 := Try.func92.trans (congrArg some (by kernel_rfl))
  f48 := Try.func93.trans (congrArg some (by kernel_rfl))
  f49 := ⟨Try.f94.name, by decide, Try.func94.trans (congrArg some (by kernel_rfl))⟩
  f50 := ⟨Try.f95.name, by decide, Try.func95.trans (congrArg some (by kernel_rfl))⟩
  f57 := ⟨Try.f99.name, by decide, Try.func99.trans (congrArg some (by kernel_rfl))⟩
  t0 := Try.underlying0
  a0 := Try.isAgg0
  z0 := Try.sizeOf0
  v0 := Try.zeroValue0
  t3 := Try.underlying3
  a3 := Try.isAgg3
  z3 := Try.sizeOf3
  v3 := Try.zeroValue3
  t4 := Try.underlying4
  a4 := Try.isAgg4
  z4 := Try.sizeOf4
  v4 := Try.zeroValue4
  t5 := Try.underlying5
  a5 := Try.isAgg5
  z5 := Try.sizeOf5
  v5 := Try.zeroValue5
  t9 := Try.underlying9
  a9 := Try.isAgg9
  z9 := Try.sizeOf9
  v9 := Try.zeroValue9
  t22 := Try.underlying22
  a22 := Try.isAgg22
  z22 := Try.sizeOf22
  v22 := Try.zeroValue22
  t25 := Try.underlying52
  a25 := Try.isAgg52
  z25 := Try.sizeOf52
  v25 := Try.zeroValue52
  t39 := Try.underlying71
  a39 := Try.isAgg71
  z39 := Try.sizeOf71
  v39 := Try.zeroValue71
  t45 := Try.underlying86
  a45 := Try.isAgg86
  z45 := Try.sizeOf86
  v45 := Try.zeroValue86
  t46 := Try.underlying87
  a46 := Try.isAgg87
  z46 := Try.sizeOf87
  v46 := Try.zeroValue87
  t50 := Try.underlying91
  a50 := Try.isAgg91
  z50 := Try.sizeOf91
  v50 := Try.zeroValue91
  t53 := Try.underlying94
  a53 := Try.isAgg94
  z53 := Try.sizeOf94
  v53 := Try.zeroValue94
  t55 := Try.underlying96
  a55 := Try.isAgg96
  z55 := Try.sizeOf96
  v55 := Try.zeroValue96
  t66 := Try.underlying109
  a66 := Try.isAgg109
  z66 := Try.sizeOf109
  v66 := Try.zeroValue109
  t70 := Try.underlying113
  a70 := Try.isAgg113
  z70 := Try.sizeOf113
  v70 := Try.zeroValue113
  t76 := Try.underlying117
  a76 := Try.isAgg117
  z76 := Try.sizeOf117
  v76 := Try.zeroValue117
  t77 := Try.underlying118
  a77 := Try.isAgg118
  z77 := Try.sizeOf118
  v77 := Try.zeroValue118 }
def Try.sortI_ren : Go.Shelf.Ren := ⟨fun | 6 => 48 | 15 => 53 | 14 => 66 | 28 => 76 | 29 => 77 | 20 => 81 | 21 => 82 | 22 => 83 | 23 => 84 | 24 => 85 | 25 => 86 | 26 => 87 | 27 => 88 | 46 => 96 | 47 => 92 | 48 => 93 | 49 => 97 | 50 => 98 | 57 => 100 | n => n, fun | 22 => 23 | 24 => 25 | 25 => 61 | 3 => 3 | 39 => 71 | 0 => 0 | 53 => 94 | 55 => 96 | 4 => 4 | 46 => 87 | 45 => 86 | 50 => 91 | 5 => 5 | 9 => 9 | 66 => 109 | 70 => 113 | 76 => 117 | 77 => 118 | n => n, fun | n => n⟩
theorem Try.sortI : Go.Proofs.SlLaysF0.n6 Try.prog Try.sortI_ren := {
  mixed := by kernel_rfl
  f6 := ⟨Try.f48.name, by decide, Try.func48.trans (congrArg some (by kernel_rfl))⟩
  f14 := ⟨Try.f66.name, by decide, Try.func66.trans (congrArg some (by kernel_rfl))⟩
  f15 := Try.func53.trans (congrArg some (by kernel_rfl))
  f20 := ⟨Try.f81.name, by decide, Try.func81.trans (congrArg some (by kernel_rfl))⟩
  f21 := ⟨Try.f82.name, by decide, Try.func82.trans (congrArg some (by kernel_rfl))⟩
  f22 := ⟨Try.f83.name, by decide, Try.func83.trans (congrArg some (by kernel_rfl))⟩
  f23 := ⟨Try.f84.name, by decide, Try.func84.trans (congrArg some (by kernel_rfl))⟩
  f24 := ⟨Try.f85.name, by decide, Try.func85.trans (congrArg some (by kernel_rfl))⟩
  f25 := ⟨Try.f86.name, by decide, Try.func86.trans (congrArg some (by kernel_rfl))⟩
  f26 := ⟨Try.f87.name, by decide, Try.func87.trans (congrArg some (by kernel_rfl))⟩
  f27 := ⟨Try.f88.name, by decide, Try.func88.trans (congrArg some (by kernel_rfl))⟩
  f28 := Try.func76.trans (congrArg some (by kernel_rfl))
  f29 := Try.func77.trans (congrArg some (by kernel_rfl))
  f46 := ⟨Try.f96.name, by decide, Try.func96.trans (congrArg some (by kernel_rfl))⟩
  f47 := Try.func92.trans (congrArg some (by kernel_rfl))
  f48 := Try.func93.trans (congrArg some (by kernel_rfl))
  f49 := ⟨Try.f97.name, by decide, Try.func97.trans (congrArg some (by kernel_rfl))⟩
  f50 := ⟨Try.f98.name, by decide, Try.func98.trans (congrArg some (by kernel_rfl))⟩
  f57 := ⟨Try.f100.name, by decide, Try.func100.trans (congrArg some (by kernel_rfl))⟩
  t0 := Try.underlying0
  a0 := Try.isAgg0
  z0 := Try.sizeOf0
  v0 := Try.zeroValue0
  t3 := Try.underlying3
  a3 := Try.isAgg3
  z3 := Try.sizeOf3
  v3 := Try.zeroValue3
  t4 := Try.underlying4
  a4 := Try.isAgg4
  z4 := Try.sizeOf4
  v4 := Try.zeroValue4
  t5 := Try.underlying5
  a5 := Try.isAgg5
  z5 := Try.sizeOf5
  v5 := Try.zeroValue5
  t9 := Try.underlying9
  a9 := Try.isAgg9
  z9 := Try.sizeOf9
  v9 := Try.zeroValue9
  t22 := Try.underlying23
  a22 := Try.isAgg23
  z22 := Try.sizeOf23
  v22 := Try.zeroValue23
  t25 := Try.underlying61
  a25 := Try.isAgg61
  z25 := Try.sizeOf61
  v25 := Try.zeroValue61
  t39 := Try.underlying71
  a39 := Try.isAgg71
  z39 := Try.sizeOf71
  v39 := Try.zeroValue71
  t45 := Try.underlying86
  a45 := Try.isAgg86
  z45 := Try.sizeOf86
  v45 := Try.zeroValue86
  t46 := Try.underlying87
  a46 := Try.isAgg87
  z46 := Try.sizeOf87
  v46 := Try.zeroValue87
  t50 := Try.underlying91
  a50 := Try.isAgg91
  z50 := Try.sizeOf91
  v50 := Try.zeroValue91
  t53 := Try.underlying94
  a53 := Try.isAgg94
  z53 := Try.sizeOf94
  v53 := Try.zeroValue94
  t55 := Try.underlying96
  a55 := Try.isAgg96
  z55 := Try.sizeOf96
  v55 := Try.zeroValue96
  t66 := Try.underlying109
  a66 := Try.isAgg109
  z66 := Try.sizeOf109
  v66 := Try.zeroValue109
  t70 := Try.underlying113
  a70 := Try.isAgg113
  z70 := Try.sizeOf113
  v70 := Try.zeroValue113
  t76 := Try.underlying117
  a76 := Try.isAgg117
  z76 := Try.sizeOf117
  v76 := Try.zeroValue117
  t77 := Try.underlying118
  a77 := Try.isAgg118
  z77 := Try.sizeOf118
  v77 := Try.zeroValue118 }
end Go.Proofs
namespace Go.Proofs.Ytdekelhmneeniaa.F
open Go Go.SX Go.Sort
theorem perm_map_inv {α β : Type} {f : α → β} {a b : List β} (h : a.Perm b) : ∀ l : List α, b = l.map f → ∃ l' : List α, l'.Perm l ∧ a = l'.map f := by
  induction h with
  | nil => intro l e; exact ⟨l, List.Perm.refl _, e⟩
  | cons x _ ih =>
    intro l e
    cases l with
    | nil => cases e
    | cons y r =>
      rw [List.map_cons] at e
      injection e with e1 e2
      obtain ⟨r', h1, h2⟩ := ih r e2
      exact ⟨y :: r', h1.cons y, by rw [e1, h2]; rfl⟩
  | swap x y l0 =>
    intro l e
    match l, e with
    | [], e => cases e
    | [_], e => simp at e
    | p :: q :: r, e =>
      simp only [List.map_cons] at e
      injection e with e1 e2
      injection e2 with e2 e3
      exact ⟨q :: p :: r, List.Perm.swap p q r, by rw [e1, e2, e3]; rfl⟩
  | trans _ _ ih1 ih2 =>
    intro l e
    obtain ⟨l2, h1, h2⟩ := ih2 l e
    obtain ⟨l1, h3, h4⟩ := ih1 l2 h2
    exact ⟨l1, h3.trans h1, h4⟩
def int0 (e : List AV) (i : Nat) : Int := match e[i]? with | some (.lit (.int _ x)) => x | _ => 0
def deN (e : List AV) : Node := ⟨int0 e 0, int0 e 1, int0 e 2, []⟩
theorem swo_N : SWO fun x y : List AV => decide (compN (deN x) (deN y) < 0) where
  irrefl x := by simp [compN_neg]
  trans x y z h1 h2 := by simp [compN_neg] at *; omega
  ntrans x y z h1 h2 := by rw [decide_eq_false_iff_not, compN_neg] at *; omega
theorem swo_P : SWO fun x y : List AV => decide (places (deN x).i (deN y).i < 0) where
  irrefl x := by simp [places_neg]
  trans x y z h1 h2 := by simp [places_neg] at *; omega
  ntrans x y z h1 h2 := by rw [decide_eq_false_iff_not, places_neg] at *; omega
theorem fnOK28 : fnOK Try.prog 28 = true := by kernel_rfl
theorem fnOK48 : fnOK Try.prog 48 = true := by kernel_rfl
theorem fnOK42 : fnOK Try.prog 42 = true := by kernel_rfl
theorem fnOK43 : fnOK Try.prog 43 = true := by kernel_rfl
theorem fnOK29 : fnOK Try.prog 29 = true := by kernel_rfl
theorem sort_N {cf : Node → Node → Int} (hO : SWO fun x y : List AV => decide (cf (deN x) (deN y) < 0)) (hcf : ∀ a b, cf (deN (eN a)) (deN (eN b)) = cf a b) {g : Nat} (hg : fnOK Try.prog g = true) (hG : ∀ a b, DoesT g [.agg (eN a), .agg (eN b)] (iv (cf a b))) (bk : Nat) (l : List Node) (fx : List Nat) (hl : l.length < 1000000) :
    Does Try.prog 28 [.own bk 4 0 l.length, .fn g []] [(bk, .arr 30 4 (eNs l))] fx (fun r m => r = .tup [] ∧ ∃ l' : List Node, l'.Perm l ∧ l'.Pairwise (fun x y => ¬ cf y x < 0) ∧ m = [(bk, .arr 30 4 (eNs l'))]) := by
  have h := does_sort (P := Try.prog) (ren := Try.sortN_ren) Try.sortN fnOK28 (sz := 4) (by omega) Try.isAgg30 Try.sizeOf30 (g := g) (cf := fun x y => cf (deN x) (deN y)) (Q := fun e => ∃ n, e = eN n) hO
    (by rintro x y ⟨a, rfl⟩ ⟨b, rfl⟩ _ _; exact (hG a b).mono (fun r m ⟨h1, h2⟩ => ⟨h1, by rw [hcf]; exact h2⟩)) hg (b := bk) (ty := 30) (es := eNs l) (fixed := fx) (by intro e he; obtain ⟨n, _, rfl⟩ := List.mem_map.1 he; exact ⟨n, rfl⟩) (by rw [eNs_length]; omega)
  rw [eNs_length] at h
  refine h.mono ?_
  rintro r m ⟨rfl, es', hp, hs, rfl⟩
  obtain ⟨l', h1, rfl⟩ := perm_map_inv hp l rfl
  refine ⟨rfl, l', h1, ?_, rfl⟩
  unfold SortedBy at hs
  rw [List.pairwise_map] at hs
  exact hs.imp (fun {a b} h => by simp only [hcf] at h; exact h)
theorem sort_I (bk : Nat) (l : List (Int × Int)) (fx : List Nat) (hl : l.length < 1000000) (h43 : ∀ x y, DoesT 43 [.agg (eI x), .agg (eI y)] (iv (places x y))) :
    Does Try.prog 48 [.own bk 2 0 l.length, .fn 43 []] [(bk, .arr 25 2 (eds l))] fx (fun r m => r = .tup [] ∧ ∃ l' : List (Int × Int), l'.Perm l ∧ l'.Pairwise (fun x y => ¬ places y x < 0) ∧ m = [(bk, .arr 25 2 (eds l'))]) := by
  have h := does_sort (P := Try.prog) (ren := Try.sortI_ren) Try.sortI fnOK48 (sz := 2) (by omega) Try.isAgg25 Try.sizeOf25 (g := 43) (cf := fun x y => places (deN x).i (deN y).i) (Q := fun e => ∃ n, e = eI n) swo_P
    (by rintro x y ⟨a, rfl⟩ ⟨b, rfl⟩ _ _; exact h43 a b) fnOK43 (b := bk) (ty := 25) (es := eds l) (fixed := fx) (by intro e he; obtain ⟨n, _, rfl⟩ := List.mem_map.1 he; exact ⟨n, rfl⟩) (by rw [eds_length]; omega)
  rw [eds_length] at h
  refine h.mono ?_
  rintro r m ⟨rfl, es', hp, hs, rfl⟩
  obtain ⟨l', h1, rfl⟩ := perm_map_inv hp l rfl
  refine ⟨rfl, l', h1, ?_, rfl⟩
  unfold SortedBy at hs
  rw [List.pairwise_map] at hs
  exact hs
theorem row_up (b : Nat) : (rowS b).Pairwise (fun x y => places x y < 0) := by
  unfold rowS
  rw [List.pairwise_map]
  exact (List.pairwise_lt_range' (s := 1) (n := 60)).imp (fun {a b} h => by simp [places_neg]; omega)
theorem slots_up : slots.Pairwise (fun x y => places x y < 0) := by
  unfold slots
  rw [List.pairwise_flatMap]
  refine ⟨fun b _ => row_up b, (List.pairwise_lt_range' (s := 1) (n := 7)).imp (fun {a b} h => ?_)⟩
  intro x hx y hy
  obtain ⟨s, _, rfl⟩ := List.mem_map.1 hx
  obtain ⟨s', _, rfl⟩ := List.mem_map.1 hy
  simp [places_neg]; omega
theorem places_asym {x y : Int × Int} (h : places x y < 0) : ¬ places y x < 0 := by rw [places_neg] at *; omega
theorem places_tot {x y : Int × Int} (h : ¬ places x y < 0) (h1 : ¬ places y x < 0) : x = y := by rw [places_neg] at *; exact Prod.ext (by omega) (by omega)
theorem cnt_up (l : List Node) (done : List (Int × Int)) : (cnt l done).Pairwise (fun a b => places a.i b.i < 0) := by
  have h : (insL (cnt l done)).Pairwise (fun x y => places x y < 0) := by rw [cnt_insL]; exact slots_up.filter _
  unfold insL at h
  rwa [List.pairwise_map] at h
theorem pick_inj {l : List Node} {done : List (Int × Int)} {a b : Node} (ha : a ∈ cnt l done) (hb : b ∈ cnt l done) (h : a.i = b.i) : a = b := by
  have h1 := (mem_cnt ha).2.2.2
  have h2 := (mem_cnt hb).2.2.2
  rw [h, h2] at h1; injection h1 with h1; exact h1.symm
theorem cnt_of_sorted {l l' : List Node} {done : List (Int × Int)} (hp : l'.Perm (cnt l done)) (hs : l'.Pairwise (fun x y => ¬ places y.i x.i < 0)) : l' = cnt l done :=
  hp.eq_of_pairwise (fun a b ha hb h1 h2 => pick_inj (hp.mem_iff.1 ha) hb (places_tot h2 h1)) hs ((cnt_up l done).imp fun {a b} h => places_asym h)
theorem miss_of_sorted {z : List Node} {done l' : List (Int × Int)} (hp : l'.Perm (miss z done)) (hs : l'.Pairwise (fun x y => ¬ places y x < 0)) : l' = miss z done :=
  hp.eq_of_pairwise (fun a b _ _ h1 h2 => places_tot h2 h1) hs ((slots_up.filter _).imp fun {a b} h => places_asym h)
theorem posN_spec (x : Node) : ∀ l : List Node, (∀ y ∈ l.take (posN x l), lessN x y = false) ∧ ∀ y r, l.drop (posN x l) = y :: r → lessN x y = true
  | [] => by simp [posN]
  | y :: r => by
    have ih := posN_spec x r
    simp only [posN]
    split
    · rename_i h; simp; exact h
    · rename_i h
      refine ⟨fun z hz => ?_, fun z q e => ih.2 z q (by simpa using e)⟩
      rw [List.take_succ_cons] at hz
      rcases List.mem_cons.1 hz with rfl | hz
      · simpa using h
      · exact ih.1 z hz
theorem less_iff (a b : Node) : lessN a b = true ↔ compN a b < 0 := by rw [← compN_less]; simp
theorem insN_perm (x : Node) (l : List Node) : (insN x l).Perm (x :: l) := by
  unfold insN
  rw [List.append_assoc, List.singleton_append]
  refine List.perm_middle.trans ?_
  rw [List.take_append_drop]
theorem insN_sorted {x : Node} {l : List Node} (h : l.Pairwise fun a b => ¬ compN b a < 0) : (insN x l).Pairwise fun a b => ¬ compN b a < 0 := by
  obtain ⟨h1, h2⟩ := posN_spec x l
  unfold insN
  rw [List.append_assoc, List.pairwise_append]
  have hsplit := h
  rw [← List.take_append_drop (posN x l) l, List.pairwise_append] at hsplit
  obtain ⟨g1, g2, g3⟩ := hsplit
  refine ⟨g1, ?_, ?_⟩
  · rw [List.singleton_append, List.pairwise_cons]
    refine ⟨fun b hb => ?_, g2⟩
    cases hd : l.drop (posN x l) with
    | nil => rw [hd] at hb; cases hb
    | cons y r =>
      have hxy := (less_iff _ _).1 (h2 y r hd)
      rw [hd] at hb g2
      rcases List.mem_cons.1 hb with rfl | hb
      · rw [compN_neg] at *; omega
      · have := (List.pairwise_cons.1 g2).1 b hb
        rw [compN_neg] at *; omega
  · intro a ha b hb
    rcases List.mem_append.1 hb with hb | hb
    · simp at hb; subst hb
      have := h1 a ha
      rw [← less_iff]; simp [this]
    · exact g3 a ha b hb
theorem srtR_perm : ∀ (l o : List Node), (srtR o l).Perm (o ++ l)
  | [], o => by simp [srtR]
  | x :: r, o => by
    rw [srtR]
    refine (srtR_perm r _).trans ?_
    refine ((insN_perm x o).append_right r).trans ?_
    exact (List.perm_middle (a := x) (l₁ := o) (l₂ := r)).symm
theorem srtR_sorted : ∀ (l o : List Node), (o.Pairwise fun a b => ¬ compN b a < 0) → (srtR o l).Pairwise fun a b => ¬ compN b a < 0
  | [], o, h => h
  | x :: r, o, h => srtR_sorted r _ (insN_sorted h)
theorem srt_perm (l : List Node) : (srt l).Perm l := by simpa [srt] using srtR_perm l []
theorem srt_sorted (l : List Node) : (srt l).Pairwise fun a b => ¬ compN b a < 0 := srtR_sorted l [] List.Pairwise.nil
theorem srt_of_sorted {l l' : List Node} (hn : ∀ a ∈ l, ∀ b ∈ l, a.i = b.i → a = b) (hp : l'.Perm l) (hs : l'.Pairwise (fun x y => ¬ compN y x < 0)) : l' = srt l :=
  (hp.trans (srt_perm l).symm).eq_of_pairwise (fun a b ha hb h1 h2 => hn a (hp.mem_iff.1 ha) b ((srt_perm l).mem_iff.1 hb) (by
    rw [compN_neg] at h1 h2
    exact Prod.ext (show a.b = b.b by omega) (show a.s = b.s by omega))) hs (srt_sorted l)
def fstR (done : List (Int × Int)) : List (Int × Int) → List Node → List Node
  | _, [] => []
  | seen, n :: r => if near n = true ∧ n.i ∉ seen then (if n.i ∈ done then [] else [n]) ++ fstR done (ins seen n.i) r else fstR done seen r
def cntU (l : List Node) (done : List (Int × Int)) : List Node := fstR done [] (l.take 100)
theorem mem_ins {t : List (Int × Int)} {x y : Int × Int} : y ∈ ins t x ↔ y ∈ t ∨ y = x := by unfold ins; split; exact ⟨.inl, fun h => h.elim id (fun e => e ▸ by assumption)⟩; simp
theorem mem_fstR {done : List (Int × Int)} {n : Node} : ∀ {L : List Node} {seen : List (Int × Int)}, n ∈ fstR done seen L ↔ L.find? (fun m => decide (m.i = n.i) && near m) = some n ∧ n.i ∉ seen ∧ n.i ∉ done
  | [], seen => by simp [fstR]
  | m :: r, seen => by
    simp only [fstR, List.find?_cons]
    by_cases hn : near m = true
    · by_cases hs : m.i ∈ seen
      · rw [if_neg (by simp [hs]), mem_fstR (L := r)]
        by_cases he : m.i = n.i
        · simp only [he, decide_true, hn, Bool.and_self]
          rw [he] at hs
          constructor
          · rintro ⟨_, h, _⟩; exact absurd hs h
          · rintro ⟨_, h, _⟩; exact absurd hs h
        · simp [he]
      · rw [if_pos ⟨hn, hs⟩, List.mem_append, mem_fstR (L := r), mem_ins]
        by_cases he : m.i = n.i
        · simp only [he, decide_true, hn, Bool.and_self, not_or, Option.some.injEq]
          rw [he] at hs
          constructor
          · rintro (h | ⟨_, ⟨_, h⟩, _⟩)
            · split at h
              · cases h
              · simp at h; subst h; exact ⟨rfl, hs, by assumption⟩
            · exact absurd trivial h
          · rintro ⟨rfl, h1, h2⟩
            left; rw [if_neg h2]; simp
        · simp only [he, decide_false, Bool.false_and]
          constructor
          · rintro (h | ⟨h1, h2, h3⟩)
            · split at h
              · cases h
              · simp at h; subst h; exact absurd rfl he
            · exact ⟨h1, fun h => h2 (.inl h), h3⟩
          · rintro ⟨h1, h2, h3⟩
            exact .inr ⟨h1, fun h => h.elim h2 (fun e => he e.symm), h3⟩
    · rw [if_neg (by simp [hn]), mem_fstR (L := r)]
      simp [hn]
theorem fstR_nodup (done : List (Int × Int)) : ∀ (L : List Node) (seen : List (Int × Int)), (insL (fstR done seen L)).Nodup
  | [], _ => List.Pairwise.nil
  | m :: r, seen => by
    simp only [fstR]
    split
    · split
      · exact fstR_nodup done r _
      · rw [List.singleton_append, insL, List.map_cons, List.nodup_cons]
        refine ⟨fun h => ?_, fstR_nodup done r _⟩
        obtain ⟨n, hn, he⟩ := List.mem_map.1 h
        have := (mem_fstR.1 hn).2.1
        exact this (mem_ins.2 (.inr he))
    · exact fstR_nodup done r _
theorem near_slot {n : Node} (h : near n = true) : n.i ∈ slots := by
  simp only [near, Bool.and_eq_true, decide_eq_true_eq] at h
  rw [mem_slots]; exact ⟨h.1.1.1.1, h.1.1.1.2, h.1.1.2, h.1.2⟩
theorem mem_cnt_iff {l : List Node} {done : List (Int × Int)} {n : Node} : n ∈ cnt l done ↔ (l.take 100).find? (fun m => decide (m.i = n.i) && near m) = some n ∧ n.i ∉ done := by
  constructor
  · intro h
    have h1 := (mem_cnt h).2.2.2
    unfold pick at h1
    split at h1
    · rename_i q hq
      split at h1
      · cases h1
      · injection h1 with h1; subst h1; exact ⟨hq, by assumption⟩
    · cases h1
  · rintro ⟨h1, h2⟩
    have h3 := List.find?_some h1
    simp only [Bool.and_eq_true, decide_eq_true_eq] at h3
    refine List.mem_filterMap.2 ⟨n.i, near_slot h3.2, ?_⟩
    unfold pick; rw [h1]; simp [h2]
theorem nodup_of_insL {l : List Node} (h : (insL l).Nodup) : l.Nodup := by
  unfold insL at h
  rw [List.nodup_iff_pairwise_ne] at h ⊢
  rw [List.pairwise_map] at h
  exact h.imp (fun {a b} h e => h (by rw [e]))
theorem cntU_perm (l : List Node) (done : List (Int × Int)) : (cntU l done).Perm (cnt l done) :=
  (List.perm_ext_iff_of_nodup (nodup_of_insL (fstR_nodup done _ _)) (nodup_of_insL (cnt_nodup l done))).2 (fun n => by rw [mem_cnt_iff, mem_fstR]; simp)
def ded : List (Int × Int) → List (Int × Int) → List (Int × Int)
  | _, [] => []
  | t, x :: r => if x ∈ t then ded t r else x :: ded (ins t x) r
theorem mem_ded {x : Int × Int} : ∀ {l t : List (Int × Int)}, x ∈ ded t l ↔ x ∈ l ∧ x ∉ t
  | [], t => by simp [ded]
  | y :: r, t => by
    simp only [ded]
    by_cases hy : y ∈ t
    · rw [if_pos hy, mem_ded (l := r)]
      constructor
      · rintro ⟨h1, h2⟩; exact ⟨List.mem_cons_of_mem _ h1, h2⟩
      · rintro ⟨h1, h2⟩
        rcases List.mem_cons.1 h1 with rfl | h1
        · exact absurd hy h2
        · exact ⟨h1, h2⟩
    · rw [if_neg hy, List.mem_cons, mem_ded (l := r), mem_ins]
      constructor
      · rintro (rfl | ⟨h1, h2⟩)
        · exact ⟨List.mem_cons_self, hy⟩
        · exact ⟨List.mem_cons_of_mem _ h1, fun h => h2 (.inl h)⟩
      · rintro ⟨h1, h2⟩
        by_cases he : x = y
        · exact .inl he
        · rcases List.mem_cons.1 h1 with h1 | h1
          · exact absurd h1 he
          · exact .inr ⟨h1, fun h => h.elim h2 he⟩
theorem ded_nodup : ∀ (l t : List (Int × Int)), (ded t l).Nodup
  | [], _ => List.Pairwise.nil
  | y :: r, t => by
    simp only [ded]
    split
    · exact ded_nodup r t
    · exact List.nodup_cons.2 ⟨fun h => (mem_ded.1 h).2 (mem_ins.2 (.inr rfl)), ded_nodup r _⟩
def insAll : List (Int × Int) → List (Int × Int) → List (Int × Int)
  | t, [] => t
  | t, x :: r => insAll (ins t x) r
theorem mem_insAll {x : Int × Int} : ∀ {l t : List (Int × Int)}, x ∈ insAll t l ↔ x ∈ t ∨ x ∈ l
  | [], t => by simp [insAll]
  | y :: r, t => by
    rw [insAll, mem_insAll (l := r), mem_ins, List.mem_cons]
    constructor
    · rintro ((h | h) | h)
      · exact .inl h
      · exact .inr (.inl h)
      · exact .inr (.inr h)
    · rintro (h | h | h)
      · exact .inl (.inl h)
      · exact .inl (.inr h)
      · exact .inr h
def colS (b s : Nat) (d : Int) : List (Int × Int) := (List.range' s (d.toNat + 1 - s)).map fun s : Nat => ((b : Int) + 1, (s : Int))
def candD : Nat → List Int → List (Int × Int)
  | _, [] => []
  | b, d :: r => colS b 1 d ++ candD (b + 1) r
def candL : List Node → List (Int × Int)
  | [] => []
  | n :: r => candD 0 (n.d.take 7) ++ candL r
def misU (z : List Node) (done : List (Int × Int)) : List (Int × Int) := ded (insAll (insAll [] (insL z)) done) (candL z)
theorem mem_candD {x : Int × Int} : ∀ {l : List Int} {b : Nat}, x ∈ candD b l ↔ 1 ≤ x.2 ∧ ∃ j : Nat, j < l.length ∧ x.1 = ((b + j : Nat) : Int) + 1 ∧ x.2 ≤ l.getD j 0
  | [], b => by simp [candD]
  | d :: r, b => by
    obtain ⟨p, q⟩ := x
    simp only [candD, List.mem_append, mem_candD (l := r), colS, List.mem_map, List.mem_range'_1, Prod.mk.injEq]
    constructor
    · rintro (⟨s, ⟨h1, h2⟩, h3, h4⟩ | ⟨h1, j, h2, h3, h4⟩)
      · exact ⟨by omega, 0, by simp, by simp; omega, by simp; omega⟩
      · exact ⟨h1, j + 1, by simpa using h2, by rw [h3]; congr 2; omega, by simpa using h4⟩
    · rintro ⟨h1, j, h2, h3, h4⟩
      cases j with
      | zero => left; simp at h3 h4; exact ⟨q.toNat, ⟨by omega, by omega⟩, by omega, by omega⟩
      | succ j => right; exact ⟨h1, j, by simpa using h2, by rw [h3]; congr 2; omega, by simpa using h4⟩
theorem mem_candL {x : Int × Int} : ∀ {z : List Node}, x ∈ candL z ↔ ∃ n ∈ z, x ∈ candD 0 (n.d.take 7)
  | [] => by simp [candL]
  | n :: r => by simp [candL, mem_candL (z := r)]
theorem waits_iff {d : List Int} {x : Int × Int} : waits d x = true ↔ 1 ≤ x.2 ∧ ∃ j : Nat, j < d.length ∧ x.1 = (j : Int) + 1 ∧ x.2 ≤ d.getD j 0 := by
  simp only [waits, Bool.and_eq_true, decide_eq_true_eq]
  constructor
  · rintro ⟨h1, h2⟩
    by_cases ho : x.1 < 1 ∨ (d.length : Int) < x.1
    · rw [dep_out ho] at h2; omega
    · rw [dep_in (by omega) (by omega)] at h2
      exact ⟨h1, (x.1 - 1).toNat, by omega, by omega, h2⟩
  · rintro ⟨h1, j, h2, h3, h4⟩
    refine ⟨h1, ?_⟩
    rw [h3, dep_in (by omega) (by omega), show ((j : Int) + 1 - 1).toNat = j by omega]
    exact h4
theorem cand_waits {n : Node} {x : Int × Int} : x ∈ candD 0 (n.d.take 7) ↔ waits n.d x = true ∧ x.1 ≤ 7 := by
  rw [mem_candD, waits_iff]
  constructor
  · rintro ⟨h1, j, h2, h3, h4⟩
    simp at h2 h3
    exact ⟨⟨h1, j, by omega, h3, by simpa [List.getD_eq_getElem?_getD, List.getElem?_take, show j < 7 by omega] using h4⟩, by omega⟩
  · rintro ⟨⟨h1, j, h2, h3, h4⟩, h5⟩
    exact ⟨h1, j, by simp; omega, by simpa using h3, by simpa [List.getD_eq_getElem?_getD, List.getElem?_take, show j < 7 by omega] using h4⟩
theorem near_dep {n : Node} (h : near n = true) {j : Nat} (hj : j < n.d.length) : n.d.getD j 0 ≤ 60 := by
  simp only [near, Bool.and_eq_true, Bool.not_eq_true', List.any_eq_false, decide_eq_true_eq] at h
  have := h.2 n.d[j] (List.getElem_mem hj)
  simp [hj]; omega
theorem misU_perm {z : List Node} {done : List (Int × Int)} (hz : ∀ n ∈ z, near n = true) : (misU z done).Perm (miss z done) :=
  (List.perm_ext_iff_of_nodup (ded_nodup _ _) (slots_nodup.filter _)).2 (fun x => by
    rw [mem_ded, mem_insAll, mem_insAll, mem_candL, List.mem_filter, mem_slots]
    simp only [misB, Bool.and_eq_true, Bool.not_eq_true', decide_eq_false_iff_not, List.any_eq_true, List.not_mem_nil, false_or, not_or]
    constructor
    · rintro ⟨⟨n, hn, h⟩, h1, h2⟩
      obtain ⟨hw, h7⟩ := cand_waits.1 h
      obtain ⟨g1, j, g2, g3, g4⟩ := waits_iff.1 hw
      have := near_dep (hz n hn) g2
      exact ⟨⟨by omega, h7, g1, by omega⟩, ⟨⟨n, hn, hw⟩, h1⟩, h2⟩
    · rintro ⟨⟨_, h7, _, _⟩, ⟨⟨n, hn, hw⟩, h1⟩, h2⟩
      exact ⟨⟨n, hn, cand_waits.2 ⟨hw, h7⟩⟩, h1, h2⟩)
theorem eN_i (n : Node) : AV.agg [iv n.b, iv n.s] = .agg (eI n.i) := rfl
theorem d28P (bk : Nat) (l : List Node) (fx : List Nat) (hl : l.length < 1000000) : Does Try.prog 28 [.own bk 4 0 l.length, .fn 42 []] [(bk, .arr 30 4 (eNs l))] fx (fun r m => r = .tup [] ∧ ∃ l' : List Node, l'.Perm l ∧ l'.Pairwise (fun x y => ¬ places y.i x.i < 0) ∧ m = [(bk, .arr 30 4 (eNs l'))]) :=
 sort_N (cf := fun a b => places a.i b.i) swo_P (fun a b => rfl) fnOK42 d42 bk l fx hl
theorem d28C (bk : Nat) (l : List Node) (fx : List Nat) (hl : l.length < 1000000) : Does Try.prog 28 [.own bk 4 0 l.length, .fn 29 []] [(bk, .arr 30 4 (eNs l))] fx (fun r m => r = .tup [] ∧ ∃ l' : List Node, l'.Perm l ∧ l'.Pairwise (fun x y => ¬ compN y x < 0) ∧ m = [(bk, .arr 30 4 (eNs l'))]) :=
 sort_N (cf := compN) swo_N (fun a b => rfl) fnOK29 d29 bk l fx hl
theorem d48 (bk : Nat) (l : List (Int × Int)) (fx : List Nat) (hl : l.length < 1000000) : Does Try.prog 48 [.own bk 2 0 l.length, .fn 43 []] [(bk, .arr 25 2 (eds l))] fx (fun r m => r = .tup [] ∧ ∃ l' : List (Int × Int), l'.Perm l ∧ l'.Pairwise (fun x y => ¬ places y x < 0) ∧ m = [(bk, .arr 25 2 (eds l'))]) := sort_I bk l fx hl d43
def s23 (L : List Node) (done t : List (Int × Int)) (o : List Node) (s : Slots) (m : Mem) : St := ⟨(1, .ro 2 (eds done)) :: (5, .mapr 23009) :: (6, .own 23040 4 0 o.length) :: (14, .ro 4 (eNs L)) :: (15, iv L.length) :: s, (23009, .map (setM t)) :: (23040, .arr 30 4 (eNs o)) :: m, []⟩
def I23 (L : List Node) (done : List (Int × Int)) (m : Nat) (st : St) : Prop := ∃ (i : Nat) (t : List (Int × Int)) (o : List Node), i ≤ L.length ∧ m = L.length - i ∧ o ++ fstR done t (L.drop i) = fstR done [] L ∧ st = s23 L done t o [(16, iv i)] []
theorem fstR_length (done : List (Int × Int)) : ∀ (L : List Node) (t : List (Int × Int)), (fstR done t L).length ≤ L.length
 | [], t => by simp [fstR]
 | n :: r, t => by
  have h1 := fstR_length done r (ins t n.i)
  have h2 := fstR_length done r t
  simp only [fstR]
  split
  ·split <;> simp <;> omega
  ·simp; omega
theorem c23 : chkFn Try.prog 23 45 2 a23 a23R = true := by kernel_rfl
theorem d23 (l : List Node) (done : List (Int × Int)) (hl : l.length < 1000000) (hdn : done.length < 1000000) (hd : ∀ n ∈ l, n.d.length < 1000000) : DoesT 23 [.ro 4 (eNs l), .ro 2 (eds done)] (.ro 4 (eNs (cnt l done))) := by
 obtain ⟨L, hL⟩ : ∃ L, l.take 100 = L := ⟨_, rfl⟩
 have hLl : L.length ≤ 100 := by rw [← hL, List.length_take]; omega
 have hmn : (if (100 : Int) < (l.length : Int) then (100 : Int) else (l.length : Int)) = (L.length : Int) := by rw [← hL, List.length_take]; split <;> omega
 have hLle : L.length ≤ l.length := by rw [← hL, List.length_take]; omega
 have hLt : List.take L.length (l.map eN) = L.map eN := by rw [← List.map_take, ← hL, List.length_take]; congr 1; apply List.ext_getElem?; intro i; simp only [List.getElem?_take]; split <;> split <;> first | rfl | omega | (rw [List.getElem?_eq_none (by omega)])
 have hLd : ∀ n ∈ L, n.d.length < 1000000 := fun n hn => hd n (List.mem_of_mem_take (hL ▸ hn))
 have hfl := fstR_length done L []
 have hU := cntU_perm l done
 unfold cntU at hU
 rw [hL] at hU
 refine Does.of (nt := 45) (ac := a23) (rds := a23R) c23 (fun c hc => ?_)
 unfold a23
 apply J.seq
 refine J.regE (by simp [eNs, eN, eNs_length, eI]; rfl) ?_
 simp
 apply J.seq
 apply J.reg
 refine runL_ext (extK_mkmap trivial rfl ?_)
 simp
 refine runL_step rfl (by simp; rfl) ?_
 simp [runL]
 apply J.seq
 refine J.regE (by simp [eNs, eN, eNs_length, eI]; rfl) ?_
 simp
 refine J.nilrow hc 6 23040 30 rfl rfl rfl ?_
 simp
 apply J.seq
 apply J.seq
 refine J.regE (by simp [eNs, eN, eNs_length, eI, hmn, hLle, hLt]; rfl) ?_
 simp
 apply J.block
 refine J.loop hc (I23 L done) ?_ ?_
 ·exact ⟨_, _, by apply le_sub <;> simp [eNs, s23, setM], 0, [], [], by omega, rfl, rfl, rfl⟩
 rintro n st ⟨i, t, o, hi, rfl, hI, rfl⟩
 unfold s23
 apply J.seq
 refine J.regE (by simp [eNs, eN, eNs_length, eI]; rfl) ?_
 simp
 apply J.seq
 refine J.condB rfl (fun h17 => ?_) (fun h17 => ?_)
 ·
  try simp [eNs_length] at h17
  have hi0 : i < L.length := by omega
  obtain ⟨y, hx, hgx, hg, hge, hdr, hw, hlt2, htk⟩ := getL (eN) (show i < L.length by omega) (by omega)
  rw [hdr] at hI
  simp only [fstR] at hI
  have hmy := hLd _ (List.mem_of_getElem? hx)
  apply J.skip; simp
  apply J.seq
  apply J.block
  apply J.seq
  refine J.regE (by simp [eNs, eN, eNs_length, eI, hi0, hgx]; rfl) ?_
  simp
  apply J.seq
  apply J.reg
  refine runL_step rfl (by simp [eNs, eN, eNs_length, eI]; rfl) ?_
  refine runL_tree rfl (d40 y hmy) (by simp) hc ?_
  simp
  refine runL_step rfl (by simp [eNs, eN, eNs_length, eI]; rfl) ?_
  refine runL_if rfl (fun g22 => ?_) (fun g22 => ?_)
  ·
   try simp only [g22]
   try simp at g22
   try simp at g22
   iterate 3 refine runL_step rfl (by simp [eNs, eN, eNs_length, eI]; rfl) ?_
   refine runL_do (by simp) ?_
   obtain ⟨r0, hr0, hr1⟩ := getA_set y.i t
   refine runL_ext (extK_mapget (x := .agg (eI y.i)) (es := setM t) (r := r0) (by simp; rfl) (by simp) (by simp [eI, Node.i]) (by simp [isTree1, eI, isTree]) (by simp [keyA, eqA, eqv, kindV, eI]) hr0 (.inl rfl) ?_)
   try simp only [hr1]
   simp
   iterate 2 refine runL_step rfl (by simp [eNs, eN, eNs_length, eI]; rfl) ?_
   simp [runL]
   refine J.condB rfl (fun h28 => ?_) (fun h28 => ?_)
   ·
    try simp at h28
    rw [if_pos ⟨g22, h28⟩, ← List.append_assoc] at hI
    apply J.seq
    apply J.reg
    iterate 3 refine runL_step rfl (by simp [eNs, eN, eNs_length, eI]; rfl) ?_
    obtain ⟨r0, hr0, hr1⟩ := putA_set y.i t
    refine runL_ext (extK_mapset (x := .agg (eI y.i)) (es := setM t) (r := r0) (by simp; rfl) (by simp) (by simp [eI, Node.i]) (by simp [isTree1, eI, isTree]) (by simp [keyA, eqA, eqv, kindV, eI]) (by simp; rfl) rfl trivial hr0 ?_)
    try simp only [hr1]
    simp
    simp [runL]
    apply J.seq
    apply J.reg
    iterate 3 refine runL_step rfl (by simp [eNs, eN, eNs_length, eI]; rfl) ?_
    refine runL_tree rfl (d41 done y.i hdn) (by simp) hc ?_
    simp
    refine runL_step rfl (by simp [eNs, eN, eNs_length, eI]; rfl) ?_
    simp [runL]
    refine J.condB rfl (fun h36 => ?_) (fun h36 => ?_)
    ·
     try simp at h36
     have hI2 := hI
     rw [if_neg h36] at hI2
     have hlen := len_pre hI2
     simp at hlen
     apply J.reg
     iterate 5 refine runL_step rfl (by simp [eNs, eN, eNs_length, eI, eNs, eN, eNs_length, eI, show (o.length + 1) * 48 ≤ 140737488355328 from by omega, List.take_of_length_le]; rfl) ?_
     simp [runL]
     refine J.regE (by simp [eNs, eN, eNs_length, eI, hw]; rfl) ?_
     simp
     refine ⟨_, ?_, _, ?_, i + 1, _, _, ?_, rfl, hI2, rfl⟩
     ·omega
     ·apply le_sub <;> simp [eNs, eN, s23]
     ·omega
    ·
     try simp at h36
     have hI2 := hI
     rw [if_pos h36, List.append_nil] at hI2
     apply J.skip; simp
     refine J.regE (by simp [eNs, eN, eNs_length, eI, hw]; rfl) ?_
     simp
     refine ⟨_, ?_, _, ?_, i + 1, _, _, ?_, rfl, hI2, rfl⟩
     ·omega
     ·apply le_sub <;> simp [eNs, eN, s23]
     ·omega
   ·
    try simp at h28
    have hI2 := hI
    rw [if_neg (by simp [h28])] at hI2
    apply J.skip; simp
    refine J.regE (by simp [eNs, eN, eNs_length, eI, hw]; rfl) ?_
    simp
    refine ⟨_, ?_, _, ?_, i + 1, _, _, ?_, rfl, hI2, rfl⟩
    ·omega
    ·apply le_sub <;> simp [eNs, eN, s23]
    ·omega
  ·
   try simp only [g22]
   try simp at g22
   try simp at g22
   have hI2 := hI
   rw [if_neg (by simp [g22])] at hI2
   iterate 2 refine runL_step rfl (by simp [eNs, eN, eNs_length, eI]; rfl) ?_
   refine runL_pass (b := _) rfl (by simp) ?_
   simp
   iterate 2 refine runL_step rfl (by simp [eNs, eN, eNs_length, eI]; rfl) ?_
   simp [runL]
   apply J.cond; simp [eNs, eN, eNs_length, eI]
   apply J.skip; simp
   refine J.regE (by simp [eNs, eN, eNs_length, eI, hw]; rfl) ?_
   simp
   refine ⟨_, ?_, _, ?_, i + 1, _, _, ?_, rfl, hI2, rfl⟩
   ·omega
   ·apply le_sub <;> simp [eNs, eN, s23]
   ·omega
 ·
  try simp [eNs_length] at h17
  obtain rfl : i = L.length := by omega
  rw [List.drop_length] at hI
  simp only [fstR, List.append_nil] at hI
  apply J.exit; simp
  apply J.seq
  apply J.reg
  refine runL_step rfl (by simp [eNs, eN, eNs_length, eI]; rfl) ?_
  refine runL_call [23040] [23040] rfl rfl (d28P 23040 o [23040] (by rw [hI]; omega)) (by simp) (by simp) (by simp) hc ?_
  rintro rv m1 ⟨rfl, l', hp', hs', rfl⟩
  refine ⟨by simp, ?_⟩
  try simp only [callSt, dropAll, killAll]
  simp
  simp [runL]
  have hll := hp'.length_eq
  obtain rfl := cnt_of_sorted (hp'.trans (hI ▸ hU)) hs'
  rw [← hll]
  apply J.seq
  refine J.freeze hc 23040 rfl ?_
  simp
  refine J.regE (by simp [eNs, eN, eNs_length, eI]; rfl) ?_
  simp
  apply J.ret
  refine ⟨by simp, rfl, _, [], by simp [a23R]; rfl, ?_⟩
  simp [eNs, List.take_of_length_le]
def I25a (z : List Node) (done : List (Int × Int)) (m : Nat) (st : St) : Prop := ∃ (i : Nat) (t : List (Int × Int)), i ≤ z.length ∧ m = z.length - i ∧ insAll t (insL (z.drop i)) = insAll [] (insL z) ∧ st = ⟨[(0, .ro 4 (eNs z)), (1, .ro 2 (eds done)), (5, .mapr 25017), (18, .ro 4 (eNs z)), (19, iv z.length), (20, iv i)], [(25017, .map (setM t))], []⟩
def I25b (z : List Node) (done : List (Int × Int)) (m : Nat) (st : St) : Prop := ∃ (i : Nat) (t : List (Int × Int)), i ≤ done.length ∧ m = done.length - i ∧ insAll t (done.drop i) = insAll (insAll [] (insL z)) done ∧ st = ⟨[(0, .ro 4 (eNs z)), (5, .mapr 25017), (28, .ro 2 (eds done)), (29, iv done.length), (30, iv i)], [(25017, .map (setM t))], []⟩
def s25 (z : List Node) (t o : List (Int × Int)) (i : Nat) (s : Slots) (m : Mem) : St := ⟨(5, .mapr 25017) :: (10, .own 25076 2 0 o.length) :: (37, .ro 4 (eNs z)) :: (38, iv z.length) :: (39, iv i) :: s, (25017, .map (setM t)) :: (25076, .arr 25 2 (eds o)) :: m, []⟩
def I25c (z : List Node) (done : List (Int × Int)) (m : Nat) (st : St) : Prop := ∃ (i : Nat) (t o : List (Int × Int)), i ≤ z.length ∧ m = z.length - i ∧ o ++ ded t (candL (z.drop i)) = misU z done ∧ st = s25 z t o i [] []
def I25d (z : List Node) (done : List (Int × Int)) (i : Nat) (D : List Int) (m : Nat) (st : St) : Prop := ∃ (j : Nat) (t o : List (Int × Int)), j ≤ D.length ∧ m = D.length - j ∧ o ++ ded t (candD j (D.drop j) ++ candL (z.drop (i + 1))) = misU z done ∧ st = s25 z t o i [(51, .ro 1 (ints D)), (52, iv D.length), (53, iv j)] []
def I25e (z : List Node) (done : List (Int × Int)) (i : Nat) (D : List Int) (j : Nat) (v : Int) (m : Nat) (st : St) : Prop := ∃ (s : Nat) (t o : List (Int × Int)), 1 ≤ s ∧ m = v.toNat + 1 - s ∧ o ++ ded t (colS j s v ++ (candD (j + 1) (D.drop (j + 1)) ++ candL (z.drop (i + 1)))) = misU z done ∧ st = s25 z t o i [(13, iv j), (14, iv v), (15, iv s), (51, .ro 1 (ints D)), (52, iv D.length), (53, iv j)] []
theorem colS_step {b s : Nat} {d : Int} (h : (s : Int) ≤ d) (h1 : 1 ≤ s) : colS b s d = ((b : Int) + 1, (s : Int)) :: colS b (s + 1) d := by
 unfold colS
 rw [show d.toNat + 1 - s = (d.toNat + 1 - (s + 1)) + 1 by omega, List.range'_succ]; rfl
theorem colS_end {b s : Nat} {d : Int} (h : d < (s : Int)) (h1 : 1 ≤ s) : colS b s d = [] := by
 unfold colS
 rw [show d.toNat + 1 - s = 0 by omega]; rfl
theorem nodup_perm_len {a b : List (Int × Int)} (h : a.Perm b) : a.length = b.length := h.length_eq
theorem c25 : chkFn Try.prog 25 82 2 a25 a25R = true := by kernel_rfl
theorem d25 (z : List Node) (done : List (Int × Int)) (hl : z.length ≤ 1000) (hdn : done.length < 1000000) (hd : ∀ n ∈ z, n.d.length < 1000000) (hz : ∀ n ∈ z, near n = true) : DoesT 25 [.ro 4 (eNs z), .ro 2 (eds done)] (.ro 2 (eds (miss z done))) := by
 have hU := misU_perm (done := done) hz
 have hml := miss_length z done
 have hul := hU.length_eq
 have h60 : ∀ n ∈ z, ∀ v ∈ n.d, v ≤ 60 := fun n hn v hv => by have h := hz n hn; simp only [near, Bool.and_eq_true, Bool.not_eq_true', List.any_eq_false, decide_eq_true_eq] at h; have := h.2 v hv; omega
 refine Does.of (nt := 82) (ac := a25) (rds := a25R) c25 (fun c hc => ?_)
 unfold a25
 apply J.seq
 refine J.regE (by simp [eNs, eN, eNs_length, eI]; rfl) ?_
 simp
 apply J.seq
 apply J.reg
 refine runL_ext (extK_mkmap trivial rfl ?_)
 simp
 refine runL_step rfl (by simp; rfl) ?_
 simp [runL]
 apply J.seq
 apply J.seq
 refine J.regE (by simp [eNs, eN, eNs_length, eI]; rfl) ?_
 simp
 apply J.block
 refine J.loop hc (I25a z done) ?_ ?_
 ·exact ⟨_, _, by apply le_sub <;> simp [eNs, setM], 0, [], by omega, rfl, rfl, rfl⟩
 rintro n st ⟨i, t, hi, rfl, hI, rfl⟩
 apply J.seq
 refine J.regE (by simp [eNs, eN, eNs_length, eI]; rfl) ?_
 simp
 apply J.seq
 refine J.condB rfl (fun h21 => ?_) (fun h21 => ?_)
 ·
  try simp [eNs_length] at h21
  have hi0 : i < z.length := by omega
  obtain ⟨y, hx, hgx, hg, hge, hdr, hw, hlt2, htk⟩ := getL (eN) (show i < z.length by omega) (by omega)
  rw [hdr, insL, List.map_cons, insAll] at hI
  apply J.skip; simp
  apply J.seq
  apply J.block
  apply J.seq
  refine J.regE (by simp [eNs, eN, eNs_length, eI, hi0, hgx]; rfl) ?_
  simp
  apply J.reg
  iterate 3 refine runL_step rfl (by simp [eNs, eN, eNs_length, eI]; rfl) ?_
  obtain ⟨r0, hr0, hr1⟩ := putA_set y.i t
  refine runL_ext (extK_mapset (x := .agg (eI y.i)) (es := setM t) (r := r0) (by simp; rfl) (by simp) (by simp [eI, Node.i]) (by simp [isTree1, eI, isTree]) (by simp [keyA, eqA, eqv, kindV, eI]) (by simp; rfl) rfl trivial hr0 ?_)
  try simp only [hr1]
  simp
  simp [runL]
  refine J.regE (by simp [eNs, eN, eNs_length, eI, hw]; rfl) ?_
  simp
  refine ⟨_, ?_, _, ?_, i + 1, _, ?_, rfl, hI, rfl⟩
  ·omega
  ·apply le_sub <;> simp [eNs]
  ·omega
 ·
  try simp [eNs_length] at h21
  obtain rfl : i = z.length := by omega
  rw [List.drop_length] at hI
  simp only [insL, List.map_nil, insAll] at hI
  apply J.exit; simp
  apply J.seq
  apply J.seq
  refine J.regE (by simp [eNs, eN, eNs_length, eI]; rfl) ?_
  simp
  apply J.block
  refine J.loop hc (I25b z done) ?_ ?_
  ·refine ⟨_, _, ?_, 0, t, by omega, rfl, by rw [hI]; rfl, rfl⟩
   apply le_sub <;> simp [eNs]
  rintro n st ⟨i, t, hi, rfl, hI, rfl⟩
  apply J.seq
  refine J.regE (by simp [eNs, eN, eNs_length, eI]; rfl) ?_
  simp
  apply J.seq
  refine J.condB rfl (fun h31 => ?_) (fun h31 => ?_)
  ·
   try simp at h31
   have hi0 : i < done.length := by omega
   obtain ⟨y, hx, hgx, hg, hge, hdr, hw, hlt2, htk⟩ := getL (eI) (show i < done.length by omega) (by omega)
   rw [hdr, insAll] at hI
   apply J.skip; simp
   apply J.seq
   apply J.block
   apply J.seq
   refine J.regE (by simp [eNs, eN, eNs_length, eI, hi0, hgx]; rfl) ?_
   simp
   apply J.reg
   iterate 2 refine runL_step rfl (by simp [eNs, eN, eNs_length, eI]; rfl) ?_
   obtain ⟨r0, hr0, hr1⟩ := putA_set y t
   refine runL_ext (extK_mapset (x := .agg (eI y)) (es := setM t) (r := r0) (by simp; rfl) (by simp) (by simp [eI, Node.i]) (by simp [isTree1, eI, isTree]) (by simp [keyA, eqA, eqv, kindV, eI]) (by simp; rfl) rfl trivial hr0 ?_)
   try simp only [hr1]
   simp
   simp [runL]
   refine J.regE (by simp [eNs, eN, eNs_length, eI, hw]; rfl) ?_
   simp
   refine ⟨_, ?_, _, ?_, i + 1, _, ?_, rfl, hI, rfl⟩
   ·omega
   ·apply le_sub <;> simp [eNs]
   ·omega
  ·
   try simp at h31
   obtain rfl : i = done.length := by omega
   rw [List.drop_length] at hI
   simp only [insAll] at hI
   apply J.exit; simp
   apply J.seq
   refine J.regE (by simp [eNs, eN, eNs_length, eI]; rfl) ?_
   simp
   refine J.nilrow hc 10 25076 25 rfl rfl rfl ?_
   simp
   apply J.seq
   apply J.seq
   refine J.regE (by simp [eNs, eN, eNs_length, eI]; rfl) ?_
   simp
   apply J.block
   refine J.loop hc (I25c z done) ?_ ?_
   ·refine ⟨_, _, ?_, 0, t, [], by omega, rfl, by rw [hI]; rfl, rfl⟩
    apply le_sub <;> simp [eNs, eN, s25]
   rintro n st ⟨i, t, o, hi, rfl, hI, rfl⟩
   unfold s25
   apply J.seq
   refine J.regE (by simp [eNs, eN, eNs_length, eI]; rfl) ?_
   simp
   apply J.seq
   refine J.condB rfl (fun h40 => ?_) (fun h40 => ?_)
   ·
    try simp [eNs_length] at h40
    have hi0 : i < z.length := by omega
    obtain ⟨y, hx, hgx, hg, hge, hdr, hw, hlt2, htk⟩ := getL (eN) (show i < z.length by omega) (by omega)
    rw [hdr] at hI
    simp only [candL] at hI
    have hyz := List.mem_of_getElem? hx
    have hyd := hd y hyz
    obtain ⟨D, hD⟩ : ∃ D, y.d.take 7 = D := ⟨_, rfl⟩
    rw [hD] at hI
    have hDl : D.length ≤ 7 := by rw [← hD, List.length_take]; omega
    have hDle : D.length ≤ y.d.length := by rw [← hD, List.length_take]; omega
    have hDt : List.take D.length y.d = D := by rw [← hD, List.length_take]; apply List.ext_getElem?; intro i; simp only [List.getElem?_take]; split <;> split <;> first | rfl | omega | (rw [List.getElem?_eq_none (by omega)])
    have hmn : (if (7 : Int) < (y.d.length : Int) then (7 : Int) else (y.d.length : Int)) = (D.length : Int) := by rw [← hD, List.length_take]; split <;> omega
    have hDm : ∀ v ∈ D, v ≤ 60 := fun v hv => h60 y hyz v (List.mem_of_mem_take (hD ▸ hv))
    apply J.skip; simp
    apply J.seq
    apply J.block
    apply J.seq
    refine J.regE (by simp [eNs, eN, eNs_length, eI, hi0, hgx]; rfl) ?_
    simp
    apply J.seq
    apply J.reg
    iterate 11 refine runL_step rfl (by simp [eNs, eN, eNs_length, eI, hmn, hDle, hDt]; rfl) ?_
    simp [runL]
    apply J.block
    refine J.loop hc (I25d z done i D) ?_ ?_
    ·refine ⟨_, _, ?_, 0, t, o, by omega, rfl, hI, rfl⟩
     apply le_sub <;> simp [eNs, eN, s25]
    rintro n st ⟨j, t, o, hj, rfl, hI, rfl⟩
    unfold s25
    apply J.seq
    refine J.regE (by simp [eNs, eN, eNs_length, eI]; rfl) ?_
    simp
    apply J.seq
    refine J.condB rfl (fun h54 => ?_) (fun h54 => ?_)
    ·
     try simp at h54
     have hj0 : j < D.length := by omega
     obtain ⟨v, hxj, hgxj, hgj, hgej, hdrj, hwj, hlt2j, htkj⟩ := getL (fun v => [iv v]) (show j < D.length by omega) (by omega)
     rw [hdrj] at hI
     simp only [candD] at hI
     rw [List.append_assoc] at hI
     have hv60 := hDm v (List.mem_of_getElem? hxj)
     apply J.skip; simp
     apply J.seq
     apply J.block
     apply J.seq
     refine J.regE (by simp [eNs, eN, eNs_length, eI, hj0, hgxj]; rfl) ?_
     simp
     apply J.seq
     refine J.regE (by simp [eNs, eN, eNs_length, eI]; rfl) ?_
     simp
     apply J.block
     refine J.loop hc (I25e z done i D j v) ?_ ?_
     ·refine ⟨_, _, ?_, 1, t, o, by omega, rfl, hI, rfl⟩
      apply le_sub <;> simp [eNs, eN, s25]
     rintro n st ⟨s, t, o, hs, rfl, hI, rfl⟩
     unfold s25
     apply J.seq
     apply J.seq
     refine J.regE (by simp [eNs, eN, eNs_length, eI]; rfl) ?_
     simp
     refine J.condB rfl (fun h60b => ?_) (fun h60b => ?_)
     ·
      try simp at h60b
      rw [colS_step h60b hs, List.cons_append, ded] at hI
      have hws : IntKind.i64.wrap ((s : Int) + 1) = (s : Int) + 1 := wrap_id (by omega) (by omega)
      apply J.skip; simp
      apply J.seq
      apply J.block
      apply J.seq
      refine J.regE (by simp [eNs, eN, eNs_length, eI, hwj]; rfl) ?_
      simp
      apply J.seq
      apply J.reg
      iterate 2 refine runL_step rfl (by simp [eNs, eN, eNs_length, eI]; rfl) ?_
      obtain ⟨r0, hr0, hr1⟩ := getA_set ((j : Int) + 1, (s : Int)) t
      refine runL_ext (extK_mapget (x := .agg (eI ((j : Int) + 1, (s : Int)))) (es := setM t) (r := r0) (by simp; rfl) (by simp) (by simp [eI, Node.i]) (by simp [isTree1, eI, isTree]) (by simp [keyA, eqA, eqv, kindV, eI]) hr0 (.inl rfl) ?_)
      try simp only [hr1]
      simp
      refine runL_step rfl (by simp [eNs, eN, eNs_length, eI]; rfl) ?_
      simp [runL]
      refine J.condB rfl (fun h70 => ?_) (fun h70 => ?_)
      ·
       try simp at h70
       rw [if_neg h70] at hI
       have hI2 := hI
       rw [← List.singleton_append, ← List.append_assoc] at hI2
       have hlen := len_pre hI2
       simp at hlen
       apply J.seq
       apply J.reg
       iterate 2 refine runL_step rfl (by simp [eNs, eN, eNs_length, eI]; rfl) ?_
       obtain ⟨r0, hr0, hr1⟩ := putA_set ((j : Int) + 1, (s : Int)) t
       refine runL_ext (extK_mapset (x := .agg (eI ((j : Int) + 1, (s : Int)))) (es := setM t) (r := r0) (by simp; rfl) (by simp) (by simp [eI, Node.i]) (by simp [isTree1, eI, isTree]) (by simp [keyA, eqA, eqv, kindV, eI]) (by simp; rfl) rfl trivial hr0 ?_)
       try simp only [hr1]
       simp
       simp [runL]
       apply J.reg
       iterate 5 refine runL_step rfl (by simp [eNs, eN, eNs_length, eI, eNs, eN, eNs_length, eI, show (o.length + 1) * 16 ≤ 140737488355328 from by omega, List.take_of_length_le]; rfl) ?_
       simp [runL]
       refine J.regE (by simp [eNs, eN, eNs_length, eI, hws]; rfl) ?_
       simp
       refine ⟨_, ?_, _, ?_, s + 1, _, _, ?_, rfl, hI2, rfl⟩
       ·omega
       ·apply le_sub <;> simp [eNs, eN, s25]
       ·omega
      ·
       try simp at h70
       rw [if_pos h70] at hI
       have hI2 := hI
       apply J.skip; simp
       refine J.regE (by simp [eNs, eN, eNs_length, eI, hws]; rfl) ?_
       simp
       refine ⟨_, ?_, _, ?_, s + 1, _, _, ?_, rfl, hI2, rfl⟩
       ·omega
       ·apply le_sub <;> simp [eNs, eN, s25]
       ·omega
     ·
      try simp at h60b
      rw [colS_end h60b hs, List.nil_append] at hI
      apply J.exit; simp
      refine J.regE (by simp [eNs, eN, eNs_length, eI, hwj]; rfl) ?_
      simp
      refine ⟨_, ?_, _, ?_, j + 1, _, _, ?_, rfl, hI, rfl⟩
      ·omega
      ·apply le_sub <;> simp [eNs, eN, s25]
      ·omega
    ·
     try simp at h54
     obtain rfl : j = D.length := by omega
     rw [List.drop_length] at hI
     simp only [candD, List.nil_append] at hI
     apply J.exit; simp
     refine J.regE (by simp [eNs, eN, eNs_length, eI, hw]; rfl) ?_
     simp
     refine ⟨_, ?_, _, ?_, i + 1, _, _, ?_, rfl, hI, rfl⟩
     ·omega
     ·apply le_sub <;> simp [eNs, eN, s25]
     ·omega
   ·
    try simp [eNs_length] at h40
    obtain rfl : i = z.length := by omega
    rw [List.drop_length] at hI
    simp only [candL, ded, List.append_nil] at hI
    apply J.exit; simp
    apply J.seq
    apply J.reg
    refine runL_step rfl (by simp [eNs, eN, eNs_length, eI]; rfl) ?_
    refine runL_call [25076] [25076] rfl rfl (d48 25076 o [25076] (by rw [hI]; omega)) (by simp) (by simp) (by simp) hc ?_
    rintro rv m1 ⟨rfl, l', hp', hs', rfl⟩
    refine ⟨by simp, ?_⟩
    try simp only [callSt, dropAll, killAll]
    simp
    simp [runL]
    have hll := hp'.length_eq
    obtain rfl := miss_of_sorted (hp'.trans (hI ▸ hU)) hs'
    rw [← hll]
    apply J.seq
    refine J.freeze hc 25076 rfl ?_
    simp
    refine J.regE (by simp [eNs, eN, eNs_length, eI]; rfl) ?_
    simp
    apply J.ret
    refine ⟨by simp, rfl, _, [], by simp [a25R]; rfl, ?_⟩
    simp [List.take_of_length_le]
def s27 (z : List Node) (e : List (Int × Int)) (s : Slots) (m : Mem) : St := ⟨(0, .ro 4 (eNs z)) :: (3, .own 27032 2 0 e.length) :: s, (27032, .arr 46 2 (eds e)) :: m, []⟩
def I27 (z : List Node) (m : Nat) (st : St) : Prop := ∃ (i : Nat) (e : List (Int × Int)), i ≤ z.length ∧ m = z.length - i ∧ e ++ edR z i (z.drop i) = edgs z ∧ st = s27 z e [(8, .ro 4 (eNs z)), (9, iv z.length), (10, iv i)] []
def I27b (z : List Node) (a : Node) (i : Nat) (m : Nat) (st : St) : Prop := ∃ (k : Nat) (e : List (Int × Int)), k ≤ z.length ∧ m = z.length - k ∧ (e ++ edK a i (z.drop k) k) ++ edR z (i + 1) (z.drop (i + 1)) = edgs z ∧ st = s27 z e [(4, iv i), (5, .ptr 27005 0 0 0), (8, .ro 4 (eNs z)), (9, iv z.length), (10, iv i), (15, .ro 4 (eNs z)), (16, iv z.length), (17, iv k)] [(27005, .obj 30 (eN a))]
theorem le45 {st : St} {z : List Node} {ms : List (Int × Int)} {k : Int} (h5 : SX.look st.slots 5 = some (.ro 2 (eds ms))) (h6 : SX.look st.slots 6 = some (.fn 46 [.rop 1 [[.ro 4 (eNs z)]] 0 0, .ptr 44003 0 0 0])) (m1 : SX.look st.mem 44003 = some (.obj 3 [iv k])) (hf : st.fixed = []) :
  St.le st ⟨[(5, .ro 2 (eds ms)), (6, .fn 46 [.rop 1 [[.ro 4 (eNs z)]] 0 0, .rop 1 [[iv k]] 0 0])], [], []⟩ := by
 refine le_retell ?_ ?_ (by rw [hf]) (by rw [hf]; simp)
 ·intro p hp
  simp only [List.mem_cons, List.not_mem_nil, or_false] at hp
  rcases hp with rfl | rfl
  ·exact ⟨_, h5, .same trivial⟩
  ·refine ⟨_, h6, .fn rfl (fun i x hx => ?_)⟩
   match i with
   | 0 => simp at hx; subst hx; exact .same trivial
   | 1 => simp at hx; subst hx; exact Re.rop (xs := [iv k]) m1 rfl rfl (by simp) (by simp [isTree]) (fun i x hx => by match i with | 0 => simp at hx; subst hx; exact .same trivial | i + 1 => simp at hx)
   | i + 2 => simp at hx
 ·intro p hp; simp at hp
theorem le47 {st : St} {z : List Node} {ms : List (Int × Int)} {r : List Nat} (h24 : SX.look st.slots 24 = some (.ro 1 (nats r))) (h25 : SX.look st.slots 25 = some (.fn 44 [.ptr 24003 0 0 0, .ptr 24002 0 0 0])) (m1 : SX.look st.mem 24003 = some (.obj 23 [.ro 2 (eds ms)])) (m2 : SX.look st.mem 24002 = some (.obj 22 [.ro 4 (eNs z)])) (hf : st.fixed = []) :
  St.le { st with fixed := [] } ⟨[(24, .ro 1 (nats r)), (25, .fn 44 [.rop 1 [[.ro 2 (eds ms)]] 0 0, .rop 1 [[.ro 4 (eNs z)]] 0 0])], [], []⟩ := by
 refine le_retell ?_ ?_ rfl (by simp)
 ·intro p hp
  simp only [List.mem_cons, List.not_mem_nil, or_false] at hp
  rcases hp with rfl | rfl
  ·exact ⟨_, h24, .same trivial⟩
  ·refine ⟨_, h25, .fn rfl (fun i x hx => ?_)⟩
   match i with
   | 0 => simp at hx; subst hx; exact Re.rop (xs := [.ro 2 (eds ms)]) m1 rfl rfl (by simp) (by simp [isTree]) (fun i x hx => by match i with | 0 => simp at hx; subst hx; exact .same trivial | i + 1 => simp at hx)
   | 1 => simp at hx; subst hx; exact Re.rop (xs := [.ro 4 (eNs z)]) m2 rfl rfl (by simp) (by simp [isTree]) (fun i x hx => by match i with | 0 => simp at hx; subst hx; exact .same trivial | i + 1 => simp at hx)
   | i + 2 => simp at hx
 ·intro p hp; simp at hp
theorem nats_ints (r : List Nat) : nats r = ints (r.map fun x : Nat => (x : Int)) := by simp [nats, ints]
def s24 (z : List Node) (ms : List (Int × Int)) (o : List Node) (i : Nat) : St := ⟨[(2, .ptr 24002 0 0 0), (5, .ro 2 (eds (edgs z))), (6, .fn 44 [.ptr 24003 0 0 0, .ptr 24002 0 0 0]), (7, .own 24031 4 0 o.length), (13, .ro 4 (eNs z)), (14, iv z.length), (15, iv i)], [(24002, .obj 22 [.ro 4 (eNs z)]), (24003, .obj 23 [.ro 2 (eds ms)]), (24031, .arr 30 4 (eNs o))], []⟩
def I24 (z : List Node) (ms : List (Int × Int)) (m : Nat) (st : St) : Prop := ∃ (i : Nat) (o : List Node), i ≤ z.length ∧ m = z.length - i ∧ o ++ rdyR z ms i (z.drop i) = rdy z ms ∧ st = s24 z ms o i
theorem c27 : chkFn Try.prog 27 36 1 a27 a27R = true := by kernel_rfl
theorem d27 (z : List Node) (hl : z.length ≤ 500) (hd : ∀ n ∈ z, n.d.length < 1000000) : DoesT 27 [.ro 4 (eNs z)] (.ro 2 (eds (edgs z))) := by
 have hel := edgs_length hl
 refine Does.of (nt := 36) (ac := a27) (rds := a27R) c27 (fun c hc => ?_)
 unfold a27
 apply J.seq
 refine J.regE (by simp [eNs, eN, eNs_length, eI]; rfl) ?_
 simp
 apply J.seq
 refine J.regE (by simp [eNs, eN, eNs_length, eI]; rfl) ?_
 simp
 refine J.nilrow hc 3 27032 46 rfl rfl rfl ?_
 simp
 apply J.seq
 apply J.seq
 refine J.regE (by simp [eNs, eN, eNs_length, eI]; rfl) ?_
 simp
 apply J.block
 refine J.loop hc (I27 z) ?_ ?_
 ·exact ⟨_, _, by apply le_sub <;> simp [eNs, s27], 0, [], by omega, rfl, rfl, rfl⟩
 rintro n st ⟨i, e, hi, rfl, hI, rfl⟩
 unfold s27
 apply J.seq
 refine J.regE (by simp [eNs, eN, eNs_length, eI]; rfl) ?_
 simp
 apply J.seq
 refine J.condB rfl (fun h11 => ?_) (fun h11 => ?_)
 ·
  try simp [eNs_length] at h11
  have hi0 : i < z.length := by omega
  obtain ⟨a, hx, hgx, hg, hge, hdr, hw, hlt2, htk⟩ := getL (eN) (show i < z.length by omega) (by omega)
  rw [hdr] at hI
  simp only [edR] at hI
  apply J.skip; simp
  apply J.seq
  apply J.block
  apply J.seq
  refine J.regE (by simp [eNs, eN, eNs_length, eI, hi0, hgx]; rfl) ?_
  simp
  apply J.seq
  refine J.regE (by simp [eNs, eN, eNs_length, eI]; rfl) ?_
  simp
  apply J.block
  refine J.loop hc (I27b z a i) ?_ ?_
  ·refine ⟨_, _, ?_, 0, e, by omega, rfl, by simpa using hI, rfl⟩
   apply le_sub <;> simp [eNs, eN, s27]
  rintro n st ⟨k, e, hk, rfl, hI, rfl⟩
  unfold s27
  apply J.seq
  refine J.regE (by simp [eNs, eN, eNs_length, eI]; rfl) ?_
  simp
  apply J.seq
  refine J.condB rfl (fun h18 => ?_) (fun h18 => ?_)
  ·
   try simp [eNs_length] at h18
   have hk0 : k < z.length := by omega
   obtain ⟨b, hxk, hgxk, hgk, hgek, hdrk, hwk, hlt2k, htkk⟩ := getL (eN) (show k < z.length by omega) (by omega)
   rw [hdrk] at hI
   simp only [edK] at hI
   apply J.skip; simp
   apply J.seq
   apply J.block
   apply J.seq
   refine J.regE (by simp [eNs, eN, eNs_length, eI, hk0, hgxk]; rfl) ?_
   simp
   apply J.seq
   apply J.reg
   iterate 4 refine runL_step rfl (by simp [eNs, eN, eNs_length, eI]; rfl) ?_
   refine runL_tree rfl (d20 a.q a.d b.i (hd _ (List.mem_of_getElem? hx))) (by simp) hc ?_
   simp
   simp [runL]
   refine J.condB rfl (fun h26 => ?_) (fun h26 => ?_)
   ·
    try simp at h26
    rw [h26] at hI
    have hI2 : ((e ++ [((i : Int), (k : Int))]) ++ edK a i (z.drop (k + 1)) (k + 1)) ++ edR z (i + 1) (z.drop (i + 1)) = edgs z := by simpa using hI
    have hlen := app_le hI2
    simp at hlen
    apply J.reg
    iterate 7 refine runL_step rfl (by simp [eNs, eN, eNs_length, eI, eNs, eN, eNs_length, eI, show (e.length + 1) * 16 ≤ 140737488355328 from by omega, List.take_of_length_le]; rfl) ?_
    simp [runL]
    refine J.regE (by simp [eNs, eN, eNs_length, eI, hwk]; rfl) ?_
    simp
    refine ⟨_, ?_, _, ?_, k + 1, _, ?_, rfl, hI2, rfl⟩
    ·omega
    ·apply le_sub <;> simp [eNs, eN, s27]
    ·omega
   ·
    try simp at h26
    rw [h26] at hI
    have hI2 : (e ++ edK a i (z.drop (k + 1)) (k + 1)) ++ edR z (i + 1) (z.drop (i + 1)) = edgs z := by simpa using hI
    apply J.skip; simp
    refine J.regE (by simp [eNs, eN, eNs_length, eI, hwk]; rfl) ?_
    simp
    refine ⟨_, ?_, _, ?_, k + 1, _, ?_, rfl, hI2, rfl⟩
    ·omega
    ·apply le_sub <;> simp [eNs, eN, s27]
    ·omega
  ·
   try simp [eNs_length] at h18
   obtain rfl : k = z.length := by omega
   rw [List.drop_length] at hI
   simp only [edK, List.append_nil] at hI
   have hI2 := hI
   apply J.exit; simp
   refine J.regE (by simp [eNs, eN, eNs_length, eI, hw]; rfl) ?_
   simp
   refine ⟨_, by omega, _, ?_, i + 1, e, by omega, rfl, hI2, rfl⟩
   apply le_sub <;> simp [eNs, eN, s27]
 ·
  try simp [eNs_length] at h11
  obtain rfl : i = z.length := by omega
  rw [List.drop_length] at hI
  simp only [edR, List.append_nil] at hI
  apply J.exit; simp
  apply J.seq
  refine J.freeze hc 27032 rfl ?_
  simp
  refine J.regE (by simp [eNs, eN, eNs_length, eI]; rfl) ?_
  simp
  apply J.ret
  refine ⟨by simp, rfl, _, [], by simp [a27R]; rfl, ?_⟩
  simp [hI]
theorem c46 : chkFn Try.prog 46 12 1 a46 a46R = true := by kernel_rfl
theorem d46 (z : List Node) (x : Int × Int) (k : Nat) (hk : k < z.length) (hd : ∀ n ∈ z, n.d.length < 1000000) : DoesT 46 [.agg (eI x), .rop 1 [[.ro 4 (eNs z)]] 0 0, .rop 1 [[iv k]] 0 0] (bv (waits (ndAt z k).d x)) := by
 have hnd : ∀ h, z[k]'h = ndAt z k := fun h => by simp [ndAt, h]
 have hmv := hd _ (ndAt_mem hk)
 refine Does.of (nt := 12) (ac := a46) (rds := a46R) c46 (fun c hc => ?_)
 unfold a46
 apply J.seq
 refine J.regE (by simp [eNs, eN, eNs_length, eI]; rfl) ?_
 simp
 apply J.seq
 apply J.draw; intro c' hc'
 iterate 6 refine runP_stepQ (by simp [eNs, eN, eNs_length, eI, hk, hnd]; rfl) ?_
 refine runP_tree rfl (d20 (ndAt z k).q (ndAt z k).d x hmv) (by simp) rfl ?_
 simp
 refine runP_stepQ (by simp [eNs, eN, eNs_length, eI, hk, hnd]; rfl) ?_
 simp [runP]
 apply J.ret
 refine ⟨by simp, rfl, _, [], by simp [a46R]; rfl, ?_⟩
 simp
theorem c44 : chkFn Try.prog 44 8 1 a44 a44R = true := by kernel_rfl
theorem d44 (z : List Node) (ms : List (Int × Int)) (k : Nat) (hk : k < z.length) (hd : ∀ n ∈ z, n.d.length < 1000000) (hms : ms.length < 1000000) : DoesT 44 [iv k, .rop 1 [[.ro 2 (eds ms)]] 0 0, .rop 1 [[.ro 4 (eNs z)]] 0 0] (bv (lacks ms (ndAt z k))) := by
 refine Does.of (nt := 8) (ac := a44) (rds := a44R) c44 (fun c hc => ?_)
 unfold a44
 apply J.seq
 refine J.regE (by simp; rfl) ?_
 simp
 apply J.seq
 apply J.reg
 iterate 2 refine runL_step rfl (by simp; rfl) ?_
 refine runL_view (le45 (k := k) rfl rfl rfl rfl) rfl rfl (d45 ms 46 [.rop 1 [[.ro 4 (eNs z)]] 0 0, .rop 1 [[iv k]] 0 0] (waits (ndAt z k).d) (fun x _ => d46 z x k hk hd) (by simp) hms) (by simp) ?_
 rintro rv m1 ⟨rfl, rfl⟩
 refine ⟨rfl, rfl, ?_⟩
 simp
 refine runL_step rfl (by simp; rfl) ?_
 simp [runL]
 apply J.ret
 refine ⟨by simp, rfl, _, [], by simp [a44R]; rfl, ?_⟩
 simp [lacks]
theorem c24 : chkFn Try.prog 24 34 2 a24 a24R = true := by kernel_rfl
theorem d24 (z : List Node) (ms : List (Int × Int)) (hl : z.length ≤ 100) (hms : ms.length < 1000000) (hd : ∀ n ∈ z, n.d.length < 1000000) : DoesT 24 [.ro 4 (eNs z), .ro 2 (eds ms)] (.ro 4 (eNs (rdy z ms))) := by
 have hel := edgs_length (c := z) (by omega)
 have hrl := rdy_length z ms
 refine Does.of (nt := 34) (ac := a24) (rds := a24R) c24 (fun c hc => ?_)
 unfold a24
 apply J.seq
 refine J.regE (by simp [eNs, eN, eNs_length, eI]; rfl) ?_
 simp
 apply J.seq
 apply J.reg
 refine runL_step rfl (by simp [eNs, eN, eNs_length, eI]; rfl) ?_
 refine runL_tree rfl (by simpa [eNs] using d27 z (by omega) hd) (by simp) hc ?_
 simp
 refine runL_step rfl (by simp [eNs, eN, eNs_length, eI]; rfl) ?_
 simp [runL]
 apply J.seq
 refine J.regE (by simp [eNs, eN, eNs_length, eI]; rfl) ?_
 simp
 apply J.seq
 refine J.regE (by simp [eNs, eN, eNs_length, eI]; rfl) ?_
 simp
 refine J.nilrow hc 7 24031 30 rfl rfl rfl ?_
 simp
 apply J.seq
 apply J.seq
 refine J.regE (by simp [eNs, eN, eNs_length, eI]; rfl) ?_
 simp
 apply J.block
 refine J.loop hc (I24 z ms) ?_ ?_
 ·exact ⟨_, _, by apply le_sub <;> simp [eNs, s24], 0, [], by omega, rfl, rfl, rfl⟩
 rintro n st ⟨i, o, hi, rfl, hI, rfl⟩
 unfold s24
 apply J.seq
 refine J.regE (by simp [eNs, eN, eNs_length, eI]; rfl) ?_
 simp
 apply J.seq
 refine J.condB rfl (fun h16 => ?_) (fun h16 => ?_)
 ·
  try simp [eNs_length] at h16
  have hi0 : i < z.length := by omega
  obtain ⟨a, hx, hgx, hg, hge, hdr, hw, hlt2, htk⟩ := getL (eN) (show i < z.length by omega) (by omega)
  rw [hdr] at hI
  simp only [rdyR] at hI
  obtain ⟨r, hr⟩ : ∃ r, P11.clos (z.length : Nat) (edgs z) (i : Nat) = r := ⟨_, rfl⟩
  have hrb : ∀ v ∈ r, v < z.length := fun v hv => clos_lt (hr ▸ hv) hl
  have hrn : r.length ≤ 100 := hr ▸ clos_length _ _ _
  have hok : okB z ms i = !r.any fun k => lacks ms (ndAt z k) := by rw [← hr]; rfl
  have h39 := P11.d15 (z.length : Nat) (edgs z) (i : Nat) (by omega)
  rw [hr] at h39
  have h47 : DoesT 47 [.ro 1 (nats r), .fn 44 [.rop 1 [[.ro 2 (eds ms)]] 0 0, .rop 1 [[.ro 4 (eNs z)]] 0 0]] (bv (r.any fun k => lacks ms (ndAt z k))) := by
   rw [nats_ints]
   have h := d47 (r.map fun x : Nat => (x : Int)) 44 [.rop 1 [[.ro 2 (eds ms)]] 0 0, .rop 1 [[.ro 4 (eNs z)]] 0 0] (fun x => lacks ms (ndAt z x.toNat)) (fun x hx => by
    obtain ⟨k, hk, rfl⟩ := List.mem_map.1 hx
    exact d44 z ms k (hrb k hk) hd hms) (by simp) (by simp; omega)
   rw [List.any_map] at h
   exact h
  apply J.skip; simp
  apply J.seq
  apply J.block
  apply J.seq
  refine J.regE (by simp [eNs, eN, eNs_length, eI, hi0, hgx]; rfl) ?_
  simp
  apply J.seq
  apply J.reg
  iterate 4 refine runL_step rfl (by simp [eNs, eN, eNs_length, eI]; rfl) ?_
  refine runL_tree rfl (by simpa [eNs] using h39) (by simp) hc ?_
  simp
  refine runL_step rfl (by simp [eNs, eN, eNs_length, eI]; rfl) ?_
  refine runL_view (le47 (z := z) (ms := ms) (r := r) rfl rfl rfl rfl rfl) rfl rfl h47 (by simp) ?_
  rintro rv m1 ⟨rfl, rfl⟩
  refine ⟨rfl, rfl, ?_⟩
  simp
  refine runL_step rfl (by simp [eNs, eN, eNs_length, eI]; rfl) ?_
  simp [runL]
  refine J.condB rfl (fun h27 => ?_) (fun h27 => ?_)
  ·
   have h27b : (r.any fun k => lacks ms (ndAt z k)) = false := by simpa using h27
   have hI2 : (o ++ [a]) ++ rdyR z ms (i + 1) (z.drop (i + 1)) = rdy z ms := by rw [hok, h27b] at hI; simpa using hI
   have hlen := len_pre hI2
   simp at hlen
   apply J.reg
   iterate 5 refine runL_step rfl (by simp [eNs, eN, eNs_length, eI, eNs, eN, eNs_length, eI, show (o.length + 1) * 48 ≤ 140737488355328 from by omega, List.take_of_length_le]; rfl) ?_
   simp [runL]
   refine J.regE (by simp [eNs, eN, eNs_length, eI, hw]; rfl) ?_
   simp
   refine ⟨_, ?_, _, ?_, i + 1, _, ?_, rfl, hI2, rfl⟩
   ·omega
   ·apply le_sub <;> simp [eNs, eN, s24]
   ·omega
  ·
   have h27b : (r.any fun k => lacks ms (ndAt z k)) = true := by simpa using h27
   have hI2 : o ++ rdyR z ms (i + 1) (z.drop (i + 1)) = rdy z ms := by rw [hok, h27b] at hI; simpa using hI
   apply J.skip; simp
   refine J.regE (by simp [eNs, eN, eNs_length, eI, hw]; rfl) ?_
   simp
   refine ⟨_, ?_, _, ?_, i + 1, _, ?_, rfl, hI2, rfl⟩
   ·omega
   ·apply le_sub <;> simp [eNs, eN, s24]
   ·omega
 ·
  try simp [eNs_length] at h16
  obtain rfl : i = z.length := by omega
  rw [List.drop_length] at hI
  simp only [rdyR, List.append_nil] at hI
  apply J.exit; simp
  apply J.seq
  refine J.freeze hc 24031 rfl ?_
  simp
  refine J.regE (by simp [eNs, eN, eNs_length, eI]; rfl) ?_
  simp
  apply J.ret
  refine ⟨by simp, rfl, _, [], by simp [a24R]; rfl, ?_⟩
  simp [hI, eNs, List.take_of_length_le]
theorem c14 : chkFn Try.prog 14 10 2 a14 a14R = true := by kernel_rfl
theorem d14 (l : List Node) (done : List (Int × Int)) (hl : l.length < 1000000) (hdn : done.length < 1000000) (hd : ∀ n ∈ l, n.d.length < 1000000) : DoesT 14 [.ro 4 (eNs l), .ro 2 (eds done)] (.ro 2 (eds (missL l done))) := by
 have hcl := cnt_length l done
 refine Does.of (nt := 10) (ac := a14) (rds := a14R) c14 (fun c hc => ?_)
 unfold a14
 apply J.seq
 refine J.regE (by simp; rfl) ?_
 simp
 apply J.seq
 apply J.reg
 iterate 2 refine runL_step rfl (by simp; rfl) ?_
 refine runL_tree rfl (d23 l done hl hdn hd) (by simp) hc ?_
 simp
 refine runL_step rfl (by simp; rfl) ?_
 refine runL_tree rfl (d25 (cnt l done) done (by omega) hdn (fun n hn => hd n (mem_cnt hn).1) (fun n hn => (mem_cnt hn).2.1)) (by simp) hc ?_
 simp
 refine runL_step rfl (by simp; rfl) ?_
 simp [runL]
 apply J.ret
 refine ⟨by simp, rfl, _, [], by simp [a14R]; rfl, ?_⟩
 simp [missL]
end Go.Proofs.Ytdekelhmneeniaa.F
