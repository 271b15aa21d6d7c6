/- Chapter 11: may a component be told? Printed by walk.py from g8.walk.py. -/
import Derived.Test.YthccfgkklimebaaComps
set_option linter.unusedVariables false
set_option linter.unusedSimpArgs false
namespace Go.Proofs.Ythccfgkklimebaa.F
open Go Go.SX

/-- May component 'c' be told? -/
def okE (of : List Nat) (tc : List Bool) (c k : Nat) : Bool := of.getD k 0 - 1 == c || tc.getD (of.getD k 0 - 1) false
def frB (P to : List (List Nat)) (of : List Nat) (tc : List Bool) (c : Nat) : Bool := (P.getD c []).all fun i => (to.getD i []).all (okE of tc c)
def s22 (P to : List (List Nat)) (of : List Nat) (tc : List Bool) (cc : Nat) (r : List Nat) (i : Nat) : Slots := [(0, iv cc), (2, .rop 1 [[.ro 1 (rws to)]] 0 0), (3, .rop 1 [[.ro 1 (nats of)]] 0 0), (4, .rop 1 [[.ro 1 (bools tc)]] 0 0), (14, .ro 1 (nats r)), (15, iv r.length), (16, iv i)]
def I22 (P to : List (List Nat)) (of : List Nat) (tc : List Bool) (cc : Nat) (r : List Nat) (m : Nat) (st : St) : Prop := ∃ i : Nat, i ≤ r.length ∧ (∀ j (h : j < r.length), j < i → (to.getD r[j] []).all (okE of tc cc) = true) ∧ m = r.length - i ∧ st = ⟨s22 P to of tc cc r i, [], []⟩
def I22b (P to : List (List Nat)) (of : List Nat) (tc : List Bool) (cc : Nat) (r : List Nat) (i : Nat) (q : List Nat) (m : Nat) (st : St) : Prop := ∃ k : Nat, k ≤ q.length ∧ (∀ j (h : j < q.length), j < k → okE of tc cc q[j] = true) ∧ m = q.length - k ∧ st = ⟨s22 P to of tc cc r i ++ [(23, .ro 1 (nats q)), (24, iv q.length), (25, iv k)], [], []⟩

theorem c22 : chkFn Try.prog 22 49 1 a22 a22R = true := by kernel_rfl
/-- colloquy/graph.Components$1 -/
theorem d22 (P to : List (List Nat)) (of : List Nat) (tc : List Bool) (cc : Nat) (hc0 : cc < P.length) (hP : ∀ r ∈ P, r.length ≤ 1000000 ∧ ∀ i ∈ r, i < to.length) (hto : ∀ r ∈ to, r.length ≤ 1000000 ∧ ∀ k ∈ r, k < of.length) (hof : ∀ x ∈ of, 1 ≤ x ∧ x ≤ tc.length ∧ x ≤ 1000000) : DoesT 22 [iv cc, .rop 1 [[.ro 1 (rws P)]] 0 0, .rop 1 [[.ro 1 (rws to)]] 0 0, .rop 1 [[.ro 1 (nats of)]] 0 0, .rop 1 [[.ro 1 (bools tc)]] 0 0] (bv (frB P to of tc cc)) := by
  have hfr : frB P to of tc cc = (P[cc]).all fun i => (to.getD i []).all (okE of tc cc) := by simp [frB, hc0]
  have hPr := hP _ (List.getElem_mem hc0)
  rw [hfr]
  refine Does.of (nt := 49) (ac := a22) (rds := a22R) c22 (fun c hc => ?_)
  unfold a22
  apply J.seq
  refine J.regE (by simp; rfl) ?_
  simp
  apply J.seq
  apply J.seq
  refine J.regE (by simp [hc0]; rfl) ?_
  simp
  generalize P[cc] = r at hPr ⊢
  apply J.block
  refine J.loop hc (I22 P to of tc cc r) ?_ ?_
  · refine ⟨_, _, ?_, 0, by omega, (fun j _ h => by omega), rfl, rfl⟩
    apply le_sub <;> simp [s22]
  rintro n st ⟨i, hi, hdone, rfl, rfl⟩
  unfold s22
  apply J.seq
  refine J.regE (by simp; rfl) ?_
  simp
  apply J.seq
  apply J.cond; simp
  refine ⟨fun hlt => ?_, fun hlt => ?_⟩
  ·
    have hwi : IntKind.i64.wrap ((i : Int) + 1) = i + 1 := wrap_id (by omega) (by omega)
    have hit : r[i] < to.length := hPr.2 _ (List.getElem_mem hlt)
    have hget : to.getD r[i] [] = to[r[i]] := by simp [hit]
    have hqr := hto _ (List.getElem_mem hit)
    apply J.skip; simp
    apply J.seq
    apply J.block
    apply J.seq
    refine J.regE (by simp [hlt]; rfl) ?_
    simp
    apply J.seq
    refine J.regE (by simp [hit]; rfl) ?_
    simp
    generalize to[r[i]] = q at hqr hget ⊢
    apply J.block
    refine J.loop hc (I22b P to of tc cc r i q) ?_ ?_
    · refine ⟨_, _, ?_, 0, by omega, (fun j _ h => by omega), rfl, rfl⟩
      apply le_sub <;> simp [s22]
    rintro n st ⟨k, hk, hq, rfl, rfl⟩
    unfold s22
    simp
    apply J.seq
    refine J.regE (by simp; rfl) ?_
    simp
    apply J.seq
    apply J.cond; simp
    refine ⟨fun hkl => ?_, fun hkl => ?_⟩
    ·
      have hwk : IntKind.i64.wrap ((k : Int) + 1) = k + 1 := wrap_id (by omega) (by omega)
      have hko : q[k] < of.length := hqr.2 _ (List.getElem_mem hkl)
      obtain ⟨o1, o2, o3⟩ := hof _ (List.getElem_mem hko)
      have ho : okE of tc cc q[k] = (of[q[k]] - 1 == cc || tc.getD (of[q[k]] - 1) false) := by simp [okE, hko]
      apply J.skip; simp
      apply J.seq
      apply J.block
      apply J.seq
      refine J.regE (by simp [hkl]; rfl) ?_
      simp
      apply J.seq
      obtain ⟨x, hx⟩ : ∃ x, of[q[k]] = x + 1 := ⟨of[q[k]] - 1, by omega⟩
      rw [hx] at ho o1 o2 o3
      have hwx : IntKind.i64.wrap (x : Int) = x := wrap_id (by omega) (by omega)
      have hxt : x < tc.length := by omega
      have htg : tc.getD x false = tc[x] := by simp [hxt]
      rw [show x + 1 - 1 = x by omega, htg] at ho
      rcases (show x = cc ∨ (¬ x = cc ∧ tc[x] = true) ∨ (¬ x = cc ∧ tc[x] = false) by by_cases e : x = cc; exact .inl e; cases tc[x] <;> simp [e]) with e | ⟨e, e2⟩ | ⟨e, e2⟩
      ·
        have hwc : IntKind.i64.wrap (cc : Int) = cc := by rw [← e]; exact hwx
        apply J.draw; intro c' hc'
        iterate 18 refine runP_stepQ (by simp [hko, hx, hwc, hxt, e]; rfl) ?_
        simp [runP]
        apply J.cond; simp
        have hok : okE of tc cc q[k] = true := by rw [ho]; simp [e]
        apply J.skip; simp
        refine J.regE (by simp [hwk]; rfl) ?_
        simp
        refine ⟨_, ?_, _, ?_, k + 1, by omega, fun j h hj => ?_, rfl, rfl⟩
        · omega
        · apply le_sub <;> simp [s22]
        · by_cases e : j = k
          · subst e; exact hok
          · exact hq j h (by omega)
      ·
        have eI : ¬ (x : Int) = cc := by omega
        apply J.draw; intro c' hc'
        iterate 18 refine runP_stepQ (by simp [hko, hx, hwx, hxt, eI, e2]; rfl) ?_
        simp [runP]
        apply J.cond; simp
        have hok : okE of tc cc q[k] = true := by rw [ho]; simp [e2]
        apply J.skip; simp
        refine J.regE (by simp [hwk]; rfl) ?_
        simp
        refine ⟨_, ?_, _, ?_, k + 1, by omega, fun j h hj => ?_, rfl, rfl⟩
        · omega
        · apply le_sub <;> simp [s22]
        · by_cases e : j = k
          · subst e; exact hok
          · exact hq j h (by omega)
      ·
        have eI : ¬ (x : Int) = cc := by omega
        apply J.draw; intro c' hc'
        iterate 18 refine runP_stepQ (by simp [hko, hx, hwx, hxt, eI, e2]; rfl) ?_
        simp [runP]
        apply J.cond; simp
        have hok : okE of tc cc q[k] = false := by rw [ho]; simp [e, e2]
        apply J.seq
        refine J.regE (by simp; rfl) ?_
        simp
        apply J.ret
        refine ⟨by simp, rfl, _, [], by simp [a22R]; rfl, ?_⟩
        simp
        refine ⟨r[i], List.getElem_mem hlt, ?_⟩
        rw [← List.getD_eq_getElem?_getD, hget]
        exact ⟨q[k], List.getElem_mem hkl, hok⟩
    ·
      have : k = q.length := by omega
      subst this
      apply J.exit; simp
      refine J.regE (by simp [hwi]; rfl) ?_
      simp
      refine ⟨_, ?_, _, ?_, i + 1, by omega, fun j h hj => ?_, rfl, rfl⟩
      · omega
      · apply le_sub <;> simp [s22]
      · by_cases e : j = i
        · subst e; rw [hget]; exact List.all_eq_true.2 (fun x hx => by obtain ⟨j, hj, rfl⟩ := List.mem_iff_getElem.1 hx; exact hq j hj hj)
        · exact hdone j h (by omega)
  ·
    have : i = r.length := by omega
    subst this
    apply J.exit; simp
    apply J.seq
    refine J.regE (by simp; rfl) ?_
    simp
    apply J.ret
    refine ⟨by simp, rfl, _, [], by simp [a22R]; rfl, ?_⟩
    simp
    intro x hx
    obtain ⟨j, hj, rfl⟩ := List.mem_iff_getElem.1 hx
    have := hdone j hj hj
    simpa using this

end Go.Proofs.Ythccfgkklimebaa.F
