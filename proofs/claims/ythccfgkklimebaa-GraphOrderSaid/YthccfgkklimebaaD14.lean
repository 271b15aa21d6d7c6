/- Chapter 11: GraphOrder. Printed by walk.py from g14.walk.py. -/
import Derived.Test.YthccfgkklimebaaD13
set_option linter.unusedVariables false
set_option linter.unusedSimpArgs false
namespace Go.Proofs.Ythccfgkklimebaa.F
open Go Go.SX

/-- Where a thing stands, and nowhere else. -/
def At (C : List (List Nat)) (x k0 j0 : Nat) : Prop := (∃ (h1 : k0 < C.length) (h2 : j0 < C[k0].length), C[k0][j0] = x) ∧ ∀ (k j : Nat) (h1 : k < C.length) (h2 : j < C[k].length), C[k][j] = x → k = k0 ∧ j = j0
def atP (k0 j0 k j : Nat) : Int := if k0 < k ∨ (k0 = k ∧ j0 < j) then (k0 : Int) else -1
def I19 (C : List (List Nat)) (x k0 j0 : Nat) (m : Nat) (st : St) : Prop := ∃ k : Nat, k ≤ C.length ∧ m = C.length - k ∧ st = ⟨[(0, .ro 1 (rws C)), (1, iv x), (5, iv (atP k0 j0 k 0)), (6, iv k)], [], []⟩
def I19b (C : List (List Nat)) (x k0 j0 k : Nat) (r : List Nat) (m : Nat) (st : St) : Prop := ∃ j : Nat, j ≤ r.length ∧ m = r.length - j ∧ st = ⟨[(0, .ro 1 (rws C)), (1, iv x), (5, iv (atP k0 j0 k j)), (6, iv k), (7, iv j)], [], []⟩
/-- How many there are up to a component. -/
def sumL (C : List (List Nat)) (k : Nat) : Nat := (C.take k).flatten.length
theorem sumL_succ {C : List (List Nat)} {k : Nat} (h : k < C.length) : sumL C (k + 1) = sumL C k + C[k].length := by
  unfold sumL; rw [List.take_add_one, List.getElem?_eq_getElem h]; simp only [Option.toList_some, List.flatten_append, List.length_append, List.flatten_cons, List.flatten_nil, List.append_nil]
theorem sumL_le (C : List (List Nat)) (k : Nat) : sumL C k ≤ C.flatten.length := by
  unfold sumL
  have := congrArg List.flatten (List.take_append_drop k C)
  rw [List.flatten_append] at this
  rw [← this, List.length_append]; omega
theorem compsL_all (n : Int) (l : List (Int × Int)) : ∃ C, compsL n l = C ∧ C.length ≤ 100 ∧ (∀ r ∈ C, r.length ≤ 100) ∧ C.flatten.length = bN n ∧ (∀ (k : Nat) (hk : k < C.length) (i j : Nat) (hi : i < C[k].length) (hj : j < C[k].length), rB n l C[k][i] C[k][j] = true) ∧ (∀ (k i : Nat) (hk : k < C.length) (hi : i < C[k].length), C[k][i] < bN n) ∧
    (∀ (k i : Nat) (hk : k < C.length) (hi : i + 1 < C[k].length), C[k][i] < C[k][i + 1]) ∧ (∀ (k k' i i' : Nat) (hk : k < C.length) (hk' : k' < C.length) (hi : i < C[k].length) (hi' : i' < C[k'].length), k < k' → rB n l C[k][i] C[k'][i'] = false) ∧ ∀ v, v < bN n → ∃ k0 j0, At C v k0 j0 :=
  ⟨_, rfl, (compsL_small n l).1, (compsL_small n l).2, compsL_total n l, fun _ hk _ _ hi hj => compsL_same hk hi hj, fun _ _ hk hi => compsL_lt hk hi, fun _ _ hk hi => compsL_sorted hk hi, fun _ _ _ _ hk hk' hi hi' h => compsL_order hk hk' hi hi' h, fun v hv => by
    obtain ⟨k, j, hk, hj, h1, h2⟩ := compsL_at (l := l) hv
    exact ⟨k, j, ⟨hk, hj, h1⟩, h2⟩⟩
def I5 (n : Int) (l : List (Int × Int)) (C : List (List Nat)) (m : Nat) (st : St) : Prop := ∃ k : Nat, k ≤ C.length ∧ m = C.length - k ∧ st = ⟨[(0, iv n), (1, .ro 2 (eds l)), (6, .ro 1 (rws C)), (7, iv (sumL C k : Nat)), (8, iv k)], [], []⟩
def I5b (n : Int) (l : List (Int × Int)) (C : List (List Nat)) (k : Nat) (r : List Nat) (m : Nat) (st : St) : Prop := ∃ j : Nat, 1 ≤ j ∧ m = r.length - j ∧ st = ⟨[(0, iv n), (1, .ro 2 (eds l)), (6, .ro 1 (rws C)), (7, iv (sumL C (k + 1) : Nat)), (8, iv k), (9, iv j)], [], []⟩
def I5c (n : Int) (l : List (Int × Int)) (C : List (List Nat)) (m : Nat) (st : St) : Prop := ∃ i : Nat, i ≤ l.length ∧ m = l.length - i ∧ st = ⟨[(0, iv n), (1, .ro 2 (eds l)), (6, .ro 1 (rws C)), (7, iv (bN n : Nat)), (10, iv i)], [], []⟩

theorem c19 : chkFn Try.prog 19 36 2 a19 a19R = true := by kernel_rfl
/-- colloquy/colloquylaw11.place -/
theorem d19 (C : List (List Nat)) (x k0 j0 : Nat) (hA : At C x k0 j0) (hC : C.length ≤ 1000) (hr : ∀ r ∈ C, r.length ≤ 1000) : DoesT 19 [.ro 1 (rws C), iv x] (iv k0) := by
  refine Does.of (nt := 36) (ac := a19) (rds := a19R) c19 (fun c hc => ?_)
  unfold a19
  apply J.seq
  refine J.regE (by simp; rfl) ?_
  simp
  apply J.seq
  refine J.regE (by simp; rfl) ?_
  simp
  apply J.seq
  apply J.seq
  refine J.regE (by simp; rfl) ?_
  simp
  apply J.block
  refine J.loop hc (I19 C x k0 j0) ?_ ?_
  · refine ⟨_, _, ?_, 0, by omega, rfl, rfl⟩
    apply le_sub <;> simp [atP]
  rintro n st ⟨k, hk, rfl, rfl⟩
  apply J.seq
  apply J.seq
  refine J.regE (by simp; rfl) ?_
  simp
  apply J.cond; simp
  refine ⟨fun hlt => ?_, fun hlt => ?_⟩
  ·
    have hwk : IntKind.i64.wrap ((k : Int) + 1) = k + 1 := wrap_id (by omega) (by omega)
    have hrk := hr _ (List.getElem_mem hlt)
    apply J.skip; simp
    apply J.seq
    apply J.block
    apply J.seq
    refine J.regE (by simp; rfl) ?_
    simp
    apply J.block
    refine J.loop hc (I19b C x k0 j0 k C[k]) ?_ ?_
    · refine ⟨_, _, ?_, 0, by omega, rfl, rfl⟩
      apply le_sub <;> simp
    rintro n st ⟨j, hj, rfl, rfl⟩
    apply J.seq
    apply J.seq
    refine J.regE (by simp [hlt]; rfl) ?_
    simp
    apply J.cond; simp
    refine ⟨fun hjl => ?_, fun hjl => ?_⟩
    ·
      have hwj : IntKind.i64.wrap ((j : Int) + 1) = j + 1 := wrap_id (by omega) (by omega)
      apply J.skip; simp
      apply J.seq
      apply J.block
      apply J.seq
      refine J.regE (by simp [hlt, hjl]; rfl) ?_
      simp
      apply J.cond; simp
      refine ⟨fun he => ?_, fun he => ?_⟩
      ·
        obtain ⟨ek, ej⟩ := hA.2 k j hlt hjl (by omega)
        have hat : atP k0 j0 k j = -1 := by unfold atP; rw [if_neg (by omega)]
        rw [hat]
        apply J.seq
        apply J.seq
        refine J.regE (by simp; rfl) ?_
        simp
        apply J.cond; simp
        apply J.skip; simp
        refine J.regE (by simp; rfl) ?_
        simp
        refine J.regE (by simp [hwj]; rfl) ?_
        simp
        refine ⟨_, by omega, _, ?_, j + 1, by omega, rfl, rfl⟩
        have e : atP k0 j0 k (j + 1) = k := by unfold atP; rw [if_pos (by omega)]; omega
        apply le_sub <;> simp [e]
      ·
        apply J.skip; simp
        refine J.regE (by simp [hwj]; rfl) ?_
        simp
        refine ⟨_, by omega, _, ?_, j + 1, by omega, rfl, rfl⟩
        have e : atP k0 j0 k (j + 1) = atP k0 j0 k j := by
          unfold atP
          by_cases h : k0 = k ∧ j0 = j
          · obtain ⟨rfl, rfl⟩ := h
            obtain ⟨⟨_, _, h3⟩, _⟩ := hA
            exact absurd h3 (by omega)
          · by_cases h2 : k0 < k ∨ (k0 = k ∧ j0 < j)
            · rw [if_pos (by omega), if_pos (by omega)]
            · rw [if_neg (by omega), if_neg (by omega)]
        apply le_sub <;> simp [e]
    ·
      have hjc : j = C[k].length := by omega
      subst hjc
      apply J.exit; simp
      refine J.regE (by simp [hwk]; rfl) ?_
      simp
      refine ⟨_, by omega, _, ?_, k + 1, by omega, rfl, rfl⟩
      have e : atP k0 j0 k C[k].length = atP k0 j0 (k + 1) 0 := by
        unfold atP
        by_cases h : k0 = k
        · subst h
          obtain ⟨⟨_, h2, _⟩, _⟩ := hA
          rw [if_pos (by omega), if_pos (by omega)]
        · by_cases h2 : k0 < k
          · rw [if_pos (by omega), if_pos (by omega)]
          · rw [if_neg (by omega), if_neg (by omega)]
      apply le_sub <;> simp [e]
  ·
    have hkc : k = C.length := by omega
    subst hkc
    obtain ⟨⟨h1, h2, h3⟩, _⟩ := hA
    have hat : atP k0 j0 C.length 0 = k0 := by unfold atP; rw [if_pos (by omega)]
    apply J.exit; simp
    apply J.seq
    refine J.regE (by simp; rfl) ?_
    simp
    apply J.ret
    refine ⟨by simp, rfl, _, [], by simp [a19R]; rfl, ?_⟩
    simp [hat]

theorem c5 : chkFn Try.prog 5 195 2 a5 a5R = true := by kernel_rfl
set_option maxHeartbeats 16000000 in
/-- colloquy/colloquylaw11.GraphOrder -/
theorem d5 (n : Int) (l : List (Int × Int)) : DoesT 5 [iv n, .ro 2 (eds l)] (bv true) := by
  refine Does.of (nt := 195) (ac := a5) (rds := a5R) c5 (fun c hc => ?_)
  unfold a5
  apply J.seq
  refine J.regE (by simp; rfl) ?_
  simp
  apply J.seq
  apply J.reg
  refine runL_tree rfl (d10) (by simp) hc ?_
  simp
  refine runL_step rfl (by simp; rfl) ?_
  simp [runL]
  apply J.seq
  apply J.seq
  rcases (show ((n < 0)) ∨ (¬ (n < 0) ∧ (30 < n)) ∨ (¬ (n < 0) ∧ ¬ (30 < n) ∧ ((300 : Int) < l.length)) ∨ (¬ (n < 0) ∧ ¬ (30 < n) ∧ ¬ ((300 : Int) < l.length)) by omega) with q0 | ⟨q0, q1⟩ | ⟨q0, q1, q2⟩ | ⟨q0, q1, q2⟩
  ·
    apply J.reg
    iterate 15 refine runL_step rfl (by simp [q0]; rfl) ?_
    simp [runL]
    apply J.cond; simp
    apply J.seq
    refine J.regE (by simp; rfl) ?_
    simp
    apply J.ret
    refine ⟨by simp, rfl, _, [], by simp [a5R]; rfl, ?_⟩
    simp
  ·
    apply J.reg
    iterate 15 refine runL_step rfl (by simp [q0, q1]; rfl) ?_
    simp [runL]
    apply J.cond; simp
    apply J.seq
    refine J.regE (by simp; rfl) ?_
    simp
    apply J.ret
    refine ⟨by simp, rfl, _, [], by simp [a5R]; rfl, ?_⟩
    simp
  ·
    apply J.reg
    iterate 15 refine runL_step rfl (by simp [q0, q1, q2]; rfl) ?_
    simp [runL]
    apply J.cond; simp
    apply J.seq
    refine J.regE (by simp; rfl) ?_
    simp
    apply J.ret
    refine ⟨by simp, rfl, _, [], by simp [a5R]; rfl, ?_⟩
    simp
  ·
    apply J.reg
    iterate 15 refine runL_step rfl (by simp [q0, q1, q2]; rfl) ?_
    simp [runL]
    apply J.cond; simp
    apply J.skip; simp
    apply J.seq
    apply J.reg
    iterate 2 refine runL_step rfl (by simp; rfl) ?_
    refine runL_tree rfl (d12 n l (by omega)) (by simp) hc ?_
    simp
    refine runL_step rfl (by simp; rfl) ?_
    simp [runL]
    have hN := bN_own (n := n) (by omega) (by omega)
    have hN2 := bN_le n
    obtain ⟨C, hCe, hC1, hC2, htot, hsame, hlt0, hsrt, hord, hat⟩ := compsL_all n l
    rw [hCe]
    apply J.seq
    refine J.regE (by simp; rfl) ?_
    simp
    apply J.seq
    apply J.seq
    refine J.regE (by simp; rfl) ?_
    simp
    apply J.block
    refine J.loop hc (I5 n l C) ?_ ?_
    · refine ⟨_, _, ?_, 0, by omega, rfl, rfl⟩
      apply le_sub <;> simp [sumL]
    rintro n st ⟨k, hk, rfl, rfl⟩
    apply J.seq
    apply J.seq
    refine J.regE (by simp; rfl) ?_
    simp
    apply J.cond; simp
    refine ⟨fun hlt => ?_, fun hlt => ?_⟩
    ·
      have hwk : IntKind.i64.wrap ((k : Int) + 1) = k + 1 := wrap_id (by omega) (by omega)
      have hss := sumL_succ hlt
      have hsl := sumL_le C (k + 1)
      have hws : IntKind.i64.wrap ((sumL C k : Int) + (C[k].length : Int)) = (sumL C (k + 1) : Nat) := by rw [wrap_id (by omega) (by omega)]; omega
      have hck := hC2 _ (List.getElem_mem hlt)
      apply J.skip; simp
      apply J.seq
      apply J.block
      apply J.seq
      refine J.regE (by simp [hlt, hws]; rfl) ?_
      simp
      apply J.seq
      refine J.regE (by simp; rfl) ?_
      simp
      apply J.block
      refine J.loop hc (I5b n l C k C[k]) ?_ ?_
      · refine ⟨_, _, ?_, 1, by omega, rfl, rfl⟩
        apply le_sub <;> simp
      rintro n st ⟨j, hj, rfl, rfl⟩
      apply J.seq
      apply J.seq
      refine J.regE (by simp [hlt]; rfl) ?_
      simp
      apply J.cond; simp
      refine ⟨fun hjl => ?_, fun hjl => ?_⟩
      ·
        have hwj : IntKind.i64.wrap ((j : Int) + 1) = j + 1 := wrap_id (by omega) (by omega)
        obtain ⟨i, hji⟩ : ∃ i, j = i + 1 := ⟨j - 1, by omega⟩
        have hwi : IntKind.i64.wrap ((j : Int) - 1) = i := by rw [wrap_id (by omega) (by omega)]; omega
        have hil : i < C[k].length := by omega
        have h0l : 0 < C[k].length := by omega
        have hs2 : ¬ C[k][j] ≤ C[k][i] := by
          have := hsrt k i hlt (by omega)
          simp only [← hji] at this
          omega
        have hself : ∀ (i j : Nat) (hi : i < C[k].length) (hj : j < C[k].length), reB n l (C[k][i] : Int) (C[k][j] : Int) = true := fun i j hi hj => by
          have h1 := hlt0 k i hlt hi
          have h2 := hlt0 k j hlt hj
          have t1 : isT n (C[k][i] : Int) = true := (isT_iff _ _).2 ⟨by omega, by omega⟩
          have t2 : isT n (C[k][j] : Int) = true := (isT_iff _ _).2 ⟨by omega, by omega⟩
          simp [reB, t1, t2, hsame k hlt i j hi hj]
        have hre1 := hself 0 j h0l hjl
        have hre2 := hself j 0 hjl h0l
        apply J.skip; simp
        apply J.seq
        apply J.block
        apply J.seq
        apply J.draw; intro c' hc'
        iterate 32 refine runP_stepQ (by simp [hlt, hjl, hil, h0l, hs2, hwi, hre1, hre2]; rfl) ?_
        refine runP_do (by simp [hlt, hjl, hil, h0l, hs2, hwi, hre1, hre2]) (runP_tree rfl (d17 n l C[k][0] C[k][j] (by omega)) (by simp) rfl ?_)
        simp [hre1, hre2]
        iterate 18 refine runP_stepQ (by simp [hlt, hjl, hil, h0l, hs2, hwi, hre1, hre2]; rfl) ?_
        refine runP_do (by simp [hlt, hjl, hil, h0l, hs2, hwi, hre1, hre2]) (runP_tree rfl (d17 n l C[k][j] C[k][0] (by omega)) (by simp) rfl ?_)
        simp [hre1, hre2]
        iterate 2 refine runP_stepQ (by simp [hlt, hjl, hil, h0l, hs2, hwi, hre1, hre2]; rfl) ?_
        simp [runP]
        apply J.cond; simp
        apply J.skip; simp
        refine J.regE (by simp [hwj]; rfl) ?_
        simp
        refine ⟨_, by omega, _, ?_, j + 1, by omega, rfl, rfl⟩
        apply le_sub <;> simp
      ·
        apply J.exit; simp
        refine J.regE (by simp [hwk]; rfl) ?_
        simp
        refine ⟨_, by omega, _, ?_, k + 1, by omega, rfl, rfl⟩
        apply le_sub <;> simp
    ·
      have hkc : k = C.length := by omega
      subst hkc
      have hsum : sumL C C.length = bN n := by unfold sumL; rw [List.take_length]; exact htot
      rw [hsum]
      apply J.exit; simp
      apply J.seq
      apply J.seq
      refine J.regE (by simp; rfl) ?_
      simp
      apply J.block
      refine J.loop hc (I5c n l C) ?_ ?_
      · refine ⟨_, _, ?_, 0, by omega, rfl, rfl⟩
        apply le_sub <;> simp
      rintro n st ⟨i, hi, rfl, rfl⟩
      apply J.seq
      apply J.seq
      refine J.regE (by simp; rfl) ?_
      simp
      apply J.cond; simp
      refine ⟨fun hlt => ?_, fun hlt => ?_⟩
      ·
        have hwi : IntKind.i64.wrap ((i : Int) + 1) = i + 1 := wrap_id (by omega) (by omega)
        obtain ⟨⟨p, q⟩, hpq⟩ : ∃ p, l[i] = p := ⟨_, rfl⟩
        apply J.skip; simp
        apply J.seq
        apply J.block
        apply J.seq
        apply J.seq
        rcases (show p < 0 ∨ (¬ p < 0 ∧ n ≤ p) ∨ (¬ p < 0 ∧ ¬ n ≤ p ∧ q < 0) ∨ (¬ p < 0 ∧ ¬ n ≤ p ∧ ¬ q < 0 ∧ n ≤ q) ∨ (¬ p < 0 ∧ ¬ n ≤ p ∧ ¬ q < 0 ∧ ¬ n ≤ q) by omega) with e0 | ⟨e0, e1⟩ | ⟨e0, e1, e2⟩ | ⟨e0, e1, e2, e3⟩ | ⟨e0, e1, e2, e3⟩
        ·
          apply J.reg
          iterate 32 refine runL_step rfl (by simp [hlt, hpq, e0]; rfl) ?_
          simp [runL]
          apply J.cond; simp
          apply J.exit; simp
          refine J.regE (by simp [hwi]; rfl) ?_
          simp
          refine ⟨_, by omega, _, ?_, i + 1, by omega, rfl, rfl⟩
          apply le_sub <;> simp
        ·
          apply J.reg
          iterate 32 refine runL_step rfl (by simp [hlt, hpq, e0, e1]; rfl) ?_
          simp [runL]
          apply J.cond; simp
          apply J.exit; simp
          refine J.regE (by simp [hwi]; rfl) ?_
          simp
          refine ⟨_, by omega, _, ?_, i + 1, by omega, rfl, rfl⟩
          apply le_sub <;> simp
        ·
          apply J.reg
          iterate 32 refine runL_step rfl (by simp [hlt, hpq, e0, e1, e2]; rfl) ?_
          simp [runL]
          apply J.cond; simp
          apply J.exit; simp
          refine J.regE (by simp [hwi]; rfl) ?_
          simp
          refine ⟨_, by omega, _, ?_, i + 1, by omega, rfl, rfl⟩
          apply le_sub <;> simp
        ·
          apply J.reg
          iterate 32 refine runL_step rfl (by simp [hlt, hpq, e0, e1, e2, e3]; rfl) ?_
          simp [runL]
          apply J.cond; simp
          apply J.exit; simp
          refine J.regE (by simp [hwi]; rfl) ?_
          simp
          refine ⟨_, by omega, _, ?_, i + 1, by omega, rfl, rfl⟩
          apply le_sub <;> simp
        ·
          apply J.reg
          iterate 32 refine runL_step rfl (by simp [hlt, hpq, e0, e1, e2, e3]; rfl) ?_
          simp [runL]
          apply J.cond; simp
          apply J.skip; simp
          apply J.seq
          obtain ⟨u, rfl⟩ := Int.eq_ofNat_of_zero_le (by omega : 0 ≤ p)
          obtain ⟨v, rfl⟩ := Int.eq_ofNat_of_zero_le (by omega : 0 ≤ q)
          have hu : u < bN n := by omega
          have hv : v < bN n := by omega
          obtain ⟨a, ja, hA⟩ := hat u hu
          obtain ⟨b, jb, hB⟩ := hat v hv
          have hE : eN n l u v := ⟨hu, hv, hpq ▸ List.getElem_mem hlt⟩
          have hR : rB n l u v = true := rB_iff.2 (.one hE)
          have hA' := hA
          have hB' := hB
          obtain ⟨⟨a1, a2, a3⟩, _⟩ := hA'
          obtain ⟨⟨b1, b2, b3⟩, _⟩ := hB'
          have hba : ¬ a < b := fun h => by have := hord a b ja jb a1 b1 a2 b2 h; rw [a3, b3, hR] at this; cases this
          have hne : a ≠ b → reB n l (v : Int) (u : Int) = false := fun h => by
            have := hord b a jb ja b1 a1 b2 a2 (by omega)
            rw [a3, b3] at this
            have t1 : isT n (u : Int) = true := (isT_iff _ _).2 ⟨by omega, by omega⟩
            have t2 : isT n (v : Int) = true := (isT_iff _ _).2 ⟨by omega, by omega⟩
            simp [reB, t1, t2, this]
          apply J.reg
          iterate 6 refine runL_step rfl (by simp [hlt, hpq]; rfl) ?_
          refine runL_tree rfl (d19 C u a ja hA (by omega) (fun r hr => by have := hC2 r hr; omega)) (by simp) hc ?_
          simp
          refine runL_step rfl (by simp [hlt, hpq]; rfl) ?_
          simp [runL]
          apply J.seq
          apply J.reg
          iterate 6 refine runL_step rfl (by simp [hlt, hpq]; rfl) ?_
          refine runL_tree rfl (d19 C v b jb hB (by omega) (fun r hr => by have := hC2 r hr; omega)) (by simp) hc ?_
          simp
          refine runL_step rfl (by simp [hlt, hpq]; rfl) ?_
          simp [runL]
          apply J.seq
          by_cases hab : a = b
          ·
            have m1 : ¬ ((a : Nat) : Int) < 0 := by omega
            have m2 : ¬ ((b : Nat) : Int) < 0 := by omega
            have hab2 : ((a : Nat) : Int) = b := by omega
            apply J.draw; intro c' hc'
            iterate 28 refine runP_stepQ (by simp [hlt, hpq, m1, m2, hba, hab2, hab]; rfl) ?_
            refine runP_skip rfl (by decide) ?_
            simp
            iterate 2 refine runP_stepQ (by simp [hlt, hpq, m1, m2, hba, hab2, hab]; rfl) ?_
            simp [runP]
            apply J.cond; simp
            apply J.skip; simp
            refine J.regE (by simp [hwi]; rfl) ?_
            simp
            refine ⟨_, by omega, _, ?_, i + 1, by omega, rfl, rfl⟩
            apply le_sub <;> simp
          ·
            have m1 : ¬ ((a : Nat) : Int) < 0 := by omega
            have m2 : ¬ ((b : Nat) : Int) < 0 := by omega
            have hab2 : ¬ ((a : Nat) : Int) = b := by omega
            have hne2 := hne hab
            apply J.draw; intro c' hc'
            iterate 28 refine runP_stepQ (by simp [hlt, hpq, m1, m2, hba, hab2, hne2]; rfl) ?_
            refine runP_do (by simp [hlt, hpq, m1, m2, hba, hab2, hne2]) (runP_tree rfl (d17 n l v u (by omega)) (by simp) rfl ?_)
            simp [hne2]
            iterate 2 refine runP_stepQ (by simp [hlt, hpq, m1, m2, hba, hab2, hne2]; rfl) ?_
            simp [runP]
            apply J.cond; simp
            apply J.skip; simp
            refine J.regE (by simp [hwi]; rfl) ?_
            simp
            refine ⟨_, by omega, _, ?_, i + 1, by omega, rfl, rfl⟩
            apply le_sub <;> simp
      ·
        have hic : i = l.length := by omega
        subst hic
        apply J.exit; simp
        apply J.seq
        refine J.regE (by simp; rfl) ?_
        simp
        apply J.ret
        refine ⟨by simp, rfl, _, [], by simp [a5R]; rfl, ?_⟩
        simp [hN]

end Go.Proofs.Ythccfgkklimebaa.F
