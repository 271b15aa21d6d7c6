/- Chapter 11: the document's Reaches, Closure; lists that are the same; what is in a list. Printed by walk.py from g3.walk.py. -/
import Derived.Test.YthccfgkklimebaaD2
set_option linter.unusedVariables false
set_option linter.unusedSimpArgs false
namespace Go.Proofs.Ythccfgkklimebaa.F
open Go Go.SX

noncomputable def reB (n : Int) (l : List (Int × Int)) (a b : Int) : Bool := isT n a && (isT n b && rB n l a.toNat b.toNat)
/-- The numbers that are told. -/
def pk (x : List Bool) (i : Nat) : List Nat := (List.range i).filter fun v => x.getD v false
theorem pk_succ (x : List Bool) (i : Nat) : pk x (i + 1) = pk x i ++ if x.getD i false then [i] else [] := by
  unfold pk
  rw [List.range_succ, List.filter_append]
  congr 1
  cases h : x.getD i false <;> simp [h] <;> simpa using h
theorem pk_length (x : List Bool) (i : Nat) : (pk x i).length ≤ i := Nat.le_trans (List.length_filter_le _ _) (by simp)
noncomputable def clos (n : Int) (l : List (Int × Int)) (a : Int) : List Nat := pk (fromL n l a) (bN n)
theorem fromL_length (n : Int) (l : List (Int × Int)) (a : Int) : (fromL n l a).length = bN n := by unfold fromL; split <;> simp

def I16 (x : List Bool) (m : Nat) (st : St) : Prop := ∃ i : Nat, i ≤ x.length ∧ m = x.length - i ∧ st = ⟨[(7, .ro 1 (bools x)), (8, .own 16027 1 0 (pk x i).length), (9, iv i)], [(16027, .arr 3 1 (nats (pk x i)))], []⟩
def I14 (a b : List Nat) (m : Nat) (st : St) : Prop := ∃ i : Nat, i ≤ a.length ∧ a.take i = b.take i ∧ m = a.length - i ∧ st = ⟨[(0, .ro 1 (nats a)), (1, .ro 1 (nats b)), (5, iv i)], [], []⟩
theorem take_step {α : Type} {a b : List α} {i : Nat} (h : a.take i = b.take i) (ha : i < a.length) (hb : i < b.length) (e : a[i] = b[i]) : a.take (i + 1) = b.take (i + 1) := by
  rw [List.take_add_one, List.take_add_one, h, List.getElem?_eq_getElem ha, List.getElem?_eq_getElem hb, e]
theorem take_all {α : Type} {a b : List α} (h : a.take a.length = b.take a.length) (hl : a.length = b.length) : a = b := by
  rwa [List.take_length, hl, List.take_length] at h
def I11 (a b : List (List Nat)) (m : Nat) (st : St) : Prop := ∃ i : Nat, i ≤ a.length ∧ a.take i = b.take i ∧ m = a.length - i ∧ st = ⟨[(0, .ro 1 (rws a)), (1, .ro 1 (rws b)), (5, iv i)], [], []⟩
def I11b (a b : List (List Nat)) (i : Nat) (x y : List Nat) (m : Nat) (st : St) : Prop := ∃ j : Nat, j ≤ x.length ∧ x.take j = y.take j ∧ m = x.length - j ∧ st = ⟨[(0, .ro 1 (rws a)), (1, .ro 1 (rws b)), (5, iv i), (6, iv j)], [], []⟩
/-- Where a number stands, or -1. -/
def ixI : List Nat → Int → Nat → Int
  | [], _, _ => -1
  | y :: r, x, n => if x = y then n else ixI r x (n + 1)
theorem ixI_nonneg : ∀ (l : List Nat) (x : Int) (n : Nat), 0 ≤ ixI l x n ↔ ∃ y ∈ l, (y : Int) = x
  | [], x, n => by simp [ixI]
  | y :: r, x, n => by
    simp only [ixI]
    by_cases e : x = y
    · subst e; simp
    · rw [if_neg e, ixI_nonneg r x (n + 1)]
      constructor
      · rintro ⟨z, hz, rfl⟩; exact ⟨z, by simp [hz], rfl⟩
      · rintro ⟨z, hz, rfl⟩
        rcases List.mem_cons.1 hz with rfl | hz
        · exact absurd rfl e
        · exact ⟨z, hz, rfl⟩
def I28 (l : List Nat) (x : Int) (m : Nat) (st : St) : Prop := ∃ i : Nat, i ≤ l.length ∧ m = l.length - i ∧ ixI l x 0 = ixI (l.drop i) x i ∧ st = ⟨[(0, .ro 1 (nats l)), (1, iv x), (7, iv l.length), (8, iv i)], [], []⟩

theorem c18 : chkFn Try.prog 18 32 4 a18 a18R = true := by kernel_rfl
/-- colloquy/colloquyref11.Reaches -/
theorem d18 (n : Int) (l : List (Int × Int)) (a b : Int) (hl : l.length ≤ 1000000) : DoesT 18 [iv n, .ro 2 (eds l), iv a, iv b] (bv (reB n l a b)) := by
  refine Does.of (nt := 32) (ac := a18) (rds := a18R) c18 (fun c hc => ?_)
  unfold a18
  apply J.seq
  refine J.regE (by simp; rfl) ?_
  simp
  apply J.seq
  apply J.reg
  iterate 2 refine runL_step rfl (by simp; rfl) ?_
  refine runL_tree rfl (d26 n a) (by simp) hc ?_
  simp
  refine runL_step rfl (by simp; rfl) ?_
  simp [runL]
  apply J.seq
  apply J.reg
  iterate 2 refine runL_step rfl (by simp; rfl) ?_
  refine runL_tree rfl (d26 n b) (by simp) hc ?_
  simp
  refine runL_step rfl (by simp; rfl) ?_
  simp [runL]
  apply J.seq
  apply J.seq
  rcases b2 (isT n a) (isT n b) with ha | ⟨ha, hb⟩ | ⟨ha, hb⟩
  ·
    apply J.reg
    iterate 6 refine runL_step rfl (by simp [ha]; rfl) ?_
    simp [runL]
    apply J.cond; simp
    apply J.seq
    refine J.regE (by simp; rfl) ?_
    simp
    apply J.ret
    refine ⟨by simp, rfl, _, [], by simp [a18R]; rfl, ?_⟩
    simp [reB, ha]
  ·
    apply J.reg
    iterate 6 refine runL_step rfl (by simp [ha, hb]; rfl) ?_
    simp [runL]
    apply J.cond; simp
    apply J.seq
    refine J.regE (by simp; rfl) ?_
    simp
    apply J.ret
    refine ⟨by simp, rfl, _, [], by simp [a18R]; rfl, ?_⟩
    simp [reB, ha, hb]
  ·
    apply J.reg
    iterate 6 refine runL_step rfl (by simp [ha, hb]; rfl) ?_
    simp [runL]
    apply J.cond; simp
    apply J.skip; simp
    apply J.seq
    apply J.reg
    iterate 3 refine runL_step rfl (by simp; rfl) ?_
    refine runL_tree rfl (d24 n l a hl) (by simp) hc ?_
    simp
    refine runL_step rfl (by simp; rfl) ?_
    simp [runL]
    apply J.seq
    obtain ⟨h1, h2⟩ := (isT_iff _ _).1 hb
    obtain ⟨b, rfl⟩ := Int.eq_ofNat_of_zero_le h1
    have hbl : b < (fromL n l a).length := by rw [fromL_length]; omega
    refine J.regE (by simp [hbl]; rfl) ?_
    simp
    apply J.ret
    refine ⟨by simp, rfl, _, [], by simp [a18R]; rfl, ?_⟩
    have e : (fromL n l a)[b] = rB n l a.toNat b := by simp [fromL, ha]
    simp [reB, ha, hb, e]

theorem c16 : chkFn Try.prog 16 29 3 a16 a16R = true := by kernel_rfl
/-- colloquy/colloquyref11.Closure -/
theorem d16 (n : Int) (l : List (Int × Int)) (a : Int) (hl : l.length ≤ 1000000) : DoesT 16 [iv n, .ro 2 (eds l), iv a] (.ro 1 (nats (clos n l a))) := by
  refine Does.of (nt := 29) (ac := a16) (rds := a16R) c16 (fun c hc => ?_)
  unfold a16
  apply J.seq
  refine J.regE (by simp; rfl) ?_
  simp
  apply J.seq
  apply J.reg
  iterate 3 refine runL_step rfl (by simp; rfl) ?_
  refine runL_tree rfl (d24 n l a hl) (by simp) hc ?_
  simp
  refine runL_step rfl (by simp; rfl) ?_
  simp [runL]
  have hlen := fromL_length n l a
  have hN := bN_le n
  unfold clos
  rw [← hlen]
  rw [← hlen] at hN
  generalize fromL n l a = x at hlen hN ⊢
  apply J.seq
  refine J.regE (by simp; rfl) ?_
  simp
  refine J.nilrow hc 8 16027 3 rfl rfl rfl ?_
  simp
  apply J.seq
  apply J.seq
  refine J.regE (by simp; rfl) ?_
  simp
  apply J.block
  refine J.loop hc (I16 x) ?_ ?_
  · exact ⟨_, _, St.le_refl _, 0, by omega, rfl, rfl⟩
  rintro n st ⟨i, hi, rfl, rfl⟩
  apply J.seq
  apply J.seq
  refine J.regE (by simp; rfl) ?_
  simp
  apply J.cond; simp
  refine ⟨fun hlt => ?_, fun hlt => ?_⟩
  ·
    have hw : IntKind.i64.wrap ((i : Int) + 1) = i + 1 := wrap_id (by omega) (by omega)
    have hb := pk_length x i
    have hget : x.getD i false = x[i] := by simp [hlt]
    apply J.skip; simp
    apply J.seq
    apply J.block
    apply J.seq
    have hpk := pk_succ x i
    rw [hget] at hpk
    cases hx : x[i] <;> simp [hx] at hpk
    ·
      refine J.regE (by simp [hlt, hx]; rfl) ?_
      simp
      apply J.cond; simp
      apply J.skip; simp
      refine J.regE (by simp [hw]; rfl) ?_
      simp
      exact ⟨_, by omega, _, by apply le_sub <;> simp [hpk], i + 1, by omega, rfl, rfl⟩
    ·
      refine J.regE (by simp [hlt, hx]; rfl) ?_
      simp
      apply J.cond; simp
      refine J.regE (by simp [show ((pk x i).length + 1) * 8 ≤ 140737488355328 from by omega, List.take_of_length_le]; rfl) ?_
      simp
      refine J.regE (by simp [hw]; rfl) ?_
      simp
      exact ⟨_, by omega, _, by apply le_sub <;> simp [hpk], i + 1, by omega, rfl, rfl⟩
  ·
    have : i = x.length := by omega
    subst this
    apply J.exit; simp
    apply J.seq
    refine J.freeze hc 16027 rfl ?_
    simp
    refine J.regE (by simp; rfl) ?_
    simp
    apply J.ret
    refine ⟨by simp, rfl, _, [], by simp [a16R]; rfl, ?_⟩
    simp [List.take_of_length_le]

theorem c14 : chkFn Try.prog 14 26 2 a14 a14R = true := by kernel_rfl
/-- colloquy/colloquyref01.Same -/
theorem d14 (a b : List Nat) (ha : a.length ≤ 1000000) : DoesT 14 [.ro 1 (nats a), .ro 1 (nats b)] (bv (decide (a = b))) := by
  refine Does.of (nt := 26) (ac := a14) (rds := a14R) c14 (fun c hc => ?_)
  unfold a14
  apply J.seq
  refine J.regE (by simp; rfl) ?_
  simp
  apply J.seq
  apply J.seq
  refine J.regE (by simp; rfl) ?_
  simp
  apply J.cond; simp
  refine ⟨fun hne => ?_, fun hne => ?_⟩
  ·
    apply J.seq
    refine J.regE (by simp; rfl) ?_
    simp
    apply J.ret
    refine ⟨by simp, rfl, _, [], by simp [a14R]; rfl, ?_⟩
    simp
    intro e; subst e; exact hne rfl
  ·
    apply J.skip; simp
    apply J.seq
    apply J.seq
    refine J.regE (by simp; rfl) ?_
    simp
    apply J.block
    refine J.loop hc (I14 a b) ?_ ?_
    · exact ⟨_, _, by apply le_sub <;> simp, 0, by simp, by simp, rfl, rfl⟩
    rintro n st ⟨i, hi, ht, rfl, rfl⟩
    apply J.seq
    apply J.seq
    refine J.regE (by simp; rfl) ?_
    simp
    apply J.cond; simp
    refine ⟨fun hlt => ?_, fun hlt => ?_⟩
    ·
      have hw : IntKind.i64.wrap ((i : Int) + 1) = i + 1 := wrap_id (by omega) (by omega)
      have hlb : i < b.length := by omega
      apply J.skip; simp
      apply J.seq
      apply J.block
      apply J.seq
      refine J.drawE (by simp [hlt, hlb]; rfl) ?_
      simp
      apply J.cond; simp
      refine ⟨fun he => ?_, fun he => ?_⟩
      ·
        apply J.seq
        refine J.regE (by simp; rfl) ?_
        simp
        apply J.ret
        refine ⟨by simp, rfl, _, [], by simp [a14R]; rfl, ?_⟩
        simp
        intro e; subst e; exact he rfl
      ·
        apply J.skip; simp
        refine J.regE (by simp [hw]; rfl) ?_
        simp
        exact ⟨_, by omega, _, St.le_refl _, i + 1, by omega, take_step ht hlt hlb (by omega), rfl, rfl⟩
    ·
      have : i = a.length := by omega
      subst this
      apply J.exit; simp
      apply J.seq
      refine J.regE (by simp; rfl) ?_
      simp
      apply J.ret
      refine ⟨by simp, rfl, _, [], by simp [a14R]; rfl, ?_⟩
      simp
      exact take_all ht (by omega)

theorem c11 : chkFn Try.prog 11 53 2 a11 a11R = true := by kernel_rfl
/-- colloquy/colloquyref11.Same -/
theorem d11 (a b : List (List Nat)) (ha : a.length ≤ 1000000) (hr : ∀ r ∈ a, r.length ≤ 1000000) : DoesT 11 [.ro 1 (rws a), .ro 1 (rws b)] (bv (decide (a = b))) := by
  refine Does.of (nt := 53) (ac := a11) (rds := a11R) c11 (fun c hc => ?_)
  unfold a11
  apply J.seq
  refine J.regE (by simp; rfl) ?_
  simp
  apply J.seq
  apply J.seq
  refine J.regE (by simp; rfl) ?_
  simp
  apply J.cond; simp
  refine ⟨fun hne => ?_, fun hne => ?_⟩
  ·
    apply J.seq
    refine J.regE (by simp; rfl) ?_
    simp
    apply J.ret
    refine ⟨by simp, rfl, _, [], by simp [a11R]; rfl, ?_⟩
    simp
    intro e; subst e; exact hne rfl
  ·
    apply J.skip; simp
    apply J.seq
    apply J.seq
    refine J.regE (by simp; rfl) ?_
    simp
    apply J.block
    refine J.loop hc (I11 a b) ?_ ?_
    · exact ⟨_, _, by apply le_sub <;> simp, 0, by simp, by simp, rfl, rfl⟩
    rintro n st ⟨i, hi, ht, rfl, rfl⟩
    apply J.seq
    apply J.seq
    refine J.regE (by simp; rfl) ?_
    simp
    apply J.cond; simp
    refine ⟨fun hlt => ?_, fun hlt => ?_⟩
    ·
      have hw : IntKind.i64.wrap ((i : Int) + 1) = i + 1 := wrap_id (by omega) (by omega)
      have hlb : i < b.length := by omega
      have hri := hr _ (List.getElem_mem hlt)
      have hwj : ∀ j : Nat, j < a[i].length → IntKind.i64.wrap ((j : Int) + 1) = j + 1 := fun j hj => wrap_id (by omega) (by omega)
      apply J.skip; simp
      apply J.seq
      apply J.block
      apply J.seq
      apply J.seq
      refine J.drawE (by simp [hlt, hlb]; rfl) ?_
      simp
      apply J.cond; simp
      refine ⟨fun hnr => ?_, fun hnr => ?_⟩
      ·
        apply J.seq
        refine J.regE (by simp; rfl) ?_
        simp
        apply J.ret
        refine ⟨by simp, rfl, _, [], by simp [a11R]; rfl, ?_⟩
        simp
        intro e; subst e; exact hnr rfl
      ·
        apply J.skip; simp
        apply J.seq
        refine J.regE (by simp; rfl) ?_
        simp
        apply J.block
        refine J.loop hc (I11b a b i a[i] b[i]) ?_ ?_
        · exact ⟨_, _, by apply le_sub <;> simp, 0, by simp, by simp, rfl, rfl⟩
        rintro n st ⟨j, hj, htj, rfl, rfl⟩
        apply J.seq
        apply J.seq
        refine J.regE (by simp [hlt]; rfl) ?_
        simp
        apply J.cond; simp
        refine ⟨fun hjl => ?_, fun hjl => ?_⟩
        ·
          have hjb : j < b[i].length := by omega
          apply J.skip; simp
          apply J.seq
          apply J.block
          apply J.seq
          refine J.drawE (by simp [hlt, hlb, hjl, hjb]; rfl) ?_
          simp
          apply J.cond; simp
          refine ⟨fun he => ?_, fun he => ?_⟩
          ·
            apply J.seq
            refine J.regE (by simp; rfl) ?_
            simp
            apply J.ret
            refine ⟨by simp, rfl, _, [], by simp [a11R]; rfl, ?_⟩
            simp
            intro e; subst e; exact he rfl
          ·
            apply J.skip; simp
            refine J.regE (by simp [hwj j hjl]; rfl) ?_
            simp
            exact ⟨_, by omega, _, St.le_refl _, j + 1, by omega, take_step htj hjl hjb (by omega), rfl, rfl⟩
        ·
          have : j = a[i].length := by omega
          subst this
          have hrow := take_all htj (by omega)
          apply J.exit; simp
          refine J.regE (by simp [hw]; rfl) ?_
          simp
          exact ⟨_, by omega, _, St.le_refl _, i + 1, by omega, take_step ht hlt hlb hrow, rfl, rfl⟩
    ·
      have : i = a.length := by omega
      subst this
      apply J.exit; simp
      apply J.seq
      refine J.regE (by simp; rfl) ?_
      simp
      apply J.ret
      refine ⟨by simp, rfl, _, [], by simp [a11R]; rfl, ?_⟩
      simp
      exact take_all ht (by omega)

theorem c28i : chkFn Try.prog 28 19 2 a28 a28R = true := by kernel_rfl
/-- slices.Index[[]int,int] -/
theorem d28i (l : List Nat) (x : Int) (h : l.length < 1000000) : DoesT 28 [.ro 1 (nats l), iv x] (iv (ixI l x 0)) := by
  refine Does.of (nt := 19) (ac := a28) (rds := a28R) c28i (fun c hc => ?_)
  unfold a28
  apply J.seq
  refine J.regE (by simp; rfl) ?_
  simp
  apply J.seq
  apply J.seq
  refine J.regE (by simp; rfl) ?_
  simp
  apply J.block
  refine J.loop hc (I28 l x) ?_ ?_
  · exact ⟨_, _, St.le_refl _, 0, by simp, rfl, by simp, rfl⟩
  rintro n st ⟨i, hi, rfl, hx, rfl⟩
  apply J.seq
  refine J.regE (by simp; rfl) ?_
  simp
  apply J.seq
  apply J.cond; simp
  refine ⟨fun hb => ?_, fun hb => ?_⟩
  ·
    have hw : IntKind.i64.wrap ((i : Int) + 1) = i + 1 := wrap_id (by omega) (by omega)
    apply J.skip; simp
    apply J.seq
    apply J.block
    apply J.seq
    refine J.regE (by simp; rfl) ?_
    simp
    apply J.seq
    refine J.regE (by simp [hb]; rfl) ?_
    simp
    apply J.cond; simp
    refine ⟨fun he => ?_, fun he => ?_⟩
    ·
      have hf : ixI l x 0 = i := by rw [hx, List.drop_eq_getElem_cons hb]; simp [ixI]; omega
      apply J.seq
      refine J.regE (by simp; rfl) ?_
      simp
      apply J.ret
      refine ⟨by simp, rfl, _, [], by simp [a28R]; rfl, ?_⟩
      simp [hf]
    ·
      have hf : ixI l x 0 = ixI (l.drop (i + 1)) x (i + 1) := by rw [hx, List.drop_eq_getElem_cons hb]; simp [ixI]; omega
      apply J.skip; simp
      refine J.regE (by simp [hw]; rfl) ?_
      simp
      exact ⟨_, by omega, _, St.le_refl _, i + 1, by omega, rfl, hf, rfl⟩
  ·
    have : i = l.length := by omega
    subst this
    apply J.exit; simp
    apply J.seq
    refine J.regE (by simp; rfl) ?_
    simp
    apply J.ret
    refine ⟨by simp, rfl, _, [], by simp [a28R]; rfl, ?_⟩
    simp [hx, ixI]

theorem c25 : chkFn Try.prog 25 9 2 a25 a25R = true := by kernel_rfl
/-- slices.Contains[[]int,int] -/
theorem d25 (l : List Nat) (x : Int) (h : l.length < 1000000) : DoesT 25 [.ro 1 (nats l), iv x] (bv (decide (∃ y ∈ l, (y : Int) = x))) := by
  refine Does.of (nt := 9) (ac := a25) (rds := a25R) c25 (fun c hc => ?_)
  unfold a25
  apply J.seq
  refine J.regE (by simp; rfl) ?_
  simp
  apply J.seq
  apply J.reg
  iterate 2 refine runL_step rfl (by simp; rfl) ?_
  refine runL_tree rfl (d28i l x h) (by simp) hc ?_
  simp
  iterate 2 refine runL_step rfl (by simp; rfl) ?_
  simp [runL]
  apply J.ret
  refine ⟨by simp, rfl, _, [], by simp [a25R]; rfl, ?_⟩
  simp [ixI_nonneg]

end Go.Proofs.Ythccfgkklimebaa.F
