/- Parts of a symbolic execution and of walks by it, for the statements of this seat: PD2, PD3, PD5, PD4, PComps, PD8, PW1, PW2, PW3, POrder. -/
import Derived.Test.YtdekelhmneeniaaQb5
import Derived.Test.YtdekelhmneeniaaProg
import Derived.KernelRfl
set_option linter.unusedVariables false
set_option linter.unusedSimpArgs false
namespace Go.Proofs.Ytdekelhmneeniaa.P11
open Go Go.SX
def stF (n : Int) (l : List (Int × Int)) (out : List Bool) (s : Slots) : St := ⟨(0, iv n) :: (1, .ro 2 (eds l)) :: (7, .own 24015 1 0 (bN n)) :: s, [(24015, .arr 4 1 (bools out))], []⟩
structure Pass (n : Int) (l : List (Int × Int)) (a : Nat) (out0 out : List Bool) (more : Bool) (i : Nat) : Prop where
  part : Part n l a out
  le : unset out ≤ unset out0
  lt : more = true → unset out < unset out0
  shut : more = false → ∀ k (h : k < l.length), k < i → ∀ u v : Nat, l[k] = ((u : Int), (v : Int)) → u < bN n → v < bN n → out.getD u false = true → out.getD v false = true
theorem Pass.skip {n : Int} {l : List (Int × Int)} {a : Nat} {out0 out : List Bool} {more : Bool} {i : Nat} (h : Pass n l a out0 out more i) (hi : i < l.length) (hk : ∀ u v : Nat, l[i] = ((u : Int), (v : Int)) → u < bN n → v < bN n → out.getD u false = true → out.getD v false = true) : Pass n l a out0 out more (i + 1) := by
  refine { h with shut := fun hm k hkl hki => ?_ }
  by_cases e : k = i
  · subst e; exact hk
  · exact h.shut hm k hkl (by omega)
def shutAll (n : Int) (l : List (Int × Int)) (out : List Bool) : Prop := ∀ k (h : k < l.length), k < l.length → ∀ u v : Nat, l[k] = ((u : Int), (v : Int)) → u < bN n → v < bN n → out.getD u false = true → out.getD v false = true
def I24 (n : Int) (l : List (Int × Int)) (a : Nat) (m : Nat) (st : St) : Prop := ∃ out more, Part n l a out ∧ (more = false → shutAll n l out) ∧ m = 2 * unset out + more.toNat ∧ st = ⟨[(0, iv n), (1, .ro 2 (eds l)), (7, .own 24015 1 0 (bN n)), (9, bv more)], [(24015, .arr 4 1 (bools out))], []⟩
def I24b (n : Int) (l : List (Int × Int)) (a : Nat) (out0 : List Bool) (m : Nat) (st : St) : Prop := ∃ (i : Nat) (out : List Bool) (more : Bool), i ≤ l.length ∧ Pass n l a out0 out more i ∧ m = l.length - i ∧ st = ⟨[(0, iv n), (1, .ro 2 (eds l)), (7, .own 24015 1 0 (bN n)), (9, bv more), (10, iv i)], [(24015, .arr 4 1 (bools out))], []⟩
theorem c24 : chkFn Try.prog 60 79 3 a24 a24R = true := by kernel_rfl
theorem d24 (n : Int) (l : List (Int × Int)) (a : Int) (hl : l.length ≤ 1000000) : DoesT 60 [iv n, .ro 2 (eds l), iv a] (.ro 1 (bools (fromL n l a))) := by
  have hN := bN_le n
  have hNb : ((bN n : Nat) : Int) ≤ 281474976710656 := by omega
  refine Does.of (nt := 79) (ac := a24) (rds := a24R) c24 (fun c hc => ?_)
  unfold a24
  apply J.seq
  refine J.regE (by simp; rfl) ?_
  simp
  apply J.seq
  apply J.reg
  refine runL_step rfl (by simp [hNb, bools_zero]; rfl) ?_
  refine runL_tree rfl (d23 n) (by simp) hc ?_
  simp
  iterate 2 refine runL_step rfl (by simp [hNb, bools_zero]; rfl) ?_
  simp [runL]
  apply J.seq
  apply J.reg
  iterate 2 refine runL_step rfl (by simp; rfl) ?_
  refine runL_tree rfl (d26 n a) (by simp) hc ?_
  simp
  refine runL_step rfl (by simp; rfl) ?_
  simp [runL]
  apply J.seq
  apply J.seq
  cases hA : isT n a
  ·
    refine J.regE (by simp; rfl) ?_
    simp
    apply J.cond; simp
    apply J.seq
    refine J.freeze hc 24015 rfl ?_
    simp
    refine J.regE (by simp; rfl) ?_
    simp
    apply J.ret
    refine ⟨by simp, rfl, _, [], by simp [a24R]; rfl, ?_⟩
    simp [fromL, hA]
  ·
    refine J.regE (by simp; rfl) ?_
    simp
    apply J.cond; simp
    apply J.skip; simp
    apply J.seq
    obtain ⟨h0, h1⟩ := (isT_iff _ _).1 hA
    obtain ⟨a, rfl⟩ := Int.eq_ofNat_of_zero_le h0
    have ha : a < bN n := by omega
    refine J.regE (by simp [ha]; rfl) ?_
    simp
    apply J.seq
    apply J.seq
    refine J.regE (by simp; rfl) ?_
    simp
    apply J.block
    refine J.loop hc (I24 n l a) ?_ ?_
    · exact ⟨_, _, St.le_refl _, _, true, Part.start ha, by simp, rfl, rfl⟩
    rintro n st ⟨out0, more, hP, hS, rfl, rfl⟩
    apply J.seq
    apply J.seq
    cases more
    ·
      refine J.regE (by simp; rfl) ?_
      simp
      apply J.cond; simp
      apply J.exit; simp
      apply J.seq
      refine J.freeze hc 24015 rfl ?_
      simp
      refine J.regE (by simp; rfl) ?_
      simp
      apply J.ret
      refine ⟨by simp, rfl, _, [], by simp [a24R]; rfl, ?_⟩
      have := hP.eq (fun u v he hu => by
        obtain ⟨h1, h2, h3⟩ := he
        obtain ⟨k, hk, e⟩ := List.mem_iff_getElem.1 h3
        exact hS rfl k hk hk u v e h1 h2 hu)
      simp [this, ← hP.len]
    ·
      refine J.regE (by simp; rfl) ?_
      simp
      apply J.cond; simp
      apply J.skip; simp
      apply J.block
      apply J.seq
      refine J.regE (by simp; rfl) ?_
      simp
      apply J.seq
      refine J.regE (by simp; rfl) ?_
      simp
      apply J.block
      refine J.loop hc (I24b n l a out0) ?_ ?_
      · exact ⟨_, _, St.le_refl _, 0, out0, false, by simp, ⟨hP, Nat.le_refl _, by simp, fun _ k _ hk => by omega⟩, rfl, rfl⟩
      rintro n st ⟨i, out, more, hi, hP, rfl, rfl⟩
      apply J.seq
      apply J.seq
      refine J.regE (by simp; rfl) ?_
      simp
      apply J.cond; simp
      refine ⟨fun hlt => ?_, fun hlt => ?_⟩
      ·
        apply J.skip; simp
        apply J.seq
        apply J.block
        apply J.seq
        obtain ⟨⟨x, y⟩, hxy⟩ : ∃ p, l[i] = p := ⟨_, rfl⟩
        have hw : IntKind.i64.wrap ((i : Int) + 1) = i + 1 := wrap_id (by omega) (by omega)
        apply J.reg
        iterate 6 refine runL_step rfl (by simp [hlt, hxy]; rfl) ?_
        refine runL_tree rfl (d26 n x) (by simp) hc ?_
        simp
        refine runL_step rfl (by simp [hlt, hxy]; rfl) ?_
        simp [runL]
        apply J.seq
        apply J.reg
        iterate 6 refine runL_step rfl (by simp [hlt, hxy]; rfl) ?_
        refine runL_tree rfl (d26 n y) (by simp) hc ?_
        simp
        refine runL_step rfl (by simp [hlt, hxy]; rfl) ?_
        simp [runL]
        apply J.seq
        have hlen := hP.part.len
        have hcases : (isT n x = false) ∨ (isT n x = true ∧ isT n y = false) ∨ ∃ u v : Nat, x = u ∧ y = v ∧ u < bN n ∧ v < bN n ∧ isT n x = true ∧ isT n y = true := by
          cases hx : isT n x
          · simp
          · cases hy : isT n y
            · simp
            · right; right
              obtain ⟨h1, h2⟩ := (isT_iff _ _).1 hx
              obtain ⟨h3, h4⟩ := (isT_iff _ _).1 hy
              obtain ⟨u, rfl⟩ := Int.eq_ofNat_of_zero_le h1
              obtain ⟨v, rfl⟩ := Int.eq_ofNat_of_zero_le h3
              exact ⟨u, v, rfl, rfl, by omega, by omega, rfl, rfl⟩
        have hcase2 : (isT n x = false) ∨ (isT n x = true ∧ isT n y = false) ∨ (∃ u v : Nat, ∃ (hu : u < out.length) (hv : v < out.length), x = u ∧ y = v ∧ u < bN n ∧ v < bN n ∧ isT n x = true ∧ isT n y = true ∧ out[u] = false) ∨ (∃ u v : Nat, ∃ (hu : u < out.length) (hv : v < out.length), x = u ∧ y = v ∧ u < bN n ∧ v < bN n ∧ isT n x = true ∧ isT n y = true ∧ out[u] = true ∧ out[v] = true) ∨
            (∃ u v : Nat, ∃ (hu : u < out.length) (hv : v < out.length), x = u ∧ y = v ∧ u < bN n ∧ v < bN n ∧ isT n x = true ∧ isT n y = true ∧ out[u] = true ∧ out[v] = false) := by
          rcases hcases with h | h | ⟨u, v, rfl, rfl, hu, hv, hx, hy⟩
          · exact .inl h
          · exact .inr (.inl h)
          · right; right
            have hul : u < out.length := by omega
            have hvl : v < out.length := by omega
            cases h1 : out[u]
            · exact .inl ⟨u, v, hul, hvl, rfl, rfl, hu, hv, hx, hy, h1⟩
            · cases h2 : out[v]
              · exact .inr (.inr ⟨u, v, hul, hvl, rfl, rfl, hu, hv, hx, hy, h1, h2⟩)
              · exact .inr (.inl ⟨u, v, hul, hvl, rfl, rfl, hu, hv, hx, hy, h1, h2⟩)
        have hbad : (isT n x = false ∨ isT n y = false) → Pass n l a out0 out more (i + 1) := fun hb => hP.skip hlt (fun u v e hu hv _ => by
          rw [hxy] at e; injection e with e1 e2; subst e1; subst e2
          have h1 : isT n u = true := (isT_iff _ _).2 ⟨by omega, by omega⟩
          have h2 : isT n v = true := (isT_iff _ _).2 ⟨by omega, by omega⟩
          rcases hb with hb | hb
          · rw [h1] at hb; cases hb
          · rw [h2] at hb; cases hb)
        rcases hcase2 with hx | ⟨hx, hy⟩ | ⟨u, v, hul, hvl, rfl, rfl, hu, hv, hx, hy, hou⟩ | ⟨u, v, hul, hvl, rfl, rfl, hu, hv, hx, hy, hou, hov⟩ | ⟨u, v, hul, hvl, rfl, rfl, hu, hv, hx, hy, hou, hov⟩
        ·
          have hnext := hbad (.inl hx)
          apply J.reg
          iterate 25 refine runL_step rfl (by simp [hx]; rfl) ?_
          simp [runL]
          apply J.cond; simp
          apply J.skip; simp
          refine J.regE (by simp [hw]; rfl) ?_
          simp
          exact ⟨_, by omega, _, by apply le_sub <;> simp, i + 1, _, _, by omega, hnext, rfl, rfl⟩
        ·
          have hnext := hbad (.inr hy)
          apply J.reg
          iterate 25 refine runL_step rfl (by simp [hx, hy]; rfl) ?_
          simp [runL]
          apply J.cond; simp
          apply J.skip; simp
          refine J.regE (by simp [hw]; rfl) ?_
          simp
          exact ⟨_, by omega, _, by apply le_sub <;> simp, i + 1, _, _, by omega, hnext, rfl, rfl⟩
        ·
          have hnext : Pass n l a out0 out more (i + 1) := hP.skip hlt (fun u' v' e _ _ hb => by
            rw [hxy] at e; injection e with e1 e2
            have : u' = u := by omega
            subst this
            simp [hul, hou] at hb)
          apply J.reg
          iterate 25 refine runL_step rfl (by simp [hx, hy, hlt, hxy, hu, hv, hul, hvl, hou]; rfl) ?_
          simp [runL]
          apply J.cond; simp
          apply J.skip; simp
          refine J.regE (by simp [hw]; rfl) ?_
          simp
          exact ⟨_, by omega, _, by apply le_sub <;> simp, i + 1, _, _, by omega, hnext, rfl, rfl⟩
        ·
          have hnext : Pass n l a out0 out more (i + 1) := hP.skip hlt (fun u' v' e _ _ hb => by
            rw [hxy] at e; injection e with e1 e2
            have : v' = v := by omega
            subst this
            simp [hvl, hov])
          apply J.reg
          iterate 25 refine runL_step rfl (by simp [hx, hy, hlt, hxy, hu, hv, hul, hvl, hou, hov]; rfl) ?_
          simp [runL]
          apply J.cond; simp
          apply J.skip; simp
          refine J.regE (by simp [hw]; rfl) ?_
          simp
          exact ⟨_, by omega, _, by apply le_sub <;> simp, i + 1, _, _, by omega, hnext, rfl, rfl⟩
        ·
          have hun := unset_set hvl hov
          have hle := hP.le
          have hnext : Pass n l a out0 (out.set v true) true (i + 1) := ⟨hP.part.more (u := u) (by simp [hul, hou]) ⟨hu, hv, hxy ▸ List.getElem_mem hlt⟩, by omega, fun _ => by omega, fun h => by cases h⟩
          apply J.reg
          iterate 25 refine runL_step rfl (by simp [hx, hy, hlt, hxy, hu, hv, hul, hvl, hou, hov]; rfl) ?_
          simp [runL]
          apply J.cond; simp
          apply J.seq
          refine J.regE (by simp [hlt, hxy, hv, hvl]; rfl) ?_
          simp
          refine J.regE (by simp; rfl) ?_
          simp
          refine J.regE (by simp [hw]; rfl) ?_
          simp
          exact ⟨_, by omega, _, by apply le_sub <;> simp, i + 1, _, _, by omega, hnext, rfl, rfl⟩
      ·
        have : i = l.length := by omega
        subst this
        apply J.exit; simp
        refine ⟨_, ?_, _, by apply le_sub <;> simp, out, more, hP.part, hP.shut, rfl, rfl⟩
        have h1 := hP.le
        have h2 := hP.lt
        cases more <;> simp at h2 ⊢ <;> omega
        done
noncomputable def reB (n : Int) (l : List (Int × Int)) (a b : Int) : Bool := isT n a && (isT n b && rB n l a.toNat b.toNat)
def pk (x : List Bool) (i : Nat) : List Nat := (List.range i).filter fun v => x.getD v false
theorem pk_succ (x : List Bool) (i : Nat) : pk x (i + 1) = pk x i ++ if x.getD i false then [i] else [] := by
  unfold pk
  rw [List.range_succ, List.filter_append]
  congr 1
  cases h : x.getD i false <;> simp [h] <;> simpa using h
theorem pk_length (x : List Bool) (i : Nat) : (pk x i).length ≤ i := Nat.le_trans (List.length_filter_le _ _) (by simp)
noncomputable def clos (n : Int) (l : List (Int × Int)) (a : Int) : List Nat := pk (fromL n l a) (bN n)
theorem fromL_length (n : Int) (l : List (Int × Int)) (a : Int) : (fromL n l a).length = bN n := by unfold fromL; split <;> simp
def I16 (x : List Bool) (m : Nat) (st : St) : Prop := ∃ i : Nat, i ≤ x.length ∧ m = x.length - i ∧ st = ⟨[(7, .ro 1 (bools x)), (8, .own 16027 1 0 (pk x i).length), (9, iv i)], [(16027, .arr 3 1 (nats (pk x i)))], []⟩
def I14 (a b : List Nat) (m : Nat) (st : St) : Prop := ∃ i : Nat, i ≤ a.length ∧ a.take i = b.take i ∧ m = a.length - i ∧ st = ⟨[(0, .ro 1 (nats a)), (1, .ro 1 (nats b)), (5, iv i)], [], []⟩
theorem take_step {α : Type} {a b : List α} {i : Nat} (h : a.take i = b.take i) (ha : i < a.length) (hb : i < b.length) (e : a[i] = b[i]) : a.take (i + 1) = b.take (i + 1) := by
  rw [List.take_add_one, List.take_add_one, h, List.getElem?_eq_getElem ha, List.getElem?_eq_getElem hb, e]
theorem take_all {α : Type} {a b : List α} (h : a.take a.length = b.take a.length) (hl : a.length = b.length) : a = b := by
  rwa [List.take_length, hl, List.take_length] at h
def I11 (a b : List (List Nat)) (m : Nat) (st : St) : Prop := ∃ i : Nat, i ≤ a.length ∧ a.take i = b.take i ∧ m = a.length - i ∧ st = ⟨[(0, .ro 1 (rws a)), (1, .ro 1 (rws b)), (5, iv i)], [], []⟩
def I11b (a b : List (List Nat)) (i : Nat) (x y : List Nat) (m : Nat) (st : St) : Prop := ∃ j : Nat, j ≤ x.length ∧ x.take j = y.take j ∧ m = x.length - j ∧ st = ⟨[(0, .ro 1 (rws a)), (1, .ro 1 (rws b)), (5, iv i), (6, iv j)], [], []⟩
def ixI : List Nat → Int → Nat → Int
  | [], _, _ => -1
  | y :: r, x, n => if x = y then n else ixI r x (n + 1)
theorem ixI_nonneg : ∀ (l : List Nat) (x : Int) (n : Nat), 0 ≤ ixI l x n ↔ ∃ y ∈ l, (y : Int) = x
  | [], x, n => by simp [ixI]
  | y :: r, x, n => by
    simp only [ixI]
    by_cases e : x = y
    · subst e; simp
    · rw [if_neg e, ixI_nonneg r x (n + 1)]
      constructor
      · rintro ⟨z, hz, rfl⟩; exact ⟨z, by simp [hz], rfl⟩
      · rintro ⟨z, hz, rfl⟩
        rcases List.mem_cons.1 hz with rfl | hz
        · exact absurd rfl e
        · exact ⟨z, hz, rfl⟩
def I28 (l : List Nat) (x : Int) (m : Nat) (st : St) : Prop := ∃ i : Nat, i ≤ l.length ∧ m = l.length - i ∧ ixI l x 0 = ixI (l.drop i) x i ∧ st = ⟨[(0, .ro 1 (nats l)), (1, iv x), (7, iv l.length), (8, iv i)], [], []⟩
theorem c16 : chkFn Try.prog 56 29 3 a16 a16R = true := by kernel_rfl
theorem d16 (n : Int) (l : List (Int × Int)) (a : Int) (hl : l.length ≤ 1000000) : DoesT 56 [iv n, .ro 2 (eds l), iv a] (.ro 1 (nats (clos n l a))) := by
  refine Does.of (nt := 29) (ac := a16) (rds := a16R) c16 (fun c hc => ?_)
  unfold a16
  apply J.seq
  refine J.regE (by simp; rfl) ?_
  simp
  apply J.seq
  apply J.reg
  iterate 3 refine runL_step rfl (by simp; rfl) ?_
  refine runL_tree rfl (d24 n l a hl) (by simp) hc ?_
  simp
  refine runL_step rfl (by simp; rfl) ?_
  simp [runL]
  have hlen := fromL_length n l a
  have hN := bN_le n
  unfold clos
  rw [← hlen]
  rw [← hlen] at hN
  generalize fromL n l a = x at hlen hN ⊢
  apply J.seq
  refine J.regE (by simp; rfl) ?_
  simp
  refine J.nilrow hc 8 16027 3 rfl rfl rfl ?_
  simp
  apply J.seq
  apply J.seq
  refine J.regE (by simp; rfl) ?_
  simp
  apply J.block
  refine J.loop hc (I16 x) ?_ ?_
  · exact ⟨_, _, St.le_refl _, 0, by omega, rfl, rfl⟩
  rintro n st ⟨i, hi, rfl, rfl⟩
  apply J.seq
  apply J.seq
  refine J.regE (by simp; rfl) ?_
  simp
  apply J.cond; simp
  refine ⟨fun hlt => ?_, fun hlt => ?_⟩
  ·
    have hw : IntKind.i64.wrap ((i : Int) + 1) = i + 1 := wrap_id (by omega) (by omega)
    have hb := pk_length x i
    have hget : x.getD i false = x[i] := by simp [hlt]
    apply J.skip; simp
    apply J.seq
    apply J.block
    apply J.seq
    have hpk := pk_succ x i
    rw [hget] at hpk
    cases hx : x[i] <;> simp [hx] at hpk
    ·
      refine J.regE (by simp [hlt, hx]; rfl) ?_
      simp
      apply J.cond; simp
      apply J.skip; simp
      refine J.regE (by simp [hw]; rfl) ?_
      simp
      exact ⟨_, by omega, _, by apply le_sub <;> simp [hpk], i + 1, by omega, rfl, rfl⟩
    ·
      refine J.regE (by simp [hlt, hx]; rfl) ?_
      simp
      apply J.cond; simp
      refine J.regE (by simp [show ((pk x i).length + 1) * 8 ≤ 140737488355328 from by omega, List.take_of_length_le]; rfl) ?_
      simp
      refine J.regE (by simp [hw]; rfl) ?_
      simp
      exact ⟨_, by omega, _, by apply le_sub <;> simp [hpk], i + 1, by omega, rfl, rfl⟩
  ·
    have : i = x.length := by omega
    subst this
    apply J.exit; simp
    apply J.seq
    refine J.freeze hc 16027 rfl ?_
    simp
    refine J.regE (by simp; rfl) ?_
    simp
    apply J.ret
    refine ⟨by simp, rfl, _, [], by simp [a16R]; rfl, ?_⟩
    simp [List.take_of_length_le]
theorem c28i : chkFn Try.prog 61 19 2 a28 a28R = true := by kernel_rfl
theorem d28i (l : List Nat) (x : Int) (h : l.length < 1000000) : DoesT 61 [.ro 1 (nats l), iv x] (iv (ixI l x 0)) := by
  refine Does.of (nt := 19) (ac := a28) (rds := a28R) c28i (fun c hc => ?_)
  unfold a28
  apply J.seq
  refine J.regE (by simp; rfl) ?_
  simp
  apply J.seq
  apply J.seq
  refine J.regE (by simp; rfl) ?_
  simp
  apply J.block
  refine J.loop hc (I28 l x) ?_ ?_
  · exact ⟨_, _, St.le_refl _, 0, by simp, rfl, by simp, rfl⟩
  rintro n st ⟨i, hi, rfl, hx, rfl⟩
  apply J.seq
  refine J.regE (by simp; rfl) ?_
  simp
  apply J.seq
  apply J.cond; simp
  refine ⟨fun hb => ?_, fun hb => ?_⟩
  ·
    have hw : IntKind.i64.wrap ((i : Int) + 1) = i + 1 := wrap_id (by omega) (by omega)
    apply J.skip; simp
    apply J.seq
    apply J.block
    apply J.seq
    refine J.regE (by simp; rfl) ?_
    simp
    apply J.seq
    refine J.regE (by simp [hb]; rfl) ?_
    simp
    apply J.cond; simp
    refine ⟨fun he => ?_, fun he => ?_⟩
    ·
      have hf : ixI l x 0 = i := by rw [hx, List.drop_eq_getElem_cons hb]; simp [ixI]; omega
      apply J.seq
      refine J.regE (by simp; rfl) ?_
      simp
      apply J.ret
      refine ⟨by simp, rfl, _, [], by simp [a28R]; rfl, ?_⟩
      simp [hf]
    ·
      have hf : ixI l x 0 = ixI (l.drop (i + 1)) x (i + 1) := by rw [hx, List.drop_eq_getElem_cons hb]; simp [ixI]; omega
      apply J.skip; simp
      refine J.regE (by simp [hw]; rfl) ?_
      simp
      exact ⟨_, by omega, _, St.le_refl _, i + 1, by omega, rfl, hf, rfl⟩
  ·
    have : i = l.length := by omega
    subst this
    apply J.exit; simp
    apply J.seq
    refine J.regE (by simp; rfl) ?_
    simp
    apply J.ret
    refine ⟨by simp, rfl, _, [], by simp [a28R]; rfl, ?_⟩
    simp [hx, ixI]
theorem c25 : chkFn Try.prog 38 9 2 a25 a25R = true := by kernel_rfl
theorem d25 (l : List Nat) (x : Int) (h : l.length < 1000000) : DoesT 38 [.ro 1 (nats l), iv x] (bv (decide (∃ y ∈ l, (y : Int) = x))) := by
  refine Does.of (nt := 9) (ac := a25) (rds := a25R) c25 (fun c hc => ?_)
  unfold a25
  apply J.seq
  refine J.regE (by simp; rfl) ?_
  simp
  apply J.seq
  apply J.reg
  iterate 2 refine runL_step rfl (by simp; rfl) ?_
  refine runL_tree rfl (d28i l x h) (by simp) hc ?_
  simp
  iterate 2 refine runL_step rfl (by simp; rfl) ?_
  simp [runL]
  apply J.ret
  refine ⟨by simp, rfl, _, [], by simp [a25R]; rfl, ?_⟩
  simp [ixI_nonneg]
def succ (n : Int) (l : List (Int × Int)) (i : Nat) (a : Nat) : List Nat := (l.take i).filterMap fun e => if e.1 = (a : Int) ∧ isT n e.2 = true then some e.2.toNat else none
def toL (n : Int) (l : List (Int × Int)) : List (List Nat) := (List.range (bN n)).map (succ n l l.length)
theorem succ_succ {n : Int} {l : List (Int × Int)} {i : Nat} (a : Nat) (h : i < l.length) : succ n l (i + 1) a = succ n l i a ++ if l[i].1 = (a : Int) ∧ isT n l[i].2 = true then [l[i].2.toNat] else [] := by
  unfold succ
  rw [List.take_add_one, List.getElem?_eq_getElem h, List.filterMap_append]
  congr 1
  simp only [Option.toList_some, List.filterMap_cons, List.filterMap_nil]
  split <;> rename_i e <;> split at e <;> simp_all
theorem succ_length (n : Int) (l : List (Int × Int)) (i a : Nat) : (succ n l i a).length ≤ i := by
  unfold succ
  exact Nat.le_trans (List.length_filterMap_le ..) (by simp; omega)
def m20 (n : Int) (l : List (Int × Int)) (i : Nat) : Mem := fam 30000 3 1 (fun a => nats (succ n l i a)) (bN n) ++ [(20012, .obj 26 (famCells 30000 1 (fun a => (succ n l i a).length) (bN n)))]
def s20 (n : Int) (l : List (Int × Int)) (i : Nat) : Slots := [(0, iv (bN n : Nat)), (5, .own 20012 1 0 (bN n)), (13, .ro 2 (eds l)), (14, iv l.length), (15, iv i)]
def I20 (n : Int) (l : List (Int × Int)) (m : Nat) (st : St) : Prop := ∃ i : Nat, i ≤ l.length ∧ m = l.length - i ∧ st = ⟨s20 n l i, m20 n l i, []⟩
theorem c20 : chkFn Try.prog 49 49 2 a20 a20R = true := by kernel_rfl
theorem d20 (n : Int) (l : List (Int × Int)) (hl : l.length ≤ 1000000) : DoesT 49 [iv n, .ro 2 (eds l)] (.ro 1 (rws (toL n l))) := by
  have hN := bN_le n
  have hNb : ((bN n : Nat) : Int) * 24 ≤ 281474976710656 := by omega
  have hmm : (if (100 : Int) < (if n < 0 then 0 else n) then (100 : Int) else if n < 0 then 0 else n) = (bN n : Nat) := by
    unfold bN
    by_cases h1 : n < 0
    · simp [h1]
    · by_cases h2 : 100 < n
      · simp [h1, h2]
      · simp only [h1, h2, if_false]; omega
  refine Does.of (nt := 49) (ac := a20) (rds := a20R) c20 (fun c hc => ?_)
  unfold a20
  apply J.seq
  refine J.regE (by simp; rfl) ?_
  simp
  apply J.seq
  refine J.regE (by simp; rfl) ?_
  simp
  rw [hmm]
  apply J.seq
  refine J.regE (by simp [hNb]; rfl) ?_
  simp
  apply J.seq
  apply J.seq
  refine J.regE (by simp; rfl) ?_
  simp
  apply J.block
  refine J.le hc (st' := ⟨s20 n l 0, m20 n l 0, []⟩) (le_retell ?_ ?_ rfl (by simp)) ?_
  · refine fun p hp => ⟨p.2, ?_, .same ?_⟩ <;> revert p <;> simp [s20, m20]
  · intro p hp
    simp only [m20, List.mem_append, List.mem_singleton] at hp
    rcases hp with hp | rfl
    rotate_left 1
    · refine .obj (by simp) (fun i x hx => ?_)
      have hi : i < bN n := by simpa using (List.getElem?_eq_some_iff.1 hx).1
      rw [famCells_get hi] at hx
      injection hx with hx; subst hx
      simp [hi, succ]
      exact .nil
    · obtain ⟨c', hc', rfl⟩ := mem_fam hp
      simp [succ]
      rw [if_neg (by omega)]
      exact .new
  refine J.loop hc (I20 n l) ?_ ?_
  · exact ⟨_, _, St.le_refl _, 0, by omega, rfl, rfl⟩
  rintro n st ⟨i, hi, rfl, rfl⟩
  have key : i < l.length → ∀ (S : Slots) (M : Mem) (Q : Exit → St → Prop), (∀ p ∈ s20 n l i, SX.look S p.1 = some p.2) → SX.look M 20012 = some (.obj 26 (famCells 30000 1 (fun a => (succ n l (i + 1) a).length) (bN n))) → (∀ c, c < bN n → SX.look M (30000 + c) = some (.arr 3 1 (nats (succ n l (i + 1) c)))) → J Try.prog 49 c a20r8 ⟨S, M, []⟩ (loopQ (I20 n l) (l.length - i) Q) := by
    intro hlt S M Q hS hM1 hM2
    have hw : IntKind.i64.wrap ((i : Int) + 1) = i + 1 := wrap_id (by omega) (by omega)
    refine J.le hc (st' := ⟨s20 n l i, m20 n l (i + 1), []⟩) (le_retell ?_ ?_ rfl (by simp)) ?_
    · refine fun p hp => ⟨p.2, hS p hp, .same ?_⟩
      revert p; simp [s20, m20]
    · intro p hp
      simp only [m20, List.mem_append, List.mem_singleton] at hp
      rcases hp with hp | rfl
      · obtain ⟨c', hc', rfl⟩ := mem_fam hp
        simp only [hM2 c' hc']
        exact ReB.same (b := .arr 3 1 (nats (succ n l (i + 1) c'))) trivial
      · simp only [hM1]
        refine .obj rfl (fun j x hx => ?_)
        have hj : j < bN n := by simpa using (List.getElem?_eq_some_iff.1 hx).1
        rw [famCells_get hj] at hx
        injection hx with hx; subst hx
        simp [famCells_get hj]
        exact .same (by simp [m20, look_famA_at hj])
    · unfold s20
      refine J.regE (by simp [hw]; rfl) ?_
      simp
      exact ⟨_, by omega, _, St.le_refl _, i + 1, by omega, rfl, by simp [s20]⟩
  unfold s20 m20
  apply J.seq
  refine J.regE (by simp; rfl) ?_
  simp
  apply J.seq
  apply J.cond; simp
  refine ⟨fun hlt => ?_, fun hlt => ?_⟩
  ·
    have hw : IntKind.i64.wrap ((i : Int) + 1) = i + 1 := wrap_id (by omega) (by omega)
    obtain ⟨⟨x, y⟩, hxy⟩ : ∃ p, l[i] = p := ⟨_, rfl⟩
    have hss := fun a => succ_succ (n := n) a hlt
    rw [hxy] at hss
    apply J.skip; simp
    apply J.seq
    apply J.block
    apply J.seq
    refine J.regE (by simp [hlt, hxy, hN, look_fam_lt, killL_fam_ne]; rfl) ?_
    simp
    apply J.seq
    have hcond : (∃ a b : Nat, x = a ∧ y = b ∧ a < bN n ∧ b < bN n) ∨ (¬ (0 ≤ (if y < x then y else x))) ∨ (0 ≤ (if y < x then y else x) ∧ ¬ ((if x < y then y else x) < (bN n : Int))) := by
      by_cases h1 : 0 ≤ (if y < x then y else x)
      · by_cases h2 : (if x < y then y else x) < (bN n : Int)
        · refine .inl ⟨x.toNat, y.toNat, ?_, ?_, ?_, ?_⟩ <;> split at h1 <;> split at h2 <;> omega
        · exact .inr (.inr ⟨h1, h2⟩)
      · exact .inr (.inl h1)
    rcases hcond with ⟨a, b, rfl, rfl, ha, hb⟩ | h1 | ⟨h1, h2⟩
    ·
      have h1 : (0 : Int) ≤ (if b < a then (b : Int) else a) := by split <;> omega
      have h2 : (if a < b then (b : Int) else a) < (bN n : Int) := by split <;> omega
      apply J.reg
      iterate 15 refine runL_step rfl (by simp [look_fam_lt, h1, h2]; rfl) ?_
      simp [runL]
      apply J.cond; simp
      have hla := succ_length n l i a
      have e1 : ¬ 20012 = 30000 + a := by omega
      have e2 : ¬ 20007 = 30000 + a := by omega
      have e3 : ¬ 20044 = 30000 + a := by omega
      have e4 : ¬ 30000 + a = 20044 := by omega
      have hss' : ∀ c, succ n l (i + 1) c = succ n l i c ++ if c = a then [b] else [] := by
        intro c
        have hT : isT n (b : Int) = true := (isT_iff _ _).2 ⟨by omega, by omega⟩
        rw [hss]
        by_cases e : c = a
        · subst e; simp [hT]
        · have e' : ¬ (a : Int) = c := by omega
          simp [e, e']
      have ha1 : a + 1 ≤ bN n := ha
      have hone := famCells_one (base := 30000) (sz := 1) (len := fun a => (succ n l i a).length) ha
      have hput := famCells_put (base := 30000) (sz := 1) (v := (succ n l i a).length + 1) (len := fun a => (succ n l i a).length) (len' := fun c => (succ n l (i + 1) c).length) ha (fun c => by rw [hss']; split <;> rename_i e <;> simp [e])
      apply J.draw; intro c' hc'
      iterate 9 refine runP_step rfl (by simp [ha]; rfl) ?_
      refine runP_alt rfl rfl (by simp [ha, ha1, hone]; rfl) ?_ (.inr ?_)
      · refine runP_one rfl rfl (by simp; rfl) ?_
        refine runP_one rfl (by simp; omega) (by simp [e1, e2, e3, e4, look_famA_at ha, killL_fam ha, show ((succ n l i a).length + 1) * 8 ≤ 140737488355328 from by omega]; rfl) ?_
        refine runP_step rfl (by simp [ha, ha1]; rfl) ?_
        refine runP_one rfl (by simp) (by simp [look_upd, look_killB, look_drop, e1, e2, e3, e4, hput, ha1, killL_fam ha]; rfl) ?_
        simp [runP]
        refine key hlt _ _ _ (by simp [s20]) (by simp [look_upd]) (fun c hc => ?_)
        simp only [look_upd, look_killB, look_drop]
        rw [if_neg (by omega)]
        by_cases e : c = a
        · subst e; simp [hss']
        · rw [if_neg (by omega), if_neg (by omega), look_famA_at hc]; simp [hss', e]
      · refine runP_one rfl rfl (by simp; rfl) ?_
        refine runP_one rfl rfl (by simp [ha, ha1, hone]; rfl) ?_
        refine runP_one rfl (by simp; omega) (by simp [e1, e2, e3, e4, look_famA_at ha, killL_fam ha, show ((succ n l i a).length + 1) * 8 ≤ 140737488355328 from by omega]; rfl) ?_
        refine runP_step rfl (by simp [ha, ha1]; rfl) ?_
        refine runP_one rfl (by simp) (by simp [look_upd, look_killB, look_drop, e1, e2, e3, e4, hput, ha1, killL_fam ha]; rfl) ?_
        simp [runP]
        refine key hlt _ _ _ (by simp [s20]) (by simp [look_upd]) (fun c hc => ?_)
        simp only [look_upd, look_killB, look_drop]
        rw [if_neg (by omega)]
        by_cases e : c = a
        · subst e; simp [hss']
        · rw [if_neg (by omega), if_neg (by omega), look_famA_at hc]; simp [hss', e]
    ·
      apply J.reg
      iterate 15 refine runL_step rfl (by simp [look_fam_lt, h1]; rfl) ?_
      simp [runL]
      apply J.cond; simp
      apply J.skip; simp
      have hssn : ∀ c, c < bN n → succ n l (i + 1) c = succ n l i c := by
        intro c hcN
        rw [hss]
        have : ¬ (x = (c : Int) ∧ isT n y = true) := by
          rintro ⟨rfl, hy⟩
          have := (isT_iff _ _).1 hy
          revert h1
          first | (intro h1; split at h1 <;> omega) | (revert h2; intro h2 h1; split at h1 <;> split at h2 <;> omega)
        simp [this]
      refine key hlt _ _ _ (by simp [s20]) ?_ (fun c hcN => by rw [look_famA_at hcN, hssn c hcN])
      simp
      unfold famCells
      exact List.map_congr_left (fun c hcN => by dsimp only; rw [hssn c (by simpa using hcN)])
    ·
      apply J.reg
      iterate 15 refine runL_step rfl (by simp [look_fam_lt, h1, h2]; rfl) ?_
      simp [runL]
      apply J.cond; simp
      apply J.skip; simp
      have hssn : ∀ c, c < bN n → succ n l (i + 1) c = succ n l i c := by
        intro c hcN
        rw [hss]
        have : ¬ (x = (c : Int) ∧ isT n y = true) := by
          rintro ⟨rfl, hy⟩
          have := (isT_iff _ _).1 hy
          revert h1
          first | (intro h1; split at h1 <;> omega) | (revert h2; intro h2 h1; split at h1 <;> split at h2 <;> omega)
        simp [this]
      refine key hlt _ _ _ (by simp [s20]) ?_ (fun c hcN => by rw [look_famA_at hcN, hssn c hcN])
      simp
      unfold famCells
      exact List.map_congr_left (fun c hcN => by dsimp only; rw [hssn c (by simpa using hcN)])
  ·
    have : i = l.length := by omega
    subst this
    apply J.exit; simp
    apply J.seq
    refine J.le hc (st' := ⟨[(5, .ro 1 (rws (toL n l)))], [], []⟩) (le_retell ?_ ?_ rfl (by simp)) ?_
    · intro p hp
      simp only [List.mem_cons, List.not_mem_nil, or_false] at hp
      subst hp
      refine ⟨_, rfl, ?_⟩
      have hrw : rws (toL n l) = ((toL n l).map fun r => AV.ro 1 (nats r)).map fun x => [x] := by simp [rws]
      rw [hrw]
      refine Re.rows (lo := 0) (n := bN n) (ty := 26) (cs := famCells 30000 1 (fun a => (succ n l l.length a).length) (bN n)) (by simp) rfl (by simp [toL]) (by simp) ?_ ?_
      · intro x hx
        simp only [List.mem_map] at hx
        obtain ⟨r, _, rfl⟩ := hx
        rfl
      · intro i x hx
        have hi : i < bN n := by simpa [toL] using (List.getElem?_eq_some_iff.1 hx).1
        simp [toL, hi] at hx
        subst hx
        simp [famCells_get hi]
        have := Re.row (m := fam 30000 3 1 (fun a => nats (succ n l l.length a)) (bN n) ++ [(20012, .obj 26 (famCells 30000 1 (fun a => (succ n l l.length a).length) (bN n)))]) (m' := []) (b := 30000 + i) (sz := 1) (lo := 0) (n := (succ n l l.length i).length) (ty := 3) (es := nats (succ n l l.length i)) (look_famA_at hi) rfl (by omega) (by simp)
        simpa [List.take_of_length_le] using this
    · simp
    refine J.regE (by simp; rfl) ?_
    simp
    apply J.ret
    refine ⟨by simp, rfl, _, [], by simp [a20R]; rfl, ?_⟩
    simp
theorem toL_length (n : Int) (l : List (Int × Int)) : (toL n l).length = bN n := by simp [toL]
theorem mem_succ {n : Int} {l : List (Int × Int)} {a b : Nat} : b ∈ succ n l l.length a ↔ b < bN n ∧ ((a : Int), (b : Int)) ∈ l := by
  simp only [succ, List.take_length, List.mem_filterMap]
  constructor
  · rintro ⟨⟨x, y⟩, he, h⟩
    split at h
    · rename_i hc
      obtain ⟨rfl, hy⟩ := hc
      obtain ⟨h1, h2⟩ := (isT_iff _ _).1 hy
      injection h with h
      subst h
      refine ⟨by simp only; omega, ?_⟩
      have : ((y.toNat : Nat) : Int) = y := by simp only at h1; omega
      simp only [this]; exact he
    · cases h
  · rintro ⟨hb, he⟩
    refine ⟨_, he, ?_⟩
    rw [if_pos ⟨rfl, (isT_iff _ _).2 ⟨by omega, by omega⟩⟩]
    simp
theorem mem_to {n : Int} {l : List (Int × Int)} {a b : Nat} (ha : a < (toL n l).length) : b ∈ (toL n l)[a] ↔ eN n l a b := by
  have ha' : a < bN n := by rw [← toL_length n l]; exact ha
  simp only [toL, List.getElem_map, List.getElem_range, mem_succ, eN]
  simp [ha']
structure Stk (n : Int) (l : List (Int × Int)) (a : Nat) (seen : List Bool) (stk : List Nat) (i d : Nat) : Prop where
  part : Part n l a seen
  sz : stk.length + unset seen ≤ bN n
  instk : ∀ v ∈ stk, seen.getD v false = true ∧ v < bN n
  done : ∀ u v : Nat, eN n l u v → seen.getD u false = true → u ∉ stk → u ≠ i → seen.getD v false = true
  top : ∀ r, (toL n l)[i]? = some r → ∀ v ∈ r.take d, seen.getD v false = true
  own : i < bN n → seen.getD i false = true
theorem clos_none {n : Int} {l : List (Int × Int)} {a : Int} (h : isT n a = false) : clos n l a = [] := by
  unfold clos fromL pk
  rw [h]
  simp [List.getElem?_replicate]
  intro i hi
  split <;> rfl
theorem mem_clos {n : Int} {l : List (Int × Int)} {a : Int} {v : Nat} : v ∈ clos n l a ↔ v < bN n ∧ isT n a = true ∧ rB n l a.toNat v = true := by
  unfold clos fromL pk
  simp only [List.mem_filter, List.mem_range]
  constructor
  · rintro ⟨h1, h2⟩
    cases h : isT n a
    · rw [h] at h2; simp [List.getElem?_replicate, h1] at h2
    · rw [h] at h2; simp [h1] at h2; exact ⟨h1, rfl, h2⟩
  · rintro ⟨h1, h2, h3⟩
    rw [h2]; simp [h1, h3]
theorem clos_length (n : Int) (l : List (Int × Int)) (a : Int) : (clos n l a).length ≤ 100 := Nat.le_trans (pk_length _ _) (bN_le n)
theorem contains_clos (n : Int) (l : List (Int × Int)) (a b : Int) : decide (∃ y ∈ clos n l a, (y : Int) = b) = reB n l a b := by
  rw [Bool.eq_iff_iff]
  simp only [decide_eq_true_eq, reB, Bool.and_eq_true, mem_clos]
  constructor
  · rintro ⟨y, ⟨h1, h2, h3⟩, rfl⟩
    exact ⟨h2, (isT_iff _ _).2 ⟨by omega, by omega⟩, h3⟩
  · rintro ⟨h1, h2, h3⟩
    obtain ⟨g1, g2⟩ := (isT_iff _ _).1 h2
    exact ⟨b.toNat, ⟨by omega, h1, h3⟩, by omega⟩
theorem getD_set {l : List Bool} {k v : Nat} (h : l.getD v false = true) : (l.set k true).getD v false = true := by
  by_cases e : k = v
  · subst e
    have : k < l.length := by
      rcases Nat.lt_or_ge k l.length with h' | h'
      · exact h'
      · simp [List.getElem?_eq_none h'] at h
    simp [this]
  · simpa [List.getD_eq_getElem?_getD, List.getElem?_set_ne e] using h
theorem Stk.start {n : Int} {l : List (Int × Int)} {a : Nat} (ha : a < bN n) : Stk n l a ((List.replicate (bN n) false).set a true) [a] (bN n) 0 where
  part := Part.start ha
  sz := by
    have := unset_set (out := List.replicate (bN n) false) (v := a) (by simpa using ha) (by simp)
    simp [unset] at this ⊢
    omega
  instk v hv := by
    simp at hv; subst hv
    exact ⟨(Part.start (l := l) ha).own, ha⟩
  done u v he hu hn _ := by
    exfalso; apply hn
    by_cases e : u = a
    · simp [e]
    · simp [List.getD_eq_getElem?_getD, List.getElem?_set_ne (Ne.symm e), List.getElem?_replicate] at hu
      split at hu <;> simp at hu
  top r _ v hv := by simp at hv
  own h := by omega
theorem Stk.pop {n : Int} {l : List (Int × Int)} {a v : Nat} {seen : List Bool} {K : List Nat} (h : Stk n l a seen (K ++ [v]) (bN n) 0) : Stk n l a seen K v 0 where
  part := h.part
  sz := by have := h.sz; simp at this; omega
  instk u hu := h.instk u (by simp [hu])
  done u w he hu hn hv := h.done u w he hu (by simp [hn, hv]) (by have := he.1; omega)
  top r _ w hw := by simp at hw
  own _ := (h.instk v (by simp)).1
theorem Stk.seen {n : Int} {l : List (Int × Int)} {a v j : Nat} {seen : List Bool} {K r : List Nat} (h : Stk n l a seen K v j) (hr : (toL n l)[v]? = some r) (hj : j < r.length) (hs : seen.getD r[j] false = true) : Stk n l a seen K v (j + 1) := by
  refine { h with top := fun r' hr' w hw => ?_ }
  rw [hr] at hr'; injection hr' with hr'; subst hr'
  rw [List.take_add_one, List.getElem?_eq_getElem hj] at hw
  rcases List.mem_append.1 hw with hw | hw
  · exact h.top _ hr w hw
  · simp at hw; rw [hw]; exact hs
theorem Stk.push {n : Int} {l : List (Int × Int)} {a v j : Nat} {seen : List Bool} {K r : List Nat} (h : Stk n l a seen K v j) (hr : (toL n l)[v]? = some r) (hj : j < r.length) (hs : r[j] < seen.length) (h0 : seen[r[j]] = false) : Stk n l a (seen.set r[j] true) (K ++ [r[j]]) v (j + 1) := by
  have hv : v < (toL n l).length := (List.getElem?_eq_some_iff.1 hr).1
  have he : eN n l v r[j] := (mem_to hv).1 (by rw [(List.getElem?_eq_some_iff.1 hr).2]; exact List.getElem_mem hj)
  have hvs : seen.getD v false = true := h.own (by rw [← toL_length n l]; exact hv)
  have hun := unset_set hs h0
  have hmem : ∀ w, (seen.set r[j] true).getD w false = true → w = r[j] ∨ seen.getD w false = true := by
    intro w hw
    by_cases e : w = r[j]
    · exact .inl e
    · right
      simpa [List.getD_eq_getElem?_getD, List.getElem?_set_ne (Ne.symm e)] using hw
  refine ⟨h.part.more hvs he, by have := h.sz; simp; omega, fun w hw => ?_, fun u w hw hu hn hne => ?_, fun r' hr' w hw => ?_, fun hb => getD_set (h.own hb)⟩
  · rcases List.mem_append.1 hw with hw | hw
    · exact ⟨getD_set (h.instk w hw).1, (h.instk w hw).2⟩
    · simp at hw; subst hw; exact ⟨by simp [hs], he.2.1⟩
  · rcases hmem u hu with e | hu'
    · exact absurd (by simp [e]) hn
    · exact getD_set (h.done u w hw hu' (fun hk => hn (by simp [hk])) hne)
  · rw [hr] at hr'; injection hr' with hr'; subst hr'
    rw [List.take_add_one, List.getElem?_eq_getElem hj] at hw
    rcases List.mem_append.1 hw with hw | hw
    · exact getD_set (h.top _ hr w hw)
    · simp at hw; rw [hw]; simp [hs]
theorem Stk.fin {n : Int} {l : List (Int × Int)} {a v : Nat} {seen : List Bool} {K r : List Nat} (h : Stk n l a seen K v r.length) (hr : (toL n l)[v]? = some r) : Stk n l a seen K (bN n) 0 := by
  refine { h with done := fun u w he hu hn _ => ?_, top := fun r' _ w hw => by simp at hw, own := fun hb => by omega }
  by_cases e : u = v
  · subst e
    have hv : u < (toL n l).length := (List.getElem?_eq_some_iff.1 hr).1
    refine h.top r hr w ?_
    rw [List.take_length, ← (List.getElem?_eq_some_iff.1 hr).2, mem_to hv]
    exact he
  · exact h.done u w he hu hn e
theorem Stk.eq {n : Int} {l : List (Int × Int)} {a : Nat} {seen : List Bool} (h : Stk n l a seen [] (bN n) 0) : seen = fromL n l a :=
  h.part.eq (fun u v he hu => h.done u v he hu (by simp) (by have := he.1; omega))
def stK (n : Int) (l : List (Int × Int)) (seen : List Bool) (stk : List Nat) (s : Slots) : St := ⟨(7, .ro 1 (rws (toL n l))) :: (8, .own 15029 1 0 (bN n)) :: (9, .own 15034 1 0 stk.length) :: s, [(15029, .arr 4 1 (bools seen)), (15034, .arr 3 1 (nats stk))], []⟩
def I15 (n : Int) (l : List (Int × Int)) (a : Nat) (m : Nat) (st : St) : Prop := ∃ seen stk, Stk n l a seen stk (bN n) 0 ∧ m = 2 * unset seen + stk.length ∧ st = stK n l seen stk []
def I15b (n : Int) (l : List (Int × Int)) (a v m0 : Nat) (r : List Nat) (m : Nat) (st : St) : Prop := ∃ (seen : List Bool) (stk : List Nat) (j : Nat), j ≤ r.length ∧ Stk n l a seen stk v j ∧ 2 * unset seen + stk.length < m0 ∧ m = r.length - j ∧ st = stK n l seen stk [(52, .ro 1 (nats r)), (53, iv r.length), (54, iv j)]
def I15c (x : List Bool) (m : Nat) (st : St) : Prop := ∃ i : Nat, i ≤ x.length ∧ m = x.length - i ∧ st = ⟨[(13, .own 15082 1 0 (pk x i).length), (71, .ro 1 (bools x)), (72, iv x.length), (73, iv i)], [(15082, .arr 3 1 (nats (pk x i)))], []⟩
theorem c15 : chkFn Try.prog 39 85 3 a15 a15R = true := by kernel_rfl
theorem d15 (n : Int) (l : List (Int × Int)) (a : Int) (hl : l.length ≤ 1000000) : DoesT 39 [iv n, .ro 2 (eds l), iv a] (.ro 1 (nats (clos n l a))) := by
  have hN := bN_le n
  have hNb : ((bN n : Nat) : Int) ≤ 281474976710656 := by omega
  have htl := toL_length n l
  refine Does.of (nt := 85) (ac := a15) (rds := a15R) c15 (fun c hc => ?_)
  unfold a15
  apply J.seq
  refine J.regE (by simp; rfl) ?_
  simp
  apply J.seq
  apply J.reg
  iterate 2 refine runL_step rfl (by simp; rfl) ?_
  refine runL_tree rfl (d20 n l hl) (by simp) hc ?_
  simp
  refine runL_step rfl (by simp; rfl) ?_
  simp [runL]
  apply J.seq
  apply J.seq
  by_cases h0 : a < 0
  rotate_left 1
  by_cases h1 : ((bN n : Nat) : Int) ≤ a
  rotate_left 1
  ·
    apply J.reg
    iterate 8 refine runL_step rfl (by simp [h0, h1, htl]; rfl) ?_
    simp [runL]
    apply J.cond; simp
    apply J.skip; simp
    apply J.seq
    refine J.regE (by simp [htl, hNb, bools_zero]; rfl) ?_
    simp
    apply J.seq
    obtain ⟨a, rfl⟩ := Int.eq_ofNat_of_zero_le (by omega : 0 ≤ a)
    have ha : a < bN n := by omega
    refine J.regE (by simp [ha]; rfl) ?_
    simp
    apply J.seq
    apply J.seq
    refine J.regE (by simp; rfl) ?_
    simp
    have hS := Part.start (l := l) ha
    apply J.block
    refine J.loop hc (I15 n l a) ?_ ?_
    · refine ⟨_, _, ?_, _, [a], Stk.start ha, rfl, rfl⟩
      apply le_sub <;> simp [stK, nats]
    rintro n st ⟨seen, stk, hK, rfl, rfl⟩
    unfold stK
    apply J.seq
    apply J.seq
    refine J.regE (by simp; rfl) ?_
    simp
    apply J.cond; simp
    refine ⟨fun hpos => ?_, fun hpos => ?_⟩
    ·
      obtain ⟨K, v, rfl⟩ : ∃ K v, stk = K ++ [v] := ⟨stk.dropLast, stk.getLast (by intro e; subst e; simp at hpos), (List.dropLast_concat_getLast _).symm⟩
      obtain ⟨hsv, hv⟩ := hK.instk v (by simp)
      have hlen := hK.part.len
      have hsz := hK.sz
      simp at hsz
      have hkl : K.length ≤ 100 := by omega
      have hwk : IntKind.i64.wrap ((K.length : Int)) = K.length := wrap_id (by omega) (by omega)
      have hklt : (K.length : Int) < (K.length : Int) + 1 := by omega
      have hkle : (K.length : Int) ≤ (K.length : Int) + 1 := by omega
      apply J.skip; simp
      apply J.block
      apply J.seq
      refine J.regE (by simp [hwk, hklt]; rfl) ?_
      simp
      apply J.seq
      refine J.regE (by simp [hwk, hkle]; rfl) ?_
      simp
      refine J.le hc (le_trunc (b := 15034) (k := K.length) rfl) ?_
      simp
      apply J.seq
      refine J.regE (by simp [hv, htl]; rfl) ?_
      simp
      have hr : (toL n l)[v]? = some ((toL n l)[v]'(by rw [htl]; exact hv)) := List.getElem?_eq_getElem (by rw [htl]; exact hv)
      have hrs : ∀ x ∈ (toL n l)[v]'(by rw [htl]; exact hv), x < bN n := fun x hx => ((mem_to (by rw [htl]; exact hv)).1 hx).2.1
      have hrl : ((toL n l)[v]'(by rw [htl]; exact hv)).length ≤ 1000000 := by simp only [toL, List.getElem_map, List.getElem_range]; exact Nat.le_trans (succ_length _ _ _ _) hl
      generalize (toL n l)[v]'(by rw [htl]; exact hv) = r at hr hrs hrl ⊢
      apply J.block
      refine J.loop hc (I15b n l a v (2 * unset seen + (K ++ [v]).length) r) ?_ ?_
      · refine ⟨_, _, ?_, seen, K, 0, by omega, hK.pop, by simp, rfl, rfl⟩
        apply le_sub <;> simp [stK]
      rintro n st ⟨seen, stk, j, hj, hK, hm, rfl, rfl⟩
      simp at hm
      unfold stK
      apply J.seq
      refine J.regE (by simp; rfl) ?_
      simp
      apply J.seq
      apply J.cond; simp
      refine ⟨fun hjl => ?_, fun hjl => ?_⟩
      ·
        have hw : IntKind.i64.wrap ((j : Int) + 1) = j + 1 := wrap_id (by omega) (by omega)
        have hk := hrs r[j] (List.getElem_mem hjl)
        have hlen := hK.part.len
        have hks : r[j] < seen.length := by omega
        apply J.skip; simp
        apply J.seq
        apply J.block
        apply J.seq
        refine J.regE (by simp [hjl]; rfl) ?_
        simp
        apply J.seq
        cases h0 : seen[r[j]]
        ·
          refine J.regE (by simp [hk, hks, h0]; rfl) ?_
          simp
          apply J.cond; simp
          apply J.seq
          refine J.regE (by simp [hk, hks]; rfl) ?_
          simp
          have hsz := hK.sz
          refine J.regE (by simp [List.take_of_length_le, show (stk.length + 1) * 8 ≤ 140737488355328 from by omega]; rfl) ?_
          simp
          refine J.regE (by simp [hw]; rfl) ?_
          simp
          refine ⟨_, by omega, _, ?_, seen.set r[j] true, stk ++ [r[j]], j + 1, by omega, hK.push hr hjl hks h0, by have := unset_set hks h0; simp; omega, rfl, rfl⟩
          apply le_sub <;> simp [stK]
        ·
          have hs : seen.getD r[j] false = true := by simp [hks, h0]
          refine J.regE (by simp [hk, hks, h0]; rfl) ?_
          simp
          apply J.cond; simp
          apply J.skip; simp
          refine J.regE (by simp [hw]; rfl) ?_
          simp
          refine ⟨_, by omega, _, ?_, seen, stk, j + 1, by omega, hK.seen hr hjl hs, hm, rfl, rfl⟩
          apply le_sub <;> simp [stK]
      ·
        have : j = r.length := by omega
        subst this
        apply J.exit; simp
        refine ⟨_, hm, _, ?_, seen, stk, hK.fin hr, rfl, rfl⟩
        apply le_sub <;> simp [stK]
    ·
      have hst : stk = [] := by simpa using hpos
      subst hst
      have hsl := hK.part.len
      have hseen := hK.eq
      apply J.exit; simp
      apply J.seq
      refine J.freeze hc 15029 rfl ?_
      have e1 : bN n ≤ seen.length := by omega
      have e2 : List.take (bN n) seen = seen := List.take_of_length_le (by omega)
      simp [e1, e2]
      refine J.regE (by simp; rfl) ?_
      simp
      refine J.nilrow hc 13 15082 3 rfl rfl rfl ?_
      simp
      apply J.seq
      apply J.seq
      refine J.regE (by simp; rfl) ?_
      simp
      rw [hseen]
      apply J.block
      refine J.loop hc (I15c (fromL n l a)) ?_ ?_
      · refine ⟨_, _, ?_, 0, by omega, rfl, rfl⟩
        apply le_sub <;> simp [pk]
      rintro n st ⟨i, hi, rfl, rfl⟩
      apply J.seq
      refine J.regE (by simp; rfl) ?_
      simp
      apply J.seq
      apply J.cond; simp
      refine ⟨fun hlt => ?_, fun hlt => ?_⟩
      ·
        have hfl := fromL_length n l a
        have hw : IntKind.i64.wrap ((i : Int) + 1) = i + 1 := wrap_id (by omega) (by omega)
        have hb := pk_length (fromL n l a) i
        have hget : (fromL n l a).getD i false = (fromL n l a)[i] := by simp [hlt]
        apply J.skip; simp
        apply J.seq
        apply J.block
        apply J.seq
        have hpk := pk_succ (fromL n l a) i
        rw [hget] at hpk
        cases hx : (fromL n l a)[i] <;> simp [hx] at hpk
        ·
          refine J.regE (by simp [hlt, hx]; rfl) ?_
          simp
          apply J.seq
          refine J.regE (by simp; rfl) ?_
          simp
          apply J.cond; simp
          apply J.skip; simp
          refine J.regE (by simp [hw]; rfl) ?_
          simp
          exact ⟨_, by omega, _, by apply le_sub <;> simp [hpk], i + 1, by omega, rfl, rfl⟩
        ·
          refine J.regE (by simp [hlt, hx]; rfl) ?_
          simp
          apply J.seq
          refine J.regE (by simp; rfl) ?_
          simp
          apply J.cond; simp
          refine J.regE (by simp [show ((pk (fromL n l a) i).length + 1) * 8 ≤ 140737488355328 from by omega, List.take_of_length_le]; rfl) ?_
          simp
          refine J.regE (by simp [hw]; rfl) ?_
          simp
          exact ⟨_, by omega, _, by apply le_sub <;> simp [hpk], i + 1, by omega, rfl, rfl⟩
      ·
        have : i = (fromL n l a).length := by omega
        subst this
        apply J.exit; simp
        apply J.seq
        refine J.freeze hc 15082 rfl ?_
        simp
        refine J.regE (by simp; rfl) ?_
        simp
        apply J.ret
        refine ⟨by simp, rfl, _, [], by simp [a15R]; rfl, ?_⟩
        simp [clos, List.take_of_length_le, fromL_length]
  ·
    apply J.reg
    iterate 8 refine runL_step rfl (by simp [h0, htl]; rfl) ?_
    simp [runL]
    apply J.cond; simp
    apply J.seq
    refine J.regE (by simp; rfl) ?_
    simp
    refine J.nilrow hc 6 15082 3 rfl rfl rfl ?_
    simp
    refine J.freeze hc 15082 rfl ?_
    simp
    apply J.ret
    refine ⟨by simp, rfl, _, [], by simp [a15R]; rfl, ?_⟩
    simp [clos_none (n := n) (l := l) (a := a) (by simp [isT]; omega)]
  ·
    apply J.reg
    iterate 8 refine runL_step rfl (by simp [h0, h1, htl]; rfl) ?_
    simp [runL]
    apply J.cond; simp
    apply J.seq
    refine J.regE (by simp; rfl) ?_
    simp
    refine J.nilrow hc 6 15082 3 rfl rfl rfl ?_
    simp
    refine J.freeze hc 15082 rfl ?_
    simp
    apply J.ret
    refine ⟨by simp, rfl, _, [], by simp [a15R]; rfl, ?_⟩
    simp [clos_none (n := n) (l := l) (a := a) (by simp [isT]; omega)]
theorem c17 : chkFn Try.prog 22 15 4 a17 a17R = true := by kernel_rfl
theorem d17 (n : Int) (l : List (Int × Int)) (a b : Int) (hl : l.length ≤ 1000000) : DoesT 22 [iv n, .ro 2 (eds l), iv a, iv b] (bv (reB n l a b)) := by
  refine Does.of (nt := 15) (ac := a17) (rds := a17R) c17 (fun c hc => ?_)
  unfold a17
  apply J.seq
  refine J.regE (by simp; rfl) ?_
  simp
  apply J.seq
  apply J.reg
  iterate 3 refine runL_step rfl (by simp; rfl) ?_
  refine runL_tree rfl (d15 n l a hl) (by simp) hc ?_
  simp
  refine runL_step rfl (by simp; rfl) ?_
  refine runL_tree rfl (d25 (clos n l a) b (by have := clos_length n l a; omega)) (by simp) hc ?_
  simp
  refine runL_step rfl (by simp; rfl) ?_
  simp [runL]
  apply J.ret
  refine ⟨by simp, rfl, _, [], by simp [a17R]; rfl, ?_⟩
  simp [contains_clos]
section
variable (N : Nat) (R : Nat → Nat → Bool)
def elig (tl : List Bool) (k : Nat) : Bool := !tl.getD k false && (List.range N).all fun j => !(R k j && !R j k && !tl.getD j false)
def pick (tl : List Bool) : Option Nat := (List.range N).find? (elig N R tl)
def cls (k : Nat) : List Nat := (List.range N).filter fun j => R k j && R j k
def mark (tl : List Bool) (k : Nat) : List Bool := (List.range N).map fun v => tl.getD v false || (R k v && R v k)
def run : Nat → List Bool → List (List Nat)
  | 0, _ => []
  | f + 1, tl => match pick N R tl with
    | none => []
    | some k => cls N R k :: run f (mark N R tl k)
def rest (tl : List Bool) : List (List Nat) := run N R (unset tl) tl
def comps : List (List Nat) := rest N R (List.replicate N false)
end
section
variable {N : Nat} {R : Nat → Nat → Bool}
theorem elig_iff {tl : List Bool} {k : Nat} : elig N R tl k = true ↔ tl.getD k false = false ∧ ∀ j, j < N → R k j = true → R j k = false → tl.getD j false = true := by
  simp only [elig, Bool.and_eq_true, Bool.not_eq_true', List.all_eq_true, List.mem_range, Bool.and_eq_false_iff, Bool.not_eq_false']
  constructor
  · rintro ⟨h1, h2⟩
    refine ⟨h1, fun j hj ha hb => ?_⟩
    rcases h2 j hj with (h | h) | h
    · rw [ha] at h; cases h
    · rw [hb] at h; cases h
    · exact h
  · rintro ⟨h1, h2⟩
    refine ⟨h1, fun j hj => ?_⟩
    cases ha : R k j
    · exact .inl (.inl rfl)
    · cases hb : R j k
      · exact .inr (h2 j hj ha hb)
      · exact .inl (.inr rfl)
theorem pick_some {tl : List Bool} {k : Nat} : pick N R tl = some k ↔ elig N R tl k = true ∧ k < N ∧ ∀ j, j < k → elig N R tl j = false := by
  unfold pick
  rw [List.find?_range_eq_some]
  simp
theorem pick_none {tl : List Bool} : pick N R tl = none ↔ ∀ k, k < N → elig N R tl k = false := by
  unfold pick
  rw [List.find?_eq_none]
  simp
theorem mark_length (tl : List Bool) (k : Nat) : (mark N R tl k).length = N := by simp [mark]
theorem mark_getD {tl : List Bool} {k v : Nat} (h : v < N) : (mark N R tl k).getD v false = (tl.getD v false || (R k v && R v k)) := by simp [mark, h]
theorem count_le : ∀ (a b : List Bool), a.length = b.length → (∀ v, b.getD v false = false → a.getD v false = false → True) → (∀ v, v < a.length → a.getD v false = true → b.getD v false = true) → b.count false ≤ a.count false
  | [], [], _, _, _ => Nat.le_refl _
  | x :: a, y :: b, hl, _, h => by
    have ih := count_le a b (by simpa using hl) (fun _ _ _ => trivial) (fun v hv hx => by have := h (v + 1) (by simp; omega) (by simpa using hx); simpa using this)
    have h0 := h 0 (by simp)
    simp only [List.count_cons]
    cases x <;> cases y <;> simp at h0 ⊢ <;> omega
  | [], _ :: _, hl, _, _ => by simp at hl
  | _ :: _, [], hl, _, _ => by simp at hl
theorem unset_le {a b : List Bool} (hl : a.length = b.length) (h : ∀ v, v < a.length → a.getD v false = true → b.getD v false = true) : unset b ≤ unset a := count_le a b hl (fun _ _ _ => trivial) h
theorem unset_lt {a b : List Bool} (hl : a.length = b.length) (h : ∀ v, v < a.length → a.getD v false = true → b.getD v false = true) {k : Nat} (hk : k < a.length) (h0 : a.getD k false = false) (h1 : b.getD k false = true) : unset b < unset a := by
  have h2 := unset_set hk (by simpa [hk] using h0)
  have h3 : unset b ≤ unset (a.set k true) := unset_le (by simp [hl]) (fun v hv hx => by
    by_cases e : v = k
    · subst e; exact h1
    · refine h v (by simpa using hv) ?_
      simpa [List.getD_eq_getElem?_getD, List.getElem?_set_ne (Ne.symm e)] using hx)
  omega
theorem unset_mark {tl : List Bool} {k : Nat} (hl : tl.length = N) (hr : R k k = true) (hk : pick N R tl = some k) : unset (mark N R tl k) < unset tl := by
  obtain ⟨h1, h2, _⟩ := pick_some.1 hk
  refine unset_lt (by simp [mark_length, hl]) (fun v hv hx => ?_) (by omega : k < tl.length) (elig_iff.1 h1).1 ?_
  · rw [mark_getD (by omega), hx]; rfl
  · rw [mark_getD h2, hr]; simp
theorem run_eq (hr : ∀ k, R k k = true) : ∀ (f g : Nat) (tl : List Bool), tl.length = N → unset tl ≤ f → unset tl ≤ g → run N R f tl = run N R g tl
  | 0, 0, _, _, _, _ => rfl
  | 0, g + 1, tl, hl, h, _ => by
    simp only [run]
    cases hp : pick N R tl with
    | none => rfl
    | some k => have := unset_mark hl (hr k) hp; omega
  | f + 1, 0, tl, hl, _, h => by
    simp only [run]
    cases hp : pick N R tl with
    | none => rfl
    | some k => have := unset_mark hl (hr k) hp; omega
  | f + 1, g + 1, tl, hl, h1, h2 => by
    simp only [run]
    cases hp : pick N R tl with
    | none => rfl
    | some k =>
      have := unset_mark hl (hr k) hp
      simp only
      rw [run_eq hr f g _ (mark_length _ _) (by omega) (by omega)]
theorem rest_some (hr : ∀ k, R k k = true) {tl : List Bool} (hl : tl.length = N) {k : Nat} (hk : pick N R tl = some k) : rest N R tl = cls N R k :: rest N R (mark N R tl k) := by
  have h := unset_mark hl (hr k) hk
  unfold rest
  obtain ⟨f, hf⟩ : ∃ f, unset tl = f + 1 := ⟨unset tl - 1, by omega⟩
  rw [hf]
  simp only [run, hk]
  rw [run_eq hr f _ _ (mark_length _ _) (by omega) (Nat.le_refl _)]
theorem rest_none {tl : List Bool} (hk : pick N R tl = none) : rest N R tl = [] := by
  unfold rest
  cases unset tl <;> simp [run, hk]
def Shut (N : Nat) (R : Nat → Nat → Bool) (tl : List Bool) : Prop := ∀ v w, v < N → w < N → tl.getD v false = true → R v w = true → tl.getD w false = true
theorem Shut.start : Shut N R (List.replicate N false) := fun v w hv _ h => by simp [List.getElem?_replicate, hv] at h
def size (N : Nat) (R : Nat → Nat → Bool) (k : Nat) : Nat := (List.range N).countP (R k)
theorem size_lt (ht : ∀ a b c, R a b = true → R b c = true → R a c = true) (hr : ∀ a, R a a = true) {k j : Nat} (hk : k < N) (h1 : R k j = true) (h2 : R j k = false) : size N R j < size N R k := by
  unfold size
  have key : ∀ l : List Nat, l.countP (R j) ≤ l.countP (R k) := fun l => List.countP_mono_left (fun x _ hx => ht _ _ _ h1 hx)
  have hs : List.range N = (List.range N).take k ++ k :: (List.range N).drop (k + 1) := by
    have := List.take_append_drop k (List.range N)
    rw [List.drop_eq_getElem_cons (by simpa using hk)] at this
    simpa using this.symm
  rw [hs, List.countP_append, List.countP_append, List.countP_cons, List.countP_cons]
  have := key ((List.range N).take k)
  have := key ((List.range N).drop (k + 1))
  rw [h2, hr k]
  simp only [Bool.false_eq_true, if_false, if_true]
  omega
theorem pick_exists (ht : ∀ a b c, R a b = true → R b c = true → R a c = true) (hr : ∀ a, R a a = true) {tl : List Bool} : ∀ (s : Nat) (v : Nat), v < N → tl.getD v false = false → size N R v ≤ s → ∃ k, pick N R tl = some k
  | s, v, hv, h0, hs => by
    cases hp : pick N R tl with
    | some k => exact ⟨k, rfl⟩
    | none =>
      exfalso
      have hn := pick_none.1 hp v hv
      have : ¬ ∀ j, j < N → R v j = true → R j v = false → tl.getD j false = true := fun h => by
        rw [elig_iff.2 ⟨h0, h⟩] at hn; cases hn
      have : ∃ j, j < N ∧ R v j = true ∧ R j v = false ∧ tl.getD j false = false := by
        refine Classical.byContradiction (fun hne => this (fun j hj h1 h2 => ?_))
        cases h3 : tl.getD j false
        · exact absurd ⟨j, hj, h1, h2, h3⟩ hne
        · rfl
      obtain ⟨j, hj, h1, h2, h3⟩ := this
      have hlt := size_lt ht hr hv h1 h2
      cases s with
      | zero => omega
      | succ s =>
        obtain ⟨k, hk⟩ := pick_exists ht hr s j hj h3 (by omega)
        rw [hp] at hk; cases hk
end
theorem rB_refl (n : Int) (l : List (Int × Int)) (a : Nat) : rB n l a a = true := rB_iff.2 (.refl a)
theorem rB_trans (n : Int) (l : List (Int × Int)) (a b c : Nat) (h1 : rB n l a b = true) (h2 : rB n l b c = true) : rB n l a c = true := rB_iff.2 ((rB_iff.1 h1).trans (rB_iff.1 h2))
noncomputable def compsL (n : Int) (l : List (Int × Int)) : List (List Nat) := comps (bN n) (rB n l)
def okE (of : List Nat) (tc : List Bool) (c k : Nat) : Bool := of.getD k 0 - 1 == c || tc.getD (of.getD k 0 - 1) false
def frB (P to : List (List Nat)) (of : List Nat) (tc : List Bool) (c : Nat) : Bool := (P.getD c []).all fun i => (to.getD i []).all (okE of tc c)
def s22 (P to : List (List Nat)) (of : List Nat) (tc : List Bool) (cc : Nat) (r : List Nat) (i : Nat) : Slots := [(0, iv cc), (2, .rop 1 [[.ro 1 (rws to)]] 0 0), (3, .rop 1 [[.ro 1 (nats of)]] 0 0), (4, .rop 1 [[.ro 1 (bools tc)]] 0 0), (14, .ro 1 (nats r)), (15, iv r.length), (16, iv i)]
def I22 (P to : List (List Nat)) (of : List Nat) (tc : List Bool) (cc : Nat) (r : List Nat) (m : Nat) (st : St) : Prop := ∃ i : Nat, i ≤ r.length ∧ (∀ j (h : j < r.length), j < i → (to.getD r[j] []).all (okE of tc cc) = true) ∧ m = r.length - i ∧ st = ⟨s22 P to of tc cc r i, [], []⟩
def I22b (P to : List (List Nat)) (of : List Nat) (tc : List Bool) (cc : Nat) (r : List Nat) (i : Nat) (q : List Nat) (m : Nat) (st : St) : Prop := ∃ k : Nat, k ≤ q.length ∧ (∀ j (h : j < q.length), j < k → okE of tc cc q[j] = true) ∧ m = q.length - k ∧ st = ⟨s22 P to of tc cc r i ++ [(23, .ro 1 (nats q)), (24, iv q.length), (25, iv k)], [], []⟩
theorem c22 : chkFn Try.prog 51 49 1 a22 a22R = true := by kernel_rfl
theorem d22 (P to : List (List Nat)) (of : List Nat) (tc : List Bool) (cc : Nat) (hc0 : cc < P.length) (hP : ∀ r ∈ P, r.length ≤ 1000000 ∧ ∀ i ∈ r, i < to.length) (hto : ∀ r ∈ to, r.length ≤ 1000000 ∧ ∀ k ∈ r, k < of.length) (hof : ∀ x ∈ of, 1 ≤ x ∧ x ≤ tc.length ∧ x ≤ 1000000) : DoesT 51 [iv cc, .rop 1 [[.ro 1 (rws P)]] 0 0, .rop 1 [[.ro 1 (rws to)]] 0 0, .rop 1 [[.ro 1 (nats of)]] 0 0, .rop 1 [[.ro 1 (bools tc)]] 0 0] (bv (frB P to of tc cc)) := by
  have hfr : frB P to of tc cc = (P[cc]).all fun i => (to.getD i []).all (okE of tc cc) := by simp [frB, hc0]
  have hPr := hP _ (List.getElem_mem hc0)
  rw [hfr]
  refine Does.of (nt := 49) (ac := a22) (rds := a22R) c22 (fun c hc => ?_)
  unfold a22
  apply J.seq
  refine J.regE (by simp; rfl) ?_
  simp
  apply J.seq
  apply J.seq
  refine J.regE (by simp [hc0]; rfl) ?_
  simp
  generalize P[cc] = r at hPr ⊢
  apply J.block
  refine J.loop hc (I22 P to of tc cc r) ?_ ?_
  · refine ⟨_, _, ?_, 0, by omega, (fun j _ h => by omega), rfl, rfl⟩
    apply le_sub <;> simp [s22]
  rintro n st ⟨i, hi, hdone, rfl, rfl⟩
  unfold s22
  apply J.seq
  refine J.regE (by simp; rfl) ?_
  simp
  apply J.seq
  apply J.cond; simp
  refine ⟨fun hlt => ?_, fun hlt => ?_⟩
  ·
    have hwi : IntKind.i64.wrap ((i : Int) + 1) = i + 1 := wrap_id (by omega) (by omega)
    have hit : r[i] < to.length := hPr.2 _ (List.getElem_mem hlt)
    have hget : to.getD r[i] [] = to[r[i]] := by simp [hit]
    have hqr := hto _ (List.getElem_mem hit)
    apply J.skip; simp
    apply J.seq
    apply J.block
    apply J.seq
    refine J.regE (by simp [hlt]; rfl) ?_
    simp
    apply J.seq
    refine J.regE (by simp [hit]; rfl) ?_
    simp
    generalize to[r[i]] = q at hqr hget ⊢
    apply J.block
    refine J.loop hc (I22b P to of tc cc r i q) ?_ ?_
    · refine ⟨_, _, ?_, 0, by omega, (fun j _ h => by omega), rfl, rfl⟩
      apply le_sub <;> simp [s22]
    rintro n st ⟨k, hk, hq, rfl, rfl⟩
    unfold s22
    simp
    apply J.seq
    refine J.regE (by simp; rfl) ?_
    simp
    apply J.seq
    apply J.cond; simp
    refine ⟨fun hkl => ?_, fun hkl => ?_⟩
    ·
      have hwk : IntKind.i64.wrap ((k : Int) + 1) = k + 1 := wrap_id (by omega) (by omega)
      have hko : q[k] < of.length := hqr.2 _ (List.getElem_mem hkl)
      obtain ⟨o1, o2, o3⟩ := hof _ (List.getElem_mem hko)
      have ho : okE of tc cc q[k] = (of[q[k]] - 1 == cc || tc.getD (of[q[k]] - 1) false) := by simp [okE, hko]
      apply J.skip; simp
      apply J.seq
      apply J.block
      apply J.seq
      refine J.regE (by simp [hkl]; rfl) ?_
      simp
      apply J.seq
      obtain ⟨x, hx⟩ : ∃ x, of[q[k]] = x + 1 := ⟨of[q[k]] - 1, by omega⟩
      rw [hx] at ho o1 o2 o3
      have hwx : IntKind.i64.wrap (x : Int) = x := wrap_id (by omega) (by omega)
      have hxt : x < tc.length := by omega
      have htg : tc.getD x false = tc[x] := by simp [hxt]
      rw [show x + 1 - 1 = x by omega, htg] at ho
      rcases (show x = cc ∨ (¬ x = cc ∧ tc[x] = true) ∨ (¬ x = cc ∧ tc[x] = false) by by_cases e : x = cc; exact .inl e; cases tc[x] <;> simp [e]) with e | ⟨e, e2⟩ | ⟨e, e2⟩
      ·
        have hwc : IntKind.i64.wrap (cc : Int) = cc := by rw [← e]; exact hwx
        apply J.draw; intro c' hc'
        iterate 18 refine runP_stepQ (by simp [hko, hx, hwc, hxt, e]; rfl) ?_
        simp [runP]
        apply J.cond; simp
        have hok : okE of tc cc q[k] = true := by rw [ho]; simp [e]
        apply J.skip; simp
        refine J.regE (by simp [hwk]; rfl) ?_
        simp
        refine ⟨_, ?_, _, ?_, k + 1, by omega, fun j h hj => ?_, rfl, rfl⟩
        · omega
        · apply le_sub <;> simp [s22]
        · by_cases e : j = k
          · subst e; exact hok
          · exact hq j h (by omega)
      ·
        have eI : ¬ (x : Int) = cc := by omega
        apply J.draw; intro c' hc'
        iterate 18 refine runP_stepQ (by simp [hko, hx, hwx, hxt, eI, e2]; rfl) ?_
        simp [runP]
        apply J.cond; simp
        have hok : okE of tc cc q[k] = true := by rw [ho]; simp [e2]
        apply J.skip; simp
        refine J.regE (by simp [hwk]; rfl) ?_
        simp
        refine ⟨_, ?_, _, ?_, k + 1, by omega, fun j h hj => ?_, rfl, rfl⟩
        · omega
        · apply le_sub <;> simp [s22]
        · by_cases e : j = k
          · subst e; exact hok
          · exact hq j h (by omega)
      ·
        have eI : ¬ (x : Int) = cc := by omega
        apply J.draw; intro c' hc'
        iterate 18 refine runP_stepQ (by simp [hko, hx, hwx, hxt, eI, e2]; rfl) ?_
        simp [runP]
        apply J.cond; simp
        have hok : okE of tc cc q[k] = false := by rw [ho]; simp [e, e2]
        apply J.seq
        refine J.regE (by simp; rfl) ?_
        simp
        apply J.ret
        refine ⟨by simp, rfl, _, [], by simp [a22R]; rfl, ?_⟩
        simp
        refine ⟨r[i], List.getElem_mem hlt, ?_⟩
        rw [← List.getD_eq_getElem?_getD, hget]
        exact ⟨q[k], List.getElem_mem hkl, hok⟩
    ·
      have : k = q.length := by omega
      subst this
      apply J.exit; simp
      refine J.regE (by simp [hwi]; rfl) ?_
      simp
      refine ⟨_, ?_, _, ?_, i + 1, by omega, fun j h hj => ?_, rfl, rfl⟩
      · omega
      · apply le_sub <;> simp [s22]
      · by_cases e : j = i
        · subst e; rw [hget]; exact List.all_eq_true.2 (fun x hx => by obtain ⟨j, hj, rfl⟩ := List.mem_iff_getElem.1 hx; exact hq j hj hj)
        · exact hdone j h (by omega)
  ·
    have : i = r.length := by omega
    subst this
    apply J.exit; simp
    apply J.seq
    refine J.regE (by simp; rfl) ?_
    simp
    apply J.ret
    refine ⟨by simp, rfl, _, [], by simp [a22R]; rfl, ?_⟩
    simp
    intro x hx
    obtain ⟨j, hj, rfl⟩ := List.mem_iff_getElem.1 hx
    have := hdone j hj hj
    simpa using this
theorem c28 : chkFn Try.prog 61 19 2 a28 a28R = true := by kernel_rfl
theorem c29 : chkFn Try.prog 89 44 2 a29 a29R = true := by kernel_rfl
theorem c30 : chkFn Try.prog 90 66 2 a30 a30R = true := by kernel_rfl
abbrev rows (l : List (List Nat)) : List (List AV) := l.map fun r => [.ro 1 (nats r)]
def memS (to : List (List Nat)) (order low opn of : List Nat) (many at_ : Nat) : Mem :=
  [(1, .obj 83 [.ro 1 (rows to), .own 2 1 0 order.length, .own 3 1 0 low.length, .own 4 1 0 opn.length, .own 5 1 0 of.length, iv many, iv at_]),
    (2, .arr 3 1 (nats order)), (3, .arr 3 1 (nats low)), (4, .arr 3 1 (nats opn)), (5, .arr 3 1 (nats of))]
def index : List Nat → Nat → Nat → Option Nat
  | [], _, _ => none
  | y :: r, x, n => if x = y then some n else index r x (n + 1)
theorem d28 (l : List Nat) (x : Nat) (h : l.length < 1000000) : Does Try.prog 61 [.ro 1 (nats l), iv x] [] [] (fun r m => m = [] ∧ r = iv (match index l x 0 with | some i => i | none => -1)) := by
  refine Does.of (nt := 19) (ac := a28) (rds := a28R) c28 (fun c hc => ?_)
  unfold a28
  apply J.seq; refine J.regE (by simp; rfl) ?_
  simp
  apply J.seq; apply J.seq; refine J.regE (by simp; rfl) ?_
  simp
  apply J.block
  refine J.loop hc (fun n st => ∃ i : Nat, i ≤ l.length ∧ n = l.length - i ∧ index l x 0 = index (l.drop i) x i ∧ st = ⟨[(0, .ro 1 (nats l)), (1, iv x), (7, iv l.length), (8, iv i)], [], []⟩) ?_ ?_
  · exact ⟨_, _, St.le_refl _, 0, by simp, rfl, by simp, by simp⟩
  · rintro n st ⟨i, hi, rfl, hx, rfl⟩
    apply J.seq; refine J.regE (by simp; rfl) ?_
    simp
    apply J.seq
    apply J.cond; simp
    refine ⟨fun hb => ?_, fun hb => ?_⟩
    · have hw : IntKind.i64.wrap ((i : Int) + 1) = i + 1 := wrap_id (by omega) (by omega)
      apply J.skip
      apply J.seq; apply J.block
      apply J.seq; refine J.regE (by simp; rfl) ?_
      simp
      apply J.seq; refine J.regE (by simp [hb]; rfl) ?_
      simp
      apply J.cond; simp
      refine ⟨fun he => ?_, fun he => ?_⟩
      · have hf : index l x 0 = some i := by rw [hx, List.drop_eq_getElem_cons hb]; simp [index]; omega
        apply J.seq; refine J.regE (by simp; rfl) ?_
        simp
        apply J.ret
        refine ⟨by simp, rfl, _, [], by simp [a28R]; rfl, ?_⟩
        simp [hf]
      · have hf : index l x 0 = index (l.drop (i + 1)) x (i + 1) := by rw [hx, List.drop_eq_getElem_cons hb]; simp [index]; omega
        apply J.skip; simp
        refine J.regE (by simp [hw]; rfl) ?_
        simp
        exact ⟨_, by omega, _, St.le_refl _, i + 1, by omega, rfl, hf, by simp⟩
    · have : i = l.length := by omega
      subst this
      apply J.exit; simp
      apply J.seq; refine J.regE (by simp; rfl) ?_
      simp
      apply J.ret
      refine ⟨by simp, rfl, _, [], by simp [a28R]; rfl, ?_⟩
      simp [hx, index]
theorem d29 (to : List (List Nat)) (order low opn of : List Nat) (many at_ i : Nat) (hi : i < order.length) (hl : i < low.length) (h1 : at_ < 1000) (h2 : opn.length < 1000) :
    Does Try.prog 89 [.ptr 1 0 0 0, iv i] (memS to order low opn of many at_) [1, 2, 3, 5] (fun r m => r = .agg [iv i, iv 0] ∧ m = memS to (order.set i (at_ + 1)) (low.set i (at_ + 1)) (opn ++ [i]) of many (at_ + 1)) := by
  refine Does.of (nt := 44) (ac := a29) (rds := a29R) c29 (fun c hc => ?_)
  unfold a29 memS
  have hw : IntKind.i64.wrap ((at_ : Int) + 1) = at_ + 1 := wrap_id (by omega) (by omega)
  have hb : (opn.length + 1) * 8 ≤ 140737488355328 := by omega
  apply J.seq; refine J.regE (by simp; rfl) ?_
  simp
  apply J.seq; refine J.regE (by simp [hw]; rfl) ?_
  simp
  apply J.seq; refine J.drawE (by simp [hi, hl]; rfl) ?_
  simp
  apply J.seq; refine J.regE (by simp [hb, List.take_of_length_le]; rfl) ?_
  simp
  apply J.seq; refine J.regE (by simp; rfl) ?_
  simp
  apply J.ret
  refine ⟨by simp, rfl, _, memS to (order.set i (at_ + 1)) (low.set i (at_ + 1)) (opn ++ [i]) of many (at_ + 1), by simp [a29R]; rfl, ?_⟩
  simp [memS]
theorem index_eq : ∀ (l : List Nat) (x n : Nat), x ∈ l → index l x n = some (n + l.idxOf x)
  | y :: r, x, n, h => by
    simp only [index]
    by_cases e : x = y
    · subst e; simp
    · have e2 : (y == x) = false := by simpa using Ne.symm e
      rw [if_neg e, index_eq r x (n + 1) (by simpa [e] using h), List.idxOf_cons, e2]
      simp; omega
def tell (of l : List Nat) (v : Nat) : List Nat := l.foldl (fun o j => o.set j v) of
@[simp] theorem tell_length (v : Nat) : ∀ (l of : List Nat), (tell of l v).length = of.length
  | [], _ => rfl
  | j :: r, of => by simp only [tell, List.foldl_cons]; exact (tell_length v r _).trans (by simp)
theorem tell_snoc (of l : List Nat) (j v : Nat) : tell of (l ++ [j]) v = (tell of l v).set j v := by simp [tell]
theorem d30 (to : List (List Nat)) (order low opn of : List Nat) (many at_ i : Nat) (hi : i < order.length) (hl : i < low.length) (hio : i < of.length) (h1 : many < 1000) (h2 : opn.length < 1000) (hin : i ∈ opn) (hop : ∀ x ∈ opn, x < of.length) :
    Does Try.prog 90 [.ptr 1 0 0 0, iv i] (memS to order low opn of many at_) [1, 2, 3, 4, 5] (fun r m => r = .tup [] ∧ m = if low[i] < order[i] then memS to order low opn of many at_ else
      memS to order low (opn.take (opn.idxOf i)) (tell of (opn.drop (opn.idxOf i)) (many + 1)) (many + 1) at_) := by
  refine Does.of (nt := 66) (ac := a30) (rds := a30R) c30 (fun c hc => ?_)
  unfold a30 memS
  have hw : IntKind.i64.wrap ((many : Int) + 1) = many + 1 := wrap_id (by omega) (by omega)
  apply J.seq; apply J.seq; refine J.drawE (by simp [hi, hl]; rfl) ?_
  simp
  apply J.cond; simp
  refine ⟨fun hlt => ?_, fun hlt => ?_⟩
  · apply J.ret
    refine ⟨by simp, rfl, _, memS to order low opn of many at_, by simp [a30R]; rfl, ?_⟩
    simp [memS, hlt]
  apply J.skip; simp
  apply J.seq; refine J.regE (by simp [hw]; rfl) ?_
  simp
  apply J.seq; refine J.regC (by simp; exact ⟨rfl, rfl⟩) ?_
  refine runL_view (le_freeze _ 4 rfl) (stF := St.freeze _ 4) rfl ?_ (d28 opn i (by omega)) ?_ ?_
  · simp [St.freeze, frz]
  · simp
  rintro rv m ⟨rfl, rfl⟩
  refine ⟨rfl, rfl, ?_⟩
  refine runL_end (by simp; rfl) ?_
  have hk : opn.idxOf i < opn.length := List.idxOf_lt_length_of_mem hin
  generalize hkk : opn.idxOf i = k at hk
  simp only [index_eq opn i 0 hin, hkk, Nat.zero_add]
  apply J.seq; apply J.seq; refine J.regE (by simp [show ((k : Nat) : Int) ≤ (opn.length : Int) from by omega]; rfl) ?_
  simp
  apply J.block
  refine J.loop hc (fun n st => ∃ j : Nat, j ≤ opn.length - k ∧ n = opn.length - k - j ∧ st = ⟨[(0, .ptr 1 0 0 0), (4, iv k), (40, .own 4 1 k (opn.length - k)), (41, iv (opn.length - k : Nat)), (42, iv j)],
    memS to order low opn (tell of ((opn.drop k).take j) (many + 1)) (many + 1) at_, [1, 2, 3, 4, 5]⟩) ?_ ?_
  · refine ⟨_, _, St.le_refl _, 0, by simp, rfl, ?_⟩
    simp [memS, tell]
  · rintro n st ⟨j, hj, rfl, rfl⟩
    have hel : (tell of ((opn.drop k).take j) (many + 1)).length = of.length := tell_length _ _ _
    unfold memS
    apply J.seq; refine J.regE (by simp; rfl) ?_
    simp
    apply J.seq; apply J.cond; simp
    refine ⟨fun hb => ?_, fun hb => ?_⟩
    · have hwj : IntKind.i64.wrap ((j : Int) + 1) = j + 1 := wrap_id (by omega) (by omega)
      have hkj : k + j < opn.length := by omega
      have hx : opn[k + j] < of.length := hop _ (List.getElem_mem _)
      apply J.skip; simp
      apply J.seq; apply J.block
      apply J.seq; refine J.regE (by simp [hb, hkj]; rfl) ?_
      simp
      refine J.drawE (by simp [hx, hel]; rfl) ?_
      simp
      refine J.regE (by simp [hwj]; rfl) ?_
      simp
      refine ⟨_, ?_, _, St.le_refl _, j + 1, by omega, rfl, ?_⟩
      · omega
      · have : (opn.drop k).take (j + 1) = (opn.drop k).take j ++ [opn[k + j]] := by
          rw [List.take_add_one, List.getElem?_drop, List.getElem?_eq_getElem hkj]; rfl
        simp [this, tell_snoc]
    · have : j = opn.length - k := by omega
      subst this
      have ht : (opn.drop k).take (opn.length - k) = opn.drop k := List.take_of_length_le (by simp)
      apply J.exit; simp
      refine J.le hc (le_trunc (b := 4) (k := k) rfl) ?_
      simp
      refine J.regE (by simp [show ((k : Nat) : Int) ≤ (opn.length : Int) from by omega]; rfl) ?_
      refine ⟨by simp, rfl, _, memS to order low (opn.take k) (tell of (opn.drop k) (many + 1)) (many + 1) at_, by simp [a30R]; rfl, ?_⟩
      simp [memS, ht, show min k opn.length = k from by omega, Nat.not_lt.2 hlt]
theorem c27 : chkFn Try.prog 67 157 2 a27 a27R = true := by kernel_rfl
def ix (l : List Nat) (v : Nat) : Nat := l.getD v 0
theorem ix_get {l : List Nat} {v : Nat} (h : v < l.length) : ix l v = l[v] := by simp [ix, h]
theorem ix_set {l : List Nat} {k : Nat} (x : Nat) (h : k < l.length) : ix (l.set k x) = T.upd (ix l) k x := by
  funext v
  unfold ix T.upd
  by_cases e : v = k
  · subst e; simp [h]
  · rw [if_neg e]; simp [List.getD, List.getElem?_set_ne (Ne.symm e)]
theorem ix_tell (x : Nat) : ∀ (C of : List Nat), (∀ y ∈ C, y < of.length) → ix (tell of C x) = fun y => if y ∈ C then x else ix of y
  | [], of, _ => by funext y; simp [tell]
  | k :: C, of, h => by
    have h1 := ix_tell x C (of.set k x) (fun y hy => by simpa using h y (by simp [hy]))
    have h2 : tell of (k :: C) x = tell (of.set k x) C x := rfl
    rw [h2, h1, ix_set x (h k (by simp))]
    funext y
    by_cases e : y ∈ C
    · simp [e]
    · by_cases e2 : y = k
      · subst e2; simp [T.upd]
      · simp [e, e2, T.upd]
def prs (l : List (Nat × Nat)) : List (List AV) := l.map fun p => [iv (p.1 : Int), iv (p.2 : Int)]
@[simp] theorem prs_length (l : List (Nat × Nat)) : (prs l).length = l.length := by simp [prs]
@[simp] theorem prs_getElem (l : List (Nat × Nat)) (i : Nat) (h : i < (prs l).length) : (prs l)[i] = [iv ((l[i]'(by simpa using h)).1 : Int), iv ((l[i]'(by simpa using h)).2 : Int)] := by simp [prs]
theorem prs_last (K : List (Nat × Nat)) (v e : Nat) : (prs (K.reverse ++ [(v, e)])).set K.length [iv (v : Int), iv ((e : Int) + 1)] = prs (K.reverse ++ [(v, e + 1)]) := by
  simp [prs, List.set_append]
def rw_ (to : List (List Nat)) (v : Nat) : List Nat := to.getD v []
structure Good (to : List (List Nat)) (order low opn of : List Nat) (many at_ : Nat) (K : List (Nat × Nat)) : Prop where
  inv : T.Inv to.length (rw_ to) (ix order) (ix low) (ix of) opn many at_ K
  lo : order.length = to.length
  ll : low.length = to.length
  lf : of.length = to.length
  cnt : order.count 0 + at_ = to.length
  small : to.length ≤ 100
  deg : ∀ r ∈ to, r.length < 1000000
  kl : K.length ≤ at_
theorem Good.at_le {to : List (List Nat)} {order low opn of : List Nat} {many at_ : Nat} {K : List (Nat × Nat)} (h : Good to order low opn of many at_ K) : at_ ≤ 100 := by
  have := h.cnt; have := h.small; omega
theorem Good.bounds {to : List (List Nat)} {order low opn of : List Nat} {many at_ : Nat} {K : List (Nat × Nat)} (h : Good to order low opn of many at_ K) : many + opn.length ≤ 100 := by
  have := h.inv.many_le; have := h.at_le; omega
theorem Good.opn_lt {to : List (List Nat)} {order low opn of : List Nat} {many at_ : Nat} {K : List (Nat × Nat)} (h : Good to order low opn of many at_ K) : ∀ x ∈ opn, x < to.length :=
  fun x hx => h.inv.dom x ((h.inv.opn_iff x).1 hx).1
def left_ (to : List (List Nat)) (at_ : Nat) (K : List (Nat × Nat)) : Nat :=
  (to.length - at_) * ((to.map List.length).sum + 2) + (K.map fun p => (rw_ to p.1).length - p.2).sum + K.length
theorem le_sum : ∀ {l : List Nat} {x : Nat}, x ∈ l → x ≤ l.sum
  | y :: r, x, h => by
    rw [List.sum_cons]
    rcases List.mem_cons.1 h with rfl | h
    · omega
    · have := le_sum h; omega
theorem deg_le (to : List (List Nat)) (v : Nat) : (rw_ to v).length ≤ (to.map List.length).sum := by
  unfold rw_
  rcases Nat.lt_or_ge v to.length with h | h
  · simp only [List.getD_eq_getElem?_getD, List.getElem?_eq_getElem h, Option.getD_some]
    exact le_sum (List.mem_map_of_mem (List.getElem_mem h))
  · simp [List.getElem?_eq_none h]
def stO (to : List (List Nat)) (order low opn of : List Nat) (many at_ : Nat) (K : List (Nat × Nat)) : St :=
  ⟨[(0, .ptr 1 0 0 0), (4, .own 27012 2 0 K.length)], memS to order low opn of many at_ ++ [(27012, .arr 105 2 (prs K.reverse))], [1, 2, 3, 5]⟩
def Done (to : List (List Nat)) (order : List Nat) (i : Nat) (r : AV) (m : Mem) : Prop :=
  r = .tup [] ∧ ∃ order' low' of' many' at', Good to order' low' [] of' many' at' [] ∧ m = memS to order' low' [] of' many' at' ∧ ix order' i ≠ 0 ∧ ∀ v, ix order v ≠ 0 → ix order' v ≠ 0
theorem count_set (l : List Nat) (k x : Nat) (hk : k < l.length) (h0 : l[k] = 0) (hx : x ≠ 0) : (l.set k x).count 0 + 1 = l.count 0 := by
  have h1 : 0 < l.count 0 := List.count_pos_iff.2 (h0 ▸ List.getElem_mem hk)
  rw [List.count_set hk]
  simp [h0, hx]
  omega
theorem Good.begin {to : List (List Nat)} {order low opn of : List Nat} {many at_ : Nat} {K K' : List (Nat × Nat)} (h : Good to order low opn of many at_ K) {k : Nat} (hk : k < to.length) (h0 : ix order k = 0)
    (hi : T.Inv to.length (rw_ to) (T.upd (ix order) k (at_ + 1)) (T.upd (ix low) k (at_ + 1)) (ix of) (opn ++ [k]) many (at_ + 1) K') (hkl : K'.length ≤ at_ + 1) : Good to (order.set k (at_ + 1)) (low.set k (at_ + 1)) (opn ++ [k]) of many (at_ + 1) K' where
  inv := by rw [ix_set _ (by rw [h.lo]; exact hk), ix_set _ (by rw [h.ll]; exact hk)]; exact hi
  lo := by simp [h.lo]
  ll := by simp [h.ll]
  lf := h.lf
  cnt := by
    have hko : k < order.length := by rw [h.lo]; exact hk
    have := count_set order k (at_ + 1) hko (by rw [← ix_get hko]; exact h0) (by omega)
    have := h.cnt
    omega
  small := h.small
  deg := h.deg
  kl := hkl
theorem ite_min (a b : Nat) : (if a < b then (a : Int) else (b : Int)) = ((min b a : Nat) : Int) := by
  split
  · rw [Nat.min_eq_right (by omega)]
  · rw [Nat.min_eq_left (by omega)]
theorem Good.edge {to : List (List Nat)} {order low opn of : List Nat} {many at_ v e : Nat} {K : List (Nat × Nat)} (h : Good to order low opn of many at_ ((v, e) :: K)) (hv : v < to.length) (he : e < to[v].length) (hk : to[v][e] < to.length) (hz : order[to[v][e]]'(by rw [h.lo]; exact hk) ≠ 0) :
    Good to order (if of[to[v][e]]'(by rw [h.lf]; exact hk) = 0 then low.set v (min (low[v]'(by rw [h.ll]; exact hv)) (order[to[v][e]]'(by rw [h.lo]; exact hk))) else low) opn of many at_ ((v, e + 1) :: K) := by
  have hrw : rw_ to v = to[v] := by simp [rw_, hv]
  have hvl : v < low.length := by rw [h.ll]; exact hv
  have hko : to[v][e] < order.length := by rw [h.lo]; exact hk
  have hkf : to[v][e] < of.length := by rw [h.lf]; exact hk
  have h1 : (rw_ to v)[e]'(by rw [hrw]; exact he) = to[v][e] := by simp [hrw]
  have := h.inv.edge (by rw [hrw]; exact he) (by rw [h1, ix_get hko]; exact hz)
  rw [h1, ix_get hkf, ix_get hko, ix_get hvl] at this
  refine { h with inv := ?_, ll := ?_, kl := h.kl }
  · split
    · rename_i hf; rw [if_pos hf] at this; rw [ix_set _ hvl]; exact this
    · rename_i hf; rw [if_neg hf] at this; exact this
  · split <;> simp [h.ll]
theorem prs_snoc (l : List (Nat × Nat)) (k : Nat) : prs l ++ [[iv (k : Int), iv 0]] = prs (l ++ [(k, 0)]) := by simp [prs]
theorem left_push {to : List (List Nat)} {at_ k v d e : Nat} {K : List (Nat × Nat)} (h : at_ < to.length) (hd : d ≤ e) (he : e < (rw_ to v).length) : left_ to (at_ + 1) ((k, 0) :: (v, e + 1) :: K) < left_ to at_ ((v, d) :: K) := by
  unfold left_
  have h1 := deg_le to k
  obtain ⟨q, hq⟩ : ∃ q, to.length - at_ = q + 1 := ⟨to.length - at_ - 1, by omega⟩
  have hq2 : to.length - (at_ + 1) = q := by omega
  rw [hq, hq2, Nat.add_mul]
  simp only [List.map_cons, List.sum_cons, List.length_cons, Nat.one_mul]
  omega
theorem Good.at_lt {to : List (List Nat)} {order low opn of : List Nat} {many at_ : Nat} {K : List (Nat × Nat)} (h : Good to order low opn of many at_ K) {k : Nat} (hk : k < order.length) (h0 : order[k] = 0) : at_ < to.length := by
  have h1 : 0 < order.count 0 := List.count_pos_iff.2 (h0 ▸ List.getElem_mem hk)
  have := h.cnt
  omega
theorem left_pop {to : List (List Nat)} {at_ v d : Nat} {K : List (Nat × Nat)} : left_ to at_ K < left_ to at_ ((v, d) :: K) := by
  unfold left_
  simp only [List.map_cons, List.sum_cons, List.length_cons]
  omega
theorem Good.pop {to : List (List Nat)} {order low opn of : List Nat} {many at_ v e : Nat} {K : List (Nat × Nat)} (h : Good to order low opn of many at_ ((v, e) :: K)) (hv : v < to.length) (he : e = (rw_ to v).length) :
    ∃ opn2 of2 many2, (if low[v]'(by rw [h.ll]; exact hv) < order[v]'(by rw [h.lo]; exact hv) then memS to order low opn of many at_ else memS to order low (opn.take (opn.idxOf v)) (tell of (opn.drop (opn.idxOf v)) (many + 1)) (many + 1) at_) = memS to order low opn2 of2 many2 at_ ∧
      of2.length = of.length ∧ T.Inv to.length (rw_ to) (ix order) (T.popLow (ix low) v K) (ix of2) opn2 many2 at_ K := by
  have hvl : v < low.length := by rw [h.ll]; exact hv
  have hvo : v < order.length := by rw [h.lo]; exact hv
  split
  · rename_i hlt
    exact ⟨_, _, _, rfl, rfl, h.inv.pop_more he (by rw [ix_get hvl, ix_get hvo]; exact hlt)⟩
  · rename_i hlt
    refine ⟨_, _, _, rfl, by simp, ?_⟩
    rw [ix_tell _ _ _ (fun y hy => by rw [h.lf]; exact h.opn_lt y (List.mem_of_mem_drop hy))]
    exact h.inv.pop_root he (by rw [ix_get hvl, ix_get hvo]; exact hlt)
theorem prs_take (K : List (Nat × Nat)) (p : Nat × Nat) : (prs (K.reverse ++ [p])).take K.length = prs K.reverse := by simp [prs]
def IOut (to : List (List Nat)) (order : List Nat) (i n : Nat) (st : St) : Prop :=
  ∃ order' low' opn' of' many' at' K, Good to order' low' opn' of' many' at' K ∧ ix order' i ≠ 0 ∧ (∀ v, ix order v ≠ 0 → ix order' v ≠ 0) ∧ n = left_ to at' K ∧ st = stO to order' low' opn' of' many' at' K
def stI (to : List (List Nat)) (order low opn of : List Nat) (many at_ v d : Nat) (K : List (Nat × Nat)) : St :=
  ⟨[(0, .ptr 1 0 0 0), (4, .own 27012 2 0 (K.length + 1)), (5, .ptr 27012 2 K.length 0)], memS to order low opn of many at_ ++ [(27012, .arr 105 2 (prs (K.reverse ++ [(v, d)])))], [1, 2, 3, 5]⟩
def IIn (to : List (List Nat)) (order opn of : List Nat) (many at_ v d0 : Nat) (K : List (Nat × Nat)) (n : Nat) (st : St) : Prop :=
  ∃ low d, Good to order low opn of many at_ ((v, d) :: K) ∧ d0 ≤ d ∧ n = (rw_ to v).length - d ∧ st = stI to order low opn of many at_ v d K
set_option maxHeartbeats 2000000 in
theorem d27 (to : List (List Nat)) (order low of : List Nat) (many at_ i : Nat) (hg : Good to order low [] of many at_ []) (hi : i < to.length) (h0 : ix order i = 0) :
    Does Try.prog 67 [.ptr 1 0 0 0, iv i] (memS to order low [] of many at_) [1, 2, 3, 5] (Done to order i) := by
  refine Does.of (nt := 157) (ac := a27) (rds := a27R) c27 (fun c hc => ?_)
  have hio : i < order.length := by rw [hg.lo]; exact hi
  have hil : i < low.length := by rw [hg.ll]; exact hi
  have hat := hg.at_le
  unfold a27
  apply J.scope
  apply J.seq; refine J.regC (by simp; exact ⟨rfl, rfl⟩) ?_
  refine runL_call [1, 2, 3, 4, 5] [1, 2, 3, 5] rfl ?_ (d29 to order low [] of many at_ i hio hil (by omega) (by simp)) ?_ ?_ ?_ hc ?_
  · simp [memS]
  · simp
  · simp [memS]
  · simp
  rintro rv m ⟨rfl, rfl⟩
  refine ⟨?_, ?_⟩
  · simp [memS]
  refine runL_end (by simp [memS]; rfl) ?_
  simp
  apply J.seq; apply J.label; simp
  apply J.block
  refine J.loop hc (IOut to order i) ?_ ?_
  · refine ⟨_, _, ?_, order.set i (at_ + 1), low.set i (at_ + 1), [i], of, many, at_ + 1, [(i, 0)], hg.begin hi h0 (hg.inv.push_first hi h0) (by simp), ?_, ?_, rfl, rfl⟩
    · apply le_sub <;> simp [stO, memS, prs]
    · rw [ix_set _ hio]; simp [T.upd]
    · intro v hv
      rw [ix_set _ hio]; unfold T.upd; split
      · omega
      · exact hv
  rintro n st ⟨order', low', opn', of', many', at', K, hG, hvis, hmono, rfl, rfl⟩
  have hvis2 : ix order' i ≠ 0 := hvis
  unfold stO memS
  apply J.seq; apply J.seq; refine J.regE (by simp; rfl) ?_
  simp
  apply J.cond; simp
  refine ⟨fun hpos => ?_, fun hnil => ?_⟩
  case refine_2 =>
    subst hnil
    apply J.exit
    have hopn : opn' = [] := by
      cases opn' with
      | nil => rfl
      | cons y r => obtain ⟨p, hp, _⟩ := hG.inv.back y (by simp); simp at hp
    subst hopn
    refine ⟨by simp, rfl, _, memS to order' low' [] of' many' at', by simp [a27R]; rfl, ?_⟩
    refine ⟨by simp [memS], by simp, by simp [memS], by simp [memS], rfl, order', low', of', many', at', hG, rfl, hvis, hmono⟩
  apply J.skip; simp
  obtain ⟨⟨v, d⟩, K, rfl⟩ : ∃ p K', K = p :: K' := by cases K with | nil => simp at hpos | cons p K' => exact ⟨p, K', rfl⟩
  have hkl : K.length + 1 ≤ 100 := Nat.le_trans hG.kl hG.at_le
  have hw1 : IntKind.i64.wrap (K.length : Int) = K.length := wrap_id (by omega) (by omega)
  simp only [List.length_cons, List.reverse_cons]
  apply J.block
  apply J.seq; refine J.regE (by simp [hw1, show ((K.length : Nat) : Int) < (K.length : Int) + 1 from by omega]; rfl) ?_
  simp
  apply J.seq; apply J.block
  have hv : v < to.length := hG.opn_lt v (hG.inv.kopn (v, d) (by simp)).1
  have hrw : rw_ to v = to[v] := by simp [rw_, hv]
  refine J.loop hc (IIn to order' opn' of' many' at' v d K) ⟨_, _, St.le_refl _, low', d, hG, Nat.le_refl _, rfl, rfl⟩ ?_
  rintro n st ⟨low2, e, hG2, hde, rfl, rfl⟩
  unfold stI memS
  apply J.seq; apply J.seq; refine J.drawE (by simp [hv]; rfl) ?_
  simp
  apply J.cond; simp
  refine ⟨fun hlt => ?_, fun hge => ?_⟩
  · have hk : to[v][e] < to.length := hG2.inv.succ v _ (by rw [hrw]; exact List.getElem_mem hlt)
    have hdeg : to[v].length < 1000000 := hG.deg _ (List.getElem_mem hv)
    have hw2 : IntKind.i64.wrap ((e : Int) + 1) = e + 1 := wrap_id (by omega) (by omega)
    have hko : to[v][e] < order'.length := by rw [hG.lo]; exact hk
    have hkl2 : to[v][e] < low2.length := by rw [hG2.ll]; exact hk
    have hkf : to[v][e] < of'.length := by rw [hG.lf]; exact hk
    have hvl : v < low2.length := by rw [hG2.ll]; exact hv
    apply J.skip; simp
    apply J.block
    apply J.seq; refine J.drawE (by simp [hv, hlt]; rfl) ?_
    simp
    apply J.seq; refine J.regE (by simp [hw2, prs_last]; rfl) ?_
    simp
    apply J.block
    apply J.seq; refine J.regE (by simp [hko]; rfl) ?_
    simp
    apply J.cond; simp
    refine ⟨fun hz => ?_, fun hz => ?_⟩
    · apply J.seq; refine J.regC (by simp; exact ⟨rfl, rfl⟩) ?_
      refine runL_call [1, 2, 3, 4, 5] [1, 2, 3, 5] rfl ?_ (d29 to order' low2 opn' of' many' at' to[v][e] hko hkl2 (by have := hG.at_le; omega) (by have := hG.bounds; omega)) ?_ ?_ ?_ hc ?_
      · simp [memS]
      · simp
      · simp
      · simp
      rintro rv m ⟨rfl, rfl⟩
      refine ⟨by simp [memS], ?_⟩
      refine runL_end (by simp [memS, List.take_of_length_le, show (K.length + 1 + 1) * 16 ≤ 140737488355328 from by omega]; rfl) ?_
      simp
      have hG3 := hG2.begin hk (by rw [ix_get hko]; exact hz) (K' := (to[v][e], 0) :: (v, e + 1) :: K) (by
        have h1 : (rw_ to v)[e]'(by rw [hrw]; exact hlt) = to[v][e] := by simp [hrw]
        have := hG2.inv.push_edge (by rw [hrw]; exact hlt) (by rw [h1, ix_get hko]; exact hz)
        rw [h1] at this; exact this) (by have := hG2.kl; simp at this ⊢; omega)
      apply J.exit; simp
      refine ⟨_, left_push (hG.at_lt hko hz) hde (by rw [hrw]; exact hlt), stO to (order'.set to[v][e] (at' + 1)) (low2.set to[v][e] (at' + 1)) (opn' ++ [to[v][e]]) of' many' (at' + 1) ((to[v][e], 0) :: (v, e + 1) :: K), ?_, _, _, _, _, _, _, _, hG3, ?_, ?_, rfl, rfl⟩
      · apply le_sub <;> simp [stO, memS, prs_snoc]
      · rw [ix_set _ hko]; unfold T.upd; split
        · omega
        · exact hvis
      · intro w hw
        rw [ix_set _ hko]; unfold T.upd; split
        · omega
        · exact hmono w hw
    · apply J.seq; refine J.regE (by simp [hkf]; rfl) ?_
      simp
      apply J.cond; simp
      refine ⟨fun hz2 => ?_, fun hz2 => ?_⟩
      · have hG3 := hG2.edge hv hlt hk hz
        rw [if_pos hz2] at hG3
        refine J.drawE (by simp [hv, hvl, hko]; rfl) ?_
        simp [ite_min]
        refine ⟨_, ?_, _, St.le_refl _, _, e + 1, hG3, by omega, rfl, ?_⟩
        · rw [hrw]; omega
        · simp [stI, memS]
      · have hG3 := hG2.edge hv hlt hk hz
        rw [if_neg hz2] at hG3
        apply J.skip; simp
        refine ⟨_, ?_, stI to order' low2 opn' of' many' at' v (e + 1) K, ?_, _, e + 1, hG3, by omega, rfl, rfl⟩
        · rw [hrw]; omega
        · apply le_sub <;> simp [stI, memS]
  · apply J.exit; simp
    have he : e = (rw_ to v).length := by have := (hG2.inv.kopn (v, e) (by simp)).2; simp only at this; rw [hrw] at this ⊢; omega
    have hvo : v < order'.length := by rw [hG.lo]; exact hv
    have hvl : v < low2.length := by rw [hG2.ll]; exact hv
    have hvf : v < of'.length := by rw [hG2.lf]; exact hv
    have hb := hG2.bounds
    obtain ⟨opn2, of2, many2, hm2, hf2, hinv⟩ := hG2.pop hv he
    apply J.seq; refine J.regC (by simp; exact ⟨rfl, rfl⟩) ?_
    refine runL_call [1, 2, 3, 4, 5] [1, 2, 3, 4, 5] rfl ?_ (d30 to order' low2 opn' of' many' at' v hvo hvl hvf (by omega) (by omega) (hG2.inv.kopn (v, e) (by simp)).1 (fun x hx => by rw [hG2.lf]; exact hG2.opn_lt x hx)) ?_ ?_ ?_ hc ?_
    · simp [memS]
    · simp
    · simp
    · simp
    rintro rv m ⟨rfl, hm⟩
    rw [hm2] at hm
    subst hm
    refine ⟨by simp [memS], ?_⟩
    refine runL_end (by simp [memS]; rfl) ?_
    simp
    apply J.seq; refine J.regE (by simp; rfl) ?_
    simp
    have hle1 : (K.length : Int) ≤ (K.length : Int) + 1 := by omega
    apply J.seq; refine J.regE (by simp [hw1, hle1]; rfl) ?_
    simp
    apply J.seq; refine J.regE (by simp; rfl) ?_
    simp
    refine J.le hc (le_trunc (b := 27012) (k := K.length) (by simp [memS, look]; exact ⟨rfl, rfl, rfl⟩)) ?_
    simp [memS, prs_take]
    apply J.cond; simp
    cases K with
    | nil =>
      refine ⟨fun h => by simp at h, fun _ => ?_⟩
      apply J.skip
      have hG3 : Good to order' low2 opn2 of2 many2 at' [] := { hG2 with inv := hinv, lf := hf2.trans hG2.lf, kl := Nat.zero_le _ }
      refine ⟨_, stO to order' low2 opn2 of2 many2 at' [], left_pop, ?_, _, _, _, _, _, _, _, hG3, hvis, hmono, rfl, rfl⟩
      apply le_sub <;> simp [stO, memS]
    | cons p K' =>
      obtain ⟨u, du⟩ := p
      refine ⟨fun _ => ?_, fun h => by simp at h⟩
      have hu : u < to.length := hG2.opn_lt u (hG2.inv.kopn (u, du) (by simp)).1
      have hul : u < low2.length := by rw [hG2.ll]; exact hu
      have hkl3 : K'.length + 1 + 1 ≤ 100 := by simpa using hkl
      have hw3 : IntKind.i64.wrap (K'.length : Int) = K'.length := wrap_id (by omega) (by omega)
      have hle2 : (K'.length : Int) < (K'.length : Int) + 1 := by omega
      simp only [List.length_cons, List.reverse_cons]
      apply J.seq; refine J.regE (by simp [hw3, hle2]; rfl) ?_
      simp
      have hG3 : Good to order' (low2.set u (min low2[u] low2[v])) opn2 of2 many2 at' ((u, du) :: K') := { hG2 with
        inv := by
          rw [ix_set _ hul, ← ix_get hul, ← ix_get hvl]; exact hinv
        ll := by simp [hG2.ll], lf := hf2.trans hG2.lf, kl := by have := hG2.kl; simp at this ⊢; omega }
      refine J.drawC (by simp [hul, hvl]; exact ⟨rfl, rfl⟩) (fun c' _ => ?_)
      have hfin : ∃ m s', m < left_ to at' ((v, d) :: (u, du) :: K') ∧ St.le (stO to order' (low2.set u (min low2[u] low2[v])) opn2 of2 many2 at' ((u, du) :: K')) s' ∧ IOut to order i m s' :=
        ⟨_, _, left_pop, St.le_refl _, _, _, _, _, _, _, _, hG3, hvis, hmono, rfl, rfl⟩
      refine runP_alt rfl rfl (by simp [hul]; rfl) ?_ (.inr ?_)
      · refine runP_end (by simp [hul, hvl]; rfl) ?_
        simp [ite_min]
        simpa [stO, memS, Nat.min_comm] using hfin
      · refine runP_end (by simp [hul, hvl]; rfl) ?_
        simp [ite_min]
        simpa [stO, memS, Nat.min_comm] using hfin
theorem c21 : chkFn Try.prog 50 70 1 a21 a21R = true := by kernel_rfl
def parts (of : List Nat) (many : Nat) : List (List Nat) := (List.range many).map fun c => (List.range of.length).filter fun i => ix of i == c + 1
theorem Good.start {to : List (List Nat)} (h : to.length ≤ 100) (hd : ∀ r ∈ to, r.length < 1000000) (hs : ∀ v z, z ∈ rw_ to v → z < to.length) : Good to (List.replicate to.length 0) (List.replicate to.length 0) [] (List.replicate to.length 0) 0 0 [] where
  inv := by
    have : ix (List.replicate to.length 0) = fun _ => 0 := by
      funext v; unfold ix
      simp [List.getD, List.getElem?_replicate]
      split <;> rfl
    rw [this]
    exact T.Inv.start hs
  lo := by simp
  ll := by simp
  lf := by simp
  cnt := by simp
  small := h
  deg := hd
  kl := Nat.le_refl _
def IC1 (to : List (List Nat)) (n : Nat) (st : St) : Prop :=
  ∃ i order low of many at_, i ≤ to.length ∧ Good to order low [] of many at_ [] ∧ (∀ v, v < i → ix order v ≠ 0) ∧ n = to.length - i ∧ st = ⟨[(5, .ptr 1 0 0 0), (21, iv to.length), (22, iv i)], memS to order low [] of many at_, []⟩
def pre (of : List Nat) (j c : Nat) : List Nat := (List.range j).filter fun i => ix of i == c + 1
def stC (to : List (List Nat)) (order low of : List Nat) (many at_ : Nat) (j : Nat) : St :=
  ⟨[(5, .ptr 1 0 0 0), (7, .own 21041 1 0 many), (45, .own 5 1 0 of.length), (46, iv of.length), (47, iv j)],
    memS to order low [] of many at_ ++ (21041, .obj 26 (famCells 22000 1 (fun c => (pre of j c).length) many)) :: fam 22000 3 1 (fun c => nats (pre of j c)) many, []⟩
def IC2 (to : List (List Nat)) (order low of : List Nat) (many at_ : Nat) (n : Nat) (st : St) : Prop :=
  ∃ j, j ≤ of.length ∧ n = of.length - j ∧ st = stC to order low of many at_ j
theorem killL_fam (q n : Nat) (f : Nat → Nat) (hq : q < n) : killL (22000 + q) (famCells 22000 1 f n) = (famCells 22000 1 f n).set q .dead := by
  apply List.ext_getElem?
  intro i
  rw [killL_get]
  by_cases hi : i < n
  · rw [famCells_get hi]
    by_cases e : i = q
    · subst e; simp [hi]
    · simp [List.getElem?_set_ne (Ne.symm e), famCells_get hi, e]
  · rw [List.getElem?_eq_none (by simpa using hi), List.getElem?_eq_none (by simpa using hi)]; rfl
theorem loop2 (c : Ctx) (hc : c.A = c.B) (to : List (List Nat)) (order low of : List Nat) (many at_ : Nat) (hG : Good to order low [] of many at_ []) (hcl : ∀ v, v < to.length → ix of v ≠ 0) (hmany : many ≤ 100) (Q : Exit → St → Prop) (hQ : ∀ s, Q (.exit 2) ⟨(5, .ptr 1 0 0 0) :: (7, .own 21041 1 0 many) :: s, (stC to order low of many at_ of.length).mem, []⟩) :
    J Try.prog 70 c a21L11.loop (stC to order low of many at_ 0) Q := by
  refine J.loop hc (IC2 to order low of many at_) ⟨_, _, St.le_refl _, 0, Nat.zero_le _, rfl, rfl⟩ ?_
  rintro n st ⟨j, hj, rfl, rfl⟩
  unfold stC memS
  apply J.seq; refine J.regE (by simp; rfl) ?_
  simp
  apply J.seq; apply J.cond; simp
  refine ⟨fun hlt => ?_, fun hge => ?_⟩
  · have hofj : of[j] ≠ 0 := by have := hcl j (by rw [← hG.lf]; exact hlt); rwa [ix_get hlt] at this
    have hofm : of[j] ≤ many := by have := hG.inv.fle j; rwa [ix_get hlt] at this
    obtain ⟨q, hq⟩ : ∃ q, of[j] = q + 1 := ⟨of[j] - 1, by omega⟩
    have hqm : q < many := by omega
    have hqm1 : q + 1 ≤ many := hqm
    have hol : of.length ≤ 100 := by rw [hG.lf]; exact hG.small
    have hwj : IntKind.i64.wrap ((j : Int) + 1) = j + 1 := wrap_id (by omega) (by omega)
    have hwq : IntKind.i64.wrap (q : Int) = q := wrap_id (by omega) (by omega)
    apply J.skip; simp
    apply J.seq; apply J.block
    apply J.seq; refine J.regE (by simp [hlt]; rfl) ?_
    simp [hq]
    have e1 : ¬ 1 = 22000 + q := by omega
    have e2 : ¬ 2 = 22000 + q := by omega
    have e3 : ¬ 3 = 22000 + q := by omega
    have e4 : ¬ 4 = 22000 + q := by omega
    have e5 : ¬ 5 = 22000 + q := by omega
    have e6 : ¬ 21041 = 22000 + q := by omega
    have e8 : ¬ 22000 + q = 21061 := by omega
    have e7 : ¬ 21061 = 22000 + q := by omega
    have hcell : ((famCells 22000 1 (fun c => (pre of j c).length) many).drop q).take 1 = [.own (22000 + q) 1 0 (pre of j q).length] := by
      rw [List.drop_eq_getElem_cons (by simpa using hqm)]
      simp [famCells]
    have hlen : (pre of j q).length ≤ 100 := by
      refine Nat.le_trans (List.length_filter_le _ _) ?_
      simp; omega
    apply J.reg
    refine runL_step rfl (by simp; rfl) ?_
    refine runL_step rfl (by simp; rfl) ?_
    refine runL_step rfl (by simp [hwq]; rfl) ?_
    refine runL_step rfl (by simp; rfl) ?_
    refine runL_step rfl (by simp; rfl) ?_
    refine runL_step rfl (by simp [hwq]; rfl) ?_
    refine runL_step rfl (by simp [hqm, hqm1]; rfl) ?_
    refine runL_step rfl (by simp [hqm, hcell, hqm1]; rfl) ?_
    refine runL_step rfl (by simp; rfl) ?_
    refine runL_step rfl (by simp [look_fam_lt]; rfl) ?_
    refine runL_step rfl (by simp [e1, e2, e3, e4, e5, e6, e7, e8, look_upd, look_fam hqm, look_fam_lt, killL_fam _ _ _ hqm, show ((pre of j q).length + 1) * 8 ≤ 140737488355328 from by omega]; rfl) ?_
    refine runL_step rfl (by simp [hqm, hqm1]; rfl) ?_
    refine runL_step rfl (by simp [hqm, hqm1, e1, e2, e3, e4, e5, e6, e7, e8]; rfl) ?_
    simp only [runL]
    simp
    have hpre : ∀ c, pre of (j + 1) c = pre of j c ++ (if c = q then [j] else []) := by
      intro c
      unfold pre
      rw [List.range_succ, List.filter_append]
      congr 1
      have : ix of j = q + 1 := by rw [ix_get hlt, hq]
      by_cases e : c = q
      · subst e; simp [this]
      · simp [this, e, Ne.symm e]
    have hcells : List.take q ((famCells 22000 1 (fun c => (pre of j c).length) many).set q AV.dead) ++ AV.own (22000 + q) 1 0 ((pre of j q).length + 1) :: List.drop (q + 1) ((famCells 22000 1 (fun c => (pre of j c).length) many).set q AV.dead) = famCells 22000 1 (fun c => (pre of (j + 1) c).length) many := by
      rw [List.take_set, List.drop_set_of_lt (by omega), List.set_eq_of_length_le (by simp; omega)]
      apply List.ext_getElem?
      intro i
      rcases Nat.lt_trichotomy i q with h1 | h1 | h1
      · rw [List.getElem?_append_left (by simp; omega), List.getElem?_take_of_lt h1, famCells_get (by omega), famCells_get (by omega)]
        simp [hpre, Nat.ne_of_lt h1]
      · subst h1
        rw [List.getElem?_append_right (by simp; omega), famCells_get hqm]
        simp [hpre, show min i many = i from by omega]
      · rw [List.getElem?_append_right (by simp; omega)]
        have h2 : i - (List.take q (famCells 22000 1 (fun c => (pre of j c).length) many)).length = (i - q - 1) + 1 := by simp; omega
        rw [h2, List.getElem?_cons_succ, List.getElem?_drop, show q + 1 + (i - q - 1) = i from by omega]
        by_cases h3 : i < many
        · rw [famCells_get h3, famCells_get h3]; simp [hpre, show ¬ i = q from by omega]
        · rw [List.getElem?_eq_none (by simp; omega), List.getElem?_eq_none (by simp; omega)]
    rw [hcells]
    refine J.le hc (st' := ⟨[(5, .ptr 1 0 0 0), (7, .own 21041 1 0 many), (45, .own 5 1 0 of.length), (46, iv of.length), (47, iv j)], (stC to order low of many at_ (j + 1)).mem, []⟩) (le_retell ?_ ?_ rfl (by simp)) ?_
    · refine fun p hp => ⟨p.2, ?_, .same ?_⟩ <;> revert p <;> simp [stC, memS]
    · intro p hp
      simp only [stC, memS, List.cons_append, List.nil_append, List.mem_cons] at hp
      rcases hp with rfl | rfl | rfl | rfl | rfl | rfl | hp
      · exact .same (by simp [stC, memS])
      · exact .same (by simp)
      · exact .same (by simp)
      · exact .same (by simp)
      · exact .same (by simp)
      · simp
        refine .obj rfl (fun i x hx => ?_)
        have hi : i < many := by simpa using (List.getElem?_eq_some_iff.1 hx).1
        rw [famCells_get hi] at hx
        injection hx with hx; subst hx
        simp [famCells_get hi]
        refine .same ?_
        simp [stC, memS, look_fam hi]
        repeat rw [if_neg (by omega)]
        rfl
      · obtain ⟨c', hc', rfl⟩ := mem_fam hp
        simp [look_drop, look_upd, look_mapv, look_fam hc', hpre]
        repeat rw [if_neg (by omega)]
        by_cases e : c' = q
        · subst e; simp; refine ReB.same ?_; trivial
        · simp [e]
          rw [if_neg (by omega)]
          exact ReB.same (b := .arr 3 1 (nats (pre of j c'))) trivial
    · refine J.regE (by simp [hwj]; rfl) ?_
      simp
      exact ⟨_, by omega, _, St.le_refl _, j + 1, by omega, rfl, by simp [stC]⟩
  · have : j = of.length := by omega
    subst this
    apply J.exit; simp
    exact hQ _
set_option maxHeartbeats 2000000 in
theorem d21 (to : List (List Nat)) (h : to.length ≤ 100) (hd : ∀ r ∈ to, r.length < 1000000) (hs : ∀ v z, z ∈ rw_ to v → z < to.length) :
    Does Try.prog 50 [.ro 1 (rows to)] [] [] (fun r m => m = [] ∧ ∃ order low of many at_, Good to order low [] of many at_ [] ∧ (∀ v, v < to.length → ix order v ≠ 0) ∧ r = .tup [.ro 1 (rows (parts of many)), .ro 1 (nats of)]) := by
  refine Does.of (nt := 70) (ac := a21) (rds := a21R) c21 (fun c hc => ?_)
  unfold a21
  apply J.seq; refine J.regE (by simp; rfl) ?_
  simp
  apply J.seq; refine J.regE (by simp; rfl) ?_
  simp
  generalize hQ : doneQ [] a21R _ = Q
  have hrest : ∀ st', (∃ m, st' = ⟨[(4, iv to.length), (5, .ptr 1 0 0 0)], m, []⟩ ∧ SX.look m 1 = some (.obj 83 [.ro 1 (rows to), .own 2 1 0 to.length, .own 3 1 0 to.length, .nils 1, .own 5 1 0 to.length, iv 0, iv 0]) ∧ SX.look m 4 = none ∧
      ∀ b, b = 2 ∨ b = 3 ∨ b = 5 → SX.look m b = some (.arr 3 1 (nats (List.replicate to.length 0)))) → J Try.prog 70 c
      ((a21r3.seq (AC.block 0 a21L4.loop)).seq (a21r9.seq ((a21r10.seq (AC.block 2 a21L11.loop)).seq (a21r15.seq AC.ret)))) st' Q := by
    rintro _ ⟨m, rfl, h1, h4, h235⟩
    refine J.le hc (st' := ⟨[(4, iv to.length), (5, .ptr 1 0 0 0)], memS to (List.replicate to.length 0) (List.replicate to.length 0) [] (List.replicate to.length 0) 0 0, []⟩) (le_retell ?_ ?_ rfl (by simp)) ?_
    · intro p hp
      simp at hp
      rcases hp with rfl | rfl
      · exact ⟨_, rfl, .same (by simp)⟩
      · exact ⟨_, rfl, .same (by simp [memS])⟩
    · intro p hp
      simp only [memS, List.mem_cons, List.not_mem_nil, or_false] at hp
      rcases hp with rfl | rfl | rfl | rfl | rfl
      · simp only [h1]
        refine .obj rfl (fun i x hx => ?_)
        match i with
        | 0 => simp at hx; subst hx; exact .same (by simp)
        | 1 => simp at hx; subst hx; simp; exact .same (by simp [memS])
        | 2 => simp at hx; subst hx; simp; exact .same (by simp [memS])
        | 3 => simp at hx; subst hx; exact .nil
        | 4 => simp at hx; subst hx; simp; exact .same (by simp [memS])
        | 5 => simp at hx; subst hx; exact .same (by simp)
        | 6 => simp at hx; subst hx; exact .same (by simp)
        | (i + 7) => simp at hx
      · simp only [h235 2 (by simp)]; exact .same (by simp)
      · simp only [h235 3 (by simp)]; exact .same (by simp)
      · simp only [h4]; exact .new
      · simp only [h235 5 (by simp)]; exact .same (by simp)
    · apply J.seq; apply J.seq; refine J.regE (by simp; rfl) ?_
      simp
      apply J.block
      refine J.loop hc (IC1 to) ⟨_, _, St.le_refl _, 0, _, _, _, _, _, Nat.zero_le _, Good.start h hd hs, fun v hv => by omega, rfl, rfl⟩ ?_
      rintro n st ⟨i, order, low, of, many, at_, hin, hG, hvis, rfl, rfl⟩
      apply J.seq; refine J.regE (by simp; rfl) ?_
      simp
      apply J.seq; apply J.cond; simp
      refine ⟨fun hlt => ?_, fun hge => ?_⟩
      · have hio : i < order.length := by rw [hG.lo]; exact hlt
        have hwi : IntKind.i64.wrap ((i : Int) + 1) = i + 1 := wrap_id (by omega) (by omega)
        apply J.skip; simp
        apply J.seq; apply J.block
        apply J.seq; refine J.regE (by simp; rfl) ?_
        simp
        apply J.seq; refine J.regE (by simp [memS, hio]; rfl) ?_
        simp
        apply J.cond; simp
        refine ⟨fun hz => ?_, fun hz => ?_⟩
        · refine J.regC (by simp; exact ⟨rfl, rfl⟩) ?_
          refine runL_call [1, 2, 3, 4, 5] [1, 2, 3, 5] rfl ?_ (d27 to order low of many at_ i hG hlt (by rw [ix_get hio]; exact hz)) ?_ ?_ ?_ hc ?_
          · simp [memS]
          · simp
          · simp
          · simp
          rintro rv m ⟨rfl, order', low', of', many', at', hG', rfl, hi', hmono⟩
          refine ⟨by simp [memS], ?_⟩
          refine runL_end (by simp [memS]; rfl) ?_
          simp
          refine J.regE (by simp [hwi]; rfl) ?_
          simp
          refine ⟨_, ?_, _, St.le_refl _, i + 1, order', low', of', many', at', hlt, hG', fun v hv => ?_, rfl, by simp [memS]⟩
          · omega
          · by_cases e : v = i
            · rw [e]; exact hi'
            · exact hmono v (hvis v (by omega))
        · apply J.skip; simp
          refine J.regE (by simp [hwi]; rfl) ?_
          simp
          refine ⟨_, ?_, _, St.le_refl _, i + 1, order, low, of, many, at_, hlt, hG, fun v hv => ?_, rfl, by simp [memS]⟩
          · omega
          · by_cases e : v = i
            · rw [e, ix_get hio]; exact hz
            · exact hvis v (by omega)
      · have : i = to.length := by omega
        subst this
        apply J.exit; simp
        have hmany : many ≤ 100 := by have := hG.bounds; simp at this; omega
        have hb9 : (many : Int) * 24 ≤ 281474976710656 := by omega
        have hcl : ∀ v, v < to.length → ix of v ≠ 0 := fun v hv h0 => by
          have := (hG.inv.opn_iff v).2 ⟨hvis v hv, h0⟩
          simp at this
        apply J.seq; refine J.regE (by simp [memS, hb9]; rfl) ?_
        simp
        apply J.seq; apply J.seq; refine J.regE (by simp; rfl) ?_
        simp
        refine J.le hc (st' := ⟨[(5, .ptr 1 0 0 0), (7, .own 21041 1 0 many), (45, .own 5 1 0 of.length), (46, iv of.length), (47, iv 0)], memS to order low [] of many at_ ++ (21041, .obj 26 (famCells 22000 1 (fun _ => 0) many)) :: fam 22000 3 1 (fun _ => []) many, []⟩) (le_retell ?_ ?_ rfl (by simp)) ?_
        · refine fun p hp => ⟨p.2, ?_, .same ?_⟩ <;> revert p <;> simp [memS]
        · intro p hp
          simp only [memS, List.cons_append, List.nil_append, List.mem_cons] at hp
          rcases hp with rfl | rfl | rfl | rfl | rfl | rfl | hp
          · exact .same (by simp [memS])
          · exact .same (by simp)
          · exact .same (by simp)
          · exact .same (by simp)
          · exact .same (by simp)
          · refine .obj (by simp) (fun i x hx => ?_)
            have hi : i < many := by
              have := (List.getElem?_eq_some_iff.1 hx).1
              simpa using this
            rw [famCells_get hi] at hx
            injection hx with hx; subst hx
            simp [hi]
            exact .nil
          · obtain ⟨c', hc', rfl⟩ := mem_fam hp
            simp
            repeat rw [if_neg (by omega)]
            exact .new
        apply J.block
        refine loop2 c hc to order low of many at_ hG hcl hmany _ ?_
        intro s
        simp
        refine J.le hc (st' := ⟨[(5, .ptr 1 0 0 0), (7, .ro 1 (rows (parts of many)))], [(1, .obj 83 [.ro 1 (rows to), .dead, .dead, .dead, .ro 1 (nats of), iv many, iv at_])], []⟩) (le_retell ?_ ?_ rfl (by simp)) ?_
        · intro p hp
          simp only [List.mem_cons, List.not_mem_nil, or_false] at hp
          rcases hp with rfl | rfl
          · exact ⟨_, rfl, .same (by simp)⟩
          · refine ⟨_, rfl, ?_⟩
            have hrw : rows (parts of many) = ((parts of many).map fun r => AV.ro 1 (nats r)).map fun x => [x] := by simp [rows]
            rw [hrw]
            refine Re.rows (lo := 0) (n := many) (ty := 26) (cs := famCells 22000 1 (fun c => (pre of of.length c).length) many) ?_ ?_ ?_ ?_ ?_ ?_
            · simp [stC, memS]
            · simp
            · simp [parts]
            · simp
            · intro x hx
              simp only [List.mem_map] at hx
              obtain ⟨r, _, rfl⟩ := hx
              rfl
            · intro i x hx
              have hi : i < many := by
                have := (List.getElem?_eq_some_iff.1 hx).1
                simpa [parts] using this
              simp [parts, hi] at hx
              subst hx
              simp [famCells_get hi]
              have := Re.row (m := (stC to order low of many at_ of.length).mem) (m' := [(1, .obj 83 [.ro 1 (rows to), .dead, .dead, .dead, .ro 1 (nats of), iv many, iv at_])]) (b := 22000 + i) (sz := 1) (lo := 0) (n := (pre of of.length i).length) (ty := 3) (es := nats (pre of of.length i)) (by
                simp [stC, memS]
                repeat rw [if_neg (by omega)]
                exact look_fam hi) (by simp; omega) (by omega) (by simp)
              simpa [pre, List.take_of_length_le] using this
        · intro p hp
          simp only [List.mem_cons, List.not_mem_nil, or_false] at hp
          rcases hp with rfl
          simp [stC, memS]
          refine .obj rfl (fun i x hx => ?_)
          match i with
          | 0 => simp at hx; subst hx; exact .same (by simp)
          | 1 => simp at hx; subst hx; exact .dead
          | 2 => simp at hx; subst hx; exact .dead
          | 3 => simp at hx; subst hx; exact .dead
          | 4 =>
            simp at hx; subst hx
            simp
            have := Re.row (m := (stC to order low of many at_ of.length).mem) (m' := [(1, .obj 83 [.ro 1 (rows to), .dead, .dead, .dead, .ro 1 (nats of), iv many, iv at_])]) (b := 5) (sz := 1) (lo := 0) (n := of.length) (ty := 3) (es := nats of) (by simp [stC, memS]) (by simp) (by omega) (by simp)
            simpa [stC, memS, List.take_of_length_le] using this
          | 5 => simp at hx; subst hx; exact .same (by simp)
          | 6 => simp at hx; subst hx; exact .same (by simp)
          | (i + 7) => simp at hx
        apply J.seq
        refine J.drawE (by simp; rfl) ?_
        simp
        apply J.ret
        rw [← hQ]
        refine ⟨by simp, rfl, _, [], by simp [a21R]; rfl, ?_⟩
        simp
        exact ⟨order, low, of, many, ⟨at_, hG⟩, hvis, rfl, rfl⟩
  have hb8 : (to.length : Int) * 8 ≤ 281474976710656 := by omega
  apply J.seq
  refine J.drawC (by simp; exact ⟨rfl, rfl⟩) (fun c' _ => ?_)
  refine runP_alt rfl rfl (by simp [hb8, nats_zero]; rfl) ?_ (.inr (runP_alt rfl rfl (by simp [hb8, nats_zero]; rfl) ?_ (.inr (runP_alt rfl rfl (by simp [hb8, nats_zero]; rfl) ?_ (.inl rfl)))))
  · refine runP_alt rfl rfl (by simp [hb8, nats_zero]; rfl) ?_ (.inr (runP_alt rfl rfl (by simp [hb8, nats_zero]; rfl) ?_ (.inl rfl)))
    · refine runP_end (by simp [hb8, nats_zero]; rfl) ?_
      exact hrest _ ⟨_, rfl, by simp, by simp, by rintro b (rfl | rfl | rfl) <;> simp⟩
    · refine runP_end (by simp [hb8, nats_zero]; rfl) ?_
      exact hrest _ ⟨_, rfl, by simp, by simp, by rintro b (rfl | rfl | rfl) <;> simp⟩
  · refine runP_alt rfl rfl (by simp [hb8, nats_zero]; rfl) ?_ (.inr (runP_alt rfl rfl (by simp [hb8, nats_zero]; rfl) ?_ (.inl rfl)))
    · refine runP_end (by simp [hb8, nats_zero]; rfl) ?_
      exact hrest _ ⟨_, rfl, by simp, by simp, by rintro b (rfl | rfl | rfl) <;> simp⟩
    · refine runP_end (by simp [hb8, nats_zero]; rfl) ?_
      exact hrest _ ⟨_, rfl, by simp, by simp, by rintro b (rfl | rfl | rfl) <;> simp⟩
  · refine runP_alt rfl rfl (by simp [hb8, nats_zero]; rfl) ?_ (.inr (runP_alt rfl rfl (by simp [hb8, nats_zero]; rfl) ?_ (.inl rfl)))
    · refine runP_end (by simp [hb8, nats_zero]; rfl) ?_
      exact hrest _ ⟨_, rfl, by simp, by simp, by rintro b (rfl | rfl | rfl) <;> simp⟩
    · refine runP_end (by simp [hb8, nats_zero]; rfl) ?_
      exact hrest _ ⟨_, rfl, by simp, by simp, by rintro b (rfl | rfl | rfl) <;> simp⟩
structure Num (n : Int) (l : List (Int × Int)) (of : List Nat) (many : Nat) : Prop where
  len : of.length = bN n
  pos : ∀ v, v < bN n → 1 ≤ ix of v ∧ ix of v ≤ many
  same : ∀ x y, x < bN n → y < bN n → (ix of x = ix of y ↔ rB n l x y = true ∧ rB n l y x = true)
  each : ∀ c, c < many → ∃ v, v < bN n ∧ ix of v = c + 1
  small : many ≤ 100
theorem toL_reach (n : Int) (l : List (Int × Int)) : (fun a b => b ∈ rw_ (toL n l) a) = eN n l := by
  funext a b
  apply propext
  unfold rw_
  rcases Nat.lt_or_ge a (toL n l).length with h | h
  · simp only [List.getD_eq_getElem?_getD, List.getElem?_eq_getElem h, Option.getD_some]
    exact mem_to h
  · simp only [List.getD_eq_getElem?_getD, List.getElem?_eq_none h, Option.getD_none]
    refine ⟨fun hm => by simp at hm, fun he => ?_⟩
    have := he.1
    rw [toL_length] at h
    omega
theorem Good.num {n : Int} {l : List (Int × Int)} {order low of : List Nat} {many at_ : Nat} (h : Good (toL n l) order low [] of many at_ []) (hv : ∀ v, v < (toL n l).length → ix order v ≠ 0) : Num n l of many := by
  have hcl : ∀ v, v < bN n → ix of v ≠ 0 := fun v hv2 h0 => by
    have := (h.inv.opn_iff v).2 ⟨hv v (by rw [toL_length]; exact hv2), h0⟩
    simp at this
  refine ⟨h.lf.trans (toL_length n l), fun v hv2 => ⟨by have := hcl v hv2; omega, h.inv.fle v⟩, fun x y hx hy => ?_, fun c hc => ?_, ?_⟩
  · rw [rB_iff, rB_iff]
    have := h.inv.same x y (hcl x hx) (hcl y hy)
    rw [toL_reach] at this
    exact this
  · obtain ⟨v, hv2⟩ := h.inv.each (c + 1) (by omega) (by omega)
    refine ⟨v, ?_, hv2⟩
    have := h.inv.dom v (h.inv.fo v (by omega))
    rw [toL_length] at this
    exact this
  · have := h.bounds; simp at this; exact this
section
variable {n : Int} {l : List (Int × Int)} {of : List Nat} {many : Nat}
def tv (n : Int) (of : List Nat) (tc : List Bool) : List Bool := (List.range (bN n)).map fun v => tc.getD (ix of v - 1) false
theorem tv_length (tc : List Bool) : (tv n of tc).length = bN n := by simp [tv]
theorem tv_getD {tc : List Bool} {v : Nat} (h : v < bN n) : (tv n of tc).getD v false = tc.getD (ix of v - 1) false := by simp [tv, h]
theorem parts_length : (parts of many).length = many := by simp [parts]
theorem parts_get {c : Nat} (h : c < many) : (parts of many).getD c [] = (List.range of.length).filter fun i => ix of i == c + 1 := by simp [parts, h]
theorem mem_parts {c v : Nat} (h : c < many) : v ∈ (parts of many).getD c [] ↔ v < of.length ∧ ix of v = c + 1 := by
  rw [parts_get h]; simp
def hd (of : List Nat) (many c : Nat) : Nat := ((parts of many).getD c []).headD 0
theorem sorted_range : ∀ (m : Nat), (List.range m).Pairwise (· < ·) := fun m => List.pairwise_lt_range
theorem Num.hdS (h : Num n l of many) {c : Nat} (hc : c < many) : hd of many c < bN n ∧ ix of (hd of many c) = c + 1 ∧ ∀ v, v < bN n → ix of v = c + 1 → hd of many c ≤ v := by
  obtain ⟨v0, hv0, he0⟩ := h.each c hc
  unfold P11.hd
  have hm : ∀ v, v ∈ (parts of many).getD c [] ↔ v < bN n ∧ ix of v = c + 1 := fun v => by rw [mem_parts hc, h.len]
  have hs : ((parts of many).getD c []).Pairwise (· < ·) := by rw [parts_get hc]; exact (sorted_range _).filter _
  generalize (parts of many).getD c [] = r at hm hs
  cases r with
  | nil => exact absurd ((hm v0).2 ⟨hv0, he0⟩) (by simp)
  | cons x r =>
    have hx := (hm x).1 (by simp)
    refine ⟨hx.1, hx.2, fun v hv he => ?_⟩
    have := (hm v).2 ⟨hv, he⟩
    simp only [List.headD_cons]
    rcases List.mem_cons.1 this with rfl | h2
    · exact Nat.le_refl _
    · exact Nat.le_of_lt ((List.pairwise_cons.1 hs).1 v h2)
theorem frB_iff (h : Num n l of many) {tc : List Bool} {c : Nat} (hc : c < many) : frB (parts of many) (toL n l) of tc c = true ↔ ∀ i k, eN n l i k → ix of i = c + 1 → ix of k = c + 1 ∨ tc.getD (ix of k - 1) false = true := by
  unfold frB
  simp only [List.all_eq_true]
  have hk1 : ∀ k, k < bN n → (okE of tc c k = true ↔ ix of k = c + 1 ∨ tc.getD (ix of k - 1) false = true) := by
    intro k hk
    have h0 : of.getD k 0 = ix of k := rfl
    obtain ⟨h1, _⟩ := h.pos k hk
    unfold okE
    rw [h0]
    simp only [Bool.or_eq_true, beq_iff_eq]
    constructor
    · rintro (h2 | h2)
      · left; omega
      · exact .inr h2
    · rintro (h2 | h2)
      · left; omega
      · exact .inr h2
  have hget : ∀ i, i < bN n → ∀ k, k ∈ (toL n l).getD i [] ↔ eN n l i k := fun i hi k => by
    have hl : i < (toL n l).length := by rw [toL_length]; exact hi
    have : (toL n l).getD i [] = (toL n l)[i] := by simp [hl]
    rw [this]; exact mem_to hl
  constructor
  · intro hA i k he hi
    have := hA i ((mem_parts hc).2 ⟨by rw [h.len]; exact he.1, hi⟩) k ((hget i he.1 k).2 he)
    exact (hk1 k he.2.1).1 this
  · intro hA i hi k hk
    obtain ⟨h1, h2⟩ := (mem_parts hc).1 hi
    rw [h.len] at h1
    have he := (hget i h1 k).1 hk
    exact (hk1 k he.2.1).2 (hA i k he h2)
theorem Num.eligS (h : Num n l of many) {tc : List Bool} (hs : Shut (bN n) (rB n l) (tv n of tc)) {c k : Nat} (hc : c < many) (hk : k < bN n) (he : ix of k = c + 1) :
    elig (bN n) (rB n l) (tv n of tc) k = true ↔ tc.getD c false = false ∧ frB (parts of many) (toL n l) of tc c = true := by
  rw [elig_iff, frB_iff h hc, tv_getD hk, he]
  refine and_congr Iff.rfl ⟨fun hA i j hij hi => ?_, fun hA j hj h1 h2 => ?_⟩
  · by_cases e : ix of j = c + 1
    · exact .inl e
    · right
      have hki := (h.same k i hk hij.1).1 (he.trans hi.symm)
      have hkj : rB n l k j = true := rB_iff.2 ((rB_iff.1 hki.1).step hij)
      have hjk : rB n l j k = false := by
        cases hb : rB n l j k
        · rfl
        · exact absurd (((h.same k j hk hij.2.1).2 ⟨hkj, hb⟩).symm.trans he) e
      have := hA j hij.2.1 hkj hjk
      rwa [tv_getD hij.2.1] at this
  · have key : ∀ x, RR n l k x → x < bN n ∧ (ix of x = c + 1 ∨ (tv n of tc).getD x false = true) := by
      intro x hx
      induction hx with
      | refl => exact ⟨hk, .inl he⟩
      | @step y z hy e ih =>
        refine ⟨e.2.1, ?_⟩
        rcases ih.2 with ih | ih
        · rcases hA _ _ e ih with h3 | h3
          · exact .inl h3
          · right; rw [tv_getD e.2.1]; exact h3
        · exact .inr (hs _ _ e.1 e.2.1 ih (rB_iff.2 (.one e)))
    rcases (key j (rB_iff.1 h1)).2 with h3 | h3
    · rw [((h.same k j hk hj).1 (he.trans h3.symm)).2] at h2; cases h2
    · exact h3
theorem Num.pickS (h : Num n l of many) {tc : List Bool} (hs : Shut (bN n) (rB n l) (tv n of tc)) {b : Nat} (hb : b < many) (h1 : tc.getD b false = false) (h2 : frB (parts of many) (toL n l) of tc b = true)
    (hmin : ∀ c, c < many → tc.getD c false = false → frB (parts of many) (toL n l) of tc c = true → hd of many b ≤ hd of many c) : pick (bN n) (rB n l) (tv n of tc) = some (hd of many b) := by
  obtain ⟨g1, g2, g3⟩ := h.hdS hb
  refine pick_some.2 ⟨(h.eligS hs hb g1 g2).2 ⟨h1, h2⟩, g1, fun j hj => ?_⟩
  cases he : P11.elig (bN n) (rB n l) (tv n of tc) j
  · rfl
  · have hjN : j < bN n := by omega
    obtain ⟨p1, p2⟩ := h.pos j hjN
    have hc : ix of j - 1 < many := by omega
    have hej : ix of j = (ix of j - 1) + 1 := by omega
    obtain ⟨q1, q2⟩ := (h.eligS hs hc hjN hej).1 he
    have := hmin _ hc q1 q2
    have := (h.hdS hc).2.2 j hjN hej
    omega
theorem Num.clsS (h : Num n l of many) {b : Nat} (hb : b < many) : cls (bN n) (rB n l) (hd of many b) = (parts of many).getD b [] := by
  obtain ⟨g1, g2, g3⟩ := h.hdS hb
  rw [parts_get hb, h.len]
  unfold P11.cls
  apply List.filter_congr
  intro v hv
  have hv : v < bN n := by simpa using hv
  rw [Bool.eq_iff_iff, Bool.and_eq_true, ← h.same _ _ g1 hv, g2, beq_iff_eq]
  exact eq_comm
theorem Num.markS (h : Num n l of many) {tc : List Bool} (hl : tc.length = many) {b : Nat} (hb : b < many) : mark (bN n) (rB n l) (tv n of tc) (hd of many b) = tv n of (tc.set b true) := by
  obtain ⟨g1, g2, g3⟩ := h.hdS hb
  unfold P11.mark
  rw [show tv n of (tc.set b true) = (List.range (bN n)).map fun v => (tc.set b true).getD (ix of v - 1) false from rfl]
  apply List.map_congr_left
  intro v hv
  have hv : v < bN n := by simpa using hv
  obtain ⟨p1, p2⟩ := h.pos v hv
  rw [tv_getD hv]
  have hR : (rB n l (hd of many b) v && rB n l v (hd of many b)) = decide (ix of v - 1 = b) := by
    rw [Bool.eq_iff_iff, Bool.and_eq_true, ← h.same _ _ g1 hv, g2]
    simp; omega
  rw [hR]
  by_cases e : ix of v - 1 = b
  · simp [e, hl, hb]
  · simp only [List.getD_eq_getElem?_getD, List.getElem?_set_ne (Ne.symm e)]; simp [e]
theorem Num.shutS (h : Num n l of many) {tc : List Bool} (hl : tc.length = many) (hs : Shut (bN n) (rB n l) (tv n of tc)) {b : Nat} (hb : b < many) (h1 : tc.getD b false = false) (h2 : frB (parts of many) (toL n l) of tc b = true) : Shut (bN n) (rB n l) (tv n of (tc.set b true)) := by
  obtain ⟨g1, g2, g3⟩ := h.hdS hb
  have hset : ∀ v, v < bN n → ((tv n of (tc.set b true)).getD v false = true ↔ (tv n of tc).getD v false = true ∨ ix of v = b + 1) := by
    intro v hv
    obtain ⟨p1, p2⟩ := h.pos v hv
    rw [tv_getD hv, tv_getD hv]
    by_cases e : ix of v - 1 = b
    · simp [e, hl, hb]; right; omega
    · simp only [List.getD_eq_getElem?_getD, List.getElem?_set_ne (Ne.symm e)]
      constructor
      · exact .inl
      · rintro (h3 | h3)
        · exact h3
        · omega
  intro v w hv hw hvt hr
  rw [hset w hw]
  rcases (hset v hv).1 hvt with h3 | h3
  · exact .inl (hs v w hv hw h3 hr)
  · by_cases e : ix of w = b + 1
    · exact .inr e
    · left
      have hel := (elig_iff.1 ((h.eligS hs hb hv h3).2 ⟨h1, h2⟩)).2 w hw hr
      refine hel ?_
      cases hb2 : rB n l w v
      · rfl
      · exact absurd (((h.same v w hv hw).2 ⟨hr, hb2⟩).symm.trans h3) e
theorem Num.exists_ (h : Num n l of many) {tc : List Bool} (hl : tc.length = many) (hs : Shut (bN n) (rB n l) (tv n of tc)) (hu : 0 < unset tc) : ∃ c, c < many ∧ tc.getD c false = false ∧ frB (parts of many) (toL n l) of tc c = true := by
  obtain ⟨c, hc, e⟩ := List.mem_iff_getElem.1 (List.count_pos_iff.1 hu)
  have hcm : c < many := by omega
  obtain ⟨v, hv, he⟩ := h.each c hcm
  obtain ⟨k, hk⟩ := pick_exists (rB_trans n l) (rB_refl n l) (tl := tv n of tc) _ v hv (by rw [tv_getD hv, he]; simp [hc, e]) (Nat.le_refl _)
  obtain ⟨k1, k2, _⟩ := pick_some.1 hk
  obtain ⟨p1, p2⟩ := h.pos k k2
  have hkc : ix of k - 1 < many := by omega
  exact ⟨_, hkc, (h.eligS hs hkc k2 (by omega)).1 k1⟩
theorem Num.nextS (h : Num n l of many) {tc : List Bool} (hl : tc.length = many) (hs : Shut (bN n) (rB n l) (tv n of tc)) {b : Nat} (hb : b < many) (h1 : tc.getD b false = false) (h2 : frB (parts of many) (toL n l) of tc b = true)
    (hmin : ∀ c, c < many → tc.getD c false = false → frB (parts of many) (toL n l) of tc c = true → hd of many b ≤ hd of many c) : rest (bN n) (rB n l) (tv n of tc) = (parts of many).getD b [] :: rest (bN n) (rB n l) (tv n of (tc.set b true)) := by
  rw [rest_some (rB_refl n l) (tv_length tc) (h.pickS hs hb h1 h2 hmin), h.clsS hb, h.markS hl hb]
theorem rest_told (h : Num n l of many) {tc : List Bool} (hl : tc.length = many) (hu : unset tc = 0) : rest (bN n) (rB n l) (tv n of tc) = [] := by
  refine rest_none (pick_none.2 (fun k hk => ?_))
  cases he : P11.elig (bN n) (rB n l) (tv n of tc) k
  · rfl
  · have h1 := (elig_iff.1 he).1
    obtain ⟨p1, p2⟩ := h.pos k hk
    rw [tv_getD hk] at h1
    have hlt : ix of k - 1 < tc.length := by omega
    have h2 : tc[ix of k - 1] = false := by simpa [hlt] using h1
    have : false ∈ tc := h2 ▸ List.getElem_mem hlt
    have := List.count_pos_iff.2 this
    unfold unset at hu
    omega
end
end Go.Proofs.Ytdekelhmneeniaa.P11
