/- Chapter 11: the document's From, Reaches, Closure. Printed by walk.py from g2.walk.py. -/
import Derived.Test.YthccfgkklimebaaReach
set_option linter.unusedVariables false
set_option linter.unusedSimpArgs false
namespace Go.Proofs.Ythccfgkklimebaa.F
open Go Go.SX

def stF (n : Int) (l : List (Int × Int)) (out : List Bool) (s : Slots) : St := ⟨(0, iv n) :: (1, .ro 2 (eds l)) :: (7, .own 24015 1 0 (bN n)) :: s, [(24015, .arr 4 1 (bools out))], []⟩
/-- A pass of the document's. -/
structure Pass (n : Int) (l : List (Int × Int)) (a : Nat) (out0 out : List Bool) (more : Bool) (i : Nat) : Prop where
  part : Part n l a out
  le : unset out ≤ unset out0
  lt : more = true → unset out < unset out0
  shut : more = false → ∀ k (h : k < l.length), k < i → ∀ u v : Nat, l[k] = ((u : Int), (v : Int)) → u < bN n → v < bN n → out.getD u false = true → out.getD v false = true
theorem Pass.skip {n : Int} {l : List (Int × Int)} {a : Nat} {out0 out : List Bool} {more : Bool} {i : Nat} (h : Pass n l a out0 out more i) (hi : i < l.length) (hk : ∀ u v : Nat, l[i] = ((u : Int), (v : Int)) → u < bN n → v < bN n → out.getD u false = true → out.getD v false = true) : Pass n l a out0 out more (i + 1) := by
  refine { h with shut := fun hm k hkl hki => ?_ }
  by_cases e : k = i
  · subst e; exact hk
  · exact h.shut hm k hkl (by omega)
def shutAll (n : Int) (l : List (Int × Int)) (out : List Bool) : Prop := ∀ k (h : k < l.length), k < l.length → ∀ u v : Nat, l[k] = ((u : Int), (v : Int)) → u < bN n → v < bN n → out.getD u false = true → out.getD v false = true
def I24 (n : Int) (l : List (Int × Int)) (a : Nat) (m : Nat) (st : St) : Prop := ∃ out more, Part n l a out ∧ (more = false → shutAll n l out) ∧ m = 2 * unset out + more.toNat ∧ st = ⟨[(0, iv n), (1, .ro 2 (eds l)), (7, .own 24015 1 0 (bN n)), (9, bv more)], [(24015, .arr 4 1 (bools out))], []⟩
def I24b (n : Int) (l : List (Int × Int)) (a : Nat) (out0 : List Bool) (m : Nat) (st : St) : Prop := ∃ (i : Nat) (out : List Bool) (more : Bool), i ≤ l.length ∧ Pass n l a out0 out more i ∧ m = l.length - i ∧ st = ⟨[(0, iv n), (1, .ro 2 (eds l)), (7, .own 24015 1 0 (bN n)), (9, bv more), (10, iv i)], [(24015, .arr 4 1 (bools out))], []⟩

theorem c24 : chkFn Try.prog 24 79 3 a24 a24R = true := by kernel_rfl
/-- colloquy/colloquyref11.From -/
theorem d24 (n : Int) (l : List (Int × Int)) (a : Int) (hl : l.length ≤ 1000000) : DoesT 24 [iv n, .ro 2 (eds l), iv a] (.ro 1 (bools (fromL n l a))) := by
  have hN := bN_le n
  have hNb : ((bN n : Nat) : Int) ≤ 281474976710656 := by omega
  refine Does.of (nt := 79) (ac := a24) (rds := a24R) c24 (fun c hc => ?_)
  unfold a24
  apply J.seq
  refine J.regE (by simp; rfl) ?_
  simp
  apply J.seq
  apply J.reg
  refine runL_step rfl (by simp [hNb, bools_zero]; rfl) ?_
  refine runL_tree rfl (d23 n) (by simp) hc ?_
  simp
  iterate 2 refine runL_step rfl (by simp [hNb, bools_zero]; rfl) ?_
  simp [runL]
  apply J.seq
  apply J.reg
  iterate 2 refine runL_step rfl (by simp; rfl) ?_
  refine runL_tree rfl (d26 n a) (by simp) hc ?_
  simp
  refine runL_step rfl (by simp; rfl) ?_
  simp [runL]
  apply J.seq
  apply J.seq
  cases hA : isT n a
  ·
    refine J.regE (by simp; rfl) ?_
    simp
    apply J.cond; simp
    apply J.seq
    refine J.freeze hc 24015 rfl ?_
    simp
    refine J.regE (by simp; rfl) ?_
    simp
    apply J.ret
    refine ⟨by simp, rfl, _, [], by simp [a24R]; rfl, ?_⟩
    simp [fromL, hA]
  ·
    refine J.regE (by simp; rfl) ?_
    simp
    apply J.cond; simp
    apply J.skip; simp
    apply J.seq
    obtain ⟨h0, h1⟩ := (isT_iff _ _).1 hA
    obtain ⟨a, rfl⟩ := Int.eq_ofNat_of_zero_le h0
    have ha : a < bN n := by omega
    refine J.regE (by simp [ha]; rfl) ?_
    simp
    apply J.seq
    apply J.seq
    refine J.regE (by simp; rfl) ?_
    simp
    apply J.block
    refine J.loop hc (I24 n l a) ?_ ?_
    · exact ⟨_, _, St.le_refl _, _, true, Part.start ha, by simp, rfl, rfl⟩
    rintro n st ⟨out0, more, hP, hS, rfl, rfl⟩
    apply J.seq
    apply J.seq
    cases more
    ·
      refine J.regE (by simp; rfl) ?_
      simp
      apply J.cond; simp
      apply J.exit; simp
      apply J.seq
      refine J.freeze hc 24015 rfl ?_
      simp
      refine J.regE (by simp; rfl) ?_
      simp
      apply J.ret
      refine ⟨by simp, rfl, _, [], by simp [a24R]; rfl, ?_⟩
      have := hP.eq (fun u v he hu => by
        obtain ⟨h1, h2, h3⟩ := he
        obtain ⟨k, hk, e⟩ := List.mem_iff_getElem.1 h3
        exact hS rfl k hk hk u v e h1 h2 hu)
      simp [this, ← hP.len]
    ·
      refine J.regE (by simp; rfl) ?_
      simp
      apply J.cond; simp
      apply J.skip; simp
      apply J.block
      apply J.seq
      refine J.regE (by simp; rfl) ?_
      simp
      apply J.seq
      refine J.regE (by simp; rfl) ?_
      simp
      apply J.block
      refine J.loop hc (I24b n l a out0) ?_ ?_
      · exact ⟨_, _, St.le_refl _, 0, out0, false, by simp, ⟨hP, Nat.le_refl _, by simp, fun _ k _ hk => by omega⟩, rfl, rfl⟩
      rintro n st ⟨i, out, more, hi, hP, rfl, rfl⟩
      apply J.seq
      apply J.seq
      refine J.regE (by simp; rfl) ?_
      simp
      apply J.cond; simp
      refine ⟨fun hlt => ?_, fun hlt => ?_⟩
      ·
        apply J.skip; simp
        apply J.seq
        apply J.block
        apply J.seq
        obtain ⟨⟨x, y⟩, hxy⟩ : ∃ p, l[i] = p := ⟨_, rfl⟩
        have hw : IntKind.i64.wrap ((i : Int) + 1) = i + 1 := wrap_id (by omega) (by omega)
        apply J.reg
        iterate 6 refine runL_step rfl (by simp [hlt, hxy]; rfl) ?_
        refine runL_tree rfl (d26 n x) (by simp) hc ?_
        simp
        refine runL_step rfl (by simp [hlt, hxy]; rfl) ?_
        simp [runL]
        apply J.seq
        apply J.reg
        iterate 6 refine runL_step rfl (by simp [hlt, hxy]; rfl) ?_
        refine runL_tree rfl (d26 n y) (by simp) hc ?_
        simp
        refine runL_step rfl (by simp [hlt, hxy]; rfl) ?_
        simp [runL]
        apply J.seq
        have hlen := hP.part.len
        have hcases : (isT n x = false) ∨ (isT n x = true ∧ isT n y = false) ∨ ∃ u v : Nat, x = u ∧ y = v ∧ u < bN n ∧ v < bN n ∧ isT n x = true ∧ isT n y = true := by
          cases hx : isT n x
          · simp
          · cases hy : isT n y
            · simp
            · right; right
              obtain ⟨h1, h2⟩ := (isT_iff _ _).1 hx
              obtain ⟨h3, h4⟩ := (isT_iff _ _).1 hy
              obtain ⟨u, rfl⟩ := Int.eq_ofNat_of_zero_le h1
              obtain ⟨v, rfl⟩ := Int.eq_ofNat_of_zero_le h3
              exact ⟨u, v, rfl, rfl, by omega, by omega, rfl, rfl⟩
        have hcase2 : (isT n x = false) ∨ (isT n x = true ∧ isT n y = false) ∨ (∃ u v : Nat, ∃ (hu : u < out.length) (hv : v < out.length), x = u ∧ y = v ∧ u < bN n ∧ v < bN n ∧ isT n x = true ∧ isT n y = true ∧ out[u] = false) ∨ (∃ u v : Nat, ∃ (hu : u < out.length) (hv : v < out.length), x = u ∧ y = v ∧ u < bN n ∧ v < bN n ∧ isT n x = true ∧ isT n y = true ∧ out[u] = true ∧ out[v] = true) ∨
            (∃ u v : Nat, ∃ (hu : u < out.length) (hv : v < out.length), x = u ∧ y = v ∧ u < bN n ∧ v < bN n ∧ isT n x = true ∧ isT n y = true ∧ out[u] = true ∧ out[v] = false) := by
          rcases hcases with h | h | ⟨u, v, rfl, rfl, hu, hv, hx, hy⟩
          · exact .inl h
          · exact .inr (.inl h)
          · right; right
            have hul : u < out.length := by omega
            have hvl : v < out.length := by omega
            cases h1 : out[u]
            · exact .inl ⟨u, v, hul, hvl, rfl, rfl, hu, hv, hx, hy, h1⟩
            · cases h2 : out[v]
              · exact .inr (.inr ⟨u, v, hul, hvl, rfl, rfl, hu, hv, hx, hy, h1, h2⟩)
              · exact .inr (.inl ⟨u, v, hul, hvl, rfl, rfl, hu, hv, hx, hy, h1, h2⟩)
        have hbad : (isT n x = false ∨ isT n y = false) → Pass n l a out0 out more (i + 1) := fun hb => hP.skip hlt (fun u v e hu hv _ => by
          rw [hxy] at e; injection e with e1 e2; subst e1; subst e2
          have h1 : isT n u = true := (isT_iff _ _).2 ⟨by omega, by omega⟩
          have h2 : isT n v = true := (isT_iff _ _).2 ⟨by omega, by omega⟩
          rcases hb with hb | hb
          · rw [h1] at hb; cases hb
          · rw [h2] at hb; cases hb)
        rcases hcase2 with hx | ⟨hx, hy⟩ | ⟨u, v, hul, hvl, rfl, rfl, hu, hv, hx, hy, hou⟩ | ⟨u, v, hul, hvl, rfl, rfl, hu, hv, hx, hy, hou, hov⟩ | ⟨u, v, hul, hvl, rfl, rfl, hu, hv, hx, hy, hou, hov⟩
        ·
          have hnext := hbad (.inl hx)
          apply J.reg
          iterate 25 refine runL_step rfl (by simp [hx]; rfl) ?_
          simp [runL]
          apply J.cond; simp
          apply J.skip; simp
          refine J.regE (by simp [hw]; rfl) ?_
          simp
          exact ⟨_, by omega, _, by apply le_sub <;> simp, i + 1, _, _, by omega, hnext, rfl, rfl⟩
        ·
          have hnext := hbad (.inr hy)
          apply J.reg
          iterate 25 refine runL_step rfl (by simp [hx, hy]; rfl) ?_
          simp [runL]
          apply J.cond; simp
          apply J.skip; simp
          refine J.regE (by simp [hw]; rfl) ?_
          simp
          exact ⟨_, by omega, _, by apply le_sub <;> simp, i + 1, _, _, by omega, hnext, rfl, rfl⟩
        ·
          have hnext : Pass n l a out0 out more (i + 1) := hP.skip hlt (fun u' v' e _ _ hb => by
            rw [hxy] at e; injection e with e1 e2
            have : u' = u := by omega
            subst this
            simp [hul, hou] at hb)
          apply J.reg
          iterate 25 refine runL_step rfl (by simp [hx, hy, hlt, hxy, hu, hv, hul, hvl, hou]; rfl) ?_
          simp [runL]
          apply J.cond; simp
          apply J.skip; simp
          refine J.regE (by simp [hw]; rfl) ?_
          simp
          exact ⟨_, by omega, _, by apply le_sub <;> simp, i + 1, _, _, by omega, hnext, rfl, rfl⟩
        ·
          have hnext : Pass n l a out0 out more (i + 1) := hP.skip hlt (fun u' v' e _ _ hb => by
            rw [hxy] at e; injection e with e1 e2
            have : v' = v := by omega
            subst this
            simp [hvl, hov])
          apply J.reg
          iterate 25 refine runL_step rfl (by simp [hx, hy, hlt, hxy, hu, hv, hul, hvl, hou, hov]; rfl) ?_
          simp [runL]
          apply J.cond; simp
          apply J.skip; simp
          refine J.regE (by simp [hw]; rfl) ?_
          simp
          exact ⟨_, by omega, _, by apply le_sub <;> simp, i + 1, _, _, by omega, hnext, rfl, rfl⟩
        ·
          have hun := unset_set hvl hov
          have hle := hP.le
          have hnext : Pass n l a out0 (out.set v true) true (i + 1) := ⟨hP.part.more (u := u) (by simp [hul, hou]) ⟨hu, hv, hxy ▸ List.getElem_mem hlt⟩, by omega, fun _ => by omega, fun h => by cases h⟩
          apply J.reg
          iterate 25 refine runL_step rfl (by simp [hx, hy, hlt, hxy, hu, hv, hul, hvl, hou, hov]; rfl) ?_
          simp [runL]
          apply J.cond; simp
          apply J.seq
          refine J.regE (by simp [hlt, hxy, hv, hvl]; rfl) ?_
          simp
          refine J.regE (by simp; rfl) ?_
          simp
          refine J.regE (by simp [hw]; rfl) ?_
          simp
          exact ⟨_, by omega, _, by apply le_sub <;> simp, i + 1, _, _, by omega, hnext, rfl, rfl⟩
      ·
        have : i = l.length := by omega
        subst this
        apply J.exit; simp
        refine ⟨_, ?_, _, by apply le_sub <;> simp, out, more, hP.part, hP.shut, rfl, rfl⟩
        have h1 := hP.le
        have h2 := hP.lt
        cases more <;> simp at h2 ⊢ <;> omega
        done

end Go.Proofs.Ythccfgkklimebaa.F
