/- Chapter 16: may posts be? Printed by walk.py from w3.walk.py. -/
import Derived.Test.YtifpfpiljionmaaDoorW2
set_option linter.unusedVariables false
set_option linter.unusedSimpArgs false
namespace Go.Proofs.YtifpfpiljionmaaDoor.F
open Go Go.SX
attribute [simp] ePs_length

def mayFrom : Option Int → List Post → Bool
  | _, [] => true
  | p, x :: r => mayP x && (match p with | none => true | some q => x.no == q + 1) && mayFrom (some x.no) r
/-- posts.May -/
def mayPs (l : List Post) : Bool := mayFrom none l && decide (l.length ≤ 32)
def prev (l : List Post) : Nat → Option Int
  | 0 => none
  | i + 1 => (l[i]?).map (·.no)
/-- No more than a machine takes. -/
structure Fit (l : List Post) : Prop where
  len : l.length < 1000000
  txt : ∀ x ∈ l, x.text.size ≤ 100000

theorem mayP_no {x : Post} (h : mayP x = true) : 1 ≤ x.no ∧ x.no ≤ 1073741824 := by
  simp only [mayP, btw, Bool.and_eq_true, decide_eq_true_eq] at h
  exact ⟨h.1.1.2.1, h.1.1.2.2⟩

def I14 (l : List Post) (m : Nat) (st : St) : Prop := ∃ i : Nat, i ≤ l.length ∧ m = l.length - i ∧ mayFrom none l = mayFrom (prev l i) (l.drop i) ∧ (∀ j y, j < i → l[j]? = some y → mayP y = true) ∧ st = ⟨[(0, .ro 5 (ePs l)), (5, .ro 5 (ePs l)), (6, iv (l.length : Nat)), (7, iv (i : Nat))], [], []⟩

theorem c14 : chkFn Tryd.prog 14 35 1 a14 a14R = true := by kernel_rfl
/-- colloquy/posts.May -/
theorem d14 (l : List Post) (hf : Fit l) : DoesT 14 [.ro 5 (ePs l)] (bv (mayPs l)) := by
  have hl := hf.len
  refine Does.of (nt := 35) (ac := a14) (rds := a14R) c14 (fun c hc => ?_)
  unfold a14
  apply J.seq
  refine J.regE (by simp; rfl) ?_
  simp
  apply J.seq
  apply J.seq
  refine J.regE (by simp; rfl) ?_
  simp
  apply J.block
  refine J.loop hc (I14 l) ?_ ?_
  · exact ⟨_, _, St.le_refl _, 0, by omega, rfl, rfl, fun j y h => absurd h (by omega), by simp⟩
  rintro n st ⟨i, hi, rfl, hI, hM, rfl⟩
  apply J.seq
  refine J.regE (by simp; rfl) ?_
  simp
  apply J.seq
  apply J.cond; simp
  refine ⟨fun hlt => ?_, fun hlt => ?_⟩
  ·
    have hlt' : i < l.length := by omega
    obtain ⟨x, hx⟩ : ∃ x, l[i]? = some x := ⟨_, List.getElem?_eq_getElem hlt'⟩
    have hg : (ePs l)[i]? = some (eP x) := by rw [ePs_get, hx]; rfl
    have hge : ∀ h, (ePs l)[i]'h = eP x := fun h => by simpa [List.getElem?_eq_getElem h] using hg
    have hsx : x.text.size ≤ 9223372036854775807 := by have := hf.txt x (List.mem_of_getElem? hx); omega
    have hw : IntKind.i64.wrap ((i : Int) + 1) = (i : Int) + 1 := wrap_id (by omega) (by omega)
    have hgx : ∀ h, l[i]'h = x := fun h => by simpa [List.getElem?_eq_getElem h] using hx
    have hdr : l.drop i = x :: l.drop (i + 1) := by rw [List.drop_eq_getElem_cons hlt', hgx]
    rw [hdr] at hI
    apply J.skip; simp
    apply J.seq
    apply J.block
    apply J.seq
    apply J.reg
    iterate 6 refine runL_step rfl (by simp [hlt', hge, hgx, eP]; rfl) ?_
    simp [runL]
    apply J.seq
    rcases (show mayP x = false ∨ (mayP x = true ∧ i = 0) ∨ (mayP x = true ∧ ∃ j, i = j + 1) by cases hm : mayP x <;> cases i <;> simp) with hm | ⟨hm, rfl⟩ | ⟨hm, j, rfl⟩
    ·
      apply J.draw; intro c' hc'
      refine runP_stepQ (by simp [hm, eP]; rfl) ?_
      refine runP_tree rfl (d28 x hsx) (by simp) rfl ?_
      simp
      iterate 17 refine runP_stepQ (by simp [hm, eP]; rfl) ?_
      simp [runP]
      have hI2 : mayFrom none l = false := by rw [hI]; simp [mayFrom, hm]
      apply J.cond; simp
      apply J.seq
      refine J.regE (by simp; rfl) ?_
      simp
      apply J.ret
      refine ⟨by simp, rfl, _, [], by simp [a14R]; rfl, ?_⟩
      simp [mayPs, hI2]
    ·
      apply J.draw; intro c' hc'
      refine runP_stepQ (by simp [hm, eP]; rfl) ?_
      refine runP_tree rfl (d28 x hsx) (by simp) rfl ?_
      simp
      iterate 17 refine runP_stepQ (by simp [hm, eP]; rfl) ?_
      simp [runP]
      have hI' : mayFrom none l = mayFrom (prev l (0 + 1)) (l.drop (0 + 1)) := by rw [hI]; simp [mayFrom, hm, prev, hx]
      have hM' : ∀ j y, j < 0 + 1 → l[j]? = some y → mayP y = true := by
        intro j y hj hy
        obtain rfl : j = 0 := by omega
        rw [hx] at hy; injection hy with hy; subst hy; exact hm
      apply J.cond; simp
      apply J.skip; simp
      refine J.regE (by simp [show IntKind.i64.wrap 1 = 1 from rfl]; rfl) ?_
      simp
      refine ⟨_, by omega, _, ?_, 0 + 1, by omega, rfl, hI', hM', rfl⟩
      apply le_sub <;> simp
    ·
      have hlj : j < l.length := by omega
      obtain ⟨y, hy⟩ : ∃ y, l[j]? = some y := ⟨_, List.getElem?_eq_getElem hlj⟩
      have hgy : ∀ h, l[j]'h = y := fun h => by simpa [List.getElem?_eq_getElem h] using hy
      have hgey : ∀ h, (ePs l)[j]'h = eP y := fun h => by
        have : (ePs l)[j]? = some (eP y) := by rw [ePs_get, hy]; rfl
        simpa [List.getElem?_eq_getElem h] using this
      have hwj : IntKind.i64.wrap (((j : Int) + 1) - 1) = (j : Int) := by rw [wrap_id (by omega) (by omega)]; omega
      have hwj' : IntKind.i64.wrap (j : Int) = (j : Int) := wrap_id (by omega) (by omega)
      have hwc : IntKind.i64.wrap ((j : Int) + 1 + 1) = (j : Int) + 1 + 1 := wrap_id (by omega) (by omega)
      have hyn := mayP_no (hM j y (by omega) hy)
      have hwn : IntKind.i64.wrap (y.no + 1) = y.no + 1 := wrap_id (by omega) (by omega)
      have hM' : ∀ k z, k < j + 1 + 1 → l[k]? = some z → mayP z = true := by
        intro k z hk hz
        by_cases e : k = j + 1
        · subst e; rw [hx] at hz; injection hz with hz; subst hz; exact hm
        · exact hM k z (by omega) hz
      apply J.draw; intro c' hc'
      refine runP_stepQ (by simp [hm, eP, hlj, hgy, hwj, hwj', hgey, hwn]; rfl) ?_
      refine runP_tree rfl (d28 x hsx) (by simp) rfl ?_
      simp
      iterate 17 refine runP_stepQ (by simp [hm, eP, hlj, hgy, hwj, hwj', hgey, hwn]; rfl) ?_
      simp [runP]
      refine J.condB rfl (fun hb => ?_) (fun hb => ?_)
      ·
        have hI2 : mayFrom none l = false := by
          rw [hI]; simp [mayFrom, hm, prev, hy]; simp at hb; exact fun h => absurd h hb
        apply J.seq
        refine J.regE (by simp; rfl) ?_
        simp
        apply J.ret
        refine ⟨by simp, rfl, _, [], by simp [a14R]; rfl, ?_⟩
        simp [mayPs, hI2]
      ·
        have hI' : mayFrom none l = mayFrom (prev l (j + 1 + 1)) (l.drop (j + 1 + 1)) := by
          rw [hI]; simp [mayFrom, hm, prev, hx, hy]; simp at hb; simp [hb]
        apply J.skip; simp
        refine J.regE (by simp [hwc]; rfl) ?_
        simp
        refine ⟨_, by omega, _, ?_, j + 1 + 1, by omega, rfl, hI', hM', rfl⟩
        apply le_sub <;> simp
  ·
    have hie : i = l.length := by omega
    subst hie
    apply J.exit; simp
    apply J.seq
    refine J.regE (by simp; rfl) ?_
    simp
    apply J.ret
    refine ⟨by simp, rfl, _, [], by simp [a14R]; rfl, ?_⟩
    simp [mayPs, hI, mayFrom]; omega

end Go.Proofs.YtifpfpiljionmaaDoor.F
