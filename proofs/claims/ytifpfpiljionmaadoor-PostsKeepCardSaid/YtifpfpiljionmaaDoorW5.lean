/- Chapter 16: the three functions that posts.change is handed. Printed by walk.py from w5.walk.py. -/
import Derived.Test.YtifpfpiljionmaaDoorW4
set_option linter.unusedVariables false
set_option linter.unusedSimpArgs false
namespace Go.Proofs.YtifpfpiljionmaaDoor.F
open Go Go.SX

theorem ePs_set (es : List Post) (i : Nat) (x : Post) : (ePs es).set i (eP x) = ePs (es.set i x) := by simp [ePs, List.map_set]
theorem ePs_at {es : List Post} {i : Nat} {x : Post} (hx : es[i]? = some x) : i < es.length ∧ (∀ h, es[i]'h = x) ∧ ∀ h, (ePs es)[i]'h = eP x := by
  refine ⟨(List.getElem?_eq_some_iff.1 hx).1, fun h => by simpa [List.getElem?_eq_getElem h] using hx, fun h => ?_⟩
  have : (ePs es)[i]? = some (eP x) := by rw [ePs_get, hx]; rfl
  simpa [List.getElem?_eq_getElem h] using this
def dofE (user : Int) (s : ByteArray) (x : Post) : Post × Int := if x.user ≠ user then (x, 8) else if 1073741824 ≤ x.edits then (x, 7) else ({ x with text := s, edits := x.edits + 1 }, 0)
def dofD (user owner : Int) (x : Post) : Post × Int := if user ≠ x.user ∧ user ≠ owner then (x, 8) else ({ x with text := ⟨#[]⟩, gone := true }, 0)

theorem c32 : chkFn Tryd.prog 32 7 1 a32 a32R = true := by kernel_rfl
/-- colloquy/posts.Find$1 -/
theorem d32 (f0 x : Post) (es : List Post) (i : Nat) (hx : es[i]? = some x) : Does Tryd.prog 32 [.ptr 42005 5 i 0, .ptr 17006 0 0 0] [(17006, .obj 33 (eP f0)), (42005, .arr 33 5 (ePs es))] [17006, 42005] (fun r m => r = iv 0 ∧ m = [(17006, .obj 33 (eP x)), (42005, .arr 33 5 (ePs es))]) := by
  obtain ⟨hi, hgx, hge⟩ := ePs_at hx
  refine Does.of (nt := 7) (ac := a32) (rds := a32R) c32 (fun c hc => ?_)
  unfold a32
  apply J.seq
  refine J.regE (by simp; rfl) ?_
  simp
  apply J.seq
  apply J.reg
  iterate 4 refine runL_step rfl (by simp [hi, hge, eP, look_upd]; rfl) ?_
  simp [runL]
  apply J.seq
  refine J.regE (by simp; rfl) ?_
  simp
  apply J.ret
  refine ⟨by simp, rfl, _, [(17006, .obj 33 (eP x)), (42005, .arr 33 5 (ePs es))], by simp [a32R]; rfl, ?_⟩
  simp [eP]

theorem c37 : chkFn Tryd.prog 37 29 1 a37 a37R = true := by kernel_rfl
/-- colloquy/posts.Edit$1 -/
theorem d37 (user : Int) (s : ByteArray) (x : Post) (es : List Post) (i : Nat) (hx : es[i]? = some x) (hm : mayP x = true) : Does Tryd.prog 37 [.ptr 42005 5 i 0, .ptr 22006 0 0 0, .ptr 22007 0 0 0] [(22006, .obj 3 [iv user]), (22007, .obj 9 [sv s]), (42005, .arr 33 5 (ePs es))] [22006, 22007, 42005] (fun r m => r = iv (dofE user s x).2 ∧ m = [(22006, .obj 3 [iv user]), (22007, .obj 9 [sv s]), (42005, .arr 33 5 (ePs (es.set i (dofE user s x).1)))]) := by
  obtain ⟨hi, hgx, hge⟩ := ePs_at hx
  have hed : 0 ≤ x.edits ∧ x.edits ≤ 1073741824 := by
    simp only [mayP, btw, Bool.and_eq_true, decide_eq_true_eq] at hm; exact hm.2
  have hw : IntKind.i64.wrap (x.edits + 1) = x.edits + 1 := wrap_id (by omega) (by omega)
  have hsame : es.set i x = es := by rw [← hgx hi]; exact List.set_getElem_self hi
  refine Does.of (nt := 29) (ac := a37) (rds := a37R) c37 (fun c hc => ?_)
  unfold a37
  apply J.seq
  refine J.regE (by simp; rfl) ?_
  simp
  apply J.seq
  apply J.block
  apply J.seq
  apply J.draw; intro c' hc'
  iterate 7 refine runP_step rfl (by simp [hi, hge, eP, look_upd]; rfl) ?_
  simp [runP]
  refine J.condB rfl (fun h1 => ?_) (fun h1 => ?_)
  ·
    simp at h1
    apply J.seq
    refine J.regE (by simp; rfl) ?_
    simp
    apply J.ret
    refine ⟨by simp, rfl, _, [(22006, .obj 3 [iv user]), (22007, .obj 9 [sv s]), (42005, .arr 33 5 (ePs es))], by simp [a37R]; rfl, ?_⟩
    simp [dofE, h1, hsame]
  ·
    simp at h1
    apply J.seq
    apply J.reg
    iterate 6 refine runL_step rfl (by simp [hi, hge, eP]; rfl) ?_
    simp [runL]
    refine J.condB rfl (fun h2 => ?_) (fun h2 => ?_)
    ·
      simp at h2
      apply J.seq
      refine J.regE (by simp; rfl) ?_
      simp
      apply J.ret
      refine ⟨by simp, rfl, _, [(22006, .obj 3 [iv user]), (22007, .obj 9 [sv s]), (42005, .arr 33 5 (ePs es))], by simp [a37R]; rfl, ?_⟩
      simp [dofE, h1, h2, hsame]
    ·
      simp at h2
      apply J.skip; simp
      apply J.seq
      apply J.reg
      iterate 5 refine runL_step rfl (by simp [hi, hge, eP]; rfl) ?_
      simp [runL]
      apply J.seq
      apply J.reg
      iterate 8 refine runL_step rfl (by simp [hi, hge, eP, hw]; rfl) ?_
      simp [runL]
      apply J.seq
      refine J.regE (by simp; rfl) ?_
      simp
      apply J.ret
      refine ⟨by simp, rfl, _, [(22006, .obj 3 [iv user]), (22007, .obj 9 [sv s]), (42005, .arr 33 5 (ePs (es.set i { x with text := s, edits := x.edits + 1 })))], by simp [a37R]; rfl, ?_⟩
      have h3 : ¬ 1073741824 ≤ x.edits := by omega
      simp [dofE, h1, h3, eP, ← ePs_set]

theorem c38 : chkFn Tryd.prog 38 22 1 a38 a38R = true := by kernel_rfl
/-- colloquy/posts.Delete$1 -/
theorem d38 (user owner : Int) (x : Post) (es : List Post) (i : Nat) (hx : es[i]? = some x) : Does Tryd.prog 38 [.ptr 42005 5 i 0, .ptr 23006 0 0 0, .ptr 23007 0 0 0] [(23006, .obj 3 [iv user]), (23007, .obj 3 [iv owner]), (42005, .arr 33 5 (ePs es))] [23006, 23007, 42005] (fun r m => r = iv (dofD user owner x).2 ∧ m = [(23006, .obj 3 [iv user]), (23007, .obj 3 [iv owner]), (42005, .arr 33 5 (ePs (es.set i (dofD user owner x).1)))]) := by
  obtain ⟨hi, hgx, hge⟩ := ePs_at hx
  have hsame : es.set i x = es := by rw [← hgx hi]; exact List.set_getElem_self hi
  refine Does.of (nt := 22) (ac := a38) (rds := a38R) c38 (fun c hc => ?_)
  unfold a38
  apply J.seq
  refine J.regE (by simp; rfl) ?_
  simp
  apply J.seq
  apply J.seq
  by_cases h1 : user = x.user
  ·
    apply J.draw; intro c' hc'
    iterate 11 refine runP_stepQ (by simp [hi, hge, eP, look_upd, h1]; rfl) ?_
    simp [runP]
    apply J.cond; simp
    apply J.skip; simp
    apply J.seq
    apply J.reg
    iterate 8 refine runL_step rfl (by simp [hi, hge, eP]; rfl) ?_
    simp [runL]
    apply J.seq
    refine J.regE (by simp; rfl) ?_
    simp
    apply J.ret
    refine ⟨by simp, rfl, _, [(23006, .obj 3 [iv user]), (23007, .obj 3 [iv owner]), (42005, .arr 33 5 (ePs (es.set i { x with text := ⟨#[]⟩, gone := true })))], by simp [a38R]; rfl, ?_⟩
    simp [dofD, h1, eP, ← ePs_set]
  ·
    apply J.draw; intro c' hc'
    iterate 11 refine runP_stepQ (by simp [hi, hge, eP, look_upd, h1]; rfl) ?_
    simp [runP]
    refine J.condB rfl (fun h2 => ?_) (fun h2 => ?_)
    ·
      simp at h2
      apply J.seq
      refine J.regE (by simp; rfl) ?_
      simp
      apply J.ret
      refine ⟨by simp, rfl, _, [(23006, .obj 3 [iv user]), (23007, .obj 3 [iv owner]), (42005, .arr 33 5 (ePs es))], by simp [a38R]; rfl, ?_⟩
      simp [dofD, h1, h2, hsame]
    ·
      simp at h2
      apply J.skip; simp
      apply J.seq
      apply J.reg
      iterate 8 refine runL_step rfl (by simp [hi, hge, eP]; rfl) ?_
      simp [runL]
      apply J.seq
      refine J.regE (by simp; rfl) ?_
      simp
      apply J.ret
      refine ⟨by simp, rfl, _, [(23006, .obj 3 [iv user]), (23007, .obj 3 [iv owner]), (42005, .arr 33 5 (ePs (es.set i { x with text := ⟨#[]⟩, gone := true })))], by simp [a38R]; rfl, ?_⟩
      simp [dofD, h1, h2, eP, ← ePs_set]

end Go.Proofs.YtifpfpiljionmaaDoor.F
