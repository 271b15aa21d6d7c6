/- Chapter 16: may a post be? Printed by walk.py from w2.walk.py. -/
import Derived.Test.YtifpfpiljionmaaDoorW1
set_option linter.unusedVariables false
set_option linter.unusedSimpArgs false
namespace Go.Proofs.YtifpfpiljionmaaDoor.F
open Go Go.SX

/-- Is a text none? -/
def noT (s : ByteArray) : Bool := s.toList.isEmpty
/-- posts.may -/
def mayP (x : Post) : Bool := (x.gone == noT x.text) && (x.gone || Tryd.mayR x.text) && btw x.no 1 1073741824 && btw x.user 1 1048576 && btw x.edits 0 1073741824

theorem c28 : chkFn Tryd.prog 28 33 1 a28 a28R = true := by kernel_rfl
/-- colloquy/posts.may -/
theorem d28 (x : Post) (hs : x.text.size ≤ 9223372036854775807) : DoesT 28 [.agg (eP x)] (bv (mayP x)) := by
  obtain ⟨no, user, text, edits, gone⟩ := x
  obtain ⟨em, hem⟩ : ∃ em, noT text = em := ⟨_, rfl⟩
  have hem' : text.toList.isEmpty = em := hem
  refine Does.of (nt := 33) (ac := a28) (rds := a28R) c28 (fun c hc => ?_)
  unfold a28
  apply J.seq
  refine J.regE (by simp [eP]; rfl) ?_
  simp
  apply J.seq
  apply J.seq
  cases gone <;> cases em
  ·
    apply J.reg
    iterate 13 refine runL_step rfl (by simp [hem']; rfl) ?_
    refine runL_do (by simp [hem']) ?_
    refine runL_tree rfl (d36 text hs) (by simp) hc ?_
    simp
    iterate 3 refine runL_step rfl (by simp [hem']; rfl) ?_
    simp [runL]
    refine J.condB rfl (fun hm => ?_) (fun hm => ?_)
    ·
      simp at hm
      apply J.seq
      refine J.regE (by simp; rfl) ?_
      simp
      apply J.ret
      refine ⟨by simp, rfl, _, [], by simp [a28R]; rfl, ?_⟩
      simp [mayP, hem, *]
    ·
      simp at hm
      apply J.skip; simp
      apply J.seq
      rcases b2 (btw no 1 1073741824) (btw user 1 1048576) with h1 | ⟨h1, h2⟩ | ⟨h1, h2⟩
      ·
        apply J.reg
        iterate 2 refine runL_step rfl (by simp [h1]; rfl) ?_
        refine runL_tree rfl (d39 _ _ _) (by simp) hc ?_
        simp
        iterate 3 refine runL_step rfl (by simp [h1]; rfl) ?_
        refine runL_pass rfl (by decide) ?_
        simp
        iterate 4 refine runL_step rfl (by simp [h1]; rfl) ?_
        refine runL_pass rfl (by decide) ?_
        simp
        iterate 2 refine runL_step rfl (by simp [h1]; rfl) ?_
        simp [runL]
        apply J.ret
        refine ⟨by simp, rfl, _, [], by simp [a28R]; rfl, ?_⟩
        simp [mayP, hem, *]
      ·
        apply J.reg
        iterate 2 refine runL_step rfl (by simp [h1, h2]; rfl) ?_
        refine runL_tree rfl (d39 _ _ _) (by simp) hc ?_
        simp
        iterate 3 refine runL_step rfl (by simp [h1, h2]; rfl) ?_
        refine runL_do (by simp [h1, h2]) ?_
        refine runL_tree rfl (d39 _ _ _) (by simp) hc ?_
        simp
        iterate 4 refine runL_step rfl (by simp [h1, h2]; rfl) ?_
        refine runL_pass rfl (by decide) ?_
        simp
        iterate 2 refine runL_step rfl (by simp [h1, h2]; rfl) ?_
        simp [runL]
        apply J.ret
        refine ⟨by simp, rfl, _, [], by simp [a28R]; rfl, ?_⟩
        simp [mayP, hem, *]
      ·
        apply J.reg
        iterate 2 refine runL_step rfl (by simp [h1, h2]; rfl) ?_
        refine runL_tree rfl (d39 _ _ _) (by simp) hc ?_
        simp
        iterate 3 refine runL_step rfl (by simp [h1, h2]; rfl) ?_
        refine runL_do (by simp [h1, h2]) ?_
        refine runL_tree rfl (d39 _ _ _) (by simp) hc ?_
        simp
        iterate 4 refine runL_step rfl (by simp [h1, h2]; rfl) ?_
        refine runL_do (by simp [h1, h2]) ?_
        refine runL_tree rfl (d39 _ _ _) (by simp) hc ?_
        simp
        iterate 2 refine runL_step rfl (by simp [h1, h2]; rfl) ?_
        simp [runL]
        apply J.ret
        refine ⟨by simp, rfl, _, [], by simp [a28R]; rfl, ?_⟩
        simp [mayP, hem, *]
  ·
    apply J.reg
    iterate 13 refine runL_step rfl (by simp [hem']; rfl) ?_
    refine runL_pass rfl (by decide) ?_
    simp
    iterate 3 refine runL_step rfl (by simp [hem']; rfl) ?_
    simp [runL]
    apply J.cond; simp
    apply J.seq
    refine J.regE (by simp; rfl) ?_
    simp
    apply J.ret
    refine ⟨by simp, rfl, _, [], by simp [a28R]; rfl, ?_⟩
    simp [mayP, hem, *]
  ·
    apply J.reg
    iterate 13 refine runL_step rfl (by simp [hem']; rfl) ?_
    refine runL_pass rfl (by decide) ?_
    simp
    iterate 3 refine runL_step rfl (by simp [hem']; rfl) ?_
    simp [runL]
    apply J.cond; simp
    apply J.seq
    refine J.regE (by simp; rfl) ?_
    simp
    apply J.ret
    refine ⟨by simp, rfl, _, [], by simp [a28R]; rfl, ?_⟩
    simp [mayP, hem, *]
  ·
    apply J.reg
    iterate 13 refine runL_step rfl (by simp [hem']; rfl) ?_
    refine runL_pass rfl (by decide) ?_
    simp
    iterate 3 refine runL_step rfl (by simp [hem']; rfl) ?_
    simp [runL]
    apply J.cond; simp
    apply J.skip; simp
    apply J.seq
    rcases b2 (btw no 1 1073741824) (btw user 1 1048576) with h1 | ⟨h1, h2⟩ | ⟨h1, h2⟩
    ·
      apply J.reg
      iterate 2 refine runL_step rfl (by simp [h1]; rfl) ?_
      refine runL_tree rfl (d39 _ _ _) (by simp) hc ?_
      simp
      iterate 3 refine runL_step rfl (by simp [h1]; rfl) ?_
      refine runL_pass rfl (by decide) ?_
      simp
      iterate 4 refine runL_step rfl (by simp [h1]; rfl) ?_
      refine runL_pass rfl (by decide) ?_
      simp
      iterate 2 refine runL_step rfl (by simp [h1]; rfl) ?_
      simp [runL]
      apply J.ret
      refine ⟨by simp, rfl, _, [], by simp [a28R]; rfl, ?_⟩
      simp [mayP, hem, *]
    ·
      apply J.reg
      iterate 2 refine runL_step rfl (by simp [h1, h2]; rfl) ?_
      refine runL_tree rfl (d39 _ _ _) (by simp) hc ?_
      simp
      iterate 3 refine runL_step rfl (by simp [h1, h2]; rfl) ?_
      refine runL_do (by simp [h1, h2]) ?_
      refine runL_tree rfl (d39 _ _ _) (by simp) hc ?_
      simp
      iterate 4 refine runL_step rfl (by simp [h1, h2]; rfl) ?_
      refine runL_pass rfl (by decide) ?_
      simp
      iterate 2 refine runL_step rfl (by simp [h1, h2]; rfl) ?_
      simp [runL]
      apply J.ret
      refine ⟨by simp, rfl, _, [], by simp [a28R]; rfl, ?_⟩
      simp [mayP, hem, *]
    ·
      apply J.reg
      iterate 2 refine runL_step rfl (by simp [h1, h2]; rfl) ?_
      refine runL_tree rfl (d39 _ _ _) (by simp) hc ?_
      simp
      iterate 3 refine runL_step rfl (by simp [h1, h2]; rfl) ?_
      refine runL_do (by simp [h1, h2]) ?_
      refine runL_tree rfl (d39 _ _ _) (by simp) hc ?_
      simp
      iterate 4 refine runL_step rfl (by simp [h1, h2]; rfl) ?_
      refine runL_do (by simp [h1, h2]) ?_
      refine runL_tree rfl (d39 _ _ _) (by simp) hc ?_
      simp
      iterate 2 refine runL_step rfl (by simp [h1, h2]; rfl) ?_
      simp [runL]
      apply J.ret
      refine ⟨by simp, rfl, _, [], by simp [a28R]; rfl, ?_⟩
      simp [mayP, hem, *]

end Go.Proofs.YtifpfpiljionmaaDoor.F
