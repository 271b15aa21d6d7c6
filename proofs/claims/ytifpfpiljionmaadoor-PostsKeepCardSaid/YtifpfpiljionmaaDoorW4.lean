/- Chapter 16: some that may be; the last one's number. Printed by walk.py from w4.walk.py. -/
import Derived.Test.YtifpfpiljionmaaDoorW3
import Derived.Test.YtifpfpiljionmaaDoorSxX
set_option linter.unusedVariables false
set_option linter.unusedSimpArgs false
namespace Go.Proofs.YtifpfpiljionmaaDoor.F
open Go Go.SX
@[simp] theorem ePs_nil : ePs [] = [] := rfl
attribute [simp] ownAt asOwn boundc

theorem c42 : chkFn Tryd.prog 42 8 1 a42 a42R = true := by kernel_rfl
theorem d42 (es : List (List AV)) (hn : es.length < 1000000) : Does Tryd.prog 42 [.ro 5 es] [] [] (fun r m => r = .own 42005 5 0 es.length ∧ m = [(42005, .arr 33 5 es)]) := by
  refine Does.of (nt := 8) (ac := a42) (rds := a42R) c42 (fun c hc => ?_)
  unfold a42
  apply J.seq; refine J.regE (by simp; rfl) ?_
  simp
  apply J.seq; apply J.seq; refine J.regC (by simp; exact ⟨rfl, rfl⟩) ?_
  refine runL_ext (extK_isnil (sz := 5) (es := es) (by simp) (fun t ht => ?_))
  refine runL_end (by simp; rfl) ?_
  simp
  refine J.condB rfl (fun hb => ?_) (fun hb => ?_)
  · apply J.seq; refine J.regE (by simp; rfl) ?_
    simp
    refine J.nilrow hc 2 42005 33 rfl rfl rfl ?_
    simp
    apply J.ret
    refine ⟨by simp, rfl, _, [(42005, .arr 33 5 [])], by simp [a42R]; rfl, ?_⟩
    simp [ht hb]
  · apply J.skip; simp
    apply J.seq; refine J.regE (by simp [show es.length * 48 ≤ 140737488355328 from by omega]; rfl) ?_
    simp
    apply J.ret
    refine ⟨by simp, rfl, _, [(42005, .arr 33 5 es)], by simp [a42R]; rfl, ?_⟩
    simp

def fairL (l : List Post) : List Post := if mayPs l then l else []
theorem fairL_len (l : List Post) : (fairL l).length ≤ 32 := by
  unfold fairL
  split
  · rename_i h; simp only [mayPs, Bool.and_eq_true, decide_eq_true_eq] at h; exact h.2
  · simp
def fairM (l : List Post) : Mem := [(42005, .arr 33 5 (ePs (fairL l)))]

theorem c30o : chkFn Tryd.prog 30 8 1 a30 a30R = true := by kernel_rfl
/-- colloquy/posts.fair -/
theorem d30o (l : List Post) (hf : Fit l) : Does Tryd.prog 30 [.ro 5 (ePs l)] [] [] (fun r m => r = .own 42005 5 0 (fairL l).length ∧ m = fairM l) := by
  have hl := hf.len
  refine Does.of (nt := 8) (ac := a30) (rds := a30R) c30o (fun c hc => ?_)
  unfold a30
  apply J.seq
  refine J.regE (by simp; rfl) ?_
  simp
  apply J.seq
  apply J.seq
  apply J.reg
  refine runL_step rfl (by simp; rfl) ?_
  refine runL_tree rfl (d14 l hf) (by simp) hc ?_
  simp
  refine runL_step rfl (by simp; rfl) ?_
  simp [runL]
  refine J.condB rfl (fun hb => ?_) (fun hb => ?_)
  ·
    apply J.seq
    refine J.regE (by simp; rfl) ?_
    simp
    refine J.nilrow hc 2 42005 33 rfl rfl rfl ?_
    simp
    have hF : fairL l = [] := by unfold fairL; simp at hb; simp [hb]
    apply J.ret
    refine ⟨by simp, rfl, _, fairM l, by simp [a30R]; rfl, ?_⟩
    simp [hF, fairM]
  ·
    apply J.skip; simp
    apply J.seq
    apply J.reg
    refine runL_step rfl (by simp; rfl) ?_
    refine runL_call [] [] rfl rfl (d42 (ePs l) (by simp; omega)) (by simp) (by simp) (by simp) hc ?_
    rintro rv m1 ⟨rfl, rfl⟩
    refine ⟨by simp, ?_⟩
    simp
    refine runL_step rfl (by simp; rfl) ?_
    simp [runL]
    have hF : fairL l = l := by unfold fairL; simp at hb; simp [hb]
    apply J.ret
    refine ⟨by simp, rfl, _, fairM l, by simp [a30R]; rfl, ?_⟩
    simp [hF, fairM]

theorem d30 (l : List Post) (hf : Fit l) : DoesT 30 [.ro 5 (ePs l)] (.ro 5 (ePs (fairL l))) := by
  refine (d30o l hf).tree _ ?_
  rintro r m ⟨rfl, rfl⟩ A ρ' w' v hM hv
  exact .tree (own_tree (sz := 5) (by omega) hM rfl hv (by simp))

/-- posts.Last -/
def lastP (l : List Post) : Int := match (fairL l).getLast? with | some x => x.no | none => 0

theorem c16 : chkFn Tryd.prog 16 15 1 a16 a16R = true := by kernel_rfl
/-- colloquy/posts.Last -/
theorem d16 (l : List Post) (hf : Fit l) : DoesT 16 [.ro 5 (ePs l)] (iv (lastP l)) := by
  have hl := fairL_len l
  refine Does.of (nt := 15) (ac := a16) (rds := a16R) c16 (fun c hc => ?_)
  unfold a16
  apply J.seq
  refine J.regE (by simp; rfl) ?_
  simp
  apply J.seq
  apply J.seq
  apply J.reg
  refine runL_step rfl (by simp; rfl) ?_
  refine runL_tree rfl (d30 l hf) (by simp) hc ?_
  simp
  refine runL_step rfl (by simp; rfl) ?_
  simp [runL]
  apply J.seq
  refine J.regE (by simp; rfl) ?_
  simp
  refine J.condB rfl (fun hb => ?_) (fun hb => ?_)
  ·
    obtain ⟨k, hk⟩ : ∃ k, (fairL l).length = k + 1 := ⟨(fairL l).length - 1, by simp at hb; omega⟩
    obtain ⟨x, hx⟩ : ∃ x, (fairL l)[k]? = some x := ⟨_, List.getElem?_eq_getElem (by omega)⟩
    have hgx : ∀ h, (fairL l)[k]'h = x := fun h => by simpa [List.getElem?_eq_getElem h] using hx
    have hge : ∀ h, (ePs (fairL l))[k]'h = eP x := fun h => by
      have : (ePs (fairL l))[k]? = some (eP x) := by rw [ePs_get, hx]; rfl
      simpa [List.getElem?_eq_getElem h] using this
    have hw1 : IntKind.i64.wrap ((k : Int) + 1 - 1) = (k : Int) := by rw [wrap_id (by omega) (by omega)]; omega
    have hw2 : IntKind.i64.wrap (k : Int) = (k : Int) := wrap_id (by omega) (by omega)
    have hL : lastP l = x.no := by unfold lastP; rw [List.getLast?_eq_getElem?, hk]; simp [hx]
    apply J.seq
    apply J.reg
    iterate 8 refine runL_step rfl (by simp [hk, hge, hgx, eP, hw1, hw2, show (k : Int) < k + 1 from by omega]; rfl) ?_
    simp [runL]
    apply J.ret
    refine ⟨by simp, rfl, _, [], by simp [a16R]; rfl, ?_⟩
    simp [hL]
  ·
    have hL : lastP l = 0 := by
      have : fairL l = [] := by simpa using hb
      simp [lastP, this]
    apply J.skip; simp
    apply J.seq
    refine J.regE (by simp; rfl) ?_
    simp
    apply J.ret
    refine ⟨by simp, rfl, _, [], by simp [a16R]; rfl, ?_⟩
    simp [hL]

theorem c29 : chkFn Tryd.prog 29 6 2 a29 a29R = true := by kernel_rfl
/-- colloquy/posts.there -/
theorem d29 (es : List Post) (frm : Int) : Does Tryd.prog 29 [.own 42005 5 0 es.length, iv frm] [(42005, .arr 33 5 (ePs es))] [42005] (fun r m => r = .fn 41 [.ptr 29002 0 0 0, .ptr 29003 0 0 0] ∧ m = [(42005, .arr 33 5 (ePs es)), (29002, .obj 22 [.own 42005 5 0 es.length]), (29003, .obj 3 [iv frm])]) := by
  refine Does.of (nt := 6) (ac := a29) (rds := a29R) c29 (fun c hc => ?_)
  unfold a29
  apply J.seq
  refine J.regE (by simp; rfl) ?_
  simp
  apply J.seq
  refine J.regE (by simp; rfl) ?_
  simp
  apply J.ret
  refine ⟨by simp, rfl, _, [(42005, .arr 33 5 (ePs es)), (29002, .obj 22 [.own 42005 5 0 es.length]), (29003, .obj 3 [iv frm])], by simp [a29R]; rfl, ?_⟩
  simp

end Go.Proofs.YtifpfpiljionmaaDoor.F
