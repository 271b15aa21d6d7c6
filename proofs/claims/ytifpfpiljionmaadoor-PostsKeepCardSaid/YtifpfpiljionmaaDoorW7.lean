/- Chapter 16: posts.Find, Edit, Delete, Add. Printed by walk.py from w7.walk.py. -/
import Derived.Test.YtifpfpiljionmaaDoorW6
set_option linter.unusedVariables false
set_option linter.unusedSimpArgs false
namespace Go.Proofs.YtifpfpiljionmaaDoor.F
open Go Go.SX

@[simp] theorem take_ePs (l : List Post) : List.take l.length (ePs l) = ePs l := List.take_of_length_le (by simp)
def zeroP : Post := ⟨0, 0, ⟨#[]⟩, 0, false⟩
/-- posts.Find -/
def findP (l : List Post) (no : Int) : Post × Int := match stopAt no (fairL l) 0 with | none => (zeroP, 5) | some (_, x) => (x, 0)
/-- posts.Edit -/
def editP (l : List Post) (no user : Int) (s : ByteArray) : List Post × Int := if Tryd.mayR s = false then ([], 1) else match stopAt no (fairL l) 0 with
  | none => ([], 5)
  | some (i, x) => if (dofE user s x).2 = 0 then ((fairL l).set i (dofE user s x).1, 0) else ([], (dofE user s x).2)
/-- posts.Delete -/
def delP (l : List Post) (no user owner : Int) : List Post × Int := match stopAt no (fairL l) 0 with
  | none => ([], 5)
  | some (i, x) => if (dofD user owner x).2 = 0 then ((fairL l).set i (dofD user owner x).1, 0) else ([], (dofD user owner x).2)
/-- posts.Add -/
def addP (l : List Post) (user : Int) (s : ByteArray) : List Post × Int := if btw user 1 1048576 = false ∨ Tryd.mayR s = false then ([], 1) else if 1073741824 ≤ lastP l then ([], 7) else
  let m := fairL l ++ [⟨lastP l + 1, user, s, 0, false⟩]
  (m.drop (m.length - 32), 0)
theorem stopAt_get {no : Int} {x : Post} : ∀ {es : List Post} {k i : Nat}, stopAt no es k = some (i, x) → k ≤ i ∧ es[i - k]? = some x ∧ x.no = no ∧ x.gone = false
  | [], _, _, h => by simp [stopAt] at h
  | y :: r, k, i, h => by
    simp only [stopAt] at h
    split at h
    · rename_i hh
      split at h
      · rename_i hno
        simp only [Option.some.injEq, Prod.mk.injEq] at h
        obtain ⟨rfl, rfl⟩ := h
        simp only [hit, Bool.and_eq_true, Bool.not_eq_true'] at hh
        exact ⟨Nat.le_refl _, by simp, hno, hh.1⟩
      · cases h
    · obtain ⟨h1, h2, h3⟩ := stopAt_get h
      refine ⟨by omega, ?_, h3⟩
      obtain ⟨d, rfl⟩ : ∃ d, i = k + 1 + d := ⟨i - (k + 1), by omega⟩
      have e1 : k + 1 + d - k = d + 1 := by omega
      have e2 : k + 1 + d - (k + 1) = d := by omega
      rw [e2] at h2
      rw [e1]; simpa using h2

theorem c17 : chkFn Tryd.prog 17 18 2 a17 a17R = true := by kernel_rfl
/-- colloquy/posts.Find -/
theorem d17 (l : List Post) (no : Int) (hf : Fit l) : DoesT 17 [.ro 5 (ePs l), iv no] (.tup [.agg (eP (findP l no).1), iv (findP l no).2]) := by
  refine Does.of (nt := 18) (ac := a17) (rds := a17R) c17 (fun c hc => ?_)
  unfold a17
  apply J.seq
  refine J.regE (by simp; rfl) ?_
  simp
  apply J.seq
  refine J.regE (by simp; rfl) ?_
  simp
  apply J.seq
  rcases hst : stopAt no (fairL l) 0 with _ | ⟨i, x⟩
  ·
    apply J.reg
    iterate 3 refine runL_step rfl (by simp; rfl) ?_
    refine runL_call [17006] [17006] rfl rfl (d31F l no zeroP hf) (by simp) (by simp) (by simp) hc ?_
    intro rv m1 hp
    unfold Post31F at hp
    rw [hst] at hp
    obtain ⟨rfl, rfl⟩ := hp
    refine ⟨by simp, ?_⟩
    simp
    iterate 5 refine runL_step rfl (by simp; rfl) ?_
    simp [runL]
    apply J.seq
    refine J.regE (by simp [eP]; rfl) ?_
    simp
    apply J.ret
    refine ⟨by simp, rfl, _, [], by simp [a17R]; rfl, ?_⟩
    simp [findP, hst, eP, zeroP]
  ·
    apply J.reg
    iterate 3 refine runL_step rfl (by simp; rfl) ?_
    refine runL_call [17006] [17006] rfl rfl (d31F l no zeroP hf) (by simp) (by simp) (by simp) hc ?_
    intro rv m1 hp
    unfold Post31F at hp
    rw [hst] at hp
    obtain ⟨hx, rfl, rfl⟩ := hp
    refine ⟨by simp, ?_⟩
    simp
    iterate 5 refine runL_step rfl (by simp; rfl) ?_
    simp [runL]
    apply J.seq
    refine J.regE (by simp [eP]; rfl) ?_
    simp
    apply J.ret
    refine ⟨by simp, rfl, _, [], by simp [a17R]; rfl, ?_⟩
    simp [findP, hst, eP, zeroP]

theorem c22 : chkFn Tryd.prog 22 19 4 a22 a22R = true := by kernel_rfl
/-- colloquy/posts.Edit -/
theorem d22 (l : List Post) (no user : Int) (s : ByteArray) (hf : Fit l) (hs : s.size ≤ 9223372036854775807) : DoesT 22 [.ro 5 (ePs l), iv no, iv user, sv s] (.tup [.ro 5 (ePs (editP l no user s).1), iv (editP l no user s).2]) := by
  refine Does.of (nt := 19) (ac := a22) (rds := a22R) c22 (fun c hc => ?_)
  unfold a22
  apply J.seq
  refine J.regE (by simp; rfl) ?_
  simp
  apply J.seq
  apply J.seq
  apply J.reg
  refine runL_step rfl (by simp; rfl) ?_
  refine runL_tree rfl (d36 s hs) (by simp) hc ?_
  simp
  refine runL_step rfl (by simp; rfl) ?_
  simp [runL]
  refine J.condB rfl (fun hb => ?_) (fun hb => ?_)
  ·
    apply J.seq
    refine J.regE (by simp; rfl) ?_
    simp
    refine J.nilrow hc 8 98 33 rfl rfl rfl ?_
    simp
    refine J.freeze hc 98 rfl ?_
    simp [St.freeze]
    apply J.ret
    refine ⟨by simp, rfl, _, [], by simp [a22R]; rfl, ?_⟩
    simp at hb
    simp [editP, hb]
  ·
    simp at hb
    apply J.skip; simp
    apply J.seq
    have hways : (stopAt no (fairL l) 0 = none) ∨ (∃ i x, stopAt no (fairL l) 0 = some (i, x) ∧ (dofE user s x).2 = 0) ∨ (∃ i x, stopAt no (fairL l) 0 = some (i, x) ∧ (dofE user s x).2 ≠ 0) := by
      rcases stopAt no (fairL l) 0 with _ | ⟨i, x⟩
      · exact .inl rfl
      · by_cases h : (dofE user s x).2 = 0
        · exact .inr (.inl ⟨i, x, rfl, h⟩)
        · exact .inr (.inr ⟨i, x, rfl, h⟩)
    rcases hways with hst | ⟨i, x, hst, he⟩ | ⟨i, x, hst, he⟩
    ·
      apply J.reg
      iterate 3 refine runL_step rfl (by simp; rfl) ?_
      refine runL_call [22006, 22007] [22006, 22007] rfl rfl (d31E l no user s hf) (by simp) (by simp) (by simp) hc ?_
      intro rv m1 hp
      unfold Post31E at hp
      rw [hst] at hp
      obtain ⟨rfl, rfl⟩ := hp
      refine ⟨by simp, ?_⟩
      simp
      iterate 4 refine runL_step rfl (by simp; rfl) ?_
      simp [runL]
      refine J.nilrow hc 8 98 33 rfl rfl rfl ?_
      simp
      refine J.freeze hc 98 rfl ?_
      simp [St.freeze]
      apply J.ret
      refine ⟨by simp, rfl, _, [], by simp [a22R]; rfl, ?_⟩
      simp [editP, hst, hb]
    ·
      apply J.reg
      iterate 3 refine runL_step rfl (by simp; rfl) ?_
      refine runL_call [22006, 22007] [22006, 22007] rfl rfl (d31E l no user s hf) (by simp) (by simp) (by simp) hc ?_
      intro rv m1 hp
      unfold Post31E at hp
      rw [hst] at hp
      obtain ⟨hx, rfl, rfl⟩ := hp
      refine ⟨by simp, ?_⟩
      simp
      iterate 4 refine runL_step rfl (by simp; rfl) ?_
      simp [runL]
      simp only [resE, he, if_true]
      refine J.freeze hc 42005 rfl ?_
      simp [St.freeze]
      rw [List.take_of_length_le (by simp)]
      apply J.ret
      refine ⟨by simp, rfl, _, [], by simp [a22R]; rfl, ?_⟩
      simp [editP, hst, hb, he]
    ·
      apply J.reg
      iterate 3 refine runL_step rfl (by simp; rfl) ?_
      refine runL_call [22006, 22007] [22006, 22007] rfl rfl (d31E l no user s hf) (by simp) (by simp) (by simp) hc ?_
      intro rv m1 hp
      unfold Post31E at hp
      rw [hst] at hp
      obtain ⟨hx, rfl, rfl⟩ := hp
      refine ⟨by simp, ?_⟩
      simp
      iterate 4 refine runL_step rfl (by simp; rfl) ?_
      simp [runL]
      simp only [resE, he, if_false]
      refine J.nilrow hc 8 98 33 rfl rfl rfl ?_
      simp
      refine J.freeze hc 98 rfl ?_
      simp [St.freeze]
      apply J.ret
      refine ⟨by simp, rfl, _, [], by simp [a22R]; rfl, ?_⟩
      simp [editP, hst, hb, he]

theorem c23 : chkFn Tryd.prog 23 16 4 a23 a23R = true := by kernel_rfl
/-- colloquy/posts.Delete -/
theorem d23 (l : List Post) (no user owner : Int) (hf : Fit l) : DoesT 23 [.ro 5 (ePs l), iv no, iv user, iv owner] (.tup [.ro 5 (ePs (delP l no user owner).1), iv (delP l no user owner).2]) := by
  refine Does.of (nt := 16) (ac := a23) (rds := a23R) c23 (fun c hc => ?_)
  unfold a23
  apply J.seq
  refine J.regE (by simp; rfl) ?_
  simp
  apply J.seq
  have hways : (stopAt no (fairL l) 0 = none) ∨ (∃ i x, stopAt no (fairL l) 0 = some (i, x) ∧ (dofD user owner x).2 = 0) ∨ (∃ i x, stopAt no (fairL l) 0 = some (i, x) ∧ (dofD user owner x).2 ≠ 0) := by
    rcases stopAt no (fairL l) 0 with _ | ⟨i, x⟩
    · exact .inl rfl
    · by_cases h : (dofD user owner x).2 = 0
      · exact .inr (.inl ⟨i, x, rfl, h⟩)
      · exact .inr (.inr ⟨i, x, rfl, h⟩)
  rcases hways with hst | ⟨i, x, hst, he⟩ | ⟨i, x, hst, he⟩
  ·
    apply J.reg
    iterate 3 refine runL_step rfl (by simp; rfl) ?_
    refine runL_call [23006, 23007] [23006, 23007] rfl rfl (d31D l no user owner hf) (by simp) (by simp) (by simp) hc ?_
    intro rv m1 hp
    unfold Post31D at hp
    rw [hst] at hp
    obtain ⟨rfl, rfl⟩ := hp
    refine ⟨by simp, ?_⟩
    simp
    iterate 4 refine runL_step rfl (by simp; rfl) ?_
    simp [runL]
    refine J.nilrow hc 8 98 33 rfl rfl rfl ?_
    simp
    refine J.freeze hc 98 rfl ?_
    simp [St.freeze]
    apply J.ret
    refine ⟨by simp, rfl, _, [], by simp [a23R]; rfl, ?_⟩
    simp [delP, hst]
  ·
    apply J.reg
    iterate 3 refine runL_step rfl (by simp; rfl) ?_
    refine runL_call [23006, 23007] [23006, 23007] rfl rfl (d31D l no user owner hf) (by simp) (by simp) (by simp) hc ?_
    intro rv m1 hp
    unfold Post31D at hp
    rw [hst] at hp
    obtain ⟨hx, rfl, rfl⟩ := hp
    refine ⟨by simp, ?_⟩
    simp
    iterate 4 refine runL_step rfl (by simp; rfl) ?_
    simp [runL]
    simp only [resD, he, if_true]
    refine J.freeze hc 42005 rfl ?_
    simp [St.freeze]
    rw [List.take_of_length_le (by simp)]
    apply J.ret
    refine ⟨by simp, rfl, _, [], by simp [a23R]; rfl, ?_⟩
    simp [delP, hst, he]
  ·
    apply J.reg
    iterate 3 refine runL_step rfl (by simp; rfl) ?_
    refine runL_call [23006, 23007] [23006, 23007] rfl rfl (d31D l no user owner hf) (by simp) (by simp) (by simp) hc ?_
    intro rv m1 hp
    unfold Post31D at hp
    rw [hst] at hp
    obtain ⟨hx, rfl, rfl⟩ := hp
    refine ⟨by simp, ?_⟩
    simp
    iterate 4 refine runL_step rfl (by simp; rfl) ?_
    simp [runL]
    simp only [resD, he, if_false]
    refine J.nilrow hc 8 98 33 rfl rfl rfl ?_
    simp
    refine J.freeze hc 98 rfl ?_
    simp [St.freeze]
    apply J.ret
    refine ⟨by simp, rfl, _, [], by simp [a23R]; rfl, ?_⟩
    simp [delP, hst, he]

theorem mayFrom_len {l : List Post} (h : mayPs l = true) : l.length ≤ 32 := by simp only [mayPs, Bool.and_eq_true, decide_eq_true_eq] at h; exact h.2
theorem fairL_fair (l : List Post) : fairL (fairL l) = fairL l := by
  unfold fairL
  by_cases h : mayPs l = true
  · simp [h]
  · simp [h]
theorem fairL_fit {l : List Post} (hf : Fit l) : Fit (fairL l) := by
  refine ⟨by have := fairL_len l; omega, fun x hx => hf.txt x ?_⟩
  unfold fairL at hx
  split at hx
  · exact hx
  · simp at hx
theorem lastP_fair (l : List Post) : lastP (fairL l) = lastP l := by unfold lastP; rw [fairL_fair]
theorem lastP_bd (l : List Post) : 0 ≤ lastP l ∧ lastP l ≤ 1073741824 := by
  unfold lastP
  split
  · rename_i x h
    have := mayP_no (fairL_may x (List.mem_of_getLast? h))
    omega
  · omega

theorem c24 : chkFn Tryd.prog 24 39 3 a24 a24R = true := by kernel_rfl
/-- colloquy/posts.Add -/
theorem d24 (l : List Post) (user : Int) (s : ByteArray) (hf : Fit l) (hs : s.size ≤ 9223372036854775807) : DoesT 24 [.ro 5 (ePs l), iv user, sv s] (.tup [.ro 5 (ePs (addP l user s).1), iv (addP l user s).2]) := by
  have hlen := fairL_len l
  have hlb := lastP_bd l
  have hw : IntKind.i64.wrap (lastP l + 1) = lastP l + 1 := wrap_id (by omega) (by omega)
  refine Does.of (nt := 39) (ac := a24) (rds := a24R) c24 (fun c hc => ?_)
  unfold a24
  apply J.seq
  refine J.regE (by simp; rfl) ?_
  simp
  apply J.seq
  apply J.reg
  refine runL_step rfl (by simp; rfl) ?_
  refine runL_call [] [] rfl rfl (d30o l hf) (by simp) (by simp) (by simp) hc ?_
  rintro rv m1 ⟨rfl, rfl⟩
  refine ⟨by simp [fairM], ?_⟩
  simp [fairM]
  refine runL_step rfl (by simp; rfl) ?_
  simp [runL]
  apply J.seq
  apply J.reg
  refine runL_step rfl (by simp; rfl) ?_
  have hview := le_freeze ⟨[(0, .own 42005 5 0 (fairL l).length), (1, iv user), (2, sv s), (11, .own 42005 5 0 (fairL l).length)], [(42005, .arr 33 5 (ePs (fairL l)))], []⟩ 42005 rfl
  simp [St.freeze] at hview
  refine runL_view hview rfl rfl (d16 (fairL l) (fairL_fit hf)) (by simp) ?_
  rintro rv m1 ⟨rfl, rfl⟩
  refine ⟨rfl, rfl, ?_⟩
  rw [lastP_fair]
  simp
  refine runL_step rfl (by simp; rfl) ?_
  simp [runL]
  apply J.seq
  apply J.block
  apply J.seq
  rcases b2 (btw user 1 1048576) (Tryd.mayR s) with h1 | ⟨h1, h2⟩ | ⟨h1, h2⟩
  ·
    apply J.reg
    refine runL_step rfl (by simp [h1]; rfl) ?_
    refine runL_tree rfl (d39 _ _ _) (by simp) hc ?_
    simp
    iterate 3 refine runL_step rfl (by simp [h1]; rfl) ?_
    refine runL_pass rfl (by decide) ?_
    simp
    iterate 3 refine runL_step rfl (by simp [h1]; rfl) ?_
    simp [runL]
    apply J.cond; simp
    apply J.seq
    refine J.regE (by simp; rfl) ?_
    simp
    refine J.nilrow hc 6 98 33 rfl rfl rfl ?_
    simp
    refine J.freeze hc 98 rfl ?_
    simp [St.freeze]
    apply J.ret
    refine ⟨by simp, rfl, _, [], by simp [a24R]; rfl, ?_⟩
    simp [addP, h1]
  ·
    apply J.reg
    refine runL_step rfl (by simp [h1, h2]; rfl) ?_
    refine runL_tree rfl (d39 _ _ _) (by simp) hc ?_
    simp
    iterate 3 refine runL_step rfl (by simp [h1, h2]; rfl) ?_
    refine runL_do (by simp [h1, h2]) ?_
    refine runL_tree rfl (d36 s hs) (by simp) hc ?_
    simp
    iterate 3 refine runL_step rfl (by simp [h1, h2]; rfl) ?_
    simp [runL]
    apply J.cond; simp
    apply J.seq
    refine J.regE (by simp; rfl) ?_
    simp
    refine J.nilrow hc 6 98 33 rfl rfl rfl ?_
    simp
    refine J.freeze hc 98 rfl ?_
    simp [St.freeze]
    apply J.ret
    refine ⟨by simp, rfl, _, [], by simp [a24R]; rfl, ?_⟩
    simp [addP, h1, h2]
  ·
    apply J.reg
    refine runL_step rfl (by simp [h1, h2]; rfl) ?_
    refine runL_tree rfl (d39 _ _ _) (by simp) hc ?_
    simp
    iterate 3 refine runL_step rfl (by simp [h1, h2]; rfl) ?_
    refine runL_do (by simp [h1, h2]) ?_
    refine runL_tree rfl (d36 s hs) (by simp) hc ?_
    simp
    iterate 3 refine runL_step rfl (by simp [h1, h2]; rfl) ?_
    simp [runL]
    apply J.cond; simp
    apply J.seq
    refine J.regE (by simp; rfl) ?_
    simp
    refine J.condB rfl (fun h3 => ?_) (fun h3 => ?_)
    ·
      simp at h3
      apply J.seq
      refine J.regE (by simp; rfl) ?_
      simp
      refine J.nilrow hc 6 98 33 rfl rfl rfl ?_
      simp
      refine J.freeze hc 98 rfl ?_
      simp [St.freeze]
      apply J.ret
      refine ⟨by simp, rfl, _, [], by simp [a24R]; rfl, ?_⟩
      simp [addP, h1, h2, h3]
    ·
      simp at h3
      apply J.skip; simp
      apply J.seq
      refine J.regE (by simp [hw, show ((fairL l).length + 1) * 48 ≤ 140737488355328 from by omega]; rfl) ?_
      simp
      obtain ⟨m, hm⟩ : ∃ m, fairL l ++ [⟨lastP l + 1, user, s, 0, false⟩] = m := ⟨_, rfl⟩
      have hmm : ePs (fairL l) ++ [[iv (lastP l + 1), iv user, sv s, iv 0, bv false]] = ePs m := by rw [← hm]; simp [ePs, eP]
      have hml : (fairL l).length + 1 = m.length := by rw [← hm]; simp
      have hml2 : ((fairL l).length : Int) + 1 = (m.length : Int) := by omega
      have hA : addP l user s = (m.drop (m.length - 32), 0) := by simp only [addP, h1, h2, hm]; simp; omega
      rw [hmm, hml]
      have hm33 : m.length ≤ 33 := by omega
      have hm1 : 1 ≤ m.length := by omega
      clear hm hmm
      apply J.seq
      rcases (show m.length ≤ 32 ∨ m.length = 33 by omega) with h5 | h5
      ·
        apply J.reg
        iterate 8 refine runL_step rfl (by simp [show IntKind.i64.wrap ((m.length : Int) - 32) = (m.length : Int) - 32 from wrap_id (by omega) (by omega), show (if (m.length : Int) - 32 < 0 then (0 : Int) else (m.length : Int) - 32) = 0 from by split <;> omega, show (0 : Int) ≤ m.length from by omega]; rfl) ?_
        simp [runL]
        refine J.freeze hc 42005 rfl ?_
        simp [St.freeze]
        apply J.ret
        refine ⟨by simp, rfl, _, [], by simp [a24R]; rfl, ?_⟩
        rw [hA]
        simp [show m.length - 32 = 0 from by omega]
      ·
        apply J.reg
        iterate 8 refine runL_step rfl (by simp [h5, show IntKind.i64.wrap 1 = 1 from rfl]; rfl) ?_
        simp [runL]
        refine J.freeze hc 42005 rfl ?_
        simp [St.freeze]
        apply J.ret
        refine ⟨by simp, rfl, _, [], by simp [a24R]; rfl, ?_⟩
        rw [hA]
        simp [h5]
        rw [show (ePs m).tail = ePs m.tail from by simp [ePs, List.map_tail], List.take_of_length_le (by simp; omega)]

end Go.Proofs.YtifpfpiljionmaaDoor.F
