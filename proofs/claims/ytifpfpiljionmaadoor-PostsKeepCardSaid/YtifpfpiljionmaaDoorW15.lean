/- Chapter 16: what is done; the chapter's examples. Printed by walk.py from w15.walk.py. -/
import Derived.Test.YtifpfpiljionmaaDoorW14
set_option linter.unusedVariables false
set_option linter.unusedSimpArgs false
namespace Go.Proofs.YtifpfpiljionmaaDoor.F
open Go Go.SX

structure POp where
  kind : Int
  no : Int
  user : Int
  owner : Int
  text : ByteArray
def eO (o : POp) : List AV := [iv o.kind, iv o.no, iv o.user, iv o.owner, sv o.text]
def doesP (l : List Post) (o : POp) : List Post × Int := if o.kind = 0 then addP l o.user o.text else if o.kind = 1 then editP l o.no o.user o.text else delP l o.no o.user o.owner
def tx : ByteArray := ⟨#[120]⟩
def ty : ByteArray := ⟨#[121]⟩
def p1 : Post := ⟨1, 1, tx, 0, false⟩
def p2 : Post := ⟨2, 2, ty, 0, false⟩
def p3 : Post := ⟨1, 1, ⟨#[]⟩, 0, true⟩
theorem ex1 : addP [] 1 tx = ([p1], 0) := by kernel_rfl
theorem ex2 : addP [p1] 2 ty = ([p1, p2], 0) := by kernel_rfl
theorem ex3 : delP [p1, p2] 1 1 9 = ([p3, p2], 0) := by kernel_rfl
theorem ex4 : editP [p3, p2] 1 1 ⟨#[122]⟩ = ([], 5) := by kernel_rfl
theorem ex5 : pageP [p3, p2] 1 5 = ([p2], 0) := by kernel_rfl
theorem ex6 : lastP [p1, p2] = 2 := by kernel_rfl

theorem c11 : chkFn Tryd.prog 11 48 2 a11 a11R = true := by kernel_rfl
/-- colloquy/colloquylaw16.does -/
theorem d11 (l : List Post) (o : POp) (hf : Fit l) (hs' : o.text.size ≤ 100000) : DoesT 11 [.ro 5 (ePs l), .agg (eO o)] (.tup [.ro 5 (ePs (doesP l o).1), iv (doesP l o).2]) := by
  have hs : o.text.size ≤ 9223372036854775807 := by omega
  refine Does.of (nt := 48) (ac := a11) (rds := a11R) c11 (fun c hc => ?_)
  unfold a11
  apply J.seq
  refine J.regE (by simp [eO]; rfl) ?_
  simp
  apply J.seq
  refine J.regE (by simp; rfl) ?_
  simp
  apply J.seq
  refine J.regE (by simp; rfl) ?_
  simp
  apply J.seq
  apply J.seq
  refine J.regE (by simp; rfl) ?_
  simp
  apply J.block
  apply J.seq
  refine J.regE (by simp; rfl) ?_
  simp
  refine J.condB rfl (fun h22 => ?_) (fun h22 => ?_)
  ·
    try simp only [h22]
    try simp at h22
    apply J.reg
    iterate 5 refine runL_step rfl (by simp; rfl) ?_
    refine runL_tree rfl (d24 l _ _ hf hs) (by simp) hc ?_
    simp
    iterate 5 refine runL_step rfl (by simp; rfl) ?_
    simp [runL]
    apply J.seq
    refine J.regE (by simp; rfl) ?_
    simp
    apply J.ret
    refine ⟨by simp, rfl, _, [], by simp [a11R]; rfl, ?_⟩
    simp [doesP, h22]
  ·
    try simp only [h22]
    try simp at h22
    apply J.seq
    refine J.regE (by simp; rfl) ?_
    simp
    refine J.condB rfl (fun h33 => ?_) (fun h33 => ?_)
    ·
      try simp only [h33]
      try simp at h33
      apply J.reg
      iterate 7 refine runL_step rfl (by simp; rfl) ?_
      refine runL_tree rfl (d22 l _ _ _ hf hs) (by simp) hc ?_
      simp
      iterate 5 refine runL_step rfl (by simp; rfl) ?_
      simp [runL]
      apply J.seq
      refine J.regE (by simp; rfl) ?_
      simp
      apply J.ret
      refine ⟨by simp, rfl, _, [], by simp [a11R]; rfl, ?_⟩
      simp [doesP, h22, h33]
    ·
      try simp only [h33]
      try simp at h33
      apply J.reg
      iterate 7 refine runL_step rfl (by simp; rfl) ?_
      refine runL_tree rfl (d23 l _ _ _ hf) (by simp) hc ?_
      simp
      iterate 5 refine runL_step rfl (by simp; rfl) ?_
      simp [runL]
      apply J.seq
      refine J.regE (by simp; rfl) ?_
      simp
      apply J.ret
      refine ⟨by simp, rfl, _, [], by simp [a11R]; rfl, ?_⟩
      simp [doesP, h22, h33]

theorem c12 : chkFn Tryd.prog 12 48 2 a12 a12R = true := by kernel_rfl
/-- colloquy/colloquylaw16.did -/
theorem d12 (l : List Post) (o : POp) (hf : Fit l) (hs' : o.text.size ≤ 100000) : DoesT 12 [.ro 5 (ePs l), .agg (eO o)] (.tup [.ro 5 (ePs (doesP l o).1), iv (doesP l o).2]) := by
  have hs : o.text.size ≤ 9223372036854775807 := by omega
  refine Does.of (nt := 48) (ac := a12) (rds := a12R) c12 (fun c hc => ?_)
  unfold a12
  apply J.seq
  refine J.regE (by simp [eO]; rfl) ?_
  simp
  apply J.seq
  refine J.regE (by simp; rfl) ?_
  simp
  apply J.seq
  refine J.regE (by simp; rfl) ?_
  simp
  apply J.seq
  apply J.seq
  refine J.regE (by simp; rfl) ?_
  simp
  apply J.block
  apply J.seq
  refine J.regE (by simp; rfl) ?_
  simp
  refine J.condB rfl (fun h22 => ?_) (fun h22 => ?_)
  ·
    try simp only [h22]
    try simp at h22
    apply J.reg
    iterate 5 refine runL_step rfl (by simp; rfl) ?_
    refine runL_tree rfl (d25 l _ _ hf hs') (by simp) hc ?_
    simp
    iterate 5 refine runL_step rfl (by simp; rfl) ?_
    simp [runL]
    apply J.seq
    refine J.regE (by simp; rfl) ?_
    simp
    apply J.ret
    refine ⟨by simp, rfl, _, [], by simp [a12R]; rfl, ?_⟩
    simp [doesP, h22]
  ·
    try simp only [h22]
    try simp at h22
    apply J.seq
    refine J.regE (by simp; rfl) ?_
    simp
    refine J.condB rfl (fun h33 => ?_) (fun h33 => ?_)
    ·
      try simp only [h33]
      try simp at h33
      apply J.reg
      iterate 7 refine runL_step rfl (by simp; rfl) ?_
      refine runL_tree rfl (d26 l _ _ _ hf hs') (by simp) hc ?_
      simp
      iterate 5 refine runL_step rfl (by simp; rfl) ?_
      simp [runL]
      apply J.seq
      refine J.regE (by simp; rfl) ?_
      simp
      apply J.ret
      refine ⟨by simp, rfl, _, [], by simp [a12R]; rfl, ?_⟩
      simp [doesP, h22, h33]
    ·
      try simp only [h33]
      try simp at h33
      apply J.reg
      iterate 7 refine runL_step rfl (by simp; rfl) ?_
      refine runL_tree rfl (d27 l _ _ _ hf) (by simp) hc ?_
      simp
      iterate 5 refine runL_step rfl (by simp; rfl) ?_
      simp [runL]
      apply J.seq
      refine J.regE (by simp; rfl) ?_
      simp
      apply J.ret
      refine ⟨by simp, rfl, _, [], by simp [a12R]; rfl, ?_⟩
      simp [doesP, h22, h33]

theorem fit12 {l : List Post} (h : l = [] ∨ l = [p1] ∨ l = [p1, p2] ∨ l = [p3, p2]) : Fit l := by
  rcases h with rfl | rfl | rfl | rfl
  · exact ⟨by decide, fun x hx => absurd hx (by simp)⟩
  · exact ⟨by decide, fun x hx => by simp only [List.mem_cons, List.not_mem_nil, or_false] at hx; subst hx; decide⟩
  all_goals exact ⟨by decide, fun x hx => by simp only [List.mem_cons, List.not_mem_nil, or_false] at hx; rcases hx with rfl | rfl <;> decide⟩

theorem c9 : chkFn Tryd.prog 9 70 0 a9 a9R = true := by kernel_rfl
/-- colloquy/colloquylaw16.awake -/
theorem d9  : DoesT 9 [] (bv true) := by
  have a1 := (d24 [] 1 tx (fit12 (.inl rfl)) (by decide)).nil0 (s := 5)
  have a2 := d24 [p1] 2 ty (fit12 (.inr (.inl rfl))) (by decide)
  have a3 := d23 [p1, p2] 1 1 9 (fit12 (.inr (.inr (.inl rfl))))
  have a4 := d22 [p3, p2] 1 1 ⟨#[122]⟩ (fit12 (.inr (.inr (.inr rfl)))) (by decide)
  have a5 := d15t [p3, p2] 1 5 (fit12 (.inr (.inr (.inr rfl))))
  have a6 := d16 [p1, p2] (fit12 (.inr (.inr (.inl rfl))))
  rw [ex1] at a1
  rw [ex2] at a2
  rw [ex3] at a3
  rw [ex4] at a4
  rw [ex5] at a5
  rw [ex6] at a6
  refine Does.of (nt := 70) (ac := a9) (rds := a9R) c9 (fun c hc => ?_)
  unfold a9
  apply J.seq
  refine J.regE (by simp; rfl) ?_
  simp
  apply J.seq
  apply J.reg
  refine runL_tree rfl (a1) (by simp) hc ?_
  simp
  iterate 5 refine runL_step rfl (by simp; rfl) ?_
  simp [runL]
  apply J.seq
  apply J.reg
  refine runL_step rfl (by simp; rfl) ?_
  refine runL_tree rfl (a2) (by simp) hc ?_
  simp
  iterate 5 refine runL_step rfl (by simp; rfl) ?_
  simp [runL]
  apply J.seq
  apply J.reg
  refine runL_step rfl (by simp; rfl) ?_
  refine runL_tree rfl (a3) (by simp) hc ?_
  simp
  iterate 5 refine runL_step rfl (by simp; rfl) ?_
  simp [runL]
  apply J.seq
  apply J.reg
  refine runL_step rfl (by simp; rfl) ?_
  refine runL_tree rfl (a4) (by simp) hc ?_
  simp
  iterate 5 refine runL_step rfl (by simp; rfl) ?_
  simp [runL]
  apply J.seq
  apply J.reg
  refine runL_step rfl (by simp; rfl) ?_
  refine runL_tree rfl (a5) (by simp) hc ?_
  simp
  iterate 5 refine runL_step rfl (by simp; rfl) ?_
  simp [runL]
  apply J.seq
  apply J.reg
  iterate 16 refine runL_step rfl (by simp [ePs, eP, p2]; rfl) ?_
  refine runL_do (by simp [ePs, eP, p2]) ?_
  refine runL_tree rfl (a6) (by simp) hc ?_
  simp
  iterate 19 refine runL_step rfl (by simp [ePs, eP, p2]; rfl) ?_
  simp [runL]
  apply J.ret
  refine ⟨by simp, rfl, _, [], by simp [a9R]; rfl, ?_⟩
  simp

end Go.Proofs.YtifpfpiljionmaaDoor.F
