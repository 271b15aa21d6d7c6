/- Chapter 16: the document's posts: the first functions. Printed by walk.py from w13.walk.py. -/
import Derived.Test.YtifpfpiljionmaaDoorW12
set_option linter.unusedVariables false
set_option linter.unusedSimpArgs false
namespace Go.Proofs.YtifpfpiljionmaaDoor.F
open Go Go.SX

/-- colloquyref16.at -/
def atR (no : Int) : List Post → Nat → Int
  | [], _ => -1
  | x :: r, k => if x.no = no ∧ x.gone = false then (k : Int) else atR no r (k + 1)
theorem atR_far {no q : Int} (hq : no ≤ q) : ∀ {l : List Post} {k : Nat}, mayFrom (some q) l = true → atR no l k = -1
  | [], _, _ => rfl
  | x :: r, k, h => by
    simp only [mayFrom, Bool.and_eq_true, beq_iff_eq] at h
    simp only [atR, show ¬ x.no = no from by omega, false_and, if_false]
    exact atR_far (q := x.no) (by omega) h.2
theorem atR_eq {no : Int} : ∀ {l : List Post} {p : Option Int} {k : Nat}, mayFrom p l = true → atR no l k = match stopAt no l k with | none => -1 | some (i, _) => (i : Int)
  | [], _, _, _ => rfl
  | x :: r, p, k, h => by
    simp only [mayFrom, Bool.and_eq_true, beq_iff_eq] at h
    simp only [atR, stopAt]
    by_cases hh : hit no x = true
    · rw [if_pos hh]
      simp only [hit, Bool.and_eq_true, Bool.not_eq_true', decide_eq_true_eq] at hh
      by_cases hn : x.no = no
      · simp [hn, hh.1]
      · rw [if_neg hn, if_neg (by simp [hn])]
        exact atR_far (q := x.no) hh.2 h.2
    · rw [if_neg hh]
      simp only [hit, Bool.and_eq_true, Bool.not_eq_true', decide_eq_true_eq] at hh
      rw [if_neg (fun h => hh ⟨h.2, by omega⟩)]
      exact atR_eq h.2
theorem fairL_from (l : List Post) : mayFrom none (fairL l) = true := by
  unfold fairL
  split
  · rename_i h; simp only [mayPs, Bool.and_eq_true] at h; exact h.1
  · rfl
theorem atR_fair (l : List Post) (no : Int) : atR no (fairL l) 0 = match stopAt no (fairL l) 0 with | none => -1 | some (i, _) => (i : Int) := atR_eq (fairL_from l)
def I34 (es : List Post) (no : Int) (m : Nat) (st : St) : Prop := ∃ i : Nat, i ≤ es.length ∧ m = es.length - i ∧ atR no es 0 = atR no (es.drop i) i ∧ st = ⟨[(0, .ro 5 (ePs es)), (1, iv no), (5, iv (i : Nat))], [], []⟩
theorem ePs_step {es : List Post} {i : Nat} (h : i < es.length) : ∃ x, es[i]? = some x ∧ (∀ h, es[i]'h = x) ∧ (∀ h, (ePs es)[i]'h = eP x) ∧ es.drop i = x :: es.drop (i + 1) := by
  obtain ⟨x, hx⟩ : ∃ x, es[i]? = some x := ⟨_, List.getElem?_eq_getElem h⟩
  obtain ⟨_, hgx, hge⟩ := ePs_at hx
  exact ⟨x, hx, hgx, hge, by rw [List.drop_eq_getElem_cons h, hgx]⟩

theorem c33o : chkFn Tryd.prog 33 10 1 a33 a33R = true := by kernel_rfl
/-- colloquy/colloquyref16.Fair -/
theorem d33o (l : List Post) (hf : Fit l) : Does Tryd.prog 33 [.ro 5 (ePs l)] [] [] (fun r m => r = .own 33009 5 0 (fairL l).length ∧ m = [(33009, .arr 33 5 (ePs (fairL l)))]) := by
  have hl := hf.len
  obtain ⟨mp, hmp⟩ : ∃ mp, mayPs l = mp := ⟨_, rfl⟩
  have h20 := d20 l hf
  rw [hmp] at h20
  refine Does.of (nt := 10) (ac := a33) (rds := a33R) c33o (fun c hc => ?_)
  unfold a33
  apply J.seq
  refine J.regE (by simp; rfl) ?_
  simp
  apply J.seq
  apply J.reg
  refine runL_step rfl (by simp; rfl) ?_
  refine runL_tree rfl (h20) (by simp) hc ?_
  simp
  refine runL_step rfl (by simp; rfl) ?_
  simp [runL]
  apply J.seq
  apply J.seq
  refine J.regE (by simp; rfl) ?_
  simp
  refine J.condB rfl (fun h7 => ?_) (fun h7 => ?_)
  ·
    try simp only [h7]
    try simp at h7
    apply J.seq
    refine J.regE (by simp; rfl) ?_
    simp
    refine J.nilrow hc 2 33009 33 rfl rfl rfl ?_
    simp
    have hF : fairL l = [] := by unfold fairL; simp [hmp, h7]
    apply J.ret
    refine ⟨by simp, rfl, _, [(33009, .arr 33 5 (ePs (fairL l)))], by simp [a33R]; rfl, ?_⟩
    simp [hF]
  ·
    try simp only [h7]
    try simp at h7
    apply J.skip; simp
    apply J.seq
    refine J.regE (by simp [show l.length * 48 ≤ 140737488355328 from by omega]; rfl) ?_
    simp
    have hF : fairL l = l := by unfold fairL; simp [hmp, h7]
    apply J.ret
    refine ⟨by simp, rfl, _, [(33009, .arr 33 5 (ePs (fairL l)))], by simp [a33R]; rfl, ?_⟩
    simp [hF]

theorem d33 (l : List Post) (hf : Fit l) : DoesT 33 [.ro 5 (ePs l)] (.ro 5 (ePs (fairL l))) := by
  refine (d33o l hf).tree _ ?_
  rintro r m ⟨rfl, rfl⟩ A ρ' w' v hM hv
  exact .tree (own_tree (sz := 5) (by omega) hM rfl hv (by simp))

theorem c21 : chkFn Tryd.prog 21 16 1 a21 a21R = true := by kernel_rfl
/-- colloquy/colloquyref16.Last -/
theorem d21 (l : List Post) (hf : Fit l) : DoesT 21 [.ro 5 (ePs l)] (iv (lastP l)) := by
  have hl := fairL_len l
  refine Does.of (nt := 16) (ac := a21) (rds := a21R) c21 (fun c hc => ?_)
  unfold a21
  apply J.seq
  refine J.regE (by simp; rfl) ?_
  simp
  apply J.seq
  apply J.reg
  refine runL_step rfl (by simp; rfl) ?_
  refine runL_tree rfl (d33 l hf) (by simp) hc ?_
  simp
  refine runL_step rfl (by simp; rfl) ?_
  simp [runL]
  apply J.seq
  apply J.seq
  refine J.regE (by simp; rfl) ?_
  simp
  refine J.condB rfl (fun h8 => ?_) (fun h8 => ?_)
  ·
    have hL : lastP l = 0 := by
      have : fairL l = [] := by simpa using h8
      simp [lastP, this]
    apply J.seq
    refine J.regE (by simp; rfl) ?_
    simp
    apply J.ret
    refine ⟨by simp, rfl, _, [], by simp [a21R]; rfl, ?_⟩
    simp [hL]
  ·
    obtain ⟨k, hk⟩ : ∃ k, (fairL l).length = k + 1 := ⟨(fairL l).length - 1, by simp at h8; have := List.length_pos_iff.2 h8; omega⟩
    obtain ⟨x, hx, hgx, hge, _⟩ := ePs_step (es := fairL l) (i := k) (by omega)
    have hw1 : IntKind.i64.wrap ((k : Int) + 1 - 1) = (k : Int) := by rw [wrap_id (by omega) (by omega)]; omega
    have hw2 : IntKind.i64.wrap (k : Int) = (k : Int) := wrap_id (by omega) (by omega)
    have hL : lastP l = x.no := by unfold lastP; rw [List.getLast?_eq_getElem?, hk]; simp [hx]
    apply J.skip; simp
    apply J.seq
    apply J.reg
    iterate 8 refine runL_step rfl (by simp [hk, hge, hgx, eP, hw1, hw2, show (k : Int) < k + 1 from by omega]; rfl) ?_
    simp [runL]
    apply J.ret
    refine ⟨by simp, rfl, _, [], by simp [a21R]; rfl, ?_⟩
    simp [hL]

theorem c34 : chkFn Tryd.prog 34 28 2 a34 a34R = true := by kernel_rfl
/-- colloquy/colloquyref16.at -/
theorem d34 (es : List Post) (no : Int) (hl : es.length ≤ 1000000) : DoesT 34 [.ro 5 (ePs es), iv no] (iv (atR no es 0)) := by
  refine Does.of (nt := 28) (ac := a34) (rds := a34R) c34 (fun c hc => ?_)
  unfold a34
  apply J.seq
  refine J.regE (by simp; rfl) ?_
  simp
  apply J.seq
  apply J.seq
  refine J.regE (by simp; rfl) ?_
  simp
  apply J.block
  refine J.loop hc (I34 es no) ?_ ?_
  · refine ⟨_, _, St.le_refl _, 0, by omega, rfl, rfl, by simp⟩
  rintro n st ⟨i, hi, rfl, hI, rfl⟩
  apply J.seq
  apply J.seq
  refine J.regE (by simp; rfl) ?_
  simp
  refine J.condB rfl (fun h9 => ?_) (fun h9 => ?_)
  ·
    simp at h9
    obtain ⟨x, hx, hgx, hge, hdr⟩ := ePs_step h9
    have hw : IntKind.i64.wrap ((i : Int) + 1) = (i : Int) + 1 := wrap_id (by omega) (by omega)
    rw [hdr] at hI
    apply J.skip; simp
    apply J.seq
    apply J.block
    apply J.seq
    apply J.reg
    iterate 8 refine runL_step rfl (by simp [h9, hgx, hge, eP]; rfl) ?_
    refine runL_if rfl (fun g19 => ?_) (fun g19 => ?_)
    ·
      try simp only [g19]
      try simp at g19
      iterate 7 refine runL_step rfl (by simp [h9, hgx, hge, eP]; rfl) ?_
      simp [runL]
      refine J.condB rfl (fun h26 => ?_) (fun h26 => ?_)
      ·
        try simp only [h26]
        try simp at h26
        apply J.seq
        refine J.regE (by simp; rfl) ?_
        simp
        apply J.ret
        refine ⟨by simp, rfl, _, [], by simp [a34R]; rfl, ?_⟩
        rw [hI]; simp [atR, *]
      ·
        try simp only [h26]
        try simp at h26
        apply J.skip; simp
        refine J.regE (by simp [hw]; rfl) ?_
        simp
        refine ⟨es.length - (i + 1), by omega, _, St.le_refl _, i + 1, by omega, rfl, ?_, by simp⟩
        rw [hI]; simp [atR, *]
    ·
      try simp only [g19]
      try simp at g19
      iterate 6 refine runL_step rfl (by simp [h9, hgx, hge, eP]; rfl) ?_
      simp [runL]
      apply J.cond; simp
      apply J.skip; simp
      refine J.regE (by simp [hw]; rfl) ?_
      simp
      refine ⟨es.length - (i + 1), by omega, _, St.le_refl _, i + 1, by omega, rfl, ?_, by simp⟩
      rw [hI]; simp [atR, *]
  ·
    simp at h9
    obtain rfl : i = es.length := by omega
    apply J.exit; simp
    apply J.seq
    refine J.regE (by simp; rfl) ?_
    simp
    apply J.ret
    refine ⟨by simp, rfl, _, [], by simp [a34R]; rfl, ?_⟩
    rw [hI]; simp [atR]

theorem c18 : chkFn Tryd.prog 18 20 2 a18 a18R = true := by kernel_rfl
/-- colloquy/colloquyref16.Find -/
theorem d18 (l : List Post) (no : Int) (hf : Fit l) : DoesT 18 [.ro 5 (ePs l), iv no] (.tup [.agg (eP (findP l no).1), iv (findP l no).2]) := by
  refine Does.of (nt := 20) (ac := a18) (rds := a18R) c18 (fun c hc => ?_)
  unfold a18
  apply J.seq
  refine J.regE (by simp; rfl) ?_
  simp
  apply J.seq
  apply J.reg
  refine runL_step rfl (by simp; rfl) ?_
  refine runL_tree rfl (d33 l hf) (by simp) hc ?_
  simp
  refine runL_step rfl (by simp; rfl) ?_
  simp [runL]
  apply J.seq
  rcases hst : stopAt no (fairL l) 0 with _ | ⟨i, x⟩
  ·
    have h34 := d34 (fairL l) no (by have := fairL_len l; omega)
    rw [atR_fair l no, hst] at h34
    simp only at h34
    apply J.reg
    iterate 2 refine runL_step rfl (by simp; rfl) ?_
    refine runL_tree rfl (h34) (by simp) hc ?_
    simp
    refine runL_step rfl (by simp; rfl) ?_
    simp [runL]
    apply J.seq
    apply J.seq
    refine J.regE (by simp; rfl) ?_
    simp
    apply J.cond; simp
    apply J.seq
    refine J.regE (by simp; rfl) ?_
    simp
    apply J.ret
    refine ⟨by simp, rfl, _, [], by simp [a18R]; rfl, ?_⟩
    simp [findP, hst, eP, zeroP]
  ·
    have h34 := d34 (fairL l) no (by have := fairL_len l; omega)
    rw [atR_fair l no, hst] at h34
    simp only at h34
    obtain ⟨_, hx, hno, hgn⟩ := stopAt_get hst
    simp only [Nat.sub_zero] at hx
    obtain ⟨hi, hgx, hge⟩ := ePs_at hx
    apply J.reg
    iterate 2 refine runL_step rfl (by simp; rfl) ?_
    refine runL_tree rfl (h34) (by simp) hc ?_
    simp
    refine runL_step rfl (by simp; rfl) ?_
    simp [runL]
    apply J.seq
    apply J.seq
    refine J.regE (by simp; rfl) ?_
    simp
    apply J.cond; simp [show ¬ ((i : Int) < 0) from by omega]
    apply J.skip; simp
    apply J.seq
    apply J.reg
    iterate 6 refine runL_step rfl (by simp [hi, hgx, hge, eP]; rfl) ?_
    simp [runL]
    apply J.ret
    refine ⟨by simp, rfl, _, [], by simp [a18R]; rfl, ?_⟩
    simp [findP, hst, eP, zeroP]

def I19 (es : List Post) (frm many : Int) (R : List Post × Int) (m : Nat) (st : St) : Prop := ∃ i pg, i ≤ es.length ∧ m = es.length - i ∧ pg.length ≤ i ∧ R = pageR frm many (es.drop i) pg ∧ st = ⟨[(1, iv frm), (2, iv many), (8, .ro 5 (ePs es)), (9, .own 19049 5 0 pg.length), (10, iv (i : Nat))], [(19049, .arr 33 5 (ePs pg))], []⟩
theorem ePs_snoc (pg : List Post) (x : Post) : ePs pg ++ [[iv x.no, iv x.user, sv x.text, iv x.edits, bv x.gone]] = ePs (pg ++ [x]) := by simp [ePs, eP]

theorem c19 : chkFn Tryd.prog 19 51 3 a19 a19R = true := by kernel_rfl
/-- colloquy/colloquyref16.Page -/
theorem d19 (l : List Post) (frm many : Int) (hf : Fit l) : DoesT 19 [.ro 5 (ePs l), iv frm, iv many] (.tup [.ro 5 (ePs (pageP l frm many).1), iv (pageP l frm many).2]) := by
  have hlen := fairL_len l
  unfold pageP
  refine Does.of (nt := 51) (ac := a19) (rds := a19R) c19 (fun c hc => ?_)
  unfold a19
  apply J.seq
  refine J.regE (by simp; rfl) ?_
  simp
  apply J.seq
  apply J.reg
  refine runL_step rfl (by simp; rfl) ?_
  refine runL_tree rfl (d33 l hf) (by simp) hc ?_
  simp
  refine runL_step rfl (by simp; rfl) ?_
  simp [runL]
  obtain ⟨es, hes⟩ : ∃ es, fairL l = es := ⟨_, rfl⟩
  obtain ⟨R, hR⟩ : ∃ R, pageR frm many es [] = R := ⟨_, rfl⟩
  rw [hes, hR]
  rw [hes] at hlen
  apply J.seq
  refine J.regE (by simp; rfl) ?_
  simp
  apply J.seq
  apply J.seq
  refine J.regE (by simp; rfl) ?_
  simp
  apply J.block
  refine J.nilrow hc 9 19049 33 rfl rfl rfl ?_
  simp
  refine J.loop hc (I19 es frm many R) ?_ ?_
  · refine ⟨_, _, St.le_refl _, 0, [], by omega, rfl, by simp, by simp [hR], by simp⟩
  rintro n st ⟨i, pg, hi, rfl, hpg, hI, rfl⟩
  apply J.seq
  apply J.seq
  refine J.regE (by simp; rfl) ?_
  simp
  refine J.condB rfl (fun h16 => ?_) (fun h16 => ?_)
  ·
    simp at h16
    obtain ⟨x, hx, hgx, hge, hdr⟩ := ePs_step h16
    have hw : IntKind.i64.wrap ((i : Int) + 1) = (i : Int) + 1 := wrap_id (by omega) (by omega)
    rw [hdr] at hI
    apply J.skip; simp
    apply J.seq
    apply J.block
    apply J.seq
    apply J.seq
    apply J.reg
    iterate 6 refine runL_step rfl (by simp [h16, hgx, hge, eP]; rfl) ?_
    refine runL_if rfl (fun g24 => ?_) (fun g24 => ?_)
    ·
      try simp only [g24]
      try simp at g24
      iterate 8 refine runL_step rfl (by simp [h16, hgx, hge, eP]; rfl) ?_
      simp [runL]
      refine J.condB rfl (fun h32 => ?_) (fun h32 => ?_)
      ·
        try simp only [h32]
        try simp at h32
        apply J.exit; simp
        refine J.regE (by simp [hw]; rfl) ?_
        simp
        refine ⟨es.length - (i + 1), by omega, _, St.le_refl _, i + 1, pg, by omega, rfl, by omega, ?_, by simp⟩
        rw [hI]; simp [pageR, hit, show ¬ frm ≤ x.no from by omega]
      ·
        try simp only [h32]
        try simp at h32
        apply J.skip; simp
        apply J.seq
        apply J.seq
        refine J.regE (by simp; rfl) ?_
        simp
        refine J.condB rfl (fun h36 => ?_) (fun h36 => ?_)
        ·
          try simp only [h36]
          try simp at h36
          apply J.seq
          apply J.draw; intro c' hc'
          iterate 8 refine runP_stepQ (by simp [h16, hgx, hge, eP]; rfl) ?_
          simp [runP]
          refine J.freeze hc 19049 rfl ?_
          simp [St.freeze]
          apply J.ret
          refine ⟨by simp, rfl, _, [], by simp [a19R]; rfl, ?_⟩
          rw [hI]; simp [pageR, hit, g24, h32, h36]
        ·
          try simp only [h36]
          try simp at h36
          apply J.skip; simp
          apply J.reg
          iterate 8 refine runL_step rfl (by simp [h16, hgx, hge, eP, show (pg.length + 1) * 48 ≤ 140737488355328 from by omega]; rfl) ?_
          simp [runL]
          refine J.regE (by simp [hw]; rfl) ?_
          simp
          refine ⟨es.length - (i + 1), by omega, _, ?_, i + 1, pg ++ [x], by omega, rfl, by simp; omega, ?_, rfl⟩
          · rw [ePs_snoc]; apply le_sub <;> simp
          · rw [hI]; simp [pageR, hit, g24, h32, show ¬ many ≤ (pg.length : Int) from by omega]
    ·
      try simp only [g24]
      try simp at g24
      iterate 7 refine runL_step rfl (by simp [h16, hgx, hge, eP]; rfl) ?_
      simp [runL]
      apply J.cond; simp
      apply J.exit; simp
      refine J.regE (by simp [hw]; rfl) ?_
      simp
      refine ⟨es.length - (i + 1), by omega, _, St.le_refl _, i + 1, pg, by omega, rfl, by omega, ?_, by simp⟩
      rw [hI]; simp [pageR, hit, g24]
  ·
    simp at h16
    obtain rfl : i = es.length := by omega
    apply J.exit; simp
    apply J.seq
    refine J.regE (by simp; rfl) ?_
    simp
    refine J.freeze hc 19049 rfl ?_
    simp [St.freeze]
    apply J.ret
    refine ⟨by simp, rfl, _, [], by simp [a19R]; rfl, ?_⟩
    rw [hI]; simp [pageR]

end Go.Proofs.YtifpfpiljionmaaDoor.F
