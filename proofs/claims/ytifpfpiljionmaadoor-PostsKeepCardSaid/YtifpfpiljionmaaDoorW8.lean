/- Chapter 16: posts.Page. Printed by walk.py from w8.walk.py. -/
import Derived.Test.YtifpfpiljionmaaDoorW7
set_option linter.unusedVariables false
set_option linter.unusedSimpArgs false
namespace Go.Proofs.YtifpfpiljionmaaDoor.F
open Go Go.SX

def a15r5X : AC := .draw [15006, 15007] (.take 0 ⟨(some 21), none, .load 1 false (.s 8)⟩ <|
    .take 1 ⟨(some 22), none, .faddr 0 (.s 10)⟩ <|
    .take 2 ⟨(some 23), none, .load 1 false (.s 22)⟩ <|
    .alt 3 ⟨none, none, .store 1 (.s 6) (.s 21)⟩ (
    .alt 4 ⟨none, none, .store 1 (.s 7) (.s 23)⟩ (
    .done) .done) .done) []
def a15X : AC := .seq (a15r0) (.seq (a15r1) (.seq (.seq (a15r2) (.block 0 (.rangef (.s 14) [15, 16] (a15r3) (.block 1 (.seq (.seq (a15r4) (.cond (.s 20) (.seq (a15r5X) (.ret)) (.skip))) (a15r6)))))) (.seq (a15r7) (.ret))))
theorem c15 : chkFn Tryd.prog 15 29 3 a15X a15R = true := by kernel_rfl
/-- Posts from a number on, so many; the number to go on with. -/
def pageR (frm many : Int) : List Post → List Post → List Post × Int
  | [], pg => (pg, 0)
  | x :: r, pg => if hit frm x then (if many ≤ pg.length then (pg, x.no) else pageR frm many r (pg ++ [x])) else pageR frm many r pg
/-- posts.Page -/
def pageP (l : List Post) (frm many : Int) : List Post × Int := pageR frm many (fairL l) []

def memP (es : List Post) (frm many : Int) (pg : List Post) : Mem := [(15005, .obj 3 [iv many]), (15006, .obj 22 [.nils 5]), (15007, .obj 3 [iv 0]), (15008, .obj 22 [.own 15027 5 0 pg.length]), (15027, .arr 33 5 (ePs pg)), (42005, .arr 33 5 (ePs es)), (29002, .obj 22 [.own 42005 5 0 es.length]), (29003, .obj 3 [iv frm])]
def memQ (es : List Post) (frm many : Int) (pg : List Post) (n : Int) : Mem := [(15005, .obj 3 [iv many]), (15006, .obj 22 [.own 15027 5 0 pg.length]), (15007, .obj 3 [iv n]), (15008, .obj 22 [.own 15027 5 0 pg.length]), (15027, .arr 33 5 (ePs pg)), (42005, .arr 33 5 (ePs es)), (29002, .obj 22 [.own 42005 5 0 es.length]), (29003, .obj 3 [iv frm])]
def KB15 (es : List Post) (frm many : Int) (pg : List Post) (x : Post) (e : Exit) (m' : Mem) : Prop := (e = .ret ∧ many ≤ pg.length ∧ m' = memQ es frm many pg x.no) ∨ (e = .normal ∧ ¬ many ≤ pg.length ∧ m' = memP es frm many (pg ++ [x]))

theorem body15 (es : List Post) (frm many : Int) (pg : List Post) (hpg : pg.length ≤ 1000) (i : Nat) (x : Post) :
    BodyOK Tryd.prog 29 [15, 16] a15r3 (AC.block 1 ((a15r4.seq (AC.cond (Src.s 20) (a15r5X.seq AC.ret) AC.skip)).seq a15r6))
      [(5, .ptr 15005 0 0 0), (6, .ptr 15006 0 0 0), (7, .ptr 15007 0 0 0), (8, .ptr 15008 0 0 0)] [15005, 15006, 15007, 15008, 42005, 29002, 29003] (memP es frm many pg) [iv (i : Nat), .agg (eP x)] (KB15 es frm many pg x) := by
  refine ⟨rfl, fun st1 => st1 = ⟨[(5, .ptr 15005 0 0 0), (6, .ptr 15006 0 0 0), (7, .ptr 15007 0 0 0), (8, .ptr 15008 0 0 0), (10, .ptr 15010 0 0 0)], memP es frm many pg ++ [(15010, .obj 33 (eP x))], [15005, 15006, 15007, 15008, 42005, 29002, 29003]⟩, ?h1, ?h2⟩
  case h1 =>
    intro c' hc'
    simp [putL, memP]
    refine J.regE (by simp [eP]; rfl) ?_
    simp [eP]
  case h2 =>
    rintro s1 - rfl c' hc'
    simp only [memP, eP, List.cons_append, List.nil_append]
    apply J.block
    apply J.seq
    apply J.seq
    refine J.regE (by simp; rfl) ?_
    simp
    refine J.condB rfl (fun hb => ?_) (fun hb => ?_)
    · apply J.seq
      apply J.draw; intro c2 hc2
      iterate 3 refine runP_stepQ (by simp; rfl) ?_
      iterate 2 refine runP_one rfl (by simp) (by simp; rfl) ?_
      simp [runP]
      refine J.le hc' (st' := ⟨[], memQ es frm many pg x.no, [15005, 15006, 15007, 15008, 42005, 29002, 29003]⟩) (by apply le_sub <;> simp [memQ]) ?_
      apply J.ret; simp [jumpOf]
      exact .inl ⟨rfl, by simpa using hb, rfl⟩
    · apply J.skip; simp
      refine J.weak hc' ?_
      apply J.reg
      iterate 2 refine runL_step rfl (by simp; rfl) ?_
      iterate 3 refine runL_step rfl (by simp [show (pg.length + 1) * 48 ≤ 140737488355328 from by omega]; rfl) ?_
      simp [runL]
      refine ⟨⟨[], memP es frm many (pg ++ [x]), [15005, 15006, 15007, 15008, 42005, 29002, 29003]⟩, ?_, rfl, rfl, .inr ⟨rfl, by simpa using hb, rfl⟩⟩
      apply le_sub <;> simp [memP, ePs, eP]

theorem d15 (l : List Post) (frm many : Int) (hf : Fit l) : Does Tryd.prog 15 [.ro 5 (ePs l), iv frm, iv many] [] [] (fun r m => r = .tup [.own 15027 5 0 (pageP l frm many).1.length, iv (pageP l frm many).2] ∧ m = [(15027, .arr 33 5 (ePs (pageP l frm many).1))]) := by
  refine Does.ofH c15 (fun c hc => ?_)
  unfold a15X
  apply JH.seq
  refine JH.of hc (fun c' hc' => ?_)
  refine J.regE (by simp; rfl) ?_
  simp
  show JH _ _ _ _ _ _ _
  apply JH.seq
  refine JH.of hc (fun c' hc' => ?_)
  refine J.regE (by simp; rfl) ?_
  simp
  show JH _ _ _ _ _ _ _
  unfold pageP
  apply JH.seq
  apply JH.seq
  refine JH.of hc (fun c' hc' => ?_)
  apply J.reg
  refine runL_step rfl (by simp; rfl) ?_
  refine runL_call [] [] rfl rfl (d30o l hf) (by simp) (by simp) (by simp) hc' ?_
  rintro rv m1 ⟨rfl, rfl⟩
  refine ⟨by simp [fairM], ?_⟩
  obtain ⟨es, hes⟩ : ∃ es, fairL l = es := ⟨_, rfl⟩
  have hlen : es.length ≤ 32 := by rw [← hes]; exact fairL_len l
  simp only [fairM]
  rw [hes]
  simp
  refine runL_step rfl (by simp; rfl) ?_
  refine runL_call [42005] [42005] rfl rfl (d29 es frm) (by simp) (by simp) (by simp) hc' ?_
  rintro rv m1 ⟨rfl, rfl⟩
  refine ⟨by simp, ?_⟩
  simp
  simp [runL]
  show JH _ _ _ _ _ _ _
  apply JH.block
  refine JH.le hc (st' := ⟨[(5, .ptr 15005 0 0 0), (6, .ptr 15006 0 0 0), (7, .ptr 15007 0 0 0), (8, .ptr 15008 0 0 0), (14, .fn 41 [.ptr 29002 0 0 0, .ptr 29003 0 0 0])], memP es frm many [], []⟩) (le_retell ?_ ?_ rfl (by simp)) ?_
  · intro p hp
    simp at hp
    rcases hp with rfl | rfl | rfl | rfl | rfl <;> exact ⟨_, rfl, .same (by simp [memP])⟩
  · intro p hp
    simp [memP] at hp
    rcases hp with rfl | rfl | rfl | rfl | rfl | rfl | rfl | rfl
    · exact .same (by simp)
    · exact .same (by simp)
    · exact .same (by simp)
    · refine .obj rfl (fun i x hx => ?_)
      cases i with
      | zero => simp at hx; subst hx; simp; exact .nil
      | succ i => simp at hx
    · exact .new
    · exact .same (by simp)
    · exact .same (by simp [memP])
    · exact .same (by simp)
  refine JH.pin [15005, 15006, 15007, 15008, 42005, 29002, 29003] (by simp) (fun c1 h1 h2 h3 => ?_)
  have hc1 : c1.A = c1.B := by rw [h2, h3]; exact hc
  obtain ⟨R, hR⟩ : ∃ R, pageR frm many es [] = R := ⟨_, rfl⟩
  rw [hR]
  refine JH.rangef hc1 rfl [5, 6, 7, 8] (by simp) (K := fun e m' => (e = .normal ∧ ∃ pg, m' = memP es frm many pg ∧ R = (pg, 0)) ∨ (e = .ret ∧ ∃ pg n, m' = memQ es frm many pg n ∧ R = (pg, n))) ?_ ?_
  · show IterOK Tryd.prog 41 [.ptr 29002 0 0 0, .ptr 29003 0 0 0] [15005, 15006, 15007, 15008, 42005, 29002, 29003] (memP es frm many []) _ _
    refine it41 (bL := 29002) (bF := 29003) (sl := .own 42005 5 0 es.length) (es := es) (frm := frm) (fun i m => ∃ pg, m = memP es frm many pg ∧ pg.length ≤ i ∧ R = pageR frm many (es.drop i) pg) (by omega) (by simp) (by simp) (by simp) ⟨[], rfl, by simp, by simp [hR]⟩ ?_ ?_ ?_ ?_
    · rintro i m ⟨pg, rfl, -⟩
      refine ⟨⟨⟨by simp [memP], by simp [memP, eP]⟩, by simp [memP], by simp [memP], by simp [memP], .inr ⟨42005, rfl, by simp [memP]⟩⟩, by simp [memP]⟩
    · rintro i x m hx hp ⟨pg, rfl, hl, hr⟩
      refine ⟨pg, rfl, by omega, ?_⟩
      have hi := (List.getElem?_eq_some_iff.1 hx)
      have hd : es.drop i = x :: es.drop (i + 1) := by rw [List.drop_eq_getElem_cons hi.1, hi.2]
      have hh : hit frm x = false := by
        rcases hp with hp | hp
        · simp [hit, hp]
        · simp [hit, show ¬ frm ≤ x.no from by omega]
      rw [hr, hd]
      simp [pageR, hh]
    · rintro i x m hx hg hn ⟨pg, rfl, hl, hr⟩
      have hh : hit frm x = true := by simp [hit, hg, hn]
      have hi := (List.getElem?_eq_some_iff.1 hx)
      have hd : es.drop i = x :: es.drop (i + 1) := by rw [List.drop_eq_getElem_cons hi.1, hi.2]
      rw [hd] at hr
      refine ⟨KB15 es frm many pg x, body15 es frm many pg (by have := hi.1; omega) i x, ?_, ?_⟩
      · rintro m' (⟨h, -⟩ | ⟨-, hno, rfl⟩)
        · cases h
        · exact ⟨pg ++ [x], rfl, by simp; omega, by rw [hr]; simp [pageR, hh, hno]⟩
      · rintro e m' hne (⟨rfl, hno, rfl⟩ | ⟨rfl, -⟩)
        · exact .inr ⟨rfl, pg, x.no, rfl, by rw [hr]; simp [pageR, hh, hno]⟩
        · exact absurd rfl hne
    · rintro m ⟨pg, rfl, hl, hr⟩
      exact .inl ⟨rfl, pg, rfl, by rw [hr]; simp [pageR]⟩
  · rintro e j m' hj hK D hD
    refine ⟨rfl, ?_⟩
    rcases hK with ⟨rfl, pg, rfl, hst⟩ | ⟨rfl, pg, n, rfl, hst⟩
    · simp [blockH, thenH]
      apply JH.seq
      refine JH.of hc (fun c' hc' => ?_)
      refine J.regE (by simp [memP]; rfl) ?_
      simp
      show JH _ _ _ _ _ _ _
      refine JH.of hc (fun c' hc' => ?_)
      apply J.ret
      refine ⟨⟨by simp, rfl, _, [(15027, .arr 33 5 (ePs pg))], by simp [a15R]; rfl, ?_⟩, .inr ⟨D, rfl, by simp, by rw [← h1]; exact hD⟩⟩
      simp [hst]
    · simp [blockH, thenH]
      refine ⟨⟨by simp, rfl, _, [(15027, .arr 33 5 (ePs pg))], by simp [a15R, memQ]; rfl, ?_⟩, .inr ⟨D, rfl, by simp, by rw [← h1]; exact hD⟩⟩
      simp [hst, memQ]
theorem d15t (l : List Post) (frm many : Int) (hf : Fit l) : DoesT 15 [.ro 5 (ePs l), iv frm, iv many] (.tup [.ro 5 (ePs (pageP l frm many).1), iv (pageP l frm many).2]) := by
  refine (d15 l frm many hf).tree _ ?_
  rintro r m ⟨rfl, rfl⟩ A ρ' w' v hM hv
  obtain ⟨vs, rfl, h1, h2⟩ := hv.tup_inv
  refine .tree (.tup (by simpa using h1) (fun i x hx => ?_))
  match i, hx with
  | 0, hx => simp at hx; subst hx; exact own_tree (sz := 5) (by omega) hM rfl (h2 0 _ rfl) (by simp)
  | 1, hx => simp at hx; subst hx; rw [(h2 1 _ rfl).lit_inv.1]; exact .lit rfl
  | i + 2, hx => simp at hx
end Go.Proofs.YtifpfpiljionmaaDoor.F

