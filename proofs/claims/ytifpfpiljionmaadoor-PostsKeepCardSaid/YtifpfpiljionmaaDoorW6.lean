/- Chapter 16: posts.change, at the three functions that it is handed. Printed by walk.py from w6.walk.py. -/
import Derived.Test.YtifpfpiljionmaaDoorW5
set_option linter.unusedVariables false
set_option linter.unusedSimpArgs false
namespace Go.Proofs.YtifpfpiljionmaaDoor.F
open Go Go.SX

/-- Is it one to stop at? -/
def hit (no : Int) (x : Post) : Bool := !x.gone && decide (no ≤ x.no)
/-- The one that is to be changed, and its place. -/
def stopAt (no : Int) : List Post → Nat → Option (Nat × Post)
  | [], _ => none
  | x :: r, k => if hit no x then (if x.no = no then some (k, x) else none) else stopAt no r (k + 1)
theorem stopAt_none {no : Int} : ∀ {es : List Post} {k : Nat}, (∀ (j : Nat) y, es[j]? = some y → hit no y = false) → stopAt no es k = none
  | [], _, _ => rfl
  | x :: r, k, h => by
    have h0 := h 0 x rfl
    simp only [stopAt, h0]
    exact stopAt_none (fun j y hy => h (j + 1) y (by simpa using hy))
theorem stopAt_hit {no : Int} {x : Post} (hh : hit no x = true) : ∀ {es : List Post} {i k : Nat}, es[i]? = some x → (∀ (j : Nat) y, j < i → es[j]? = some y → hit no y = false) → stopAt no es k = if x.no = no then some (k + i, x) else none
  | [], i, k, hx, _ => by simp at hx
  | y :: r, 0, k, hx, _ => by simp at hx; subst hx; simp [stopAt, hh]
  | y :: r, i + 1, k, hx, h => by
    have h0 := h 0 y (by omega) rfl
    simp only [stopAt, h0]
    have := stopAt_hit hh (es := r) (i := i) (k := k + 1) (by simpa using hx) (fun j z hj hz => h (j + 1) z (by omega) (by simpa using hz))
    simp only [Bool.false_eq_true, if_false, this, show k + 1 + i = k + (i + 1) from by omega]
theorem noTree_ePs (es : List Post) : ((ePs es).all noTreeL) = true := by simp [ePs, eP, noTreeL, noTree]
theorem mayFrom_all : ∀ {l : List Post} {p : Option Int}, mayFrom p l = true → ∀ x ∈ l, mayP x = true
  | [], _, _, x, hx => by simp at hx
  | y :: r, p, h, x, hx => by
    simp only [mayFrom, Bool.and_eq_true] at h
    rcases List.mem_cons.1 hx with rfl | hx
    · exact h.1.1
    · exact mayFrom_all h.2 x hx
theorem fairL_may {l : List Post} : ∀ x ∈ fairL l, mayP x = true := by
  unfold fairL
  split
  · rename_i h; simp only [mayPs, Bool.and_eq_true] at h; exact mayFrom_all h.1
  · simp


def a31r6F : AC := .draw [42005, 17006] (.take 0 ⟨(some 22), none, .load 1 false (.s 5)⟩ <|
    .take 1 ⟨(some 23), none, .load 1 false (.s 3)⟩ <|
    .take 2 ⟨(some 24), none, .mov (.s 8)⟩ <|
    .take 3 ⟨(some 25), none, .iaddr 5 (.s 23) (.s 24)⟩ <|
    .alt 4 ⟨(some 26), none, .callv (.s 22) [(.s 25)]⟩ (
    .take 5 ⟨(some 10), none, .mov (.s 26)⟩ <|
    .done) .done) [3, 6, 7, 10]
def a31F : AC := .seq (a31r0) (.seq (a31r1) (.seq (.seq (a31r2) (.block 0 (.rangef (.s 15) [16, 17] (.seq (a31r3) (a31r4)) (.block 1 (.seq (.seq (a31r5) (.cond (.s 21) (.exit 0) (.skip))) (.seq (.seq (a31r6F) (.seq (a31r7) (.cond (.s 28) (.seq (a31r8) (.ret)) (.skip)))) (.seq (a31r9) (.ret)))))))) (.seq (a31r10) (.ret))))
theorem c31F : chkFn Tryd.prog 31 31 3 a31F a31R = true := by kernel_rfl
def memF (es : List Post) (no : Int) (f0 : Post) : Mem := [(17006, .obj 33 (eP f0)), (31003, .obj 22 [.own 42005 5 0 es.length]), (31004, .obj 3 [iv no]), (31005, .obj 55 [.fn 32 [.ptr 17006 0 0 0]]), (31006, .obj 22 [.nils 5]), (31007, .obj 27 [iv 0]), (42005, .arr 33 5 (ePs es)), (29002, .obj 22 [.own 42005 5 0 es.length]), (29003, .obj 3 [iv no])]
def resF (es : List Post) (f0 : Post) (x : Post) : AV := if (0 : Int) = 0 then .own 42005 5 0 es.length else .nils 5
def memRF (es : List Post) (no : Int) (f0 : Post) (x : Post) (i : Nat) : Mem := [(17006, .obj 33 (eP x)), (31003, .obj 22 [.own 42005 5 0 es.length]), (31004, .obj 3 [iv no]), (31005, .obj 55 [.fn 32 [.ptr 17006 0 0 0]]), (31006, .obj 22 [resF es f0 x]), (31007, .obj 27 [iv (0 : Int)]), (42005, .arr 33 5 (ePs es)), (29002, .obj 22 [.own 42005 5 0 es.length]), (29003, .obj 3 [iv no])]
def KBF (es : List Post) (no : Int) (f0 : Post) (x : Post) (i : Nat) (e : Exit) (m' : Mem) : Prop := (e = .exit 0 ∧ x.no ≠ no ∧ m' = memF es no f0) ∨ (e = .ret ∧ x.no = no ∧ m' = memRF es no f0 x i)
def KKF (es : List Post) (no : Int) (f0 : Post) (e : Exit) (m' : Mem) : Prop := (e = .normal ∧ m' = memF es no f0 ∧ stopAt no es 0 = none) ∨ (e = .exit 0 ∧ m' = memF es no f0 ∧ stopAt no es 0 = none) ∨ (e = .ret ∧ ∃ i x, stopAt no es 0 = some (i, x) ∧ es[i]? = some x ∧ m' = memRF es no f0 x i)
/-- What posts.change answers. -/
def Post31F (l : List Post) (no : Int) (f0 : Post) (r : AV) (m : Mem) : Prop := match stopAt no (fairL l) 0 with
  | none => r = .tup [.nils 5, iv 5] ∧ m = [(17006, .obj 33 (eP f0))]
  | some (i, x) => (fairL l)[i]? = some x ∧ r = .tup [resF (fairL l) f0 x, iv (0 : Int)] ∧ m = let es := fairL l; [(17006, .obj 33 (eP x)), (42005, .arr 33 5 (ePs es))]

theorem body31F (l es : List Post) (hes : fairL l = es) (no : Int) (f0 : Post) (i : Nat) (x : Post) (hx : es[i]? = some x) :
    BodyOK Tryd.prog 31 [16, 17] (a31r3.seq a31r4) (AC.block 1 ((a31r5.seq (AC.cond (Src.s 21) (AC.exit 0) AC.skip)).seq ((a31r6F.seq (a31r7.seq (AC.cond (Src.s 28) (a31r8.seq AC.ret) AC.skip))).seq (a31r9.seq AC.ret))))
      [(3, .ptr 31003 0 0 0), (4, .ptr 31004 0 0 0), (5, .ptr 31005 0 0 0), (6, .ptr 31006 0 0 0), (7, .ptr 31007 0 0 0)] [17006, 31003, 31004, 31005, 31006, 31007, 42005, 29002, 29003] (memF es no f0) [iv (i : Nat), .agg (eP x)] (KBF es no f0 x i) := by
  obtain ⟨hi, hgx, hge⟩ := ePs_at hx
  refine ⟨rfl, fun st1 => st1 = ⟨[(3, .ptr 31003 0 0 0), (4, .ptr 31004 0 0 0), (5, .ptr 31005 0 0 0), (6, .ptr 31006 0 0 0), (7, .ptr 31007 0 0 0), (8, iv (i : Nat)), (9, .ptr 31009 0 0 0)], memF es no f0 ++ [(31009, .obj 33 (eP x))], [17006, 31003, 31004, 31005, 31006, 31007, 42005, 29002, 29003]⟩, ?h1, ?h2⟩
  case h1 =>
    intro c' hc'
    simp [putL, memF]
    apply J.seq
    refine J.regE (by simp; rfl) ?_
    simp
    refine J.regE (by simp [eP]; rfl) ?_
    simp [eP]
  case h2 =>
    rintro s1 - rfl c' hc'
    simp only [memF, eP, List.cons_append, List.nil_append]
    apply J.block
    apply J.seq
    apply J.seq
    refine J.regE (by simp; rfl) ?_
    simp
    refine J.condB rfl (fun hb => ?_) (fun hb => ?_)
    · refine J.le hc' (st' := ⟨[], memF es no f0, [17006, 31003, 31004, 31005, 31006, 31007, 42005, 29002, 29003]⟩) (by apply le_sub <;> simp [memF, eP]) ?_
      apply J.exit; simp [jumpOf]
      exact .inl ⟨rfl, by simpa using hb, rfl⟩
    · apply J.skip; simp
      apply J.seq; apply J.seq
      apply J.draw; intro c2 hc2
      iterate 4 refine runP_stepQ (by simp [hi]; rfl) ?_
      refine runP_call [17006, 42005] [17006, 42005] rfl rfl (d32 f0 x es i hx) (by simp) (by simp [eP]) (by simp) (by simp) ?_
      rintro rv m1 ⟨rfl, rfl⟩
      refine ⟨by simp, ⟨rfl, by simp [eP, noTreeB, noTree_ePs]⟩, ?_⟩
      simp
      refine runP_stepQ (by simp; rfl) ?_
      simp [runP]
      apply J.seq
      refine J.regE (by simp; rfl) ?_
      simp
      refine J.condB rfl (fun he => ?_) (fun he => ?_)
      · apply J.seq
        refine J.regE (by simp; rfl) ?_
        simp
        refine J.le hc' (st' := ⟨[], memRF es no f0 x i, [17006, 31003, 31004, 31005, 31006, 31007, 42005, 29002, 29003]⟩) (by apply le_sub <;> simp [memRF, eP, resF] <;> simp at he <;> simp [he]) ?_
        apply J.ret; simp [jumpOf]
        exact .inr ⟨rfl, by simpa using hb, rfl⟩
      · apply J.skip; simp
        apply J.seq
        refine J.regE (by simp; rfl) ?_
        simp
        refine J.le hc' (st' := ⟨[], memRF es no f0 x i, [17006, 31003, 31004, 31005, 31006, 31007, 42005, 29002, 29003]⟩) (by apply le_sub <;> simp [memRF, eP, resF] <;> simp at he <;> simp [he]) ?_
        apply J.ret; simp [jumpOf]
        exact .inr ⟨rfl, by simpa using hb, rfl⟩

theorem d31F (l : List Post) (no : Int) (f0 : Post) (hf : Fit l) : Does Tryd.prog 31 [.ro 5 (ePs l), iv no, .fn 32 [.ptr 17006 0 0 0]] [(17006, .obj 33 (eP f0))] [17006] (Post31F l no f0) := by
  refine Does.ofH c31F (fun c hc => ?_)
  unfold a31F
  apply JH.seq
  refine JH.of hc (fun c' hc' => ?_)
  refine J.regE (by simp; rfl) ?_
  simp
  show JH _ _ _ _ _ _ _
  apply JH.seq
  refine JH.of hc (fun c' hc' => ?_)
  apply J.reg
  refine runL_step rfl (by simp; rfl) ?_
  refine runL_call [] [] rfl rfl (d30o l hf) (by simp) (by simp) (by simp) hc' ?_
  rintro rv m1 ⟨rfl, rfl⟩
  refine ⟨by simp [fairM], ?_⟩
  simp [fairM]
  refine runL_step rfl (by simp; rfl) ?_
  simp [runL]
  show JH _ _ _ _ _ _ _
  obtain ⟨es, hes⟩ : ∃ es, fairL l = es := ⟨_, rfl⟩
  have hlen : es.length ≤ 32 := by rw [← hes]; exact fairL_len l
  have hb31 := body31F l es hes no f0
  have hpost : Post31F l no f0 = fun r m => match stopAt no es 0 with
    | none => r = .tup [.nils 5, iv 5] ∧ m = [(17006, .obj 33 (eP f0))]
    | some (i, x) => es[i]? = some x ∧ r = .tup [resF es f0 x, iv (0 : Int)] ∧ m = [(17006, .obj 33 (eP x)), (42005, .arr 33 5 (ePs es))] := by
    subst hes; rfl
  rw [hpost, hes]
  clear hpost
  apply JH.seq
  apply JH.seq
  refine JH.of hc (fun c' hc' => ?_)
  apply J.reg
  iterate 2 refine runL_step rfl (by simp; rfl) ?_
  refine runL_call [42005] [42005] rfl rfl (d29 es no) (by simp) (by simp) (by simp) hc' ?_
  rintro rv m1 ⟨rfl, rfl⟩
  refine ⟨by simp, ?_⟩
  simp
  simp [runL]
  show JH _ _ _ _ _ _ _
  apply JH.block
  refine JH.le hc (st' := ⟨[(3, .ptr 31003 0 0 0), (4, .ptr 31004 0 0 0), (5, .ptr 31005 0 0 0), (6, .ptr 31006 0 0 0), (7, .ptr 31007 0 0 0), (15, .fn 41 [.ptr 29002 0 0 0, .ptr 29003 0 0 0])], memF es no f0, [17006]⟩) (by apply le_sub <;> simp [memF, eP]) ?_
  refine JH.pin [17006, 31003, 31004, 31005, 31006, 31007, 42005, 29002, 29003] (by simp) (fun c1 h1 h2 h3 => ?_)
  have hc1 : c1.A = c1.B := by rw [h2, h3]; exact hc
  refine JH.rangef hc1 rfl [3, 4, 5, 6, 7] (by simp) (K := KKF es no f0) ?_ ?_
  · show IterOK Tryd.prog 41 [.ptr 29002 0 0 0, .ptr 29003 0 0 0] [17006, 31003, 31004, 31005, 31006, 31007, 42005, 29002, 29003] (memF es no f0) _ _
    refine it41 (bL := 29002) (bF := 29003) (sl := .own 42005 5 0 es.length) (es := es) (frm := no) (fun i m => m = memF es no f0 ∧ ∀ (j : Nat) y, j < i → es[j]? = some y → hit no y = false) (by omega) (by simp) (by simp) (by simp) ⟨rfl, fun j y h => absurd h (by omega)⟩ ?_ ?_ ?_ ?_
    · rintro i m ⟨rfl, -⟩
      refine ⟨⟨⟨by simp [memF], by simp [memF, eP]⟩, by simp [memF], by simp [memF], by simp [memF], .inr ⟨42005, rfl, by simp [memF]⟩⟩, by simp [memF]⟩
    · rintro i x m hx hp ⟨rfl, hj⟩
      refine ⟨rfl, fun j y hji hy => ?_⟩
      by_cases e : j = i
      · subst e
        rw [hx] at hy; injection hy with hy; subst hy
        rcases hp with hp | hp
        · simp [hit, hp]
        · simp [hit, show ¬ no ≤ x.no from by omega]
      · exact hj j y (by omega) hy
    · rintro i x m hx hg hn ⟨rfl, hj⟩
      have hh : hit no x = true := by simp [hit, hg, hn]
      have hst := stopAt_hit (k := 0) hh hx hj
      refine ⟨KBF es no f0 x i, hb31 i x hx, ?_, ?_⟩
      · rintro m' (⟨h, -⟩ | ⟨h, -⟩) <;> cases h
      · rintro e m' - (⟨rfl, hno, rfl⟩ | ⟨rfl, hno, rfl⟩)
        · exact .inr (.inl ⟨rfl, rfl, by rw [hst, if_neg hno]⟩)
        · exact .inr (.inr ⟨rfl, i, x, by rw [hst, if_pos hno]; simp, hx, rfl⟩)
    · rintro m ⟨rfl, hj⟩
      exact .inl ⟨rfl, rfl, stopAt_none (fun j y hy => hj j y (List.getElem?_eq_some_iff.1 hy).1 hy)⟩
  · rintro e j m' hj hK D hD
    refine ⟨rfl, ?_⟩
    rcases hK with ⟨rfl, rfl, hst⟩ | ⟨rfl, rfl, hst⟩ | ⟨rfl, i, x, hst, hx, rfl⟩
    · simp [blockH, thenH]
      apply JH.seq
      refine JH.of hc (fun c' hc' => ?_)
      refine J.regE (by simp [memF]; rfl) ?_
      simp
      show JH _ _ _ _ _ _ _
      refine JH.of hc (fun c' hc' => ?_)
      apply J.ret
      refine ⟨⟨by simp, rfl, _, [(17006, .obj 33 (eP f0))], by simp [a31R]; rfl, ?_⟩, .inr ⟨D, rfl, by simp, by rw [← h1]; exact hD⟩⟩
      simp [hst, eP]
    · simp [blockH, thenH]
      apply JH.seq
      refine JH.of hc (fun c' hc' => ?_)
      refine J.regE (by simp [memF]; rfl) ?_
      simp
      show JH _ _ _ _ _ _ _
      refine JH.of hc (fun c' hc' => ?_)
      apply J.ret
      refine ⟨⟨by simp, rfl, _, [(17006, .obj 33 (eP f0))], by simp [a31R]; rfl, ?_⟩, .inr ⟨D, rfl, by simp, by rw [← h1]; exact hD⟩⟩
      simp [hst, eP]
    · simp [blockH, thenH]
      refine ⟨⟨by simp, rfl, _, [(17006, .obj 33 (eP x)), (42005, .arr 33 5 (ePs es))], by simp [a31R, memRF]; rfl, ?_⟩, .inr ⟨D, rfl, by simp, by rw [← h1]; exact hD⟩⟩
      simp [hst, eP, memRF, hx]
      unfold resF; split <;> simp


def a31r6E : AC := .draw [42005, 22006, 22007] (.take 0 ⟨(some 22), none, .load 1 false (.s 5)⟩ <|
    .take 1 ⟨(some 23), none, .load 1 false (.s 3)⟩ <|
    .take 2 ⟨(some 24), none, .mov (.s 8)⟩ <|
    .take 3 ⟨(some 25), none, .iaddr 5 (.s 23) (.s 24)⟩ <|
    .alt 4 ⟨(some 26), none, .callv (.s 22) [(.s 25)]⟩ (
    .take 5 ⟨(some 10), none, .mov (.s 26)⟩ <|
    .done) .done) [3, 6, 7, 10]
def a31E : AC := .seq (a31r0) (.seq (a31r1) (.seq (.seq (a31r2) (.block 0 (.rangef (.s 15) [16, 17] (.seq (a31r3) (a31r4)) (.block 1 (.seq (.seq (a31r5) (.cond (.s 21) (.exit 0) (.skip))) (.seq (.seq (a31r6E) (.seq (a31r7) (.cond (.s 28) (.seq (a31r8) (.ret)) (.skip)))) (.seq (a31r9) (.ret)))))))) (.seq (a31r10) (.ret))))
theorem c31E : chkFn Tryd.prog 31 31 3 a31E a31R = true := by kernel_rfl
def memE (es : List Post) (no : Int) (user : Int) (s : ByteArray) : Mem := [(22006, .obj 3 [iv user]), (22007, .obj 9 [sv s]), (31003, .obj 22 [.own 42005 5 0 es.length]), (31004, .obj 3 [iv no]), (31005, .obj 55 [.fn 37 [.ptr 22006 0 0 0, .ptr 22007 0 0 0]]), (31006, .obj 22 [.nils 5]), (31007, .obj 27 [iv 0]), (42005, .arr 33 5 (ePs es)), (29002, .obj 22 [.own 42005 5 0 es.length]), (29003, .obj 3 [iv no])]
def resE (es : List Post) (user : Int) (s : ByteArray) (x : Post) : AV := if (dofE user s x).2 = 0 then .own 42005 5 0 es.length else .nils 5
def memRE (es : List Post) (no : Int) (user : Int) (s : ByteArray) (x : Post) (i : Nat) : Mem := [(22006, .obj 3 [iv user]), (22007, .obj 9 [sv s]), (31003, .obj 22 [.own 42005 5 0 es.length]), (31004, .obj 3 [iv no]), (31005, .obj 55 [.fn 37 [.ptr 22006 0 0 0, .ptr 22007 0 0 0]]), (31006, .obj 22 [resE es user s x]), (31007, .obj 27 [iv (dofE user s x).2]), (42005, .arr 33 5 (ePs (es.set i (dofE user s x).1))), (29002, .obj 22 [.own 42005 5 0 es.length]), (29003, .obj 3 [iv no])]
def KBE (es : List Post) (no : Int) (user : Int) (s : ByteArray) (x : Post) (i : Nat) (e : Exit) (m' : Mem) : Prop := (e = .exit 0 ∧ x.no ≠ no ∧ m' = memE es no user s) ∨ (e = .ret ∧ x.no = no ∧ m' = memRE es no user s x i)
def KKE (es : List Post) (no : Int) (user : Int) (s : ByteArray) (e : Exit) (m' : Mem) : Prop := (e = .normal ∧ m' = memE es no user s ∧ stopAt no es 0 = none) ∨ (e = .exit 0 ∧ m' = memE es no user s ∧ stopAt no es 0 = none) ∨ (e = .ret ∧ ∃ i x, stopAt no es 0 = some (i, x) ∧ es[i]? = some x ∧ m' = memRE es no user s x i)
/-- What posts.change answers. -/
def Post31E (l : List Post) (no : Int) (user : Int) (s : ByteArray) (r : AV) (m : Mem) : Prop := match stopAt no (fairL l) 0 with
  | none => r = .tup [.nils 5, iv 5] ∧ m = [(22006, .obj 3 [iv user]), (22007, .obj 9 [sv s])]
  | some (i, x) => (fairL l)[i]? = some x ∧ r = .tup [resE (fairL l) user s x, iv (dofE user s x).2] ∧ m = let es := fairL l; [(22006, .obj 3 [iv user]), (22007, .obj 9 [sv s]), (42005, .arr 33 5 (ePs (es.set i (dofE user s x).1)))]

theorem body31E (l es : List Post) (hes : fairL l = es) (no : Int) (user : Int) (s : ByteArray) (i : Nat) (x : Post) (hx : es[i]? = some x) :
    BodyOK Tryd.prog 31 [16, 17] (a31r3.seq a31r4) (AC.block 1 ((a31r5.seq (AC.cond (Src.s 21) (AC.exit 0) AC.skip)).seq ((a31r6E.seq (a31r7.seq (AC.cond (Src.s 28) (a31r8.seq AC.ret) AC.skip))).seq (a31r9.seq AC.ret))))
      [(3, .ptr 31003 0 0 0), (4, .ptr 31004 0 0 0), (5, .ptr 31005 0 0 0), (6, .ptr 31006 0 0 0), (7, .ptr 31007 0 0 0)] [22006, 22007, 31003, 31004, 31005, 31006, 31007, 42005, 29002, 29003] (memE es no user s) [iv (i : Nat), .agg (eP x)] (KBE es no user s x i) := by
  obtain ⟨hi, hgx, hge⟩ := ePs_at hx
  refine ⟨rfl, fun st1 => st1 = ⟨[(3, .ptr 31003 0 0 0), (4, .ptr 31004 0 0 0), (5, .ptr 31005 0 0 0), (6, .ptr 31006 0 0 0), (7, .ptr 31007 0 0 0), (8, iv (i : Nat)), (9, .ptr 31009 0 0 0)], memE es no user s ++ [(31009, .obj 33 (eP x))], [22006, 22007, 31003, 31004, 31005, 31006, 31007, 42005, 29002, 29003]⟩, ?h1, ?h2⟩
  case h1 =>
    intro c' hc'
    simp [putL, memE]
    apply J.seq
    refine J.regE (by simp; rfl) ?_
    simp
    refine J.regE (by simp [eP]; rfl) ?_
    simp [eP]
  case h2 =>
    rintro s1 - rfl c' hc'
    simp only [memE, eP, List.cons_append, List.nil_append]
    apply J.block
    apply J.seq
    apply J.seq
    refine J.regE (by simp; rfl) ?_
    simp
    refine J.condB rfl (fun hb => ?_) (fun hb => ?_)
    · refine J.le hc' (st' := ⟨[], memE es no user s, [22006, 22007, 31003, 31004, 31005, 31006, 31007, 42005, 29002, 29003]⟩) (by apply le_sub <;> simp [memE, eP]) ?_
      apply J.exit; simp [jumpOf]
      exact .inl ⟨rfl, by simpa using hb, rfl⟩
    · apply J.skip; simp
      apply J.seq; apply J.seq
      apply J.draw; intro c2 hc2
      iterate 4 refine runP_stepQ (by simp [hi]; rfl) ?_
      refine runP_call [22006, 22007, 42005] [22006, 22007, 42005] rfl rfl (d37 user s x es i hx (fairL_may (l := l) x (by rw [hes]; exact List.mem_of_getElem? hx))) (by simp) (by simp [eP]) (by simp) (by simp) ?_
      rintro rv m1 ⟨rfl, rfl⟩
      refine ⟨by simp, ⟨rfl, by simp [eP, noTreeB, noTree_ePs]⟩, ?_⟩
      simp
      refine runP_stepQ (by simp; rfl) ?_
      simp [runP]
      apply J.seq
      refine J.regE (by simp; rfl) ?_
      simp
      refine J.condB rfl (fun he => ?_) (fun he => ?_)
      · apply J.seq
        refine J.regE (by simp; rfl) ?_
        simp
        refine J.le hc' (st' := ⟨[], memRE es no user s x i, [22006, 22007, 31003, 31004, 31005, 31006, 31007, 42005, 29002, 29003]⟩) (by apply le_sub <;> simp [memRE, eP, resE] <;> simp at he <;> simp [he]) ?_
        apply J.ret; simp [jumpOf]
        exact .inr ⟨rfl, by simpa using hb, rfl⟩
      · apply J.skip; simp
        apply J.seq
        refine J.regE (by simp; rfl) ?_
        simp
        refine J.le hc' (st' := ⟨[], memRE es no user s x i, [22006, 22007, 31003, 31004, 31005, 31006, 31007, 42005, 29002, 29003]⟩) (by apply le_sub <;> simp [memRE, eP, resE] <;> simp at he <;> simp [he]) ?_
        apply J.ret; simp [jumpOf]
        exact .inr ⟨rfl, by simpa using hb, rfl⟩

theorem d31E (l : List Post) (no : Int) (user : Int) (s : ByteArray) (hf : Fit l) : Does Tryd.prog 31 [.ro 5 (ePs l), iv no, .fn 37 [.ptr 22006 0 0 0, .ptr 22007 0 0 0]] [(22006, .obj 3 [iv user]), (22007, .obj 9 [sv s])] [22006, 22007] (Post31E l no user s) := by
  refine Does.ofH c31E (fun c hc => ?_)
  unfold a31E
  apply JH.seq
  refine JH.of hc (fun c' hc' => ?_)
  refine J.regE (by simp; rfl) ?_
  simp
  show JH _ _ _ _ _ _ _
  apply JH.seq
  refine JH.of hc (fun c' hc' => ?_)
  apply J.reg
  refine runL_step rfl (by simp; rfl) ?_
  refine runL_call [] [] rfl rfl (d30o l hf) (by simp) (by simp) (by simp) hc' ?_
  rintro rv m1 ⟨rfl, rfl⟩
  refine ⟨by simp [fairM], ?_⟩
  simp [fairM]
  refine runL_step rfl (by simp; rfl) ?_
  simp [runL]
  show JH _ _ _ _ _ _ _
  obtain ⟨es, hes⟩ : ∃ es, fairL l = es := ⟨_, rfl⟩
  have hlen : es.length ≤ 32 := by rw [← hes]; exact fairL_len l
  have hb31 := body31E l es hes no user s
  have hpost : Post31E l no user s = fun r m => match stopAt no es 0 with
    | none => r = .tup [.nils 5, iv 5] ∧ m = [(22006, .obj 3 [iv user]), (22007, .obj 9 [sv s])]
    | some (i, x) => es[i]? = some x ∧ r = .tup [resE es user s x, iv (dofE user s x).2] ∧ m = [(22006, .obj 3 [iv user]), (22007, .obj 9 [sv s]), (42005, .arr 33 5 (ePs (es.set i (dofE user s x).1)))] := by
    subst hes; rfl
  rw [hpost, hes]
  clear hpost
  apply JH.seq
  apply JH.seq
  refine JH.of hc (fun c' hc' => ?_)
  apply J.reg
  iterate 2 refine runL_step rfl (by simp; rfl) ?_
  refine runL_call [42005] [42005] rfl rfl (d29 es no) (by simp) (by simp) (by simp) hc' ?_
  rintro rv m1 ⟨rfl, rfl⟩
  refine ⟨by simp, ?_⟩
  simp
  simp [runL]
  show JH _ _ _ _ _ _ _
  apply JH.block
  refine JH.le hc (st' := ⟨[(3, .ptr 31003 0 0 0), (4, .ptr 31004 0 0 0), (5, .ptr 31005 0 0 0), (6, .ptr 31006 0 0 0), (7, .ptr 31007 0 0 0), (15, .fn 41 [.ptr 29002 0 0 0, .ptr 29003 0 0 0])], memE es no user s, [22006, 22007]⟩) (by apply le_sub <;> simp [memE, eP]) ?_
  refine JH.pin [22006, 22007, 31003, 31004, 31005, 31006, 31007, 42005, 29002, 29003] (by simp) (fun c1 h1 h2 h3 => ?_)
  have hc1 : c1.A = c1.B := by rw [h2, h3]; exact hc
  refine JH.rangef hc1 rfl [3, 4, 5, 6, 7] (by simp) (K := KKE es no user s) ?_ ?_
  · show IterOK Tryd.prog 41 [.ptr 29002 0 0 0, .ptr 29003 0 0 0] [22006, 22007, 31003, 31004, 31005, 31006, 31007, 42005, 29002, 29003] (memE es no user s) _ _
    refine it41 (bL := 29002) (bF := 29003) (sl := .own 42005 5 0 es.length) (es := es) (frm := no) (fun i m => m = memE es no user s ∧ ∀ (j : Nat) y, j < i → es[j]? = some y → hit no y = false) (by omega) (by simp) (by simp) (by simp) ⟨rfl, fun j y h => absurd h (by omega)⟩ ?_ ?_ ?_ ?_
    · rintro i m ⟨rfl, -⟩
      refine ⟨⟨⟨by simp [memE], by simp [memE, eP]⟩, by simp [memE], by simp [memE], by simp [memE], .inr ⟨42005, rfl, by simp [memE]⟩⟩, by simp [memE]⟩
    · rintro i x m hx hp ⟨rfl, hj⟩
      refine ⟨rfl, fun j y hji hy => ?_⟩
      by_cases e : j = i
      · subst e
        rw [hx] at hy; injection hy with hy; subst hy
        rcases hp with hp | hp
        · simp [hit, hp]
        · simp [hit, show ¬ no ≤ x.no from by omega]
      · exact hj j y (by omega) hy
    · rintro i x m hx hg hn ⟨rfl, hj⟩
      have hh : hit no x = true := by simp [hit, hg, hn]
      have hst := stopAt_hit (k := 0) hh hx hj
      refine ⟨KBE es no user s x i, hb31 i x hx, ?_, ?_⟩
      · rintro m' (⟨h, -⟩ | ⟨h, -⟩) <;> cases h
      · rintro e m' - (⟨rfl, hno, rfl⟩ | ⟨rfl, hno, rfl⟩)
        · exact .inr (.inl ⟨rfl, rfl, by rw [hst, if_neg hno]⟩)
        · exact .inr (.inr ⟨rfl, i, x, by rw [hst, if_pos hno]; simp, hx, rfl⟩)
    · rintro m ⟨rfl, hj⟩
      exact .inl ⟨rfl, rfl, stopAt_none (fun j y hy => hj j y (List.getElem?_eq_some_iff.1 hy).1 hy)⟩
  · rintro e j m' hj hK D hD
    refine ⟨rfl, ?_⟩
    rcases hK with ⟨rfl, rfl, hst⟩ | ⟨rfl, rfl, hst⟩ | ⟨rfl, i, x, hst, hx, rfl⟩
    · simp [blockH, thenH]
      apply JH.seq
      refine JH.of hc (fun c' hc' => ?_)
      refine J.regE (by simp [memE]; rfl) ?_
      simp
      show JH _ _ _ _ _ _ _
      refine JH.of hc (fun c' hc' => ?_)
      apply J.ret
      refine ⟨⟨by simp, rfl, _, [(22006, .obj 3 [iv user]), (22007, .obj 9 [sv s])], by simp [a31R]; rfl, ?_⟩, .inr ⟨D, rfl, by simp, by rw [← h1]; exact hD⟩⟩
      simp [hst, eP]
    · simp [blockH, thenH]
      apply JH.seq
      refine JH.of hc (fun c' hc' => ?_)
      refine J.regE (by simp [memE]; rfl) ?_
      simp
      show JH _ _ _ _ _ _ _
      refine JH.of hc (fun c' hc' => ?_)
      apply J.ret
      refine ⟨⟨by simp, rfl, _, [(22006, .obj 3 [iv user]), (22007, .obj 9 [sv s])], by simp [a31R]; rfl, ?_⟩, .inr ⟨D, rfl, by simp, by rw [← h1]; exact hD⟩⟩
      simp [hst, eP]
    · simp [blockH, thenH]
      refine ⟨⟨by simp, rfl, _, [(22006, .obj 3 [iv user]), (22007, .obj 9 [sv s]), (42005, .arr 33 5 (ePs (es.set i (dofE user s x).1)))], by simp [a31R, memRE]; rfl, ?_⟩, .inr ⟨D, rfl, by simp, by rw [← h1]; exact hD⟩⟩
      simp [hst, eP, memRE, hx]
      unfold resE; split <;> simp


def a31r6D : AC := .draw [42005, 23006, 23007] (.take 0 ⟨(some 22), none, .load 1 false (.s 5)⟩ <|
    .take 1 ⟨(some 23), none, .load 1 false (.s 3)⟩ <|
    .take 2 ⟨(some 24), none, .mov (.s 8)⟩ <|
    .take 3 ⟨(some 25), none, .iaddr 5 (.s 23) (.s 24)⟩ <|
    .alt 4 ⟨(some 26), none, .callv (.s 22) [(.s 25)]⟩ (
    .take 5 ⟨(some 10), none, .mov (.s 26)⟩ <|
    .done) .done) [3, 6, 7, 10]
def a31D : AC := .seq (a31r0) (.seq (a31r1) (.seq (.seq (a31r2) (.block 0 (.rangef (.s 15) [16, 17] (.seq (a31r3) (a31r4)) (.block 1 (.seq (.seq (a31r5) (.cond (.s 21) (.exit 0) (.skip))) (.seq (.seq (a31r6D) (.seq (a31r7) (.cond (.s 28) (.seq (a31r8) (.ret)) (.skip)))) (.seq (a31r9) (.ret)))))))) (.seq (a31r10) (.ret))))
theorem c31D : chkFn Tryd.prog 31 31 3 a31D a31R = true := by kernel_rfl
def memD (es : List Post) (no : Int) (user owner : Int) : Mem := [(23006, .obj 3 [iv user]), (23007, .obj 3 [iv owner]), (31003, .obj 22 [.own 42005 5 0 es.length]), (31004, .obj 3 [iv no]), (31005, .obj 55 [.fn 38 [.ptr 23006 0 0 0, .ptr 23007 0 0 0]]), (31006, .obj 22 [.nils 5]), (31007, .obj 27 [iv 0]), (42005, .arr 33 5 (ePs es)), (29002, .obj 22 [.own 42005 5 0 es.length]), (29003, .obj 3 [iv no])]
def resD (es : List Post) (user owner : Int) (x : Post) : AV := if (dofD user owner x).2 = 0 then .own 42005 5 0 es.length else .nils 5
def memRD (es : List Post) (no : Int) (user owner : Int) (x : Post) (i : Nat) : Mem := [(23006, .obj 3 [iv user]), (23007, .obj 3 [iv owner]), (31003, .obj 22 [.own 42005 5 0 es.length]), (31004, .obj 3 [iv no]), (31005, .obj 55 [.fn 38 [.ptr 23006 0 0 0, .ptr 23007 0 0 0]]), (31006, .obj 22 [resD es user owner x]), (31007, .obj 27 [iv (dofD user owner x).2]), (42005, .arr 33 5 (ePs (es.set i (dofD user owner x).1))), (29002, .obj 22 [.own 42005 5 0 es.length]), (29003, .obj 3 [iv no])]
def KBD (es : List Post) (no : Int) (user owner : Int) (x : Post) (i : Nat) (e : Exit) (m' : Mem) : Prop := (e = .exit 0 ∧ x.no ≠ no ∧ m' = memD es no user owner) ∨ (e = .ret ∧ x.no = no ∧ m' = memRD es no user owner x i)
def KKD (es : List Post) (no : Int) (user owner : Int) (e : Exit) (m' : Mem) : Prop := (e = .normal ∧ m' = memD es no user owner ∧ stopAt no es 0 = none) ∨ (e = .exit 0 ∧ m' = memD es no user owner ∧ stopAt no es 0 = none) ∨ (e = .ret ∧ ∃ i x, stopAt no es 0 = some (i, x) ∧ es[i]? = some x ∧ m' = memRD es no user owner x i)
/-- What posts.change answers. -/
def Post31D (l : List Post) (no : Int) (user owner : Int) (r : AV) (m : Mem) : Prop := match stopAt no (fairL l) 0 with
  | none => r = .tup [.nils 5, iv 5] ∧ m = [(23006, .obj 3 [iv user]), (23007, .obj 3 [iv owner])]
  | some (i, x) => (fairL l)[i]? = some x ∧ r = .tup [resD (fairL l) user owner x, iv (dofD user owner x).2] ∧ m = let es := fairL l; [(23006, .obj 3 [iv user]), (23007, .obj 3 [iv owner]), (42005, .arr 33 5 (ePs (es.set i (dofD user owner x).1)))]

theorem body31D (l es : List Post) (hes : fairL l = es) (no : Int) (user owner : Int) (i : Nat) (x : Post) (hx : es[i]? = some x) :
    BodyOK Tryd.prog 31 [16, 17] (a31r3.seq a31r4) (AC.block 1 ((a31r5.seq (AC.cond (Src.s 21) (AC.exit 0) AC.skip)).seq ((a31r6D.seq (a31r7.seq (AC.cond (Src.s 28) (a31r8.seq AC.ret) AC.skip))).seq (a31r9.seq AC.ret))))
      [(3, .ptr 31003 0 0 0), (4, .ptr 31004 0 0 0), (5, .ptr 31005 0 0 0), (6, .ptr 31006 0 0 0), (7, .ptr 31007 0 0 0)] [23006, 23007, 31003, 31004, 31005, 31006, 31007, 42005, 29002, 29003] (memD es no user owner) [iv (i : Nat), .agg (eP x)] (KBD es no user owner x i) := by
  obtain ⟨hi, hgx, hge⟩ := ePs_at hx
  refine ⟨rfl, fun st1 => st1 = ⟨[(3, .ptr 31003 0 0 0), (4, .ptr 31004 0 0 0), (5, .ptr 31005 0 0 0), (6, .ptr 31006 0 0 0), (7, .ptr 31007 0 0 0), (8, iv (i : Nat)), (9, .ptr 31009 0 0 0)], memD es no user owner ++ [(31009, .obj 33 (eP x))], [23006, 23007, 31003, 31004, 31005, 31006, 31007, 42005, 29002, 29003]⟩, ?h1, ?h2⟩
  case h1 =>
    intro c' hc'
    simp [putL, memD]
    apply J.seq
    refine J.regE (by simp; rfl) ?_
    simp
    refine J.regE (by simp [eP]; rfl) ?_
    simp [eP]
  case h2 =>
    rintro s1 - rfl c' hc'
    simp only [memD, eP, List.cons_append, List.nil_append]
    apply J.block
    apply J.seq
    apply J.seq
    refine J.regE (by simp; rfl) ?_
    simp
    refine J.condB rfl (fun hb => ?_) (fun hb => ?_)
    · refine J.le hc' (st' := ⟨[], memD es no user owner, [23006, 23007, 31003, 31004, 31005, 31006, 31007, 42005, 29002, 29003]⟩) (by apply le_sub <;> simp [memD, eP]) ?_
      apply J.exit; simp [jumpOf]
      exact .inl ⟨rfl, by simpa using hb, rfl⟩
    · apply J.skip; simp
      apply J.seq; apply J.seq
      apply J.draw; intro c2 hc2
      iterate 4 refine runP_stepQ (by simp [hi]; rfl) ?_
      refine runP_call [23006, 23007, 42005] [23006, 23007, 42005] rfl rfl (d38 user owner x es i hx) (by simp) (by simp [eP]) (by simp) (by simp) ?_
      rintro rv m1 ⟨rfl, rfl⟩
      refine ⟨by simp, ⟨rfl, by simp [eP, noTreeB, noTree_ePs]⟩, ?_⟩
      simp
      refine runP_stepQ (by simp; rfl) ?_
      simp [runP]
      apply J.seq
      refine J.regE (by simp; rfl) ?_
      simp
      refine J.condB rfl (fun he => ?_) (fun he => ?_)
      · apply J.seq
        refine J.regE (by simp; rfl) ?_
        simp
        refine J.le hc' (st' := ⟨[], memRD es no user owner x i, [23006, 23007, 31003, 31004, 31005, 31006, 31007, 42005, 29002, 29003]⟩) (by apply le_sub <;> simp [memRD, eP, resD] <;> simp at he <;> simp [he]) ?_
        apply J.ret; simp [jumpOf]
        exact .inr ⟨rfl, by simpa using hb, rfl⟩
      · apply J.skip; simp
        apply J.seq
        refine J.regE (by simp; rfl) ?_
        simp
        refine J.le hc' (st' := ⟨[], memRD es no user owner x i, [23006, 23007, 31003, 31004, 31005, 31006, 31007, 42005, 29002, 29003]⟩) (by apply le_sub <;> simp [memRD, eP, resD] <;> simp at he <;> simp [he]) ?_
        apply J.ret; simp [jumpOf]
        exact .inr ⟨rfl, by simpa using hb, rfl⟩

theorem d31D (l : List Post) (no : Int) (user owner : Int) (hf : Fit l) : Does Tryd.prog 31 [.ro 5 (ePs l), iv no, .fn 38 [.ptr 23006 0 0 0, .ptr 23007 0 0 0]] [(23006, .obj 3 [iv user]), (23007, .obj 3 [iv owner])] [23006, 23007] (Post31D l no user owner) := by
  refine Does.ofH c31D (fun c hc => ?_)
  unfold a31D
  apply JH.seq
  refine JH.of hc (fun c' hc' => ?_)
  refine J.regE (by simp; rfl) ?_
  simp
  show JH _ _ _ _ _ _ _
  apply JH.seq
  refine JH.of hc (fun c' hc' => ?_)
  apply J.reg
  refine runL_step rfl (by simp; rfl) ?_
  refine runL_call [] [] rfl rfl (d30o l hf) (by simp) (by simp) (by simp) hc' ?_
  rintro rv m1 ⟨rfl, rfl⟩
  refine ⟨by simp [fairM], ?_⟩
  simp [fairM]
  refine runL_step rfl (by simp; rfl) ?_
  simp [runL]
  show JH _ _ _ _ _ _ _
  obtain ⟨es, hes⟩ : ∃ es, fairL l = es := ⟨_, rfl⟩
  have hlen : es.length ≤ 32 := by rw [← hes]; exact fairL_len l
  have hb31 := body31D l es hes no user owner
  have hpost : Post31D l no user owner = fun r m => match stopAt no es 0 with
    | none => r = .tup [.nils 5, iv 5] ∧ m = [(23006, .obj 3 [iv user]), (23007, .obj 3 [iv owner])]
    | some (i, x) => es[i]? = some x ∧ r = .tup [resD es user owner x, iv (dofD user owner x).2] ∧ m = [(23006, .obj 3 [iv user]), (23007, .obj 3 [iv owner]), (42005, .arr 33 5 (ePs (es.set i (dofD user owner x).1)))] := by
    subst hes; rfl
  rw [hpost, hes]
  clear hpost
  apply JH.seq
  apply JH.seq
  refine JH.of hc (fun c' hc' => ?_)
  apply J.reg
  iterate 2 refine runL_step rfl (by simp; rfl) ?_
  refine runL_call [42005] [42005] rfl rfl (d29 es no) (by simp) (by simp) (by simp) hc' ?_
  rintro rv m1 ⟨rfl, rfl⟩
  refine ⟨by simp, ?_⟩
  simp
  simp [runL]
  show JH _ _ _ _ _ _ _
  apply JH.block
  refine JH.le hc (st' := ⟨[(3, .ptr 31003 0 0 0), (4, .ptr 31004 0 0 0), (5, .ptr 31005 0 0 0), (6, .ptr 31006 0 0 0), (7, .ptr 31007 0 0 0), (15, .fn 41 [.ptr 29002 0 0 0, .ptr 29003 0 0 0])], memD es no user owner, [23006, 23007]⟩) (by apply le_sub <;> simp [memD, eP]) ?_
  refine JH.pin [23006, 23007, 31003, 31004, 31005, 31006, 31007, 42005, 29002, 29003] (by simp) (fun c1 h1 h2 h3 => ?_)
  have hc1 : c1.A = c1.B := by rw [h2, h3]; exact hc
  refine JH.rangef hc1 rfl [3, 4, 5, 6, 7] (by simp) (K := KKD es no user owner) ?_ ?_
  · show IterOK Tryd.prog 41 [.ptr 29002 0 0 0, .ptr 29003 0 0 0] [23006, 23007, 31003, 31004, 31005, 31006, 31007, 42005, 29002, 29003] (memD es no user owner) _ _
    refine it41 (bL := 29002) (bF := 29003) (sl := .own 42005 5 0 es.length) (es := es) (frm := no) (fun i m => m = memD es no user owner ∧ ∀ (j : Nat) y, j < i → es[j]? = some y → hit no y = false) (by omega) (by simp) (by simp) (by simp) ⟨rfl, fun j y h => absurd h (by omega)⟩ ?_ ?_ ?_ ?_
    · rintro i m ⟨rfl, -⟩
      refine ⟨⟨⟨by simp [memD], by simp [memD, eP]⟩, by simp [memD], by simp [memD], by simp [memD], .inr ⟨42005, rfl, by simp [memD]⟩⟩, by simp [memD]⟩
    · rintro i x m hx hp ⟨rfl, hj⟩
      refine ⟨rfl, fun j y hji hy => ?_⟩
      by_cases e : j = i
      · subst e
        rw [hx] at hy; injection hy with hy; subst hy
        rcases hp with hp | hp
        · simp [hit, hp]
        · simp [hit, show ¬ no ≤ x.no from by omega]
      · exact hj j y (by omega) hy
    · rintro i x m hx hg hn ⟨rfl, hj⟩
      have hh : hit no x = true := by simp [hit, hg, hn]
      have hst := stopAt_hit (k := 0) hh hx hj
      refine ⟨KBD es no user owner x i, hb31 i x hx, ?_, ?_⟩
      · rintro m' (⟨h, -⟩ | ⟨h, -⟩) <;> cases h
      · rintro e m' - (⟨rfl, hno, rfl⟩ | ⟨rfl, hno, rfl⟩)
        · exact .inr (.inl ⟨rfl, rfl, by rw [hst, if_neg hno]⟩)
        · exact .inr (.inr ⟨rfl, i, x, by rw [hst, if_pos hno]; simp, hx, rfl⟩)
    · rintro m ⟨rfl, hj⟩
      exact .inl ⟨rfl, rfl, stopAt_none (fun j y hy => hj j y (List.getElem?_eq_some_iff.1 hy).1 hy)⟩
  · rintro e j m' hj hK D hD
    refine ⟨rfl, ?_⟩
    rcases hK with ⟨rfl, rfl, hst⟩ | ⟨rfl, rfl, hst⟩ | ⟨rfl, i, x, hst, hx, rfl⟩
    · simp [blockH, thenH]
      apply JH.seq
      refine JH.of hc (fun c' hc' => ?_)
      refine J.regE (by simp [memD]; rfl) ?_
      simp
      show JH _ _ _ _ _ _ _
      refine JH.of hc (fun c' hc' => ?_)
      apply J.ret
      refine ⟨⟨by simp, rfl, _, [(23006, .obj 3 [iv user]), (23007, .obj 3 [iv owner])], by simp [a31R]; rfl, ?_⟩, .inr ⟨D, rfl, by simp, by rw [← h1]; exact hD⟩⟩
      simp [hst, eP]
    · simp [blockH, thenH]
      apply JH.seq
      refine JH.of hc (fun c' hc' => ?_)
      refine J.regE (by simp [memD]; rfl) ?_
      simp
      show JH _ _ _ _ _ _ _
      refine JH.of hc (fun c' hc' => ?_)
      apply J.ret
      refine ⟨⟨by simp, rfl, _, [(23006, .obj 3 [iv user]), (23007, .obj 3 [iv owner])], by simp [a31R]; rfl, ?_⟩, .inr ⟨D, rfl, by simp, by rw [← h1]; exact hD⟩⟩
      simp [hst, eP]
    · simp [blockH, thenH]
      refine ⟨⟨by simp, rfl, _, [(23006, .obj 3 [iv user]), (23007, .obj 3 [iv owner]), (42005, .arr 33 5 (ePs (es.set i (dofD user owner x).1)))], by simp [a31R, memRD]; rfl, ?_⟩, .inr ⟨D, rfl, by simp, by rw [← h1]; exact hD⟩⟩
      simp [hst, eP, memRD, hx]
      unfold resD; split <;> simp

end Go.Proofs.YtifpfpiljionmaaDoor.F
