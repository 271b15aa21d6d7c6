/- Parts of a symbolic execution and of walks by it, for the statements of this seat: V6, V7, V12, V13, V14, W15, W16. -/
import Derived.Test.YtadbdchbdjkcdaaGreatDoorQb8
set_option linter.unusedVariables false
set_option linter.unusedSimpArgs false
namespace Go.Proofs.YtadbdchbdjkcdaaGreatDoor.P16
open Go Go.SX
def hit (no : Int) (x : Post) : Bool := !x.gone && decide (no ≤ x.no)
def stopAt (no : Int) : List Post → Nat → Option (Nat × Post)
 | [], _ => none
 | x :: r, k => if hit no x then (if x.no = no then some (k, x) else none) else stopAt no r (k + 1)
theorem stopAt_none {no : Int} : ∀ {es : List Post} {k : Nat}, (∀ (j : Nat) y, es[j]? = some y → hit no y = false) → stopAt no es k = none
 | [], _, _ => rfl
 | x :: r, k, h => by
  have h0 := h 0 x rfl
  simp only [stopAt, h0]
  exact stopAt_none (fun j y hy => h (j + 1) y (by simpa using hy))
theorem stopAt_hit {no : Int} {x : Post} (hh : hit no x = true) : ∀ {es : List Post} {i k : Nat}, es[i]? = some x → (∀ (j : Nat) y, j < i → es[j]? = some y → hit no y = false) → stopAt no es k = if x.no = no then some (k + i, x) else none
 | [], i, k, hx, _ => by simp at hx
 | y :: r, 0, k, hx, _ => by simp at hx; subst hx; simp [stopAt, hh]
 | y :: r, i + 1, k, hx, h => by
  have h0 := h 0 y (by omega) rfl
  simp only [stopAt, h0]
  have := stopAt_hit hh (es := r) (i := i) (k := k + 1) (by simpa using hx) (fun j z hj hz => h (j + 1) z (by omega) (by simpa using hz))
  simp only [Bool.false_eq_true, if_false, this, show k + 1 + i = k + (i + 1) from by omega]
theorem noTree_ePs (es : List Post) : ((ePs es).all noTreeL) = true := by simp [ePs, eP, noTreeL, noTree]
theorem mayFrom_all : ∀ {l : List Post} {p : Option Int}, mayFrom p l = true → ∀ x ∈ l, mayP x = true
 | [], _, _, x, hx => by simp at hx
 | y :: r, p, h, x, hx => by
  simp only [mayFrom, Bool.and_eq_true] at h
  rcases List.mem_cons.1 hx with rfl | hx
  ·exact h.1.1
  ·exact mayFrom_all h.2 x hx
theorem fairL_may {l : List Post} : ∀ x ∈ fairL l, mayP x = true := by
 unfold fairL
 split
 ·rename_i h; simp only [mayPs, Bool.and_eq_true] at h; exact mayFrom_all h.1
 ·simp
def a31r6F : AC := .draw [42005, 17006] (.take 0 ⟨(some 22), none, .load 1 false (.s 5)⟩ <|
  .take 1 ⟨(some 23), none, .load 1 false (.s 3)⟩ <|
  .take 2 ⟨(some 24), none, .mov (.s 8)⟩ <|
  .take 3 ⟨(some 25), none, .iaddr 5 (.s 23) (.s 24)⟩ <|
  .alt 4 ⟨(some 26), none, .callv (.s 22) [(.s 25)]⟩ (
  .take 5 ⟨(some 10), none, .mov (.s 26)⟩ <|
  .done) .done) [3, 6, 7, 10]
def a31F : AC := .seq (a31r0) (.seq (a31r1) (.seq (.seq (a31r2) (.block 0 (.rangef (.s 15) [16, 17] (.seq (a31r3) (a31r4)) (.block 1 (.seq (.seq (a31r5) (.cond (.s 21) (.exit 0) (.skip))) (.seq (.seq (a31r6F) (.seq (a31r7) (.cond (.s 28) (.seq (a31r8) (.ret)) (.skip)))) (.seq (a31r9) (.ret)))))))) (.seq (a31r10) (.ret))))
theorem c31F : chkFn Tryz.prog 149 31 3 a31F a31R = true := by kernel_rfl
def memF (es : List Post) (no : Int) (f0 : Post) : Mem := [(17006, .obj 86 (eP f0)), (31003, .obj 50 [.own 42005 5 0 es.length]), (31004, .obj 3 [iv no]), (31005, .obj 168 [.fn 163 [.ptr 17006 0 0 0]]), (31006, .obj 50 [.nils 5]), (31007, .obj 37 [iv 0]), (42005, .arr 86 5 (ePs es)), (29002, .obj 50 [.own 42005 5 0 es.length]), (29003, .obj 3 [iv no])]
def resF (es : List Post) (f0 : Post) (x : Post) : AV := if (0 : Int) = 0 then .own 42005 5 0 es.length else .nils 5
def memRF (es : List Post) (no : Int) (f0 : Post) (x : Post) (i : Nat) : Mem := [(17006, .obj 86 (eP x)), (31003, .obj 50 [.own 42005 5 0 es.length]), (31004, .obj 3 [iv no]), (31005, .obj 168 [.fn 163 [.ptr 17006 0 0 0]]), (31006, .obj 50 [resF es f0 x]), (31007, .obj 37 [iv (0 : Int)]), (42005, .arr 86 5 (ePs es)), (29002, .obj 50 [.own 42005 5 0 es.length]), (29003, .obj 3 [iv no])]
def KBF (es : List Post) (no : Int) (f0 : Post) (x : Post) (i : Nat) (e : Exit) (m' : Mem) : Prop := (e = .exit 0 ∧ x.no ≠ no ∧ m' = memF es no f0) ∨ (e = .ret ∧ x.no = no ∧ m' = memRF es no f0 x i)
def KKF (es : List Post) (no : Int) (f0 : Post) (e : Exit) (m' : Mem) : Prop := (e = .normal ∧ m' = memF es no f0 ∧ stopAt no es 0 = none) ∨ (e = .exit 0 ∧ m' = memF es no f0 ∧ stopAt no es 0 = none) ∨ (e = .ret ∧ ∃ i x, stopAt no es 0 = some (i, x) ∧ es[i]? = some x ∧ m' = memRF es no f0 x i)
def Post31F (l : List Post) (no : Int) (f0 : Post) (r : AV) (m : Mem) : Prop := match stopAt no (fairL l) 0 with
 | none => r = .tup [.nils 5, iv 5] ∧ m = [(17006, .obj 86 (eP f0))]
 | some (i, x) => (fairL l)[i]? = some x ∧ r = .tup [resF (fairL l) f0 x, iv (0 : Int)] ∧ m = let es := fairL l; [(17006, .obj 86 (eP x)), (42005, .arr 86 5 (ePs es))]
theorem body31F (l es : List Post) (hes : fairL l = es) (no : Int) (f0 : Post) (i : Nat) (x : Post) (hx : es[i]? = some x) :
  BodyOK Tryz.prog 31 [16, 17] (a31r3.seq a31r4) (AC.block 1 ((a31r5.seq (AC.cond (Src.s 21) (AC.exit 0) AC.skip)).seq ((a31r6F.seq (a31r7.seq (AC.cond (Src.s 28) (a31r8.seq AC.ret) AC.skip))).seq (a31r9.seq AC.ret))))
   [(3, .ptr 31003 0 0 0), (4, .ptr 31004 0 0 0), (5, .ptr 31005 0 0 0), (6, .ptr 31006 0 0 0), (7, .ptr 31007 0 0 0)] [17006, 31003, 31004, 31005, 31006, 31007, 42005, 29002, 29003] (memF es no f0) [iv (i : Nat), .agg (eP x)] (KBF es no f0 x i) := by
 obtain ⟨hi, hgx, hge⟩ := ePs_at hx
 refine ⟨rfl, fun st1 => st1 = ⟨[(3, .ptr 31003 0 0 0), (4, .ptr 31004 0 0 0), (5, .ptr 31005 0 0 0), (6, .ptr 31006 0 0 0), (7, .ptr 31007 0 0 0), (8, iv (i : Nat)), (9, .ptr 31009 0 0 0)], memF es no f0 ++ [(31009, .obj 86 (eP x))], [17006, 31003, 31004, 31005, 31006, 31007, 42005, 29002, 29003]⟩, ?h1, ?h2⟩
 case h1 =>
  intro c' hc'
  simp [putL, memF]
  apply J.seq
  refine J.regE (by simp; rfl) ?_
  simp
  refine J.regE (by simp [eP]; rfl) ?_
  simp [eP]
 case h2 =>
  rintro s1 - rfl c' hc'
  simp only [memF, eP, List.cons_append, List.nil_append]
  apply J.block
  apply J.seq
  apply J.seq
  refine J.regE (by simp; rfl) ?_
  simp
  refine J.condB rfl (fun hb => ?_) (fun hb => ?_)
  ·refine J.le hc' (st' := ⟨[], memF es no f0, [17006, 31003, 31004, 31005, 31006, 31007, 42005, 29002, 29003]⟩) (by apply le_sub <;> simp [memF, eP]) ?_
   apply J.exit; simp [jumpOf]
   exact .inl ⟨rfl, by simpa using hb, rfl⟩
  ·apply J.skip; simp
   apply J.seq; apply J.seq
   apply J.draw; intro c2 hc2
   iterate 4 refine runP_stepQ (by simp [hi]; rfl) ?_
   refine runP_call [17006, 42005] [17006, 42005] rfl rfl (d32 f0 x es i hx) (by simp) (by simp [eP]) (by simp) (by simp) ?_
   rintro rv m1 ⟨rfl, rfl⟩
   refine ⟨by simp, ⟨rfl, by simp [eP, noTreeB, noTree_ePs]⟩, ?_⟩
   simp
   refine runP_stepQ (by simp; rfl) ?_
   simp [runP]
   apply J.seq
   refine J.regE (by simp; rfl) ?_
   simp
   refine J.condB rfl (fun he => ?_) (fun he => ?_)
   ·apply J.seq
    refine J.regE (by simp; rfl) ?_
    simp
    refine J.le hc' (st' := ⟨[], memRF es no f0 x i, [17006, 31003, 31004, 31005, 31006, 31007, 42005, 29002, 29003]⟩) (by apply le_sub <;> simp [memRF, eP, resF] <;> simp at he <;> simp [he]) ?_
    apply J.ret; simp [jumpOf]
    exact .inr ⟨rfl, by simpa using hb, rfl⟩
   ·apply J.skip; simp
    apply J.seq
    refine J.regE (by simp; rfl) ?_
    simp
    refine J.le hc' (st' := ⟨[], memRF es no f0 x i, [17006, 31003, 31004, 31005, 31006, 31007, 42005, 29002, 29003]⟩) (by apply le_sub <;> simp [memRF, eP, resF] <;> simp at he <;> simp [he]) ?_
    apply J.ret; simp [jumpOf]
    exact .inr ⟨rfl, by simpa using hb, rfl⟩
theorem d31F (l : List Post) (no : Int) (f0 : Post) (hf : Fit l) : Does Tryz.prog 149 [.ro 5 (ePs l), iv no, .fn 163 [.ptr 17006 0 0 0]] [(17006, .obj 86 (eP f0))] [17006] (Post31F l no f0) := by
 refine Does.ofH c31F (fun c hc => ?_)
 unfold a31F
 apply JH.seq
 refine JH.of hc (fun c' hc' => ?_)
 refine J.regE (by simp; rfl) ?_
 simp
 show JH _ _ _ _ _ _ _
 apply JH.seq
 refine JH.of hc (fun c' hc' => ?_)
 apply J.reg
 refine runL_step rfl (by simp; rfl) ?_
 refine runL_call [] [] rfl rfl (d30o l hf) (by simp) (by simp) (by simp) hc' ?_
 rintro rv m1 ⟨rfl, rfl⟩
 refine ⟨by simp [fairM], ?_⟩
 simp [fairM]
 refine runL_step rfl (by simp; rfl) ?_
 simp [runL]
 show JH _ _ _ _ _ _ _
 obtain ⟨es, hes⟩ : ∃ es, fairL l = es := ⟨_, rfl⟩
 have hlen : es.length ≤ 32 := by rw [← hes]; exact fairL_len l
 have hb31 := body31F l es hes no f0
 have hpost : Post31F l no f0 = fun r m => match stopAt no es 0 with
  | none => r = .tup [.nils 5, iv 5] ∧ m = [(17006, .obj 86 (eP f0))]
  | some (i, x) => es[i]? = some x ∧ r = .tup [resF es f0 x, iv (0 : Int)] ∧ m = [(17006, .obj 86 (eP x)), (42005, .arr 86 5 (ePs es))] := by
  subst hes; rfl
 rw [hpost, hes]
 clear hpost
 apply JH.seq
 apply JH.seq
 refine JH.of hc (fun c' hc' => ?_)
 apply J.reg
 iterate 2 refine runL_step rfl (by simp; rfl) ?_
 refine runL_call [42005] [42005] rfl rfl (d29 es no) (by simp) (by simp) (by simp) hc' ?_
 rintro rv m1 ⟨rfl, rfl⟩
 refine ⟨by simp, ?_⟩
 simp
 simp [runL]
 show JH _ _ _ _ _ _ _
 apply JH.block
 refine JH.le hc (st' := ⟨[(3, .ptr 31003 0 0 0), (4, .ptr 31004 0 0 0), (5, .ptr 31005 0 0 0), (6, .ptr 31006 0 0 0), (7, .ptr 31007 0 0 0), (15, .fn 169 [.ptr 29002 0 0 0, .ptr 29003 0 0 0])], memF es no f0, [17006]⟩) (by apply le_sub <;> simp [memF, eP]) ?_
 refine JH.pin [17006, 31003, 31004, 31005, 31006, 31007, 42005, 29002, 29003] (by simp) (fun c1 h1 h2 h3 => ?_)
 have hc1 : c1.A = c1.B := by rw [h2, h3]; exact hc
 refine JH.rangef hc1 rfl [3, 4, 5, 6, 7] (by simp) (K := KKF es no f0) ?_ ?_
 ·show IterOK Tryz.prog 169 [.ptr 29002 0 0 0, .ptr 29003 0 0 0] [17006, 31003, 31004, 31005, 31006, 31007, 42005, 29002, 29003] (memF es no f0) _ _
  refine it41 (bL := 29002) (bF := 29003) (sl := .own 42005 5 0 es.length) (es := es) (frm := no) (fun i m => m = memF es no f0 ∧ ∀ (j : Nat) y, j < i → es[j]? = some y → hit no y = false) (by omega) (by simp) (by simp) (by simp) ⟨rfl, fun j y h => absurd h (by omega)⟩ ?_ ?_ ?_ ?_
  ·rintro i m ⟨rfl, -⟩
   refine ⟨⟨⟨by simp [memF], by simp [memF, eP]⟩, by simp [memF], by simp [memF], by simp [memF], .inr ⟨42005, rfl, by simp [memF]⟩⟩, by simp [memF]⟩
  ·rintro i x m hx hp ⟨rfl, hj⟩
   refine ⟨rfl, fun j y hji hy => ?_⟩
   by_cases e : j = i
   ·subst e
    rw [hx] at hy; injection hy with hy; subst hy
    rcases hp with hp | hp
    ·simp [hit, hp]
    ·simp [hit, show ¬ no ≤ x.no from by omega]
   ·exact hj j y (by omega) hy
  ·rintro i x m hx hg hn ⟨rfl, hj⟩
   have hh : hit no x = true := by simp [hit, hg, hn]
   have hst := stopAt_hit (k := 0) hh hx hj
   refine ⟨KBF es no f0 x i, hb31 i x hx, ?_, ?_⟩
   ·rintro m' (⟨h, -⟩ | ⟨h, -⟩) <;> cases h
   ·rintro e m' - (⟨rfl, hno, rfl⟩ | ⟨rfl, hno, rfl⟩)
    ·exact .inr (.inl ⟨rfl, rfl, by rw [hst, if_neg hno]⟩)
    ·exact .inr (.inr ⟨rfl, i, x, by rw [hst, if_pos hno]; simp, hx, rfl⟩)
  ·rintro m ⟨rfl, hj⟩
   exact .inl ⟨rfl, rfl, stopAt_none (fun j y hy => hj j y (List.getElem?_eq_some_iff.1 hy).1 hy)⟩
 ·rintro e j m' hj hK D hD
  refine ⟨rfl, ?_⟩
  rcases hK with ⟨rfl, rfl, hst⟩ | ⟨rfl, rfl, hst⟩ | ⟨rfl, i, x, hst, hx, rfl⟩
  ·simp [blockH, thenH]
   apply JH.seq
   refine JH.of hc (fun c' hc' => ?_)
   refine J.regE (by simp [memF]; rfl) ?_
   simp
   show JH _ _ _ _ _ _ _
   refine JH.of hc (fun c' hc' => ?_)
   apply J.ret
   refine ⟨⟨by simp, rfl, _, [(17006, .obj 86 (eP f0))], by simp [a31R]; rfl, ?_⟩, .inr ⟨D, rfl, by simp, by rw [← h1]; exact hD⟩⟩
   simp [hst, eP]
  ·simp [blockH, thenH]
   apply JH.seq
   refine JH.of hc (fun c' hc' => ?_)
   refine J.regE (by simp [memF]; rfl) ?_
   simp
   show JH _ _ _ _ _ _ _
   refine JH.of hc (fun c' hc' => ?_)
   apply J.ret
   refine ⟨⟨by simp, rfl, _, [(17006, .obj 86 (eP f0))], by simp [a31R]; rfl, ?_⟩, .inr ⟨D, rfl, by simp, by rw [← h1]; exact hD⟩⟩
   simp [hst, eP]
  ·simp [blockH, thenH]
   refine ⟨⟨by simp, rfl, _, [(17006, .obj 86 (eP x)), (42005, .arr 86 5 (ePs es))], by simp [a31R, memRF]; rfl, ?_⟩, .inr ⟨D, rfl, by simp, by rw [← h1]; exact hD⟩⟩
   simp [hst, eP, memRF, hx]
   unfold resF; split <;> simp
def a31r6E : AC := .draw [42005, 22006, 22007] (.take 0 ⟨(some 22), none, .load 1 false (.s 5)⟩ <|
  .take 1 ⟨(some 23), none, .load 1 false (.s 3)⟩ <|
  .take 2 ⟨(some 24), none, .mov (.s 8)⟩ <|
  .take 3 ⟨(some 25), none, .iaddr 5 (.s 23) (.s 24)⟩ <|
  .alt 4 ⟨(some 26), none, .callv (.s 22) [(.s 25)]⟩ (
  .take 5 ⟨(some 10), none, .mov (.s 26)⟩ <|
  .done) .done) [3, 6, 7, 10]
def a31E : AC := .seq (a31r0) (.seq (a31r1) (.seq (.seq (a31r2) (.block 0 (.rangef (.s 15) [16, 17] (.seq (a31r3) (a31r4)) (.block 1 (.seq (.seq (a31r5) (.cond (.s 21) (.exit 0) (.skip))) (.seq (.seq (a31r6E) (.seq (a31r7) (.cond (.s 28) (.seq (a31r8) (.ret)) (.skip)))) (.seq (a31r9) (.ret)))))))) (.seq (a31r10) (.ret))))
theorem c31E : chkFn Tryz.prog 149 31 3 a31E a31R = true := by kernel_rfl
def memE (es : List Post) (no : Int) (user : Int) (s : ByteArray) : Mem := [(22006, .obj 3 [iv user]), (22007, .obj 9 [sv s]), (31003, .obj 50 [.own 42005 5 0 es.length]), (31004, .obj 3 [iv no]), (31005, .obj 168 [.fn 150 [.ptr 22006 0 0 0, .ptr 22007 0 0 0]]), (31006, .obj 50 [.nils 5]), (31007, .obj 37 [iv 0]), (42005, .arr 86 5 (ePs es)), (29002, .obj 50 [.own 42005 5 0 es.length]), (29003, .obj 3 [iv no])]
def resE (es : List Post) (user : Int) (s : ByteArray) (x : Post) : AV := if (dofE user s x).2 = 0 then .own 42005 5 0 es.length else .nils 5
def memRE (es : List Post) (no : Int) (user : Int) (s : ByteArray) (x : Post) (i : Nat) : Mem := [(22006, .obj 3 [iv user]), (22007, .obj 9 [sv s]), (31003, .obj 50 [.own 42005 5 0 es.length]), (31004, .obj 3 [iv no]), (31005, .obj 168 [.fn 150 [.ptr 22006 0 0 0, .ptr 22007 0 0 0]]), (31006, .obj 50 [resE es user s x]), (31007, .obj 37 [iv (dofE user s x).2]), (42005, .arr 86 5 (ePs (es.set i (dofE user s x).1))), (29002, .obj 50 [.own 42005 5 0 es.length]), (29003, .obj 3 [iv no])]
def KBE (es : List Post) (no : Int) (user : Int) (s : ByteArray) (x : Post) (i : Nat) (e : Exit) (m' : Mem) : Prop := (e = .exit 0 ∧ x.no ≠ no ∧ m' = memE es no user s) ∨ (e = .ret ∧ x.no = no ∧ m' = memRE es no user s x i)
def KKE (es : List Post) (no : Int) (user : Int) (s : ByteArray) (e : Exit) (m' : Mem) : Prop := (e = .normal ∧ m' = memE es no user s ∧ stopAt no es 0 = none) ∨ (e = .exit 0 ∧ m' = memE es no user s ∧ stopAt no es 0 = none) ∨ (e = .ret ∧ ∃ i x, stopAt no es 0 = some (i, x) ∧ es[i]? = some x ∧ m' = memRE es no user s x i)
def Post31E (l : List Post) (no : Int) (user : Int) (s : ByteArray) (r : AV) (m : Mem) : Prop := match stopAt no (fairL l) 0 with
 | none => r = .tup [.nils 5, iv 5] ∧ m = [(22006, .obj 3 [iv user]), (22007, .obj 9 [sv s])]
 | some (i, x) => (fairL l)[i]? = some x ∧ r = .tup [resE (fairL l) user s x, iv (dofE user s x).2] ∧ m = let es := fairL l; [(22006, .obj 3 [iv user]), (22007, .obj 9 [sv s]), (42005, .arr 86 5 (ePs (es.set i (dofE user s x).1)))]
theorem body31E (l es : List Post) (hes : fairL l = es) (no : Int) (user : Int) (s : ByteArray) (i : Nat) (x : Post) (hx : es[i]? = some x) :
  BodyOK Tryz.prog 31 [16, 17] (a31r3.seq a31r4) (AC.block 1 ((a31r5.seq (AC.cond (Src.s 21) (AC.exit 0) AC.skip)).seq ((a31r6E.seq (a31r7.seq (AC.cond (Src.s 28) (a31r8.seq AC.ret) AC.skip))).seq (a31r9.seq AC.ret))))
   [(3, .ptr 31003 0 0 0), (4, .ptr 31004 0 0 0), (5, .ptr 31005 0 0 0), (6, .ptr 31006 0 0 0), (7, .ptr 31007 0 0 0)] [22006, 22007, 31003, 31004, 31005, 31006, 31007, 42005, 29002, 29003] (memE es no user s) [iv (i : Nat), .agg (eP x)] (KBE es no user s x i) := by
 obtain ⟨hi, hgx, hge⟩ := ePs_at hx
 refine ⟨rfl, fun st1 => st1 = ⟨[(3, .ptr 31003 0 0 0), (4, .ptr 31004 0 0 0), (5, .ptr 31005 0 0 0), (6, .ptr 31006 0 0 0), (7, .ptr 31007 0 0 0), (8, iv (i : Nat)), (9, .ptr 31009 0 0 0)], memE es no user s ++ [(31009, .obj 86 (eP x))], [22006, 22007, 31003, 31004, 31005, 31006, 31007, 42005, 29002, 29003]⟩, ?h1, ?h2⟩
 case h1 =>
  intro c' hc'
  simp [putL, memE]
  apply J.seq
  refine J.regE (by simp; rfl) ?_
  simp
  refine J.regE (by simp [eP]; rfl) ?_
  simp [eP]
 case h2 =>
  rintro s1 - rfl c' hc'
  simp only [memE, eP, List.cons_append, List.nil_append]
  apply J.block
  apply J.seq
  apply J.seq
  refine J.regE (by simp; rfl) ?_
  simp
  refine J.condB rfl (fun hb => ?_) (fun hb => ?_)
  ·refine J.le hc' (st' := ⟨[], memE es no user s, [22006, 22007, 31003, 31004, 31005, 31006, 31007, 42005, 29002, 29003]⟩) (by apply le_sub <;> simp [memE, eP]) ?_
   apply J.exit; simp [jumpOf]
   exact .inl ⟨rfl, by simpa using hb, rfl⟩
  ·apply J.skip; simp
   apply J.seq; apply J.seq
   apply J.draw; intro c2 hc2
   iterate 4 refine runP_stepQ (by simp [hi]; rfl) ?_
   refine runP_call [22006, 22007, 42005] [22006, 22007, 42005] rfl rfl (d37 user s x es i hx (fairL_may (l := l) x (by rw [hes]; exact List.mem_of_getElem? hx))) (by simp) (by simp [eP]) (by simp) (by simp) ?_
   rintro rv m1 ⟨rfl, rfl⟩
   refine ⟨by simp, ⟨rfl, by simp [eP, noTreeB, noTree_ePs]⟩, ?_⟩
   simp
   refine runP_stepQ (by simp; rfl) ?_
   simp [runP]
   apply J.seq
   refine J.regE (by simp; rfl) ?_
   simp
   refine J.condB rfl (fun he => ?_) (fun he => ?_)
   ·apply J.seq
    refine J.regE (by simp; rfl) ?_
    simp
    refine J.le hc' (st' := ⟨[], memRE es no user s x i, [22006, 22007, 31003, 31004, 31005, 31006, 31007, 42005, 29002, 29003]⟩) (by apply le_sub <;> simp [memRE, eP, resE] <;> simp at he <;> simp [he]) ?_
    apply J.ret; simp [jumpOf]
    exact .inr ⟨rfl, by simpa using hb, rfl⟩
   ·apply J.skip; simp
    apply J.seq
    refine J.regE (by simp; rfl) ?_
    simp
    refine J.le hc' (st' := ⟨[], memRE es no user s x i, [22006, 22007, 31003, 31004, 31005, 31006, 31007, 42005, 29002, 29003]⟩) (by apply le_sub <;> simp [memRE, eP, resE] <;> simp at he <;> simp [he]) ?_
    apply J.ret; simp [jumpOf]
    exact .inr ⟨rfl, by simpa using hb, rfl⟩
theorem d31E (l : List Post) (no : Int) (user : Int) (s : ByteArray) (hf : Fit l) : Does Tryz.prog 149 [.ro 5 (ePs l), iv no, .fn 150 [.ptr 22006 0 0 0, .ptr 22007 0 0 0]] [(22006, .obj 3 [iv user]), (22007, .obj 9 [sv s])] [22006, 22007] (Post31E l no user s) := by
 refine Does.ofH c31E (fun c hc => ?_)
 unfold a31E
 apply JH.seq
 refine JH.of hc (fun c' hc' => ?_)
 refine J.regE (by simp; rfl) ?_
 simp
 show JH _ _ _ _ _ _ _
 apply JH.seq
 refine JH.of hc (fun c' hc' => ?_)
 apply J.reg
 refine runL_step rfl (by simp; rfl) ?_
 refine runL_call [] [] rfl rfl (d30o l hf) (by simp) (by simp) (by simp) hc' ?_
 rintro rv m1 ⟨rfl, rfl⟩
 refine ⟨by simp [fairM], ?_⟩
 simp [fairM]
 refine runL_step rfl (by simp; rfl) ?_
 simp [runL]
 show JH _ _ _ _ _ _ _
 obtain ⟨es, hes⟩ : ∃ es, fairL l = es := ⟨_, rfl⟩
 have hlen : es.length ≤ 32 := by rw [← hes]; exact fairL_len l
 have hb31 := body31E l es hes no user s
 have hpost : Post31E l no user s = fun r m => match stopAt no es 0 with
  | none => r = .tup [.nils 5, iv 5] ∧ m = [(22006, .obj 3 [iv user]), (22007, .obj 9 [sv s])]
  | some (i, x) => es[i]? = some x ∧ r = .tup [resE es user s x, iv (dofE user s x).2] ∧ m = [(22006, .obj 3 [iv user]), (22007, .obj 9 [sv s]), (42005, .arr 86 5 (ePs (es.set i (dofE user s x).1)))] := by
  subst hes; rfl
 rw [hpost, hes]
 clear hpost
 apply JH.seq
 apply JH.seq
 refine JH.of hc (fun c' hc' => ?_)
 apply J.reg
 iterate 2 refine runL_step rfl (by simp; rfl) ?_
 refine runL_call [42005] [42005] rfl rfl (d29 es no) (by simp) (by simp) (by simp) hc' ?_
 rintro rv m1 ⟨rfl, rfl⟩
 refine ⟨by simp, ?_⟩
 simp
 simp [runL]
 show JH _ _ _ _ _ _ _
 apply JH.block
 refine JH.le hc (st' := ⟨[(3, .ptr 31003 0 0 0), (4, .ptr 31004 0 0 0), (5, .ptr 31005 0 0 0), (6, .ptr 31006 0 0 0), (7, .ptr 31007 0 0 0), (15, .fn 169 [.ptr 29002 0 0 0, .ptr 29003 0 0 0])], memE es no user s, [22006, 22007]⟩) (by apply le_sub <;> simp [memE, eP]) ?_
 refine JH.pin [22006, 22007, 31003, 31004, 31005, 31006, 31007, 42005, 29002, 29003] (by simp) (fun c1 h1 h2 h3 => ?_)
 have hc1 : c1.A = c1.B := by rw [h2, h3]; exact hc
 refine JH.rangef hc1 rfl [3, 4, 5, 6, 7] (by simp) (K := KKE es no user s) ?_ ?_
 ·show IterOK Tryz.prog 169 [.ptr 29002 0 0 0, .ptr 29003 0 0 0] [22006, 22007, 31003, 31004, 31005, 31006, 31007, 42005, 29002, 29003] (memE es no user s) _ _
  refine it41 (bL := 29002) (bF := 29003) (sl := .own 42005 5 0 es.length) (es := es) (frm := no) (fun i m => m = memE es no user s ∧ ∀ (j : Nat) y, j < i → es[j]? = some y → hit no y = false) (by omega) (by simp) (by simp) (by simp) ⟨rfl, fun j y h => absurd h (by omega)⟩ ?_ ?_ ?_ ?_
  ·rintro i m ⟨rfl, -⟩
   refine ⟨⟨⟨by simp [memE], by simp [memE, eP]⟩, by simp [memE], by simp [memE], by simp [memE], .inr ⟨42005, rfl, by simp [memE]⟩⟩, by simp [memE]⟩
  ·rintro i x m hx hp ⟨rfl, hj⟩
   refine ⟨rfl, fun j y hji hy => ?_⟩
   by_cases e : j = i
   ·subst e
    rw [hx] at hy; injection hy with hy; subst hy
    rcases hp with hp | hp
    ·simp [hit, hp]
    ·simp [hit, show ¬ no ≤ x.no from by omega]
   ·exact hj j y (by omega) hy
  ·rintro i x m hx hg hn ⟨rfl, hj⟩
   have hh : hit no x = true := by simp [hit, hg, hn]
   have hst := stopAt_hit (k := 0) hh hx hj
   refine ⟨KBE es no user s x i, hb31 i x hx, ?_, ?_⟩
   ·rintro m' (⟨h, -⟩ | ⟨h, -⟩) <;> cases h
   ·rintro e m' - (⟨rfl, hno, rfl⟩ | ⟨rfl, hno, rfl⟩)
    ·exact .inr (.inl ⟨rfl, rfl, by rw [hst, if_neg hno]⟩)
    ·exact .inr (.inr ⟨rfl, i, x, by rw [hst, if_pos hno]; simp, hx, rfl⟩)
  ·rintro m ⟨rfl, hj⟩
   exact .inl ⟨rfl, rfl, stopAt_none (fun j y hy => hj j y (List.getElem?_eq_some_iff.1 hy).1 hy)⟩
 ·rintro e j m' hj hK D hD
  refine ⟨rfl, ?_⟩
  rcases hK with ⟨rfl, rfl, hst⟩ | ⟨rfl, rfl, hst⟩ | ⟨rfl, i, x, hst, hx, rfl⟩
  ·simp [blockH, thenH]
   apply JH.seq
   refine JH.of hc (fun c' hc' => ?_)
   refine J.regE (by simp [memE]; rfl) ?_
   simp
   show JH _ _ _ _ _ _ _
   refine JH.of hc (fun c' hc' => ?_)
   apply J.ret
   refine ⟨⟨by simp, rfl, _, [(22006, .obj 3 [iv user]), (22007, .obj 9 [sv s])], by simp [a31R]; rfl, ?_⟩, .inr ⟨D, rfl, by simp, by rw [← h1]; exact hD⟩⟩
   simp [hst, eP]
  ·simp [blockH, thenH]
   apply JH.seq
   refine JH.of hc (fun c' hc' => ?_)
   refine J.regE (by simp [memE]; rfl) ?_
   simp
   show JH _ _ _ _ _ _ _
   refine JH.of hc (fun c' hc' => ?_)
   apply J.ret
   refine ⟨⟨by simp, rfl, _, [(22006, .obj 3 [iv user]), (22007, .obj 9 [sv s])], by simp [a31R]; rfl, ?_⟩, .inr ⟨D, rfl, by simp, by rw [← h1]; exact hD⟩⟩
   simp [hst, eP]
  ·simp [blockH, thenH]
   refine ⟨⟨by simp, rfl, _, [(22006, .obj 3 [iv user]), (22007, .obj 9 [sv s]), (42005, .arr 86 5 (ePs (es.set i (dofE user s x).1)))], by simp [a31R, memRE]; rfl, ?_⟩, .inr ⟨D, rfl, by simp, by rw [← h1]; exact hD⟩⟩
   simp [hst, eP, memRE, hx]
   unfold resE; split <;> simp
def a31r6D : AC := .draw [42005, 23006, 23007] (.take 0 ⟨(some 22), none, .load 1 false (.s 5)⟩ <|
  .take 1 ⟨(some 23), none, .load 1 false (.s 3)⟩ <|
  .take 2 ⟨(some 24), none, .mov (.s 8)⟩ <|
  .take 3 ⟨(some 25), none, .iaddr 5 (.s 23) (.s 24)⟩ <|
  .alt 4 ⟨(some 26), none, .callv (.s 22) [(.s 25)]⟩ (
  .take 5 ⟨(some 10), none, .mov (.s 26)⟩ <|
  .done) .done) [3, 6, 7, 10]
def a31D : AC := .seq (a31r0) (.seq (a31r1) (.seq (.seq (a31r2) (.block 0 (.rangef (.s 15) [16, 17] (.seq (a31r3) (a31r4)) (.block 1 (.seq (.seq (a31r5) (.cond (.s 21) (.exit 0) (.skip))) (.seq (.seq (a31r6D) (.seq (a31r7) (.cond (.s 28) (.seq (a31r8) (.ret)) (.skip)))) (.seq (a31r9) (.ret)))))))) (.seq (a31r10) (.ret))))
theorem c31D : chkFn Tryz.prog 149 31 3 a31D a31R = true := by kernel_rfl
def memD (es : List Post) (no : Int) (user owner : Int) : Mem := [(23006, .obj 3 [iv user]), (23007, .obj 3 [iv owner]), (31003, .obj 50 [.own 42005 5 0 es.length]), (31004, .obj 3 [iv no]), (31005, .obj 168 [.fn 151 [.ptr 23006 0 0 0, .ptr 23007 0 0 0]]), (31006, .obj 50 [.nils 5]), (31007, .obj 37 [iv 0]), (42005, .arr 86 5 (ePs es)), (29002, .obj 50 [.own 42005 5 0 es.length]), (29003, .obj 3 [iv no])]
def resD (es : List Post) (user owner : Int) (x : Post) : AV := if (dofD user owner x).2 = 0 then .own 42005 5 0 es.length else .nils 5
def memRD (es : List Post) (no : Int) (user owner : Int) (x : Post) (i : Nat) : Mem := [(23006, .obj 3 [iv user]), (23007, .obj 3 [iv owner]), (31003, .obj 50 [.own 42005 5 0 es.length]), (31004, .obj 3 [iv no]), (31005, .obj 168 [.fn 151 [.ptr 23006 0 0 0, .ptr 23007 0 0 0]]), (31006, .obj 50 [resD es user owner x]), (31007, .obj 37 [iv (dofD user owner x).2]), (42005, .arr 86 5 (ePs (es.set i (dofD user owner x).1))), (29002, .obj 50 [.own 42005 5 0 es.length]), (29003, .obj 3 [iv no])]
def KBD (es : List Post) (no : Int) (user owner : Int) (x : Post) (i : Nat) (e : Exit) (m' : Mem) : Prop := (e = .exit 0 ∧ x.no ≠ no ∧ m' = memD es no user owner) ∨ (e = .ret ∧ x.no = no ∧ m' = memRD es no user owner x i)
def KKD (es : List Post) (no : Int) (user owner : Int) (e : Exit) (m' : Mem) : Prop := (e = .normal ∧ m' = memD es no user owner ∧ stopAt no es 0 = none) ∨ (e = .exit 0 ∧ m' = memD es no user owner ∧ stopAt no es 0 = none) ∨ (e = .ret ∧ ∃ i x, stopAt no es 0 = some (i, x) ∧ es[i]? = some x ∧ m' = memRD es no user owner x i)
def Post31D (l : List Post) (no : Int) (user owner : Int) (r : AV) (m : Mem) : Prop := match stopAt no (fairL l) 0 with
 | none => r = .tup [.nils 5, iv 5] ∧ m = [(23006, .obj 3 [iv user]), (23007, .obj 3 [iv owner])]
 | some (i, x) => (fairL l)[i]? = some x ∧ r = .tup [resD (fairL l) user owner x, iv (dofD user owner x).2] ∧ m = let es := fairL l; [(23006, .obj 3 [iv user]), (23007, .obj 3 [iv owner]), (42005, .arr 86 5 (ePs (es.set i (dofD user owner x).1)))]
theorem body31D (l es : List Post) (hes : fairL l = es) (no : Int) (user owner : Int) (i : Nat) (x : Post) (hx : es[i]? = some x) :
  BodyOK Tryz.prog 31 [16, 17] (a31r3.seq a31r4) (AC.block 1 ((a31r5.seq (AC.cond (Src.s 21) (AC.exit 0) AC.skip)).seq ((a31r6D.seq (a31r7.seq (AC.cond (Src.s 28) (a31r8.seq AC.ret) AC.skip))).seq (a31r9.seq AC.ret))))
   [(3, .ptr 31003 0 0 0), (4, .ptr 31004 0 0 0), (5, .ptr 31005 0 0 0), (6, .ptr 31006 0 0 0), (7, .ptr 31007 0 0 0)] [23006, 23007, 31003, 31004, 31005, 31006, 31007, 42005, 29002, 29003] (memD es no user owner) [iv (i : Nat), .agg (eP x)] (KBD es no user owner x i) := by
 obtain ⟨hi, hgx, hge⟩ := ePs_at hx
 refine ⟨rfl, fun st1 => st1 = ⟨[(3, .ptr 31003 0 0 0), (4, .ptr 31004 0 0 0), (5, .ptr 31005 0 0 0), (6, .ptr 31006 0 0 0), (7, .ptr 31007 0 0 0), (8, iv (i : Nat)), (9, .ptr 31009 0 0 0)], memD es no user owner ++ [(31009, .obj 86 (eP x))], [23006, 23007, 31003, 31004, 31005, 31006, 31007, 42005, 29002, 29003]⟩, ?h1, ?h2⟩
 case h1 =>
  intro c' hc'
  simp [putL, memD]
  apply J.seq
  refine J.regE (by simp; rfl) ?_
  simp
  refine J.regE (by simp [eP]; rfl) ?_
  simp [eP]
 case h2 =>
  rintro s1 - rfl c' hc'
  simp only [memD, eP, List.cons_append, List.nil_append]
  apply J.block
  apply J.seq
  apply J.seq
  refine J.regE (by simp; rfl) ?_
  simp
  refine J.condB rfl (fun hb => ?_) (fun hb => ?_)
  ·refine J.le hc' (st' := ⟨[], memD es no user owner, [23006, 23007, 31003, 31004, 31005, 31006, 31007, 42005, 29002, 29003]⟩) (by apply le_sub <;> simp [memD, eP]) ?_
   apply J.exit; simp [jumpOf]
   exact .inl ⟨rfl, by simpa using hb, rfl⟩
  ·apply J.skip; simp
   apply J.seq; apply J.seq
   apply J.draw; intro c2 hc2
   iterate 4 refine runP_stepQ (by simp [hi]; rfl) ?_
   refine runP_call [23006, 23007, 42005] [23006, 23007, 42005] rfl rfl (d38 user owner x es i hx) (by simp) (by simp [eP]) (by simp) (by simp) ?_
   rintro rv m1 ⟨rfl, rfl⟩
   refine ⟨by simp, ⟨rfl, by simp [eP, noTreeB, noTree_ePs]⟩, ?_⟩
   simp
   refine runP_stepQ (by simp; rfl) ?_
   simp [runP]
   apply J.seq
   refine J.regE (by simp; rfl) ?_
   simp
   refine J.condB rfl (fun he => ?_) (fun he => ?_)
   ·apply J.seq
    refine J.regE (by simp; rfl) ?_
    simp
    refine J.le hc' (st' := ⟨[], memRD es no user owner x i, [23006, 23007, 31003, 31004, 31005, 31006, 31007, 42005, 29002, 29003]⟩) (by apply le_sub <;> simp [memRD, eP, resD] <;> simp at he <;> simp [he]) ?_
    apply J.ret; simp [jumpOf]
    exact .inr ⟨rfl, by simpa using hb, rfl⟩
   ·apply J.skip; simp
    apply J.seq
    refine J.regE (by simp; rfl) ?_
    simp
    refine J.le hc' (st' := ⟨[], memRD es no user owner x i, [23006, 23007, 31003, 31004, 31005, 31006, 31007, 42005, 29002, 29003]⟩) (by apply le_sub <;> simp [memRD, eP, resD] <;> simp at he <;> simp [he]) ?_
    apply J.ret; simp [jumpOf]
    exact .inr ⟨rfl, by simpa using hb, rfl⟩
theorem d31D (l : List Post) (no : Int) (user owner : Int) (hf : Fit l) : Does Tryz.prog 149 [.ro 5 (ePs l), iv no, .fn 151 [.ptr 23006 0 0 0, .ptr 23007 0 0 0]] [(23006, .obj 3 [iv user]), (23007, .obj 3 [iv owner])] [23006, 23007] (Post31D l no user owner) := by
 refine Does.ofH c31D (fun c hc => ?_)
 unfold a31D
 apply JH.seq
 refine JH.of hc (fun c' hc' => ?_)
 refine J.regE (by simp; rfl) ?_
 simp
 show JH _ _ _ _ _ _ _
 apply JH.seq
 refine JH.of hc (fun c' hc' => ?_)
 apply J.reg
 refine runL_step rfl (by simp; rfl) ?_
 refine runL_call [] [] rfl rfl (d30o l hf) (by simp) (by simp) (by simp) hc' ?_
 rintro rv m1 ⟨rfl, rfl⟩
 refine ⟨by simp [fairM], ?_⟩
 simp [fairM]
 refine runL_step rfl (by simp; rfl) ?_
 simp [runL]
 show JH _ _ _ _ _ _ _
 obtain ⟨es, hes⟩ : ∃ es, fairL l = es := ⟨_, rfl⟩
 have hlen : es.length ≤ 32 := by rw [← hes]; exact fairL_len l
 have hb31 := body31D l es hes no user owner
 have hpost : Post31D l no user owner = fun r m => match stopAt no es 0 with
  | none => r = .tup [.nils 5, iv 5] ∧ m = [(23006, .obj 3 [iv user]), (23007, .obj 3 [iv owner])]
  | some (i, x) => es[i]? = some x ∧ r = .tup [resD es user owner x, iv (dofD user owner x).2] ∧ m = [(23006, .obj 3 [iv user]), (23007, .obj 3 [iv owner]), (42005, .arr 86 5 (ePs (es.set i (dofD user owner x).1)))] := by
  subst hes; rfl
 rw [hpost, hes]
 clear hpost
 apply JH.seq
 apply JH.seq
 refine JH.of hc (fun c' hc' => ?_)
 apply J.reg
 iterate 2 refine runL_step rfl (by simp; rfl) ?_
 refine runL_call [42005] [42005] rfl rfl (d29 es no) (by simp) (by simp) (by simp) hc' ?_
 rintro rv m1 ⟨rfl, rfl⟩
 refine ⟨by simp, ?_⟩
 simp
 simp [runL]
 show JH _ _ _ _ _ _ _
 apply JH.block
 refine JH.le hc (st' := ⟨[(3, .ptr 31003 0 0 0), (4, .ptr 31004 0 0 0), (5, .ptr 31005 0 0 0), (6, .ptr 31006 0 0 0), (7, .ptr 31007 0 0 0), (15, .fn 169 [.ptr 29002 0 0 0, .ptr 29003 0 0 0])], memD es no user owner, [23006, 23007]⟩) (by apply le_sub <;> simp [memD, eP]) ?_
 refine JH.pin [23006, 23007, 31003, 31004, 31005, 31006, 31007, 42005, 29002, 29003] (by simp) (fun c1 h1 h2 h3 => ?_)
 have hc1 : c1.A = c1.B := by rw [h2, h3]; exact hc
 refine JH.rangef hc1 rfl [3, 4, 5, 6, 7] (by simp) (K := KKD es no user owner) ?_ ?_
 ·show IterOK Tryz.prog 169 [.ptr 29002 0 0 0, .ptr 29003 0 0 0] [23006, 23007, 31003, 31004, 31005, 31006, 31007, 42005, 29002, 29003] (memD es no user owner) _ _
  refine it41 (bL := 29002) (bF := 29003) (sl := .own 42005 5 0 es.length) (es := es) (frm := no) (fun i m => m = memD es no user owner ∧ ∀ (j : Nat) y, j < i → es[j]? = some y → hit no y = false) (by omega) (by simp) (by simp) (by simp) ⟨rfl, fun j y h => absurd h (by omega)⟩ ?_ ?_ ?_ ?_
  ·rintro i m ⟨rfl, -⟩
   refine ⟨⟨⟨by simp [memD], by simp [memD, eP]⟩, by simp [memD], by simp [memD], by simp [memD], .inr ⟨42005, rfl, by simp [memD]⟩⟩, by simp [memD]⟩
  ·rintro i x m hx hp ⟨rfl, hj⟩
   refine ⟨rfl, fun j y hji hy => ?_⟩
   by_cases e : j = i
   ·subst e
    rw [hx] at hy; injection hy with hy; subst hy
    rcases hp with hp | hp
    ·simp [hit, hp]
    ·simp [hit, show ¬ no ≤ x.no from by omega]
   ·exact hj j y (by omega) hy
  ·rintro i x m hx hg hn ⟨rfl, hj⟩
   have hh : hit no x = true := by simp [hit, hg, hn]
   have hst := stopAt_hit (k := 0) hh hx hj
   refine ⟨KBD es no user owner x i, hb31 i x hx, ?_, ?_⟩
   ·rintro m' (⟨h, -⟩ | ⟨h, -⟩) <;> cases h
   ·rintro e m' - (⟨rfl, hno, rfl⟩ | ⟨rfl, hno, rfl⟩)
    ·exact .inr (.inl ⟨rfl, rfl, by rw [hst, if_neg hno]⟩)
    ·exact .inr (.inr ⟨rfl, i, x, by rw [hst, if_pos hno]; simp, hx, rfl⟩)
  ·rintro m ⟨rfl, hj⟩
   exact .inl ⟨rfl, rfl, stopAt_none (fun j y hy => hj j y (List.getElem?_eq_some_iff.1 hy).1 hy)⟩
 ·rintro e j m' hj hK D hD
  refine ⟨rfl, ?_⟩
  rcases hK with ⟨rfl, rfl, hst⟩ | ⟨rfl, rfl, hst⟩ | ⟨rfl, i, x, hst, hx, rfl⟩
  ·simp [blockH, thenH]
   apply JH.seq
   refine JH.of hc (fun c' hc' => ?_)
   refine J.regE (by simp [memD]; rfl) ?_
   simp
   show JH _ _ _ _ _ _ _
   refine JH.of hc (fun c' hc' => ?_)
   apply J.ret
   refine ⟨⟨by simp, rfl, _, [(23006, .obj 3 [iv user]), (23007, .obj 3 [iv owner])], by simp [a31R]; rfl, ?_⟩, .inr ⟨D, rfl, by simp, by rw [← h1]; exact hD⟩⟩
   simp [hst, eP]
  ·simp [blockH, thenH]
   apply JH.seq
   refine JH.of hc (fun c' hc' => ?_)
   refine J.regE (by simp [memD]; rfl) ?_
   simp
   show JH _ _ _ _ _ _ _
   refine JH.of hc (fun c' hc' => ?_)
   apply J.ret
   refine ⟨⟨by simp, rfl, _, [(23006, .obj 3 [iv user]), (23007, .obj 3 [iv owner])], by simp [a31R]; rfl, ?_⟩, .inr ⟨D, rfl, by simp, by rw [← h1]; exact hD⟩⟩
   simp [hst, eP]
  ·simp [blockH, thenH]
   refine ⟨⟨by simp, rfl, _, [(23006, .obj 3 [iv user]), (23007, .obj 3 [iv owner]), (42005, .arr 86 5 (ePs (es.set i (dofD user owner x).1)))], by simp [a31R, memRD]; rfl, ?_⟩, .inr ⟨D, rfl, by simp, by rw [← h1]; exact hD⟩⟩
   simp [hst, eP, memRD, hx]
   unfold resD; split <;> simp
@[simp] theorem take_ePs (l : List Post) : List.take l.length (ePs l) = ePs l := List.take_of_length_le (by simp)
def zeroP : Post := ⟨0, 0, ⟨#[]⟩, 0, false⟩
def findP (l : List Post) (no : Int) : Post × Int := match stopAt no (fairL l) 0 with | none => (zeroP, 5) | some (_, x) => (x, 0)
def editP (l : List Post) (no user : Int) (s : ByteArray) : List Post × Int := if Tryz.mayR s = false then ([], 1) else match stopAt no (fairL l) 0 with
 | none => ([], 5)
 | some (i, x) => if (dofE user s x).2 = 0 then ((fairL l).set i (dofE user s x).1, 0) else ([], (dofE user s x).2)
def delP (l : List Post) (no user owner : Int) : List Post × Int := match stopAt no (fairL l) 0 with
 | none => ([], 5)
 | some (i, x) => if (dofD user owner x).2 = 0 then ((fairL l).set i (dofD user owner x).1, 0) else ([], (dofD user owner x).2)
def addP (l : List Post) (user : Int) (s : ByteArray) : List Post × Int := if btw user 1 1048576 = false ∨ Tryz.mayR s = false then ([], 1) else if 1073741824 ≤ lastP l then ([], 7) else
 let m := fairL l ++ [⟨lastP l + 1, user, s, 0, false⟩]
 (m.drop (m.length - 32), 0)
theorem stopAt_get {no : Int} {x : Post} : ∀ {es : List Post} {k i : Nat}, stopAt no es k = some (i, x) → k ≤ i ∧ es[i - k]? = some x ∧ x.no = no ∧ x.gone = false
 | [], _, _, h => by simp [stopAt] at h
 | y :: r, k, i, h => by
  simp only [stopAt] at h
  split at h
  ·rename_i hh
   split at h
   ·rename_i hno
    simp only [Option.some.injEq, Prod.mk.injEq] at h
    obtain ⟨rfl, rfl⟩ := h
    simp only [hit, Bool.and_eq_true, Bool.not_eq_true'] at hh
    exact ⟨Nat.le_refl _, by simp, hno, hh.1⟩
   ·cases h
  ·obtain ⟨h1, h2, h3⟩ := stopAt_get h
   refine ⟨by omega, ?_, h3⟩
   obtain ⟨d, rfl⟩ : ∃ d, i = k + 1 + d := ⟨i - (k + 1), by omega⟩
   have e1 : k + 1 + d - k = d + 1 := by omega
   have e2 : k + 1 + d - (k + 1) = d := by omega
   rw [e2] at h2
   rw [e1]; simpa using h2
theorem c17 : chkFn Tryz.prog 152 18 2 a17 a17R = true := by kernel_rfl
theorem d17 (l : List Post) (no : Int) (hf : Fit l) : DoesT 152 [.ro 5 (ePs l), iv no] (.tup [.agg (eP (findP l no).1), iv (findP l no).2]) := by
 refine Does.of (nt := 18) (ac := a17) (rds := a17R) c17 (fun c hc => ?_)
 unfold a17
 apply J.seq
 refine J.regE (by simp; rfl) ?_
 simp
 apply J.seq
 refine J.regE (by simp; rfl) ?_
 simp
 apply J.seq
 rcases hst : stopAt no (fairL l) 0 with _ | ⟨i, x⟩
 ·
  apply J.reg
  iterate 3 refine runL_step rfl (by simp; rfl) ?_
  refine runL_call [17006] [17006] rfl rfl (d31F l no zeroP hf) (by simp) (by simp) (by simp) hc ?_
  intro rv m1 hp
  unfold Post31F at hp
  rw [hst] at hp
  obtain ⟨rfl, rfl⟩ := hp
  refine ⟨by simp, ?_⟩
  simp
  iterate 5 refine runL_step rfl (by simp; rfl) ?_
  simp [runL]
  apply J.seq
  refine J.regE (by simp [eP]; rfl) ?_
  simp
  apply J.ret
  refine ⟨by simp, rfl, _, [], by simp [a17R]; rfl, ?_⟩
  simp [findP, hst, eP, zeroP]
 ·
  apply J.reg
  iterate 3 refine runL_step rfl (by simp; rfl) ?_
  refine runL_call [17006] [17006] rfl rfl (d31F l no zeroP hf) (by simp) (by simp) (by simp) hc ?_
  intro rv m1 hp
  unfold Post31F at hp
  rw [hst] at hp
  obtain ⟨hx, rfl, rfl⟩ := hp
  refine ⟨by simp, ?_⟩
  simp
  iterate 5 refine runL_step rfl (by simp; rfl) ?_
  simp [runL]
  apply J.seq
  refine J.regE (by simp [eP]; rfl) ?_
  simp
  apply J.ret
  refine ⟨by simp, rfl, _, [], by simp [a17R]; rfl, ?_⟩
  simp [findP, hst, eP, zeroP]
theorem c22 : chkFn Tryz.prog 122 19 4 a22 a22R = true := by kernel_rfl
theorem d22 (l : List Post) (no user : Int) (s : ByteArray) (hf : Fit l) (hs : s.size ≤ 9223372036854775807) : DoesT 122 [.ro 5 (ePs l), iv no, iv user, sv s] (.tup [.ro 5 (ePs (editP l no user s).1), iv (editP l no user s).2]) := by
 refine Does.of (nt := 19) (ac := a22) (rds := a22R) c22 (fun c hc => ?_)
 unfold a22
 apply J.seq
 refine J.regE (by simp; rfl) ?_
 simp
 apply J.seq
 apply J.seq
 apply J.reg
 refine runL_step rfl (by simp; rfl) ?_
 refine runL_tree rfl (d36 s hs) (by simp) hc ?_
 simp
 refine runL_step rfl (by simp; rfl) ?_
 simp [runL]
 refine J.condB rfl (fun hb => ?_) (fun hb => ?_)
 ·
  apply J.seq
  refine J.regE (by simp; rfl) ?_
  simp
  refine J.nilrow hc 8 98 86 rfl rfl rfl ?_
  simp
  refine J.freeze hc 98 rfl ?_
  simp [St.freeze]
  apply J.ret
  refine ⟨by simp, rfl, _, [], by simp [a22R]; rfl, ?_⟩
  simp at hb
  simp [editP, hb]
 ·
  simp at hb
  apply J.skip; simp
  apply J.seq
  have hways : (stopAt no (fairL l) 0 = none) ∨ (∃ i x, stopAt no (fairL l) 0 = some (i, x) ∧ (dofE user s x).2 = 0) ∨ (∃ i x, stopAt no (fairL l) 0 = some (i, x) ∧ (dofE user s x).2 ≠ 0) := by
   rcases stopAt no (fairL l) 0 with _ | ⟨i, x⟩
   ·exact .inl rfl
   ·by_cases h : (dofE user s x).2 = 0
    ·exact .inr (.inl ⟨i, x, rfl, h⟩)
    ·exact .inr (.inr ⟨i, x, rfl, h⟩)
  rcases hways with hst | ⟨i, x, hst, he⟩ | ⟨i, x, hst, he⟩
  ·
   apply J.reg
   iterate 3 refine runL_step rfl (by simp; rfl) ?_
   refine runL_call [22006, 22007] [22006, 22007] rfl rfl (d31E l no user s hf) (by simp) (by simp) (by simp) hc ?_
   intro rv m1 hp
   unfold Post31E at hp
   rw [hst] at hp
   obtain ⟨rfl, rfl⟩ := hp
   refine ⟨by simp, ?_⟩
   simp
   iterate 4 refine runL_step rfl (by simp; rfl) ?_
   simp [runL]
   refine J.nilrow hc 8 98 86 rfl rfl rfl ?_
   simp
   refine J.freeze hc 98 rfl ?_
   simp [St.freeze]
   apply J.ret
   refine ⟨by simp, rfl, _, [], by simp [a22R]; rfl, ?_⟩
   simp [editP, hst, hb]
  ·
   apply J.reg
   iterate 3 refine runL_step rfl (by simp; rfl) ?_
   refine runL_call [22006, 22007] [22006, 22007] rfl rfl (d31E l no user s hf) (by simp) (by simp) (by simp) hc ?_
   intro rv m1 hp
   unfold Post31E at hp
   rw [hst] at hp
   obtain ⟨hx, rfl, rfl⟩ := hp
   refine ⟨by simp, ?_⟩
   simp
   iterate 4 refine runL_step rfl (by simp; rfl) ?_
   simp [runL]
   simp only [resE, he, if_true]
   refine J.freeze hc 42005 rfl ?_
   simp [St.freeze]
   rw [List.take_of_length_le (by simp)]
   apply J.ret
   refine ⟨by simp, rfl, _, [], by simp [a22R]; rfl, ?_⟩
   simp [editP, hst, hb, he]
  ·
   apply J.reg
   iterate 3 refine runL_step rfl (by simp; rfl) ?_
   refine runL_call [22006, 22007] [22006, 22007] rfl rfl (d31E l no user s hf) (by simp) (by simp) (by simp) hc ?_
   intro rv m1 hp
   unfold Post31E at hp
   rw [hst] at hp
   obtain ⟨hx, rfl, rfl⟩ := hp
   refine ⟨by simp, ?_⟩
   simp
   iterate 4 refine runL_step rfl (by simp; rfl) ?_
   simp [runL]
   simp only [resE, he, if_false]
   refine J.nilrow hc 8 98 86 rfl rfl rfl ?_
   simp
   refine J.freeze hc 98 rfl ?_
   simp [St.freeze]
   apply J.ret
   refine ⟨by simp, rfl, _, [], by simp [a22R]; rfl, ?_⟩
   simp [editP, hst, hb, he]
theorem c23 : chkFn Tryz.prog 124 16 4 a23 a23R = true := by kernel_rfl
theorem d23 (l : List Post) (no user owner : Int) (hf : Fit l) : DoesT 124 [.ro 5 (ePs l), iv no, iv user, iv owner] (.tup [.ro 5 (ePs (delP l no user owner).1), iv (delP l no user owner).2]) := by
 refine Does.of (nt := 16) (ac := a23) (rds := a23R) c23 (fun c hc => ?_)
 unfold a23
 apply J.seq
 refine J.regE (by simp; rfl) ?_
 simp
 apply J.seq
 have hways : (stopAt no (fairL l) 0 = none) ∨ (∃ i x, stopAt no (fairL l) 0 = some (i, x) ∧ (dofD user owner x).2 = 0) ∨ (∃ i x, stopAt no (fairL l) 0 = some (i, x) ∧ (dofD user owner x).2 ≠ 0) := by
  rcases stopAt no (fairL l) 0 with _ | ⟨i, x⟩
  ·exact .inl rfl
  ·by_cases h : (dofD user owner x).2 = 0
   ·exact .inr (.inl ⟨i, x, rfl, h⟩)
   ·exact .inr (.inr ⟨i, x, rfl, h⟩)
 rcases hways with hst | ⟨i, x, hst, he⟩ | ⟨i, x, hst, he⟩
 ·
  apply J.reg
  iterate 3 refine runL_step rfl (by simp; rfl) ?_
  refine runL_call [23006, 23007] [23006, 23007] rfl rfl (d31D l no user owner hf) (by simp) (by simp) (by simp) hc ?_
  intro rv m1 hp
  unfold Post31D at hp
  rw [hst] at hp
  obtain ⟨rfl, rfl⟩ := hp
  refine ⟨by simp, ?_⟩
  simp
  iterate 4 refine runL_step rfl (by simp; rfl) ?_
  simp [runL]
  refine J.nilrow hc 8 98 86 rfl rfl rfl ?_
  simp
  refine J.freeze hc 98 rfl ?_
  simp [St.freeze]
  apply J.ret
  refine ⟨by simp, rfl, _, [], by simp [a23R]; rfl, ?_⟩
  simp [delP, hst]
 ·
  apply J.reg
  iterate 3 refine runL_step rfl (by simp; rfl) ?_
  refine runL_call [23006, 23007] [23006, 23007] rfl rfl (d31D l no user owner hf) (by simp) (by simp) (by simp) hc ?_
  intro rv m1 hp
  unfold Post31D at hp
  rw [hst] at hp
  obtain ⟨hx, rfl, rfl⟩ := hp
  refine ⟨by simp, ?_⟩
  simp
  iterate 4 refine runL_step rfl (by simp; rfl) ?_
  simp [runL]
  simp only [resD, he, if_true]
  refine J.freeze hc 42005 rfl ?_
  simp [St.freeze]
  rw [List.take_of_length_le (by simp)]
  apply J.ret
  refine ⟨by simp, rfl, _, [], by simp [a23R]; rfl, ?_⟩
  simp [delP, hst, he]
 ·
  apply J.reg
  iterate 3 refine runL_step rfl (by simp; rfl) ?_
  refine runL_call [23006, 23007] [23006, 23007] rfl rfl (d31D l no user owner hf) (by simp) (by simp) (by simp) hc ?_
  intro rv m1 hp
  unfold Post31D at hp
  rw [hst] at hp
  obtain ⟨hx, rfl, rfl⟩ := hp
  refine ⟨by simp, ?_⟩
  simp
  iterate 4 refine runL_step rfl (by simp; rfl) ?_
  simp [runL]
  simp only [resD, he, if_false]
  refine J.nilrow hc 8 98 86 rfl rfl rfl ?_
  simp
  refine J.freeze hc 98 rfl ?_
  simp [St.freeze]
  apply J.ret
  refine ⟨by simp, rfl, _, [], by simp [a23R]; rfl, ?_⟩
  simp [delP, hst, he]
theorem mayFrom_len {l : List Post} (h : mayPs l = true) : l.length ≤ 32 := by simp only [mayPs, Bool.and_eq_true, decide_eq_true_eq] at h; exact h.2
theorem fairL_fair (l : List Post) : fairL (fairL l) = fairL l := by
 unfold fairL
 by_cases h : mayPs l = true
 ·simp [h]
 ·simp [h]
theorem fairL_fit {l : List Post} (hf : Fit l) : Fit (fairL l) := by
 refine ⟨by have := fairL_len l; omega, fun x hx => hf.txt x ?_⟩
 unfold fairL at hx
 split at hx
 ·exact hx
 ·simp at hx
theorem lastP_fair (l : List Post) : lastP (fairL l) = lastP l := by unfold lastP; rw [fairL_fair]
theorem lastP_bd (l : List Post) : 0 ≤ lastP l ∧ lastP l ≤ 1073741824 := by
 unfold lastP
 split
 ·rename_i x h
  have := mayP_no (fairL_may x (List.mem_of_getLast? h))
  omega
 ·omega
theorem c24 : chkFn Tryz.prog 147 39 3 a24 a24R = true := by kernel_rfl
theorem d24 (l : List Post) (user : Int) (s : ByteArray) (hf : Fit l) (hs : s.size ≤ 9223372036854775807) : DoesT 147 [.ro 5 (ePs l), iv user, sv s] (.tup [.ro 5 (ePs (addP l user s).1), iv (addP l user s).2]) := by
 have hlen := fairL_len l
 have hlb := lastP_bd l
 have hw : IntKind.i64.wrap (lastP l + 1) = lastP l + 1 := wrap_id (by omega) (by omega)
 refine Does.of (nt := 39) (ac := a24) (rds := a24R) c24 (fun c hc => ?_)
 unfold a24
 apply J.seq
 refine J.regE (by simp; rfl) ?_
 simp
 apply J.seq
 apply J.reg
 refine runL_step rfl (by simp; rfl) ?_
 refine runL_call [] [] rfl rfl (d30o l hf) (by simp) (by simp) (by simp) hc ?_
 rintro rv m1 ⟨rfl, rfl⟩
 refine ⟨by simp [fairM], ?_⟩
 simp [fairM]
 refine runL_step rfl (by simp; rfl) ?_
 simp [runL]
 apply J.seq
 apply J.reg
 refine runL_step rfl (by simp; rfl) ?_
 have hview := le_freeze ⟨[(0, .own 42005 5 0 (fairL l).length), (1, iv user), (2, sv s), (11, .own 42005 5 0 (fairL l).length)], [(42005, .arr 86 5 (ePs (fairL l)))], []⟩ 42005 rfl
 simp [St.freeze] at hview
 refine runL_view hview rfl rfl (d16 (fairL l) (fairL_fit hf)) (by simp) ?_
 rintro rv m1 ⟨rfl, rfl⟩
 refine ⟨rfl, rfl, ?_⟩
 rw [lastP_fair]
 simp
 refine runL_step rfl (by simp; rfl) ?_
 simp [runL]
 apply J.seq
 apply J.block
 apply J.seq
 rcases b2 (btw user 1 1048576) (Tryz.mayR s) with h1 | ⟨h1, h2⟩ | ⟨h1, h2⟩
 ·
  apply J.reg
  refine runL_step rfl (by simp [h1]; rfl) ?_
  refine runL_tree rfl (d39 _ _ _) (by simp) hc ?_
  simp
  iterate 3 refine runL_step rfl (by simp [h1]; rfl) ?_
  refine runL_pass rfl (by decide) ?_
  simp
  iterate 3 refine runL_step rfl (by simp [h1]; rfl) ?_
  simp [runL]
  apply J.cond; simp
  apply J.seq
  refine J.regE (by simp; rfl) ?_
  simp
  refine J.nilrow hc 6 98 86 rfl rfl rfl ?_
  simp
  refine J.freeze hc 98 rfl ?_
  simp [St.freeze]
  apply J.ret
  refine ⟨by simp, rfl, _, [], by simp [a24R]; rfl, ?_⟩
  simp [addP, h1]
 ·
  apply J.reg
  refine runL_step rfl (by simp [h1, h2]; rfl) ?_
  refine runL_tree rfl (d39 _ _ _) (by simp) hc ?_
  simp
  iterate 3 refine runL_step rfl (by simp [h1, h2]; rfl) ?_
  refine runL_do (by simp [h1, h2]) ?_
  refine runL_tree rfl (d36 s hs) (by simp) hc ?_
  simp
  iterate 3 refine runL_step rfl (by simp [h1, h2]; rfl) ?_
  simp [runL]
  apply J.cond; simp
  apply J.seq
  refine J.regE (by simp; rfl) ?_
  simp
  refine J.nilrow hc 6 98 86 rfl rfl rfl ?_
  simp
  refine J.freeze hc 98 rfl ?_
  simp [St.freeze]
  apply J.ret
  refine ⟨by simp, rfl, _, [], by simp [a24R]; rfl, ?_⟩
  simp [addP, h1, h2]
 ·
  apply J.reg
  refine runL_step rfl (by simp [h1, h2]; rfl) ?_
  refine runL_tree rfl (d39 _ _ _) (by simp) hc ?_
  simp
  iterate 3 refine runL_step rfl (by simp [h1, h2]; rfl) ?_
  refine runL_do (by simp [h1, h2]) ?_
  refine runL_tree rfl (d36 s hs) (by simp) hc ?_
  simp
  iterate 3 refine runL_step rfl (by simp [h1, h2]; rfl) ?_
  simp [runL]
  apply J.cond; simp
  apply J.seq
  refine J.regE (by simp; rfl) ?_
  simp
  refine J.condB rfl (fun h3 => ?_) (fun h3 => ?_)
  ·
   simp at h3
   apply J.seq
   refine J.regE (by simp; rfl) ?_
   simp
   refine J.nilrow hc 6 98 86 rfl rfl rfl ?_
   simp
   refine J.freeze hc 98 rfl ?_
   simp [St.freeze]
   apply J.ret
   refine ⟨by simp, rfl, _, [], by simp [a24R]; rfl, ?_⟩
   simp [addP, h1, h2, h3]
  ·
   simp at h3
   apply J.skip; simp
   apply J.seq
   refine J.regE (by simp [hw, show ((fairL l).length + 1) * 48 ≤ 140737488355328 from by omega]; rfl) ?_
   simp
   obtain ⟨m, hm⟩ : ∃ m, fairL l ++ [⟨lastP l + 1, user, s, 0, false⟩] = m := ⟨_, rfl⟩
   have hmm : ePs (fairL l) ++ [[iv (lastP l + 1), iv user, sv s, iv 0, bv false]] = ePs m := by rw [← hm]; simp [ePs, eP]
   have hml : (fairL l).length + 1 = m.length := by rw [← hm]; simp
   have hml2 : ((fairL l).length : Int) + 1 = (m.length : Int) := by omega
   have hA : addP l user s = (m.drop (m.length - 32), 0) := by simp only [addP, h1, h2, hm]; simp; omega
   rw [hmm, hml]
   have hm33 : m.length ≤ 33 := by omega
   have hm1 : 1 ≤ m.length := by omega
   clear hm hmm
   apply J.seq
   rcases (show m.length ≤ 32 ∨ m.length = 33 by omega) with h5 | h5
   ·
    apply J.reg
    iterate 8 refine runL_step rfl (by simp [show IntKind.i64.wrap ((m.length : Int) - 32) = (m.length : Int) - 32 from wrap_id (by omega) (by omega), show (if (m.length : Int) - 32 < 0 then (0 : Int) else (m.length : Int) - 32) = 0 from by split <;> omega, show (0 : Int) ≤ m.length from by omega]; rfl) ?_
    simp [runL]
    refine J.freeze hc 42005 rfl ?_
    simp [St.freeze]
    apply J.ret
    refine ⟨by simp, rfl, _, [], by simp [a24R]; rfl, ?_⟩
    rw [hA]
    simp [show m.length - 32 = 0 from by omega]
   ·
    apply J.reg
    iterate 8 refine runL_step rfl (by simp [h5, show IntKind.i64.wrap 1 = 1 from rfl]; rfl) ?_
    simp [runL]
    refine J.freeze hc 42005 rfl ?_
    simp [St.freeze]
    apply J.ret
    refine ⟨by simp, rfl, _, [], by simp [a24R]; rfl, ?_⟩
    rw [hA]
    simp [h5]
    rw [show (ePs m).tail = ePs m.tail from by simp [ePs, List.map_tail], List.take_of_length_le (by simp; omega)]
theorem mayR_noT {s : ByteArray} (h : Tryz.mayR s = true) : noT s = false := by
 unfold Tryz.mayR at h
 simp only [Bool.and_eq_true, decide_eq_true_eq] at h
 have h1 := h.1.1.1
 unfold noT
 cases hl : s.toList with
 | nil =>
  have h2 : s.data.toList = [] := by rw [← Lib.toList_data]; exact hl
  have h3 := congrArg List.length h2
  have h4 : s.data.size = s.size := rfl
  simp only [Array.length_toList, List.length_nil] at h3
  omega
 | cons a r => rfl
theorem c35 : chkFn Tryz.prog 100 50 1 a35 a35R = true := by kernel_rfl
theorem d35 (x : Post) (hs : x.text.size ≤ 100000) : DoesT 100 [.agg (eP x)] (bv (mayP x)) := by
 obtain ⟨no, user, text, edits, gone⟩ := x
 obtain ⟨em, hem⟩ : ∃ em, noT text = em := ⟨_, rfl⟩
 have hem' : text.toList.isEmpty = em := hem
 have hmr : Tryz.mayR text = true → em = false := fun h => hem ▸ mayR_noT h
 obtain ⟨mr, hmm⟩ : ∃ mr, Tryz.mayR text = mr := ⟨_, rfl⟩
 rw [hmm] at hmr
 have h40 := d40r text hs
 rw [hmm] at h40
 have hE : mayP ⟨no, user, text, edits, gone⟩ = ((gone == em) && (gone || mr) && btw no 1 1073741824 && btw user 1 1048576 && btw edits 0 1073741824) := by simp only [mayP, hem, hmm]
 rw [hE]
 clear hE
 refine Does.of (nt := 50) (ac := a35) (rds := a35R) c35 (fun c hc => ?_)
 unfold a35
 apply J.seq
 refine J.regE (by simp [eP, hem']; rfl) ?_
 simp
 apply J.seq
 apply J.reg
 iterate 2 refine runL_step rfl (by simp [eP, hem']; rfl) ?_
 refine runL_tree rfl (h40) (by simp) hc ?_
 simp
 refine runL_step rfl (by simp [eP, hem']; rfl) ?_
 simp [runL]
 apply J.seq
 apply J.seq
 apply J.reg
 iterate 4 refine runL_step rfl (by simp [eP, hem']; rfl) ?_
 refine runL_if rfl (fun g10 => ?_) (fun g10 => ?_)
 ·
  try simp only [g10]
  try simp at g10
  iterate 5 refine runL_step rfl (by simp [eP, hem']; rfl) ?_
  refine runL_if rfl (fun g15 => ?_) (fun g15 => ?_)
  ·
   try simp only [g15]
   try simp at g15
   iterate 5 refine runL_step rfl (by simp [eP, hem']; rfl) ?_
   refine runL_if rfl (fun g20 => ?_) (fun g20 => ?_)
   ·
    try simp only [g20]
    try simp at g20
    iterate 5 refine runL_step rfl (by simp [eP, hem']; rfl) ?_
    refine runL_if rfl (fun g25 => ?_) (fun g25 => ?_)
    ·
     try simp only [g25]
     try simp at g25
     iterate 5 refine runL_step rfl (by simp [eP, hem']; rfl) ?_
     refine runL_if rfl (fun g30 => ?_) (fun g30 => ?_)
     ·
      try simp only [g30]
      try simp at g30
      iterate 4 refine runL_step rfl (by simp [eP, hem']; rfl) ?_
      simp [runL]
      refine J.condB rfl (fun h34 => ?_) (fun h34 => ?_)
      ·
       try simp only [h34]
       try simp at h34
       apply J.seq
       refine J.regE (by simp [eP, hem']; rfl) ?_
       simp
       apply J.ret
       refine ⟨by simp, rfl, _, [], by simp [a35R]; rfl, ?_⟩
       try subst g38
       try subst g41
       try subst g44
       try (have g44' := g44; subst g44')
       simp [btw, *] <;> omega
      ·
       try simp only [h34]
       try simp at h34
       apply J.skip; simp
       apply J.seq
       apply J.reg
       iterate 4 refine runL_step rfl (by simp [eP, hem']; rfl) ?_
       refine runL_if rfl (fun g38 => ?_) (fun g38 => ?_)
       ·
        try simp only [g38]
        try simp at g38
        iterate 3 refine runL_step rfl (by simp [eP, hem']; rfl) ?_
        refine runL_if rfl (fun g41 => ?_) (fun g41 => ?_)
        ·
         try simp only [g41]
         try simp at g41
         iterate 3 refine runL_step rfl (by simp [eP, hem']; rfl) ?_
         refine runL_if rfl (fun g44 => ?_) (fun g44 => ?_)
         ·
          try simp only [g44]
          try simp at g44
          iterate 6 refine runL_step rfl (by simp [eP, hem']; rfl) ?_
          simp [runL]
          apply J.ret
          refine ⟨by simp, rfl, _, [], by simp [a35R]; rfl, ?_⟩
          try subst g38
          try subst g41
          try subst g44
          try (have g44' := g44; subst g44')
          simp [btw, *] <;> omega
         ·
          try simp only [g44]
          try simp at g44
          iterate 5 refine runL_step rfl (by simp [eP, hem']; rfl) ?_
          simp [runL]
          apply J.ret
          refine ⟨by simp, rfl, _, [], by simp [a35R]; rfl, ?_⟩
          try subst g38
          try subst g41
          try subst g44
          try (have g44' := g44; subst g44')
          simp [btw, *] <;> omega
        ·
         try simp only [g41]
         try simp at g41
         iterate 8 refine runL_step rfl (by simp [eP, hem']; rfl) ?_
         simp [runL]
         apply J.ret
         refine ⟨by simp, rfl, _, [], by simp [a35R]; rfl, ?_⟩
         try subst g38
         try subst g41
         try subst g44
         try (have g44' := g44; subst g44')
         simp [btw, *] <;> omega
       ·
        try simp only [g38]
        try simp at g38
        iterate 5 refine runL_step rfl (by simp [eP, hem']; rfl) ?_
        refine runL_if rfl (fun g44 => ?_) (fun g44 => ?_)
        ·
         try simp only [g44]
         try simp at g44
         iterate 6 refine runL_step rfl (by simp [eP, hem']; rfl) ?_
         simp [runL]
         apply J.ret
         refine ⟨by simp, rfl, _, [], by simp [a35R]; rfl, ?_⟩
         try subst g38
         try subst g41
         try subst g44
         try (have g44' := g44; subst g44')
         simp [btw, *] <;> omega
        ·
         try simp only [g44]
         try simp at g44
         iterate 5 refine runL_step rfl (by simp [eP, hem']; rfl) ?_
         simp [runL]
         apply J.ret
         refine ⟨by simp, rfl, _, [], by simp [a35R]; rfl, ?_⟩
         try subst g38
         try subst g41
         try subst g44
         try (have g44' := g44; subst g44')
         simp [btw, *] <;> omega
     ·
      try simp only [g30]
      try simp at g30
      iterate 3 refine runL_step rfl (by simp [eP, hem']; rfl) ?_
      simp [runL]
      apply J.cond; simp [eP, hem']
      apply J.seq
      refine J.regE (by simp [eP, hem']; rfl) ?_
      simp
      apply J.ret
      refine ⟨by simp, rfl, _, [], by simp [a35R]; rfl, ?_⟩
      try subst g38
      try subst g41
      try subst g44
      try (have g44' := g44; subst g44')
      simp [btw, *] <;> omega
    ·
     try simp only [g25]
     try simp at g25
     iterate 8 refine runL_step rfl (by simp [eP, hem']; rfl) ?_
     simp [runL]
     apply J.cond; simp [eP, hem']
     apply J.seq
     refine J.regE (by simp [eP, hem']; rfl) ?_
     simp
     apply J.ret
     refine ⟨by simp, rfl, _, [], by simp [a35R]; rfl, ?_⟩
     try subst g38
     try subst g41
     try subst g44
     try (have g44' := g44; subst g44')
     simp [btw, *] <;> omega
   ·
    try simp only [g20]
    try simp at g20
    iterate 13 refine runL_step rfl (by simp [eP, hem']; rfl) ?_
    simp [runL]
    apply J.cond; simp [eP, hem']
    apply J.seq
    refine J.regE (by simp [eP, hem']; rfl) ?_
    simp
    apply J.ret
    refine ⟨by simp, rfl, _, [], by simp [a35R]; rfl, ?_⟩
    try subst g38
    try subst g41
    try subst g44
    try (have g44' := g44; subst g44')
    simp [btw, *] <;> omega
  ·
   try simp only [g15]
   try simp at g15
   iterate 18 refine runL_step rfl (by simp [eP, hem']; rfl) ?_
   simp [runL]
   apply J.cond; simp [eP, hem']
   apply J.seq
   refine J.regE (by simp [eP, hem']; rfl) ?_
   simp
   apply J.ret
   refine ⟨by simp, rfl, _, [], by simp [a35R]; rfl, ?_⟩
   try subst g38
   try subst g41
   try subst g44
   try (have g44' := g44; subst g44')
   simp [btw, *] <;> omega
 ·
  try simp only [g10]
  try simp at g10
  iterate 23 refine runL_step rfl (by simp [eP, hem']; rfl) ?_
  simp [runL]
  apply J.cond; simp [eP, hem']
  apply J.seq
  refine J.regE (by simp [eP, hem']; rfl) ?_
  simp
  apply J.ret
  refine ⟨by simp, rfl, _, [], by simp [a35R]; rfl, ?_⟩
  try subst g38
  try subst g41
  try subst g44
  try (have g44' := g44; subst g44')
  simp [btw, *] <;> omega
def I20 (l : List Post) (m : Nat) (st : St) : Prop := ∃ i : Nat, i ≤ l.length ∧ m = l.length - i ∧ mayFrom none l = mayFrom (prev l i) (l.drop i) ∧ (∀ j y, j < i → l[j]? = some y → mayP y = true) ∧ st = ⟨[(0, .ro 5 (ePs l)), (3, iv (i : Nat))], [], []⟩
theorem c20 : chkFn Tryz.prog 54 40 1 a20 a20R = true := by kernel_rfl
theorem d20 (l : List Post) (hf : Fit l) : DoesT 54 [.ro 5 (ePs l)] (bv (mayPs l)) := by
 have hl := hf.len
 refine Does.of (nt := 40) (ac := a20) (rds := a20R) c20 (fun c hc => ?_)
 unfold a20
 apply J.seq
 refine J.regE (by simp; rfl) ?_
 simp
 apply J.seq
 apply J.seq
 refine J.regE (by simp; rfl) ?_
 simp
 refine J.condB rfl (fun h7 => ?_) (fun h7 => ?_)
 ·
  simp at h7
  have hz : ¬ l.length ≤ 32 := by omega
  apply J.seq
  refine J.regE (by simp; rfl) ?_
  simp
  apply J.ret
  refine ⟨by simp, rfl, _, [], by simp [a20R]; rfl, ?_⟩
  simp [mayPs, hz]
 ·
  simp at h7
  apply J.skip; simp
  apply J.seq
  apply J.seq
  refine J.regE (by simp; rfl) ?_
  simp
  apply J.block
  refine J.loop hc (I20 l) ?_ ?_
  ·refine ⟨_, _, St.le_refl _, 0, by omega, rfl, rfl, fun j y h => absurd h (by omega), by simp⟩
  rintro n st ⟨i, hi, rfl, hI, hM, rfl⟩
  apply J.seq
  apply J.seq
  refine J.regE (by simp; rfl) ?_
  simp
  refine J.condB rfl (fun h11 => ?_) (fun h11 => ?_)
  ·
   simp at h11
   obtain ⟨x, hx⟩ : ∃ x, l[i]? = some x := ⟨_, List.getElem?_eq_getElem h11⟩
   obtain ⟨_, hgx, hge⟩ := ePs_at hx
   have hsx : x.text.size ≤ 100000 := hf.txt x (List.mem_of_getElem? hx)
   have hw : IntKind.i64.wrap ((i : Int) + 1) = (i : Int) + 1 := wrap_id (by omega) (by omega)
   have hdr : l.drop i = x :: l.drop (i + 1) := by rw [List.drop_eq_getElem_cons h11, hgx]
   rw [hdr] at hI
   obtain ⟨mp, hmp⟩ : ∃ mp, mayP x = mp := ⟨_, rfl⟩
   have h35 := d35 x hsx
   rw [hmp] at h35
   apply J.skip; simp
   apply J.seq
   apply J.block
   apply J.seq
   apply J.reg
   iterate 4 refine runL_step rfl (by simp [h11, hge, hgx, eP]; rfl) ?_
   refine runL_tree rfl (h35) (by simp) hc ?_
   simp
   refine runL_step rfl (by simp [h11, hge, hgx, eP]; rfl) ?_
   simp [runL]
   apply J.seq
   apply J.draw; intro c' hc'
   iterate 3 refine runP_stepQ (by simp [eP, h11, hge, hgx]; rfl) ?_
   refine runP_if rfl (fun g21 => ?_) (fun g21 => ?_)
   ·
    try simp only [g21]
    try simp at g21
    subst g21
    iterate 3 refine runP_stepQ (by simp [eP, h11, hge, hgx]; rfl) ?_
    refine runP_if rfl (fun g24 => ?_) (fun g24 => ?_)
    ·
     try simp only [g24]
     try simp at g24
     have hlj : i - 1 < l.length := by omega
     obtain ⟨y, hy⟩ : ∃ y, l[i - 1]? = some y := ⟨_, List.getElem?_eq_getElem hlj⟩
     obtain ⟨_, hgy, hgey⟩ := ePs_at hy
     have hwj : IntKind.i64.wrap ((i : Int) - 1) = ((i - 1 : Nat) : Int) := by rw [wrap_id (by omega) (by omega)]; omega
     have hyn := mayP_no (hM (i - 1) y (by omega) hy)
     have hwn : IntKind.i64.wrap (y.no + 1) = y.no + 1 := wrap_id (by omega) (by omega)
     have hpv : prev l i = some y.no := by
      obtain ⟨j, rfl⟩ : ∃ j, i = j + 1 := ⟨i - 1, by omega⟩
      simp at hy; simp [prev, hy]
     iterate 15 refine runP_stepQ (by simp [eP, h11, hge, hgx, hlj, hgy, hgey, hwj, hwn, ePs_length]; rfl) ?_
     simp [runP]
     refine J.condB rfl (fun h39 => ?_) (fun h39 => ?_)
     ·
      try simp only [h39]
      try simp at h39
      apply J.seq
      refine J.regE (by simp; rfl) ?_
      simp
      apply J.ret
      refine ⟨by simp, rfl, _, [], by simp [a20R]; rfl, ?_⟩
      have e : mayFrom none l = false := by rw [hI, hpv]; simp [mayFrom, hmp, h39]
      simp [mayPs, e]
     ·
      try simp only [h39]
      try simp at h39
      apply J.skip; simp
      refine J.regE (by simp [hw]; rfl) ?_
      simp
      refine ⟨l.length - (i + 1), by omega, _, St.le_refl _, i + 1, by omega, rfl, ?_, ?_, by simp⟩
      ·rw [hI, hpv, show prev l (i + 1) = some x.no from by simp [prev, hx]]
       simp [mayFrom, hmp]
       try simp [h39]
      ·intro k z hk hz
       by_cases e : k = i
       ·subst e; rw [hx] at hz; injection hz with hz; subst hz; exact hmp
       ·exact hM k z (by omega) hz
    ·
     try simp only [g24]
     try simp at g24
     have hpv : prev l i = none := by rw [g24]; rfl
     iterate 14 refine runP_stepQ (by simp [eP, h11, hge, hgx]; rfl) ?_
     simp [runP]
     apply J.cond; simp
     apply J.skip; simp
     refine J.regE (by simp [hw]; rfl) ?_
     simp
     refine ⟨l.length - (i + 1), by omega, _, St.le_refl _, i + 1, by omega, rfl, ?_, ?_, by simp⟩
     ·rw [hI, hpv, show prev l (i + 1) = some x.no from by simp [prev, hx]]
      simp [mayFrom, hmp]
      try simp [h39]
     ·intro k z hk hz
      by_cases e : k = i
      ·subst e; rw [hx] at hz; injection hz with hz; subst hz; exact hmp
      ·exact hM k z (by omega) hz
   ·
    try simp only [g21]
    try simp at g21
    subst g21
    iterate 17 refine runP_stepQ (by simp [eP, h11, hge, hgx]; rfl) ?_
    simp [runP]
    apply J.cond; simp
    apply J.seq
    refine J.regE (by simp; rfl) ?_
    simp
    apply J.ret
    refine ⟨by simp, rfl, _, [], by simp [a20R]; rfl, ?_⟩
    have e : mayFrom none l = false := by rw [hI]; simp [mayFrom, hmp]
    simp [mayPs, e]
  ·
   simp at h11
   obtain rfl : i = l.length := by omega
   apply J.exit; simp
   apply J.seq
   refine J.regE (by simp; rfl) ?_
   simp
   apply J.ret
   refine ⟨by simp, rfl, _, [], by simp [a20R]; rfl, ?_⟩
   simp [mayPs, hI, mayFrom]; omega
def atR (no : Int) : List Post → Nat → Int
 | [], _ => -1
 | x :: r, k => if x.no = no ∧ x.gone = false then (k : Int) else atR no r (k + 1)
theorem atR_far {no q : Int} (hq : no ≤ q) : ∀ {l : List Post} {k : Nat}, mayFrom (some q) l = true → atR no l k = -1
 | [], _, _ => rfl
 | x :: r, k, h => by
  simp only [mayFrom, Bool.and_eq_true, beq_iff_eq] at h
  simp only [atR, show ¬ x.no = no from by omega, false_and, if_false]
  exact atR_far (q := x.no) (by omega) h.2
theorem atR_eq {no : Int} : ∀ {l : List Post} {p : Option Int} {k : Nat}, mayFrom p l = true → atR no l k = match stopAt no l k with | none => -1 | some (i, _) => (i : Int)
 | [], _, _, _ => rfl
 | x :: r, p, k, h => by
  simp only [mayFrom, Bool.and_eq_true, beq_iff_eq] at h
  simp only [atR, stopAt]
  by_cases hh : hit no x = true
  ·rw [if_pos hh]
   simp only [hit, Bool.and_eq_true, Bool.not_eq_true', decide_eq_true_eq] at hh
   by_cases hn : x.no = no
   ·simp [hn, hh.1]
   ·rw [if_neg hn, if_neg (by simp [hn])]
    exact atR_far (q := x.no) hh.2 h.2
  ·rw [if_neg hh]
   simp only [hit, Bool.and_eq_true, Bool.not_eq_true', decide_eq_true_eq] at hh
   rw [if_neg (fun h => hh ⟨h.2, by omega⟩)]
   exact atR_eq h.2
theorem fairL_from (l : List Post) : mayFrom none (fairL l) = true := by
 unfold fairL
 split
 ·rename_i h; simp only [mayPs, Bool.and_eq_true] at h; exact h.1
 ·rfl
theorem atR_fair (l : List Post) (no : Int) : atR no (fairL l) 0 = match stopAt no (fairL l) 0 with | none => -1 | some (i, _) => (i : Int) := atR_eq (fairL_from l)
def I34 (es : List Post) (no : Int) (m : Nat) (st : St) : Prop := ∃ i : Nat, i ≤ es.length ∧ m = es.length - i ∧ atR no es 0 = atR no (es.drop i) i ∧ st = ⟨[(0, .ro 5 (ePs es)), (1, iv no), (5, iv (i : Nat))], [], []⟩
theorem ePs_step {es : List Post} {i : Nat} (h : i < es.length) : ∃ x, es[i]? = some x ∧ (∀ h, es[i]'h = x) ∧ (∀ h, (ePs es)[i]'h = eP x) ∧ es.drop i = x :: es.drop (i + 1) := by
 obtain ⟨x, hx⟩ : ∃ x, es[i]? = some x := ⟨_, List.getElem?_eq_getElem h⟩
 obtain ⟨_, hgx, hge⟩ := ePs_at hx
 exact ⟨x, hx, hgx, hge, by rw [List.drop_eq_getElem_cons h, hgx]⟩
theorem c33o : chkFn Tryz.prog 155 10 1 a33 a33R = true := by kernel_rfl
theorem d33o (l : List Post) (hf : Fit l) : Does Tryz.prog 155 [.ro 5 (ePs l)] [] [] (fun r m => r = .own 33009 5 0 (fairL l).length ∧ m = [(33009, .arr 86 5 (ePs (fairL l)))]) := by
 have hl := hf.len
 obtain ⟨mp, hmp⟩ : ∃ mp, mayPs l = mp := ⟨_, rfl⟩
 have h20 := d20 l hf
 rw [hmp] at h20
 refine Does.of (nt := 10) (ac := a33) (rds := a33R) c33o (fun c hc => ?_)
 unfold a33
 apply J.seq
 refine J.regE (by simp; rfl) ?_
 simp
 apply J.seq
 apply J.reg
 refine runL_step rfl (by simp; rfl) ?_
 refine runL_tree rfl (h20) (by simp) hc ?_
 simp
 refine runL_step rfl (by simp; rfl) ?_
 simp [runL]
 apply J.seq
 apply J.seq
 refine J.regE (by simp; rfl) ?_
 simp
 refine J.condB rfl (fun h7 => ?_) (fun h7 => ?_)
 ·
  try simp only [h7]
  try simp at h7
  apply J.seq
  refine J.regE (by simp; rfl) ?_
  simp
  refine J.nilrow hc 2 33009 86 rfl rfl rfl ?_
  simp
  have hF : fairL l = [] := by unfold fairL; simp [hmp, h7]
  apply J.ret
  refine ⟨by simp, rfl, _, [(33009, .arr 86 5 (ePs (fairL l)))], by simp [a33R]; rfl, ?_⟩
  simp [hF]
 ·
  try simp only [h7]
  try simp at h7
  apply J.skip; simp
  apply J.seq
  refine J.regE (by simp [show l.length * 48 ≤ 140737488355328 from by omega]; rfl) ?_
  simp
  have hF : fairL l = l := by unfold fairL; simp [hmp, h7]
  apply J.ret
  refine ⟨by simp, rfl, _, [(33009, .arr 86 5 (ePs (fairL l)))], by simp [a33R]; rfl, ?_⟩
  simp [hF]
theorem d33 (l : List Post) (hf : Fit l) : DoesT 155 [.ro 5 (ePs l)] (.ro 5 (ePs (fairL l))) := by
 refine (d33o l hf).tree _ ?_
 rintro r m ⟨rfl, rfl⟩ A ρ' w' v hM hv
 exact .tree (own_tree (sz := 5) (by omega) hM rfl hv (by simp))
theorem c21 : chkFn Tryz.prog 139 16 1 a21 a21R = true := by kernel_rfl
theorem d21 (l : List Post) (hf : Fit l) : DoesT 139 [.ro 5 (ePs l)] (iv (lastP l)) := by
 have hl := fairL_len l
 refine Does.of (nt := 16) (ac := a21) (rds := a21R) c21 (fun c hc => ?_)
 unfold a21
 apply J.seq
 refine J.regE (by simp; rfl) ?_
 simp
 apply J.seq
 apply J.reg
 refine runL_step rfl (by simp; rfl) ?_
 refine runL_tree rfl (d33 l hf) (by simp) hc ?_
 simp
 refine runL_step rfl (by simp; rfl) ?_
 simp [runL]
 apply J.seq
 apply J.seq
 refine J.regE (by simp; rfl) ?_
 simp
 refine J.condB rfl (fun h8 => ?_) (fun h8 => ?_)
 ·
  have hL : lastP l = 0 := by
   have : fairL l = [] := by simpa using h8
   simp [lastP, this]
  apply J.seq
  refine J.regE (by simp; rfl) ?_
  simp
  apply J.ret
  refine ⟨by simp, rfl, _, [], by simp [a21R]; rfl, ?_⟩
  simp [hL]
 ·
  obtain ⟨k, hk⟩ : ∃ k, (fairL l).length = k + 1 := ⟨(fairL l).length - 1, by simp at h8; have := List.length_pos_iff.2 h8; omega⟩
  obtain ⟨x, hx, hgx, hge, _⟩ := ePs_step (es := fairL l) (i := k) (by omega)
  have hw1 : IntKind.i64.wrap ((k : Int) + 1 - 1) = (k : Int) := by rw [wrap_id (by omega) (by omega)]; omega
  have hw2 : IntKind.i64.wrap (k : Int) = (k : Int) := wrap_id (by omega) (by omega)
  have hL : lastP l = x.no := by unfold lastP; rw [List.getLast?_eq_getElem?, hk]; simp [hx]
  apply J.skip; simp
  apply J.seq
  apply J.reg
  iterate 8 refine runL_step rfl (by simp [hk, hge, hgx, eP, hw1, hw2, show (k : Int) < k + 1 from by omega]; rfl) ?_
  simp [runL]
  apply J.ret
  refine ⟨by simp, rfl, _, [], by simp [a21R]; rfl, ?_⟩
  simp [hL]
theorem c34 : chkFn Tryz.prog 156 28 2 a34 a34R = true := by kernel_rfl
theorem d34 (es : List Post) (no : Int) (hl : es.length ≤ 1000000) : DoesT 156 [.ro 5 (ePs es), iv no] (iv (atR no es 0)) := by
 refine Does.of (nt := 28) (ac := a34) (rds := a34R) c34 (fun c hc => ?_)
 unfold a34
 apply J.seq
 refine J.regE (by simp; rfl) ?_
 simp
 apply J.seq
 apply J.seq
 refine J.regE (by simp; rfl) ?_
 simp
 apply J.block
 refine J.loop hc (I34 es no) ?_ ?_
 ·refine ⟨_, _, St.le_refl _, 0, by omega, rfl, rfl, by simp⟩
 rintro n st ⟨i, hi, rfl, hI, rfl⟩
 apply J.seq
 apply J.seq
 refine J.regE (by simp; rfl) ?_
 simp
 refine J.condB rfl (fun h9 => ?_) (fun h9 => ?_)
 ·
  simp at h9
  obtain ⟨x, hx, hgx, hge, hdr⟩ := ePs_step h9
  have hw : IntKind.i64.wrap ((i : Int) + 1) = (i : Int) + 1 := wrap_id (by omega) (by omega)
  rw [hdr] at hI
  apply J.skip; simp
  apply J.seq
  apply J.block
  apply J.seq
  apply J.reg
  iterate 8 refine runL_step rfl (by simp [h9, hgx, hge, eP]; rfl) ?_
  refine runL_if rfl (fun g19 => ?_) (fun g19 => ?_)
  ·
   try simp only [g19]
   try simp at g19
   iterate 7 refine runL_step rfl (by simp [h9, hgx, hge, eP]; rfl) ?_
   simp [runL]
   refine J.condB rfl (fun h26 => ?_) (fun h26 => ?_)
   ·
    try simp only [h26]
    try simp at h26
    apply J.seq
    refine J.regE (by simp; rfl) ?_
    simp
    apply J.ret
    refine ⟨by simp, rfl, _, [], by simp [a34R]; rfl, ?_⟩
    rw [hI]; simp [atR, *]
   ·
    try simp only [h26]
    try simp at h26
    apply J.skip; simp
    refine J.regE (by simp [hw]; rfl) ?_
    simp
    refine ⟨es.length - (i + 1), by omega, _, St.le_refl _, i + 1, by omega, rfl, ?_, by simp⟩
    rw [hI]; simp [atR, *]
  ·
   try simp only [g19]
   try simp at g19
   iterate 6 refine runL_step rfl (by simp [h9, hgx, hge, eP]; rfl) ?_
   simp [runL]
   apply J.cond; simp
   apply J.skip; simp
   refine J.regE (by simp [hw]; rfl) ?_
   simp
   refine ⟨es.length - (i + 1), by omega, _, St.le_refl _, i + 1, by omega, rfl, ?_, by simp⟩
   rw [hI]; simp [atR, *]
 ·
  simp at h9
  obtain rfl : i = es.length := by omega
  apply J.exit; simp
  apply J.seq
  refine J.regE (by simp; rfl) ?_
  simp
  apply J.ret
  refine ⟨by simp, rfl, _, [], by simp [a34R]; rfl, ?_⟩
  rw [hI]; simp [atR]
theorem c18 : chkFn Tryz.prog 135 20 2 a18 a18R = true := by kernel_rfl
theorem d18 (l : List Post) (no : Int) (hf : Fit l) : DoesT 135 [.ro 5 (ePs l), iv no] (.tup [.agg (eP (findP l no).1), iv (findP l no).2]) := by
 refine Does.of (nt := 20) (ac := a18) (rds := a18R) c18 (fun c hc => ?_)
 unfold a18
 apply J.seq
 refine J.regE (by simp; rfl) ?_
 simp
 apply J.seq
 apply J.reg
 refine runL_step rfl (by simp; rfl) ?_
 refine runL_tree rfl (d33 l hf) (by simp) hc ?_
 simp
 refine runL_step rfl (by simp; rfl) ?_
 simp [runL]
 apply J.seq
 rcases hst : stopAt no (fairL l) 0 with _ | ⟨i, x⟩
 ·
  have h34 := d34 (fairL l) no (by have := fairL_len l; omega)
  rw [atR_fair l no, hst] at h34
  simp only at h34
  apply J.reg
  iterate 2 refine runL_step rfl (by simp; rfl) ?_
  refine runL_tree rfl (h34) (by simp) hc ?_
  simp
  refine runL_step rfl (by simp; rfl) ?_
  simp [runL]
  apply J.seq
  apply J.seq
  refine J.regE (by simp; rfl) ?_
  simp
  apply J.cond; simp
  apply J.seq
  refine J.regE (by simp; rfl) ?_
  simp
  apply J.ret
  refine ⟨by simp, rfl, _, [], by simp [a18R]; rfl, ?_⟩
  simp [findP, hst, eP, zeroP]
 ·
  have h34 := d34 (fairL l) no (by have := fairL_len l; omega)
  rw [atR_fair l no, hst] at h34
  simp only at h34
  obtain ⟨_, hx, hno, hgn⟩ := stopAt_get hst
  simp only [Nat.sub_zero] at hx
  obtain ⟨hi, hgx, hge⟩ := ePs_at hx
  apply J.reg
  iterate 2 refine runL_step rfl (by simp; rfl) ?_
  refine runL_tree rfl (h34) (by simp) hc ?_
  simp
  refine runL_step rfl (by simp; rfl) ?_
  simp [runL]
  apply J.seq
  apply J.seq
  refine J.regE (by simp; rfl) ?_
  simp
  apply J.cond; simp [show ¬ ((i : Int) < 0) from by omega]
  apply J.skip; simp
  apply J.seq
  apply J.reg
  iterate 6 refine runL_step rfl (by simp [hi, hgx, hge, eP]; rfl) ?_
  simp [runL]
  apply J.ret
  refine ⟨by simp, rfl, _, [], by simp [a18R]; rfl, ?_⟩
  simp [findP, hst, eP, zeroP]
theorem ePs_snoc (pg : List Post) (x : Post) : ePs pg ++ [[iv x.no, iv x.user, sv x.text, iv x.edits, bv x.gone]] = ePs (pg ++ [x]) := by simp [ePs, eP]
theorem take_set (l : List Post) (i : Nat) (e : List AV) : List.take l.length ((ePs l).set i e) = (ePs l).set i e := List.take_of_length_le (by simp)
theorem c26 : chkFn Tryz.prog 137 53 4 a26 a26R = true := by kernel_rfl
theorem d26 (l : List Post) (no user : Int) (s : ByteArray) (hf : Fit l) (hs : s.size ≤ 100000) : DoesT 137 [.ro 5 (ePs l), iv no, iv user, sv s] (.tup [.ro 5 (ePs (editP l no user s).1), iv (editP l no user s).2]) := by
 obtain ⟨mr, hmr⟩ : ∃ mr, Tryz.mayR s = mr := ⟨_, rfl⟩
 have h40 := d40r s hs
 rw [hmr] at h40
 refine Does.of (nt := 53) (ac := a26) (rds := a26R) c26 (fun c hc => ?_)
 unfold a26
 apply J.seq
 refine J.regE (by simp; rfl) ?_
 simp
 apply J.seq
 apply J.reg
 refine runL_step rfl (by simp; rfl) ?_
 refine runL_call [] [] rfl rfl (d33o l hf) (by simp) (by simp) (by simp) hc ?_
 rintro rv m1 ⟨rfl, rfl⟩
 refine ⟨by simp, ?_⟩
 simp
 refine runL_step rfl (by simp; rfl) ?_
 simp [runL]
 apply J.seq
 apply J.reg
 refine runL_step rfl (by simp; rfl) ?_
 refine runL_tree rfl (h40) (by simp) hc ?_
 simp
 refine runL_step rfl (by simp; rfl) ?_
 simp [runL]
 apply J.seq
 apply J.seq
 refine J.regE (by simp; rfl) ?_
 simp
 refine J.condB rfl (fun h18 => ?_) (fun h18 => ?_)
 ·
  try simp only [h18]
  try simp at h18
  apply J.seq
  refine J.regE (by simp; rfl) ?_
  simp
  refine J.nilrow hc 8 98 86 rfl rfl rfl ?_
  simp
  refine J.freeze hc 98 rfl ?_
  simp [St.freeze]
  apply J.ret
  refine ⟨by simp, rfl, _, [], by simp [a26R]; rfl, ?_⟩
  simp [editP, hmr, h18]
 ·
  try simp only [h18]
  try simp at h18
  apply J.skip; simp
  apply J.seq
  rcases hst : stopAt no (fairL l) 0 with _ | ⟨i, x⟩
  ·
   have h34 := d34 (fairL l) no (by have := fairL_len l; omega)
   rw [atR_fair l no, hst] at h34
   simp only at h34
   apply J.reg
   iterate 2 refine runL_step rfl (by simp; rfl) ?_
   refine runL_view (le_freeze _ 33009 rfl) rfl (by simp [St.freeze]) (h34) (by simp) ?_
   rintro rv m1 ⟨rfl, rfl⟩
   refine ⟨rfl, rfl, ?_⟩
   simp
   refine runL_step rfl (by simp; rfl) ?_
   simp [runL]
   apply J.seq
   apply J.seq
   refine J.regE (by simp; rfl) ?_
   simp
   apply J.cond; simp
   apply J.seq
   refine J.regE (by simp; rfl) ?_
   simp
   refine J.nilrow hc 8 98 86 rfl rfl rfl ?_
   simp
   refine J.freeze hc 98 rfl ?_
   simp [St.freeze]
   apply J.ret
   refine ⟨by simp, rfl, _, [], by simp [a26R]; rfl, ?_⟩
   simp [editP, hmr, h18, hst]
  ·
   have h34 := d34 (fairL l) no (by have := fairL_len l; omega)
   rw [atR_fair l no, hst] at h34
   simp only at h34
   obtain ⟨_, hx, hno, hgn⟩ := stopAt_get hst
   simp only [Nat.sub_zero] at hx
   obtain ⟨hi, hgx, hge⟩ := ePs_at hx
   have hni : ¬ ((i : Int) < 0) := by omega
   have hmx := fairL_may x (List.mem_of_getElem? hx)
   have hed : 0 ≤ x.edits ∧ x.edits ≤ 1073741824 := by
    simp only [mayP, btw, Bool.and_eq_true, decide_eq_true_eq] at hmx; exact hmx.2
   have hw : IntKind.i64.wrap (x.edits + 1) = x.edits + 1 := wrap_id (by omega) (by omega)
   apply J.reg
   iterate 2 refine runL_step rfl (by simp; rfl) ?_
   refine runL_view (le_freeze _ 33009 rfl) rfl (by simp [St.freeze]) (h34) (by simp) ?_
   rintro rv m1 ⟨rfl, rfl⟩
   refine ⟨rfl, rfl, ?_⟩
   simp
   refine runL_step rfl (by simp; rfl) ?_
   simp [runL]
   apply J.seq
   apply J.seq
   refine J.regE (by simp; rfl) ?_
   simp
   apply J.cond; simp [hni]
   apply J.skip; simp
   apply J.seq
   apply J.seq
   apply J.reg
   iterate 7 refine runL_step rfl (by simp [hi, hgx, hge, eP]; rfl) ?_
   simp [runL]
   refine J.condB rfl (fun h30 => ?_) (fun h30 => ?_)
   ·
    try simp only [h30]
    try simp at h30
    apply J.seq
    refine J.regE (by simp; rfl) ?_
    simp
    refine J.nilrow hc 8 98 86 rfl rfl rfl ?_
    simp
    refine J.freeze hc 98 rfl ?_
    simp [St.freeze]
    apply J.ret
    refine ⟨by simp, rfl, _, [], by simp [a26R]; rfl, ?_⟩
    simp [editP, hmr, h18, hst, dofE, h30]
   ·
    try simp only [h30]
    try simp at h30
    apply J.skip; simp
    apply J.seq
    apply J.seq
    apply J.reg
    iterate 6 refine runL_step rfl (by simp [hi, hgx, hge, eP]; rfl) ?_
    simp [runL]
    refine J.condB rfl (fun h36 => ?_) (fun h36 => ?_)
    ·
     try simp only [h36]
     try simp at h36
     apply J.seq
     refine J.regE (by simp; rfl) ?_
     simp
     refine J.nilrow hc 8 98 86 rfl rfl rfl ?_
     simp
     refine J.freeze hc 98 rfl ?_
     simp [St.freeze]
     apply J.ret
     refine ⟨by simp, rfl, _, [], by simp [a26R]; rfl, ?_⟩
     simp [editP, hmr, h18, hst, dofE, h30, h36]
    ·
     try simp only [h36]
     try simp at h36
     apply J.skip; simp
     apply J.seq
     apply J.reg
     iterate 6 refine runL_step rfl (by simp [hi, hgx, hge, eP]; rfl) ?_
     simp [runL]
     apply J.seq
     apply J.reg
     iterate 11 refine runL_step rfl (by simp [hw, hi, hgx, hge, eP]; rfl) ?_
     simp [runL]
     apply J.seq
     refine J.regE (by simp; rfl) ?_
     simp
     refine J.freeze hc 33009 rfl ?_
     simp [St.freeze]
     apply J.ret
     refine ⟨by simp, rfl, _, [], by simp [a26R]; rfl, ?_⟩
     simp [editP, hmr, h18, hst, dofE, h30, show ¬ 1073741824 ≤ x.edits from by omega, ← ePs_set, eP, take_set]
theorem c27 : chkFn Tryz.prog 138 40 4 a27 a27R = true := by kernel_rfl
theorem d27 (l : List Post) (no user owner : Int) (hf : Fit l) : DoesT 138 [.ro 5 (ePs l), iv no, iv user, iv owner] (.tup [.ro 5 (ePs (delP l no user owner).1), iv (delP l no user owner).2]) := by
 refine Does.of (nt := 40) (ac := a27) (rds := a27R) c27 (fun c hc => ?_)
 unfold a27
 apply J.seq
 refine J.regE (by simp; rfl) ?_
 simp
 apply J.seq
 apply J.reg
 refine runL_step rfl (by simp; rfl) ?_
 refine runL_call [] [] rfl rfl (d33o l hf) (by simp) (by simp) (by simp) hc ?_
 rintro rv m1 ⟨rfl, rfl⟩
 refine ⟨by simp, ?_⟩
 simp
 refine runL_step rfl (by simp; rfl) ?_
 simp [runL]
 apply J.seq
 rcases hst : stopAt no (fairL l) 0 with _ | ⟨i, x⟩
 ·
  have h34 := d34 (fairL l) no (by have := fairL_len l; omega)
  rw [atR_fair l no, hst] at h34
  simp only at h34
  apply J.reg
  iterate 2 refine runL_step rfl (by simp; rfl) ?_
  refine runL_view (le_freeze _ 33009 rfl) rfl (by simp [St.freeze]) (h34) (by simp) ?_
  rintro rv m1 ⟨rfl, rfl⟩
  refine ⟨rfl, rfl, ?_⟩
  simp
  refine runL_step rfl (by simp; rfl) ?_
  simp [runL]
  apply J.seq
  apply J.seq
  refine J.regE (by simp; rfl) ?_
  simp
  apply J.cond; simp
  apply J.seq
  refine J.regE (by simp; rfl) ?_
  simp
  refine J.nilrow hc 8 98 86 rfl rfl rfl ?_
  simp
  refine J.freeze hc 98 rfl ?_
  simp [St.freeze]
  apply J.ret
  refine ⟨by simp, rfl, _, [], by simp [a27R]; rfl, ?_⟩
  simp [delP, hst]
 ·
  have h34 := d34 (fairL l) no (by have := fairL_len l; omega)
  rw [atR_fair l no, hst] at h34
  simp only at h34
  obtain ⟨_, hx, hno, hgn⟩ := stopAt_get hst
  simp only [Nat.sub_zero] at hx
  obtain ⟨hi, hgx, hge⟩ := ePs_at hx
  have hni : ¬ ((i : Int) < 0) := by omega
  have hmx := fairL_may x (List.mem_of_getElem? hx)
  apply J.reg
  iterate 2 refine runL_step rfl (by simp; rfl) ?_
  refine runL_view (le_freeze _ 33009 rfl) rfl (by simp [St.freeze]) (h34) (by simp) ?_
  rintro rv m1 ⟨rfl, rfl⟩
  refine ⟨rfl, rfl, ?_⟩
  simp
  refine runL_step rfl (by simp; rfl) ?_
  simp [runL]
  apply J.seq
  apply J.seq
  refine J.regE (by simp; rfl) ?_
  simp
  apply J.cond; simp [hni]
  apply J.skip; simp
  apply J.seq
  apply J.seq
  apply J.reg
  iterate 8 refine runL_step rfl (by simp [hi, hgx, hge, eP]; rfl) ?_
  refine runL_if rfl (fun g26 => ?_) (fun g26 => ?_)
  ·
   try simp only [g26]
   try simp at g26
   iterate 4 refine runL_step rfl (by simp [hi, hgx, hge, eP]; rfl) ?_
   simp [runL]
   refine J.condB rfl (fun h30 => ?_) (fun h30 => ?_)
   ·
    try simp only [h30]
    try simp at h30
    apply J.seq
    refine J.regE (by simp; rfl) ?_
    simp
    refine J.nilrow hc 8 98 86 rfl rfl rfl ?_
    simp
    refine J.freeze hc 98 rfl ?_
    simp [St.freeze]
    apply J.ret
    refine ⟨by simp, rfl, _, [], by simp [a27R]; rfl, ?_⟩
    simp [delP, hst, dofD, Ne.symm g26, h30]
   ·
    try simp only [h30]
    try simp at h30
    apply J.skip; simp
    apply J.seq
    apply J.reg
    iterate 5 refine runL_step rfl (by simp [hi, hgx, hge, eP]; rfl) ?_
    simp [runL]
    apply J.seq
    apply J.reg
    iterate 5 refine runL_step rfl (by simp [hi, hgx, hge, eP]; rfl) ?_
    simp [runL]
    apply J.seq
    refine J.regE (by simp; rfl) ?_
    simp
    refine J.freeze hc 33009 rfl ?_
    simp [St.freeze]
    apply J.ret
    refine ⟨by simp, rfl, _, [], by simp [a27R]; rfl, ?_⟩
    simp [delP, hst, dofD, Ne.symm g26, h30, ← ePs_set, eP, take_set]
  ·
   try simp only [g26]
   try simp at g26
   iterate 3 refine runL_step rfl (by simp [hi, hgx, hge, eP]; rfl) ?_
   simp [runL]
   apply J.cond; simp
   apply J.skip; simp
   apply J.seq
   apply J.reg
   iterate 5 refine runL_step rfl (by simp [hi, hgx, hge, eP]; rfl) ?_
   simp [runL]
   apply J.seq
   apply J.reg
   iterate 5 refine runL_step rfl (by simp [hi, hgx, hge, eP]; rfl) ?_
   simp [runL]
   apply J.seq
   refine J.regE (by simp; rfl) ?_
   simp
   refine J.freeze hc 33009 rfl ?_
   simp [St.freeze]
   apply J.ret
   refine ⟨by simp, rfl, _, [], by simp [a27R]; rfl, ?_⟩
   simp [delP, hst, dofD, g26, ← ePs_set, eP, take_set]
theorem c25 : chkFn Tryz.prog 136 42 3 a25 a25R = true := by kernel_rfl
theorem d25 (l : List Post) (user : Int) (s : ByteArray) (hf : Fit l) (hs : s.size ≤ 100000) : DoesT 136 [.ro 5 (ePs l), iv user, sv s] (.tup [.ro 5 (ePs (addP l user s).1), iv (addP l user s).2]) := by
 obtain ⟨mr, hmr⟩ : ∃ mr, Tryz.mayR s = mr := ⟨_, rfl⟩
 have h40 := d40r s hs
 rw [hmr] at h40
 have hlen := fairL_len l
 have hlb := lastP_bd l
 have hw : IntKind.i64.wrap (lastP l + 1) = lastP l + 1 := wrap_id (by omega) (by omega)
 have h21 := d21 (fairL l) (fairL_fit hf)
 rw [lastP_fair] at h21
 refine Does.of (nt := 42) (ac := a25) (rds := a25R) c25 (fun c hc => ?_)
 unfold a25
 apply J.seq
 refine J.regE (by simp; rfl) ?_
 simp
 apply J.seq
 apply J.reg
 refine runL_step rfl (by simp; rfl) ?_
 refine runL_call [] [] rfl rfl (d33o l hf) (by simp) (by simp) (by simp) hc ?_
 rintro rv m1 ⟨rfl, rfl⟩
 refine ⟨by simp, ?_⟩
 simp
 refine runL_step rfl (by simp; rfl) ?_
 simp [runL]
 apply J.seq
 apply J.reg
 refine runL_step rfl (by simp; rfl) ?_
 refine runL_tree rfl (h40) (by simp) hc ?_
 simp
 refine runL_step rfl (by simp; rfl) ?_
 simp [runL]
 apply J.seq
 apply J.seq
 apply J.reg
 iterate 3 refine runL_step rfl (by simp; rfl) ?_
 refine runL_if rfl (fun g16 => ?_) (fun g16 => ?_)
 ·
  try simp only [g16]
  try simp at g16
  iterate 4 refine runL_step rfl (by simp; rfl) ?_
  refine runL_if rfl (fun g20 => ?_) (fun g20 => ?_)
  ·
   try simp only [g20]
   try simp at g20
   iterate 3 refine runL_step rfl (by simp; rfl) ?_
   simp [runL]
   refine J.condB rfl (fun h23 => ?_) (fun h23 => ?_)
   ·
    try simp only [h23]
    try simp at h23
    apply J.seq
    refine J.regE (by simp; rfl) ?_
    simp
    refine J.nilrow hc 6 98 86 rfl rfl rfl ?_
    simp
    refine J.freeze hc 98 rfl ?_
    simp [St.freeze]
    apply J.ret
    refine ⟨by simp, rfl, _, [], by simp [a25R]; rfl, ?_⟩
    have hb : btw user 1 1048576 = false := by simp [btw]; omega
    simp [addP, hb]
   ·
    try simp only [h23]
    try simp at h23
    apply J.skip; simp
    apply J.seq
    apply J.seq
    apply J.reg
    refine runL_step rfl (by simp; rfl) ?_
    refine runL_view (le_freeze _ 33009 rfl) rfl (by simp [St.freeze]) (h21) (by simp) ?_
    rintro rv m1 ⟨rfl, rfl⟩
    refine ⟨rfl, rfl, ?_⟩
    simp
    refine runL_step rfl (by simp; rfl) ?_
    simp [runL]
    refine J.condB rfl (fun h26 => ?_) (fun h26 => ?_)
    ·
     try simp only [h26]
     try simp at h26
     apply J.seq
     refine J.regE (by simp; rfl) ?_
     simp
     refine J.nilrow hc 6 98 86 rfl rfl rfl ?_
     simp
     refine J.freeze hc 98 rfl ?_
     simp [St.freeze]
     apply J.ret
     refine ⟨by simp, rfl, _, [], by simp [a25R]; rfl, ?_⟩
     have h1 : btw user 1 1048576 = true := by simp [btw, *]
     simp [addP, h1, hmr, g16, h26]
    ·
     try simp only [h26]
     try simp at h26
     apply J.skip; simp
     apply J.seq
     apply J.reg
     iterate 2 refine runL_step rfl (by simp [hw, show ((fairL l).length + 1) * 48 ≤ 140737488355328 from by omega]; rfl) ?_
     refine runL_view (le_freeze _ 33009 rfl) rfl (by simp [St.freeze]) (h21) (by simp) ?_
     rintro rv m1 ⟨rfl, rfl⟩
     refine ⟨rfl, rfl, ?_⟩
     simp
     iterate 7 refine runL_step rfl (by simp [hw, show ((fairL l).length + 1) * 48 ≤ 140737488355328 from by omega]; rfl) ?_
     simp [runL]
     obtain ⟨m, hm⟩ : ∃ m, fairL l ++ [⟨lastP l + 1, user, s, 0, false⟩] = m := ⟨_, rfl⟩
     have hmm : ePs (fairL l) ++ [[iv (lastP l + 1), iv user, sv s, iv 0, bv false]] = ePs m := by rw [← hm]; simp [ePs, eP]
     have hml : (fairL l).length + 1 = m.length := by rw [← hm]; simp
     have h1 : btw user 1 1048576 = true := by simp [btw, *]
     have hA : addP l user s = (m.drop (m.length - 32), 0) := by simp only [addP, h1, hmr, g16, hm]; simp; omega
     rw [hmm, hml]
     have hm33 : m.length ≤ 33 := by omega
     have hm1 : 1 ≤ m.length := by omega
     clear hm hmm
     apply J.seq
     apply J.seq
     refine J.regE (by simp; rfl) ?_
     simp
     refine J.condB rfl (fun h38 => ?_) (fun h38 => ?_)
     ·
      try simp only [h38]
      try simp at h38
      refine J.regE (by simp [show (1 : Int) ≤ (m.length : Int) from by omega]; rfl) ?_
      simp
      apply J.seq
      refine J.regE (by simp; rfl) ?_
      simp
      refine J.freeze hc 33009 rfl ?_
      simp [St.freeze]
      apply J.ret
      refine ⟨by simp, rfl, _, [], by simp [a25R]; rfl, ?_⟩
      rw [if_pos (by omega), hA]
      have h5 : m.length = 33 := by omega
      simp [h5]
      rw [show (ePs m).tail = ePs m.tail from by simp [ePs, List.map_tail], List.take_of_length_le (by simp; omega)]
     ·
      try simp only [h38]
      try simp at h38
      apply J.skip; simp
      apply J.seq
      refine J.regE (by simp; rfl) ?_
      simp
      refine J.freeze hc 33009 rfl ?_
      simp [St.freeze]
      apply J.ret
      refine ⟨by simp, rfl, _, [], by simp [a25R]; rfl, ?_⟩
      rw [hA]
      simp [show m.length - 32 = 0 from by omega]
  ·
   try simp only [g20]
   try simp at g20
   iterate 2 refine runL_step rfl (by simp; rfl) ?_
   simp [runL]
   apply J.cond; simp
   apply J.seq
   refine J.regE (by simp; rfl) ?_
   simp
   refine J.nilrow hc 6 98 86 rfl rfl rfl ?_
   simp
   refine J.freeze hc 98 rfl ?_
   simp [St.freeze]
   apply J.ret
   refine ⟨by simp, rfl, _, [], by simp [a25R]; rfl, ?_⟩
   have hb : btw user 1 1048576 = false := by simp [btw]; omega
   simp [addP, hb]
 ·
  try simp only [g16]
  try simp at g16
  iterate 6 refine runL_step rfl (by simp; rfl) ?_
  simp [runL]
  apply J.cond; simp
  apply J.seq
  refine J.regE (by simp; rfl) ?_
  simp
  refine J.nilrow hc 6 98 86 rfl rfl rfl ?_
  simp
  refine J.freeze hc 98 rfl ?_
  simp [St.freeze]
  apply J.ret
  refine ⟨by simp, rfl, _, [], by simp [a25R]; rfl, ?_⟩
  simp [addP, hmr, g16]
def eqP (x y : Post) : Bool := x.no == y.no && (x.user == y.user && (x.text.toList == y.text.toList && (x.edits == y.edits && x.gone == y.gone)))
def sameR : List Post → List Post → Bool
 | x :: r, y :: q => eqP x y && sameR r q
 | _, _ => true
def sameP (a b : List Post) : Bool := (a.length == b.length) && sameR a b
def I13 (a b : List Post) (m : Nat) (st : St) : Prop := ∃ i : Nat, i ≤ a.length ∧ m = a.length - i ∧ sameR a b = sameR (a.drop i) (b.drop i) ∧ st = ⟨[(0, .ro 5 (ePs a)), (1, .ro 5 (ePs b)), (5, iv (i : Nat))], [], []⟩
def fewR : List Post → Bool
 | [] => true
 | x :: r => decide (x.text.size ≤ 200) && fewR r
def fewP (l : List Post) : Bool := decide (l.length ≤ 50) && fewR l
def I10 (l : List Post) (m : Nat) (st : St) : Prop := ∃ i : Nat, i ≤ l.length ∧ m = l.length - i ∧ fewR l = fewR (l.drop i) ∧ st = ⟨[(0, .ro 5 (ePs l)), (3, iv (i : Nat))], [], []⟩
theorem c13 : chkFn Tryz.prog 26 26 2 a13 a13R = true := by kernel_rfl
theorem d13 (a b : List Post) (hl : a.length ≤ 1000000) : DoesT 26 [.ro 5 (ePs a), .ro 5 (ePs b)] (bv (sameP a b)) := by
 refine Does.of (nt := 26) (ac := a13) (rds := a13R) c13 (fun c hc => ?_)
 unfold a13
 apply J.seq
 refine J.regE (by simp; rfl) ?_
 simp
 apply J.seq
 apply J.seq
 refine J.regE (by simp; rfl) ?_
 simp
 refine J.condB rfl (fun h10 => ?_) (fun h10 => ?_)
 ·
  simp at h10
  have hne : ¬ a.length = b.length := by omega
  apply J.seq
  refine J.regE (by simp; rfl) ?_
  simp
  apply J.ret
  refine ⟨by simp, rfl, _, [], by simp [a13R]; rfl, ?_⟩
  simp [sameP, hne]
 ·
  simp at h10
  have hle : a.length = b.length := by omega
  apply J.skip; simp
  apply J.seq
  apply J.seq
  refine J.regE (by simp; rfl) ?_
  simp
  apply J.block
  refine J.loop hc (I13 a b) ?_ ?_
  ·refine ⟨_, _, St.le_refl _, 0, by omega, rfl, rfl, by simp⟩
  rintro n st ⟨i, hi, rfl, hI, rfl⟩
  apply J.seq
  apply J.seq
  refine J.regE (by simp; rfl) ?_
  simp
  refine J.condB rfl (fun h14 => ?_) (fun h14 => ?_)
  ·
   simp at h14
   obtain ⟨x, hx, hgx, hge, hdr⟩ := ePs_step h14
   obtain ⟨y, hy, hgy, hgey, hdry⟩ := ePs_step (es := b) (i := i) (by omega)
   have h14b : i < b.length := by omega
   have hw : IntKind.i64.wrap ((i : Int) + 1) = (i : Int) + 1 := wrap_id (by omega) (by omega)
   rw [hdr, hdry] at hI
   apply J.skip; simp
   apply J.seq
   apply J.block
   apply J.seq
   apply J.draw; intro c' hc'
   iterate 9 refine runP_stepQ (by simp [h14, h14b, hgx, hge, hgy, hgey, eP]; rfl) ?_
   simp [runP]
   refine J.condB rfl (fun h25 => ?_) (fun h25 => ?_)
   ·
    have hE0 : (!(eqP x y)) = true := by simp only [eqP, Bool.not_and]; exact h25
    have hE : eqP x y = false := by simpa using hE0
    apply J.seq
    refine J.regE (by simp; rfl) ?_
    simp
    apply J.ret
    refine ⟨by simp, rfl, _, [], by simp [a13R]; rfl, ?_⟩
    simp [sameP, hI, sameR, hE]
   ·
    have hE0 : (!(eqP x y)) = false := by simp only [eqP, Bool.not_and]; exact h25
    have hE : eqP x y = true := by simpa using hE0
    apply J.skip; simp
    refine J.regE (by simp [hw]; rfl) ?_
    simp
    refine ⟨a.length - (i + 1), by omega, _, St.le_refl _, i + 1, by omega, rfl, ?_, by simp⟩
    rw [hI]; simp [sameR, hE]
  ·
   simp at h14
   obtain rfl : i = a.length := by omega
   apply J.exit; simp
   apply J.seq
   refine J.regE (by simp; rfl) ?_
   simp
   apply J.ret
   refine ⟨by simp, rfl, _, [], by simp [a13R]; rfl, ?_⟩
   simp [sameP, hle, hI, sameR]
theorem c10 : chkFn Tryz.prog 39 20 1 a10 a10R = true := by kernel_rfl
theorem d10 (l : List Post) (hl : l.length ≤ 9223372036854775807) : DoesT 39 [.ro 5 (ePs l)] (bv (fewP l)) := by
 refine Does.of (nt := 20) (ac := a10) (rds := a10R) c10 (fun c hc => ?_)
 unfold a10
 apply J.seq
 refine J.regE (by simp; rfl) ?_
 simp
 apply J.seq
 apply J.seq
 refine J.regE (by simp; rfl) ?_
 simp
 refine J.condB rfl (fun h6 => ?_) (fun h6 => ?_)
 ·
  simp at h6
  have hne : ¬ l.length ≤ 50 := by omega
  apply J.seq
  refine J.regE (by simp; rfl) ?_
  simp
  apply J.ret
  refine ⟨by simp, rfl, _, [], by simp [a10R]; rfl, ?_⟩
  simp [fewP, hne]
 ·
  simp at h6
  apply J.skip; simp
  apply J.seq
  apply J.seq
  refine J.regE (by simp; rfl) ?_
  simp
  apply J.block
  refine J.loop hc (I10 l) ?_ ?_
  ·refine ⟨_, _, St.le_refl _, 0, by omega, rfl, rfl, by simp⟩
  rintro n st ⟨i, hi, rfl, hI, rfl⟩
  apply J.seq
  apply J.seq
  refine J.regE (by simp; rfl) ?_
  simp
  refine J.condB rfl (fun h10 => ?_) (fun h10 => ?_)
  ·
   simp at h10
   obtain ⟨x, hx, hgx, hge, hdr⟩ := ePs_step h10
   have hw : IntKind.i64.wrap ((i : Int) + 1) = (i : Int) + 1 := wrap_id (by omega) (by omega)
   rw [hdr] at hI
   apply J.skip; simp
   apply J.seq
   apply J.block
   apply J.seq
   apply J.reg
   iterate 7 refine runL_step rfl (by simp [h10, hgx, hge, eP]; rfl) ?_
   simp [runL]
   refine J.condB rfl (fun h19 => ?_) (fun h19 => ?_)
   ·
    try simp only [h19]
    try simp at h19
    apply J.seq
    refine J.regE (by simp; rfl) ?_
    simp
    apply J.ret
    refine ⟨by simp, rfl, _, [], by simp [a10R]; rfl, ?_⟩
    simp [fewP, hI, fewR]; omega
   ·
    try simp only [h19]
    try simp at h19
    apply J.skip; simp
    refine J.regE (by simp [hw]; rfl) ?_
    simp
    refine ⟨l.length - (i + 1), by omega, _, St.le_refl _, i + 1, by omega, rfl, ?_, by simp⟩
    rw [hI]; simp [fewR]; omega
  ·
   simp at h10
   obtain rfl : i = l.length := by omega
   apply J.exit; simp
   apply J.seq
   refine J.regE (by simp; rfl) ?_
   simp
   apply J.ret
   refine ⟨by simp, rfl, _, [], by simp [a10R]; rfl, ?_⟩
   simp [fewP, hI, fewR]; omega
end Go.Proofs.YtadbdchbdjkcdaaGreatDoor.P16
namespace Go.Proofs.YtadbdchbdjkcdaaGreatDoor.F
open Go Go.SX
abbrev Post := P16.Post
abbrev ePs := P16.ePs
structure Room where
 c : Chan
 posts : List Post
structure Pers where
 user : Int
 w : Win
structure Sta where
 rooms : List Room
 persons : List Pers
def eR (r : Room) : List AV := [iv r.c.id, iv r.c.owner, .ro 1 (ints r.c.mem), .ro 5 (ePs r.posts)]
def eV (p : Pers) : List AV := [iv p.user, iv p.w.low, .ro 4 (eTs p.w.l)]
def eRs (l : List Room) : List (List AV) := l.map eR
def eVs (l : List Pers) : List (List AV) := l.map eV
def eS (s : Sta) : List AV := [.ro 4 (eRs s.rooms), .ro 3 (eVs s.persons)]
abbrev kR (r : Room) : Int := r.c.id
abbrev kV (p : Pers) : Int := p.user
def unInts (es : List (List AV)) : List Int := es.map fun e => match e with | [.lit (.int _ n)] => n | _ => 0
def unPost : List AV → Post
 | [.lit (.int _ a), .lit (.int _ b), .lit (.string s), .lit (.int _ d), .lit (.bool e)] => ⟨a, b, s, d, e⟩
 | _ => ⟨0, 0, ⟨#[]⟩, 0, false⟩
def unTold : List AV → Told
 | [.lit (.int _ a), .lit (.int _ b), .lit (.int _ c), .lit (.string s)] => ⟨a, b, c, s⟩
 | _ => ⟨0, 0, 0, ⟨#[]⟩⟩
def unRoom : List AV → Room
 | [.lit (.int _ a), .lit (.int _ b), .ro _ es, .ro _ ps] => ⟨⟨a, b, unInts es⟩, ps.map unPost⟩
 | _ => ⟨⟨0, 0, []⟩, []⟩
def unPers : List AV → Pers
 | [.lit (.int _ a), .lit (.int _ b), .ro _ es] => ⟨a, b, es.map unTold⟩
 | _ => ⟨0, 0, []⟩
theorem unInts_eq (l : List Int) : unInts (ints l) = l := by simp [unInts, ints, Function.comp_def]
theorem unPosts_eq (l : List Post) : (ePs l).map unPost = l := by
 rw [show ePs l = l.map P16.eP from rfl, List.map_map, show unPost ∘ P16.eP = id from rfl, List.map_id]
theorem unTolds_eq (l : List Told) : (eTs l).map unTold = l := by
 rw [show eTs l = l.map eT from rfl, List.map_map, show unTold ∘ eT = id from rfl, List.map_id]
theorem unRoom_eq (r : Room) : unRoom (eR r) = r := by simp [unRoom, eR, unInts_eq, unPosts_eq]
theorem unPers_eq (p : Pers) : unPers (eV p) = p := by simp [unPers, eV, unTolds_eq]
def FitR (n : Nat) (r : Room) : Prop := r.c.mem.length ≤ n ∧ P16.Fit r.posts
def FitS (n : Nat) (s : Sta) : Prop := s.rooms.length ≤ n ∧ s.persons.length ≤ n ∧ (∀ r ∈ s.rooms, FitR n r) ∧ (∀ p ∈ s.persons, p.w.l.length ≤ n)
theorem eRs_rows {l : List Room} (h : l.length < 1000000) : SX.Rows 4 (eRs l) := ⟨fun e he => by obtain ⟨x, _, rfl⟩ := List.mem_map.1 he; rfl, fun e he => by obtain ⟨x, _, rfl⟩ := List.mem_map.1 he; rfl, by simpa [eRs] using h⟩
theorem eVs_rows {l : List Pers} (h : l.length < 1000000) : SX.Rows 3 (eVs l) := ⟨fun e he => by obtain ⟨x, _, rfl⟩ := List.mem_map.1 he; rfl, fun e he => by obtain ⟨x, _, rfl⟩ := List.mem_map.1 he; rfl, by simpa [eVs] using h⟩
theorem eRs_len (l : List Room) : (eRs l).length = l.length := by simp [eRs]
theorem eVs_len (l : List Pers) : (eVs l).length = l.length := by simp [eVs]
attribute [simp] eRs_len eVs_len
def badR (r : Room) : Bool := !mayC r.c || !P16.mayPs r.posts
def badV (p : Pers) : Bool := !btw p.user 1 1048576 || !mayW p.w
def mayS (s : Sta) : Bool := !s.rooms.any badR && (!s.persons.any badV && (risF none (s.rooms.map kR) && risF none (s.persons.map kV)))
theorem k77 : chkFn Tryz.prog 77 19 2 (slIdx 4) slIdxR = true := by kernel_rfl
theorem k78 : chkFn Tryz.prog 78 19 2 (slIdx 3) slIdxR = true := by kernel_rfl
theorem k33 : chkFn Tryz.prog 33 9 2 (slCon 77) slConR = true := by kernel_rfl
theorem k34 : chkFn Tryz.prog 34 9 2 (slCon 78) slConR = true := by kernel_rfl
theorem k35 : chkFn Tryz.prog 35 30 2 (slRises 4 52 [iv 0, iv 0, .nils 1, .nils 5] 35006) slRisesR = true := by kernel_rfl
theorem k37 : chkFn Tryz.prog 37 30 2 (slRises 3 62 [iv 0, iv 0, .nils 4] 37006) slRisesR = true := by kernel_rfl
theorem c36 : chkFn Tryz.prog 36 6 1 a36 a36R = true := by kernel_rfl
theorem d36 (r : Room) : DoesT 36 [.agg (eR r)] (iv (kR r)) := by
 refine Does.of (nt := 6) (ac := a36) (rds := a36R) c36 (fun c hc => ?_)
 unfold a36
 apply J.seq
 refine J.regE (by simp [eR]; rfl) ?_
 simp
 apply J.seq
 refine J.regE (by simp [eR]; rfl) ?_
 simp
 apply J.ret
 refine ⟨by simp, rfl, _, [], by simp [a36R]; rfl, ?_⟩
 simp
theorem c38 : chkFn Tryz.prog 38 5 1 a38 a38R = true := by kernel_rfl
theorem d38 (p : Pers) : DoesT 38 [.agg (eV p)] (iv (kV p)) := by
 refine Does.of (nt := 5) (ac := a38) (rds := a38R) c38 (fun c hc => ?_)
 unfold a38
 apply J.seq
 refine J.regE (by simp [eV]; rfl) ?_
 simp
 apply J.seq
 refine J.regE (by simp [eV]; rfl) ?_
 simp
 apply J.ret
 refine ⟨by simp, rfl, _, [], by simp [a38R]; rfl, ?_⟩
 simp
theorem c28 : chkFn Tryz.prog 28 13 1 a28 a28R = true := by kernel_rfl
theorem d28 (r : Room) {n : Nat} (hn : n < 1000000) (h : FitR n r) : DoesT 28 [.agg (eR r)] (bv (badR r)) := by
 refine Does.of (nt := 13) (ac := a28) (rds := a28R) c28 (fun c hc => ?_)
 unfold a28
 apply J.seq
 refine J.regE (by simp [eR]; rfl) ?_
 simp
 apply J.seq
 apply J.reg
 iterate 2 refine runL_step rfl (by simp [eR]; rfl) ?_
 refine runL_tree rfl (d29 r.c (by have := h.1; omega)) (by simp) hc ?_
 simp
 iterate 2 refine runL_step rfl (by simp [eR]; rfl) ?_
 refine runL_if rfl (fun g7 => ?_) (fun g7 => ?_)
 ·
  try simp only [g7]
  try simp at g7
  iterate 2 refine runL_step rfl (by simp [eR]; rfl) ?_
  refine runL_do (by simp) ?_
  refine runL_tree rfl (P16.d14 r.posts h.2) (by simp) hc ?_
  simp
  iterate 3 refine runL_step rfl (by simp [eR]; rfl) ?_
  simp [runL]
  apply J.ret
  refine ⟨by simp, rfl, _, [], by simp [a28R]; rfl, ?_⟩
  simp [badR, *]
 ·
  try simp only [g7]
  try simp at g7
  refine runL_step rfl (by simp [eR]; rfl) ?_
  refine runL_pass (b := _) rfl (by simp) ?_
  simp
  iterate 3 refine runL_step rfl (by simp [eR]; rfl) ?_
  simp [runL]
  apply J.ret
  refine ⟨by simp, rfl, _, [], by simp [a28R]; rfl, ?_⟩
  simp [badR, *]
theorem c31 : chkFn Tryz.prog 31 17 1 a31 a31R = true := by kernel_rfl
theorem d31 (p : Pers) (h : p.w.l.length < 1000000) : DoesT 31 [.agg (eV p)] (bv (badV p)) := by
 refine Does.of (nt := 17) (ac := a31) (rds := a31R) c31 (fun c hc => ?_)
 unfold a31
 apply J.seq
 refine J.regE (by simp [eV]; rfl) ?_
 simp
 apply J.seq
 apply J.reg
 iterate 4 refine runL_step rfl (by simp [eV]; rfl) ?_
 refine runL_if rfl (fun g6 => ?_) (fun g6 => ?_)
 ·
  try simp only [g6]
  try simp at g6
  iterate 5 refine runL_step rfl (by simp [eV]; rfl) ?_
  refine runL_if rfl (fun g11 => ?_) (fun g11 => ?_)
  ·
   try simp only [g11]
   try simp at g11
   iterate 2 refine runL_step rfl (by simp [eV]; rfl) ?_
   refine runL_do (by simp) ?_
   refine runL_tree rfl (d32 p.w h) (by simp) hc ?_
   simp
   iterate 3 refine runL_step rfl (by simp [eV]; rfl) ?_
   simp [runL]
   apply J.ret
   refine ⟨by simp, rfl, _, [], by simp [a31R]; rfl, ?_⟩
   first | (simp [badV, btw, *]; done) | (simp [badV, btw]; omega) | trace_state
  ·
   try simp only [g11]
   try simp at g11
   refine runL_step rfl (by simp [eV]; rfl) ?_
   refine runL_pass (b := _) rfl (by simp) ?_
   simp
   iterate 3 refine runL_step rfl (by simp [eV]; rfl) ?_
   simp [runL]
   apply J.ret
   refine ⟨by simp, rfl, _, [], by simp [a31R]; rfl, ?_⟩
   first | (simp [badV, btw, *]; done) | (simp [badV, btw]; omega) | trace_state
 ·
  try simp only [g6]
  try simp at g6
  iterate 6 refine runL_step rfl (by simp [eV]; rfl) ?_
  refine runL_pass (b := _) rfl (by simp) ?_
  simp
  iterate 3 refine runL_step rfl (by simp [eV]; rfl) ?_
  simp [runL]
  apply J.ret
  refine ⟨by simp, rfl, _, [], by simp [a31R]; rfl, ?_⟩
  first | (simp [badV, btw, *]; done) | (simp [badV, btw]; omega) | trace_state
theorem any_R (l : List Room) (f : Room → Bool) : (eRs l).any (fun e => f (unRoom e)) = l.any f := by simp [eRs, List.any_map, Function.comp_def, unRoom_eq]
theorem any_V (l : List Pers) (f : Pers → Bool) : (eVs l).any (fun e => f (unPers e)) = l.any f := by simp [eVs, List.any_map, Function.comp_def, unPers_eq]
theorem d33 {s : Sta} {n : Nat} (hn : n < 1000000) (h : FitS n s) : DoesT 33 [.ro 4 (eRs s.rooms), .fn 28 []] (bv (s.rooms.any badR)) := by
 have h1 := dIdx k77 (es := eRs s.rooms) (g := 28) (caps := []) (fun e => badR (unRoom e)) (by omega) (eRs_rows (by have := h.1; omega)) trivial (fun e he => by obtain ⟨x, hx, rfl⟩ := List.mem_map.1 he; rw [unRoom_eq]; exact d28 x hn (h.2.2.1 x hx))
 have h2 := dCon k33 (caps := []) trivial h1
 rw [any_R] at h2
 exact h2
theorem d34 {s : Sta} {n : Nat} (hn : n < 1000000) (h : FitS n s) : DoesT 34 [.ro 3 (eVs s.persons), .fn 31 []] (bv (s.persons.any badV)) := by
 have h1 := dIdx k78 (es := eVs s.persons) (g := 31) (caps := []) (fun e => badV (unPers e)) (by omega) (eVs_rows (by have := h.2.1; omega)) trivial (fun e he => by obtain ⟨x, hx, rfl⟩ := List.mem_map.1 he; rw [unPers_eq]; exact d31 x (by have := h.2.2.2 x hx; omega))
 have h2 := dCon k34 (caps := []) trivial h1
 rw [any_V] at h2
 exact h2
theorem d35 {l : List Room} (h : l.length < 1000000) : DoesT 35 [.ro 4 (eRs l), .fn 36 []] (bv (risF none (l.map kR))) := by
 have h1 := dRises k35 (g := 36) (caps := []) (fun e => kR (unRoom e)) (by omega) rfl (eRs_rows h) trivial (fun e he => by obtain ⟨x, hx, rfl⟩ := List.mem_map.1 he; rw [unRoom_eq]; exact d36 x)
 rw [show (eRs l).map (fun e => kR (unRoom e)) = l.map kR by simp [eRs, List.map_map, Function.comp_def, unRoom_eq]] at h1
 exact h1
theorem d37 {l : List Pers} (h : l.length < 1000000) : DoesT 37 [.ro 3 (eVs l), .fn 38 []] (bv (risF none (l.map kV))) := by
 have h1 := dRises k37 (g := 38) (caps := []) (fun e => kV (unPers e)) (by omega) rfl (eVs_rows h) trivial (fun e he => by obtain ⟨x, hx, rfl⟩ := List.mem_map.1 he; rw [unPers_eq]; exact d38 x)
 rw [show (eVs l).map (fun e => kV (unPers e)) = l.map kV by simp [eVs, List.map_map, Function.comp_def, unPers_eq]] at h1
 exact h1
theorem c15 : chkFn Tryz.prog 15 27 1 a15 a15R = true := by kernel_rfl
theorem d15 (s : Sta) {n : Nat} (hn : n < 1000000) (h : FitS n s) : DoesT 15 [.agg (eS s)] (bv (mayS s)) := by
 have hl1 : s.rooms.length < 1000000 := by have := h.1; omega
 have hl2 : s.persons.length < 1000000 := by have := h.2.1; omega
 obtain ⟨A, hA⟩ : ∃ A, s.rooms.any badR = A := ⟨_, rfl⟩
 obtain ⟨B, hB⟩ : ∃ B, s.persons.any badV = B := ⟨_, rfl⟩
 have h33 := d33 hn h
 rw [hA] at h33
 have h34 := d34 hn h
 rw [hB] at h34
 refine Does.of (nt := 27) (ac := a15) (rds := a15R) c15 (fun c hc => ?_)
 unfold a15
 apply J.seq
 refine J.regE (by simp [eS]; rfl) ?_
 simp
 apply J.seq
 refine J.regE (by simp [eS]; rfl) ?_
 simp
 apply J.seq
 refine J.regE (by simp [eS]; rfl) ?_
 simp
 apply J.seq
 apply J.reg
 iterate 3 refine runL_step rfl (by simp [eS]; rfl) ?_
 refine runL_tree rfl (h33) (by simp) hc ?_
 simp
 iterate 2 refine runL_step rfl (by simp [eS]; rfl) ?_
 refine runL_if rfl (fun g10 => ?_) (fun g10 => ?_)
 ·
  try simp only [g10]
  try simp at g10
  iterate 3 refine runL_step rfl (by simp [eS]; rfl) ?_
  refine runL_do (by simp) ?_
  refine runL_tree rfl (h34) (by simp) hc ?_
  simp
  iterate 3 refine runL_step rfl (by simp [eS]; rfl) ?_
  refine runL_if rfl (fun g17 => ?_) (fun g17 => ?_)
  ·
   try simp only [g17]
   try simp at g17
   iterate 2 refine runL_step rfl (by simp [eS]; rfl) ?_
   refine runL_do (by simp) ?_
   refine runL_tree rfl (d35 hl1) (by simp) hc ?_
   simp
   iterate 2 refine runL_step rfl (by simp [eS]; rfl) ?_
   refine runL_if rfl (fun g22 => ?_) (fun g22 => ?_)
   ·
    try simp only [g22]
    try simp at g22
    iterate 2 refine runL_step rfl (by simp [eS]; rfl) ?_
    refine runL_do (by simp) ?_
    refine runL_tree rfl (d37 hl2) (by simp) hc ?_
    simp
    iterate 2 refine runL_step rfl (by simp [eS]; rfl) ?_
    simp [runL]
    apply J.ret
    refine ⟨by simp, rfl, _, [], by simp [a15R]; rfl, ?_⟩
    simp only [mayS, hA, hB]; simp [*]
   ·
    try simp only [g22]
    try simp at g22
    refine runL_step rfl (by simp [eS]; rfl) ?_
    refine runL_pass (b := _) rfl (by simp) ?_
    simp
    iterate 2 refine runL_step rfl (by simp [eS]; rfl) ?_
    simp [runL]
    apply J.ret
    refine ⟨by simp, rfl, _, [], by simp [a15R]; rfl, ?_⟩
    simp only [mayS, hA, hB]; simp [*]
  ·
   try simp only [g17]
   try simp at g17
   refine runL_step rfl (by simp [eS]; rfl) ?_
   refine runL_pass (b := _) rfl (by simp) ?_
   simp
   iterate 4 refine runL_step rfl (by simp [eS]; rfl) ?_
   refine runL_pass (b := _) rfl (by simp) ?_
   simp
   iterate 2 refine runL_step rfl (by simp [eS]; rfl) ?_
   simp [runL]
   apply J.ret
   refine ⟨by simp, rfl, _, [], by simp [a15R]; rfl, ?_⟩
   simp only [mayS, hA, hB]; simp [*]
 ·
  try simp only [g10]
  try simp at g10
  iterate 2 refine runL_step rfl (by simp [eS]; rfl) ?_
  refine runL_pass (b := _) rfl (by simp) ?_
  simp
  iterate 5 refine runL_step rfl (by simp [eS]; rfl) ?_
  refine runL_pass (b := _) rfl (by simp) ?_
  simp
  iterate 4 refine runL_step rfl (by simp [eS]; rfl) ?_
  refine runL_pass (b := _) rfl (by simp) ?_
  simp
  iterate 2 refine runL_step rfl (by simp [eS]; rfl) ?_
  simp [runL]
  apply J.ret
  refine ⟨by simp, rfl, _, [], by simp [a15R]; rfl, ?_⟩
  simp only [mayS, hA, hB]; simp [*]
noncomputable def eqB {α : Type} (x y : α) : Bool := @decide (x = y) (Classical.propDecidable _)
theorem eqB_iff {α : Type} {x y : α} : eqB x y = true ↔ x = y := by unfold eqB; simp
theorem eqB_of {α : Type} {x y : α} {b : Bool} (h : b = true ↔ x = y) : b = eqB x y := Bool.eq_iff_iff.2 (h.trans eqB_iff.symm)
theorem eqB_refl {α : Type} (x : α) : eqB x x = true := eqB_iff.2 rfl
theorem eqL_map {α : Type} {f : α → List AV} {q : List AV → List AV → Bool} (h : ∀ x y, q (f x) (f y) = true ↔ x = y) : ∀ a b : List α, eqL q (a.map f) (b.map f) = eqB a b
 | [], [] => (eqB_refl _).symm
 | [], y :: s => by refine eqB_of ?_; simp [eqL]
 | x :: r, [] => by refine eqB_of ?_; simp [eqL]
 | x :: r, y :: s => by
  refine eqB_of ?_
  simp only [List.map_cons, eqL, Bool.and_eq_true, h, eqL_map h r s, eqB_iff, List.cons.injEq]
def I57 (a b : List Int) (m : Nat) (st : St) : Prop := ∃ i : Nat, i ≤ a.length ∧ m = a.length - i ∧ sameI a b = sameI (a.drop i) (b.drop i) ∧ st = ⟨[(0, .ro 1 (ints a)), (1, .ro 1 (ints b)), (12, iv (a.length : Nat)), (13, iv (i : Nat))], [], []⟩
theorem k58 : chkFn Tryz.prog 58 26 2 (slEq 5 [1, 1, 2, 1, 0]) slEqR = true := by kernel_rfl
theorem k60 : chkFn Tryz.prog 60 26 2 (slEq 4 [1, 1, 1, 2]) slEqR = true := by kernel_rfl
theorem k61 : chkFn Tryz.prog 61 32 3 (slEqf 4 52 [iv 0, iv 0, .nils 1, .nils 5] 61008 61009) slEqfR = true := by kernel_rfl
theorem k62 : chkFn Tryz.prog 62 32 3 (slEqf 3 62 [iv 0, iv 0, .nils 4] 62008 62009) slEqfR = true := by kernel_rfl
theorem c57 : chkFn Tryz.prog 57 26 2 a57 a57R = true := by kernel_rfl
theorem d57 (a b : List Int) (ha : a.length < 1000000) (hb : b.length < 1000000) : DoesT 57 [.ro 1 (ints a), .ro 1 (ints b)] (bv (sameI a b)) := by
 refine Does.of (nt := 26) (ac := a57) (rds := a57R) c57 (fun c hc => ?_)
 unfold a57
 apply J.seq
 refine J.regE (by simp; rfl) ?_
 simp
 apply J.seq
 apply J.seq
 refine J.regE (by simp; rfl) ?_
 simp
 refine J.condB rfl (fun h10 => ?_) (fun h10 => ?_)
 ·
  simp at h10
  have hI2 : sameI a b = false := sameI_len (by omega)
  apply J.seq
  refine J.regE (by simp; rfl) ?_
  simp
  apply J.ret
  refine ⟨by simp, rfl, _, [], by simp [a57R]; rfl, ?_⟩
  simp [hI2]
 ·
  simp at h10
  have hlen : a.length = b.length := by omega
  apply J.skip; simp
  apply J.seq
  apply J.seq
  refine J.regE (by simp; rfl) ?_
  simp
  apply J.block
  refine J.loop hc (I57 a b) ?_ ?_
  ·exact ⟨_, _, St.le_refl _, 0, by omega, rfl, rfl, by simp⟩
  rintro n st ⟨i, hi, rfl, hI, rfl⟩
  apply J.seq
  refine J.regE (by simp; rfl) ?_
  simp
  apply J.seq
  apply J.cond; simp
  refine ⟨fun hlt => ?_, fun hlt => ?_⟩
  ·
   obtain ⟨y, hx, hgx, hg, hge, hdr, hw, hlt2⟩ := getI (show i < a.length by omega) ha
   obtain ⟨z, hx2, hgx2, hg2, hge2, hdr2, hw2, hlt3⟩ := getI (show i < b.length by omega) hb
   rw [hdr, hdr2] at hI
   apply J.skip; simp
   apply J.seq
   apply J.block
   apply J.seq
   refine J.regE (by simp; rfl) ?_
   simp
   apply J.seq
   apply J.draw; intro c' hc'
   iterate 9 refine runP_stepQ (by simp [hlt2, hg, hge, hlt3, hg2, hge2]; rfl) ?_
   simp [runP]
   refine J.condB rfl (fun h24 => ?_) (fun h24 => ?_)
   ·
    simp at h24
    have hI2 : sameI a b = false := by rw [hI]; simp [sameI, h24]
    apply J.seq
    refine J.regE (by simp; rfl) ?_
    simp
    apply J.ret
    refine ⟨by simp, rfl, _, [], by simp [a57R]; rfl, ?_⟩
    simp [hI2]
   ·
    simp at h24
    have hI2 : sameI a b = sameI (a.drop (i + 1)) (b.drop (i + 1)) := by rw [hI]; simp [sameI, h24]
    apply J.skip; simp
    refine J.regE (by simp [hw]; rfl) ?_
    simp
    exact ⟨_, by omega, _, St.le_refl _, i + 1, by omega, rfl, hI2, rfl⟩
  ·
   have hie : i = a.length := by omega
   subst hie
   have hI2 : sameI a b = true := by rw [hI, List.drop_length, List.drop_of_length_le (by omega)]; rfl
   apply J.exit; simp
   apply J.seq
   refine J.regE (by simp; rfl) ?_
   simp
   apply J.ret
   refine ⟨by simp, rfl, _, [], by simp [a57R]; rfl, ?_⟩
   simp [hI2]
theorem eqI (a b : List Int) : sameI a b = eqB a b := eqB_of (by rw [sameI_eq]; simp)
theorem eqP_iff {x y : Post} : P16.eqP x y = true ↔ x = y := by
 obtain ⟨a, b, t, d, e⟩ := x; obtain ⟨a', b', t', d', e'⟩ := y
 simp only [P16.eqP, Bool.and_eq_true, beq_iff_eq]
 constructor
 ·rintro ⟨rfl, rfl, h, rfl, rfl⟩
  have : t = t' := by cases t; cases t'; simp [ByteArray.toList_eq] at h ⊢; exact h
  rw [this]
 ·rintro h; injection h with h1 h2 h3 h4 h5; subst h1 h2 h3 h4 h5; simp
theorem ePs_rows {l : List Post} (h : l.length < 1000000) : SX.Rows 5 (ePs l) := ⟨fun e he => by obtain ⟨x, _, rfl⟩ := List.mem_map.1 he; rfl, fun e he => by obtain ⟨x, _, rfl⟩ := List.mem_map.1 he; rfl, by simpa [P16.ePs] using h⟩
theorem d58 (a b : List Post) (ha : a.length < 1000000) (hb : b.length < 1000000) : DoesT 58 [.ro 5 (ePs a), .ro 5 (ePs b)] (bv (eqB a b)) := by
 have h := dEq k58 (fun e f => P16.eqP (unPost e) (unPost f)) (by omega) (ePs_rows ha) (ePs_rows hb) (fun e he f hf => by obtain ⟨x, _, rfl⟩ := List.mem_map.1 he; obtain ⟨y, _, rfl⟩ := List.mem_map.1 hf; simp [P16.eP, eqA, eqv, kindV, P16.eqP, unPost])
 rw [show ePs a = a.map P16.eP from rfl, show ePs b = b.map P16.eP from rfl, eqL_map (fun x y => eqP_iff)] at h
 exact h
theorem d60 (a b : List Told) (ha : a.length < 1000000) (hb : b.length < 1000000) : DoesT 60 [.ro 4 (eTs a), .ro 4 (eTs b)] (bv (eqB a b)) := by
 have h := dEq k60 (fun e f => eqT (unTold e) (unTold f)) (by omega) (eTs_rows ha) (eTs_rows hb) (fun e he f hf => by obtain ⟨x, _, rfl⟩ := List.mem_map.1 he; obtain ⟨y, _, rfl⟩ := List.mem_map.1 hf; simp [eT, eqA, eqv, kindV, eqT, unTold])
 rw [show eTs a = a.map eT from rfl, show eTs b = b.map eT from rfl, eqL_map (fun x y => eqT_eq)] at h
 exact h
def eqR (x y : Room) : Prop := x.c.id = y.c.id ∧ x.c.owner = y.c.owner ∧ x.c.mem = y.c.mem ∧ x.posts = y.posts
theorem eqR_iff {x y : Room} : eqR x y ↔ x = y := by
 obtain ⟨⟨a, b, m⟩, p⟩ := x; obtain ⟨⟨a', b', m'⟩, p'⟩ := y
 constructor
 ·rintro ⟨h1, h2, h3, h4⟩; simp at h1 h2 h3 h4; subst h1 h2 h3 h4; rfl
 ·rintro h; injection h with h1 h2; injection h1 with h1 h3 h4; exact ⟨h1, h3, h4, h2⟩
def eqV (x y : Pers) : Prop := x.user = y.user ∧ x.w.low = y.w.low ∧ x.w.l = y.w.l
theorem eqV_iff {x y : Pers} : eqV x y ↔ x = y := by
 obtain ⟨a, b, m⟩ := x; obtain ⟨a', b', m'⟩ := y
 constructor
 ·rintro ⟨h1, h2, h3⟩; simp at h1 h2 h3; subst h1 h2 h3; rfl
 ·rintro h; injection h with h1 h2; injection h2 with h2 h3; exact ⟨h1, h2, h3⟩
theorem eqB_no {α : Type} {x y : α} (h : x ≠ y) : eqB x y = false := by
 cases h1 : eqB x y
 ·rfl
 ·exact absurd (eqB_iff.1 h1) h
theorem c56 : chkFn Tryz.prog 56 37 2 a56 a56R = true := by kernel_rfl
theorem d56 (x y : Room) {n : Nat} (hn : n < 1000000) (hx : FitR n x) (hy : FitR n y) : DoesT 56 [.agg (eR x), .agg (eR y)] (bv (eqB x y)) := by
 have px := hx.2.len
 have py := hy.2.len
 refine Does.of (nt := 37) (ac := a56) (rds := a56R) c56 (fun c hc => ?_)
 unfold a56
 apply J.seq
 refine J.regE (by simp [eR]; rfl) ?_
 simp
 apply J.seq
 apply J.reg
 iterate 8 refine runL_step rfl (by simp [eR]; rfl) ?_
 refine runL_if rfl (fun g12 => ?_) (fun g12 => ?_)
 ·
  try simp only [g12]
  try simp at g12
  iterate 9 refine runL_step rfl (by simp [eR]; rfl) ?_
  refine runL_if rfl (fun g21 => ?_) (fun g21 => ?_)
  ·
   try simp only [g21]
   try simp at g21
   iterate 6 refine runL_step rfl (by simp [eR]; rfl) ?_
   refine runL_do (by simp) ?_
   refine runL_tree rfl (d57 x.c.mem y.c.mem (by have := hx.1; omega) (by have := hy.1; omega)) (by simp) hc ?_
   simp
   iterate 2 refine runL_step rfl (by simp [eR]; rfl) ?_
   refine runL_if rfl (fun g30 => ?_) (fun g30 => ?_)
   ·
    try simp only [g30]
    try simp at g30
    iterate 4 refine runL_step rfl (by simp [eR]; rfl) ?_
    refine runL_do (by simp) ?_
    refine runL_tree rfl (d58 x.posts y.posts (by omega) (by omega)) (by simp) hc ?_
    simp
    iterate 2 refine runL_step rfl (by simp [eR]; rfl) ?_
    simp [runL]
    apply J.ret
    refine ⟨by simp, rfl, _, [], by simp [a56R]; rfl, ?_⟩
    rw [eqI, eqB_iff] at g30
    have e : eqB x.posts y.posts = eqB x y := eqB_of (eqB_iff.trans ⟨fun h => eqR_iff.1 ⟨g12, g21, g30, h⟩, fun h => by rw [h]⟩)
    simp [e]
   ·
    try simp only [g30]
    try simp at g30
    iterate 3 refine runL_step rfl (by simp [eR]; rfl) ?_
    refine runL_pass (b := _) rfl (by simp) ?_
    simp
    iterate 2 refine runL_step rfl (by simp [eR]; rfl) ?_
    simp [runL]
    apply J.ret
    refine ⟨by simp, rfl, _, [], by simp [a56R]; rfl, ?_⟩
    have e : eqB x y = false := eqB_no (fun h => by subst h; simp [eqI, eqB_refl] at *)
    simp [e]
  ·
   try simp only [g21]
   try simp at g21
   iterate 5 refine runL_step rfl (by simp [eR]; rfl) ?_
   refine runL_pass (b := _) rfl (by simp) ?_
   simp
   iterate 6 refine runL_step rfl (by simp [eR]; rfl) ?_
   refine runL_pass (b := _) rfl (by simp) ?_
   simp
   iterate 2 refine runL_step rfl (by simp [eR]; rfl) ?_
   simp [runL]
   apply J.ret
   refine ⟨by simp, rfl, _, [], by simp [a56R]; rfl, ?_⟩
   have e : eqB x y = false := eqB_no (fun h => by subst h; simp [eqI, eqB_refl] at *)
   simp [e]
 ·
  try simp only [g12]
  try simp at g12
  iterate 14 refine runL_step rfl (by simp [eR]; rfl) ?_
  refine runL_pass (b := _) rfl (by simp) ?_
  simp
  iterate 6 refine runL_step rfl (by simp [eR]; rfl) ?_
  refine runL_pass (b := _) rfl (by simp) ?_
  simp
  iterate 2 refine runL_step rfl (by simp [eR]; rfl) ?_
  simp [runL]
  apply J.ret
  refine ⟨by simp, rfl, _, [], by simp [a56R]; rfl, ?_⟩
  have e : eqB x y = false := eqB_no (fun h => by subst h; simp [eqI, eqB_refl] at *)
  simp [e]
theorem c59 : chkFn Tryz.prog 59 28 2 a59 a59R = true := by kernel_rfl
theorem d59 (x y : Pers) (hx : x.w.l.length < 1000000) (hy : y.w.l.length < 1000000) : DoesT 59 [.agg (eV x), .agg (eV y)] (bv (eqB x y)) := by
 refine Does.of (nt := 28) (ac := a59) (rds := a59R) c59 (fun c hc => ?_)
 unfold a59
 apply J.seq
 refine J.regE (by simp [eV]; rfl) ?_
 simp
 apply J.seq
 apply J.reg
 iterate 6 refine runL_step rfl (by simp [eV]; rfl) ?_
 refine runL_if rfl (fun g10 => ?_) (fun g10 => ?_)
 ·
  try simp only [g10]
  try simp at g10
  iterate 9 refine runL_step rfl (by simp [eV]; rfl) ?_
  refine runL_if rfl (fun g19 => ?_) (fun g19 => ?_)
  ·
   try simp only [g19]
   try simp at g19
   iterate 6 refine runL_step rfl (by simp [eV]; rfl) ?_
   refine runL_do (by simp) ?_
   refine runL_tree rfl (d60 x.w.l y.w.l hx hy) (by simp) hc ?_
   simp
   iterate 2 refine runL_step rfl (by simp [eV]; rfl) ?_
   simp [runL]
   apply J.ret
   refine ⟨by simp, rfl, _, [], by simp [a59R]; rfl, ?_⟩
   have e : eqB x.w.l y.w.l = eqB x y := eqB_of (eqB_iff.trans ⟨fun h => eqV_iff.1 ⟨g10, g19, h⟩, fun h => by rw [h]⟩)
   simp [e]
  ·
   try simp only [g19]
   try simp at g19
   iterate 5 refine runL_step rfl (by simp [eV]; rfl) ?_
   refine runL_pass (b := _) rfl (by simp) ?_
   simp
   iterate 2 refine runL_step rfl (by simp [eV]; rfl) ?_
   simp [runL]
   apply J.ret
   refine ⟨by simp, rfl, _, [], by simp [a59R]; rfl, ?_⟩
   have e : eqB x y = false := eqB_no (fun h => by subst h; simp [eqI, eqB_refl] at *)
   simp [e]
 ·
  try simp only [g10]
  try simp at g10
  iterate 14 refine runL_step rfl (by simp [eV]; rfl) ?_
  refine runL_pass (b := _) rfl (by simp) ?_
  simp
  iterate 2 refine runL_step rfl (by simp [eV]; rfl) ?_
  simp [runL]
  apply J.ret
  refine ⟨by simp, rfl, _, [], by simp [a59R]; rfl, ?_⟩
  have e : eqB x y = false := eqB_no (fun h => by subst h; simp [eqI, eqB_refl] at *)
  simp [e]
def sameS (a b : Sta) : Prop := a = b
theorem eRs_eq (l : List Room) : eRs l = l.map eR := rfl
theorem eVs_eq (l : List Pers) : eVs l = l.map eV := rfl
theorem d61 {a b : List Room} {n : Nat} (hn : n < 1000000) (la : a.length < 1000000) (lb : b.length < 1000000) (ha : ∀ r ∈ a, FitR n r) (hb : ∀ r ∈ b, FitR n r) : DoesT 61 [.ro 4 (eRs a), .ro 4 (eRs b), .fn 56 []] (bv (eqB a b)) := by
 have h := dEqf k61 (g := 56) (caps := []) (fun e f => eqB (unRoom e) (unRoom f)) (by omega) (by omega) rfl (eRs_rows la) (eRs_rows lb) trivial (fun e he f hf => by obtain ⟨x, hx, rfl⟩ := List.mem_map.1 he; obtain ⟨y, hy, rfl⟩ := List.mem_map.1 hf; rw [unRoom_eq, unRoom_eq]; exact d56 x y hn (ha x hx) (hb y hy))
 rw [eRs_eq, eRs_eq, eqL_map (fun x y => by rw [unRoom_eq, unRoom_eq]; exact eqB_iff)] at h
 exact h
theorem d62 {a b : List Pers} (la : a.length < 1000000) (lb : b.length < 1000000) (ha : ∀ p ∈ a, p.w.l.length < 1000000) (hb : ∀ p ∈ b, p.w.l.length < 1000000) : DoesT 62 [.ro 3 (eVs a), .ro 3 (eVs b), .fn 59 []] (bv (eqB a b)) := by
 have h := dEqf k62 (g := 59) (caps := []) (fun e f => eqB (unPers e) (unPers f)) (by omega) (by omega) rfl (eVs_rows la) (eVs_rows lb) trivial (fun e he f hf => by obtain ⟨x, hx, rfl⟩ := List.mem_map.1 he; obtain ⟨y, hy, rfl⟩ := List.mem_map.1 hf; rw [unPers_eq, unPers_eq]; exact d59 x y (ha x hx) (hb y hy))
 rw [eVs_eq, eVs_eq, eqL_map (fun x y => by rw [unPers_eq, unPers_eq]; exact eqB_iff)] at h
 exact h
theorem FitS.l1 {n : Nat} (hn : n < 1000000) {s : Sta} (h : FitS n s) : s.rooms.length < 1000000 := by have := h.1; omega
theorem FitS.l2 {n : Nat} (hn : n < 1000000) {s : Sta} (h : FitS n s) : s.persons.length < 1000000 := by have := h.2.1; omega
theorem FitS.p {n : Nat} (hn : n < 1000000) {s : Sta} (h : FitS n s) : ∀ p ∈ s.persons, p.w.l.length < 1000000 := fun p hp => by have := h.2.2.2 p hp; omega
theorem sta_iff {a b : Sta} : a = b ↔ a.rooms = b.rooms ∧ a.persons = b.persons := by
 obtain ⟨r, p⟩ := a; obtain ⟨r', p'⟩ := b; simp
theorem c20 : chkFn Tryz.prog 20 21 2 a20 a20R = true := by kernel_rfl
theorem d20 (a b : Sta) {n : Nat} (hn : n < 1000000) (ha : FitS n a) (hb : FitS n b) : DoesT 20 [.agg (eS a), .agg (eS b)] (bv (eqB a b)) := by
 refine Does.of (nt := 21) (ac := a20) (rds := a20R) c20 (fun c hc => ?_)
 unfold a20
 apply J.seq
 refine J.regE (by simp [eS]; rfl) ?_
 simp
 apply J.seq
 refine J.regE (by simp [eS]; rfl) ?_
 simp
 apply J.seq
 refine J.regE (by simp [eS]; rfl) ?_
 simp
 apply J.seq
 apply J.reg
 iterate 5 refine runL_step rfl (by simp [eS]; rfl) ?_
 refine runL_tree rfl (d61 hn (ha.l1 hn) (hb.l1 hn) ha.2.2.1 hb.2.2.1) (by simp) hc ?_
 simp
 refine runL_step rfl (by simp [eS]; rfl) ?_
 refine runL_if rfl (fun g13 => ?_) (fun g13 => ?_)
 ·
  try simp only [g13]
  try simp at g13
  iterate 5 refine runL_step rfl (by simp [eS]; rfl) ?_
  refine runL_do (by simp) ?_
  refine runL_tree rfl (d62 (ha.l2 hn) (hb.l2 hn) (ha.p hn) (hb.p hn)) (by simp) hc ?_
  simp
  iterate 2 refine runL_step rfl (by simp [eS]; rfl) ?_
  simp [runL]
  apply J.ret
  refine ⟨by simp, rfl, _, [], by simp [a20R]; rfl, ?_⟩
  rw [eqB_iff] at g13
  have e : eqB a.persons b.persons = eqB a b := eqB_of (eqB_iff.trans (by rw [sta_iff]; simp [g13]))
  simp [e]
 ·
  try simp only [g13]
  try simp at g13
  iterate 4 refine runL_step rfl (by simp [eS]; rfl) ?_
  refine runL_pass (b := _) rfl (by simp) ?_
  simp
  iterate 2 refine runL_step rfl (by simp [eS]; rfl) ?_
  simp [runL]
  apply J.ret
  refine ⟨by simp, rfl, _, [], by simp [a20R]; rfl, ?_⟩
  have e : eqB a b = false := eqB_no (fun h => by subst h; simp [eqB_refl] at *)
  simp [e]
end Go.Proofs.YtadbdchbdjkcdaaGreatDoor.F
