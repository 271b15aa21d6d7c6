/- Chapter 16: posts, told; the iterator posts.there$1. -/
import Derived.Test.YtifpfpiljionmaaDoorSxV
import Derived.Test.YtifpfpiljionmaaDoorCode
import Derived.Test.YtifpfpiljionmaaDoorProg
import Derived.KernelRfl
set_option linter.unusedVariables false
set_option linter.unusedSimpArgs false
namespace Go.Proofs.YtifpfpiljionmaaDoor.F
open Go Go.SX

structure Post where
  no : Int
  user : Int
  text : ByteArray
  edits : Int
  gone : Bool

abbrev sv (s : ByteArray) : AV := .lit (.string s)
def eP (x : Post) : List AV := [iv x.no, iv x.user, sv x.text, iv x.edits, bv x.gone]
def ePs (l : List Post) : List (List AV) := l.map eP
theorem ePs_length (l : List Post) : (ePs l).length = l.length := by simp [ePs]
theorem ePs_get (l : List Post) (i : Nat) : (ePs l)[i]? = (l[i]?).map eP := by simp [ePs]

/-- A memory in which every reference leads to what it names. -/
def WF (m : Mem) : Prop := (∀ p ∈ m, SX.look m p.1 = some p.2) ∧ ∀ p ∈ m, p.2.refs (fun b => (SX.look m b).isSome)

theorem c41 : chkFn Tryd.prog 41 30 3 a41 [] = true := by kernel_rfl

/-- What may be read of the rows that are ranged over. -/
def RowIn (bL bF : Nat) (sl : AV) (es : List Post) (frm : Int) (m : Mem) : Prop :=
  WF m ∧ SX.look m 41005 = none ∧ SX.look m bL = some (.obj 22 [sl]) ∧ SX.look m bF = some (.obj 3 [iv frm]) ∧
    (sl = .ro 5 (ePs es) ∨ ∃ bR, sl = .own bR 5 0 es.length ∧ SX.look m bR = some (.arr 33 5 (ePs es)))

def inv41 (bL bF : Nat) (sl : AV) (es : List Post) (l : Nat) (fixed : List Nat) (Inv : Nat → Mem → Prop) (n : Nat) (s : St) : Prop :=
  ∃ i m, i ≤ es.length ∧ n = es.length - i ∧ Inv i m ∧ s = ⟨[(0, .lit (.func (.yield l) #[] #[])), (2, .ptr bF 0 0 0), (6, sl), (7, iv (es.length : Nat)), (8, iv (i : Nat))], m, fixed⟩

theorem next41 {bL bF : Nat} {sl : AV} {es : List Post} {fixed : List Nat} {l : Nat} {Inv : Nat → Mem → Prop} {c : Ctx} {E : Ex} {Q : Exit → St → Ex → Prop} (hstd : c.A = c.B) (hes : es.length ≤ 9223372036854775807) {i : Nat} (hi' : i < es.length) {m' : Mem} (hm' : Inv (i + 1) m') :
    JH Tryd.prog 30 c a41r4 ⟨[(0, .lit (.func (.yield l) #[] #[])), (2, .ptr bF 0 0 0), (6, sl), (7, iv (es.length : Nat)), (8, iv (i : Nat))], m', fixed⟩ E (loopH (inv41 bL bF sl es l fixed Inv) (es.length - i) E Q) := by
  refine JH.of hstd (fun c' hc' => ?_)
  have hw : IntKind.i64.wrap ((i : Int) + 1) = (i : Int) + 1 := wrap_id (by omega) (by omega)
  refine J.regE (by simp [hw]; rfl) ?_
  exact ⟨rfl, es.length - (i + 1), _, by omega, St.le_refl _, i + 1, m', by omega, rfl, hm', by simp⟩

theorem body41 {bL bF : Nat} {sl : AV} {es : List Post} {frm : Int} {fixed : List Nat} {body : Mem → List AV → (Exit → Mem → Prop) → Prop} {K : Exit → Mem → Prop} {Inv : Nat → Mem → Prop} {c : Ctx} {l : Nat} {Ej : Option Code → Ex} {i : Nat} {x : Post} {m : Mem} {B1 : Blk} (hstd : c.A = c.B) (hes : es.length ≤ 9223372036854775807)
    (hbF : bF ∈ fixed) (hsl : refsIn (fun b => b ∈ fixed) sl) (hnf : ¬ 41005 ∈ fixed) (hwf : WF m) (hn5 : SX.look m 41005 = none) (hF : SX.look m bF = some (.obj 3 [iv frm])) (hfx0 : ∀ b ∈ fixed, (SX.look m b).isSome) (hi' : i < es.length) (hx : es[i]? = some x) (hm : Inv i m)
    (hR : ∀ m xs KB, body m xs KB → Rounds Tryd.prog c l (Ej none) m fixed xs fun b m' E' => ∃ e j, jumpOf e = some j ∧ b = j.isNone ∧ KB e m' ∧ E' = Ej j)
    (hpass : x.gone = true ∨ x.no < frm → Inv i m → Inv (i + 1) m)
    (hround : x.gone = false → frm ≤ x.no → Inv i m → ∃ KB, body m [iv (i : Nat), .agg (eP x)] KB ∧ (∀ m', KB .normal m' → Inv (i + 1) m') ∧ ∀ e m', e ≠ .normal → KB e m' → K e m') :
    JH Tryd.prog 30 c (.seq a41r3 (.cond (.s 28) .ret .skip)) ⟨[(0, .lit (.func (.yield l) #[] #[])), (2, .ptr bF 0 0 0), (6, sl), (7, iv (es.length : Nat)), (8, iv (i : Nat)), (5, .ptr 41005 0 0 0), (4, iv (i : Nat))], upd (upd m 41005 B1) 41005 (.obj 33 [iv x.no, iv x.user, sv x.text, iv x.edits, bv x.gone]), fixed⟩ (Ej none)
      (blockH 1 (thenH Tryd.prog 30 c a41r4 (loopH (inv41 bL bF sl es l fixed Inv) (es.length - i) (Ej none) (blockH 0 fun e s E => (e = .normal ∨ e = .ret) ∧ s.fixed = fixed ∧ ∃ e' j, jumpOf e' = some j ∧ E = Ej j ∧ K e' s.mem)))) := by
  have hb5 : bF ≠ 41005 := fun h => hnf (h ▸ hbF)
  have hsl' := refs_imp (T := fun b => (SX.look m b).isSome = true) (fun b hb => hfx0 b hb) _ hsl
  have hmm : ∀ (B1 B2 : Blk) (p : Nat × Blk), p ∈ m → SX.look (upd (upd m 41005 B1) 41005 B2) p.1 = some p.2 := fun B1 B2 p hp => by
    have h1 := hwf.1 p hp
    have h2 : p.1 ≠ 41005 := fun h => by rw [h, hn5] at h1; cases h1
    simp [look_upd, h2, h1]
  apply JH.seq
  by_cases hg1 : x.gone = false ∧ frm ≤ x.no
  · obtain ⟨hg1, hg2⟩ := hg1
    obtain ⟨KB, hbody, hKn, hKx⟩ := hround hg1 hg2 hm
    refine JH.regY hstd 13 rfl (fun s => s = ?sX) ?h1 ?h2
    case h1 =>
      intro c' hc'
      show runL _ _ _ [_, _, _, _, _, _, _, _, _, _, _, _, _] _ _
      iterate 13 refine runL_step rfl (by simp [look_upd, hF, hg1, hg2, hb5]; rfl) ?_
      exact rfl
    case h2 =>
      intro s1 hs1
      subst hs1
      refine .inr ⟨fun s want h => (by injection h with h; injection h with h1 h2; subst h1; subst h2; rfl), l, [iv (i : Nat), .agg (eP x)], _, ⟨[(0, .lit (.func (.yield l) #[] #[])), (2, .ptr bF 0 0 0), (6, sl), (7, iv (es.length : Nat)), (8, iv (i : Nat)), (22, bv true), (23, .lit (.func (.yield l) #[] #[])), (24, iv (i : Nat)), (25, .agg (eP x))], m, fixed⟩, ?_, rfl, rfl, hR m _ KB hbody, [0, 2, 6, 7, 8, 22], ?_, ?_⟩
      · refine le_sub (by simp [eP, hg1]) (hmm _ _) ?_ hwf.2 rfl hfx0
        simp [hF, eP]
        exact hsl'
      · simp [hbF]
        exact hsl
      · rintro b m' E' ⟨e, j, hj, rfl, hKB, rfl⟩ c' hc'
        show runL _ _ _ [_, _] _ _
        iterate 2 refine runL_step rfl (by simp; rfl) ?_
        simp [runL]
        show JH _ _ _ _ _ _ _
        refine JH.cond ⟨!j.isNone, by simp, fun hb => ?_, fun hb => ?_⟩
        · refine JH.of hstd (fun c' hc' => ?_)
          apply J.ret
          refine ⟨.inr rfl, rfl, e, j, hj, rfl, hKx e m' (fun he => ?_) hKB⟩
          subst he; injection hj with hj; subst hj; simp at hb
        · have hj0 : j = none := by cases j <;> simp_all
          subst hj0
          have he : e = .normal := by cases e <;> simp_all [jumpOf]
          subst he
          refine JH.of hstd (fun c' hc' => ?_)
          apply J.skip
          show JH _ _ _ _ _ _ _
          refine JH.le hstd (le_slots (s := [(0, .lit (.func (.yield l) #[] #[])), (2, .ptr bF 0 0 0), (6, sl), (7, iv (es.length : Nat)), (8, iv (i : Nat))]) ?_) (next41 hstd hes hi' (hKn m' hKB))
          intro d y h
          simp only [SX.look] at h ⊢
          repeat' split at h
          all_goals simp_all
  · have hm' : Inv (i + 1) m := hpass (by cases hgn : x.gone <;> simp_all) hm
    cases hgn : x.gone
    · have hlt : ¬ frm ≤ x.no := fun h => hg1 ⟨hgn, h⟩
      refine JH.regY hstd 13 rfl (fun s => s = ?sY) ?h1 ?h2
      case h1 =>
        intro c' hc'
        show runL _ _ _ [_, _, _, _, _, _, _, _, _, _, _, _, _] _ _
        iterate 13 refine runL_step rfl (by simp [look_upd, hF, hb5, hlt]; rfl) ?_
        exact rfl
      case h2 =>
        intro s1 hs1
        subst hs1
        refine .inl ⟨22, true, some false, rfl, rfl, by simp, fun c' hc' => ?_⟩
        show runL _ _ _ [_, _] _ _
        iterate 2 refine runL_step rfl (by simp; rfl) ?_
        simp [runL]
        show JH _ _ _ _ _ _ _
        refine JH.cond ⟨false, by simp, fun hb => (by cases hb), fun hb => ?_⟩
        refine JH.of hstd (fun c' hc' => ?_)
        apply J.skip
        show JH _ _ _ _ _ _ _
        refine JH.le hstd (le_sub (st' := ⟨[(0, .lit (.func (.yield l) #[] #[])), (2, .ptr bF 0 0 0), (6, sl), (7, iv (es.length : Nat)), (8, iv (i : Nat))], m, fixed⟩) (by simp) (hmm _ _) ?_ hwf.2 rfl hfx0) (next41 hstd hes hi' hm')
        simp [hF]
        exact hsl'
    · skip
      refine JH.regY hstd 13 rfl (fun s => s = ?sZ) ?h1 ?h2
      case h1 =>
        intro c' hc'
        show runL _ _ _ [_, _, _, _, _, _, _, _, _, _, _, _, _] _ _
        iterate 13 refine runL_step rfl (by simp [look_upd, hF, hb5]; rfl) ?_
        exact rfl
      case h2 =>
        intro s1 hs1
        subst hs1
        refine .inl ⟨22, true, some false, rfl, rfl, by simp, fun c' hc' => ?_⟩
        show runL _ _ _ [_, _] _ _
        iterate 2 refine runL_step rfl (by simp; rfl) ?_
        simp [runL]
        show JH _ _ _ _ _ _ _
        refine JH.cond ⟨false, by simp, fun hb => (by cases hb), fun hb => ?_⟩
        refine JH.of hstd (fun c' hc' => ?_)
        apply J.skip
        show JH _ _ _ _ _ _ _
        refine JH.le hstd (le_sub (st' := ⟨[(0, .lit (.func (.yield l) #[] #[])), (2, .ptr bF 0 0 0), (6, sl), (7, iv (es.length : Nat)), (8, iv (i : Nat))], m, fixed⟩) (by simp) (hmm _ _) ?_ hwf.2 rfl hfx0) (next41 hstd hes hi' hm')
        simp [hF]
        exact hsl'

theorem it41 {bL bF : Nat} {sl : AV} {es : List Post} {frm : Int} {fixed : List Nat} {m0 : Mem} {body : Mem → List AV → (Exit → Mem → Prop) → Prop} {K : Exit → Mem → Prop} (Inv : Nat → Mem → Prop) (hes : es.length ≤ 9223372036854775807)
    (hbF : bF ∈ fixed) (hsl : refsIn (fun b => b ∈ fixed) sl) (hnf : 41005 ∉ fixed) (h0 : Inv 0 m0) (hInv : ∀ i m, Inv i m → RowIn bL bF sl es frm m ∧ ∀ b ∈ fixed, (SX.look m b).isSome)
    (hpass : ∀ i x m, es[i]? = some x → (x.gone = true ∨ x.no < frm) → Inv i m → Inv (i + 1) m)
    (hround : ∀ i x m, es[i]? = some x → x.gone = false → frm ≤ x.no → Inv i m → ∃ KB, body m [iv (i : Nat), .agg (eP x)] KB ∧ (∀ m', KB .normal m' → Inv (i + 1) m') ∧ ∀ e m', e ≠ .normal → KB e m' → K e m')
    (hend : ∀ m, Inv es.length m → K .normal m) : IterOK Tryd.prog 41 [.ptr bL 0 0 0, .ptr bF 0 0 0] fixed m0 body K := by
  refine ⟨30, a41, c41, fun c l Ej hstd hds hR => ?_⟩
  obtain ⟨⟨hwf, hn5, hL, hF, hrow⟩, hfx0⟩ := hInv 0 m0 h0
  have hlen : ∀ w Own ρ v, VRel w Own ρ sl v → True := fun _ _ _ _ _ => trivial
  unfold a41
  apply JH.seq
  refine JH.of hstd (fun c' hc' => ?_)
  rcases hrow with h | ⟨bR, h, hbR⟩
  all_goals subst h
  all_goals
    refine J.regE (by simp [hL, ePs_length]; rfl) ?_
    simp
    apply JH.block
    refine JH.loop hstd (inv41 bL bF _ es l fixed Inv) ⟨_, _, St.le_refl _, 0, m0, Nat.zero_le _, rfl, h0, rfl⟩ (fun n st hI => ?_)
    obtain ⟨i, m, hi, rfl, hm, rfl⟩ := hI
    obtain ⟨⟨hwf, hn5, hL, hF, hrow⟩, hfx0⟩ := hInv i m hm
    unfold a41L1
    apply JH.seq
    refine JH.of hstd (fun c' hc' => ?_)
    refine J.regE (by simp; rfl) ?_
    simp
    apply JH.seq
    refine JH.cond ⟨decide (i < es.length), by simp, fun hb => ?_, fun hb => ?_⟩
    rotate_left
    · have he : i = es.length := by simp at hb; omega
      subst he
      refine JH.of hstd (fun c' hc' => ?_)
      apply J.exit
      exact ⟨.inl rfl, rfl, .normal, none, rfl, rfl, hend m hm⟩
    refine JH.of hstd (fun c' hc' => ?_)
    apply J.skip
    show JH _ _ _ _ _ _ _
    have hi' : i < es.length := by simpa using hb
    obtain ⟨x, hx⟩ : ∃ x, es[i]? = some x := ⟨_, List.getElem?_eq_getElem hi'⟩
    apply JH.seq
    apply JH.block
    apply JH.seq
    refine JH.of hstd (fun c' hc' => ?_)
    apply J.reg
    have hg : (ePs es)[i]? = some (eP x) := by rw [ePs_get, hx]; rfl
    have hle : (ePs es).length = es.length := ePs_length es
    have hge : ∀ h, (ePs es)[i]'h = eP x := fun h => by simpa [List.getElem?_eq_getElem h] using hg
    have hgx : ∀ h, es[i]'h = x := fun h => by simpa [List.getElem?_eq_getElem h] using hx
    try simp at hrow
    iterate 3 refine runL_step rfl (by first | (simp [hle, hi', hg, hge, hgx, hx, eP, hrow]; rfl) | (simp [hle, hi', hg, hge, hgx, hx, eP]; rfl)) ?_
    iterate 3 refine runL_step rfl (by simp [hn5, hnf, look_upd]; rfl) ?_
    simp [runL]
    exact body41 hstd hes hbF hsl hnf hwf hn5 hF hfx0 hi' hx hm hR (hpass i x m hx) (hround i x m hx)

end Go.Proofs.YtifpfpiljionmaaDoor.F
