/- Chapter 16: PostsDo, PostsTell, PostsOwn. Printed by walk.py from w16.walk.py. -/
import Derived.Test.YtifpfpiljionmaaDoorW15
set_option linter.unusedVariables false
set_option linter.unusedSimpArgs false
namespace Go.Proofs.YtifpfpiljionmaaDoor.F
open Go Go.SX

theorem fewR_all : ∀ {l : List Post}, fewR l = true → ∀ x ∈ l, x.text.size ≤ 200
  | [], _, x, hx => by simp at hx
  | y :: r, h, x, hx => by
    simp only [fewR, Bool.and_eq_true, decide_eq_true_eq] at h
    rcases List.mem_cons.1 hx with rfl | hx
    · exact h.1
    · exact fewR_all h.2 x hx
theorem few_fit {l : List Post} (h : fewP l = true) : Fit l := by
  simp only [fewP, Bool.and_eq_true, decide_eq_true_eq] at h
  exact ⟨by omega, fun x hx => by have := fewR_all h.2 x hx; omega⟩
theorem few_len {l : List Post} (h : fewP l = true) : l.length ≤ 50 := by
  simp only [fewP, Bool.and_eq_true, decide_eq_true_eq] at h; exact h.1
theorem eqP_refl (x : Post) : eqP x x = true := by simp [eqP]
theorem sameR_refl : ∀ l : List Post, sameR l l = true
  | [] => rfl
  | x :: r => by simp [sameR, eqP_refl, sameR_refl r]
theorem sameP_refl (l : List Post) : sameP l l = true := by simp [sameP, sameR_refl]

theorem mayFrom_weak {p : Option Int} {l : List Post} (h : mayFrom p l = true) : mayFrom none l = true := by
  cases l with
  | nil => rfl
  | cons x r => simp only [mayFrom, Bool.and_eq_true] at h ⊢; exact ⟨⟨h.1.1, trivial⟩, h.2⟩
theorem mayFrom_drop : ∀ {k : Nat} {l : List Post}, mayFrom none l = true → mayFrom none (l.drop k) = true
  | 0, l, h => h
  | k + 1, [], h => rfl
  | k + 1, x :: r, h => by
    simp only [mayFrom, Bool.and_eq_true] at h
    exact mayFrom_drop (k := k) (mayFrom_weak h.2)
theorem mayFrom_set {x y : Post} (hn : y.no = x.no) (hy : mayP y = true) : ∀ {l : List Post} {i : Nat} {p : Option Int}, l[i]? = some x → mayFrom p l = true → mayFrom p (l.set i y) = true
  | [], i, p, hx, _ => by simp at hx
  | z :: r, 0, p, hx, h => by
    simp at hx; subst hx
    simp only [List.set_cons_zero, mayFrom, Bool.and_eq_true] at h ⊢
    rw [hn]
    exact ⟨⟨hy, h.1.2⟩, h.2⟩
  | z :: r, i + 1, p, hx, h => by
    simp only [List.set_cons_succ, mayFrom, Bool.and_eq_true] at h ⊢
    exact ⟨h.1, mayFrom_set hn hy (by simpa using hx) h.2⟩
theorem mayFrom_snoc {y : Post} (hy : mayP y = true) : ∀ {l : List Post} {p : Option Int}, mayFrom p l = true → (match l.getLast? with | some x => y.no = x.no + 1 | none => ∀ q, p = some q → y.no = q + 1) → mayFrom p (l ++ [y]) = true
  | [], p, _, hl => by
    cases p with
    | none => simp [mayFrom, hy]
    | some q => simp at hl; simp [mayFrom, hy, hl]
  | [x], p, h, hl => by
    simp only [List.getLast?_singleton] at hl
    simp only [List.cons_append, List.nil_append, mayFrom, Bool.and_eq_true, beq_iff_eq] at h ⊢
    exact ⟨h.1, ⟨hy, hl⟩, trivial⟩
  | x :: z :: r, p, h, hl => by
    have h0 := h
    simp only [mayFrom, Bool.and_eq_true] at h0
    have ih := mayFrom_snoc hy (l := z :: r) (p := some x.no) (by simp only [mayFrom, Bool.and_eq_true]; exact h0.2) (by
      rw [List.getLast?_cons_cons] at hl
      have hne : (z :: r).getLast? ≠ none := by simp
      cases hg : (z :: r).getLast? with
      | none => exact absurd hg hne
      | some q => rw [hg] at hl; exact hl)
    simp only [List.cons_append, mayFrom, Bool.and_eq_true] at ih ⊢
    exact ⟨h0.1, ih⟩
theorem mayPs_nil : mayPs [] = true := rfl
theorem mayP_text {x : Post} (h : mayP x = true) : 1 ≤ x.no ∧ x.no ≤ 1073741824 ∧ 1 ≤ x.user ∧ x.user ≤ 1048576 ∧ 0 ≤ x.edits ∧ x.edits ≤ 1073741824 := by
  simp only [mayP, btw, Bool.and_eq_true, decide_eq_true_eq] at h
  exact ⟨h.1.1.2.1, h.1.1.2.2, h.1.2.1, h.1.2.2, h.2.1, h.2.2⟩
theorem mayPs_fair (l : List Post) : mayPs (fairL l) = true := by
  unfold fairL; split
  · assumption
  · rfl
theorem mayPs_set {l : List Post} {i : Nat} {x y : Post} (hx : (fairL l)[i]? = some x) (hn : y.no = x.no) (hy : mayP y = true) : mayPs ((fairL l).set i y) = true := by
  have h1 := fairL_from l
  have h2 := fairL_len l
  simp only [mayPs, Bool.and_eq_true, decide_eq_true_eq, List.length_set]
  exact ⟨mayFrom_set hn hy hx h1, h2⟩
theorem noT_nil : noT ⟨#[]⟩ = true := by kernel_rfl
theorem mayP_edit {x : Post} {s : ByteArray} (hx : mayP x = true) (hg : x.gone = false) (hs : Tryd.mayR s = true) (he : ¬ 1073741824 ≤ x.edits) : mayP { x with text := s, edits := x.edits + 1 } = true := by
  have h := mayP_text hx
  simp [mayP, btw, hg, mayR_noT hs, hs]
  omega
theorem mayP_del {x : Post} (hx : mayP x = true) : mayP { x with text := ⟨#[]⟩, gone := true } = true := by
  have h := mayP_text hx
  simp [mayP, btw, noT_nil]
  omega
theorem mayPs_edit (l : List Post) (no user : Int) (s : ByteArray) : mayPs (editP l no user s).1 = true := by
  unfold editP
  split
  · rfl
  · rename_i hs
    split
    · rfl
    · rename_i i x hst
      obtain ⟨_, hx, hno, hg⟩ := stopAt_get hst
      simp only [Nat.sub_zero] at hx
      split
      · rename_i he
        unfold dofE at he ⊢
        split at he <;> rename_i h1
        · simp at he
        · split at he <;> rename_i h2
          · simp at he
          · rw [if_neg h1, if_neg h2]
            exact mayPs_set hx rfl (mayP_edit (fairL_may x (List.mem_of_getElem? hx)) hg (by simpa using hs) h2)
      · rfl
theorem mayPs_del (l : List Post) (no user owner : Int) : mayPs (delP l no user owner).1 = true := by
  unfold delP
  split
  · rfl
  · rename_i i x hst
    obtain ⟨_, hx, hno, hg⟩ := stopAt_get hst
    simp only [Nat.sub_zero] at hx
    split
    · rename_i he
      unfold dofD at he ⊢
      split at he <;> rename_i h1
      · simp at he
      · rw [if_neg h1]
        exact mayPs_set hx rfl (mayP_del (fairL_may x (List.mem_of_getElem? hx)))
    · rfl
theorem last_new (l : List Post) : match (fairL l).getLast? with | some x => lastP l + 1 = x.no + 1 | none => lastP l = 0 := by
  unfold lastP
  cases (fairL l).getLast? <;> rfl
theorem mayFrom_add (l : List Post) (user : Int) (s : ByteArray) (hu : btw user 1 1048576 = true) (hs : Tryd.mayR s = true) (hl : ¬ 1073741824 ≤ lastP l) : mayFrom none (fairL l ++ [⟨lastP l + 1, user, s, 0, false⟩]) = true := by
  have hb := lastP_bd l
  refine mayFrom_snoc ?_ (fairL_from l) ?_
  · have h1 : btw (lastP l + 1) 1 1073741824 = true := by simp [btw]; omega
    simp [mayP, hu, mayR_noT hs, hs, h1]
    simp [btw]
  · have := last_new l
    cases hg : (fairL l).getLast? with
    | none => simp
    | some x => rw [hg] at this; exact this
theorem mayPs_add (l : List Post) (user : Int) (s : ByteArray) : mayPs (addP l user s).1 = true := by
  unfold addP
  split
  · rfl
  · rename_i h1
    split
    · rfl
    · rename_i h2
      have hm := mayFrom_add l user s (by simp only [not_or] at h1; simpa using h1.1) (by simp only [not_or] at h1; simpa using h1.2) h2
      have hlen := fairL_len l
      simp only [mayPs, Bool.and_eq_true, decide_eq_true_eq, List.length_drop]
      exact ⟨mayFrom_drop hm, by omega⟩
theorem mayPs_does (l : List Post) (o : POp) : mayPs (doesP l o).1 = true := by
  unfold doesP
  split
  · exact mayPs_add ..
  · split
    · exact mayPs_edit ..
    · exact mayPs_del ..
theorem pageR_len {frm many : Int} : ∀ (l pg : List Post), (pageR frm many l pg).1.length ≤ pg.length + l.length
  | [], pg => by simp [pageR]
  | x :: r, pg => by
    simp only [pageR]
    split
    · split
      · simp
      · have := pageR_len (frm := frm) (many := many) r (pg ++ [x]); simp at this ⊢; omega
    · have := pageR_len (frm := frm) (many := many) r pg; simp at this ⊢; omega
theorem fair_mem {l : List Post} {x : Post} (hx : x ∈ fairL l) : x ∈ l := by
  unfold fairL at hx; split at hx
  · exact hx
  · simp at hx
theorem does_small {l : List Post} {o : POp} {B : Nat} (hl : ∀ x ∈ l, x.text.size ≤ B) (ho : o.text.size ≤ B) : ∀ x ∈ (doesP l o).1, x.text.size ≤ B := by
  have hset : ∀ {i : Nat} {y x : Post}, y.text.size ≤ B → x ∈ (fairL l).set i y → x.text.size ≤ B := fun hy hx => by
    rcases List.mem_or_eq_of_mem_set hx with h | h
    · exact hl _ (fair_mem h)
    · rw [h]; exact hy
  intro x hx
  unfold doesP at hx
  split at hx
  · unfold addP at hx
    split at hx
    · simp at hx
    · split at hx
      · simp at hx
      · have := List.mem_of_mem_drop hx
        rcases List.mem_append.1 this with h | h
        · exact hl _ (fair_mem h)
        · simp at h; subst h; exact ho
  · split at hx
    · unfold editP at hx
      split at hx
      · simp at hx
      · split at hx
        · simp at hx
        · rename_i i z hst
          split at hx
          · refine hset ?_ hx
            unfold dofE
            obtain ⟨_, hz, _⟩ := stopAt_get hst
            split
            · exact hl _ (fair_mem (List.mem_of_getElem? hz))
            · split
              · exact hl _ (fair_mem (List.mem_of_getElem? hz))
              · exact ho
          · simp at hx
    · unfold delP at hx
      split at hx
      · simp at hx
      · rename_i i z hst
        split at hx
        · refine hset ?_ hx
          unfold dofD
          obtain ⟨_, hz, _⟩ := stopAt_get hst
          split
          · exact hl _ (fair_mem (List.mem_of_getElem? hz))
          · exact Nat.zero_le _
        · simp at hx
theorem does_fit {l : List Post} {o : POp} (hl : ∀ x ∈ l, x.text.size ≤ 100000) (ho : o.text.size ≤ 100000) : Fit (doesP l o).1 :=
  ⟨by have h := mayPs_does l o; simp only [mayPs, Bool.and_eq_true, decide_eq_true_eq] at h; omega, does_small hl ho⟩

theorem c3 : chkFn Tryd.prog 3 53 2 a3 a3R = true := by kernel_rfl
/-- colloquy/colloquylaw16.PostsDo -/
theorem d3 (l : List Post) (o : POp) (hl : l.length ≤ 9223372036854775807) : DoesT 3 [.ro 5 (ePs l), .agg (eO o)] (bv true) := by
  have h10 := d10 l hl
  obtain ⟨fw, hfw⟩ : ∃ fw, fewP l = fw := ⟨_, rfl⟩
  rw [hfw] at h10
  refine Does.of (nt := 53) (ac := a3) (rds := a3R) c3 (fun c hc => ?_)
  unfold a3
  apply J.seq
  refine J.regE (by simp [eO]; rfl) ?_
  simp
  apply J.seq
  apply J.reg
  refine runL_tree rfl (d9) (by simp) hc ?_
  simp
  refine runL_step rfl (by simp [eO]; rfl) ?_
  simp [runL]
  apply J.seq
  apply J.reg
  refine runL_step rfl (by simp [eO]; rfl) ?_
  refine runL_tree rfl (h10) (by simp) hc ?_
  simp
  refine runL_step rfl (by simp [eO]; rfl) ?_
  simp [runL]
  apply J.seq
  apply J.seq
  apply J.reg
  iterate 7 refine runL_step rfl (by simp [eO]; rfl) ?_
  refine runL_if rfl (fun g21 => ?_) (fun g21 => ?_)
  ·
    try simp only [g21]
    try simp at g21
    iterate 5 refine runL_step rfl (by simp [eO]; rfl) ?_
    simp [runL]
    refine J.condB rfl (fun h26 => ?_) (fun h26 => ?_)
    ·
      apply J.seq
      refine J.regE (by simp [eO]; rfl) ?_
      simp
      apply J.ret
      refine ⟨by simp, rfl, _, [], by simp [a3R]; rfl, ?_⟩
      simp
    ·
      have hf : Fit l := few_fit (by rw [hfw]; exact g21)
      have ho : o.text.size ≤ 100000 := by simp at h26; omega
      have hfd := does_fit (o := o) hf.txt ho
      have h13 := d13 (doesP l o).1 (doesP l o).1 (by have := hfd.len; omega)
      rw [sameP_refl] at h13
      have h14 := d14 (doesP l o).1 hfd
      rw [mayPs_does] at h14
      apply J.skip; simp
      apply J.seq
      apply J.reg
      iterate 2 refine runL_step rfl (by simp [eO]; rfl) ?_
      refine runL_tree rfl (d11 l o hf ho) (by simp) hc ?_
      simp
      iterate 5 refine runL_step rfl (by simp [eO]; rfl) ?_
      simp [runL]
      apply J.seq
      apply J.reg
      iterate 2 refine runL_step rfl (by simp [eO]; rfl) ?_
      refine runL_tree rfl (d12 l o hf ho) (by simp) hc ?_
      simp
      iterate 5 refine runL_step rfl (by simp [eO]; rfl) ?_
      simp [runL]
      apply J.seq
      apply J.reg
      iterate 2 refine runL_step rfl (by simp [eO]; rfl) ?_
      refine runL_tree rfl (h13) (by simp) hc ?_
      simp
      refine runL_step rfl (by simp [eO]; rfl) ?_
      simp [runL]
      apply J.seq
      apply J.reg
      iterate 8 refine runL_step rfl (by simp [eO]; rfl) ?_
      refine runL_do (by simp) ?_
      refine runL_tree rfl (h14) (by simp) hc ?_
      simp
      iterate 2 refine runL_step rfl (by simp [eO]; rfl) ?_
      simp [runL]
      apply J.ret
      refine ⟨by simp, rfl, _, [], by simp [a3R]; rfl, ?_⟩
      simp
  ·
    try simp only [g21]
    try simp at g21
    iterate 4 refine runL_step rfl (by simp [eO]; rfl) ?_
    simp [runL]
    apply J.cond; simp [eO]
    apply J.seq
    refine J.regE (by simp [eO]; rfl) ?_
    simp
    apply J.ret
    refine ⟨by simp, rfl, _, [], by simp [a3R]; rfl, ?_⟩
    simp

theorem own_law {l : List Post} {no user owner : Int} {s : ByteArray} :
    ((findP l no).2 ≠ 0 → (editP l no user s).2 ≠ 0 ∧ (delP l no user owner).2 = 5) ∧
    ((findP l no).2 = 0 → user ≠ (findP l no).1.user → (editP l no user s).2 ≠ 0 ∧ ((delP l no user owner).2 = 8 ↔ user ≠ owner)) ∧
    ((findP l no).2 = 0 → user = (findP l no).1.user → (delP l no user owner).2 = 0 ∧ ((editP l no user s).2 = 0 ∨ (editP l no user s).2 = 1 ∨ (findP l no).1.edits = 1073741824)) := by
  unfold findP editP delP
  cases hst : stopAt no (fairL l) 0 with
  | none =>
    simp
    split <;> simp
  | some p =>
    obtain ⟨i, x⟩ := p
    obtain ⟨_, hx, hno, hg⟩ := stopAt_get hst
    simp only [Nat.sub_zero] at hx
    have hb := mayP_text (fairL_may x (List.mem_of_getElem? hx))
    refine ⟨by simp, fun _ hu => ?_, fun _ hu => ?_⟩
    · simp only at hu ⊢
      refine ⟨?_, ?_⟩
      · split
        · simp
        · simp [dofE, Ne.symm hu]
      · simp only [dofD, hu, ne_eq, not_false_eq_true, true_and]
        by_cases h : user = owner <;> simp [h]
    · simp only at hu ⊢
      subst hu
      refine ⟨by simp [dofD], ?_⟩
      split
      · simp
      · by_cases h : 1073741824 ≤ x.edits
        · right; right; omega
        · left; simp [dofE, h]

theorem c6 : chkFn Tryd.prog 6 89 4 a6 a6R = true := by kernel_rfl
/-- colloquy/colloquylaw16.PostsTell -/
theorem d6 (l : List Post) (no frm many : Int) (hl : l.length ≤ 9223372036854775807) : DoesT 6 [.ro 5 (ePs l), iv no, iv frm, iv many] (bv true) := by
  have h10 := d10 l hl
  obtain ⟨fw, hfw⟩ : ∃ fw, fewP l = fw := ⟨_, rfl⟩
  rw [hfw] at h10
  refine Does.of (nt := 89) (ac := a6) (rds := a6R) c6 (fun c hc => ?_)
  unfold a6
  apply J.seq
  refine J.regE (by simp [eP]; rfl) ?_
  simp
  apply J.seq
  apply J.reg
  refine runL_tree rfl (d9) (by simp) hc ?_
  simp
  refine runL_step rfl (by simp [eP]; rfl) ?_
  simp [runL]
  apply J.seq
  apply J.reg
  refine runL_step rfl (by simp [eP]; rfl) ?_
  refine runL_tree rfl (h10) (by simp) hc ?_
  simp
  refine runL_step rfl (by simp [eP]; rfl) ?_
  simp [runL]
  apply J.seq
  apply J.seq
  apply J.reg
  iterate 6 refine runL_step rfl (by simp [eP]; rfl) ?_
  simp [runL]
  refine J.condB rfl (fun h28 => ?_) (fun h28 => ?_)
  ·
    apply J.seq
    refine J.regE (by simp [eP]; rfl) ?_
    simp
    apply J.ret
    refine ⟨by simp, rfl, _, [], by simp [a6R]; rfl, ?_⟩
    simp
  ·
    have hf : Fit l := few_fit (by rw [hfw]; simpa using h28)
    have h13 := d13 (pageP l frm many).1 (pageP l frm many).1 (by have := pageR_len (frm := frm) (many := many) (fairL l) []; have := fairL_len l; unfold pageP; simp at *; omega)
    rw [sameP_refl] at h13
    apply J.skip; simp
    apply J.seq
    apply J.reg
    iterate 2 refine runL_step rfl (by simp [eP]; rfl) ?_
    refine runL_tree rfl (d17 l no hf) (by simp) hc ?_
    simp
    iterate 6 refine runL_step rfl (by simp [eP]; rfl) ?_
    simp [runL]
    apply J.seq
    apply J.reg
    iterate 2 refine runL_step rfl (by simp [eP]; rfl) ?_
    refine runL_tree rfl (d18 l no hf) (by simp) hc ?_
    simp
    iterate 6 refine runL_step rfl (by simp [eP]; rfl) ?_
    simp [runL]
    apply J.seq
    apply J.reg
    iterate 3 refine runL_step rfl (by simp [eP]; rfl) ?_
    refine runL_tree rfl (d15t l frm many hf) (by simp) hc ?_
    simp
    iterate 5 refine runL_step rfl (by simp [eP]; rfl) ?_
    simp [runL]
    apply J.seq
    apply J.reg
    iterate 3 refine runL_step rfl (by simp [eP]; rfl) ?_
    refine runL_tree rfl (d19 l frm many hf) (by simp) hc ?_
    simp
    iterate 5 refine runL_step rfl (by simp [eP]; rfl) ?_
    simp [runL]
    apply J.seq
    apply J.reg
    iterate 2 refine runL_step rfl (by simp [eP]; rfl) ?_
    refine runL_tree rfl (h13) (by simp) hc ?_
    simp
    refine runL_step rfl (by simp [eP]; rfl) ?_
    simp [runL]
    apply J.seq
    apply J.reg
    iterate 18 refine runL_step rfl (by simp [eP]; rfl) ?_
    refine runL_do (by simp) ?_
    refine runL_tree rfl (d14 l hf) (by simp) hc ?_
    simp
    refine runL_step rfl (by simp [eP]; rfl) ?_
    refine runL_do (by simp) ?_
    refine runL_tree rfl (d20 l hf) (by simp) hc ?_
    simp
    iterate 4 refine runL_step rfl (by simp [eP]; rfl) ?_
    refine runL_do (by simp) ?_
    refine runL_tree rfl (d16 l hf) (by simp) hc ?_
    simp
    refine runL_step rfl (by simp [eP]; rfl) ?_
    refine runL_do (by simp) ?_
    refine runL_tree rfl (d21 l hf) (by simp) hc ?_
    simp
    iterate 3 refine runL_step rfl (by simp [eP]; rfl) ?_
    simp [runL]
    apply J.ret
    refine ⟨by simp, rfl, _, [], by simp [a6R]; rfl, ?_⟩
    simp

theorem c7 : chkFn Tryd.prog 7 98 5 a7 a7R = true := by kernel_rfl
/-- colloquy/colloquylaw16.PostsOwn -/
theorem d7 (l : List Post) (no user owner : Int) (s : ByteArray) (hl : l.length ≤ 9223372036854775807) : DoesT 7 [.ro 5 (ePs l), iv no, iv user, iv owner, sv s] (bv true) := by
  have h10 := d10 l hl
  obtain ⟨fw, hfw⟩ : ∃ fw, fewP l = fw := ⟨_, rfl⟩
  rw [hfw] at h10
  refine Does.of (nt := 98) (ac := a7) (rds := a7R) c7 (fun c hc => ?_)
  unfold a7
  apply J.seq
  refine J.regE (by simp [eP]; rfl) ?_
  simp
  apply J.seq
  apply J.reg
  refine runL_tree rfl (d9) (by simp) hc ?_
  simp
  refine runL_step rfl (by simp [eP]; rfl) ?_
  simp [runL]
  apply J.seq
  apply J.reg
  refine runL_step rfl (by simp [eP]; rfl) ?_
  refine runL_tree rfl (h10) (by simp) hc ?_
  simp
  refine runL_step rfl (by simp [eP]; rfl) ?_
  simp [runL]
  apply J.seq
  apply J.seq
  apply J.reg
  iterate 7 refine runL_step rfl (by simp [eP]; rfl) ?_
  refine runL_if rfl (fun g28 => ?_) (fun g28 => ?_)
  ·
    try simp only [g28]
    try simp at g28
    have hf : Fit l := few_fit (by rw [hfw]; exact g28)
    iterate 5 refine runL_step rfl (by simp [eP]; rfl) ?_
    refine runL_if rfl (fun g33 => ?_) (fun g33 => ?_)
    ·
      try simp only [g33]
      try simp at g33
      refine runL_step rfl (by simp [eP]; rfl) ?_
      refine runL_do (by simp) ?_
      refine runL_tree rfl (d14 l hf) (by simp) hc ?_
      simp
      iterate 2 refine runL_step rfl (by simp [eP]; rfl) ?_
      simp [runL]
      refine J.condB rfl (fun h37 => ?_) (fun h37 => ?_)
      ·
        apply J.seq
        refine J.regE (by simp [eP]; rfl) ?_
        simp
        apply J.ret
        refine ⟨by simp, rfl, _, [], by simp [a7R]; rfl, ?_⟩
        first | (simp; done) | (simp; have := o1 h62; omega) | (simp; have := o2 h62 h72; by_cases hh : user = owner <;> simp_all; done) | (simp; have := o3 h62 h72; omega)
      ·
        have hs : s.size ≤ 100000 := by omega
        obtain ⟨o1, o2, o3⟩ := own_law (l := l) (no := no) (user := user) (owner := owner) (s := s)
        obtain ⟨⟨fx, fe⟩, hfd⟩ : ∃ q, findP l no = q := ⟨_, rfl⟩
        obtain ⟨⟨ex, ee⟩, hed⟩ : ∃ q, editP l no user s = q := ⟨_, rfl⟩
        obtain ⟨⟨dx, de⟩, hdl⟩ : ∃ q, delP l no user owner = q := ⟨_, rfl⟩
        have h17 := d17 l no hf
        have h22 := d22 l no user s hf (by omega)
        have h23 := d23 l no user owner hf
        rw [hfd] at o1 o2 o3 h17
        rw [hed] at o1 o2 o3 h22
        rw [hdl] at o1 o2 o3 h23
        simp only at o1 o2 o3 h17 h22 h23
        apply J.skip; simp
        apply J.seq
        apply J.reg
        iterate 2 refine runL_step rfl (by simp [eP]; rfl) ?_
        refine runL_tree rfl (h17) (by simp) hc ?_
        simp
        iterate 6 refine runL_step rfl (by simp [eP]; rfl) ?_
        simp [runL]
        apply J.seq
        apply J.reg
        iterate 4 refine runL_step rfl (by simp [eP]; rfl) ?_
        refine runL_tree rfl (h22) (by simp) hc ?_
        simp
        iterate 5 refine runL_step rfl (by simp [eP]; rfl) ?_
        simp [runL]
        apply J.seq
        apply J.reg
        iterate 4 refine runL_step rfl (by simp [eP]; rfl) ?_
        refine runL_tree rfl (h23) (by simp) hc ?_
        simp
        iterate 5 refine runL_step rfl (by simp [eP]; rfl) ?_
        simp [runL]
        apply J.seq
        apply J.seq
        refine J.regE (by simp [eP]; rfl) ?_
        simp
        refine J.condB rfl (fun h62 => ?_) (fun h62 => ?_)
        ·
          simp at h62
          apply J.seq
          apply J.reg
          iterate 3 refine runL_step rfl (by simp [eP]; rfl) ?_
          refine runL_if rfl (fun g65 => ?_) (fun g65 => ?_)
          ·
            try simp only [g65]
            try simp at g65
            iterate 4 refine runL_step rfl (by simp [eP]; rfl) ?_
            simp [runL]
            apply J.ret
            refine ⟨by simp, rfl, _, [], by simp [a7R]; rfl, ?_⟩
            first | (simp; done) | (simp; have := o1 h62; omega) | (simp; have := o2 h62 h72; by_cases hh : user = owner <;> simp_all; done) | (simp; have := o3 h62 h72; omega)
          ·
            try simp only [g65]
            try simp at g65
            iterate 3 refine runL_step rfl (by simp [eP]; rfl) ?_
            simp [runL]
            apply J.ret
            refine ⟨by simp, rfl, _, [], by simp [a7R]; rfl, ?_⟩
            first | (simp; done) | (simp; have := o1 h62; omega) | (simp; have := o2 h62 h72; by_cases hh : user = owner <;> simp_all; done) | (simp; have := o3 h62 h72; omega)
        ·
          simp at h62
          apply J.skip; simp
          apply J.seq
          apply J.seq
          refine J.regE (by simp [eP]; rfl) ?_
          simp
          refine J.condB rfl (fun h72 => ?_) (fun h72 => ?_)
          ·
            simp at h72
            apply J.seq
            apply J.reg
            iterate 3 refine runL_step rfl (by simp [eP]; rfl) ?_
            refine runL_if rfl (fun g75 => ?_) (fun g75 => ?_)
            ·
              try simp only [g75]
              try simp at g75
              iterate 8 refine runL_step rfl (by simp [eP]; rfl) ?_
              simp [runL]
              apply J.ret
              refine ⟨by simp, rfl, _, [], by simp [a7R]; rfl, ?_⟩
              first | (simp; done) | (simp; have := o1 h62; omega) | (simp; have := o2 h62 h72; by_cases hh : user = owner <;> simp_all; done) | (simp; have := o3 h62 h72; omega)
            ·
              try simp only [g75]
              try simp at g75
              iterate 7 refine runL_step rfl (by simp [eP]; rfl) ?_
              simp [runL]
              apply J.ret
              refine ⟨by simp, rfl, _, [], by simp [a7R]; rfl, ?_⟩
              first | (simp; done) | (simp; have := o1 h62; omega) | (simp; have := o2 h62 h72; by_cases hh : user = owner <;> simp_all; done) | (simp; have := o3 h62 h72; omega)
          ·
            simp at h72
            apply J.skip; simp
            apply J.seq
            apply J.reg
            iterate 3 refine runL_step rfl (by simp [eP]; rfl) ?_
            refine runL_if rfl (fun g85 => ?_) (fun g85 => ?_)
            ·
              try simp only [g85]
              try simp at g85
              iterate 3 refine runL_step rfl (by simp [eP]; rfl) ?_
              refine runL_if rfl (fun g88 => ?_) (fun g88 => ?_)
              ·
                try simp only [g88]
                try simp at g88
                iterate 4 refine runL_step rfl (by simp [eP]; rfl) ?_
                refine runL_if rfl (fun g92 => ?_) (fun g92 => ?_)
                ·
                  try simp only [g92]
                  try simp at g92
                  iterate 6 refine runL_step rfl (by simp [eP]; rfl) ?_
                  simp [runL]
                  apply J.ret
                  refine ⟨by simp, rfl, _, [], by simp [a7R]; rfl, ?_⟩
                  first | (simp; done) | (simp; have := o1 h62; omega) | (simp; have := o2 h62 h72; by_cases hh : user = owner <;> simp_all; done) | (simp; have := o3 h62 h72; omega)
                ·
                  try simp only [g92]
                  try simp at g92
                  iterate 5 refine runL_step rfl (by simp [eP]; rfl) ?_
                  simp [runL]
                  apply J.ret
                  refine ⟨by simp, rfl, _, [], by simp [a7R]; rfl, ?_⟩
                  first | (simp; done) | (simp; have := o1 h62; omega) | (simp; have := o2 h62 h72; by_cases hh : user = owner <;> simp_all; done) | (simp; have := o3 h62 h72; omega)
              ·
                try simp only [g88]
                try simp at g88
                iterate 9 refine runL_step rfl (by simp [eP]; rfl) ?_
                simp [runL]
                apply J.ret
                refine ⟨by simp, rfl, _, [], by simp [a7R]; rfl, ?_⟩
                first | (simp; done) | (simp; have := o1 h62; omega) | (simp; have := o2 h62 h72; by_cases hh : user = owner <;> simp_all; done) | (simp; have := o3 h62 h72; omega)
            ·
              try simp only [g85]
              try simp at g85
              iterate 12 refine runL_step rfl (by simp [eP]; rfl) ?_
              simp [runL]
              apply J.ret
              refine ⟨by simp, rfl, _, [], by simp [a7R]; rfl, ?_⟩
              first | (simp; done) | (simp; have := o1 h62; omega) | (simp; have := o2 h62 h72; by_cases hh : user = owner <;> simp_all; done) | (simp; have := o3 h62 h72; omega)
    ·
      try simp only [g33]
      try simp at g33
      refine runL_pass (b := _) rfl (by simp) ?_
      simp
      iterate 2 refine runL_step rfl (by simp [eP]; rfl) ?_
      simp [runL]
      apply J.cond; simp [eP]
      apply J.seq
      refine J.regE (by simp [eP]; rfl) ?_
      simp
      apply J.ret
      refine ⟨by simp, rfl, _, [], by simp [a7R]; rfl, ?_⟩
      first | (simp; done) | (simp; have := o1 h62; omega) | (simp; have := o2 h62 h72; by_cases hh : user = owner <;> simp_all; done) | (simp; have := o3 h62 h72; omega)
  ·
    try simp only [g28]
    try simp at g28
    iterate 5 refine runL_step rfl (by simp [eP]; rfl) ?_
    refine runL_pass (b := _) rfl (by simp) ?_
    simp
    iterate 2 refine runL_step rfl (by simp [eP]; rfl) ?_
    simp [runL]
    apply J.cond; simp [eP]
    apply J.seq
    refine J.regE (by simp [eP]; rfl) ?_
    simp
    apply J.ret
    refine ⟨by simp, rfl, _, [], by simp [a7R]; rfl, ?_⟩
    first | (simp; done) | (simp; have := o1 h62; omega) | (simp; have := o2 h62 h72; by_cases hh : user = owner <;> simp_all; done) | (simp; have := o3 h62 h72; omega)

end Go.Proofs.YtifpfpiljionmaaDoor.F
