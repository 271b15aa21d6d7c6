/- Chapter 17: window.Put. -/
import Derived.Test.YtipmodlmmadfbaaL3
set_option linter.unusedVariables false
set_option linter.unusedSimpArgs false
namespace Go.Proofs.Ytipmodlmmadfbaa.F
open Go Go.SX

theorem c12 : chkFn Try.prog 12 60 3 a12 a12R = true := by kernel_rfl

abbrev noW (e : Int) : AV := .tup [.agg [iv 0, .nils 4], iv e]
abbrev win (low : Int) (l : List Tl) : AV := .agg [iv low, .ro 4 (tls l)]

def PutPost (low seq : Int) (l : List Tl) (x : Int × Int × ByteArray) (is : Bool) (err : Int) (p : Nat) (r : AV) (m : Mem) : Prop :=
  if err ≠ 0 then r = noW err ∧ m = [] else if is = true then r = noW 6 ∧ m = [] else
  ∃ q, (q = 19005 ∨ q = 18040 ∨ q = 18025) ∧ m = [(q, .arr 42 4 (tls (l.take p ++ [(seq, x)] ++ l.drop p)))] ∧
    if h : l.length + 1 ≤ 8 then r = .tup [.agg [iv low, .own q 4 0 (l.length + 1)], iv 0] else
      r = .tup [.agg [iv ((l.take p ++ [(seq, x)] ++ l.drop p).getD 0 (0, 0, 0, ⟨#[]⟩)).1, .own q 4 1 l.length], iv 0]

set_option maxHeartbeats 4000000 in
theorem d12 (low seq : Int) (l : List Tl) (x : Int × Int × ByteArray) (e n : Int) (t : ByteArray) (is : Bool) (err : Int) (p : Nat) (f : Bool) (hp : err = 0 → is = false → p ≤ l.length ∧ l.length < 1000)
    (hL : DoesT 10 [win low l, iv seq] (.tup [.agg [iv e, iv n, .lit (.string t)], bv is, iv err])) (hF : err = 0 → is = false → DoesT 17 [.ro 4 (tls l), iv seq] (.tup [iv (p : Int), bv f])) :
    Does Try.prog 12 [win low l, iv seq, .agg [iv x.1, iv x.2.1, .lit (.string x.2.2)]] [] [] (PutPost low seq l x is err p) := by
  refine Does.of (nt := 60) (ac := a12) (rds := a12R) c12 (fun c hc => ?_)
  unfold a12
  apply J.seq; refine J.regE (by simp; rfl) ?_
  simp
  apply J.seq; refine J.regC (by simp; exact ⟨rfl, rfl⟩) ?_
  refine runL_view (St.le_refl _) rfl rfl hL (by simp) ?_
  rintro _ _ ⟨rfl, rfl⟩
  refine ⟨rfl, rfl, ?_⟩
  refine runL_end (by simp; rfl) ?_
  simp
  apply J.seq; apply J.block
  apply J.seq; refine J.regE (by simp; rfl) ?_
  simp
  apply J.cond; simp
  refine ⟨fun he => ?_, fun he => ?_⟩
  · apply J.seq; refine J.regE (by simp; rfl) ?_
    simp
    apply J.ret
    refine ⟨by simp, rfl, _, [], by simp [a12R]; rfl, ?_⟩
    simp [PutPost, he]
  subst he
  apply J.seq; refine J.regE (by simp; rfl) ?_
  simp
  apply J.cond; simp
  refine ⟨fun hi => ?_, fun hi => ?_⟩
  · subst hi
    apply J.seq; refine J.regE (by simp; rfl) ?_
    simp
    apply J.ret
    refine ⟨by simp, rfl, _, [], by simp [a12R]; rfl, ?_⟩
    simp [PutPost]
  subst hi
  obtain ⟨hpl, hln⟩ := hp rfl rfl
  apply J.skip; simp
  apply J.seq; refine J.regC (by simp; exact ⟨rfl, rfl⟩) ?_
  refine runL_view (St.le_refl _) rfl rfl (hF rfl rfl) (by simp) ?_
  rintro _ _ ⟨rfl, rfl⟩
  refine ⟨rfl, rfl, ?_⟩
  refine runL_end (by simp; rfl) ?_
  simp
  apply J.seq; apply J.draw; intro c' _
  repeat refine runP_step rfl (by simp; rfl) ?_
  obtain ⟨L', hL'⟩ : ∃ L', L' = l.take p ++ [(seq, x)] ++ l.drop p := ⟨_, rfl⟩
  have htl : ∀ (q : Nat), (q = 19005 ∨ q = 18040 ∨ q = 18025) → J Try.prog 60 c ((a12r8.seq (AC.cond (Src.s 48) a12r9 AC.skip)).seq (a12r10.seq AC.ret)) ⟨[(3, .ptr 12003 0 0 0), (6, .ptr 12006 0 0 0)], [(q, .arr 42 4 (tls L')), (12003, .obj 24 [iv low, .own q 4 0 (l.length + 1)]), (12005, .obj 27 [iv x.1, iv x.2.1, .lit (.string x.2.2)]), (12006, .obj 24 [iv 0, .nils 4]), (12008, .obj 27 [iv e, iv n, .lit (.string t)])], []⟩ (doneQ [] a12R (PutPost low seq l x false 0 p)) := by
    have hlen : L'.length = l.length + 1 := by subst hL'; simp; omega
    have h0 : 0 < L'.length := by omega
    have h1 : (1 : Int) ≤ (l.length : Int) + 1 := by omega
    have hB : ∀ q, (q = 19005 ∨ q = 18040 ∨ q = 18025) → ¬ l.length + 1 ≤ 8 → PutPost low seq l x false 0 p (.tup [.agg [iv L'[0].1, .own q 4 1 l.length], iv 0]) [(q, .arr 42 4 (tls L'))] := by
      intro q hq hg
      unfold PutPost
      rw [if_neg (by simp), if_neg (by simp)]
      refine ⟨q, hq, by rw [hL'], ?_⟩
      rw [dif_neg hg, ← hL']
      simp [List.getD_eq_getElem?_getD, h0]
    have hA : ∀ q, (q = 19005 ∨ q = 18040 ∨ q = 18025) → l.length + 1 ≤ 8 → PutPost low seq l x false 0 p (.tup [.agg [iv low, .own q 4 0 (l.length + 1)], iv 0]) [(q, .arr 42 4 (tls L'))] := by
      intro q hq hg
      unfold PutPost
      rw [if_neg (by simp), if_neg (by simp)]
      refine ⟨q, hq, by rw [hL'], ?_⟩
      rw [dif_pos hg]
    rintro q (rfl | rfl | rfl)
    · apply J.seq; apply J.seq; refine J.regE (by simp; rfl) ?_
      simp
      apply J.cond; simp
      refine ⟨fun hg => ?_, fun hg => ?_⟩
      · apply J.draw; intro c' _
        repeat refine runP_step rfl (by simp; rfl) ?_
        refine runP_or ?_ ?_
        all_goals
          repeat first
            | refine runP_step rfl (by simp [h0, h1]; rfl) ?_
            | refine runP_alt rfl (by simp) (by simp; rfl) ?_ (.inl rfl)
          simp [runP]
          apply J.seq; refine J.regE (by simp; rfl) ?_
          simp
          apply J.ret
          refine ⟨by simp, rfl, _, [(19005, .arr 42 4 (tls L'))], by simp [a12R]; rfl, ?_⟩
          simpa using hB 19005 (by simp) (by omega)
      · apply J.skip; simp
        apply J.seq; refine J.regE (by simp; rfl) ?_
        simp
        apply J.ret
        refine ⟨by simp, rfl, _, [(19005, .arr 42 4 (tls L'))], by simp [a12R]; rfl, ?_⟩
        simpa using hA 19005 (by simp) (by omega)
    · apply J.seq; apply J.seq; refine J.regE (by simp; rfl) ?_
      simp
      apply J.cond; simp
      refine ⟨fun hg => ?_, fun hg => ?_⟩
      · apply J.draw; intro c' _
        repeat refine runP_step rfl (by simp; rfl) ?_
        refine runP_or ?_ ?_
        all_goals
          repeat first
            | refine runP_step rfl (by simp [h0, h1]; rfl) ?_
            | refine runP_alt rfl (by simp) (by simp; rfl) ?_ (.inl rfl)
          simp [runP]
          apply J.seq; refine J.regE (by simp; rfl) ?_
          simp
          apply J.ret
          refine ⟨by simp, rfl, _, [(18040, .arr 42 4 (tls L'))], by simp [a12R]; rfl, ?_⟩
          simpa using hB 18040 (by simp) (by omega)
      · apply J.skip; simp
        apply J.seq; refine J.regE (by simp; rfl) ?_
        simp
        apply J.ret
        refine ⟨by simp, rfl, _, [(18040, .arr 42 4 (tls L'))], by simp [a12R]; rfl, ?_⟩
        simpa using hA 18040 (by simp) (by omega)
    · apply J.seq; apply J.seq; refine J.regE (by simp; rfl) ?_
      simp
      apply J.cond; simp
      refine ⟨fun hg => ?_, fun hg => ?_⟩
      · apply J.draw; intro c' _
        repeat refine runP_step rfl (by simp; rfl) ?_
        refine runP_or ?_ ?_
        all_goals
          repeat first
            | refine runP_step rfl (by simp [h0, h1]; rfl) ?_
            | refine runP_alt rfl (by simp) (by simp; rfl) ?_ (.inl rfl)
          simp [runP]
          apply J.seq; refine J.regE (by simp; rfl) ?_
          simp
          apply J.ret
          refine ⟨by simp, rfl, _, [(18025, .arr 42 4 (tls L'))], by simp [a12R]; rfl, ?_⟩
          simpa using hB 18025 (by simp) (by omega)
      · apply J.skip; simp
        apply J.seq; refine J.regE (by simp; rfl) ?_
        simp
        apply J.ret
        refine ⟨by simp, rfl, _, [(18025, .arr 42 4 (tls L'))], by simp [a12R]; rfl, ?_⟩
        simpa using hA 18025 (by simp) (by omega)
  have hta : (tls l).take p ++ [tl (seq, x)] ++ (tls l).drop p = tls L' := by
    rw [hL']; simp [tls, List.map_take, List.map_drop]
  have hins : Does Try.prog 18 [.own 19005 4 0 l.length, iv p, .own 12042 4 0 1] [(19005, .arr 42 4 (tls l)), (12042, .arr 42 4 [[iv seq, iv x.1, iv x.2.1, .lit (.string x.2.2)]])] [] (fun r m => ∃ b, (b = 19005 ∨ b = 18040) ∧ r = .own b 4 0 (l.length + 1) ∧ m = [(b, .arr 42 4 (tls L'))]) := by
    have := d18 (tls l) (tl (seq, x)) p (by simp; omega) (by simp; omega)
    rw [hta, tls_length] at this
    exact this
  have hnil : l = [] → Does Try.prog 18 [.nils 4, iv p, .own 12042 4 0 1] [(12042, .arr 42 4 [[iv seq, iv x.1, iv x.2.1, .lit (.string x.2.2)]])] [] (fun r m => r = .own 18025 4 0 (l.length + 1) ∧ m = [(18025, .arr 42 4 (tls L'))]) := by
    rintro rfl
    obtain rfl : p = 0 := by simpa using hpl
    subst hL'
    exact d18n (tl (seq, x))
  have hcl := d19 (tls l) (by simp; omega)
  rw [tls_length] at hcl
  have hz : tls l = [] → l = [] := fun h => by cases l with | nil => rfl | cons a r => simp [tls] at h
  refine runP_or ?_ ?_
  · refine runP_alt rfl (by simp) (by simp; rfl) ?_ (.inl rfl)
    refine runP_or ?_ ?_
    · refine runP_call [] [] rfl rfl hcl (by simp) (by simp) (by simp) (by simp) ?_
      rintro rv m (⟨rfl, rfl, h0⟩ | ⟨rfl, rfl⟩)
      · have hl0 := hz h0
        refine ⟨by simp, rfl, ?_⟩
        refine runP_alt rfl (by simp) (by simp; rfl) ?_ (.inl rfl)
        refine runP_of_eval (by simp; exact ⟨rfl, rfl⟩) ?_
        refine runP_call [12042] [] rfl rfl (hnil hl0) (by simp) (by simp) (by simp) (by simp) ?_
        rintro rv m ⟨rfl, rfl⟩
        refine ⟨by simpa using noTree_tls 42 4 L', rfl, ?_⟩
        refine runP_end (by simp; rfl) ?_
        simpa using htl 18025 (by simp)
      · refine ⟨by simpa using noTree_tls 42 4 l, rfl, ?_⟩
        refine runP_alt rfl (by simp) (by simp; rfl) ?_ (.inl rfl)
        refine runP_of_eval (by simp; exact ⟨rfl, rfl⟩) ?_
        refine runP_call [19005, 12042] [] rfl rfl hins (by simp) (by simp) (by simp) (by simp) ?_
        rintro rv m ⟨q, rfl | rfl, rfl, rfl⟩
        · refine ⟨by simpa using noTree_tls 42 4 L', rfl, ?_⟩
          refine runP_end (by simp; rfl) ?_
          simpa using htl 19005 (by simp)
        · refine ⟨by simpa using noTree_tls 42 4 L', rfl, ?_⟩
          refine runP_end (by simp; rfl) ?_
          simpa using htl 18040 (by simp)
    · refine runP_alt rfl (by simp) (by simp; rfl) ?_ (.inl rfl)
      refine runP_call [] [] rfl rfl hcl (by simp) (by simp) (by simp) (by simp) ?_
      rintro rv m (⟨rfl, rfl, h0⟩ | ⟨rfl, rfl⟩)
      · have hl0 := hz h0
        refine ⟨by simp, rfl, ?_⟩
        refine runP_of_eval (by simp; exact ⟨rfl, rfl⟩) ?_
        refine runP_call [12042] [] rfl rfl (hnil hl0) (by simp) (by simp) (by simp) (by simp) ?_
        rintro rv m ⟨rfl, rfl⟩
        refine ⟨by simpa using noTree_tls 42 4 L', rfl, ?_⟩
        refine runP_end (by simp; rfl) ?_
        simpa using htl 18025 (by simp)
      · refine ⟨by simpa using noTree_tls 42 4 l, rfl, ?_⟩
        refine runP_of_eval (by simp; exact ⟨rfl, rfl⟩) ?_
        refine runP_call [19005, 12042] [] rfl rfl hins (by simp) (by simp) (by simp) (by simp) ?_
        rintro rv m ⟨q, rfl | rfl, rfl, rfl⟩
        · refine ⟨by simpa using noTree_tls 42 4 L', rfl, ?_⟩
          refine runP_end (by simp; rfl) ?_
          simpa using htl 19005 (by simp)
        · refine ⟨by simpa using noTree_tls 42 4 L', rfl, ?_⟩
          refine runP_end (by simp; rfl) ?_
          simpa using htl 18040 (by simp)
  · refine runP_alt rfl (by simp) (by simp; rfl) ?_ (.inl rfl)
    refine runP_alt rfl (by simp) (by simp; rfl) ?_ (.inl rfl)
    refine runP_call [] [] rfl rfl hcl (by simp) (by simp) (by simp) (by simp) ?_
    rintro rv m (⟨rfl, rfl, h0⟩ | ⟨rfl, rfl⟩)
    · have hl0 := hz h0
      refine ⟨by simp, rfl, ?_⟩
      refine runP_of_eval (by simp; exact ⟨rfl, rfl⟩) ?_
      refine runP_call [12042] [] rfl rfl (hnil hl0) (by simp) (by simp) (by simp) (by simp) ?_
      rintro rv m ⟨rfl, rfl⟩
      refine ⟨by simpa using noTree_tls 42 4 L', rfl, ?_⟩
      refine runP_end (by simp; rfl) ?_
      simpa using htl 18025 (by simp)
    · refine ⟨by simpa using noTree_tls 42 4 l, rfl, ?_⟩
      refine runP_of_eval (by simp; exact ⟨rfl, rfl⟩) ?_
      refine runP_call [19005, 12042] [] rfl rfl hins (by simp) (by simp) (by simp) (by simp) ?_
      rintro rv m ⟨q, rfl | rfl, rfl, rfl⟩
      · refine ⟨by simpa using noTree_tls 42 4 L', rfl, ?_⟩
        refine runP_end (by simp; rfl) ?_
        simpa using htl 19005 (by simp)
      · refine ⟨by simpa using noTree_tls 42 4 L', rfl, ?_⟩
        refine runP_end (by simp; rfl) ?_
        simpa using htl 18040 (by simp)
end Go.Proofs.Ytipmodlmmadfbaa.F
