/- Chapter 15: people.Join, people.Leave, out of what they call. -/
import Derived.Test.YtffeomfcjmmgoaaL1
set_option linter.unusedVariables false
set_option linter.unusedSimpArgs false
namespace Go.Proofs.Ytffeomfcjmmgoaa.F
open Go Go.SX

theorem c9 : chkFn Try.prog 9 44 2 a9 a9R = true := by kernel_rfl
theorem c11 : chkFn Try.prog 11 39 2 a11 a11R = true := by kernel_rfl

abbrev noCh (e : Int) : AV := .tup [.agg [iv 0, iv 0, .nils 1], iv e]

def JoinPost (a b u : Int) (l : List Int) (at_ : Int) (in_ may ri : Bool) (r : AV) (m : Mem) : Prop :=
  if may = false ∨ ri = false then r = noCh 1 ∧ m = [] else if in_ = true then r = noCh 6 ∧ m = [] else if 16 ≤ l.length then r = noCh 7 ∧ m = [] else
  ∃ q, (q = 23005 ∨ q = 22040) ∧ r = .tup [.agg [iv a, iv b, .own q 1 0 (l.length + 1)], iv 0] ∧ m = [(q, .arr 3 1 (ints (l.take at_.toNat ++ [u] ++ l.drop at_.toNat)))]

theorem d9 (a b u : Int) (l : List Int) (at_ : Int) (in_ may ri : Bool) (hat : may = true → ri = true → in_ = false → l.length < 16 → 0 ≤ at_ ∧ at_ ≤ l.length ∧ l ≠ [])
    (hBS : Does Try.prog 20 [.ro 1 (ints l), iv u] [] [] (fun r m => m = [] ∧ r = .tup [iv at_, bv in_])) (hMay : Does Try.prog 16 [.agg [iv a, iv b, .ro 1 (ints l)]] [] [] (fun r m => m = [] ∧ r = bv may))
    (hRi : may = true → Does Try.prog 21 [.ro 1 (ints [u])] [] [] (fun r m => m = [] ∧ r = bv ri)) : Does Try.prog 9 [.agg [iv a, iv b, .ro 1 (ints l)], iv u] [] [] (JoinPost a b u l at_ in_ may ri) := by
  refine Does.of (nt := 44) (ac := a9) (rds := a9R) c9 (fun c hc => ?_)
  unfold a9
  apply J.seq; refine J.regE (by simp; rfl) ?_
  simp
  apply J.seq; refine J.regC (by simp; exact ⟨rfl, rfl⟩) ?_
  refine runL_view (St.le_refl _) rfl rfl hBS (by simp) ?_
  rintro _ _ ⟨rfl, rfl⟩
  refine ⟨rfl, rfl, ?_⟩
  refine runL_end (by simp; rfl) ?_
  simp
  apply J.seq; apply J.block
  apply J.seq; refine J.regC (by simp; exact ⟨rfl, rfl⟩) ?_
  refine runL_view (St.le_refl _) rfl rfl hMay (by simp) ?_
  rintro _ _ ⟨rfl, rfl⟩
  refine ⟨rfl, rfl, ?_⟩
  cases may
  · refine runL_of_eval (by simp; exact ⟨rfl, rfl⟩) ?_
    refine runL_skip rfl (by simp) ?_
    refine runL_end (by simp; rfl) ?_
    simp
    apply J.cond; simp
    apply J.seq; refine J.regE (by simp; rfl) ?_
    simp
    apply J.ret
    refine ⟨by simp, rfl, _, [], by simp [a9R]; rfl, ?_⟩
    simp [JoinPost]
  refine runL_of_eval (by simp; exact ⟨rfl, rfl⟩) ?_
  refine runL_do rfl ?_
  refine runL_view (le_freeze _ 9021 rfl) (stF := St.freeze _ 9021) rfl ?_ (hRi rfl) ?_ ?_
  · simp [St.freeze, frz, ints]
  · simp
  rintro _ _ ⟨rfl, rfl⟩
  refine ⟨rfl, rfl, ?_⟩
  refine runL_end (by simp; rfl) ?_
  cases ri
  · simp
    apply J.cond; simp
    apply J.seq; refine J.regE (by simp; rfl) ?_
    simp
    apply J.ret
    refine ⟨by simp, rfl, _, [], by simp [a9R]; rfl, ?_⟩
    simp [JoinPost]
  simp
  apply J.cond; simp
  apply J.seq; refine J.regE (by simp; rfl) ?_
  cases in_
  rotate_left 1
  · simp
    apply J.cond; simp
    apply J.seq; refine J.regE (by simp; rfl) ?_
    simp
    apply J.ret
    refine ⟨by simp, rfl, _, [], by simp [a9R]; rfl, ?_⟩
    simp [JoinPost]
  simp
  apply J.cond; simp
  apply J.seq; refine J.regE (by simp; rfl) ?_
  simp
  apply J.cond; simp
  refine ⟨fun hlen => ?_, fun hlen => ?_⟩
  · apply J.seq; refine J.regE (by simp; rfl) ?_
    simp
    apply J.ret
    refine ⟨by simp, rfl, _, [], by simp [a9R]; rfl, ?_⟩
    simp [JoinPost, show 16 ≤ l.length from by omega]
  obtain ⟨h0, h1, hne⟩ := hat rfl rfl rfl (by omega)
  obtain ⟨q, rfl⟩ : ∃ q : Nat, at_ = q := ⟨at_.toNat, by omega⟩
  apply J.skip; simp
  apply J.seq; refine J.regC (by simp; exact ⟨rfl, rfl⟩) ?_
  refine runL_call [] [] rfl rfl (d23 (ints l) (by simp; omega)) (by simp) (by simp) (by simp) hc ?_
  have hI := d22 (ints l) [iv u] q (by simp; omega) (by simp; omega)
  simp only [ints_length] at hI
  rintro rv m (⟨rfl, rfl, hl⟩ | ⟨rfl, rfl⟩)
  · exact absurd (by simpa [ints] using hl) hne
  refine ⟨by simp, ?_⟩
  refine runL_of_eval (by simp; exact ⟨rfl, rfl⟩) ?_
  refine runL_call [23005, 9040] [] rfl rfl hI ?_ ?_ ?_ hc ?_
  · simp
  · simp
  · simp
  rintro rv m ⟨b', hb', rfl, rfl⟩
  have hfin : ints (l.take q ++ [u] ++ l.drop q) = (ints l).take q ++ [[iv u]] ++ (ints l).drop q := by simp [ints, List.map_take, List.map_drop]
  rcases hb' with rfl | rfl
  · refine ⟨by simp, ?_⟩
    refine runL_end (by simp; rfl) ?_
    simp
    apply J.seq; refine J.regE (by simp; rfl) ?_
    simp
    apply J.ret
    refine ⟨by simp, rfl, _, [(23005, .arr 3 1 (ints (l.take q ++ [u] ++ l.drop q)))], by simp [a9R]; rfl, ?_⟩
    rw [hfin]
    simp [JoinPost, show ¬ 16 ≤ l.length from by omega]
  · refine ⟨by simp, ?_⟩
    refine runL_end (by simp; rfl) ?_
    simp
    apply J.seq; refine J.regE (by simp; rfl) ?_
    simp
    apply J.ret
    refine ⟨by simp, rfl, _, [(22040, .arr 3 1 (ints (l.take q ++ [u] ++ l.drop q)))], by simp [a9R]; rfl, ?_⟩
    rw [hfin]
    simp [JoinPost, show ¬ 16 ≤ l.length from by omega]

def LeavePost (a b u : Int) (l : List Int) (at_ : Int) (in_ may : Bool) (r : AV) (m : Mem) : Prop :=
  if may = false then r = noCh 1 ∧ m = [] else if in_ = false then r = noCh 5 ∧ m = [] else if b = u then r = noCh 8 ∧ m = [] else
  r = .tup [.agg [iv a, iv b, .own 23005 1 0 (l.length - 1)], iv 0] ∧ m = [(23005, .arr 3 1 (ints (l.take at_.toNat ++ l.drop (at_.toNat + 1))))]

theorem d11 (a b u : Int) (l : List Int) (at_ : Int) (in_ may : Bool) (hat : may = true → in_ = true → b ≠ u → 0 ≤ at_ ∧ at_ < l.length ∧ l.length < 1000000)
    (hBS : Does Try.prog 20 [.ro 1 (ints l), iv u] [] [] (fun r m => m = [] ∧ r = .tup [iv at_, bv in_])) (hMay : Does Try.prog 16 [.agg [iv a, iv b, .ro 1 (ints l)]] [] [] (fun r m => m = [] ∧ r = bv may)) :
    Does Try.prog 11 [.agg [iv a, iv b, .ro 1 (ints l)], iv u] [] [] (LeavePost a b u l at_ in_ may) := by
  refine Does.of (nt := 39) (ac := a11) (rds := a11R) c11 (fun c hc => ?_)
  unfold a11
  apply J.seq; refine J.regE (by simp; rfl) ?_
  simp
  apply J.seq; refine J.regC (by simp; exact ⟨rfl, rfl⟩) ?_
  refine runL_view (St.le_refl _) rfl rfl hBS (by simp) ?_
  rintro _ _ ⟨rfl, rfl⟩
  refine ⟨rfl, rfl, ?_⟩
  refine runL_end (by simp; rfl) ?_
  simp
  apply J.seq; apply J.block
  apply J.seq; refine J.regC (by simp; exact ⟨rfl, rfl⟩) ?_
  refine runL_view (St.le_refl _) rfl rfl hMay (by simp) ?_
  rintro _ _ ⟨rfl, rfl⟩
  refine ⟨rfl, rfl, ?_⟩
  refine runL_end (by simp; rfl) ?_
  cases may
  · simp
    apply J.cond; simp
    apply J.seq; refine J.regE (by simp; rfl) ?_
    simp
    apply J.ret
    refine ⟨by simp, rfl, _, [], by simp [a11R]; rfl, ?_⟩
    simp [LeavePost]
  simp
  apply J.cond; simp
  apply J.seq; refine J.regE (by simp; rfl) ?_
  cases in_
  · simp
    apply J.cond; simp
    apply J.seq; refine J.regE (by simp; rfl) ?_
    simp
    apply J.ret
    refine ⟨by simp, rfl, _, [], by simp [a11R]; rfl, ?_⟩
    simp [LeavePost]
  simp
  apply J.cond; simp
  apply J.seq; refine J.regE (by simp; rfl) ?_
  simp
  apply J.cond; simp
  refine ⟨fun hbu => ?_, fun hbu => ?_⟩
  · apply J.seq; refine J.regE (by simp; rfl) ?_
    simp
    apply J.ret
    refine ⟨by simp, rfl, _, [], by simp [a11R]; rfl, ?_⟩
    simp [LeavePost, hbu]
  obtain ⟨h0, h1, h2⟩ := hat rfl rfl hbu
  obtain ⟨q, rfl⟩ : ∃ q : Nat, at_ = q := ⟨at_.toNat, by omega⟩
  have hwq : IntKind.i64.wrap ((q : Int) + 1) = q + 1 := wrap_id (by omega) (by omega)
  apply J.skip; simp
  apply J.seq; refine J.regC (by simp; exact ⟨rfl, rfl⟩) ?_
  refine runL_call [] [] rfl rfl (d23 (ints l) (by simp; omega)) (by simp) (by simp) (by simp) hc ?_
  have hI := d26 (ints l) q (by simp; omega) (by simp; omega)
  simp only [ints_length] at hI
  rintro rv m (⟨rfl, rfl, hl⟩ | ⟨rfl, rfl⟩)
  · have : l = [] := by simpa [ints] using hl
    subst this
    simp at h1; omega
  refine ⟨by simp, ?_⟩
  refine runL_of_eval (by simp [hwq]; exact ⟨rfl, rfl⟩) ?_
  refine runL_call [23005] [] rfl rfl hI ?_ ?_ ?_ hc ?_
  · simp
  · simp
  · simp
  rintro rv m ⟨rfl, rfl⟩
  have hfin : ints (l.take q ++ l.drop (q + 1)) = (ints l).take q ++ (ints l).drop (q + 1) := by simp [ints, List.map_take, List.map_drop]
  refine ⟨by simp, ?_⟩
  refine runL_end (by simp; rfl) ?_
  simp
  apply J.seq; refine J.regE (by simp; rfl) ?_
  simp
  apply J.ret
  refine ⟨by simp, rfl, _, [(23005, .arr 3 1 (ints (l.take q ++ l.drop (q + 1))))], by simp [a11R]; rfl, ?_⟩
  rw [hfin]
  simp [LeavePost, hbu]
end Go.Proofs.Ytffeomfcjmmgoaa.F
