/- Chapter 17: cmp.Compare, window.find$1, slices.BinarySearchFunc, window.find. -/
import Derived.Test.YtipmodlmmadfbaaL1
set_option linter.unusedVariables false
set_option linter.unusedSimpArgs false
namespace Go.Proofs.Ytipmodlmmadfbaa.F
open Go Go.SX

/-- A number, and what was answered to it. -/
abbrev Tl := Int × Int × Int × ByteArray
abbrev tl (x : Tl) : List AV := [iv x.1, iv x.2.1, iv x.2.2.1, .lit (.string x.2.2.2)]
def tls (l : List Tl) : List (List AV) := l.map tl
section
variable (l m : List Tl) (i : Nat)
@[simp] theorem tls_length : (tls l).length = l.length := by simp [tls]
@[simp] theorem tls_getElem (h : i < (tls l).length) : (tls l)[i] = tl (l[i]'(by simpa using h)) := by simp [tls]
@[simp] theorem tls_append : tls l ++ tls m = tls (l ++ m) := by simp [tls]
@[simp] theorem tls_take : (tls l).take i = tls (l.take i) := by simp [tls, List.map_take]
@[simp] theorem tls_drop : (tls l).drop i = tls (l.drop i) := by simp [tls, List.map_drop]
@[simp] theorem tls_nil : tls [] = [] := rfl
end

abbrev DoesT (f : Nat) (args : List AV) (v : AV) : Prop := Does Try.prog f args [] [] (fun r m => m = [] ∧ r = v)

theorem c25 : chkFn Try.prog 25 6 1 a25 a25R = true := by kernel_rfl
theorem c22 : chkFn Try.prog 22 20 2 a22 a22R = true := by kernel_rfl
theorem c21 : chkFn Try.prog 21 9 2 a21 a21R = true := by kernel_rfl
theorem c20 : chkFn Try.prog 20 49 3 a20 a20R = true := by kernel_rfl
theorem c17 : chkFn Try.prog 17 11 2 a17 a17R = true := by kernel_rfl

theorem d25 (x : Int) : DoesT 25 [iv x] (bv false) := by
  refine Does.of (nt := 6) (ac := a25) (rds := a25R) c25 (fun c hc => ?_)
  unfold a25
  apply J.seq; refine J.regE (by simp; rfl) ?_
  simp
  apply J.seq; refine J.regE (by simp; rfl) ?_
  simp
  apply J.ret
  refine ⟨by simp, rfl, _, [], by simp [a25R]; rfl, ?_⟩
  simp

def cmpI (x y : Int) : Int := if x < y then -1 else if y < x then 1 else 0

theorem d22 (x y : Int) : DoesT 22 [iv x, iv y] (iv (cmpI x y)) := by
  refine Does.of (nt := 20) (ac := a22) (rds := a22R) c22 (fun c hc => ?_)
  unfold a22
  apply J.seq; refine J.regE (by simp; rfl) ?_
  simp
  apply J.seq; refine J.regC (by simp; exact ⟨rfl, rfl⟩) ?_
  refine runL_view (St.le_refl _) rfl rfl (d25 x) (by simp) ?_
  rintro _ _ ⟨rfl, rfl⟩
  refine ⟨rfl, rfl, ?_⟩
  refine runL_end (by simp; rfl) ?_
  simp
  apply J.seq; refine J.regC (by simp; exact ⟨rfl, rfl⟩) ?_
  refine runL_view (St.le_refl _) rfl rfl (d25 y) (by simp) ?_
  rintro _ _ ⟨rfl, rfl⟩
  refine ⟨rfl, rfl, ?_⟩
  refine runL_end (by simp; rfl) ?_
  simp
  apply J.seq; apply J.seq; refine J.regE (by simp; rfl) ?_
  simp
  apply J.cond; simp
  apply J.skip; simp
  apply J.seq; apply J.seq; refine J.regE (by simp; rfl) ?_
  simp
  apply J.cond; simp
  apply J.skip; simp
  apply J.seq; apply J.seq; refine J.regE (by simp; rfl) ?_
  simp
  apply J.cond; simp
  refine ⟨fun h => ?_, fun h => ?_⟩
  · apply J.seq; refine J.regE (by simp; rfl) ?_
    simp
    apply J.ret
    refine ⟨by simp, rfl, _, [], by simp [a22R]; rfl, ?_⟩
    simp [cmpI, h]
  apply J.skip; simp
  apply J.seq; apply J.seq; refine J.regE (by simp; rfl) ?_
  simp
  apply J.cond; simp
  refine ⟨fun h2 => ?_, fun h2 => ?_⟩
  · apply J.seq; refine J.regE (by simp; rfl) ?_
    simp
    apply J.ret
    refine ⟨by simp, rfl, _, [], by simp [a22R]; rfl, ?_⟩
    simp [cmpI, show ¬ x < y from by omega, show y < x from by omega]
  apply J.skip; simp
  apply J.seq; refine J.regE (by simp; rfl) ?_
  simp
  apply J.ret
  refine ⟨by simp, rfl, _, [], by simp [a22R]; rfl, ?_⟩
  simp [cmpI, show ¬ x < y from by omega, show ¬ y < x from by omega]

theorem d21 (x : Tl) (y : Int) : DoesT 21 [.agg (tl x), iv y] (iv (cmpI x.1 y)) := by
  refine Does.of (nt := 9) (ac := a21) (rds := a21R) c21 (fun c hc => ?_)
  unfold a21
  apply J.seq; refine J.regE (by simp; rfl) ?_
  simp
  apply J.seq; refine J.regC (by simp; exact ⟨rfl, rfl⟩) ?_
  refine runL_view (St.le_refl _) rfl rfl (d22 x.1 y) (by simp) ?_
  rintro _ _ ⟨rfl, rfl⟩
  refine ⟨rfl, rfl, ?_⟩
  refine runL_end (by simp; rfl) ?_
  simp
  apply J.ret
  refine ⟨by simp, rfl, _, [], by simp [a21R]; rfl, ?_⟩
  simp

/-- Rows that rise. -/
def Up (l : List Tl) : Prop := ∀ (i j : Nat) (hi : i < l.length) (hj : j < l.length), i < j → l[i].1 < l[j].1
/-- Where a number is, or would be. -/
def At (l : List Tl) (y : Int) (p : Nat) (f : Bool) : Prop := p ≤ l.length ∧ (f = true ↔ ∃ h : p < l.length, l[p].1 = y) ∧ (∀ q (h : q < l.length), q < p → l[q].1 < y) ∧ (∀ q (h : q < l.length), p ≤ q → y ≤ l[q].1)

theorem d20 (l : List Tl) (y : Int) (hu : Up l) (hn : l.length < 1000000) : ∃ p f, At l y p f ∧ DoesT 20 [.ro 4 (tls l), iv y, .fn 21 []] (.tup [iv (p : Int), bv f]) := by
  obtain ⟨p, hp, h1, h2⟩ : ∃ p : Nat, p ≤ l.length ∧ (∀ q (h : q < l.length), q < p → l[q].1 < y) ∧ (∀ q (h : q < l.length), p ≤ q → y ≤ l[q].1) := by
    clear hn
    have : ∀ n, n ≤ l.length → (∀ q (h : q < l.length), n ≤ q → y ≤ l[q].1) → ∃ p : Nat, p ≤ l.length ∧ (∀ q (h : q < l.length), q < p → l[q].1 < y) ∧ (∀ q (h : q < l.length), p ≤ q → y ≤ l[q].1) := by
      intro n
      induction n with
      | zero => exact fun _ h => ⟨0, by omega, fun q _ h => by omega, h⟩
      | succ n ih =>
        intro hn h
        by_cases hy : l[n].1 < y
        · refine ⟨n + 1, hn, fun q hq hqn => ?_, h⟩
          rcases Nat.lt_or_ge q n with h3 | h3
          · have := hu q n hq (by omega) h3; omega
          · have : q = n := by omega
            subst this; exact hy
        · refine ih (by omega) (fun q hq hqn => ?_)
          rcases Nat.lt_or_ge n q with h3 | h3
          · exact h q hq h3
          · have : q = n := by omega
            subst this; omega
    exact this l.length (Nat.le_refl _) (fun q h h' => by omega)
  obtain ⟨f, hf⟩ : ∃ f : Bool, f = true ↔ ∃ h : p < l.length, l[p].1 = y := by
    by_cases h : ∃ h : p < l.length, l[p].1 = y
    · exact ⟨true, by simp [h]⟩
    · exact ⟨false, by simp [h]⟩
  refine ⟨p, f, ⟨hp, hf, h1, h2⟩, ?_⟩
  refine Does.of (nt := 49) (ac := a20) (rds := a20R) c20 (fun c hc => ?_)
  unfold a20
  apply J.seq; refine J.regE (by simp; rfl) ?_
  simp
  apply J.seq; refine J.regE (by simp; rfl) ?_
  simp
  apply J.seq; refine J.regE (by simp; rfl) ?_
  simp
  apply J.seq; apply J.block
  refine J.loop hc (fun n st => ∃ i j : Nat, i ≤ p ∧ p ≤ j ∧ j ≤ l.length ∧ n = j - i ∧ st = ⟨[(0, .ro 4 (tls l)), (1, iv y), (2, .fn 21 []), (8, iv l.length), (9, iv i), (10, iv j)], [], []⟩) ?_ ?_
  · exact ⟨_, _, St.le_refl _, 0, l.length, by omega, hp, Nat.le_refl _, rfl, by simp⟩
  · rintro n st ⟨i, j, hi, hj, hjl, rfl, rfl⟩
    apply J.seq; apply J.seq; refine J.regE (by simp; rfl) ?_
    simp
    apply J.cond; simp
    refine ⟨fun hb => ?_, fun hb => ?_⟩
    · apply J.skip; simp
      have hb' : i < j := by omega
      obtain ⟨m, hm⟩ : ∃ m : Nat, m = (i + j) / 2 := ⟨_, rfl⟩
      have hw1 : IntKind.i64.wrap ((i : Int) + j) = ((i + j : Nat) : Int) := by rw [wrap_id (by omega) (by omega)]; omega
      have hw2 : IntKind.u64.wrap ((i : Int) + j) = (i : Int) + j := IntWalk.u64_in _ ⟨by omega, by omega⟩
      have hw3 : IntKind.i64.wrap ((IntKind.u64.wrap ((i : Int) + j)).fdiv (2 ^ min 1 IntKind.u64.bits)) = (m : Int) := by
        rw [hw2, show (2 : Int) ^ min 1 IntKind.u64.bits = 2 from rfl, Int.fdiv_eq_ediv_of_nonneg _ (by omega), wrap_id (by omega) (by omega)]; omega
      have hm1 : i ≤ m := by omega
      have hm2 : m < j := by omega
      have hml : m < l.length := by omega
      apply J.block
      apply J.seq; refine J.regE (by simp [hw1]; rfl) ?_
      simp
      rw [hw3]
      have hwm : IntKind.i64.wrap ((m : Int) + 1) = m + 1 := wrap_id (by omega) (by omega)
      apply J.seq; refine J.regC (by simp [hml]; exact ⟨rfl, rfl⟩) ?_
      refine runL_view (St.le_refl _) rfl rfl (d21 l[m] y) (by simp) ?_
      rintro _ _ ⟨rfl, rfl⟩
      refine ⟨rfl, rfl, ?_⟩
      refine runL_end (by simp; rfl) ?_
      simp
      apply J.cond; simp
      refine ⟨fun h => ?_, fun h => ?_⟩
      · have hlt : l[m].1 < y := by unfold cmpI at h; split at h; assumption; split at h <;> omega
        refine J.regE (by simp [hwm]; rfl) ?_
        simp
        refine ⟨_, ?_, _, St.le_refl _, m + 1, ?_, j, hj, hjl, rfl, by simp⟩
        · omega
        · rcases Nat.lt_or_ge m p with h3 | h3
          · omega
          · have := h2 m hml h3; omega
      · have hge : y ≤ l[m].1 := by unfold cmpI at h; split at h; omega; split at h <;> omega
        refine J.regE (by simp; rfl) ?_
        simp
        refine ⟨_, ?_, _, St.le_refl _, i, hi, m, ?_, by omega, rfl, by simp⟩
        · omega
        · rcases Nat.lt_or_ge m p with h3 | h3
          · have := h1 m hml h3; omega
          · omega
    · have : i = p := by omega
      subst this
      have : j = i := by omega
      subst this
      apply J.exit; simp
      apply J.seq
      by_cases hil : j < l.length
      · apply J.reg
        repeat refine runL_step rfl (by simp [hil]; rfl) ?_
        refine runL_do rfl ?_
        refine runL_view (St.le_refl _) rfl rfl (d21 l[j] y) (by simp) ?_
        rintro _ _ ⟨rfl, rfl⟩
        refine ⟨rfl, rfl, ?_⟩
        repeat refine runL_step rfl (by simp; rfl) ?_
        simp [runL]
        apply J.ret
        refine ⟨by simp, rfl, _, [], by simp [a20R]; rfl, ?_⟩
        have hfe : f = decide (cmpI l[j].1 y = 0) := by
          cases f
          · have : ¬ l[j].1 = y := fun h => by have := hf.2 ⟨hil, h⟩; cases this
            have : ¬ cmpI l[j].1 y = 0 := by unfold cmpI; split; omega; split <;> omega
            simp [this]
          · obtain ⟨_, h⟩ := hf.1 rfl
            have : cmpI l[j].1 y = 0 := by unfold cmpI; rw [if_neg (by omega), if_neg (by omega)]
            simp [this]
        simp [hfe]
        rfl
      · apply J.reg
        repeat refine runL_step rfl (by simp [hil]; rfl) ?_
        refine runL_skip rfl (by simp) ?_
        repeat refine runL_step rfl (by simp; rfl) ?_
        simp [runL]
        apply J.ret
        refine ⟨by simp, rfl, _, [], by simp [a20R]; rfl, ?_⟩
        have hfe : f = false := by
          cases f
          · rfl
          · obtain ⟨h, _⟩ := hf.1 rfl; exact absurd h hil
        simp [hfe]

theorem d17 (l : List Tl) (y : Int) (p : Nat) (f : Bool) (h : DoesT 20 [.ro 4 (tls l), iv y, .fn 21 []] (.tup [iv (p : Int), bv f])) : DoesT 17 [.ro 4 (tls l), iv y] (.tup [iv (p : Int), bv f]) := by
  refine Does.of (nt := 11) (ac := a17) (rds := a17R) c17 (fun c hc => ?_)
  unfold a17
  apply J.seq; refine J.regE (by simp; rfl) ?_
  simp
  apply J.seq; refine J.regC (by simp; exact ⟨rfl, rfl⟩) ?_
  refine runL_view (St.le_refl _) rfl rfl h (by simp) ?_
  rintro _ _ ⟨rfl, rfl⟩
  refine ⟨rfl, rfl, ?_⟩
  refine runL_end (by simp; rfl) ?_
  simp
  apply J.ret
  refine ⟨by simp, rfl, _, [], by simp [a17R]; rfl, ?_⟩
  simp
end Go.Proofs.Ytipmodlmmadfbaa.F
