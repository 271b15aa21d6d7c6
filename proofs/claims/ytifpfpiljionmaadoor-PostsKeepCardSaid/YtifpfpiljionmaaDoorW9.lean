/- Chapter 16: the document's texts: which bytes go on, a rune's size. Printed by walk.py from w9.walk.py. -/
import Derived.Test.YtifpfpiljionmaaDoorW1
set_option linter.unusedVariables false
set_option linter.unusedSimpArgs false
namespace Go.Proofs.YtifpfpiljionmaaDoor.F
open Go Go.SX

/-- A byte of a text. -/
def bt (s : ByteArray) (i : Nat) : Nat := (s.data.toList.getD i 0).toNat
theorem bt_eq (s : ByteArray) (i : Nat) (h : i < s.size) : s[i].toNat = bt s i := by
  unfold bt
  have h' : i < s.data.toList.length := by simpa using h
  have : s.data.toList.getD i 0 = s.data.toList[i] := by rw [List.getD_eq_getElem?_getD, List.getElem?_eq_getElem h']; rfl
  rw [this]; rfl
theorem bt_lt (s : ByteArray) (i : Nat) : bt s i < 256 := UInt8.toNat_lt _
/-- colloquyref14.follows -/
def folR (s : ByteArray) : Nat → Nat → Bool
  | _, 0 => true
  | i, n + 1 => decide (i < s.size) && decide (128 ≤ bt s i) && decide (bt s i ≤ 191) && folR s (i + 1) n
def I46 (s : ByteArray) (a n m : Nat) (st : St) : Prop := ∃ i : Nat, a ≤ i ∧ i ≤ a + n ∧ m = a + n - i ∧ folR s a n = folR s i (a + n - i) ∧ st = ⟨[(0, sv s), (1, iv a), (2, iv n), (7, iv i)], [], []⟩

theorem c46 : chkFn Tryd.prog 46 32 3 a46 a46R = true := by kernel_rfl
/-- colloquy/colloquyref14.follows -/
theorem d46 (s : ByteArray) (a n : Nat) (hs : s.size ≤ 1000000) (ha : a ≤ 1000000) (hn : n ≤ 3) : DoesT 46 [sv s, iv a, iv n] (bv (folR s a n)) := by
  have hw : IntKind.i64.wrap ((a : Int) + n) = (a : Int) + n := wrap_id (by omega) (by omega)
  refine Does.of (nt := 32) (ac := a46) (rds := a46R) c46 (fun c hc => ?_)
  unfold a46
  apply J.seq
  refine J.regE (by simp [hw, bt_eq]; rfl) ?_
  simp
  apply J.seq
  apply J.seq
  refine J.regE (by simp [hw, bt_eq]; rfl) ?_
  simp
  apply J.block
  refine J.loop hc (I46 s a n) ?_ ?_
  · refine ⟨_, _, St.le_refl _, a, Nat.le_refl _, by omega, rfl, by simp, by simp⟩
  rintro n st ⟨i, hi1, hi2, rfl, hI, rfl⟩
  have hw2 : IntKind.i64.wrap ((i : Int) + 1) = (i : Int) + 1 := wrap_id (by omega) (by omega)
  apply J.seq
  apply J.seq
  refine J.regE (by simp [hw, bt_eq]; rfl) ?_
  simp
  refine J.condB rfl (fun h13 => ?_) (fun h13 => ?_)
  ·
    simp at h13
    obtain ⟨q, hq⟩ : ∃ q, a + n - i = q + 1 := ⟨a + n - i - 1, by omega⟩
    have hn' : a + n - (i + 1) = q := by omega
    rw [hq] at hI
    apply J.skip; simp
    apply J.seq
    apply J.block
    apply J.seq
    apply J.reg
    iterate 5 refine runL_step rfl (by simp [hw, bt_eq]; rfl) ?_
    refine runL_if rfl (fun g20 => ?_) (fun g20 => ?_)
    ·
      try simp only [g20]
      try simp at g20
      iterate 6 refine runL_step rfl (by simp [hw, bt_eq, g20]; rfl) ?_
      refine runL_if rfl (fun g26 => ?_) (fun g26 => ?_)
      ·
        try simp only [g26]
        try simp at g26
        iterate 5 refine runL_step rfl (by simp [hw, bt_eq, g20]; rfl) ?_
        simp [runL]
        refine J.condB rfl (fun h31 => ?_) (fun h31 => ?_)
        ·
          try simp only [h31]
          try simp at h31
          apply J.seq
          refine J.regE (by simp [hw, bt_eq]; rfl) ?_
          simp
          apply J.ret
          refine ⟨by simp, rfl, _, [], by simp [a46R]; rfl, ?_⟩
          simp [folR, *] <;> omega
        ·
          try simp only [h31]
          try simp at h31
          apply J.skip; simp
          refine J.regE (by simp [hw, bt_eq, hw2]; rfl) ?_
          simp
          refine ⟨_, by omega, _, St.le_refl _, i + 1, by omega, by omega, rfl, ?_, by simp⟩
          rw [hI, hn']
          simp [folR, *] <;> omega
      ·
        try simp only [g26]
        try simp at g26
        iterate 4 refine runL_step rfl (by simp [hw, bt_eq, g20]; rfl) ?_
        simp [runL]
        apply J.cond; simp [hw, bt_eq]
        apply J.seq
        refine J.regE (by simp [hw, bt_eq]; rfl) ?_
        simp
        apply J.ret
        refine ⟨by simp, rfl, _, [], by simp [a46R]; rfl, ?_⟩
        simp [folR, *] <;> omega
    ·
      try simp only [g20]
      try simp at g20
      iterate 10 refine runL_step rfl (by simp [hw, bt_eq]; rfl) ?_
      simp [runL]
      apply J.cond; simp [hw, bt_eq]
      apply J.seq
      refine J.regE (by simp [hw, bt_eq]; rfl) ?_
      simp
      apply J.ret
      refine ⟨by simp, rfl, _, [], by simp [a46R]; rfl, ?_⟩
      simp [folR, *] <;> omega
  ·
    simp at h13
    have hz : a + n - i = 0 := by omega
    rw [hz] at hI
    apply J.exit; simp
    apply J.seq
    refine J.regE (by simp [hw, bt_eq]; rfl) ?_
    simp
    apply J.ret
    refine ⟨by simp, rfl, _, [], by simp [a46R]; rfl, ?_⟩
    simp [folR, *] <;> omega

end Go.Proofs.YtifpfpiljionmaaDoor.F
