/- Chapter 16: the document's texts are the program's. Plain. -/
import Derived.Test.YtifpfpiljionmaaDoorW10
import Derived.Lib.ValidLaws
set_option linter.unusedVariables false
set_option linter.unusedSimpArgs false
namespace Go.Proofs.YtifpfpiljionmaaDoor.F
open Go Go.SX

theorem getD_drop (s : ByteArray) (i k : Nat) : ((s.data.toList.drop i).getD k 0).toNat = bt s (i + k) := by
  unfold bt
  simp [List.getD_eq_getElem?_getD]
theorem get_bt (s : ByteArray) (i : Nat) : (s.get! i).toNat = bt s i := by
  unfold bt
  show (s.data[i]!).toNat = _
  rw [List.getD_eq_getElem?_getD]
  congr 1
  rw [getElem!_def]
  rw [show s.data.toList[i]? = s.data[i]? from by simp]
  cases s.data[i]? <;> rfl
theorem decode_drop (s : ByteArray) (i : Nat) : Utf8.decode s i = Lib.decodeL (s.data.toList.drop i) := by
  rw [Lib.decode_at, Lib.decodeL_N]
  simp only [getD_drop, get_bt, Nat.add_zero, List.length_drop]
  rfl

theorem fol1 (s : ByteArray) (i : Nat) : folR s (i + 1) 1 = true ↔ i + 1 < s.size ∧ 128 ≤ bt s (i + 1) ∧ bt s (i + 1) ≤ 191 := by simp [folR, and_assoc]
theorem fol2 (s : ByteArray) (i : Nat) : folR s (i + 1) 2 = true ↔ (i + 1 < s.size ∧ 128 ≤ bt s (i + 1) ∧ bt s (i + 1) ≤ 191) ∧ i + 2 < s.size ∧ 128 ≤ bt s (i + 2) ∧ bt s (i + 2) ≤ 191 := by simp [folR, and_assoc]
theorem fol3 (s : ByteArray) (i : Nat) : folR s (i + 1) 3 = true ↔ (i + 1 < s.size ∧ 128 ≤ bt s (i + 1) ∧ bt s (i + 1) ≤ 191) ∧ (i + 2 < s.size ∧ 128 ≤ bt s (i + 2) ∧ bt s (i + 2) ≤ 191) ∧ i + 3 < s.size ∧ 128 ≤ bt s (i + 3) ∧ bt s (i + 3) ≤ 191 := by simp [folR, and_assoc]

theorem check_size (s : ByteArray) (i : Nat) (hi : i < s.size) (h : 128 ≤ bt s i) :
    Lib.checkN (s.size - i) (bt s (i + 1)) (bt s (i + 2)) (bt s (i + 3)) (Lib.firstT (bt s i) % 8) (Lib.accLo (Lib.firstT (bt s i) / 16)) (Lib.accHi (Lib.firstT (bt s i) / 16)) = if sizeR s i = 0 then none else some (sizeR s i) := by
  have hlt := bt_lt s i
  unfold sizeR
  simp only [fol1, fol2, fol3]
  generalize bt s (i + 1) = b1
  generalize bt s (i + 2) = b2
  generalize bt s (i + 3) = b3
  generalize hb : bt s i = b0 at h hlt
  obtain ⟨n, hn⟩ : ∃ n, s.size = i + n := ⟨s.size - i, by omega⟩
  have e1 : ∀ k, (i + k < s.size) = (k < n) := fun k => propext ⟨fun h => by omega, fun h => by omega⟩
  have e2 : s.size - i = n := by omega
  simp only [e1, e2]
  clear hb hn e1 e2 hi
  by_cases c0 : b0 < 194
  · have f1 : Lib.firstT b0 = 241 := by simp [Lib.firstT, show ¬ b0 < 128 by omega, c0]
    simp only [f1, Lib.checkN, show ¬ b0 < 128 by omega, if_false]
    simp
    repeat' split
    all_goals first | rfl | (exfalso; omega) | omega
  by_cases c1 : b0 < 224
  · have f1 : Lib.firstT b0 = 2 := by simp [Lib.firstT, show ¬ b0 < 128 by omega, c0, c1]
    simp only [f1, Lib.checkN, Lib.accLo, Lib.accHi, show ¬ b0 < 128 by omega, if_false]
    simp
    repeat' split
    all_goals first | rfl | (exfalso; omega) | omega
  by_cases c2 : b0 = 224
  · subst c2
    simp only [show Lib.firstT 224 = 19 from rfl, Lib.checkN, Lib.accLo, Lib.accHi]
    simp
    repeat' split
    all_goals first | rfl | (exfalso; omega) | omega
  by_cases c3 : b0 < 237
  · have f1 : Lib.firstT b0 = 3 := by simp [Lib.firstT, show ¬ b0 < 128 by omega, c0, c1, c2, c3]
    simp only [f1, Lib.checkN, Lib.accLo, Lib.accHi, show ¬ b0 < 128 by omega, if_false]
    simp
    repeat' split
    all_goals first | rfl | (exfalso; omega) | omega
  by_cases c4 : b0 = 237
  · subst c4
    simp only [show Lib.firstT 237 = 35 from rfl, Lib.checkN, Lib.accLo, Lib.accHi]
    simp
    repeat' split
    all_goals first | rfl | (exfalso; omega) | omega
  by_cases c5 : b0 < 240
  · have f1 : Lib.firstT b0 = 3 := by simp [Lib.firstT, show ¬ b0 < 128 by omega, c0, c1, c2, c3, c4, c5]
    simp only [f1, Lib.checkN, Lib.accLo, Lib.accHi, show ¬ b0 < 128 by omega, if_false]
    simp
    repeat' split
    all_goals first | rfl | (exfalso; omega) | omega
  by_cases c6 : b0 = 240
  · subst c6
    simp only [show Lib.firstT 240 = 52 from rfl, Lib.checkN, Lib.accLo, Lib.accHi]
    simp
    repeat' split
    all_goals first | rfl | (exfalso; omega) | omega
  by_cases c7 : b0 < 244
  · have f1 : Lib.firstT b0 = 4 := by simp [Lib.firstT, show ¬ b0 < 128 by omega, c0, c1, c2, c3, c4, c5, c6, c7]
    simp only [f1, Lib.checkN, Lib.accLo, Lib.accHi, show ¬ b0 < 128 by omega, if_false]
    simp
    repeat' split
    all_goals first | rfl | (exfalso; omega) | omega
  by_cases c8 : b0 = 244
  · subst c8
    simp only [show Lib.firstT 244 = 68 from rfl, Lib.checkN, Lib.accLo, Lib.accHi]
    simp
    repeat' split
    all_goals first | rfl | (exfalso; omega) | omega
  · have f1 : Lib.firstT b0 = 241 := by simp [Lib.firstT, show ¬ b0 < 128 by omega, c0, c1, c2, c3, c4, c5, c6, c7, c8]
    simp only [f1, Lib.checkN, show ¬ b0 < 128 by omega, if_false]
    simp
    repeat' split
    all_goals first | rfl | (exfalso; omega) | omega

theorem mayT_eq (s : ByteArray) : ∀ (f i : Nat), s.size ≤ i + f → mayT s f i = (Lib.validD (s.data.toList.drop i) && Tryd.runes s f i)
  | 0, i, h => by
    have : s.data.toList.drop i = [] := List.drop_eq_nil_of_le (by simpa using h)
    simp [mayT, Tryd.runes, this, Lib.validD_nil]
  | f + 1, i, h => by
    by_cases hi : i < s.size
    · have hne : s.data.toList.drop i ≠ [] := by
        intro h0; have := congrArg List.length h0; simp at this; have h2 : s.data.size = s.size := rfl; omega
      simp only [mayT, Tryd.runes, hi, if_true]
      by_cases ha : bt s i < 128
      · have hs : sizeR s i = 1 := by simp [sizeR, ha]
        have hd : Utf8.decode s i = (bt s i, 1) := by rw [decode_ascii s i hi (by rw [bt_eq]; exact ha), bt_eq]
        have hv : Lib.validD (s.data.toList.drop i) = Lib.validD (s.data.toList.drop (i + 1)) := by
          rw [Lib.validD_ascii 1 _ (fun b hb => ?_), List.drop_drop]
          have h0 : (s.data.toList.drop i).take 1 = [(s.data.toList.drop i).getD 0 0] := by
            cases hl : s.data.toList.drop i with
            | nil => exact absurd hl hne
            | cons x r => simp
          rw [h0] at hb
          simp only [List.mem_singleton] at hb
          subst hb
          rw [getD_drop]; exact ha
        rw [hs, hd, hv]
        simp only [Nat.one_ne_zero, false_or]
        split
        · simp
        · exact mayT_eq s f (i + 1) (by omega)
      · have hlead := Lib.validD_lead (s.data.toList.drop i) hne (by rw [getD_drop]; simpa using ha)
        simp only [getD_drop, Nat.add_zero, List.length_drop] at hlead
        have hsz : s.data.toList.length = s.size := by simp
        rw [hsz, check_size s i hi (by omega)] at hlead
        have hcd := Lib.check_decode (s.size - i) (bt s i) (bt s (i + 1)) (bt s (i + 2)) (bt s (i + 3)) (by omega) (by omega) (bt_lt _ _) (bt_lt _ _) (bt_lt _ _) (bt_lt _ _)
        rw [check_size s i hi (by omega)] at hcd
        have hdec : Utf8.decode s i = Lib.decodeN (s.size - i) (bt s i) (bt s (i + 1)) (bt s (i + 2)) (bt s (i + 3)) := by rw [Lib.decode_at]; simp only [get_bt]
        by_cases hz : sizeR s i = 0
        · rw [if_pos hz] at hlead
          simp [hlead, hz]
        · rw [if_neg hz] at hlead hcd
          have hw : (Utf8.decode s i).2 = sizeR s i := by
            rcases hcd with ⟨h1, _⟩ | ⟨k, _, h1, h2⟩
            · cases h1
            · injection h1 with h1; rw [hdec, h2, h1]
          have hhi := (decode_high s i hi (by rw [bt_eq]; omega)).1
          simp only at hlead
          rw [hlead, hw, if_neg (by omega), if_neg (by omega), mayT_eq s f (i + sizeR s i) (by omega), List.drop_drop]
    · have : s.data.toList.drop i = [] := List.drop_eq_nil_of_le (by have h2 : s.data.size = s.size := rfl; simp; omega)
      simp [mayT, Tryd.runes, hi, this, Lib.validD_nil]

/-- The document's texts are the program's. -/
theorem may_eq (s : ByteArray) : (decide (1 ≤ s.size) && decide (s.size ≤ 64) && mayT s s.size 0) = Tryd.mayR s := by
  rw [mayT_eq s s.size 0 (by omega)]
  unfold Tryd.mayR
  simp [Bool.and_assoc]

theorem d40r (s : ByteArray) (hs : s.size ≤ 100000) : Does Tryd.prog 40 [sv s] [] [] (fun r' m => m = [] ∧ r' = bv (Tryd.mayR s)) := by
  have := d40 s hs
  rw [may_eq] at this
  exact this
end Go.Proofs.YtifpfpiljionmaaDoor.F
