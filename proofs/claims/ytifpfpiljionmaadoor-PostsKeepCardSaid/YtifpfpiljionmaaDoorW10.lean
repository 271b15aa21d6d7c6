/- Chapter 16: the document's size of a rune; may a text be? Printed by walk.py from w10.walk.py. -/
import Derived.Test.YtifpfpiljionmaaDoorW9
set_option linter.unusedVariables false
set_option linter.unusedSimpArgs false
namespace Go.Proofs.YtifpfpiljionmaaDoor.F
open Go Go.SX

theorem fol_lt {s : ByteArray} {i n : Nat} (h : folR s i (n + 1) = true) : i < s.size := by simp only [folR, Bool.and_eq_true, decide_eq_true_eq] at h; exact h.1.1.1
/-- colloquyref14.size -/
def sizeR (s : ByteArray) (i : Nat) : Nat :=
  if bt s i < 128 then 1
  else if (194 ≤ bt s i ∧ bt s i ≤ 223) ∧ folR s (i + 1) 1 = true then 2
  else if (224 ≤ bt s i ∧ bt s i ≤ 239) ∧ folR s (i + 1) 2 = true then (if (bt s i = 224 ∧ bt s (i + 1) < 160) ∨ (bt s i = 237 ∧ 159 < bt s (i + 1)) then 0 else 3)
  else if (240 ≤ bt s i ∧ bt s i ≤ 244) ∧ folR s (i + 1) 3 = true then (if (bt s i = 240 ∧ bt s (i + 1) < 144) ∨ (bt s i = 244 ∧ 143 < bt s (i + 1)) then 0 else 4)
  else 0
def mayT (s : ByteArray) : Nat → Nat → Bool
  | 0, _ => true
  | f + 1, i => if i < s.size then (if sizeR s i = 0 ∨ bt s i < 32 ∨ bt s i = 127 then false else mayT s f (i + sizeR s i)) else true
theorem sizeR_le (s : ByteArray) (i : Nat) : sizeR s i ≤ 4 := by unfold sizeR; repeat' split
                                                                 all_goals omega
theorem mayT_end {s : ByteArray} {f i : Nat} (h : ¬ i < s.size) : mayT s f i = true := by cases f <;> simp [mayT, h]
def I40 (s : ByteArray) (m : Nat) (st : St) : Prop := ∃ i f : Nat, i ≤ s.size + 4 ∧ m = s.size + 4 - i ∧ s.size ≤ i + f ∧ mayT s s.size 0 = mayT s f i ∧ st = ⟨[(0, sv s), (3, iv i)], [], []⟩

theorem c44 : chkFn Tryd.prog 44 91 2 a44 a44R = true := by kernel_rfl
/-- colloquy/colloquyref14.size -/
theorem d44 (s : ByteArray) (i : Nat) (hs : s.size ≤ 100000) (hi : i < s.size) : DoesT 44 [sv s, iv i] (iv (sizeR s i : Nat)) := by
  have hw : IntKind.i64.wrap ((i : Int) + 1) = (i : Int) + 1 := wrap_id (by omega) (by omega)
  have f1 := d46 s (i + 1) 1 (by omega) (by omega) (by omega)
  have f2 := d46 s (i + 1) 2 (by omega) (by omega) (by omega)
  have f3 := d46 s (i + 1) 3 (by omega) (by omega) (by omega)
  refine Does.of (nt := 91) (ac := a44) (rds := a44R) c44 (fun c hc => ?_)
  unfold a44
  apply J.seq
  refine J.regE (by simp [hw, hi, bt_eq]; rfl) ?_
  simp
  apply J.seq
  refine J.regE (by simp [hw, hi, bt_eq]; rfl) ?_
  simp
  apply J.seq
  apply J.seq
  refine J.regE (by simp [hw, hi, bt_eq]; rfl) ?_
  simp
  refine J.condB rfl (fun h15 => ?_) (fun h15 => ?_)
  ·
    try simp only [h15]
    try simp at h15
    try (exfalso; omega)
    all_goals
      apply J.seq
      refine J.regE (by simp [hw, hi, bt_eq]; rfl) ?_
      simp
      apply J.ret
      refine ⟨by simp, rfl, _, [], by simp [a44R]; rfl, ?_⟩
      simp
      unfold sizeR
      (repeat' split) <;> first | omega | (simp_all; done) | (simp_all; omega)
  ·
    try simp only [h15]
    try simp at h15
    try (exfalso; omega)
    all_goals
      apply J.skip; simp
      apply J.seq
      apply J.reg
      iterate 3 refine runL_step rfl (by simp [hw, hi, bt_eq]; rfl) ?_
      refine runL_tree rfl (f1) (by simp) hc ?_
      simp
      refine runL_step rfl (by simp [hw, hi, bt_eq]; rfl) ?_
      simp [runL]
      apply J.seq
      apply J.reg
      iterate 3 refine runL_step rfl (by simp [hw, hi, bt_eq]; rfl) ?_
      refine runL_tree rfl (f2) (by simp) hc ?_
      simp
      refine runL_step rfl (by simp [hw, hi, bt_eq]; rfl) ?_
      simp [runL]
      apply J.seq
      apply J.reg
      iterate 3 refine runL_step rfl (by simp [hw, hi, bt_eq]; rfl) ?_
      refine runL_tree rfl (f3) (by simp) hc ?_
      simp
      refine runL_step rfl (by simp [hw, hi, bt_eq]; rfl) ?_
      simp [runL]
      apply J.seq
      apply J.seq
      apply J.reg
      iterate 3 refine runL_step rfl (by simp [hw, hi, bt_eq]; rfl) ?_
      refine runL_if rfl (fun g30 => ?_) (fun g30 => ?_)
      ·
        try simp only [g30]
        try simp at g30
        try (exfalso; omega)
        all_goals
          iterate 4 refine runL_step rfl (by simp [hw, hi, bt_eq]; rfl) ?_
          refine runL_if rfl (fun g34 => ?_) (fun g34 => ?_)
          ·
            try simp only [g34]
            try simp at g34
            try (exfalso; omega)
            all_goals
              iterate 2 refine runL_step rfl (by simp [hw, hi, bt_eq]; rfl) ?_
              simp [runL]
              refine J.condB rfl (fun h36 => ?_) (fun h36 => ?_)
              ·
                try simp only [h36]
                try simp at h36
                try (exfalso; omega)
                all_goals
                  apply J.seq
                  refine J.regE (by simp [hw, hi, bt_eq]; rfl) ?_
                  simp
                  apply J.ret
                  refine ⟨by simp, rfl, _, [], by simp [a44R]; rfl, ?_⟩
                  simp
                  unfold sizeR
                  (repeat' split) <;> first | omega | (simp_all; done) | (simp_all; omega)
              ·
                try simp only [h36]
                try simp at h36
                try (exfalso; omega)
                all_goals
                  apply J.skip; simp
                  apply J.seq
                  apply J.seq
                  apply J.reg
                  iterate 3 refine runL_step rfl (by simp [hw, hi, bt_eq]; rfl) ?_
                  refine runL_if rfl (fun g39 => ?_) (fun g39 => ?_)
                  ·
                    try simp only [g39]
                    try simp at g39
                    try (exfalso; omega)
                    all_goals
                      iterate 4 refine runL_step rfl (by simp [hw, hi, bt_eq]; rfl) ?_
                      refine runL_if rfl (fun g43 => ?_) (fun g43 => ?_)
                      ·
                        try simp only [g43]
                        try simp at g43
                        try (exfalso; omega)
                        all_goals
                          iterate 2 refine runL_step rfl (by simp [hw, hi, bt_eq]; rfl) ?_
                          simp [runL]
                          refine J.condB rfl (fun h45 => ?_) (fun h45 => ?_)
                          ·
                            have hlt := fol_lt h45
                            try (exfalso; omega)
                            all_goals
                              apply J.seq
                              refine J.regE (by simp [hw, hi, bt_eq, hlt]; rfl) ?_
                              simp
                              apply J.seq
                              apply J.seq
                              apply J.reg
                              iterate 3 refine runL_step rfl (by simp [hw, hi, bt_eq]; rfl) ?_
                              refine runL_if rfl (fun g52 => ?_) (fun g52 => ?_)
                              ·
                                try simp only [g52]
                                try simp at g52
                                try (exfalso; omega)
                                all_goals
                                  iterate 4 refine runL_step rfl (by simp [hw, hi, bt_eq]; rfl) ?_
                                  refine runL_if rfl (fun g56 => ?_) (fun g56 => ?_)
                                  ·
                                    try simp only [g56]
                                    try simp at g56
                                    try (exfalso; omega)
                                    all_goals
                                      iterate 3 refine runL_step rfl (by simp [hw, hi, bt_eq]; rfl) ?_
                                      refine runL_if rfl (fun g59 => ?_) (fun g59 => ?_)
                                      ·
                                        try simp only [g59]
                                        try simp at g59
                                        try (exfalso; omega)
                                        all_goals
                                          iterate 4 refine runL_step rfl (by simp [hw, hi, bt_eq]; rfl) ?_
                                          simp [runL]
                                          refine J.condB rfl (fun h63 => ?_) (fun h63 => ?_)
                                          ·
                                            try simp only [h63]
                                            try simp at h63
                                            try (exfalso; omega)
                                            all_goals
                                              apply J.seq
                                              refine J.regE (by simp [hw, hi, bt_eq]; rfl) ?_
                                              simp
                                              apply J.ret
                                              refine ⟨by simp, rfl, _, [], by simp [a44R]; rfl, ?_⟩
                                              simp
                                              unfold sizeR
                                              (repeat' split) <;> first | omega | (simp_all; done) | (simp_all; omega)
                                          ·
                                            try simp only [h63]
                                            try simp at h63
                                            try (exfalso; omega)
                                            all_goals
                                              apply J.skip; simp
                                              apply J.seq
                                              refine J.regE (by simp [hw, hi, bt_eq]; rfl) ?_
                                              simp
                                              apply J.ret
                                              refine ⟨by simp, rfl, _, [], by simp [a44R]; rfl, ?_⟩
                                              simp
                                              unfold sizeR
                                              (repeat' split) <;> first | omega | (simp_all; done) | (simp_all; omega)
                                      ·
                                        try simp only [g59]
                                        try simp at g59
                                        try (exfalso; omega)
                                        all_goals
                                          iterate 3 refine runL_step rfl (by simp [hw, hi, bt_eq]; rfl) ?_
                                          simp [runL]
                                          apply J.cond; simp [hw, hi, bt_eq]
                                          apply J.skip; simp
                                          apply J.seq
                                          refine J.regE (by simp [hw, hi, bt_eq]; rfl) ?_
                                          simp
                                          apply J.ret
                                          refine ⟨by simp, rfl, _, [], by simp [a44R]; rfl, ?_⟩
                                          simp
                                          unfold sizeR
                                          (repeat' split) <;> first | omega | (simp_all; done) | (simp_all; omega)
                                  ·
                                    try simp only [g56]
                                    try simp at g56
                                    try (exfalso; omega)
                                    all_goals
                                      iterate 6 refine runL_step rfl (by simp [hw, hi, bt_eq]; rfl) ?_
                                      simp [runL]
                                      apply J.cond; simp [hw, hi, bt_eq]
                                      apply J.seq
                                      refine J.regE (by simp [hw, hi, bt_eq]; rfl) ?_
                                      simp
                                      apply J.ret
                                      refine ⟨by simp, rfl, _, [], by simp [a44R]; rfl, ?_⟩
                                      simp
                                      unfold sizeR
                                      (repeat' split) <;> first | omega | (simp_all; done) | (simp_all; omega)
                              ·
                                try simp only [g52]
                                try simp at g52
                                try (exfalso; omega)
                                all_goals
                                  iterate 6 refine runL_step rfl (by simp [hw, hi, bt_eq]; rfl) ?_
                                  refine runL_if rfl (fun g59 => ?_) (fun g59 => ?_)
                                  ·
                                    try simp only [g59]
                                    try simp at g59
                                    try (exfalso; omega)
                                    all_goals
                                      iterate 4 refine runL_step rfl (by simp [hw, hi, bt_eq]; rfl) ?_
                                      simp [runL]
                                      refine J.condB rfl (fun h63 => ?_) (fun h63 => ?_)
                                      ·
                                        try simp only [h63]
                                        try simp at h63
                                        try (exfalso; omega)
                                        all_goals
                                          apply J.seq
                                          refine J.regE (by simp [hw, hi, bt_eq]; rfl) ?_
                                          simp
                                          apply J.ret
                                          refine ⟨by simp, rfl, _, [], by simp [a44R]; rfl, ?_⟩
                                          simp
                                          unfold sizeR
                                          (repeat' split) <;> first | omega | (simp_all; done) | (simp_all; omega)
                                      ·
                                        try simp only [h63]
                                        try simp at h63
                                        try (exfalso; omega)
                                        all_goals
                                          apply J.skip; simp
                                          apply J.seq
                                          refine J.regE (by simp [hw, hi, bt_eq]; rfl) ?_
                                          simp
                                          apply J.ret
                                          refine ⟨by simp, rfl, _, [], by simp [a44R]; rfl, ?_⟩
                                          simp
                                          unfold sizeR
                                          (repeat' split) <;> first | omega | (simp_all; done) | (simp_all; omega)
                                  ·
                                    try simp only [g59]
                                    try simp at g59
                                    try (exfalso; omega)
                                    all_goals
                                      iterate 3 refine runL_step rfl (by simp [hw, hi, bt_eq]; rfl) ?_
                                      simp [runL]
                                      apply J.cond; simp [hw, hi, bt_eq]
                                      apply J.skip; simp
                                      apply J.seq
                                      refine J.regE (by simp [hw, hi, bt_eq]; rfl) ?_
                                      simp
                                      apply J.ret
                                      refine ⟨by simp, rfl, _, [], by simp [a44R]; rfl, ?_⟩
                                      simp
                                      unfold sizeR
                                      (repeat' split) <;> first | omega | (simp_all; done) | (simp_all; omega)
                          ·
                            try (exfalso; omega)
                            all_goals
                              apply J.skip; simp
                              apply J.seq
                              apply J.seq
                              apply J.reg
                              iterate 3 refine runL_step rfl (by simp [hw, hi, bt_eq]; rfl) ?_
                              refine runL_if rfl (fun g66 => ?_) (fun g66 => ?_)
                              ·
                                try simp only [g66]
                                try simp at g66
                                try (exfalso; omega)
                                all_goals
                                  iterate 4 refine runL_step rfl (by simp [hw, hi, bt_eq]; rfl) ?_
                                  refine runL_if rfl (fun g70 => ?_) (fun g70 => ?_)
                                  ·
                                    try simp only [g70]
                                    try simp at g70
                                    try (exfalso; omega)
                                    all_goals
                                      iterate 2 refine runL_step rfl (by simp [hw, hi, bt_eq]; rfl) ?_
                                      simp [runL]
                                      refine J.condB rfl (fun h72 => ?_) (fun h72 => ?_)
                                      ·
                                        have hlt := fol_lt h72
                                        try (exfalso; omega)
                                        all_goals
                                          apply J.seq
                                          refine J.regE (by simp [hw, hi, bt_eq, hlt]; rfl) ?_
                                          simp
                                          apply J.seq
                                          apply J.seq
                                          apply J.reg
                                          iterate 3 refine runL_step rfl (by simp [hw, hi, bt_eq]; rfl) ?_
                                          refine runL_if rfl (fun g79 => ?_) (fun g79 => ?_)
                                          ·
                                            try simp only [g79]
                                            try simp at g79
                                            try (exfalso; omega)
                                            all_goals
                                              iterate 4 refine runL_step rfl (by simp [hw, hi, bt_eq]; rfl) ?_
                                              refine runL_if rfl (fun g83 => ?_) (fun g83 => ?_)
                                              ·
                                                try simp only [g83]
                                                try simp at g83
                                                try (exfalso; omega)
                                                all_goals
                                                  iterate 3 refine runL_step rfl (by simp [hw, hi, bt_eq]; rfl) ?_
                                                  refine runL_if rfl (fun g86 => ?_) (fun g86 => ?_)
                                                  ·
                                                    try simp only [g86]
                                                    try simp at g86
                                                    try (exfalso; omega)
                                                    all_goals
                                                      iterate 4 refine runL_step rfl (by simp [hw, hi, bt_eq]; rfl) ?_
                                                      simp [runL]
                                                      refine J.condB rfl (fun h90 => ?_) (fun h90 => ?_)
                                                      ·
                                                        try simp only [h90]
                                                        try simp at h90
                                                        try (exfalso; omega)
                                                        all_goals
                                                          apply J.seq
                                                          refine J.regE (by simp [hw, hi, bt_eq]; rfl) ?_
                                                          simp
                                                          apply J.ret
                                                          refine ⟨by simp, rfl, _, [], by simp [a44R]; rfl, ?_⟩
                                                          simp
                                                          unfold sizeR
                                                          (repeat' split) <;> first | omega | (simp_all; done) | (simp_all; omega)
                                                      ·
                                                        try simp only [h90]
                                                        try simp at h90
                                                        try (exfalso; omega)
                                                        all_goals
                                                          apply J.skip; simp
                                                          apply J.seq
                                                          refine J.regE (by simp [hw, hi, bt_eq]; rfl) ?_
                                                          simp
                                                          apply J.ret
                                                          refine ⟨by simp, rfl, _, [], by simp [a44R]; rfl, ?_⟩
                                                          simp
                                                          unfold sizeR
                                                          (repeat' split) <;> first | omega | (simp_all; done) | (simp_all; omega)
                                                  ·
                                                    try simp only [g86]
                                                    try simp at g86
                                                    try (exfalso; omega)
                                                    all_goals
                                                      iterate 3 refine runL_step rfl (by simp [hw, hi, bt_eq]; rfl) ?_
                                                      simp [runL]
                                                      apply J.cond; simp [hw, hi, bt_eq]
                                                      apply J.skip; simp
                                                      apply J.seq
                                                      refine J.regE (by simp [hw, hi, bt_eq]; rfl) ?_
                                                      simp
                                                      apply J.ret
                                                      refine ⟨by simp, rfl, _, [], by simp [a44R]; rfl, ?_⟩
                                                      simp
                                                      unfold sizeR
                                                      (repeat' split) <;> first | omega | (simp_all; done) | (simp_all; omega)
                                              ·
                                                try simp only [g83]
                                                try simp at g83
                                                try (exfalso; omega)
                                                all_goals
                                                  iterate 6 refine runL_step rfl (by simp [hw, hi, bt_eq]; rfl) ?_
                                                  simp [runL]
                                                  apply J.cond; simp [hw, hi, bt_eq]
                                                  apply J.seq
                                                  refine J.regE (by simp [hw, hi, bt_eq]; rfl) ?_
                                                  simp
                                                  apply J.ret
                                                  refine ⟨by simp, rfl, _, [], by simp [a44R]; rfl, ?_⟩
                                                  simp
                                                  unfold sizeR
                                                  (repeat' split) <;> first | omega | (simp_all; done) | (simp_all; omega)
                                          ·
                                            try simp only [g79]
                                            try simp at g79
                                            try (exfalso; omega)
                                            all_goals
                                              iterate 6 refine runL_step rfl (by simp [hw, hi, bt_eq]; rfl) ?_
                                              refine runL_if rfl (fun g86 => ?_) (fun g86 => ?_)
                                              ·
                                                try simp only [g86]
                                                try simp at g86
                                                try (exfalso; omega)
                                                all_goals
                                                  iterate 4 refine runL_step rfl (by simp [hw, hi, bt_eq]; rfl) ?_
                                                  simp [runL]
                                                  refine J.condB rfl (fun h90 => ?_) (fun h90 => ?_)
                                                  ·
                                                    try simp only [h90]
                                                    try simp at h90
                                                    try (exfalso; omega)
                                                    all_goals
                                                      apply J.seq
                                                      refine J.regE (by simp [hw, hi, bt_eq]; rfl) ?_
                                                      simp
                                                      apply J.ret
                                                      refine ⟨by simp, rfl, _, [], by simp [a44R]; rfl, ?_⟩
                                                      simp
                                                      unfold sizeR
                                                      (repeat' split) <;> first | omega | (simp_all; done) | (simp_all; omega)
                                                  ·
                                                    try simp only [h90]
                                                    try simp at h90
                                                    try (exfalso; omega)
                                                    all_goals
                                                      apply J.skip; simp
                                                      apply J.seq
                                                      refine J.regE (by simp [hw, hi, bt_eq]; rfl) ?_
                                                      simp
                                                      apply J.ret
                                                      refine ⟨by simp, rfl, _, [], by simp [a44R]; rfl, ?_⟩
                                                      simp
                                                      unfold sizeR
                                                      (repeat' split) <;> first | omega | (simp_all; done) | (simp_all; omega)
                                              ·
                                                try simp only [g86]
                                                try simp at g86
                                                try (exfalso; omega)
                                                all_goals
                                                  iterate 3 refine runL_step rfl (by simp [hw, hi, bt_eq]; rfl) ?_
                                                  simp [runL]
                                                  apply J.cond; simp [hw, hi, bt_eq]
                                                  apply J.skip; simp
                                                  apply J.seq
                                                  refine J.regE (by simp [hw, hi, bt_eq]; rfl) ?_
                                                  simp
                                                  apply J.ret
                                                  refine ⟨by simp, rfl, _, [], by simp [a44R]; rfl, ?_⟩
                                                  simp
                                                  unfold sizeR
                                                  (repeat' split) <;> first | omega | (simp_all; done) | (simp_all; omega)
                                      ·
                                        try (exfalso; omega)
                                        all_goals
                                          apply J.skip; simp
                                          apply J.seq
                                          refine J.regE (by simp [hw, hi, bt_eq]; rfl) ?_
                                          simp
                                          apply J.ret
                                          refine ⟨by simp, rfl, _, [], by simp [a44R]; rfl, ?_⟩
                                          simp
                                          unfold sizeR
                                          (repeat' split) <;> first | omega | (simp_all; done) | (simp_all; omega)
                                  ·
                                    try simp only [g70]
                                    try simp at g70
                                    try (exfalso; omega)
                                    all_goals
                                      refine runL_step rfl (by simp [hw, hi, bt_eq]; rfl) ?_
                                      simp [runL]
                                      apply J.cond; simp [hw, hi, bt_eq]
                                      apply J.skip; simp
                                      apply J.seq
                                      refine J.regE (by simp [hw, hi, bt_eq]; rfl) ?_
                                      simp
                                      apply J.ret
                                      refine ⟨by simp, rfl, _, [], by simp [a44R]; rfl, ?_⟩
                                      simp
                                      unfold sizeR
                                      (repeat' split) <;> first | omega | (simp_all; done) | (simp_all; omega)
                              ·
                                try simp only [g66]
                                try simp at g66
                                try (exfalso; omega)
                                all_goals
                                  iterate 5 refine runL_step rfl (by simp [hw, hi, bt_eq]; rfl) ?_
                                  simp [runL]
                                  apply J.cond; simp [hw, hi, bt_eq]
                                  apply J.skip; simp
                                  apply J.seq
                                  refine J.regE (by simp [hw, hi, bt_eq]; rfl) ?_
                                  simp
                                  apply J.ret
                                  refine ⟨by simp, rfl, _, [], by simp [a44R]; rfl, ?_⟩
                                  simp
                                  unfold sizeR
                                  (repeat' split) <;> first | omega | (simp_all; done) | (simp_all; omega)
                      ·
                        try simp only [g43]
                        try simp at g43
                        try (exfalso; omega)
                        all_goals
                          refine runL_step rfl (by simp [hw, hi, bt_eq]; rfl) ?_
                          simp [runL]
                          apply J.cond; simp [hw, hi, bt_eq]
                          apply J.skip; simp
                          apply J.seq
                          apply J.seq
                          apply J.reg
                          iterate 3 refine runL_step rfl (by simp [hw, hi, bt_eq]; rfl) ?_
                          refine runL_if rfl (fun g66 => ?_) (fun g66 => ?_)
                          ·
                            try simp only [g66]
                            try simp at g66
                            try (exfalso; omega)
                            all_goals
                              iterate 4 refine runL_step rfl (by simp [hw, hi, bt_eq]; rfl) ?_
                              refine runL_if rfl (fun g70 => ?_) (fun g70 => ?_)
                              ·
                                try simp only [g70]
                                try simp at g70
                                try (exfalso; omega)
                                all_goals
                                  iterate 2 refine runL_step rfl (by simp [hw, hi, bt_eq]; rfl) ?_
                                  simp [runL]
                                  refine J.condB rfl (fun h72 => ?_) (fun h72 => ?_)
                                  ·
                                    have hlt := fol_lt h72
                                    try (exfalso; omega)
                                    all_goals
                                      apply J.seq
                                      refine J.regE (by simp [hw, hi, bt_eq, hlt]; rfl) ?_
                                      simp
                                      apply J.seq
                                      apply J.seq
                                      apply J.reg
                                      iterate 3 refine runL_step rfl (by simp [hw, hi, bt_eq]; rfl) ?_
                                      refine runL_if rfl (fun g79 => ?_) (fun g79 => ?_)
                                      ·
                                        try simp only [g79]
                                        try simp at g79
                                        try (exfalso; omega)
                                        all_goals
                                          iterate 4 refine runL_step rfl (by simp [hw, hi, bt_eq]; rfl) ?_
                                          refine runL_if rfl (fun g83 => ?_) (fun g83 => ?_)
                                          ·
                                            try simp only [g83]
                                            try simp at g83
                                            try (exfalso; omega)
                                            all_goals
                                              iterate 3 refine runL_step rfl (by simp [hw, hi, bt_eq]; rfl) ?_
                                              refine runL_if rfl (fun g86 => ?_) (fun g86 => ?_)
                                              ·
                                                try simp only [g86]
                                                try simp at g86
                                                try (exfalso; omega)
                                                all_goals
                                                  iterate 4 refine runL_step rfl (by simp [hw, hi, bt_eq]; rfl) ?_
                                                  simp [runL]
                                                  refine J.condB rfl (fun h90 => ?_) (fun h90 => ?_)
                                                  ·
                                                    try simp only [h90]
                                                    try simp at h90
                                                    try (exfalso; omega)
                                                    all_goals
                                                      apply J.seq
                                                      refine J.regE (by simp [hw, hi, bt_eq]; rfl) ?_
                                                      simp
                                                      apply J.ret
                                                      refine ⟨by simp, rfl, _, [], by simp [a44R]; rfl, ?_⟩
                                                      simp
                                                      unfold sizeR
                                                      (repeat' split) <;> first | omega | (simp_all; done) | (simp_all; omega)
                                                  ·
                                                    try simp only [h90]
                                                    try simp at h90
                                                    try (exfalso; omega)
                                                    all_goals
                                                      apply J.skip; simp
                                                      apply J.seq
                                                      refine J.regE (by simp [hw, hi, bt_eq]; rfl) ?_
                                                      simp
                                                      apply J.ret
                                                      refine ⟨by simp, rfl, _, [], by simp [a44R]; rfl, ?_⟩
                                                      simp
                                                      unfold sizeR
                                                      (repeat' split) <;> first | omega | (simp_all; done) | (simp_all; omega)
                                              ·
                                                try simp only [g86]
                                                try simp at g86
                                                try (exfalso; omega)
                                                all_goals
                                                  iterate 3 refine runL_step rfl (by simp [hw, hi, bt_eq]; rfl) ?_
                                                  simp [runL]
                                                  apply J.cond; simp [hw, hi, bt_eq]
                                                  apply J.skip; simp
                                                  apply J.seq
                                                  refine J.regE (by simp [hw, hi, bt_eq]; rfl) ?_
                                                  simp
                                                  apply J.ret
                                                  refine ⟨by simp, rfl, _, [], by simp [a44R]; rfl, ?_⟩
                                                  simp
                                                  unfold sizeR
                                                  (repeat' split) <;> first | omega | (simp_all; done) | (simp_all; omega)
                                          ·
                                            try simp only [g83]
                                            try simp at g83
                                            try (exfalso; omega)
                                            all_goals
                                              iterate 6 refine runL_step rfl (by simp [hw, hi, bt_eq]; rfl) ?_
                                              simp [runL]
                                              apply J.cond; simp [hw, hi, bt_eq]
                                              apply J.seq
                                              refine J.regE (by simp [hw, hi, bt_eq]; rfl) ?_
                                              simp
                                              apply J.ret
                                              refine ⟨by simp, rfl, _, [], by simp [a44R]; rfl, ?_⟩
                                              simp
                                              unfold sizeR
                                              (repeat' split) <;> first | omega | (simp_all; done) | (simp_all; omega)
                                      ·
                                        try simp only [g79]
                                        try simp at g79
                                        try (exfalso; omega)
                                        all_goals
                                          iterate 6 refine runL_step rfl (by simp [hw, hi, bt_eq]; rfl) ?_
                                          refine runL_if rfl (fun g86 => ?_) (fun g86 => ?_)
                                          ·
                                            try simp only [g86]
                                            try simp at g86
                                            try (exfalso; omega)
                                            all_goals
                                              iterate 4 refine runL_step rfl (by simp [hw, hi, bt_eq]; rfl) ?_
                                              simp [runL]
                                              refine J.condB rfl (fun h90 => ?_) (fun h90 => ?_)
                                              ·
                                                try simp only [h90]
                                                try simp at h90
                                                try (exfalso; omega)
                                                all_goals
                                                  apply J.seq
                                                  refine J.regE (by simp [hw, hi, bt_eq]; rfl) ?_
                                                  simp
                                                  apply J.ret
                                                  refine ⟨by simp, rfl, _, [], by simp [a44R]; rfl, ?_⟩
                                                  simp
                                                  unfold sizeR
                                                  (repeat' split) <;> first | omega | (simp_all; done) | (simp_all; omega)
                                              ·
                                                try simp only [h90]
                                                try simp at h90
                                                try (exfalso; omega)
                                                all_goals
                                                  apply J.skip; simp
                                                  apply J.seq
                                                  refine J.regE (by simp [hw, hi, bt_eq]; rfl) ?_
                                                  simp
                                                  apply J.ret
                                                  refine ⟨by simp, rfl, _, [], by simp [a44R]; rfl, ?_⟩
                                                  simp
                                                  unfold sizeR
                                                  (repeat' split) <;> first | omega | (simp_all; done) | (simp_all; omega)
                                          ·
                                            try simp only [g86]
                                            try simp at g86
                                            try (exfalso; omega)
                                            all_goals
                                              iterate 3 refine runL_step rfl (by simp [hw, hi, bt_eq]; rfl) ?_
                                              simp [runL]
                                              apply J.cond; simp [hw, hi, bt_eq]
                                              apply J.skip; simp
                                              apply J.seq
                                              refine J.regE (by simp [hw, hi, bt_eq]; rfl) ?_
                                              simp
                                              apply J.ret
                                              refine ⟨by simp, rfl, _, [], by simp [a44R]; rfl, ?_⟩
                                              simp
                                              unfold sizeR
                                              (repeat' split) <;> first | omega | (simp_all; done) | (simp_all; omega)
                                  ·
                                    try (exfalso; omega)
                                    all_goals
                                      apply J.skip; simp
                                      apply J.seq
                                      refine J.regE (by simp [hw, hi, bt_eq]; rfl) ?_
                                      simp
                                      apply J.ret
                                      refine ⟨by simp, rfl, _, [], by simp [a44R]; rfl, ?_⟩
                                      simp
                                      unfold sizeR
                                      (repeat' split) <;> first | omega | (simp_all; done) | (simp_all; omega)
                              ·
                                try simp only [g70]
                                try simp at g70
                                try (exfalso; omega)
                                all_goals
                                  refine runL_step rfl (by simp [hw, hi, bt_eq]; rfl) ?_
                                  simp [runL]
                                  apply J.cond; simp [hw, hi, bt_eq]
                                  apply J.skip; simp
                                  apply J.seq
                                  refine J.regE (by simp [hw, hi, bt_eq]; rfl) ?_
                                  simp
                                  apply J.ret
                                  refine ⟨by simp, rfl, _, [], by simp [a44R]; rfl, ?_⟩
                                  simp
                                  unfold sizeR
                                  (repeat' split) <;> first | omega | (simp_all; done) | (simp_all; omega)
                          ·
                            try simp only [g66]
                            try simp at g66
                            try (exfalso; omega)
                            all_goals
                              iterate 5 refine runL_step rfl (by simp [hw, hi, bt_eq]; rfl) ?_
                              simp [runL]
                              apply J.cond; simp [hw, hi, bt_eq]
                              apply J.skip; simp
                              apply J.seq
                              refine J.regE (by simp [hw, hi, bt_eq]; rfl) ?_
                              simp
                              apply J.ret
                              refine ⟨by simp, rfl, _, [], by simp [a44R]; rfl, ?_⟩
                              simp
                              unfold sizeR
                              (repeat' split) <;> first | omega | (simp_all; done) | (simp_all; omega)
                  ·
                    try simp only [g39]
                    try simp at g39
                    try (exfalso; omega)
                    all_goals
                      iterate 5 refine runL_step rfl (by simp [hw, hi, bt_eq]; rfl) ?_
                      simp [runL]
                      apply J.cond; simp [hw, hi, bt_eq]
                      apply J.skip; simp
                      apply J.seq
                      apply J.seq
                      apply J.reg
                      iterate 3 refine runL_step rfl (by simp [hw, hi, bt_eq]; rfl) ?_
                      refine runL_if rfl (fun g66 => ?_) (fun g66 => ?_)
                      ·
                        try simp only [g66]
                        try simp at g66
                        try (exfalso; omega)
                        all_goals
                          iterate 4 refine runL_step rfl (by simp [hw, hi, bt_eq]; rfl) ?_
                          refine runL_if rfl (fun g70 => ?_) (fun g70 => ?_)
                          ·
                            try simp only [g70]
                            try simp at g70
                            try (exfalso; omega)
                            all_goals
                              iterate 2 refine runL_step rfl (by simp [hw, hi, bt_eq]; rfl) ?_
                              simp [runL]
                              refine J.condB rfl (fun h72 => ?_) (fun h72 => ?_)
                              ·
                                have hlt := fol_lt h72
                                try (exfalso; omega)
                                all_goals
                                  apply J.seq
                                  refine J.regE (by simp [hw, hi, bt_eq, hlt]; rfl) ?_
                                  simp
                                  apply J.seq
                                  apply J.seq
                                  apply J.reg
                                  iterate 3 refine runL_step rfl (by simp [hw, hi, bt_eq]; rfl) ?_
                                  refine runL_if rfl (fun g79 => ?_) (fun g79 => ?_)
                                  ·
                                    try simp only [g79]
                                    try simp at g79
                                    try (exfalso; omega)
                                    all_goals
                                      iterate 4 refine runL_step rfl (by simp [hw, hi, bt_eq]; rfl) ?_
                                      refine runL_if rfl (fun g83 => ?_) (fun g83 => ?_)
                                      ·
                                        try simp only [g83]
                                        try simp at g83
                                        try (exfalso; omega)
                                        all_goals
                                          iterate 3 refine runL_step rfl (by simp [hw, hi, bt_eq]; rfl) ?_
                                          refine runL_if rfl (fun g86 => ?_) (fun g86 => ?_)
                                          ·
                                            try simp only [g86]
                                            try simp at g86
                                            try (exfalso; omega)
                                            all_goals
                                              iterate 4 refine runL_step rfl (by simp [hw, hi, bt_eq]; rfl) ?_
                                              simp [runL]
                                              refine J.condB rfl (fun h90 => ?_) (fun h90 => ?_)
                                              ·
                                                try simp only [h90]
                                                try simp at h90
                                                try (exfalso; omega)
                                                all_goals
                                                  apply J.seq
                                                  refine J.regE (by simp [hw, hi, bt_eq]; rfl) ?_
                                                  simp
                                                  apply J.ret
                                                  refine ⟨by simp, rfl, _, [], by simp [a44R]; rfl, ?_⟩
                                                  simp
                                                  unfold sizeR
                                                  (repeat' split) <;> first | omega | (simp_all; done) | (simp_all; omega)
                                              ·
                                                try simp only [h90]
                                                try simp at h90
                                                try (exfalso; omega)
                                                all_goals
                                                  apply J.skip; simp
                                                  apply J.seq
                                                  refine J.regE (by simp [hw, hi, bt_eq]; rfl) ?_
                                                  simp
                                                  apply J.ret
                                                  refine ⟨by simp, rfl, _, [], by simp [a44R]; rfl, ?_⟩
                                                  simp
                                                  unfold sizeR
                                                  (repeat' split) <;> first | omega | (simp_all; done) | (simp_all; omega)
                                          ·
                                            try simp only [g86]
                                            try simp at g86
                                            try (exfalso; omega)
                                            all_goals
                                              iterate 3 refine runL_step rfl (by simp [hw, hi, bt_eq]; rfl) ?_
                                              simp [runL]
                                              apply J.cond; simp [hw, hi, bt_eq]
                                              apply J.skip; simp
                                              apply J.seq
                                              refine J.regE (by simp [hw, hi, bt_eq]; rfl) ?_
                                              simp
                                              apply J.ret
                                              refine ⟨by simp, rfl, _, [], by simp [a44R]; rfl, ?_⟩
                                              simp
                                              unfold sizeR
                                              (repeat' split) <;> first | omega | (simp_all; done) | (simp_all; omega)
                                      ·
                                        try simp only [g83]
                                        try simp at g83
                                        try (exfalso; omega)
                                        all_goals
                                          iterate 6 refine runL_step rfl (by simp [hw, hi, bt_eq]; rfl) ?_
                                          simp [runL]
                                          apply J.cond; simp [hw, hi, bt_eq]
                                          apply J.seq
                                          refine J.regE (by simp [hw, hi, bt_eq]; rfl) ?_
                                          simp
                                          apply J.ret
                                          refine ⟨by simp, rfl, _, [], by simp [a44R]; rfl, ?_⟩
                                          simp
                                          unfold sizeR
                                          (repeat' split) <;> first | omega | (simp_all; done) | (simp_all; omega)
                                  ·
                                    try simp only [g79]
                                    try simp at g79
                                    try (exfalso; omega)
                                    all_goals
                                      iterate 6 refine runL_step rfl (by simp [hw, hi, bt_eq]; rfl) ?_
                                      refine runL_if rfl (fun g86 => ?_) (fun g86 => ?_)
                                      ·
                                        try simp only [g86]
                                        try simp at g86
                                        try (exfalso; omega)
                                        all_goals
                                          iterate 4 refine runL_step rfl (by simp [hw, hi, bt_eq]; rfl) ?_
                                          simp [runL]
                                          refine J.condB rfl (fun h90 => ?_) (fun h90 => ?_)
                                          ·
                                            try simp only [h90]
                                            try simp at h90
                                            try (exfalso; omega)
                                            all_goals
                                              apply J.seq
                                              refine J.regE (by simp [hw, hi, bt_eq]; rfl) ?_
                                              simp
                                              apply J.ret
                                              refine ⟨by simp, rfl, _, [], by simp [a44R]; rfl, ?_⟩
                                              simp
                                              unfold sizeR
                                              (repeat' split) <;> first | omega | (simp_all; done) | (simp_all; omega)
                                          ·
                                            try simp only [h90]
                                            try simp at h90
                                            try (exfalso; omega)
                                            all_goals
                                              apply J.skip; simp
                                              apply J.seq
                                              refine J.regE (by simp [hw, hi, bt_eq]; rfl) ?_
                                              simp
                                              apply J.ret
                                              refine ⟨by simp, rfl, _, [], by simp [a44R]; rfl, ?_⟩
                                              simp
                                              unfold sizeR
                                              (repeat' split) <;> first | omega | (simp_all; done) | (simp_all; omega)
                                      ·
                                        try simp only [g86]
                                        try simp at g86
                                        try (exfalso; omega)
                                        all_goals
                                          iterate 3 refine runL_step rfl (by simp [hw, hi, bt_eq]; rfl) ?_
                                          simp [runL]
                                          apply J.cond; simp [hw, hi, bt_eq]
                                          apply J.skip; simp
                                          apply J.seq
                                          refine J.regE (by simp [hw, hi, bt_eq]; rfl) ?_
                                          simp
                                          apply J.ret
                                          refine ⟨by simp, rfl, _, [], by simp [a44R]; rfl, ?_⟩
                                          simp
                                          unfold sizeR
                                          (repeat' split) <;> first | omega | (simp_all; done) | (simp_all; omega)
                              ·
                                try (exfalso; omega)
                                all_goals
                                  apply J.skip; simp
                                  apply J.seq
                                  refine J.regE (by simp [hw, hi, bt_eq]; rfl) ?_
                                  simp
                                  apply J.ret
                                  refine ⟨by simp, rfl, _, [], by simp [a44R]; rfl, ?_⟩
                                  simp
                                  unfold sizeR
                                  (repeat' split) <;> first | omega | (simp_all; done) | (simp_all; omega)
                          ·
                            try simp only [g70]
                            try simp at g70
                            try (exfalso; omega)
                            all_goals
                              refine runL_step rfl (by simp [hw, hi, bt_eq]; rfl) ?_
                              simp [runL]
                              apply J.cond; simp [hw, hi, bt_eq]
                              apply J.skip; simp
                              apply J.seq
                              refine J.regE (by simp [hw, hi, bt_eq]; rfl) ?_
                              simp
                              apply J.ret
                              refine ⟨by simp, rfl, _, [], by simp [a44R]; rfl, ?_⟩
                              simp
                              unfold sizeR
                              (repeat' split) <;> first | omega | (simp_all; done) | (simp_all; omega)
                      ·
                        try simp only [g66]
                        try simp at g66
                        try (exfalso; omega)
                        all_goals
                          iterate 5 refine runL_step rfl (by simp [hw, hi, bt_eq]; rfl) ?_
                          simp [runL]
                          apply J.cond; simp [hw, hi, bt_eq]
                          apply J.skip; simp
                          apply J.seq
                          refine J.regE (by simp [hw, hi, bt_eq]; rfl) ?_
                          simp
                          apply J.ret
                          refine ⟨by simp, rfl, _, [], by simp [a44R]; rfl, ?_⟩
                          simp
                          unfold sizeR
                          (repeat' split) <;> first | omega | (simp_all; done) | (simp_all; omega)
          ·
            try simp only [g34]
            try simp at g34
            try (exfalso; omega)
            all_goals
              refine runL_step rfl (by simp [hw, hi, bt_eq]; rfl) ?_
              simp [runL]
              apply J.cond; simp [hw, hi, bt_eq]
              apply J.skip; simp
              apply J.seq
              apply J.seq
              apply J.reg
              iterate 3 refine runL_step rfl (by simp [hw, hi, bt_eq]; rfl) ?_
              refine runL_if rfl (fun g39 => ?_) (fun g39 => ?_)
              ·
                try simp only [g39]
                try simp at g39
                try (exfalso; omega)
                all_goals
                  iterate 4 refine runL_step rfl (by simp [hw, hi, bt_eq]; rfl) ?_
                  refine runL_if rfl (fun g43 => ?_) (fun g43 => ?_)
                  ·
                    try simp only [g43]
                    try simp at g43
                    try (exfalso; omega)
                    all_goals
                      iterate 2 refine runL_step rfl (by simp [hw, hi, bt_eq]; rfl) ?_
                      simp [runL]
                      refine J.condB rfl (fun h45 => ?_) (fun h45 => ?_)
                      ·
                        have hlt := fol_lt h45
                        try (exfalso; omega)
                        all_goals
                          apply J.seq
                          refine J.regE (by simp [hw, hi, bt_eq, hlt]; rfl) ?_
                          simp
                          apply J.seq
                          apply J.seq
                          apply J.reg
                          iterate 3 refine runL_step rfl (by simp [hw, hi, bt_eq]; rfl) ?_
                          refine runL_if rfl (fun g52 => ?_) (fun g52 => ?_)
                          ·
                            try simp only [g52]
                            try simp at g52
                            try (exfalso; omega)
                            all_goals
                              iterate 4 refine runL_step rfl (by simp [hw, hi, bt_eq]; rfl) ?_
                              refine runL_if rfl (fun g56 => ?_) (fun g56 => ?_)
                              ·
                                try simp only [g56]
                                try simp at g56
                                try (exfalso; omega)
                                all_goals
                                  iterate 3 refine runL_step rfl (by simp [hw, hi, bt_eq]; rfl) ?_
                                  refine runL_if rfl (fun g59 => ?_) (fun g59 => ?_)
                                  ·
                                    try simp only [g59]
                                    try simp at g59
                                    try (exfalso; omega)
                                    all_goals
                                      iterate 4 refine runL_step rfl (by simp [hw, hi, bt_eq]; rfl) ?_
                                      simp [runL]
                                      refine J.condB rfl (fun h63 => ?_) (fun h63 => ?_)
                                      ·
                                        try simp only [h63]
                                        try simp at h63
                                        try (exfalso; omega)
                                        all_goals
                                          apply J.seq
                                          refine J.regE (by simp [hw, hi, bt_eq]; rfl) ?_
                                          simp
                                          apply J.ret
                                          refine ⟨by simp, rfl, _, [], by simp [a44R]; rfl, ?_⟩
                                          simp
                                          unfold sizeR
                                          (repeat' split) <;> first | omega | (simp_all; done) | (simp_all; omega)
                                      ·
                                        try simp only [h63]
                                        try simp at h63
                                        try (exfalso; omega)
                                        all_goals
                                          apply J.skip; simp
                                          apply J.seq
                                          refine J.regE (by simp [hw, hi, bt_eq]; rfl) ?_
                                          simp
                                          apply J.ret
                                          refine ⟨by simp, rfl, _, [], by simp [a44R]; rfl, ?_⟩
                                          simp
                                          unfold sizeR
                                          (repeat' split) <;> first | omega | (simp_all; done) | (simp_all; omega)
                                  ·
                                    try simp only [g59]
                                    try simp at g59
                                    try (exfalso; omega)
                                    all_goals
                                      iterate 3 refine runL_step rfl (by simp [hw, hi, bt_eq]; rfl) ?_
                                      simp [runL]
                                      apply J.cond; simp [hw, hi, bt_eq]
                                      apply J.skip; simp
                                      apply J.seq
                                      refine J.regE (by simp [hw, hi, bt_eq]; rfl) ?_
                                      simp
                                      apply J.ret
                                      refine ⟨by simp, rfl, _, [], by simp [a44R]; rfl, ?_⟩
                                      simp
                                      unfold sizeR
                                      (repeat' split) <;> first | omega | (simp_all; done) | (simp_all; omega)
                              ·
                                try simp only [g56]
                                try simp at g56
                                try (exfalso; omega)
                                all_goals
                                  iterate 6 refine runL_step rfl (by simp [hw, hi, bt_eq]; rfl) ?_
                                  simp [runL]
                                  apply J.cond; simp [hw, hi, bt_eq]
                                  apply J.seq
                                  refine J.regE (by simp [hw, hi, bt_eq]; rfl) ?_
                                  simp
                                  apply J.ret
                                  refine ⟨by simp, rfl, _, [], by simp [a44R]; rfl, ?_⟩
                                  simp
                                  unfold sizeR
                                  (repeat' split) <;> first | omega | (simp_all; done) | (simp_all; omega)
                          ·
                            try simp only [g52]
                            try simp at g52
                            try (exfalso; omega)
                            all_goals
                              iterate 6 refine runL_step rfl (by simp [hw, hi, bt_eq]; rfl) ?_
                              refine runL_if rfl (fun g59 => ?_) (fun g59 => ?_)
                              ·
                                try simp only [g59]
                                try simp at g59
                                try (exfalso; omega)
                                all_goals
                                  iterate 4 refine runL_step rfl (by simp [hw, hi, bt_eq]; rfl) ?_
                                  simp [runL]
                                  refine J.condB rfl (fun h63 => ?_) (fun h63 => ?_)
                                  ·
                                    try simp only [h63]
                                    try simp at h63
                                    try (exfalso; omega)
                                    all_goals
                                      apply J.seq
                                      refine J.regE (by simp [hw, hi, bt_eq]; rfl) ?_
                                      simp
                                      apply J.ret
                                      refine ⟨by simp, rfl, _, [], by simp [a44R]; rfl, ?_⟩
                                      simp
                                      unfold sizeR
                                      (repeat' split) <;> first | omega | (simp_all; done) | (simp_all; omega)
                                  ·
                                    try simp only [h63]
                                    try simp at h63
                                    try (exfalso; omega)
                                    all_goals
                                      apply J.skip; simp
                                      apply J.seq
                                      refine J.regE (by simp [hw, hi, bt_eq]; rfl) ?_
                                      simp
                                      apply J.ret
                                      refine ⟨by simp, rfl, _, [], by simp [a44R]; rfl, ?_⟩
                                      simp
                                      unfold sizeR
                                      (repeat' split) <;> first | omega | (simp_all; done) | (simp_all; omega)
                              ·
                                try simp only [g59]
                                try simp at g59
                                try (exfalso; omega)
                                all_goals
                                  iterate 3 refine runL_step rfl (by simp [hw, hi, bt_eq]; rfl) ?_
                                  simp [runL]
                                  apply J.cond; simp [hw, hi, bt_eq]
                                  apply J.skip; simp
                                  apply J.seq
                                  refine J.regE (by simp [hw, hi, bt_eq]; rfl) ?_
                                  simp
                                  apply J.ret
                                  refine ⟨by simp, rfl, _, [], by simp [a44R]; rfl, ?_⟩
                                  simp
                                  unfold sizeR
                                  (repeat' split) <;> first | omega | (simp_all; done) | (simp_all; omega)
                      ·
                        try (exfalso; omega)
                        all_goals
                          apply J.skip; simp
                          apply J.seq
                          apply J.seq
                          apply J.reg
                          iterate 3 refine runL_step rfl (by simp [hw, hi, bt_eq]; rfl) ?_
                          refine runL_if rfl (fun g66 => ?_) (fun g66 => ?_)
                          ·
                            try simp only [g66]
                            try simp at g66
                            try (exfalso; omega)
                            all_goals
                              iterate 4 refine runL_step rfl (by simp [hw, hi, bt_eq]; rfl) ?_
                              refine runL_if rfl (fun g70 => ?_) (fun g70 => ?_)
                              ·
                                try simp only [g70]
                                try simp at g70
                                try (exfalso; omega)
                                all_goals
                                  iterate 2 refine runL_step rfl (by simp [hw, hi, bt_eq]; rfl) ?_
                                  simp [runL]
                                  refine J.condB rfl (fun h72 => ?_) (fun h72 => ?_)
                                  ·
                                    have hlt := fol_lt h72
                                    try (exfalso; omega)
                                    all_goals
                                      apply J.seq
                                      refine J.regE (by simp [hw, hi, bt_eq, hlt]; rfl) ?_
                                      simp
                                      apply J.seq
                                      apply J.seq
                                      apply J.reg
                                      iterate 3 refine runL_step rfl (by simp [hw, hi, bt_eq]; rfl) ?_
                                      refine runL_if rfl (fun g79 => ?_) (fun g79 => ?_)
                                      ·
                                        try simp only [g79]
                                        try simp at g79
                                        try (exfalso; omega)
                                        all_goals
                                          iterate 4 refine runL_step rfl (by simp [hw, hi, bt_eq]; rfl) ?_
                                          refine runL_if rfl (fun g83 => ?_) (fun g83 => ?_)
                                          ·
                                            try simp only [g83]
                                            try simp at g83
                                            try (exfalso; omega)
                                            all_goals
                                              iterate 3 refine runL_step rfl (by simp [hw, hi, bt_eq]; rfl) ?_
                                              refine runL_if rfl (fun g86 => ?_) (fun g86 => ?_)
                                              ·
                                                try simp only [g86]
                                                try simp at g86
                                                try (exfalso; omega)
                                                all_goals
                                                  iterate 4 refine runL_step rfl (by simp [hw, hi, bt_eq]; rfl) ?_
                                                  simp [runL]
                                                  refine J.condB rfl (fun h90 => ?_) (fun h90 => ?_)
                                                  ·
                                                    try simp only [h90]
                                                    try simp at h90
                                                    try (exfalso; omega)
                                                    all_goals
                                                      apply J.seq
                                                      refine J.regE (by simp [hw, hi, bt_eq]; rfl) ?_
                                                      simp
                                                      apply J.ret
                                                      refine ⟨by simp, rfl, _, [], by simp [a44R]; rfl, ?_⟩
                                                      simp
                                                      unfold sizeR
                                                      (repeat' split) <;> first | omega | (simp_all; done) | (simp_all; omega)
                                                  ·
                                                    try simp only [h90]
                                                    try simp at h90
                                                    try (exfalso; omega)
                                                    all_goals
                                                      apply J.skip; simp
                                                      apply J.seq
                                                      refine J.regE (by simp [hw, hi, bt_eq]; rfl) ?_
                                                      simp
                                                      apply J.ret
                                                      refine ⟨by simp, rfl, _, [], by simp [a44R]; rfl, ?_⟩
                                                      simp
                                                      unfold sizeR
                                                      (repeat' split) <;> first | omega | (simp_all; done) | (simp_all; omega)
                                              ·
                                                try simp only [g86]
                                                try simp at g86
                                                try (exfalso; omega)
                                                all_goals
                                                  iterate 3 refine runL_step rfl (by simp [hw, hi, bt_eq]; rfl) ?_
                                                  simp [runL]
                                                  apply J.cond; simp [hw, hi, bt_eq]
                                                  apply J.skip; simp
                                                  apply J.seq
                                                  refine J.regE (by simp [hw, hi, bt_eq]; rfl) ?_
                                                  simp
                                                  apply J.ret
                                                  refine ⟨by simp, rfl, _, [], by simp [a44R]; rfl, ?_⟩
                                                  simp
                                                  unfold sizeR
                                                  (repeat' split) <;> first | omega | (simp_all; done) | (simp_all; omega)
                                          ·
                                            try simp only [g83]
                                            try simp at g83
                                            try (exfalso; omega)
                                            all_goals
                                              iterate 6 refine runL_step rfl (by simp [hw, hi, bt_eq]; rfl) ?_
                                              simp [runL]
                                              apply J.cond; simp [hw, hi, bt_eq]
                                              apply J.seq
                                              refine J.regE (by simp [hw, hi, bt_eq]; rfl) ?_
                                              simp
                                              apply J.ret
                                              refine ⟨by simp, rfl, _, [], by simp [a44R]; rfl, ?_⟩
                                              simp
                                              unfold sizeR
                                              (repeat' split) <;> first | omega | (simp_all; done) | (simp_all; omega)
                                      ·
                                        try simp only [g79]
                                        try simp at g79
                                        try (exfalso; omega)
                                        all_goals
                                          iterate 6 refine runL_step rfl (by simp [hw, hi, bt_eq]; rfl) ?_
                                          refine runL_if rfl (fun g86 => ?_) (fun g86 => ?_)
                                          ·
                                            try simp only [g86]
                                            try simp at g86
                                            try (exfalso; omega)
                                            all_goals
                                              iterate 4 refine runL_step rfl (by simp [hw, hi, bt_eq]; rfl) ?_
                                              simp [runL]
                                              refine J.condB rfl (fun h90 => ?_) (fun h90 => ?_)
                                              ·
                                                try simp only [h90]
                                                try simp at h90
                                                try (exfalso; omega)
                                                all_goals
                                                  apply J.seq
                                                  refine J.regE (by simp [hw, hi, bt_eq]; rfl) ?_
                                                  simp
                                                  apply J.ret
                                                  refine ⟨by simp, rfl, _, [], by simp [a44R]; rfl, ?_⟩
                                                  simp
                                                  unfold sizeR
                                                  (repeat' split) <;> first | omega | (simp_all; done) | (simp_all; omega)
                                              ·
                                                try simp only [h90]
                                                try simp at h90
                                                try (exfalso; omega)
                                                all_goals
                                                  apply J.skip; simp
                                                  apply J.seq
                                                  refine J.regE (by simp [hw, hi, bt_eq]; rfl) ?_
                                                  simp
                                                  apply J.ret
                                                  refine ⟨by simp, rfl, _, [], by simp [a44R]; rfl, ?_⟩
                                                  simp
                                                  unfold sizeR
                                                  (repeat' split) <;> first | omega | (simp_all; done) | (simp_all; omega)
                                          ·
                                            try simp only [g86]
                                            try simp at g86
                                            try (exfalso; omega)
                                            all_goals
                                              iterate 3 refine runL_step rfl (by simp [hw, hi, bt_eq]; rfl) ?_
                                              simp [runL]
                                              apply J.cond; simp [hw, hi, bt_eq]
                                              apply J.skip; simp
                                              apply J.seq
                                              refine J.regE (by simp [hw, hi, bt_eq]; rfl) ?_
                                              simp
                                              apply J.ret
                                              refine ⟨by simp, rfl, _, [], by simp [a44R]; rfl, ?_⟩
                                              simp
                                              unfold sizeR
                                              (repeat' split) <;> first | omega | (simp_all; done) | (simp_all; omega)
                                  ·
                                    try (exfalso; omega)
                                    all_goals
                                      apply J.skip; simp
                                      apply J.seq
                                      refine J.regE (by simp [hw, hi, bt_eq]; rfl) ?_
                                      simp
                                      apply J.ret
                                      refine ⟨by simp, rfl, _, [], by simp [a44R]; rfl, ?_⟩
                                      simp
                                      unfold sizeR
                                      (repeat' split) <;> first | omega | (simp_all; done) | (simp_all; omega)
                              ·
                                try simp only [g70]
                                try simp at g70
                                try (exfalso; omega)
                                all_goals
                                  refine runL_step rfl (by simp [hw, hi, bt_eq]; rfl) ?_
                                  simp [runL]
                                  apply J.cond; simp [hw, hi, bt_eq]
                                  apply J.skip; simp
                                  apply J.seq
                                  refine J.regE (by simp [hw, hi, bt_eq]; rfl) ?_
                                  simp
                                  apply J.ret
                                  refine ⟨by simp, rfl, _, [], by simp [a44R]; rfl, ?_⟩
                                  simp
                                  unfold sizeR
                                  (repeat' split) <;> first | omega | (simp_all; done) | (simp_all; omega)
                          ·
                            try simp only [g66]
                            try simp at g66
                            try (exfalso; omega)
                            all_goals
                              iterate 5 refine runL_step rfl (by simp [hw, hi, bt_eq]; rfl) ?_
                              simp [runL]
                              apply J.cond; simp [hw, hi, bt_eq]
                              apply J.skip; simp
                              apply J.seq
                              refine J.regE (by simp [hw, hi, bt_eq]; rfl) ?_
                              simp
                              apply J.ret
                              refine ⟨by simp, rfl, _, [], by simp [a44R]; rfl, ?_⟩
                              simp
                              unfold sizeR
                              (repeat' split) <;> first | omega | (simp_all; done) | (simp_all; omega)
                  ·
                    try simp only [g43]
                    try simp at g43
                    try (exfalso; omega)
                    all_goals
                      refine runL_step rfl (by simp [hw, hi, bt_eq]; rfl) ?_
                      simp [runL]
                      apply J.cond; simp [hw, hi, bt_eq]
                      apply J.skip; simp
                      apply J.seq
                      apply J.seq
                      apply J.reg
                      iterate 3 refine runL_step rfl (by simp [hw, hi, bt_eq]; rfl) ?_
                      refine runL_if rfl (fun g66 => ?_) (fun g66 => ?_)
                      ·
                        try simp only [g66]
                        try simp at g66
                        try (exfalso; omega)
                        all_goals
                          iterate 4 refine runL_step rfl (by simp [hw, hi, bt_eq]; rfl) ?_
                          refine runL_if rfl (fun g70 => ?_) (fun g70 => ?_)
                          ·
                            try simp only [g70]
                            try simp at g70
                            try (exfalso; omega)
                            all_goals
                              iterate 2 refine runL_step rfl (by simp [hw, hi, bt_eq]; rfl) ?_
                              simp [runL]
                              refine J.condB rfl (fun h72 => ?_) (fun h72 => ?_)
                              ·
                                have hlt := fol_lt h72
                                try (exfalso; omega)
                                all_goals
                                  apply J.seq
                                  refine J.regE (by simp [hw, hi, bt_eq, hlt]; rfl) ?_
                                  simp
                                  apply J.seq
                                  apply J.seq
                                  apply J.reg
                                  iterate 3 refine runL_step rfl (by simp [hw, hi, bt_eq]; rfl) ?_
                                  refine runL_if rfl (fun g79 => ?_) (fun g79 => ?_)
                                  ·
                                    try simp only [g79]
                                    try simp at g79
                                    try (exfalso; omega)
                                    all_goals
                                      iterate 4 refine runL_step rfl (by simp [hw, hi, bt_eq]; rfl) ?_
                                      refine runL_if rfl (fun g83 => ?_) (fun g83 => ?_)
                                      ·
                                        try simp only [g83]
                                        try simp at g83
                                        try (exfalso; omega)
                                        all_goals
                                          iterate 3 refine runL_step rfl (by simp [hw, hi, bt_eq]; rfl) ?_
                                          refine runL_if rfl (fun g86 => ?_) (fun g86 => ?_)
                                          ·
                                            try simp only [g86]
                                            try simp at g86
                                            try (exfalso; omega)
                                            all_goals
                                              iterate 4 refine runL_step rfl (by simp [hw, hi, bt_eq]; rfl) ?_
                                              simp [runL]
                                              refine J.condB rfl (fun h90 => ?_) (fun h90 => ?_)
                                              ·
                                                try simp only [h90]
                                                try simp at h90
                                                try (exfalso; omega)
                                                all_goals
                                                  apply J.seq
                                                  refine J.regE (by simp [hw, hi, bt_eq]; rfl) ?_
                                                  simp
                                                  apply J.ret
                                                  refine ⟨by simp, rfl, _, [], by simp [a44R]; rfl, ?_⟩
                                                  simp
                                                  unfold sizeR
                                                  (repeat' split) <;> first | omega | (simp_all; done) | (simp_all; omega)
                                              ·
                                                try simp only [h90]
                                                try simp at h90
                                                try (exfalso; omega)
                                                all_goals
                                                  apply J.skip; simp
                                                  apply J.seq
                                                  refine J.regE (by simp [hw, hi, bt_eq]; rfl) ?_
                                                  simp
                                                  apply J.ret
                                                  refine ⟨by simp, rfl, _, [], by simp [a44R]; rfl, ?_⟩
                                                  simp
                                                  unfold sizeR
                                                  (repeat' split) <;> first | omega | (simp_all; done) | (simp_all; omega)
                                          ·
                                            try simp only [g86]
                                            try simp at g86
                                            try (exfalso; omega)
                                            all_goals
                                              iterate 3 refine runL_step rfl (by simp [hw, hi, bt_eq]; rfl) ?_
                                              simp [runL]
                                              apply J.cond; simp [hw, hi, bt_eq]
                                              apply J.skip; simp
                                              apply J.seq
                                              refine J.regE (by simp [hw, hi, bt_eq]; rfl) ?_
                                              simp
                                              apply J.ret
                                              refine ⟨by simp, rfl, _, [], by simp [a44R]; rfl, ?_⟩
                                              simp
                                              unfold sizeR
                                              (repeat' split) <;> first | omega | (simp_all; done) | (simp_all; omega)
                                      ·
                                        try simp only [g83]
                                        try simp at g83
                                        try (exfalso; omega)
                                        all_goals
                                          iterate 6 refine runL_step rfl (by simp [hw, hi, bt_eq]; rfl) ?_
                                          simp [runL]
                                          apply J.cond; simp [hw, hi, bt_eq]
                                          apply J.seq
                                          refine J.regE (by simp [hw, hi, bt_eq]; rfl) ?_
                                          simp
                                          apply J.ret
                                          refine ⟨by simp, rfl, _, [], by simp [a44R]; rfl, ?_⟩
                                          simp
                                          unfold sizeR
                                          (repeat' split) <;> first | omega | (simp_all; done) | (simp_all; omega)
                                  ·
                                    try simp only [g79]
                                    try simp at g79
                                    try (exfalso; omega)
                                    all_goals
                                      iterate 6 refine runL_step rfl (by simp [hw, hi, bt_eq]; rfl) ?_
                                      refine runL_if rfl (fun g86 => ?_) (fun g86 => ?_)
                                      ·
                                        try simp only [g86]
                                        try simp at g86
                                        try (exfalso; omega)
                                        all_goals
                                          iterate 4 refine runL_step rfl (by simp [hw, hi, bt_eq]; rfl) ?_
                                          simp [runL]
                                          refine J.condB rfl (fun h90 => ?_) (fun h90 => ?_)
                                          ·
                                            try simp only [h90]
                                            try simp at h90
                                            try (exfalso; omega)
                                            all_goals
                                              apply J.seq
                                              refine J.regE (by simp [hw, hi, bt_eq]; rfl) ?_
                                              simp
                                              apply J.ret
                                              refine ⟨by simp, rfl, _, [], by simp [a44R]; rfl, ?_⟩
                                              simp
                                              unfold sizeR
                                              (repeat' split) <;> first | omega | (simp_all; done) | (simp_all; omega)
                                          ·
                                            try simp only [h90]
                                            try simp at h90
                                            try (exfalso; omega)
                                            all_goals
                                              apply J.skip; simp
                                              apply J.seq
                                              refine J.regE (by simp [hw, hi, bt_eq]; rfl) ?_
                                              simp
                                              apply J.ret
                                              refine ⟨by simp, rfl, _, [], by simp [a44R]; rfl, ?_⟩
                                              simp
                                              unfold sizeR
                                              (repeat' split) <;> first | omega | (simp_all; done) | (simp_all; omega)
                                      ·
                                        try simp only [g86]
                                        try simp at g86
                                        try (exfalso; omega)
                                        all_goals
                                          iterate 3 refine runL_step rfl (by simp [hw, hi, bt_eq]; rfl) ?_
                                          simp [runL]
                                          apply J.cond; simp [hw, hi, bt_eq]
                                          apply J.skip; simp
                                          apply J.seq
                                          refine J.regE (by simp [hw, hi, bt_eq]; rfl) ?_
                                          simp
                                          apply J.ret
                                          refine ⟨by simp, rfl, _, [], by simp [a44R]; rfl, ?_⟩
                                          simp
                                          unfold sizeR
                                          (repeat' split) <;> first | omega | (simp_all; done) | (simp_all; omega)
                              ·
                                try (exfalso; omega)
                                all_goals
                                  apply J.skip; simp
                                  apply J.seq
                                  refine J.regE (by simp [hw, hi, bt_eq]; rfl) ?_
                                  simp
                                  apply J.ret
                                  refine ⟨by simp, rfl, _, [], by simp [a44R]; rfl, ?_⟩
                                  simp
                                  unfold sizeR
                                  (repeat' split) <;> first | omega | (simp_all; done) | (simp_all; omega)
                          ·
                            try simp only [g70]
                            try simp at g70
                            try (exfalso; omega)
                            all_goals
                              refine runL_step rfl (by simp [hw, hi, bt_eq]; rfl) ?_
                              simp [runL]
                              apply J.cond; simp [hw, hi, bt_eq]
                              apply J.skip; simp
                              apply J.seq
                              refine J.regE (by simp [hw, hi, bt_eq]; rfl) ?_
                              simp
                              apply J.ret
                              refine ⟨by simp, rfl, _, [], by simp [a44R]; rfl, ?_⟩
                              simp
                              unfold sizeR
                              (repeat' split) <;> first | omega | (simp_all; done) | (simp_all; omega)
                      ·
                        try simp only [g66]
                        try simp at g66
                        try (exfalso; omega)
                        all_goals
                          iterate 5 refine runL_step rfl (by simp [hw, hi, bt_eq]; rfl) ?_
                          simp [runL]
                          apply J.cond; simp [hw, hi, bt_eq]
                          apply J.skip; simp
                          apply J.seq
                          refine J.regE (by simp [hw, hi, bt_eq]; rfl) ?_
                          simp
                          apply J.ret
                          refine ⟨by simp, rfl, _, [], by simp [a44R]; rfl, ?_⟩
                          simp
                          unfold sizeR
                          (repeat' split) <;> first | omega | (simp_all; done) | (simp_all; omega)
              ·
                try simp only [g39]
                try simp at g39
                try (exfalso; omega)
                all_goals
                  iterate 5 refine runL_step rfl (by simp [hw, hi, bt_eq]; rfl) ?_
                  simp [runL]
                  apply J.cond; simp [hw, hi, bt_eq]
                  apply J.skip; simp
                  apply J.seq
                  apply J.seq
                  apply J.reg
                  iterate 3 refine runL_step rfl (by simp [hw, hi, bt_eq]; rfl) ?_
                  refine runL_if rfl (fun g66 => ?_) (fun g66 => ?_)
                  ·
                    try simp only [g66]
                    try simp at g66
                    try (exfalso; omega)
                    all_goals
                      iterate 4 refine runL_step rfl (by simp [hw, hi, bt_eq]; rfl) ?_
                      refine runL_if rfl (fun g70 => ?_) (fun g70 => ?_)
                      ·
                        try simp only [g70]
                        try simp at g70
                        try (exfalso; omega)
                        all_goals
                          iterate 2 refine runL_step rfl (by simp [hw, hi, bt_eq]; rfl) ?_
                          simp [runL]
                          refine J.condB rfl (fun h72 => ?_) (fun h72 => ?_)
                          ·
                            have hlt := fol_lt h72
                            try (exfalso; omega)
                            all_goals
                              apply J.seq
                              refine J.regE (by simp [hw, hi, bt_eq, hlt]; rfl) ?_
                              simp
                              apply J.seq
                              apply J.seq
                              apply J.reg
                              iterate 3 refine runL_step rfl (by simp [hw, hi, bt_eq]; rfl) ?_
                              refine runL_if rfl (fun g79 => ?_) (fun g79 => ?_)
                              ·
                                try simp only [g79]
                                try simp at g79
                                try (exfalso; omega)
                                all_goals
                                  iterate 4 refine runL_step rfl (by simp [hw, hi, bt_eq]; rfl) ?_
                                  refine runL_if rfl (fun g83 => ?_) (fun g83 => ?_)
                                  ·
                                    try simp only [g83]
                                    try simp at g83
                                    try (exfalso; omega)
                                    all_goals
                                      iterate 3 refine runL_step rfl (by simp [hw, hi, bt_eq]; rfl) ?_
                                      refine runL_if rfl (fun g86 => ?_) (fun g86 => ?_)
                                      ·
                                        try simp only [g86]
                                        try simp at g86
                                        try (exfalso; omega)
                                        all_goals
                                          iterate 4 refine runL_step rfl (by simp [hw, hi, bt_eq]; rfl) ?_
                                          simp [runL]
                                          refine J.condB rfl (fun h90 => ?_) (fun h90 => ?_)
                                          ·
                                            try simp only [h90]
                                            try simp at h90
                                            try (exfalso; omega)
                                            all_goals
                                              apply J.seq
                                              refine J.regE (by simp [hw, hi, bt_eq]; rfl) ?_
                                              simp
                                              apply J.ret
                                              refine ⟨by simp, rfl, _, [], by simp [a44R]; rfl, ?_⟩
                                              simp
                                              unfold sizeR
                                              (repeat' split) <;> first | omega | (simp_all; done) | (simp_all; omega)
                                          ·
                                            try simp only [h90]
                                            try simp at h90
                                            try (exfalso; omega)
                                            all_goals
                                              apply J.skip; simp
                                              apply J.seq
                                              refine J.regE (by simp [hw, hi, bt_eq]; rfl) ?_
                                              simp
                                              apply J.ret
                                              refine ⟨by simp, rfl, _, [], by simp [a44R]; rfl, ?_⟩
                                              simp
                                              unfold sizeR
                                              (repeat' split) <;> first | omega | (simp_all; done) | (simp_all; omega)
                                      ·
                                        try simp only [g86]
                                        try simp at g86
                                        try (exfalso; omega)
                                        all_goals
                                          iterate 3 refine runL_step rfl (by simp [hw, hi, bt_eq]; rfl) ?_
                                          simp [runL]
                                          apply J.cond; simp [hw, hi, bt_eq]
                                          apply J.skip; simp
                                          apply J.seq
                                          refine J.regE (by simp [hw, hi, bt_eq]; rfl) ?_
                                          simp
                                          apply J.ret
                                          refine ⟨by simp, rfl, _, [], by simp [a44R]; rfl, ?_⟩
                                          simp
                                          unfold sizeR
                                          (repeat' split) <;> first | omega | (simp_all; done) | (simp_all; omega)
                                  ·
                                    try simp only [g83]
                                    try simp at g83
                                    try (exfalso; omega)
                                    all_goals
                                      iterate 6 refine runL_step rfl (by simp [hw, hi, bt_eq]; rfl) ?_
                                      simp [runL]
                                      apply J.cond; simp [hw, hi, bt_eq]
                                      apply J.seq
                                      refine J.regE (by simp [hw, hi, bt_eq]; rfl) ?_
                                      simp
                                      apply J.ret
                                      refine ⟨by simp, rfl, _, [], by simp [a44R]; rfl, ?_⟩
                                      simp
                                      unfold sizeR
                                      (repeat' split) <;> first | omega | (simp_all; done) | (simp_all; omega)
                              ·
                                try simp only [g79]
                                try simp at g79
                                try (exfalso; omega)
                                all_goals
                                  iterate 6 refine runL_step rfl (by simp [hw, hi, bt_eq]; rfl) ?_
                                  refine runL_if rfl (fun g86 => ?_) (fun g86 => ?_)
                                  ·
                                    try simp only [g86]
                                    try simp at g86
                                    try (exfalso; omega)
                                    all_goals
                                      iterate 4 refine runL_step rfl (by simp [hw, hi, bt_eq]; rfl) ?_
                                      simp [runL]
                                      refine J.condB rfl (fun h90 => ?_) (fun h90 => ?_)
                                      ·
                                        try simp only [h90]
                                        try simp at h90
                                        try (exfalso; omega)
                                        all_goals
                                          apply J.seq
                                          refine J.regE (by simp [hw, hi, bt_eq]; rfl) ?_
                                          simp
                                          apply J.ret
                                          refine ⟨by simp, rfl, _, [], by simp [a44R]; rfl, ?_⟩
                                          simp
                                          unfold sizeR
                                          (repeat' split) <;> first | omega | (simp_all; done) | (simp_all; omega)
                                      ·
                                        try simp only [h90]
                                        try simp at h90
                                        try (exfalso; omega)
                                        all_goals
                                          apply J.skip; simp
                                          apply J.seq
                                          refine J.regE (by simp [hw, hi, bt_eq]; rfl) ?_
                                          simp
                                          apply J.ret
                                          refine ⟨by simp, rfl, _, [], by simp [a44R]; rfl, ?_⟩
                                          simp
                                          unfold sizeR
                                          (repeat' split) <;> first | omega | (simp_all; done) | (simp_all; omega)
                                  ·
                                    try simp only [g86]
                                    try simp at g86
                                    try (exfalso; omega)
                                    all_goals
                                      iterate 3 refine runL_step rfl (by simp [hw, hi, bt_eq]; rfl) ?_
                                      simp [runL]
                                      apply J.cond; simp [hw, hi, bt_eq]
                                      apply J.skip; simp
                                      apply J.seq
                                      refine J.regE (by simp [hw, hi, bt_eq]; rfl) ?_
                                      simp
                                      apply J.ret
                                      refine ⟨by simp, rfl, _, [], by simp [a44R]; rfl, ?_⟩
                                      simp
                                      unfold sizeR
                                      (repeat' split) <;> first | omega | (simp_all; done) | (simp_all; omega)
                          ·
                            try (exfalso; omega)
                            all_goals
                              apply J.skip; simp
                              apply J.seq
                              refine J.regE (by simp [hw, hi, bt_eq]; rfl) ?_
                              simp
                              apply J.ret
                              refine ⟨by simp, rfl, _, [], by simp [a44R]; rfl, ?_⟩
                              simp
                              unfold sizeR
                              (repeat' split) <;> first | omega | (simp_all; done) | (simp_all; omega)
                      ·
                        try simp only [g70]
                        try simp at g70
                        try (exfalso; omega)
                        all_goals
                          refine runL_step rfl (by simp [hw, hi, bt_eq]; rfl) ?_
                          simp [runL]
                          apply J.cond; simp [hw, hi, bt_eq]
                          apply J.skip; simp
                          apply J.seq
                          refine J.regE (by simp [hw, hi, bt_eq]; rfl) ?_
                          simp
                          apply J.ret
                          refine ⟨by simp, rfl, _, [], by simp [a44R]; rfl, ?_⟩
                          simp
                          unfold sizeR
                          (repeat' split) <;> first | omega | (simp_all; done) | (simp_all; omega)
                  ·
                    try simp only [g66]
                    try simp at g66
                    try (exfalso; omega)
                    all_goals
                      iterate 5 refine runL_step rfl (by simp [hw, hi, bt_eq]; rfl) ?_
                      simp [runL]
                      apply J.cond; simp [hw, hi, bt_eq]
                      apply J.skip; simp
                      apply J.seq
                      refine J.regE (by simp [hw, hi, bt_eq]; rfl) ?_
                      simp
                      apply J.ret
                      refine ⟨by simp, rfl, _, [], by simp [a44R]; rfl, ?_⟩
                      simp
                      unfold sizeR
                      (repeat' split) <;> first | omega | (simp_all; done) | (simp_all; omega)
      ·
        try simp only [g30]
        try simp at g30
        try (exfalso; omega)
        all_goals
          iterate 5 refine runL_step rfl (by simp [hw, hi, bt_eq]; rfl) ?_
          simp [runL]
          apply J.cond; simp [hw, hi, bt_eq]
          apply J.skip; simp
          apply J.seq
          apply J.seq
          apply J.reg
          iterate 3 refine runL_step rfl (by simp [hw, hi, bt_eq]; rfl) ?_
          refine runL_if rfl (fun g39 => ?_) (fun g39 => ?_)
          ·
            try simp only [g39]
            try simp at g39
            try (exfalso; omega)
            all_goals
              iterate 4 refine runL_step rfl (by simp [hw, hi, bt_eq]; rfl) ?_
              refine runL_if rfl (fun g43 => ?_) (fun g43 => ?_)
              ·
                try simp only [g43]
                try simp at g43
                try (exfalso; omega)
                all_goals
                  iterate 2 refine runL_step rfl (by simp [hw, hi, bt_eq]; rfl) ?_
                  simp [runL]
                  refine J.condB rfl (fun h45 => ?_) (fun h45 => ?_)
                  ·
                    have hlt := fol_lt h45
                    try (exfalso; omega)
                    all_goals
                      apply J.seq
                      refine J.regE (by simp [hw, hi, bt_eq, hlt]; rfl) ?_
                      simp
                      apply J.seq
                      apply J.seq
                      apply J.reg
                      iterate 3 refine runL_step rfl (by simp [hw, hi, bt_eq]; rfl) ?_
                      refine runL_if rfl (fun g52 => ?_) (fun g52 => ?_)
                      ·
                        try simp only [g52]
                        try simp at g52
                        try (exfalso; omega)
                        all_goals
                          iterate 4 refine runL_step rfl (by simp [hw, hi, bt_eq]; rfl) ?_
                          refine runL_if rfl (fun g56 => ?_) (fun g56 => ?_)
                          ·
                            try simp only [g56]
                            try simp at g56
                            try (exfalso; omega)
                            all_goals
                              iterate 3 refine runL_step rfl (by simp [hw, hi, bt_eq]; rfl) ?_
                              refine runL_if rfl (fun g59 => ?_) (fun g59 => ?_)
                              ·
                                try simp only [g59]
                                try simp at g59
                                try (exfalso; omega)
                                all_goals
                                  iterate 4 refine runL_step rfl (by simp [hw, hi, bt_eq]; rfl) ?_
                                  simp [runL]
                                  refine J.condB rfl (fun h63 => ?_) (fun h63 => ?_)
                                  ·
                                    try simp only [h63]
                                    try simp at h63
                                    try (exfalso; omega)
                                    all_goals
                                      apply J.seq
                                      refine J.regE (by simp [hw, hi, bt_eq]; rfl) ?_
                                      simp
                                      apply J.ret
                                      refine ⟨by simp, rfl, _, [], by simp [a44R]; rfl, ?_⟩
                                      simp
                                      unfold sizeR
                                      (repeat' split) <;> first | omega | (simp_all; done) | (simp_all; omega)
                                  ·
                                    try simp only [h63]
                                    try simp at h63
                                    try (exfalso; omega)
                                    all_goals
                                      apply J.skip; simp
                                      apply J.seq
                                      refine J.regE (by simp [hw, hi, bt_eq]; rfl) ?_
                                      simp
                                      apply J.ret
                                      refine ⟨by simp, rfl, _, [], by simp [a44R]; rfl, ?_⟩
                                      simp
                                      unfold sizeR
                                      (repeat' split) <;> first | omega | (simp_all; done) | (simp_all; omega)
                              ·
                                try simp only [g59]
                                try simp at g59
                                try (exfalso; omega)
                                all_goals
                                  iterate 3 refine runL_step rfl (by simp [hw, hi, bt_eq]; rfl) ?_
                                  simp [runL]
                                  apply J.cond; simp [hw, hi, bt_eq]
                                  apply J.skip; simp
                                  apply J.seq
                                  refine J.regE (by simp [hw, hi, bt_eq]; rfl) ?_
                                  simp
                                  apply J.ret
                                  refine ⟨by simp, rfl, _, [], by simp [a44R]; rfl, ?_⟩
                                  simp
                                  unfold sizeR
                                  (repeat' split) <;> first | omega | (simp_all; done) | (simp_all; omega)
                          ·
                            try simp only [g56]
                            try simp at g56
                            try (exfalso; omega)
                            all_goals
                              iterate 6 refine runL_step rfl (by simp [hw, hi, bt_eq]; rfl) ?_
                              simp [runL]
                              apply J.cond; simp [hw, hi, bt_eq]
                              apply J.seq
                              refine J.regE (by simp [hw, hi, bt_eq]; rfl) ?_
                              simp
                              apply J.ret
                              refine ⟨by simp, rfl, _, [], by simp [a44R]; rfl, ?_⟩
                              simp
                              unfold sizeR
                              (repeat' split) <;> first | omega | (simp_all; done) | (simp_all; omega)
                      ·
                        try simp only [g52]
                        try simp at g52
                        try (exfalso; omega)
                        all_goals
                          iterate 6 refine runL_step rfl (by simp [hw, hi, bt_eq]; rfl) ?_
                          refine runL_if rfl (fun g59 => ?_) (fun g59 => ?_)
                          ·
                            try simp only [g59]
                            try simp at g59
                            try (exfalso; omega)
                            all_goals
                              iterate 4 refine runL_step rfl (by simp [hw, hi, bt_eq]; rfl) ?_
                              simp [runL]
                              refine J.condB rfl (fun h63 => ?_) (fun h63 => ?_)
                              ·
                                try simp only [h63]
                                try simp at h63
                                try (exfalso; omega)
                                all_goals
                                  apply J.seq
                                  refine J.regE (by simp [hw, hi, bt_eq]; rfl) ?_
                                  simp
                                  apply J.ret
                                  refine ⟨by simp, rfl, _, [], by simp [a44R]; rfl, ?_⟩
                                  simp
                                  unfold sizeR
                                  (repeat' split) <;> first | omega | (simp_all; done) | (simp_all; omega)
                              ·
                                try simp only [h63]
                                try simp at h63
                                try (exfalso; omega)
                                all_goals
                                  apply J.skip; simp
                                  apply J.seq
                                  refine J.regE (by simp [hw, hi, bt_eq]; rfl) ?_
                                  simp
                                  apply J.ret
                                  refine ⟨by simp, rfl, _, [], by simp [a44R]; rfl, ?_⟩
                                  simp
                                  unfold sizeR
                                  (repeat' split) <;> first | omega | (simp_all; done) | (simp_all; omega)
                          ·
                            try simp only [g59]
                            try simp at g59
                            try (exfalso; omega)
                            all_goals
                              iterate 3 refine runL_step rfl (by simp [hw, hi, bt_eq]; rfl) ?_
                              simp [runL]
                              apply J.cond; simp [hw, hi, bt_eq]
                              apply J.skip; simp
                              apply J.seq
                              refine J.regE (by simp [hw, hi, bt_eq]; rfl) ?_
                              simp
                              apply J.ret
                              refine ⟨by simp, rfl, _, [], by simp [a44R]; rfl, ?_⟩
                              simp
                              unfold sizeR
                              (repeat' split) <;> first | omega | (simp_all; done) | (simp_all; omega)
                  ·
                    try (exfalso; omega)
                    all_goals
                      apply J.skip; simp
                      apply J.seq
                      apply J.seq
                      apply J.reg
                      iterate 3 refine runL_step rfl (by simp [hw, hi, bt_eq]; rfl) ?_
                      refine runL_if rfl (fun g66 => ?_) (fun g66 => ?_)
                      ·
                        try simp only [g66]
                        try simp at g66
                        try (exfalso; omega)
                        all_goals
                          iterate 4 refine runL_step rfl (by simp [hw, hi, bt_eq]; rfl) ?_
                          refine runL_if rfl (fun g70 => ?_) (fun g70 => ?_)
                          ·
                            try simp only [g70]
                            try simp at g70
                            try (exfalso; omega)
                            all_goals
                              iterate 2 refine runL_step rfl (by simp [hw, hi, bt_eq]; rfl) ?_
                              simp [runL]
                              refine J.condB rfl (fun h72 => ?_) (fun h72 => ?_)
                              ·
                                have hlt := fol_lt h72
                                try (exfalso; omega)
                                all_goals
                                  apply J.seq
                                  refine J.regE (by simp [hw, hi, bt_eq, hlt]; rfl) ?_
                                  simp
                                  apply J.seq
                                  apply J.seq
                                  apply J.reg
                                  iterate 3 refine runL_step rfl (by simp [hw, hi, bt_eq]; rfl) ?_
                                  refine runL_if rfl (fun g79 => ?_) (fun g79 => ?_)
                                  ·
                                    try simp only [g79]
                                    try simp at g79
                                    try (exfalso; omega)
                                    all_goals
                                      iterate 4 refine runL_step rfl (by simp [hw, hi, bt_eq]; rfl) ?_
                                      refine runL_if rfl (fun g83 => ?_) (fun g83 => ?_)
                                      ·
                                        try simp only [g83]
                                        try simp at g83
                                        try (exfalso; omega)
                                        all_goals
                                          iterate 3 refine runL_step rfl (by simp [hw, hi, bt_eq]; rfl) ?_
                                          refine runL_if rfl (fun g86 => ?_) (fun g86 => ?_)
                                          ·
                                            try simp only [g86]
                                            try simp at g86
                                            try (exfalso; omega)
                                            all_goals
                                              iterate 4 refine runL_step rfl (by simp [hw, hi, bt_eq]; rfl) ?_
                                              simp [runL]
                                              refine J.condB rfl (fun h90 => ?_) (fun h90 => ?_)
                                              ·
                                                try simp only [h90]
                                                try simp at h90
                                                try (exfalso; omega)
                                                all_goals
                                                  apply J.seq
                                                  refine J.regE (by simp [hw, hi, bt_eq]; rfl) ?_
                                                  simp
                                                  apply J.ret
                                                  refine ⟨by simp, rfl, _, [], by simp [a44R]; rfl, ?_⟩
                                                  simp
                                                  unfold sizeR
                                                  (repeat' split) <;> first | omega | (simp_all; done) | (simp_all; omega)
                                              ·
                                                try simp only [h90]
                                                try simp at h90
                                                try (exfalso; omega)
                                                all_goals
                                                  apply J.skip; simp
                                                  apply J.seq
                                                  refine J.regE (by simp [hw, hi, bt_eq]; rfl) ?_
                                                  simp
                                                  apply J.ret
                                                  refine ⟨by simp, rfl, _, [], by simp [a44R]; rfl, ?_⟩
                                                  simp
                                                  unfold sizeR
                                                  (repeat' split) <;> first | omega | (simp_all; done) | (simp_all; omega)
                                          ·
                                            try simp only [g86]
                                            try simp at g86
                                            try (exfalso; omega)
                                            all_goals
                                              iterate 3 refine runL_step rfl (by simp [hw, hi, bt_eq]; rfl) ?_
                                              simp [runL]
                                              apply J.cond; simp [hw, hi, bt_eq]
                                              apply J.skip; simp
                                              apply J.seq
                                              refine J.regE (by simp [hw, hi, bt_eq]; rfl) ?_
                                              simp
                                              apply J.ret
                                              refine ⟨by simp, rfl, _, [], by simp [a44R]; rfl, ?_⟩
                                              simp
                                              unfold sizeR
                                              (repeat' split) <;> first | omega | (simp_all; done) | (simp_all; omega)
                                      ·
                                        try simp only [g83]
                                        try simp at g83
                                        try (exfalso; omega)
                                        all_goals
                                          iterate 6 refine runL_step rfl (by simp [hw, hi, bt_eq]; rfl) ?_
                                          simp [runL]
                                          apply J.cond; simp [hw, hi, bt_eq]
                                          apply J.seq
                                          refine J.regE (by simp [hw, hi, bt_eq]; rfl) ?_
                                          simp
                                          apply J.ret
                                          refine ⟨by simp, rfl, _, [], by simp [a44R]; rfl, ?_⟩
                                          simp
                                          unfold sizeR
                                          (repeat' split) <;> first | omega | (simp_all; done) | (simp_all; omega)
                                  ·
                                    try simp only [g79]
                                    try simp at g79
                                    try (exfalso; omega)
                                    all_goals
                                      iterate 6 refine runL_step rfl (by simp [hw, hi, bt_eq]; rfl) ?_
                                      refine runL_if rfl (fun g86 => ?_) (fun g86 => ?_)
                                      ·
                                        try simp only [g86]
                                        try simp at g86
                                        try (exfalso; omega)
                                        all_goals
                                          iterate 4 refine runL_step rfl (by simp [hw, hi, bt_eq]; rfl) ?_
                                          simp [runL]
                                          refine J.condB rfl (fun h90 => ?_) (fun h90 => ?_)
                                          ·
                                            try simp only [h90]
                                            try simp at h90
                                            try (exfalso; omega)
                                            all_goals
                                              apply J.seq
                                              refine J.regE (by simp [hw, hi, bt_eq]; rfl) ?_
                                              simp
                                              apply J.ret
                                              refine ⟨by simp, rfl, _, [], by simp [a44R]; rfl, ?_⟩
                                              simp
                                              unfold sizeR
                                              (repeat' split) <;> first | omega | (simp_all; done) | (simp_all; omega)
                                          ·
                                            try simp only [h90]
                                            try simp at h90
                                            try (exfalso; omega)
                                            all_goals
                                              apply J.skip; simp
                                              apply J.seq
                                              refine J.regE (by simp [hw, hi, bt_eq]; rfl) ?_
                                              simp
                                              apply J.ret
                                              refine ⟨by simp, rfl, _, [], by simp [a44R]; rfl, ?_⟩
                                              simp
                                              unfold sizeR
                                              (repeat' split) <;> first | omega | (simp_all; done) | (simp_all; omega)
                                      ·
                                        try simp only [g86]
                                        try simp at g86
                                        try (exfalso; omega)
                                        all_goals
                                          iterate 3 refine runL_step rfl (by simp [hw, hi, bt_eq]; rfl) ?_
                                          simp [runL]
                                          apply J.cond; simp [hw, hi, bt_eq]
                                          apply J.skip; simp
                                          apply J.seq
                                          refine J.regE (by simp [hw, hi, bt_eq]; rfl) ?_
                                          simp
                                          apply J.ret
                                          refine ⟨by simp, rfl, _, [], by simp [a44R]; rfl, ?_⟩
                                          simp
                                          unfold sizeR
                                          (repeat' split) <;> first | omega | (simp_all; done) | (simp_all; omega)
                              ·
                                try (exfalso; omega)
                                all_goals
                                  apply J.skip; simp
                                  apply J.seq
                                  refine J.regE (by simp [hw, hi, bt_eq]; rfl) ?_
                                  simp
                                  apply J.ret
                                  refine ⟨by simp, rfl, _, [], by simp [a44R]; rfl, ?_⟩
                                  simp
                                  unfold sizeR
                                  (repeat' split) <;> first | omega | (simp_all; done) | (simp_all; omega)
                          ·
                            try simp only [g70]
                            try simp at g70
                            try (exfalso; omega)
                            all_goals
                              refine runL_step rfl (by simp [hw, hi, bt_eq]; rfl) ?_
                              simp [runL]
                              apply J.cond; simp [hw, hi, bt_eq]
                              apply J.skip; simp
                              apply J.seq
                              refine J.regE (by simp [hw, hi, bt_eq]; rfl) ?_
                              simp
                              apply J.ret
                              refine ⟨by simp, rfl, _, [], by simp [a44R]; rfl, ?_⟩
                              simp
                              unfold sizeR
                              (repeat' split) <;> first | omega | (simp_all; done) | (simp_all; omega)
                      ·
                        try simp only [g66]
                        try simp at g66
                        try (exfalso; omega)
                        all_goals
                          iterate 5 refine runL_step rfl (by simp [hw, hi, bt_eq]; rfl) ?_
                          simp [runL]
                          apply J.cond; simp [hw, hi, bt_eq]
                          apply J.skip; simp
                          apply J.seq
                          refine J.regE (by simp [hw, hi, bt_eq]; rfl) ?_
                          simp
                          apply J.ret
                          refine ⟨by simp, rfl, _, [], by simp [a44R]; rfl, ?_⟩
                          simp
                          unfold sizeR
                          (repeat' split) <;> first | omega | (simp_all; done) | (simp_all; omega)
              ·
                try simp only [g43]
                try simp at g43
                try (exfalso; omega)
                all_goals
                  refine runL_step rfl (by simp [hw, hi, bt_eq]; rfl) ?_
                  simp [runL]
                  apply J.cond; simp [hw, hi, bt_eq]
                  apply J.skip; simp
                  apply J.seq
                  apply J.seq
                  apply J.reg
                  iterate 3 refine runL_step rfl (by simp [hw, hi, bt_eq]; rfl) ?_
                  refine runL_if rfl (fun g66 => ?_) (fun g66 => ?_)
                  ·
                    try simp only [g66]
                    try simp at g66
                    try (exfalso; omega)
                    all_goals
                      iterate 4 refine runL_step rfl (by simp [hw, hi, bt_eq]; rfl) ?_
                      refine runL_if rfl (fun g70 => ?_) (fun g70 => ?_)
                      ·
                        try simp only [g70]
                        try simp at g70
                        try (exfalso; omega)
                        all_goals
                          iterate 2 refine runL_step rfl (by simp [hw, hi, bt_eq]; rfl) ?_
                          simp [runL]
                          refine J.condB rfl (fun h72 => ?_) (fun h72 => ?_)
                          ·
                            have hlt := fol_lt h72
                            try (exfalso; omega)
                            all_goals
                              apply J.seq
                              refine J.regE (by simp [hw, hi, bt_eq, hlt]; rfl) ?_
                              simp
                              apply J.seq
                              apply J.seq
                              apply J.reg
                              iterate 3 refine runL_step rfl (by simp [hw, hi, bt_eq]; rfl) ?_
                              refine runL_if rfl (fun g79 => ?_) (fun g79 => ?_)
                              ·
                                try simp only [g79]
                                try simp at g79
                                try (exfalso; omega)
                                all_goals
                                  iterate 4 refine runL_step rfl (by simp [hw, hi, bt_eq]; rfl) ?_
                                  refine runL_if rfl (fun g83 => ?_) (fun g83 => ?_)
                                  ·
                                    try simp only [g83]
                                    try simp at g83
                                    try (exfalso; omega)
                                    all_goals
                                      iterate 3 refine runL_step rfl (by simp [hw, hi, bt_eq]; rfl) ?_
                                      refine runL_if rfl (fun g86 => ?_) (fun g86 => ?_)
                                      ·
                                        try simp only [g86]
                                        try simp at g86
                                        try (exfalso; omega)
                                        all_goals
                                          iterate 4 refine runL_step rfl (by simp [hw, hi, bt_eq]; rfl) ?_
                                          simp [runL]
                                          refine J.condB rfl (fun h90 => ?_) (fun h90 => ?_)
                                          ·
                                            try simp only [h90]
                                            try simp at h90
                                            try (exfalso; omega)
                                            all_goals
                                              apply J.seq
                                              refine J.regE (by simp [hw, hi, bt_eq]; rfl) ?_
                                              simp
                                              apply J.ret
                                              refine ⟨by simp, rfl, _, [], by simp [a44R]; rfl, ?_⟩
                                              simp
                                              unfold sizeR
                                              (repeat' split) <;> first | omega | (simp_all; done) | (simp_all; omega)
                                          ·
                                            try simp only [h90]
                                            try simp at h90
                                            try (exfalso; omega)
                                            all_goals
                                              apply J.skip; simp
                                              apply J.seq
                                              refine J.regE (by simp [hw, hi, bt_eq]; rfl) ?_
                                              simp
                                              apply J.ret
                                              refine ⟨by simp, rfl, _, [], by simp [a44R]; rfl, ?_⟩
                                              simp
                                              unfold sizeR
                                              (repeat' split) <;> first | omega | (simp_all; done) | (simp_all; omega)
                                      ·
                                        try simp only [g86]
                                        try simp at g86
                                        try (exfalso; omega)
                                        all_goals
                                          iterate 3 refine runL_step rfl (by simp [hw, hi, bt_eq]; rfl) ?_
                                          simp [runL]
                                          apply J.cond; simp [hw, hi, bt_eq]
                                          apply J.skip; simp
                                          apply J.seq
                                          refine J.regE (by simp [hw, hi, bt_eq]; rfl) ?_
                                          simp
                                          apply J.ret
                                          refine ⟨by simp, rfl, _, [], by simp [a44R]; rfl, ?_⟩
                                          simp
                                          unfold sizeR
                                          (repeat' split) <;> first | omega | (simp_all; done) | (simp_all; omega)
                                  ·
                                    try simp only [g83]
                                    try simp at g83
                                    try (exfalso; omega)
                                    all_goals
                                      iterate 6 refine runL_step rfl (by simp [hw, hi, bt_eq]; rfl) ?_
                                      simp [runL]
                                      apply J.cond; simp [hw, hi, bt_eq]
                                      apply J.seq
                                      refine J.regE (by simp [hw, hi, bt_eq]; rfl) ?_
                                      simp
                                      apply J.ret
                                      refine ⟨by simp, rfl, _, [], by simp [a44R]; rfl, ?_⟩
                                      simp
                                      unfold sizeR
                                      (repeat' split) <;> first | omega | (simp_all; done) | (simp_all; omega)
                              ·
                                try simp only [g79]
                                try simp at g79
                                try (exfalso; omega)
                                all_goals
                                  iterate 6 refine runL_step rfl (by simp [hw, hi, bt_eq]; rfl) ?_
                                  refine runL_if rfl (fun g86 => ?_) (fun g86 => ?_)
                                  ·
                                    try simp only [g86]
                                    try simp at g86
                                    try (exfalso; omega)
                                    all_goals
                                      iterate 4 refine runL_step rfl (by simp [hw, hi, bt_eq]; rfl) ?_
                                      simp [runL]
                                      refine J.condB rfl (fun h90 => ?_) (fun h90 => ?_)
                                      ·
                                        try simp only [h90]
                                        try simp at h90
                                        try (exfalso; omega)
                                        all_goals
                                          apply J.seq
                                          refine J.regE (by simp [hw, hi, bt_eq]; rfl) ?_
                                          simp
                                          apply J.ret
                                          refine ⟨by simp, rfl, _, [], by simp [a44R]; rfl, ?_⟩
                                          simp
                                          unfold sizeR
                                          (repeat' split) <;> first | omega | (simp_all; done) | (simp_all; omega)
                                      ·
                                        try simp only [h90]
                                        try simp at h90
                                        try (exfalso; omega)
                                        all_goals
                                          apply J.skip; simp
                                          apply J.seq
                                          refine J.regE (by simp [hw, hi, bt_eq]; rfl) ?_
                                          simp
                                          apply J.ret
                                          refine ⟨by simp, rfl, _, [], by simp [a44R]; rfl, ?_⟩
                                          simp
                                          unfold sizeR
                                          (repeat' split) <;> first | omega | (simp_all; done) | (simp_all; omega)
                                  ·
                                    try simp only [g86]
                                    try simp at g86
                                    try (exfalso; omega)
                                    all_goals
                                      iterate 3 refine runL_step rfl (by simp [hw, hi, bt_eq]; rfl) ?_
                                      simp [runL]
                                      apply J.cond; simp [hw, hi, bt_eq]
                                      apply J.skip; simp
                                      apply J.seq
                                      refine J.regE (by simp [hw, hi, bt_eq]; rfl) ?_
                                      simp
                                      apply J.ret
                                      refine ⟨by simp, rfl, _, [], by simp [a44R]; rfl, ?_⟩
                                      simp
                                      unfold sizeR
                                      (repeat' split) <;> first | omega | (simp_all; done) | (simp_all; omega)
                          ·
                            try (exfalso; omega)
                            all_goals
                              apply J.skip; simp
                              apply J.seq
                              refine J.regE (by simp [hw, hi, bt_eq]; rfl) ?_
                              simp
                              apply J.ret
                              refine ⟨by simp, rfl, _, [], by simp [a44R]; rfl, ?_⟩
                              simp
                              unfold sizeR
                              (repeat' split) <;> first | omega | (simp_all; done) | (simp_all; omega)
                      ·
                        try simp only [g70]
                        try simp at g70
                        try (exfalso; omega)
                        all_goals
                          refine runL_step rfl (by simp [hw, hi, bt_eq]; rfl) ?_
                          simp [runL]
                          apply J.cond; simp [hw, hi, bt_eq]
                          apply J.skip; simp
                          apply J.seq
                          refine J.regE (by simp [hw, hi, bt_eq]; rfl) ?_
                          simp
                          apply J.ret
                          refine ⟨by simp, rfl, _, [], by simp [a44R]; rfl, ?_⟩
                          simp
                          unfold sizeR
                          (repeat' split) <;> first | omega | (simp_all; done) | (simp_all; omega)
                  ·
                    try simp only [g66]
                    try simp at g66
                    try (exfalso; omega)
                    all_goals
                      iterate 5 refine runL_step rfl (by simp [hw, hi, bt_eq]; rfl) ?_
                      simp [runL]
                      apply J.cond; simp [hw, hi, bt_eq]
                      apply J.skip; simp
                      apply J.seq
                      refine J.regE (by simp [hw, hi, bt_eq]; rfl) ?_
                      simp
                      apply J.ret
                      refine ⟨by simp, rfl, _, [], by simp [a44R]; rfl, ?_⟩
                      simp
                      unfold sizeR
                      (repeat' split) <;> first | omega | (simp_all; done) | (simp_all; omega)
          ·
            try simp only [g39]
            try simp at g39
            try (exfalso; omega)
            all_goals
              iterate 5 refine runL_step rfl (by simp [hw, hi, bt_eq]; rfl) ?_
              simp [runL]
              apply J.cond; simp [hw, hi, bt_eq]
              apply J.skip; simp
              apply J.seq
              apply J.seq
              apply J.reg
              iterate 3 refine runL_step rfl (by simp [hw, hi, bt_eq]; rfl) ?_
              refine runL_if rfl (fun g66 => ?_) (fun g66 => ?_)
              ·
                try simp only [g66]
                try simp at g66
                try (exfalso; omega)
                all_goals
                  iterate 4 refine runL_step rfl (by simp [hw, hi, bt_eq]; rfl) ?_
                  refine runL_if rfl (fun g70 => ?_) (fun g70 => ?_)
                  ·
                    try simp only [g70]
                    try simp at g70
                    try (exfalso; omega)
                    all_goals
                      iterate 2 refine runL_step rfl (by simp [hw, hi, bt_eq]; rfl) ?_
                      simp [runL]
                      refine J.condB rfl (fun h72 => ?_) (fun h72 => ?_)
                      ·
                        have hlt := fol_lt h72
                        try (exfalso; omega)
                        all_goals
                          apply J.seq
                          refine J.regE (by simp [hw, hi, bt_eq, hlt]; rfl) ?_
                          simp
                          apply J.seq
                          apply J.seq
                          apply J.reg
                          iterate 3 refine runL_step rfl (by simp [hw, hi, bt_eq]; rfl) ?_
                          refine runL_if rfl (fun g79 => ?_) (fun g79 => ?_)
                          ·
                            try simp only [g79]
                            try simp at g79
                            try (exfalso; omega)
                            all_goals
                              iterate 4 refine runL_step rfl (by simp [hw, hi, bt_eq]; rfl) ?_
                              refine runL_if rfl (fun g83 => ?_) (fun g83 => ?_)
                              ·
                                try simp only [g83]
                                try simp at g83
                                try (exfalso; omega)
                                all_goals
                                  iterate 3 refine runL_step rfl (by simp [hw, hi, bt_eq]; rfl) ?_
                                  refine runL_if rfl (fun g86 => ?_) (fun g86 => ?_)
                                  ·
                                    try simp only [g86]
                                    try simp at g86
                                    try (exfalso; omega)
                                    all_goals
                                      iterate 4 refine runL_step rfl (by simp [hw, hi, bt_eq]; rfl) ?_
                                      simp [runL]
                                      refine J.condB rfl (fun h90 => ?_) (fun h90 => ?_)
                                      ·
                                        try simp only [h90]
                                        try simp at h90
                                        try (exfalso; omega)
                                        all_goals
                                          apply J.seq
                                          refine J.regE (by simp [hw, hi, bt_eq]; rfl) ?_
                                          simp
                                          apply J.ret
                                          refine ⟨by simp, rfl, _, [], by simp [a44R]; rfl, ?_⟩
                                          simp
                                          unfold sizeR
                                          (repeat' split) <;> first | omega | (simp_all; done) | (simp_all; omega)
                                      ·
                                        try simp only [h90]
                                        try simp at h90
                                        try (exfalso; omega)
                                        all_goals
                                          apply J.skip; simp
                                          apply J.seq
                                          refine J.regE (by simp [hw, hi, bt_eq]; rfl) ?_
                                          simp
                                          apply J.ret
                                          refine ⟨by simp, rfl, _, [], by simp [a44R]; rfl, ?_⟩
                                          simp
                                          unfold sizeR
                                          (repeat' split) <;> first | omega | (simp_all; done) | (simp_all; omega)
                                  ·
                                    try simp only [g86]
                                    try simp at g86
                                    try (exfalso; omega)
                                    all_goals
                                      iterate 3 refine runL_step rfl (by simp [hw, hi, bt_eq]; rfl) ?_
                                      simp [runL]
                                      apply J.cond; simp [hw, hi, bt_eq]
                                      apply J.skip; simp
                                      apply J.seq
                                      refine J.regE (by simp [hw, hi, bt_eq]; rfl) ?_
                                      simp
                                      apply J.ret
                                      refine ⟨by simp, rfl, _, [], by simp [a44R]; rfl, ?_⟩
                                      simp
                                      unfold sizeR
                                      (repeat' split) <;> first | omega | (simp_all; done) | (simp_all; omega)
                              ·
                                try simp only [g83]
                                try simp at g83
                                try (exfalso; omega)
                                all_goals
                                  iterate 6 refine runL_step rfl (by simp [hw, hi, bt_eq]; rfl) ?_
                                  simp [runL]
                                  apply J.cond; simp [hw, hi, bt_eq]
                                  apply J.seq
                                  refine J.regE (by simp [hw, hi, bt_eq]; rfl) ?_
                                  simp
                                  apply J.ret
                                  refine ⟨by simp, rfl, _, [], by simp [a44R]; rfl, ?_⟩
                                  simp
                                  unfold sizeR
                                  (repeat' split) <;> first | omega | (simp_all; done) | (simp_all; omega)
                          ·
                            try simp only [g79]
                            try simp at g79
                            try (exfalso; omega)
                            all_goals
                              iterate 6 refine runL_step rfl (by simp [hw, hi, bt_eq]; rfl) ?_
                              refine runL_if rfl (fun g86 => ?_) (fun g86 => ?_)
                              ·
                                try simp only [g86]
                                try simp at g86
                                try (exfalso; omega)
                                all_goals
                                  iterate 4 refine runL_step rfl (by simp [hw, hi, bt_eq]; rfl) ?_
                                  simp [runL]
                                  refine J.condB rfl (fun h90 => ?_) (fun h90 => ?_)
                                  ·
                                    try simp only [h90]
                                    try simp at h90
                                    try (exfalso; omega)
                                    all_goals
                                      apply J.seq
                                      refine J.regE (by simp [hw, hi, bt_eq]; rfl) ?_
                                      simp
                                      apply J.ret
                                      refine ⟨by simp, rfl, _, [], by simp [a44R]; rfl, ?_⟩
                                      simp
                                      unfold sizeR
                                      (repeat' split) <;> first | omega | (simp_all; done) | (simp_all; omega)
                                  ·
                                    try simp only [h90]
                                    try simp at h90
                                    try (exfalso; omega)
                                    all_goals
                                      apply J.skip; simp
                                      apply J.seq
                                      refine J.regE (by simp [hw, hi, bt_eq]; rfl) ?_
                                      simp
                                      apply J.ret
                                      refine ⟨by simp, rfl, _, [], by simp [a44R]; rfl, ?_⟩
                                      simp
                                      unfold sizeR
                                      (repeat' split) <;> first | omega | (simp_all; done) | (simp_all; omega)
                              ·
                                try simp only [g86]
                                try simp at g86
                                try (exfalso; omega)
                                all_goals
                                  iterate 3 refine runL_step rfl (by simp [hw, hi, bt_eq]; rfl) ?_
                                  simp [runL]
                                  apply J.cond; simp [hw, hi, bt_eq]
                                  apply J.skip; simp
                                  apply J.seq
                                  refine J.regE (by simp [hw, hi, bt_eq]; rfl) ?_
                                  simp
                                  apply J.ret
                                  refine ⟨by simp, rfl, _, [], by simp [a44R]; rfl, ?_⟩
                                  simp
                                  unfold sizeR
                                  (repeat' split) <;> first | omega | (simp_all; done) | (simp_all; omega)
                      ·
                        try (exfalso; omega)
                        all_goals
                          apply J.skip; simp
                          apply J.seq
                          refine J.regE (by simp [hw, hi, bt_eq]; rfl) ?_
                          simp
                          apply J.ret
                          refine ⟨by simp, rfl, _, [], by simp [a44R]; rfl, ?_⟩
                          simp
                          unfold sizeR
                          (repeat' split) <;> first | omega | (simp_all; done) | (simp_all; omega)
                  ·
                    try simp only [g70]
                    try simp at g70
                    try (exfalso; omega)
                    all_goals
                      refine runL_step rfl (by simp [hw, hi, bt_eq]; rfl) ?_
                      simp [runL]
                      apply J.cond; simp [hw, hi, bt_eq]
                      apply J.skip; simp
                      apply J.seq
                      refine J.regE (by simp [hw, hi, bt_eq]; rfl) ?_
                      simp
                      apply J.ret
                      refine ⟨by simp, rfl, _, [], by simp [a44R]; rfl, ?_⟩
                      simp
                      unfold sizeR
                      (repeat' split) <;> first | omega | (simp_all; done) | (simp_all; omega)
              ·
                try simp only [g66]
                try simp at g66
                try (exfalso; omega)
                all_goals
                  iterate 5 refine runL_step rfl (by simp [hw, hi, bt_eq]; rfl) ?_
                  simp [runL]
                  apply J.cond; simp [hw, hi, bt_eq]
                  apply J.skip; simp
                  apply J.seq
                  refine J.regE (by simp [hw, hi, bt_eq]; rfl) ?_
                  simp
                  apply J.ret
                  refine ⟨by simp, rfl, _, [], by simp [a44R]; rfl, ?_⟩
                  simp
                  unfold sizeR
                  (repeat' split) <;> first | omega | (simp_all; done) | (simp_all; omega)

theorem c40 : chkFn Tryd.prog 40 37 1 a40 a40R = true := by kernel_rfl
/-- colloquy/colloquyref14.May -/
theorem d40 (s : ByteArray) (hs : s.size ≤ 100000) : DoesT 40 [sv s] (bv (decide (1 ≤ s.size) && decide (s.size ≤ 64) && mayT s s.size 0)) := by
  refine Does.of (nt := 37) (ac := a40) (rds := a40R) c40 (fun c hc => ?_)
  unfold a40
  apply J.seq
  refine J.regE (by simp [bt_eq]; rfl) ?_
  simp
  apply J.seq
  apply J.seq
  apply J.reg
  iterate 4 refine runL_step rfl (by simp [bt_eq]; rfl) ?_
  refine runL_if rfl (fun g8 => ?_) (fun g8 => ?_)
  ·
    try simp only [g8]
    try simp at g8
    iterate 4 refine runL_step rfl (by simp [bt_eq]; rfl) ?_
    simp [runL]
    refine J.condB rfl (fun h12 => ?_) (fun h12 => ?_)
    ·
      try simp only [h12]
      try simp at h12
      apply J.seq
      refine J.regE (by simp [bt_eq]; rfl) ?_
      simp
      apply J.ret
      refine ⟨by simp, rfl, _, [], by simp [a40R]; rfl, ?_⟩
      have : ¬ s.size ≤ 64 := by omega
      simp [this]
    ·
      try simp only [h12]
      try simp at h12
      apply J.skip; simp
      apply J.seq
      apply J.seq
      refine J.regE (by simp [bt_eq]; rfl) ?_
      simp
      apply J.block
      refine J.loop hc (I40 s) ?_ ?_
      · refine ⟨_, _, St.le_refl _, 0, s.size, by omega, rfl, by omega, rfl, by simp⟩
      rintro n st ⟨i, f, hi, rfl, hf, hI, rfl⟩
      apply J.seq
      apply J.seq
      refine J.regE (by simp [bt_eq]; rfl) ?_
      simp
      refine J.condB rfl (fun h16 => ?_) (fun h16 => ?_)
      ·
        simp at h16
        obtain ⟨q, rfl⟩ : ∃ q, f = q + 1 := ⟨f - 1, by omega⟩
        have hsz := sizeR_le s i
        have hw : IntKind.i64.wrap ((i : Int) + (sizeR s i : Nat)) = ((i + sizeR s i : Nat) : Int) := by rw [wrap_id (by omega) (by omega)]; omega
        apply J.skip; simp
        apply J.block
        apply J.seq
        apply J.reg
        iterate 2 refine runL_step rfl (by simp [bt_eq]; rfl) ?_
        refine runL_tree rfl (d44 s i hs h16) (by simp) hc ?_
        simp
        refine runL_step rfl (by simp [bt_eq]; rfl) ?_
        simp [runL]
        apply J.seq
        apply J.seq
        apply J.reg
        iterate 3 refine runL_step rfl (by simp [bt_eq, h16]; rfl) ?_
        refine runL_if rfl (fun g22 => ?_) (fun g22 => ?_)
        ·
          try simp only [g22]
          try simp at g22
          iterate 6 refine runL_step rfl (by simp [bt_eq, h16]; rfl) ?_
          refine runL_if rfl (fun g28 => ?_) (fun g28 => ?_)
          ·
            try simp only [g28]
            try simp at g28
            iterate 5 refine runL_step rfl (by simp [bt_eq, h16]; rfl) ?_
            simp [runL]
            refine J.condB rfl (fun h33 => ?_) (fun h33 => ?_)
            ·
              try simp only [h33]
              try simp at h33
              apply J.seq
              refine J.regE (by simp [bt_eq]; rfl) ?_
              simp
              apply J.ret
              refine ⟨by simp, rfl, _, [], by simp [a40R]; rfl, ?_⟩
              have e1 : mayT s s.size 0 = false := by rw [hI]; simp [mayT, h16]; omega
              simp [e1]
            ·
              try simp only [h33]
              try simp at h33
              apply J.skip; simp
              refine J.regE (by simp [bt_eq, hw]; rfl) ?_
              simp
              refine ⟨s.size + 4 - (i + sizeR s i), ?_, _, St.le_refl _, i + sizeR s i, q, ?_, rfl, ?_, ?_, by simp⟩
              · omega
              · omega
              · omega
              · rw [hI]; simp [mayT, *]; omega
          ·
            try simp only [g28]
            try simp at g28
            iterate 4 refine runL_step rfl (by simp [bt_eq, h16]; rfl) ?_
            simp [runL]
            apply J.cond; simp [bt_eq]
            apply J.seq
            refine J.regE (by simp [bt_eq]; rfl) ?_
            simp
            apply J.ret
            refine ⟨by simp, rfl, _, [], by simp [a40R]; rfl, ?_⟩
            have e1 : mayT s s.size 0 = false := by rw [hI]; simp [mayT, h16]; omega
            simp [e1]
        ·
          try simp only [g22]
          try simp at g22
          iterate 10 refine runL_step rfl (by simp [bt_eq, h16]; rfl) ?_
          simp [runL]
          apply J.cond; simp [bt_eq]
          apply J.seq
          refine J.regE (by simp [bt_eq]; rfl) ?_
          simp
          apply J.ret
          refine ⟨by simp, rfl, _, [], by simp [a40R]; rfl, ?_⟩
          have e1 : mayT s s.size 0 = false := by rw [hI]; simp [mayT, h16]; omega
          simp [e1]
      ·
        simp at h16
        apply J.exit; simp
        apply J.seq
        refine J.regE (by simp [bt_eq]; rfl) ?_
        simp
        apply J.ret
        refine ⟨by simp, rfl, _, [], by simp [a40R]; rfl, ?_⟩
        have e1 : mayT s s.size 0 = true := by rw [hI]; exact mayT_end (by omega)
        have e2 : 1 ≤ s.size := by omega
        have e3 : s.size ≤ 64 := by omega
        simp [e1, e2, e3]
  ·
    try simp only [g8]
    try simp at g8
    iterate 3 refine runL_step rfl (by simp [bt_eq]; rfl) ?_
    simp [runL]
    apply J.cond; simp [bt_eq]
    apply J.seq
    refine J.regE (by simp [bt_eq]; rfl) ?_
    simp
    apply J.ret
    refine ⟨by simp, rfl, _, [], by simp [a40R]; rfl, ?_⟩
    have : ¬ 1 ≤ s.size := by omega
    simp [this]

end Go.Proofs.YtifpfpiljionmaaDoor.F
