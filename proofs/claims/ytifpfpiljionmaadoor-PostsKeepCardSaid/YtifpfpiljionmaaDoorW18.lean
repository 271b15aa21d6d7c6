/- Chapter 16: PostsPage. Printed by walk.py from w18.walk.py. -/
import Derived.Test.YtifpfpiljionmaaDoorW17
set_option linter.unusedVariables false
set_option linter.unusedSimpArgs false
namespace Go.Proofs.YtifpfpiljionmaaDoor.F
open Go Go.SX
theorem ePs_append (a b : List Post) : ePs a ++ ePs b = ePs (a ++ b) := by simp [ePs]
theorem live_take {l : List Post} {i : Nat} {x : Post} (hx : l[i]? = some x) : live (l.take (i + 1)) = if x.gone then live (l.take i) else live (l.take i) ++ [x] := by
  unfold live
  rw [List.take_add_one, hx, List.filter_append]
  cases hg : x.gone <;> simp [hg]
def I4a (l : List Post) (m k : Nat) (st : St) : Prop := ∃ i : Nat, i ≤ l.length ∧ k = l.length - i ∧ (live (l.take i)).length ≤ i ∧ st = ⟨[(0, .ro 5 (ePs l)), (1, iv (m : Nat)), (7, .own 4056 5 0 (live (l.take i)).length), (8, iv (i : Nat))], [(4056, .arr 33 5 (ePs (live (l.take i))))], []⟩
def I4b (l : List Post) (m k : Nat) (st : St) : Prop := ∃ (i : Nat) (seen : List Post) (next : Int), i ≤ l.length + 1 ∧ k = l.length + 1 - i ∧ seen.length ≤ l.length ∧ PageAt l i seen next ∧
  st = ⟨[(0, .ro 5 (ePs l)), (1, iv (m : Nat)), (7, .ro 5 (ePs (live l))), (9, .own 4090 5 0 seen.length), (10, iv next), (11, iv (i : Nat))], [(4090, .arr 33 5 (ePs seen))], []⟩
theorem pageAt_len {l seen : List Post} {i : Nat} {next : Int} (h : PageAt l i seen next) : seen.length ≤ l.length := by
  have : (live l).length ≤ l.length := List.length_filter_le _ _
  rcases Int.lt_or_le 0 next with h1 | h1
  · obtain ⟨k, _, rfl, _⟩ := h.go h1; simp; omega
  · rw [(h.done h1).1]; exact this

theorem c4 : chkFn Tryd.prog 4 100 2 a4 a4R = true := by kernel_rfl
/-- colloquy/colloquylaw16.PostsPage -/
theorem d4 (l : List Post) (many : Int) (hl : l.length ≤ 9223372036854775807) : DoesT 4 [.ro 5 (ePs l), iv many] (bv true) := by
  have h10 := d10 l hl
  obtain ⟨fw, hfw⟩ : ∃ fw, fewP l = fw := ⟨_, rfl⟩
  rw [hfw] at h10
  refine Does.of (nt := 100) (ac := a4) (rds := a4R) c4 (fun c hc => ?_)
  unfold a4
  apply J.seq
  refine J.regE (by simp; rfl) ?_
  simp
  apply J.seq
  apply J.reg
  refine runL_tree rfl (d9) (by simp) hc ?_
  simp
  refine runL_step rfl (by simp; rfl) ?_
  simp [runL]
  apply J.seq
  apply J.reg
  refine runL_step rfl (by simp; rfl) ?_
  refine runL_tree rfl (h10) (by simp) hc ?_
  simp
  refine runL_step rfl (by simp; rfl) ?_
  simp [runL]
  apply J.seq
  apply J.seq
  apply J.reg
  iterate 7 refine runL_step rfl (by simp; rfl) ?_
  refine runL_if rfl (fun g24 => ?_) (fun g24 => ?_)
  ·
    try simp only [g24]
    try simp at g24
    have hf : Fit l := few_fit (by rw [hfw]; exact g24)
    have h50 := few_len (by rw [hfw]; exact g24)
    obtain ⟨mp, hmp⟩ : ∃ mp, mayPs l = mp := ⟨_, rfl⟩
    have h14 := d14 l hf
    rw [hmp] at h14
    refine runL_step rfl (by simp; rfl) ?_
    refine runL_do (by simp) ?_
    refine runL_tree rfl (h14) (by simp) hc ?_
    simp
    iterate 3 refine runL_step rfl (by simp; rfl) ?_
    refine runL_if rfl (fun g29 => ?_) (fun g29 => ?_)
    ·
      try simp only [g29]
      try simp at g29
      iterate 4 refine runL_step rfl (by simp; rfl) ?_
      refine runL_if rfl (fun g33 => ?_) (fun g33 => ?_)
      ·
        try simp only [g33]
        try simp at g33
        iterate 3 refine runL_step rfl (by simp; rfl) ?_
        simp [runL]
        refine J.condB rfl (fun h36 => ?_) (fun h36 => ?_)
        ·
          apply J.seq
          refine J.regE (by simp; rfl) ?_
          simp
          apply J.ret
          refine ⟨by simp, rfl, _, [], by simp [a4R]; rfl, ?_⟩
          simp
        ·
          simp at h36
          obtain ⟨m, rfl⟩ : ∃ m : Nat, many = m := ⟨many.toNat, by omega⟩
          have hm1 : 1 ≤ m := by omega
          have hM : mayPs l = true := by rw [hmp]; exact g29
          apply J.skip; simp
          apply J.seq
          refine J.regE (by simp; rfl) ?_
          simp
          apply J.seq
          apply J.seq
          refine J.regE (by simp; rfl) ?_
          simp
          refine J.nilrow hc 7 4056 33 rfl rfl rfl ?_
          simp
          apply J.block
          refine J.loop hc (I4a l m) ?_ ?_
          · refine ⟨_, _, St.le_refl _, 0, by omega, rfl, by simp [live], by simp [live]⟩
          rintro n st ⟨i, hi, rfl, hlv, rfl⟩
          apply J.seq
          apply J.seq
          refine J.regE (by simp; rfl) ?_
          simp
          refine J.condB rfl (fun h41 => ?_) (fun h41 => ?_)
          ·
            simp at h41
            obtain ⟨x, hx, hgx, hge, hdr⟩ := ePs_step h41
            have hw : IntKind.i64.wrap ((i : Int) + 1) = (i : Int) + 1 := wrap_id (by omega) (by omega)
            apply J.skip; simp
            apply J.seq
            apply J.block
            apply J.seq
            refine J.regE (by simp [h41, hgx, hge, eP]; rfl) ?_
            simp
            refine J.condB rfl (fun h49 => ?_) (fun h49 => ?_)
            ·
              apply J.reg
              iterate 8 refine runL_step rfl (by simp [h41, hgx, hge, eP, show ((live (l.take i)).length + 1) * 48 ≤ 140737488355328 from by omega]; rfl) ?_
              simp [runL]
              refine J.regE (by simp [hw]; rfl) ?_
              simp
              refine ⟨l.length - (i + 1), by omega, _, ?_, i + 1, by omega, rfl, ?_, rfl⟩
              · rw [live_take hx, if_neg (by simpa using h49)]; rw [ePs_snoc]; apply le_sub <;> simp
              · rw [live_take hx]; split <;> first | omega | (simp; omega)
            ·
              apply J.skip; simp
              refine J.regE (by simp [hw]; rfl) ?_
              simp
              refine ⟨l.length - (i + 1), by omega, _, ?_, i + 1, by omega, rfl, ?_, rfl⟩
              · rw [live_take hx, if_pos (by simpa using h49)]; apply le_sub <;> simp
              · rw [live_take hx]; split <;> first | omega | (simp; omega)
          ·
            simp at h41
            obtain rfl : i = l.length := by omega
            rw [List.take_length] at hlv ⊢
            apply J.exit; simp
            apply J.seq
            refine J.freeze hc 4056 rfl ?_
            simp [St.freeze]
            refine J.regE (by simp; rfl) ?_
            simp
            refine J.nilrow hc 9 4090 33 rfl rfl rfl ?_
            simp
            apply J.seq
            refine J.regE (by simp; rfl) ?_
            simp
            apply J.seq
            apply J.seq
            refine J.regE (by simp; rfl) ?_
            simp
            apply J.block
            refine J.loop hc (I4b l m) ?_ ?_
            · refine ⟨_, _, St.le_refl _, 0, [], 1, by omega, rfl, by simp, pageAt_start hM, by simp⟩
            rintro n st ⟨i, seen, next, hi, rfl, hsl, hP, rfl⟩
            apply J.seq
            apply J.seq
            apply J.reg
            iterate 5 refine runL_step rfl (by simp; rfl) ?_
            refine runL_if rfl (fun g61 => ?_) (fun g61 => ?_)
            ·
              try simp only [g61]
              try simp at g61
              iterate 3 refine runL_step rfl (by simp; rfl) ?_
              simp [runL]
              refine J.condB rfl (fun h64 => ?_) (fun h64 => ?_)
              ·
                simp at h64
                have hw : IntKind.i64.wrap ((i : Int) + 1) = (i : Int) + 1 := wrap_id (by omega) (by omega)
                obtain ⟨hs1, hs2, hs3⟩ := pageAt_step hM hm1 h64 hP
                have h15 := d15t l next m hf
                obtain ⟨⟨pg, nx⟩, hpg⟩ : ∃ q, pageP l next m = q := ⟨_, rfl⟩
                rw [hpg] at hs1 hs2 hs3 h15
                simp only at hs1 hs2 hs3 h15
                have hsl2 := pageAt_len hs3
                have hpl : seen.length + pg.length ≤ 1000 := by simp at hsl2; omega
                apply J.skip; simp
                apply J.seq
                apply J.block
                apply J.seq
                apply J.reg
                iterate 3 refine runL_step rfl (by simp; rfl) ?_
                refine runL_tree rfl (h15) (by simp) hc ?_
                simp
                iterate 5 refine runL_step rfl (by simp; rfl) ?_
                simp [runL]
                apply J.seq
                apply J.seq
                apply J.reg
                iterate 5 refine runL_step rfl (by simp; rfl) ?_
                refine runL_if rfl (fun g78 => ?_) (fun g78 => ?_)
                ·
                  try simp only [g78]
                  try simp at g78
                  try (exfalso; omega)
                  all_goals
                    iterate 3 refine runL_step rfl (by simp; rfl) ?_
                    refine runL_if rfl (fun g81 => ?_) (fun g81 => ?_)
                    ·
                      try simp only [g81]
                      try simp at g81
                      try (exfalso; omega)
                      all_goals
                        iterate 6 refine runL_step rfl (by simp; rfl) ?_
                        simp [runL]
                        refine J.condB rfl (fun h87 => ?_) (fun h87 => ?_)
                        ·
                          exfalso
                          simp at h87
                          first | exact h87 (by have := hs2 (by omega); omega) | omega
                        ·
                          apply J.skip; simp
                          apply J.seq
                          apply J.reg
                          iterate 4 refine runL_step rfl (by simp [show (seen.length + pg.length) * 48 ≤ 140737488355328 from by omega]; rfl) ?_
                          simp [runL]
                          refine J.regE (by simp; rfl) ?_
                          simp
                          refine J.regE (by simp [hw]; rfl) ?_
                          simp
                          refine ⟨l.length + 1 - (i + 1), by omega, _, ?_, i + 1, seen ++ pg, nx, by omega, rfl, pageAt_len hs3, hs3, rfl⟩
                          rw [ePs_append]; apply le_sub <;> simp
                    ·
                      try simp only [g81]
                      try simp at g81
                      try (exfalso; omega)
                      all_goals
                        iterate 5 refine runL_step rfl (by simp; rfl) ?_
                        simp [runL]
                        apply J.cond; simp
                        apply J.skip; simp
                        apply J.seq
                        apply J.reg
                        iterate 4 refine runL_step rfl (by simp [show (seen.length + pg.length) * 48 ≤ 140737488355328 from by omega]; rfl) ?_
                        simp [runL]
                        refine J.regE (by simp; rfl) ?_
                        simp
                        refine J.regE (by simp [hw]; rfl) ?_
                        simp
                        refine ⟨l.length + 1 - (i + 1), by omega, _, ?_, i + 1, seen ++ pg, nx, by omega, rfl, pageAt_len hs3, hs3, rfl⟩
                        rw [ePs_append]; apply le_sub <;> simp
                ·
                  try simp only [g78]
                  try simp at g78
                  try (exfalso; omega)
                  all_goals
                    iterate 8 refine runL_step rfl (by simp; rfl) ?_
                    simp [runL]
                    apply J.cond; simp
                    apply J.seq
                    refine J.regE (by simp; rfl) ?_
                    simp
                    apply J.ret
                    refine ⟨by simp, rfl, _, [], by simp [a4R]; rfl, ?_⟩
                    simp
              ·
                simp at h64
                apply J.exit; simp
                obtain ⟨hs, hn⟩ := pageAt_end hP (by omega)
                subst hs hn
                have h13 := d13 (live l) (live l) (by omega)
                rw [sameP_refl] at h13
                apply J.seq
                apply J.reg
                iterate 2 refine runL_step rfl (by simp; rfl) ?_
                refine runL_view (le_freeze _ 4090 rfl) rfl (by simp [St.freeze]) (h13) (by simp) ?_
                rintro rv m1 ⟨rfl, rfl⟩
                refine ⟨rfl, rfl, ?_⟩
                simp
                refine runL_step rfl (by simp; rfl) ?_
                simp [runL]
                apply J.seq
                apply J.reg
                iterate 6 refine runL_step rfl (by simp; rfl) ?_
                simp [runL]
                apply J.ret
                refine ⟨by simp, rfl, _, [], by simp [a4R]; rfl, ?_⟩
                simp
            ·
              try simp only [g61]
              try simp at g61
              iterate 2 refine runL_step rfl (by simp; rfl) ?_
              simp [runL]
              apply J.cond; simp
              apply J.exit; simp
              obtain ⟨hs, hn⟩ := pageAt_end hP (by omega)
              subst hs hn
              have h13 := d13 (live l) (live l) (by omega)
              rw [sameP_refl] at h13
              apply J.seq
              apply J.reg
              iterate 2 refine runL_step rfl (by simp; rfl) ?_
              refine runL_view (le_freeze _ 4090 rfl) rfl (by simp [St.freeze]) (h13) (by simp) ?_
              rintro rv m1 ⟨rfl, rfl⟩
              refine ⟨rfl, rfl, ?_⟩
              simp
              refine runL_step rfl (by simp; rfl) ?_
              simp [runL]
              apply J.seq
              apply J.reg
              iterate 6 refine runL_step rfl (by simp; rfl) ?_
              simp [runL]
              apply J.ret
              refine ⟨by simp, rfl, _, [], by simp [a4R]; rfl, ?_⟩
              simp
      ·
        try simp only [g33]
        try simp at g33
        iterate 2 refine runL_step rfl (by simp; rfl) ?_
        simp [runL]
        apply J.cond; simp
        apply J.seq
        refine J.regE (by simp; rfl) ?_
        simp
        apply J.ret
        refine ⟨by simp, rfl, _, [], by simp [a4R]; rfl, ?_⟩
        simp
    ·
      try simp only [g29]
      try simp at g29
      iterate 6 refine runL_step rfl (by simp; rfl) ?_
      simp [runL]
      apply J.cond; simp
      apply J.seq
      refine J.regE (by simp; rfl) ?_
      simp
      apply J.ret
      refine ⟨by simp, rfl, _, [], by simp [a4R]; rfl, ?_⟩
      simp
  ·
    try simp only [g24]
    try simp at g24
    refine runL_pass (b := _) rfl (by simp) ?_
    simp
    iterate 10 refine runL_step rfl (by simp; rfl) ?_
    simp [runL]
    apply J.cond; simp
    apply J.seq
    refine J.regE (by simp; rfl) ?_
    simp
    apply J.ret
    refine ⟨by simp, rfl, _, [], by simp [a4R]; rfl, ?_⟩
    simp

end Go.Proofs.YtifpfpiljionmaaDoor.F
