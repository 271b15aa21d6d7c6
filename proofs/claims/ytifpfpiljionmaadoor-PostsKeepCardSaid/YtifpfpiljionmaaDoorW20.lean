/- Chapter 16: PostsKeep. Printed by walk.py from w20.walk.py. -/
import Derived.Test.YtifpfpiljionmaaDoorW17
set_option linter.unusedVariables false
set_option linter.unusedSimpArgs false
namespace Go.Proofs.YtifpfpiljionmaaDoor.F
open Go Go.SX
abbrev Good (user : Int) (s : ByteArray) : Prop := btw user 1 1048576 = true ∧ Tryd.mayR s = true
def I8 (n : Nat) (user : Int) (s : ByteArray) (k : Nat) (st : St) : Prop := ∃ j : Nat, j ≤ n ∧ k = n - j ∧ (j = 0 ∨ Good user s) ∧ st = ⟨[(0, iv (n : Nat)), (1, iv user), (2, sv s), (8, .ro 5 (ePs (keepL user s j))), (9, iv ((j : Int) + 1))], [], []⟩
theorem keep_fit {user : Int} {s : ByteArray} {j : Nat} (hs : s.size ≤ 100000) : Fit (keepL user s j) := by
  refine ⟨by rw [keep_len]; split <;> omega, fun x hx => ?_⟩
  unfold keepL at hx
  have := List.mem_of_mem_drop hx
  obtain ⟨k, _, rfl⟩ := List.mem_map.1 this
  exact hs

theorem c8 : chkFn Tryd.prog 8 113 3 a8 a8R = true := by kernel_rfl
/-- colloquy/colloquylaw16.PostsKeep -/
theorem d8 (n : Int) (user : Int) (s : ByteArray) : DoesT 8 [iv n, iv user, sv s] (bv true) := by
  refine Does.of (nt := 113) (ac := a8) (rds := a8R) c8 (fun c hc => ?_)
  unfold a8
  apply J.seq
  refine J.regE (by simp [eP, kp]; rfl) ?_
  simp
  apply J.seq
  apply J.reg
  refine runL_tree rfl (d9) (by simp) hc ?_
  simp
  refine runL_step rfl (by simp [eP, kp]; rfl) ?_
  simp [runL]
  apply J.seq
  apply J.seq
  apply J.reg
  iterate 7 refine runL_step rfl (by simp [eP, kp]; rfl) ?_
  refine runL_if rfl (fun g23 => ?_) (fun g23 => ?_)
  ·
    try simp only [g23]
    try simp at g23
    iterate 4 refine runL_step rfl (by simp [eP, kp]; rfl) ?_
    refine runL_if rfl (fun g27 => ?_) (fun g27 => ?_)
    ·
      try simp only [g27]
      try simp at g27
      iterate 4 refine runL_step rfl (by simp [eP, kp]; rfl) ?_
      simp [runL]
      refine J.condB rfl (fun h31 => ?_) (fun h31 => ?_)
      ·
        apply J.seq
        refine J.regE (by simp [eP, kp]; rfl) ?_
        simp
        apply J.ret
        refine ⟨by simp, rfl, _, [], by simp [a8R]; rfl, ?_⟩
        first | (simp; done) | (simp; omega) | trace_state
      ·
        simp at h31
        have hs : s.size ≤ 100000 := by omega
        obtain ⟨n, rfl⟩ : ∃ m : Nat, n = m := ⟨n.toNat, by omega⟩
        apply J.skip; simp
        apply J.seq
        refine J.regE (by simp [eP, kp]; rfl) ?_
        simp
        refine J.nilrow hc 8 98 33 rfl rfl rfl ?_
        simp
        refine J.freeze hc 98 rfl ?_
        simp [St.freeze]
        apply J.seq
        apply J.seq
        refine J.regE (by simp [eP, kp]; rfl) ?_
        simp
        apply J.block
        refine J.loop hc (I8 n user s) ?_ ?_
        · refine ⟨_, _, St.le_refl _, 0, by omega, rfl, .inl rfl, by simp [keepL]⟩
        rintro n st ⟨j, hj, rfl, hgood, rfl⟩
        apply J.seq
        apply J.seq
        refine J.regE (by simp [eP, kp]; rfl) ?_
        simp
        refine J.condB rfl (fun h35 => ?_) (fun h35 => ?_)
        ·
          simp at h35
          have hw : IntKind.i64.wrap ((j : Int) + 1 + 1) = (j : Int) + 1 + 1 := wrap_id (by omega) (by omega)
          apply J.skip; simp
          apply J.seq
          apply J.block
          apply J.seq
          by_cases hv : Good user s
          ·
            have h24 := d24 (keepL user s j) user s (keep_fit hs) (by omega)
            rw [keep_add hv.1 hv.2 (by omega)] at h24
            apply J.reg
            iterate 3 refine runL_step rfl (by simp [eP, kp]; rfl) ?_
            refine runL_tree rfl (h24) (by simp) hc ?_
            simp
            iterate 5 refine runL_step rfl (by simp [eP, kp]; rfl) ?_
            simp [runL]
            apply J.seq
            apply J.seq
            refine J.regE (by simp [eP, kp]; rfl) ?_
            simp
            apply J.cond; simp [eP, kp]
            apply J.skip; simp
            apply J.seq
            refine J.regE (by simp [eP, kp]; rfl) ?_
            simp
            have h17 := d17 (keepL user s (j + 1)) ((j : Int) + 1) (keep_fit hs)
            rw [keep_find hv.1 hv.2 (by omega), if_pos (by omega)] at h17
            apply J.seq
            apply J.reg
            iterate 2 refine runL_step rfl (by simp [eP, kp]; rfl) ?_
            refine runL_tree rfl (h17) (by simp [eP]) hc ?_
            simp
            iterate 6 refine runL_step rfl (by simp [eP, kp]; rfl) ?_
            simp [runL]
            apply J.seq
            apply J.reg
            iterate 10 refine runL_step rfl (by simp [eP, kp]; rfl) ?_
            simp [runL]
            refine J.condB rfl (fun h69 => ?_) (fun h69 => ?_)
            ·
              exfalso
              first | (simp at h69; done) | (simp at h69; omega)
            ·
              apply J.skip; simp
              refine J.regE (by simp [eP, kp, hw]; rfl) ?_
              simp
              refine ⟨n - (j + 1), by omega, _, ?_, j + 1, by omega, rfl, .inr hv, rfl⟩
              apply le_sub <;> simp
          ·
            have h24 := d24 (keepL user s j) user s (keep_fit hs) (by omega)
            rw [keep_bad hv] at h24
            obtain rfl : j = 0 := by
              rcases hgood with h | h
              · exact h
              · exact absurd h hv
            apply J.reg
            iterate 3 refine runL_step rfl (by simp [eP, kp]; rfl) ?_
            refine runL_tree rfl (h24) (by simp) hc ?_
            simp
            iterate 5 refine runL_step rfl (by simp [eP, kp]; rfl) ?_
            simp [runL]
            apply J.seq
            apply J.seq
            refine J.regE (by simp [eP, kp]; rfl) ?_
            simp
            apply J.cond; simp [eP, kp]
            apply J.seq
            apply J.reg
            iterate 7 refine runL_step rfl (by simp [eP, kp]; rfl) ?_
            simp [runL]
            apply J.ret
            refine ⟨by simp, rfl, _, [], by simp [a8R]; rfl, ?_⟩
            first | (simp; done) | (simp; omega) | trace_state
        ·
          simp at h35
          obtain rfl : j = n := by omega
          have hv : Good user s := by
            rcases hgood with h | h
            · omega
            · exact h
          obtain ⟨hv1, hv2⟩ := hv
          have hkl := keep_len (user := user) (s := s) (i := j)
          apply J.exit; simp
          apply J.seq
          have hwn : IntKind.i64.wrap ((j : Int) - 32) = (j : Int) - 32 := wrap_id (by omega) (by omega)
          have h17 := d17 (keepL user s j) ((j : Int) - 32) (keep_fit hs)
          rw [keep_find hv1 hv2 (by omega)] at h17
          rw [if_neg (by omega)] at h17
          have h16 := d16 (keepL user s j) (keep_fit hs)
          rw [keep_last hv1 hv2 (by omega)] at h16
          have hwm : IntKind.i64.wrap ((j : Int) - 31) = (j : Int) - 31 := wrap_id (by omega) (by omega)
          apply J.reg
          iterate 3 refine runL_step rfl (by simp [eP, kp, hwn]; rfl) ?_
          refine runL_tree rfl (h17) (by simp [eP]) hc ?_
          simp
          iterate 6 refine runL_step rfl (by simp [eP, kp, hwn]; rfl) ?_
          simp [runL]
          apply J.seq
          apply J.reg
          refine runL_step rfl (by simp [eP, kp, hwm]; rfl) ?_
          refine runL_tree rfl (h16) (by simp) hc ?_
          simp
          iterate 6 refine runL_step rfl (by simp [eP, kp, hwm]; rfl) ?_
          refine runL_if rfl (fun g84 => ?_) (fun g84 => ?_)
          ·
            try simp only [g84]
            try simp at g84
            rw [if_pos (by omega)] at hkl
            try (exfalso; omega)
            all_goals
              iterate 29 refine runL_step rfl (by simp [eP, kp, hwm, hkl]; rfl) ?_
              simp [runL]
              apply J.ret
              refine ⟨by simp, rfl, _, [], by simp [a8R]; rfl, ?_⟩
              first | (simp; done) | (simp; omega) | trace_state
          ·
            try simp only [g84]
            try simp at g84
            rw [if_neg (by omega)] at hkl
            have hg0 := keep_get (user := user) (s := s) (i := j) (j := 0) (by omega)
            obtain ⟨h00, hgx0, hge0⟩ := ePs_at hg0
            try (exfalso; omega)
            all_goals
              iterate 8 refine runL_step rfl (by simp [eP, kp, hwm, hkl, hgx0, hge0, h00]; rfl) ?_
              refine runL_if rfl (fun g93 => ?_) (fun g93 => ?_)
              ·
                try simp only [g93]
                try simp at g93
                try (exfalso; omega)
                all_goals
                  iterate 14 refine runL_step rfl (by simp [eP, kp, hwm, hkl, hgx0, hge0, h00]; rfl) ?_
                  refine runL_if rfl (fun g107 => ?_) (fun g107 => ?_)
                  ·
                    try simp only [g107]
                    try simp at g107
                    try (exfalso; omega)
                    all_goals
                      iterate 6 refine runL_step rfl (by simp [eP, kp, hwm, hkl, hgx0, hge0, h00]; rfl) ?_
                      simp [runL]
                      apply J.ret
                      refine ⟨by simp, rfl, _, [], by simp [a8R]; rfl, ?_⟩
                      first | (simp; done) | (simp; omega) | trace_state
                  ·
                    try simp only [g107]
                    try simp at g107
                    try (exfalso; omega)
                    all_goals
                      iterate 5 refine runL_step rfl (by simp [eP, kp, hwm, hkl, hgx0, hge0, h00]; rfl) ?_
                      simp [runL]
                      apply J.ret
                      refine ⟨by simp, rfl, _, [], by simp [a8R]; rfl, ?_⟩
                      first | (simp; done) | (simp; omega) | trace_state
              ·
                try simp only [g93]
                try simp at g93
                try (exfalso; omega)
                all_goals
                  iterate 19 refine runL_step rfl (by simp [eP, kp, hwm, hkl, hgx0, hge0, h00]; rfl) ?_
                  simp [runL]
                  apply J.ret
                  refine ⟨by simp, rfl, _, [], by simp [a8R]; rfl, ?_⟩
                  first | (simp; done) | (simp; omega) | trace_state
    ·
      try simp only [g27]
      try simp at g27
      iterate 3 refine runL_step rfl (by simp [eP, kp]; rfl) ?_
      simp [runL]
      apply J.cond; simp [eP, kp]
      apply J.seq
      refine J.regE (by simp [eP, kp]; rfl) ?_
      simp
      apply J.ret
      refine ⟨by simp, rfl, _, [], by simp [a8R]; rfl, ?_⟩
      first | (simp; done) | (simp; omega) | trace_state
  ·
    try simp only [g23]
    try simp at g23
    iterate 7 refine runL_step rfl (by simp [eP, kp]; rfl) ?_
    simp [runL]
    apply J.cond; simp [eP, kp]
    apply J.seq
    refine J.regE (by simp [eP, kp]; rfl) ?_
    simp
    apply J.ret
    refine ⟨by simp, rfl, _, [], by simp [a8R]; rfl, ?_⟩
    first | (simp; done) | (simp; omega) | trace_state

end Go.Proofs.YtifpfpiljionmaaDoor.F
