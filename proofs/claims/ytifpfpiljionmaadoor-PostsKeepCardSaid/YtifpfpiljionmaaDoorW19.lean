/- Chapter 16: PostsNumbers, PostsKeep. Printed by walk.py from w19.walk.py. -/
import Derived.Test.YtifpfpiljionmaaDoorW18
set_option linter.unusedVariables false
set_option linter.unusedSimpArgs false
namespace Go.Proofs.YtifpfpiljionmaaDoor.F
open Go Go.SX
def eOs (l : List POp) : List (List AV) := l.map eO
@[simp] theorem eOs_length (l : List POp) : (eOs l).length = l.length := by simp [eOs]
theorem eOs_step {es : List POp} {i : Nat} (h : i < es.length) : ∃ x, es[i]? = some x ∧ (∀ h, es[i]'h = x) ∧ (∀ h, (eOs es)[i]'h = eO x) := by
  refine ⟨es[i], List.getElem?_eq_getElem h, fun _ => rfl, fun h => by simp [eOs]⟩
def I5 (l : List POp) (k : Nat) (st : St) : Prop := ∃ (i : Nat) (nw : List Post), i ≤ l.length ∧ k = l.length - i ∧ mayPs nw = true ∧ (∀ x ∈ nw, x.text.size ≤ 200) ∧ st = ⟨[(0, .ro 5 (eOs l)), (4, .ro 5 (ePs nw)), (5, iv (i : Nat))], [], []⟩
def I5a (l : List POp) (i : Nat) (nw nx : List Post) (k : Nat) (st : St) : Prop := ∃ a : Nat, a ≤ nw.length ∧ k = nw.length - a ∧ st = ⟨[(0, .ro 5 (eOs l)), (4, .ro 5 (ePs nw)), (5, iv (i : Nat)), (6, .ro 5 (ePs nx)), (9, iv (a : Nat))], [], []⟩
def I5b (l : List POp) (i a : Nat) (nw nx : List Post) (k : Nat) (st : St) : Prop := ∃ b : Nat, b ≤ nx.length ∧ k = nx.length - b ∧ st = ⟨[(0, .ro 5 (eOs l)), (4, .ro 5 (ePs nw)), (5, iv (i : Nat)), (6, .ro 5 (ePs nx)), (9, iv (a : Nat)), (10, iv (b : Nat))], [], []⟩
theorem may_fit {l : List Post} (h : mayPs l = true) (hs : ∀ x ∈ l, x.text.size ≤ 200) : Fit l := by
  simp only [mayPs, Bool.and_eq_true, decide_eq_true_eq] at h
  exact ⟨by omega, fun x hx => by have := hs x hx; omega⟩
theorem may_len {l : List Post} (h : mayPs l = true) : l.length ≤ 32 := by simp only [mayPs, Bool.and_eq_true, decide_eq_true_eq] at h; exact h.2

theorem c5 : chkFn Tryd.prog 5 118 1 a5 a5R = true := by kernel_rfl
/-- colloquy/colloquylaw16.PostsNumbers -/
theorem d5 (l : List POp) (hl : l.length ≤ 9223372036854775807) : DoesT 5 [.ro 5 (eOs l)] (bv true) := by
  refine Does.of (nt := 118) (ac := a5) (rds := a5R) c5 (fun c hc => ?_)
  unfold a5
  apply J.seq
  refine J.regE (by simp; rfl) ?_
  simp
  apply J.seq
  apply J.reg
  refine runL_tree rfl (d9) (by simp) hc ?_
  simp
  refine runL_step rfl (by simp; rfl) ?_
  simp [runL]
  apply J.seq
  apply J.seq
  apply J.reg
  iterate 7 refine runL_step rfl (by simp; rfl) ?_
  simp [runL]
  refine J.condB rfl (fun h20 => ?_) (fun h20 => ?_)
  ·
    try simp only [h20]
    try simp at h20
    apply J.seq
    refine J.regE (by simp; rfl) ?_
    simp
    apply J.ret
    refine ⟨by simp, rfl, _, [], by simp [a5R]; rfl, ?_⟩
    simp
  ·
    try simp only [h20]
    try simp at h20
    apply J.skip; simp
    apply J.seq
    refine J.regE (by simp; rfl) ?_
    simp
    refine J.nilrow hc 4 98 33 rfl rfl rfl ?_
    simp
    refine J.freeze hc 98 rfl ?_
    simp [St.freeze]
    apply J.seq
    apply J.seq
    refine J.regE (by simp; rfl) ?_
    simp
    apply J.block
    refine J.loop hc (I5 l) ?_ ?_
    · refine ⟨_, _, St.le_refl _, 0, [], by omega, rfl, rfl, by simp, by simp⟩
    rintro n st ⟨i, nw, hi, rfl, hnw, hns, rfl⟩
    apply J.seq
    apply J.seq
    refine J.regE (by simp; rfl) ?_
    simp
    refine J.condB rfl (fun h25 => ?_) (fun h25 => ?_)
    ·
      simp at h25
      obtain ⟨o, ho, hgo, hgeo⟩ := eOs_step h25
      have hw : IntKind.i64.wrap ((i : Int) + 1) = (i : Int) + 1 := wrap_id (by omega) (by omega)
      apply J.skip; simp
      apply J.seq
      apply J.block
      apply J.seq
      apply J.seq
      apply J.reg
      iterate 7 refine runL_step rfl (by simp [h25, hgo, hgeo, eO]; rfl) ?_
      simp [runL]
      refine J.condB rfl (fun h34 => ?_) (fun h34 => ?_)
      ·
        apply J.seq
        refine J.regE (by simp; rfl) ?_
        simp
        apply J.ret
        refine ⟨by simp, rfl, _, [], by simp [a5R]; rfl, ?_⟩
        simp
      ·
        simp at h34
        have ho2 : o.text.size ≤ 200 := by omega
        have hnl := may_len hnw
        have hd := d11 nw o (may_fit hnw hns) (by omega)
        obtain ⟨⟨nx, e⟩, hq⟩ : ∃ q, doesP nw o = q := ⟨_, rfl⟩
        have hnx : mayPs nx = true := by have := mayPs_does nw o; rw [hq] at this; exact this
        have hxs : ∀ x ∈ nx, x.text.size ≤ 200 := by have := does_small (o := o) hns ho2; rw [hq] at this; exact this
        have hxl := may_len hnx
        have herr : e ≠ 0 → nx = [] := by have := does_err (l := nw) (o := o); rw [hq] at this; exact this
        have hthen : e = 0 → Then nw nx (if o.kind = 0 then 1 else 0) := by have := does_then (l := nw) (o := o) hnw; rw [hq] at this; exact this
        rw [hq] at hd
        simp only at hd
        clear hq
        apply J.skip; simp
        apply J.seq
        apply J.reg
        iterate 5 refine runL_step rfl (by simp [h25, hgo, hgeo, eO]; rfl) ?_
        refine runL_tree rfl (hd) (by simp [eO]) hc ?_
        simp
        iterate 5 refine runL_step rfl (by simp [h25, hgo, hgeo, eO]; rfl) ?_
        simp [runL]
        apply J.seq
        apply J.seq
        refine J.regE (by simp; rfl) ?_
        simp
        refine J.condB rfl (fun h45 => ?_) (fun h45 => ?_)
        ·
          simp at h45
          obtain rfl := herr h45
          apply J.seq
          apply J.seq
          refine J.regE (by simp; rfl) ?_
          simp
          apply J.cond; simp
          apply J.skip; simp
          apply J.exit; simp
          refine J.regE (by simp [hw]; rfl) ?_
          simp
          exact ⟨l.length - (i + 1), by omega, _, St.le_refl _, i + 1, nw, by omega, rfl, hnw, hns, by simp⟩
        ·
          simp at h45
          have hT := hthen h45
          have hlb := lastP_bd nw
          apply J.skip; simp
          apply J.seq
          refine J.regE (by simp; rfl) ?_
          simp
          apply J.seq
          apply J.seq
          apply J.reg
          iterate 6 refine runL_step rfl (by simp [h25, hgo, hgeo, eO]; rfl) ?_
          simp [runL]
          refine J.condB rfl (fun h54 => ?_) (fun h54 => ?_)
          ·
            simp at h54
            rw [if_pos h54] at hT
            obtain ⟨hTl, hTn, hTp⟩ := hT
            have h16x := d16 nx (may_fit hnx hxs)
            rw [hTl] at h16x
            have hwl : IntKind.i64.wrap (lastP nw + 1) = lastP nw + 1 := wrap_id (by omega) (by omega)
            refine J.regE (by simp; rfl) ?_
            simp
            apply J.seq
            apply J.seq
            apply J.reg
            refine runL_step rfl (by simp [hwl, Int.add_zero]; rfl) ?_
            refine runL_tree rfl (h16x) (by simp) hc ?_
            simp
            refine runL_step rfl (by simp [hwl, Int.add_zero]; rfl) ?_
            refine runL_tree rfl (d16 nw (may_fit hnw hns)) (by simp) hc ?_
            simp
            iterate 10 refine runL_step rfl (by simp [hwl, Int.add_zero]; rfl) ?_
            simp [runL]
            refine J.condB rfl (fun h68 => ?_) (fun h68 => ?_)
            ·
              exfalso
              simp at h68
              omega
            ·
              apply J.skip; simp
              apply J.seq
              apply J.seq
              refine J.regE (by simp; rfl) ?_
              simp
              apply J.block
              refine J.loop hc (I5a l i nw nx) ?_ ?_
              · refine ⟨_, _, St.le_refl _, 0, by omega, rfl, by simp⟩
              rintro n st ⟨a, ha, rfl, rfl⟩
              apply J.seq
              apply J.seq
              refine J.regE (by simp; rfl) ?_
              simp
              refine J.condB rfl (fun h72 => ?_) (fun h72 => ?_)
              ·
                simp at h72
                obtain ⟨x, hx, hgx, hge, hdr⟩ := ePs_step h72
                have hwa : IntKind.i64.wrap ((a : Int) + 1) = (a : Int) + 1 := wrap_id (by omega) (by omega)
                apply J.skip; simp
                apply J.seq
                apply J.block
                apply J.seq
                refine J.regE (by simp; rfl) ?_
                simp
                apply J.block
                refine J.loop hc (I5b l i a nw nx) ?_ ?_
                · refine ⟨_, _, St.le_refl _, 0, by omega, rfl, by simp⟩
                rintro n st ⟨b, hb, rfl, rfl⟩
                apply J.seq
                apply J.seq
                refine J.regE (by simp; rfl) ?_
                simp
                refine J.condB rfl (fun h78 => ?_) (fun h78 => ?_)
                ·
                  simp at h78
                  obtain ⟨y, hy, hgy, hgey, hdry⟩ := ePs_step h78
                  have hwb : IntKind.i64.wrap ((b : Int) + 1) = (b : Int) + 1 := wrap_id (by omega) (by omega)
                  apply J.skip; simp
                  apply J.seq
                  apply J.block
                  apply J.seq
                  apply J.reg
                  iterate 6 refine runL_step rfl (by simp [h72, hgx, hge, eP]; rfl) ?_
                  simp [runL]
                  apply J.seq
                  apply J.reg
                  iterate 6 refine runL_step rfl (by simp [h78, hgy, hgey, eP]; rfl) ?_
                  simp [runL]
                  apply J.seq
                  apply J.reg
                  iterate 6 refine runL_step rfl (by simp; rfl) ?_
                  refine runL_if rfl (fun g94 => ?_) (fun g94 => ?_)
                  ·
                    try simp only [g94]
                    try simp at g94
                    obtain ⟨pu, pg, pe⟩ := hTp x (List.mem_of_getElem? hx) y (List.mem_of_getElem? hy) g94
                    iterate 9 refine runL_step rfl (by simp [pu]; rfl) ?_
                    refine runL_if rfl (fun g103 => ?_) (fun g103 => ?_)
                    ·
                      try simp only [g103]
                      try simp at g103
                      have pg' := pg g103
                      iterate 13 refine runL_step rfl (by simp [pu, pg']; rfl) ?_
                      simp [runL]
                      refine J.condB rfl (fun h116 => ?_) (fun h116 => ?_)
                      ·
                        exfalso
                        simp at h116
                        omega
                      ·
                        apply J.skip; simp
                        refine J.regE (by simp [hwb]; rfl) ?_
                        simp
                        refine ⟨nx.length - (b + 1), by omega, _, ?_, b + 1, by omega, rfl, rfl⟩
                        apply le_sub <;> simp
                    ·
                      try simp only [g103]
                      try simp at g103
                      iterate 12 refine runL_step rfl (by simp [pu]; rfl) ?_
                      simp [runL]
                      refine J.condB rfl (fun h116 => ?_) (fun h116 => ?_)
                      ·
                        exfalso
                        simp at h116
                        omega
                      ·
                        apply J.skip; simp
                        refine J.regE (by simp [hwb]; rfl) ?_
                        simp
                        refine ⟨nx.length - (b + 1), by omega, _, ?_, b + 1, by omega, rfl, rfl⟩
                        apply le_sub <;> simp
                  ·
                    try simp only [g94]
                    try simp at g94
                    iterate 21 refine runL_step rfl (by simp; rfl) ?_
                    simp [runL]
                    apply J.cond; simp
                    apply J.skip; simp
                    refine J.regE (by simp [hwb]; rfl) ?_
                    simp
                    refine ⟨nx.length - (b + 1), by omega, _, ?_, b + 1, by omega, rfl, rfl⟩
                    apply le_sub <;> simp
                ·
                  apply J.exit; simp
                  refine J.regE (by simp [hwa]; rfl) ?_
                  simp
                  refine ⟨nw.length - (a + 1), by omega, _, St.le_refl _, a + 1, by omega, rfl, by simp⟩
              ·
                apply J.exit; simp
                refine J.regE (by simp; rfl) ?_
                simp
                refine J.regE (by simp [hw]; rfl) ?_
                simp
                exact ⟨l.length - (i + 1), by omega, _, St.le_refl _, i + 1, nx, by omega, rfl, hnx, hxs, by simp⟩
          ·
            simp at h54
            rw [if_neg h54] at hT
            obtain ⟨hTl, hTn, hTp⟩ := hT
            have h16x := d16 nx (may_fit hnx hxs)
            rw [hTl] at h16x
            have hwl : IntKind.i64.wrap (lastP nw) = lastP nw := wrap_id (by omega) (by omega)
            apply J.skip; simp
            apply J.seq
            apply J.seq
            apply J.reg
            refine runL_step rfl (by simp [hwl, Int.add_zero]; rfl) ?_
            refine runL_tree rfl (h16x) (by simp) hc ?_
            simp
            refine runL_step rfl (by simp [hwl, Int.add_zero]; rfl) ?_
            refine runL_tree rfl (d16 nw (may_fit hnw hns)) (by simp) hc ?_
            simp
            iterate 10 refine runL_step rfl (by simp [hwl, Int.add_zero]; rfl) ?_
            simp [runL]
            refine J.condB rfl (fun h68 => ?_) (fun h68 => ?_)
            ·
              exfalso
              simp at h68
              omega
            ·
              apply J.skip; simp
              apply J.seq
              apply J.seq
              refine J.regE (by simp; rfl) ?_
              simp
              apply J.block
              refine J.loop hc (I5a l i nw nx) ?_ ?_
              · refine ⟨_, _, St.le_refl _, 0, by omega, rfl, by simp⟩
              rintro n st ⟨a, ha, rfl, rfl⟩
              apply J.seq
              apply J.seq
              refine J.regE (by simp; rfl) ?_
              simp
              refine J.condB rfl (fun h72 => ?_) (fun h72 => ?_)
              ·
                simp at h72
                obtain ⟨x, hx, hgx, hge, hdr⟩ := ePs_step h72
                have hwa : IntKind.i64.wrap ((a : Int) + 1) = (a : Int) + 1 := wrap_id (by omega) (by omega)
                apply J.skip; simp
                apply J.seq
                apply J.block
                apply J.seq
                refine J.regE (by simp; rfl) ?_
                simp
                apply J.block
                refine J.loop hc (I5b l i a nw nx) ?_ ?_
                · refine ⟨_, _, St.le_refl _, 0, by omega, rfl, by simp⟩
                rintro n st ⟨b, hb, rfl, rfl⟩
                apply J.seq
                apply J.seq
                refine J.regE (by simp; rfl) ?_
                simp
                refine J.condB rfl (fun h78 => ?_) (fun h78 => ?_)
                ·
                  simp at h78
                  obtain ⟨y, hy, hgy, hgey, hdry⟩ := ePs_step h78
                  have hwb : IntKind.i64.wrap ((b : Int) + 1) = (b : Int) + 1 := wrap_id (by omega) (by omega)
                  apply J.skip; simp
                  apply J.seq
                  apply J.block
                  apply J.seq
                  apply J.reg
                  iterate 6 refine runL_step rfl (by simp [h72, hgx, hge, eP]; rfl) ?_
                  simp [runL]
                  apply J.seq
                  apply J.reg
                  iterate 6 refine runL_step rfl (by simp [h78, hgy, hgey, eP]; rfl) ?_
                  simp [runL]
                  apply J.seq
                  apply J.reg
                  iterate 6 refine runL_step rfl (by simp; rfl) ?_
                  refine runL_if rfl (fun g94 => ?_) (fun g94 => ?_)
                  ·
                    try simp only [g94]
                    try simp at g94
                    obtain ⟨pu, pg, pe⟩ := hTp x (List.mem_of_getElem? hx) y (List.mem_of_getElem? hy) g94
                    iterate 9 refine runL_step rfl (by simp [pu]; rfl) ?_
                    refine runL_if rfl (fun g103 => ?_) (fun g103 => ?_)
                    ·
                      try simp only [g103]
                      try simp at g103
                      have pg' := pg g103
                      iterate 13 refine runL_step rfl (by simp [pu, pg']; rfl) ?_
                      simp [runL]
                      refine J.condB rfl (fun h116 => ?_) (fun h116 => ?_)
                      ·
                        exfalso
                        simp at h116
                        omega
                      ·
                        apply J.skip; simp
                        refine J.regE (by simp [hwb]; rfl) ?_
                        simp
                        refine ⟨nx.length - (b + 1), by omega, _, ?_, b + 1, by omega, rfl, rfl⟩
                        apply le_sub <;> simp
                    ·
                      try simp only [g103]
                      try simp at g103
                      iterate 12 refine runL_step rfl (by simp [pu]; rfl) ?_
                      simp [runL]
                      refine J.condB rfl (fun h116 => ?_) (fun h116 => ?_)
                      ·
                        exfalso
                        simp at h116
                        omega
                      ·
                        apply J.skip; simp
                        refine J.regE (by simp [hwb]; rfl) ?_
                        simp
                        refine ⟨nx.length - (b + 1), by omega, _, ?_, b + 1, by omega, rfl, rfl⟩
                        apply le_sub <;> simp
                  ·
                    try simp only [g94]
                    try simp at g94
                    iterate 21 refine runL_step rfl (by simp; rfl) ?_
                    simp [runL]
                    apply J.cond; simp
                    apply J.skip; simp
                    refine J.regE (by simp [hwb]; rfl) ?_
                    simp
                    refine ⟨nx.length - (b + 1), by omega, _, ?_, b + 1, by omega, rfl, rfl⟩
                    apply le_sub <;> simp
                ·
                  apply J.exit; simp
                  refine J.regE (by simp [hwa]; rfl) ?_
                  simp
                  refine ⟨nw.length - (a + 1), by omega, _, St.le_refl _, a + 1, by omega, rfl, by simp⟩
              ·
                apply J.exit; simp
                refine J.regE (by simp; rfl) ?_
                simp
                refine J.regE (by simp [hw]; rfl) ?_
                simp
                exact ⟨l.length - (i + 1), by omega, _, St.le_refl _, i + 1, nx, by omega, rfl, hnx, hxs, by simp⟩
    ·
      apply J.exit; simp
      apply J.seq
      refine J.regE (by simp; rfl) ?_
      simp
      apply J.ret
      refine ⟨by simp, rfl, _, [], by simp [a5R]; rfl, ?_⟩
      simp

end Go.Proofs.YtifpfpiljionmaaDoor.F
