/- Parts of a symbolic execution and of walks by it, for the statements of this seat: W27, W28, W29, W30, SxOp, Opn, CodeF. -/
import Derived.Test.YtadbdchbdjkcdaaGreatDoorQb10
import Derived.ChangeShapes
import Derived.OpenShut
import Derived.ChangeArms
import Derived.ChangeSame
import Derived.Lib.SmallJoins
set_option linter.unusedVariables false
set_option linter.unusedSimpArgs false
namespace Go.Proofs.YtadbdchbdjkcdaaGreatDoor.F
open Go Go.SX
theorem c97 : chkFn Tryz.prog 97 121 2 a97 a97R = true := by kernel_rfl
set_option maxHeartbeats 4000000 in
theorem d97 (s : Sta) (m : Cmd) (hu : Up kR s.rooms) {n : Nat} (hn : n < 900000) (h : FitS n s) (hk : 4 ≤ m.kind ∧ m.kind ≤ 7) (ht : m.text.size ≤ 100000) {x : Room} (hfx : s.rooms.find? (fun r => decide (kR r = m.ch)) = some x) : DoesT 97 [.agg (eS s), .agg (eM m)] (.tup [.agg (eS (doesS s m).1), .agg (eA (doesS s m).2)]) := by
 have hl : s.rooms.length < 900000 := by have := h.1; omega
 obtain ⟨j, hj, hxj⟩ := ix_at hfx
 have h95 := d95 s m.ch (by omega)
 rw [hj] at h95
 have hjl : j < s.rooms.length := (List.getElem?_eq_some_iff.1 hxj).1
 obtain ⟨x', hx, hgx, hg, hge, hdr, hw, hlt2, hset, hxm⟩ := getR hjl (by omega)
 obtain rfl : x = x' := by rw [hxj] at hx; injection hx
 have hm : x.c.mem.length < 1000000 := by have := (h.2.2.1 x hxm).1; omega
 have hf := (h.2.2.1 x hxm).2
 simp only [eR] at hg hge
 have h134 := d134 x.c m.user hm
 obtain ⟨B, hB⟩ : ∃ B, inC x.c m.user = B := ⟨_, rfl⟩
 rw [hB] at h134
 rw [does_some hfx, if_neg (show ¬ m.kind = 1 by omega)]
 refine Does.of (nt := 121) (ac := a97) (rds := a97R) c97 (fun c hc => ?_)
 unfold a97
 apply J.seq
 refine J.regE (by simp [eS, eM, eC, eR]; rfl) ?_
 simp
 refine J.nz hc ?_
 simp
 apply J.seq
 refine J.to hc ⟨[(2, .ptr 97002 0 0 0), (3, .ptr 97003 0 0 0), (4, .ptr 97004 0 0 0), (5, .ptr 97005 0 0 0), (6, .ptr 97006 0 0 0)], [(97002, .obj 27 (eS s)), (97003, .obj 36 (eM m)), (97004, .obj 27 [.ro 4 [], .ro 3 []]), (97005, .obj 39 [iv 0, iv 0, sv ⟨#[]⟩]), (97006, .obj 52 (eR x))], []⟩ ?_ ?_
 ·apply J.draw; intro c' hc'
  repeat' (first
   | (show runP _ _ _ _ (.take _ _ _) _ _; refine runP_stepQ (by simp [eS, eM, eR, hlt2, hg, hge, hjl]; rfl) ?_)
   | (show runP _ _ _ _ (.alt _ ⟨_, none, .callv _ _⟩ _ .done) _ _; refine runP_tree rfl (h95) (by simp) rfl ?_; simp)
   | (show runP _ _ _ _ (.alt _ _ _ .done) _ _; refine runP_one rfl (by simp) (by simp [eS, eM, eR, hlt2, hg, hge, hjl]; rfl) ?_)
   | refine runP_or ?_ ?_)
  all_goals
   (first | refine le_subF ?_ ?_ ?_ ?_ rfl ?_ | refine ⟨rfl, le_subF ?_ ?_ ?_ ?_ rfl ?_⟩) <;> (repeat' (first | exact trivial | exact rfl | refine ⟨?_, ?_⟩))
 simp
 apply J.seq
 apply J.reg
 iterate 4 refine runL_step rfl (by simp [eS, eM, eC, eR]; rfl) ?_
 refine runL_tree rfl (h134) (by simp) hc ?_
 simp
 refine runL_step rfl (by simp [eS, eM, eC, eR]; rfl) ?_
 simp [runL]
 apply J.seq
 apply J.seq
 refine J.regE (by simp [eS, eM, eC, eR]; rfl) ?_
 simp
 refine J.condB rfl (fun h31 => ?_) (fun h31 => ?_)
 ·
  obtain rfl : B = false := by simpa using h31
  rw [if_pos ⟨by omega, hB⟩]
  apply J.seq
  apply J.reg
  refine runL_step rfl (by simp [eS, eM, eC, eR, eA]; rfl) ?_
  refine runL_tree rfl (d48 s _) (by simp) hc ?_
  simp
  iterate 7 refine runL_step rfl (by simp [eS, eM, eC, eR, eA]; rfl) ?_
  simp [runL]
  apply J.seq
  apply J.draw; intro c' hc'
  iterate 2 refine runP_stepQ (by simp [eS, eM, eC, eR]; rfl) ?_
  refine runP_one rfl (by simp) (by simp [eS, eM, eC, eR]; rfl) ?_
  refine runP_one rfl (by simp) (by simp [eS, eM, eC, eR]; rfl) ?_
  simp [runP]
  apply J.ret
  refine ⟨by simp, rfl, _, [], by simp [a97R]; rfl, ?_⟩
  first
   | (simp [eA, eS]; done)
   | (simp [eA, eS, doQ, h41]; done)
   | (simp [eA, eS, doQ, h69, hq137, saidS, keepS, h99]; done)
   | (simp [eA, eS, doQ, h84, hq138, saidS, keepS, h99]; done)
   | (simp [eA, eS, doQ, show m.kind = 4 by omega, hq136, saidS, keepS, h99]; done)
   | trace_state
 ·
  obtain rfl : B = true := by simpa using h31
  rw [if_neg (by rw [hB]; simp)]
  apply J.skip; simp
  apply J.seq
  apply J.seq
  refine J.regE (by simp [eS, eM, eC, eR]; rfl) ?_
  simp
  refine J.condB rfl (fun h41 => ?_) (fun h41 => ?_)
  ·
   simp at h41
   apply J.seq
   apply J.reg
   iterate 4 refine runL_step rfl (by simp [eS, eM, eC, eR, P16.eP]; rfl) ?_
   refine runL_tree rfl (P16.d18 x.posts m.n hf) (by simp) hc ?_
   simp
   iterate 6 refine runL_step rfl (by simp [eS, eM, eC, eR, P16.eP]; rfl) ?_
   simp [runL]
   apply J.seq
   apply J.draw; intro c' hc'
   iterate 7 refine runP_stepQ (by simp [eS, eM, eC, eR]; rfl) ?_
   refine runP_one rfl (by simp) (by simp [eS, eM, eC, eR]; rfl) ?_
   refine runP_one rfl (by simp) (by simp [eS, eM, eC, eR]; rfl) ?_
   simp [runP]
   apply J.ret
   refine ⟨by simp, rfl, _, [], by simp [a97R]; rfl, ?_⟩
   first
    | (simp [eA, eS]; done)
    | (simp [eA, eS, doQ, h41]; done)
    | (simp [eA, eS, doQ, h69, hq137, saidS, keepS, h99]; done)
    | (simp [eA, eS, doQ, h84, hq138, saidS, keepS, h99]; done)
    | (simp [eA, eS, doQ, show m.kind = 4 by omega, hq136, saidS, keepS, h99]; done)
    | trace_state
  ·
   simp at h41
   apply J.skip; simp
   apply J.seq
   obtain ⟨q, hq136⟩ : ∃ q, P16.addP x.posts m.user m.text = q := ⟨_, rfl⟩
   obtain ⟨lA, eA1⟩ := q
   have h136 := P16.d25 x.posts m.user m.text hf ht
   rw [hq136] at h136
   simp only at h136
   apply J.reg
   iterate 6 refine runL_step rfl (by simp [eS, eM, eC, eR]; rfl) ?_
   refine runL_tree rfl (h136) (by simp) hc ?_
   simp
   iterate 5 refine runL_step rfl (by simp [eS, eM, eC, eR]; rfl) ?_
   simp [runL]
   apply J.seq
   apply J.seq
   refine J.regE (by simp [eS, eM, eC, eR]; rfl) ?_
   simp
   refine J.condB rfl (fun h69 => ?_) (fun h69 => ?_)
   ·
    simp at h69
    obtain ⟨q, hq137⟩ : ∃ q, P16.editP x.posts m.n m.user m.text = q := ⟨_, rfl⟩
    obtain ⟨l5, e5⟩ := q
    have h137 := P16.d26 x.posts m.n m.user m.text hf ht
    rw [hq137] at h137
    simp only at h137
    apply J.reg
    iterate 8 refine runL_step rfl (by simp [eS, eM, eC, eR]; rfl) ?_
    refine runL_tree rfl (h137) (by simp) hc ?_
    simp
    iterate 5 refine runL_step rfl (by simp [eS, eM, eC, eR]; rfl) ?_
    simp [runL]
    apply J.seq
    apply J.seq
    refine J.regE (by simp [eS, eM, eC, eR]; rfl) ?_
    simp
    refine J.condB rfl (fun h84 => ?_) (fun h84 => ?_)
    ·
     simp at h84
     exfalso; omega
    ·
     simp at h84
     obtain ⟨l, hle⟩ : ∃ l, l = l5 := ⟨_, rfl⟩
     obtain ⟨e, hee⟩ : ∃ e, e = e5 := ⟨_, rfl⟩
     subst hle
     subst hee
     apply J.skip; simp
     apply J.seq
     apply J.seq
     refine J.regE (by simp [eS, eM, eC, eR]; rfl) ?_
     simp
     refine J.condB rfl (fun h99 => ?_) (fun h99 => ?_)
     ·
      simp at h99
      apply J.seq
      apply J.reg
      iterate 2 refine runL_step rfl (by simp [eS, eM, eC, eR, eA]; rfl) ?_
      refine runL_tree rfl (d48 s _) (by simp) hc ?_
      simp
      iterate 7 refine runL_step rfl (by simp [eS, eM, eC, eR, eA]; rfl) ?_
      simp [runL]
      apply J.seq
      apply J.draw; intro c' hc'
      iterate 2 refine runP_stepQ (by simp [eS, eM, eC, eR]; rfl) ?_
      refine runP_one rfl (by simp) (by simp [eS, eM, eC, eR]; rfl) ?_
      refine runP_one rfl (by simp) (by simp [eS, eM, eC, eR]; rfl) ?_
      simp [runP]
      apply J.ret
      refine ⟨by simp, rfl, _, [], by simp [a97R]; rfl, ?_⟩
      first
       | (simp [eA, eS]; done)
       | (simp [eA, eS, doQ, h41]; done)
       | (simp [eA, eS, doQ, h69, hq137, saidS, keepS, h99]; done)
       | (simp [eA, eS, doQ, h84, hq138, saidS, keepS, h99]; done)
       | (simp [eA, eS, doQ, show m.kind = 4 by omega, hq136, saidS, keepS, h99]; done)
       | trace_state
     ·
      simp at h99
      apply J.skip; simp
      apply J.seq
      refine J.regE (by simp [eS, eM, eC, eR]; rfl) ?_
      simp
      apply J.seq
      apply J.seq
      refine J.regE (by simp [eS, eM, eC, eR]; rfl) ?_
      simp
      refine J.condB rfl (fun h110 => ?_) (fun h110 => ?_)
      ·
       simp at h110
       exfalso; omega
      ·
       simp at h110
       apply J.skip; simp
       apply J.seq
       apply J.reg
       iterate 5 refine runL_step rfl (by simp [eS, eM, eC, eR, eA]; rfl) ?_
       refine runL_tree rfl (d131 s ⟨x.c, l⟩ hu hl) (by simp) hc ?_
       simp
       iterate 4 refine runL_step rfl (by simp [eS, eM, eC, eR, eA]; rfl) ?_
       simp [runL]
       apply J.ret
       refine ⟨by simp, rfl, _, [], by simp [a97R]; rfl, ?_⟩
       first
        | (simp [eA, eS]; done)
        | (simp [eA, eS, doQ, h41]; done)
        | (simp [eA, eS, doQ, h69, hq137, saidS, keepS, h99]; done)
        | (simp [eA, eS, doQ, h84, hq138, saidS, keepS, h99]; done)
        | (simp [eA, eS, doQ, show m.kind = 4 by omega, hq136, saidS, keepS, h99]; done)
        | trace_state
   ·
    simp at h69
    apply J.skip; simp
    apply J.seq
    apply J.seq
    refine J.regE (by simp [eS, eM, eC, eR]; rfl) ?_
    simp
    refine J.condB rfl (fun h84 => ?_) (fun h84 => ?_)
    ·
     simp at h84
     obtain ⟨q, hq138⟩ : ∃ q, P16.delP x.posts m.n m.user x.c.owner = q := ⟨_, rfl⟩
     obtain ⟨l, e⟩ := q
     have h138 := P16.d27 x.posts m.n m.user x.c.owner hf
     rw [hq138] at h138
     simp only at h138
     apply J.reg
     iterate 9 refine runL_step rfl (by simp [eS, eM, eC, eR]; rfl) ?_
     refine runL_tree rfl (h138) (by simp) hc ?_
     simp
     iterate 5 refine runL_step rfl (by simp [eS, eM, eC, eR]; rfl) ?_
     simp [runL]
     apply J.seq
     apply J.seq
     refine J.regE (by simp [eS, eM, eC, eR]; rfl) ?_
     simp
     refine J.condB rfl (fun h99 => ?_) (fun h99 => ?_)
     ·
      simp at h99
      apply J.seq
      apply J.reg
      iterate 2 refine runL_step rfl (by simp [eS, eM, eC, eR, eA]; rfl) ?_
      refine runL_tree rfl (d48 s _) (by simp) hc ?_
      simp
      iterate 7 refine runL_step rfl (by simp [eS, eM, eC, eR, eA]; rfl) ?_
      simp [runL]
      apply J.seq
      apply J.draw; intro c' hc'
      iterate 2 refine runP_stepQ (by simp [eS, eM, eC, eR]; rfl) ?_
      refine runP_one rfl (by simp) (by simp [eS, eM, eC, eR]; rfl) ?_
      refine runP_one rfl (by simp) (by simp [eS, eM, eC, eR]; rfl) ?_
      simp [runP]
      apply J.ret
      refine ⟨by simp, rfl, _, [], by simp [a97R]; rfl, ?_⟩
      first
       | (simp [eA, eS]; done)
       | (simp [eA, eS, doQ, h41]; done)
       | (simp [eA, eS, doQ, h69, hq137, saidS, keepS, h99]; done)
       | (simp [eA, eS, doQ, h84, hq138, saidS, keepS, h99]; done)
       | (simp [eA, eS, doQ, show m.kind = 4 by omega, hq136, saidS, keepS, h99]; done)
       | trace_state
     ·
      simp at h99
      apply J.skip; simp
      apply J.seq
      refine J.regE (by simp [eS, eM, eC, eR]; rfl) ?_
      simp
      apply J.seq
      apply J.seq
      refine J.regE (by simp [eS, eM, eC, eR]; rfl) ?_
      simp
      refine J.condB rfl (fun h110 => ?_) (fun h110 => ?_)
      ·
       simp at h110
       exfalso; omega
      ·
       simp at h110
       apply J.skip; simp
       apply J.seq
       apply J.reg
       iterate 5 refine runL_step rfl (by simp [eS, eM, eC, eR, eA]; rfl) ?_
       refine runL_tree rfl (d131 s ⟨x.c, l⟩ hu hl) (by simp) hc ?_
       simp
       iterate 4 refine runL_step rfl (by simp [eS, eM, eC, eR, eA]; rfl) ?_
       simp [runL]
       apply J.ret
       refine ⟨by simp, rfl, _, [], by simp [a97R]; rfl, ?_⟩
       first
        | (simp [eA, eS]; done)
        | (simp [eA, eS, doQ, h41]; done)
        | (simp [eA, eS, doQ, h69, hq137, saidS, keepS, h99]; done)
        | (simp [eA, eS, doQ, h84, hq138, saidS, keepS, h99]; done)
        | (simp [eA, eS, doQ, show m.kind = 4 by omega, hq136, saidS, keepS, h99]; done)
        | trace_state
    ·
     simp at h84
     have hfl : P16.Fit lA := by have := addP_fit (u := m.user) hf ht; rw [hq136] at this; exact this
     obtain ⟨l, hle⟩ : ∃ l, l = lA := ⟨_, rfl⟩
     obtain ⟨e, hee⟩ : ∃ e, e = eA1 := ⟨_, rfl⟩
     subst hle
     subst hee
     apply J.skip; simp
     apply J.seq
     apply J.seq
     refine J.regE (by simp [eS, eM, eC, eR]; rfl) ?_
     simp
     refine J.condB rfl (fun h99 => ?_) (fun h99 => ?_)
     ·
      simp at h99
      apply J.seq
      apply J.reg
      iterate 2 refine runL_step rfl (by simp [eS, eM, eC, eR, eA]; rfl) ?_
      refine runL_tree rfl (d48 s _) (by simp) hc ?_
      simp
      iterate 7 refine runL_step rfl (by simp [eS, eM, eC, eR, eA]; rfl) ?_
      simp [runL]
      apply J.seq
      apply J.draw; intro c' hc'
      iterate 2 refine runP_stepQ (by simp [eS, eM, eC, eR]; rfl) ?_
      refine runP_one rfl (by simp) (by simp [eS, eM, eC, eR]; rfl) ?_
      refine runP_one rfl (by simp) (by simp [eS, eM, eC, eR]; rfl) ?_
      simp [runP]
      apply J.ret
      refine ⟨by simp, rfl, _, [], by simp [a97R]; rfl, ?_⟩
      first
       | (simp [eA, eS]; done)
       | (simp [eA, eS, doQ, h41]; done)
       | (simp [eA, eS, doQ, h69, hq137, saidS, keepS, h99]; done)
       | (simp [eA, eS, doQ, h84, hq138, saidS, keepS, h99]; done)
       | (simp [eA, eS, doQ, show m.kind = 4 by omega, hq136, saidS, keepS, h99]; done)
       | trace_state
     ·
      simp at h99
      apply J.skip; simp
      apply J.seq
      refine J.regE (by simp [eS, eM, eC, eR]; rfl) ?_
      simp
      apply J.seq
      apply J.seq
      refine J.regE (by simp [eS, eM, eC, eR]; rfl) ?_
      simp
      refine J.condB rfl (fun h110 => ?_) (fun h110 => ?_)
      ·
       simp at h110
       apply J.reg
       refine runL_step rfl (by simp [eS, eM, eC, eR]; rfl) ?_
       refine runL_tree rfl (P16.d21 l hfl) (by simp) hc ?_
       simp
       refine runL_step rfl (by simp [eS, eM, eC, eR]; rfl) ?_
       simp [runL]
       apply J.seq
       apply J.reg
       iterate 5 refine runL_step rfl (by simp [eS, eM, eC, eR, eA]; rfl) ?_
       refine runL_tree rfl (d131 s ⟨x.c, l⟩ hu hl) (by simp) hc ?_
       simp
       iterate 4 refine runL_step rfl (by simp [eS, eM, eC, eR, eA]; rfl) ?_
       simp [runL]
       apply J.ret
       refine ⟨by simp, rfl, _, [], by simp [a97R]; rfl, ?_⟩
       first
        | (simp [eA, eS]; done)
        | (simp [eA, eS, doQ, h41]; done)
        | (simp [eA, eS, doQ, h69, hq137, saidS, keepS, h99]; done)
        | (simp [eA, eS, doQ, h84, hq138, saidS, keepS, h99]; done)
        | (simp [eA, eS, doQ, show m.kind = 4 by omega, hq136, saidS, keepS, h99]; done)
        | trace_state
      ·
       simp at h110
       exfalso; omega
theorem c50 : chkFn Tryz.prog 50 48 2 a50 a50R = true := by kernel_rfl
set_option maxHeartbeats 4000000 in
theorem d50 (s : Sta) (m : Cmd) (hu : Up kR s.rooms) {n : Nat} (hn : n < 900000) (h : FitS n s) (h7 : 1 ≤ m.kind ∧ m.kind ≤ 7) (ht : m.text.size ≤ 100000) : DoesT 50 [.agg (eS s), .agg (eM m)] (.tup [.agg (eS (doesS s m).1), .agg (eA (doesS s m).2)]) := by
 have hl : s.rooms.length < 900000 := by have := h.1; omega
 obtain ⟨I, hI⟩ : ∃ I, ixR m.ch s.rooms 0 = I := ⟨_, rfl⟩
 have h95 := d95 s m.ch (by omega)
 rw [hI] at h95
 refine Does.of (nt := 48) (ac := a50) (rds := a50R) c50 (fun c hc => ?_)
 unfold a50
 apply J.seq
 refine J.regE (by simp [eS, eM, eA]; rfl) ?_
 simp
 apply J.seq
 apply J.seq
 apply J.reg
 iterate 4 refine runL_step rfl (by simp [eS, eM, eA]; rfl) ?_
 refine runL_if rfl (fun g15 => ?_) (fun g15 => ?_)
 ·
  try simp only [g15]
  try simp at g15
  iterate 3 refine runL_step rfl (by simp [eS, eM, eA]; rfl) ?_
  refine runL_do (by simp) ?_
  refine runL_tree rfl (h95) (by simp) hc ?_
  simp
  iterate 2 refine runL_step rfl (by simp [eS, eM, eA]; rfl) ?_
  simp [runL]
  refine J.condB rfl (fun h21 => ?_) (fun h21 => ?_)
  ·
   simp at h21
   rw [← hI] at h21
   have hfx := ix_lt h21
   apply J.seq
   apply J.reg
   refine runL_step rfl (by simp [eS, eM, eA]; rfl) ?_
   refine runL_tree rfl (d48 s _) (by simp) hc ?_
   simp
   iterate 7 refine runL_step rfl (by simp [eS, eM, eA]; rfl) ?_
   simp [runL]
   apply J.seq
   apply J.draw; intro c' hc'
   iterate 2 refine runP_stepQ (by simp [eS, eM, eA]; rfl) ?_
   refine runP_one rfl (by simp) (by simp [eS, eM, eA]; rfl) ?_
   refine runP_one rfl (by simp) (by simp [eS, eM, eA]; rfl) ?_
   simp [runP]
   apply J.ret
   refine ⟨by simp, rfl, _, [], by simp [a50R]; rfl, ?_⟩
   first | (rw [does_none hfx]; simp [g15, eA, eS]; done) | (simp [eA, eS]; done) | trace_state
  ·
   simp at h21
   rw [← hI] at h21
   obtain ⟨x, hfx⟩ := ix_ge h21
   apply J.skip; simp
   apply J.seq
   apply J.seq
   refine J.regE (by simp [eS, eM, eA]; rfl) ?_
   simp
   refine J.condB rfl (fun h31 => ?_) (fun h31 => ?_)
   ·
    simp at h31
    have hr : m.kind ≠ 1 → ∃ x, s.rooms.find? (fun r => decide (kR r = m.ch)) = some x := fun h1 => by first | exact ⟨x, hfx⟩ | exact absurd (by assumption) h1
    apply J.seq
    apply J.reg
    iterate 2 refine runL_step rfl (by simp [eS, eM, eA]; rfl) ?_
    refine runL_tree rfl (d96 s m hu hn h (by omega) hr) (by simp) hc ?_
    simp
    iterate 7 refine runL_step rfl (by simp [eS, eM, eA]; rfl) ?_
    simp [runL]
    apply J.seq
    apply J.draw; intro c' hc'
    iterate 2 refine runP_stepQ (by simp [eS, eM, eA]; rfl) ?_
    refine runP_one rfl (by simp) (by simp [eS, eM, eA]; rfl) ?_
    refine runP_one rfl (by simp) (by simp [eS, eM, eA]; rfl) ?_
    simp [runP]
    apply J.ret
    refine ⟨by simp, rfl, _, [], by simp [a50R]; rfl, ?_⟩
    first | (rw [does_none hfx]; simp [g15, eA, eS]; done) | (simp [eA, eS]; done) | trace_state
   ·
    simp at h31
    apply J.skip; simp
    apply J.seq
    apply J.reg
    iterate 2 refine runL_step rfl (by simp [eS, eM, eA]; rfl) ?_
    refine runL_tree rfl (d97 s m hu hn h (by omega) ht hfx) (by simp) hc ?_
    simp
    iterate 7 refine runL_step rfl (by simp [eS, eM, eA]; rfl) ?_
    simp [runL]
    apply J.seq
    apply J.draw; intro c' hc'
    iterate 2 refine runP_stepQ (by simp [eS, eM, eA]; rfl) ?_
    refine runP_one rfl (by simp) (by simp [eS, eM, eA]; rfl) ?_
    refine runP_one rfl (by simp) (by simp [eS, eM, eA]; rfl) ?_
    simp [runP]
    apply J.ret
    refine ⟨by simp, rfl, _, [], by simp [a50R]; rfl, ?_⟩
    first | (rw [does_none hfx]; simp [g15, eA, eS]; done) | (simp [eA, eS]; done) | trace_state
 ·
  try simp only [g15]
  try simp at g15
  iterate 2 refine runL_step rfl (by simp [eS, eM, eA]; rfl) ?_
  refine runL_pass (b := _) rfl (by simp) ?_
  simp
  iterate 2 refine runL_step rfl (by simp [eS, eM, eA]; rfl) ?_
  simp [runL]
  apply J.cond; simp [eS, eM, eA]
  apply J.skip; simp
  apply J.seq
  apply J.seq
  refine J.regE (by simp [eS, eM, eA]; rfl) ?_
  simp
  refine J.condB rfl (fun h31 => ?_) (fun h31 => ?_)
  ·
   simp at h31
   have hr : m.kind ≠ 1 → ∃ x, s.rooms.find? (fun r => decide (kR r = m.ch)) = some x := fun h1 => by first | exact ⟨x, hfx⟩ | exact absurd (by assumption) h1
   apply J.seq
   apply J.reg
   iterate 2 refine runL_step rfl (by simp [eS, eM, eA]; rfl) ?_
   refine runL_tree rfl (d96 s m hu hn h (by omega) hr) (by simp) hc ?_
   simp
   iterate 7 refine runL_step rfl (by simp [eS, eM, eA]; rfl) ?_
   simp [runL]
   apply J.seq
   apply J.draw; intro c' hc'
   iterate 2 refine runP_stepQ (by simp [eS, eM, eA]; rfl) ?_
   refine runP_one rfl (by simp) (by simp [eS, eM, eA]; rfl) ?_
   refine runP_one rfl (by simp) (by simp [eS, eM, eA]; rfl) ?_
   simp [runP]
   apply J.ret
   refine ⟨by simp, rfl, _, [], by simp [a50R]; rfl, ?_⟩
   first | (rw [does_none hfx]; simp [g15, eA, eS]; done) | (simp [eA, eS]; done) | trace_state
  ·
   simp at h31
   exfalso; omega
theorem ris_none {α : Type} {k : α → Int} {x : α} {r : List α} : risF none ((x :: r).map k) = risF (some (k x)) (r.map k) := by simp [risF]
def prevK {α : Type} (k : α → Int) (l : List α) : Nat → Option Int
 | 0 => none
 | i + 1 => (l[i]?).map k
theorem prevK_succ {α : Type} {k : α → Int} {l : List α} {i : Nat} {x : α} (h : l[i]? = some x) : prevK k l (i + 1) = some (k x) := by simp [prevK, h]
def goodR : Option Int → List Room → Bool
 | _, [] => true
 | p, r :: l => !badR r && ((match p with | none => true | some q => decide (q < r.c.id)) && goodR (some r.c.id) l)
def goodV : Option Int → List Pers → Bool
 | _, [] => true
 | p, r :: l => !badV r && ((match p with | none => true | some q => decide (q < r.user)) && goodV (some r.user) l)
theorem good_R : ∀ {l : List Room} {p : Option Int}, goodR p l = (!l.any badR && risF p (l.map kR))
 | [], p => by simp [goodR, risF]
 | r :: l, p => by simp only [goodR, good_R (l := l), List.any_cons, List.map_cons, risF, kR]; cases badR r <;> cases p <;> simp <;> grind
theorem good_V : ∀ {l : List Pers} {p : Option Int}, goodV p l = (!l.any badV && risF p (l.map kV))
 | [], p => by simp [goodV, risF]
 | r :: l, p => by simp only [goodV, good_V (l := l), List.any_cons, List.map_cons, risF, kV]; cases badV r <;> cases p <;> simp <;> grind
theorem mayS_good (s : Sta) : mayS s = (goodR none s.rooms && goodV none s.persons) := by
 rw [good_R, good_V]; unfold mayS
 cases s.rooms.any badR <;> cases s.persons.any badV <;> simp
def I19a (s : Sta) (m : Nat) (st : St) : Prop := ∃ i : Nat, i ≤ s.rooms.length ∧ m = s.rooms.length - i ∧ goodR none s.rooms = goodR (prevK kR s.rooms i) (s.rooms.drop i) ∧ st = ⟨[(1, .ptr 19001 0 0 0), (3, iv (i : Nat))], [(19001, .obj 27 (eS s))], []⟩
def I19b (s : Sta) (m : Nat) (st : St) : Prop := ∃ i : Nat, i ≤ s.persons.length ∧ m = s.persons.length - i ∧ goodV none s.persons = goodV (prevK kV s.persons i) (s.persons.drop i) ∧ st = ⟨[(1, .ptr 19001 0 0 0), (6, iv (i : Nat))], [(19001, .obj 27 (eS s))], []⟩
theorem c19 : chkFn Tryz.prog 19 103 1 a19 a19R = true := by kernel_rfl
set_option maxHeartbeats 4000000 in
theorem d19 (s : Sta) {n : Nat} (hn : n < 900000) (h : FitS n s) : DoesT 19 [.agg (eS s)] (bv (mayS s)) := by
 have hl1 := h.l1 (n := n) (by omega)
 have hl2 := h.l2 (n := n) (by omega)
 rw [mayS_good]
 refine Does.of (nt := 103) (ac := a19) (rds := a19R) c19 (fun c hc => ?_)
 unfold a19
 apply J.seq
 refine J.regE (by simp [eS]; rfl) ?_
 simp
 apply J.seq
 apply J.seq
 refine J.regE (by simp [eS]; rfl) ?_
 simp
 apply J.block
 refine J.loop hc (I19a s) ?_ ?_
 ·exact ⟨_, _, St.le_refl _, 0, by omega, rfl, rfl, by simp [eS]⟩
 rintro n st ⟨i, hi, rfl, hI, rfl⟩
 apply J.seq
 apply J.seq
 refine J.regE (by simp [eS]; rfl) ?_
 simp
 apply J.cond; simp [eS]
 refine ⟨fun hlt => ?_, fun hlt => ?_⟩
 ·
  obtain ⟨y, hx, hgx, hg, hge, hdr, hw, hlt2, hset, hxm⟩ := getR (show i < s.rooms.length by omega) hl1
  simp only [eR] at hg hge
  rw [hdr] at hI
  simp only [goodR] at hI
  have h53 := d53 y.c (by have := (h.2.2.1 y hxm).1; omega)
  have h54 := P16.d20 y.posts (h.2.2.1 y hxm).2
  obtain ⟨b1, hb1⟩ : ∃ b, mayC y.c = b := ⟨_, rfl⟩
  obtain ⟨b2, hb2⟩ : ∃ b, P16.mayPs y.posts = b := ⟨_, rfl⟩
  rw [hb1] at h53
  rw [hb2] at h54
  simp only [badR, hb1, hb2] at hI
  apply J.skip; simp
  apply J.seq
  apply J.block
  apply J.seq
  apply J.reg
  iterate 6 refine runL_step rfl (by simp [eS, hlt2, hg, hge, hlt]; rfl) ?_
  refine runL_tree rfl (h53) (by simp) hc ?_
  simp
  refine runL_step rfl (by simp [eS, hlt2, hg, hge, hlt]; rfl) ?_
  simp [runL]
  apply J.seq
  apply J.reg
  iterate 6 refine runL_step rfl (by simp [eS, hlt2, hg, hge, hlt]; rfl) ?_
  refine runL_tree rfl (h54) (by simp) hc ?_
  simp
  refine runL_step rfl (by simp [eS, hlt2, hg, hge, hlt]; rfl) ?_
  simp [runL]
  apply J.seq
  apply J.draw; intro c' hc'
  iterate 3 refine runP_stepQ (by simp [eS, hlt2, hg, hge, hlt]; rfl) ?_
  refine runP_if rfl (fun g32 => ?_) (fun g32 => ?_)
  ·
   try simp only [g32]
   try simp at g32
   iterate 4 refine runP_stepQ (by simp [eS, hlt2, hg, hge, hlt]; rfl) ?_
   refine runP_if rfl (fun g36 => ?_) (fun g36 => ?_)
   ·
    try simp only [g36]
    try simp at g36
    iterate 3 refine runP_stepQ (by simp [eS, hlt2, hg, hge, hlt]; rfl) ?_
    refine runP_if rfl (fun g39 => ?_) (fun g39 => ?_)
    ·
     try simp only [g39]
     try simp at g39
     obtain ⟨k, rfl⟩ : ∃ k, i = k + 1 := ⟨i - 1, by omega⟩
     obtain ⟨z, hz, _, hzg, hzge, _, _, hzlt, _, _⟩ := getR (show k < s.rooms.length by omega) hl1
     simp only [eR] at hzg hzge
     have hwk : IntKind.i64.wrap (k : Int) = (k : Int) := wrap_id (by omega) (by omega)
     have hk1 : k < s.rooms.length := by omega
     have hk2 : k + 1 < s.rooms.length := by omega
     have hk3 : (0 : Int) ≤ (k : Int) + 1 := by omega
     have hk4 : (k : Int) + 1 < (s.rooms.length : Int) := by omega
     rw [prevK_succ (k := kR) hz] at hI
     simp only at hI
     iterate 18 refine runP_stepQ (by simp [eS, hlt2, hg, hge, hlt, hzg, hzge, hzlt, hwk, hk1, hk2, hk3, hk4]; rfl) ?_
     simp [runP]
     refine J.condB rfl (fun h57 => ?_) (fun h57 => ?_)
     ·
      simp at h57
      have hI3 : goodR none s.rooms = false := by rw [hI]; simp [show ¬ z.c.id < y.c.id by omega]
      apply J.seq
      refine J.regE (by simp [eS]; rfl) ?_
      simp
      apply J.ret
      refine ⟨by simp, rfl, _, [], by simp [a19R]; rfl, ?_⟩
      first | (simp [hI3]; done) | (simp [hR, hV]; done) | trace_state
     ·
      simp at h57
      have hI2 : goodR none s.rooms = goodR (prevK kR s.rooms ((k + 1) + 1)) (s.rooms.drop ((k + 1) + 1)) := by rw [hI, prevK_succ (k := kR) hx]; simp [g32, g36, h57]
      apply J.skip; simp
      refine J.regE (by simp [eS, hw]; rfl) ?_
      simp
      refine ⟨_, by omega, _, ?_, k + 1 + 1, by omega, rfl, hI2, rfl⟩
      apply le_sub <;> simp [eS, show IntKind.i64.wrap ((k : Int) + 1 + 1) = (k : Int) + 1 + 1 from wrap_id (by omega) (by omega)]
    ·
     try simp only [g39]
     try simp at g39
     obtain rfl : i = 0 := by omega
     simp only [prevK] at hI
     have hI2 : goodR none s.rooms = goodR (prevK kR s.rooms (0 + 1)) (s.rooms.drop (0 + 1)) := by rw [hI, prevK_succ (k := kR) hx]; simp [g32, g36]
     iterate 17 refine runP_stepQ (by simp [eS, hlt2, hg, hge, hlt]; rfl) ?_
     simp [runP]
     apply J.cond; simp [eS]
     apply J.skip; simp
     refine J.regE (by simp [eS, hw]; rfl) ?_
     simp
     refine ⟨_, by omega, _, ?_, 0 + 1, by omega, rfl, hI2, rfl⟩
     apply le_sub <;> simp [eS, show IntKind.i64.wrap 1 = 1 from rfl]
   ·
    try simp only [g36]
    try simp at g36
    have hI3 : goodR none s.rooms = false := by rw [hI]; simp [g36]
    iterate 20 refine runP_stepQ (by simp [eS, hlt2, hg, hge, hlt]; rfl) ?_
    simp [runP]
    apply J.cond; simp [eS]
    apply J.seq
    refine J.regE (by simp [eS]; rfl) ?_
    simp
    apply J.ret
    refine ⟨by simp, rfl, _, [], by simp [a19R]; rfl, ?_⟩
    first | (simp [hI3]; done) | (simp [hR, hV]; done) | trace_state
  ·
   try simp only [g32]
   try simp at g32
   have hI3 : goodR none s.rooms = false := by rw [hI]; simp [g32]
   iterate 24 refine runP_stepQ (by simp [eS, hlt2, hg, hge, hlt]; rfl) ?_
   simp [runP]
   apply J.cond; simp [eS]
   apply J.seq
   refine J.regE (by simp [eS]; rfl) ?_
   simp
   apply J.ret
   refine ⟨by simp, rfl, _, [], by simp [a19R]; rfl, ?_⟩
   first | (simp [hI3]; done) | (simp [hR, hV]; done) | trace_state
 ·
  have hie : i = s.rooms.length := by omega
  subst hie
  rw [List.drop_length] at hI
  simp only [goodR] at hI
  have hR := hI
  apply J.exit; simp
  apply J.seq
  apply J.seq
  refine J.regE (by simp [eS]; rfl) ?_
  simp
  apply J.block
  refine J.loop hc (I19b s) ?_ ?_
  ·exact ⟨_, _, St.le_refl _, 0, by omega, rfl, rfl, by simp [eS]⟩
  rintro n st ⟨i, hi, rfl, hI, rfl⟩
  apply J.seq
  apply J.seq
  refine J.regE (by simp [eS]; rfl) ?_
  simp
  apply J.cond; simp [eS]
  refine ⟨fun hlt => ?_, fun hlt => ?_⟩
  ·
   obtain ⟨y, hx, hgx, hg, hge, hdr, hw, hlt2, hset, hxm⟩ := getV (show i < s.persons.length by omega) hl2
   simp only [eV] at hg hge
   rw [hdr] at hI
   simp only [goodV] at hI
   have h55 := d55 y.w (by have := h.2.2.2 y hxm; omega)
   obtain ⟨b1, hb1⟩ : ∃ b, mayW y.w = b := ⟨_, rfl⟩
   rw [hb1] at h55
   simp only [badV, hb1] at hI
   apply J.skip; simp
   apply J.seq
   apply J.block
   apply J.seq
   apply J.reg
   iterate 6 refine runL_step rfl (by simp [eS, hlt2, hg, hge, hlt]; rfl) ?_
   refine runL_tree rfl (h55) (by simp) hc ?_
   simp
   refine runL_step rfl (by simp [eS, hlt2, hg, hge, hlt]; rfl) ?_
   simp [runL]
   apply J.seq
   refine J.regE (by simp [eS, hlt2, hg, hge, hlt]; rfl) ?_
   simp
   apply J.seq
   apply J.reg
   iterate 3 refine runL_step rfl (by simp [eS, hlt2, hg, hge, hlt]; rfl) ?_
   refine runL_if rfl (fun g80 => ?_) (fun g80 => ?_)
   ·
    try simp only [g80]
    try simp at g80
    iterate 4 refine runL_step rfl (by simp [eS, hlt2, hg, hge, hlt]; rfl) ?_
    refine runL_if rfl (fun g84 => ?_) (fun g84 => ?_)
    ·
     try simp only [g84]
     try simp at g84
     iterate 4 refine runL_step rfl (by simp [eS, hlt2, hg, hge, hlt]; rfl) ?_
     refine runL_if rfl (fun g88 => ?_) (fun g88 => ?_)
     ·
      try simp only [g88]
      try simp at g88
      have hbt : btw y.user 1 1048576 = true := by simp [btw]; omega
      iterate 3 refine runL_step rfl (by simp [eS, hlt2, hg, hge, hlt]; rfl) ?_
      refine runL_if rfl (fun g91 => ?_) (fun g91 => ?_)
      ·
       try simp only [g91]
       try simp at g91
       obtain ⟨k, rfl⟩ : ∃ k, i = k + 1 := ⟨i - 1, by omega⟩
       obtain ⟨z, hz, _, hzg, hzge, _, _, hzlt, _, _⟩ := getV (show k < s.persons.length by omega) hl2
       simp only [eV] at hzg hzge
       have hwk : IntKind.i64.wrap (k : Int) = (k : Int) := wrap_id (by omega) (by omega)
       have hk1 : k < s.persons.length := by omega
       have hk2 : k + 1 < s.persons.length := by omega
       have hk3 : (0 : Int) ≤ (k : Int) + 1 := by omega
       have hk4 : (k : Int) + 1 < (s.persons.length : Int) := by omega
       rw [prevK_succ (k := kV) hz] at hI
       simp only at hI
       iterate 11 refine runL_step rfl (by simp [eS, hlt2, hg, hge, hlt, hzg, hzge, hzlt, hwk, hk1, hk2, hk3, hk4]; rfl) ?_
       simp [runL]
       refine J.condB rfl (fun h102 => ?_) (fun h102 => ?_)
       ·
        simp at h102
        have hI3 : goodV none s.persons = false := by rw [hI]; simp [show ¬ z.user < y.user by omega]
        apply J.seq
        refine J.regE (by simp [eS]; rfl) ?_
        simp
        apply J.ret
        refine ⟨by simp, rfl, _, [], by simp [a19R]; rfl, ?_⟩
        first | (simp [hI3]; done) | (simp [hR, hV]; done) | trace_state
       ·
        simp at h102
        have hI2 : goodV none s.persons = goodV (prevK kV s.persons ((k + 1) + 1)) (s.persons.drop ((k + 1) + 1)) := by rw [hI, prevK_succ (k := kV) hx]; simp [g80, hbt, h102]
        apply J.skip; simp
        refine J.regE (by simp [eS, hw]; rfl) ?_
        simp
        refine ⟨_, by omega, _, ?_, k + 1 + 1, by omega, rfl, hI2, rfl⟩
        apply le_sub <;> simp [eS, show IntKind.i64.wrap ((k : Int) + 1 + 1) = (k : Int) + 1 + 1 from wrap_id (by omega) (by omega)]
      ·
       try simp only [g91]
       try simp at g91
       obtain rfl : i = 0 := by omega
       simp only [prevK] at hI
       have hI2 : goodV none s.persons = goodV (prevK kV s.persons (0 + 1)) (s.persons.drop (0 + 1)) := by rw [hI, prevK_succ (k := kV) hx]; simp [g80, hbt]
       iterate 10 refine runL_step rfl (by simp [eS, hlt2, hg, hge, hlt]; rfl) ?_
       simp [runL]
       apply J.cond; simp [eS]
       apply J.skip; simp
       refine J.regE (by simp [eS, hw]; rfl) ?_
       simp
       refine ⟨_, by omega, _, ?_, 0 + 1, by omega, rfl, hI2, rfl⟩
       apply le_sub <;> simp [eS, show IntKind.i64.wrap 1 = 1 from rfl]
     ·
      try simp only [g88]
      try simp at g88
      have hI3 : goodV none s.persons = false := by rw [hI]; simp [btw, show ¬ y.user ≤ 1048576 by omega]
      iterate 13 refine runL_step rfl (by simp [eS, hlt2, hg, hge, hlt]; rfl) ?_
      simp [runL]
      apply J.cond; simp [eS]
      apply J.seq
      refine J.regE (by simp [eS]; rfl) ?_
      simp
      apply J.ret
      refine ⟨by simp, rfl, _, [], by simp [a19R]; rfl, ?_⟩
      first | (simp [hI3]; done) | (simp [hR, hV]; done) | trace_state
    ·
     try simp only [g84]
     try simp at g84
     have hI3 : goodV none s.persons = false := by rw [hI]; simp [btw, show ¬ 1 ≤ y.user by omega]
     iterate 17 refine runL_step rfl (by simp [eS, hlt2, hg, hge, hlt]; rfl) ?_
     simp [runL]
     apply J.cond; simp [eS]
     apply J.seq
     refine J.regE (by simp [eS]; rfl) ?_
     simp
     apply J.ret
     refine ⟨by simp, rfl, _, [], by simp [a19R]; rfl, ?_⟩
     first | (simp [hI3]; done) | (simp [hR, hV]; done) | trace_state
   ·
    try simp only [g80]
    try simp at g80
    have hI3 : goodV none s.persons = false := by rw [hI]; simp [g80]
    iterate 21 refine runL_step rfl (by simp [eS, hlt2, hg, hge, hlt]; rfl) ?_
    simp [runL]
    apply J.cond; simp [eS]
    apply J.seq
    refine J.regE (by simp [eS]; rfl) ?_
    simp
    apply J.ret
    refine ⟨by simp, rfl, _, [], by simp [a19R]; rfl, ?_⟩
    first | (simp [hI3]; done) | (simp [hR, hV]; done) | trace_state
  ·
   have hie : i = s.persons.length := by omega
   subst hie
   rw [List.drop_length] at hI
   simp only [goodV] at hI
   have hV := hI
   apply J.exit; simp
   apply J.seq
   refine J.regE (by simp [eS]; rfl) ?_
   simp
   apply J.ret
   refine ⟨by simp, rfl, _, [], by simp [a19R]; rfl, ?_⟩
   first | (simp [hI3]; done) | (simp [hR, hV]; done) | trace_state
theorem sameC_iff {a b : Chan} : sameC a b = true ↔ a = b := by
 obtain ⟨i, o, m⟩ := a; obtain ⟨i', o', m'⟩ := b
 simp [sameC, sameI_eq]
theorem sameT_iff : ∀ {a b : List Told}, a.length = b.length → (sameR a b = true ↔ a = b)
 | [], [], _ => by simp [sameR]
 | [], _ :: _, h => by simp at h
 | _ :: _, [], h => by simp at h
 | x :: r, y :: q, h => by
  simp only [sameR, Bool.and_eq_true, eqT_eq, sameT_iff (a := r) (b := q) (by simpa using h), List.cons.injEq]
theorem sameW_iff {a b : Win} : sameW a b = true ↔ a = b := by
 obtain ⟨i, l⟩ := a; obtain ⟨i', l'⟩ := b
 simp only [sameW, Bool.and_eq_true, beq_iff_eq, Win.mk.injEq]
 constructor
 ·rintro ⟨h1, h2, h3⟩; exact ⟨h1, (sameT_iff h2).1 h3⟩
 ·rintro ⟨h1, h2⟩; subst h2; exact ⟨h1, rfl, (sameT_iff rfl).2 rfl⟩
theorem samePR_iff : ∀ {a b : List Post}, a.length = b.length → (P16.sameR a b = true ↔ a = b)
 | [], [], _ => by simp [P16.sameR]
 | [], _ :: _, h => by simp at h
 | _ :: _, [], h => by simp at h
 | x :: r, y :: q, h => by
  simp only [P16.sameR, Bool.and_eq_true, eqP_iff, samePR_iff (a := r) (b := q) (by simpa using h), List.cons.injEq]
theorem sameP_iff {a b : List Post} : P16.sameP a b = true ↔ a = b := by
 simp only [P16.sameP, Bool.and_eq_true, beq_iff_eq]
 constructor
 ·rintro ⟨h2, h3⟩; exact (samePR_iff h2).1 h3
 ·rintro rfl; exact ⟨rfl, (samePR_iff rfl).2 rfl⟩
theorem room_ext {y z : Room} (h1 : y.c = z.c) (h2 : y.posts = z.posts) : y = z := by cases y; cases z; simp at h1 h2; subst h1; subst h2; rfl
theorem pers_ext {y z : Pers} (h1 : y.user = z.user) (h2 : y.w = z.w) : y = z := by cases y; cases z; simp at h1 h2; subst h1; subst h2; rfl
def I13a (a b : Sta) (m : Nat) (st : St) : Prop := ∃ i : Nat, i ≤ a.rooms.length ∧ m = a.rooms.length - i ∧ (a.rooms.drop i = b.rooms.drop i ↔ a.rooms = b.rooms) ∧ st = ⟨[(2, .ptr 13002 0 0 0), (3, .ptr 13003 0 0 0), (5, iv (i : Nat))], [(13002, .obj 27 (eS a)), (13003, .obj 27 (eS b))], []⟩
def I13b (a b : Sta) (m : Nat) (st : St) : Prop := ∃ i : Nat, i ≤ a.persons.length ∧ m = a.persons.length - i ∧ (a.persons.drop i = b.persons.drop i ↔ a.persons = b.persons) ∧ st = ⟨[(2, .ptr 13002 0 0 0), (3, .ptr 13003 0 0 0), (8, iv (i : Nat))], [(13002, .obj 27 (eS a)), (13003, .obj 27 (eS b))], []⟩
theorem c13 : chkFn Tryz.prog 13 102 2 a13 a13R = true := by kernel_rfl
set_option maxHeartbeats 4000000 in
theorem d13 (a b : Sta) {n : Nat} (hn : n < 900000) (ha : FitS n a) (hb : FitS n b) : DoesT 13 [.agg (eS a), .agg (eS b)] (bv (eqB a b)) := by
 have la1 := ha.l1 (n := n) (by omega)
 have la2 := ha.l2 (n := n) (by omega)
 have lb1 := hb.l1 (n := n) (by omega)
 have lb2 := hb.l2 (n := n) (by omega)
 refine Does.of (nt := 102) (ac := a13) (rds := a13R) c13 (fun c hc => ?_)
 unfold a13
 apply J.seq
 refine J.regE (by simp [eS]; rfl) ?_
 simp
 apply J.seq
 apply J.seq
 apply J.reg
 iterate 8 refine runL_step rfl (by simp [eS]; rfl) ?_
 refine runL_if rfl (fun g17 => ?_) (fun g17 => ?_)
 ·
  try simp only [g17]
  try simp at g17
  iterate 8 refine runL_step rfl (by simp [eS]; rfl) ?_
  simp [runL]
  refine J.condB rfl (fun h25 => ?_) (fun h25 => ?_)
  ·
   simp at h25
   have e : eqB a b = false := eqB_no (fun h => by subst h; omega)
   apply J.seq
   refine J.regE (by simp [eS]; rfl) ?_
   simp
   apply J.ret
   refine ⟨by simp, rfl, _, [], by simp [a13R]; rfl, ?_⟩
   simp [e]
  ·
   simp at h25
   have hl1 : a.rooms.length = b.rooms.length := by omega
   have hl2 : a.persons.length = b.persons.length := by omega
   apply J.skip; simp
   apply J.seq
   apply J.seq
   refine J.regE (by simp [eS]; rfl) ?_
   simp
   apply J.block
   refine J.loop hc (I13a a b) ?_ ?_
   ·exact ⟨_, _, St.le_refl _, 0, by omega, rfl, by simp, by simp [eS]⟩
   rintro n st ⟨i, hi, rfl, hI, rfl⟩
   apply J.seq
   apply J.seq
   refine J.regE (by simp [eS]; rfl) ?_
   simp
   apply J.cond; simp [eS]
   refine ⟨fun hlt => ?_, fun hlt => ?_⟩
   ·
    obtain ⟨y, hx, hgx, hg, hge, hdr, hw, hlt2, hset, hxm⟩ := getR (show i < a.rooms.length by omega) la1
    obtain ⟨z, hz, hgz, hzg, hzge, hzdr, _, hzlt, hzset, hzm⟩ := getR (show i < b.rooms.length by omega) lb1
    simp only [eR] at hg hge hzg hzge
    rw [hdr, hzdr, List.cons.injEq] at hI
    have h25' := d25 y.c z.c (by have := (ha.2.2.1 y hxm).1; omega) (by have := (hb.2.2.1 z hzm).1; omega)
    have h26' := P16.d13 y.posts z.posts (by have := (ha.2.2.1 y hxm).2.len; omega)
    obtain ⟨b1, hb1⟩ : ∃ b, sameC y.c z.c = b := ⟨_, rfl⟩
    obtain ⟨b2, hb2⟩ : ∃ b, P16.sameP y.posts z.posts = b := ⟨_, rfl⟩
    rw [hb1] at h25'
    rw [hb2] at h26'
    apply J.skip; simp
    apply J.seq
    apply J.block
    apply J.seq
    apply J.draw; intro c' hc'
    iterate 12 refine runP_stepQ (by simp [eS, hlt2, hg, hge, hlt, hzg, hzge, hzlt]; rfl) ?_
    refine runP_tree rfl (h25') (by simp) rfl ?_
    simp
    refine runP_stepQ (by simp [eS, hlt2, hg, hge, hlt, hzg, hzge, hzlt]; rfl) ?_
    simp [runP]
    apply J.seq
    apply J.draw; intro c' hc'
    iterate 12 refine runP_stepQ (by simp [eS, hlt2, hg, hge, hlt, hzg, hzge, hzlt]; rfl) ?_
    refine runP_tree rfl (h26') (by simp) rfl ?_
    simp
    refine runP_stepQ (by simp [eS, hlt2, hg, hge, hlt, hzg, hzge, hzlt]; rfl) ?_
    simp [runP]
    apply J.seq
    apply J.reg
    iterate 3 refine runL_step rfl (by simp [eS]; rfl) ?_
    refine runL_if rfl (fun g61 => ?_) (fun g61 => ?_)
    ·
     try simp only [g61]
     try simp at g61
     iterate 3 refine runL_step rfl (by simp [eS]; rfl) ?_
     simp [runL]
     refine J.condB rfl (fun h64 => ?_) (fun h64 => ?_)
     ·
      simp at h64
      have hyz : y ≠ z := fun h => by
       have := sameP_iff.2 (congrArg Room.posts h)
       rw [hb2, h64] at this; cases this
      have e : eqB a b = false := eqB_no (fun h => hyz (hI.2 (by rw [h])).1)
      apply J.seq
      refine J.regE (by simp [eS]; rfl) ?_
      simp
      apply J.ret
      refine ⟨by simp, rfl, _, [], by simp [a13R]; rfl, ?_⟩
      simp [e]
     ·
      simp at h64
      rw [g61] at hb1
      rw [h64] at hb2
      have hyz : y = z := room_ext (sameC_iff.1 hb1) (sameP_iff.1 hb2)
      have hI2 : a.rooms.drop (i + 1) = b.rooms.drop (i + 1) ↔ a.rooms = b.rooms := ⟨fun h => hI.1 ⟨hyz, h⟩, fun h => (hI.2 h).2⟩
      apply J.skip; simp
      refine J.regE (by simp [eS, hw]; rfl) ?_
      simp
      refine ⟨_, by omega, _, ?_, i + 1, by omega, rfl, hI2, rfl⟩
      apply le_sub <;> simp [eS]
    ·
     try simp only [g61]
     try simp at g61
     have hyz : y ≠ z := fun h => by
      have := sameC_iff.2 (congrArg Room.c h)
      rw [hb1, g61] at this; cases this
     have e : eqB a b = false := eqB_no (fun h => hyz (hI.2 (by rw [h])).1)
     iterate 2 refine runL_step rfl (by simp [eS]; rfl) ?_
     simp [runL]
     apply J.cond; simp [eS]
     apply J.seq
     refine J.regE (by simp [eS]; rfl) ?_
     simp
     apply J.ret
     refine ⟨by simp, rfl, _, [], by simp [a13R]; rfl, ?_⟩
     simp [e]
   ·
    have hie : i = a.rooms.length := by omega
    subst hie
    rw [List.drop_length, List.drop_of_length_le (by omega)] at hI
    have hR : a.rooms = b.rooms := hI.1 rfl
    apply J.exit; simp
    apply J.seq
    apply J.seq
    refine J.regE (by simp [eS]; rfl) ?_
    simp
    apply J.block
    refine J.loop hc (I13b a b) ?_ ?_
    ·exact ⟨_, _, St.le_refl _, 0, by omega, rfl, by simp, by simp [eS]⟩
    rintro n st ⟨i, hi, rfl, hI, rfl⟩
    apply J.seq
    apply J.seq
    refine J.regE (by simp [eS]; rfl) ?_
    simp
    apply J.cond; simp [eS]
    refine ⟨fun hlt => ?_, fun hlt => ?_⟩
    ·
     obtain ⟨y, hx, hgx, hg, hge, hdr, hw, hlt2, hset, hxm⟩ := getV (show i < a.persons.length by omega) la2
     obtain ⟨z, hz, hgz, hzg, hzge, hzdr, _, hzlt, hzset, hzm⟩ := getV (show i < b.persons.length by omega) lb2
     simp only [eV] at hg hge hzg hzge
     rw [hdr, hzdr, List.cons.injEq] at hI
     have h27' := d27 y.w z.w (by have := ha.2.2.2 y hxm; omega) (by have := hb.2.2.2 z hzm; omega)
     obtain ⟨b1, hb1⟩ : ∃ b, sameW y.w z.w = b := ⟨_, rfl⟩
     rw [hb1] at h27'
     apply J.skip; simp
     apply J.seq
     apply J.block
     apply J.seq
     apply J.draw; intro c' hc'
     iterate 12 refine runP_stepQ (by simp [eS, hlt2, hg, hge, hlt, hzg, hzge, hzlt]; rfl) ?_
     refine runP_tree rfl (h27') (by simp) rfl ?_
     simp
     refine runP_stepQ (by simp [eS, hlt2, hg, hge, hlt, hzg, hzge, hzlt]; rfl) ?_
     simp [runP]
     apply J.seq
     apply J.draw; intro c' hc'
     iterate 3 refine runP_stepQ (by simp [eS, hlt2, hg, hge, hlt, hzg, hzge, hzlt]; rfl) ?_
     refine runP_if rfl (fun g87 => ?_) (fun g87 => ?_)
     ·
      try simp only [g87]
      try simp at g87
      iterate 14 refine runP_stepQ (by simp [eS, hlt2, hg, hge, hlt, hzg, hzge, hzlt]; rfl) ?_
      simp [runP]
      refine J.condB rfl (fun h101 => ?_) (fun h101 => ?_)
      ·
       simp at h101
       have hyz : y ≠ z := fun h => h101 (congrArg Pers.user h)
       have e : eqB a b = false := eqB_no (fun h => hyz (hI.2 (by rw [h])).1)
       apply J.seq
       refine J.regE (by simp [eS]; rfl) ?_
       simp
       apply J.ret
       refine ⟨by simp, rfl, _, [], by simp [a13R]; rfl, ?_⟩
       simp [e]
      ·
       simp at h101
       rw [g87] at hb1
       have hyz : y = z := pers_ext h101 (sameW_iff.1 hb1)
       have hI2 : a.persons.drop (i + 1) = b.persons.drop (i + 1) ↔ a.persons = b.persons := ⟨fun h => hI.1 ⟨hyz, h⟩, fun h => (hI.2 h).2⟩
       apply J.skip; simp
       refine J.regE (by simp [eS, hw]; rfl) ?_
       simp
       refine ⟨_, by omega, _, ?_, i + 1, by omega, rfl, hI2, rfl⟩
       apply le_sub <;> simp [eS]
     ·
      try simp only [g87]
      try simp at g87
      have hyz : y ≠ z := fun h => by
       have := sameW_iff.2 (congrArg Pers.w h)
       rw [hb1, g87] at this; cases this
      have e : eqB a b = false := eqB_no (fun h => hyz (hI.2 (by rw [h])).1)
      iterate 13 refine runP_stepQ (by simp [eS, hlt2, hg, hge, hlt, hzg, hzge, hzlt]; rfl) ?_
      simp [runP]
      apply J.cond; simp [eS]
      apply J.seq
      refine J.regE (by simp [eS]; rfl) ?_
      simp
      apply J.ret
      refine ⟨by simp, rfl, _, [], by simp [a13R]; rfl, ?_⟩
      simp [e]
    ·
     have hie : i = a.persons.length := by omega
     subst hie
     rw [List.drop_length, List.drop_of_length_le (by omega)] at hI
     have hV : a.persons = b.persons := hI.1 rfl
     have e : eqB a b = true := eqB_iff.2 (sta_iff.2 ⟨hR, hV⟩)
     apply J.exit; simp
     apply J.seq
     refine J.regE (by simp [eS]; rfl) ?_
     simp
     apply J.ret
     refine ⟨by simp, rfl, _, [], by simp [a13R]; rfl, ?_⟩
     simp [e]
 ·
  try simp only [g17]
  try simp at g17
  have e : eqB a b = false := eqB_no (fun h => by subst h; omega)
  iterate 7 refine runL_step rfl (by simp [eS]; rfl) ?_
  simp [runL]
  apply J.cond; simp [eS]
  apply J.seq
  refine J.regE (by simp [eS]; rfl) ?_
  simp
  apply J.ret
  refine ⟨by simp, rfl, _, [], by simp [a13R]; rfl, ?_⟩
  simp [e]
def lastW (u : Int) : Win → List Pers → Win
 | w, [] => w
 | w, p :: r => lastW u (if p.user = u then p.w else w) r
theorem lastW_up {u : Int} : ∀ {l : List Pers} {w : Win}, Up kV l → lastW u w l = match l.find? (fun p => decide (kV p = u)) with | some p => p.w | none => w
 | [], w, _ => rfl
 | p :: r, w, h => by
  obtain ⟨h1, h2⟩ := List.pairwise_cons.1 h
  simp only [lastW]
  rw [lastW_up h2]
  by_cases e : p.user = u
  ·have hn : r.find? (fun p => decide (kV p = u)) = none := by
    rw [List.find?_eq_none]
    intro q hq
    have h3 : p.user < q.user := h1 q hq
    simp only [decide_eq_true_eq]
    intro h4
    have h4 : q.user = u := h4
    omega
   rw [hn, if_pos e]
   simp [List.find?, kV, e]
  ·rw [if_neg e]
   simp [List.find?, kV, e]
theorem lastW_win {s : Sta} {u : Int} (h : Up kV s.persons) : lastW u noW s.persons = winOf s u := by rw [lastW_up h]; rfl
def I18 (s : Sta) (m : Cmd) (mm : Nat) (st : St) : Prop := ∃ (i : Nat) (w : Win), i ≤ s.persons.length ∧ mm = s.persons.length - i ∧ lastW m.user noW s.persons = lastW m.user w (s.persons.drop i) ∧ st = ⟨[(2, .ptr 18002 0 0 0), (3, .ptr 18003 0 0 0), (4, .ptr 18004 0 0 0), (5, .ptr 18005 0 0 0), (10, .ptr 18010 0 0 0), (11, iv (i : Nat))], [(18002, .obj 27 (eS s)), (18003, .obj 36 (eM m)), (18004, .obj 27 [.ro 4 [], .ro 3 []]), (18005, .obj 39 [iv 0, iv 0, sv ⟨#[]⟩]), (18010, .obj 60 (eW w))], []⟩
def eqAns (x y : Ans) : Bool := x.e == y.e && (x.n == y.n && x.text.toList == y.text.toList)
theorem eqAns_iff {x y : Ans} : eqAns x y = true ↔ x = y := by
 obtain ⟨a, b, t⟩ := x; obtain ⟨a', b', t'⟩ := y
 simp only [eqAns, Bool.and_eq_true, beq_iff_eq]
 constructor
 ·rintro ⟨rfl, rfl, h⟩
  have : t = t' := by cases t; cases t'; simp [ByteArray.toList_eq] at h ⊢; exact h
  rw [this]
 ·rintro h; injection h with h1 h2 h3; subst h1 h2 h3; simp
theorem getA {l : List Ans} {i : Nat} (h : i < l.length) (hf : l.length < 1000000) : ∃ x, l[i]? = some x ∧ (∀ h, l[i]'h = x) ∧ (eAs l)[i]? = some (eA x) ∧ (∀ h, (eAs l)[i]'h = eA x) ∧ l.drop i = x :: l.drop (i + 1) ∧ IntKind.i64.wrap ((i : Int) + 1) = (i : Int) + 1 ∧ (i : Int) < (l.length : Int) ∧ (eAs l).set i (eA x) = eAs l ∧ x ∈ l := getM eA h hf
def I14 (a b : List Ans) (m : Nat) (st : St) : Prop := ∃ i : Nat, i ≤ a.length ∧ m = a.length - i ∧ (a.drop i = b.drop i ↔ a = b) ∧ st = ⟨[(0, .ro 3 (eAs a)), (1, .ro 3 (eAs b)), (5, iv (i : Nat))], [], []⟩
def I12 (s : Sta) (l : List Cmd) (n : Nat) (m : Nat) (st : St) : Prop := ∃ (i : Nat) (t : Sta) (o : List Ans), i ≤ l.length ∧ m = l.length - i ∧ FitS (n + i) t ∧ o.length = i ∧ runS s l = ((runS t (l.drop i)).1, o ++ (runS t (l.drop i)).2) ∧ st = ⟨[(1, .ro 6 (eMs l)), (2, .ptr 12002 0 0 0), (4, .ptr 12004 0 0 0), (6, .own 12029 3 0 o.length), (7, iv (i : Nat))], [(12002, .obj 27 (eS t)), (12004, .obj 27 [.nils 4, .nils 3]), (12029, .arr 39 3 (eAs o))], []⟩
theorem c14 : chkFn Tryz.prog 14 26 2 a14 a14R = true := by kernel_rfl
theorem d14 (a b : List Ans) (ha : a.length < 1000000) (hb : b.length < 1000000) : DoesT 14 [.ro 3 (eAs a), .ro 3 (eAs b)] (bv (eqB a b)) := by
 refine Does.of (nt := 26) (ac := a14) (rds := a14R) c14 (fun c hc => ?_)
 unfold a14
 apply J.seq
 refine J.regE (by simp; rfl) ?_
 simp
 apply J.seq
 apply J.seq
 refine J.regE (by simp; rfl) ?_
 simp
 refine J.condB rfl (fun h10 => ?_) (fun h10 => ?_)
 ·
  simp at h10
  have e : eqB a b = false := eqB_no (fun h => by subst h; omega)
  apply J.seq
  refine J.regE (by simp; rfl) ?_
  simp
  apply J.ret
  refine ⟨by simp, rfl, _, [], by simp [a14R]; rfl, ?_⟩
  simp [e]
 ·
  simp at h10
  have hlen : a.length = b.length := by omega
  apply J.skip; simp
  apply J.seq
  apply J.seq
  refine J.regE (by simp; rfl) ?_
  simp
  apply J.block
  refine J.loop hc (I14 a b) ?_ ?_
  ·exact ⟨_, _, St.le_refl _, 0, by omega, rfl, by simp, by simp⟩
  rintro n st ⟨i, hi, rfl, hI, rfl⟩
  apply J.seq
  apply J.seq
  refine J.regE (by simp; rfl) ?_
  simp
  apply J.cond; simp
  refine ⟨fun hlt => ?_, fun hlt => ?_⟩
  ·
   obtain ⟨y, hx, hgx, hg, hge, hdr, hw, hlt2, hset, hxm⟩ := getA (show i < a.length by omega) ha
   obtain ⟨z, hz, hgz, hzg, hzge, hzdr, _, hzlt, hzset, hzm⟩ := getA (show i < b.length by omega) hb
   simp only [eA] at hg hge hzg hzge
   rw [hdr, hzdr, List.cons.injEq] at hI
   apply J.skip; simp
   apply J.seq
   apply J.block
   apply J.seq
   apply J.draw; intro c' hc'
   iterate 9 refine runP_stepQ (by simp [hlt2, hg, hge, hlt, hzg, hzge, hzlt]; rfl) ?_
   simp [runP]
   refine J.condB rfl (fun h25 => ?_) (fun h25 => ?_)
   ·
    have hE0 : (!(eqAns y z)) = true := by simp only [eqAns, Bool.not_and]; exact h25
    have hyz : y ≠ z := fun h => by rw [eqAns_iff.2 h] at hE0; cases hE0
    have e : eqB a b = false := eqB_no (fun h => hyz (hI.2 h).1)
    apply J.seq
    refine J.regE (by simp; rfl) ?_
    simp
    apply J.ret
    refine ⟨by simp, rfl, _, [], by simp [a14R]; rfl, ?_⟩
    simp [e]
   ·
    have hE0 : (!(eqAns y z)) = false := by simp only [eqAns, Bool.not_and]; exact h25
    have hyz : y = z := eqAns_iff.1 (by simpa using hE0)
    have hI2 : a.drop (i + 1) = b.drop (i + 1) ↔ a = b := ⟨fun h => hI.1 ⟨hyz, h⟩, fun h => (hI.2 h).2⟩
    apply J.skip; simp
    refine J.regE (by simp [hw]; rfl) ?_
    simp
    exact ⟨_, by omega, _, St.le_refl _, i + 1, by omega, rfl, hI2, by simp⟩
  ·
   have hie : i = a.length := by omega
   subst hie
   rw [List.drop_length, List.drop_of_length_le (by omega)] at hI
   have e : eqB a b = true := eqB_iff.2 (hI.1 rfl)
   apply J.exit; simp
   apply J.seq
   refine J.regE (by simp; rfl) ?_
   simp
   apply J.ret
   refine ⟨by simp, rfl, _, [], by simp [a14R]; rfl, ?_⟩
   simp [e]
theorem c18 : chkFn Tryz.prog 18 108 2 a18 a18R = true := by kernel_rfl
set_option maxHeartbeats 4000000 in
theorem d18 (s : Sta) (m : Cmd) {n : Nat} (hn : n < 900000) (h : FitS n s) : DoesT 18 [.agg (eS s), .agg (eM m)] (.tup [.agg (eS (applyS s m).1), .agg (eA (applyS s m).2)]) := by
 have hn' : n < 1000000 := by omega
 obtain ⟨A0, hA0⟩ : ∃ A, mayS s = A := ⟨_, rfl⟩
 obtain ⟨B0, hB0⟩ : ∃ B, mayM m = B := ⟨_, rfl⟩
 have h19 := d19 s hn h
 rw [hA0] at h19
 have h47 := d47 m
 rw [hB0] at h47
 refine Does.of (nt := 108) (ac := a18) (rds := a18R) c18 (fun c hc => ?_)
 unfold a18
 apply J.seq
 refine J.regE (by simp [eS, eM, eW, eA, eV]; rfl) ?_
 simp
 refine J.nz hc ?_
 simp
 apply J.seq
 apply J.reg
 refine runL_step rfl (by simp [eS, eM, eW, eA, eV]; rfl) ?_
 refine runL_tree rfl (h19) (by simp) hc ?_
 simp
 refine runL_step rfl (by simp [eS, eM, eW, eA, eV]; rfl) ?_
 simp [runL]
 apply J.seq
 apply J.reg
 refine runL_step rfl (by simp [eS, eM, eW, eA, eV]; rfl) ?_
 refine runL_tree rfl (h47) (by simp) hc ?_
 simp
 refine runL_step rfl (by simp [eS, eM, eW, eA, eV]; rfl) ?_
 simp [runL]
 apply J.seq
 apply J.seq
 apply J.reg
 iterate 3 refine runL_step rfl (by simp [eS, eM, eW, eA, eV]; rfl) ?_
 refine runL_if rfl (fun g27 => ?_) (fun g27 => ?_)
 ·
  try simp only [g27]
  try simp at g27
  iterate 3 refine runL_step rfl (by simp [eS, eM, eW, eA, eV]; rfl) ?_
  simp [runL]
  refine J.condB rfl (fun h30 => ?_) (fun h30 => ?_)
  ·
   obtain rfl : B0 = false := by simpa using h30
   apply J.seq
   apply J.reg
   refine runL_step rfl (by simp [eS, eM, eW, eA, eV]; rfl) ?_
   refine runL_tree rfl (d48 s _) (by simp) hc ?_
   simp
   iterate 7 refine runL_step rfl (by simp [eS, eM, eW, eA, eV]; rfl) ?_
   simp [runL]
   apply J.seq
   apply J.draw; intro c' hc'
   iterate 2 refine runP_stepQ (by simp [eS, eM, eW, eA, eV]; rfl) ?_
   refine runP_one rfl (by simp) (by simp [eS, eM, eW, eA, eV]; rfl) ?_
   refine runP_one rfl (by simp) (by simp [eS, eM, eW, eA, eV]; rfl) ?_
   simp [runP]
   apply J.ret
   refine ⟨by simp, rfl, _, [], by simp [a18R]; rfl, ?_⟩
   rw [apply_may (.inr hB0)]; simp [eS, eA]
  ·
   obtain rfl : B0 = true := by simpa using h30
   subst g27
   obtain ⟨huR, huV⟩ := mayS_up hA0
   apply J.skip; simp
   apply J.seq
   apply J.seq
   refine J.regE (by simp [eS, eM, eW, eA, eV]; rfl) ?_
   simp
   refine J.condB rfl (fun h40 => ?_) (fun h40 => ?_)
   ·
    simp at h40
    apply J.seq
    refine J.regE (by simp [eS, eM, eW, eA, eV]; rfl) ?_
    simp
    apply J.ret
    refine ⟨by simp, rfl, _, [], by simp [a18R]; rfl, ?_⟩
    rw [apply_nop hA0 hB0 h40]; simp [eS, eA, noA]
   ·
    simp at h40
    obtain ⟨h7, htx⟩ := mayM_kind hB0 h40
    apply J.skip; simp
    apply J.seq
    refine J.regE (by simp [eS, eM, eW, eA, eV]; rfl) ?_
    simp
    refine J.nz hc ?_
    simp
    apply J.seq
    apply J.seq
    refine J.regE (by simp [eS, eM, eW, eA, eV]; rfl) ?_
    simp
    apply J.block
    refine J.loop hc (I18 s m) ?_ ?_
    ·exact ⟨_, _, St.le_refl _, 0, noW, by omega, rfl, rfl, by simp [eS, eM, eW, noW]⟩
    rintro n st ⟨i, w, hi, rfl, hI, rfl⟩
    apply J.seq
    apply J.seq
    refine J.regE (by simp [eS, eM, eW, eA, eV]; rfl) ?_
    simp
    apply J.cond; simp [eS, eM, eW, eA, eV]
    refine ⟨fun hlt => ?_, fun hlt => ?_⟩
    ·
     obtain ⟨y, hx, hgx, hg, hge, hdr, hw, hlt2, hset, hxm⟩ := getV (show i < s.persons.length by omega) (h.l2 hn')
     simp only [eV] at hg hge
     rw [hdr] at hI
     simp only [lastW] at hI
     apply J.skip; simp
     apply J.seq
     apply J.block
     apply J.seq
     apply J.draw; intro c' hc'
     iterate 9 refine runP_stepQ (by simp [eS, eM, eW, eA, eV, hlt2, hg, hge, hlt]; rfl) ?_
     simp [runP]
     refine J.condB rfl (fun h59 => ?_) (fun h59 => ?_)
     ·
      simp at h59
      rw [if_pos h59] at hI
      have hI2 := hI
      refine J.regE (by simp [eS, eM, eW, eA, eV, hlt2, hg, hge, hlt]; rfl) ?_
      simp
      refine J.regE (by simp [eS, eM, eW, eA, eV, hw]; rfl) ?_
      simp
      refine ⟨_, by omega, _, ?_, i + 1, y.w, by omega, rfl, hI2, rfl⟩
      apply le_sub <;> simp [eS, eM, eW]
     ·
      simp at h59
      rw [if_neg h59] at hI
      have hI2 := hI
      apply J.skip; simp
      refine J.regE (by simp [eS, eM, eW, eA, eV, hw]; rfl) ?_
      simp
      refine ⟨_, by omega, _, ?_, i + 1, w, by omega, rfl, hI2, rfl⟩
      apply le_sub <;> simp [eS, eM, eW]
    ·
     have hie : i = s.persons.length := by omega
     subst hie
     rw [List.drop_length] at hI
     simp only [lastW] at hI
     rw [lastW_win huV] at hI
     have hwl : w.l.length < 1000000 := by have := win_fit m.user h; rw [hI] at this; omega
     obtain ⟨L, hL⟩ : ∃ L, lookW w m.seq = L := ⟨_, rfl⟩
     obtain ⟨A, is, er⟩ := L
     have h49 := d49 w m.seq hwl
     rw [hL] at h49
     simp only at h49
     have hL2 : lookW (winOf s m.user) m.seq = (A, is, er) := by rw [hI, hL]
     apply J.exit; simp
     apply J.seq
     apply J.reg
     iterate 3 refine runL_step rfl (by simp [eS, eM, eW, eA, eV]; rfl) ?_
     refine runL_tree rfl (h49) (by simp) hc ?_
     simp
     iterate 8 refine runL_step rfl (by simp [eS, eM, eW, eA, eV]; rfl) ?_
     simp [runL]
     apply J.seq
     apply J.seq
     refine J.regE (by simp [eS, eM, eW, eA, eV]; rfl) ?_
     simp
     refine J.condB rfl (fun h75 => ?_) (fun h75 => ?_)
     ·
      simp at h75
      apply J.seq
      apply J.reg
      iterate 2 refine runL_step rfl (by simp [eS, eM, eW, eA, eV]; rfl) ?_
      refine runL_tree rfl (d48 s _) (by simp) hc ?_
      simp
      iterate 7 refine runL_step rfl (by simp [eS, eM, eW, eA, eV]; rfl) ?_
      simp [runL]
      apply J.seq
      apply J.draw; intro c' hc'
      iterate 2 refine runP_stepQ (by simp [eS, eM, eW, eA, eV]; rfl) ?_
      refine runP_one rfl (by simp) (by simp [eS, eM, eW, eA, eV]; rfl) ?_
      refine runP_one rfl (by simp) (by simp [eS, eM, eW, eA, eV]; rfl) ?_
      simp [runP]
      apply J.ret
      refine ⟨by simp, rfl, _, [], by simp [a18R]; rfl, ?_⟩
      rw [apply_err hA0 hB0 h40 hL2 h75]; simp [eS, eA]
     ·
      simp at h75
      subst h75
      apply J.skip; simp
      apply J.seq
      apply J.seq
      refine J.regE (by simp [eS, eM, eW, eA, eV]; rfl) ?_
      simp
      refine J.condB rfl (fun h84 => ?_) (fun h84 => ?_)
      ·
       apply J.seq
       apply J.draw; intro c' hc'
       iterate 2 refine runP_stepQ (by simp [eS, eM, eW, eA, eV]; rfl) ?_
       refine runP_one rfl (by simp) (by simp [eS, eM, eW, eA, eV]; rfl) ?_
       refine runP_one rfl (by simp) (by simp [eS, eM, eW, eA, eV]; rfl) ?_
       simp [runP]
       apply J.ret
       refine ⟨by simp, rfl, _, [], by simp [a18R]; rfl, ?_⟩
       rw [apply_is hA0 hB0 h40 hL2 h84]; simp [eS, eA]
      ·
       subst h84
       have h51 := d51 w m.seq (doesS s m).2 hwl
       have h52 := d52 (doesS s m).1 ⟨m.user, (putW w m.seq (doesS s m).2).1⟩ (by rw [does_p]; exact huV) (by rw [does_p]; have := h.2.1; omega)
       apply J.skip; simp
       apply J.seq
       apply J.reg
       iterate 2 refine runL_step rfl (by simp [eS, eM, eW, eA, eV]; rfl) ?_
       refine runL_tree rfl (d50 s m huR hn h h7 (by omega)) (by simp) hc ?_
       simp
       iterate 7 refine runL_step rfl (by simp [eS, eM, eW, eA, eV]; rfl) ?_
       simp [runL]
       apply J.seq
       apply J.reg
       iterate 4 refine runL_step rfl (by simp [eS, eM, eW, eA, eV]; rfl) ?_
       refine runL_tree rfl (h51) (by simp) hc ?_
       simp
       iterate 6 refine runL_step rfl (by simp [eS, eM, eW, eA, eV]; rfl) ?_
       simp [runL]
       apply J.seq
       refine J.drawT rfl hc (fun c' hs' hc' => ?_)
       iterate 6 refine runP_stepQ (by simp [eS, eM, eW, eA, eV]; rfl) ?_
       refine runP_treeT rfl (h52) (by simp) hs' ?_
       simp
       refine runP_one rfl (by simp) (by simp [eS, eM, eW, eA, eV]; rfl) ?_
       refine runP_one rfl (by simp) (by simp [eS, eM, eW, eA, eV]; rfl) ?_
       simp [runP]
       apply J.ret
       refine ⟨by simp, rfl, _, [], by simp [a18R]; rfl, ?_⟩
       rw [apply_do hA0 hB0 h40 hL2, hI]; simp [eS, eA, withP]
 ·
  try simp only [g27]
  try simp at g27
  iterate 2 refine runL_step rfl (by simp [eS, eM, eW, eA, eV]; rfl) ?_
  simp [runL]
  apply J.cond; simp [eS, eM, eW, eA, eV]
  apply J.seq
  apply J.reg
  refine runL_step rfl (by simp [eS, eM, eW, eA, eV]; rfl) ?_
  refine runL_tree rfl (d48 s _) (by simp) hc ?_
  simp
  iterate 7 refine runL_step rfl (by simp [eS, eM, eW, eA, eV]; rfl) ?_
  simp [runL]
  apply J.seq
  apply J.draw; intro c' hc'
  iterate 2 refine runP_stepQ (by simp [eS, eM, eW, eA, eV]; rfl) ?_
  refine runP_one rfl (by simp) (by simp [eS, eM, eW, eA, eV]; rfl) ?_
  refine runP_one rfl (by simp) (by simp [eS, eM, eW, eA, eV]; rfl) ?_
  simp [runP]
  apply J.ret
  refine ⟨by simp, rfl, _, [], by simp [a18R]; rfl, ?_⟩
  rw [apply_may (.inl (by rw [hA0, g27]))]; simp [eS, eA]
theorem c12 : chkFn Tryz.prog 12 32 2 a12 a12R = true := by kernel_rfl
set_option maxHeartbeats 4000000 in
theorem d12 (s : Sta) (l : List Cmd) {n : Nat} (hn : n + l.length < 900000) (h8 : 8 ≤ n) (h : FitS n s) : DoesT 12 [.agg (eS s), .ro 6 (eMs l)] (.tup [.agg (eS (runS s l).1), .ro 3 (eAs (runS s l).2)]) := by
 refine Does.of (nt := 32) (ac := a12) (rds := a12R) c12 (fun c hc => ?_)
 unfold a12
 apply J.seq
 refine J.regE (by simp [eS, eA]; rfl) ?_
 simp
 apply J.seq
 refine J.regE (by simp [eS, eA]; rfl) ?_
 simp
 refine J.nilrow hc 6 12029 39 rfl rfl rfl ?_
 simp
 apply J.seq
 apply J.seq
 refine J.regE (by simp [eS, eA]; rfl) ?_
 simp
 apply J.block
 refine J.loop hc (I12 s l n) ?_ ?_
 ·exact ⟨_, _, St.le_refl _, 0, s, [], by omega, rfl, h, rfl, by simp, by simp [eS, eAs]⟩
 rintro n st ⟨i, t, o, hi, rfl, hft, ho, hR, rfl⟩
 apply J.seq
 apply J.seq
 refine J.regE (by simp [eS, eA]; rfl) ?_
 simp
 apply J.cond; simp [eS, eA]
 refine ⟨fun hlt => ?_, fun hlt => ?_⟩
 ·
  obtain ⟨x, hx, hgx, hg, hge, hdr, hw, hlt2, hset, hxm⟩ := getMm (show i < l.length by omega) (by omega)
  simp only [eM] at hg hge
  rw [hdr] at hR
  have h18 := d18 t x (by omega) hft
  have hft2 := apply_fit (m := x) hft (by omega)
  generalize hQ : applyS t x = q at h18 hft2
  obtain ⟨t2, a2⟩ := q
  have hR2 : runS s l = ((runS t2 (l.drop (i + 1))).1, (o ++ [a2]) ++ (runS t2 (l.drop (i + 1))).2) := by rw [hR]; simp [runS, hQ]
  simp only at h18 hft2
  apply J.skip; simp
  apply J.seq
  apply J.block
  apply J.seq
  refine J.to hc ⟨[(1, .ro 6 (eMs l)), (2, .ptr 12002 0 0 0), (4, .ptr 12004 0 0 0), (6, .own 12029 3 0 o.length), (7, iv (i : Nat)), (8, .ptr 12008 0 0 0), (9, .ptr 12009 0 0 0)], [(12002, .obj 27 (eS t)), (12004, .obj 27 [.nils 4, .nils 3]), (12029, .arr 39 3 (eAs o)), (12008, .obj 27 (eS t2)), (12009, .obj 39 (eA a2))], []⟩ ?_ ?_
  ·refine J.drawT rfl hc (fun c' hs' hc' => ?_)
   repeat' (first
    | (show runP _ _ _ _ (.take _ _ _) _ _; refine runP_stepQ (by simp [eS, eA, eM, hlt2, hg, hge, hlt]; rfl) ?_)
    | (show runP _ _ _ _ (.alt _ ⟨_, none, .callv _ _⟩ _ .done) _ _; refine runP_treeT rfl (h18) (by simp) hs' ?_; simp)
    | (show runP _ _ _ _ (.alt _ _ _ .done) _ _; refine runP_one rfl (by simp) (by simp [eS, eA, eM, hlt2, hg, hge, hlt]; rfl) ?_)
    | refine runP_or ?_ ?_)
   all_goals
    (first | refine le_subF ?_ ?_ ?_ ?_ rfl ?_ | refine ⟨rfl, le_subF ?_ ?_ ?_ ?_ rfl ?_⟩) <;> (repeat' (first | exact trivial | exact rfl | refine ⟨?_, ?_⟩))
  simp
  apply J.seq
  refine J.regE (by simp [eS, eA]; rfl) ?_
  simp
  refine J.regE (by simp [eS, eA, show (o.length + 1) * 32 ≤ 140737488355328 from by omega, eAs_take]; rfl) ?_
  simp
  refine J.regE (by simp [eS, eA, hw]; rfl) ?_
  simp
  refine ⟨_, by omega, _, ?_, i + 1, t2, o ++ [a2], by omega, rfl, hft2, by simp; omega, hR2, rfl⟩
  apply le_sub <;> simp [eS, eAs_snoc, eAs_take, ho]
 ·
  have hie : i = l.length := by omega
  subst hie
  rw [List.drop_length] at hR
  apply J.exit; simp
  apply J.seq
  refine J.regE (by simp [eS, eA]; rfl) ?_
  simp
  refine J.freeze hc 12029 rfl ?_
  simp
  apply J.ret
  refine ⟨by simp, rfl, _, [], by simp [a12R]; rfl, ?_⟩
  rw [hR]; simp [runS, eAs_take, eS]
structure Big (s : Sta) : Prop where
 r : s.rooms.length ≤ 9223372036854775807
 p : s.persons.length ≤ 9223372036854775807
 rr : ∀ r ∈ s.rooms, r.c.mem.length ≤ 9223372036854775807 ∧ r.posts.length ≤ 9223372036854775807
 pp : ∀ p ∈ s.persons, p.w.l.length ≤ 9223372036854775807
def fewRm (r : Room) : Bool := P16.fewP r.posts && decide (r.c.mem.length ≤ 50)
def fewV (p : Pers) : Bool := decide ((p.w.l.length : Int) ≤ 50)
def fewS (s : Sta) : Bool := decide (s.rooms.length ≤ 20) && (decide (s.persons.length ≤ 20) && (s.rooms.all fewRm && s.persons.all fewV))
theorem fewR_txt : ∀ {l : List Post}, P16.fewR l = true → ∀ x ∈ l, x.text.size ≤ 200
 | [], _, x, hx => by cases hx
 | y :: r, h, x, hx => by
  simp only [P16.fewR, Bool.and_eq_true, decide_eq_true_eq] at h
  rcases List.mem_cons.1 hx with rfl | hx
  ·exact h.1
  ·exact fewR_txt h.2 x hx
theorem few_fit {s : Sta} (h : fewS s = true) : FitS 50 s := by
 simp only [fewS, Bool.and_eq_true, decide_eq_true_eq, List.all_eq_true] at h
 obtain ⟨h1, h2, h3, h4⟩ := h
 refine ⟨by omega, by omega, fun r hr => ?_, fun p hp => ?_⟩
 ·have := h3 r hr
  simp only [fewRm, P16.fewP, Bool.and_eq_true, decide_eq_true_eq] at this
  exact ⟨this.2, by omega, fun x hx => by have := fewR_txt this.1.2 x hx; omega⟩
 ·have := h4 p hp
  simp only [fewV, decide_eq_true_eq] at this
  omega
def I16a (s : Sta) (m : Nat) (st : St) : Prop := ∃ i : Nat, i ≤ s.rooms.length ∧ m = s.rooms.length - i ∧ s.rooms.all fewRm = (s.rooms.drop i).all fewRm ∧ st = ⟨[(1, .ptr 16001 0 0 0), (3, iv (i : Nat))], [(16001, .obj 27 (eS s))], []⟩
def I16b (s : Sta) (m : Nat) (st : St) : Prop := ∃ i : Nat, i ≤ s.persons.length ∧ m = s.persons.length - i ∧ s.persons.all fewV = (s.persons.drop i).all fewV ∧ st = ⟨[(1, .ptr 16001 0 0 0), (5, iv (i : Nat))], [(16001, .obj 27 (eS s))], []⟩
def exL : List Cmd := [⟨7, 1, 1, 3, 0, ⟨#[]⟩⟩, ⟨5, 1, 2, 3, 0, ⟨#[]⟩⟩, ⟨5, 2, 4, 3, 0, ⟨#[104, 105]⟩⟩, ⟨7, 2, 7, 3, 1, ⟨#[]⟩⟩, ⟨9, 1, 6, 3, 1, ⟨#[]⟩⟩]
def exA : List Ans := [⟨0, 0, ⟨#[]⟩⟩, ⟨0, 0, ⟨#[]⟩⟩, ⟨0, 1, ⟨#[]⟩⟩, ⟨0, 0, ⟨#[104, 105]⟩⟩, ⟨8, 0, ⟨#[]⟩⟩]
def noS : Sta := ⟨[], []⟩
theorem ex_run : (runS noS exL).2 = exA := by kernel_rfl
theorem fit_no (n : Nat) : FitS n noS := ⟨Nat.zero_le _, Nat.zero_le _, (fun r hr => by cases hr), (fun p hp => by cases hp)⟩
theorem c10 : chkFn Tryz.prog 10 43 0 a10 a10R = true := by kernel_rfl
theorem d10  : DoesT 10 [] (bv true) := by
 have h11 := d11 noS exL (n := 8) (by decide) (by omega) (fit_no 8)
 rw [ex_run] at h11
 refine Does.of (nt := 43) (ac := a10) (rds := a10R) c10 (fun c hc => ?_)
 unfold a10
 apply J.seq
 refine J.regE (by simp; rfl) ?_
 simp
 apply J.seq
 apply J.reg
 refine runL_tree rfl (d24) (by simp) hc ?_
 simp
 refine runL_step rfl (by simp; rfl) ?_
 simp [runL]
 apply J.seq
 apply J.reg
 iterate 7 refine runL_step rfl (by simp [eS]; rfl) ?_
 refine runL_le hc (St.le_trans (le_nz _) (le_freeze _ 10012 rfl)) ?_
 simp
 refine runL_tree rfl (h11) (by simp) hc ?_
 simp
 iterate 6 refine runL_step rfl (by simp [eS]; rfl) ?_
 simp [runL]
 apply J.seq
 apply J.reg
 iterate 28 refine runL_step rfl (by simp [eAs, eA, exA]; rfl) ?_
 simp [runL]
 apply J.ret
 refine ⟨by simp, rfl, _, [], by simp [a10R]; rfl, ?_⟩
 simp
theorem c16 : chkFn Tryz.prog 16 60 1 a16 a16R = true := by kernel_rfl
theorem d16 (s : Sta) (hb : Big s) : DoesT 16 [.agg (eS s)] (bv (fewS s)) := by
 refine Does.of (nt := 60) (ac := a16) (rds := a16R) c16 (fun c hc => ?_)
 unfold a16
 apply J.seq
 refine J.regE (by simp [eS]; rfl) ?_
 simp
 apply J.seq
 apply J.seq
 apply J.reg
 iterate 5 refine runL_step rfl (by simp [eS]; rfl) ?_
 refine runL_if rfl (fun g11 => ?_) (fun g11 => ?_)
 ·
  try simp only [g11]
  try simp at g11
  iterate 5 refine runL_step rfl (by simp [eS]; rfl) ?_
  simp [runL]
  refine J.condB rfl (fun h16 => ?_) (fun h16 => ?_)
  ·
   simp at h16
   have hF : fewS s = false := by simp [fewS, show ¬ s.persons.length ≤ 20 by omega]
   apply J.seq
   refine J.regE (by simp [eS]; rfl) ?_
   simp
   apply J.ret
   refine ⟨by simp, rfl, _, [], by simp [a16R]; rfl, ?_⟩
   first | (simp [hF]; done) | (simp [fewS, hR, hV, show s.rooms.length ≤ 20 by omega, show s.persons.length ≤ 20 by omega]; done) | trace_state
  ·
   simp at h16
   apply J.skip; simp
   apply J.seq
   apply J.seq
   refine J.regE (by simp [eS]; rfl) ?_
   simp
   apply J.block
   refine J.loop hc (I16a s) ?_ ?_
   ·exact ⟨_, _, St.le_refl _, 0, by omega, rfl, by simp, by simp [eS]⟩
   rintro n st ⟨i, hi, rfl, hI, rfl⟩
   apply J.seq
   apply J.seq
   refine J.regE (by simp [eS]; rfl) ?_
   simp
   apply J.cond; simp [eS]
   refine ⟨fun hlt => ?_, fun hlt => ?_⟩
   ·
    obtain ⟨y, hx, hgx, hg, hge, hdr, hw, hlt2, hset, hxm⟩ := getR (show i < s.rooms.length by omega) (by omega)
    simp only [eR] at hg hge
    rw [hdr, List.all_cons] at hI
    have h39 := P16.d10 y.posts (hb.rr y hxm).2
    obtain ⟨b1, hb1⟩ : ∃ b, P16.fewP y.posts = b := ⟨_, rfl⟩
    rw [hb1] at h39
    simp only [fewRm, hb1] at hI
    apply J.skip; simp
    apply J.seq
    apply J.block
    apply J.seq
    apply J.reg
    iterate 6 refine runL_step rfl (by simp [eS, hlt2, hg, hge, hlt]; rfl) ?_
    refine runL_tree rfl (h39) (by simp) hc ?_
    simp
    refine runL_step rfl (by simp [eS, hlt2, hg, hge, hlt]; rfl) ?_
    simp [runL]
    apply J.seq
    apply J.reg
    iterate 3 refine runL_step rfl (by simp [eS, hlt2, hg, hge, hlt]; rfl) ?_
    refine runL_if rfl (fun g33 => ?_) (fun g33 => ?_)
    ·
     try simp only [g33]
     try simp at g33
     iterate 10 refine runL_step rfl (by simp [eS, hlt2, hg, hge, hlt]; rfl) ?_
     simp [runL]
     refine J.condB rfl (fun h43 => ?_) (fun h43 => ?_)
     ·
      simp at h43
      have hF : fewS s = false := by simp only [fewS]; rw [hI]; simp [show ¬ y.c.mem.length ≤ 50 by omega]
      apply J.seq
      refine J.regE (by simp [eS]; rfl) ?_
      simp
      apply J.ret
      refine ⟨by simp, rfl, _, [], by simp [a16R]; rfl, ?_⟩
      first | (simp [hF]; done) | (simp [fewS, hR, hV, show s.rooms.length ≤ 20 by omega, show s.persons.length ≤ 20 by omega]; done) | trace_state
     ·
      simp at h43
      have hI2 : s.rooms.all fewRm = (s.rooms.drop (i + 1)).all fewRm := by rw [hI]; simp [g33, show y.c.mem.length ≤ 50 by omega]
      apply J.skip; simp
      refine J.regE (by simp [eS, hw]; rfl) ?_
      simp
      refine ⟨_, by omega, _, ?_, i + 1, by omega, rfl, hI2, rfl⟩
      apply le_sub <;> simp [eS]
    ·
     try simp only [g33]
     try simp at g33
     have hF : fewS s = false := by simp only [fewS]; rw [hI]; simp [g33]
     iterate 9 refine runL_step rfl (by simp [eS, hlt2, hg, hge, hlt]; rfl) ?_
     simp [runL]
     apply J.cond; simp [eS]
     apply J.seq
     refine J.regE (by simp [eS]; rfl) ?_
     simp
     apply J.ret
     refine ⟨by simp, rfl, _, [], by simp [a16R]; rfl, ?_⟩
     first | (simp [hF]; done) | (simp [fewS, hR, hV, show s.rooms.length ≤ 20 by omega, show s.persons.length ≤ 20 by omega]; done) | trace_state
   ·
    have hie : i = s.rooms.length := by omega
    subst hie
    rw [List.drop_length] at hI
    have hR : s.rooms.all fewRm = true := hI
    apply J.exit; simp
    apply J.seq
    apply J.seq
    refine J.regE (by simp [eS]; rfl) ?_
    simp
    apply J.block
    refine J.loop hc (I16b s) ?_ ?_
    ·exact ⟨_, _, St.le_refl _, 0, by omega, rfl, by simp, by simp [eS]⟩
    rintro n st ⟨i, hi, rfl, hI, rfl⟩
    apply J.seq
    apply J.seq
    refine J.regE (by simp [eS]; rfl) ?_
    simp
    apply J.cond; simp [eS]
    refine ⟨fun hlt => ?_, fun hlt => ?_⟩
    ·
     obtain ⟨y, hx, hgx, hg, hge, hdr, hw, hlt2, hset, hxm⟩ := getV (show i < s.persons.length by omega) (by omega)
     simp only [eV] at hg hge
     rw [hdr, List.all_cons] at hI
     apply J.skip; simp
     apply J.seq
     apply J.block
     apply J.seq
     apply J.reg
     iterate 6 refine runL_step rfl (by simp [eS, hlt2, hg, hge, hlt]; rfl) ?_
     refine runL_tree rfl (d40 y.w) (by simp) hc ?_
     simp
     refine runL_step rfl (by simp [eS, hlt2, hg, hge, hlt]; rfl) ?_
     simp [runL]
     apply J.seq
     refine J.regE (by simp [eS]; rfl) ?_
     simp
     refine J.condB rfl (fun h59 => ?_) (fun h59 => ?_)
     ·
      simp at h59
      have hF : fewS s = false := by simp only [fewS]; rw [hI]; simp [fewV, show ¬ (y.w.l.length : Int) ≤ 50 by omega]
      apply J.seq
      refine J.regE (by simp [eS]; rfl) ?_
      simp
      apply J.ret
      refine ⟨by simp, rfl, _, [], by simp [a16R]; rfl, ?_⟩
      first | (simp [hF]; done) | (simp [fewS, hR, hV, show s.rooms.length ≤ 20 by omega, show s.persons.length ≤ 20 by omega]; done) | trace_state
     ·
      simp at h59
      have hI2 : s.persons.all fewV = (s.persons.drop (i + 1)).all fewV := by rw [hI]; simp [fewV, show (y.w.l.length : Int) ≤ 50 by omega]
      apply J.skip; simp
      refine J.regE (by simp [eS, hw]; rfl) ?_
      simp
      refine ⟨_, by omega, _, ?_, i + 1, by omega, rfl, hI2, rfl⟩
      apply le_sub <;> simp [eS]
    ·
     have hie : i = s.persons.length := by omega
     subst hie
     rw [List.drop_length] at hI
     have hV : s.persons.all fewV = true := hI
     apply J.exit; simp
     apply J.seq
     refine J.regE (by simp [eS]; rfl) ?_
     simp
     apply J.ret
     refine ⟨by simp, rfl, _, [], by simp [a16R]; rfl, ?_⟩
     first | (simp [hF]; done) | (simp [fewS, hR, hV, show s.rooms.length ≤ 20 by omega, show s.persons.length ≤ 20 by omega]; done) | trace_state
 ·
  try simp only [g11]
  try simp at g11
  have hF : fewS s = false := by simp [fewS, show ¬ s.rooms.length ≤ 20 by omega]
  iterate 4 refine runL_step rfl (by simp [eS]; rfl) ?_
  simp [runL]
  apply J.cond; simp [eS]
  apply J.seq
  refine J.regE (by simp [eS]; rfl) ?_
  simp
  apply J.ret
  refine ⟨by simp, rfl, _, [], by simp [a16R]; rfl, ?_⟩
  first | (simp [hF]; done) | (simp [fewS, hR, hV, show s.rooms.length ≤ 20 by omega, show s.persons.length ≤ 20 by omega]; done) | trace_state
end Go.Proofs.YtadbdchbdjkcdaaGreatDoor.F
namespace Go.SX
open Go
def Says (w : World) (xs : List AV) (cs : List Value) : Prop := xs.length = cs.length ∧ ∀ Own : Nat → Prop, (∀ k, ¬ Own k) → ∀ (i : Nat) x, xs[i]? = some x → ∃ v, cs[i]? = some v ∧ one v = true ∧ TRel w Own x v
structure Opens (P : Program) (t : TypeId) {α : Type} (f : α → List AV) : Prop where
  get : ∀ {H : Type} (enc : TypeId × Value → H) (w : World) (base : Nat) (spare : Nat → Bool) (held : Bool) (fuel : Nat) (cs : List Value) (y : DataW H × List MemPlace),
  DataW.trod enc P w base spare held fuel t cs = some y → ∃ a : α, Says w (f a) cs
theorem Says.one {w : World} {v : Value} (h : flat v = true) (h1 : SX.one v = true) : Says w [.lit v] [v] :=
  ⟨rfl, fun Own _ i x hx => by cases i <;> simp at hx; subst hx; exact ⟨v, rfl, h1, .lit h⟩⟩
theorem Says.app {w : World} {xs ys : List AV} {cs ds : List Value} (h : Says w xs cs) (k : Says w ys ds) : Says w (xs ++ ys) (cs ++ ds) := by
  refine ⟨by simp [h.1, k.1], fun Own ho i x hx => ?_⟩
  rcases Nat.lt_or_ge i xs.length with h1 | h1
  · rw [List.getElem?_append_left h1] at hx
    rw [List.getElem?_append_left (by rw [← h.1]; exact h1)]
    exact h.2 Own ho i x hx
  · rw [List.getElem?_append_right h1] at hx
    rw [List.getElem?_append_right (by rw [← h.1]; exact h1), ← h.1]
    exact k.2 Own ho _ x hx
theorem Says.agg {w : World} {xs : List AV} {cs : Array Value} (h : Says w xs cs.toList) {Own : Nat → Prop} (ho : ∀ k, ¬ Own k) : TRel w Own (.agg xs) (.agg cs) :=
  .agg (by simpa using h.1) (fun i x hx => by
    obtain ⟨v, hv, _, ht⟩ := h.2 Own ho i x hx
    have e : cs[i]? = some v := by simpa using hv
    simpa [Array.getD_eq_getD_getElem?, e] using ht)
theorem Says.val {w : World} {x : AV} {v : Value} (h : Says w [x] [v]) {Own : Nat → Prop} (ho : ∀ k, ¬ Own k) : TRel w Own x v := by
  obtain ⟨u, hu, _, ht⟩ := h.2 Own ho 0 x rfl
  simp at hu; subst hu; exact ht
section
variable {P : Program} {t : TypeId}
theorem Opens.int {k : IntKind} (ht : P.underlying t = some (.int k)) : Opens P t (fun n : Int => [.lit (.int k n)]) := ⟨fun _ _ _ _ _ _ _ _ h => by
  obtain ⟨n, rfl, _⟩ := DataW.trod_int ht h
  exact ⟨n, .one rfl rfl⟩⟩
theorem Opens.bool (ht : P.underlying t = some .bool) : Opens P t (fun b : Bool => [.lit (.bool b)]) := ⟨fun _ _ _ _ _ _ _ _ h => by
  obtain ⟨n, rfl, _⟩ := DataW.trod_bool ht h
  exact ⟨n, .one rfl rfl⟩⟩
theorem Opens.str (ht : P.underlying t = some .string) : Opens P t (fun s : ByteArray => [.lit (.string s)]) := ⟨fun _ _ _ _ _ _ _ _ h => by
  obtain ⟨n, rfl, _⟩ := DataW.trod_string ht h
  exact ⟨n, .one rfl rfl⟩⟩
theorem Opens.slice {e : TypeId} {sz : Nat} {α : Type} {f : α → List AV} (ht : P.underlying t = some (.slice e)) (hsz : P.cellsOf e = sz) (hs : 0 < sz) (he : Opens P e f) :
    Opens P t (fun l : { l : List α // l.length ≤ maxLen ∧ ∀ a ∈ l, (f a).length = sz } => [.ro sz (l.1.map f)]) := ⟨fun enc w base spare held fuel cs y h => by
  rcases DataW.trod_slice ht h with ⟨rfl, _⟩ | ⟨a, len, cap, elems, rest, n, _, rfl, _, _, hl, hm, hlen, hE, _⟩
  · refine ⟨⟨[], by simp, by simp⟩, rfl, fun Own ho i x hx => ?_⟩
    cases i <;> simp at hx
    subst hx; exact ⟨_, rfl, rfl, .ronil⟩
  · have hz : ∀ i, i < len → ∃ z : α, (f z).length = sz ∧ ∃ cs : List Value, Says w (f z) cs ∧ ∀ j u, cs[j]? = some u → w.cell? (a.add (i * sz + j)) = some u := fun i hi => by
      have h1 := hE i hi
      obtain ⟨x, hx⟩ : ∃ x, elems[i]? = some x := ⟨elems[i], List.getElem?_eq_getElem (by omega)⟩
      rw [hx, hsz] at h1
      obtain ⟨cs, hcs', hx'⟩ := Option.bind_eq_some_iff.1 h1
      obtain ⟨hl1, hl2⟩ := cells_get hcs'
      obtain ⟨z, hz⟩ := he.get _ _ _ _ _ _ _ _ hx'
      exact ⟨z, by rw [hz.1, hl1], cs, hz, fun j u hu => by rw [← add_add']; exact hl2 j u hu⟩
    classical
    let L : List α := List.ofFn (fun i : Fin len => (hz i.1 i.2).choose)
    have hL : L.length = len := by simp [L]
    have hg : ∀ (j : Nat) p, L[j]? = some p → (f p).length = sz ∧ ∃ cs : List Value, Says w (f p) cs ∧ ∀ i u, cs[i]? = some u → w.cell? (a.add (j * sz + i)) = some u := fun j p hj => by
      simp only [L, List.getElem?_ofFn] at hj
      split at hj
      · rename_i hlt
        injection hj with hj; subst hj
        exact (hz j hlt).choose_spec
      · cases hj
    refine ⟨⟨L, by rw [hL]; omega, fun p hp => by obtain ⟨j, hj, rfl⟩ := List.getElem_of_mem hp; exact (hg j _ (List.getElem?_eq_getElem hj)).1⟩, rfl, fun Own ho i x hx => ?_⟩
    cases i <;> simp at hx
    subst hx
    refine ⟨_, rfl, rfl, ?_⟩
    by_cases hne : L = []
    · have : len = 0 := by rw [← hL, hne]; rfl
      subst this
      simp only [hne, List.map_nil]
      exact .ronil
    · have e : len = (L.map f).length := by simp [hL]
      conv => rhs; rw [e]
      refine TRel.row ⟨hs, fun e he => ?_, ho _, fun i j x hx => ?_⟩ (by simp [hL]; omega)
      · obtain ⟨p, hp, rfl⟩ := List.mem_map.1 he
        obtain ⟨j, hj, rfl⟩ := List.getElem_of_mem hp
        exact (hg j _ (List.getElem?_eq_getElem hj)).1
      · obtain ⟨e, he, hj⟩ := Option.bind_eq_some_iff.1 hx
        rw [List.getElem?_map] at he
        obtain ⟨p, hp, rfl⟩ := Option.map_eq_some_iff.1 he
        obtain ⟨_, cs, hcs, hc⟩ := hg i p hp
        obtain ⟨v, hv, h1, htr⟩ := hcs.2 Own ho j x hj
        exact ⟨v, hc j v hv, h1, htr⟩⟩
structure OpensF (P : Program) (fs : List Field) (off : Nat) {α : Type} (f : α → List AV) : Prop where
  get : ∀ {H : Type} (enc : TypeId × Value → H) (w : World) (base : Nat) (spare : Nat → Bool) (held : Bool) (n : Nat) (cs : List Value),
  (∀ (i : Nat) (fd : Field), fs[i]? = some fd → ∃ y, DataW.trod enc P w base spare held n fd.type ((cs.drop fd.offset).take (P.cellsOf fd.type)) = some y) → ∃ a : α, ∃ m, Says w (f a) ((cs.drop off).take m) ∧ m = (f a).length
theorem OpensF.nil {off : Nat} : OpensF P [] off (fun _ : Unit => []) := ⟨fun _ _ _ _ _ _ _ _ => ⟨(), 0, ⟨by simp, fun _ _ i x hx => by simp at hx⟩, rfl⟩⟩
theorem OpensF.cons {fd : Field} {fs : List Field} {off sz : Nat} {α β : Type} {f : α → List AV} {g : β → List AV} (ho : fd.offset = off) (hsz : P.cellsOf fd.type = sz) (hf : Opens P fd.type f) (hl : ∀ a, (f a).length = sz) (hg : OpensF P fs (off + sz) g) :
    OpensF P (fd :: fs) off (fun p : α × β => f p.1 ++ g p.2) := ⟨fun enc w base spare held n cs h => by
  obtain ⟨y, hy⟩ := h 0 fd rfl
  rw [ho, hsz] at hy
  obtain ⟨a, ha⟩ := hf.get _ _ _ _ _ _ _ _ hy
  obtain ⟨b, m, hb, hm⟩ := hg.get enc w base spare held n cs (fun i fd' hfd => h (i + 1) fd' (by simpa using hfd))
  refine ⟨(a, b), sz + m, ?_, by simp [hl, hm]⟩
  rw [List.take_add, List.drop_drop]
  exact ha.app hb⟩
theorem Opens.struct {fs : List Field} {α β : Type} {f : α → List AV} {g : β → List AV} (ht : P.underlying t = some (.struct fs.toArray)) (hF : OpensF P fs 0 f) (to : α → β) (hto : ∀ a, g (to a) = f a) (hl : ∀ b, (g b).length = P.cellsOf t) : Opens P t g := ⟨fun enc w base spare held fuel cs y h => by
  obtain ⟨xs, n, _, _, hlen, hxs, hall⟩ := DataW.trod_struct ht h
  obtain ⟨a, m, ha, hm⟩ := hF.get enc w base spare held n cs (fun i fd hfd => by
    have h2 : fs.toArray[i]? = some fd := by simpa using hfd
    have h3 := hall i fd h2
    have hi : i < xs.length := by rw [hxs]; exact (Array.getElem?_eq_some_iff.1 h2).1
    exact ⟨xs[i], by rw [h3]; exact List.getElem?_eq_getElem hi⟩)
  refine ⟨to a, ?_⟩
  rw [hto]
  have e : m = cs.length := by rw [hm, ← hto, hl, hlen]
  subst e
  simpa using ha⟩
end
end Go.SX
namespace Go.Proofs.YtadbdchbdjkcdaaGreatDoor.F
open Go Go.SX
theorem lenI {n : Nat} (h : n ≤ maxLen) : n ≤ 9223372036854775807 := by unfold maxLen at h; omega
abbrev L9 : Nat := 9223372036854775807
theorem opn_cmd : Opens Tryz.prog 36 eM := by
  refine Opens.struct Tryz.underlying36 (OpensF.cons rfl (by kernel_rfl) (Opens.int Tryz.underlying3) (fun _ => rfl) (OpensF.cons rfl (by kernel_rfl) (Opens.int Tryz.underlying3) (fun _ => rfl) (OpensF.cons rfl (by kernel_rfl) (Opens.int Tryz.underlying3) (fun _ => rfl)
    (OpensF.cons rfl (by kernel_rfl) (Opens.int Tryz.underlying3) (fun _ => rfl) (OpensF.cons rfl (by kernel_rfl) (Opens.int Tryz.underlying3) (fun _ => rfl) (OpensF.cons rfl (by kernel_rfl) (Opens.str Tryz.underlying9) (fun _ => rfl) OpensF.nil)))))) (fun p => (⟨p.1, p.2.1, p.2.2.1, p.2.2.2.1, p.2.2.2.2.1, p.2.2.2.2.2.1⟩ : Cmd)) (fun _ => rfl) (fun _ => by kernel_rfl)
theorem opn_cmds : Opens Tryz.prog 22 (fun l : { l : List Cmd // l.length ≤ maxLen ∧ ∀ a ∈ l, (eM a).length = 6 } => [.ro 6 (eMs l.1)]) := Opens.slice Tryz.underlying22 (by kernel_rfl) (by omega) opn_cmd
theorem opn_post : Opens Tryz.prog 86 P16.eP := by
  refine Opens.struct Tryz.underlying86 (OpensF.cons rfl (by kernel_rfl) (Opens.int Tryz.underlying3) (fun _ => rfl) (OpensF.cons rfl (by kernel_rfl) (Opens.int Tryz.underlying3) (fun _ => rfl) (OpensF.cons rfl (by kernel_rfl) (Opens.str Tryz.underlying9) (fun _ => rfl)
    (OpensF.cons rfl (by kernel_rfl) (Opens.int Tryz.underlying3) (fun _ => rfl) (OpensF.cons rfl (by kernel_rfl) (Opens.bool Tryz.underlying4) (fun _ => rfl) OpensF.nil))))) (fun p => (⟨p.1, p.2.1, p.2.2.1, p.2.2.2.1, p.2.2.2.2.1⟩ : Post)) (fun _ => rfl) (fun _ => by kernel_rfl)
abbrev SubP := { l : List Post // l.length ≤ maxLen ∧ ∀ a ∈ l, (P16.eP a).length = 5 }
theorem opn_posts : Opens Tryz.prog 50 (fun l : SubP => [.ro 5 (ePs l.1)]) := Opens.slice Tryz.underlying50 (by kernel_rfl) (by omega) opn_post
abbrev SubI := { l : List Int // l.length ≤ maxLen ∧ ∀ a ∈ l, ((fun n : Int => [AV.lit (.int .i64 n)]) a).length = 1 }
theorem opn_ints : Opens Tryz.prog 47 (fun l : SubI => [.ro 1 (ints l.1)]) := Opens.slice Tryz.underlying47 (by kernel_rfl) (by omega) (Opens.int Tryz.underlying3)
theorem opn_chan : Opens Tryz.prog 49 (fun p : Int × Int × SubI => [iv p.1, iv p.2.1, .ro 1 (ints p.2.2.1)]) := by
  refine Opens.struct Tryz.underlying49 (OpensF.cons rfl (by kernel_rfl) (Opens.int Tryz.underlying3) (fun _ => rfl) (OpensF.cons rfl (by kernel_rfl) (Opens.int Tryz.underlying3) (fun _ => rfl) (OpensF.cons (sz := 1) rfl (by kernel_rfl) opn_ints (fun _ => rfl) OpensF.nil))) (fun p => (p.1, p.2.1, p.2.2.1)) (fun _ => rfl) (fun _ => by kernel_rfl)
abbrev SubR := { r : Room // r.c.mem.length ≤ maxLen ∧ r.posts.length ≤ maxLen }
theorem opn_room : Opens Tryz.prog 52 (fun r : SubR => eR r.1) := by
  refine Opens.struct Tryz.underlying52 (OpensF.cons (sz := 3) rfl (by kernel_rfl) opn_chan (fun _ => rfl) (OpensF.cons (sz := 1) rfl (by kernel_rfl) opn_posts (fun _ => rfl) OpensF.nil)) (fun p => (⟨⟨⟨p.1.1, p.1.2.1, p.1.2.2.1⟩, p.2.1.1⟩, p.1.2.2.2.1, p.2.1.2.1⟩ : SubR)) (fun _ => rfl) (fun _ => by kernel_rfl)
theorem opn_ans : Opens Tryz.prog 39 eA := by
  refine Opens.struct Tryz.underlying39 (OpensF.cons rfl (by kernel_rfl) (Opens.int Tryz.underlying37) (fun _ => rfl) (OpensF.cons rfl (by kernel_rfl) (Opens.int Tryz.underlying3) (fun _ => rfl) (OpensF.cons rfl (by kernel_rfl) (Opens.str Tryz.underlying9) (fun _ => rfl) OpensF.nil))) (fun p => (⟨p.1, p.2.1, p.2.2.1⟩ : Ans)) (fun _ => rfl) (fun _ => by kernel_rfl)
theorem opn_told : Opens Tryz.prog 90 eT := by
  refine Opens.struct Tryz.underlying90 (OpensF.cons rfl (by kernel_rfl) (Opens.int Tryz.underlying3) (fun _ => rfl) (OpensF.cons (sz := 3) rfl (by kernel_rfl) opn_ans (fun _ => rfl) OpensF.nil)) (fun p => (⟨p.1, p.2.1⟩ : Told)) (fun _ => rfl) (fun _ => by kernel_rfl)
abbrev SubT := { l : List Told // l.length ≤ maxLen ∧ ∀ a ∈ l, (eT a).length = 4 }
theorem opn_tolds : Opens Tryz.prog 58 (fun l : SubT => [.ro 4 (eTs l.1)]) := Opens.slice Tryz.underlying58 (by kernel_rfl) (by omega) opn_told
theorem opn_win : Opens Tryz.prog 60 (fun p : Int × SubT => [iv p.1, .ro 4 (eTs p.2.1)]) := by
  refine Opens.struct Tryz.underlying60 (OpensF.cons rfl (by kernel_rfl) (Opens.int Tryz.underlying3) (fun _ => rfl) (OpensF.cons (sz := 1) rfl (by kernel_rfl) opn_tolds (fun _ => rfl) OpensF.nil)) (fun p => (p.1, p.2.1)) (fun _ => rfl) (fun _ => by kernel_rfl)
abbrev SubV := { p : Pers // p.w.l.length ≤ maxLen }
theorem opn_pers : Opens Tryz.prog 62 (fun p : SubV => eV p.1) := by
  refine Opens.struct Tryz.underlying62 (OpensF.cons rfl (by kernel_rfl) (Opens.int Tryz.underlying3) (fun _ => rfl) (OpensF.cons (sz := 2) rfl (by kernel_rfl) opn_win (fun _ => rfl) OpensF.nil)) (fun p => (⟨⟨p.1, p.2.1.1, p.2.1.2.1⟩, p.2.1.2.2.1⟩ : SubV)) (fun _ => rfl) (fun _ => by kernel_rfl)
theorem opn_rooms : Opens Tryz.prog 24 (fun l : { l : List SubR // l.length ≤ maxLen ∧ ∀ a ∈ l, (eR a.1).length = 4 } => [.ro 4 (l.1.map fun r => eR r.1)]) := Opens.slice Tryz.underlying24 (by kernel_rfl) (by omega) opn_room
theorem opn_perss : Opens Tryz.prog 25 (fun l : { l : List SubV // l.length ≤ maxLen ∧ ∀ a ∈ l, (eV a.1).length = 3 } => [.ro 3 (l.1.map fun r => eV r.1)]) := Opens.slice Tryz.underlying25 (by kernel_rfl) (by omega) opn_pers
theorem opn_sta : Opens Tryz.prog 27 (fun s : { s : Sta // Big s } => eS s.1) := by
  refine Opens.struct Tryz.underlying27 (OpensF.cons (sz := 1) rfl (by kernel_rfl) opn_rooms (fun _ => rfl) (OpensF.cons (sz := 1) rfl (by kernel_rfl) opn_perss (fun _ => rfl) OpensF.nil)) (fun p => (⟨⟨p.1.1.map Subtype.val, p.2.1.1.map Subtype.val⟩, ?_⟩ : { s : Sta // Big s })) (fun p => ?_) (fun _ => by kernel_rfl)
  · refine ⟨by simpa using lenI p.1.2.1, by simpa using lenI p.2.1.2.1, fun r hr => ?_, fun r hr => ?_⟩
    · obtain ⟨x, _, rfl⟩ := List.mem_map.1 hr; exact ⟨lenI x.2.1, lenI x.2.2⟩
    · obtain ⟨x, _, rfl⟩ := List.mem_map.1 hr; exact lenI x.2
  · simp [eS, eRs, eVs, List.map_map, Function.comp_def]
def a3r0 : AC := .reg [oI 2 (.mov (.c (.lit (.bool false))))] [0]
def a3r1 : AC := .reg [oI 10 (.callv (.c (.fn 10 [])) []), oI 3 (.mov (.s 10))] [0, 3]
def a3r2 : AC := .reg [oI 11 (.mov (.s 3)), oI 12 (.not (.s 11)), oI 13 (.mov (.s 12)), oG 14 13 false (.mov (.s 0)), oG 15 13 false (.len (.s 14)), oG 16 13 false (.iop .gtr (.s 15) (.c (.lit (.int .i64 80)))), oI 17 (.pick (.s 13) (.c (.lit (.bool true))) (.s 16))] [0, 3, 17]
def a3r3 : AC := .reg [oI 18 (.mov (.s 3)), oI 2 (.mov (.s 18))] [2]
def a3r4 : AC := .reg [oI 20 (.build [(.nils 4), (.nils 3)] []), oI 21 (.mov (.s 0)), oI 22 (.callv (.c (.fn 11 [])) [(.s 20), (.s 21)]), oI 19 (.mov (.s 22)), oI 23 (.extract 0 (.s 19)), oI 24 (.extract 1 (.s 19)), oI 4 (.alloc 3004 27 [(.nils 4), (.nils 3)]), oN (.store 2 (.s 4) (.s 23)), oI 5 (.mov (.s 24))] [0, 4, 5]
def a3r5 : AC := .reg [oI 26 (.build [(.nils 4), (.nils 3)] []), oI 27 (.mov (.s 0)), oI 28 (.callv (.c (.fn 12 [])) [(.s 26), (.s 27)]), oI 25 (.mov (.s 28)), oI 29 (.extract 0 (.s 25)), oI 30 (.extract 1 (.s 25)), oI 6 (.alloc 3006 27 [(.nils 4), (.nils 3)]), oN (.store 2 (.s 6) (.s 29)), oI 7 (.mov (.s 30))] [4, 5, 6, 7]
def a3r6 : AC := .reg [oI 31 (.load 2 true (.s 4)), oI 32 (.load 2 true (.s 6)), oI 33 (.callv (.c (.fn 13 [])) [(.s 31), (.s 32)]), oI 8 (.mov (.s 33))] [4, 5, 7, 8]
def a3r7 : AC := .reg [oI 34 (.mov (.s 5)), oI 35 (.mov (.s 7)), oI 36 (.callv (.c (.fn 14 [])) [(.s 34), (.s 35)]), oI 9 (.mov (.s 36))] [4, 8, 9]
def a3r8 : AC := .reg [oI 37 (.mov (.s 8)), oI 38 (.mov (.s 37)), oG 39 38 true (.mov (.s 9)), oI 40 (.pick (.s 38) (.s 39) (.c (.lit (.bool false)))), oI 41 (.mov (.s 40)), oG 42 41 true (.load 2 true (.s 4)), oG 43 41 true (.callv (.c (.fn 15 [])) [(.s 42)]), oI 44 (.pick (.s 41) (.s 43) (.c (.lit (.bool false)))), oI 2 (.mov (.s 44))] [2]
def a3 : AC := .seq a3r0 (.seq a3r1 (.seq (.seq a3r2 (.cond (.s 17) (.seq a3r3 (.ret)) (.skip))) (.seq a3r4 (.seq a3r5 (.seq a3r6 (.seq a3r7 (.seq a3r8 (.ret))))))))
def a3R : List RD := [.tmp 2]
def a4r0 : AC := .reg [oI 3 (.box 4003 27 2 (.s 0)), oI 4 (.box 4004 36 6 (.s 1)), oI 5 (.box 4005 27 2 (.s 2)), oI 6 (.mov (.c (.lit (.bool false))))] [3, 4, 5]
def a4r1 : AC := .reg [oI 15 (.callv (.c (.fn 10 [])) []), oI 7 (.mov (.s 15))] [3, 4, 5, 7]
def a4r2 : AC := .reg [oI 16 (.load 2 true (.s 3)), oI 17 (.callv (.c (.fn 16 [])) [(.s 16)]), oI 8 (.mov (.s 17))] [3, 4, 5, 7, 8]
def a4r3 : AC := .reg [oI 18 (.load 2 true (.s 5)), oI 19 (.callv (.c (.fn 16 [])) [(.s 18)]), oI 9 (.mov (.s 19))] [3, 4, 5, 7, 8, 9]
def a4r4 : AC := .reg [oI 20 (.mov (.s 7)), oI 21 (.not (.s 20)), oI 22 (.mov (.s 21)), oG 23 22 false (.mov (.s 8)), oG 24 22 false (.not (.s 23)), oI 25 (.pick (.s 22) (.c (.lit (.bool true))) (.s 24)), oI 26 (.mov (.s 25)), oG 27 26 false (.mov (.s 9)), oG 28 26 false (.not (.s 27)), oI 29 (.pick (.s 26) (.c (.lit (.bool true))) (.s 28)), oI 30 (.mov (.s 29)), oG 31 30 false (.faddr 5 (.s 4)), oG 32 30 false (.load 1 false (.s 31)), oG 33 30 false (.slen (.s 32)), oG 34 30 false (.iop .gtr (.s 33) (.c (.lit (.int .i64 500)))), oI 35 (.pick (.s 30) (.c (.lit (.bool true))) (.s 34))] [3, 4, 5, 7, 35]
def a4r5 : AC := .reg [oI 36 (.mov (.s 7)), oI 6 (.mov (.s 36))] [6]
def a4r6 : AC := .reg [oI 38 (.load 2 true (.s 3)), oI 39 (.load 6 true (.s 4)), oI 40 (.callv (.c (.fn 17 [])) [(.s 38), (.s 39)]), oI 37 (.mov (.s 40)), oI 41 (.extract 0 (.s 37)), oI 42 (.extract 1 (.s 37)), oI 10 (.alloc 4010 27 [(.nils 4), (.nils 3)]), oI 11 (.alloc 4011 39 [(.lit (.int .i64 0)), (.lit (.int .i64 0)), (.lit (.string ⟨#[]⟩))]), oN (.store 2 (.s 10) (.s 41)), oN (.store 3 (.s 11) (.s 42))] [3, 4, 5, 10, 11]
def a4r7 : AC := .reg [oI 44 (.load 2 true (.s 3)), oI 45 (.load 6 true (.s 4)), oI 46 (.callv (.c (.fn 18 [])) [(.s 44), (.s 45)]), oI 43 (.mov (.s 46)), oI 47 (.extract 0 (.s 43)), oI 48 (.extract 1 (.s 43)), oI 12 (.alloc 4012 27 [(.nils 4), (.nils 3)]), oI 13 (.alloc 4013 39 [(.lit (.int .i64 0)), (.lit (.int .i64 0)), (.lit (.string ⟨#[]⟩))]), oN (.store 2 (.s 12) (.s 47)), oN (.store 3 (.s 13) (.s 48))] [3, 5, 10, 11, 12, 13]
def a4r8 : AC := .reg [oI 49 (.load 2 true (.s 10)), oI 50 (.load 2 true (.s 12)), oI 51 (.callv (.c (.fn 13 [])) [(.s 49), (.s 50)]), oI 14 (.mov (.s 51))] [3, 5, 11, 13, 14]
def a4r9 : AC := .draw [7] (.take 0 (oI 52 (.mov (.s 14))) <| .take 1 (oI 53 (.mov (.s 52))) <| .take 2 (oG 54 53 true (.load 3 true (.s 11))) <| .take 3 (oG 55 53 true (.load 3 true (.s 13))) <| .take 4 (oG 56 53 true (.seql false [1, 1, 2] (.s 54) (.s 55))) <| .take 5 (oI 57 (.pick (.s 53) (.s 56) (.c (.lit (.bool false))))) <| .take 6 (oI 58 (.mov (.s 57))) <| .take 7 (oG 59 58 true (.load 2 true (.s 3))) <| .take 9 (oG 61 58 true (.load 2 true (.s 3))) <| .alt 8 (oG 60 58 true (.callv (.c (.fn 15 [])) [(.s 59)])) ( .alt 10 (oG 62 58 true (.callv (.c (.fn 19 [])) [(.s 61)])) ( .take 11 (oG 63 58 true (.beq false (.s 60) (.s 62))) <| .take 12 (oI 64 (.pick (.s 58) (.s 63) (.c (.lit (.bool false))))) <| .take 13 (oI 65 (.mov (.s 64))) <| .take 14 (oG 66 65 true (.load 2 true (.s 3))) <| .take 15 (oG 67 65 true (.load 2 true (.s 5))) <| .take 17 (oG 69 65 true (.load 2 true (.s 3))) <| .take 18 (oG 70 65 true (.load 2 true (.s 5))) <| .alt 16 (oG 68 65 true (.callv (.c (.fn 20 [])) [(.s 66), (.s 67)])) ( .alt 19 (oG 71 65 true (.callv (.c (.fn 13 [])) [(.s 69), (.s 70)])) ( .take 20 (oG 72 65 true (.beq false (.s 68) (.s 71))) <| .take 21 (oI 73 (.pick (.s 65) (.s 72) (.c (.lit (.bool false))))) <| .take 22 (oI 6 (.mov (.s 73))) <| .done) .done) .done) .done) .done) [6]
def a4 : AC := .seq a4r0 (.seq a4r1 (.seq a4r2 (.seq a4r3 (.seq (.seq a4r4 (.cond (.s 35) (.seq a4r5 (.ret)) (.skip))) (.seq a4r6 (.seq a4r7 (.seq a4r8 (.seq a4r9 (.ret)))))))))
def a4R : List RD := [.tmp 6]
def a5r0 : AC := .reg [oI 3 (.box 5003 27 2 (.s 0)), oI 4 (.box 5004 36 6 (.s 1)), oI 6 (.mov (.c (.lit (.bool false))))] [2, 3, 4]
def a5r1 : AC := .reg [oI 15 (.callv (.c (.fn 10 [])) []), oI 7 (.mov (.s 15))] [2, 3, 4, 7]
def a5r2 : AC := .reg [oI 16 (.load 2 true (.s 3)), oI 17 (.callv (.c (.fn 16 [])) [(.s 16)]), oI 8 (.mov (.s 17))] [2, 3, 4, 7, 8]
def a5r3 : AC := .reg [oI 18 (.mov (.s 7)), oI 19 (.not (.s 18)), oI 20 (.mov (.s 19)), oG 21 20 false (.mov (.s 8)), oG 22 20 false (.not (.s 21)), oI 23 (.pick (.s 20) (.c (.lit (.bool true))) (.s 22)), oI 24 (.mov (.s 23)), oG 25 24 false (.faddr 5 (.s 4)), oG 26 24 false (.load 1 false (.s 25)), oG 27 24 false (.slen (.s 26)), oG 28 24 false (.iop .gtr (.s 27) (.c (.lit (.int .i64 500)))), oI 29 (.pick (.s 24) (.c (.lit (.bool true))) (.s 28)), oI 30 (.mov (.s 29)), oG 31 30 false (.mov (.s 2)), oG 32 30 false (.iop .lss (.s 31) (.c (.lit (.int .i64 0)))), oI 33 (.pick (.s 30) (.c (.lit (.bool true))) (.s 32)), oI 34 (.mov (.s 33)), oG 35 34 false (.mov (.s 2)), oG 36 34 false (.iop .gtr (.s 35) (.c (.lit (.int .i64 10)))), oI 37 (.pick (.s 34) (.c (.lit (.bool true))) (.s 36)), oI 38 (.mov (.s 37)), oG 39 38 false (.load 2 true (.s 3)), oG 40 38 false (.callv (.c (.fn 15 [])) [(.s 39)]), oG 41 38 false (.not (.s 40)), oI 42 (.pick (.s 38) (.c (.lit (.bool true))) (.s 41)), oI 43 (.mov (.s 42)), oG 44 43 false (.faddr 2 (.s 4)), oG 45 43 false (.load 1 false (.s 44)), oG 46 43 false (.iop .eql (.s 45) (.c (.lit (.int .i64 0)))), oI 47 (.pick (.s 43) (.c (.lit (.bool true))) (.s 46))] [2, 3, 4, 7, 47]
def a5r4 : AC := .reg [oI 48 (.mov (.s 7)), oI 6 (.mov (.s 48))] [6]
def a5r5 : AC := .reg [oI 50 (.load 2 true (.s 3)), oI 51 (.load 6 true (.s 4)), oI 52 (.callv (.c (.fn 17 [])) [(.s 50), (.s 51)]), oI 49 (.mov (.s 52)), oI 53 (.extract 0 (.s 49)), oI 54 (.extract 1 (.s 49)), oI 9 (.alloc 5009 27 [(.nils 4), (.nils 3)]), oI 10 (.alloc 5010 39 [(.lit (.int .i64 0)), (.lit (.int .i64 0)), (.lit (.string ⟨#[]⟩))]), oN (.store 2 (.s 9) (.s 53)), oN (.store 3 (.s 10) (.s 54))] [2, 4, 9, 10]
def a5r6 : AC := .reg [oI 11 (.mov (.c (.lit (.int .i64 0))))] [2, 4, 9, 10, 11]
def a5r7 : AC := .reg [oI 55 (.mov (.s 11)), oI 56 (.mov (.s 2)), oI 57 (.iop .lss (.s 55) (.s 56))] [2, 4, 9, 10, 11, 57]
def a5r9 : AC := .reg [oI 61 (.load 2 true (.s 9)), oI 62 (.load 6 true (.s 4)), oI 63 (.callv (.c (.fn 17 [])) [(.s 61), (.s 62)]), oI 60 (.mov (.s 63)), oI 64 (.extract 0 (.s 60)), oI 65 (.extract 1 (.s 60)), oI 12 (.alloc 5012 27 [(.nils 4), (.nils 3)]), oI 13 (.alloc 5013 39 [(.lit (.int .i64 0)), (.lit (.int .i64 0)), (.lit (.string ⟨#[]⟩))]), oN (.store 2 (.s 12) (.s 64)), oN (.store 3 (.s 13) (.s 65))] [2, 4, 9, 10, 11, 12, 13]
def a5r10 : AC := .reg [oI 66 (.load 2 true (.s 9)), oI 67 (.load 2 true (.s 12)), oI 68 (.callv (.c (.fn 20 [])) [(.s 66), (.s 67)]), oI 14 (.mov (.s 68))] [2, 4, 9, 10, 11, 13, 14]
def a5r11 : AC := .reg [oI 69 (.mov (.s 14)), oI 70 (.not (.s 69)), oI 71 (.mov (.s 70)), oG 72 71 false (.load 3 true (.s 13)), oG 73 71 false (.load 3 true (.s 10)), oG 74 71 false (.seql true [1, 1, 2] (.s 72) (.s 73)), oG 75 71 false (.mov (.s 74)), oG 76 75 true (.faddr 0 (.s 13)), oG 77 75 true (.load 1 false (.s 76)), oG 78 75 true (.iop .neq (.s 77) (.c (.lit (.int .i64 9)))), oG 79 71 false (.pick (.s 75) (.s 78) (.c (.lit (.bool false)))), oI 80 (.pick (.s 71) (.c (.lit (.bool true))) (.s 79))] [2, 4, 9, 10, 11, 80]
def a5r12 : AC := .reg [oI 6 (.mov (.c (.lit (.bool false))))] [6]
def a5r8 : AC := .reg [oI 58 (.mov (.s 11)), oI 59 (.iop .add (.s 58) (.c (.lit (.int .i64 1)))), oI 11 (.mov (.s 59))] [2, 4, 9, 10, 11]
def a5L7 : AC := .seq (.seq a5r7 (.cond (.s 57) (.skip) (.exit 0))) (.seq (.block 1 (.seq a5r9 (.seq a5r10 (.seq a5r11 (.cond (.s 80) (.seq a5r12 (.ret)) (.skip)))))) a5r8)
def a5r13 : AC := .reg [oI 81 (.load 2 true (.s 9)), oI 82 (.callv (.c (.fn 15 [])) [(.s 81)]), oI 6 (.mov (.s 82))] [6]
def a5 : AC := .seq a5r0 (.seq a5r1 (.seq a5r2 (.seq (.seq a5r3 (.cond (.s 47) (.seq a5r4 (.ret)) (.skip))) (.seq a5r5 (.seq (.seq a5r6 (.block 0 (.loop a5L7))) (.seq a5r13 (.ret)))))))
def a5R : List RD := [.tmp 6]
def a6r0 : AC := .reg [oI 3 (.box 6003 27 2 (.s 0)), oI 6 (.mov (.c (.lit (.bool false))))] [1, 2, 3]
def a6r1 : AC := .reg [oI 18 (.callv (.c (.fn 10 [])) []), oI 7 (.mov (.s 18))] [1, 2, 3, 7]
def a6r2 : AC := .reg [oI 19 (.load 2 true (.s 3)), oI 20 (.callv (.c (.fn 16 [])) [(.s 19)]), oI 8 (.mov (.s 20))] [1, 2, 3, 7, 8]
def a6r3 : AC := .reg [oI 21 (.mov (.s 7)), oI 22 (.not (.s 21)), oI 23 (.mov (.s 22)), oG 24 23 false (.mov (.s 8)), oG 25 23 false (.not (.s 24)), oI 26 (.pick (.s 23) (.c (.lit (.bool true))) (.s 25)), oI 27 (.mov (.s 26)), oG 28 27 false (.mov (.s 1)), oG 29 27 false (.len (.s 28)), oG 30 27 false (.iop .gtr (.s 29) (.c (.lit (.int .i64 80)))), oI 31 (.pick (.s 27) (.c (.lit (.bool true))) (.s 30)), oI 32 (.mov (.s 31)), oG 33 32 false (.mov (.s 2)), oG 34 32 false (.iop .lss (.s 33) (.c (.lit (.int .i64 0)))), oI 35 (.pick (.s 32) (.c (.lit (.bool true))) (.s 34)), oI 36 (.mov (.s 35)), oG 37 36 false (.mov (.s 2)), oG 38 36 false (.mov (.s 1)), oG 39 36 false (.len (.s 38)), oG 40 36 false (.iop .gtr (.s 37) (.s 39)), oI 41 (.pick (.s 36) (.c (.lit (.bool true))) (.s 40))] [1, 2, 3, 7, 41]
def a6r4 : AC := .reg [oI 42 (.mov (.s 7)), oI 6 (.mov (.s 42))] [6]
def a6r5 : AC := .reg [oI 44 (.load 2 true (.s 3)), oI 45 (.mov (.s 1)), oI 46 (.callv (.c (.fn 11 [])) [(.s 44), (.s 45)]), oI 43 (.mov (.s 46)), oI 47 (.extract 0 (.s 43)), oI 48 (.extract 1 (.s 43)), oI 9 (.alloc 6009 27 [(.nils 4), (.nils 3)]), oN (.store 2 (.s 9) (.s 47)), oI 10 (.mov (.s 48))] [1, 2, 3, 9, 10]
def a6r6 : AC := .draw [7, 6011, 11025] (.take 0 (oI 50 (.load 2 true (.s 3))) <| .take 1 (oI 51 (.mov (.s 1))) <| .take 2 (oI 52 (.mov (.s 2))) <| .take 3 (oI 53 (.slice 6 (.s 51) none (some (.s 52)))) <| .alt 4 (oI 54 (.callv (.c (.fn 11 [])) [(.s 50), (.s 53)])) (.take 5 (oI 49 (.mov (.s 54))) <| .take 6 (oI 55 (.extract 0 (.s 49))) <| .take 7 (oI 56 (.extract 1 (.s 49))) <| .alt 8 (oI 11 (.alloc 6011 27 [(.nils 4), (.nils 3)])) ( .alt 9 (oN (.store 2 (.s 11) (.s 55))) ( .take 10 (oI 12 (.mov (.s 56))) <| .done) .done) .done) (.alt 8 (oI 11 (.alloc 6011 27 [(.nils 4), (.nils 3)])) (.alt 4 (oI 54 (.callv (.c (.fn 11 [])) [(.s 50), (.s 53)])) ( .take 5 (oI 49 (.mov (.s 54))) <| .take 6 (oI 55 (.extract 0 (.s 49))) <| .take 7 (oI 56 (.extract 1 (.s 49))) <| .alt 9 (oN (.store 2 (.s 11) (.s 55))) ( .take 10 (oI 12 (.mov (.s 56))) <| .done) .done) .done) (.done))) [1, 2, 9, 10, 11, 12]
def a6r7 : AC := .draw [7, 6013] (.take 0 (oI 58 (.load 2 true (.s 11))) <| .take 1 (oI 59 (.mov (.s 1))) <| .take 2 (oI 60 (.mov (.s 2))) <| .take 3 (oI 61 (.slice 6 (.s 59) (some (.s 60)) none)) <| .alt 4 (oI 62 (.callv (.c (.fn 11 [])) [(.s 58), (.s 61)])) (.take 5 (oI 57 (.mov (.s 62))) <| .take 6 (oI 63 (.extract 0 (.s 57))) <| .take 7 (oI 64 (.extract 1 (.s 57))) <| .alt 8 (oI 13 (.alloc 6013 27 [(.nils 4), (.nils 3)])) ( .alt 9 (oN (.store 2 (.s 13) (.s 63))) ( .take 10 (oI 14 (.mov (.s 64))) <| .done) .done) .done) (.alt 8 (oI 13 (.alloc 6013 27 [(.nils 4), (.nils 3)])) (.alt 4 (oI 62 (.callv (.c (.fn 11 [])) [(.s 58), (.s 61)])) ( .take 5 (oI 57 (.mov (.s 62))) <| .take 6 (oI 63 (.extract 0 (.s 57))) <| .take 7 (oI 64 (.extract 1 (.s 57))) <| .alt 9 (oN (.store 2 (.s 13) (.s 63))) ( .take 10 (oI 14 (.mov (.s 64))) <| .done) .done) .done) (.done))) [1, 2, 9, 10, 11, 12, 13, 14]
def a6r8 : AC := .reg [oI 65 (.mov (.s 12)), oI 66 (.mov (.s 14)), oI 67 (.append 6067 39 3 32 (.s 65) (.s 66)), oI 12 (.mov (.s 67))] [1, 2, 9, 10, 11, 12, 13]
def a6r9 : AC := .reg [oI 68 (.mov (.s 10)), oI 69 (.mov (.s 12)), oI 70 (.callv (.c (.fn 14 [])) [(.s 68), (.s 69)]), oI 15 (.mov (.s 70))] [1, 2, 9, 11, 13, 15]
def a6r10 : AC := .reg [oI 71 (.mov (.s 2)), oI 72 (.mov (.s 1)), oI 73 (.len (.s 72)), oI 74 (.iop .lss (.s 71) (.s 73))] [1, 2, 9, 11, 13, 15, 74]
def a6r11 : AC := .draw [7, 6016, 6017] (.take 0 (oI 76 (.load 2 true (.s 11))) <| .take 1 (oI 77 (.mov (.s 1))) <| .take 2 (oI 78 (.mov (.s 2))) <| .take 3 (oI 79 (.iaddr 6 (.s 77) (.s 78))) <| .alt 4 (oI 80 (.load 6 true (.s 79))) (.alt 5 (oI 81 (.callv (.c (.fn 17 [])) [(.s 76), (.s 80)])) (.take 6 (oI 75 (.mov (.s 81))) <| .take 7 (oI 82 (.extract 0 (.s 75))) <| .take 8 (oI 83 (.extract 1 (.s 75))) <| .alt 9 (oI 16 (.alloc 6016 27 [(.nils 4), (.nils 3)])) (.alt 10 (oI 17 (.alloc 6017 39 [(.lit (.int .i64 0)), (.lit (.int .i64 0)), (.lit (.string ⟨#[]⟩))])) ( .alt 11 (oN (.store 2 (.s 16) (.s 82))) ( .alt 12 (oN (.store 3 (.s 17) (.s 83))) ( .done) .done) .done) .done) (.alt 10 (oI 17 (.alloc 6017 39 [(.lit (.int .i64 0)), (.lit (.int .i64 0)), (.lit (.string ⟨#[]⟩))])) (.alt 9 (oI 16 (.alloc 6016 27 [(.nils 4), (.nils 3)])) ( .alt 11 (oN (.store 2 (.s 16) (.s 82))) ( .alt 12 (oN (.store 3 (.s 17) (.s 83))) ( .done) .done) .done) .done) (.done))) (.alt 9 (oI 16 (.alloc 6016 27 [(.nils 4), (.nils 3)])) (.alt 5 (oI 81 (.callv (.c (.fn 17 [])) [(.s 76), (.s 80)])) (.take 6 (oI 75 (.mov (.s 81))) <| .take 7 (oI 82 (.extract 0 (.s 75))) <| .take 8 (oI 83 (.extract 1 (.s 75))) <| .alt 10 (oI 17 (.alloc 6017 39 [(.lit (.int .i64 0)), (.lit (.int .i64 0)), (.lit (.string ⟨#[]⟩))])) ( .alt 11 (oN (.store 2 (.s 16) (.s 82))) ( .alt 12 (oN (.store 3 (.s 17) (.s 83))) ( .done) .done) .done) .done) (.alt 10 (oI 17 (.alloc 6017 39 [(.lit (.int .i64 0)), (.lit (.int .i64 0)), (.lit (.string ⟨#[]⟩))])) (.alt 5 (oI 81 (.callv (.c (.fn 17 [])) [(.s 76), (.s 80)])) ( .take 6 (oI 75 (.mov (.s 81))) <| .take 7 (oI 82 (.extract 0 (.s 75))) <| .take 8 (oI 83 (.extract 1 (.s 75))) <| .alt 11 (oN (.store 2 (.s 16) (.s 82))) ( .alt 12 (oN (.store 3 (.s 17) (.s 83))) ( .done) .done) .done) .done) (.done))) (.alt 10 (oI 17 (.alloc 6017 39 [(.lit (.int .i64 0)), (.lit (.int .i64 0)), (.lit (.string ⟨#[]⟩))])) (.alt 5 (oI 81 (.callv (.c (.fn 17 [])) [(.s 76), (.s 80)])) (.take 6 (oI 75 (.mov (.s 81))) <| .take 7 (oI 82 (.extract 0 (.s 75))) <| .take 8 (oI 83 (.extract 1 (.s 75))) <| .alt 9 (oI 16 (.alloc 6016 27 [(.nils 4), (.nils 3)])) ( .alt 11 (oN (.store 2 (.s 16) (.s 82))) ( .alt 12 (oN (.store 3 (.s 17) (.s 83))) ( .done) .done) .done) .done) (.alt 9 (oI 16 (.alloc 6016 27 [(.nils 4), (.nils 3)])) (.alt 5 (oI 81 (.callv (.c (.fn 17 [])) [(.s 76), (.s 80)])) ( .take 6 (oI 75 (.mov (.s 81))) <| .take 7 (oI 82 (.extract 0 (.s 75))) <| .take 8 (oI 83 (.extract 1 (.s 75))) <| .alt 11 (oN (.store 2 (.s 16) (.s 82))) ( .alt 12 (oN (.store 3 (.s 17) (.s 83))) ( .done) .done) .done) .done) (.done))) (.done)))) (.alt 9 (oI 16 (.alloc 6016 27 [(.nils 4), (.nils 3)])) (.alt 4 (oI 80 (.load 6 true (.s 79))) (.alt 5 (oI 81 (.callv (.c (.fn 17 [])) [(.s 76), (.s 80)])) (.take 6 (oI 75 (.mov (.s 81))) <| .take 7 (oI 82 (.extract 0 (.s 75))) <| .take 8 (oI 83 (.extract 1 (.s 75))) <| .alt 10 (oI 17 (.alloc 6017 39 [(.lit (.int .i64 0)), (.lit (.int .i64 0)), (.lit (.string ⟨#[]⟩))])) ( .alt 11 (oN (.store 2 (.s 16) (.s 82))) ( .alt 12 (oN (.store 3 (.s 17) (.s 83))) ( .done) .done) .done) .done) (.alt 10 (oI 17 (.alloc 6017 39 [(.lit (.int .i64 0)), (.lit (.int .i64 0)), (.lit (.string ⟨#[]⟩))])) (.alt 5 (oI 81 (.callv (.c (.fn 17 [])) [(.s 76), (.s 80)])) ( .take 6 (oI 75 (.mov (.s 81))) <| .take 7 (oI 82 (.extract 0 (.s 75))) <| .take 8 (oI 83 (.extract 1 (.s 75))) <| .alt 11 (oN (.store 2 (.s 16) (.s 82))) ( .alt 12 (oN (.store 3 (.s 17) (.s 83))) ( .done) .done) .done) .done) (.done))) (.alt 10 (oI 17 (.alloc 6017 39 [(.lit (.int .i64 0)), (.lit (.int .i64 0)), (.lit (.string ⟨#[]⟩))])) (.alt 4 (oI 80 (.load 6 true (.s 79))) ( .alt 5 (oI 81 (.callv (.c (.fn 17 [])) [(.s 76), (.s 80)])) ( .take 6 (oI 75 (.mov (.s 81))) <| .take 7 (oI 82 (.extract 0 (.s 75))) <| .take 8 (oI 83 (.extract 1 (.s 75))) <| .alt 11 (oN (.store 2 (.s 16) (.s 82))) ( .alt 12 (oN (.store 3 (.s 17) (.s 83))) ( .done) .done) .done) .done) .done) (.done))) (.alt 10 (oI 17 (.alloc 6017 39 [(.lit (.int .i64 0)), (.lit (.int .i64 0)), (.lit (.string ⟨#[]⟩))])) (.alt 4 (oI 80 (.load 6 true (.s 79))) (.alt 5 (oI 81 (.callv (.c (.fn 17 [])) [(.s 76), (.s 80)])) (.take 6 (oI 75 (.mov (.s 81))) <| .take 7 (oI 82 (.extract 0 (.s 75))) <| .take 8 (oI 83 (.extract 1 (.s 75))) <| .alt 9 (oI 16 (.alloc 6016 27 [(.nils 4), (.nils 3)])) ( .alt 11 (oN (.store 2 (.s 16) (.s 82))) ( .alt 12 (oN (.store 3 (.s 17) (.s 83))) ( .done) .done) .done) .done) (.alt 9 (oI 16 (.alloc 6016 27 [(.nils 4), (.nils 3)])) (.alt 5 (oI 81 (.callv (.c (.fn 17 [])) [(.s 76), (.s 80)])) ( .take 6 (oI 75 (.mov (.s 81))) <| .take 7 (oI 82 (.extract 0 (.s 75))) <| .take 8 (oI 83 (.extract 1 (.s 75))) <| .alt 11 (oN (.store 2 (.s 16) (.s 82))) ( .alt 12 (oN (.store 3 (.s 17) (.s 83))) ( .done) .done) .done) .done) (.done))) (.alt 9 (oI 16 (.alloc 6016 27 [(.nils 4), (.nils 3)])) (.alt 4 (oI 80 (.load 6 true (.s 79))) ( .alt 5 (oI 81 (.callv (.c (.fn 17 [])) [(.s 76), (.s 80)])) ( .take 6 (oI 75 (.mov (.s 81))) <| .take 7 (oI 82 (.extract 0 (.s 75))) <| .take 8 (oI 83 (.extract 1 (.s 75))) <| .alt 11 (oN (.store 2 (.s 16) (.s 82))) ( .alt 12 (oN (.store 3 (.s 17) (.s 83))) ( .done) .done) .done) .done) .done) (.done))) (.done)))) [9, 11, 13, 15, 16, 17]
def a6r12 : AC := .reg [oI 84 (.faddr 1 (.s 11)), oI 85 (.load 1 false (.s 84)), oI 86 (.faddr 1 (.s 16)), oN (.store 1 (.s 86) (.s 85))] [9, 11, 13, 15, 16, 17]
def a6r13 : AC := .reg [oI 87 (.faddr 0 (.s 17)), oI 88 (.load 1 false (.s 87)), oI 89 (.iop .neq (.s 88) (.c (.lit (.int .i64 0)))), oI 90 (.mov (.s 89)), oG 91 90 true (.load 2 true (.s 16)), oG 92 90 true (.load 2 true (.s 11)), oG 93 90 true (.callv (.c (.fn 20 [])) [(.s 91), (.s 92)]), oG 94 90 true (.not (.s 93)), oI 95 (.pick (.s 90) (.s 94) (.c (.lit (.bool false))))] [9, 13, 15, 95]
def a6r14 : AC := .reg [oI 6 (.mov (.c (.lit (.bool false))))] [6]
def a6r15 : AC := .reg [oI 96 (.mov (.s 15)), oI 97 (.mov (.s 96)), oG 98 97 true (.load 2 true (.s 9)), oG 99 97 true (.load 2 true (.s 13)), oG 100 97 true (.callv (.c (.fn 20 [])) [(.s 98), (.s 99)]), oI 101 (.pick (.s 97) (.s 100) (.c (.lit (.bool false)))), oI 6 (.mov (.s 101))] [6]
def a6 : AC := .seq a6r0 (.seq a6r1 (.seq a6r2 (.seq (.seq a6r3 (.cond (.s 41) (.seq a6r4 (.ret)) (.skip))) (.seq a6r5 (.seq a6r6 (.seq a6r7 (.seq a6r8 (.seq a6r9 (.seq (.seq a6r10 (.cond (.s 74) (.seq a6r11 (.seq a6r12 (.seq a6r13 (.cond (.s 95) (.seq a6r14 (.ret)) (.skip))))) (.skip))) (.seq a6r15 (.ret)))))))))))
def a6R : List RD := [.tmp 6]
def a7r0 : AC := .reg [oI 3 (.box 7003 27 2 (.s 0)), oI 4 (.box 7004 36 6 (.s 1)), oI 6 (.mov (.c (.lit (.bool false))))] [2, 3, 4]
def a7r1 : AC := .reg [oI 19 (.callv (.c (.fn 10 [])) []), oI 7 (.mov (.s 19))] [2, 3, 4, 7]
def a7r2 : AC := .reg [oI 20 (.load 2 true (.s 3)), oI 21 (.callv (.c (.fn 16 [])) [(.s 20)]), oI 8 (.mov (.s 21))] [2, 3, 4, 7, 8]
def a7r3 : AC := .reg [oI 22 (.mov (.s 7)), oI 23 (.not (.s 22)), oI 24 (.mov (.s 23)), oG 25 24 false (.mov (.s 8)), oG 26 24 false (.not (.s 25)), oI 27 (.pick (.s 24) (.c (.lit (.bool true))) (.s 26)), oI 28 (.mov (.s 27)), oG 29 28 false (.load 2 true (.s 3)), oG 30 28 false (.callv (.c (.fn 15 [])) [(.s 29)]), oG 31 28 false (.not (.s 30)), oI 32 (.pick (.s 28) (.c (.lit (.bool true))) (.s 31)), oI 33 (.mov (.s 32)), oG 34 33 false (.load 6 true (.s 4)), oG 35 33 false (.callv (.c (.fn 21 [])) [(.s 34)]), oG 36 33 false (.not (.s 35)), oI 37 (.pick (.s 33) (.c (.lit (.bool true))) (.s 36)), oI 38 (.mov (.s 37)), oG 39 38 false (.faddr 2 (.s 4)), oG 40 38 false (.load 1 false (.s 39)), oG 41 38 false (.iop .neq (.s 40) (.c (.lit (.int .i64 7)))), oI 42 (.pick (.s 38) (.c (.lit (.bool true))) (.s 41)), oI 43 (.mov (.s 42)), oG 44 43 false (.mov (.s 2)), oG 45 43 false (.iop .lss (.s 44) (.c (.lit (.int .i64 1)))), oI 46 (.pick (.s 43) (.c (.lit (.bool true))) (.s 45)), oI 47 (.mov (.s 46)), oG 48 47 false (.mov (.s 2)), oG 49 47 false (.iop .gtr (.s 48) (.c (.lit (.int .i64 1073741824)))), oI 50 (.pick (.s 47) (.c (.lit (.bool true))) (.s 49)), oI 51 (.mov (.s 50)), oG 52 51 false (.mov (.s 2)), oG 53 51 false (.faddr 1 (.s 4)), oG 54 51 false (.load 1 false (.s 53)), oG 55 51 false (.iop .eql (.s 52) (.s 54)), oI 56 (.pick (.s 51) (.c (.lit (.bool true))) (.s 55))] [2, 3, 4, 7, 56]
def a7r4 : AC := .reg [oI 57 (.mov (.s 7)), oI 6 (.mov (.s 57))] [6]
def a7r5 : AC := .reg [oI 59 (.load 2 true (.s 3)), oI 60 (.load 6 true (.s 4)), oI 61 (.callv (.c (.fn 17 [])) [(.s 59), (.s 60)]), oI 58 (.mov (.s 61)), oI 62 (.extract 0 (.s 58)), oI 63 (.extract 1 (.s 58)), oI 9 (.alloc 7009 27 [(.nils 4), (.nils 3)]), oI 10 (.alloc 7010 39 [(.lit (.int .i64 0)), (.lit (.int .i64 0)), (.lit (.string ⟨#[]⟩))]), oN (.store 2 (.s 9) (.s 62)), oN (.store 3 (.s 10) (.s 63))] [2, 3, 4, 9, 10]
def a7r6 : AC := .reg [oI 64 (.load 6 true (.s 4)), oI 11 (.alloc 7011 36 [(.lit (.int .i64 0)), (.lit (.int .i64 0)), (.lit (.int .i64 0)), (.lit (.int .i64 0)), (.lit (.int .i64 0)), (.lit (.string ⟨#[]⟩))]), oN (.store 6 (.s 11) (.s 64))] [2, 3, 4, 9, 10, 11]
def a7r7 : AC := .reg [oI 65 (.mov (.s 2)), oI 66 (.faddr 1 (.s 11)), oN (.store 1 (.s 66) (.s 65))] [3, 4, 9, 10, 11]
def a7r8 : AC := .reg [oI 68 (.load 2 true (.s 9)), oI 69 (.load 6 true (.s 11)), oI 70 (.callv (.c (.fn 17 [])) [(.s 68), (.s 69)]), oI 67 (.mov (.s 70)), oI 71 (.extract 0 (.s 67)), oI 72 (.extract 1 (.s 67)), oI 12 (.alloc 7012 27 [(.nils 4), (.nils 3)]), oI 13 (.alloc 7013 39 [(.lit (.int .i64 0)), (.lit (.int .i64 0)), (.lit (.string ⟨#[]⟩))]), oN (.store 2 (.s 12) (.s 71)), oN (.store 3 (.s 13) (.s 72))] [3, 4, 9, 10, 11, 12, 13]
def a7r9 : AC := .reg [oI 73 (.faddr 1 (.s 3)), oI 74 (.load 1 false (.s 73)), oI 75 (.faddr 1 (.s 9)), oN (.store 1 (.s 75) (.s 74))] [3, 4, 9, 10, 11, 12, 13]
def a7r10 : AC := .reg [oI 76 (.faddr 1 (.s 3)), oI 77 (.load 1 false (.s 76)), oI 78 (.faddr 1 (.s 12)), oN (.store 1 (.s 78) (.s 77))] [3, 4, 9, 10, 11, 12, 13]
def a7r11 : AC := .reg [oI 80 (.load 2 true (.s 3)), oI 81 (.load 6 true (.s 11)), oI 82 (.callv (.c (.fn 17 [])) [(.s 80), (.s 81)]), oI 79 (.mov (.s 82)), oI 83 (.extract 0 (.s 79)), oI 84 (.extract 1 (.s 79)), oI 14 (.alloc 7014 27 [(.nils 4), (.nils 3)]), oI 15 (.alloc 7015 39 [(.lit (.int .i64 0)), (.lit (.int .i64 0)), (.lit (.string ⟨#[]⟩))]), oN (.store 2 (.s 14) (.s 83)), oN (.store 3 (.s 15) (.s 84))] [3, 4, 9, 10, 11, 12, 13, 14, 15]
def a7r12 : AC := .reg [oI 85 (.faddr 1 (.s 3)), oI 86 (.load 1 false (.s 85)), oI 87 (.faddr 1 (.s 14)), oN (.store 1 (.s 87) (.s 86))] [3, 4, 9, 10, 11, 12, 13, 14, 15]
def a7r13 : AC := .reg [oI 88 (.load 2 true (.s 3)), oI 89 (.load 6 true (.s 4)), oI 90 (.callv (.c (.fn 22 [])) [(.s 88), (.s 89)]), oI 16 (.mov (.s 90))] [3, 9, 10, 11, 12, 13, 14, 15, 16]
def a7r14 : AC := .reg [oI 91 (.load 2 true (.s 3)), oI 92 (.load 6 true (.s 11)), oI 93 (.callv (.c (.fn 22 [])) [(.s 91), (.s 92)]), oI 17 (.mov (.s 93))] [3, 9, 10, 12, 13, 14, 15, 16, 17]
def a7r15 : AC := .reg [oI 94 (.faddr 0 (.s 10)), oI 95 (.load 1 false (.s 94)), oI 96 (.iop .eql (.s 95) (.c (.lit (.int .i64 9)))), oI 97 (.mov (.s 96)), oG 98 97 false (.faddr 0 (.s 13)), oG 99 97 false (.load 1 false (.s 98)), oG 100 97 false (.iop .eql (.s 99) (.c (.lit (.int .i64 9)))), oI 101 (.pick (.s 97) (.c (.lit (.bool true))) (.s 100)), oI 102 (.mov (.s 101)), oG 103 102 false (.faddr 0 (.s 15)), oG 104 102 false (.load 1 false (.s 103)), oG 105 102 false (.iop .eql (.s 104) (.c (.lit (.int .i64 9)))), oI 106 (.pick (.s 102) (.c (.lit (.bool true))) (.s 105)), oI 18 (.mov (.s 106))] [3, 9, 10, 12, 13, 14, 16, 17, 18]
def a7r16 : AC := .reg [oI 107 (.load 2 true (.s 9)), oI 108 (.load 2 true (.s 3)), oI 109 (.callv (.c (.fn 20 [])) [(.s 107), (.s 108)]), oI 110 (.mov (.s 109)), oG 111 110 true (.load 2 true (.s 12)), oG 112 110 true (.load 2 true (.s 3)), oG 113 110 true (.callv (.c (.fn 20 [])) [(.s 111), (.s 112)]), oI 114 (.pick (.s 110) (.s 113) (.c (.lit (.bool false)))), oI 115 (.mov (.s 114)), oG 116 115 true (.load 2 true (.s 14)), oG 117 115 true (.load 2 true (.s 3)), oG 118 115 true (.callv (.c (.fn 20 [])) [(.s 116), (.s 117)]), oI 119 (.pick (.s 115) (.s 118) (.c (.lit (.bool false)))), oI 120 (.mov (.s 119)), oG 121 120 true (.mov (.s 18)), oG 122 120 true (.mov (.s 121)), oG 123 122 false (.mov (.s 16)), oG 124 120 true (.pick (.s 122) (.c (.lit (.bool true))) (.s 123)), oG 125 120 true (.mov (.s 124)), oG 126 125 false (.mov (.s 17)), oG 127 120 true (.pick (.s 125) (.c (.lit (.bool true))) (.s 126)), oG 128 120 true (.mov (.s 127)), oG 129 128 false (.load 3 true (.s 10)), oG 130 128 false (.load 3 true (.s 13)), oG 131 128 false (.seql false [1, 1, 2] (.s 129) (.s 130)), oG 132 120 true (.pick (.s 128) (.c (.lit (.bool true))) (.s 131)), oI 133 (.pick (.s 120) (.s 132) (.c (.lit (.bool false)))), oI 6 (.mov (.s 133))] [6]
def a7 : AC := .seq a7r0 (.seq a7r1 (.seq a7r2 (.seq (.seq a7r3 (.cond (.s 56) (.seq a7r4 (.ret)) (.skip))) (.seq a7r5 (.seq a7r6 (.seq a7r7 (.seq a7r8 (.seq a7r9 (.seq a7r10 (.seq a7r11 (.seq a7r12 (.seq a7r13 (.seq a7r14 (.seq a7r15 (.seq a7r16 (.ret))))))))))))))))
def a7R : List RD := [.tmp 6]
def a8r0 : AC := .reg [oI 2 (.box 8002 27 2 (.s 0)), oI 3 (.box 8003 36 6 (.s 1)), oI 4 (.mov (.c (.lit (.bool false))))] [2, 3]
def a8r1 : AC := .reg [oI 11 (.callv (.c (.fn 10 [])) []), oI 5 (.mov (.s 11))] [2, 3, 5]
def a8r2 : AC := .reg [oI 12 (.load 2 true (.s 2)), oI 13 (.callv (.c (.fn 16 [])) [(.s 12)]), oI 6 (.mov (.s 13))] [2, 3, 5, 6]
def a8r3 : AC := .reg [oI 14 (.mov (.s 5)), oI 15 (.not (.s 14)), oI 16 (.mov (.s 15)), oG 17 16 false (.mov (.s 6)), oG 18 16 false (.not (.s 17)), oI 19 (.pick (.s 16) (.c (.lit (.bool true))) (.s 18)), oI 20 (.mov (.s 19)), oG 21 20 false (.load 2 true (.s 2)), oG 22 20 false (.callv (.c (.fn 15 [])) [(.s 21)]), oG 23 20 false (.not (.s 22)), oI 24 (.pick (.s 20) (.c (.lit (.bool true))) (.s 23)), oI 25 (.mov (.s 24)), oG 26 25 false (.faddr 5 (.s 3)), oG 27 25 false (.load 1 false (.s 26)), oG 28 25 false (.slen (.s 27)), oG 29 25 false (.iop .gtr (.s 28) (.c (.lit (.int .i64 500)))), oI 30 (.pick (.s 25) (.c (.lit (.bool true))) (.s 29)), oI 31 (.mov (.s 30)), oG 32 31 false (.faddr 2 (.s 3)), oG 33 31 false (.load 1 false (.s 32)), oG 34 31 false (.iop .eql (.s 33) (.c (.lit (.int .i64 1)))), oI 35 (.pick (.s 31) (.c (.lit (.bool true))) (.s 34)), oI 36 (.mov (.s 35)), oG 37 36 false (.faddr 2 (.s 3)), oG 38 36 false (.load 1 false (.s 37)), oG 39 36 false (.iop .eql (.s 38) (.c (.lit (.int .i64 2)))), oI 40 (.pick (.s 36) (.c (.lit (.bool true))) (.s 39))] [2, 3, 5, 40]
def a8r4 : AC := .reg [oI 41 (.mov (.s 5)), oI 4 (.mov (.s 41))] [4]
def a8r5 : AC := .reg [oI 7 (.mov (.c (.lit (.int .i64 0))))] [2, 3, 7]
def a8r6 : AC := .reg [oI 42 (.mov (.s 7)), oI 43 (.faddr 0 (.s 2)), oI 44 (.load 1 false (.s 43)), oI 45 (.len (.s 44)), oI 46 (.iop .lss (.s 42) (.s 45))] [2, 3, 7, 46]
def a8r8 : AC := .draw [] (.take 0 (oI 49 (.faddr 0 (.s 2))) <| .take 1 (oI 50 (.load 1 false (.s 49))) <| .take 2 (oI 51 (.mov (.s 7))) <| .take 3 (oI 52 (.iaddr 4 (.s 50) (.s 51))) <| .take 4 (oI 53 (.faddr 0 (.s 52))) <| .take 5 (oI 54 (.faddr 0 (.s 53))) <| .take 6 (oI 55 (.load 1 false (.s 54))) <| .take 7 (oI 56 (.faddr 3 (.s 3))) <| .take 8 (oI 57 (.load 1 false (.s 56))) <| .take 9 (oI 58 (.iop .neq (.s 55) (.s 57))) <| .done) [2, 3, 7, 58]
def a8r9 : AC := .reg [oI 8 (.mov (.c (.lit (.int .i64 0))))] [2, 3, 7, 8]
def a8r10 : AC := .reg [oI 59 (.mov (.s 8)), oI 60 (.faddr 0 (.s 2)), oI 61 (.load 1 false (.s 60)), oI 62 (.mov (.s 7)), oI 63 (.iaddr 4 (.s 61) (.s 62)), oI 64 (.faddr 0 (.s 63)), oI 65 (.faddr 2 (.s 64)), oI 66 (.load 1 false (.s 65)), oI 67 (.len (.s 66)), oI 68 (.iop .lss (.s 59) (.s 67))] [2, 3, 7, 8, 68]
def a8r12 : AC := .draw [] (.take 0 (oI 71 (.faddr 0 (.s 2))) <| .take 1 (oI 72 (.load 1 false (.s 71))) <| .take 2 (oI 73 (.mov (.s 7))) <| .take 3 (oI 74 (.iaddr 4 (.s 72) (.s 73))) <| .take 4 (oI 75 (.faddr 0 (.s 74))) <| .take 5 (oI 76 (.faddr 2 (.s 75))) <| .take 6 (oI 77 (.load 1 false (.s 76))) <| .take 7 (oI 78 (.mov (.s 8))) <| .take 8 (oI 79 (.iaddr 1 (.s 77) (.s 78))) <| .take 9 (oI 80 (.load 1 false (.s 79))) <| .take 10 (oI 81 (.faddr 0 (.s 3))) <| .take 11 (oI 82 (.load 1 false (.s 81))) <| .take 12 (oI 83 (.iop .eql (.s 80) (.s 82))) <| .done) [2, 3, 7, 8, 83]
def a8r13 : AC := .reg [oI 4 (.mov (.c (.lit (.bool true))))] [4]
def a8r11 : AC := .reg [oI 69 (.mov (.s 8)), oI 70 (.iop .add (.s 69) (.c (.lit (.int .i64 1)))), oI 8 (.mov (.s 70))] [2, 3, 7, 8]
def a8L10 : AC := .seq (.seq a8r10 (.cond (.s 68) (.skip) (.exit 2))) (.seq (.block 3 (.seq a8r12 (.cond (.s 83) (.seq a8r13 (.ret)) (.skip)))) a8r11)
def a8r7 : AC := .reg [oI 47 (.mov (.s 7)), oI 48 (.iop .add (.s 47) (.c (.lit (.int .i64 1)))), oI 7 (.mov (.s 48))] [2, 3, 7]
def a8L6 : AC := .seq (.seq a8r6 (.cond (.s 46) (.skip) (.exit 0))) (.seq (.block 1 (.seq (.seq a8r8 (.cond (.s 58) (.exit 1) (.skip))) (.seq a8r9 (.block 2 (.loop a8L10))))) a8r7)
def a8r14 : AC := .reg [oI 85 (.load 2 true (.s 2)), oI 86 (.load 6 true (.s 3)), oI 87 (.callv (.c (.fn 17 [])) [(.s 85), (.s 86)]), oI 84 (.mov (.s 87)), oI 88 (.extract 0 (.s 84)), oI 89 (.extract 1 (.s 84)), oI 9 (.alloc 8009 27 [(.nils 4), (.nils 3)]), oI 10 (.alloc 8010 39 [(.lit (.int .i64 0)), (.lit (.int .i64 0)), (.lit (.string ⟨#[]⟩))]), oN (.store 2 (.s 9) (.s 88)), oN (.store 3 (.s 10) (.s 89))] [2, 9]
def a8r15 : AC := .reg [oI 90 (.faddr 1 (.s 2)), oI 91 (.load 1 false (.s 90)), oI 92 (.faddr 1 (.s 9)), oN (.store 1 (.s 92) (.s 91))] [2, 9]
def a8r16 : AC := .reg [oI 93 (.load 2 true (.s 9)), oI 94 (.load 2 true (.s 2)), oI 95 (.callv (.c (.fn 20 [])) [(.s 93), (.s 94)]), oI 4 (.mov (.s 95))] [4]
def a8 : AC := .seq a8r0 (.seq a8r1 (.seq a8r2 (.seq (.seq a8r3 (.cond (.s 40) (.seq a8r4 (.ret)) (.skip))) (.seq (.seq a8r5 (.block 0 (.loop a8L6))) (.seq a8r14 (.seq a8r15 (.seq a8r16 (.ret))))))))
def a8R : List RD := [.tmp 4]
def a9r0 : AC := .reg [oI 3 (.box 9003 27 2 (.s 0)), oI 4 (.box 9004 36 6 (.s 1)), oI 5 (.box 9005 36 6 (.s 2)), oI 6 (.mov (.c (.lit (.bool false))))] [3, 4, 5]
def a9r1 : AC := .reg [oI 13 (.callv (.c (.fn 10 [])) []), oI 7 (.mov (.s 13))] [3, 4, 5, 7]
def a9r2 : AC := .reg [oI 14 (.load 2 true (.s 3)), oI 15 (.callv (.c (.fn 16 [])) [(.s 14)]), oI 8 (.mov (.s 15))] [3, 4, 5, 7, 8]
def a9r3 : AC := .reg [oI 16 (.mov (.s 7)), oI 17 (.not (.s 16)), oI 18 (.mov (.s 17)), oG 19 18 false (.mov (.s 8)), oG 20 18 false (.not (.s 19)), oI 21 (.pick (.s 18) (.c (.lit (.bool true))) (.s 20)), oI 22 (.mov (.s 21)), oG 23 22 false (.faddr 5 (.s 4)), oG 24 22 false (.load 1 false (.s 23)), oG 25 22 false (.slen (.s 24)), oG 26 22 false (.iop .gtr (.s 25) (.c (.lit (.int .i64 500)))), oI 27 (.pick (.s 22) (.c (.lit (.bool true))) (.s 26)), oI 28 (.mov (.s 27)), oG 29 28 false (.faddr 5 (.s 5)), oG 30 28 false (.load 1 false (.s 29)), oG 31 28 false (.slen (.s 30)), oG 32 28 false (.iop .gtr (.s 31) (.c (.lit (.int .i64 500)))), oI 33 (.pick (.s 28) (.c (.lit (.bool true))) (.s 32)), oI 34 (.mov (.s 33)), oG 35 34 false (.load 6 true (.s 4)), oG 36 34 false (.load 6 true (.s 5)), oG 37 34 false (.callv (.c (.fn 23 [])) [(.s 35), (.s 36)]), oI 38 (.pick (.s 34) (.c (.lit (.bool true))) (.s 37))] [3, 4, 5, 7, 38]
def a9r4 : AC := .reg [oI 39 (.mov (.s 7)), oI 6 (.mov (.s 39))] [6]
def a9r5 : AC := .reg [oI 41 (.load 2 true (.s 3)), oI 42 (.load 6 true (.s 4)), oI 43 (.load 6 true (.s 5)), oI 44 (.bslice 9044 36 6 [(.s 42), (.s 43)]), oI 45 (.callv (.c (.fn 11 [])) [(.s 41), (.s 44)]), oI 40 (.mov (.s 45)), oI 46 (.extract 0 (.s 40)), oI 47 (.extract 1 (.s 40)), oI 9 (.alloc 9009 27 [(.nils 4), (.nils 3)]), oN (.store 2 (.s 9) (.s 46)), oI 10 (.mov (.s 47))] [3, 4, 5, 9, 10]
def a9r6 : AC := .reg [oI 49 (.load 2 true (.s 3)), oI 50 (.load 6 true (.s 5)), oI 51 (.load 6 true (.s 4)), oI 52 (.bslice 9052 36 6 [(.s 50), (.s 51)]), oI 53 (.callv (.c (.fn 11 [])) [(.s 49), (.s 52)]), oI 48 (.mov (.s 53)), oI 54 (.extract 0 (.s 48)), oI 55 (.extract 1 (.s 48)), oI 11 (.alloc 9011 27 [(.nils 4), (.nils 3)]), oN (.store 2 (.s 11) (.s 54)), oI 12 (.mov (.s 55))] [9, 10, 11, 12]
def a9r7 : AC := .reg [oI 56 (.mov (.s 10)), oI 57 (.len (.s 56)), oI 58 (.iop .neq (.s 57) (.c (.lit (.int .i64 2)))), oI 59 (.mov (.s 58)), oG 60 59 false (.mov (.s 12)), oG 61 59 false (.len (.s 60)), oG 62 59 false (.iop .neq (.s 61) (.c (.lit (.int .i64 2)))), oI 63 (.pick (.s 59) (.c (.lit (.bool true))) (.s 62))] [9, 10, 11, 12, 63]
def a9r8 : AC := .reg [oI 6 (.mov (.c (.lit (.bool false))))] [6]
def a9r9 : AC := .draw [7] (.take 0 (oI 64 (.load 2 true (.s 9))) <| .take 1 (oI 65 (.load 2 true (.s 11))) <| .alt 2 (oI 66 (.callv (.c (.fn 20 [])) [(.s 64), (.s 65)])) ( .take 3 (oI 67 (.mov (.s 66))) <| .take 4 (oG 68 67 true (.mov (.s 10))) <| .take 5 (oG 69 67 true (.iaddr 3 (.s 68) (.c (.lit (.int .i64 0))))) <| .take 6 (oG 70 67 true (.load 3 true (.s 69))) <| .take 7 (oG 71 67 true (.mov (.s 12))) <| .take 8 (oG 72 67 true (.iaddr 3 (.s 71) (.c (.lit (.int .i64 1))))) <| .take 9 (oG 73 67 true (.load 3 true (.s 72))) <| .take 10 (oG 74 67 true (.seql false [1, 1, 2] (.s 70) (.s 73))) <| .take 11 (oI 75 (.pick (.s 67) (.s 74) (.c (.lit (.bool false))))) <| .take 12 (oI 76 (.mov (.s 75))) <| .take 13 (oG 77 76 true (.mov (.s 10))) <| .take 14 (oG 78 76 true (.iaddr 3 (.s 77) (.c (.lit (.int .i64 1))))) <| .take 15 (oG 79 76 true (.load 3 true (.s 78))) <| .take 16 (oG 80 76 true (.mov (.s 12))) <| .take 17 (oG 81 76 true (.iaddr 3 (.s 80) (.c (.lit (.int .i64 0))))) <| .take 18 (oG 82 76 true (.load 3 true (.s 81))) <| .take 19 (oG 83 76 true (.seql false [1, 1, 2] (.s 79) (.s 82))) <| .take 20 (oI 84 (.pick (.s 76) (.s 83) (.c (.lit (.bool false))))) <| .take 21 (oI 6 (.mov (.s 84))) <| .done) .done) [6]
def a9 : AC := .seq a9r0 (.seq a9r1 (.seq a9r2 (.seq (.seq a9r3 (.cond (.s 38) (.seq a9r4 (.ret)) (.skip))) (.seq a9r5 (.seq a9r6 (.seq (.seq a9r7 (.cond (.s 63) (.seq a9r8 (.ret)) (.skip))) (.seq a9r9 (.ret))))))))
def a9R : List RD := [.tmp 6]
end Go.Proofs.YtadbdchbdjkcdaaGreatDoor.F
