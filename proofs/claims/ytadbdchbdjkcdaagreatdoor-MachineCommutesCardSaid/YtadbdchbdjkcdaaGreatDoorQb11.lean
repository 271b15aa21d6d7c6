/- Parts of a symbolic execution and of walks by it, for the statements of this seat: W27, W28, W29, W30, SxOp, Opn, V16, Pl3. -/
import Derived.Test.YtadbdchbdjkcdaaGreatDoorQb10
import Derived.ChangeShapes
import Derived.OpenShut
import Derived.ChangeArms
import Derived.ChangeSame
import Derived.Lib.SmallJoins
set_option linter.unusedVariables false
set_option linter.unusedSimpArgs false
namespace Go.Proofs.YtadbdchbdjkcdaaGreatDoor.F
open Go Go.SX
theorem c97 : chkFn Tryz.prog 97 121 2 a97 a97R = true := by kernel_rfl
set_option maxHeartbeats 4000000 in
theorem d97 (s : Sta) (m : Cmd) (hu : Up kR s.rooms) {n : Nat} (hn : n < 900000) (h : FitS n s) (hk : 4 ≤ m.kind ∧ m.kind ≤ 7) (ht : m.text.size ≤ 100000) {x : Room} (hfx : s.rooms.find? (fun r => decide (kR r = m.ch)) = some x) : DoesT 97 [.agg (eS s), .agg (eM m)] (.tup [.agg (eS (doesS s m).1), .agg (eA (doesS s m).2)]) := by
 have hl : s.rooms.length < 900000 := by have := h.1; omega
 obtain ⟨j, hj, hxj⟩ := ix_at hfx
 have h95 := d95 s m.ch (by omega)
 rw [hj] at h95
 have hjl : j < s.rooms.length := (List.getElem?_eq_some_iff.1 hxj).1
 obtain ⟨x', hx, hgx, hg, hge, hdr, hw, hlt2, hset, hxm⟩ := getR hjl (by omega)
 obtain rfl : x = x' := by rw [hxj] at hx; injection hx
 have hm : x.c.mem.length < 1000000 := by have := (h.2.2.1 x hxm).1; omega
 have hf := (h.2.2.1 x hxm).2
 simp only [eR] at hg hge
 have h134 := d134 x.c m.user hm
 obtain ⟨B, hB⟩ : ∃ B, inC x.c m.user = B := ⟨_, rfl⟩
 rw [hB] at h134
 rw [does_some hfx, if_neg (show ¬ m.kind = 1 by omega)]
 refine Does.of (nt := 121) (ac := a97) (rds := a97R) c97 (fun c hc => ?_)
 unfold a97
 apply J.seq
 refine J.regE (by simp [eS, eM, eC, eR]; rfl) ?_
 simp
 refine J.nz hc ?_
 simp
 apply J.seq
 refine J.to hc ⟨[(2, .ptr 97002 0 0 0), (3, .ptr 97003 0 0 0), (4, .ptr 97004 0 0 0), (5, .ptr 97005 0 0 0), (6, .ptr 97006 0 0 0)], [(97002, .obj 27 (eS s)), (97003, .obj 36 (eM m)), (97004, .obj 27 [.ro 4 [], .ro 3 []]), (97005, .obj 39 [iv 0, iv 0, sv ⟨#[]⟩]), (97006, .obj 52 (eR x))], []⟩ ?_ ?_
 ·apply J.draw; intro c' hc'
  repeat' (first
   | (show runP _ _ _ _ (.take _ _ _) _ _; refine runP_stepQ (by simp [eS, eM, eR, hlt2, hg, hge, hjl]; rfl) ?_)
   | (show runP _ _ _ _ (.alt _ ⟨_, none, .callv _ _⟩ _ .done) _ _; refine runP_tree rfl (h95) (by simp) rfl ?_; simp)
   | (show runP _ _ _ _ (.alt _ _ _ .done) _ _; refine runP_one rfl (by simp) (by simp [eS, eM, eR, hlt2, hg, hge, hjl]; rfl) ?_)
   | refine runP_or ?_ ?_)
  all_goals
   (first | refine le_subF ?_ ?_ ?_ ?_ rfl ?_ | refine ⟨rfl, le_subF ?_ ?_ ?_ ?_ rfl ?_⟩) <;> (repeat' (first | exact trivial | exact rfl | refine ⟨?_, ?_⟩))
 simp
 apply J.seq
 apply J.reg
 iterate 4 refine runL_step rfl (by simp [eS, eM, eC, eR]; rfl) ?_
 refine runL_tree rfl (h134) (by simp) hc ?_
 simp
 refine runL_step rfl (by simp [eS, eM, eC, eR]; rfl) ?_
 simp [runL]
 apply J.seq
 apply J.seq
 refine J.regE (by simp [eS, eM, eC, eR]; rfl) ?_
 simp
 refine J.condB rfl (fun h31 => ?_) (fun h31 => ?_)
 ·
  obtain rfl : B = false := by simpa using h31
  rw [if_pos ⟨by omega, hB⟩]
  apply J.seq
  apply J.reg
  refine runL_step rfl (by simp [eS, eM, eC, eR, eA]; rfl) ?_
  refine runL_tree rfl (d48 s _) (by simp) hc ?_
  simp
  iterate 7 refine runL_step rfl (by simp [eS, eM, eC, eR, eA]; rfl) ?_
  simp [runL]
  apply J.seq
  apply J.draw; intro c' hc'
  iterate 2 refine runP_stepQ (by simp [eS, eM, eC, eR]; rfl) ?_
  refine runP_one rfl (by simp) (by simp [eS, eM, eC, eR]; rfl) ?_
  refine runP_one rfl (by simp) (by simp [eS, eM, eC, eR]; rfl) ?_
  simp [runP]
  apply J.ret
  refine ⟨by simp, rfl, _, [], by simp [a97R]; rfl, ?_⟩
  first
   | (simp [eA, eS]; done)
   | (simp [eA, eS, doQ, h41]; done)
   | (simp [eA, eS, doQ, h69, hq137, saidS, keepS, h99]; done)
   | (simp [eA, eS, doQ, h84, hq138, saidS, keepS, h99]; done)
   | (simp [eA, eS, doQ, show m.kind = 4 by omega, hq136, saidS, keepS, h99]; done)
   | trace_state
 ·
  obtain rfl : B = true := by simpa using h31
  rw [if_neg (by rw [hB]; simp)]
  apply J.skip; simp
  apply J.seq
  apply J.seq
  refine J.regE (by simp [eS, eM, eC, eR]; rfl) ?_
  simp
  refine J.condB rfl (fun h41 => ?_) (fun h41 => ?_)
  ·
   simp at h41
   apply J.seq
   apply J.reg
   iterate 4 refine runL_step rfl (by simp [eS, eM, eC, eR, P16.eP]; rfl) ?_
   refine runL_tree rfl (P16.d18 x.posts m.n hf) (by simp) hc ?_
   simp
   iterate 6 refine runL_step rfl (by simp [eS, eM, eC, eR, P16.eP]; rfl) ?_
   simp [runL]
   apply J.seq
   apply J.draw; intro c' hc'
   iterate 7 refine runP_stepQ (by simp [eS, eM, eC, eR]; rfl) ?_
   refine runP_one rfl (by simp) (by simp [eS, eM, eC, eR]; rfl) ?_
   refine runP_one rfl (by simp) (by simp [eS, eM, eC, eR]; rfl) ?_
   simp [runP]
   apply J.ret
   refine ⟨by simp, rfl, _, [], by simp [a97R]; rfl, ?_⟩
   first
    | (simp [eA, eS]; done)
    | (simp [eA, eS, doQ, h41]; done)
    | (simp [eA, eS, doQ, h69, hq137, saidS, keepS, h99]; done)
    | (simp [eA, eS, doQ, h84, hq138, saidS, keepS, h99]; done)
    | (simp [eA, eS, doQ, show m.kind = 4 by omega, hq136, saidS, keepS, h99]; done)
    | trace_state
  ·
   simp at h41
   apply J.skip; simp
   apply J.seq
   obtain ⟨q, hq136⟩ : ∃ q, P16.addP x.posts m.user m.text = q := ⟨_, rfl⟩
   obtain ⟨lA, eA1⟩ := q
   have h136 := P16.d25 x.posts m.user m.text hf ht
   rw [hq136] at h136
   simp only at h136
   apply J.reg
   iterate 6 refine runL_step rfl (by simp [eS, eM, eC, eR]; rfl) ?_
   refine runL_tree rfl (h136) (by simp) hc ?_
   simp
   iterate 5 refine runL_step rfl (by simp [eS, eM, eC, eR]; rfl) ?_
   simp [runL]
   apply J.seq
   apply J.seq
   refine J.regE (by simp [eS, eM, eC, eR]; rfl) ?_
   simp
   refine J.condB rfl (fun h69 => ?_) (fun h69 => ?_)
   ·
    simp at h69
    obtain ⟨q, hq137⟩ : ∃ q, P16.editP x.posts m.n m.user m.text = q := ⟨_, rfl⟩
    obtain ⟨l5, e5⟩ := q
    have h137 := P16.d26 x.posts m.n m.user m.text hf ht
    rw [hq137] at h137
    simp only at h137
    apply J.reg
    iterate 8 refine runL_step rfl (by simp [eS, eM, eC, eR]; rfl) ?_
    refine runL_tree rfl (h137) (by simp) hc ?_
    simp
    iterate 5 refine runL_step rfl (by simp [eS, eM, eC, eR]; rfl) ?_
    simp [runL]
    apply J.seq
    apply J.seq
    refine J.regE (by simp [eS, eM, eC, eR]; rfl) ?_
    simp
    refine J.condB rfl (fun h84 => ?_) (fun h84 => ?_)
    ·
     simp at h84
     exfalso; omega
    ·
     simp at h84
     obtain ⟨l, hle⟩ : ∃ l, l = l5 := ⟨_, rfl⟩
     obtain ⟨e, hee⟩ : ∃ e, e = e5 := ⟨_, rfl⟩
     subst hle
     subst hee
     apply J.skip; simp
     apply J.seq
     apply J.seq
     refine J.regE (by simp [eS, eM, eC, eR]; rfl) ?_
     simp
     refine J.condB rfl (fun h99 => ?_) (fun h99 => ?_)
     ·
      simp at h99
      apply J.seq
      apply J.reg
      iterate 2 refine runL_step rfl (by simp [eS, eM, eC, eR, eA]; rfl) ?_
      refine runL_tree rfl (d48 s _) (by simp) hc ?_
      simp
      iterate 7 refine runL_step rfl (by simp [eS, eM, eC, eR, eA]; rfl) ?_
      simp [runL]
      apply J.seq
      apply J.draw; intro c' hc'
      iterate 2 refine runP_stepQ (by simp [eS, eM, eC, eR]; rfl) ?_
      refine runP_one rfl (by simp) (by simp [eS, eM, eC, eR]; rfl) ?_
      refine runP_one rfl (by simp) (by simp [eS, eM, eC, eR]; rfl) ?_
      simp [runP]
      apply J.ret
      refine ⟨by simp, rfl, _, [], by simp [a97R]; rfl, ?_⟩
      first
       | (simp [eA, eS]; done)
       | (simp [eA, eS, doQ, h41]; done)
       | (simp [eA, eS, doQ, h69, hq137, saidS, keepS, h99]; done)
       | (simp [eA, eS, doQ, h84, hq138, saidS, keepS, h99]; done)
       | (simp [eA, eS, doQ, show m.kind = 4 by omega, hq136, saidS, keepS, h99]; done)
       | trace_state
     ·
      simp at h99
      apply J.skip; simp
      apply J.seq
      refine J.regE (by simp [eS, eM, eC, eR]; rfl) ?_
      simp
      apply J.seq
      apply J.seq
      refine J.regE (by simp [eS, eM, eC, eR]; rfl) ?_
      simp
      refine J.condB rfl (fun h110 => ?_) (fun h110 => ?_)
      ·
       simp at h110
       exfalso; omega
      ·
       simp at h110
       apply J.skip; simp
       apply J.seq
       apply J.reg
       iterate 5 refine runL_step rfl (by simp [eS, eM, eC, eR, eA]; rfl) ?_
       refine runL_tree rfl (d131 s ⟨x.c, l⟩ hu hl) (by simp) hc ?_
       simp
       iterate 4 refine runL_step rfl (by simp [eS, eM, eC, eR, eA]; rfl) ?_
       simp [runL]
       apply J.ret
       refine ⟨by simp, rfl, _, [], by simp [a97R]; rfl, ?_⟩
       first
        | (simp [eA, eS]; done)
        | (simp [eA, eS, doQ, h41]; done)
        | (simp [eA, eS, doQ, h69, hq137, saidS, keepS, h99]; done)
        | (simp [eA, eS, doQ, h84, hq138, saidS, keepS, h99]; done)
        | (simp [eA, eS, doQ, show m.kind = 4 by omega, hq136, saidS, keepS, h99]; done)
        | trace_state
   ·
    simp at h69
    apply J.skip; simp
    apply J.seq
    apply J.seq
    refine J.regE (by simp [eS, eM, eC, eR]; rfl) ?_
    simp
    refine J.condB rfl (fun h84 => ?_) (fun h84 => ?_)
    ·
     simp at h84
     obtain ⟨q, hq138⟩ : ∃ q, P16.delP x.posts m.n m.user x.c.owner = q := ⟨_, rfl⟩
     obtain ⟨l, e⟩ := q
     have h138 := P16.d27 x.posts m.n m.user x.c.owner hf
     rw [hq138] at h138
     simp only at h138
     apply J.reg
     iterate 9 refine runL_step rfl (by simp [eS, eM, eC, eR]; rfl) ?_
     refine runL_tree rfl (h138) (by simp) hc ?_
     simp
     iterate 5 refine runL_step rfl (by simp [eS, eM, eC, eR]; rfl) ?_
     simp [runL]
     apply J.seq
     apply J.seq
     refine J.regE (by simp [eS, eM, eC, eR]; rfl) ?_
     simp
     refine J.condB rfl (fun h99 => ?_) (fun h99 => ?_)
     ·
      simp at h99
      apply J.seq
      apply J.reg
      iterate 2 refine runL_step rfl (by simp [eS, eM, eC, eR, eA]; rfl) ?_
      refine runL_tree rfl (d48 s _) (by simp) hc ?_
      simp
      iterate 7 refine runL_step rfl (by simp [eS, eM, eC, eR, eA]; rfl) ?_
      simp [runL]
      apply J.seq
      apply J.draw; intro c' hc'
      iterate 2 refine runP_stepQ (by simp [eS, eM, eC, eR]; rfl) ?_
      refine runP_one rfl (by simp) (by simp [eS, eM, eC, eR]; rfl) ?_
      refine runP_one rfl (by simp) (by simp [eS, eM, eC, eR]; rfl) ?_
      simp [runP]
      apply J.ret
      refine ⟨by simp, rfl, _, [], by simp [a97R]; rfl, ?_⟩
      first
       | (simp [eA, eS]; done)
       | (simp [eA, eS, doQ, h41]; done)
       | (simp [eA, eS, doQ, h69, hq137, saidS, keepS, h99]; done)
       | (simp [eA, eS, doQ, h84, hq138, saidS, keepS, h99]; done)
       | (simp [eA, eS, doQ, show m.kind = 4 by omega, hq136, saidS, keepS, h99]; done)
       | trace_state
     ·
      simp at h99
      apply J.skip; simp
      apply J.seq
      refine J.regE (by simp [eS, eM, eC, eR]; rfl) ?_
      simp
      apply J.seq
      apply J.seq
      refine J.regE (by simp [eS, eM, eC, eR]; rfl) ?_
      simp
      refine J.condB rfl (fun h110 => ?_) (fun h110 => ?_)
      ·
       simp at h110
       exfalso; omega
      ·
       simp at h110
       apply J.skip; simp
       apply J.seq
       apply J.reg
       iterate 5 refine runL_step rfl (by simp [eS, eM, eC, eR, eA]; rfl) ?_
       refine runL_tree rfl (d131 s ⟨x.c, l⟩ hu hl) (by simp) hc ?_
       simp
       iterate 4 refine runL_step rfl (by simp [eS, eM, eC, eR, eA]; rfl) ?_
       simp [runL]
       apply J.ret
       refine ⟨by simp, rfl, _, [], by simp [a97R]; rfl, ?_⟩
       first
        | (simp [eA, eS]; done)
        | (simp [eA, eS, doQ, h41]; done)
        | (simp [eA, eS, doQ, h69, hq137, saidS, keepS, h99]; done)
        | (simp [eA, eS, doQ, h84, hq138, saidS, keepS, h99]; done)
        | (simp [eA, eS, doQ, show m.kind = 4 by omega, hq136, saidS, keepS, h99]; done)
        | trace_state
    ·
     simp at h84
     have hfl : P16.Fit lA := by have := addP_fit (u := m.user) hf ht; rw [hq136] at this; exact this
     obtain ⟨l, hle⟩ : ∃ l, l = lA := ⟨_, rfl⟩
     obtain ⟨e, hee⟩ : ∃ e, e = eA1 := ⟨_, rfl⟩
     subst hle
     subst hee
     apply J.skip; simp
     apply J.seq
     apply J.seq
     refine J.regE (by simp [eS, eM, eC, eR]; rfl) ?_
     simp
     refine J.condB rfl (fun h99 => ?_) (fun h99 => ?_)
     ·
      simp at h99
      apply J.seq
      apply J.reg
      iterate 2 refine runL_step rfl (by simp [eS, eM, eC, eR, eA]; rfl) ?_
      refine runL_tree rfl (d48 s _) (by simp) hc ?_
      simp
      iterate 7 refine runL_step rfl (by simp [eS, eM, eC, eR, eA]; rfl) ?_
      simp [runL]
      apply J.seq
      apply J.draw; intro c' hc'
      iterate 2 refine runP_stepQ (by simp [eS, eM, eC, eR]; rfl) ?_
      refine runP_one rfl (by simp) (by simp [eS, eM, eC, eR]; rfl) ?_
      refine runP_one rfl (by simp) (by simp [eS, eM, eC, eR]; rfl) ?_
      simp [runP]
      apply J.ret
      refine ⟨by simp, rfl, _, [], by simp [a97R]; rfl, ?_⟩
      first
       | (simp [eA, eS]; done)
       | (simp [eA, eS, doQ, h41]; done)
       | (simp [eA, eS, doQ, h69, hq137, saidS, keepS, h99]; done)
       | (simp [eA, eS, doQ, h84, hq138, saidS, keepS, h99]; done)
       | (simp [eA, eS, doQ, show m.kind = 4 by omega, hq136, saidS, keepS, h99]; done)
       | trace_state
     ·
      simp at h99
      apply J.skip; simp
      apply J.seq
      refine J.regE (by simp [eS, eM, eC, eR]; rfl) ?_
      simp
      apply J.seq
      apply J.seq
      refine J.regE (by simp [eS, eM, eC, eR]; rfl) ?_
      simp
      refine J.condB rfl (fun h110 => ?_) (fun h110 => ?_)
      ·
       simp at h110
       apply J.reg
       refine runL_step rfl (by simp [eS, eM, eC, eR]; rfl) ?_
       refine runL_tree rfl (P16.d21 l hfl) (by simp) hc ?_
       simp
       refine runL_step rfl (by simp [eS, eM, eC, eR]; rfl) ?_
       simp [runL]
       apply J.seq
       apply J.reg
       iterate 5 refine runL_step rfl (by simp [eS, eM, eC, eR, eA]; rfl) ?_
       refine runL_tree rfl (d131 s ⟨x.c, l⟩ hu hl) (by simp) hc ?_
       simp
       iterate 4 refine runL_step rfl (by simp [eS, eM, eC, eR, eA]; rfl) ?_
       simp [runL]
       apply J.ret
       refine ⟨by simp, rfl, _, [], by simp [a97R]; rfl, ?_⟩
       first
        | (simp [eA, eS]; done)
        | (simp [eA, eS, doQ, h41]; done)
        | (simp [eA, eS, doQ, h69, hq137, saidS, keepS, h99]; done)
        | (simp [eA, eS, doQ, h84, hq138, saidS, keepS, h99]; done)
        | (simp [eA, eS, doQ, show m.kind = 4 by omega, hq136, saidS, keepS, h99]; done)
        | trace_state
      ·
       simp at h110
       exfalso; omega
theorem c50 : chkFn Tryz.prog 50 48 2 a50 a50R = true := by kernel_rfl
set_option maxHeartbeats 4000000 in
theorem d50 (s : Sta) (m : Cmd) (hu : Up kR s.rooms) {n : Nat} (hn : n < 900000) (h : FitS n s) (h7 : 1 ≤ m.kind ∧ m.kind ≤ 7) (ht : m.text.size ≤ 100000) : DoesT 50 [.agg (eS s), .agg (eM m)] (.tup [.agg (eS (doesS s m).1), .agg (eA (doesS s m).2)]) := by
 have hl : s.rooms.length < 900000 := by have := h.1; omega
 obtain ⟨I, hI⟩ : ∃ I, ixR m.ch s.rooms 0 = I := ⟨_, rfl⟩
 have h95 := d95 s m.ch (by omega)
 rw [hI] at h95
 refine Does.of (nt := 48) (ac := a50) (rds := a50R) c50 (fun c hc => ?_)
 unfold a50
 apply J.seq
 refine J.regE (by simp [eS, eM, eA]; rfl) ?_
 simp
 apply J.seq
 apply J.seq
 apply J.reg
 iterate 4 refine runL_step rfl (by simp [eS, eM, eA]; rfl) ?_
 refine runL_if rfl (fun g15 => ?_) (fun g15 => ?_)
 ·
  try simp only [g15]
  try simp at g15
  iterate 3 refine runL_step rfl (by simp [eS, eM, eA]; rfl) ?_
  refine runL_do (by simp) ?_
  refine runL_tree rfl (h95) (by simp) hc ?_
  simp
  iterate 2 refine runL_step rfl (by simp [eS, eM, eA]; rfl) ?_
  simp [runL]
  refine J.condB rfl (fun h21 => ?_) (fun h21 => ?_)
  ·
   simp at h21
   rw [← hI] at h21
   have hfx := ix_lt h21
   apply J.seq
   apply J.reg
   refine runL_step rfl (by simp [eS, eM, eA]; rfl) ?_
   refine runL_tree rfl (d48 s _) (by simp) hc ?_
   simp
   iterate 7 refine runL_step rfl (by simp [eS, eM, eA]; rfl) ?_
   simp [runL]
   apply J.seq
   apply J.draw; intro c' hc'
   iterate 2 refine runP_stepQ (by simp [eS, eM, eA]; rfl) ?_
   refine runP_one rfl (by simp) (by simp [eS, eM, eA]; rfl) ?_
   refine runP_one rfl (by simp) (by simp [eS, eM, eA]; rfl) ?_
   simp [runP]
   apply J.ret
   refine ⟨by simp, rfl, _, [], by simp [a50R]; rfl, ?_⟩
   first | (rw [does_none hfx]; simp [g15, eA, eS]; done) | (simp [eA, eS]; done) | trace_state
  ·
   simp at h21
   rw [← hI] at h21
   obtain ⟨x, hfx⟩ := ix_ge h21
   apply J.skip; simp
   apply J.seq
   apply J.seq
   refine J.regE (by simp [eS, eM, eA]; rfl) ?_
   simp
   refine J.condB rfl (fun h31 => ?_) (fun h31 => ?_)
   ·
    simp at h31
    have hr : m.kind ≠ 1 → ∃ x, s.rooms.find? (fun r => decide (kR r = m.ch)) = some x := fun h1 => by first | exact ⟨x, hfx⟩ | exact absurd (by assumption) h1
    apply J.seq
    apply J.reg
    iterate 2 refine runL_step rfl (by simp [eS, eM, eA]; rfl) ?_
    refine runL_tree rfl (d96 s m hu hn h (by omega) hr) (by simp) hc ?_
    simp
    iterate 7 refine runL_step rfl (by simp [eS, eM, eA]; rfl) ?_
    simp [runL]
    apply J.seq
    apply J.draw; intro c' hc'
    iterate 2 refine runP_stepQ (by simp [eS, eM, eA]; rfl) ?_
    refine runP_one rfl (by simp) (by simp [eS, eM, eA]; rfl) ?_
    refine runP_one rfl (by simp) (by simp [eS, eM, eA]; rfl) ?_
    simp [runP]
    apply J.ret
    refine ⟨by simp, rfl, _, [], by simp [a50R]; rfl, ?_⟩
    first | (rw [does_none hfx]; simp [g15, eA, eS]; done) | (simp [eA, eS]; done) | trace_state
   ·
    simp at h31
    apply J.skip; simp
    apply J.seq
    apply J.reg
    iterate 2 refine runL_step rfl (by simp [eS, eM, eA]; rfl) ?_
    refine runL_tree rfl (d97 s m hu hn h (by omega) ht hfx) (by simp) hc ?_
    simp
    iterate 7 refine runL_step rfl (by simp [eS, eM, eA]; rfl) ?_
    simp [runL]
    apply J.seq
    apply J.draw; intro c' hc'
    iterate 2 refine runP_stepQ (by simp [eS, eM, eA]; rfl) ?_
    refine runP_one rfl (by simp) (by simp [eS, eM, eA]; rfl) ?_
    refine runP_one rfl (by simp) (by simp [eS, eM, eA]; rfl) ?_
    simp [runP]
    apply J.ret
    refine ⟨by simp, rfl, _, [], by simp [a50R]; rfl, ?_⟩
    first | (rw [does_none hfx]; simp [g15, eA, eS]; done) | (simp [eA, eS]; done) | trace_state
 ·
  try simp only [g15]
  try simp at g15
  iterate 2 refine runL_step rfl (by simp [eS, eM, eA]; rfl) ?_
  refine runL_pass (b := _) rfl (by simp) ?_
  simp
  iterate 2 refine runL_step rfl (by simp [eS, eM, eA]; rfl) ?_
  simp [runL]
  apply J.cond; simp [eS, eM, eA]
  apply J.skip; simp
  apply J.seq
  apply J.seq
  refine J.regE (by simp [eS, eM, eA]; rfl) ?_
  simp
  refine J.condB rfl (fun h31 => ?_) (fun h31 => ?_)
  ·
   simp at h31
   have hr : m.kind ≠ 1 → ∃ x, s.rooms.find? (fun r => decide (kR r = m.ch)) = some x := fun h1 => by first | exact ⟨x, hfx⟩ | exact absurd (by assumption) h1
   apply J.seq
   apply J.reg
   iterate 2 refine runL_step rfl (by simp [eS, eM, eA]; rfl) ?_
   refine runL_tree rfl (d96 s m hu hn h (by omega) hr) (by simp) hc ?_
   simp
   iterate 7 refine runL_step rfl (by simp [eS, eM, eA]; rfl) ?_
   simp [runL]
   apply J.seq
   apply J.draw; intro c' hc'
   iterate 2 refine runP_stepQ (by simp [eS, eM, eA]; rfl) ?_
   refine runP_one rfl (by simp) (by simp [eS, eM, eA]; rfl) ?_
   refine runP_one rfl (by simp) (by simp [eS, eM, eA]; rfl) ?_
   simp [runP]
   apply J.ret
   refine ⟨by simp, rfl, _, [], by simp [a50R]; rfl, ?_⟩
   first | (rw [does_none hfx]; simp [g15, eA, eS]; done) | (simp [eA, eS]; done) | trace_state
  ·
   simp at h31
   exfalso; omega
theorem ris_none {α : Type} {k : α → Int} {x : α} {r : List α} : risF none ((x :: r).map k) = risF (some (k x)) (r.map k) := by simp [risF]
def prevK {α : Type} (k : α → Int) (l : List α) : Nat → Option Int
 | 0 => none
 | i + 1 => (l[i]?).map k
theorem prevK_succ {α : Type} {k : α → Int} {l : List α} {i : Nat} {x : α} (h : l[i]? = some x) : prevK k l (i + 1) = some (k x) := by simp [prevK, h]
def goodR : Option Int → List Room → Bool
 | _, [] => true
 | p, r :: l => !badR r && ((match p with | none => true | some q => decide (q < r.c.id)) && goodR (some r.c.id) l)
def goodV : Option Int → List Pers → Bool
 | _, [] => true
 | p, r :: l => !badV r && ((match p with | none => true | some q => decide (q < r.user)) && goodV (some r.user) l)
theorem good_R : ∀ {l : List Room} {p : Option Int}, goodR p l = (!l.any badR && risF p (l.map kR))
 | [], p => by simp [goodR, risF]
 | r :: l, p => by simp only [goodR, good_R (l := l), List.any_cons, List.map_cons, risF, kR]; cases badR r <;> cases p <;> simp <;> grind
theorem good_V : ∀ {l : List Pers} {p : Option Int}, goodV p l = (!l.any badV && risF p (l.map kV))
 | [], p => by simp [goodV, risF]
 | r :: l, p => by simp only [goodV, good_V (l := l), List.any_cons, List.map_cons, risF, kV]; cases badV r <;> cases p <;> simp <;> grind
theorem mayS_good (s : Sta) : mayS s = (goodR none s.rooms && goodV none s.persons) := by
 rw [good_R, good_V]; unfold mayS
 cases s.rooms.any badR <;> cases s.persons.any badV <;> simp
def I19a (s : Sta) (m : Nat) (st : St) : Prop := ∃ i : Nat, i ≤ s.rooms.length ∧ m = s.rooms.length - i ∧ goodR none s.rooms = goodR (prevK kR s.rooms i) (s.rooms.drop i) ∧ st = ⟨[(1, .ptr 19001 0 0 0), (3, iv (i : Nat))], [(19001, .obj 27 (eS s))], []⟩
def I19b (s : Sta) (m : Nat) (st : St) : Prop := ∃ i : Nat, i ≤ s.persons.length ∧ m = s.persons.length - i ∧ goodV none s.persons = goodV (prevK kV s.persons i) (s.persons.drop i) ∧ st = ⟨[(1, .ptr 19001 0 0 0), (6, iv (i : Nat))], [(19001, .obj 27 (eS s))], []⟩
theorem c19 : chkFn Tryz.prog 19 103 1 a19 a19R = true := by kernel_rfl
set_option maxHeartbeats 4000000 in
theorem d19 (s : Sta) {n : Nat} (hn : n < 900000) (h : FitS n s) : DoesT 19 [.agg (eS s)] (bv (mayS s)) := by
 have hl1 := h.l1 (n := n) (by omega)
 have hl2 := h.l2 (n := n) (by omega)
 rw [mayS_good]
 refine Does.of (nt := 103) (ac := a19) (rds := a19R) c19 (fun c hc => ?_)
 unfold a19
 apply J.seq
 refine J.regE (by simp [eS]; rfl) ?_
 simp
 apply J.seq
 apply J.seq
 refine J.regE (by simp [eS]; rfl) ?_
 simp
 apply J.block
 refine J.loop hc (I19a s) ?_ ?_
 ·exact ⟨_, _, St.le_refl _, 0, by omega, rfl, rfl, by simp [eS]⟩
 rintro n st ⟨i, hi, rfl, hI, rfl⟩
 apply J.seq
 apply J.seq
 refine J.regE (by simp [eS]; rfl) ?_
 simp
 apply J.cond; simp [eS]
 refine ⟨fun hlt => ?_, fun hlt => ?_⟩
 ·
  obtain ⟨y, hx, hgx, hg, hge, hdr, hw, hlt2, hset, hxm⟩ := getR (show i < s.rooms.length by omega) hl1
  simp only [eR] at hg hge
  rw [hdr] at hI
  simp only [goodR] at hI
  have h53 := d53 y.c (by have := (h.2.2.1 y hxm).1; omega)
  have h54 := P16.d20 y.posts (h.2.2.1 y hxm).2
  obtain ⟨b1, hb1⟩ : ∃ b, mayC y.c = b := ⟨_, rfl⟩
  obtain ⟨b2, hb2⟩ : ∃ b, P16.mayPs y.posts = b := ⟨_, rfl⟩
  rw [hb1] at h53
  rw [hb2] at h54
  simp only [badR, hb1, hb2] at hI
  apply J.skip; simp
  apply J.seq
  apply J.block
  apply J.seq
  apply J.reg
  iterate 6 refine runL_step rfl (by simp [eS, hlt2, hg, hge, hlt]; rfl) ?_
  refine runL_tree rfl (h53) (by simp) hc ?_
  simp
  refine runL_step rfl (by simp [eS, hlt2, hg, hge, hlt]; rfl) ?_
  simp [runL]
  apply J.seq
  apply J.reg
  iterate 6 refine runL_step rfl (by simp [eS, hlt2, hg, hge, hlt]; rfl) ?_
  refine runL_tree rfl (h54) (by simp) hc ?_
  simp
  refine runL_step rfl (by simp [eS, hlt2, hg, hge, hlt]; rfl) ?_
  simp [runL]
  apply J.seq
  apply J.draw; intro c' hc'
  iterate 3 refine runP_stepQ (by simp [eS, hlt2, hg, hge, hlt]; rfl) ?_
  refine runP_if rfl (fun g32 => ?_) (fun g32 => ?_)
  ·
   try simp only [g32]
   try simp at g32
   iterate 4 refine runP_stepQ (by simp [eS, hlt2, hg, hge, hlt]; rfl) ?_
   refine runP_if rfl (fun g36 => ?_) (fun g36 => ?_)
   ·
    try simp only [g36]
    try simp at g36
    iterate 3 refine runP_stepQ (by simp [eS, hlt2, hg, hge, hlt]; rfl) ?_
    refine runP_if rfl (fun g39 => ?_) (fun g39 => ?_)
    ·
     try simp only [g39]
     try simp at g39
     obtain ⟨k, rfl⟩ : ∃ k, i = k + 1 := ⟨i - 1, by omega⟩
     obtain ⟨z, hz, _, hzg, hzge, _, _, hzlt, _, _⟩ := getR (show k < s.rooms.length by omega) hl1
     simp only [eR] at hzg hzge
     have hwk : IntKind.i64.wrap (k : Int) = (k : Int) := wrap_id (by omega) (by omega)
     have hk1 : k < s.rooms.length := by omega
     have hk2 : k + 1 < s.rooms.length := by omega
     have hk3 : (0 : Int) ≤ (k : Int) + 1 := by omega
     have hk4 : (k : Int) + 1 < (s.rooms.length : Int) := by omega
     rw [prevK_succ (k := kR) hz] at hI
     simp only at hI
     iterate 18 refine runP_stepQ (by simp [eS, hlt2, hg, hge, hlt, hzg, hzge, hzlt, hwk, hk1, hk2, hk3, hk4]; rfl) ?_
     simp [runP]
     refine J.condB rfl (fun h57 => ?_) (fun h57 => ?_)
     ·
      simp at h57
      have hI3 : goodR none s.rooms = false := by rw [hI]; simp [show ¬ z.c.id < y.c.id by omega]
      apply J.seq
      refine J.regE (by simp [eS]; rfl) ?_
      simp
      apply J.ret
      refine ⟨by simp, rfl, _, [], by simp [a19R]; rfl, ?_⟩
      first | (simp [hI3]; done) | (simp [hR, hV]; done) | trace_state
     ·
      simp at h57
      have hI2 : goodR none s.rooms = goodR (prevK kR s.rooms ((k + 1) + 1)) (s.rooms.drop ((k + 1) + 1)) := by rw [hI, prevK_succ (k := kR) hx]; simp [g32, g36, h57]
      apply J.skip; simp
      refine J.regE (by simp [eS, hw]; rfl) ?_
      simp
      refine ⟨_, by omega, _, ?_, k + 1 + 1, by omega, rfl, hI2, rfl⟩
      apply le_sub <;> simp [eS, show IntKind.i64.wrap ((k : Int) + 1 + 1) = (k : Int) + 1 + 1 from wrap_id (by omega) (by omega)]
    ·
     try simp only [g39]
     try simp at g39
     obtain rfl : i = 0 := by omega
     simp only [prevK] at hI
     have hI2 : goodR none s.rooms = goodR (prevK kR s.rooms (0 + 1)) (s.rooms.drop (0 + 1)) := by rw [hI, prevK_succ (k := kR) hx]; simp [g32, g36]
     iterate 17 refine runP_stepQ (by simp [eS, hlt2, hg, hge, hlt]; rfl) ?_
     simp [runP]
     apply J.cond; simp [eS]
     apply J.skip; simp
     refine J.regE (by simp [eS, hw]; rfl) ?_
     simp
     refine ⟨_, by omega, _, ?_, 0 + 1, by omega, rfl, hI2, rfl⟩
     apply le_sub <;> simp [eS, show IntKind.i64.wrap 1 = 1 from rfl]
   ·
    try simp only [g36]
    try simp at g36
    have hI3 : goodR none s.rooms = false := by rw [hI]; simp [g36]
    iterate 20 refine runP_stepQ (by simp [eS, hlt2, hg, hge, hlt]; rfl) ?_
    simp [runP]
    apply J.cond; simp [eS]
    apply J.seq
    refine J.regE (by simp [eS]; rfl) ?_
    simp
    apply J.ret
    refine ⟨by simp, rfl, _, [], by simp [a19R]; rfl, ?_⟩
    first | (simp [hI3]; done) | (simp [hR, hV]; done) | trace_state
  ·
   try simp only [g32]
   try simp at g32
   have hI3 : goodR none s.rooms = false := by rw [hI]; simp [g32]
   iterate 24 refine runP_stepQ (by simp [eS, hlt2, hg, hge, hlt]; rfl) ?_
   simp [runP]
   apply J.cond; simp [eS]
   apply J.seq
   refine J.regE (by simp [eS]; rfl) ?_
   simp
   apply J.ret
   refine ⟨by simp, rfl, _, [], by simp [a19R]; rfl, ?_⟩
   first | (simp [hI3]; done) | (simp [hR, hV]; done) | trace_state
 ·
  have hie : i = s.rooms.length := by omega
  subst hie
  rw [List.drop_length] at hI
  simp only [goodR] at hI
  have hR := hI
  apply J.exit; simp
  apply J.seq
  apply J.seq
  refine J.regE (by simp [eS]; rfl) ?_
  simp
  apply J.block
  refine J.loop hc (I19b s) ?_ ?_
  ·exact ⟨_, _, St.le_refl _, 0, by omega, rfl, rfl, by simp [eS]⟩
  rintro n st ⟨i, hi, rfl, hI, rfl⟩
  apply J.seq
  apply J.seq
  refine J.regE (by simp [eS]; rfl) ?_
  simp
  apply J.cond; simp [eS]
  refine ⟨fun hlt => ?_, fun hlt => ?_⟩
  ·
   obtain ⟨y, hx, hgx, hg, hge, hdr, hw, hlt2, hset, hxm⟩ := getV (show i < s.persons.length by omega) hl2
   simp only [eV] at hg hge
   rw [hdr] at hI
   simp only [goodV] at hI
   have h55 := d55 y.w (by have := h.2.2.2 y hxm; omega)
   obtain ⟨b1, hb1⟩ : ∃ b, mayW y.w = b := ⟨_, rfl⟩
   rw [hb1] at h55
   simp only [badV, hb1] at hI
   apply J.skip; simp
   apply J.seq
   apply J.block
   apply J.seq
   apply J.reg
   iterate 6 refine runL_step rfl (by simp [eS, hlt2, hg, hge, hlt]; rfl) ?_
   refine runL_tree rfl (h55) (by simp) hc ?_
   simp
   refine runL_step rfl (by simp [eS, hlt2, hg, hge, hlt]; rfl) ?_
   simp [runL]
   apply J.seq
   refine J.regE (by simp [eS, hlt2, hg, hge, hlt]; rfl) ?_
   simp
   apply J.seq
   apply J.reg
   iterate 3 refine runL_step rfl (by simp [eS, hlt2, hg, hge, hlt]; rfl) ?_
   refine runL_if rfl (fun g80 => ?_) (fun g80 => ?_)
   ·
    try simp only [g80]
    try simp at g80
    iterate 4 refine runL_step rfl (by simp [eS, hlt2, hg, hge, hlt]; rfl) ?_
    refine runL_if rfl (fun g84 => ?_) (fun g84 => ?_)
    ·
     try simp only [g84]
     try simp at g84
     iterate 4 refine runL_step rfl (by simp [eS, hlt2, hg, hge, hlt]; rfl) ?_
     refine runL_if rfl (fun g88 => ?_) (fun g88 => ?_)
     ·
      try simp only [g88]
      try simp at g88
      have hbt : btw y.user 1 1048576 = true := by simp [btw]; omega
      iterate 3 refine runL_step rfl (by simp [eS, hlt2, hg, hge, hlt]; rfl) ?_
      refine runL_if rfl (fun g91 => ?_) (fun g91 => ?_)
      ·
       try simp only [g91]
       try simp at g91
       obtain ⟨k, rfl⟩ : ∃ k, i = k + 1 := ⟨i - 1, by omega⟩
       obtain ⟨z, hz, _, hzg, hzge, _, _, hzlt, _, _⟩ := getV (show k < s.persons.length by omega) hl2
       simp only [eV] at hzg hzge
       have hwk : IntKind.i64.wrap (k : Int) = (k : Int) := wrap_id (by omega) (by omega)
       have hk1 : k < s.persons.length := by omega
       have hk2 : k + 1 < s.persons.length := by omega
       have hk3 : (0 : Int) ≤ (k : Int) + 1 := by omega
       have hk4 : (k : Int) + 1 < (s.persons.length : Int) := by omega
       rw [prevK_succ (k := kV) hz] at hI
       simp only at hI
       iterate 11 refine runL_step rfl (by simp [eS, hlt2, hg, hge, hlt, hzg, hzge, hzlt, hwk, hk1, hk2, hk3, hk4]; rfl) ?_
       simp [runL]
       refine J.condB rfl (fun h102 => ?_) (fun h102 => ?_)
       ·
        simp at h102
        have hI3 : goodV none s.persons = false := by rw [hI]; simp [show ¬ z.user < y.user by omega]
        apply J.seq
        refine J.regE (by simp [eS]; rfl) ?_
        simp
        apply J.ret
        refine ⟨by simp, rfl, _, [], by simp [a19R]; rfl, ?_⟩
        first | (simp [hI3]; done) | (simp [hR, hV]; done) | trace_state
       ·
        simp at h102
        have hI2 : goodV none s.persons = goodV (prevK kV s.persons ((k + 1) + 1)) (s.persons.drop ((k + 1) + 1)) := by rw [hI, prevK_succ (k := kV) hx]; simp [g80, hbt, h102]
        apply J.skip; simp
        refine J.regE (by simp [eS, hw]; rfl) ?_
        simp
        refine ⟨_, by omega, _, ?_, k + 1 + 1, by omega, rfl, hI2, rfl⟩
        apply le_sub <;> simp [eS, show IntKind.i64.wrap ((k : Int) + 1 + 1) = (k : Int) + 1 + 1 from wrap_id (by omega) (by omega)]
      ·
       try simp only [g91]
       try simp at g91
       obtain rfl : i = 0 := by omega
       simp only [prevK] at hI
       have hI2 : goodV none s.persons = goodV (prevK kV s.persons (0 + 1)) (s.persons.drop (0 + 1)) := by rw [hI, prevK_succ (k := kV) hx]; simp [g80, hbt]
       iterate 10 refine runL_step rfl (by simp [eS, hlt2, hg, hge, hlt]; rfl) ?_
       simp [runL]
       apply J.cond; simp [eS]
       apply J.skip; simp
       refine J.regE (by simp [eS, hw]; rfl) ?_
       simp
       refine ⟨_, by omega, _, ?_, 0 + 1, by omega, rfl, hI2, rfl⟩
       apply le_sub <;> simp [eS, show IntKind.i64.wrap 1 = 1 from rfl]
     ·
      try simp only [g88]
      try simp at g88
      have hI3 : goodV none s.persons = false := by rw [hI]; simp [btw, show ¬ y.user ≤ 1048576 by omega]
      iterate 13 refine runL_step rfl (by simp [eS, hlt2, hg, hge, hlt]; rfl) ?_
      simp [runL]
      apply J.cond; simp [eS]
      apply J.seq
      refine J.regE (by simp [eS]; rfl) ?_
      simp
      apply J.ret
      refine ⟨by simp, rfl, _, [], by simp [a19R]; rfl, ?_⟩
      first | (simp [hI3]; done) | (simp [hR, hV]; done) | trace_state
    ·
     try simp only [g84]
     try simp at g84
     have hI3 : goodV none s.persons = false := by rw [hI]; simp [btw, show ¬ 1 ≤ y.user by omega]
     iterate 17 refine runL_step rfl (by simp [eS, hlt2, hg, hge, hlt]; rfl) ?_
     simp [runL]
     apply J.cond; simp [eS]
     apply J.seq
     refine J.regE (by simp [eS]; rfl) ?_
     simp
     apply J.ret
     refine ⟨by simp, rfl, _, [], by simp [a19R]; rfl, ?_⟩
     first | (simp [hI3]; done) | (simp [hR, hV]; done) | trace_state
   ·
    try simp only [g80]
    try simp at g80
    have hI3 : goodV none s.persons = false := by rw [hI]; simp [g80]
    iterate 21 refine runL_step rfl (by simp [eS, hlt2, hg, hge, hlt]; rfl) ?_
    simp [runL]
    apply J.cond; simp [eS]
    apply J.seq
    refine J.regE (by simp [eS]; rfl) ?_
    simp
    apply J.ret
    refine ⟨by simp, rfl, _, [], by simp [a19R]; rfl, ?_⟩
    first | (simp [hI3]; done) | (simp [hR, hV]; done) | trace_state
  ·
   have hie : i = s.persons.length := by omega
   subst hie
   rw [List.drop_length] at hI
   simp only [goodV] at hI
   have hV := hI
   apply J.exit; simp
   apply J.seq
   refine J.regE (by simp [eS]; rfl) ?_
   simp
   apply J.ret
   refine ⟨by simp, rfl, _, [], by simp [a19R]; rfl, ?_⟩
   first | (simp [hI3]; done) | (simp [hR, hV]; done) | trace_state
theorem sameC_iff {a b : Chan} : sameC a b = true ↔ a = b := by
 obtain ⟨i, o, m⟩ := a; obtain ⟨i', o', m'⟩ := b
 simp [sameC, sameI_eq]
theorem sameT_iff : ∀ {a b : List Told}, a.length = b.length → (sameR a b = true ↔ a = b)
 | [], [], _ => by simp [sameR]
 | [], _ :: _, h => by simp at h
 | _ :: _, [], h => by simp at h
 | x :: r, y :: q, h => by
  simp only [sameR, Bool.and_eq_true, eqT_eq, sameT_iff (a := r) (b := q) (by simpa using h), List.cons.injEq]
theorem sameW_iff {a b : Win} : sameW a b = true ↔ a = b := by
 obtain ⟨i, l⟩ := a; obtain ⟨i', l'⟩ := b
 simp only [sameW, Bool.and_eq_true, beq_iff_eq, Win.mk.injEq]
 constructor
 ·rintro ⟨h1, h2, h3⟩; exact ⟨h1, (sameT_iff h2).1 h3⟩
 ·rintro ⟨h1, h2⟩; subst h2; exact ⟨h1, rfl, (sameT_iff rfl).2 rfl⟩
theorem samePR_iff : ∀ {a b : List Post}, a.length = b.length → (P16.sameR a b = true ↔ a = b)
 | [], [], _ => by simp [P16.sameR]
 | [], _ :: _, h => by simp at h
 | _ :: _, [], h => by simp at h
 | x :: r, y :: q, h => by
  simp only [P16.sameR, Bool.and_eq_true, eqP_iff, samePR_iff (a := r) (b := q) (by simpa using h), List.cons.injEq]
theorem sameP_iff {a b : List Post} : P16.sameP a b = true ↔ a = b := by
 simp only [P16.sameP, Bool.and_eq_true, beq_iff_eq]
 constructor
 ·rintro ⟨h2, h3⟩; exact (samePR_iff h2).1 h3
 ·rintro rfl; exact ⟨rfl, (samePR_iff rfl).2 rfl⟩
theorem room_ext {y z : Room} (h1 : y.c = z.c) (h2 : y.posts = z.posts) : y = z := by cases y; cases z; simp at h1 h2; subst h1; subst h2; rfl
theorem pers_ext {y z : Pers} (h1 : y.user = z.user) (h2 : y.w = z.w) : y = z := by cases y; cases z; simp at h1 h2; subst h1; subst h2; rfl
def I13a (a b : Sta) (m : Nat) (st : St) : Prop := ∃ i : Nat, i ≤ a.rooms.length ∧ m = a.rooms.length - i ∧ (a.rooms.drop i = b.rooms.drop i ↔ a.rooms = b.rooms) ∧ st = ⟨[(2, .ptr 13002 0 0 0), (3, .ptr 13003 0 0 0), (5, iv (i : Nat))], [(13002, .obj 27 (eS a)), (13003, .obj 27 (eS b))], []⟩
def I13b (a b : Sta) (m : Nat) (st : St) : Prop := ∃ i : Nat, i ≤ a.persons.length ∧ m = a.persons.length - i ∧ (a.persons.drop i = b.persons.drop i ↔ a.persons = b.persons) ∧ st = ⟨[(2, .ptr 13002 0 0 0), (3, .ptr 13003 0 0 0), (8, iv (i : Nat))], [(13002, .obj 27 (eS a)), (13003, .obj 27 (eS b))], []⟩
theorem c13 : chkFn Tryz.prog 13 102 2 a13 a13R = true := by kernel_rfl
set_option maxHeartbeats 4000000 in
theorem d13 (a b : Sta) {n : Nat} (hn : n < 900000) (ha : FitS n a) (hb : FitS n b) : DoesT 13 [.agg (eS a), .agg (eS b)] (bv (eqB a b)) := by
 have la1 := ha.l1 (n := n) (by omega)
 have la2 := ha.l2 (n := n) (by omega)
 have lb1 := hb.l1 (n := n) (by omega)
 have lb2 := hb.l2 (n := n) (by omega)
 refine Does.of (nt := 102) (ac := a13) (rds := a13R) c13 (fun c hc => ?_)
 unfold a13
 apply J.seq
 refine J.regE (by simp [eS]; rfl) ?_
 simp
 apply J.seq
 apply J.seq
 apply J.reg
 iterate 8 refine runL_step rfl (by simp [eS]; rfl) ?_
 refine runL_if rfl (fun g17 => ?_) (fun g17 => ?_)
 ·
  try simp only [g17]
  try simp at g17
  iterate 8 refine runL_step rfl (by simp [eS]; rfl) ?_
  simp [runL]
  refine J.condB rfl (fun h25 => ?_) (fun h25 => ?_)
  ·
   simp at h25
   have e : eqB a b = false := eqB_no (fun h => by subst h; omega)
   apply J.seq
   refine J.regE (by simp [eS]; rfl) ?_
   simp
   apply J.ret
   refine ⟨by simp, rfl, _, [], by simp [a13R]; rfl, ?_⟩
   simp [e]
  ·
   simp at h25
   have hl1 : a.rooms.length = b.rooms.length := by omega
   have hl2 : a.persons.length = b.persons.length := by omega
   apply J.skip; simp
   apply J.seq
   apply J.seq
   refine J.regE (by simp [eS]; rfl) ?_
   simp
   apply J.block
   refine J.loop hc (I13a a b) ?_ ?_
   ·exact ⟨_, _, St.le_refl _, 0, by omega, rfl, by simp, by simp [eS]⟩
   rintro n st ⟨i, hi, rfl, hI, rfl⟩
   apply J.seq
   apply J.seq
   refine J.regE (by simp [eS]; rfl) ?_
   simp
   apply J.cond; simp [eS]
   refine ⟨fun hlt => ?_, fun hlt => ?_⟩
   ·
    obtain ⟨y, hx, hgx, hg, hge, hdr, hw, hlt2, hset, hxm⟩ := getR (show i < a.rooms.length by omega) la1
    obtain ⟨z, hz, hgz, hzg, hzge, hzdr, _, hzlt, hzset, hzm⟩ := getR (show i < b.rooms.length by omega) lb1
    simp only [eR] at hg hge hzg hzge
    rw [hdr, hzdr, List.cons.injEq] at hI
    have h25' := d25 y.c z.c (by have := (ha.2.2.1 y hxm).1; omega) (by have := (hb.2.2.1 z hzm).1; omega)
    have h26' := P16.d13 y.posts z.posts (by have := (ha.2.2.1 y hxm).2.len; omega)
    obtain ⟨b1, hb1⟩ : ∃ b, sameC y.c z.c = b := ⟨_, rfl⟩
    obtain ⟨b2, hb2⟩ : ∃ b, P16.sameP y.posts z.posts = b := ⟨_, rfl⟩
    rw [hb1] at h25'
    rw [hb2] at h26'
    apply J.skip; simp
    apply J.seq
    apply J.block
    apply J.seq
    apply J.draw; intro c' hc'
    iterate 12 refine runP_stepQ (by simp [eS, hlt2, hg, hge, hlt, hzg, hzge, hzlt]; rfl) ?_
    refine runP_tree rfl (h25') (by simp) rfl ?_
    simp
    refine runP_stepQ (by simp [eS, hlt2, hg, hge, hlt, hzg, hzge, hzlt]; rfl) ?_
    simp [runP]
    apply J.seq
    apply J.draw; intro c' hc'
    iterate 12 refine runP_stepQ (by simp [eS, hlt2, hg, hge, hlt, hzg, hzge, hzlt]; rfl) ?_
    refine runP_tree rfl (h26') (by simp) rfl ?_
    simp
    refine runP_stepQ (by simp [eS, hlt2, hg, hge, hlt, hzg, hzge, hzlt]; rfl) ?_
    simp [runP]
    apply J.seq
    apply J.reg
    iterate 3 refine runL_step rfl (by simp [eS]; rfl) ?_
    refine runL_if rfl (fun g61 => ?_) (fun g61 => ?_)
    ·
     try simp only [g61]
     try simp at g61
     iterate 3 refine runL_step rfl (by simp [eS]; rfl) ?_
     simp [runL]
     refine J.condB rfl (fun h64 => ?_) (fun h64 => ?_)
     ·
      simp at h64
      have hyz : y ≠ z := fun h => by
       have := sameP_iff.2 (congrArg Room.posts h)
       rw [hb2, h64] at this; cases this
      have e : eqB a b = false := eqB_no (fun h => hyz (hI.2 (by rw [h])).1)
      apply J.seq
      refine J.regE (by simp [eS]; rfl) ?_
      simp
      apply J.ret
      refine ⟨by simp, rfl, _, [], by simp [a13R]; rfl, ?_⟩
      simp [e]
     ·
      simp at h64
      rw [g61] at hb1
      rw [h64] at hb2
      have hyz : y = z := room_ext (sameC_iff.1 hb1) (sameP_iff.1 hb2)
      have hI2 : a.rooms.drop (i + 1) = b.rooms.drop (i + 1) ↔ a.rooms = b.rooms := ⟨fun h => hI.1 ⟨hyz, h⟩, fun h => (hI.2 h).2⟩
      apply J.skip; simp
      refine J.regE (by simp [eS, hw]; rfl) ?_
      simp
      refine ⟨_, by omega, _, ?_, i + 1, by omega, rfl, hI2, rfl⟩
      apply le_sub <;> simp [eS]
    ·
     try simp only [g61]
     try simp at g61
     have hyz : y ≠ z := fun h => by
      have := sameC_iff.2 (congrArg Room.c h)
      rw [hb1, g61] at this; cases this
     have e : eqB a b = false := eqB_no (fun h => hyz (hI.2 (by rw [h])).1)
     iterate 2 refine runL_step rfl (by simp [eS]; rfl) ?_
     simp [runL]
     apply J.cond; simp [eS]
     apply J.seq
     refine J.regE (by simp [eS]; rfl) ?_
     simp
     apply J.ret
     refine ⟨by simp, rfl, _, [], by simp [a13R]; rfl, ?_⟩
     simp [e]
   ·
    have hie : i = a.rooms.length := by omega
    subst hie
    rw [List.drop_length, List.drop_of_length_le (by omega)] at hI
    have hR : a.rooms = b.rooms := hI.1 rfl
    apply J.exit; simp
    apply J.seq
    apply J.seq
    refine J.regE (by simp [eS]; rfl) ?_
    simp
    apply J.block
    refine J.loop hc (I13b a b) ?_ ?_
    ·exact ⟨_, _, St.le_refl _, 0, by omega, rfl, by simp, by simp [eS]⟩
    rintro n st ⟨i, hi, rfl, hI, rfl⟩
    apply J.seq
    apply J.seq
    refine J.regE (by simp [eS]; rfl) ?_
    simp
    apply J.cond; simp [eS]
    refine ⟨fun hlt => ?_, fun hlt => ?_⟩
    ·
     obtain ⟨y, hx, hgx, hg, hge, hdr, hw, hlt2, hset, hxm⟩ := getV (show i < a.persons.length by omega) la2
     obtain ⟨z, hz, hgz, hzg, hzge, hzdr, _, hzlt, hzset, hzm⟩ := getV (show i < b.persons.length by omega) lb2
     simp only [eV] at hg hge hzg hzge
     rw [hdr, hzdr, List.cons.injEq] at hI
     have h27' := d27 y.w z.w (by have := ha.2.2.2 y hxm; omega) (by have := hb.2.2.2 z hzm; omega)
     obtain ⟨b1, hb1⟩ : ∃ b, sameW y.w z.w = b := ⟨_, rfl⟩
     rw [hb1] at h27'
     apply J.skip; simp
     apply J.seq
     apply J.block
     apply J.seq
     apply J.draw; intro c' hc'
     iterate 12 refine runP_stepQ (by simp [eS, hlt2, hg, hge, hlt, hzg, hzge, hzlt]; rfl) ?_
     refine runP_tree rfl (h27') (by simp) rfl ?_
     simp
     refine runP_stepQ (by simp [eS, hlt2, hg, hge, hlt, hzg, hzge, hzlt]; rfl) ?_
     simp [runP]
     apply J.seq
     apply J.draw; intro c' hc'
     iterate 3 refine runP_stepQ (by simp [eS, hlt2, hg, hge, hlt, hzg, hzge, hzlt]; rfl) ?_
     refine runP_if rfl (fun g87 => ?_) (fun g87 => ?_)
     ·
      try simp only [g87]
      try simp at g87
      iterate 14 refine runP_stepQ (by simp [eS, hlt2, hg, hge, hlt, hzg, hzge, hzlt]; rfl) ?_
      simp [runP]
      refine J.condB rfl (fun h101 => ?_) (fun h101 => ?_)
      ·
       simp at h101
       have hyz : y ≠ z := fun h => h101 (congrArg Pers.user h)
       have e : eqB a b = false := eqB_no (fun h => hyz (hI.2 (by rw [h])).1)
       apply J.seq
       refine J.regE (by simp [eS]; rfl) ?_
       simp
       apply J.ret
       refine ⟨by simp, rfl, _, [], by simp [a13R]; rfl, ?_⟩
       simp [e]
      ·
       simp at h101
       rw [g87] at hb1
       have hyz : y = z := pers_ext h101 (sameW_iff.1 hb1)
       have hI2 : a.persons.drop (i + 1) = b.persons.drop (i + 1) ↔ a.persons = b.persons := ⟨fun h => hI.1 ⟨hyz, h⟩, fun h => (hI.2 h).2⟩
       apply J.skip; simp
       refine J.regE (by simp [eS, hw]; rfl) ?_
       simp
       refine ⟨_, by omega, _, ?_, i + 1, by omega, rfl, hI2, rfl⟩
       apply le_sub <;> simp [eS]
     ·
      try simp only [g87]
      try simp at g87
      have hyz : y ≠ z := fun h => by
       have := sameW_iff.2 (congrArg Pers.w h)
       rw [hb1, g87] at this; cases this
      have e : eqB a b = false := eqB_no (fun h => hyz (hI.2 (by rw [h])).1)
      iterate 13 refine runP_stepQ (by simp [eS, hlt2, hg, hge, hlt, hzg, hzge, hzlt]; rfl) ?_
      simp [runP]
      apply J.cond; simp [eS]
      apply J.seq
      refine J.regE (by simp [eS]; rfl) ?_
      simp
      apply J.ret
      refine ⟨by simp, rfl, _, [], by simp [a13R]; rfl, ?_⟩
      simp [e]
    ·
     have hie : i = a.persons.length := by omega
     subst hie
     rw [List.drop_length, List.drop_of_length_le (by omega)] at hI
     have hV : a.persons = b.persons := hI.1 rfl
     have e : eqB a b = true := eqB_iff.2 (sta_iff.2 ⟨hR, hV⟩)
     apply J.exit; simp
     apply J.seq
     refine J.regE (by simp [eS]; rfl) ?_
     simp
     apply J.ret
     refine ⟨by simp, rfl, _, [], by simp [a13R]; rfl, ?_⟩
     simp [e]
 ·
  try simp only [g17]
  try simp at g17
  have e : eqB a b = false := eqB_no (fun h => by subst h; omega)
  iterate 7 refine runL_step rfl (by simp [eS]; rfl) ?_
  simp [runL]
  apply J.cond; simp [eS]
  apply J.seq
  refine J.regE (by simp [eS]; rfl) ?_
  simp
  apply J.ret
  refine ⟨by simp, rfl, _, [], by simp [a13R]; rfl, ?_⟩
  simp [e]
def lastW (u : Int) : Win → List Pers → Win
 | w, [] => w
 | w, p :: r => lastW u (if p.user = u then p.w else w) r
theorem lastW_up {u : Int} : ∀ {l : List Pers} {w : Win}, Up kV l → lastW u w l = match l.find? (fun p => decide (kV p = u)) with | some p => p.w | none => w
 | [], w, _ => rfl
 | p :: r, w, h => by
  obtain ⟨h1, h2⟩ := List.pairwise_cons.1 h
  simp only [lastW]
  rw [lastW_up h2]
  by_cases e : p.user = u
  ·have hn : r.find? (fun p => decide (kV p = u)) = none := by
    rw [List.find?_eq_none]
    intro q hq
    have h3 : p.user < q.user := h1 q hq
    simp only [decide_eq_true_eq]
    intro h4
    have h4 : q.user = u := h4
    omega
   rw [hn, if_pos e]
   simp [List.find?, kV, e]
  ·rw [if_neg e]
   simp [List.find?, kV, e]
theorem lastW_win {s : Sta} {u : Int} (h : Up kV s.persons) : lastW u noW s.persons = winOf s u := by rw [lastW_up h]; rfl
def I18 (s : Sta) (m : Cmd) (mm : Nat) (st : St) : Prop := ∃ (i : Nat) (w : Win), i ≤ s.persons.length ∧ mm = s.persons.length - i ∧ lastW m.user noW s.persons = lastW m.user w (s.persons.drop i) ∧ st = ⟨[(2, .ptr 18002 0 0 0), (3, .ptr 18003 0 0 0), (4, .ptr 18004 0 0 0), (5, .ptr 18005 0 0 0), (10, .ptr 18010 0 0 0), (11, iv (i : Nat))], [(18002, .obj 27 (eS s)), (18003, .obj 36 (eM m)), (18004, .obj 27 [.ro 4 [], .ro 3 []]), (18005, .obj 39 [iv 0, iv 0, sv ⟨#[]⟩]), (18010, .obj 60 (eW w))], []⟩
def eqAns (x y : Ans) : Bool := x.e == y.e && (x.n == y.n && x.text.toList == y.text.toList)
theorem eqAns_iff {x y : Ans} : eqAns x y = true ↔ x = y := by
 obtain ⟨a, b, t⟩ := x; obtain ⟨a', b', t'⟩ := y
 simp only [eqAns, Bool.and_eq_true, beq_iff_eq]
 constructor
 ·rintro ⟨rfl, rfl, h⟩
  have : t = t' := by cases t; cases t'; simp [ByteArray.toList_eq] at h ⊢; exact h
  rw [this]
 ·rintro h; injection h with h1 h2 h3; subst h1 h2 h3; simp
theorem getA {l : List Ans} {i : Nat} (h : i < l.length) (hf : l.length < 1000000) : ∃ x, l[i]? = some x ∧ (∀ h, l[i]'h = x) ∧ (eAs l)[i]? = some (eA x) ∧ (∀ h, (eAs l)[i]'h = eA x) ∧ l.drop i = x :: l.drop (i + 1) ∧ IntKind.i64.wrap ((i : Int) + 1) = (i : Int) + 1 ∧ (i : Int) < (l.length : Int) ∧ (eAs l).set i (eA x) = eAs l ∧ x ∈ l := getM eA h hf
def I14 (a b : List Ans) (m : Nat) (st : St) : Prop := ∃ i : Nat, i ≤ a.length ∧ m = a.length - i ∧ (a.drop i = b.drop i ↔ a = b) ∧ st = ⟨[(0, .ro 3 (eAs a)), (1, .ro 3 (eAs b)), (5, iv (i : Nat))], [], []⟩
def I12 (s : Sta) (l : List Cmd) (n : Nat) (m : Nat) (st : St) : Prop := ∃ (i : Nat) (t : Sta) (o : List Ans), i ≤ l.length ∧ m = l.length - i ∧ FitS (n + i) t ∧ o.length = i ∧ runS s l = ((runS t (l.drop i)).1, o ++ (runS t (l.drop i)).2) ∧ st = ⟨[(1, .ro 6 (eMs l)), (2, .ptr 12002 0 0 0), (4, .ptr 12004 0 0 0), (6, .own 12029 3 0 o.length), (7, iv (i : Nat))], [(12002, .obj 27 (eS t)), (12004, .obj 27 [.nils 4, .nils 3]), (12029, .arr 39 3 (eAs o))], []⟩
theorem c14 : chkFn Tryz.prog 14 26 2 a14 a14R = true := by kernel_rfl
theorem d14 (a b : List Ans) (ha : a.length < 1000000) (hb : b.length < 1000000) : DoesT 14 [.ro 3 (eAs a), .ro 3 (eAs b)] (bv (eqB a b)) := by
 refine Does.of (nt := 26) (ac := a14) (rds := a14R) c14 (fun c hc => ?_)
 unfold a14
 apply J.seq
 refine J.regE (by simp; rfl) ?_
 simp
 apply J.seq
 apply J.seq
 refine J.regE (by simp; rfl) ?_
 simp
 refine J.condB rfl (fun h10 => ?_) (fun h10 => ?_)
 ·
  simp at h10
  have e : eqB a b = false := eqB_no (fun h => by subst h; omega)
  apply J.seq
  refine J.regE (by simp; rfl) ?_
  simp
  apply J.ret
  refine ⟨by simp, rfl, _, [], by simp [a14R]; rfl, ?_⟩
  simp [e]
 ·
  simp at h10
  have hlen : a.length = b.length := by omega
  apply J.skip; simp
  apply J.seq
  apply J.seq
  refine J.regE (by simp; rfl) ?_
  simp
  apply J.block
  refine J.loop hc (I14 a b) ?_ ?_
  ·exact ⟨_, _, St.le_refl _, 0, by omega, rfl, by simp, by simp⟩
  rintro n st ⟨i, hi, rfl, hI, rfl⟩
  apply J.seq
  apply J.seq
  refine J.regE (by simp; rfl) ?_
  simp
  apply J.cond; simp
  refine ⟨fun hlt => ?_, fun hlt => ?_⟩
  ·
   obtain ⟨y, hx, hgx, hg, hge, hdr, hw, hlt2, hset, hxm⟩ := getA (show i < a.length by omega) ha
   obtain ⟨z, hz, hgz, hzg, hzge, hzdr, _, hzlt, hzset, hzm⟩ := getA (show i < b.length by omega) hb
   simp only [eA] at hg hge hzg hzge
   rw [hdr, hzdr, List.cons.injEq] at hI
   apply J.skip; simp
   apply J.seq
   apply J.block
   apply J.seq
   apply J.draw; intro c' hc'
   iterate 9 refine runP_stepQ (by simp [hlt2, hg, hge, hlt, hzg, hzge, hzlt]; rfl) ?_
   simp [runP]
   refine J.condB rfl (fun h25 => ?_) (fun h25 => ?_)
   ·
    have hE0 : (!(eqAns y z)) = true := by simp only [eqAns, Bool.not_and]; exact h25
    have hyz : y ≠ z := fun h => by rw [eqAns_iff.2 h] at hE0; cases hE0
    have e : eqB a b = false := eqB_no (fun h => hyz (hI.2 h).1)
    apply J.seq
    refine J.regE (by simp; rfl) ?_
    simp
    apply J.ret
    refine ⟨by simp, rfl, _, [], by simp [a14R]; rfl, ?_⟩
    simp [e]
   ·
    have hE0 : (!(eqAns y z)) = false := by simp only [eqAns, Bool.not_and]; exact h25
    have hyz : y = z := eqAns_iff.1 (by simpa using hE0)
    have hI2 : a.drop (i + 1) = b.drop (i + 1) ↔ a = b := ⟨fun h => hI.1 ⟨hyz, h⟩, fun h => (hI.2 h).2⟩
    apply J.skip; simp
    refine J.regE (by simp [hw]; rfl) ?_
    simp
    exact ⟨_, by omega, _, St.le_refl _, i + 1, by omega, rfl, hI2, by simp⟩
  ·
   have hie : i = a.length := by omega
   subst hie
   rw [List.drop_length, List.drop_of_length_le (by omega)] at hI
   have e : eqB a b = true := eqB_iff.2 (hI.1 rfl)
   apply J.exit; simp
   apply J.seq
   refine J.regE (by simp; rfl) ?_
   simp
   apply J.ret
   refine ⟨by simp, rfl, _, [], by simp [a14R]; rfl, ?_⟩
   simp [e]
theorem c18 : chkFn Tryz.prog 18 108 2 a18 a18R = true := by kernel_rfl
set_option maxHeartbeats 4000000 in
theorem d18 (s : Sta) (m : Cmd) {n : Nat} (hn : n < 900000) (h : FitS n s) : DoesT 18 [.agg (eS s), .agg (eM m)] (.tup [.agg (eS (applyS s m).1), .agg (eA (applyS s m).2)]) := by
 have hn' : n < 1000000 := by omega
 obtain ⟨A0, hA0⟩ : ∃ A, mayS s = A := ⟨_, rfl⟩
 obtain ⟨B0, hB0⟩ : ∃ B, mayM m = B := ⟨_, rfl⟩
 have h19 := d19 s hn h
 rw [hA0] at h19
 have h47 := d47 m
 rw [hB0] at h47
 refine Does.of (nt := 108) (ac := a18) (rds := a18R) c18 (fun c hc => ?_)
 unfold a18
 apply J.seq
 refine J.regE (by simp [eS, eM, eW, eA, eV]; rfl) ?_
 simp
 refine J.nz hc ?_
 simp
 apply J.seq
 apply J.reg
 refine runL_step rfl (by simp [eS, eM, eW, eA, eV]; rfl) ?_
 refine runL_tree rfl (h19) (by simp) hc ?_
 simp
 refine runL_step rfl (by simp [eS, eM, eW, eA, eV]; rfl) ?_
 simp [runL]
 apply J.seq
 apply J.reg
 refine runL_step rfl (by simp [eS, eM, eW, eA, eV]; rfl) ?_
 refine runL_tree rfl (h47) (by simp) hc ?_
 simp
 refine runL_step rfl (by simp [eS, eM, eW, eA, eV]; rfl) ?_
 simp [runL]
 apply J.seq
 apply J.seq
 apply J.reg
 iterate 3 refine runL_step rfl (by simp [eS, eM, eW, eA, eV]; rfl) ?_
 refine runL_if rfl (fun g27 => ?_) (fun g27 => ?_)
 ·
  try simp only [g27]
  try simp at g27
  iterate 3 refine runL_step rfl (by simp [eS, eM, eW, eA, eV]; rfl) ?_
  simp [runL]
  refine J.condB rfl (fun h30 => ?_) (fun h30 => ?_)
  ·
   obtain rfl : B0 = false := by simpa using h30
   apply J.seq
   apply J.reg
   refine runL_step rfl (by simp [eS, eM, eW, eA, eV]; rfl) ?_
   refine runL_tree rfl (d48 s _) (by simp) hc ?_
   simp
   iterate 7 refine runL_step rfl (by simp [eS, eM, eW, eA, eV]; rfl) ?_
   simp [runL]
   apply J.seq
   apply J.draw; intro c' hc'
   iterate 2 refine runP_stepQ (by simp [eS, eM, eW, eA, eV]; rfl) ?_
   refine runP_one rfl (by simp) (by simp [eS, eM, eW, eA, eV]; rfl) ?_
   refine runP_one rfl (by simp) (by simp [eS, eM, eW, eA, eV]; rfl) ?_
   simp [runP]
   apply J.ret
   refine ⟨by simp, rfl, _, [], by simp [a18R]; rfl, ?_⟩
   rw [apply_may (.inr hB0)]; simp [eS, eA]
  ·
   obtain rfl : B0 = true := by simpa using h30
   subst g27
   obtain ⟨huR, huV⟩ := mayS_up hA0
   apply J.skip; simp
   apply J.seq
   apply J.seq
   refine J.regE (by simp [eS, eM, eW, eA, eV]; rfl) ?_
   simp
   refine J.condB rfl (fun h40 => ?_) (fun h40 => ?_)
   ·
    simp at h40
    apply J.seq
    refine J.regE (by simp [eS, eM, eW, eA, eV]; rfl) ?_
    simp
    apply J.ret
    refine ⟨by simp, rfl, _, [], by simp [a18R]; rfl, ?_⟩
    rw [apply_nop hA0 hB0 h40]; simp [eS, eA, noA]
   ·
    simp at h40
    obtain ⟨h7, htx⟩ := mayM_kind hB0 h40
    apply J.skip; simp
    apply J.seq
    refine J.regE (by simp [eS, eM, eW, eA, eV]; rfl) ?_
    simp
    refine J.nz hc ?_
    simp
    apply J.seq
    apply J.seq
    refine J.regE (by simp [eS, eM, eW, eA, eV]; rfl) ?_
    simp
    apply J.block
    refine J.loop hc (I18 s m) ?_ ?_
    ·exact ⟨_, _, St.le_refl _, 0, noW, by omega, rfl, rfl, by simp [eS, eM, eW, noW]⟩
    rintro n st ⟨i, w, hi, rfl, hI, rfl⟩
    apply J.seq
    apply J.seq
    refine J.regE (by simp [eS, eM, eW, eA, eV]; rfl) ?_
    simp
    apply J.cond; simp [eS, eM, eW, eA, eV]
    refine ⟨fun hlt => ?_, fun hlt => ?_⟩
    ·
     obtain ⟨y, hx, hgx, hg, hge, hdr, hw, hlt2, hset, hxm⟩ := getV (show i < s.persons.length by omega) (h.l2 hn')
     simp only [eV] at hg hge
     rw [hdr] at hI
     simp only [lastW] at hI
     apply J.skip; simp
     apply J.seq
     apply J.block
     apply J.seq
     apply J.draw; intro c' hc'
     iterate 9 refine runP_stepQ (by simp [eS, eM, eW, eA, eV, hlt2, hg, hge, hlt]; rfl) ?_
     simp [runP]
     refine J.condB rfl (fun h59 => ?_) (fun h59 => ?_)
     ·
      simp at h59
      rw [if_pos h59] at hI
      have hI2 := hI
      refine J.regE (by simp [eS, eM, eW, eA, eV, hlt2, hg, hge, hlt]; rfl) ?_
      simp
      refine J.regE (by simp [eS, eM, eW, eA, eV, hw]; rfl) ?_
      simp
      refine ⟨_, by omega, _, ?_, i + 1, y.w, by omega, rfl, hI2, rfl⟩
      apply le_sub <;> simp [eS, eM, eW]
     ·
      simp at h59
      rw [if_neg h59] at hI
      have hI2 := hI
      apply J.skip; simp
      refine J.regE (by simp [eS, eM, eW, eA, eV, hw]; rfl) ?_
      simp
      refine ⟨_, by omega, _, ?_, i + 1, w, by omega, rfl, hI2, rfl⟩
      apply le_sub <;> simp [eS, eM, eW]
    ·
     have hie : i = s.persons.length := by omega
     subst hie
     rw [List.drop_length] at hI
     simp only [lastW] at hI
     rw [lastW_win huV] at hI
     have hwl : w.l.length < 1000000 := by have := win_fit m.user h; rw [hI] at this; omega
     obtain ⟨L, hL⟩ : ∃ L, lookW w m.seq = L := ⟨_, rfl⟩
     obtain ⟨A, is, er⟩ := L
     have h49 := d49 w m.seq hwl
     rw [hL] at h49
     simp only at h49
     have hL2 : lookW (winOf s m.user) m.seq = (A, is, er) := by rw [hI, hL]
     apply J.exit; simp
     apply J.seq
     apply J.reg
     iterate 3 refine runL_step rfl (by simp [eS, eM, eW, eA, eV]; rfl) ?_
     refine runL_tree rfl (h49) (by simp) hc ?_
     simp
     iterate 8 refine runL_step rfl (by simp [eS, eM, eW, eA, eV]; rfl) ?_
     simp [runL]
     apply J.seq
     apply J.seq
     refine J.regE (by simp [eS, eM, eW, eA, eV]; rfl) ?_
     simp
     refine J.condB rfl (fun h75 => ?_) (fun h75 => ?_)
     ·
      simp at h75
      apply J.seq
      apply J.reg
      iterate 2 refine runL_step rfl (by simp [eS, eM, eW, eA, eV]; rfl) ?_
      refine runL_tree rfl (d48 s _) (by simp) hc ?_
      simp
      iterate 7 refine runL_step rfl (by simp [eS, eM, eW, eA, eV]; rfl) ?_
      simp [runL]
      apply J.seq
      apply J.draw; intro c' hc'
      iterate 2 refine runP_stepQ (by simp [eS, eM, eW, eA, eV]; rfl) ?_
      refine runP_one rfl (by simp) (by simp [eS, eM, eW, eA, eV]; rfl) ?_
      refine runP_one rfl (by simp) (by simp [eS, eM, eW, eA, eV]; rfl) ?_
      simp [runP]
      apply J.ret
      refine ⟨by simp, rfl, _, [], by simp [a18R]; rfl, ?_⟩
      rw [apply_err hA0 hB0 h40 hL2 h75]; simp [eS, eA]
     ·
      simp at h75
      subst h75
      apply J.skip; simp
      apply J.seq
      apply J.seq
      refine J.regE (by simp [eS, eM, eW, eA, eV]; rfl) ?_
      simp
      refine J.condB rfl (fun h84 => ?_) (fun h84 => ?_)
      ·
       apply J.seq
       apply J.draw; intro c' hc'
       iterate 2 refine runP_stepQ (by simp [eS, eM, eW, eA, eV]; rfl) ?_
       refine runP_one rfl (by simp) (by simp [eS, eM, eW, eA, eV]; rfl) ?_
       refine runP_one rfl (by simp) (by simp [eS, eM, eW, eA, eV]; rfl) ?_
       simp [runP]
       apply J.ret
       refine ⟨by simp, rfl, _, [], by simp [a18R]; rfl, ?_⟩
       rw [apply_is hA0 hB0 h40 hL2 h84]; simp [eS, eA]
      ·
       subst h84
       have h51 := d51 w m.seq (doesS s m).2 hwl
       have h52 := d52 (doesS s m).1 ⟨m.user, (putW w m.seq (doesS s m).2).1⟩ (by rw [does_p]; exact huV) (by rw [does_p]; have := h.2.1; omega)
       apply J.skip; simp
       apply J.seq
       apply J.reg
       iterate 2 refine runL_step rfl (by simp [eS, eM, eW, eA, eV]; rfl) ?_
       refine runL_tree rfl (d50 s m huR hn h h7 (by omega)) (by simp) hc ?_
       simp
       iterate 7 refine runL_step rfl (by simp [eS, eM, eW, eA, eV]; rfl) ?_
       simp [runL]
       apply J.seq
       apply J.reg
       iterate 4 refine runL_step rfl (by simp [eS, eM, eW, eA, eV]; rfl) ?_
       refine runL_tree rfl (h51) (by simp) hc ?_
       simp
       iterate 6 refine runL_step rfl (by simp [eS, eM, eW, eA, eV]; rfl) ?_
       simp [runL]
       apply J.seq
       refine J.drawT rfl hc (fun c' hs' hc' => ?_)
       iterate 6 refine runP_stepQ (by simp [eS, eM, eW, eA, eV]; rfl) ?_
       refine runP_treeT rfl (h52) (by simp) hs' ?_
       simp
       refine runP_one rfl (by simp) (by simp [eS, eM, eW, eA, eV]; rfl) ?_
       refine runP_one rfl (by simp) (by simp [eS, eM, eW, eA, eV]; rfl) ?_
       simp [runP]
       apply J.ret
       refine ⟨by simp, rfl, _, [], by simp [a18R]; rfl, ?_⟩
       rw [apply_do hA0 hB0 h40 hL2, hI]; simp [eS, eA, withP]
 ·
  try simp only [g27]
  try simp at g27
  iterate 2 refine runL_step rfl (by simp [eS, eM, eW, eA, eV]; rfl) ?_
  simp [runL]
  apply J.cond; simp [eS, eM, eW, eA, eV]
  apply J.seq
  apply J.reg
  refine runL_step rfl (by simp [eS, eM, eW, eA, eV]; rfl) ?_
  refine runL_tree rfl (d48 s _) (by simp) hc ?_
  simp
  iterate 7 refine runL_step rfl (by simp [eS, eM, eW, eA, eV]; rfl) ?_
  simp [runL]
  apply J.seq
  apply J.draw; intro c' hc'
  iterate 2 refine runP_stepQ (by simp [eS, eM, eW, eA, eV]; rfl) ?_
  refine runP_one rfl (by simp) (by simp [eS, eM, eW, eA, eV]; rfl) ?_
  refine runP_one rfl (by simp) (by simp [eS, eM, eW, eA, eV]; rfl) ?_
  simp [runP]
  apply J.ret
  refine ⟨by simp, rfl, _, [], by simp [a18R]; rfl, ?_⟩
  rw [apply_may (.inl (by rw [hA0, g27]))]; simp [eS, eA]
theorem c12 : chkFn Tryz.prog 12 32 2 a12 a12R = true := by kernel_rfl
set_option maxHeartbeats 4000000 in
theorem d12 (s : Sta) (l : List Cmd) {n : Nat} (hn : n + l.length < 900000) (h8 : 8 ≤ n) (h : FitS n s) : DoesT 12 [.agg (eS s), .ro 6 (eMs l)] (.tup [.agg (eS (runS s l).1), .ro 3 (eAs (runS s l).2)]) := by
 refine Does.of (nt := 32) (ac := a12) (rds := a12R) c12 (fun c hc => ?_)
 unfold a12
 apply J.seq
 refine J.regE (by simp [eS, eA]; rfl) ?_
 simp
 apply J.seq
 refine J.regE (by simp [eS, eA]; rfl) ?_
 simp
 refine J.nilrow hc 6 12029 39 rfl rfl rfl ?_
 simp
 apply J.seq
 apply J.seq
 refine J.regE (by simp [eS, eA]; rfl) ?_
 simp
 apply J.block
 refine J.loop hc (I12 s l n) ?_ ?_
 ·exact ⟨_, _, St.le_refl _, 0, s, [], by omega, rfl, h, rfl, by simp, by simp [eS, eAs]⟩
 rintro n st ⟨i, t, o, hi, rfl, hft, ho, hR, rfl⟩
 apply J.seq
 apply J.seq
 refine J.regE (by simp [eS, eA]; rfl) ?_
 simp
 apply J.cond; simp [eS, eA]
 refine ⟨fun hlt => ?_, fun hlt => ?_⟩
 ·
  obtain ⟨x, hx, hgx, hg, hge, hdr, hw, hlt2, hset, hxm⟩ := getMm (show i < l.length by omega) (by omega)
  simp only [eM] at hg hge
  rw [hdr] at hR
  have h18 := d18 t x (by omega) hft
  have hft2 := apply_fit (m := x) hft (by omega)
  generalize hQ : applyS t x = q at h18 hft2
  obtain ⟨t2, a2⟩ := q
  have hR2 : runS s l = ((runS t2 (l.drop (i + 1))).1, (o ++ [a2]) ++ (runS t2 (l.drop (i + 1))).2) := by rw [hR]; simp [runS, hQ]
  simp only at h18 hft2
  apply J.skip; simp
  apply J.seq
  apply J.block
  apply J.seq
  refine J.to hc ⟨[(1, .ro 6 (eMs l)), (2, .ptr 12002 0 0 0), (4, .ptr 12004 0 0 0), (6, .own 12029 3 0 o.length), (7, iv (i : Nat)), (8, .ptr 12008 0 0 0), (9, .ptr 12009 0 0 0)], [(12002, .obj 27 (eS t)), (12004, .obj 27 [.nils 4, .nils 3]), (12029, .arr 39 3 (eAs o)), (12008, .obj 27 (eS t2)), (12009, .obj 39 (eA a2))], []⟩ ?_ ?_
  ·refine J.drawT rfl hc (fun c' hs' hc' => ?_)
   repeat' (first
    | (show runP _ _ _ _ (.take _ _ _) _ _; refine runP_stepQ (by simp [eS, eA, eM, hlt2, hg, hge, hlt]; rfl) ?_)
    | (show runP _ _ _ _ (.alt _ ⟨_, none, .callv _ _⟩ _ .done) _ _; refine runP_treeT rfl (h18) (by simp) hs' ?_; simp)
    | (show runP _ _ _ _ (.alt _ _ _ .done) _ _; refine runP_one rfl (by simp) (by simp [eS, eA, eM, hlt2, hg, hge, hlt]; rfl) ?_)
    | refine runP_or ?_ ?_)
   all_goals
    (first | refine le_subF ?_ ?_ ?_ ?_ rfl ?_ | refine ⟨rfl, le_subF ?_ ?_ ?_ ?_ rfl ?_⟩) <;> (repeat' (first | exact trivial | exact rfl | refine ⟨?_, ?_⟩))
  simp
  apply J.seq
  refine J.regE (by simp [eS, eA]; rfl) ?_
  simp
  refine J.regE (by simp [eS, eA, show (o.length + 1) * 32 ≤ 140737488355328 from by omega, eAs_take]; rfl) ?_
  simp
  refine J.regE (by simp [eS, eA, hw]; rfl) ?_
  simp
  refine ⟨_, by omega, _, ?_, i + 1, t2, o ++ [a2], by omega, rfl, hft2, by simp; omega, hR2, rfl⟩
  apply le_sub <;> simp [eS, eAs_snoc, eAs_take, ho]
 ·
  have hie : i = l.length := by omega
  subst hie
  rw [List.drop_length] at hR
  apply J.exit; simp
  apply J.seq
  refine J.regE (by simp [eS, eA]; rfl) ?_
  simp
  refine J.freeze hc 12029 rfl ?_
  simp
  apply J.ret
  refine ⟨by simp, rfl, _, [], by simp [a12R]; rfl, ?_⟩
  rw [hR]; simp [runS, eAs_take, eS]
structure Big (s : Sta) : Prop where
 r : s.rooms.length ≤ 9223372036854775807
 p : s.persons.length ≤ 9223372036854775807
 rr : ∀ r ∈ s.rooms, r.c.mem.length ≤ 9223372036854775807 ∧ r.posts.length ≤ 9223372036854775807
 pp : ∀ p ∈ s.persons, p.w.l.length ≤ 9223372036854775807
def fewRm (r : Room) : Bool := P16.fewP r.posts && decide (r.c.mem.length ≤ 50)
def fewV (p : Pers) : Bool := decide ((p.w.l.length : Int) ≤ 50)
def fewS (s : Sta) : Bool := decide (s.rooms.length ≤ 20) && (decide (s.persons.length ≤ 20) && (s.rooms.all fewRm && s.persons.all fewV))
theorem fewR_txt : ∀ {l : List Post}, P16.fewR l = true → ∀ x ∈ l, x.text.size ≤ 200
 | [], _, x, hx => by cases hx
 | y :: r, h, x, hx => by
  simp only [P16.fewR, Bool.and_eq_true, decide_eq_true_eq] at h
  rcases List.mem_cons.1 hx with rfl | hx
  ·exact h.1
  ·exact fewR_txt h.2 x hx
theorem few_fit {s : Sta} (h : fewS s = true) : FitS 50 s := by
 simp only [fewS, Bool.and_eq_true, decide_eq_true_eq, List.all_eq_true] at h
 obtain ⟨h1, h2, h3, h4⟩ := h
 refine ⟨by omega, by omega, fun r hr => ?_, fun p hp => ?_⟩
 ·have := h3 r hr
  simp only [fewRm, P16.fewP, Bool.and_eq_true, decide_eq_true_eq] at this
  exact ⟨this.2, by omega, fun x hx => by have := fewR_txt this.1.2 x hx; omega⟩
 ·have := h4 p hp
  simp only [fewV, decide_eq_true_eq] at this
  omega
def I16a (s : Sta) (m : Nat) (st : St) : Prop := ∃ i : Nat, i ≤ s.rooms.length ∧ m = s.rooms.length - i ∧ s.rooms.all fewRm = (s.rooms.drop i).all fewRm ∧ st = ⟨[(1, .ptr 16001 0 0 0), (3, iv (i : Nat))], [(16001, .obj 27 (eS s))], []⟩
def I16b (s : Sta) (m : Nat) (st : St) : Prop := ∃ i : Nat, i ≤ s.persons.length ∧ m = s.persons.length - i ∧ s.persons.all fewV = (s.persons.drop i).all fewV ∧ st = ⟨[(1, .ptr 16001 0 0 0), (5, iv (i : Nat))], [(16001, .obj 27 (eS s))], []⟩
def exL : List Cmd := [⟨7, 1, 1, 3, 0, ⟨#[]⟩⟩, ⟨5, 1, 2, 3, 0, ⟨#[]⟩⟩, ⟨5, 2, 4, 3, 0, ⟨#[104, 105]⟩⟩, ⟨7, 2, 7, 3, 1, ⟨#[]⟩⟩, ⟨9, 1, 6, 3, 1, ⟨#[]⟩⟩]
def exA : List Ans := [⟨0, 0, ⟨#[]⟩⟩, ⟨0, 0, ⟨#[]⟩⟩, ⟨0, 1, ⟨#[]⟩⟩, ⟨0, 0, ⟨#[104, 105]⟩⟩, ⟨8, 0, ⟨#[]⟩⟩]
def noS : Sta := ⟨[], []⟩
theorem ex_run : (runS noS exL).2 = exA := by kernel_rfl
theorem fit_no (n : Nat) : FitS n noS := ⟨Nat.zero_le _, Nat.zero_le _, (fun r hr => by cases hr), (fun p hp => by cases hp)⟩
theorem c10 : chkFn Tryz.prog 10 43 0 a10 a10R = true := by kernel_rfl
theorem d10  : DoesT 10 [] (bv true) := by
 have h11 := d11 noS exL (n := 8) (by decide) (by omega) (fit_no 8)
 rw [ex_run] at h11
 refine Does.of (nt := 43) (ac := a10) (rds := a10R) c10 (fun c hc => ?_)
 unfold a10
 apply J.seq
 refine J.regE (by simp; rfl) ?_
 simp
 apply J.seq
 apply J.reg
 refine runL_tree rfl (d24) (by simp) hc ?_
 simp
 refine runL_step rfl (by simp; rfl) ?_
 simp [runL]
 apply J.seq
 apply J.reg
 iterate 7 refine runL_step rfl (by simp [eS]; rfl) ?_
 refine runL_le hc (St.le_trans (le_nz _) (le_freeze _ 10012 rfl)) ?_
 simp
 refine runL_tree rfl (h11) (by simp) hc ?_
 simp
 iterate 6 refine runL_step rfl (by simp [eS]; rfl) ?_
 simp [runL]
 apply J.seq
 apply J.reg
 iterate 28 refine runL_step rfl (by simp [eAs, eA, exA]; rfl) ?_
 simp [runL]
 apply J.ret
 refine ⟨by simp, rfl, _, [], by simp [a10R]; rfl, ?_⟩
 simp
theorem c16 : chkFn Tryz.prog 16 60 1 a16 a16R = true := by kernel_rfl
theorem d16 (s : Sta) (hb : Big s) : DoesT 16 [.agg (eS s)] (bv (fewS s)) := by
 refine Does.of (nt := 60) (ac := a16) (rds := a16R) c16 (fun c hc => ?_)
 unfold a16
 apply J.seq
 refine J.regE (by simp [eS]; rfl) ?_
 simp
 apply J.seq
 apply J.seq
 apply J.reg
 iterate 5 refine runL_step rfl (by simp [eS]; rfl) ?_
 refine runL_if rfl (fun g11 => ?_) (fun g11 => ?_)
 ·
  try simp only [g11]
  try simp at g11
  iterate 5 refine runL_step rfl (by simp [eS]; rfl) ?_
  simp [runL]
  refine J.condB rfl (fun h16 => ?_) (fun h16 => ?_)
  ·
   simp at h16
   have hF : fewS s = false := by simp [fewS, show ¬ s.persons.length ≤ 20 by omega]
   apply J.seq
   refine J.regE (by simp [eS]; rfl) ?_
   simp
   apply J.ret
   refine ⟨by simp, rfl, _, [], by simp [a16R]; rfl, ?_⟩
   first | (simp [hF]; done) | (simp [fewS, hR, hV, show s.rooms.length ≤ 20 by omega, show s.persons.length ≤ 20 by omega]; done) | trace_state
  ·
   simp at h16
   apply J.skip; simp
   apply J.seq
   apply J.seq
   refine J.regE (by simp [eS]; rfl) ?_
   simp
   apply J.block
   refine J.loop hc (I16a s) ?_ ?_
   ·exact ⟨_, _, St.le_refl _, 0, by omega, rfl, by simp, by simp [eS]⟩
   rintro n st ⟨i, hi, rfl, hI, rfl⟩
   apply J.seq
   apply J.seq
   refine J.regE (by simp [eS]; rfl) ?_
   simp
   apply J.cond; simp [eS]
   refine ⟨fun hlt => ?_, fun hlt => ?_⟩
   ·
    obtain ⟨y, hx, hgx, hg, hge, hdr, hw, hlt2, hset, hxm⟩ := getR (show i < s.rooms.length by omega) (by omega)
    simp only [eR] at hg hge
    rw [hdr, List.all_cons] at hI
    have h39 := P16.d10 y.posts (hb.rr y hxm).2
    obtain ⟨b1, hb1⟩ : ∃ b, P16.fewP y.posts = b := ⟨_, rfl⟩
    rw [hb1] at h39
    simp only [fewRm, hb1] at hI
    apply J.skip; simp
    apply J.seq
    apply J.block
    apply J.seq
    apply J.reg
    iterate 6 refine runL_step rfl (by simp [eS, hlt2, hg, hge, hlt]; rfl) ?_
    refine runL_tree rfl (h39) (by simp) hc ?_
    simp
    refine runL_step rfl (by simp [eS, hlt2, hg, hge, hlt]; rfl) ?_
    simp [runL]
    apply J.seq
    apply J.reg
    iterate 3 refine runL_step rfl (by simp [eS, hlt2, hg, hge, hlt]; rfl) ?_
    refine runL_if rfl (fun g33 => ?_) (fun g33 => ?_)
    ·
     try simp only [g33]
     try simp at g33
     iterate 10 refine runL_step rfl (by simp [eS, hlt2, hg, hge, hlt]; rfl) ?_
     simp [runL]
     refine J.condB rfl (fun h43 => ?_) (fun h43 => ?_)
     ·
      simp at h43
      have hF : fewS s = false := by simp only [fewS]; rw [hI]; simp [show ¬ y.c.mem.length ≤ 50 by omega]
      apply J.seq
      refine J.regE (by simp [eS]; rfl) ?_
      simp
      apply J.ret
      refine ⟨by simp, rfl, _, [], by simp [a16R]; rfl, ?_⟩
      first | (simp [hF]; done) | (simp [fewS, hR, hV, show s.rooms.length ≤ 20 by omega, show s.persons.length ≤ 20 by omega]; done) | trace_state
     ·
      simp at h43
      have hI2 : s.rooms.all fewRm = (s.rooms.drop (i + 1)).all fewRm := by rw [hI]; simp [g33, show y.c.mem.length ≤ 50 by omega]
      apply J.skip; simp
      refine J.regE (by simp [eS, hw]; rfl) ?_
      simp
      refine ⟨_, by omega, _, ?_, i + 1, by omega, rfl, hI2, rfl⟩
      apply le_sub <;> simp [eS]
    ·
     try simp only [g33]
     try simp at g33
     have hF : fewS s = false := by simp only [fewS]; rw [hI]; simp [g33]
     iterate 9 refine runL_step rfl (by simp [eS, hlt2, hg, hge, hlt]; rfl) ?_
     simp [runL]
     apply J.cond; simp [eS]
     apply J.seq
     refine J.regE (by simp [eS]; rfl) ?_
     simp
     apply J.ret
     refine ⟨by simp, rfl, _, [], by simp [a16R]; rfl, ?_⟩
     first | (simp [hF]; done) | (simp [fewS, hR, hV, show s.rooms.length ≤ 20 by omega, show s.persons.length ≤ 20 by omega]; done) | trace_state
   ·
    have hie : i = s.rooms.length := by omega
    subst hie
    rw [List.drop_length] at hI
    have hR : s.rooms.all fewRm = true := hI
    apply J.exit; simp
    apply J.seq
    apply J.seq
    refine J.regE (by simp [eS]; rfl) ?_
    simp
    apply J.block
    refine J.loop hc (I16b s) ?_ ?_
    ·exact ⟨_, _, St.le_refl _, 0, by omega, rfl, by simp, by simp [eS]⟩
    rintro n st ⟨i, hi, rfl, hI, rfl⟩
    apply J.seq
    apply J.seq
    refine J.regE (by simp [eS]; rfl) ?_
    simp
    apply J.cond; simp [eS]
    refine ⟨fun hlt => ?_, fun hlt => ?_⟩
    ·
     obtain ⟨y, hx, hgx, hg, hge, hdr, hw, hlt2, hset, hxm⟩ := getV (show i < s.persons.length by omega) (by omega)
     simp only [eV] at hg hge
     rw [hdr, List.all_cons] at hI
     apply J.skip; simp
     apply J.seq
     apply J.block
     apply J.seq
     apply J.reg
     iterate 6 refine runL_step rfl (by simp [eS, hlt2, hg, hge, hlt]; rfl) ?_
     refine runL_tree rfl (d40 y.w) (by simp) hc ?_
     simp
     refine runL_step rfl (by simp [eS, hlt2, hg, hge, hlt]; rfl) ?_
     simp [runL]
     apply J.seq
     refine J.regE (by simp [eS]; rfl) ?_
     simp
     refine J.condB rfl (fun h59 => ?_) (fun h59 => ?_)
     ·
      simp at h59
      have hF : fewS s = false := by simp only [fewS]; rw [hI]; simp [fewV, show ¬ (y.w.l.length : Int) ≤ 50 by omega]
      apply J.seq
      refine J.regE (by simp [eS]; rfl) ?_
      simp
      apply J.ret
      refine ⟨by simp, rfl, _, [], by simp [a16R]; rfl, ?_⟩
      first | (simp [hF]; done) | (simp [fewS, hR, hV, show s.rooms.length ≤ 20 by omega, show s.persons.length ≤ 20 by omega]; done) | trace_state
     ·
      simp at h59
      have hI2 : s.persons.all fewV = (s.persons.drop (i + 1)).all fewV := by rw [hI]; simp [fewV, show (y.w.l.length : Int) ≤ 50 by omega]
      apply J.skip; simp
      refine J.regE (by simp [eS, hw]; rfl) ?_
      simp
      refine ⟨_, by omega, _, ?_, i + 1, by omega, rfl, hI2, rfl⟩
      apply le_sub <;> simp [eS]
    ·
     have hie : i = s.persons.length := by omega
     subst hie
     rw [List.drop_length] at hI
     have hV : s.persons.all fewV = true := hI
     apply J.exit; simp
     apply J.seq
     refine J.regE (by simp [eS]; rfl) ?_
     simp
     apply J.ret
     refine ⟨by simp, rfl, _, [], by simp [a16R]; rfl, ?_⟩
     first | (simp [hF]; done) | (simp [fewS, hR, hV, show s.rooms.length ≤ 20 by omega, show s.persons.length ≤ 20 by omega]; done) | trace_state
 ·
  try simp only [g11]
  try simp at g11
  have hF : fewS s = false := by simp [fewS, show ¬ s.rooms.length ≤ 20 by omega]
  iterate 4 refine runL_step rfl (by simp [eS]; rfl) ?_
  simp [runL]
  apply J.cond; simp [eS]
  apply J.seq
  refine J.regE (by simp [eS]; rfl) ?_
  simp
  apply J.ret
  refine ⟨by simp, rfl, _, [], by simp [a16R]; rfl, ?_⟩
  first | (simp [hF]; done) | (simp [fewS, hR, hV, show s.rooms.length ≤ 20 by omega, show s.persons.length ≤ 20 by omega]; done) | trace_state
end Go.Proofs.YtadbdchbdjkcdaaGreatDoor.F
namespace Go.SX
open Go
def Says (w : World) (xs : List AV) (cs : List Value) : Prop := xs.length = cs.length ∧ ∀ Own : Nat → Prop, (∀ k, ¬ Own k) → ∀ (i : Nat) x, xs[i]? = some x → ∃ v, cs[i]? = some v ∧ one v = true ∧ TRel w Own x v
structure Opens (P : Program) (t : TypeId) {α : Type} (f : α → List AV) : Prop where
  get : ∀ {H : Type} (enc : TypeId × Value → H) (w : World) (base : Nat) (spare : Nat → Bool) (held : Bool) (fuel : Nat) (cs : List Value) (y : DataW H × List MemPlace),
  DataW.trod enc P w base spare held fuel t cs = some y → ∃ a : α, Says w (f a) cs
theorem Says.one {w : World} {v : Value} (h : flat v = true) (h1 : SX.one v = true) : Says w [.lit v] [v] :=
  ⟨rfl, fun Own _ i x hx => by cases i <;> simp at hx; subst hx; exact ⟨v, rfl, h1, .lit h⟩⟩
theorem Says.app {w : World} {xs ys : List AV} {cs ds : List Value} (h : Says w xs cs) (k : Says w ys ds) : Says w (xs ++ ys) (cs ++ ds) := by
  refine ⟨by simp [h.1, k.1], fun Own ho i x hx => ?_⟩
  rcases Nat.lt_or_ge i xs.length with h1 | h1
  · rw [List.getElem?_append_left h1] at hx
    rw [List.getElem?_append_left (by rw [← h.1]; exact h1)]
    exact h.2 Own ho i x hx
  · rw [List.getElem?_append_right h1] at hx
    rw [List.getElem?_append_right (by rw [← h.1]; exact h1), ← h.1]
    exact k.2 Own ho _ x hx
theorem Says.agg {w : World} {xs : List AV} {cs : Array Value} (h : Says w xs cs.toList) {Own : Nat → Prop} (ho : ∀ k, ¬ Own k) : TRel w Own (.agg xs) (.agg cs) :=
  .agg (by simpa using h.1) (fun i x hx => by
    obtain ⟨v, hv, _, ht⟩ := h.2 Own ho i x hx
    have e : cs[i]? = some v := by simpa using hv
    simpa [Array.getD_eq_getD_getElem?, e] using ht)
theorem Says.val {w : World} {x : AV} {v : Value} (h : Says w [x] [v]) {Own : Nat → Prop} (ho : ∀ k, ¬ Own k) : TRel w Own x v := by
  obtain ⟨u, hu, _, ht⟩ := h.2 Own ho 0 x rfl
  simp at hu; subst hu; exact ht
section
variable {P : Program} {t : TypeId}
theorem Opens.int {k : IntKind} (ht : P.underlying t = some (.int k)) : Opens P t (fun n : Int => [.lit (.int k n)]) := ⟨fun _ _ _ _ _ _ _ _ h => by
  obtain ⟨n, rfl, _⟩ := DataW.trod_int ht h
  exact ⟨n, .one rfl rfl⟩⟩
theorem Opens.bool (ht : P.underlying t = some .bool) : Opens P t (fun b : Bool => [.lit (.bool b)]) := ⟨fun _ _ _ _ _ _ _ _ h => by
  obtain ⟨n, rfl, _⟩ := DataW.trod_bool ht h
  exact ⟨n, .one rfl rfl⟩⟩
theorem Opens.str (ht : P.underlying t = some .string) : Opens P t (fun s : ByteArray => [.lit (.string s)]) := ⟨fun _ _ _ _ _ _ _ _ h => by
  obtain ⟨n, rfl, _⟩ := DataW.trod_string ht h
  exact ⟨n, .one rfl rfl⟩⟩
theorem Opens.slice {e : TypeId} {sz : Nat} {α : Type} {f : α → List AV} (ht : P.underlying t = some (.slice e)) (hsz : P.cellsOf e = sz) (hs : 0 < sz) (he : Opens P e f) :
    Opens P t (fun l : { l : List α // l.length ≤ maxLen ∧ ∀ a ∈ l, (f a).length = sz } => [.ro sz (l.1.map f)]) := ⟨fun enc w base spare held fuel cs y h => by
  rcases DataW.trod_slice ht h with ⟨rfl, _⟩ | ⟨a, len, cap, elems, rest, n, _, rfl, _, _, hl, hm, hlen, hE, _⟩
  · refine ⟨⟨[], by simp, by simp⟩, rfl, fun Own ho i x hx => ?_⟩
    cases i <;> simp at hx
    subst hx; exact ⟨_, rfl, rfl, .ronil⟩
  · have hz : ∀ i, i < len → ∃ z : α, (f z).length = sz ∧ ∃ cs : List Value, Says w (f z) cs ∧ ∀ j u, cs[j]? = some u → w.cell? (a.add (i * sz + j)) = some u := fun i hi => by
      have h1 := hE i hi
      obtain ⟨x, hx⟩ : ∃ x, elems[i]? = some x := ⟨elems[i], List.getElem?_eq_getElem (by omega)⟩
      rw [hx, hsz] at h1
      obtain ⟨cs, hcs', hx'⟩ := Option.bind_eq_some_iff.1 h1
      obtain ⟨hl1, hl2⟩ := cells_get hcs'
      obtain ⟨z, hz⟩ := he.get _ _ _ _ _ _ _ _ hx'
      exact ⟨z, by rw [hz.1, hl1], cs, hz, fun j u hu => by rw [← add_add']; exact hl2 j u hu⟩
    classical
    let L : List α := List.ofFn (fun i : Fin len => (hz i.1 i.2).choose)
    have hL : L.length = len := by simp [L]
    have hg : ∀ (j : Nat) p, L[j]? = some p → (f p).length = sz ∧ ∃ cs : List Value, Says w (f p) cs ∧ ∀ i u, cs[i]? = some u → w.cell? (a.add (j * sz + i)) = some u := fun j p hj => by
      simp only [L, List.getElem?_ofFn] at hj
      split at hj
      · rename_i hlt
        injection hj with hj; subst hj
        exact (hz j hlt).choose_spec
      · cases hj
    refine ⟨⟨L, by rw [hL]; omega, fun p hp => by obtain ⟨j, hj, rfl⟩ := List.getElem_of_mem hp; exact (hg j _ (List.getElem?_eq_getElem hj)).1⟩, rfl, fun Own ho i x hx => ?_⟩
    cases i <;> simp at hx
    subst hx
    refine ⟨_, rfl, rfl, ?_⟩
    by_cases hne : L = []
    · have : len = 0 := by rw [← hL, hne]; rfl
      subst this
      simp only [hne, List.map_nil]
      exact .ronil
    · have e : len = (L.map f).length := by simp [hL]
      conv => rhs; rw [e]
      refine TRel.row ⟨hs, fun e he => ?_, ho _, fun i j x hx => ?_⟩ (by simp [hL]; omega)
      · obtain ⟨p, hp, rfl⟩ := List.mem_map.1 he
        obtain ⟨j, hj, rfl⟩ := List.getElem_of_mem hp
        exact (hg j _ (List.getElem?_eq_getElem hj)).1
      · obtain ⟨e, he, hj⟩ := Option.bind_eq_some_iff.1 hx
        rw [List.getElem?_map] at he
        obtain ⟨p, hp, rfl⟩ := Option.map_eq_some_iff.1 he
        obtain ⟨_, cs, hcs, hc⟩ := hg i p hp
        obtain ⟨v, hv, h1, htr⟩ := hcs.2 Own ho j x hj
        exact ⟨v, hc j v hv, h1, htr⟩⟩
structure OpensF (P : Program) (fs : List Field) (off : Nat) {α : Type} (f : α → List AV) : Prop where
  get : ∀ {H : Type} (enc : TypeId × Value → H) (w : World) (base : Nat) (spare : Nat → Bool) (held : Bool) (n : Nat) (cs : List Value),
  (∀ (i : Nat) (fd : Field), fs[i]? = some fd → ∃ y, DataW.trod enc P w base spare held n fd.type ((cs.drop fd.offset).take (P.cellsOf fd.type)) = some y) → ∃ a : α, ∃ m, Says w (f a) ((cs.drop off).take m) ∧ m = (f a).length
theorem OpensF.nil {off : Nat} : OpensF P [] off (fun _ : Unit => []) := ⟨fun _ _ _ _ _ _ _ _ => ⟨(), 0, ⟨by simp, fun _ _ i x hx => by simp at hx⟩, rfl⟩⟩
theorem OpensF.cons {fd : Field} {fs : List Field} {off sz : Nat} {α β : Type} {f : α → List AV} {g : β → List AV} (ho : fd.offset = off) (hsz : P.cellsOf fd.type = sz) (hf : Opens P fd.type f) (hl : ∀ a, (f a).length = sz) (hg : OpensF P fs (off + sz) g) :
    OpensF P (fd :: fs) off (fun p : α × β => f p.1 ++ g p.2) := ⟨fun enc w base spare held n cs h => by
  obtain ⟨y, hy⟩ := h 0 fd rfl
  rw [ho, hsz] at hy
  obtain ⟨a, ha⟩ := hf.get _ _ _ _ _ _ _ _ hy
  obtain ⟨b, m, hb, hm⟩ := hg.get enc w base spare held n cs (fun i fd' hfd => h (i + 1) fd' (by simpa using hfd))
  refine ⟨(a, b), sz + m, ?_, by simp [hl, hm]⟩
  rw [List.take_add, List.drop_drop]
  exact ha.app hb⟩
theorem Opens.struct {fs : List Field} {α β : Type} {f : α → List AV} {g : β → List AV} (ht : P.underlying t = some (.struct fs.toArray)) (hF : OpensF P fs 0 f) (tq : α → β) (hto : ∀ a, g (tq a) = f a) (hl : ∀ b, (g b).length = P.cellsOf t) : Opens P t g := ⟨fun enc w base spare held fuel cs y h => by
  obtain ⟨xs, n, _, _, hlen, hxs, hall⟩ := DataW.trod_struct ht h
  obtain ⟨a, m, ha, hm⟩ := hF.get enc w base spare held n cs (fun i fd hfd => by
    have h2 : fs.toArray[i]? = some fd := by simpa using hfd
    have h3 := hall i fd h2
    have hi : i < xs.length := by rw [hxs]; exact (Array.getElem?_eq_some_iff.1 h2).1
    exact ⟨xs[i], by rw [h3]; exact List.getElem?_eq_getElem hi⟩)
  refine ⟨tq a, ?_⟩
  rw [hto]
  have e : m = cs.length := by rw [hm, ← hto, hl, hlen]
  subst e
  simpa using ha⟩
end
end Go.SX
namespace Go.Proofs.YtadbdchbdjkcdaaGreatDoor.F
open Go Go.SX
theorem lenI {n : Nat} (h : n ≤ maxLen) : n ≤ 9223372036854775807 := by unfold maxLen at h; omega
abbrev L9 : Nat := 9223372036854775807
theorem opn_cmd : Opens Tryz.prog 36 eM := by
  refine Opens.struct Tryz.underlying36 (OpensF.cons rfl (by kernel_rfl) (Opens.int Tryz.underlying3) (fun _ => rfl) (OpensF.cons rfl (by kernel_rfl) (Opens.int Tryz.underlying3) (fun _ => rfl) (OpensF.cons rfl (by kernel_rfl) (Opens.int Tryz.underlying3) (fun _ => rfl)
    (OpensF.cons rfl (by kernel_rfl) (Opens.int Tryz.underlying3) (fun _ => rfl) (OpensF.cons rfl (by kernel_rfl) (Opens.int Tryz.underlying3) (fun _ => rfl) (OpensF.cons rfl (by kernel_rfl) (Opens.str Tryz.underlying9) (fun _ => rfl) OpensF.nil)))))) (fun p => (⟨p.1, p.2.1, p.2.2.1, p.2.2.2.1, p.2.2.2.2.1, p.2.2.2.2.2.1⟩ : Cmd)) (fun _ => rfl) (fun _ => by kernel_rfl)
theorem opn_cmds : Opens Tryz.prog 22 (fun l : { l : List Cmd // l.length ≤ maxLen ∧ ∀ a ∈ l, (eM a).length = 6 } => [.ro 6 (eMs l.1)]) := Opens.slice Tryz.underlying22 (by kernel_rfl) (by omega) opn_cmd
theorem opn_post : Opens Tryz.prog 86 P16.eP := by
  refine Opens.struct Tryz.underlying86 (OpensF.cons rfl (by kernel_rfl) (Opens.int Tryz.underlying3) (fun _ => rfl) (OpensF.cons rfl (by kernel_rfl) (Opens.int Tryz.underlying3) (fun _ => rfl) (OpensF.cons rfl (by kernel_rfl) (Opens.str Tryz.underlying9) (fun _ => rfl)
    (OpensF.cons rfl (by kernel_rfl) (Opens.int Tryz.underlying3) (fun _ => rfl) (OpensF.cons rfl (by kernel_rfl) (Opens.bool Tryz.underlying4) (fun _ => rfl) OpensF.nil))))) (fun p => (⟨p.1, p.2.1, p.2.2.1, p.2.2.2.1, p.2.2.2.2.1⟩ : Post)) (fun _ => rfl) (fun _ => by kernel_rfl)
abbrev SubP := { l : List Post // l.length ≤ maxLen ∧ ∀ a ∈ l, (P16.eP a).length = 5 }
theorem opn_posts : Opens Tryz.prog 50 (fun l : SubP => [.ro 5 (ePs l.1)]) := Opens.slice Tryz.underlying50 (by kernel_rfl) (by omega) opn_post
abbrev SubI := { l : List Int // l.length ≤ maxLen ∧ ∀ a ∈ l, ((fun n : Int => [AV.lit (.int .i64 n)]) a).length = 1 }
theorem opn_ints : Opens Tryz.prog 47 (fun l : SubI => [.ro 1 (ints l.1)]) := Opens.slice Tryz.underlying47 (by kernel_rfl) (by omega) (Opens.int Tryz.underlying3)
theorem opn_chan : Opens Tryz.prog 49 (fun p : Int × Int × SubI => [iv p.1, iv p.2.1, .ro 1 (ints p.2.2.1)]) := by
  refine Opens.struct Tryz.underlying49 (OpensF.cons rfl (by kernel_rfl) (Opens.int Tryz.underlying3) (fun _ => rfl) (OpensF.cons rfl (by kernel_rfl) (Opens.int Tryz.underlying3) (fun _ => rfl) (OpensF.cons (sz := 1) rfl (by kernel_rfl) opn_ints (fun _ => rfl) OpensF.nil))) (fun p => (p.1, p.2.1, p.2.2.1)) (fun _ => rfl) (fun _ => by kernel_rfl)
abbrev SubR := { r : Room // r.c.mem.length ≤ maxLen ∧ r.posts.length ≤ maxLen }
theorem opn_room : Opens Tryz.prog 52 (fun r : SubR => eR r.1) := by
  refine Opens.struct Tryz.underlying52 (OpensF.cons (sz := 3) rfl (by kernel_rfl) opn_chan (fun _ => rfl) (OpensF.cons (sz := 1) rfl (by kernel_rfl) opn_posts (fun _ => rfl) OpensF.nil)) (fun p => (⟨⟨⟨p.1.1, p.1.2.1, p.1.2.2.1⟩, p.2.1.1⟩, p.1.2.2.2.1, p.2.1.2.1⟩ : SubR)) (fun _ => rfl) (fun _ => by kernel_rfl)
theorem opn_ans : Opens Tryz.prog 39 eA := by
  refine Opens.struct Tryz.underlying39 (OpensF.cons rfl (by kernel_rfl) (Opens.int Tryz.underlying37) (fun _ => rfl) (OpensF.cons rfl (by kernel_rfl) (Opens.int Tryz.underlying3) (fun _ => rfl) (OpensF.cons rfl (by kernel_rfl) (Opens.str Tryz.underlying9) (fun _ => rfl) OpensF.nil))) (fun p => (⟨p.1, p.2.1, p.2.2.1⟩ : Ans)) (fun _ => rfl) (fun _ => by kernel_rfl)
theorem opn_told : Opens Tryz.prog 90 eT := by
  refine Opens.struct Tryz.underlying90 (OpensF.cons rfl (by kernel_rfl) (Opens.int Tryz.underlying3) (fun _ => rfl) (OpensF.cons (sz := 3) rfl (by kernel_rfl) opn_ans (fun _ => rfl) OpensF.nil)) (fun p => (⟨p.1, p.2.1⟩ : Told)) (fun _ => rfl) (fun _ => by kernel_rfl)
abbrev SubT := { l : List Told // l.length ≤ maxLen ∧ ∀ a ∈ l, (eT a).length = 4 }
theorem opn_tolds : Opens Tryz.prog 58 (fun l : SubT => [.ro 4 (eTs l.1)]) := Opens.slice Tryz.underlying58 (by kernel_rfl) (by omega) opn_told
theorem opn_win : Opens Tryz.prog 60 (fun p : Int × SubT => [iv p.1, .ro 4 (eTs p.2.1)]) := by
  refine Opens.struct Tryz.underlying60 (OpensF.cons rfl (by kernel_rfl) (Opens.int Tryz.underlying3) (fun _ => rfl) (OpensF.cons (sz := 1) rfl (by kernel_rfl) opn_tolds (fun _ => rfl) OpensF.nil)) (fun p => (p.1, p.2.1)) (fun _ => rfl) (fun _ => by kernel_rfl)
abbrev SubV := { p : Pers // p.w.l.length ≤ maxLen }
theorem opn_pers : Opens Tryz.prog 62 (fun p : SubV => eV p.1) := by
  refine Opens.struct Tryz.underlying62 (OpensF.cons rfl (by kernel_rfl) (Opens.int Tryz.underlying3) (fun _ => rfl) (OpensF.cons (sz := 2) rfl (by kernel_rfl) opn_win (fun _ => rfl) OpensF.nil)) (fun p => (⟨⟨p.1, p.2.1.1, p.2.1.2.1⟩, p.2.1.2.2.1⟩ : SubV)) (fun _ => rfl) (fun _ => by kernel_rfl)
theorem opn_rooms : Opens Tryz.prog 24 (fun l : { l : List SubR // l.length ≤ maxLen ∧ ∀ a ∈ l, (eR a.1).length = 4 } => [.ro 4 (l.1.map fun r => eR r.1)]) := Opens.slice Tryz.underlying24 (by kernel_rfl) (by omega) opn_room
theorem opn_perss : Opens Tryz.prog 25 (fun l : { l : List SubV // l.length ≤ maxLen ∧ ∀ a ∈ l, (eV a.1).length = 3 } => [.ro 3 (l.1.map fun r => eV r.1)]) := Opens.slice Tryz.underlying25 (by kernel_rfl) (by omega) opn_pers
theorem opn_sta : Opens Tryz.prog 27 (fun s : { s : Sta // Big s } => eS s.1) := by
  refine Opens.struct Tryz.underlying27 (OpensF.cons (sz := 1) rfl (by kernel_rfl) opn_rooms (fun _ => rfl) (OpensF.cons (sz := 1) rfl (by kernel_rfl) opn_perss (fun _ => rfl) OpensF.nil)) (fun p => (⟨⟨p.1.1.map Subtype.val, p.2.1.1.map Subtype.val⟩, ?_⟩ : { s : Sta // Big s })) (fun p => ?_) (fun _ => by kernel_rfl)
  · refine ⟨by simpa using lenI p.1.2.1, by simpa using lenI p.2.1.2.1, fun r hr => ?_, fun r hr => ?_⟩
    · obtain ⟨x, _, rfl⟩ := List.mem_map.1 hr; exact ⟨lenI x.2.1, lenI x.2.2⟩
    · obtain ⟨x, _, rfl⟩ := List.mem_map.1 hr; exact lenI x.2
  · simp [eS, eRs, eVs, List.map_map, Function.comp_def]
end Go.Proofs.YtadbdchbdjkcdaaGreatDoor.F
namespace Go.Proofs.YtadbdchbdjkcdaaGreatDoor.P16
open Go Go.SX
theorem fewR_all : ∀ {l : List Post}, fewR l = true → ∀ x ∈ l, x.text.size ≤ 200
 | [], _, x, hx => by simp at hx
 | y :: r, h, x, hx => by
  simp only [fewR, Bool.and_eq_true, decide_eq_true_eq] at h
  rcases List.mem_cons.1 hx with rfl | hx
  ·exact h.1
  ·exact fewR_all h.2 x hx
theorem few_fit {l : List Post} (h : fewP l = true) : Fit l := by
 simp only [fewP, Bool.and_eq_true, decide_eq_true_eq] at h
 exact ⟨by omega, fun x hx => by have := fewR_all h.2 x hx; omega⟩
theorem few_len {l : List Post} (h : fewP l = true) : l.length ≤ 50 := by
 simp only [fewP, Bool.and_eq_true, decide_eq_true_eq] at h; exact h.1
theorem eqP_refl (x : Post) : eqP x x = true := by simp [eqP]
theorem sameR_refl : ∀ l : List Post, sameR l l = true
 | [] => rfl
 | x :: r => by simp [sameR, eqP_refl, sameR_refl r]
theorem sameP_refl (l : List Post) : sameP l l = true := by simp [sameP, sameR_refl]
theorem mayFrom_weak {p : Option Int} {l : List Post} (h : mayFrom p l = true) : mayFrom none l = true := by
 cases l with
 | nil => rfl
 | cons x r => simp only [mayFrom, Bool.and_eq_true] at h ⊢; exact ⟨⟨h.1.1, trivial⟩, h.2⟩
theorem mayFrom_drop : ∀ {k : Nat} {l : List Post}, mayFrom none l = true → mayFrom none (l.drop k) = true
 | 0, l, h => h
 | k + 1, [], h => rfl
 | k + 1, x :: r, h => by
  simp only [mayFrom, Bool.and_eq_true] at h
  exact mayFrom_drop (k := k) (mayFrom_weak h.2)
theorem mayFrom_set {x y : Post} (hn : y.no = x.no) (hy : mayP y = true) : ∀ {l : List Post} {i : Nat} {p : Option Int}, l[i]? = some x → mayFrom p l = true → mayFrom p (l.set i y) = true
 | [], i, p, hx, _ => by simp at hx
 | z :: r, 0, p, hx, h => by
  simp at hx; subst hx
  simp only [List.set_cons_zero, mayFrom, Bool.and_eq_true] at h ⊢
  rw [hn]
  exact ⟨⟨hy, h.1.2⟩, h.2⟩
 | z :: r, i + 1, p, hx, h => by
  simp only [List.set_cons_succ, mayFrom, Bool.and_eq_true] at h ⊢
  exact ⟨h.1, mayFrom_set hn hy (by simpa using hx) h.2⟩
theorem mayFrom_snoc {y : Post} (hy : mayP y = true) : ∀ {l : List Post} {p : Option Int}, mayFrom p l = true → (match l.getLast? with | some x => y.no = x.no + 1 | none => ∀ q, p = some q → y.no = q + 1) → mayFrom p (l ++ [y]) = true
 | [], p, _, hl => by
  cases p with
  | none => simp [mayFrom, hy]
  | some q => simp at hl; simp [mayFrom, hy, hl]
 | [x], p, h, hl => by
  simp only [List.getLast?_singleton] at hl
  simp only [List.cons_append, List.nil_append, mayFrom, Bool.and_eq_true, beq_iff_eq] at h ⊢
  exact ⟨h.1, ⟨hy, hl⟩, trivial⟩
 | x :: z :: r, p, h, hl => by
  have h0 := h
  simp only [mayFrom, Bool.and_eq_true] at h0
  have ih := mayFrom_snoc hy (l := z :: r) (p := some x.no) (by simp only [mayFrom, Bool.and_eq_true]; exact h0.2) (by
   rw [List.getLast?_cons_cons] at hl
   have hne : (z :: r).getLast? ≠ none := by simp
   cases hg : (z :: r).getLast? with
   | none => exact absurd hg hne
   | some q => rw [hg] at hl; exact hl)
  simp only [List.cons_append, mayFrom, Bool.and_eq_true] at ih ⊢
  exact ⟨h0.1, ih⟩
theorem mayPs_nil : mayPs [] = true := rfl
theorem mayP_text {x : Post} (h : mayP x = true) : 1 ≤ x.no ∧ x.no ≤ 1073741824 ∧ 1 ≤ x.user ∧ x.user ≤ 1048576 ∧ 0 ≤ x.edits ∧ x.edits ≤ 1073741824 := by
 simp only [mayP, btw, Bool.and_eq_true, decide_eq_true_eq] at h
 exact ⟨h.1.1.2.1, h.1.1.2.2, h.1.2.1, h.1.2.2, h.2.1, h.2.2⟩
theorem mayPs_fair (l : List Post) : mayPs (fairL l) = true := by
 unfold fairL; split
 ·assumption
 ·rfl
theorem mayPs_set {l : List Post} {i : Nat} {x y : Post} (hx : (fairL l)[i]? = some x) (hn : y.no = x.no) (hy : mayP y = true) : mayPs ((fairL l).set i y) = true := by
 have h1 := fairL_from l
 have h2 := fairL_len l
 simp only [mayPs, Bool.and_eq_true, decide_eq_true_eq, List.length_set]
 exact ⟨mayFrom_set hn hy hx h1, h2⟩
theorem noT_nil : noT ⟨#[]⟩ = true := by kernel_rfl
theorem mayP_edit {x : Post} {s : ByteArray} (hx : mayP x = true) (hg : x.gone = false) (hs : Tryz.mayR s = true) (he : ¬ 1073741824 ≤ x.edits) : mayP { x with text := s, edits := x.edits + 1 } = true := by
 have h := mayP_text hx
 simp [mayP, btw, hg, mayR_noT hs, hs]
 omega
theorem mayP_del {x : Post} (hx : mayP x = true) : mayP { x with text := ⟨#[]⟩, gone := true } = true := by
 have h := mayP_text hx
 simp [mayP, btw, noT_nil]
 omega
theorem mayPs_edit (l : List Post) (no user : Int) (s : ByteArray) : mayPs (editP l no user s).1 = true := by
 unfold editP
 split
 ·rfl
 ·rename_i hs
  split
  ·rfl
  ·rename_i i x hst
   obtain ⟨_, hx, hno, hg⟩ := stopAt_get hst
   simp only [Nat.sub_zero] at hx
   split
   ·rename_i he
    unfold dofE at he ⊢
    split at he <;> rename_i h1
    ·simp at he
    ·split at he <;> rename_i h2
     ·simp at he
     ·rw [if_neg h1, if_neg h2]
      exact mayPs_set hx rfl (mayP_edit (fairL_may x (List.mem_of_getElem? hx)) hg (by simpa using hs) h2)
   ·rfl
theorem mayPs_del (l : List Post) (no user owner : Int) : mayPs (delP l no user owner).1 = true := by
 unfold delP
 split
 ·rfl
 ·rename_i i x hst
  obtain ⟨_, hx, hno, hg⟩ := stopAt_get hst
  simp only [Nat.sub_zero] at hx
  split
  ·rename_i he
   unfold dofD at he ⊢
   split at he <;> rename_i h1
   ·simp at he
   ·rw [if_neg h1]
    exact mayPs_set hx rfl (mayP_del (fairL_may x (List.mem_of_getElem? hx)))
  ·rfl
theorem last_new (l : List Post) : match (fairL l).getLast? with | some x => lastP l + 1 = x.no + 1 | none => lastP l = 0 := by
 unfold lastP
 cases (fairL l).getLast? <;> rfl
theorem mayFrom_add (l : List Post) (user : Int) (s : ByteArray) (hu : btw user 1 1048576 = true) (hs : Tryz.mayR s = true) (hl : ¬ 1073741824 ≤ lastP l) : mayFrom none (fairL l ++ [⟨lastP l + 1, user, s, 0, false⟩]) = true := by
 have hb := lastP_bd l
 refine mayFrom_snoc ?_ (fairL_from l) ?_
 ·have h1 : btw (lastP l + 1) 1 1073741824 = true := by simp [btw]; omega
  simp [mayP, hu, mayR_noT hs, hs, h1]
  simp [btw]
 ·have := last_new l
  cases hg : (fairL l).getLast? with
  | none => simp
  | some x => rw [hg] at this; exact this
theorem mayPs_add (l : List Post) (user : Int) (s : ByteArray) : mayPs (addP l user s).1 = true := by
 unfold addP
 split
 ·rfl
 ·rename_i h1
  split
  ·rfl
  ·rename_i h2
   have hm := mayFrom_add l user s (by simp only [not_or] at h1; simpa using h1.1) (by simp only [not_or] at h1; simpa using h1.2) h2
   have hlen := fairL_len l
   simp only [mayPs, Bool.and_eq_true, decide_eq_true_eq, List.length_drop]
   exact ⟨mayFrom_drop hm, by omega⟩
end Go.Proofs.YtadbdchbdjkcdaaGreatDoor.P16
namespace Go.Proofs.YtadbdchbdjkcdaaGreatDoor.F
open Go Go.SX
theorem up_ris {α : Type} {k : α → Int} : ∀ {l : List α} {p : Option Int}, Up k l → (∀ q, p = some q → ∀ x ∈ l, q < k x) → risF p (l.map k) = true
  | [], _, _, _ => rfl
  | x :: r, p, h, hp => by
    obtain ⟨h1, h2⟩ := List.pairwise_cons.1 h
    simp only [List.map_cons, risF, Bool.and_eq_true]
    refine ⟨?_, up_ris h2 (fun q hq y hy => by injection hq with hq; subst hq; exact h1 y hy)⟩
    cases p with
    | none => rfl
    | some q => exact decide_eq_true (hp q rfl x (List.mem_cons_self ..))
theorem mayS_iff {s : Sta} : mayS s = true ↔ (∀ r ∈ s.rooms, badR r = false) ∧ (∀ p ∈ s.persons, badV p = false) ∧ Up kR s.rooms ∧ Up kV s.persons := by
  constructor
  · intro h
    have hu := mayS_up h
    simp only [mayS, Bool.and_eq_true, Bool.not_eq_true', List.any_eq_false] at h
    exact ⟨fun r hr => by simpa using h.1 r hr, fun p hp => by simpa using h.2.1 p hp, hu.1, hu.2⟩
  · rintro ⟨h1, h2, h3, h4⟩
    simp only [mayS, Bool.and_eq_true, Bool.not_eq_true', List.any_eq_false]
    exact ⟨fun r hr => by simp [h1 r hr], fun p hp => by simp [h2 p hp], up_ris h3 (fun _ h => by cases h), up_ris h4 (fun _ h => by cases h)⟩
theorem mayS_withP {s : Sta} {u : Int} {w : Win} (h : mayS s = true) (hu : btw u 1 1048576 = true) (hw : mayW w = true) : mayS (withP s u w) = true := by
  obtain ⟨h1, h2, h3, h4⟩ := mayS_iff.1 h
  refine mayS_iff.2 ⟨h1, putK_all (by simp [badV, hu, hw]) h2, h3, putK_up kV h4⟩
theorem mayS_withR {s : Sta} {r : Room} (h : mayS s = true) (hr : badR r = false) : mayS { s with rooms := putK kR r s.rooms } = true := by
  obtain ⟨h1, h2, h3, h4⟩ := mayS_iff.1 h
  exact mayS_iff.2 ⟨putK_all hr h1, h2, putK_up kR h3, h4⟩
theorem up_riseT : ∀ {l : List Told} {p : Int}, Up kT l → (∀ x ∈ l, p < x.seq ∧ x.seq ≤ 1073741824) → riseT p l = true
  | [], _, _, _ => rfl
  | x :: r, p, h, hp => by
    obtain ⟨h1, h2⟩ := List.pairwise_cons.1 h
    obtain ⟨a, b⟩ := hp x (List.mem_cons_self ..)
    rw [riseT_ok a b]
    exact up_riseT h2 (fun y hy => ⟨h1 y hy, (hp y (List.mem_cons_of_mem _ hy)).2⟩)
theorem mayW_of {w : Win} (h1 : riseT w.low w.l = true) (h2 : 0 ≤ w.low ∧ w.low ≤ 1073741824) (h3 : w.l.length ≤ 8) : mayW w = true := by
  simp only [mayW, Bool.and_eq_true, decide_eq_true_eq, btw]
  exact ⟨⟨h1, h2⟩, by omega⟩
theorem look_zero {w : Win} {q : Int} {A : Ans} {is : Bool} (h : lookW w q = (A, is, 0)) : mayW w = true ∧ (1 ≤ q ∧ q ≤ 1073741824) ∧ w.low < q := by
  unfold lookW at h
  split at h
  · simp at h
  · rename_i h1
    have hm : mayW w = true := by
      cases e : mayW w
      · exact absurd (.inl e) h1
      · rfl
    have hb : btw q 1 1073741824 = true := by
      cases e : btw q 1 1073741824
      · exact absurd (.inr e) h1
      · rfl
    split at h
    · simp at h
    · exact ⟨hm, btw_true hb, by omega⟩
theorem mayW_put {w : Win} {q : Int} {a A : Ans} (h : lookW w q = (A, false, 0)) : mayW (putW w q a).1 = true := by
  obtain ⟨hm, hq, hlow⟩ := look_zero h
  obtain ⟨hup, hno, hl⟩ := look_ok h
  obtain ⟨hr, hlo, h8⟩ := mayW_spec hm
  have hall := (riseT_up hr).2
  rw [putW_eq h, if_neg (by simp), if_neg (by simp)]
  have hu2 : Up kT (putK kT ⟨q, a⟩ w.l) := putK_up kT hup
  have ha2 : ∀ x ∈ putK kT ⟨q, a⟩ w.l, w.low < x.seq ∧ x.seq ≤ 1073741824 := putK_all ⟨hlow, hq.2⟩ hall
  have hlen := putK_len kT (y := ⟨q, a⟩) (l := w.l)
  generalize putK kT ⟨q, a⟩ w.l = L at *
  unfold cutW
  split
  · rename_i h9
    cases L with
    | nil => simp at h9
    | cons x r =>
      obtain ⟨h1, h2⟩ := List.pairwise_cons.1 hu2
      have hx := ha2 x (List.mem_cons_self ..)
      refine mayW_of ?_ ?_ ?_
      · simp only [List.getD_cons_zero, List.drop_succ_cons, List.drop_zero]
        exact up_riseT h2 (fun y hy => ⟨h1 y hy, (ha2 y (List.mem_cons_of_mem _ hy)).2⟩)
      · simp only [List.getD_cons_zero]; omega
      · simp at hlen ⊢; omega
  · exact mayW_of (up_riseT hu2 ha2) hlo (by simp; omega)
theorem up_riseU : ∀ {l : List Int} {p : Int}, Up idI l → (∀ x ∈ l, p < x ∧ x ≤ 1048576) → riseU p l = true
  | [], _, _, _ => rfl
  | x :: r, p, h, hp => by
    obtain ⟨h1, h2⟩ := List.pairwise_cons.1 h
    obtain ⟨a, b⟩ := hp x (List.mem_cons_self ..)
    simp only [riseU, Bool.and_eq_true, decide_eq_true_eq]
    exact ⟨⟨a, b⟩, up_riseU h2 (fun y hy => ⟨h1 y hy, (hp y (List.mem_cons_of_mem _ hy)).2⟩)⟩
theorem mayC_iff {x : Chan} : mayC x = true ↔ (1 ≤ x.id ∧ x.id ≤ 1048576) ∧ (1 ≤ x.mem.length ∧ x.mem.length ≤ 16) ∧ Up idI x.mem ∧ (∀ u ∈ x.mem, 0 < u ∧ u ≤ 1048576) ∧ x.owner ∈ x.mem := by
  constructor
  · intro h
    simp only [mayC, Bool.and_eq_true] at h
    obtain ⟨⟨⟨h1, h2⟩, h3⟩, h4⟩ := h
    have := btw_true h1; have := btw_true h2; have h5 := riseU_up h3
    simp only [hasI, List.any_eq_true, decide_eq_true_eq] at h4
    obtain ⟨v, hv, rfl⟩ := h4
    exact ⟨by omega, by omega, h5.1, h5.2, hv⟩
  · rintro ⟨h1, h2, h3, h4, h5⟩
    simp only [mayC, Bool.and_eq_true]
    refine ⟨⟨⟨by simp [btw]; omega, by simp [btw]; omega⟩, up_riseU h3 h4⟩, ?_⟩
    simp only [hasI, List.any_eq_true, decide_eq_true_eq]
    exact ⟨_, h5, rfl⟩
theorem openC_may {a b : Int} (h : (openC a b).2 = 0) : mayC (openC a b).1 = true := by
  unfold openC at h ⊢
  split
  · assumption
  · rename_i h1; rw [if_neg h1] at h; cases h
theorem putK_sub {α : Type} {k : α → Int} {y x : α} : ∀ {l : List α}, x ∈ l → k x ≠ k y → x ∈ putK k y l
  | [], h, _ => by cases h
  | z :: r, h, hne => by
    simp only [putK]
    split
    · exact List.mem_cons_of_mem _ h
    · split
      · rcases List.mem_cons.1 h with rfl | h
        · exact absurd (by assumption) hne
        · exact List.mem_cons_of_mem _ h
      · rcases List.mem_cons.1 h with rfl | h
        · exact List.mem_cons_self ..
        · exact List.mem_cons_of_mem _ (putK_sub h hne)
theorem putK_has {α : Type} {k : α → Int} {y : α} : ∀ {l : List α}, y ∈ putK k y l
  | [] => by simp [putK]
  | z :: r => by
    simp only [putK]
    split
    · exact List.mem_cons_self ..
    · split
      · exact List.mem_cons_self ..
      · exact List.mem_cons_of_mem _ putK_has
theorem putK_len1 {α : Type} {k : α → Int} {y : α} {l : List α} : 1 ≤ (putK k y l).length := List.length_pos_of_mem putK_has
theorem joinC_may {x : Chan} {u : Int} (h : (joinC x u).2 = 0) : mayC (joinC x u).1 = true := by
  unfold joinC at h ⊢
  split
  · rename_i h1; rw [if_pos h1] at h; cases h
  · rename_i h1
    rw [if_neg h1] at h
    split
    · rename_i h2; rw [if_pos h2] at h; cases h
    · rename_i h2
      rw [if_neg h2] at h
      split
      · rename_i h3; rw [if_pos h3] at h; cases h
      · rename_i h3
        have hm : mayC x = true := by
          cases e : mayC x
          · exact absurd (.inl e) h1
          · rfl
        have hu : riseU 0 [u] = true := by
          cases e : riseU 0 [u]
          · exact absurd (.inr e) h1
          · rfl
        obtain ⟨a1, a2, a3, a4, a5⟩ := mayC_iff.1 hm
        have hu' := (riseU_up hu).2 u (by simp)
        have hlen := putK_len idI (y := u) (l := x.mem)
        refine mayC_iff.2 ⟨a1, ⟨putK_len1, by simp; omega⟩, putK_up idI a3, putK_all hu' a4, ?_⟩
        by_cases e : x.owner = u
        · subst e; exact putK_has
        · exact putK_sub a5 e
theorem leaveC_may {x : Chan} {u : Int} (h : (leaveC x u).2 = 0) : mayC (leaveC x u).1 = true := by
  unfold leaveC at h ⊢
  split
  · rename_i h1; rw [if_pos h1] at h; cases h
  · rename_i h1
    rw [if_neg h1] at h
    split
    · rename_i h2; rw [if_pos h2] at h; cases h
    · rename_i h2
      rw [if_neg h2] at h
      split
      · rename_i h3; rw [if_pos h3] at h; cases h
      · rename_i h3
        obtain ⟨a1, a2, a3, a4, a5⟩ := mayC_iff.1 (show mayC x = true by simpa using h1)
        have ho : x.owner ∈ delI u x.mem := by simp only [delI, List.mem_filter, decide_eq_true_eq]; exact ⟨a5, h3⟩
        have hl : (delI u x.mem).length ≤ x.mem.length := List.length_filter_le _ _
        exact mayC_iff.2 ⟨a1, ⟨List.length_pos_of_mem ho, by simp; omega⟩, a3.sublist (List.filter_sublist ..), fun v hv => a4 v (List.mem_filter.1 hv).1, ho⟩
theorem chan_may {s : Sta} {r : Room} {q : Chan × Int} (h : mayS s = true) (hp : P16.mayPs r.posts = true) (hq : q.2 = 0 → mayC q.1 = true) : mayS (chanS s r q) = true := by
  unfold chanS keepS
  split
  · rename_i h0; exact mayS_withR h (by simp [badR, hq h0, hp])
  · exact h
theorem said_may {s : Sta} {r : Room} {q : List Post × Int} (h : mayS s = true) (hc : mayC r.c = true) (hq : P16.mayPs q.1 = true) : mayS (saidS s r q) = true := by
  unfold saidS keepS
  split
  · exact mayS_withR h (by simp [badR, hc, hq])
  · exact h
theorem doQ_may {s : Sta} {m : Cmd} {r : Room} (h : mayS s = true) (hp : P16.mayPs r.posts = true) (hc : m.kind ≠ 1 → mayC r.c = true) : mayS (doQ s m r).1 = true := by
  unfold doQ
  by_cases h1 : m.kind = 1
  · rw [if_pos h1]; exact chan_may h hp openC_may
  · rw [if_neg h1]
    have hc := hc h1
    split
    · exact chan_may (q := joinC r.c m.user) h hp joinC_may
    · split
      · exact chan_may (q := leaveC r.c m.user) h hp leaveC_may
      · split
        · exact said_may (q := P16.addP r.posts m.user m.text) h hc (P16.mayPs_add _ _ _)
        · split
          · exact said_may (q := P16.editP r.posts m.n m.user m.text) h hc (P16.mayPs_edit _ _ _ _)
          · split
            · exact said_may (q := P16.delP r.posts m.n m.user r.c.owner) h hc (P16.mayPs_del _ _ _ _)
            · exact h
theorem does_may {s : Sta} {m : Cmd} (h : mayS s = true) : mayS (doesS s m).1 = true := by
  unfold doesS
  split
  · rename_i r hr
    have hb := (mayS_iff.1 h).1 r (List.mem_of_find?_eq_some hr)
    simp only [badR, Bool.or_eq_false_iff, Bool.not_eq_false'] at hb
    repeat' split
    · exact h
    · exact h
    · exact doQ_may h hb.2 (fun _ => hb.1)
  · split
    · rename_i h1; exact doQ_may h P16.mayPs_nil (fun h2 => absurd h1 h2)
    · exact h
theorem look_triple {w : Win} {q : Int} (h1 : ¬ (lookW w q).2.2 ≠ 0) (h2 : ¬ (lookW w q).2.1 = true) : lookW w q = ((lookW w q).1, false, 0) := by
  exact Prod.ext rfl (Prod.ext (by simpa using h2) (by simpa using h1))
theorem mayM_user {m : Cmd} (h : mayM m = true) (h0 : ¬ m.kind = 0) : btw m.user 1 1048576 = true ∧ btw m.seq 1 1073741824 = true := by
  have h7 := (mayM_kind h h0).1
  rw [mayM_in h7.1 h7.2] at h
  simp only [Bool.and_eq_true] at h
  exact ⟨h.1, h.2.1⟩
theorem apply_keep {s : Sta} {m : Cmd} (h : mayS s = true) : mayS (applyS s m).1 = true := by
  unfold applyS
  split
  · exact h
  · rename_i ha
    split
    · exact h
    · rename_i h0
      split
      · exact h
      · rename_i h1
        split
        · exact h
        · rename_i h2
          have hm : mayM m = true := by
            cases e : mayM m
            · exact absurd (.inr e) ha
            · rfl
          exact mayS_withP (does_may h) (mayM_user hm h0).1 (mayW_put (look_triple h1 h2))
theorem run_keep : ∀ {l : List Cmd} {s : Sta}, mayS s = true → mayS (runS s l).1 = true
  | [], _, h => h
  | m :: r, s, h => by simp only [runS]; exact run_keep (apply_keep h)
theorem up_find {α : Type} {k : α → Int} {l : List α} {y : α} (h : Up k l) (hy : y ∈ l) : l.find? (fun x => decide (k x = k y)) = some y := by
  induction l with
  | nil => cases hy
  | cons x r ih =>
    obtain ⟨h1, h2⟩ := List.pairwise_cons.1 h
    rcases List.mem_cons.1 hy with rfl | hy
    · simp [List.find?]
    · have := h1 y hy
      rw [List.find?_cons_of_neg (by simp; omega)]
      exact ih h2 hy
theorem look_put {w : Win} {q : Int} {D A : Ans} (h : lookW w q = (A, false, 0)) : lookW (putW w q D).1 q = (D, true, 0) ∨ lookW (putW w q D).1 q = (noA, false, 9) := by
  have hmw := mayW_put (a := D) h
  obtain ⟨hm, hq, hlow⟩ := look_zero h
  obtain ⟨hup, hno, hl⟩ := look_ok h
  have hb : btw q 1 1073741824 = true := by simp [btw]; omega
  rw [putW_eq h, if_neg (by simp), if_neg (by simp)] at hmw ⊢
  have hu2 : Up kT (putK kT ⟨q, D⟩ w.l) := putK_up kT hup
  have hin : (⟨q, D⟩ : Told) ∈ putK kT ⟨q, D⟩ w.l := putK_has
  generalize putK kT ⟨q, D⟩ w.l = L at *
  simp only at hmw ⊢
  by_cases h9 : 8 < L.length
  · cases L with
    | nil => simp at h9
    | cons x r =>
      have e : cutW w.low (x :: r) = ⟨x.seq, r⟩ := by unfold cutW; rw [if_pos h9]; rfl
      rw [e] at hmw ⊢
      by_cases hs : q ≤ x.seq
      · exact .inr (lookW_low hmw hb hs)
      · left
        obtain ⟨h1, h2⟩ := List.pairwise_cons.1 hu2
        have hr : (⟨q, D⟩ : Told) ∈ r := by
          rcases List.mem_cons.1 hin with h3 | h3
          · exfalso; apply hs; rw [← h3]; exact Int.le_refl _
          · exact h3
        exact lookW_is (x := ⟨q, D⟩) hmw hb hs (up_find (k := kT) h2 hr)
  · left
    have e : cutW w.low L = ⟨w.low, L⟩ := by unfold cutW; rw [if_neg h9]
    rw [e] at hmw ⊢
    exact lookW_is (x := ⟨q, D⟩) hmw hb (by simp; omega) (up_find (k := kT) hu2 hin)
theorem winOf_with {s : Sta} {u : Int} {w : Win} (h : Up kV s.persons) : winOf (withP s u w) u = w := by
  have := up_find (k := kV) (putK_up kV (y := ⟨u, w⟩) h) putK_has
  exact win_some (s := withP s u w) (p := ⟨u, w⟩) this
theorem apply_again {s : Sta} {m : Cmd} (h : mayS s = true) (h0 : ¬ m.kind = 0) : ∃ b, applyS (applyS s m).1 m = ((applyS s m).1, b) ∧ (b = (applyS s m).2 ∨ b.e = 9) := by
  by_cases hm : mayM m = true
  · obtain ⟨⟨A, is, er⟩, hL⟩ : { L : Ans × Bool × Int // lookW (winOf s m.user) m.seq = L } := ⟨_, rfl⟩
    by_cases he : er = 0
    · subst he
      cases is
      · have e := apply_do h hm h0 hL
        have hk := apply_keep (m := m) h
        have hd := (mayS_iff.1 (does_may (m := m) h)).2.2.2
        rw [e] at hk ⊢
        simp only at hk ⊢
        have hw := winOf_with (u := m.user) (w := (putW (winOf s m.user) m.seq (doesS s m).2).1) hd
        rcases look_put (D := (doesS s m).2) hL with hp | hp
        · exact ⟨_, apply_is hk hm h0 (by rw [hw]; exact hp) rfl, .inl rfl⟩
        · exact ⟨_, apply_err hk hm h0 (by rw [hw]; exact hp) (by decide), .inr rfl⟩
      · have e := apply_is h hm h0 hL rfl
        rw [e]; exact ⟨_, e, .inl rfl⟩
    · have e := apply_err h hm h0 hL he
      rw [e]; exact ⟨_, e, .inl rfl⟩
  · have e := apply_may (s := s) (m := m) (.inr (by simpa using hm))
    rw [e]; exact ⟨_, e, .inl rfl⟩
end Go.Proofs.YtadbdchbdjkcdaaGreatDoor.F
