/- Parts of a symbolic execution and of walks by it, for the statements of this seat: W5, W6, W7, W8, W9, W10, W11, W12, W13, W14. -/
import Derived.Test.YtadbdchbdjkcdaaGreatDoorQb6
set_option linter.unusedVariables false
set_option linter.unusedSimpArgs false
namespace Go.Proofs.YtadbdchbdjkcdaaGreatDoor.F
open Go Go.SX
theorem riseU_ok {p y : Int} {r : List Int} (h1 : p < y) (h2 : y ≤ 1048576) : riseU p (y :: r) = riseU y r := by simp only [riseU]; rw [decide_eq_true h1, decide_eq_true h2]; rfl
theorem riseU_bad {p y : Int} {r : List Int} (h : ¬ (p < y ∧ y ≤ 1048576)) : riseU p (y :: r) = false := by
 simp only [riseU]
 by_cases h1 : p < y
 ·rw [decide_eq_false (p := y ≤ 1048576) (by omega)]; simp
 ·rw [decide_eq_false h1]; simp
theorem btw_true {n a b : Int} (h : btw n a b = true) : a ≤ n ∧ n ≤ b := by simpa [btw] using h
theorem btw_false {n a b : Int} (h : btw n a b = false) : ¬ (a ≤ n ∧ n ≤ b) := by simpa [btw] using h
theorem rise1 (u : Int) : riseU 0 [u] = btw u 1 1048576 := by
 simp only [riseU, btw, Bool.and_true]
 rw [show decide (0 < u) = decide (1 ≤ u) from decide_eq_decide.2 (by omega)]
def I99 (l : List Int) (n : Int) (m : Nat) (st : St) : Prop := ∃ i : Nat, i ≤ l.length ∧ m = l.length - i ∧ hasI l n = hasI (l.drop i) n ∧ st = ⟨[(0, .ro 1 (ints l)), (1, iv n), (5, iv (i : Nat))], [], []⟩
def prevU (l : List Int) : Nat → Int
 | 0 => 0
 | i + 1 => l.getD i 0
def I53 (x : Chan) (m : Nat) (st : St) : Prop := ∃ i : Nat, i ≤ x.mem.length ∧ m = x.mem.length - i ∧ riseU 0 x.mem = riseU (prevU x.mem i) (x.mem.drop i) ∧ 0 ≤ prevU x.mem i ∧ st = ⟨[(1, .ptr 53001 0 0 0), (3, iv (i : Nat))], [(53001, .obj 49 (eC x))], []⟩
theorem c98 : chkFn Tryz.prog 98 9 1 a98 a98R = true := by kernel_rfl
theorem d98 (n : Int) : DoesT 98 [iv n] (bv (btw n 1 1048576)) := by
 refine Does.of (nt := 9) (ac := a98) (rds := a98R) c98 (fun c hc => ?_)
 unfold a98
 apply J.seq
 refine J.regE (by simp; rfl) ?_
 simp
 apply J.seq
 apply J.reg
 iterate 3 refine runL_step rfl (by simp; rfl) ?_
 refine runL_if rfl (fun g5 => ?_) (fun g5 => ?_)
 ·
  try simp only [g5]
  try simp at g5
  iterate 4 refine runL_step rfl (by simp; rfl) ?_
  simp [runL]
  apply J.ret
  refine ⟨by simp, rfl, _, [], by simp [a98R]; rfl, ?_⟩
  first | (simp [btw, *]; done) | (simp [btw, *]; omega)
 ·
  try simp only [g5]
  try simp at g5
  iterate 3 refine runL_step rfl (by simp; rfl) ?_
  simp [runL]
  apply J.ret
  refine ⟨by simp, rfl, _, [], by simp [a98R]; rfl, ?_⟩
  first | (simp [btw, *]; done) | (simp [btw, *]; omega)
theorem c99 : chkFn Tryz.prog 99 18 2 a99 a99R = true := by kernel_rfl
theorem d99 (l : List Int) (n : Int) (hf : l.length < 1000000) : DoesT 99 [.ro 1 (ints l), iv n] (bv (hasI l n)) := by
 refine Does.of (nt := 18) (ac := a99) (rds := a99R) c99 (fun c hc => ?_)
 unfold a99
 apply J.seq
 refine J.regE (by simp; rfl) ?_
 simp
 apply J.seq
 apply J.seq
 refine J.regE (by simp; rfl) ?_
 simp
 apply J.block
 refine J.loop hc (I99 l n) ?_ ?_
 ·exact ⟨_, _, St.le_refl _, 0, by omega, rfl, rfl, by simp⟩
 rintro n st ⟨i, hi, rfl, hI, rfl⟩
 apply J.seq
 apply J.seq
 refine J.regE (by simp; rfl) ?_
 simp
 apply J.cond; simp
 refine ⟨fun hlt => ?_, fun hlt => ?_⟩
 ·
  obtain ⟨y, hx, hgx, hg, hge, hdr, hw, hlt2⟩ := getI (show i < l.length by omega) hf
  rw [hdr] at hI
  apply J.skip; simp
  apply J.seq
  apply J.block
  apply J.seq
  apply J.reg
  iterate 6 refine runL_step rfl (by simp [hlt2, hg, hge]; rfl) ?_
  simp [runL]
  apply J.cond; simp
  refine ⟨fun hb => ?_, fun hb => ?_⟩
  ·
   have hI2 : hasI l n = true := by rw [hI]; simp [hasI, hb]
   apply J.seq
   refine J.regE (by simp; rfl) ?_
   simp
   apply J.ret
   refine ⟨by simp, rfl, _, [], by simp [a99R]; rfl, ?_⟩
   simp [hI2]
  ·
   have hI2 : hasI l n = hasI (l.drop (i + 1)) n := by rw [hI]; simp [hasI, hb]
   apply J.skip; simp
   refine J.regE (by simp [hw]; rfl) ?_
   simp
   refine ⟨_, by omega, _, ?_, i + 1, by omega, rfl, hI2, rfl⟩
   apply le_sub <;> simp
 ·
  have hie : i = l.length := by omega
  subst hie
  apply J.exit; simp
  apply J.seq
  refine J.regE (by simp; rfl) ?_
  simp
  apply J.ret
  refine ⟨by simp, rfl, _, [], by simp [a99R]; rfl, ?_⟩
  simp [hI]; rfl
theorem c53 : chkFn Tryz.prog 53 63 1 a53 a53R = true := by kernel_rfl
theorem d53 (x : Chan) (hf : x.mem.length < 1000000) : DoesT 53 [.agg (eC x)] (bv (mayC x)) := by
 refine Does.of (nt := 63) (ac := a53) (rds := a53R) c53 (fun c hc => ?_)
 unfold a53
 apply J.seq
 refine J.regE (by simp [eC]; rfl) ?_
 simp
 apply J.seq
 apply J.seq
 apply J.reg
 iterate 4 refine runL_step rfl (by simp [eC]; rfl) ?_
 refine runL_if rfl (fun g8 => ?_) (fun g8 => ?_)
 ·
  try simp only [g8]
  try simp at g8
  iterate 5 refine runL_step rfl (by simp [eC]; rfl) ?_
  refine runL_if rfl (fun g13 => ?_) (fun g13 => ?_)
  ·
   try simp only [g13]
   try simp at g13
   iterate 6 refine runL_step rfl (by simp [eC]; rfl) ?_
   refine runL_if rfl (fun g19 => ?_) (fun g19 => ?_)
   ·
    try simp only [g19]
    try simp at g19
    iterate 5 refine runL_step rfl (by simp [eC]; rfl) ?_
    simp [runL]
    refine J.condB rfl (fun h24 => ?_) (fun h24 => ?_)
    ·
     try simp only [h24]
     try simp at h24
     apply J.seq
     refine J.regE (by simp [eC]; rfl) ?_
     simp
     apply J.ret
     refine ⟨by simp, rfl, _, [], by simp [a53R]; rfl, ?_⟩
     first | (simp [mayC, hR]; done) | (simp [mayC, btw]; intros; omega) | (simp [mayC, hR1, e1, e2]; done) | trace_state
    ·
     try simp only [h24]
     try simp at h24
     apply J.skip; simp
     apply J.seq
     apply J.seq
     refine J.regE (by simp [eC]; rfl) ?_
     simp
     apply J.block
     refine J.loop hc (I53 x) ?_ ?_
     ·exact ⟨_, _, St.le_refl _, 0, by omega, rfl, rfl, by simp [prevU], by simp [eC]⟩
     rintro n st ⟨i, hi, rfl, hI, hp, rfl⟩
     apply J.seq
     apply J.seq
     refine J.regE (by simp [eC]; rfl) ?_
     simp
     apply J.cond; simp [eC]
     refine ⟨fun hlt => ?_, fun hlt => ?_⟩
     ·
      obtain ⟨y, hx, hgx, hg, hge, hdr, hw, hlt2⟩ := getI (show i < x.mem.length by omega) hf
      rw [hdr] at hI
      apply J.skip; simp
      apply J.seq
      apply J.block
      apply J.seq
      apply J.reg
      iterate 5 refine runL_step rfl (by simp [eC, hlt2, hg, hge]; rfl) ?_
      refine runL_tree rfl (d98 _) (by simp) hc ?_
      simp
      refine runL_step rfl (by simp [eC, hlt2, hg, hge]; rfl) ?_
      simp [runL]
      apply J.seq
      rcases (show i = 0 ∨ ∃ j, i = j + 1 by cases i <;> simp) with rfl | ⟨j, rfl⟩
      ·
       have hpz : prevU x.mem 0 = 0 := rfl
       have hpy : prevU x.mem (0 + 1) = y := by simp [prevU, hx]
       rw [hpz] at hI
       apply J.draw; intro c' hc'
       iterate 3 refine runP_stepQ (by simp [eC, hlt2, hg, hge]; rfl) ?_
       refine runP_if rfl (fun g40 => ?_) (fun g40 => ?_)
       ·
        try simp only [g40]
        try simp at g40
        have g41 := btw_true g40
        have hI2 : riseU 0 x.mem = riseU (prevU x.mem (0 + 1)) (x.mem.drop (0 + 1)) := by rw [hI, hpy]; exact riseU_ok (by omega) (by omega)
        have hp2 : 0 ≤ prevU x.mem (0 + 1) := by omega
        iterate 17 refine runP_stepQ (by simp [eC, hlt2, hg, hge]; rfl) ?_
        simp [runP]
        apply J.cond; simp [eC]
        apply J.skip; simp
        refine J.regE (by simp [eC, show IntKind.i64.wrap 1 = 1 from rfl]; rfl) ?_
        simp
        refine ⟨_, by omega, _, ?_, 0 + 1, by omega, rfl, hI2, hp2, rfl⟩
        apply le_sub <;> simp [eC]
       ·
        try simp only [g40]
        try simp at g40
        have g41 := btw_false g40
        have hR : riseU 0 x.mem = false := by rw [hI]; exact riseU_bad (by omega)
        iterate 16 refine runP_stepQ (by simp [eC, hlt2, hg, hge]; rfl) ?_
        simp [runP]
        apply J.cond; simp [eC]
        apply J.seq
        refine J.regE (by simp [eC]; rfl) ?_
        simp
        apply J.ret
        refine ⟨by simp, rfl, _, [], by simp [a53R]; rfl, ?_⟩
        first | (simp [mayC, hR]; done) | (simp [mayC, btw]; intros; omega) | (simp [mayC, hR1, e1, e2]; done) | trace_state
      ·
       obtain ⟨z, hz, hgz, hg0, hge0, _, _, hlt0⟩ := getI (show j < x.mem.length by omega) hf
       have hw9 : IntKind.i64.wrap (((j : Int) + 1) - 1) = (j : Int) := by rw [wrap_id (by omega) (by omega)]; omega
       have hwj : IntKind.i64.wrap (j : Int) = (j : Int) := wrap_id (by omega) (by omega)
       have hj0 : (0 : Int) < (j : Int) + 1 := by omega
       have hlt9 : (j : Int) + 1 < (x.mem.length : Int) := by omega
       have hpz : prevU x.mem (j + 1) = z := by simp [prevU, hz]
       have hpy : prevU x.mem (j + 1 + 1) = y := by simp [prevU, hx]
       rw [hpz] at hI hp
       have hw : IntKind.i64.wrap ((j : Int) + 1 + 1) = (j : Int) + 1 + 1 := wrap_id (by omega) (by omega)
       apply J.draw; intro c' hc'
       iterate 3 refine runP_stepQ (by simp [eC, hlt2, hlt9, hg, hge, hw9, hwj, hj0, hg0, hge0, hlt0]; rfl) ?_
       refine runP_if rfl (fun g40 => ?_) (fun g40 => ?_)
       ·
        try simp only [g40]
        try simp at g40
        have g41 := btw_true g40
        iterate 17 refine runP_stepQ (by simp [eC, hlt2, hlt9, hg, hge, hw9, hwj, hj0, hg0, hge0, hlt0]; rfl) ?_
        simp [runP]
        refine J.condB rfl (fun h57 => ?_) (fun h57 => ?_)
        ·
         simp at h57
         have hR : riseU 0 x.mem = false := by rw [hI]; exact riseU_bad (by omega)
         apply J.seq
         refine J.regE (by simp [eC]; rfl) ?_
         simp
         apply J.ret
         refine ⟨by simp, rfl, _, [], by simp [a53R]; rfl, ?_⟩
         first | (simp [mayC, hR]; done) | (simp [mayC, btw]; intros; omega) | (simp [mayC, hR1, e1, e2]; done) | trace_state
        ·
         simp at h57
         have hI2 : riseU 0 x.mem = riseU (prevU x.mem (j + 1 + 1)) (x.mem.drop (j + 1 + 1)) := by rw [hI, hpy]; exact riseU_ok (by omega) (by omega)
         have hp2 : 0 ≤ prevU x.mem (j + 1 + 1) := by omega
         apply J.skip; simp
         refine J.regE (by simp [eC, hw]; rfl) ?_
         simp
         refine ⟨_, by omega, _, ?_, j + 1 + 1, by omega, rfl, hI2, hp2, rfl⟩
         apply le_sub <;> simp [eC]
       ·
        try simp only [g40]
        try simp at g40
        have g41 := btw_false g40
        have hR : riseU 0 x.mem = false := by rw [hI]; exact riseU_bad (by omega)
        iterate 16 refine runP_stepQ (by simp [eC, hlt2, hlt9, hg, hge, hw9, hwj, hj0, hg0, hge0, hlt0]; rfl) ?_
        simp [runP]
        apply J.cond; simp [eC]
        apply J.seq
        refine J.regE (by simp [eC]; rfl) ?_
        simp
        apply J.ret
        refine ⟨by simp, rfl, _, [], by simp [a53R]; rfl, ?_⟩
        first | (simp [mayC, hR]; done) | (simp [mayC, btw]; intros; omega) | (simp [mayC, hR1, e1, e2]; done) | trace_state
     ·
      have hie : i = x.mem.length := by omega
      subst hie
      have hR1 : riseU 0 x.mem = true := by rw [hI, List.drop_length]; rfl
      have e1 : btw x.id 1 1048576 = true := by simp [btw]; omega
      have e2 : btw x.mem.length 1 16 = true := by simp [btw]; omega
      apply J.exit; simp
      apply J.seq
      apply J.reg
      iterate 4 refine runL_step rfl (by simp [eC]; rfl) ?_
      refine runL_tree rfl (d99 _ _ hf) (by simp) hc ?_
      simp
      refine runL_step rfl (by simp [eC]; rfl) ?_
      simp [runL]
      apply J.ret
      refine ⟨by simp, rfl, _, [], by simp [a53R]; rfl, ?_⟩
      first | (simp [mayC, hR]; done) | (simp [mayC, btw]; intros; omega) | (simp [mayC, hR1, e1, e2]; done) | trace_state
   ·
    try simp only [g19]
    try simp at g19
    iterate 4 refine runL_step rfl (by simp [eC]; rfl) ?_
    simp [runL]
    apply J.cond; simp [eC]
    apply J.seq
    refine J.regE (by simp [eC]; rfl) ?_
    simp
    apply J.ret
    refine ⟨by simp, rfl, _, [], by simp [a53R]; rfl, ?_⟩
    first | (simp [mayC, hR]; done) | (simp [mayC, btw]; intros; omega) | (simp [mayC, hR1, e1, e2]; done) | trace_state
  ·
   try simp only [g13]
   try simp at g13
   iterate 10 refine runL_step rfl (by simp [eC]; rfl) ?_
   simp [runL]
   apply J.cond; simp [eC]
   apply J.seq
   refine J.regE (by simp [eC]; rfl) ?_
   simp
   apply J.ret
   refine ⟨by simp, rfl, _, [], by simp [a53R]; rfl, ?_⟩
   first | (simp [mayC, hR]; done) | (simp [mayC, btw]; intros; omega) | (simp [mayC, hR1, e1, e2]; done) | trace_state
 ·
  try simp only [g8]
  try simp at g8
  iterate 15 refine runL_step rfl (by simp [eC]; rfl) ?_
  simp [runL]
  apply J.cond; simp [eC]
  apply J.seq
  refine J.regE (by simp [eC]; rfl) ?_
  simp
  apply J.ret
  refine ⟨by simp, rfl, _, [], by simp [a53R]; rfl, ?_⟩
  first | (simp [mayC, hR]; done) | (simp [mayC, btw]; intros; omega) | (simp [mayC, hR1, e1, e2]; done) | trace_state
theorem c134 : chkFn Tryz.prog 134 17 2 a134 a134R = true := by kernel_rfl
theorem d134 (x : Chan) (u : Int) (hf : x.mem.length < 1000000) : DoesT 134 [.agg (eC x), iv u] (bv (inC x u)) := by
 refine Does.of (nt := 17) (ac := a134) (rds := a134R) c134 (fun c hc => ?_)
 unfold a134
 apply J.seq
 refine J.regE (by simp [eC]; rfl) ?_
 simp
 apply J.seq
 apply J.reg
 refine runL_step rfl (by simp [eC]; rfl) ?_
 refine runL_tree rfl (d53 x hf) (by simp) hc ?_
 simp
 refine runL_step rfl (by simp [eC]; rfl) ?_
 simp [runL]
 apply J.seq
 apply J.reg
 iterate 3 refine runL_step rfl (by simp [eC]; rfl) ?_
 refine runL_tree rfl (d99 _ _ hf) (by simp) hc ?_
 simp
 refine runL_step rfl (by simp [eC]; rfl) ?_
 simp [runL]
 apply J.seq
 apply J.reg
 iterate 2 refine runL_step rfl (by simp [eC]; rfl) ?_
 refine runL_if rfl (fun g14 => ?_) (fun g14 => ?_)
 ·
  try simp only [g14]
  try simp at g14
  iterate 3 refine runL_step rfl (by simp [eC]; rfl) ?_
  simp [runL]
  apply J.ret
  refine ⟨by simp, rfl, _, [], by simp [a134R]; rfl, ?_⟩
  simp [inC, *]
 ·
  try simp only [g14]
  try simp at g14
  iterate 2 refine runL_step rfl (by simp [eC]; rfl) ?_
  simp [runL]
  apply J.ret
  refine ⟨by simp, rfl, _, [], by simp [a134R]; rfl, ?_⟩
  simp [inC, *]
theorem c130 : chkFn Tryz.prog 130 19 2 a130 a130R = true := by kernel_rfl
theorem d130 (id u : Int) : DoesT 130 [iv id, iv u] (.tup [.agg (eC (openC id u).1), iv (openC id u).2]) := by
 refine Does.of (nt := 19) (ac := a130) (rds := a130R) c130 (fun c hc => ?_)
 unfold a130
 apply J.seq
 refine J.regE (by simp; rfl) ?_
 simp
 apply J.seq
 refine J.regE (by simp; rfl) ?_
 simp
 refine J.freeze hc 130011 rfl ?_
 simp
 apply J.seq
 apply J.reg
 refine runL_step rfl (by simp; rfl) ?_
 refine runL_tree rfl (d53 ⟨id, u, [u]⟩ (by simp)) (by simp [eC]) hc ?_
 simp
 refine runL_step rfl (by simp; rfl) ?_
 simp [runL]
 apply J.seq
 apply J.seq
 refine J.regE (by simp; rfl) ?_
 simp
 refine J.condB rfl (fun h16 => ?_) (fun h16 => ?_)
 ·
  try simp only [h16]
  try simp at h16
  apply J.seq
  refine J.regE (by simp; rfl) ?_
  simp
  refine J.nz hc ?_
  simp
  apply J.ret
  refine ⟨by simp, rfl, _, [], by simp [a130R]; rfl, ?_⟩
  simp [openC, eC, noC, ints, *]
 ·
  try simp only [h16]
  try simp at h16
  apply J.skip; simp
  apply J.seq
  refine J.regE (by simp; rfl) ?_
  simp
  refine J.nz hc ?_
  simp
  apply J.ret
  refine ⟨by simp, rfl, _, [], by simp [a130R]; rfl, ?_⟩
  simp [openC, eC, noC, ints, *]
def I132 (x : Chan) (u : Int) (m : Nat) (st : St) : Prop := ∃ (i : Nat) (o : List Int), i ≤ x.mem.length ∧ m = x.mem.length - i ∧ delI u x.mem = o ++ delI u (x.mem.drop i) ∧ o.length ≤ i ∧ st = ⟨[(1, iv u), (2, .ptr 132002 0 0 0), (4, .ptr 132004 0 0 0), (8, .own 132048 1 0 o.length), (9, iv (i : Nat))], [(132002, .obj 49 (eC x)), (132004, .obj 49 [iv 0, iv 0, .nils 1]), (132048, .arr 3 1 (ints o))], []⟩
theorem c132 : chkFn Tryz.prog 132 55 2 a132 a132R = true := by kernel_rfl
theorem d132 (x : Chan) (u : Int) (hf : x.mem.length < 1000000) : DoesT 132 [.agg (eC x), iv u] (.tup [.agg (eC (leaveC x u).1), iv (leaveC x u).2]) := by
 refine Does.of (nt := 55) (ac := a132) (rds := a132R) c132 (fun c hc => ?_)
 unfold a132
 apply J.seq
 refine J.regE (by simp [eC]; rfl) ?_
 simp
 apply J.seq
 apply J.reg
 refine runL_step rfl (by simp [eC]; rfl) ?_
 refine runL_tree rfl (d53 x hf) (by simp) hc ?_
 simp
 refine runL_step rfl (by simp [eC]; rfl) ?_
 simp [runL]
 apply J.seq
 apply J.seq
 refine J.regE (by simp [eC]; rfl) ?_
 simp
 refine J.condB rfl (fun h13 => ?_) (fun h13 => ?_)
 ·
  try simp only [h13]
  try simp at h13
  apply J.seq
  refine J.regE (by simp [eC]; rfl) ?_
  simp
  refine J.nz hc ?_
  simp
  apply J.ret
  refine ⟨by simp, rfl, _, [], by simp [a132R]; rfl, ?_⟩
  simp [leaveC, eC, noC, *]
 ·
  try simp only [h13]
  try simp at h13
  apply J.skip; simp
  apply J.seq
  apply J.reg
  iterate 3 refine runL_step rfl (by simp [eC]; rfl) ?_
  refine runL_tree rfl (d99 _ _ hf) (by simp) hc ?_
  simp
  refine runL_step rfl (by simp [eC]; rfl) ?_
  simp [runL]
  apply J.seq
  apply J.seq
  refine J.regE (by simp [eC]; rfl) ?_
  simp
  refine J.condB rfl (fun h20 => ?_) (fun h20 => ?_)
  ·
   try simp only [h20]
   try simp at h20
   apply J.seq
   refine J.regE (by simp [eC]; rfl) ?_
   simp
   refine J.nz hc ?_
   simp
   apply J.ret
   refine ⟨by simp, rfl, _, [], by simp [a132R]; rfl, ?_⟩
   simp [leaveC, eC, noC, *]
  ·
   try simp only [h20]
   try simp at h20
   apply J.skip; simp
   apply J.seq
   apply J.seq
   refine J.regE (by simp [eC]; rfl) ?_
   simp
   refine J.condB rfl (fun h25 => ?_) (fun h25 => ?_)
   ·
    try simp only [h25]
    try simp at h25
    apply J.seq
    refine J.regE (by simp [eC]; rfl) ?_
    simp
    refine J.nz hc ?_
    simp
    apply J.ret
    refine ⟨by simp, rfl, _, [], by simp [a132R]; rfl, ?_⟩
    simp [leaveC, eC, noC, *]
   ·
    try simp only [h25]
    try simp at h25
    apply J.skip; simp
    apply J.seq
    refine J.regE (by simp [eC]; rfl) ?_
    simp
    refine J.nilrow hc 8 132048 3 rfl rfl rfl ?_
    simp
    apply J.seq
    apply J.seq
    refine J.regE (by simp [eC]; rfl) ?_
    simp
    apply J.block
    refine J.loop hc (I132 x u) ?_ ?_
    ·exact ⟨_, _, St.le_refl _, 0, [], by omega, rfl, rfl, by simp, by simp [eC]⟩
    rintro n st ⟨i, o, hi, rfl, hI, ho, rfl⟩
    apply J.seq
    apply J.seq
    refine J.regE (by simp [eC]; rfl) ?_
    simp
    apply J.cond; simp [eC]
    refine ⟨fun hlt => ?_, fun hlt => ?_⟩
    ·
     obtain ⟨y, hx, hgx, hg, hge, hdr, hw, hlt2⟩ := getI (show i < x.mem.length by omega) hf
     rw [hdr] at hI
     apply J.skip; simp
     apply J.seq
     apply J.block
     apply J.seq
     refine J.regE (by simp [eC, hlt2, hg, hge]; rfl) ?_
     simp
     refine J.condB rfl (fun h40 => ?_) (fun h40 => ?_)
     ·
      simp at h40
      have hI2 : delI u x.mem = (o ++ [y]) ++ delI u (x.mem.drop (i + 1)) := by rw [hI]; simp [delI, h40]
      apply J.reg
      iterate 9 refine runL_step rfl (by simp [eC, hlt2, hg, hge, show (o.length + 1) * 8 ≤ 140737488355328 from by omega]; rfl) ?_
      simp [runL]
      refine J.regE (by simp [eC, hw]; rfl) ?_
      simp
      refine ⟨_, by omega, _, ?_, i + 1, o ++ [y], by omega, rfl, hI2, by simp; omega, rfl⟩
      apply le_sub <;> simp [eC]
     ·
      simp at h40
      have hI2 : delI u x.mem = o ++ delI u (x.mem.drop (i + 1)) := by rw [hI]; simp [delI, h40]
      apply J.skip; simp
      refine J.regE (by simp [eC, hw]; rfl) ?_
      simp
      refine ⟨_, by omega, _, ?_, i + 1, o, by omega, rfl, hI2, by omega, rfl⟩
      apply le_sub <;> simp [eC]
    ·
     have hie : i = x.mem.length := by omega
     subst hie
     have hI2 : delI u x.mem = o := by rw [hI, List.drop_length]; simp [delI]
     clear hI
     refine J.freeze hc 132048 rfl ?_
     simp
     apply J.exit; simp
     apply J.seq
     refine J.regE (by simp [eC]; rfl) ?_
     simp
     refine J.nz hc ?_
     simp
     apply J.ret
     refine ⟨by simp, rfl, _, [], by simp [a132R]; rfl, ?_⟩
     simp [leaveC, eC, noC, *]
def I133 (x : Chan) (u : Int) (m : Nat) (st : St) : Prop := ∃ (i : Nat) (o : List Int) (dn : Bool), i ≤ x.mem.length ∧ m = x.mem.length - i ∧ putK idI u x.mem = o ++ (if dn = true then x.mem.drop i else putK idI u (x.mem.drop i)) ∧ o.length ≤ i + dn.toNat ∧ st = ⟨[(1, iv u), (2, .ptr 133002 0 0 0), (4, .ptr 133004 0 0 0), (9, .own 133063 1 0 o.length), (10, bv dn), (11, iv (i : Nat))], [(133002, .obj 49 (eC x)), (133004, .obj 49 [iv 0, iv 0, .nils 1]), (133063, .arr 3 1 (ints o))], []⟩
theorem hasI_mem {l : List Int} {u y : Int} {i : Nat} (h : hasI l u = false) (hy : l[i]? = some y) : y ≠ u := by
 simp only [hasI, List.any_eq_false, decide_eq_true_eq] at h
 exact h y (List.mem_of_getElem? hy)
def sameI : List Int → List Int → Bool
 | [], [] => true
 | x :: r, y :: s => (x == y) && sameI r s
 | _, _ => false
theorem sameI_eq : ∀ {a b : List Int}, sameI a b = decide (a = b)
 | [], [] => rfl
 | [], _ :: _ => rfl
 | _ :: _, [] => rfl
 | x :: r, y :: s => by
  simp only [sameI, sameI_eq (a := r), List.cons.injEq, Bool.decide_and]; rfl
theorem sameI_len {a b : List Int} (h : a.length ≠ b.length) : sameI a b = false := by
 rw [sameI_eq, decide_eq_false (fun e => h (by rw [e]))]
def sameC (a b : Chan) : Bool := a.id == b.id && (a.owner == b.owner && sameI a.mem b.mem)
def I25 (a b : Chan) (m : Nat) (st : St) : Prop := ∃ i : Nat, i ≤ a.mem.length ∧ m = a.mem.length - i ∧ sameI a.mem b.mem = sameI (a.mem.drop i) (b.mem.drop i) ∧ st = ⟨[(2, .ptr 25002 0 0 0), (3, .ptr 25003 0 0 0), (5, iv (i : Nat))], [(25002, .obj 49 (eC a)), (25003, .obj 49 (eC b))], []⟩
theorem c133 : chkFn Tryz.prog 133 76 2 a133 a133R = true := by kernel_rfl
theorem d133 (x : Chan) (u : Int) (hf : x.mem.length < 1000000) : DoesT 133 [.agg (eC x), iv u] (.tup [.agg (eC (joinC x u).1), iv (joinC x u).2]) := by
 refine Does.of (nt := 76) (ac := a133) (rds := a133R) c133 (fun c hc => ?_)
 unfold a133
 apply J.seq
 refine J.regE (by simp [eC]; rfl) ?_
 simp
 apply J.seq
 apply J.reg
 refine runL_step rfl (by simp [eC]; rfl) ?_
 refine runL_tree rfl (d53 x hf) (by simp) hc ?_
 simp
 refine runL_step rfl (by simp [eC]; rfl) ?_
 simp [runL]
 apply J.seq
 apply J.reg
 refine runL_step rfl (by simp [eC]; rfl) ?_
 refine runL_tree rfl (d98 u) (by simp) hc ?_
 simp
 refine runL_step rfl (by simp [eC]; rfl) ?_
 simp [runL]
 apply J.seq
 apply J.seq
 apply J.reg
 iterate 3 refine runL_step rfl (by simp [eC]; rfl) ?_
 refine runL_if rfl (fun g18 => ?_) (fun g18 => ?_)
 ·
  try simp only [g18]
  try simp at g18
  iterate 3 refine runL_step rfl (by simp [eC]; rfl) ?_
  simp [runL]
  refine J.condB rfl (fun h21 => ?_) (fun h21 => ?_)
  ·
   try simp only [h21]
   try simp at h21
   apply J.seq
   refine J.regE (by simp [eC]; rfl) ?_
   simp
   refine J.nz hc ?_
   simp
   apply J.ret
   refine ⟨by simp, rfl, _, [], by simp [a133R]; rfl, ?_⟩
   first | (simp [joinC, rise1, eC, noC, *]; done) | (rw [show joinC x u = ({ x with mem := putK idI u x.mem }, 0) by simp [joinC, rise1, *], hI3]; simp [eC, List.take_of_length_le (show (o ++ [u]).length ≤ o.length + 1 by simp)])
  ·
   try simp only [h21]
   try simp at h21
   apply J.skip; simp
   apply J.seq
   apply J.reg
   iterate 3 refine runL_step rfl (by simp [eC]; rfl) ?_
   refine runL_tree rfl (d99 _ _ hf) (by simp) hc ?_
   simp
   refine runL_step rfl (by simp [eC]; rfl) ?_
   simp [runL]
   apply J.seq
   apply J.seq
   refine J.regE (by simp [eC]; rfl) ?_
   simp
   refine J.condB rfl (fun h27 => ?_) (fun h27 => ?_)
   ·
    try simp only [h27]
    try simp at h27
    apply J.seq
    refine J.regE (by simp [eC]; rfl) ?_
    simp
    refine J.nz hc ?_
    simp
    apply J.ret
    refine ⟨by simp, rfl, _, [], by simp [a133R]; rfl, ?_⟩
    first | (simp [joinC, rise1, eC, noC, *]; done) | (rw [show joinC x u = ({ x with mem := putK idI u x.mem }, 0) by simp [joinC, rise1, *], hI3]; simp [eC, List.take_of_length_le (show (o ++ [u]).length ≤ o.length + 1 by simp)])
   ·
    try simp only [h27]
    try simp at h27
    apply J.skip; simp
    apply J.seq
    apply J.seq
    refine J.regE (by simp [eC]; rfl) ?_
    simp
    refine J.condB rfl (fun h32 => ?_) (fun h32 => ?_)
    ·
     simp at h32
     have h32' : 16 ≤ x.mem.length := by omega
     apply J.seq
     refine J.regE (by simp [eC]; rfl) ?_
     simp
     refine J.nz hc ?_
     simp
     apply J.ret
     refine ⟨by simp, rfl, _, [], by simp [a133R]; rfl, ?_⟩
     first | (simp [joinC, rise1, eC, noC, *]; done) | (rw [show joinC x u = ({ x with mem := putK idI u x.mem }, 0) by simp [joinC, rise1, *], hI3]; simp [eC, List.take_of_length_le (show (o ++ [u]).length ≤ o.length + 1 by simp)])
    ·
     simp at h32
     have h32' : ¬ 16 ≤ x.mem.length := by omega
     apply J.skip; simp
     apply J.seq
     refine J.regE (by simp [eC]; rfl) ?_
     simp
     refine J.nilrow hc 9 133063 3 rfl rfl rfl ?_
     simp
     apply J.seq
     refine J.regE (by simp [eC]; rfl) ?_
     simp
     apply J.seq
     apply J.seq
     refine J.regE (by simp [eC]; rfl) ?_
     simp
     apply J.block
     refine J.loop hc (I133 x u) ?_ ?_
     ·exact ⟨_, _, St.le_refl _, 0, [], false, by omega, rfl, rfl, by simp, by simp [eC]⟩
     rintro n st ⟨i, o, dn, hi, rfl, hI, ho, rfl⟩
     apply J.seq
     apply J.seq
     refine J.regE (by simp [eC]; rfl) ?_
     simp
     apply J.cond; simp [eC]
     refine ⟨fun hlt => ?_, fun hlt => ?_⟩
     ·
      obtain ⟨y, hx, hgx, hg, hge, hdr, hw, hlt2⟩ := getI (show i < x.mem.length by omega) hf
      have hyu := hasI_mem h27 hx
      rw [hdr] at hI
      apply J.skip; simp
      apply J.seq
      apply J.block
      apply J.seq
      apply J.seq
      apply J.reg
      iterate 3 refine runL_step rfl (by simp [eC, hlt2, hg, hge, hlt]; rfl) ?_
      refine runL_if rfl (fun g43 => ?_) (fun g43 => ?_)
      ·
       try simp only [g43]
       try simp at g43
       subst g43
       simp at ho
       iterate 8 refine runL_step rfl (by simp [eC, hlt2, hg, hge, hlt]; rfl) ?_
       simp [runL]
       refine J.condB rfl (fun h51 => ?_) (fun h51 => ?_)
       ·
        simp at h51
        have hI2 : putK idI u x.mem = (o ++ [u] ++ [y]) ++ (if true = true then x.mem.drop (i + 1) else putK idI u (x.mem.drop (i + 1))) := by
         have e : putK idI u (y :: x.mem.drop (i + 1)) = u :: y :: x.mem.drop (i + 1) := by simp [putK, idI, h51]
         rw [hI, if_neg (by simp), e]; simp
        apply J.seq
        refine J.regE (by simp [eC, show (o.length + 1) * 8 ≤ 140737488355328 from by omega, show (o.length + 1 + 1) * 8 ≤ 140737488355328 from by omega]; rfl) ?_
        simp
        refine J.regE (by simp [eC]; rfl) ?_
        simp
        apply J.reg
        iterate 9 refine runL_step rfl (by simp [eC, hlt2, hg, hge, show (o.length + 1) * 8 ≤ 140737488355328 from by omega, show (o.length + 1 + 1) * 8 ≤ 140737488355328 from by omega]; rfl) ?_
        simp [runL]
        refine J.regE (by simp [eC, hw]; rfl) ?_
        simp
        refine ⟨_, by omega, _, ?_, i + 1, o ++ [u] ++ [y], true, by omega, rfl, hI2, by simp; omega, rfl⟩
        apply le_sub <;> simp [eC, List.take_of_length_le (show (o ++ [u]).length ≤ o.length + 1 by simp)]
       ·
        simp at h51
        have hI2 : putK idI u x.mem = (o ++ [y]) ++ (if false = true then x.mem.drop (i + 1) else putK idI u (x.mem.drop (i + 1))) := by
         have e : putK idI u (y :: x.mem.drop (i + 1)) = y :: putK idI u (x.mem.drop (i + 1)) := by simp [putK, idI, show ¬ u < y by omega, hyu]
         rw [hI, if_neg (by simp), e]; simp
        apply J.skip; simp
        apply J.reg
        iterate 9 refine runL_step rfl (by simp [eC, hlt2, hg, hge, show (o.length + 1) * 8 ≤ 140737488355328 from by omega, show (o.length + 1 + 1) * 8 ≤ 140737488355328 from by omega]; rfl) ?_
        simp [runL]
        refine J.regE (by simp [eC, hw]; rfl) ?_
        simp
        refine ⟨_, by omega, _, ?_, i + 1, o ++ [y], false, by omega, rfl, hI2, by simp; omega, rfl⟩
        apply le_sub <;> simp [eC]
      ·
       try simp only [g43]
       try simp at g43
       subst g43
       simp at ho
       have hI2 : putK idI u x.mem = (o ++ [y]) ++ (if true = true then x.mem.drop (i + 1) else putK idI u (x.mem.drop (i + 1))) := by
        rw [hI]; simp
       iterate 7 refine runL_step rfl (by simp [eC, hlt2, hg, hge, hlt]; rfl) ?_
       simp [runL]
       apply J.cond; simp [eC]
       apply J.skip; simp
       apply J.reg
       iterate 9 refine runL_step rfl (by simp [eC, hlt2, hg, hge, show (o.length + 1) * 8 ≤ 140737488355328 from by omega, show (o.length + 1 + 1) * 8 ≤ 140737488355328 from by omega]; rfl) ?_
       simp [runL]
       refine J.regE (by simp [eC, hw]; rfl) ?_
       simp
       refine ⟨_, by omega, _, ?_, i + 1, o ++ [y], true, by omega, rfl, hI2, by simp; omega, rfl⟩
       apply le_sub <;> simp [eC]
     ·
      have hie : i = x.mem.length := by omega
      subst hie
      rw [List.drop_length] at hI
      apply J.exit; simp
      apply J.seq
      apply J.seq
      cases dn
      ·
       have hI3 : putK idI u x.mem = o ++ [u] := by rw [hI]; rfl
       simp at ho
       refine J.regE (by simp [eC]; rfl) ?_
       simp
       apply J.cond; simp [eC]
       refine J.regE (by simp [eC, show (o.length + 1) * 8 ≤ 140737488355328 from by omega, show (o.length + 1 + 1) * 8 ≤ 140737488355328 from by omega]; rfl) ?_
       simp
       apply J.seq
       refine J.freeze hc 133063 rfl ?_
       simp
       refine J.regE (by simp [eC]; rfl) ?_
       simp
       refine J.nz hc ?_
       simp
       apply J.ret
       refine ⟨by simp, rfl, _, [], by simp [a133R]; rfl, ?_⟩
       first | (simp [joinC, rise1, eC, noC, *]; done) | (rw [show joinC x u = ({ x with mem := putK idI u x.mem }, 0) by simp [joinC, rise1, *], hI3]; simp [eC, List.take_of_length_le (show (o ++ [u]).length ≤ o.length + 1 by simp)])
      ·
       have hI3 : putK idI u x.mem = o := by rw [hI]; simp
       refine J.regE (by simp [eC]; rfl) ?_
       simp
       apply J.cond; simp [eC]
       apply J.skip; simp
       apply J.seq
       refine J.freeze hc 133063 rfl ?_
       simp
       refine J.regE (by simp [eC]; rfl) ?_
       simp
       refine J.nz hc ?_
       simp
       apply J.ret
       refine ⟨by simp, rfl, _, [], by simp [a133R]; rfl, ?_⟩
       first | (simp [joinC, rise1, eC, noC, *]; done) | (rw [show joinC x u = ({ x with mem := putK idI u x.mem }, 0) by simp [joinC, rise1, *], hI3]; simp [eC, List.take_of_length_le (show (o ++ [u]).length ≤ o.length + 1 by simp)])
 ·
  try simp only [g18]
  try simp at g18
  iterate 2 refine runL_step rfl (by simp [eC]; rfl) ?_
  simp [runL]
  apply J.cond; simp [eC]
  apply J.seq
  refine J.regE (by simp [eC]; rfl) ?_
  simp
  refine J.nz hc ?_
  simp
  apply J.ret
  refine ⟨by simp, rfl, _, [], by simp [a133R]; rfl, ?_⟩
  first | (simp [joinC, rise1, eC, noC, *]; done) | (rw [show joinC x u = ({ x with mem := putK idI u x.mem }, 0) by simp [joinC, rise1, *], hI3]; simp [eC, List.take_of_length_le (show (o ++ [u]).length ≤ o.length + 1 by simp)])
theorem c25 : chkFn Tryz.prog 25 45 2 a25 a25R = true := by kernel_rfl
theorem d25 (a b : Chan) (ha : a.mem.length < 1000000) (hb : b.mem.length < 1000000) : DoesT 25 [.agg (eC a), .agg (eC b)] (bv (sameC a b)) := by
 refine Does.of (nt := 45) (ac := a25) (rds := a25R) c25 (fun c hc => ?_)
 unfold a25
 apply J.seq
 refine J.regE (by simp [eC]; rfl) ?_
 simp
 apply J.seq
 apply J.seq
 apply J.reg
 iterate 6 refine runL_step rfl (by simp [eC]; rfl) ?_
 refine runL_if rfl (fun g11 => ?_) (fun g11 => ?_)
 ·
  try simp only [g11]
  try simp at g11
  iterate 7 refine runL_step rfl (by simp [eC]; rfl) ?_
  refine runL_if rfl (fun g18 => ?_) (fun g18 => ?_)
  ·
   try simp only [g18]
   try simp at g18
   iterate 8 refine runL_step rfl (by simp [eC]; rfl) ?_
   simp [runL]
   refine J.condB rfl (fun h26 => ?_) (fun h26 => ?_)
   ·
    simp at h26
    have hne : a.mem.length ≠ b.mem.length := by omega
    apply J.seq
    refine J.regE (by simp [eC]; rfl) ?_
    simp
    apply J.ret
    refine ⟨by simp, rfl, _, [], by simp [a25R]; rfl, ?_⟩
    first | (simp [sameC, hI2, *]; done) | (simp [sameC, sameI_len hne]; done) | (simp [sameC, *]; done)
   ·
    simp at h26
    have hlen : a.mem.length = b.mem.length := by omega
    apply J.skip; simp
    apply J.seq
    apply J.seq
    refine J.regE (by simp [eC]; rfl) ?_
    simp
    apply J.block
    refine J.loop hc (I25 a b) ?_ ?_
    ·exact ⟨_, _, St.le_refl _, 0, by omega, rfl, rfl, by simp [eC]⟩
    rintro n st ⟨i, hi, rfl, hI, rfl⟩
    apply J.seq
    apply J.seq
    refine J.regE (by simp [eC]; rfl) ?_
    simp
    apply J.cond; simp [eC]
    refine ⟨fun hlt => ?_, fun hlt => ?_⟩
    ·
     obtain ⟨y, hx, hgx, hg, hge, hdr, hw, hlt2⟩ := getI (show i < a.mem.length by omega) ha
     obtain ⟨z, hx2, hgx2, hg2, hge2, hdr2, hw2, hlt3⟩ := getI (show i < b.mem.length by omega) hb
     rw [hdr, hdr2] at hI
     apply J.skip; simp
     apply J.seq
     apply J.block
     apply J.seq
     apply J.draw; intro c' hc'
     iterate 11 refine runP_stepQ (by simp [eC, hlt2, hg, hge, hlt3, hg2, hge2]; rfl) ?_
     simp [runP]
     refine J.condB rfl (fun h44 => ?_) (fun h44 => ?_)
     ·
      simp at h44
      have hI2 : sameI a.mem b.mem = false := by rw [hI]; simp [sameI, h44]
      apply J.seq
      refine J.regE (by simp [eC]; rfl) ?_
      simp
      apply J.ret
      refine ⟨by simp, rfl, _, [], by simp [a25R]; rfl, ?_⟩
      first | (simp [sameC, hI2, *]; done) | (simp [sameC, sameI_len hne]; done) | (simp [sameC, *]; done)
     ·
      simp at h44
      have hI2 : sameI a.mem b.mem = sameI (a.mem.drop (i + 1)) (b.mem.drop (i + 1)) := by rw [hI]; simp [sameI, h44]
      apply J.skip; simp
      refine J.regE (by simp [eC, hw]; rfl) ?_
      simp
      refine ⟨_, by omega, _, ?_, i + 1, by omega, rfl, hI2, rfl⟩
      apply le_sub <;> simp [eC]
    ·
     have hie : i = a.mem.length := by omega
     subst hie
     have hI2 : sameI a.mem b.mem = true := by rw [hI, List.drop_length, List.drop_of_length_le (by omega)]; rfl
     apply J.exit; simp
     apply J.seq
     refine J.regE (by simp [eC]; rfl) ?_
     simp
     apply J.ret
     refine ⟨by simp, rfl, _, [], by simp [a25R]; rfl, ?_⟩
     first | (simp [sameC, hI2, *]; done) | (simp [sameC, sameI_len hne]; done) | (simp [sameC, *]; done)
  ·
   try simp only [g18]
   try simp at g18
   iterate 7 refine runL_step rfl (by simp [eC]; rfl) ?_
   simp [runL]
   apply J.cond; simp [eC]
   apply J.seq
   refine J.regE (by simp [eC]; rfl) ?_
   simp
   apply J.ret
   refine ⟨by simp, rfl, _, [], by simp [a25R]; rfl, ?_⟩
   first | (simp [sameC, hI2, *]; done) | (simp [sameC, sameI_len hne]; done) | (simp [sameC, *]; done)
 ·
  try simp only [g11]
  try simp at g11
  iterate 14 refine runL_step rfl (by simp [eC]; rfl) ?_
  simp [runL]
  apply J.cond; simp [eC]
  apply J.seq
  refine J.regE (by simp [eC]; rfl) ?_
  simp
  apply J.ret
  refine ⟨by simp, rfl, _, [], by simp [a25R]; rfl, ?_⟩
  first | (simp [sameC, hI2, *]; done) | (simp [sameC, sameI_len hne]; done) | (simp [sameC, *]; done)
abbrev x1 : Chan := ⟨3, 7, [7]⟩
abbrev x2 : Chan := ⟨3, 7, [5, 7]⟩
theorem ex1 : openC 3 7 = (x1, 0) := by kernel_rfl
theorem ex2 : joinC x1 5 = (x2, 0) := by kernel_rfl
theorem ex3 : leaveC x2 7 = (noC, 8) := by kernel_rfl
theorem ex4 : leaveC x2 5 = (x1, 0) := by kernel_rfl
theorem ex5 : inC x2 7 = true := by kernel_rfl
theorem c24 : chkFn Tryz.prog 24 65 0 a24 a24R = true := by kernel_rfl
theorem d24  : DoesT 24 [] (bv true) := by
 have a1 := d70 3 7
 have a2 := d71 x1 5 (by decide)
 have a3 := d72 x2 7 (by decide)
 have a4 := d72 x2 5 (by decide)
 have a5 := d73 x2 7 (by decide)
 rw [ex1] at a1
 rw [ex2] at a2
 rw [ex3] at a3
 rw [ex4] at a4
 rw [ex5] at a5
 refine Does.of (nt := 65) (ac := a24) (rds := a24R) c24 (fun c hc => ?_)
 unfold a24
 apply J.seq
 refine J.regE (by simp [eC, ints, noC]; rfl) ?_
 simp
 apply J.seq
 apply J.reg
 refine runL_tree rfl (a1) (by simp) hc ?_
 simp
 iterate 6 refine runL_step rfl (by simp [eC, ints, noC]; rfl) ?_
 simp [runL]
 apply J.seq
 apply J.reg
 refine runL_step rfl (by simp [eC, ints, noC]; rfl) ?_
 refine runL_tree rfl (a2) (by simp [eC]) hc ?_
 simp
 iterate 6 refine runL_step rfl (by simp [eC, ints, noC]; rfl) ?_
 simp [runL]
 apply J.seq
 apply J.reg
 refine runL_step rfl (by simp [eC, ints, noC]; rfl) ?_
 refine runL_tree rfl (a3) (by simp [eC]) hc ?_
 simp
 iterate 6 refine runL_step rfl (by simp [eC, ints, noC]; rfl) ?_
 simp [runL]
 apply J.seq
 apply J.reg
 refine runL_step rfl (by simp [eC, ints, noC]; rfl) ?_
 refine runL_tree rfl (a4) (by simp [eC]) hc ?_
 simp
 iterate 6 refine runL_step rfl (by simp [eC, ints, noC]; rfl) ?_
 simp [runL]
 apply J.seq
 apply J.reg
 iterate 35 refine runL_step rfl (by simp [eC, ints, noC]; rfl) ?_
 refine runL_do (by simp) ?_
 refine runL_tree rfl (a5) (by simp [eC]) hc ?_
 simp
 iterate 2 refine runL_step rfl (by simp [eC, ints, noC]; rfl) ?_
 simp [runL]
 apply J.ret
 refine ⟨by simp, rfl, _, [], by simp [a24R]; rfl, ?_⟩
 simp
abbrev sv (s : ByteArray) : AV := .lit (.string s)
structure Ans where
 e : Int
 n : Int
 text : ByteArray
structure Told where
 seq : Int
 a : Ans
structure Win where
 low : Int
 l : List Told
def eA (x : Ans) : List AV := [iv x.e, iv x.n, sv x.text]
def eT (x : Told) : List AV := [iv x.seq, iv x.a.e, iv x.a.n, sv x.a.text]
def eTs (l : List Told) : List (List AV) := l.map eT
def eW (w : Win) : List AV := [iv w.low, .ro 4 (eTs w.l)]
def noA : Ans := ⟨0, 0, ⟨#[]⟩⟩
def noW : Win := ⟨0, []⟩
abbrev kT (x : Told) : Int := x.seq
def riseT : Int → List Told → Bool
 | _, [] => true
 | last, x :: r => decide (last < x.seq) && decide (x.seq ≤ 1073741824) && riseT x.seq r
def mayW (w : Win) : Bool := riseT w.low w.l && btw w.low 0 1073741824 && decide ((w.l.length : Int) ≤ 8)
def lookW (w : Win) (s : Int) : Ans × Bool × Int := if mayW w = false ∨ btw s 1 1073741824 = false then (noA, false, 1) else if s ≤ w.low then (noA, false, 9) else
 match w.l.find? (fun x => decide (x.seq = s)) with
 | some x => (x.a, true, 0)
 | none => (noA, false, 0)
def cutW (low : Int) (l : List Told) : Win := if 8 < l.length then ⟨(l.getD 0 ⟨0, noA⟩).seq, l.drop 1⟩ else ⟨low, l⟩
def putW (w : Win) (s : Int) (a : Ans) : Win × Int := if (lookW w s).2.2 ≠ 0 then (noW, (lookW w s).2.2) else if (lookW w s).2.1 = true then (noW, 6) else (cutW w.low (putK kT ⟨s, a⟩ w.l), 0)
theorem eTs_length (l : List Told) : (eTs l).length = l.length := by simp [eTs]
attribute [simp] eTs_length
theorem eTs_get (l : List Told) (i : Nat) : (eTs l)[i]? = (l[i]?).map eT := by simp [eTs]
theorem eTs_rows {l : List Told} (h : l.length < 1000000) : SX.Rows 4 (eTs l) := ⟨fun e he => by obtain ⟨x, _, rfl⟩ := List.mem_map.1 he; rfl, fun e he => by obtain ⟨x, _, rfl⟩ := List.mem_map.1 he; rfl, by simpa using h⟩
theorem getT {l : List Told} {i : Nat} (h : i < l.length) (hf : l.length < 1000000) : ∃ x, l[i]? = some x ∧ (∀ h, l[i]'h = x) ∧ (eTs l)[i]? = some (eT x) ∧ (∀ h, (eTs l)[i]'h = eT x) ∧ l.drop i = x :: l.drop (i + 1) ∧ IntKind.i64.wrap ((i : Int) + 1) = (i : Int) + 1 ∧ (i : Int) < (l.length : Int) :=
 ⟨l[i], List.getElem?_eq_getElem h, fun _ => rfl, by simp [eTs, h], fun _ => by simp [eTs], List.drop_eq_getElem_cons h, wrap_id (by omega) (by omega), by omega⟩
theorem riseT_ok {p : Int} {y : Told} {r : List Told} (h1 : p < y.seq) (h2 : y.seq ≤ 1073741824) : riseT p (y :: r) = riseT y.seq r := by simp only [riseT]; rw [decide_eq_true h1, decide_eq_true h2]; rfl
theorem riseT_bad {p : Int} {y : Told} {r : List Told} (h : ¬ (p < y.seq ∧ y.seq ≤ 1073741824)) : riseT p (y :: r) = false := by
 simp only [riseT]
 by_cases h1 : p < y.seq
 ·rw [decide_eq_false (p := y.seq ≤ 1073741824) (by omega)]; simp
 ·rw [decide_eq_false h1]; simp
theorem riseT_up : ∀ {l : List Told} {p : Int}, riseT p l = true → Up kT l ∧ ∀ x ∈ l, p < x.seq ∧ x.seq ≤ 1073741824
 | [], _, _ => ⟨List.Pairwise.nil, by simp⟩
 | x :: r, p, h => by
  simp only [riseT, Bool.and_eq_true, decide_eq_true_eq] at h
  obtain ⟨h1, h2⟩ := riseT_up h.2
  refine ⟨List.pairwise_cons.2 ⟨fun y hy => (h2 y hy).1, h1⟩, fun y hy => ?_⟩
  rcases List.mem_cons.1 hy with rfl | hy
  ·exact h.1
  ·have := h2 y hy; omega
theorem mayW_spec {w : Win} (h : mayW w = true) : riseT w.low w.l = true ∧ (0 ≤ w.low ∧ w.low ≤ 1073741824) ∧ w.l.length ≤ 8 := by
 simp only [mayW, Bool.and_eq_true, decide_eq_true_eq] at h
 exact ⟨h.1.1, btw_true h.1.2, by omega⟩
def I32 (w : Win) (m : Nat) (st : St) : Prop := ∃ (i : Nat) (last : Int), i ≤ w.l.length ∧ m = w.l.length - i ∧ riseT w.low w.l = riseT last (w.l.drop i) ∧ st = ⟨[(1, .ptr 32001 0 0 0), (3, iv last), (9, .ro 4 (eTs w.l)), (10, iv (w.l.length : Nat)), (11, iv (i : Nat))], [(32001, .obj 60 (eW w))], []⟩
def I55 (w : Win) (m : Nat) (st : St) : Prop := ∃ (i : Nat) (last : Int), i ≤ w.l.length ∧ m = w.l.length - i ∧ riseT w.low w.l = riseT last (w.l.drop i) ∧ st = ⟨[(1, .ptr 55001 0 0 0), (3, iv last), (4, iv (i : Nat))], [(55001, .obj 60 (eW w))], []⟩
theorem c32 : chkFn Tryz.prog 32 41 1 a32 a32R = true := by kernel_rfl
theorem d32 (w : Win) (hf : w.l.length < 1000000) : DoesT 32 [.agg (eW w)] (bv (mayW w)) := by
 refine Does.of (nt := 41) (ac := a32) (rds := a32R) c32 (fun c hc => ?_)
 unfold a32
 apply J.seq
 refine J.regE (by simp [eW, eW]; rfl) ?_
 simp
 apply J.seq
 refine J.regE (by simp [eW]; rfl) ?_
 simp
 apply J.seq
 apply J.seq
 refine J.regE (by simp [eW]; rfl) ?_
 simp
 apply J.block
 refine J.loop hc (I32 w) ?_ ?_
 ·exact ⟨_, _, St.le_refl _, 0, w.low, by omega, rfl, rfl, by simp [eW]⟩
 rintro n st ⟨i, last, hi, rfl, hI, rfl⟩
 apply J.seq
 refine J.regE (by simp [eW]; rfl) ?_
 simp
 apply J.seq
 apply J.cond; simp [eW]
 refine ⟨fun hlt => ?_, fun hlt => ?_⟩
 ·
  obtain ⟨y, hx, hgx, hg, hge, hdr, hw, hlt2⟩ := getT (show i < w.l.length by omega) hf
  rw [hdr] at hI
  apply J.skip; simp
  apply J.seq
  apply J.block
  apply J.seq
  refine J.regE (by simp [eW, hlt2, hg, hge, eT]; rfl) ?_
  simp
  apply J.seq
  apply J.seq
  apply J.reg
  iterate 5 refine runL_step rfl (by simp [eW]; rfl) ?_
  refine runL_if rfl (fun g19 => ?_) (fun g19 => ?_)
  ·
   try simp only [g19]
   try simp at g19
   iterate 4 refine runL_step rfl (by simp [eW]; rfl) ?_
   simp [runL]
   refine J.condB rfl (fun h23 => ?_) (fun h23 => ?_)
   ·
    simp at h23
    have hR : riseT w.low w.l = false := by rw [hI]; exact riseT_bad (by omega)
    apply J.seq
    refine J.regE (by simp [eW]; rfl) ?_
    simp
    apply J.ret
    refine ⟨by simp, rfl, _, [], by simp [a32R]; rfl, ?_⟩
    first | (simp [mayW, hR]; done) | (simp [mayW, hR1, btw, *]; done) | (simp [mayW, hR1, btw]; omega) | (simp [mayW, btw]; intros; omega) | trace_state
   ·
    simp at h23
    have hI2 : riseT w.low w.l = riseT y.seq (w.l.drop (i + 1)) := by rw [hI]; exact riseT_ok (by omega) (by omega)
    apply J.skip; simp
    refine J.regE (by simp [eW]; rfl) ?_
    simp
    refine J.regE (by simp [eW, hw]; rfl) ?_
    simp
    refine ⟨_, by omega, _, ?_, i + 1, y.seq, by omega, rfl, hI2, rfl⟩
    apply le_sub <;> simp [eW]
  ·
   try simp only [g19]
   try simp at g19
   have hR : riseT w.low w.l = false := by rw [hI]; exact riseT_bad (by omega)
   iterate 3 refine runL_step rfl (by simp [eW]; rfl) ?_
   simp [runL]
   apply J.cond; simp [eW]
   apply J.seq
   refine J.regE (by simp [eW]; rfl) ?_
   simp
   apply J.ret
   refine ⟨by simp, rfl, _, [], by simp [a32R]; rfl, ?_⟩
   first | (simp [mayW, hR]; done) | (simp [mayW, hR1, btw, *]; done) | (simp [mayW, hR1, btw]; omega) | (simp [mayW, btw]; intros; omega) | trace_state
 ·
  have hie : i = w.l.length := by omega
  subst hie
  have hR1 : riseT w.low w.l = true := by rw [hI, List.drop_length]; rfl
  apply J.exit; simp
  apply J.seq
  apply J.reg
  iterate 4 refine runL_step rfl (by simp [eW]; rfl) ?_
  refine runL_if rfl (fun g30 => ?_) (fun g30 => ?_)
  ·
   try simp only [g30]
   try simp at g30
   iterate 5 refine runL_step rfl (by simp [eW]; rfl) ?_
   refine runL_if rfl (fun g35 => ?_) (fun g35 => ?_)
   ·
    try simp only [g35]
    try simp at g35
    iterate 6 refine runL_step rfl (by simp [eW]; rfl) ?_
    simp [runL]
    apply J.ret
    refine ⟨by simp, rfl, _, [], by simp [a32R]; rfl, ?_⟩
    first | (simp [mayW, hR]; done) | (simp [mayW, hR1, btw, *]; done) | (simp [mayW, hR1, btw]; omega) | (simp [mayW, btw]; intros; omega) | trace_state
   ·
    try simp only [g35]
    try simp at g35
    iterate 5 refine runL_step rfl (by simp [eW]; rfl) ?_
    simp [runL]
    apply J.ret
    refine ⟨by simp, rfl, _, [], by simp [a32R]; rfl, ?_⟩
    first | (simp [mayW, hR]; done) | (simp [mayW, hR1, btw, *]; done) | (simp [mayW, hR1, btw]; omega) | (simp [mayW, btw]; intros; omega) | trace_state
  ·
   try simp only [g30]
   try simp at g30
   iterate 10 refine runL_step rfl (by simp [eW]; rfl) ?_
   simp [runL]
   apply J.ret
   refine ⟨by simp, rfl, _, [], by simp [a32R]; rfl, ?_⟩
   first | (simp [mayW, hR]; done) | (simp [mayW, hR1, btw, *]; done) | (simp [mayW, hR1, btw]; omega) | (simp [mayW, btw]; intros; omega) | trace_state
theorem c55 : chkFn Tryz.prog 55 51 1 a55 a55R = true := by kernel_rfl
theorem d55 (w : Win) (hf : w.l.length < 1000000) : DoesT 55 [.agg (eW w)] (bv (mayW w)) := by
 refine Does.of (nt := 51) (ac := a55) (rds := a55R) c55 (fun c hc => ?_)
 unfold a55
 apply J.seq
 refine J.regE (by simp [eW, eW]; rfl) ?_
 simp
 apply J.seq
 apply J.seq
 apply J.reg
 iterate 4 refine runL_step rfl (by simp [eW]; rfl) ?_
 refine runL_if rfl (fun g8 => ?_) (fun g8 => ?_)
 ·
  try simp only [g8]
  try simp at g8
  iterate 5 refine runL_step rfl (by simp [eW]; rfl) ?_
  refine runL_if rfl (fun g13 => ?_) (fun g13 => ?_)
  ·
   try simp only [g13]
   try simp at g13
   iterate 5 refine runL_step rfl (by simp [eW]; rfl) ?_
   simp [runL]
   refine J.condB rfl (fun h18 => ?_) (fun h18 => ?_)
   ·
    try simp only [h18]
    try simp at h18
    apply J.seq
    refine J.regE (by simp [eW]; rfl) ?_
    simp
    apply J.ret
    refine ⟨by simp, rfl, _, [], by simp [a55R]; rfl, ?_⟩
    first | (simp [mayW, hR]; done) | (simp [mayW, hR1, btw, *]; done) | (simp [mayW, hR1, btw]; omega) | (simp [mayW, btw]; intros; omega) | trace_state
   ·
    try simp only [h18]
    try simp at h18
    apply J.skip; simp
    apply J.seq
    refine J.regE (by simp [eW]; rfl) ?_
    simp
    apply J.seq
    apply J.seq
    refine J.regE (by simp [eW]; rfl) ?_
    simp
    apply J.block
    refine J.loop hc (I55 w) ?_ ?_
    ·exact ⟨_, _, St.le_refl _, 0, w.low, by omega, rfl, rfl, by simp [eW]⟩
    rintro n st ⟨i, last, hi, rfl, hI, rfl⟩
    apply J.seq
    apply J.seq
    refine J.regE (by simp [eW]; rfl) ?_
    simp
    apply J.cond; simp [eW]
    refine ⟨fun hlt => ?_, fun hlt => ?_⟩
    ·
     obtain ⟨y, hx, hgx, hg, hge, hdr, hw, hlt2⟩ := getT (show i < w.l.length by omega) hf
     rw [hdr] at hI
     apply J.skip; simp
     apply J.seq
     apply J.block
     apply J.seq
     apply J.seq
     apply J.reg
     iterate 9 refine runL_step rfl (by simp [eW, hlt2, hg, hge, eT]; rfl) ?_
     refine runL_if rfl (fun g36 => ?_) (fun g36 => ?_)
     ·
      try simp only [g36]
      try simp at g36
      iterate 8 refine runL_step rfl (by simp [eW, hlt2, hg, hge, eT]; rfl) ?_
      simp [runL]
      refine J.condB rfl (fun h44 => ?_) (fun h44 => ?_)
      ·
       simp at h44
       have hR : riseT w.low w.l = false := by rw [hI]; exact riseT_bad (by omega)
       apply J.seq
       refine J.regE (by simp [eW]; rfl) ?_
       simp
       apply J.ret
       refine ⟨by simp, rfl, _, [], by simp [a55R]; rfl, ?_⟩
       first | (simp [mayW, hR]; done) | (simp [mayW, hR1, btw, *]; done) | (simp [mayW, hR1, btw]; omega) | (simp [mayW, btw]; intros; omega) | trace_state
      ·
       simp at h44
       have hI2 : riseT w.low w.l = riseT y.seq (w.l.drop (i + 1)) := by rw [hI]; exact riseT_ok (by omega) (by omega)
       apply J.skip; simp
       refine J.regE (by simp [eW, hlt2, hg, hge, eT]; rfl) ?_
       simp
       refine J.regE (by simp [eW, hw]; rfl) ?_
       simp
       refine ⟨_, by omega, _, ?_, i + 1, y.seq, by omega, rfl, hI2, rfl⟩
       apply le_sub <;> simp [eW]
     ·
      try simp only [g36]
      try simp at g36
      have hR : riseT w.low w.l = false := by rw [hI]; exact riseT_bad (by omega)
      iterate 7 refine runL_step rfl (by simp [eW, hlt2, hg, hge, eT]; rfl) ?_
      simp [runL]
      apply J.cond; simp [eW]
      apply J.seq
      refine J.regE (by simp [eW]; rfl) ?_
      simp
      apply J.ret
      refine ⟨by simp, rfl, _, [], by simp [a55R]; rfl, ?_⟩
      first | (simp [mayW, hR]; done) | (simp [mayW, hR1, btw, *]; done) | (simp [mayW, hR1, btw]; omega) | (simp [mayW, btw]; intros; omega) | trace_state
    ·
     have hie : i = w.l.length := by omega
     subst hie
     have hR1 : riseT w.low w.l = true := by rw [hI, List.drop_length]; rfl
     apply J.exit; simp
     apply J.seq
     refine J.regE (by simp [eW]; rfl) ?_
     simp
     apply J.ret
     refine ⟨by simp, rfl, _, [], by simp [a55R]; rfl, ?_⟩
     first | (simp [mayW, hR]; done) | (simp [mayW, hR1, btw, *]; done) | (simp [mayW, hR1, btw]; omega) | (simp [mayW, btw]; intros; omega) | trace_state
  ·
   try simp only [g13]
   try simp at g13
   iterate 4 refine runL_step rfl (by simp [eW]; rfl) ?_
   simp [runL]
   apply J.cond; simp [eW]
   apply J.seq
   refine J.regE (by simp [eW]; rfl) ?_
   simp
   apply J.ret
   refine ⟨by simp, rfl, _, [], by simp [a55R]; rfl, ?_⟩
   first | (simp [mayW, hR]; done) | (simp [mayW, hR1, btw, *]; done) | (simp [mayW, hR1, btw]; omega) | (simp [mayW, btw]; intros; omega) | trace_state
 ·
  try simp only [g8]
  try simp at g8
  iterate 9 refine runL_step rfl (by simp [eW]; rfl) ?_
  simp [runL]
  apply J.cond; simp [eW]
  apply J.seq
  refine J.regE (by simp [eW]; rfl) ?_
  simp
  apply J.ret
  refine ⟨by simp, rfl, _, [], by simp [a55R]; rfl, ?_⟩
  first | (simp [mayW, hR]; done) | (simp [mayW, hR1, btw, *]; done) | (simp [mayW, hR1, btw]; omega) | (simp [mayW, btw]; intros; omega) | trace_state
theorem k111 : chkFn Tryz.prog 111 49 3 (slBsf 4) slBsfR = true := by kernel_rfl
theorem k83 : chkFn Tryz.prog 83 8 1 (slClone 4 90 40 83005 83007) slCloneR = true := by kernel_rfl
theorem k90 : chkFn Tryz.prog 90 95 3 (slIns 90040 83005 4 90 40 126 127 90025) slInsR = true := by kernel_rfl
noncomputable def ov126 : OvOK Tryz.prog 126 := ⟨Tryz.f126, 58, 4, 90, by kernel_rfl, by kernel_rfl, by kernel_rfl, by kernel_rfl, by kernel_rfl, by kernel_rfl, by kernel_rfl⟩
theorem c112 : chkFn Tryz.prog 112 9 2 a112 a112R = true := by kernel_rfl
theorem d112 (x : Told) (n : Int) : DoesT 112 [.agg (eT x), iv n] (iv (cmpI x.seq n)) := by
 refine Does.of (nt := 9) (ac := a112) (rds := a112R) c112 (fun c hc => ?_)
 unfold a112
 apply J.seq
 refine J.regE (by simp [eT]; rfl) ?_
 simp
 apply J.seq
 apply J.reg
 iterate 3 refine runL_step rfl (by simp [eT]; rfl) ?_
 refine runL_tree rfl (d86 _ _) (by simp) hc ?_
 simp
 refine runL_step rfl (by simp [eT]; rfl) ?_
 simp [runL]
 apply J.ret
 refine ⟨by simp, rfl, _, [], by simp [a112R]; rfl, ?_⟩
 simp
theorem d111 (l : List Told) (n : Int) (hf : l.length < 1000000) : DoesT 111 [.ro 4 (eTs l), iv n, .fn 112 []] (.tup [iv (bsK kT n l : Nat), bv (bsKF kT n l)]) := by
 obtain ⟨h1, h2⟩ := bsL_map eT kT n (fun e => cmpI (k0 e) n) (fun x => rfl) l
 have := dBsf k111 (y := iv n) (g := 112) (caps := []) (fun e => cmpI (k0 e) n) (by omega) (eTs_rows hf) trivial trivial (fun e he => by obtain ⟨x, _, rfl⟩ := List.mem_map.1 he; exact d112 x n)
 unfold eTs at *
 rw [h1, h2] at this
 exact this
theorem c87 : chkFn Tryz.prog 87 11 2 a87 a87R = true := by kernel_rfl
theorem d87 (l : List Told) (n : Int) (hf : l.length < 1000000) : DoesT 87 [.ro 4 (eTs l), iv n] (.tup [iv (bsK kT n l : Nat), bv (bsKF kT n l)]) := by
 refine Does.of (nt := 11) (ac := a87) (rds := a87R) c87 (fun c hc => ?_)
 unfold a87
 apply J.seq
 refine J.regE (by simp; rfl) ?_
 simp
 apply J.seq
 apply J.reg
 iterate 2 refine runL_step rfl (by simp; rfl) ?_
 refine runL_tree rfl (d111 l n hf) (by simp) hc ?_
 simp
 iterate 4 refine runL_step rfl (by simp; rfl) ?_
 simp [runL]
 apply J.ret
 refine ⟨by simp, rfl, _, [], by simp [a87R]; rfl, ?_⟩
 simp
theorem lookW_may {w : Win} {s : Int} (h : mayW w = false) : lookW w s = (noA, false, 1) := by simp [lookW, h]
theorem lookW_num {w : Win} {s : Int} (h : btw s 1 1073741824 = false) : lookW w s = (noA, false, 1) := by simp [lookW, h]
theorem lookW_low {w : Win} {s : Int} (h : mayW w = true) (h1 : btw s 1 1073741824 = true) (h2 : s ≤ w.low) : lookW w s = (noA, false, 9) := by simp [lookW, h, h1, h2]
theorem lookW_is {w : Win} {s : Int} {x : Told} (h : mayW w = true) (h1 : btw s 1 1073741824 = true) (h2 : ¬ s ≤ w.low) (h3 : w.l.find? (fun x => decide (x.seq = s)) = some x) : lookW w s = (x.a, true, 0) := by
 unfold lookW; rw [if_neg (by simp [h, h1]), if_neg h2, h3]
theorem lookW_not {w : Win} {s : Int} (h : mayW w = true) (h1 : btw s 1 1073741824 = true) (h2 : ¬ s ≤ w.low) (h3 : w.l.find? (fun x => decide (x.seq = s)) = none) : lookW w s = (noA, false, 0) := by
 unfold lookW; rw [if_neg (by simp [h, h1]), if_neg h2, h3]
def I49 (w : Win) (s : Int) (m : Nat) (st : St) : Prop := ∃ i : Nat, i ≤ w.l.length ∧ m = w.l.length - i ∧ w.l.find? (fun x => decide (x.seq = s)) = (w.l.drop i).find? (fun x => decide (x.seq = s)) ∧ st = ⟨[(1, iv s), (2, .ptr 49002 0 0 0), (4, .ptr 49004 0 0 0), (8, iv (i : Nat))], [(49002, .obj 60 (eW w)), (49004, .obj 39 [iv 0, iv 0, sv ⟨#[]⟩])], []⟩
theorem c43 : chkFn Tryz.prog 43 43 2 a43 a43R = true := by kernel_rfl
theorem d43 (w : Win) (s : Int) (hf : w.l.length < 1000000) : DoesT 43 [.agg (eW w), iv s] (.tup [.agg (eA (lookW w s).1), bv (lookW w s).2.1, iv (lookW w s).2.2]) := by
 refine Does.of (nt := 43) (ac := a43) (rds := a43R) c43 (fun c hc => ?_)
 unfold a43
 apply J.seq
 refine J.regE (by simp [eW, eW]; rfl) ?_
 simp
 apply J.seq
 apply J.block
 apply J.seq
 apply J.reg
 refine runL_step rfl (by simp [eW]; rfl) ?_
 refine runL_tree rfl (d32 w hf) (by simp) hc ?_
 simp
 iterate 2 refine runL_step rfl (by simp [eW]; rfl) ?_
 refine runL_if rfl (fun g13 => ?_) (fun g13 => ?_)
 ·
  try simp only [g13]
  try simp at g13
  iterate 4 refine runL_step rfl (by simp [eW]; rfl) ?_
  refine runL_if rfl (fun g17 => ?_) (fun g17 => ?_)
  ·
   try simp only [g17]
   try simp at g17
   iterate 4 refine runL_step rfl (by simp [eW]; rfl) ?_
   simp [runL]
   refine J.condB rfl (fun h9 => ?_) (fun h9 => ?_)
   ·
    try simp only [h9]
    try simp at h9
    apply J.seq
    refine J.regE (by simp [eW]; rfl) ?_
    simp
    refine J.nz hc ?_
    simp
    apply J.ret
    refine ⟨by simp, rfl, _, [], by simp [a43R]; rfl, ?_⟩
    first | (simp [lookW_may, eA, noA, *]; done) | (simp [lookW_num (show btw s 1 1073741824 = false by simp [btw]; omega), eA, noA]; done) | (simp [hL, eA, noA]; done) | trace_state
   ·
    try simp only [h9]
    try simp at h9
    apply J.seq
    refine J.regE (by simp [eW]; rfl) ?_
    simp
    refine J.condB rfl (fun h22 => ?_) (fun h22 => ?_)
    ·
     simp at h22
     have hbt : btw s 1 1073741824 = true := by simp [btw]; omega
     have hL := lookW_low (by assumption) hbt h22
     apply J.seq
     refine J.regE (by simp [eW]; rfl) ?_
     simp
     refine J.nz hc ?_
     simp
     apply J.ret
     refine ⟨by simp, rfl, _, [], by simp [a43R]; rfl, ?_⟩
     first | (simp [lookW_may, eA, noA, *]; done) | (simp [lookW_num (show btw s 1 1073741824 = false by simp [btw]; omega), eA, noA]; done) | (simp [hL, eA, noA]; done) | trace_state
    ·
     simp at h22
     have hbt : btw s 1 1073741824 = true := by simp [btw]; omega
     obtain ⟨hup, _⟩ := riseT_up (mayW_spec (w := w) (by assumption)).1
     obtain ⟨hf1, hf2⟩ := find_up kT hup s
     apply J.skip; simp
     apply J.seq
     apply J.seq
     apply J.reg
     iterate 3 refine runL_step rfl (by simp [eW]; rfl) ?_
     refine runL_tree rfl (d87 w.l s hf) (by simp) hc ?_
     simp
     iterate 5 refine runL_step rfl (by simp [eW]; rfl) ?_
     simp [runL]
     apply J.seq
     refine J.regE (by simp [eW]; rfl) ?_
     simp
     refine J.condB rfl (fun h35 => ?_) (fun h35 => ?_)
     ·
      obtain ⟨x, hx, hxs, hfx⟩ := hf1 h35
      have hL := lookW_is (by assumption) hbt (by omega) hfx
      obtain ⟨x', hx', hgx, hg, hge, hdr, hw, hlt2⟩ := getT (bsKF_lt kT h35) hf
      obtain rfl : x = x' := by rw [hx] at hx'; injection hx'
      apply J.seq
      apply J.reg
      iterate 9 refine runL_step rfl (by simp [eW, hlt2, hg, hge, eT]; rfl) ?_
      simp [runL]
      refine J.nz hc ?_
      simp
      apply J.ret
      refine ⟨by simp, rfl, _, [], by simp [a43R]; rfl, ?_⟩
      first | (simp [lookW_may, eA, noA, *]; done) | (simp [lookW_num (show btw s 1 1073741824 = false by simp [btw]; omega), eA, noA]; done) | (simp [hL, eA, noA]; done) | trace_state
     ·
      have hL := lookW_not (by assumption) hbt (by omega) (hf2 h35)
      apply J.skip; simp
      apply J.seq
      refine J.regE (by simp [eW]; rfl) ?_
      simp
      refine J.nz hc ?_
      simp
      apply J.ret
      refine ⟨by simp, rfl, _, [], by simp [a43R]; rfl, ?_⟩
      first | (simp [lookW_may, eA, noA, *]; done) | (simp [lookW_num (show btw s 1 1073741824 = false by simp [btw]; omega), eA, noA]; done) | (simp [hL, eA, noA]; done) | trace_state
  ·
   try simp only [g17]
   try simp at g17
   iterate 3 refine runL_step rfl (by simp [eW]; rfl) ?_
   simp [runL]
   apply J.cond; simp [eW]
   apply J.seq
   refine J.regE (by simp [eW]; rfl) ?_
   simp
   refine J.nz hc ?_
   simp
   apply J.ret
   refine ⟨by simp, rfl, _, [], by simp [a43R]; rfl, ?_⟩
   first | (simp [lookW_may, eA, noA, *]; done) | (simp [lookW_num (show btw s 1 1073741824 = false by simp [btw]; omega), eA, noA]; done) | (simp [hL, eA, noA]; done) | trace_state
 ·
  try simp only [g13]
  try simp at g13
  iterate 7 refine runL_step rfl (by simp [eW]; rfl) ?_
  simp [runL]
  apply J.cond; simp [eW]
  apply J.seq
  refine J.regE (by simp [eW]; rfl) ?_
  simp
  refine J.nz hc ?_
  simp
  apply J.ret
  refine ⟨by simp, rfl, _, [], by simp [a43R]; rfl, ?_⟩
  first | (simp [lookW_may, eA, noA, *]; done) | (simp [lookW_num (show btw s 1 1073741824 = false by simp [btw]; omega), eA, noA]; done) | (simp [hL, eA, noA]; done) | trace_state
theorem c49 : chkFn Tryz.prog 49 49 2 a49 a49R = true := by kernel_rfl
theorem d49 (w : Win) (s : Int) (hf : w.l.length < 1000000) : DoesT 49 [.agg (eW w), iv s] (.tup [.agg (eA (lookW w s).1), bv (lookW w s).2.1, iv (lookW w s).2.2]) := by
 refine Does.of (nt := 49) (ac := a49) (rds := a49R) c49 (fun c hc => ?_)
 unfold a49
 apply J.seq
 refine J.regE (by simp [eW, eW]; rfl) ?_
 simp
 apply J.seq
 apply J.reg
 refine runL_step rfl (by simp [eW]; rfl) ?_
 refine runL_tree rfl (d55 w hf) (by simp) hc ?_
 simp
 refine runL_step rfl (by simp [eW]; rfl) ?_
 simp [runL]
 apply J.seq
 apply J.seq
 apply J.reg
 iterate 3 refine runL_step rfl (by simp [eW]; rfl) ?_
 refine runL_if rfl (fun g13 => ?_) (fun g13 => ?_)
 ·
  try simp only [g13]
  try simp at g13
  iterate 4 refine runL_step rfl (by simp [eW]; rfl) ?_
  refine runL_if rfl (fun g17 => ?_) (fun g17 => ?_)
  ·
   try simp only [g17]
   try simp at g17
   iterate 3 refine runL_step rfl (by simp [eW]; rfl) ?_
   simp [runL]
   refine J.condB rfl (fun h20 => ?_) (fun h20 => ?_)
   ·
    try simp only [h20]
    try simp at h20
    apply J.seq
    refine J.regE (by simp [eW]; rfl) ?_
    simp
    refine J.nz hc ?_
    simp
    apply J.ret
    refine ⟨by simp, rfl, _, [], by simp [a49R]; rfl, ?_⟩
    first | (simp [lookW_may, eA, noA, *]; done) | (simp [lookW_num (show btw s 1 1073741824 = false by simp [btw]; omega), eA, noA]; done) | (simp [hL, eA, noA]; done) | trace_state
   ·
    try simp only [h20]
    try simp at h20
    apply J.skip; simp
    apply J.seq
    apply J.seq
    refine J.regE (by simp [eW]; rfl) ?_
    simp
    refine J.condB rfl (fun h25 => ?_) (fun h25 => ?_)
    ·
     simp at h25
     have hbt : btw s 1 1073741824 = true := by simp [btw]; omega
     have hL := lookW_low (by assumption) hbt h25
     apply J.seq
     refine J.regE (by simp [eW]; rfl) ?_
     simp
     refine J.nz hc ?_
     simp
     apply J.ret
     refine ⟨by simp, rfl, _, [], by simp [a49R]; rfl, ?_⟩
     first | (simp [lookW_may, eA, noA, *]; done) | (simp [lookW_num (show btw s 1 1073741824 = false by simp [btw]; omega), eA, noA]; done) | (simp [hL, eA, noA]; done) | trace_state
    ·
     simp at h25
     have hbt : btw s 1 1073741824 = true := by simp [btw]; omega
     apply J.skip; simp
     apply J.seq
     apply J.seq
     refine J.regE (by simp [eW]; rfl) ?_
     simp
     apply J.block
     refine J.loop hc (I49 w s) ?_ ?_
     ·exact ⟨_, _, St.le_refl _, 0, by omega, rfl, rfl, by simp [eW]⟩
     rintro n st ⟨i, hi, rfl, hI, rfl⟩
     apply J.seq
     apply J.seq
     refine J.regE (by simp [eW]; rfl) ?_
     simp
     apply J.cond; simp [eW]
     refine ⟨fun hlt => ?_, fun hlt => ?_⟩
     ·
      obtain ⟨y, hx, hgx, hg, hge, hdr, hw, hlt2⟩ := getT (show i < w.l.length by omega) hf
      rw [hdr] at hI
      apply J.skip; simp
      apply J.seq
      apply J.block
      apply J.seq
      refine J.regE (by simp [eW, hlt2, hg, hge, eT]; rfl) ?_
      simp
      refine J.condB rfl (fun h41 => ?_) (fun h41 => ?_)
      ·
       simp at h41
       have hL := lookW_is (x := y) (by assumption) hbt (by omega) (by rw [hI]; simp [h41])
       apply J.seq
       apply J.reg
       iterate 9 refine runL_step rfl (by simp [eW, hlt2, hg, hge, eT]; rfl) ?_
       simp [runL]
       refine J.nz hc ?_
       simp
       apply J.ret
       refine ⟨by simp, rfl, _, [], by simp [a49R]; rfl, ?_⟩
       first | (simp [lookW_may, eA, noA, *]; done) | (simp [lookW_num (show btw s 1 1073741824 = false by simp [btw]; omega), eA, noA]; done) | (simp [hL, eA, noA]; done) | trace_state
      ·
       simp at h41
       have hI2 : w.l.find? (fun x => decide (x.seq = s)) = (w.l.drop (i + 1)).find? (fun x => decide (x.seq = s)) := by rw [hI]; simp [h41]
       apply J.skip; simp
       refine J.regE (by simp [eW, hw]; rfl) ?_
       simp
       refine ⟨_, by omega, _, ?_, i + 1, by omega, rfl, hI2, rfl⟩
       apply le_sub <;> simp [eW]
     ·
      have hie : i = w.l.length := by omega
      subst hie
      have hL := lookW_not (by assumption) hbt (by omega) (by rw [hI, List.drop_length]; rfl)
      apply J.exit; simp
      apply J.seq
      refine J.regE (by simp [eW]; rfl) ?_
      simp
      refine J.nz hc ?_
      simp
      apply J.ret
      refine ⟨by simp, rfl, _, [], by simp [a49R]; rfl, ?_⟩
      first | (simp [lookW_may, eA, noA, *]; done) | (simp [lookW_num (show btw s 1 1073741824 = false by simp [btw]; omega), eA, noA]; done) | (simp [hL, eA, noA]; done) | trace_state
  ·
   try simp only [g17]
   try simp at g17
   iterate 2 refine runL_step rfl (by simp [eW]; rfl) ?_
   simp [runL]
   apply J.cond; simp [eW]
   apply J.seq
   refine J.regE (by simp [eW]; rfl) ?_
   simp
   refine J.nz hc ?_
   simp
   apply J.ret
   refine ⟨by simp, rfl, _, [], by simp [a49R]; rfl, ?_⟩
   first | (simp [lookW_may, eA, noA, *]; done) | (simp [lookW_num (show btw s 1 1073741824 = false by simp [btw]; omega), eA, noA]; done) | (simp [hL, eA, noA]; done) | trace_state
 ·
  try simp only [g13]
  try simp at g13
  iterate 6 refine runL_step rfl (by simp [eW]; rfl) ?_
  simp [runL]
  apply J.cond; simp [eW]
  apply J.seq
  refine J.regE (by simp [eW]; rfl) ?_
  simp
  refine J.nz hc ?_
  simp
  apply J.ret
  refine ⟨by simp, rfl, _, [], by simp [a49R]; rfl, ?_⟩
  first | (simp [lookW_may, eA, noA, *]; done) | (simp [lookW_num (show btw s 1 1073741824 = false by simp [btw]; omega), eA, noA]; done) | (simp [hL, eA, noA]; done) | trace_state
theorem d83 (l : List Told) (hf : l.length < 1000000) : Does Tryz.prog 83 [.ro 4 (eTs l)] [] [] (fun r m => r = .own 83005 4 0 l.length ∧ m = [(83005, .arr 90 4 (eTs l))]) := by
 have := dClone k83 (es := eTs l) (by omega) (by simp; omega)
 simpa using this
theorem eTs_ins (l : List Told) (p : Nat) (x : Told) : (eTs l).take p ++ [eT x] ++ (eTs l).drop p = eTs (l.take p ++ [x] ++ l.drop p) := by simp [eTs, List.map_take, List.map_drop]
theorem d90 {l : List Told} {x : Told} (hf : l.length < 1000000) (hu : Up kT l) (hn : bsKF kT x.seq l = false) :
  Does Tryz.prog 90 [.own 83005 4 0 l.length, iv (bsK kT x.seq l : Nat), .own 45042 4 0 1] [(83005, .arr 90 4 (eTs l)), (45042, .arr 90 4 [eT x])] [] (fun r m => ∃ b, (b = 83005 ∨ b = 90040) ∧ r = .own b 4 0 (l.length + 1) ∧ m = [(b, .arr 90 4 (eTs (putK kT x l)))]) := by
 have := dIns k90 ov126 (es := eTs l) (e := eT x) (i := bsK kT x.seq l) (b2 := 45042) (by omega) (by omega) (by omega) (by omega) (by simpa using bsK_le kT x.seq l) (by simpa using hf) (by simp; omega)
 rw [eTs_ins, eTs_length] at this
 rw [← put_new kT hu x hn]
 exact this
theorem c40 : chkFn Tryz.prog 40 7 1 a40 a40R = true := by kernel_rfl
theorem d40 (w : Win) : DoesT 40 [.agg (eW w)] (bv (decide ((w.l.length : Int) ≤ 50))) := by
 refine Does.of (nt := 7) (ac := a40) (rds := a40R) c40 (fun c hc => ?_)
 unfold a40
 apply J.seq
 refine J.regE (by simp [eW]; rfl) ?_
 simp
 apply J.seq
 refine J.regE (by simp [eW]; rfl) ?_
 simp
 apply J.ret
 refine ⟨by simp, rfl, _, [], by simp [a40R]; rfl, ?_⟩
 simp
theorem look_ok {w : Win} {s : Int} {A : Ans} (h : lookW w s = (A, false, 0)) : Up kT w.l ∧ bsKF kT s w.l = false ∧ w.l.length ≤ 8 := by
 by_cases h1 : mayW w = true
 ·obtain ⟨hup, _⟩ := riseT_up (mayW_spec h1).1
  refine ⟨hup, ?_, (mayW_spec h1).2.2⟩
  cases hb : bsKF kT s w.l
  ·rfl
  ·exfalso
   obtain ⟨x, _, _, hx⟩ := (find_up kT hup s).1 hb
   unfold lookW at h
   split at h
   ·cases h
   ·split at h
    ·cases h
    ·rw [hx] at h; cases h
 ·rw [lookW_may (by simpa using h1)] at h; cases h
@[simp] theorem eTs_nil : eTs [] = [] := rfl
theorem eTs_cons (x : Told) (r : List Told) : eTs (x :: r) = eT x :: eTs r := rfl
theorem eTs_take (l : List Told) : (eTs l).take l.length = eTs l := List.take_of_length_le (by simp)
theorem noTree_eTs (l : List Told) : (eTs l).all noTreeL = true := by
 rw [List.all_eq_true]; intro e he; obtain ⟨x, _, rfl⟩ := List.mem_map.1 he; rfl
theorem putW_eq {w : Win} {s : Int} {a A : Ans} {is : Bool} {er : Int} (h : lookW w s = (A, is, er)) : putW w s a = if er ≠ 0 then (noW, er) else if is = true then (noW, 6) else (cutW w.low (putK kT ⟨s, a⟩ w.l), 0) := by
 unfold putW; rw [h]
theorem c45 : chkFn Tryz.prog 45 60 3 a45 a45R = true := by kernel_rfl
theorem d45 (w : Win) (s : Int) (a : Ans) (hf : w.l.length < 1000000) : DoesT 45 [.agg (eW w), iv s, .agg (eA a)] (.tup [.agg (eW (putW w s a).1), iv (putW w s a).2]) := by
 obtain ⟨L, hL⟩ : ∃ L, lookW w s = L := ⟨_, rfl⟩
 obtain ⟨A, is, er⟩ := L
 have h43 := d43 w s hf
 rw [hL] at h43
 rw [putW_eq hL]
 refine Does.of (nt := 60) (ac := a45) (rds := a45R) c45 (fun c hc => ?_)
 unfold a45
 apply J.seq
 refine J.regE (by simp [eW, eA]; rfl) ?_
 simp
 apply J.seq
 apply J.reg
 iterate 2 refine runL_step rfl (by simp [eW, eA]; rfl) ?_
 refine runL_tree rfl (h43) (by simp) hc ?_
 simp
 iterate 8 refine runL_step rfl (by simp [eW, eA]; rfl) ?_
 simp [runL]
 apply J.seq
 apply J.block
 apply J.seq
 refine J.regE (by simp [eW, eA]; rfl) ?_
 simp
 refine J.condB rfl (fun h20 => ?_) (fun h20 => ?_)
 ·
  try simp only [h20]
  try simp at h20
  apply J.seq
  refine J.regE (by simp [eW, eA]; rfl) ?_
  simp
  refine J.nz hc ?_
  simp
  apply J.ret
  refine ⟨by simp, rfl, _, [], by simp [a45R]; rfl, ?_⟩
  simp [noW, eW, h20]
 ·
  try simp only [h20]
  try simp at h20
  apply J.seq
  refine J.regE (by simp [eW, eA]; rfl) ?_
  simp
  refine J.condB rfl (fun h25 => ?_) (fun h25 => ?_)
  ·
   try simp only [h25]
   try simp at h25
   apply J.seq
   refine J.regE (by simp [eW, eA]; rfl) ?_
   simp
   refine J.nz hc ?_
   simp
   apply J.ret
   refine ⟨by simp, rfl, _, [], by simp [a45R]; rfl, ?_⟩
   simp [noW, eW, h20, h25]
  ·
   try simp only [h25]
   try simp at h25
   apply J.skip; simp
   apply J.seq
   subst h20
   subst h25
   obtain ⟨hup, hno, hl8⟩ := look_ok hL
   have h90 := d90 (x := ⟨s, a⟩) hf hup hno
   have hWl := put_new_len kT hup ⟨s, a⟩ hno
   have hWt : (eTs (putK kT ⟨s, a⟩ w.l)).take (w.l.length + 1) = eTs (putK kT ⟨s, a⟩ w.l) := List.take_of_length_le (by simp [hWl])
   apply J.reg
   iterate 3 refine runL_step rfl (by simp [eW, eA]; rfl) ?_
   refine runL_tree rfl (d87 w.l s hf) (by simp) hc ?_
   simp
   iterate 5 refine runL_step rfl (by simp [eW, eA]; rfl) ?_
   simp [runL]
   apply J.seq
   refine J.to hc ⟨[(3, .ptr 45003 0 0 0), (6, .ptr 45006 0 0 0)], [(45003, .obj 60 [iv w.low, .ro 4 (eTs (putK kT ⟨s, a⟩ w.l))]), (45006, .obj 60 [iv 0, .nils 4])], []⟩ ?_ ?_
   ·apply J.draw; intro c' hc'
    iterate 5 refine runP_stepQ (by simp [eW, eA]; rfl) ?_
    refine runP_or ?_ ?_
    ·refine runP_one rfl (by simp) (by simp [eW, eT]; rfl) ?_
     refine runP_or ?_ ?_
     ·refine runP_call [] [] rfl rfl (by simp; exact d83 w.l hf) (by simp) (by simp) (by simp) (by simp) ?_
      rintro _ _ ⟨rfl, rfl⟩
      refine ⟨by simp, ⟨rfl, by simp [noTreeB, noTree_eTs]⟩, ?_⟩
      simp
      refine runP_one rfl (by simp) (by simp [eW, eT]; rfl) ?_
      refine runP_call [83005, 45042] [] rfl rfl (by simp; exact h90) (by simp) (by simp) (by simp) (by simp) ?_
      rintro _ _ ⟨b, rfl | rfl, rfl, rfl⟩
      ·refine ⟨by simp, ⟨rfl, by simp [noTreeB, noTree_eTs]⟩, ?_⟩
       simp
       refine runP_end (by simp [eW]; rfl) ?_
       simp
       refine St.le_trans (le_freeze _ 83005 rfl) ?_
       simp
       apply le_sub <;> simp [hWl, hWt, eW]
      ·refine ⟨by simp, ⟨rfl, by simp [noTreeB, noTree_eTs]⟩, ?_⟩
       simp
       refine runP_end (by simp [eW]; rfl) ?_
       simp
       refine St.le_trans (le_freeze _ 90040 rfl) ?_
       simp
       apply le_sub <;> simp [hWl, hWt, eW]
     ·refine runP_one rfl (by simp) (by simp [eW, eT]; rfl) ?_
      refine runP_call [] [] rfl rfl (by simp; exact d83 w.l hf) (by simp) (by simp) (by simp) (by simp) ?_
      rintro _ _ ⟨rfl, rfl⟩
      refine ⟨by simp, ⟨rfl, by simp [noTreeB, noTree_eTs]⟩, ?_⟩
      simp
      refine runP_call [83005, 45042] [] rfl rfl (by simp; exact h90) (by simp) (by simp) (by simp) (by simp) ?_
      rintro _ _ ⟨b, rfl | rfl, rfl, rfl⟩
      ·refine ⟨by simp, ⟨rfl, by simp [noTreeB, noTree_eTs]⟩, ?_⟩
       simp
       refine runP_end (by simp [eW]; rfl) ?_
       simp
       refine St.le_trans (le_freeze _ 83005 rfl) ?_
       simp
       apply le_sub <;> simp [hWl, hWt, eW]
      ·refine ⟨by simp, ⟨rfl, by simp [noTreeB, noTree_eTs]⟩, ?_⟩
       simp
       refine runP_end (by simp [eW]; rfl) ?_
       simp
       refine St.le_trans (le_freeze _ 90040 rfl) ?_
       simp
       apply le_sub <;> simp [hWl, hWt, eW]
    ·refine runP_one rfl (by simp) (by simp [eW, eT]; rfl) ?_
     refine runP_one rfl (by simp) (by simp [eW, eT]; rfl) ?_
     refine runP_call [] [] rfl rfl (by simp; exact d83 w.l hf) (by simp) (by simp) (by simp) (by simp) ?_
     rintro _ _ ⟨rfl, rfl⟩
     refine ⟨by simp, ⟨rfl, by simp [noTreeB, noTree_eTs]⟩, ?_⟩
     simp
     refine runP_call [83005, 45042] [] rfl rfl (by simp; exact h90) (by simp) (by simp) (by simp) (by simp) ?_
     rintro _ _ ⟨b, rfl | rfl, rfl, rfl⟩
     ·refine ⟨by simp, ⟨rfl, by simp [noTreeB, noTree_eTs]⟩, ?_⟩
      simp
      refine runP_end (by simp [eW]; rfl) ?_
      simp
      refine St.le_trans (le_freeze _ 83005 rfl) ?_
      simp
      apply le_sub <;> simp [hWl, hWt, eW]
     ·refine ⟨by simp, ⟨rfl, by simp [noTreeB, noTree_eTs]⟩, ?_⟩
      simp
      refine runP_end (by simp [eW]; rfl) ?_
      simp
      refine St.le_trans (le_freeze _ 90040 rfl) ?_
      simp
      apply le_sub <;> simp [hWl, hWt, eW]
   simp
   apply J.seq
   apply J.seq
   generalize hLL : putK kT ⟨s, a⟩ w.l = LL at *
   refine J.regE (by simp [eW, eA]; rfl) ?_
   simp
   refine J.condB rfl (fun h48 => ?_) (fun h48 => ?_)
   ·
    simp at h48
    obtain ⟨x, r, rfl⟩ : ∃ x r, LL = x :: r := by
     cases LL with
     | nil => simp at h48
     | cons x r => exact ⟨x, r, rfl⟩
    have h1r : (1 : Int) ≤ (r.length : Int) + 1 := by omega
    refine J.to hc ⟨[(3, .ptr 45003 0 0 0), (6, .ptr 45006 0 0 0)], [(45003, .obj 60 [iv x.seq, .ro 4 (eTs r)]), (45006, .obj 60 [iv 0, .nils 4])], []⟩ ?_ ?_
    ·apply J.draw; intro c' hc'
     iterate 2 refine runP_stepQ (by simp [eW, eT, eTs_cons, eTs_take, h1r]; rfl) ?_
     refine runP_or ?_ ?_
     ·refine runP_one rfl (by simp) (by simp [eW, eT, eTs_cons, eTs_take, h1r]; rfl) ?_
      iterate 3 refine runP_stepQ (by simp [eW, eT, eTs_cons, eTs_take, h1r]; rfl) ?_
      refine runP_one rfl (by simp) (by simp [eW, eT, eTs_cons, eTs_take, h1r]; rfl) ?_
      iterate 2 refine runP_stepQ (by simp [eW, eT, eTs_cons, eTs_take, h1r]; rfl) ?_
      refine runP_one rfl (by simp) (by simp [eW, eT, eTs_cons, eTs_take, h1r]; rfl) ?_
      refine runP_stepQ (by simp [eW, eT, eTs_cons, eTs_take, h1r]; rfl) ?_
      simp
      refine runP_end (by simp [eW]; rfl) ?_
      simp
      apply le_sub <;> simp [eW]
     ·refine runP_one rfl (by simp) (by simp [eW, eT, eTs_cons, eTs_take, h1r]; rfl) ?_
      refine runP_stepQ (by simp [eW, eT, eTs_cons, eTs_take, h1r]; rfl) ?_
      refine runP_one rfl (by simp) (by simp [eW, eT, eTs_cons, eTs_take, h1r]; rfl) ?_
      iterate 4 refine runP_stepQ (by simp [eW, eT, eTs_cons, eTs_take, h1r]; rfl) ?_
      refine runP_one rfl (by simp) (by simp [eW, eT, eTs_cons, eTs_take, h1r]; rfl) ?_
      refine runP_stepQ (by simp [eW, eT, eTs_cons, eTs_take, h1r]; rfl) ?_
      simp
      refine runP_end (by simp [eW]; rfl) ?_
      simp
      apply le_sub <;> simp [eW]
    simp
    apply J.seq
    refine J.regE (by simp [eW, eA]; rfl) ?_
    simp
    apply J.ret
    refine ⟨by simp, rfl, _, [], by simp [a45R]; rfl, ?_⟩
    simp [cutW, eW, show 8 < r.length + 1 by simp at h48; omega]
   ·
    simp at h48
    apply J.skip; simp
    apply J.seq
    refine J.regE (by simp [eW, eA]; rfl) ?_
    simp
    apply J.ret
    refine ⟨by simp, rfl, _, [], by simp [a45R]; rfl, ?_⟩
    simp [cutW, eW, show ¬ 8 < LL.length by omega]
def I51 (w : Win) (s : Int) (a A : Ans) (m : Nat) (st : St) : Prop := ∃ (i : Nat) (o : List Told) (dn : Bool), i ≤ w.l.length ∧ m = w.l.length - i ∧ putK kT ⟨s, a⟩ w.l = o ++ (if dn = true then w.l.drop i else putK kT ⟨s, a⟩ (w.l.drop i)) ∧ o.length ≤ i + dn.toNat ∧ st = ⟨[(1, iv s), (3, .ptr 51003 0 0 0), (5, .ptr 51005 0 0 0), (6, .ptr 51006 0 0 0), (11, .own 51052 4 0 o.length), (12, bv dn), (13, iv (i : Nat))], [(51003, .obj 60 (eW w)), (51005, .obj 39 (eA a)), (51006, .obj 60 [iv 0, .nils 4]), (51008, .obj 39 (eA A)), (51052, .arr 90 4 (eTs o))], []⟩
theorem eTs_app (a b : List Told) : eTs (a ++ b) = eTs a ++ eTs b := by simp [eTs]
theorem eTs_take1 (l : List Told) : (eTs l).take (l.length + 1) = eTs l := List.take_of_length_le (by simp)
theorem eTs_one (x : Told) : eTs [x] = [eT x] := rfl
theorem hasT_mem {w : Win} {s : Int} {A : Ans} (h : lookW w s = (A, false, 0)) {y : Told} {i : Nat} (hy : w.l[i]? = some y) : y.seq ≠ s := by
 obtain ⟨hu, hn, _⟩ := look_ok h
 rw [bsKF_eq kT hu] at hn
 simp only [List.any_eq_false, decide_eq_true_eq] at hn
 exact hn y (List.mem_of_getElem? hy)
def eqT (x y : Told) : Bool := x.seq == y.seq && (x.a.e == y.a.e && (x.a.n == y.a.n && x.a.text.toList == y.a.text.toList))
def sameR : List Told → List Told → Bool
 | x :: r, y :: q => eqT x y && sameR r q
 | _, _ => true
def sameW (a b : Win) : Bool := a.low == b.low && (a.l.length == b.l.length && sameR a.l b.l)
theorem eqT_eq {x y : Told} : eqT x y = true ↔ x = y := by
 obtain ⟨s, e, n, t⟩ := x; obtain ⟨s', e', n', t'⟩ := y
 simp only [eqT, Bool.and_eq_true, beq_iff_eq]
 constructor
 ·rintro ⟨rfl, rfl, rfl, h⟩
  have : t = t' := by cases t; cases t'; simp [ByteArray.toList_eq] at h ⊢; exact h
  rw [this]
 ·rintro h; injection h with h1 h2; injection h2 with h2 h3 h4; subst h1 h2 h3 h4; simp
def I27 (a b : Win) (m : Nat) (st : St) : Prop := ∃ i : Nat, i ≤ a.l.length ∧ m = a.l.length - i ∧ sameR a.l b.l = sameR (a.l.drop i) (b.l.drop i) ∧ st = ⟨[(2, .ptr 27002 0 0 0), (3, .ptr 27003 0 0 0), (5, iv (i : Nat))], [(27002, .obj 60 (eW a)), (27003, .obj 60 (eW b))], []⟩
theorem c51 : chkFn Tryz.prog 51 83 3 a51 a51R = true := by kernel_rfl
theorem d51 (w : Win) (s : Int) (a : Ans) (hf : w.l.length < 1000000) : DoesT 51 [.agg (eW w), iv s, .agg (eA a)] (.tup [.agg (eW (putW w s a).1), iv (putW w s a).2]) := by
 obtain ⟨L, hL⟩ : ∃ L, lookW w s = L := ⟨_, rfl⟩
 obtain ⟨A, is, er⟩ := L
 have h49 := d49 w s hf
 rw [hL] at h49
 rw [putW_eq hL]
 refine Does.of (nt := 83) (ac := a51) (rds := a51R) c51 (fun c hc => ?_)
 unfold a51
 apply J.seq
 refine J.regE (by simp [eW, eA]; rfl) ?_
 simp
 apply J.seq
 apply J.reg
 iterate 2 refine runL_step rfl (by simp [eW, eA]; rfl) ?_
 refine runL_tree rfl (h49) (by simp) hc ?_
 simp
 iterate 8 refine runL_step rfl (by simp [eW, eA]; rfl) ?_
 simp [runL]
 apply J.seq
 apply J.seq
 refine J.regE (by simp [eW, eA]; rfl) ?_
 simp
 refine J.condB rfl (fun h23 => ?_) (fun h23 => ?_)
 ·
  try simp only [h23]
  try simp at h23
  apply J.seq
  refine J.regE (by simp [eW, eA]; rfl) ?_
  simp
  refine J.nz hc ?_
  simp
  apply J.ret
  refine ⟨by simp, rfl, _, [], by simp [a51R]; rfl, ?_⟩
  simp [noW, eW, h23]
 ·
  try simp only [h23]
  try simp at h23
  apply J.skip; simp
  apply J.seq
  apply J.seq
  refine J.regE (by simp [eW, eA]; rfl) ?_
  simp
  refine J.condB rfl (fun h26 => ?_) (fun h26 => ?_)
  ·
   try simp only [h26]
   try simp at h26
   apply J.seq
   refine J.regE (by simp [eW, eA]; rfl) ?_
   simp
   refine J.nz hc ?_
   simp
   apply J.ret
   refine ⟨by simp, rfl, _, [], by simp [a51R]; rfl, ?_⟩
   simp [noW, eW, h23, h26]
  ·
   try simp only [h26]
   try simp at h26
   apply J.skip; simp
   apply J.seq
   subst h23
   subst h26
   obtain ⟨hup, hno, hl8⟩ := look_ok hL
   refine J.regE (by simp [eW, eA]; rfl) ?_
   simp
   refine J.nilrow hc 11 51052 90 rfl rfl rfl ?_
   simp
   apply J.seq
   refine J.regE (by simp [eW, eA]; rfl) ?_
   simp
   apply J.seq
   apply J.seq
   refine J.regE (by simp [eW, eA]; rfl) ?_
   simp
   apply J.block
   refine J.loop hc (I51 w s a A) ?_ ?_
   ·exact ⟨_, _, St.le_refl _, 0, [], false, by omega, rfl, rfl, by simp, by simp [eW, eA]⟩
   rintro n st ⟨i, o, dn, hi, rfl, hI, ho, rfl⟩
   apply J.seq
   apply J.seq
   refine J.regE (by simp [eW, eA]; rfl) ?_
   simp
   apply J.cond; simp [eW, eA]
   refine ⟨fun hlt => ?_, fun hlt => ?_⟩
   ·
    obtain ⟨y, hx, hgx, hg, hge, hdr, hw, hlt2⟩ := getT (show i < w.l.length by omega) hf
    have hyu := hasT_mem hL hx
    rw [hdr] at hI
    apply J.skip; simp
    apply J.seq
    apply J.block
    apply J.seq
    apply J.seq
    apply J.reg
    iterate 3 refine runL_step rfl (by simp [eW, eA, hlt2, hg, hge, hlt, eT]; rfl) ?_
    refine runL_if rfl (fun g37 => ?_) (fun g37 => ?_)
    ·
     try simp only [g37]
     try simp at g37
     subst g37
     simp at ho
     iterate 9 refine runL_step rfl (by simp [eW, eA, hlt2, hg, hge, hlt, eT]; rfl) ?_
     simp [runL]
     refine J.condB rfl (fun h46 => ?_) (fun h46 => ?_)
     ·
      simp at h46
      have hI2 : putK kT ⟨s, a⟩ w.l = (o ++ [⟨s, a⟩] ++ [y]) ++ (if true = true then w.l.drop (i + 1) else putK kT ⟨s, a⟩ (w.l.drop (i + 1))) := by
       have e : putK kT ⟨s, a⟩ (y :: w.l.drop (i + 1)) = ⟨s, a⟩ :: y :: w.l.drop (i + 1) := by simp [putK, kT, h46]
       rw [hI, if_neg (by simp), e]; simp
      apply J.seq
      refine J.regE (by simp [eW, eA, show (o.length + 1) * 40 ≤ 140737488355328 from by omega, show (o.length + 1 + 1) * 40 ≤ 140737488355328 from by omega, eA]; rfl) ?_
      simp
      refine J.regE (by simp [eW, eA]; rfl) ?_
      simp
      apply J.reg
      iterate 9 refine runL_step rfl (by simp [eW, eA, hlt2, hg, hge, eT, show (o.length + 1) * 40 ≤ 140737488355328 from by omega, show (o.length + 1 + 1) * 40 ≤ 140737488355328 from by omega]; rfl) ?_
      simp [runL]
      refine J.regE (by simp [eW, eA, hw]; rfl) ?_
      simp
      refine ⟨_, by omega, _, ?_, i + 1, o ++ [⟨s, a⟩] ++ [y], true, by omega, rfl, hI2, by simp; omega, rfl⟩
      apply le_sub <;> simp [eW, eTs_app, eTs_one, eTs_take, eTs_take1, eTs_cons, List.take_append, eT, eA]
     ·
      simp at h46
      have hI2 : putK kT ⟨s, a⟩ w.l = (o ++ [y]) ++ (if false = true then w.l.drop (i + 1) else putK kT ⟨s, a⟩ (w.l.drop (i + 1))) := by
       have e : putK kT ⟨s, a⟩ (y :: w.l.drop (i + 1)) = y :: putK kT ⟨s, a⟩ (w.l.drop (i + 1)) := by simp [putK, kT, show ¬ s < y.seq by omega, hyu]
       rw [hI, if_neg (by simp), e]; simp
      apply J.skip; simp
      apply J.reg
      iterate 9 refine runL_step rfl (by simp [eW, eA, hlt2, hg, hge, eT, show (o.length + 1) * 40 ≤ 140737488355328 from by omega, show (o.length + 1 + 1) * 40 ≤ 140737488355328 from by omega]; rfl) ?_
      simp [runL]
      refine J.regE (by simp [eW, eA, hw]; rfl) ?_
      simp
      refine ⟨_, by omega, _, ?_, i + 1, o ++ [y], false, by omega, rfl, hI2, by simp; omega, rfl⟩
      apply le_sub <;> simp [eW, eTs_app, eTs_one, eTs_take, eTs_take1, eTs_cons, List.take_append, eT, eA]
    ·
     try simp only [g37]
     try simp at g37
     subst g37
     simp at ho
     have hI2 : putK kT ⟨s, a⟩ w.l = (o ++ [y]) ++ (if true = true then w.l.drop (i + 1) else putK kT ⟨s, a⟩ (w.l.drop (i + 1))) := by
      rw [hI]; simp
     iterate 8 refine runL_step rfl (by simp [eW, eA, hlt2, hg, hge, hlt, eT]; rfl) ?_
     simp [runL]
     apply J.cond; simp [eW, eA]
     apply J.skip; simp
     apply J.reg
     iterate 9 refine runL_step rfl (by simp [eW, eA, hlt2, hg, hge, eT, show (o.length + 1) * 40 ≤ 140737488355328 from by omega, show (o.length + 1 + 1) * 40 ≤ 140737488355328 from by omega]; rfl) ?_
     simp [runL]
     refine J.regE (by simp [eW, eA, hw]; rfl) ?_
     simp
     refine ⟨_, by omega, _, ?_, i + 1, o ++ [y], true, by omega, rfl, hI2, by simp; omega, rfl⟩
     apply le_sub <;> simp [eW, eTs_app, eTs_one, eTs_take, eTs_take1, eTs_cons, List.take_append, eT, eA]
   ·
    have hie : i = w.l.length := by omega
    subst hie
    rw [List.drop_length] at hI
    apply J.exit; simp
    apply J.seq
    apply J.seq
    cases dn
    ·
     have hI3 : putK kT ⟨s, a⟩ w.l = o ++ [⟨s, a⟩] := by rw [hI]; rfl
     simp at ho
     refine J.regE (by simp [eW, eA]; rfl) ?_
     simp
     apply J.cond; simp [eW, eA]
     refine J.regE (by simp [eW, eA, show (o.length + 1) * 40 ≤ 140737488355328 from by omega, show (o.length + 1 + 1) * 40 ≤ 140737488355328 from by omega, eA]; rfl) ?_
     simp
     apply J.seq
     refine J.le hc (show St.le _ ⟨[(3, .ptr 51003 0 0 0), (6, .ptr 51006 0 0 0), (11, .ro 4 (eTs (putK kT ⟨s, a⟩ w.l)))], [(51003, .obj 60 (eW w)), (51006, .obj 60 [iv 0, .nils 4])], []⟩ from ?_) ?_
     ·refine St.le_trans (le_freeze _ 51052 rfl) ?_
      rw [hI3]
      simp
      apply le_sub <;> simp [eW, eTs_app, eTs_one, eTs_cons, eTs_take, eTs_take1, eA, eT, List.take_append]
     generalize hLL : putK kT ⟨s, a⟩ w.l = LL at *
     refine J.regE (by simp [eW, eA]; rfl) ?_
     simp
     apply J.seq
     apply J.seq
     refine J.regE (by simp [eW, eA]; rfl) ?_
     simp
     refine J.condB rfl (fun h73 => ?_) (fun h73 => ?_)
     ·
      simp at h73
      obtain ⟨x, r, rfl⟩ : ∃ x r, LL = x :: r := by
       cases LL with
       | nil => simp at h73
       | cons x r => exact ⟨x, r, rfl⟩
      have h1r : (1 : Int) ≤ (r.length : Int) + 1 := by omega
      have h8 : 8 < r.length + 1 := by simp at h73; omega
      apply J.seq
      refine J.regE (by simp [eW, eA, eTs_cons, eT]; rfl) ?_
      simp
      refine J.regE (by simp [eW, eA, eTs_take, h1r, eTs_cons]; rfl) ?_
      simp
      apply J.seq
      refine J.regE (by simp [eW, eA]; rfl) ?_
      simp
      apply J.ret
      refine ⟨by simp, rfl, _, [], by simp [a51R]; rfl, ?_⟩
      simp [cutW, eW, h8, eTs_cons]
     ·
      simp at h73
      apply J.skip; simp
      apply J.seq
      refine J.regE (by simp [eW, eA]; rfl) ?_
      simp
      apply J.ret
      refine ⟨by simp, rfl, _, [], by simp [a51R]; rfl, ?_⟩
      simp [cutW, eW, show ¬ 8 < LL.length by omega]
    ·
     have hI3 : putK kT ⟨s, a⟩ w.l = o := by rw [hI]; simp
     refine J.regE (by simp [eW, eA]; rfl) ?_
     simp
     apply J.cond; simp [eW, eA]
     apply J.skip; simp
     apply J.seq
     refine J.le hc (show St.le _ ⟨[(3, .ptr 51003 0 0 0), (6, .ptr 51006 0 0 0), (11, .ro 4 (eTs (putK kT ⟨s, a⟩ w.l)))], [(51003, .obj 60 (eW w)), (51006, .obj 60 [iv 0, .nils 4])], []⟩ from ?_) ?_
     ·refine St.le_trans (le_freeze _ 51052 rfl) ?_
      rw [hI3]
      simp
      apply le_sub <;> simp [eW, eTs_app, eTs_one, eTs_cons, eTs_take, eTs_take1, eA, eT, List.take_append]
     generalize hLL : putK kT ⟨s, a⟩ w.l = LL at *
     refine J.regE (by simp [eW, eA]; rfl) ?_
     simp
     apply J.seq
     apply J.seq
     refine J.regE (by simp [eW, eA]; rfl) ?_
     simp
     refine J.condB rfl (fun h73 => ?_) (fun h73 => ?_)
     ·
      simp at h73
      obtain ⟨x, r, rfl⟩ : ∃ x r, LL = x :: r := by
       cases LL with
       | nil => simp at h73
       | cons x r => exact ⟨x, r, rfl⟩
      have h1r : (1 : Int) ≤ (r.length : Int) + 1 := by omega
      have h8 : 8 < r.length + 1 := by simp at h73; omega
      apply J.seq
      refine J.regE (by simp [eW, eA, eTs_cons, eT]; rfl) ?_
      simp
      refine J.regE (by simp [eW, eA, eTs_take, h1r, eTs_cons]; rfl) ?_
      simp
      apply J.seq
      refine J.regE (by simp [eW, eA]; rfl) ?_
      simp
      apply J.ret
      refine ⟨by simp, rfl, _, [], by simp [a51R]; rfl, ?_⟩
      simp [cutW, eW, h8, eTs_cons]
     ·
      simp at h73
      apply J.skip; simp
      apply J.seq
      refine J.regE (by simp [eW, eA]; rfl) ?_
      simp
      apply J.ret
      refine ⟨by simp, rfl, _, [], by simp [a51R]; rfl, ?_⟩
      simp [cutW, eW, show ¬ 8 < LL.length by omega]
theorem c27 : chkFn Tryz.prog 27 38 2 a27 a27R = true := by kernel_rfl
theorem d27 (a b : Win) (ha : a.l.length < 1000000) (hb : b.l.length < 1000000) : DoesT 27 [.agg (eW a), .agg (eW b)] (bv (sameW a b)) := by
 refine Does.of (nt := 38) (ac := a27) (rds := a27R) c27 (fun c hc => ?_)
 unfold a27
 apply J.seq
 refine J.regE (by simp [eW]; rfl) ?_
 simp
 apply J.seq
 apply J.seq
 apply J.reg
 iterate 6 refine runL_step rfl (by simp [eW]; rfl) ?_
 refine runL_if rfl (fun g11 => ?_) (fun g11 => ?_)
 ·
  try simp only [g11]
  try simp at g11
  iterate 8 refine runL_step rfl (by simp [eW]; rfl) ?_
  simp [runL]
  refine J.condB rfl (fun h19 => ?_) (fun h19 => ?_)
  ·
   simp at h19
   apply J.seq
   refine J.regE (by simp [eW]; rfl) ?_
   simp
   apply J.ret
   refine ⟨by simp, rfl, _, [], by simp [a27R]; rfl, ?_⟩
   first | (simp [sameW, hI2, *]; done) | (simp [sameW, show a.l.length ≠ b.l.length by omega]; done) | (simp [sameW, *]; done) | trace_state
  ·
   simp at h19
   have hlen : a.l.length = b.l.length := by omega
   apply J.skip; simp
   apply J.seq
   apply J.seq
   refine J.regE (by simp [eW]; rfl) ?_
   simp
   apply J.block
   refine J.loop hc (I27 a b) ?_ ?_
   ·exact ⟨_, _, St.le_refl _, 0, by omega, rfl, rfl, by simp [eW]⟩
   rintro n st ⟨i, hi, rfl, hI, rfl⟩
   apply J.seq
   apply J.seq
   refine J.regE (by simp [eW]; rfl) ?_
   simp
   apply J.cond; simp [eW]
   refine ⟨fun hlt => ?_, fun hlt => ?_⟩
   ·
    obtain ⟨y, hx, hgx, hg, hge, hdr, hw, hlt2⟩ := getT (show i < a.l.length by omega) ha
    obtain ⟨z, hx2, hgx2, hg2, hge2, hdr2, hw2, hlt3⟩ := getT (show i < b.l.length by omega) hb
    rw [hdr, hdr2] at hI
    apply J.skip; simp
    apply J.seq
    apply J.block
    apply J.seq
    apply J.draw; intro c' hc'
    iterate 11 refine runP_stepQ (by simp [eW, hlt2, hg, hge, hlt3, hg2, hge2, eT]; rfl) ?_
    simp [runP]
    refine J.condB rfl (fun h37 => ?_) (fun h37 => ?_)
    ·
     have hE0 : (!(eqT y z)) = true := by simp only [eqT, Bool.not_and]; exact h37
     have hE : eqT y z = false := by simpa using hE0
     have hI2 : sameR a.l b.l = false := by rw [hI]; simp [sameR, hE]
     apply J.seq
     refine J.regE (by simp [eW]; rfl) ?_
     simp
     apply J.ret
     refine ⟨by simp, rfl, _, [], by simp [a27R]; rfl, ?_⟩
     first | (simp [sameW, hI2, *]; done) | (simp [sameW, show a.l.length ≠ b.l.length by omega]; done) | (simp [sameW, *]; done) | trace_state
    ·
     have hE0 : (!(eqT y z)) = false := by simp only [eqT, Bool.not_and]; exact h37
     have hE : eqT y z = true := by simpa using hE0
     have hI2 : sameR a.l b.l = sameR (a.l.drop (i + 1)) (b.l.drop (i + 1)) := by rw [hI]; simp [sameR, hE]
     apply J.skip; simp
     refine J.regE (by simp [eW, hw]; rfl) ?_
     simp
     refine ⟨_, by omega, _, ?_, i + 1, by omega, rfl, hI2, rfl⟩
     apply le_sub <;> simp [eW]
   ·
    have hie : i = a.l.length := by omega
    subst hie
    have hI2 : sameR a.l b.l = true := by rw [hI, List.drop_length]; rfl
    apply J.exit; simp
    apply J.seq
    refine J.regE (by simp [eW]; rfl) ?_
    simp
    apply J.ret
    refine ⟨by simp, rfl, _, [], by simp [a27R]; rfl, ?_⟩
    first | (simp [sameW, hI2, *]; done) | (simp [sameW, show a.l.length ≠ b.l.length by omega]; done) | (simp [sameW, *]; done) | trace_state
 ·
  try simp only [g11]
  try simp at g11
  iterate 7 refine runL_step rfl (by simp [eW]; rfl) ?_
  simp [runL]
  apply J.cond; simp [eW]
  apply J.seq
  refine J.regE (by simp [eW]; rfl) ?_
  simp
  apply J.ret
  refine ⟨by simp, rfl, _, [], by simp [a27R]; rfl, ?_⟩
  first | (simp [sameW, hI2, *]; done) | (simp [sameW, show a.l.length ≠ b.l.length by omega]; done) | (simp [sameW, *]; done) | trace_state
structure Cmd where
 user : Int
 seq : Int
 kind : Int
 ch : Int
 n : Int
 text : ByteArray
def eM (x : Cmd) : List AV := [iv x.user, iv x.seq, iv x.kind, iv x.ch, iv x.n, sv x.text]
def isK (k : Int) : Bool := btw k 0 7
def userK (k : Int) : Bool := btw k 1 7
def numK (k : Int) : Bool := btw k 5 7
def textK (k : Int) : Bool := btw k 4 5
def readK (k : Int) : Bool := decide (k = 0) || decide (k = 7)
def needK (k : Int) : List AV := [bv (userK k), bv (numK k), bv (textK k), bv (readK k)]
def fits (n most : Int) (b : Bool) : Bool := if b = true then btw n 1 most else decide (n = 0)
def mayM (m : Cmd) : Bool := isK m.kind && (fits m.user 1048576 (userK m.kind) && (fits m.seq 1073741824 (userK m.kind) && (fits m.ch 1048576 (userK m.kind) && (fits m.n 1073741824 (numK m.kind) && fits m.text.size 64 (textK m.kind)))))
theorem kinds8 {k : Int} (h : isK k = true) : k = 0 ∨ k = 1 ∨ k = 2 ∨ k = 3 ∨ k = 4 ∨ k = 5 ∨ k = 6 ∨ k = 7 := by
 have := btw_true h; omega
def kinds32 : List AV := needK 0 ++ needK 1 ++ needK 2 ++ needK 3 ++ needK 4 ++ needK 5 ++ needK 6 ++ needK 7
theorem kinds_len : kinds32.length = 32 := rfl
theorem kinds_at {n : Nat} (h : n < 8) : (kinds32.drop (n * 4)).take 4 = needK n := by
 match n, h with
 | 0, _ => rfl | 1, _ => rfl | 2, _ => rfl | 3, _ => rfl | 4, _ => rfl | 5, _ => rfl | 6, _ => rfl | 7, _ => rfl
 | n + 8, h => omega
theorem need_out {k : Int} (h : isK k = false) : needK k = [bv false, bv false, bv false, bv false] := by
 have := btw_false h
 simp only [needK, userK, numK, textK, readK, btw]
 rw [decide_eq_false (p := k = 0) (by omega), decide_eq_false (p := k = 7) (by omega)]
 simp; omega
theorem c101 : chkFn Tryz.prog 101 10 0 a101 a101R = true := by kernel_rfl
theorem d101  : DoesT 101 [] (.agg kinds32) := by
 refine Does.of (nt := 10) (ac := a101) (rds := a101R) c101 (fun c hc => ?_)
 unfold a101
 apply J.seq
 refine J.regE (by simp; rfl) ?_
 simp
 apply J.seq
 apply J.reg
 iterate 10 refine runL_step rfl (by simp; rfl) ?_
 simp [runL]
 apply J.ret
 refine ⟨by simp, rfl, _, [], by simp [a101R]; rfl, ?_⟩
 simp [kinds32, needK, userK, numK, textK, readK, btw]
theorem c63 : chkFn Tryz.prog 63 17 1 a63 a63R = true := by kernel_rfl
theorem d63 (m : Cmd) : DoesT 63 [.agg (eM m)] (.tup [.agg (needK m.kind), bv (isK m.kind)]) := by
 refine Does.of (nt := 17) (ac := a63) (rds := a63R) c63 (fun c hc => ?_)
 unfold a63
 apply J.seq
 refine J.regE (by simp [eM]; rfl) ?_
 simp
 apply J.seq
 apply J.seq
 apply J.reg
 iterate 4 refine runL_step rfl (by simp [eM]; rfl) ?_
 refine runL_if rfl (fun g7 => ?_) (fun g7 => ?_)
 ·
  try simp only [g7]
  try simp at g7
  iterate 4 refine runL_step rfl (by simp [eM]; rfl) ?_
  simp [runL]
  refine J.condB rfl (fun h11 => ?_) (fun h11 => ?_)
  ·
   simp at h11
   apply J.seq
   refine J.regE (by simp [eM]; rfl) ?_
   simp
   apply J.ret
   refine ⟨by simp, rfl, _, [], by simp [a63R]; rfl, ?_⟩
   have hk : isK m.kind = false := by simp [isK, btw]; omega
   simp [hk, need_out hk]
  ·
   simp at h11
   obtain ⟨n, hn⟩ : ∃ n : Nat, m.kind = (n : Int) := ⟨m.kind.toNat, by omega⟩
   have hn8 : n < 8 := by omega
   apply J.skip; simp
   apply J.seq
   apply J.draw; intro c' hc'
   iterate 2 refine runP_stepQ (by simp [eM, needK]; rfl) ?_
   refine runP_tree rfl (d101) (by simp) rfl ?_
   simp
   refine runP_ext (extK_aidx (cs := kinds32) (n := n) (by simp) (by simp; exact hn) hn8 (by rw [kinds_len]; omega) ?_)
   rw [kinds_at hn8, ← hn]
   simp
   refine runP_one rfl (by simp) (by simp [eM, needK]; rfl) ?_
   refine runP_stepQ (by simp [eM, needK]; rfl) ?_
   simp [runP]
   apply J.ret
   refine ⟨by simp, rfl, _, [], by simp [a63R]; rfl, ?_⟩
   have hk : isK m.kind = true := by simp [isK, btw]; omega
   simp [hk, needK]
 ·
  try simp only [g7]
  try simp at g7
  iterate 3 refine runL_step rfl (by simp [eM]; rfl) ?_
  simp [runL]
  apply J.cond; simp [eM]
  apply J.seq
  refine J.regE (by simp [eM]; rfl) ?_
  simp
  apply J.ret
  refine ⟨by simp, rfl, _, [], by simp [a63R]; rfl, ?_⟩
  have hk : isK m.kind = false := by simp [isK, btw]; omega
  simp [hk, need_out hk]
theorem c64 : chkFn Tryz.prog 64 18 3 a64 a64R = true := by kernel_rfl
theorem d64 (n most : Int) (b : Bool) : DoesT 64 [iv n, iv most, bv b] (bv (fits n most b)) := by
 refine Does.of (nt := 18) (ac := a64) (rds := a64R) c64 (fun c hc => ?_)
 unfold a64
 apply J.seq
 refine J.regE (by simp; rfl) ?_
 simp
 apply J.seq
 apply J.seq
 refine J.regE (by simp; rfl) ?_
 simp
 refine J.condB rfl (fun h8 => ?_) (fun h8 => ?_)
 ·
  simp at h8
  subst h8
  apply J.seq
  refine J.regE (by simp; rfl) ?_
  simp
  apply J.ret
  refine ⟨by simp, rfl, _, [], by simp [a64R]; rfl, ?_⟩
  simp [fits]; rfl
 ·
  simp at h8
  subst h8
  apply J.skip; simp
  apply J.seq
  apply J.reg
  iterate 3 refine runL_step rfl (by simp; rfl) ?_
  refine runL_if rfl (fun g13 => ?_) (fun g13 => ?_)
  ·
   try simp only [g13]
   try simp at g13
   iterate 5 refine runL_step rfl (by simp; rfl) ?_
   simp [runL]
   apply J.ret
   refine ⟨by simp, rfl, _, [], by simp [a64R]; rfl, ?_⟩
   simp [fits, btw, *]
  ·
   try simp only [g13]
   try simp at g13
   iterate 4 refine runL_step rfl (by simp; rfl) ?_
   simp [runL]
   apply J.ret
   refine ⟨by simp, rfl, _, [], by simp [a64R]; rfl, ?_⟩
   simp [fits, btw]; omega
theorem c102 : chkFn Tryz.prog 102 12 1 a102 a102R = true := by kernel_rfl
theorem d102 (m : Cmd) : DoesT 102 [.agg (eM m)] (bv (readK m.kind)) := by
 refine Does.of (nt := 12) (ac := a102) (rds := a102R) c102 (fun c hc => ?_)
 unfold a102
 apply J.seq
 refine J.regE (by simp [eM]; rfl) ?_
 simp
 apply J.seq
 apply J.reg
 refine runL_step rfl (by simp [eM, needK]; rfl) ?_
 refine runL_tree rfl (d63 m) (by simp) hc ?_
 simp
 iterate 6 refine runL_step rfl (by simp [eM, needK]; rfl) ?_
 simp [runL]
 apply J.seq
 refine J.regE (by simp [eM]; rfl) ?_
 simp
 apply J.ret
 refine ⟨by simp, rfl, _, [], by simp [a102R]; rfl, ?_⟩
 simp [needK]
theorem c21 : chkFn Tryz.prog 21 47 1 a21 a21R = true := by kernel_rfl
theorem d21 (m : Cmd) : DoesT 21 [.agg (eM m)] (bv (mayM m)) := by
 refine Does.of (nt := 47) (ac := a21) (rds := a21R) c21 (fun c hc => ?_)
 unfold a21
 apply J.seq
 refine J.regE (by simp [eM]; rfl) ?_
 simp
 apply J.seq
 apply J.reg
 refine runL_step rfl (by simp [eM, needK]; rfl) ?_
 refine runL_tree rfl (d63 m) (by simp) hc ?_
 simp
 iterate 6 refine runL_step rfl (by simp [eM, needK]; rfl) ?_
 simp [runL]
 apply J.seq
 apply J.reg
 iterate 2 refine runL_step rfl (by simp [eM]; rfl) ?_
 refine runL_if rfl (fun g11 => ?_) (fun g11 => ?_)
 ·
  try simp only [g11]
  try simp at g11
  iterate 4 refine runL_step rfl (by simp [eM]; rfl) ?_
  refine runL_do (by simp) ?_
  refine runL_tree rfl (d64 _ _ _) (by simp) hc ?_
  simp
  iterate 2 refine runL_step rfl (by simp [eM]; rfl) ?_
  refine runL_if rfl (fun g18 => ?_) (fun g18 => ?_)
  ·
   try simp only [g18]
   try simp at g18
   iterate 4 refine runL_step rfl (by simp [eM]; rfl) ?_
   refine runL_do (by simp) ?_
   refine runL_tree rfl (d64 _ _ _) (by simp) hc ?_
   simp
   iterate 2 refine runL_step rfl (by simp [eM]; rfl) ?_
   refine runL_if rfl (fun g25 => ?_) (fun g25 => ?_)
   ·
    try simp only [g25]
    try simp at g25
    iterate 4 refine runL_step rfl (by simp [eM]; rfl) ?_
    refine runL_do (by simp) ?_
    refine runL_tree rfl (d64 _ _ _) (by simp) hc ?_
    simp
    iterate 2 refine runL_step rfl (by simp [eM]; rfl) ?_
    refine runL_if rfl (fun g32 => ?_) (fun g32 => ?_)
    ·
     try simp only [g32]
     try simp at g32
     iterate 4 refine runL_step rfl (by simp [eM]; rfl) ?_
     refine runL_do (by simp) ?_
     refine runL_tree rfl (d64 _ _ _) (by simp) hc ?_
     simp
     iterate 2 refine runL_step rfl (by simp [eM]; rfl) ?_
     refine runL_if rfl (fun g39 => ?_) (fun g39 => ?_)
     ·
      try simp only [g39]
      try simp at g39
      iterate 5 refine runL_step rfl (by simp [eM]; rfl) ?_
      refine runL_do (by simp) ?_
      refine runL_tree rfl (d64 _ _ _) (by simp) hc ?_
      simp
      iterate 2 refine runL_step rfl (by simp [eM]; rfl) ?_
      simp [runL]
      apply J.ret
      refine ⟨by simp, rfl, _, [], by simp [a21R]; rfl, ?_⟩
      simp [mayM, *]
     ·
      try simp only [g39]
      try simp at g39
      iterate 4 refine runL_step rfl (by simp [eM]; rfl) ?_
      refine runL_pass (b := _) rfl (by simp) ?_
      simp
      iterate 2 refine runL_step rfl (by simp [eM]; rfl) ?_
      simp [runL]
      apply J.ret
      refine ⟨by simp, rfl, _, [], by simp [a21R]; rfl, ?_⟩
      simp [mayM, *]
    ·
     try simp only [g32]
     try simp at g32
     iterate 3 refine runL_step rfl (by simp [eM]; rfl) ?_
     refine runL_pass (b := _) rfl (by simp) ?_
     simp
     iterate 7 refine runL_step rfl (by simp [eM]; rfl) ?_
     refine runL_pass (b := _) rfl (by simp) ?_
     simp
     iterate 2 refine runL_step rfl (by simp [eM]; rfl) ?_
     simp [runL]
     apply J.ret
     refine ⟨by simp, rfl, _, [], by simp [a21R]; rfl, ?_⟩
     simp [mayM, *]
   ·
    try simp only [g25]
    try simp at g25
    iterate 3 refine runL_step rfl (by simp [eM]; rfl) ?_
    refine runL_pass (b := _) rfl (by simp) ?_
    simp
    iterate 6 refine runL_step rfl (by simp [eM]; rfl) ?_
    refine runL_pass (b := _) rfl (by simp) ?_
    simp
    iterate 7 refine runL_step rfl (by simp [eM]; rfl) ?_
    refine runL_pass (b := _) rfl (by simp) ?_
    simp
    iterate 2 refine runL_step rfl (by simp [eM]; rfl) ?_
    simp [runL]
    apply J.ret
    refine ⟨by simp, rfl, _, [], by simp [a21R]; rfl, ?_⟩
    simp [mayM, *]
  ·
   try simp only [g18]
   try simp at g18
   iterate 3 refine runL_step rfl (by simp [eM]; rfl) ?_
   refine runL_pass (b := _) rfl (by simp) ?_
   simp
   iterate 6 refine runL_step rfl (by simp [eM]; rfl) ?_
   refine runL_pass (b := _) rfl (by simp) ?_
   simp
   iterate 6 refine runL_step rfl (by simp [eM]; rfl) ?_
   refine runL_pass (b := _) rfl (by simp) ?_
   simp
   iterate 7 refine runL_step rfl (by simp [eM]; rfl) ?_
   refine runL_pass (b := _) rfl (by simp) ?_
   simp
   iterate 2 refine runL_step rfl (by simp [eM]; rfl) ?_
   simp [runL]
   apply J.ret
   refine ⟨by simp, rfl, _, [], by simp [a21R]; rfl, ?_⟩
   simp [mayM, *]
 ·
  try simp only [g11]
  try simp at g11
  iterate 3 refine runL_step rfl (by simp [eM]; rfl) ?_
  refine runL_pass (b := _) rfl (by simp) ?_
  simp
  iterate 6 refine runL_step rfl (by simp [eM]; rfl) ?_
  refine runL_pass (b := _) rfl (by simp) ?_
  simp
  iterate 6 refine runL_step rfl (by simp [eM]; rfl) ?_
  refine runL_pass (b := _) rfl (by simp) ?_
  simp
  iterate 6 refine runL_step rfl (by simp [eM]; rfl) ?_
  refine runL_pass (b := _) rfl (by simp) ?_
  simp
  iterate 7 refine runL_step rfl (by simp [eM]; rfl) ?_
  refine runL_pass (b := _) rfl (by simp) ?_
  simp
  iterate 2 refine runL_step rfl (by simp [eM]; rfl) ?_
  simp [runL]
  apply J.ret
  refine ⟨by simp, rfl, _, [], by simp [a21R]; rfl, ?_⟩
  simp [mayM, *]
theorem mayM_in {m : Cmd} (h1 : 1 ≤ m.kind) (h2 : m.kind ≤ 7) : mayM m = (btw m.user 1 1048576 && (btw m.seq 1 1073741824 && (btw m.ch 1 1048576 && (fits m.n 1073741824 (numK m.kind) && fits m.text.size 64 (textK m.kind))))) := by
 have e1 : isK m.kind = true := by simp [isK, btw]; omega
 have e2 : userK m.kind = true := by simp [userK, btw]; omega
 unfold mayM
 rw [e1, e2]; simp [fits]
theorem mayM_out {m : Cmd} (h : m.kind < 0 ∨ 8 ≤ m.kind) : mayM m = false := by
 have e1 : isK m.kind = false := by simp [isK, btw]; omega
 unfold mayM
 rw [e1]; rfl
theorem beqI (x y : Int) : (x == y) = decide (x = y) := by rw [Bool.eq_iff_iff]; simp
theorem size0 (t : ByteArray) : decide ((t.size : Int) = 0) = t.toList.isEmpty := by
 cases t with | mk a =>
 rw [Bool.eq_iff_iff]
 simp [ByteArray.size, ByteArray.toList_eq]
theorem mayM_nop {m : Cmd} (h : m.kind = 0) : mayM m = (m.user == 0 && (m.seq == 0 && (m.kind == 0 && (m.ch == 0 && (m.n == 0 && m.text.toList.isEmpty))))) := by
 unfold mayM
 rw [h, ← size0]
 simp [isK, userK, numK, textK, btw, fits, beqI]
theorem c92 : chkFn Tryz.prog 92 12 2 a92 a92R = true := by kernel_rfl
theorem d92 (n most : Int) : DoesT 92 [iv n, iv most] (bv (btw n 1 most)) := by
 refine Does.of (nt := 12) (ac := a92) (rds := a92R) c92 (fun c hc => ?_)
 unfold a92
 apply J.seq
 refine J.regE (by simp; rfl) ?_
 simp
 apply J.seq
 apply J.reg
 iterate 3 refine runL_step rfl (by simp; rfl) ?_
 refine runL_if rfl (fun g7 => ?_) (fun g7 => ?_)
 ·
  try simp only [g7]
  try simp at g7
  iterate 5 refine runL_step rfl (by simp; rfl) ?_
  simp [runL]
  apply J.ret
  refine ⟨by simp, rfl, _, [], by simp [a92R]; rfl, ?_⟩
  first | (simp [btw, *]; done) | (simp [btw]; omega)
 ·
  try simp only [g7]
  try simp at g7
  iterate 4 refine runL_step rfl (by simp; rfl) ?_
  simp [runL]
  apply J.ret
  refine ⟨by simp, rfl, _, [], by simp [a92R]; rfl, ?_⟩
  first | (simp [btw, *]; done) | (simp [btw]; omega)
theorem c93 : chkFn Tryz.prog 93 13 1 a93 a93R = true := by kernel_rfl
theorem d93 (k : Int) : DoesT 93 [iv k] (bv (numK k)) := by
 refine Does.of (nt := 13) (ac := a93) (rds := a93R) c93 (fun c hc => ?_)
 unfold a93
 apply J.seq
 refine J.regE (by simp; rfl) ?_
 simp
 apply J.seq
 apply J.reg
 iterate 3 refine runL_step rfl (by simp; rfl) ?_
 refine runL_if rfl (fun g5 => ?_) (fun g5 => ?_)
 ·
  try simp only [g5]
  try simp at g5
  iterate 4 refine runL_step rfl (by simp; rfl) ?_
  refine runL_if rfl (fun g9 => ?_) (fun g9 => ?_)
  ·
   try simp only [g9]
   try simp at g9
   iterate 4 refine runL_step rfl (by simp; rfl) ?_
   simp [runL]
   apply J.ret
   refine ⟨by simp, rfl, _, [], by simp [a93R]; rfl, ?_⟩
   first | (simp [numK, btw, *]; done) | (simp [numK, btw]; rw [Bool.eq_iff_iff]; simp; omega)
  ·
   try simp only [g9]
   try simp at g9
   iterate 3 refine runL_step rfl (by simp; rfl) ?_
   simp [runL]
   apply J.ret
   refine ⟨by simp, rfl, _, [], by simp [a93R]; rfl, ?_⟩
   first | (simp [numK, btw, *]; done) | (simp [numK, btw]; rw [Bool.eq_iff_iff]; simp; omega)
 ·
  try simp only [g5]
  try simp at g5
  iterate 7 refine runL_step rfl (by simp; rfl) ?_
  simp [runL]
  apply J.ret
  refine ⟨by simp, rfl, _, [], by simp [a93R]; rfl, ?_⟩
  first | (simp [numK, btw, *]; done) | (simp [numK, btw]; rw [Bool.eq_iff_iff]; simp; omega)
theorem c94 : chkFn Tryz.prog 94 9 1 a94 a94R = true := by kernel_rfl
theorem d94 (k : Int) : DoesT 94 [iv k] (bv (textK k)) := by
 refine Does.of (nt := 9) (ac := a94) (rds := a94R) c94 (fun c hc => ?_)
 unfold a94
 apply J.seq
 refine J.regE (by simp; rfl) ?_
 simp
 apply J.seq
 apply J.reg
 iterate 3 refine runL_step rfl (by simp; rfl) ?_
 refine runL_if rfl (fun g5 => ?_) (fun g5 => ?_)
 ·
  try simp only [g5]
  try simp at g5
  iterate 4 refine runL_step rfl (by simp; rfl) ?_
  simp [runL]
  apply J.ret
  refine ⟨by simp, rfl, _, [], by simp [a94R]; rfl, ?_⟩
  first | (simp [textK, btw, *]; done) | (simp [textK, btw]; rw [Bool.eq_iff_iff]; simp; omega)
 ·
  try simp only [g5]
  try simp at g5
  iterate 3 refine runL_step rfl (by simp; rfl) ?_
  simp [runL]
  apply J.ret
  refine ⟨by simp, rfl, _, [], by simp [a94R]; rfl, ?_⟩
  first | (simp [textK, btw, *]; done) | (simp [textK, btw]; rw [Bool.eq_iff_iff]; simp; omega)
theorem c47 : chkFn Tryz.prog 47 86 1 a47 a47R = true := by kernel_rfl
theorem d47 (m : Cmd) : DoesT 47 [.agg (eM m)] (bv (mayM m)) := by
 refine Does.of (nt := 86) (ac := a47) (rds := a47R) c47 (fun c hc => ?_)
 unfold a47
 apply J.seq
 refine J.regE (by simp [eM]; rfl) ?_
 simp
 apply J.seq
 apply J.seq
 refine J.regE (by simp [eM]; rfl) ?_
 simp
 refine J.condB rfl (fun h12 => ?_) (fun h12 => ?_)
 ·
  simp at h12
  apply J.seq
  refine J.regE (by simp [eM]; rfl) ?_
  simp
  apply J.ret
  refine ⟨by simp, rfl, _, [], by simp [a47R]; rfl, ?_⟩
  simp [mayM_nop h12]
 ·
  simp at h12
  apply J.skip; simp
  apply J.seq
  apply J.seq
  apply J.reg
  iterate 4 refine runL_step rfl (by simp [eM]; rfl) ?_
  refine runL_if rfl (fun g19 => ?_) (fun g19 => ?_)
  ·
   try simp only [g19]
   try simp at g19
   iterate 4 refine runL_step rfl (by simp [eM]; rfl) ?_
   simp [runL]
   refine J.condB rfl (fun h23 => ?_) (fun h23 => ?_)
   ·
    try simp only [h23]
    try simp at h23
    apply J.seq
    refine J.regE (by simp [eM]; rfl) ?_
    simp
    apply J.ret
    refine ⟨by simp, rfl, _, [], by simp [a47R]; rfl, ?_⟩
    first | (simp [mayM_out (show m.kind < 0 ∨ 8 ≤ m.kind by omega)]; done) | (simp [mayM_in (show 1 ≤ m.kind by omega) (show m.kind ≤ 7 by omega), fits, beqI, *]; done)
   ·
    try simp only [h23]
    try simp at h23
    apply J.skip; simp
    apply J.seq
    apply J.reg
    iterate 2 refine runL_step rfl (by simp [eM]; rfl) ?_
    refine runL_tree rfl (d92 _ _) (by simp) hc ?_
    simp
    refine runL_step rfl (by simp [eM]; rfl) ?_
    simp [runL]
    apply J.seq
    apply J.reg
    iterate 2 refine runL_step rfl (by simp [eM]; rfl) ?_
    refine runL_tree rfl (d92 _ _) (by simp) hc ?_
    simp
    refine runL_step rfl (by simp [eM]; rfl) ?_
    simp [runL]
    apply J.seq
    apply J.reg
    iterate 2 refine runL_step rfl (by simp [eM]; rfl) ?_
    refine runL_tree rfl (d92 _ _) (by simp) hc ?_
    simp
    refine runL_step rfl (by simp [eM]; rfl) ?_
    simp [runL]
    apply J.seq
    apply J.reg
    iterate 2 refine runL_step rfl (by simp [eM]; rfl) ?_
    refine runL_tree rfl (d93 _) (by simp) hc ?_
    simp
    refine runL_step rfl (by simp [eM]; rfl) ?_
    simp [runL]
    apply J.seq
    apply J.reg
    iterate 2 refine runL_step rfl (by simp [eM]; rfl) ?_
    refine runL_tree rfl (d92 _ _) (by simp) hc ?_
    simp
    refine runL_step rfl (by simp [eM]; rfl) ?_
    simp [runL]
    apply J.seq
    apply J.reg
    iterate 2 refine runL_step rfl (by simp [eM]; rfl) ?_
    refine runL_tree rfl (d94 _) (by simp) hc ?_
    simp
    refine runL_step rfl (by simp [eM]; rfl) ?_
    simp [runL]
    apply J.seq
    apply J.reg
    iterate 3 refine runL_step rfl (by simp [eM]; rfl) ?_
    refine runL_tree rfl (d92 _ _) (by simp) hc ?_
    simp
    refine runL_step rfl (by simp [eM]; rfl) ?_
    simp [runL]
    apply J.seq
    apply J.seq
    apply J.reg
    iterate 3 refine runL_step rfl (by simp [eM]; rfl) ?_
    refine runL_if rfl (fun g48 => ?_) (fun g48 => ?_)
    ·
     try simp only [g48]
     try simp at g48
     iterate 4 refine runL_step rfl (by simp [eM]; rfl) ?_
     refine runL_if rfl (fun g52 => ?_) (fun g52 => ?_)
     ·
      try simp only [g52]
      try simp at g52
      iterate 4 refine runL_step rfl (by simp [eM]; rfl) ?_
      refine runL_if rfl (fun g56 => ?_) (fun g56 => ?_)
      ·
       try simp only [g56]
       try simp at g56
       iterate 2 refine runL_step rfl (by simp [eM]; rfl) ?_
       refine runL_if rfl (fun g58 => ?_) (fun g58 => ?_)
       ·
        try simp only [g58]
        try simp at g58
        iterate 5 refine runL_step rfl (by simp [eM]; rfl) ?_
        refine runL_if rfl (fun g63 => ?_) (fun g63 => ?_)
        ·
         try simp only [g63]
         try simp at g63
         iterate 8 refine runL_step rfl (by simp [eM]; rfl) ?_
         simp [runL]
         apply J.cond; simp [eM]
         apply J.skip; simp
         apply J.seq
         generalize hw : textK m.kind = w1 at *
         apply J.reg
         iterate 2 refine runL_step rfl (by simp [eM]; rfl) ?_
         refine runL_if rfl (fun g73 => ?_) (fun g73 => ?_)
         ·
          try simp only [g73]
          try simp at g73
          iterate 3 refine runL_step rfl (by simp [eM]; rfl) ?_
          refine runL_if rfl (fun g76 => ?_) (fun g76 => ?_)
          ·
           try simp only [g76]
           try simp at g76
           iterate 10 refine runL_step rfl (by simp [eM]; rfl) ?_
           simp [runL]
           apply J.ret
           refine ⟨by simp, rfl, _, [], by simp [a47R]; rfl, ?_⟩
           first | (simp [mayM_out (show m.kind < 0 ∨ 8 ≤ m.kind by omega)]; done) | (simp [mayM_in (show 1 ≤ m.kind by omega) (show m.kind ≤ 7 by omega), fits, beqI, *]; done)
          ·
           try simp only [g76]
           try simp at g76
           iterate 9 refine runL_step rfl (by simp [eM]; rfl) ?_
           simp [runL]
           apply J.ret
           refine ⟨by simp, rfl, _, [], by simp [a47R]; rfl, ?_⟩
           first | (simp [mayM_out (show m.kind < 0 ∨ 8 ≤ m.kind by omega)]; done) | (simp [mayM_in (show 1 ≤ m.kind by omega) (show m.kind ≤ 7 by omega), fits, beqI, *]; done)
         ·
          try simp only [g73]
          try simp at g73
          iterate 12 refine runL_step rfl (by simp [eM]; rfl) ?_
          simp [runL]
          apply J.ret
          refine ⟨by simp, rfl, _, [], by simp [a47R]; rfl, ?_⟩
          first | (simp [mayM_out (show m.kind < 0 ∨ 8 ≤ m.kind by omega)]; done) | (simp [mayM_in (show 1 ≤ m.kind by omega) (show m.kind ≤ 7 by omega), fits, beqI, *]; done)
        ·
         try simp only [g63]
         try simp at g63
         iterate 7 refine runL_step rfl (by simp [eM]; rfl) ?_
         simp [runL]
         apply J.cond; simp [eM]
         apply J.seq
         refine J.regE (by simp [eM]; rfl) ?_
         simp
         apply J.ret
         refine ⟨by simp, rfl, _, [], by simp [a47R]; rfl, ?_⟩
         first | (simp [mayM_out (show m.kind < 0 ∨ 8 ≤ m.kind by omega)]; done) | (simp [mayM_in (show 1 ≤ m.kind by omega) (show m.kind ≤ 7 by omega), fits, beqI, *]; done)
       ·
        try simp only [g58]
        try simp at g58
        iterate 12 refine runL_step rfl (by simp [eM]; rfl) ?_
        simp [runL]
        refine J.condB rfl (fun h71 => ?_) (fun h71 => ?_)
        ·
         try simp only [h71]
         try simp at h71
         apply J.seq
         refine J.regE (by simp [eM]; rfl) ?_
         simp
         apply J.ret
         refine ⟨by simp, rfl, _, [], by simp [a47R]; rfl, ?_⟩
         first | (simp [mayM_out (show m.kind < 0 ∨ 8 ≤ m.kind by omega)]; done) | (simp [mayM_in (show 1 ≤ m.kind by omega) (show m.kind ≤ 7 by omega), fits, beqI, *]; done)
        ·
         try simp only [h71]
         try simp at h71
         apply J.skip; simp
         apply J.seq
         generalize hw : textK m.kind = w1 at *
         apply J.reg
         iterate 2 refine runL_step rfl (by simp [eM]; rfl) ?_
         refine runL_if rfl (fun g73 => ?_) (fun g73 => ?_)
         ·
          try simp only [g73]
          try simp at g73
          iterate 3 refine runL_step rfl (by simp [eM]; rfl) ?_
          refine runL_if rfl (fun g76 => ?_) (fun g76 => ?_)
          ·
           try simp only [g76]
           try simp at g76
           iterate 10 refine runL_step rfl (by simp [eM]; rfl) ?_
           simp [runL]
           apply J.ret
           refine ⟨by simp, rfl, _, [], by simp [a47R]; rfl, ?_⟩
           first | (simp [mayM_out (show m.kind < 0 ∨ 8 ≤ m.kind by omega)]; done) | (simp [mayM_in (show 1 ≤ m.kind by omega) (show m.kind ≤ 7 by omega), fits, beqI, *]; done)
          ·
           try simp only [g76]
           try simp at g76
           iterate 9 refine runL_step rfl (by simp [eM]; rfl) ?_
           simp [runL]
           apply J.ret
           refine ⟨by simp, rfl, _, [], by simp [a47R]; rfl, ?_⟩
           first | (simp [mayM_out (show m.kind < 0 ∨ 8 ≤ m.kind by omega)]; done) | (simp [mayM_in (show 1 ≤ m.kind by omega) (show m.kind ≤ 7 by omega), fits, beqI, *]; done)
         ·
          try simp only [g73]
          try simp at g73
          iterate 12 refine runL_step rfl (by simp [eM]; rfl) ?_
          simp [runL]
          apply J.ret
          refine ⟨by simp, rfl, _, [], by simp [a47R]; rfl, ?_⟩
          first | (simp [mayM_out (show m.kind < 0 ∨ 8 ≤ m.kind by omega)]; done) | (simp [mayM_in (show 1 ≤ m.kind by omega) (show m.kind ≤ 7 by omega), fits, beqI, *]; done)
      ·
       try simp only [g56]
       try simp at g56
       iterate 14 refine runL_step rfl (by simp [eM]; rfl) ?_
       simp [runL]
       apply J.cond; simp [eM]
       apply J.seq
       refine J.regE (by simp [eM]; rfl) ?_
       simp
       apply J.ret
       refine ⟨by simp, rfl, _, [], by simp [a47R]; rfl, ?_⟩
       first | (simp [mayM_out (show m.kind < 0 ∨ 8 ≤ m.kind by omega)]; done) | (simp [mayM_in (show 1 ≤ m.kind by omega) (show m.kind ≤ 7 by omega), fits, beqI, *]; done)
     ·
      try simp only [g52]
      try simp at g52
      iterate 18 refine runL_step rfl (by simp [eM]; rfl) ?_
      simp [runL]
      apply J.cond; simp [eM]
      apply J.seq
      refine J.regE (by simp [eM]; rfl) ?_
      simp
      apply J.ret
      refine ⟨by simp, rfl, _, [], by simp [a47R]; rfl, ?_⟩
      first | (simp [mayM_out (show m.kind < 0 ∨ 8 ≤ m.kind by omega)]; done) | (simp [mayM_in (show 1 ≤ m.kind by omega) (show m.kind ≤ 7 by omega), fits, beqI, *]; done)
    ·
     try simp only [g48]
     try simp at g48
     iterate 22 refine runL_step rfl (by simp [eM]; rfl) ?_
     simp [runL]
     apply J.cond; simp [eM]
     apply J.seq
     refine J.regE (by simp [eM]; rfl) ?_
     simp
     apply J.ret
     refine ⟨by simp, rfl, _, [], by simp [a47R]; rfl, ?_⟩
     first | (simp [mayM_out (show m.kind < 0 ∨ 8 ≤ m.kind by omega)]; done) | (simp [mayM_in (show 1 ≤ m.kind by omega) (show m.kind ≤ 7 by omega), fits, beqI, *]; done)
  ·
   try simp only [g19]
   try simp at g19
   iterate 3 refine runL_step rfl (by simp [eM]; rfl) ?_
   simp [runL]
   apply J.cond; simp [eM]
   apply J.seq
   refine J.regE (by simp [eM]; rfl) ?_
   simp
   apply J.ret
   refine ⟨by simp, rfl, _, [], by simp [a47R]; rfl, ?_⟩
   first | (simp [mayM_out (show m.kind < 0 ∨ 8 ≤ m.kind by omega)]; done) | (simp [mayM_in (show 1 ≤ m.kind by omega) (show m.kind ≤ 7 by omega), fits, beqI, *]; done)
structure Key where
 user : Bool
 id : Int
 ch : Bool
def eKey (k : Key) : List AV := [bv k.user, iv k.id, bv k.ch]
def eKs (l : List Key) : List (List AV) := l.map eKey
def unKey : List AV → Key
 | [.lit (.bool u), .lit (.int _ i), .lit (.bool c)] => ⟨u, i, c⟩
 | _ => ⟨false, 0, false⟩
theorem unKey_eq (k : Key) : unKey (eKey k) = k := rfl
def keysM (m : Cmd) : List Key := if mayM m = true ∧ m.kind ≠ 0 then [⟨true, m.user, true⟩, ⟨false, m.ch, !readK m.kind⟩] else []
def meetK (a b : Key) : Bool := (a.user == b.user) && ((a.id == b.id) && (a.ch || b.ch))
def interM (a b : Cmd) : Bool := (keysM a).any fun x => (keysM b).any fun y => meetK x y
theorem keysM_len (m : Cmd) : (keysM m).length ≤ 2 := by unfold keysM; split <;> simp
theorem eKs_rows {l : List Key} (h : l.length ≤ 2) : SX.Rows 3 (eKs l) := ⟨fun e he => by obtain ⟨x, _, rfl⟩ := List.mem_map.1 he; rfl, fun e he => by obtain ⟨x, _, rfl⟩ := List.mem_map.1 he; rfl, by simp [eKs]; omega⟩
theorem k103 : chkFn Tryz.prog 103 19 2 (slIdx 3) slIdxR = true := by kernel_rfl
theorem k66 : chkFn Tryz.prog 66 9 2 (slCon 103) slConR = true := by kernel_rfl
theorem c65 : chkFn Tryz.prog 65 21 1 a65 a65R = true := by kernel_rfl
theorem d65 (m : Cmd) : DoesT 65 [.agg (eM m)] (.ro 3 (eKs (keysM m))) := by
 refine Does.of (nt := 21) (ac := a65) (rds := a65R) c65 (fun c hc => ?_)
 unfold a65
 apply J.seq
 refine J.regE (by simp [eM]; rfl) ?_
 simp
 apply J.seq
 apply J.seq
 apply J.reg
 refine runL_step rfl (by simp [eM]; rfl) ?_
 refine runL_tree rfl (d21 m) (by simp) hc ?_
 simp
 iterate 2 refine runL_step rfl (by simp [eM]; rfl) ?_
 refine runL_if rfl (fun g6 => ?_) (fun g6 => ?_)
 ·
  try simp only [g6]
  try simp at g6
  iterate 4 refine runL_step rfl (by simp [eM]; rfl) ?_
  simp [runL]
  refine J.condB rfl (fun h10 => ?_) (fun h10 => ?_)
  ·
   try simp at h10
   apply J.seq
   refine J.regE (by simp [eM]; rfl) ?_
   simp
   refine J.nz hc ?_
   simp
   apply J.ret
   refine ⟨by simp, rfl, _, [], by simp [a65R]; rfl, ?_⟩
   simp [keysM, eKs, h10]
  ·
   try simp at h10
   apply J.skip; simp
   apply J.seq
   apply J.draw; intro c' hc'
   iterate 6 refine runP_stepQ (by simp [eM]; rfl) ?_
   refine runP_tree rfl (d102 m) (by simp) rfl ?_
   simp
   iterate 2 refine runP_stepQ (by simp [eM]; rfl) ?_
   refine runP_one rfl (by simp) (by simp [eM]; rfl) ?_
   refine runP_stepQ (by simp [eM]; rfl) ?_
   simp [runP]
   refine J.freeze hc 65020 rfl ?_
   simp
   apply J.ret
   refine ⟨by simp, rfl, _, [], by simp [a65R]; rfl, ?_⟩
   simp [keysM, eKs, h10, g6, eKey]
 ·
  try simp only [g6]
  try simp at g6
  iterate 3 refine runL_step rfl (by simp [eM]; rfl) ?_
  simp [runL]
  apply J.cond; simp [eM]
  apply J.seq
  refine J.regE (by simp [eM]; rfl) ?_
  simp
  refine J.nz hc ?_
  simp
  apply J.ret
  refine ⟨by simp, rfl, _, [], by simp [a65R]; rfl, ?_⟩
  simp [keysM, eKs, g6]
theorem c69 : chkFn Tryz.prog 69 25 2 a69 a69R = true := by kernel_rfl
theorem d69 (a b : Key) : DoesT 69 [.agg (eKey a), .agg (eKey b)] (bv (meetK a b)) := by
 refine Does.of (nt := 25) (ac := a69) (rds := a69R) c69 (fun c hc => ?_)
 unfold a69
 apply J.seq
 refine J.regE (by simp [eKey]; rfl) ?_
 simp
 apply J.seq
 apply J.reg
 iterate 6 refine runL_step rfl (by simp [eKey]; rfl) ?_
 refine runL_if rfl (fun g10 => ?_) (fun g10 => ?_)
 ·
  try simp only [g10]
  try simp at g10
  iterate 7 refine runL_step rfl (by simp [eKey]; rfl) ?_
  refine runL_if rfl (fun g17 => ?_) (fun g17 => ?_)
  ·
   try simp only [g17]
   try simp at g17
   iterate 3 refine runL_step rfl (by simp [eKey]; rfl) ?_
   refine runL_if rfl (fun g20 => ?_) (fun g20 => ?_)
   ·
    try simp only [g20]
    try simp at g20
    iterate 5 refine runL_step rfl (by simp [eKey]; rfl) ?_
    simp [runL]
    apply J.ret
    refine ⟨by simp, rfl, _, [], by simp [a69R]; rfl, ?_⟩
    first | (simp [meetK, *]; done) | trace_state
   ·
    try simp only [g20]
    try simp at g20
    iterate 4 refine runL_step rfl (by simp [eKey]; rfl) ?_
    simp [runL]
    apply J.ret
    refine ⟨by simp, rfl, _, [], by simp [a69R]; rfl, ?_⟩
    first | (simp [meetK, *]; done) | trace_state
  ·
   try simp only [g17]
   try simp at g17
   iterate 7 refine runL_step rfl (by simp [eKey]; rfl) ?_
   simp [runL]
   apply J.ret
   refine ⟨by simp, rfl, _, [], by simp [a69R]; rfl, ?_⟩
   first | (simp [meetK, *]; done) | trace_state
 ·
  try simp only [g10]
  try simp at g10
  iterate 14 refine runL_step rfl (by simp [eKey]; rfl) ?_
  simp [runL]
  apply J.ret
  refine ⟨by simp, rfl, _, [], by simp [a69R]; rfl, ?_⟩
  first | (simp [meetK, *]; done) | trace_state
theorem reKey {m m' : Mem} {b s ty : Nat} (a : Key) (hb : SX.look m b = some (.obj ty (eKey a))) (hb' : SX.look m' b = none) : Re m m' (.ptr b s 0 0) (.rop 3 [eKey a] 0 0) :=
 Re.rop (xs := eKey a) hb hb' rfl (by simp [eKey]) (fun x hx => by simp [eKey] at hx; rcases hx with rfl | rfl | rfl <;> rfl) (fun i x hx => by
  match i with
  | 0 => simp [eKey] at hx; subst hx; exact .same trivial
  | 1 => simp [eKey] at hx; subst hx; exact .same trivial
  | 2 => simp [eKey] at hx; subst hx; exact .same trivial
  | i + 3 => simp [eKey] at hx)
theorem c68 : chkFn Tryz.prog 68 7 2 a68 a68R = true := by kernel_rfl
theorem d68 (a b : Key) : DoesT 68 [.agg (eKey b), .rop 3 [eKey a] 0 0] (bv (meetK a b)) := by
 refine Does.of (nt := 7) (ac := a68) (rds := a68R) c68 (fun c hc => ?_)
 unfold a68
 apply J.seq
 refine J.regE (by simp [eKey]; rfl) ?_
 simp
 apply J.seq
 apply J.reg
 iterate 2 refine runL_step rfl (by simp [eKey]; rfl) ?_
 refine runL_tree rfl (d69 a b) (by simp) hc ?_
 simp
 refine runL_step rfl (by simp [eKey]; rfl) ?_
 simp [runL]
 apply J.ret
 refine ⟨by simp, rfl, _, [], by simp [a68R]; rfl, ?_⟩
 simp
theorem d68' (a : Key) {l : List Key} (h : l.length ≤ 2) : DoesT 66 [.ro 3 (eKs l), .fn 68 [.rop 3 [eKey a] 0 0]] (bv (l.any fun y => meetK a y)) := by
 have h1 := dIdx k103 (g := 68) (caps := [.rop 3 [eKey a] 0 0]) (fun e => meetK a (unKey e)) (by omega) (eKs_rows h) (by simp [eKey]) (fun e he => by obtain ⟨x, _, rfl⟩ := List.mem_map.1 he; exact d68 a x)
 have h2 := dCon k66 (by simp [eKey]) h1
 rw [show (eKs l).any (fun e => meetK a (unKey e)) = l.any fun y => meetK a y by simp [eKs, List.any_map, Function.comp_def, unKey_eq]] at h2
 exact h2
theorem c67 : chkFn Tryz.prog 67 7 2 a67 a67R = true := by kernel_rfl
theorem d67 (a : Key) (l : List Key) (h : l.length ≤ 2) : DoesT 67 [.agg (eKey a), .rop 1 [[.ro 3 (eKs l)]] 0 0] (bv (l.any fun y => meetK a y)) := by
 refine Does.of (nt := 7) (ac := a67) (rds := a67R) c67 (fun c hc => ?_)
 unfold a67
 apply J.seq
 refine J.regE (by simp [eKey]; rfl) ?_
 simp
 apply J.seq
 apply J.reg
 iterate 2 refine runL_step rfl (by simp [eKey]; rfl) ?_
 refine runL_view (stF := ⟨[(4, .ro 3 (eKs l)), (5, .fn 68 [.rop 3 [eKey a] 0 0])], [], []⟩) ?_ rfl rfl (d68' a h) (by simp [eKey]) ?_
 ·refine le_retell (fun q hq => ?_) (fun q hq => by simp at hq) rfl (by simp [eKey])
  simp only [List.mem_cons, List.not_mem_nil, or_false] at hq
  rcases hq with rfl | rfl
  ·exact ⟨_, rfl, .same trivial⟩
  ·refine ⟨_, rfl, .fn rfl (fun i x hx => ?_)⟩
   match i with
   | 0 => simp at hx; subst hx; exact reKey a rfl rfl
   | i + 1 => simp at hx
 rintro _ _ ⟨rfl, rfl⟩
 refine ⟨rfl, rfl, ?_⟩
 simp
 refine runL_step rfl (by simp [eKey]; rfl) ?_
 simp [runL]
 apply J.ret
 refine ⟨by simp, rfl, _, [], by simp [a67R]; rfl, ?_⟩
 simp
theorem d67' (a b : Cmd) : DoesT 66 [.ro 3 (eKs (keysM a)), .fn 67 [.rop 1 [[.ro 3 (eKs (keysM b))]] 0 0]] (bv (interM a b)) := by
 have hr : refsInL (fun _ => False) [AV.rop 1 [[.ro 3 (eKs (keysM b))]] 0 0] := by simp
 have h1 := dIdx k103 (g := 67) (caps := [.rop 1 [[.ro 3 (eKs (keysM b))]] 0 0]) (fun e => (keysM b).any fun y => meetK (unKey e) y) (by omega) (eKs_rows (keysM_len a)) hr (fun e he => by obtain ⟨x, _, rfl⟩ := List.mem_map.1 he; exact d67 x _ (keysM_len b))
 have h2 := dCon k66 hr h1
 rw [show (eKs (keysM a)).any (fun e => (keysM b).any fun y => meetK (unKey e) y) = interM a b by simp [interM, eKs, List.any_map, Function.comp_def, unKey_eq]] at h2
 exact h2
theorem c23 : chkFn Tryz.prog 23 12 2 a23 a23R = true := by kernel_rfl
theorem d23 (a b : Cmd) : DoesT 23 [.agg (eM a), .agg (eM b)] (bv (interM a b)) := by
 refine Does.of (nt := 12) (ac := a23) (rds := a23R) c23 (fun c hc => ?_)
 unfold a23
 apply J.seq
 refine J.regE (by simp [eM]; rfl) ?_
 simp
 apply J.seq
 apply J.reg
 refine runL_step rfl (by simp [eM]; rfl) ?_
 refine runL_tree rfl (d65 b) (by simp) hc ?_
 simp
 iterate 2 refine runL_step rfl (by simp [eM]; rfl) ?_
 simp [runL]
 apply J.seq
 apply J.reg
 refine runL_step rfl (by simp [eM]; rfl) ?_
 refine runL_tree rfl (d65 a) (by simp) hc ?_
 simp
 refine runL_step rfl (by simp [eM]; rfl) ?_
 refine runL_view (stF := ⟨[(9, .ro 3 (eKs (keysM a))), (10, .fn 67 [.rop 1 [[.ro 3 (eKs (keysM b))]] 0 0])], [], []⟩) ?_ rfl rfl (d67' a b) (by simp) ?_
 ·refine le_retell (fun q hq => ?_) (fun q hq => by simp at hq) rfl (by simp)
  simp only [List.mem_cons, List.not_mem_nil, or_false] at hq
  rcases hq with rfl | rfl
  ·exact ⟨_, rfl, .same trivial⟩
  ·refine ⟨_, rfl, .fn rfl (fun i x hx => ?_)⟩
   match i with
   | 0 => simp at hx; subst hx; exact Re.var (by simp; rfl) rfl rfl
   | i + 1 => simp at hx
 rintro _ _ ⟨rfl, rfl⟩
 refine ⟨rfl, rfl, ?_⟩
 simp
 refine runL_step rfl (by simp [eM]; rfl) ?_
 simp [runL]
 apply J.ret
 refine ⟨by simp, rfl, _, [], by simp [a23R]; rfl, ?_⟩
 simp
end Go.Proofs.YtadbdchbdjkcdaaGreatDoor.F
