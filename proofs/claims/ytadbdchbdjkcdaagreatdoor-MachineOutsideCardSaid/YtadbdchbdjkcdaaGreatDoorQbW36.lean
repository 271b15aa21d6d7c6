/- The walk of LawMachineOutside. -/
import Derived.Test.YtadbdchbdjkcdaaGreatDoorQb11
set_option linter.unusedVariables false
set_option linter.unusedSimpArgs false
namespace Go.Proofs.YtadbdchbdjkcdaaGreatDoor.F
open Go Go.SX
def a8r0 : AC := .reg [oI 2 (.box 8002 27 2 (.s 0)), oI 3 (.box 8003 36 6 (.s 1)), oI 4 (.mov (.c (.lit (.bool false))))] [2, 3]
def a8r1 : AC := .reg [oI 11 (.callv (.c (.fn 10 [])) []), oI 5 (.mov (.s 11))] [2, 3, 5]
def a8r2 : AC := .reg [oI 12 (.load 2 true (.s 2)), oI 13 (.callv (.c (.fn 16 [])) [(.s 12)]), oI 6 (.mov (.s 13))] [2, 3, 5, 6]
def a8r3 : AC := .reg [oI 14 (.mov (.s 5)), oI 15 (.not (.s 14)), oI 16 (.mov (.s 15)), oG 17 16 false (.mov (.s 6)), oG 18 16 false (.not (.s 17)), oI 19 (.pick (.s 16) (.c (.lit (.bool true))) (.s 18)), oI 20 (.mov (.s 19)), oG 21 20 false (.load 2 true (.s 2)), oG 22 20 false (.callv (.c (.fn 15 [])) [(.s 21)]), oG 23 20 false (.not (.s 22)), oI 24 (.pick (.s 20) (.c (.lit (.bool true))) (.s 23)), oI 25 (.mov (.s 24)), oG 26 25 false (.faddr 5 (.s 3)), oG 27 25 false (.load 1 false (.s 26)), oG 28 25 false (.slen (.s 27)), oG 29 25 false (.iop .gtr (.s 28) (.c (.lit (.int .i64 500)))), oI 30 (.pick (.s 25) (.c (.lit (.bool true))) (.s 29)), oI 31 (.mov (.s 30)), oG 32 31 false (.faddr 2 (.s 3)), oG 33 31 false (.load 1 false (.s 32)), oG 34 31 false (.iop .eql (.s 33) (.c (.lit (.int .i64 1)))), oI 35 (.pick (.s 31) (.c (.lit (.bool true))) (.s 34)), oI 36 (.mov (.s 35)), oG 37 36 false (.faddr 2 (.s 3)), oG 38 36 false (.load 1 false (.s 37)), oG 39 36 false (.iop .eql (.s 38) (.c (.lit (.int .i64 2)))), oI 40 (.pick (.s 36) (.c (.lit (.bool true))) (.s 39))] [2, 3, 5, 40]
def a8r4 : AC := .reg [oI 41 (.mov (.s 5)), oI 4 (.mov (.s 41))] [4]
def a8r5 : AC := .reg [oI 7 (.mov (.c (.lit (.int .i64 0))))] [2, 3, 7]
def a8r6 : AC := .reg [oI 42 (.mov (.s 7)), oI 43 (.faddr 0 (.s 2)), oI 44 (.load 1 false (.s 43)), oI 45 (.len (.s 44)), oI 46 (.iop .lss (.s 42) (.s 45))] [2, 3, 7, 46]
def a8r8 : AC := .draw [] (.take 0 (oI 49 (.faddr 0 (.s 2))) <| .take 1 (oI 50 (.load 1 false (.s 49))) <| .take 2 (oI 51 (.mov (.s 7))) <| .take 3 (oI 52 (.iaddr 4 (.s 50) (.s 51))) <| .take 4 (oI 53 (.faddr 0 (.s 52))) <| .take 5 (oI 54 (.faddr 0 (.s 53))) <| .take 6 (oI 55 (.load 1 false (.s 54))) <| .take 7 (oI 56 (.faddr 3 (.s 3))) <| .take 8 (oI 57 (.load 1 false (.s 56))) <| .take 9 (oI 58 (.iop .neq (.s 55) (.s 57))) <| .done) [2, 3, 7, 58]
def a8r9 : AC := .reg [oI 8 (.mov (.c (.lit (.int .i64 0))))] [2, 3, 7, 8]
def a8r10 : AC := .reg [oI 59 (.mov (.s 8)), oI 60 (.faddr 0 (.s 2)), oI 61 (.load 1 false (.s 60)), oI 62 (.mov (.s 7)), oI 63 (.iaddr 4 (.s 61) (.s 62)), oI 64 (.faddr 0 (.s 63)), oI 65 (.faddr 2 (.s 64)), oI 66 (.load 1 false (.s 65)), oI 67 (.len (.s 66)), oI 68 (.iop .lss (.s 59) (.s 67))] [2, 3, 7, 8, 68]
def a8r12 : AC := .draw [] (.take 0 (oI 71 (.faddr 0 (.s 2))) <| .take 1 (oI 72 (.load 1 false (.s 71))) <| .take 2 (oI 73 (.mov (.s 7))) <| .take 3 (oI 74 (.iaddr 4 (.s 72) (.s 73))) <| .take 4 (oI 75 (.faddr 0 (.s 74))) <| .take 5 (oI 76 (.faddr 2 (.s 75))) <| .take 6 (oI 77 (.load 1 false (.s 76))) <| .take 7 (oI 78 (.mov (.s 8))) <| .take 8 (oI 79 (.iaddr 1 (.s 77) (.s 78))) <| .take 9 (oI 80 (.load 1 false (.s 79))) <| .take 10 (oI 81 (.faddr 0 (.s 3))) <| .take 11 (oI 82 (.load 1 false (.s 81))) <| .take 12 (oI 83 (.iop .eql (.s 80) (.s 82))) <| .done) [2, 3, 7, 8, 83]
def a8r13 : AC := .reg [oI 4 (.mov (.c (.lit (.bool true))))] [4]
def a8r11 : AC := .reg [oI 69 (.mov (.s 8)), oI 70 (.iop .add (.s 69) (.c (.lit (.int .i64 1)))), oI 8 (.mov (.s 70))] [2, 3, 7, 8]
def a8L10 : AC := .seq (.seq a8r10 (.cond (.s 68) (.skip) (.exit 2))) (.seq (.block 3 (.seq a8r12 (.cond (.s 83) (.seq a8r13 (.ret)) (.skip)))) a8r11)
def a8r7 : AC := .reg [oI 47 (.mov (.s 7)), oI 48 (.iop .add (.s 47) (.c (.lit (.int .i64 1)))), oI 7 (.mov (.s 48))] [2, 3, 7]
def a8L6 : AC := .seq (.seq a8r6 (.cond (.s 46) (.skip) (.exit 0))) (.seq (.block 1 (.seq (.seq a8r8 (.cond (.s 58) (.exit 1) (.skip))) (.seq a8r9 (.block 2 (.loop a8L10))))) a8r7)
def a8r14 : AC := .reg [oI 85 (.load 2 true (.s 2)), oI 86 (.load 6 true (.s 3)), oI 87 (.callv (.c (.fn 17 [])) [(.s 85), (.s 86)]), oI 84 (.mov (.s 87)), oI 88 (.extract 0 (.s 84)), oI 89 (.extract 1 (.s 84)), oI 9 (.alloc 8009 27 [(.nils 4), (.nils 3)]), oI 10 (.alloc 8010 39 [(.lit (.int .i64 0)), (.lit (.int .i64 0)), (.lit (.string ⟨#[]⟩))]), oN (.store 2 (.s 9) (.s 88)), oN (.store 3 (.s 10) (.s 89))] [2, 9]
def a8r15 : AC := .reg [oI 90 (.faddr 1 (.s 2)), oI 91 (.load 1 false (.s 90)), oI 92 (.faddr 1 (.s 9)), oN (.store 1 (.s 92) (.s 91))] [2, 9]
def a8r16 : AC := .reg [oI 93 (.load 2 true (.s 9)), oI 94 (.load 2 true (.s 2)), oI 95 (.callv (.c (.fn 20 [])) [(.s 93), (.s 94)]), oI 4 (.mov (.s 95))] [4]
def a8 : AC := .seq a8r0 (.seq a8r1 (.seq a8r2 (.seq (.seq a8r3 (.cond (.s 40) (.seq a8r4 (.ret)) (.skip))) (.seq (.seq a8r5 (.block 0 (.loop a8L6))) (.seq a8r14 (.seq a8r15 (.seq a8r16 (.ret))))))))
def a8R : List RD := [.tmp 4]
end Go.Proofs.YtadbdchbdjkcdaaGreatDoor.F
namespace Go.Proofs.YtadbdchbdjkcdaaGreatDoor.F
open Go Go.SX
theorem take_next {α : Type} {l : List α} {i : Nat} {y : α} {Q : α → Prop} (h : ∀ r ∈ l.take i, Q r) (hx : l[i]? = some y) (hy : Q y) : ∀ r ∈ l.take (i + 1), Q r := by
 intro r hr
 rw [List.take_add_one, hx] at hr
 rcases List.mem_append.1 hr with h1 | h1
 ·exact h r h1
 ·simp at h1; subst h1; exact hy
def OutR (m : Cmd) (r : Room) : Prop := r.c.id = m.ch → ∀ u ∈ r.c.mem, u ≠ m.user
theorem out_has {m : Cmd} {r : Room} (h : OutR m r) (hc : r.c.id = m.ch) : hasI r.c.mem m.user = false := by
 cases e : hasI r.c.mem m.user
 ·rfl
 ·simp only [hasI, List.any_eq_true, decide_eq_true_eq] at e
  obtain ⟨u, hu, he⟩ := e
  exact absurd he (h hc u hu)
theorem chanS_err' {s : Sta} {r : Room} {q : Chan × Int} (h : q.2 ≠ 0) : chanS s r q = s := by unfold chanS keepS; rw [if_neg h]
theorem outside_does {s : Sta} {m : Cmd} (h : ∀ r ∈ s.rooms, OutR m r) (h7 : 1 ≤ m.kind ∧ m.kind ≤ 7) (h1 : ¬ m.kind = 1) (h2 : ¬ m.kind = 2) : (doesS s m).1 = s := by
 unfold doesS
 split
 ·rename_i r hr
  have hm := List.mem_of_find?_eq_some hr
  have hid : r.c.id = m.ch := by simpa [kR] using List.find?_some hr
  have hh := out_has (h r hm) hid
  rw [if_neg h1]
  split
  ·rfl
  ·rename_i h3
   have hin : inC r.c m.user = false := by simp [inC, hh]
   have hk : m.kind = 3 := by
    have : ¬ 3 < m.kind := fun h4 => h3 ⟨h4, hin⟩
    omega
   simp only [doQ, hk]
   exact chanS_err' (by unfold leaveC; rw [hh]; split <;> simp)
 ·rw [if_neg h1]
theorem outside_apply {s : Sta} {m : Cmd} (h : ∀ r ∈ s.rooms, OutR m r) (h1 : ¬ m.kind = 1) (h2 : ¬ m.kind = 2) : (applyS s m).1.rooms = s.rooms := by
 unfold applyS
 split
 ·rfl
 ·rename_i ha
  split
  ·rfl
  ·rename_i h0
   have hm : mayM m = true := by
    cases e : mayM m
    ·exact absurd (.inr e) ha
    ·rfl
   have hd := outside_does h (mayM_kind hm h0).1 h1 h2
   repeat' split
   ·rfl
   ·rfl
   ·simp only [withP, hd]
def I8a (s : Sta) (m : Cmd) (mm : Nat) (st : St) : Prop := ∃ i : Nat, i ≤ s.rooms.length ∧ mm = s.rooms.length - i ∧ (∀ r ∈ s.rooms.take i, OutR m r) ∧ st = ⟨[(2, .ptr 8002 0 0 0), (3, .ptr 8003 0 0 0), (7, iv (i : Nat))], [(8002, .obj 27 (eS s)), (8003, .obj 36 (eM m))], []⟩
def I8b (s : Sta) (m : Cmd) (y : Room) (i : Nat) (mm : Nat) (st : St) : Prop := ∃ k : Nat, k ≤ y.c.mem.length ∧ mm = y.c.mem.length - k ∧ (∀ u ∈ y.c.mem.take k, u ≠ m.user) ∧ st = ⟨[(2, .ptr 8002 0 0 0), (3, .ptr 8003 0 0 0), (7, iv (i : Nat)), (8, iv (k : Nat))], [(8002, .obj 27 (eS s)), (8003, .obj 36 (eM m))], []⟩
theorem c8 : chkFn Tryz.prog 8 96 2 a8 a8R = true := by kernel_rfl
set_option maxHeartbeats 4000000 in
theorem d8 (s : Sta) (m : Cmd) (hb : Big s) : DoesT 8 [.agg (eS s), .agg (eM m)] (bv true) := by
 have h16 := d16 s hb
 obtain ⟨A0, hA0⟩ : ∃ A, fewS s = A := ⟨_, rfl⟩
 rw [hA0] at h16
 refine Does.of (nt := 96) (ac := a8) (rds := a8R) c8 (fun c hc => ?_)
 unfold a8
 apply J.seq
 refine J.regE (by simp [eS, eM, eA]; rfl) ?_
 simp
 apply J.seq
 apply J.reg
 refine runL_tree rfl (d10) (by simp) hc ?_
 simp
 refine runL_step rfl (by simp [eS, eM, eA]; rfl) ?_
 simp [runL]
 apply J.seq
 apply J.reg
 refine runL_step rfl (by simp [eS, eM, eA]; rfl) ?_
 refine runL_tree rfl (h16) (by simp) hc ?_
 simp
 refine runL_step rfl (by simp [eS, eM, eA]; rfl) ?_
 simp [runL]
 apply J.seq
 apply J.seq
 apply J.reg
 iterate 7 refine runL_step rfl (by simp [eS, eM, eA]; rfl) ?_
 refine runL_if rfl (fun g20 => ?_) (fun g20 => ?_)
 ·
  try simp only [g20]
  try simp at g20
  refine runL_step rfl (by simp [eS, eM, eA]; rfl) ?_
  refine runL_do (by simp) ?_
  refine runL_tree rfl (d15 s (n := 50) (by omega) (few_fit (by rw [hA0, g20]))) (by simp) hc ?_
  simp
  iterate 3 refine runL_step rfl (by simp [eS, eM, eA]; rfl) ?_
  refine runL_if rfl (fun g25 => ?_) (fun g25 => ?_)
  ·
   try simp only [g25]
   try simp at g25
   iterate 6 refine runL_step rfl (by simp [eS, eM, eA]; rfl) ?_
   refine runL_if rfl (fun g31 => ?_) (fun g31 => ?_)
   ·
    try simp only [g31]
    try simp at g31
    iterate 5 refine runL_step rfl (by simp [eS, eM, eA]; rfl) ?_
    refine runL_if rfl (fun g36 => ?_) (fun g36 => ?_)
    ·
     try simp only [g36]
     try simp at g36
     iterate 4 refine runL_step rfl (by simp [eS, eM, eA]; rfl) ?_
     simp [runL]
     refine J.condB rfl (fun h40 => ?_) (fun h40 => ?_)
     ·
      simp at h40
      apply J.seq
      refine J.regE (by simp [eS, eM, eA]; rfl) ?_
      simp
      apply J.ret
      refine ⟨by simp, rfl, _, [], by simp [a8R]; rfl, ?_⟩
      simp
     ·
      simp at h40
      have hfs := few_fit (s := s) (by rw [hA0, g20])
      have hl1 := hfs.l1 (n := 50) (by omega)
      apply J.skip; simp
      apply J.seq
      apply J.seq
      refine J.regE (by simp [eS, eM, eA]; rfl) ?_
      simp
      apply J.block
      refine J.loop hc (I8a s m) ?_ ?_
      ·exact ⟨_, _, St.le_refl _, 0, by omega, rfl, by simp, by simp [eS, eM]⟩
      rintro n st ⟨i, hi, rfl, hI, rfl⟩
      apply J.seq
      apply J.seq
      refine J.regE (by simp [eS, eM, eA]; rfl) ?_
      simp
      apply J.cond; simp [eS, eM, eA]
      refine ⟨fun hlt => ?_, fun hlt => ?_⟩
      ·
       obtain ⟨y, hx, hgx, hg, hge, hdr, hw, hlt2, hset, hxm⟩ := getR (show i < s.rooms.length by omega) hl1
       simp only [eR] at hg hge
       have hym : y.c.mem.length < 1000000 := by have := (hfs.2.2.1 y hxm).1; omega
       apply J.skip; simp
       apply J.seq
       apply J.block
       apply J.seq
       apply J.seq
       apply J.draw; intro c' hc'
       iterate 10 refine runP_stepQ (by simp [eS, eM, eA, hlt2, hg, hge, hlt]; rfl) ?_
       simp [runP]
       refine J.condB rfl (fun h58 => ?_) (fun h58 => ?_)
       ·
        simp at h58
        have hN := take_next hI hx (fun h => absurd h h58)
        apply J.exit; simp
        refine J.regE (by simp [eS, eM, eA, hw]; rfl) ?_
        simp
        refine ⟨_, by omega, _, ?_, i + 1, by omega, rfl, hN, rfl⟩
        apply le_sub <;> simp [eS, eM]
       ·
        simp at h58
        apply J.skip; simp
        apply J.seq
        refine J.regE (by simp [eS, eM, eA]; rfl) ?_
        simp
        apply J.block
        refine J.loop hc (I8b s m y i) ?_ ?_
        ·exact ⟨_, _, St.le_refl _, 0, by omega, rfl, by simp, by simp [eS, eM]⟩
        rintro n st ⟨k, hk, rfl, hK, rfl⟩
        apply J.seq
        apply J.seq
        apply J.reg
        iterate 10 refine runL_step rfl (by simp [eS, eM, eA, hlt2, hg, hge, hlt]; rfl) ?_
        simp [runL]
        apply J.cond; simp [eS, eM, eA]
        refine ⟨fun hlk => ?_, fun hlk => ?_⟩
        ·
         obtain ⟨u, hx2, hgx2, hg2, hge2, hdr2, hw2, hltk⟩ := getI (show k < y.c.mem.length by omega) hym
         apply J.skip; simp
         apply J.seq
         apply J.block
         apply J.seq
         apply J.draw; intro c' hc'
         iterate 13 refine runP_stepQ (by simp [eS, eM, eA, hlt2, hg, hge, hlt, hltk, hg2, hge2, hlk]; rfl) ?_
         simp [runP]
         refine J.condB rfl (fun h83 => ?_) (fun h83 => ?_)
         ·
          simp at h83
          apply J.seq
          refine J.regE (by simp [eS, eM, eA]; rfl) ?_
          simp
          apply J.ret
          refine ⟨by simp, rfl, _, [], by simp [a8R]; rfl, ?_⟩
          simp
         ·
          simp at h83
          apply J.skip; simp
          refine J.regE (by simp [eS, eM, eA, hw2]; rfl) ?_
          simp
          refine ⟨_, by omega, _, ?_, k + 1, by omega, rfl, take_next hK hx2 h83, rfl⟩
          apply le_sub <;> simp [eS, eM]
        ·
         have hke : k = y.c.mem.length := by omega
         subst hke
         rw [List.take_length] at hK
         have hN := take_next hI hx (fun _ => hK)
         apply J.exit; simp
         refine J.regE (by simp [eS, eM, eA, hw]; rfl) ?_
         simp
         refine ⟨_, by omega, _, ?_, i + 1, by omega, rfl, hN, rfl⟩
         apply le_sub <;> simp [eS, eM]
      ·
       have hie : i = s.rooms.length := by omega
       subst hie
       rw [List.take_length] at hI
       have hrm := outside_apply hI g36 h40
       have h20 := d20 s s (n := 50) (by omega) hfs hfs
       rw [eqB_refl] at h20
       apply J.exit; simp
       apply J.seq
       apply J.reg
       iterate 2 refine runL_step rfl (by simp [eS, eM, eA]; rfl) ?_
       refine runL_tree rfl (d17 s m (n := 50) (by omega) hfs) (by simp) hc ?_
       simp
       iterate 7 refine runL_step rfl (by simp [eS, eM, eA]; rfl) ?_
       simp [runL]
       apply J.seq
       refine J.regE (by simp [eS, eM, eA]; rfl) ?_
       simp
       simp only [hrm]
       apply J.seq
       apply J.reg
       iterate 2 refine runL_step rfl (by simp [eS, eM, eA]; rfl) ?_
       refine runL_tree rfl (h20) (by simp) hc ?_
       simp
       refine runL_step rfl (by simp [eS, eM, eA]; rfl) ?_
       simp [runL]
       apply J.ret
       refine ⟨by simp, rfl, _, [], by simp [a8R]; rfl, ?_⟩
       simp
    ·
     try simp only [g36]
     try simp at g36
     iterate 3 refine runL_step rfl (by simp [eS, eM, eA]; rfl) ?_
     simp [runL]
     apply J.cond; simp [eS, eM, eA]
     apply J.seq
     refine J.regE (by simp [eS, eM, eA]; rfl) ?_
     simp
     apply J.ret
     refine ⟨by simp, rfl, _, [], by simp [a8R]; rfl, ?_⟩
     simp
   ·
    try simp only [g31]
    try simp at g31
    iterate 8 refine runL_step rfl (by simp [eS, eM, eA]; rfl) ?_
    simp [runL]
    apply J.cond; simp [eS, eM, eA]
    apply J.seq
    refine J.regE (by simp [eS, eM, eA]; rfl) ?_
    simp
    apply J.ret
    refine ⟨by simp, rfl, _, [], by simp [a8R]; rfl, ?_⟩
    simp
  ·
   try simp only [g25]
   try simp at g25
   iterate 14 refine runL_step rfl (by simp [eS, eM, eA]; rfl) ?_
   simp [runL]
   apply J.cond; simp [eS, eM, eA]
   apply J.seq
   refine J.regE (by simp [eS, eM, eA]; rfl) ?_
   simp
   apply J.ret
   refine ⟨by simp, rfl, _, [], by simp [a8R]; rfl, ?_⟩
   simp
 ·
  try simp only [g20]
  try simp at g20
  refine runL_pass (b := _) rfl (by simp) ?_
  simp
  iterate 18 refine runL_step rfl (by simp [eS, eM, eA]; rfl) ?_
  simp [runL]
  apply J.cond; simp [eS, eM, eA]
  apply J.seq
  refine J.regE (by simp [eS, eM, eA]; rfl) ?_
  simp
  apply J.ret
  refine ⟨by simp, rfl, _, [], by simp [a8R]; rfl, ?_⟩
  simp
end Go.Proofs.YtadbdchbdjkcdaaGreatDoor.F
