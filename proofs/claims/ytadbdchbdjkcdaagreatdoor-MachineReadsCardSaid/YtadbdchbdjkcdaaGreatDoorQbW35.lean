/- The walk of LawMachineReads. -/
import Derived.Test.YtadbdchbdjkcdaaGreatDoorQb11
set_option linter.unusedVariables false
set_option linter.unusedSimpArgs false
namespace Go.Proofs.YtadbdchbdjkcdaaGreatDoor.F
open Go Go.SX
def a7r0 : AC := .reg [oI 3 (.box 7003 27 2 (.s 0)), oI 4 (.box 7004 36 6 (.s 1)), oI 6 (.mov (.c (.lit (.bool false))))] [2, 3, 4]
def a7r1 : AC := .reg [oI 19 (.callv (.c (.fn 10 [])) []), oI 7 (.mov (.s 19))] [2, 3, 4, 7]
def a7r2 : AC := .reg [oI 20 (.load 2 true (.s 3)), oI 21 (.callv (.c (.fn 16 [])) [(.s 20)]), oI 8 (.mov (.s 21))] [2, 3, 4, 7, 8]
def a7r3 : AC := .reg [oI 22 (.mov (.s 7)), oI 23 (.not (.s 22)), oI 24 (.mov (.s 23)), oG 25 24 false (.mov (.s 8)), oG 26 24 false (.not (.s 25)), oI 27 (.pick (.s 24) (.c (.lit (.bool true))) (.s 26)), oI 28 (.mov (.s 27)), oG 29 28 false (.load 2 true (.s 3)), oG 30 28 false (.callv (.c (.fn 15 [])) [(.s 29)]), oG 31 28 false (.not (.s 30)), oI 32 (.pick (.s 28) (.c (.lit (.bool true))) (.s 31)), oI 33 (.mov (.s 32)), oG 34 33 false (.load 6 true (.s 4)), oG 35 33 false (.callv (.c (.fn 21 [])) [(.s 34)]), oG 36 33 false (.not (.s 35)), oI 37 (.pick (.s 33) (.c (.lit (.bool true))) (.s 36)), oI 38 (.mov (.s 37)), oG 39 38 false (.faddr 2 (.s 4)), oG 40 38 false (.load 1 false (.s 39)), oG 41 38 false (.iop .neq (.s 40) (.c (.lit (.int .i64 7)))), oI 42 (.pick (.s 38) (.c (.lit (.bool true))) (.s 41)), oI 43 (.mov (.s 42)), oG 44 43 false (.mov (.s 2)), oG 45 43 false (.iop .lss (.s 44) (.c (.lit (.int .i64 1)))), oI 46 (.pick (.s 43) (.c (.lit (.bool true))) (.s 45)), oI 47 (.mov (.s 46)), oG 48 47 false (.mov (.s 2)), oG 49 47 false (.iop .gtr (.s 48) (.c (.lit (.int .i64 1073741824)))), oI 50 (.pick (.s 47) (.c (.lit (.bool true))) (.s 49)), oI 51 (.mov (.s 50)), oG 52 51 false (.mov (.s 2)), oG 53 51 false (.faddr 1 (.s 4)), oG 54 51 false (.load 1 false (.s 53)), oG 55 51 false (.iop .eql (.s 52) (.s 54)), oI 56 (.pick (.s 51) (.c (.lit (.bool true))) (.s 55))] [2, 3, 4, 7, 56]
def a7r4 : AC := .reg [oI 57 (.mov (.s 7)), oI 6 (.mov (.s 57))] [6]
def a7r5 : AC := .reg [oI 59 (.load 2 true (.s 3)), oI 60 (.load 6 true (.s 4)), oI 61 (.callv (.c (.fn 17 [])) [(.s 59), (.s 60)]), oI 58 (.mov (.s 61)), oI 62 (.extract 0 (.s 58)), oI 63 (.extract 1 (.s 58)), oI 9 (.alloc 7009 27 [(.nils 4), (.nils 3)]), oI 10 (.alloc 7010 39 [(.lit (.int .i64 0)), (.lit (.int .i64 0)), (.lit (.string ⟨#[]⟩))]), oN (.store 2 (.s 9) (.s 62)), oN (.store 3 (.s 10) (.s 63))] [2, 3, 4, 9, 10]
def a7r6 : AC := .reg [oI 64 (.load 6 true (.s 4)), oI 11 (.alloc 7011 36 [(.lit (.int .i64 0)), (.lit (.int .i64 0)), (.lit (.int .i64 0)), (.lit (.int .i64 0)), (.lit (.int .i64 0)), (.lit (.string ⟨#[]⟩))]), oN (.store 6 (.s 11) (.s 64))] [2, 3, 4, 9, 10, 11]
def a7r7 : AC := .reg [oI 65 (.mov (.s 2)), oI 66 (.faddr 1 (.s 11)), oN (.store 1 (.s 66) (.s 65))] [3, 4, 9, 10, 11]
def a7r8 : AC := .reg [oI 68 (.load 2 true (.s 9)), oI 69 (.load 6 true (.s 11)), oI 70 (.callv (.c (.fn 17 [])) [(.s 68), (.s 69)]), oI 67 (.mov (.s 70)), oI 71 (.extract 0 (.s 67)), oI 72 (.extract 1 (.s 67)), oI 12 (.alloc 7012 27 [(.nils 4), (.nils 3)]), oI 13 (.alloc 7013 39 [(.lit (.int .i64 0)), (.lit (.int .i64 0)), (.lit (.string ⟨#[]⟩))]), oN (.store 2 (.s 12) (.s 71)), oN (.store 3 (.s 13) (.s 72))] [3, 4, 9, 10, 11, 12, 13]
def a7r9 : AC := .reg [oI 73 (.faddr 1 (.s 3)), oI 74 (.load 1 false (.s 73)), oI 75 (.faddr 1 (.s 9)), oN (.store 1 (.s 75) (.s 74))] [3, 4, 9, 10, 11, 12, 13]
def a7r10 : AC := .reg [oI 76 (.faddr 1 (.s 3)), oI 77 (.load 1 false (.s 76)), oI 78 (.faddr 1 (.s 12)), oN (.store 1 (.s 78) (.s 77))] [3, 4, 9, 10, 11, 12, 13]
def a7r11 : AC := .reg [oI 80 (.load 2 true (.s 3)), oI 81 (.load 6 true (.s 11)), oI 82 (.callv (.c (.fn 17 [])) [(.s 80), (.s 81)]), oI 79 (.mov (.s 82)), oI 83 (.extract 0 (.s 79)), oI 84 (.extract 1 (.s 79)), oI 14 (.alloc 7014 27 [(.nils 4), (.nils 3)]), oI 15 (.alloc 7015 39 [(.lit (.int .i64 0)), (.lit (.int .i64 0)), (.lit (.string ⟨#[]⟩))]), oN (.store 2 (.s 14) (.s 83)), oN (.store 3 (.s 15) (.s 84))] [3, 4, 9, 10, 11, 12, 13, 14, 15]
def a7r12 : AC := .reg [oI 85 (.faddr 1 (.s 3)), oI 86 (.load 1 false (.s 85)), oI 87 (.faddr 1 (.s 14)), oN (.store 1 (.s 87) (.s 86))] [3, 4, 9, 10, 11, 12, 13, 14, 15]
def a7r13 : AC := .reg [oI 88 (.load 2 true (.s 3)), oI 89 (.load 6 true (.s 4)), oI 90 (.callv (.c (.fn 22 [])) [(.s 88), (.s 89)]), oI 16 (.mov (.s 90))] [3, 9, 10, 11, 12, 13, 14, 15, 16]
def a7r14 : AC := .reg [oI 91 (.load 2 true (.s 3)), oI 92 (.load 6 true (.s 11)), oI 93 (.callv (.c (.fn 22 [])) [(.s 91), (.s 92)]), oI 17 (.mov (.s 93))] [3, 9, 10, 12, 13, 14, 15, 16, 17]
def a7r15 : AC := .reg [oI 94 (.faddr 0 (.s 10)), oI 95 (.load 1 false (.s 94)), oI 96 (.iop .eql (.s 95) (.c (.lit (.int .i64 9)))), oI 97 (.mov (.s 96)), oG 98 97 false (.faddr 0 (.s 13)), oG 99 97 false (.load 1 false (.s 98)), oG 100 97 false (.iop .eql (.s 99) (.c (.lit (.int .i64 9)))), oI 101 (.pick (.s 97) (.c (.lit (.bool true))) (.s 100)), oI 102 (.mov (.s 101)), oG 103 102 false (.faddr 0 (.s 15)), oG 104 102 false (.load 1 false (.s 103)), oG 105 102 false (.iop .eql (.s 104) (.c (.lit (.int .i64 9)))), oI 106 (.pick (.s 102) (.c (.lit (.bool true))) (.s 105)), oI 18 (.mov (.s 106))] [3, 9, 10, 12, 13, 14, 16, 17, 18]
def a7r16 : AC := .reg [oI 107 (.load 2 true (.s 9)), oI 108 (.load 2 true (.s 3)), oI 109 (.callv (.c (.fn 20 [])) [(.s 107), (.s 108)]), oI 110 (.mov (.s 109)), oG 111 110 true (.load 2 true (.s 12)), oG 112 110 true (.load 2 true (.s 3)), oG 113 110 true (.callv (.c (.fn 20 [])) [(.s 111), (.s 112)]), oI 114 (.pick (.s 110) (.s 113) (.c (.lit (.bool false)))), oI 115 (.mov (.s 114)), oG 116 115 true (.load 2 true (.s 14)), oG 117 115 true (.load 2 true (.s 3)), oG 118 115 true (.callv (.c (.fn 20 [])) [(.s 116), (.s 117)]), oI 119 (.pick (.s 115) (.s 118) (.c (.lit (.bool false)))), oI 120 (.mov (.s 119)), oG 121 120 true (.mov (.s 18)), oG 122 120 true (.mov (.s 121)), oG 123 122 false (.mov (.s 16)), oG 124 120 true (.pick (.s 122) (.c (.lit (.bool true))) (.s 123)), oG 125 120 true (.mov (.s 124)), oG 126 125 false (.mov (.s 17)), oG 127 120 true (.pick (.s 125) (.c (.lit (.bool true))) (.s 126)), oG 128 120 true (.mov (.s 127)), oG 129 128 false (.load 3 true (.s 10)), oG 130 128 false (.load 3 true (.s 13)), oG 131 128 false (.seql false [1, 1, 2] (.s 129) (.s 130)), oG 132 120 true (.pick (.s 128) (.c (.lit (.bool true))) (.s 131)), oI 133 (.pick (.s 120) (.s 132) (.c (.lit (.bool false)))), oI 6 (.mov (.s 133))] [6]
def a7 : AC := .seq a7r0 (.seq a7r1 (.seq a7r2 (.seq (.seq a7r3 (.cond (.s 56) (.seq a7r4 (.ret)) (.skip))) (.seq a7r5 (.seq a7r6 (.seq a7r7 (.seq a7r8 (.seq a7r9 (.seq a7r10 (.seq a7r11 (.seq a7r12 (.seq a7r13 (.seq a7r14 (.seq a7r15 (.seq a7r16 (.ret))))))))))))))))
def a7R : List RD := [.tmp 6]
end Go.Proofs.YtadbdchbdjkcdaaGreatDoor.F
namespace Go.Proofs.YtadbdchbdjkcdaaGreatDoor.F
open Go Go.SX
theorem kt35 {α : Type} {l : List α} {i : Nat} {y : α} {Q : α → Prop} (h : ∀ r ∈ l.take i, Q r) (hx : l[i]? = some y) (hy : Q y) : ∀ r ∈ l.take (i + 1), Q r := by
 intro r hr
 rw [List.take_add_one, hx] at hr
 rcases List.mem_append.1 hr with h1 | h1
 ·exact h r h1
 ·simp at h1; subst h1; exact hy
def Knows (s : Sta) (u q : Int) : Prop := ∃ p ∈ s.persons, ∃ x ∈ p.w.l, p.user = u ∧ x.seq = q
def knownS (s : Sta) (m : Cmd) : Bool := s.persons.any fun p => p.w.l.any fun x => decide (p.user = m.user ∧ x.seq = m.seq)
theorem known_iff {s : Sta} {m : Cmd} : knownS s m = true ↔ ∃ p ∈ s.persons, ∃ x ∈ p.w.l, p.user = m.user ∧ x.seq = m.seq := by simp [knownS]
theorem reads_does {s : Sta} {m : Cmd} (h : m.kind = 7) : (doesS s m).1 = s := by
 unfold doesS
 split
 ·rw [if_neg (by omega)]
  split
  ·rfl
  ·simp [doQ, h]
 ·rw [if_neg (by omega)]
theorem doQ_reads {s t : Sta} {m d : Cmd} {r : Room} (h : m.kind = 7) (hk : d.kind = 7) (hn : d.n = m.n) : (doQ s m r).2.1 = (doQ t d r).2.1 := by simp [doQ, h, hk, hn]
theorem reads_same {s t : Sta} {m d : Cmd} (hr : t.rooms = s.rooms) (h : m.kind = 7) (hk : d.kind = 7) (hu : d.user = m.user) (hc : d.ch = m.ch) (hn : d.n = m.n) : (doesS s m).2 = (doesS t d).2 := by
 unfold doesS
 rw [hr, hc]
 split
 ·rename_i r _
  rw [if_neg (show ¬ m.kind = 1 by omega), if_neg (show ¬ d.kind = 1 by omega), hu]
  by_cases hh : inC r.c m.user = false
  ·rw [if_pos ⟨by omega, hh⟩, if_pos ⟨by omega, hh⟩]
  ·rw [if_neg (fun x => hh x.2), if_neg (fun x => hh x.2)]; exact doQ_reads h hk hn
 ·rw [if_neg (show ¬ m.kind = 1 by omega), if_neg (show ¬ d.kind = 1 by omega)]
theorem reads_rooms {s : Sta} {m : Cmd} (h : m.kind = 7) : (applyS s m).1.rooms = s.rooms := by
 unfold applyS
 repeat' split
 ·rfl
 ·rfl
 ·rfl
 ·rfl
 ·simp only [withP, reads_does h]
theorem look_is {w : Win} {q : Int} {A : Ans} {er : Int} (h : lookW w q = (A, true, er)) : ∃ x ∈ w.l, x.seq = q := by
 unfold lookW at h
 split at h
 ·simp at h
 ·split at h
  ·simp at h
  ·split at h
   ·rename_i x hx
    exact ⟨x, List.mem_of_find?_eq_some hx, by simpa using List.find?_some hx⟩
   ·simp at h
theorem look_err {w : Win} {q : Int} {A : Ans} {is : Bool} {er : Int} (h : lookW w q = (A, is, er)) (he : ¬ er = 0) (hm : mayW w = true) (hq : btw q 1 1073741824 = true) : er = 9 := by
 unfold lookW at h
 rw [if_neg (by simp [hm, hq])] at h
 split at h
 ·simp at h; exact h.2.2.symm
 ·split at h
  ·simp at h; omega
  ·simp at h; omega
theorem win_mem {s : Sta} {u : Int} {x : Told} (h : x ∈ (winOf s u).l) : ∃ p ∈ s.persons, p.w = winOf s u ∧ p.user = u := by
 cases e : s.persons.find? (fun p => decide (kV p = u)) with
 | none => rw [win_none e] at h; simp [noW] at h
 | some p => exact ⟨p, List.mem_of_find?_eq_some e, (win_some e).symm, by simpa [kV] using List.find?_some e⟩
theorem win_may {s : Sta} {u : Int} (h : mayS s = true) : mayW (winOf s u) = true := by
 cases e : s.persons.find? (fun p => decide (kV p = u)) with
 | none => rw [win_none e]; decide
 | some p =>
  rw [win_some e]
  have := (mayS_iff.1 h).2.1 p (List.mem_of_find?_eq_some e)
  simp only [badV, Bool.or_eq_false_iff, Bool.not_eq_false'] at this
  exact this.2
theorem cutW_sub {low : Int} {l : List Told} {x : Told} (h : x ∈ (cutW low l).l) : x ∈ l := by
 unfold cutW at h
 split at h
 ·exact List.mem_of_mem_drop h
 ·exact h
theorem reads_new {s : Sta} {m : Cmd} (h : mayS s = true) (hm : mayM m = true) (h7 : m.kind = 7) (ha : ¬ (applyS s m).2.e = 9) (hk : knownS s m = false) : applyS s m = (withP s m.user (putW (winOf s m.user) m.seq (doesS s m).2).1, (doesS s m).2) ∧ ∃ A, lookW (winOf s m.user) m.seq = (A, false, 0) := by
 have h0 : ¬ m.kind = 0 := by omega
 obtain ⟨⟨A, is, er⟩, hL⟩ : { L : Ans × Bool × Int // lookW (winOf s m.user) m.seq = L } := ⟨_, rfl⟩
 by_cases he : er = 0
 ·subst he
  cases is
  ·refine ⟨?_, A, hL⟩
   have e := apply_do h hm h0 hL
   rw [reads_does h7] at e; exact e
  ·exfalso
   obtain ⟨x, hx, hq⟩ := look_is hL
   obtain ⟨p, hp, hw, hu⟩ := win_mem hx
   have := known_iff.2 ⟨p, hp, x, hw ▸ hx, hu, hq⟩
   rw [hk] at this; cases this
 ·exfalso
  have e := apply_err h hm h0 hL he
  rw [e] at ha
  exact ha (look_err hL he (win_may h) (mayM_user hm h0).2)
theorem reads_twice {s : Sta} {m d : Cmd} (h : mayS s = true) (hm : mayM m = true) (hd : mayM d = true) (h7 : m.kind = 7) (hk7 : d.kind = 7) (hu : d.user = m.user) (hc : d.ch = m.ch) (hn : d.n = m.n) (hs : ¬ d.seq = m.seq)
  (ha : ¬ (applyS s m).2.e = 9) (hb : ¬ (applyS (applyS s m).1 d).2.e = 9) (hk : knownS s m = false) (hkd : knownS s d = false) : (applyS s m).2 = (applyS (applyS s m).1 d).2 := by
 obtain ⟨e, A, hL⟩ := reads_new h hm h7 ha hk
 have hx := apply_keep (m := m) h
 have hr := reads_rooms (s := s) h7
 have hw : winOf (applyS s m).1 d.user = (putW (winOf s m.user) m.seq (doesS s m).2).1 := by rw [e, hu]; exact winOf_with (mayS_iff.1 h).2.2.2
 have hkx : knownS (applyS s m).1 d = false := by
  cases ek : knownS (applyS s m).1 d
  ·rfl
  ·exfalso
   obtain ⟨p, hp, x, hx2, hpu, hxq⟩ := known_iff.1 ek
   rw [e] at hp
   simp only [withP] at hp
   rcases putK_mem kV hp with rfl | hp
   ·simp only at hx2
    rw [putW_eq hL, if_neg (by simp), if_neg (by simp)] at hx2
    rcases putK_mem kT (cutW_sub hx2) with rfl | hx2
    ·exact hs hxq.symm
    ·obtain ⟨p2, hp2, hw2, hu2⟩ := win_mem hx2
     have := known_iff.2 ⟨p2, hp2, x, hw2 ▸ hx2, hu2.trans hu.symm, hxq⟩
     rw [hkd] at this; cases this
   ·have := known_iff.2 ⟨p, hp, x, hx2, hpu, hxq⟩
    rw [hkd] at this; cases this
 obtain ⟨e2, _⟩ := reads_new hx hd hk7 hb hkx
 have e3 : (applyS s m).2 = (doesS s m).2 := by rw [e]
 rw [e2, e3]
 exact reads_same hr h7 hk7 hu hc hn
theorem mayM_seq {m : Cmd} {q : Int} (h : mayM m = true) (h1 : 1 ≤ q) (h2 : q ≤ 1073741824) (h0 : ¬ m.kind = 0) : mayM ⟨m.user, q, m.kind, m.ch, m.n, m.text⟩ = true := by
 have h7 := (mayM_kind h h0).1
 rw [mayM_in h7.1 h7.2] at h
 rw [mayM_in (m := ⟨m.user, q, m.kind, m.ch, m.n, m.text⟩) h7.1 h7.2]
 simp only [Bool.and_eq_true] at h ⊢
 exact ⟨h.1, by simp [btw]; omega, h.2.2⟩
def NoK (m : Cmd) (p : Pers) : Prop := ∀ x ∈ p.w.l, ¬ (p.user = m.user ∧ x.seq = m.seq)
theorem noK_all {s : Sta} {m : Cmd} (h : ∀ p ∈ s.persons, NoK m p) : knownS s m = false := by
 cases e : knownS s m
 ·rfl
 ·obtain ⟨p, hp, x, hx, hh⟩ := known_iff.1 e
  exact absurd hh (h p hp x hx)
def I22a (s : Sta) (m : Cmd) (mm : Nat) (st : St) : Prop := ∃ i : Nat, i ≤ s.persons.length ∧ mm = s.persons.length - i ∧ (∀ p ∈ s.persons.take i, NoK m p) ∧ st = ⟨[(2, .ptr 22002 0 0 0), (3, .ptr 22003 0 0 0), (5, iv (i : Nat))], [(22002, .obj 27 (eS s)), (22003, .obj 36 (eM m))], []⟩
def I22b (s : Sta) (m : Cmd) (y : Pers) (i : Nat) (mm : Nat) (st : St) : Prop := ∃ k : Nat, k ≤ y.w.l.length ∧ mm = y.w.l.length - k ∧ (∀ x ∈ y.w.l.take k, ¬ (y.user = m.user ∧ x.seq = m.seq)) ∧ st = ⟨[(2, .ptr 22002 0 0 0), (3, .ptr 22003 0 0 0), (5, iv (i : Nat)), (6, iv (k : Nat))], [(22002, .obj 27 (eS s)), (22003, .obj 36 (eM m))], []⟩
theorem c22 : chkFn Tryz.prog 22 51 2 a22 a22R = true := by kernel_rfl
theorem d22 (s : Sta) (m : Cmd) {n : Nat} (hn : n < 900000) (hf : FitS n s) : DoesT 22 [.agg (eS s), .agg (eM m)] (bv (knownS s m)) := by
 have hl1 := hf.2.1
 refine Does.of (nt := 51) (ac := a22) (rds := a22R) c22 (fun c hc => ?_)
 unfold a22
 apply J.seq
 refine J.regE (by simp [eS, eM]; rfl) ?_
 simp
 apply J.seq
 apply J.seq
 refine J.regE (by simp [eS, eM]; rfl) ?_
 simp
 apply J.block
 refine J.loop hc (I22a s m) ?_ ?_
 ·exact ⟨_, _, St.le_refl _, 0, by omega, rfl, by simp, by simp [eS, eM]⟩
 rintro n st ⟨i, hi, rfl, hI, rfl⟩
 apply J.seq
 apply J.seq
 refine J.regE (by simp [eS, eM]; rfl) ?_
 simp
 apply J.cond; simp [eS, eM]
 refine ⟨fun hlt => ?_, fun hlt => ?_⟩
 ·
  obtain ⟨y, hx, hgx, hg, hge, hdr, hw, hlt2, hset, hxm⟩ := getV (show i < s.persons.length by omega) (by omega)
  simp only [eV] at hg hge
  have hym : y.w.l.length < 1000000 := by have := hf.2.2.2 y hxm; omega
  apply J.skip; simp
  apply J.seq
  apply J.block
  apply J.seq
  refine J.regE (by simp [eS, eM]; rfl) ?_
  simp
  apply J.block
  refine J.loop hc (I22b s m y i) ?_ ?_
  ·exact ⟨_, _, St.le_refl _, 0, by omega, rfl, by simp, by simp [eS, eM]⟩
  rintro n st ⟨k, hk, rfl, hK, rfl⟩
  apply J.seq
  apply J.seq
  apply J.reg
  iterate 10 refine runL_step rfl (by simp [eS, eM, hlt2, hg, hge, hlt]; rfl) ?_
  simp [runL]
  apply J.cond; simp [eS, eM]
  refine ⟨fun hlk => ?_, fun hlk => ?_⟩
  ·
   obtain ⟨u, hx2, hgx2, hg2, hge2, hdr2, hw2, hltk⟩ := getT (show k < y.w.l.length by omega) hym
   apply J.skip; simp
   apply J.seq
   apply J.block
   apply J.seq
   apply J.draw; intro c' hc'
   iterate 10 refine runP_stepQ (by simp [eS, eM, hlt2, hg, hge, hlt, hltk, hg2, hge2, hlk, eT]; rfl) ?_
   refine runP_if rfl (fun g35 => ?_) (fun g35 => ?_)
   ·
    try simp only [g35]
    try simp at g35
    iterate 15 refine runP_stepQ (by simp [eS, eM, hlt2, hg, hge, hlt, hltk, hg2, hge2, hlk, eT]; rfl) ?_
    simp [runP]
    refine J.condB rfl (fun h50 => ?_) (fun h50 => ?_)
    ·
     simp at h50
     rw [show knownS s m = true from known_iff.2 ⟨y, hxm, u, List.mem_of_getElem? hx2, g35, h50⟩]
     apply J.seq
     refine J.regE (by simp [eS, eM]; rfl) ?_
     simp
     apply J.ret
     refine ⟨by simp, rfl, _, [], by simp [a22R]; rfl, ?_⟩
     simp
    ·
     simp at h50
     apply J.skip; simp
     refine J.regE (by simp [eS, eM, hw2]; rfl) ?_
     simp
     refine ⟨_, by omega, _, ?_, k + 1, by omega, rfl, kt35 hK hx2 (fun hh => by first | exact h50 hh.2 | exact g35 hh.1), rfl⟩
     apply le_sub <;> simp [eS, eM]
   ·
    try simp only [g35]
    try simp at g35
    iterate 14 refine runP_stepQ (by simp [eS, eM, hlt2, hg, hge, hlt, hltk, hg2, hge2, hlk, eT]; rfl) ?_
    simp [runP]
    apply J.cond; simp [eS, eM]
    apply J.skip; simp
    refine J.regE (by simp [eS, eM, hw2]; rfl) ?_
    simp
    refine ⟨_, by omega, _, ?_, k + 1, by omega, rfl, kt35 hK hx2 (fun hh => by first | exact h50 hh.2 | exact g35 hh.1), rfl⟩
    apply le_sub <;> simp [eS, eM]
  ·
   have hke : k = y.w.l.length := by omega
   subst hke
   rw [List.take_length] at hK
   have hN := kt35 hI hx (show NoK m y from hK)
   apply J.exit; simp
   refine J.regE (by simp [eS, eM, hw]; rfl) ?_
   simp
   refine ⟨_, by omega, _, ?_, i + 1, by omega, rfl, hN, rfl⟩
   apply le_sub <;> simp [eS, eM]
 ·
  have hie : i = s.persons.length := by omega
  subst hie
  rw [List.take_length] at hI
  rw [noK_all hI]
  apply J.exit; simp
  apply J.seq
  refine J.regE (by simp [eS, eM]; rfl) ?_
  simp
  apply J.ret
  refine ⟨by simp, rfl, _, [], by simp [a22R]; rfl, ?_⟩
  simp
theorem c7 : chkFn Tryz.prog 7 134 3 a7 a7R = true := by kernel_rfl
theorem d7 (s : Sta) (m : Cmd) (nx : Int) (hb : Big s) : DoesT 7 [.agg (eS s), .agg (eM m), iv nx] (bv true) := by
 have h16 := d16 s hb
 obtain ⟨A0, hA0⟩ : ∃ A, fewS s = A := ⟨_, rfl⟩
 rw [hA0] at h16
 refine Does.of (nt := 134) (ac := a7) (rds := a7R) c7 (fun c hc => ?_)
 unfold a7
 apply J.seq
 refine J.regE (by simp [eS, eM, eA]; rfl) ?_
 simp
 apply J.seq
 apply J.reg
 refine runL_tree rfl (d10) (by simp) hc ?_
 simp
 refine runL_step rfl (by simp [eS, eM, eA]; rfl) ?_
 simp [runL]
 apply J.seq
 apply J.reg
 refine runL_step rfl (by simp [eS, eM, eA]; rfl) ?_
 refine runL_tree rfl (h16) (by simp) hc ?_
 simp
 refine runL_step rfl (by simp [eS, eM, eA]; rfl) ?_
 simp [runL]
 apply J.seq
 apply J.seq
 apply J.reg
 iterate 7 refine runL_step rfl (by simp [eS, eM, eA]; rfl) ?_
 refine runL_if rfl (fun g28 => ?_) (fun g28 => ?_)
 ·
  try simp only [g28]
  try simp at g28
  refine runL_step rfl (by simp [eS, eM, eA]; rfl) ?_
  refine runL_do (by simp) ?_
  refine runL_tree rfl (d15 s (n := 50) (by omega) (few_fit (by rw [hA0, g28]))) (by simp) hc ?_
  simp
  iterate 3 refine runL_step rfl (by simp [eS, eM, eA]; rfl) ?_
  refine runL_if rfl (fun g33 => ?_) (fun g33 => ?_)
  ·
   try simp only [g33]
   try simp at g33
   refine runL_step rfl (by simp [eS, eM, eA]; rfl) ?_
   refine runL_do (by simp) ?_
   refine runL_tree rfl (d21 m) (by simp) hc ?_
   simp
   iterate 3 refine runL_step rfl (by simp [eS, eM, eA]; rfl) ?_
   refine runL_if rfl (fun g38 => ?_) (fun g38 => ?_)
   ·
    try simp only [g38]
    try simp at g38
    iterate 5 refine runL_step rfl (by simp [eS, eM, eA]; rfl) ?_
    refine runL_if rfl (fun g43 => ?_) (fun g43 => ?_)
    ·
     try simp only [g43]
     try simp at g43
     iterate 4 refine runL_step rfl (by simp [eS, eM, eA]; rfl) ?_
     refine runL_if rfl (fun g47 => ?_) (fun g47 => ?_)
     ·
      try simp only [g47]
      try simp at g47
      iterate 4 refine runL_step rfl (by simp [eS, eM, eA]; rfl) ?_
      refine runL_if rfl (fun g51 => ?_) (fun g51 => ?_)
      ·
       try simp only [g51]
       try simp at g51
       iterate 5 refine runL_step rfl (by simp [eS, eM, eA]; rfl) ?_
       simp [runL]
       refine J.condB rfl (fun h56 => ?_) (fun h56 => ?_)
       ·
        simp at h56
        apply J.seq
        refine J.regE (by simp [eS, eM, eA]; rfl) ?_
        simp
        apply J.ret
        refine ⟨by simp, rfl, _, [], by simp [a7R]; rfl, ?_⟩
        simp [eS, eM, eA]
       ·
        simp at h56
        have hfs := few_fit (s := s) (by rw [hA0, g28])
        obtain ⟨d, hd⟩ : ∃ d : Cmd, d = ⟨m.user, nx, m.kind, m.ch, m.n, m.text⟩ := ⟨_, rfl⟩
        have hdm : mayM d = true := by rw [hd]; exact mayM_seq g38 (by omega) (by omega) (by omega)
        have h22 := d22 s m (n := 50) (by omega) hfs
        have h22d := d22 s d (n := 50) (by omega) hfs
        have h17 := d17 s m (n := 50) (by omega) hfs
        have hr1 := reads_rooms (s := s) (m := m) g43
        have hfx := apply_fit (m := m) hfs (by omega)
        have htw := reads_twice (s := s) (m := m) (d := d) g33 g38 hdm g43 (by rw [hd]; exact g43) (by rw [hd]) (by rw [hd]) (by rw [hd]) (by rw [hd]; exact h56)
        generalize hQ : applyS s m = q at h17 hr1 hfx htw
        obtain ⟨⟨xr, xp⟩, a⟩ := q
        simp only at h17 hr1 hfx htw
        subst hr1
        have h17b := d17 ⟨s.rooms, xp⟩ d (n := 51) (by omega) hfx
        have hr2 := reads_rooms (s := ⟨s.rooms, xp⟩) (m := d) (by rw [hd]; exact g43)
        generalize hQ2 : applyS ⟨s.rooms, xp⟩ d = q2 at h17b hr2 htw
        obtain ⟨⟨yr, yp⟩, b⟩ := q2
        simp only at h17b hr2 htw
        subst hr2
        have h17c := d17 s d (n := 50) (by omega) hfs
        have hr3 := reads_rooms (s := s) (m := d) (by rw [hd]; exact g43)
        generalize hQ3 : applyS s d = q3 at h17c hr3
        obtain ⟨⟨er, ep⟩, f⟩ := q3
        simp only at h17c hr3
        subst hr3
        have h20 := d20 s s (n := 50) (by omega) hfs hfs
        rw [eqB_refl] at h20
        generalize knownS s m = kp at h22 htw
        generalize knownS s d = kq at h22d htw
        subst hd
        apply J.skip; simp
        apply J.seq
        apply J.reg
        iterate 2 refine runL_step rfl (by simp [eS, eM, eA]; rfl) ?_
        refine runL_tree rfl (h17) (by simp) hc ?_
        simp
        iterate 7 refine runL_step rfl (by simp [eS, eM, eA]; rfl) ?_
        simp [runL]
        apply J.seq
        refine J.regE (by simp [eS, eM, eA]; rfl) ?_
        simp
        apply J.seq
        refine J.regE (by simp [eS, eM, eA]; rfl) ?_
        simp
        apply J.seq
        apply J.reg
        iterate 2 refine runL_step rfl (by simp [eS, eM, eA]; rfl) ?_
        refine runL_tree rfl (h17b) (by simp) hc ?_
        simp
        iterate 7 refine runL_step rfl (by simp [eS, eM, eA]; rfl) ?_
        simp [runL]
        apply J.seq
        refine J.regE (by simp [eS, eM, eA]; rfl) ?_
        simp
        apply J.seq
        refine J.regE (by simp [eS, eM, eA]; rfl) ?_
        simp
        apply J.seq
        apply J.reg
        iterate 2 refine runL_step rfl (by simp [eS, eM, eA]; rfl) ?_
        refine runL_tree rfl (h17c) (by simp) hc ?_
        simp
        iterate 7 refine runL_step rfl (by simp [eS, eM, eA]; rfl) ?_
        simp [runL]
        apply J.seq
        refine J.regE (by simp [eS, eM, eA]; rfl) ?_
        simp
        apply J.seq
        apply J.reg
        iterate 2 refine runL_step rfl (by simp [eS, eM, eA]; rfl) ?_
        refine runL_tree rfl (h22) (by simp) hc ?_
        simp
        refine runL_step rfl (by simp [eS, eM, eA]; rfl) ?_
        simp [runL]
        apply J.seq
        apply J.reg
        iterate 2 refine runL_step rfl (by simp [eS, eM, eA]; rfl) ?_
        refine runL_tree rfl (h22d) (by simp) hc ?_
        simp
        refine runL_step rfl (by simp [eS, eM, eA]; rfl) ?_
        simp [runL]
        apply J.seq
        apply J.reg
        iterate 4 refine runL_step rfl (by simp [eS, eM, eA]; rfl) ?_
        refine runL_if rfl (fun g97 => ?_) (fun g97 => ?_)
        ·
         try simp only [g97]
         try simp at g97
         iterate 5 refine runL_step rfl (by simp [eS, eM, eA]; rfl) ?_
         refine runL_if rfl (fun g102 => ?_) (fun g102 => ?_)
         ·
          try simp only [g102]
          try simp at g102
          iterate 5 refine runL_step rfl (by simp [eS, eM, eA]; rfl) ?_
          simp [runL]
          apply J.seq
          apply J.reg
          iterate 2 refine runL_step rfl (by simp [eS, eM, eA]; rfl) ?_
          refine runL_tree rfl (h20) (by simp) hc ?_
          simp
          iterate 3 refine runL_step rfl (by simp [eS, eM, eA]; rfl) ?_
          refine runL_do (by simp) ?_
          refine runL_tree rfl (h20) (by simp) hc ?_
          simp
          iterate 4 refine runL_step rfl (by simp [eS, eM, eA]; rfl) ?_
          refine runL_do (by simp) ?_
          refine runL_tree rfl (h20) (by simp) hc ?_
          simp
          iterate 4 refine runL_step rfl (by simp [eS, eM, eA]; rfl) ?_
          refine runL_if rfl (fun g122 => ?_) (fun g122 => ?_)
          ·
           try simp only [g122]
           try simp at g122
           iterate 3 refine runL_step rfl (by simp [eS, eM, eA]; rfl) ?_
           refine runL_if rfl (fun g125 => ?_) (fun g125 => ?_)
           ·
            try simp only [g125]
            try simp at g125
            iterate 3 refine runL_step rfl (by simp [eS, eM, eA]; rfl) ?_
            refine runL_if rfl (fun g128 => ?_) (fun g128 => ?_)
            ·
             try simp only [g128]
             try simp at g128
             have hab := htw g97 g102 g125 g128
             subst hab
             iterate 6 refine runL_step rfl (by simp [eS, eM, eA]; rfl) ?_
             simp [runL]
             apply J.ret
             refine ⟨by simp, rfl, _, [], by simp [a7R]; rfl, ?_⟩
             simp [eS, eM, eA]
            ·
             try simp only [g128]
             try simp at g128
             iterate 5 refine runL_step rfl (by simp [eS, eM, eA]; rfl) ?_
             simp [runL]
             apply J.ret
             refine ⟨by simp, rfl, _, [], by simp [a7R]; rfl, ?_⟩
             simp [eS, eM, eA]
           ·
            try simp only [g125]
            try simp at g125
            iterate 8 refine runL_step rfl (by simp [eS, eM, eA]; rfl) ?_
            simp [runL]
            apply J.ret
            refine ⟨by simp, rfl, _, [], by simp [a7R]; rfl, ?_⟩
            simp [eS, eM, eA]
          ·
           try simp only [g122]
           try simp at g122
           iterate 11 refine runL_step rfl (by simp [eS, eM, eA]; rfl) ?_
           simp [runL]
           apply J.ret
           refine ⟨by simp, rfl, _, [], by simp [a7R]; rfl, ?_⟩
           simp [eS, eM, eA]
         ·
          try simp only [g102]
          try simp at g102
          iterate 4 refine runL_step rfl (by simp [eS, eM, eA]; rfl) ?_
          simp [runL]
          apply J.seq
          apply J.reg
          iterate 2 refine runL_step rfl (by simp [eS, eM, eA]; rfl) ?_
          refine runL_tree rfl (h20) (by simp) hc ?_
          simp
          iterate 3 refine runL_step rfl (by simp [eS, eM, eA]; rfl) ?_
          refine runL_do (by simp) ?_
          refine runL_tree rfl (h20) (by simp) hc ?_
          simp
          iterate 4 refine runL_step rfl (by simp [eS, eM, eA]; rfl) ?_
          refine runL_do (by simp) ?_
          refine runL_tree rfl (h20) (by simp) hc ?_
          simp
          iterate 16 refine runL_step rfl (by simp [eS, eM, eA]; rfl) ?_
          simp [runL]
          apply J.ret
          refine ⟨by simp, rfl, _, [], by simp [a7R]; rfl, ?_⟩
          simp [eS, eM, eA]
        ·
         try simp only [g97]
         try simp at g97
         iterate 9 refine runL_step rfl (by simp [eS, eM, eA]; rfl) ?_
         simp [runL]
         apply J.seq
         apply J.reg
         iterate 2 refine runL_step rfl (by simp [eS, eM, eA]; rfl) ?_
         refine runL_tree rfl (h20) (by simp) hc ?_
         simp
         iterate 3 refine runL_step rfl (by simp [eS, eM, eA]; rfl) ?_
         refine runL_do (by simp) ?_
         refine runL_tree rfl (h20) (by simp) hc ?_
         simp
         iterate 4 refine runL_step rfl (by simp [eS, eM, eA]; rfl) ?_
         refine runL_do (by simp) ?_
         refine runL_tree rfl (h20) (by simp) hc ?_
         simp
         iterate 16 refine runL_step rfl (by simp [eS, eM, eA]; rfl) ?_
         simp [runL]
         apply J.ret
         refine ⟨by simp, rfl, _, [], by simp [a7R]; rfl, ?_⟩
         simp [eS, eM, eA]
      ·
       try simp only [g51]
       try simp at g51
       iterate 4 refine runL_step rfl (by simp [eS, eM, eA]; rfl) ?_
       simp [runL]
       apply J.cond; simp [eS, eM, eA]
       apply J.seq
       refine J.regE (by simp [eS, eM, eA]; rfl) ?_
       simp
       apply J.ret
       refine ⟨by simp, rfl, _, [], by simp [a7R]; rfl, ?_⟩
       simp [eS, eM, eA]
     ·
      try simp only [g47]
      try simp at g47
      iterate 8 refine runL_step rfl (by simp [eS, eM, eA]; rfl) ?_
      simp [runL]
      apply J.cond; simp [eS, eM, eA]
      apply J.seq
      refine J.regE (by simp [eS, eM, eA]; rfl) ?_
      simp
      apply J.ret
      refine ⟨by simp, rfl, _, [], by simp [a7R]; rfl, ?_⟩
      simp [eS, eM, eA]
    ·
     try simp only [g43]
     try simp at g43
     iterate 12 refine runL_step rfl (by simp [eS, eM, eA]; rfl) ?_
     simp [runL]
     apply J.cond; simp [eS, eM, eA]
     apply J.seq
     refine J.regE (by simp [eS, eM, eA]; rfl) ?_
     simp
     apply J.ret
     refine ⟨by simp, rfl, _, [], by simp [a7R]; rfl, ?_⟩
     simp [eS, eM, eA]
   ·
    try simp only [g38]
    try simp at g38
    iterate 17 refine runL_step rfl (by simp [eS, eM, eA]; rfl) ?_
    simp [runL]
    apply J.cond; simp [eS, eM, eA]
    apply J.seq
    refine J.regE (by simp [eS, eM, eA]; rfl) ?_
    simp
    apply J.ret
    refine ⟨by simp, rfl, _, [], by simp [a7R]; rfl, ?_⟩
    simp [eS, eM, eA]
  ·
   try simp only [g33]
   try simp at g33
   refine runL_pass (b := _) rfl (by simp) ?_
   simp
   iterate 21 refine runL_step rfl (by simp [eS, eM, eA]; rfl) ?_
   simp [runL]
   apply J.cond; simp [eS, eM, eA]
   apply J.seq
   refine J.regE (by simp [eS, eM, eA]; rfl) ?_
   simp
   apply J.ret
   refine ⟨by simp, rfl, _, [], by simp [a7R]; rfl, ?_⟩
   simp [eS, eM, eA]
 ·
  try simp only [g28]
  try simp at g28
  refine runL_pass (b := _) rfl (by simp) ?_
  simp
  iterate 4 refine runL_step rfl (by simp [eS, eM, eA]; rfl) ?_
  refine runL_pass (b := _) rfl (by simp) ?_
  simp
  iterate 21 refine runL_step rfl (by simp [eS, eM, eA]; rfl) ?_
  simp [runL]
  apply J.cond; simp [eS, eM, eA]
  apply J.seq
  refine J.regE (by simp [eS, eM, eA]; rfl) ?_
  simp
  apply J.ret
  refine ⟨by simp, rfl, _, [], by simp [a7R]; rfl, ?_⟩
  simp [eS, eM, eA]
end Go.Proofs.YtadbdchbdjkcdaaGreatDoor.F
