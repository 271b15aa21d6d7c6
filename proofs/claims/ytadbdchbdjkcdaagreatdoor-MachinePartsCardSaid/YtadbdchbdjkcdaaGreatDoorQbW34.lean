/- The walk of LawMachineParts. -/
import Derived.Test.YtadbdchbdjkcdaaGreatDoorQb11
set_option linter.unusedVariables false
set_option linter.unusedSimpArgs false
namespace Go.Proofs.YtadbdchbdjkcdaaGreatDoor.F
open Go Go.SX
def a6r0 : AC := .reg [oI 3 (.box 6003 27 2 (.s 0)), oI 6 (.mov (.c (.lit (.bool false))))] [1, 2, 3]
def a6r1 : AC := .reg [oI 18 (.callv (.c (.fn 10 [])) []), oI 7 (.mov (.s 18))] [1, 2, 3, 7]
def a6r2 : AC := .reg [oI 19 (.load 2 true (.s 3)), oI 20 (.callv (.c (.fn 16 [])) [(.s 19)]), oI 8 (.mov (.s 20))] [1, 2, 3, 7, 8]
def a6r3 : AC := .reg [oI 21 (.mov (.s 7)), oI 22 (.not (.s 21)), oI 23 (.mov (.s 22)), oG 24 23 false (.mov (.s 8)), oG 25 23 false (.not (.s 24)), oI 26 (.pick (.s 23) (.c (.lit (.bool true))) (.s 25)), oI 27 (.mov (.s 26)), oG 28 27 false (.mov (.s 1)), oG 29 27 false (.len (.s 28)), oG 30 27 false (.iop .gtr (.s 29) (.c (.lit (.int .i64 80)))), oI 31 (.pick (.s 27) (.c (.lit (.bool true))) (.s 30)), oI 32 (.mov (.s 31)), oG 33 32 false (.mov (.s 2)), oG 34 32 false (.iop .lss (.s 33) (.c (.lit (.int .i64 0)))), oI 35 (.pick (.s 32) (.c (.lit (.bool true))) (.s 34)), oI 36 (.mov (.s 35)), oG 37 36 false (.mov (.s 2)), oG 38 36 false (.mov (.s 1)), oG 39 36 false (.len (.s 38)), oG 40 36 false (.iop .gtr (.s 37) (.s 39)), oI 41 (.pick (.s 36) (.c (.lit (.bool true))) (.s 40))] [1, 2, 3, 7, 41]
def a6r4 : AC := .reg [oI 42 (.mov (.s 7)), oI 6 (.mov (.s 42))] [6]
def a6r5 : AC := .reg [oI 44 (.load 2 true (.s 3)), oI 45 (.mov (.s 1)), oI 46 (.callv (.c (.fn 11 [])) [(.s 44), (.s 45)]), oI 43 (.mov (.s 46)), oI 47 (.extract 0 (.s 43)), oI 48 (.extract 1 (.s 43)), oI 9 (.alloc 6009 27 [(.nils 4), (.nils 3)]), oN (.store 2 (.s 9) (.s 47)), oI 10 (.mov (.s 48))] [1, 2, 3, 9, 10]
def a6r6 : AC := .draw [7, 6011, 11025] (.take 0 (oI 50 (.load 2 true (.s 3))) <| .take 1 (oI 51 (.mov (.s 1))) <| .take 2 (oI 52 (.mov (.s 2))) <| .take 3 (oI 53 (.slice 6 (.s 51) none (some (.s 52)))) <| .alt 4 (oI 54 (.callv (.c (.fn 11 [])) [(.s 50), (.s 53)])) (.take 5 (oI 49 (.mov (.s 54))) <| .take 6 (oI 55 (.extract 0 (.s 49))) <| .take 7 (oI 56 (.extract 1 (.s 49))) <| .alt 8 (oI 11 (.alloc 6011 27 [(.nils 4), (.nils 3)])) ( .alt 9 (oN (.store 2 (.s 11) (.s 55))) ( .take 10 (oI 12 (.mov (.s 56))) <| .done) .done) .done) (.alt 8 (oI 11 (.alloc 6011 27 [(.nils 4), (.nils 3)])) (.alt 4 (oI 54 (.callv (.c (.fn 11 [])) [(.s 50), (.s 53)])) ( .take 5 (oI 49 (.mov (.s 54))) <| .take 6 (oI 55 (.extract 0 (.s 49))) <| .take 7 (oI 56 (.extract 1 (.s 49))) <| .alt 9 (oN (.store 2 (.s 11) (.s 55))) ( .take 10 (oI 12 (.mov (.s 56))) <| .done) .done) .done) (.done))) [1, 2, 9, 10, 11, 12]
def a6r7 : AC := .draw [7, 6013] (.take 0 (oI 58 (.load 2 true (.s 11))) <| .take 1 (oI 59 (.mov (.s 1))) <| .take 2 (oI 60 (.mov (.s 2))) <| .take 3 (oI 61 (.slice 6 (.s 59) (some (.s 60)) none)) <| .alt 4 (oI 62 (.callv (.c (.fn 11 [])) [(.s 58), (.s 61)])) (.take 5 (oI 57 (.mov (.s 62))) <| .take 6 (oI 63 (.extract 0 (.s 57))) <| .take 7 (oI 64 (.extract 1 (.s 57))) <| .alt 8 (oI 13 (.alloc 6013 27 [(.nils 4), (.nils 3)])) ( .alt 9 (oN (.store 2 (.s 13) (.s 63))) ( .take 10 (oI 14 (.mov (.s 64))) <| .done) .done) .done) (.alt 8 (oI 13 (.alloc 6013 27 [(.nils 4), (.nils 3)])) (.alt 4 (oI 62 (.callv (.c (.fn 11 [])) [(.s 58), (.s 61)])) ( .take 5 (oI 57 (.mov (.s 62))) <| .take 6 (oI 63 (.extract 0 (.s 57))) <| .take 7 (oI 64 (.extract 1 (.s 57))) <| .alt 9 (oN (.store 2 (.s 13) (.s 63))) ( .take 10 (oI 14 (.mov (.s 64))) <| .done) .done) .done) (.done))) [1, 2, 9, 10, 11, 12, 13, 14]
def a6r8 : AC := .reg [oI 65 (.mov (.s 12)), oI 66 (.mov (.s 14)), oI 67 (.append 6067 39 3 32 (.s 65) (.s 66)), oI 12 (.mov (.s 67))] [1, 2, 9, 10, 11, 12, 13]
def a6r9 : AC := .reg [oI 68 (.mov (.s 10)), oI 69 (.mov (.s 12)), oI 70 (.callv (.c (.fn 14 [])) [(.s 68), (.s 69)]), oI 15 (.mov (.s 70))] [1, 2, 9, 11, 13, 15]
def a6r10 : AC := .reg [oI 71 (.mov (.s 2)), oI 72 (.mov (.s 1)), oI 73 (.len (.s 72)), oI 74 (.iop .lss (.s 71) (.s 73))] [1, 2, 9, 11, 13, 15, 74]
def a6r11 : AC := .draw [7, 6016, 6017] (.take 0 (oI 76 (.load 2 true (.s 11))) <| .take 1 (oI 77 (.mov (.s 1))) <| .take 2 (oI 78 (.mov (.s 2))) <| .take 3 (oI 79 (.iaddr 6 (.s 77) (.s 78))) <| .alt 4 (oI 80 (.load 6 true (.s 79))) (.alt 5 (oI 81 (.callv (.c (.fn 17 [])) [(.s 76), (.s 80)])) (.take 6 (oI 75 (.mov (.s 81))) <| .take 7 (oI 82 (.extract 0 (.s 75))) <| .take 8 (oI 83 (.extract 1 (.s 75))) <| .alt 9 (oI 16 (.alloc 6016 27 [(.nils 4), (.nils 3)])) (.alt 10 (oI 17 (.alloc 6017 39 [(.lit (.int .i64 0)), (.lit (.int .i64 0)), (.lit (.string ⟨#[]⟩))])) ( .alt 11 (oN (.store 2 (.s 16) (.s 82))) ( .alt 12 (oN (.store 3 (.s 17) (.s 83))) ( .done) .done) .done) .done) (.alt 10 (oI 17 (.alloc 6017 39 [(.lit (.int .i64 0)), (.lit (.int .i64 0)), (.lit (.string ⟨#[]⟩))])) (.alt 9 (oI 16 (.alloc 6016 27 [(.nils 4), (.nils 3)])) ( .alt 11 (oN (.store 2 (.s 16) (.s 82))) ( .alt 12 (oN (.store 3 (.s 17) (.s 83))) ( .done) .done) .done) .done) (.done))) (.alt 9 (oI 16 (.alloc 6016 27 [(.nils 4), (.nils 3)])) (.alt 5 (oI 81 (.callv (.c (.fn 17 [])) [(.s 76), (.s 80)])) (.take 6 (oI 75 (.mov (.s 81))) <| .take 7 (oI 82 (.extract 0 (.s 75))) <| .take 8 (oI 83 (.extract 1 (.s 75))) <| .alt 10 (oI 17 (.alloc 6017 39 [(.lit (.int .i64 0)), (.lit (.int .i64 0)), (.lit (.string ⟨#[]⟩))])) ( .alt 11 (oN (.store 2 (.s 16) (.s 82))) ( .alt 12 (oN (.store 3 (.s 17) (.s 83))) ( .done) .done) .done) .done) (.alt 10 (oI 17 (.alloc 6017 39 [(.lit (.int .i64 0)), (.lit (.int .i64 0)), (.lit (.string ⟨#[]⟩))])) (.alt 5 (oI 81 (.callv (.c (.fn 17 [])) [(.s 76), (.s 80)])) ( .take 6 (oI 75 (.mov (.s 81))) <| .take 7 (oI 82 (.extract 0 (.s 75))) <| .take 8 (oI 83 (.extract 1 (.s 75))) <| .alt 11 (oN (.store 2 (.s 16) (.s 82))) ( .alt 12 (oN (.store 3 (.s 17) (.s 83))) ( .done) .done) .done) .done) (.done))) (.alt 10 (oI 17 (.alloc 6017 39 [(.lit (.int .i64 0)), (.lit (.int .i64 0)), (.lit (.string ⟨#[]⟩))])) (.alt 5 (oI 81 (.callv (.c (.fn 17 [])) [(.s 76), (.s 80)])) (.take 6 (oI 75 (.mov (.s 81))) <| .take 7 (oI 82 (.extract 0 (.s 75))) <| .take 8 (oI 83 (.extract 1 (.s 75))) <| .alt 9 (oI 16 (.alloc 6016 27 [(.nils 4), (.nils 3)])) ( .alt 11 (oN (.store 2 (.s 16) (.s 82))) ( .alt 12 (oN (.store 3 (.s 17) (.s 83))) ( .done) .done) .done) .done) (.alt 9 (oI 16 (.alloc 6016 27 [(.nils 4), (.nils 3)])) (.alt 5 (oI 81 (.callv (.c (.fn 17 [])) [(.s 76), (.s 80)])) ( .take 6 (oI 75 (.mov (.s 81))) <| .take 7 (oI 82 (.extract 0 (.s 75))) <| .take 8 (oI 83 (.extract 1 (.s 75))) <| .alt 11 (oN (.store 2 (.s 16) (.s 82))) ( .alt 12 (oN (.store 3 (.s 17) (.s 83))) ( .done) .done) .done) .done) (.done))) (.done)))) (.alt 9 (oI 16 (.alloc 6016 27 [(.nils 4), (.nils 3)])) (.alt 4 (oI 80 (.load 6 true (.s 79))) (.alt 5 (oI 81 (.callv (.c (.fn 17 [])) [(.s 76), (.s 80)])) (.take 6 (oI 75 (.mov (.s 81))) <| .take 7 (oI 82 (.extract 0 (.s 75))) <| .take 8 (oI 83 (.extract 1 (.s 75))) <| .alt 10 (oI 17 (.alloc 6017 39 [(.lit (.int .i64 0)), (.lit (.int .i64 0)), (.lit (.string ⟨#[]⟩))])) ( .alt 11 (oN (.store 2 (.s 16) (.s 82))) ( .alt 12 (oN (.store 3 (.s 17) (.s 83))) ( .done) .done) .done) .done) (.alt 10 (oI 17 (.alloc 6017 39 [(.lit (.int .i64 0)), (.lit (.int .i64 0)), (.lit (.string ⟨#[]⟩))])) (.alt 5 (oI 81 (.callv (.c (.fn 17 [])) [(.s 76), (.s 80)])) ( .take 6 (oI 75 (.mov (.s 81))) <| .take 7 (oI 82 (.extract 0 (.s 75))) <| .take 8 (oI 83 (.extract 1 (.s 75))) <| .alt 11 (oN (.store 2 (.s 16) (.s 82))) ( .alt 12 (oN (.store 3 (.s 17) (.s 83))) ( .done) .done) .done) .done) (.done))) (.alt 10 (oI 17 (.alloc 6017 39 [(.lit (.int .i64 0)), (.lit (.int .i64 0)), (.lit (.string ⟨#[]⟩))])) (.alt 4 (oI 80 (.load 6 true (.s 79))) ( .alt 5 (oI 81 (.callv (.c (.fn 17 [])) [(.s 76), (.s 80)])) ( .take 6 (oI 75 (.mov (.s 81))) <| .take 7 (oI 82 (.extract 0 (.s 75))) <| .take 8 (oI 83 (.extract 1 (.s 75))) <| .alt 11 (oN (.store 2 (.s 16) (.s 82))) ( .alt 12 (oN (.store 3 (.s 17) (.s 83))) ( .done) .done) .done) .done) .done) (.done))) (.alt 10 (oI 17 (.alloc 6017 39 [(.lit (.int .i64 0)), (.lit (.int .i64 0)), (.lit (.string ⟨#[]⟩))])) (.alt 4 (oI 80 (.load 6 true (.s 79))) (.alt 5 (oI 81 (.callv (.c (.fn 17 [])) [(.s 76), (.s 80)])) (.take 6 (oI 75 (.mov (.s 81))) <| .take 7 (oI 82 (.extract 0 (.s 75))) <| .take 8 (oI 83 (.extract 1 (.s 75))) <| .alt 9 (oI 16 (.alloc 6016 27 [(.nils 4), (.nils 3)])) ( .alt 11 (oN (.store 2 (.s 16) (.s 82))) ( .alt 12 (oN (.store 3 (.s 17) (.s 83))) ( .done) .done) .done) .done) (.alt 9 (oI 16 (.alloc 6016 27 [(.nils 4), (.nils 3)])) (.alt 5 (oI 81 (.callv (.c (.fn 17 [])) [(.s 76), (.s 80)])) ( .take 6 (oI 75 (.mov (.s 81))) <| .take 7 (oI 82 (.extract 0 (.s 75))) <| .take 8 (oI 83 (.extract 1 (.s 75))) <| .alt 11 (oN (.store 2 (.s 16) (.s 82))) ( .alt 12 (oN (.store 3 (.s 17) (.s 83))) ( .done) .done) .done) .done) (.done))) (.alt 9 (oI 16 (.alloc 6016 27 [(.nils 4), (.nils 3)])) (.alt 4 (oI 80 (.load 6 true (.s 79))) ( .alt 5 (oI 81 (.callv (.c (.fn 17 [])) [(.s 76), (.s 80)])) ( .take 6 (oI 75 (.mov (.s 81))) <| .take 7 (oI 82 (.extract 0 (.s 75))) <| .take 8 (oI 83 (.extract 1 (.s 75))) <| .alt 11 (oN (.store 2 (.s 16) (.s 82))) ( .alt 12 (oN (.store 3 (.s 17) (.s 83))) ( .done) .done) .done) .done) .done) (.done))) (.done)))) [9, 11, 13, 15, 16, 17]
def a6r12 : AC := .reg [oI 84 (.faddr 1 (.s 11)), oI 85 (.load 1 false (.s 84)), oI 86 (.faddr 1 (.s 16)), oN (.store 1 (.s 86) (.s 85))] [9, 11, 13, 15, 16, 17]
def a6r13 : AC := .reg [oI 87 (.faddr 0 (.s 17)), oI 88 (.load 1 false (.s 87)), oI 89 (.iop .neq (.s 88) (.c (.lit (.int .i64 0)))), oI 90 (.mov (.s 89)), oG 91 90 true (.load 2 true (.s 16)), oG 92 90 true (.load 2 true (.s 11)), oG 93 90 true (.callv (.c (.fn 20 [])) [(.s 91), (.s 92)]), oG 94 90 true (.not (.s 93)), oI 95 (.pick (.s 90) (.s 94) (.c (.lit (.bool false))))] [9, 13, 15, 95]
def a6r14 : AC := .reg [oI 6 (.mov (.c (.lit (.bool false))))] [6]
def a6r15 : AC := .reg [oI 96 (.mov (.s 15)), oI 97 (.mov (.s 96)), oG 98 97 true (.load 2 true (.s 9)), oG 99 97 true (.load 2 true (.s 13)), oG 100 97 true (.callv (.c (.fn 20 [])) [(.s 98), (.s 99)]), oI 101 (.pick (.s 97) (.s 100) (.c (.lit (.bool false)))), oI 6 (.mov (.s 101))] [6]
def a6 : AC := .seq a6r0 (.seq a6r1 (.seq a6r2 (.seq (.seq a6r3 (.cond (.s 41) (.seq a6r4 (.ret)) (.skip))) (.seq a6r5 (.seq a6r6 (.seq a6r7 (.seq a6r8 (.seq a6r9 (.seq (.seq a6r10 (.cond (.s 74) (.seq a6r11 (.seq a6r12 (.seq a6r13 (.cond (.s 95) (.seq a6r14 (.ret)) (.skip))))) (.skip))) (.seq a6r15 (.ret)))))))))))
def a6R : List RD := [.tmp 6]
end Go.Proofs.YtadbdchbdjkcdaaGreatDoor.F
namespace Go.Proofs.YtadbdchbdjkcdaaGreatDoor.F
open Go Go.SX
theorem run_append : ∀ (s : Sta) (a b : List Cmd), runS s (a ++ b) = ((runS (runS s a).1 b).1, (runS s a).2 ++ (runS (runS s a).1 b).2)
 | s, [], b => rfl
 | s, m :: r, b => by simp [runS, run_append (applyS s m).1 r b]
theorem chanS_err {s : Sta} {r : Room} {q : Chan × Int} (h : q.2 ≠ 0) : chanS s r q = s := by unfold chanS keepS; rw [if_neg h]
theorem saidS_err {s : Sta} {r : Room} {q : List Post × Int} (h : q.2 ≠ 0) : saidS s r q = s := by unfold saidS keepS; rw [if_neg h]
theorem doQ_err {s : Sta} {m : Cmd} {r : Room} (h : (doQ s m r).2.1.e ≠ 0) : (doQ s m r).1 = s := by
 unfold doQ at h ⊢
 repeat' split
 all_goals simp only [*, if_true, if_false] at h
 all_goals first | rfl | (exfalso; simp at h; done) | (simp at h; exact chanS_err h) | (simp at h; exact saidS_err h)
theorem does_err {s : Sta} {m : Cmd} (h : (doesS s m).2.e ≠ 0) : (doesS s m).1 = s := by
 unfold doesS at h ⊢
 split
 ·rename_i r hr
  rw [hr] at h
  simp only at h
  split
  ·rfl
  ·rename_i h1
   rw [if_neg h1] at h
   split
   ·rfl
   ·rename_i h2
    rw [if_neg h2] at h
    exact doQ_err h
 ·rename_i hr
  rw [hr] at h
  simp only at h
  split
  ·rename_i h1
   rw [if_pos h1] at h
   exact doQ_err h
  ·rfl
theorem apply_err_rooms {s : Sta} {m : Cmd} (h : (applyS s m).2.e ≠ 0) : (applyS s m).1.rooms = s.rooms := by
 unfold applyS at h ⊢
 split
 ·rfl
 ·rename_i h1
  rw [if_neg h1] at h
  split
  ·rfl
  ·rename_i h2
   rw [if_neg h2] at h
   split
   ·rfl
   ·rename_i h3
    rw [if_neg h3] at h
    split
    ·rfl
    ·rename_i h4
     rw [if_neg h4] at h
     simp only [withP]
     rw [does_err h]
theorem eMs_takeD (l : List Cmd) (k : Nat) : (eMs l).take k = eMs (l.take k) := by simp [eMs, List.map_take]
theorem eMs_dropD (l : List Cmd) (k : Nat) : (eMs l).drop k = eMs (l.drop k) := by simp [eMs, List.map_drop]
theorem eAs_app (a b : List Ans) : eAs (a ++ b) = eAs a ++ eAs b := by simp [eAs]
theorem c6 : chkFn Tryz.prog 6 102 3 a6 a6R = true := by kernel_rfl
theorem d6 (s : Sta) (l : List Cmd) (cut : Int) (hb : Big s) (hl : l.length ≤ 9223372036854775807) : DoesT 6 [.agg (eS s), .ro 6 (eMs l), iv cut] (bv true) := by
 have h16 := d16 s hb
 obtain ⟨A0, hA0⟩ : ∃ A, fewS s = A := ⟨_, rfl⟩
 rw [hA0] at h16
 refine Does.of (nt := 102) (ac := a6) (rds := a6R) c6 (fun c hc => ?_)
 unfold a6
 apply J.seq
 refine J.regE (by simp [eS, eM, eA]; rfl) ?_
 simp
 apply J.seq
 apply J.reg
 refine runL_tree rfl (d10) (by simp) hc ?_
 simp
 refine runL_step rfl (by simp [eS, eM, eA]; rfl) ?_
 simp [runL]
 apply J.seq
 apply J.reg
 refine runL_step rfl (by simp [eS, eM, eA]; rfl) ?_
 refine runL_tree rfl (h16) (by simp) hc ?_
 simp
 refine runL_step rfl (by simp [eS, eM, eA]; rfl) ?_
 simp [runL]
 apply J.seq
 apply J.seq
 apply J.reg
 iterate 7 refine runL_step rfl (by simp [eS, eM, eA]; rfl) ?_
 refine runL_if rfl (fun g27 => ?_) (fun g27 => ?_)
 ·
  try simp only [g27]
  try simp at g27
  iterate 5 refine runL_step rfl (by simp [eS, eM, eA]; rfl) ?_
  refine runL_if rfl (fun g32 => ?_) (fun g32 => ?_)
  ·
   try simp only [g32]
   try simp at g32
   iterate 4 refine runL_step rfl (by simp [eS, eM, eA]; rfl) ?_
   refine runL_if rfl (fun g36 => ?_) (fun g36 => ?_)
   ·
    try simp only [g36]
    try simp at g36
    iterate 5 refine runL_step rfl (by simp [eS, eM, eA]; rfl) ?_
    simp [runL]
    refine J.condB rfl (fun h41 => ?_) (fun h41 => ?_)
    ·
     simp at h41
     apply J.seq
     refine J.regE (by simp [eS, eM, eA]; rfl) ?_
     simp
     apply J.ret
     refine ⟨by simp, rfl, _, [], by simp [a6R]; rfl, ?_⟩
     simp
    ·
     simp at h41
     subst g27
     have hfs := few_fit hA0
     obtain ⟨k, rfl⟩ : ∃ k : Nat, cut = (k : Int) := ⟨cut.toNat, by omega⟩
     have hk : k ≤ l.length := by omega
     have h11 := d11 s l (n := 50) (by omega) (by omega) hfs
     have hR := run_append s (l.take k) (l.drop k)
     rw [List.take_append_drop] at hR
     have h11a := d11o s (l.take k) (n := 50) (by simp; omega) (by omega) hfs
     have hf1 := run_fit (l := l.take k) hfs (by omega)
     have hn1 := run_len (l.take k) s
     generalize hQ1 : runS s (l.take k) = q1 at hR h11a hf1 hn1
     obtain ⟨t1, a1⟩ := q1
     have hf1 : FitS 200 t1 := fit_mono (by simp; omega) hf1
     have h11b := d11 t1 (l.drop k) (n := 200) (by simp; omega) (by omega) hf1
     have hn2 := run_len (l.drop k) t1
     generalize hQ2 : runS t1 (l.drop k) = q2 at hR h11b hn2
     obtain ⟨t2, a2⟩ := q2
     simp only at hR h11a h11b hn1 hn2
     rw [hR] at h11
     simp only at h11
     have hk1 : (0 : Int) ≤ (k : Int) := by omega
     have hk2 : (k : Int) ≤ (l.length : Int) := by omega
     have hk3 : k ≤ (eMs l).length := by simp; omega
     have hk4 : (eMs l).take l.length = eMs l := List.take_of_length_le (by simp)
     apply J.skip; simp
     apply J.seq
     apply J.reg
     iterate 2 refine runL_step rfl (by simp [eS, eM, eA]; rfl) ?_
     refine runL_tree rfl (h11) (by simp) hc ?_
     simp
     iterate 6 refine runL_step rfl (by simp [eS, eM, eA]; rfl) ?_
     simp [runL]
     apply J.seq
     refine J.to hc ⟨[(1, .ro 6 (eMs l)), (2, iv (k : Nat)), (9, .ptr 6009 0 0 0), (10, .ro 3 (eAs (a1 ++ a2))), (11, .ptr 6011 0 0 0), (12, .own 11025 3 0 a1.length)], [(6003, .obj 27 (eS s)), (6009, .obj 27 (eS t2)), (6011, .obj 27 (eS t1)), (11025, .arr 39 3 (eAs a1))], []⟩ ?_ ?_
     ·refine J.drawT rfl hc (fun c' hs' hc' => ?_)
      repeat' (first
       | (show runP _ _ _ _ (.take _ _ _) _ _; refine runP_stepQ (by simp [eS, eMs_takeD, eMs_dropD, hk1, hk2, hk3, hk4]; rfl) ?_)
       | (show runP _ _ _ _ (.alt _ ⟨_, none, .callv _ _⟩ _ .done) _ _; refine runP_callT [] [] rfl rfl (by simp; exact h11a) (by simp) (by simp) (by simp) (by simp) hs' ?_; rintro _ _ ⟨rfl, rfl⟩; refine ⟨by simp, ?_⟩; simp)
       | (show runP _ _ _ _ (.alt _ _ _ .done) _ _; refine runP_one rfl (by simp) (by simp [eS, eMs_takeD, eMs_dropD, hk1, hk2, hk3, hk4]; rfl) ?_)
       | refine runP_or ?_ ?_)
      all_goals (first | refine le_subF ?_ ?_ ?_ ?_ rfl ?_ | refine ⟨rfl, le_subF ?_ ?_ ?_ ?_ rfl ?_⟩) <;> (repeat' (first | exact trivial | exact rfl | refine ⟨?_, ?_⟩))
     simp
     apply J.seq
     refine J.to hc ⟨[(1, .ro 6 (eMs l)), (2, iv (k : Nat)), (9, .ptr 6009 0 0 0), (10, .ro 3 (eAs (a1 ++ a2))), (11, .ptr 6011 0 0 0), (12, .own 11025 3 0 a1.length), (13, .ptr 6013 0 0 0), (14, .ro 3 (eAs a2))], [(6003, .obj 27 (eS s)), (6009, .obj 27 (eS t2)), (6011, .obj 27 (eS t1)), (6013, .obj 27 (eS t2)), (11025, .arr 39 3 (eAs a1))], []⟩ ?_ ?_
     ·refine J.drawT rfl hc (fun c' hs' hc' => ?_)
      repeat' (first
       | (show runP _ _ _ _ (.take _ _ _) _ _; refine runP_stepQ (by simp [eS, eMs_takeD, eMs_dropD, hk1, hk2, hk3, hk4]; rfl) ?_)
       | (show runP _ _ _ _ (.alt _ ⟨_, none, .callv _ _⟩ _ .done) _ _; refine runP_treeT rfl (h11b) (by simp) hs' ?_; simp)
       | (show runP _ _ _ _ (.alt _ _ _ .done) _ _; refine runP_one rfl (by simp) (by simp [eS, eMs_takeD, eMs_dropD, hk1, hk2, hk3, hk4]; rfl) ?_)
       | refine runP_or ?_ ?_)
      all_goals (first | refine le_subF ?_ ?_ ?_ ?_ rfl ?_ | refine ⟨rfl, le_subF ?_ ?_ ?_ ?_ rfl ?_⟩) <;> (repeat' (first | exact trivial | exact rfl | refine ⟨?_, ?_⟩))
     simp
     apply J.seq
     refine J.regE (by simp [eS, eM, eA, show (a1.length + a2.length) * 32 ≤ 140737488355328 from by (have h1 := hn1; have h2 := hn2; simp at h1 h2; omega)]; rfl) ?_
     simp
     apply J.seq
     refine J.le hc (show St.le _ ⟨[(1, .ro 6 (eMs l)), (2, iv (k : Nat)), (9, .ptr 6009 0 0 0), (10, .ro 3 (eAs (a1 ++ a2))), (11, .ptr 6011 0 0 0), (12, .ro 3 (eAs (a1 ++ a2))), (13, .ptr 6013 0 0 0)], [(6003, .obj 27 (eS s)), (6009, .obj 27 (eS t2)), (6011, .obj 27 (eS t1)), (6013, .obj 27 (eS t2))], []⟩ from ?_) ?_
     ·refine St.le_trans (le_freeze _ 11025 rfl) ?_
      simp
      apply le_sub <;> simp [eS, eAs_app, eAs_take, show (eAs a1 ++ eAs a2).take (a1.length + a2.length) = eAs a1 ++ eAs a2 from List.take_of_length_le (by simp)]
     have h14 := d14 (a1 ++ a2) (a1 ++ a2) (by simp; have h1 := hn1; have h2 := hn2; simp at h1 h2; omega) (by simp; have h1 := hn1; have h2 := hn2; simp at h1 h2; omega)
     rw [eqB_refl] at h14
     have hf2 : FitS 400 t2 := by have := run_fit (l := l.drop k) hf1 (by omega); rw [hQ2] at this; exact fit_mono (by simp; omega) this
     have h20b := d20 t2 t2 (n := 400) (by omega) hf2 hf2
     rw [eqB_refl] at h20b
     have h20a := d20 t1 t1 (n := 200) (by omega) hf1 hf1
     rw [eqB_refl] at h20a
     apply J.reg
     iterate 2 refine runL_step rfl (by simp [eS, eM, eA]; rfl) ?_
     refine runL_tree rfl (h14) (by simp) hc ?_
     simp
     refine runL_step rfl (by simp [eS, eM, eA]; rfl) ?_
     simp [runL]
     apply J.seq
     apply J.seq
     refine J.regE (by simp [eS, eM, eA]; rfl) ?_
     simp
     refine J.condB rfl (fun h74 => ?_) (fun h74 => ?_)
     ·
      simp at h74
      obtain ⟨x, hx, hgx, hg, hge, hdr, hw, hlt2, hset, hxm⟩ := getMm (show k < l.length by omega) (by omega)
      simp only [eM] at hg hge
      have h17 := d17 t1 x (n := 200) (by omega) hf1
      generalize hQ3 : applyS t1 x = q3 at h17
      obtain ⟨t3, a3⟩ := q3
      simp only at h17
      apply J.seq
      refine J.to hc ⟨[(9, .ptr 6009 0 0 0), (11, .ptr 6011 0 0 0), (13, .ptr 6013 0 0 0), (15, bv true), (16, .ptr 6016 0 0 0), (17, .ptr 6017 0 0 0)], [(6009, .obj 27 (eS t2)), (6011, .obj 27 (eS t1)), (6013, .obj 27 (eS t2)), (6016, .obj 27 (eS t3)), (6017, .obj 39 (eA a3))], []⟩ ?_ ?_
      ·refine J.drawT rfl hc (fun c' hs' hc' => ?_)
       repeat' (first
        | (show runP _ _ _ _ (.take _ _ _) _ _; refine runP_stepQ (by simp [eS, eMs_takeD, eMs_dropD, hk1, hk2, hk3, hk4, eA, eM, hlt2, hg, hge, h74]; rfl) ?_)
        | (show runP _ _ _ _ (.alt _ ⟨_, none, .callv _ _⟩ _ .done) _ _; refine runP_treeT rfl (h17) (by simp) hs' ?_; simp)
        | (show runP _ _ _ _ (.alt _ _ _ .done) _ _; refine runP_one rfl (by simp) (by simp [eS, eMs_takeD, eMs_dropD, hk1, hk2, hk3, hk4, eA, eM, hlt2, hg, hge, h74]; rfl) ?_)
        | refine runP_or ?_ ?_)
       all_goals (first | refine le_subF ?_ ?_ ?_ ?_ rfl ?_ | refine ⟨rfl, le_subF ?_ ?_ ?_ ?_ rfl ?_⟩) <;> (repeat' (first | exact trivial | exact rfl | refine ⟨?_, ?_⟩))
      simp
      apply J.seq
      refine J.regE (by simp [eS, eM, eA]; rfl) ?_
      simp
      apply J.seq
      apply J.reg
      iterate 4 refine runL_step rfl (by simp [eS, eM, eA]; rfl) ?_
      refine runL_if rfl (fun g90 => ?_) (fun g90 => ?_)
      ·
       try simp only [g90]
       try simp at g90
       have hrm : t3.rooms = t1.rooms := by have := apply_err_rooms (s := t1) (m := x) (by rw [hQ3]; exact g90); rw [hQ3] at this; exact this
       simp only [hrm]
       iterate 2 refine runL_step rfl (by simp [eS, eM, eA]; rfl) ?_
       refine runL_do (by simp) ?_
       refine runL_tree rfl (h20a) (by simp) hc ?_
       simp
       iterate 2 refine runL_step rfl (by simp [eS, eM, eA]; rfl) ?_
       simp [runL]
       refine J.condB rfl (fun h95 => ?_) (fun h95 => ?_)
       ·
        simp at h95
       ·
        skip
        apply J.skip; simp
        apply J.seq
        apply J.reg
        iterate 4 refine runL_step rfl (by simp [eS, eM, eA]; rfl) ?_
        refine runL_do (by simp) ?_
        refine runL_tree rfl (h20b) (by simp) hc ?_
        simp
        iterate 2 refine runL_step rfl (by simp [eS, eM, eA]; rfl) ?_
        simp [runL]
        apply J.ret
        refine ⟨by simp, rfl, _, [], by simp [a6R]; rfl, ?_⟩
        simp
      ·
       try simp only [g90]
       try simp at g90
       refine runL_step rfl (by simp [eS, eM, eA]; rfl) ?_
       refine runL_pass (b := _) rfl (by simp) ?_
       simp
       iterate 2 refine runL_step rfl (by simp [eS, eM, eA]; rfl) ?_
       simp [runL]
       apply J.cond; simp [eS, eM, eA]
       apply J.skip; simp
       apply J.seq
       apply J.reg
       iterate 4 refine runL_step rfl (by simp [eS, eM, eA]; rfl) ?_
       refine runL_do (by simp) ?_
       refine runL_tree rfl (h20b) (by simp) hc ?_
       simp
       iterate 2 refine runL_step rfl (by simp [eS, eM, eA]; rfl) ?_
       simp [runL]
       apply J.ret
       refine ⟨by simp, rfl, _, [], by simp [a6R]; rfl, ?_⟩
       simp
     ·
      simp at h74
      apply J.skip; simp
      apply J.seq
      apply J.reg
      iterate 4 refine runL_step rfl (by simp [eS, eM, eA]; rfl) ?_
      refine runL_do (by simp) ?_
      refine runL_tree rfl (h20b) (by simp) hc ?_
      simp
      iterate 2 refine runL_step rfl (by simp [eS, eM, eA]; rfl) ?_
      simp [runL]
      apply J.ret
      refine ⟨by simp, rfl, _, [], by simp [a6R]; rfl, ?_⟩
      simp
   ·
    try simp only [g36]
    try simp at g36
    iterate 4 refine runL_step rfl (by simp [eS, eM, eA]; rfl) ?_
    simp [runL]
    apply J.cond; simp [eS, eM, eA]
    apply J.seq
    refine J.regE (by simp [eS, eM, eA]; rfl) ?_
    simp
    apply J.ret
    refine ⟨by simp, rfl, _, [], by simp [a6R]; rfl, ?_⟩
    simp
  ·
   try simp only [g32]
   try simp at g32
   iterate 8 refine runL_step rfl (by simp [eS, eM, eA]; rfl) ?_
   simp [runL]
   apply J.cond; simp [eS, eM, eA]
   apply J.seq
   refine J.regE (by simp [eS, eM, eA]; rfl) ?_
   simp
   apply J.ret
   refine ⟨by simp, rfl, _, [], by simp [a6R]; rfl, ?_⟩
   simp
 ·
  try simp only [g27]
  try simp at g27
  iterate 13 refine runL_step rfl (by simp [eS, eM, eA]; rfl) ?_
  simp [runL]
  apply J.cond; simp [eS, eM, eA]
  apply J.seq
  refine J.regE (by simp [eS, eM, eA]; rfl) ?_
  simp
  apply J.ret
  refine ⟨by simp, rfl, _, [], by simp [a6R]; rfl, ?_⟩
  simp
end Go.Proofs.YtadbdchbdjkcdaaGreatDoor.F
