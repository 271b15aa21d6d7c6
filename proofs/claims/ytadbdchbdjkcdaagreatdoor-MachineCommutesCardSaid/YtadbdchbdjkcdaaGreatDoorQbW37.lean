/- The walk of LawMachineCommutes. -/
import Derived.Test.YtadbdchbdjkcdaaGreatDoorQb11
set_option linter.unusedVariables false
set_option linter.unusedSimpArgs false
namespace Go.Proofs.YtadbdchbdjkcdaaGreatDoor.F
open Go Go.SX
def a9r0 : AC := .reg [oI 3 (.box 9003 27 2 (.s 0)), oI 4 (.box 9004 36 6 (.s 1)), oI 5 (.box 9005 36 6 (.s 2)), oI 6 (.mov (.c (.lit (.bool false))))] [3, 4, 5]
def a9r1 : AC := .reg [oI 13 (.callv (.c (.fn 10 [])) []), oI 7 (.mov (.s 13))] [3, 4, 5, 7]
def a9r2 : AC := .reg [oI 14 (.load 2 true (.s 3)), oI 15 (.callv (.c (.fn 16 [])) [(.s 14)]), oI 8 (.mov (.s 15))] [3, 4, 5, 7, 8]
def a9r3 : AC := .reg [oI 16 (.mov (.s 7)), oI 17 (.not (.s 16)), oI 18 (.mov (.s 17)), oG 19 18 false (.mov (.s 8)), oG 20 18 false (.not (.s 19)), oI 21 (.pick (.s 18) (.c (.lit (.bool true))) (.s 20)), oI 22 (.mov (.s 21)), oG 23 22 false (.faddr 5 (.s 4)), oG 24 22 false (.load 1 false (.s 23)), oG 25 22 false (.slen (.s 24)), oG 26 22 false (.iop .gtr (.s 25) (.c (.lit (.int .i64 500)))), oI 27 (.pick (.s 22) (.c (.lit (.bool true))) (.s 26)), oI 28 (.mov (.s 27)), oG 29 28 false (.faddr 5 (.s 5)), oG 30 28 false (.load 1 false (.s 29)), oG 31 28 false (.slen (.s 30)), oG 32 28 false (.iop .gtr (.s 31) (.c (.lit (.int .i64 500)))), oI 33 (.pick (.s 28) (.c (.lit (.bool true))) (.s 32)), oI 34 (.mov (.s 33)), oG 35 34 false (.load 6 true (.s 4)), oG 36 34 false (.load 6 true (.s 5)), oG 37 34 false (.callv (.c (.fn 23 [])) [(.s 35), (.s 36)]), oI 38 (.pick (.s 34) (.c (.lit (.bool true))) (.s 37))] [3, 4, 5, 7, 38]
def a9r4 : AC := .reg [oI 39 (.mov (.s 7)), oI 6 (.mov (.s 39))] [6]
def a9r5 : AC := .reg [oI 41 (.load 2 true (.s 3)), oI 42 (.load 6 true (.s 4)), oI 43 (.load 6 true (.s 5)), oI 44 (.bslice 9044 36 6 [(.s 42), (.s 43)]), oI 45 (.callv (.c (.fn 11 [])) [(.s 41), (.s 44)]), oI 40 (.mov (.s 45)), oI 46 (.extract 0 (.s 40)), oI 47 (.extract 1 (.s 40)), oI 9 (.alloc 9009 27 [(.nils 4), (.nils 3)]), oN (.store 2 (.s 9) (.s 46)), oI 10 (.mov (.s 47))] [3, 4, 5, 9, 10]
def a9r6 : AC := .reg [oI 49 (.load 2 true (.s 3)), oI 50 (.load 6 true (.s 5)), oI 51 (.load 6 true (.s 4)), oI 52 (.bslice 9052 36 6 [(.s 50), (.s 51)]), oI 53 (.callv (.c (.fn 11 [])) [(.s 49), (.s 52)]), oI 48 (.mov (.s 53)), oI 54 (.extract 0 (.s 48)), oI 55 (.extract 1 (.s 48)), oI 11 (.alloc 9011 27 [(.nils 4), (.nils 3)]), oN (.store 2 (.s 11) (.s 54)), oI 12 (.mov (.s 55))] [9, 10, 11, 12]
def a9r7 : AC := .reg [oI 56 (.mov (.s 10)), oI 57 (.len (.s 56)), oI 58 (.iop .neq (.s 57) (.c (.lit (.int .i64 2)))), oI 59 (.mov (.s 58)), oG 60 59 false (.mov (.s 12)), oG 61 59 false (.len (.s 60)), oG 62 59 false (.iop .neq (.s 61) (.c (.lit (.int .i64 2)))), oI 63 (.pick (.s 59) (.c (.lit (.bool true))) (.s 62))] [9, 10, 11, 12, 63]
def a9r8 : AC := .reg [oI 6 (.mov (.c (.lit (.bool false))))] [6]
def a9r9 : AC := .draw [] (.take 0 (oI 64 (.load 2 true (.s 9))) <| .take 1 (oI 65 (.load 2 true (.s 11))) <| .alt 2 (oI 66 (.callv (.c (.fn 20 [])) [(.s 64), (.s 65)])) ( .take 3 (oI 67 (.mov (.s 66))) <| .take 4 (oG 68 67 true (.mov (.s 10))) <| .take 5 (oG 69 67 true (.iaddr 3 (.s 68) (.c (.lit (.int .i64 0))))) <| .take 6 (oG 70 67 true (.load 3 true (.s 69))) <| .take 7 (oG 71 67 true (.mov (.s 12))) <| .take 8 (oG 72 67 true (.iaddr 3 (.s 71) (.c (.lit (.int .i64 1))))) <| .take 9 (oG 73 67 true (.load 3 true (.s 72))) <| .take 10 (oG 74 67 true (.seql false [1, 1, 2] (.s 70) (.s 73))) <| .take 11 (oI 75 (.pick (.s 67) (.s 74) (.c (.lit (.bool false))))) <| .take 12 (oI 76 (.mov (.s 75))) <| .take 13 (oG 77 76 true (.mov (.s 10))) <| .take 14 (oG 78 76 true (.iaddr 3 (.s 77) (.c (.lit (.int .i64 1))))) <| .take 15 (oG 79 76 true (.load 3 true (.s 78))) <| .take 16 (oG 80 76 true (.mov (.s 12))) <| .take 17 (oG 81 76 true (.iaddr 3 (.s 80) (.c (.lit (.int .i64 0))))) <| .take 18 (oG 82 76 true (.load 3 true (.s 81))) <| .take 19 (oG 83 76 true (.seql false [1, 1, 2] (.s 79) (.s 82))) <| .take 20 (oI 84 (.pick (.s 76) (.s 83) (.c (.lit (.bool false))))) <| .take 21 (oI 6 (.mov (.s 84))) <| .done) .done) [6]
def a9 : AC := .seq a9r0 (.seq a9r1 (.seq a9r2 (.seq (.seq a9r3 (.cond (.s 38) (.seq a9r4 (.ret)) (.skip))) (.seq a9r5 (.seq a9r6 (.seq (.seq a9r7 (.cond (.s 63) (.seq a9r8 (.ret)) (.skip))) (.seq a9r9 (.ret))))))))
def a9R : List RD := [.tmp 6]
end Go.Proofs.YtadbdchbdjkcdaaGreatDoor.F
namespace Go.Proofs.YtadbdchbdjkcdaaGreatDoor.F
open Go Go.SX
theorem putK_swap {α : Type} {k : α → Int} {x y : α} (h : k x ≠ k y) : ∀ l : List α, putK k y (putK k x l) = putK k x (putK k y l)
 | [] => by
  simp only [putK]
  by_cases h1 : k y < k x
  ·rw [if_pos h1, if_neg (show ¬ k x < k y by omega), if_neg (show ¬ k y = k x by omega)]
  ·rw [if_neg h1, if_neg h, if_pos (show k x < k y by omega)]
 | z :: r => by
  have ih := putK_swap h r
  rcases Int.lt_trichotomy (k x) (k z) with h1 | h1 | h1 <;> rcases Int.lt_trichotomy (k y) (k z) with h2 | h2 | h2 <;> rcases Int.lt_trichotomy (k x) (k y) with h3 | h3 | h3 <;>
   first | omega | simp [putK, h1, h2, h3, ih, show ¬ k y < k x by omega, show ¬ k x < k y by omega] | skip
  all_goals (simp only [putK]; repeat' split)
  all_goals first | omega | rfl | (simp only [putK]; repeat' split)
  all_goals first | omega | rfl | (rw [ih])
theorem putK_find {α : Type} {k : α → Int} {x : α} {q : Int} (h : k x ≠ q) : ∀ l : List α, (putK k x l).find? (fun z => decide (k z = q)) = l.find? (fun z => decide (k z = q))
 | [] => by simp [putK, h]
 | z :: r => by
  simp only [putK]
  split
  ·rw [List.find?_cons_of_neg (by simpa using h)]
  ·split
   ·rename_i h2
    rw [List.find?_cons_of_neg (by simpa using h), List.find?_cons_of_neg (by simp; omega)]
   ·by_cases h3 : k z = q
    ·rw [List.find?_cons_of_pos (by simpa using h3), List.find?_cons_of_pos (by simpa using h3)]
    ·rw [List.find?_cons_of_neg (by simpa using h3), List.find?_cons_of_neg (by simpa using h3), putK_find h r]
def putO {α : Type} (k : α → Int) (o : Option α) (l : List α) : List α := match o with
 | some x => putK k x l
 | none => l
theorem putO_find {α : Type} {k : α → Int} {o : Option α} {q : Int} (h : ∀ x, o = some x → k x ≠ q) (l : List α) : (putO k o l).find? (fun z => decide (k z = q)) = l.find? (fun z => decide (k z = q)) := by
 cases o with
 | none => rfl
 | some x => exact putK_find (h x rfl) l
theorem putO_swap {α : Type} {k : α → Int} {o p : Option α} (h : ∀ x y, o = some x → p = some y → k x ≠ k y) (l : List α) : putO k p (putO k o l) = putO k o (putO k p l) := by
 cases o with
 | none => rfl
 | some x => cases p with
  | none => rfl
  | some y => exact putK_swap (h x y rfl rfl) l
theorem open_id {a b : Int} (h : (openC a b).2 = 0) : (openC a b).1.id = a := by
 unfold openC at h ⊢
 split
 ·rfl
 ·rename_i h1; rw [if_neg h1] at h; cases h
theorem join_id {x : Chan} {u : Int} (h : (joinC x u).2 = 0) : (joinC x u).1.id = x.id := by
 unfold joinC at h ⊢
 split
 ·rename_i h1; rw [if_pos h1] at h; cases h
 ·rename_i h1
  rw [if_neg h1] at h
  split
  ·rename_i h2; rw [if_pos h2] at h; cases h
  ·rename_i h2
   rw [if_neg h2] at h
   split
   ·rename_i h3; rw [if_pos h3] at h; cases h
   ·rfl
theorem leave_id {x : Chan} {u : Int} (h : (leaveC x u).2 = 0) : (leaveC x u).1.id = x.id := by
 unfold leaveC at h ⊢
 split
 ·rename_i h1; rw [if_pos h1] at h; cases h
 ·rename_i h1
  rw [if_neg h1] at h
  split
  ·rename_i h2; rw [if_pos h2] at h; cases h
  ·rename_i h2
   rw [if_neg h2] at h
   split
   ·rename_i h3; rw [if_pos h3] at h; cases h
   ·rfl
def LocR (ch : Int) (rd : Prop) (o : Option Room) : Prop := (∀ x, o = some x → kR x = ch) ∧ (rd → o = none)
theorem keep_local {ch : Int} {rd : Prop} {r : Room} {e : Int} (hr : e = 0 → kR r = ch) (hrd : ¬ rd) : ∃ o, LocR ch rd o ∧ ∀ s : Sta, keepS s r e = ⟨putO kR o s.rooms, s.persons⟩ := by
 by_cases h : e = 0
 ·exact ⟨some r, ⟨fun x hx => by injection hx with hx; subst hx; exact hr h, fun hh => absurd hh hrd⟩, fun s => by unfold keepS; rw [if_pos h]; rfl⟩
 ·exact ⟨none, ⟨fun x hx => (by cases hx), fun _ => rfl⟩, fun s => by unfold keepS; rw [if_neg h]; rfl⟩
theorem doQ_local {m : Cmd} {r : Room} (hr : m.kind ≠ 1 → kR r = m.ch) : ∃ o A, LocR m.ch (m.kind = 7) o ∧ ∀ s : Sta, (doQ s m r).1 = ⟨putO kR o s.rooms, s.persons⟩ ∧ (doQ s m r).2.1 = A := by
 unfold doQ
 by_cases h1 : m.kind = 1
 ·obtain ⟨o, ho, he⟩ := keep_local (ch := m.ch) (rd := m.kind = 7) (r := { r with c := (openC m.ch m.user).1 }) (e := (openC m.ch m.user).2) (fun h => open_id h) (by omega)
  exact ⟨o, _, ho, fun s => by rw [if_pos h1]; exact ⟨he s, rfl⟩⟩
 ·have hr := hr h1
  by_cases h2 : m.kind = 2
  ·obtain ⟨o, ho, he⟩ := keep_local (ch := m.ch) (rd := m.kind = 7) (r := { r with c := (joinC r.c m.user).1 }) (e := (joinC r.c m.user).2) (fun h => (join_id h).trans hr) (by omega)
   exact ⟨o, _, ho, fun s => by rw [if_neg h1, if_pos h2]; exact ⟨he s, rfl⟩⟩
  ·by_cases h3 : m.kind = 3
   ·obtain ⟨o, ho, he⟩ := keep_local (ch := m.ch) (rd := m.kind = 7) (r := { r with c := (leaveC r.c m.user).1 }) (e := (leaveC r.c m.user).2) (fun h => (leave_id h).trans hr) (by omega)
    exact ⟨o, _, ho, fun s => by rw [if_neg h1, if_neg h2, if_pos h3]; exact ⟨he s, rfl⟩⟩
   ·by_cases h4 : m.kind = 4
    ·obtain ⟨o, ho, he⟩ := keep_local (ch := m.ch) (rd := m.kind = 7) (r := { r with posts := (P16.addP r.posts m.user m.text).1 }) (e := (P16.addP r.posts m.user m.text).2) (fun _ => hr) (by omega)
     exact ⟨o, _, ho, fun s => by rw [if_neg h1, if_neg h2, if_neg h3, if_pos h4]; exact ⟨he s, rfl⟩⟩
    ·by_cases h5 : m.kind = 5
     ·obtain ⟨o, ho, he⟩ := keep_local (ch := m.ch) (rd := m.kind = 7) (r := { r with posts := (P16.editP r.posts m.n m.user m.text).1 }) (e := (P16.editP r.posts m.n m.user m.text).2) (fun _ => hr) (by omega)
      exact ⟨o, _, ho, fun s => by rw [if_neg h1, if_neg h2, if_neg h3, if_neg h4, if_pos h5]; exact ⟨he s, rfl⟩⟩
     ·by_cases h6 : m.kind = 6
      ·obtain ⟨o, ho, he⟩ := keep_local (ch := m.ch) (rd := m.kind = 7) (r := { r with posts := (P16.delP r.posts m.n m.user r.c.owner).1 }) (e := (P16.delP r.posts m.n m.user r.c.owner).2) (fun _ => hr) (by omega)
       exact ⟨o, _, ho, fun s => by rw [if_neg h1, if_neg h2, if_neg h3, if_neg h4, if_neg h5, if_pos h6]; exact ⟨he s, rfl⟩⟩
      ·exact ⟨none, _, ⟨fun x hx => (by cases hx), fun _ => rfl⟩, fun s => by rw [if_neg h1, if_neg h2, if_neg h3, if_neg h4, if_neg h5, if_neg h6]; exact ⟨rfl, rfl⟩⟩
theorem does_local (m : Cmd) (f : Option Room) (hf : ∀ r, f = some r → kR r = m.ch) : ∃ o A, LocR m.ch (m.kind = 7) o ∧ ∀ s : Sta, s.rooms.find? (fun r => decide (kR r = m.ch)) = f → doesS s m = (⟨putO kR o s.rooms, s.persons⟩, A) := by
 have none_ok : LocR m.ch (m.kind = 7) none := ⟨fun x hx => (by cases hx), fun _ => rfl⟩
 cases f with
 | none =>
  by_cases h1 : m.kind = 1
  ·obtain ⟨o, A, ho, he⟩ := doQ_local (m := m) (r := noR) (fun h => absurd h1 h)
   exact ⟨o, A, ho, fun s hs => by rw [does_none hs, if_pos h1, (he s).1, (he s).2]⟩
  ·exact ⟨none, _, none_ok, fun s hs => by rw [does_none hs, if_neg h1]; rfl⟩
 | some r =>
  by_cases h1 : m.kind = 1
  ·exact ⟨none, _, none_ok, fun s hs => by rw [does_some hs, if_pos h1]; rfl⟩
  ·by_cases h2 : 3 < m.kind ∧ inC r.c m.user = false
   ·exact ⟨none, _, none_ok, fun s hs => by rw [does_some hs, if_neg h1, if_pos h2]; rfl⟩
   ·obtain ⟨o, A, ho, he⟩ := doQ_local (m := m) (r := r) (fun _ => hf r rfl)
    exact ⟨o, A, ho, fun s hs => by rw [does_some hs, if_neg h1, if_neg h2, (he s).1, (he s).2]⟩
theorem apply_local {m : Cmd} (hm : mayM m = true) (h0 : ¬ m.kind = 0) (f : Option Room) (w : Win) (hf : ∀ r, f = some r → kR r = m.ch) : ∃ o v A, LocR m.ch (m.kind = 7) o ∧ (∀ p : Pers, v = some p → kV p = m.user) ∧
  ∀ s : Sta, mayS s = true → s.rooms.find? (fun r => decide (kR r = m.ch)) = f → winOf s m.user = w → applyS s m = (⟨putO kR o s.rooms, putO kV v s.persons⟩, A) := by
 have none_ok : LocR m.ch (m.kind = 7) none := ⟨fun x hx => (by cases hx), fun _ => rfl⟩
 obtain ⟨⟨A, is, er⟩, hL⟩ : { L : Ans × Bool × Int // lookW w m.seq = L } := ⟨_, rfl⟩
 by_cases he : er = 0
 ·subst he
  cases is
  ·obtain ⟨o, D, ho, hd⟩ := does_local m f hf
   refine ⟨o, some ⟨m.user, (putW w m.seq D).1⟩, D, ho, fun p hp => by injection hp with hp; subst hp; rfl, fun s hs hfs hw => ?_⟩
   subst hw
   rw [apply_do hs hm h0 hL, hd s hfs]
   rfl
  ·refine ⟨none, none, A, none_ok, fun p hp => (by cases hp), fun s hs hfs hw => ?_⟩
   subst hw
   rw [apply_is hs hm h0 hL rfl]; rfl
 ·refine ⟨none, none, ⟨er, 0, ⟨#[]⟩⟩, none_ok, fun p hp => (by cases hp), fun s hs hfs hw => ?_⟩
  subst hw
  rw [apply_err hs hm h0 hL he]; rfl
theorem win_put {s : Sta} {v : Option Pers} {u : Int} {R : List Room} (h : ∀ p, v = some p → kV p ≠ u) : winOf ⟨R, putO kV v s.persons⟩ u = winOf s u := by
 unfold winOf
 simp only
 rw [putO_find h]
theorem find_key {l : List Room} {ch : Int} {r : Room} (h : l.find? (fun r => decide (kR r = ch)) = some r) : kR r = ch := by simpa using List.find?_some h
theorem real_swap {s : Sta} {a b : Cmd} (h : mayS s = true) (ha : mayM a = true) (ha0 : ¬ a.kind = 0) (hb : mayM b = true) (hb0 : ¬ b.kind = 0) (hu : ¬ a.user = b.user) (hc : ¬ a.ch = b.ch ∨ a.kind = 7 ∧ b.kind = 7) :
  (applyS (applyS s a).1 b).1 = (applyS (applyS s b).1 a).1 ∧ (applyS (applyS s a).1 b).2 = (applyS s b).2 ∧ (applyS (applyS s b).1 a).2 = (applyS s a).2 := by
 obtain ⟨oa, va, A, hoa, hva, hea⟩ := apply_local ha ha0 (s.rooms.find? (fun r => decide (kR r = a.ch))) (winOf s a.user) (fun r hr => find_key hr)
 obtain ⟨ob, vb, B, hob, hvb, heb⟩ := apply_local hb hb0 (s.rooms.find? (fun r => decide (kR r = b.ch))) (winOf s b.user) (fun r hr => find_key hr)
 have ka := apply_keep (m := a) h
 have kb := apply_keep (m := b) h
 have ea := hea s h rfl rfl
 have eb := heb s h rfl rfl
 rw [ea] at ka ⊢
 rw [eb] at kb ⊢
 simp only at ka kb ⊢
 have fb : (putO kR oa s.rooms).find? (fun r => decide (kR r = b.ch)) = s.rooms.find? (fun r => decide (kR r = b.ch)) := by
  rcases hc with hc | hc
  ·exact putO_find (fun x hx => by rw [hoa.1 x hx]; exact hc) _
  ·rw [hoa.2 hc.1]; rfl
 have fa : (putO kR ob s.rooms).find? (fun r => decide (kR r = a.ch)) = s.rooms.find? (fun r => decide (kR r = a.ch)) := by
  rcases hc with hc | hc
  ·exact putO_find (fun x hx => by rw [hob.1 x hx]; exact fun h => hc h.symm) _
  ·rw [hob.2 hc.2]; rfl
 rw [heb _ ka fb (win_put (fun p hp => by rw [hva p hp]; exact hu)), hea _ kb fa (win_put (fun p hp => by rw [hvb p hp]; exact fun h => hu h.symm))]
 refine ⟨?_, rfl, rfl⟩
 simp only
 rw [putO_swap (k := kR) (o := oa) (p := ob) (fun x y hx hy => ?_), putO_swap (k := kV) (o := va) (p := vb) (fun x y hx hy => ?_)]
 ·rw [hva x hx, hvb y hy]; exact hu
 ·rcases hc with hc | hc
  ·rw [hoa.1 x hx, hob.1 y hy]; exact hc
  ·rw [hoa.2 hc.1] at hx; cases hx
theorem apply_none {m : Cmd} (h : mayM m = false ∨ m.kind = 0) : ∃ A, ∀ s : Sta, mayS s = true → applyS s m = (s, A) := by
 cases hm : mayM m
 ·exact ⟨_, fun s _ => apply_may (.inr hm)⟩
 ·rcases h with h | h
  ·rw [hm] at h; cases h
  ·exact ⟨_, fun s hs => apply_nop hs hm h⟩
theorem inter_not {a b : Cmd} (h : interM a b = false) : (mayM a = false ∨ a.kind = 0) ∨ (mayM b = false ∨ b.kind = 0) ∨ (¬ a.user = b.user ∧ (¬ a.ch = b.ch ∨ a.kind = 7 ∧ b.kind = 7)) := by
 by_cases ha : mayM a = true ∧ a.kind ≠ 0
 ·by_cases hb : mayM b = true ∧ b.kind ≠ 0
  ·right; right
   simp [interM, keysM, ha, hb, meetK, readK] at h
   refine ⟨h.1, ?_⟩
   have h2 := h.2
   by_cases hc : a.ch = b.ch
   ·right; exact h2 hc
   ·exact .inl hc
  ·right; left
   cases e : mayM b
   ·exact .inl rfl
   ·exact .inr (by simpa [e] using hb)
 ·left
  cases e : mayM a
  ·exact .inl rfl
  ·exact .inr (by simpa [e] using ha)
theorem swap {s : Sta} {a b : Cmd} (h : interM a b = false) : (applyS (applyS s a).1 b).1 = (applyS (applyS s b).1 a).1 ∧ (applyS (applyS s a).1 b).2 = (applyS s b).2 ∧ (applyS (applyS s b).1 a).2 = (applyS s a).2 := by
 cases hs : mayS s
 ·simp [apply_may (.inl hs)]
 ·rcases inter_not h with h | h | ⟨hu, hc⟩
  ·obtain ⟨A, hA⟩ := apply_none h
   rw [hA s hs, hA _ (apply_keep hs)]
   exact ⟨rfl, rfl, rfl⟩
  ·obtain ⟨B, hB⟩ := apply_none h
   rw [hB s hs, hB _ (apply_keep hs)]
   exact ⟨rfl, rfl, rfl⟩
  ·by_cases ha : mayM a = false ∨ a.kind = 0
   ·obtain ⟨A, hA⟩ := apply_none ha
    rw [hA s hs, hA _ (apply_keep hs)]
    exact ⟨rfl, rfl, rfl⟩
   ·by_cases hb : mayM b = false ∨ b.kind = 0
    ·obtain ⟨B, hB⟩ := apply_none hb
     rw [hB s hs, hB _ (apply_keep hs)]
     exact ⟨rfl, rfl, rfl⟩
    ·simp only [not_or, Bool.not_eq_false] at ha hb
     exact real_swap hs ha.1 ha.2 hb.1 hb.2 hu hc
theorem run_two (s : Sta) (a b : Cmd) : runS s [a, b] = ((applyS (applyS s a).1 b).1, [(applyS s a).2, (applyS (applyS s a).1 b).2]) := rfl
theorem c9 : chkFn Tryz.prog 9 85 3 a9 a9R = true := by kernel_rfl
theorem d9 (s : Sta) (a b : Cmd) (hb : Big s) : DoesT 9 [.agg (eS s), .agg (eM a), .agg (eM b)] (bv true) := by
 have h16 := d16 s hb
 obtain ⟨A0, hA0⟩ : ∃ A, fewS s = A := ⟨_, rfl⟩
 rw [hA0] at h16
 refine Does.of (nt := 85) (ac := a9) (rds := a9R) c9 (fun c hc => ?_)
 unfold a9
 apply J.seq
 refine J.regE (by simp [eS, eM, eA, eMs, eAs]; rfl) ?_
 simp
 apply J.seq
 apply J.reg
 refine runL_tree rfl (d10) (by simp) hc ?_
 simp
 refine runL_step rfl (by simp [eS, eM, eA, eMs, eAs]; rfl) ?_
 simp [runL]
 apply J.seq
 apply J.reg
 refine runL_step rfl (by simp [eS, eM, eA, eMs, eAs]; rfl) ?_
 refine runL_tree rfl (h16) (by simp) hc ?_
 simp
 refine runL_step rfl (by simp [eS, eM, eA, eMs, eAs]; rfl) ?_
 simp [runL]
 apply J.seq
 apply J.seq
 apply J.reg
 iterate 7 refine runL_step rfl (by simp [eS, eM, eA, eMs, eAs]; rfl) ?_
 refine runL_if rfl (fun g22 => ?_) (fun g22 => ?_)
 ·
  try simp only [g22]
  try simp at g22
  iterate 6 refine runL_step rfl (by simp [eS, eM, eA, eMs, eAs]; rfl) ?_
  refine runL_if rfl (fun g28 => ?_) (fun g28 => ?_)
  ·
   try simp only [g28]
   try simp at g28
   iterate 6 refine runL_step rfl (by simp [eS, eM, eA, eMs, eAs]; rfl) ?_
   refine runL_if rfl (fun g34 => ?_) (fun g34 => ?_)
   ·
    try simp only [g34]
    try simp at g34
    iterate 2 refine runL_step rfl (by simp [eS, eM, eA, eMs, eAs]; rfl) ?_
    refine runL_do (by simp) ?_
    refine runL_tree rfl (d23 a b) (by simp) hc ?_
    simp
    refine runL_step rfl (by simp [eS, eM, eA, eMs, eAs]; rfl) ?_
    simp [runL]
    refine J.condB rfl (fun h38 => ?_) (fun h38 => ?_)
    ·
     skip
     apply J.seq
     refine J.regE (by simp [eS, eM, eA, eMs, eAs]; rfl) ?_
     simp
     apply J.ret
     refine ⟨by simp, rfl, _, [], by simp [a9R]; rfl, ?_⟩
     simp
    ·
     have hfs := few_fit (s := s) (by rw [hA0, g22])
     obtain ⟨e1, e2, e3⟩ := swap (s := s) h38
     have h11 := d11 s [a, b] (n := 50) (by simp) (by omega) hfs
     have h11b := d11 s [b, a] (n := 50) (by simp) (by omega) hfs
     have hfx := run_fit (l := [a, b]) hfs (by omega)
     rw [run_two] at h11 h11b hfx
     simp only at h11 h11b hfx
     rw [← e1, e3] at h11b
     rw [e2] at h11
     generalize (applyS (applyS s a).1 b).1 = x at h11 h11b hfx
     generalize (applyS s a).2 = A at h11 h11b
     generalize (applyS s b).2 = B at h11 h11b
     have h20 := d20 x x (n := 52) (by omega) hfx hfx
     rw [eqB_refl] at h20
     apply J.skip; simp
     apply J.seq
     apply J.reg
     iterate 4 refine runL_step rfl (by simp [eS, eM, eA, eMs, eAs]; rfl) ?_
     refine runL_le hc (St.le_trans (le_nz _) (le_freeze _ 9044 rfl)) ?_
     simp
     refine runL_tree rfl (h11) (by simp) hc ?_
     simp
     iterate 6 refine runL_step rfl (by simp [eS, eM, eA, eMs, eAs]; rfl) ?_
     simp [runL]
     apply J.seq
     apply J.reg
     iterate 4 refine runL_step rfl (by simp [eS, eM, eA, eMs, eAs]; rfl) ?_
     refine runL_le hc (St.le_trans (le_nz _) (le_freeze _ 9052 rfl)) ?_
     simp
     refine runL_tree rfl (h11b) (by simp) hc ?_
     simp
     iterate 6 refine runL_step rfl (by simp [eS, eM, eA, eMs, eAs]; rfl) ?_
     simp [runL]
     apply J.seq
     apply J.seq
     apply J.reg
     iterate 8 refine runL_step rfl (by simp [eS, eM, eA, eMs, eAs]; rfl) ?_
     simp [runL]
     refine J.condB rfl (fun h63 => ?_) (fun h63 => ?_)
     ·
      simp at h63
     ·
      skip
      apply J.skip; simp
      apply J.seq
      apply J.draw; intro c' hc'
      iterate 2 refine runP_stepQ (by simp [eS, eM, eA, eMs, eAs]; rfl) ?_
      refine runP_tree rfl (h20) (by simp) rfl ?_
      simp
      iterate 19 refine runP_stepQ (by simp [eS, eM, eA, eMs, eAs]; rfl) ?_
      simp [runP]
      apply J.ret
      refine ⟨by simp, rfl, _, [], by simp [a9R]; rfl, ?_⟩
      simp
   ·
    try simp only [g34]
    try simp at g34
    refine runL_step rfl (by simp [eS, eM, eA, eMs, eAs]; rfl) ?_
    refine runL_pass (b := _) rfl (by simp) ?_
    simp
    refine runL_step rfl (by simp [eS, eM, eA, eMs, eAs]; rfl) ?_
    simp [runL]
    apply J.cond; simp [eS, eM, eA, eMs, eAs]
    apply J.seq
    refine J.regE (by simp [eS, eM, eA, eMs, eAs]; rfl) ?_
    simp
    apply J.ret
    refine ⟨by simp, rfl, _, [], by simp [a9R]; rfl, ?_⟩
    simp
  ·
   try simp only [g28]
   try simp at g28
   iterate 7 refine runL_step rfl (by simp [eS, eM, eA, eMs, eAs]; rfl) ?_
   refine runL_pass (b := _) rfl (by simp) ?_
   simp
   refine runL_step rfl (by simp [eS, eM, eA, eMs, eAs]; rfl) ?_
   simp [runL]
   apply J.cond; simp [eS, eM, eA, eMs, eAs]
   apply J.seq
   refine J.regE (by simp [eS, eM, eA, eMs, eAs]; rfl) ?_
   simp
   apply J.ret
   refine ⟨by simp, rfl, _, [], by simp [a9R]; rfl, ?_⟩
   simp
 ·
  try simp only [g22]
  try simp at g22
  iterate 13 refine runL_step rfl (by simp [eS, eM, eA, eMs, eAs]; rfl) ?_
  refine runL_pass (b := _) rfl (by simp) ?_
  simp
  refine runL_step rfl (by simp [eS, eM, eA, eMs, eAs]; rfl) ?_
  simp [runL]
  apply J.cond; simp [eS, eM, eA, eMs, eAs]
  apply J.seq
  refine J.regE (by simp [eS, eM, eA, eMs, eAs]; rfl) ?_
  simp
  apply J.ret
  refine ⟨by simp, rfl, _, [], by simp [a9R]; rfl, ?_⟩
  simp
end Go.Proofs.YtadbdchbdjkcdaaGreatDoor.F
