/- Chapter 11: graph.next, graph.Components of a row that the caller still writes. Printed by walk.py from g15.walk.py. -/
import Derived.Test.YthccfgkklimebaaD10
set_option linter.unusedVariables false
set_option linter.unusedSimpArgs false
namespace Go.Proofs.Ythccfgkklimebaa.F
open Go Go.SX

def m20o (n : Int) (l : List (Int × Int)) (i : Nat) : Mem := fam 30000 3 1 (fun a => nats (succ n l i a)) (bN n) ++ [(20012, .obj 29 (famCells 30000 1 (fun a => (succ n l i a).length) (bN n))), (8033, .arr 33 2 (eds l))]
def s20o (n : Int) (l : List (Int × Int)) (i : Nat) : Slots := [(0, iv (bN n : Nat)), (5, .own 20012 1 0 (bN n)), (13, .own 8033 2 0 l.length), (14, iv l.length), (15, iv i)]
def I20o (n : Int) (l : List (Int × Int)) (m : Nat) (st : St) : Prop := ∃ i : Nat, i ≤ l.length ∧ m = l.length - i ∧ st = ⟨s20o n l i, m20o n l i, [8033]⟩

/-- The program's state. -/
def st12o (n : Int) (l : List (Int × Int)) (of : List Nat) (many : Nat) (tc : List Bool) (out : List (List Nat)) (t : Nat) (s : Slots) : St :=
  ⟨(6, .ptr 12006 0 0 0) :: (8, .ptr 12008 0 0 0) :: (9, .fn 22 [.ptr 12006 0 0 0, .ptr 12005 0 0 0, .ptr 12007 0 0 0, .ptr 12008 0 0 0]) :: (10, .own 12074 1 0 out.length) :: (26, iv many) :: (27, iv t) :: s,
    [(12005, .obj 25 [.ro 1 (rws (toL n l))]), (12006, .obj 25 [.ro 1 (rws (parts of many))]), (12007, .obj 29 [.ro 1 (nats of)]), (12008, .obj 38 [.own 12023 1 0 many]), (12023, .arr 4 1 (bools tc)), (12074, .arr 29 1 (rws out)), (8033, .arr 33 2 (eds l))], [8033]⟩
def I12o (n : Int) (l : List (Int × Int)) (of : List Nat) (many : Nat) (m : Nat) (st : St) : Prop := ∃ (t : Nat) (tc : List Bool) (out : List (List Nat)), t ≤ many ∧ tc.length = many ∧ unset tc + t = many ∧ Shut (bN n) (rB n l) (tv n of tc) ∧ out ++ rest (bN n) (rB n l) (tv n of tc) = compsL n l ∧ out.length = t ∧ m = many - t ∧ st = st12o n l of many tc out t []
def I12bo (n : Int) (l : List (Int × Int)) (of : List Nat) (many : Nat) (tc : List Bool) (out : List (List Nat)) (t : Nat) (m : Nat) (st : St) : Prop := ∃ (j : Nat) (best : Option Nat), j ≤ many ∧ (∀ c, c < j → elC n l of many tc c → ∃ b, best = some b ∧ hd of many b ≤ hd of many c) ∧ (∀ b, best = some b → b < j ∧ elC n l of many tc b) ∧ m = many - j ∧
  st = st12o n l of many tc out t [(11, iv (bI best)), (30, iv many), (31, iv j)]


/-- colloquy/graph.next -/
theorem d20o (n : Int) (l : List (Int × Int)) (hl : l.length ≤ 1000000) : Does Try.prog 20 [iv n, .own 8033 2 0 l.length] [(8033, .arr 33 2 (eds l))] [8033] (fun r m => m = [(8033, .arr 33 2 (eds l))] ∧ r = .ro 1 (rws (toL n l))) := by
  have hN := bN_le n
  have hNb : ((bN n : Nat) : Int) * 24 ≤ 281474976710656 := by omega
  have hmm : (if (100 : Int) < (if n < 0 then 0 else n) then (100 : Int) else if n < 0 then 0 else n) = (bN n : Nat) := by
    unfold bN
    by_cases h1 : n < 0
    · simp [h1]
    · by_cases h2 : 100 < n
      · simp [h1, h2]
      · simp only [h1, h2, if_false]; omega
  refine Does.of (nt := 49) (ac := a20) (rds := a20R) c20 (fun c hc => ?_)
  unfold a20
  apply J.seq
  refine J.regE (by simp; rfl) ?_
  simp
  apply J.seq
  refine J.regE (by simp; rfl) ?_
  simp
  rw [hmm]
  apply J.seq
  refine J.regE (by simp [hNb]; rfl) ?_
  simp
  apply J.seq
  apply J.seq
  refine J.regE (by simp; rfl) ?_
  simp
  apply J.block
  refine J.le hc (st' := ⟨s20o n l 0, m20o n l 0, [8033]⟩) (le_retell ?_ ?_ rfl (by simp [m20o])) ?_
  · refine fun p hp => ⟨p.2, ?_, .same ?_⟩ <;> revert p <;> simp [s20o, m20o]
  · intro p hp
    simp only [m20o, List.mem_append, List.mem_cons, List.not_mem_nil, or_false] at hp
    rcases hp with hp | rfl | rfl
    rotate_left 1
    · refine .obj (by simp) (fun i x hx => ?_)
      have hi : i < bN n := by simpa using (List.getElem?_eq_some_iff.1 hx).1
      rw [famCells_get hi] at hx
      injection hx with hx; subst hx
      simp [hi, succ]
      exact .nil
    · simp; exact ReB.same (b := .arr 33 2 (eds l)) trivial
    · obtain ⟨c', hc', rfl⟩ := mem_fam hp
      simp [succ]
      repeat rw [if_neg (by omega)]
      exact .new
  refine J.loop hc (I20o n l) ?_ ?_
  · exact ⟨_, _, St.le_refl _, 0, by omega, rfl, rfl⟩
  rintro n st ⟨i, hi, rfl, rfl⟩
  have key : i < l.length → ∀ (S : Slots) (M : Mem) (Q : Exit → St → Prop), (∀ p ∈ s20o n l i, SX.look S p.1 = some p.2) → SX.look M 20012 = some (.obj 29 (famCells 30000 1 (fun a => (succ n l (i + 1) a).length) (bN n))) → (∀ c, c < bN n → SX.look M (30000 + c) = some (.arr 3 1 (nats (succ n l (i + 1) c)))) → SX.look M 8033 = some (.arr 33 2 (eds l)) → J Try.prog 49 c a20r8 ⟨S, M, [8033]⟩ (loopQ (I20o n l) (l.length - i) Q) := by
    intro hlt S M Q hS hM1 hM2 hM3
    have hw : IntKind.i64.wrap ((i : Int) + 1) = i + 1 := wrap_id (by omega) (by omega)
    refine J.le hc (st' := ⟨s20o n l i, m20o n l (i + 1), [8033]⟩) (le_retell ?_ ?_ rfl (by simp [m20o])) ?_
    · refine fun p hp => ⟨p.2, hS p hp, .same ?_⟩
      revert p; simp [s20o, m20o]
    · intro p hp
      simp only [m20o, List.mem_append, List.mem_cons, List.not_mem_nil, or_false] at hp
      rcases hp with hp | rfl | rfl
      · obtain ⟨c', hc', rfl⟩ := mem_fam hp
        simp only [hM2 c' hc']
        exact ReB.same (b := .arr 3 1 (nats (succ n l (i + 1) c'))) trivial
      · simp only [hM1]
        refine .obj rfl (fun j x hx => ?_)
        have hj : j < bN n := by simpa using (List.getElem?_eq_some_iff.1 hx).1
        rw [famCells_get hj] at hx
        injection hx with hx; subst hx
        simp [famCells_get hj]
        exact .same (by simp [m20o, look_famA_at hj])
      · simp only [hM3]; exact ReB.same (b := .arr 33 2 (eds l)) trivial
    · unfold s20o
      refine J.regE (by simp [hw]; rfl) ?_
      simp
      exact ⟨_, by omega, _, St.le_refl _, i + 1, by omega, rfl, by simp [s20o]⟩
  unfold s20o m20o
  apply J.seq
  refine J.regE (by simp; rfl) ?_
  simp
  apply J.seq
  apply J.cond; simp
  refine ⟨fun hlt => ?_, fun hlt => ?_⟩
  ·
    have hw : IntKind.i64.wrap ((i : Int) + 1) = i + 1 := wrap_id (by omega) (by omega)
    obtain ⟨⟨x, y⟩, hxy⟩ : ∃ p, l[i] = p := ⟨_, rfl⟩
    have hss := fun a => succ_succ (n := n) a hlt
    rw [hxy] at hss
    apply J.skip; simp
    apply J.seq
    apply J.block
    apply J.seq
    refine J.regE (by simp [hlt, hxy, hN, look_fam_lt, killL_fam_ne]; rfl) ?_
    simp
    apply J.seq
    have hcond : (∃ a b : Nat, x = a ∧ y = b ∧ a < bN n ∧ b < bN n) ∨ (¬ (0 ≤ (if y < x then y else x))) ∨ (0 ≤ (if y < x then y else x) ∧ ¬ ((if x < y then y else x) < (bN n : Int))) := by
      by_cases h1 : 0 ≤ (if y < x then y else x)
      · by_cases h2 : (if x < y then y else x) < (bN n : Int)
        · refine .inl ⟨x.toNat, y.toNat, ?_, ?_, ?_, ?_⟩ <;> split at h1 <;> split at h2 <;> omega
        · exact .inr (.inr ⟨h1, h2⟩)
      · exact .inr (.inl h1)
    rcases hcond with ⟨a, b, rfl, rfl, ha, hb⟩ | h1 | ⟨h1, h2⟩
    ·
      have h1 : (0 : Int) ≤ (if b < a then (b : Int) else a) := by split <;> omega
      have h2 : (if a < b then (b : Int) else a) < (bN n : Int) := by split <;> omega
      apply J.reg
      iterate 15 refine runL_step rfl (by simp [look_fam_lt, h1, h2]; rfl) ?_
      simp [runL]
      apply J.cond; simp
      have hla := succ_length n l i a
      have e1 : ¬ 20012 = 30000 + a := by omega
      have e5 : ¬ 8033 = 30000 + a := by omega
      have e6 : ¬ 30000 + a = 8033 := by omega
      have e2 : ¬ 20007 = 30000 + a := by omega
      have e3 : ¬ 20044 = 30000 + a := by omega
      have e4 : ¬ 30000 + a = 20044 := by omega
      have hss' : ∀ c, succ n l (i + 1) c = succ n l i c ++ if c = a then [b] else [] := by
        intro c
        have hT : isT n (b : Int) = true := (isT_iff _ _).2 ⟨by omega, by omega⟩
        rw [hss]
        by_cases e : c = a
        · subst e; simp [hT]
        · have e' : ¬ (a : Int) = c := by omega
          simp [e, e']
      have ha1 : a + 1 ≤ bN n := ha
      have hone := famCells_one (base := 30000) (sz := 1) (len := fun a => (succ n l i a).length) ha
      have hput := famCells_put (base := 30000) (sz := 1) (v := (succ n l i a).length + 1) (len := fun a => (succ n l i a).length) (len' := fun c => (succ n l (i + 1) c).length) ha (fun c => by rw [hss']; split <;> rename_i e <;> simp [e])
      apply J.draw; intro c' hc'
      iterate 9 refine runP_step rfl (by simp [ha]; rfl) ?_
      refine runP_alt rfl rfl (by simp [ha, ha1, hone]; rfl) ?_ (.inr ?_)
      · refine runP_one rfl rfl (by simp; rfl) ?_
        refine runP_one rfl (by simp; omega) (by simp [e1, e2, e3, e4, e5, e6, look_famA_at ha, SX.killL_fam ha, show ((succ n l i a).length + 1) * 8 ≤ 140737488355328 from by omega]; rfl) ?_
        refine runP_step rfl (by simp [ha, ha1]; rfl) ?_
        refine runP_one rfl (by simp) (by simp [look_upd, look_killB, look_drop, e1, e2, e3, e4, e5, e6, hput, ha1, SX.killL_fam ha]; rfl) ?_
        simp [runP]
        refine key hlt _ _ _ (by simp [s20o]) (by simp [look_upd]) (fun c hc => ?_) (by simp [look_upd, look_killB, look_drop, e1, e2, e3, e4, e5, e6])
        simp only [look_upd, look_killB, look_drop]
        rw [if_neg (by omega)]
        by_cases e : c = a
        · subst e; simp [hss']
        · rw [if_neg (by omega), if_neg (by omega), look_famA_at hc]; simp [hss', e]
      · refine runP_one rfl rfl (by simp; rfl) ?_
        refine runP_one rfl rfl (by simp [ha, ha1, hone]; rfl) ?_
        refine runP_one rfl (by simp; omega) (by simp [e1, e2, e3, e4, e5, e6, look_famA_at ha, SX.killL_fam ha, show ((succ n l i a).length + 1) * 8 ≤ 140737488355328 from by omega]; rfl) ?_
        refine runP_step rfl (by simp [ha, ha1]; rfl) ?_
        refine runP_one rfl (by simp) (by simp [look_upd, look_killB, look_drop, e1, e2, e3, e4, e5, e6, hput, ha1, SX.killL_fam ha]; rfl) ?_
        simp [runP]
        refine key hlt _ _ _ (by simp [s20o]) (by simp [look_upd]) (fun c hc => ?_) (by simp [look_upd, look_killB, look_drop, e1, e2, e3, e4, e5, e6])
        simp only [look_upd, look_killB, look_drop]
        rw [if_neg (by omega)]
        by_cases e : c = a
        · subst e; simp [hss']
        · rw [if_neg (by omega), if_neg (by omega), look_famA_at hc]; simp [hss', e]
    ·
      apply J.reg
      iterate 15 refine runL_step rfl (by simp [look_fam_lt, h1]; rfl) ?_
      simp [runL]
      apply J.cond; simp
      apply J.skip; simp
      have hssn : ∀ c, c < bN n → succ n l (i + 1) c = succ n l i c := by
        intro c hcN
        rw [hss]
        have : ¬ (x = (c : Int) ∧ isT n y = true) := by
          rintro ⟨rfl, hy⟩
          have := (isT_iff _ _).1 hy
          revert h1
          first | (intro h1; split at h1 <;> omega) | (revert h2; intro h2 h1; split at h1 <;> split at h2 <;> omega)
        simp [this]
      refine key hlt _ _ _ (by simp [s20o]) ?_ (fun c hcN => by rw [look_famA_at hcN, hssn c hcN]) (by simp)
      simp
      unfold famCells
      exact List.map_congr_left (fun c hcN => by dsimp only; rw [hssn c (by simpa using hcN)])
    ·
      apply J.reg
      iterate 15 refine runL_step rfl (by simp [look_fam_lt, h1, h2]; rfl) ?_
      simp [runL]
      apply J.cond; simp
      apply J.skip; simp
      have hssn : ∀ c, c < bN n → succ n l (i + 1) c = succ n l i c := by
        intro c hcN
        rw [hss]
        have : ¬ (x = (c : Int) ∧ isT n y = true) := by
          rintro ⟨rfl, hy⟩
          have := (isT_iff _ _).1 hy
          revert h1
          first | (intro h1; split at h1 <;> omega) | (revert h2; intro h2 h1; split at h1 <;> split at h2 <;> omega)
        simp [this]
      refine key hlt _ _ _ (by simp [s20o]) ?_ (fun c hcN => by rw [look_famA_at hcN, hssn c hcN]) (by simp)
      simp
      unfold famCells
      exact List.map_congr_left (fun c hcN => by dsimp only; rw [hssn c (by simpa using hcN)])
  ·
    have : i = l.length := by omega
    subst this
    apply J.exit; simp
    apply J.seq
    refine J.le hc (st' := ⟨[(5, .ro 1 (rws (toL n l)))], [(8033, .arr 33 2 (eds l))], [8033]⟩) (le_retell ?_ ?_ rfl (by simp)) ?_
    · intro p hp
      simp only [List.mem_cons, List.not_mem_nil, or_false] at hp
      subst hp
      refine ⟨_, rfl, ?_⟩
      have hrw : rws (toL n l) = ((toL n l).map fun r => AV.ro 1 (nats r)).map fun x => [x] := by simp [rws]
      rw [hrw]
      refine Re.rows (lo := 0) (n := bN n) (ty := 29) (cs := famCells 30000 1 (fun a => (succ n l l.length a).length) (bN n)) (by simp) (by simp) (by simp [toL]) (by simp) ?_ ?_
      · intro x hx
        simp only [List.mem_map] at hx
        obtain ⟨r, _, rfl⟩ := hx
        rfl
      · intro i x hx
        have hi : i < bN n := by simpa [toL] using (List.getElem?_eq_some_iff.1 hx).1
        simp [toL, hi] at hx
        subst hx
        simp [famCells_get hi]
        have := Re.row (m := fam 30000 3 1 (fun a => nats (succ n l l.length a)) (bN n) ++ [(20012, .obj 29 (famCells 30000 1 (fun a => (succ n l l.length a).length) (bN n))), (8033, .arr 33 2 (eds l))]) (m' := [(8033, .arr 33 2 (eds l))]) (b := 30000 + i) (sz := 1) (lo := 0) (n := (succ n l l.length i).length) (ty := 3) (es := nats (succ n l l.length i)) (look_famA_at hi) (by simp [show ¬ 8033 = 30000 + i by omega]) (by omega) (by simp)
        simpa [List.take_of_length_le] using this
    · intro p hp
      simp only [List.mem_cons, List.not_mem_nil, or_false] at hp
      subst hp
      simp
      exact ReB.same (b := .arr 33 2 (eds l)) trivial
    refine J.regE (by simp; rfl) ?_
    simp
    apply J.ret
    refine ⟨by simp, rfl, _, [(8033, .arr 33 2 (eds l))], by simp [a20R]; rfl, ?_⟩
    simp

set_option maxHeartbeats 8000000 in
/-- colloquy/graph.Components -/
theorem d12o (n : Int) (l : List (Int × Int)) (hl : l.length ≤ 900000) : Does Try.prog 12 [iv n, .own 8033 2 0 l.length] [(8033, .arr 33 2 (eds l))] [8033] (fun r m => m = [(8033, .arr 33 2 (eds l))] ∧ r = .ro 1 (rws (compsL n l))) := by
  have hN := bN_le n
  have htl := toL_length n l
  refine Does.of (nt := 77) (ac := a12) (rds := a12R) c12 (fun c hc => ?_)
  unfold a12
  apply J.seq
  refine J.regE (by simp; rfl) ?_
  simp
  apply J.seq
  apply J.reg
  iterate 2 refine runL_step rfl (by simp; rfl) ?_
  refine runL_call [8033] [8033] rfl rfl (d20o n l (by omega)) (by simp) (by simp) (by simp) hc ?_
  rintro rv m1 ⟨rfl, rfl⟩
  refine ⟨by simp, ?_⟩
  simp
  iterate 2 refine runL_step rfl (by simp; rfl) ?_
  simp [runL]
  apply J.seq
  apply J.reg
  refine runL_step rfl (by simp; rfl) ?_
  refine runL_call [] [] rfl rfl (d21r (toL n l) (by rw [htl]; exact hN) (fun r hr => ?_) (fun v z hz => ?_)) (by simp) (by simp) (by simp) hc ?_
  · obtain ⟨a, _, rfl⟩ := List.mem_map.1 hr
    have := succ_length n l l.length a; omega
  · have he : eN n l v z := by rw [← toL_reach]; exact hz
    rw [htl]; exact he.2.1
  rintro rv m1 ⟨rfl, order, low, of, many, at_, hG, hvis, rfl⟩
  refine ⟨by simp, ?_⟩
  have hNum := hG.num hvis
  have hmany := hNum.small
  have hpl := parts_length (of := of) (many := many)
  simp
  iterate 7 refine runL_step rfl (by simp; rfl) ?_
  simp [runL]
  apply J.seq
  refine J.regE (by simp [hpl, bools_zero, show ((many : Nat) : Int) ≤ 281474976710656 from by omega]; rfl) ?_
  simp
  apply J.seq
  refine J.regE (by simp; rfl) ?_
  simp
  apply J.seq
  refine J.regE (by simp; rfl) ?_
  simp
  refine J.nilrow hc 10 12074 29 rfl rfl rfl ?_
  simp
  apply J.seq
  apply J.seq
  refine J.regE (by simp [hpl]; rfl) ?_
  simp
  apply J.block
  have hPP : ∀ r ∈ parts of many, r.length ≤ 1000000 ∧ ∀ i ∈ r, i < (toL n l).length := by
    intro r hr
    obtain ⟨c, hc', rfl⟩ := List.mem_map.1 hr
    refine ⟨Nat.le_trans (List.length_filter_le _ _) (by have := hNum.len; simp; omega), fun i hi => ?_⟩
    rw [htl, ← hNum.len]
    have := (List.mem_filter.1 hi).1
    simpa using this
  have hTT : ∀ r ∈ toL n l, r.length ≤ 1000000 ∧ ∀ k ∈ r, k < of.length := by
    intro r hr
    obtain ⟨a, ha, rfl⟩ := List.mem_map.1 hr
    refine ⟨by have := succ_length n l l.length a; omega, fun k hk => ?_⟩
    rw [hNum.len]; exact (mem_succ.1 hk).1
  refine J.loop hc (I12o n l of many) ?_ ?_
  · refine ⟨_, _, ?_, 0, List.replicate many false, [], by omega, by simp, by simp [unset], ?_, ?_, rfl, rfl, rfl⟩
    · apply le_sub <;> simp [st12o]
    · have : tv n of (List.replicate many false) = List.replicate (bN n) false := by
        apply List.ext_getElem
        · simp [tv]
        · intro i h1 h2; simp [tv, List.getElem?_replicate]; split <;> rfl
      rw [this]; exact .start
    · have : tv n of (List.replicate many false) = List.replicate (bN n) false := by
        apply List.ext_getElem
        · simp [tv]
        · intro i h1 h2; simp [tv, List.getElem?_replicate]; split <;> rfl
      rw [this]; rfl
  rintro n st ⟨t, tc, out, ht, htc, hun, hsh, hout, hol, rfl, rfl⟩
  unfold st12o
  apply J.seq
  refine J.regE (by simp; rfl) ?_
  simp
  apply J.seq
  apply J.cond; simp
  refine ⟨fun hlt => ?_, fun hlt => ?_⟩
  ·
    have hwt : IntKind.i64.wrap ((t : Int) + 1) = t + 1 := wrap_id (by omega) (by omega)
    have hOO : ∀ x ∈ of, 1 ≤ x ∧ x ≤ tc.length ∧ x ≤ 1000000 := by
      intro x hx
      obtain ⟨i, hi, rfl⟩ := List.mem_iff_getElem.1 hx
      have := hNum.pos i (by rw [← hNum.len]; exact hi)
      rw [ix_get hi] at this
      omega
    apply J.skip; simp
    apply J.seq
    apply J.block
    apply J.seq
    refine J.regE (by simp; rfl) ?_
    simp
    apply J.seq
    apply J.seq
    refine J.regE (by simp [hpl]; rfl) ?_
    simp
    apply J.block
    refine J.loop hc (I12bo n l of many tc out t) ?_ ?_
    · refine ⟨_, _, ?_, 0, none, by omega, (fun c h => by omega), (fun b hb => by cases hb), rfl, rfl⟩
      apply le_sub <;> simp [st12o, bI]
    rintro n st ⟨j, best, hj, hmin, hbest, rfl, rfl⟩
    unfold st12o
    apply J.seq
    refine J.regE (by simp; rfl) ?_
    simp
    apply J.seq
    apply J.cond; simp
    refine ⟨fun hlt => ?_, fun hlt => ?_⟩
    ·
      have hwj : IntKind.i64.wrap ((j : Int) + 1) = j + 1 := wrap_id (by omega) (by omega)
      have hjt : j < tc.length := by omega
      have htg : tc.getD j false = tc[j] := by simp [hjt]
      have hPl : ∀ c (h : c < (parts of many).length), ∃ h0 : 0 < ((parts of many)[c]).length, ((parts of many)[c])[0] = hd of many c := by
        intro c h
        have hcm : c < many := by rw [← hpl]; exact h
        have e : (parts of many).getD c [] = (parts of many)[c] := by simp [h]
        obtain ⟨g1, g2, _⟩ := hNum.hdS hcm
        have hm := (mem_parts (of := of) (v := hd of many c) hcm).2 ⟨by rw [hNum.len]; exact g1, g2⟩
        unfold hd at hm ⊢
        rw [e] at hm ⊢
        cases hr : (parts of many)[c] with
        | nil => rw [hr] at hm; simp at hm
        | cons x r => exact ⟨by simp, by simp⟩
      apply J.skip; simp
      apply J.seq
      apply J.block
      apply J.seq
      refine J.regE (by simp; rfl) ?_
      simp
      apply J.seq
      have hcase : tc[j] = true ∨ (tc[j] = false ∧ frB (parts of many) (toL n l) of tc j = false) ∨ (tc[j] = false ∧ frB (parts of many) (toL n l) of tc j = true ∧ best = none) ∨ (∃ b, tc[j] = false ∧ frB (parts of many) (toL n l) of tc j = true ∧ best = some b ∧ hd of many j < hd of many b) ∨ (∃ b, tc[j] = false ∧ frB (parts of many) (toL n l) of tc j = true ∧ best = some b ∧ ¬ hd of many j < hd of many b) := by
        cases h1 : tc[j]
        · cases h2 : frB (parts of many) (toL n l) of tc j
          · simp
          · cases best with
            | none => simp
            | some b =>
              by_cases h3 : hd of many j < hd of many b
              · exact .inr (.inr (.inr (.inl ⟨b, rfl, rfl, rfl, h3⟩)))
              · exact .inr (.inr (.inr (.inr ⟨b, rfl, rfl, rfl, h3⟩)))
        · simp
      obtain ⟨hj0, hj1⟩ := hPl j (by rw [hpl]; exact hlt)
      have hjp : j < (parts of many).length := by rw [hpl]; exact hlt
      rcases hcase with htj | ⟨htj, hfr⟩ | ⟨htj, hfr, rfl⟩ | ⟨b, htj, hfr, rfl, hlt2⟩ | ⟨b, htj, hfr, rfl, hlt2⟩
      ·
        have hnot : ¬ elC n l of many tc j := fun h => by have := h.1; rw [htg, htj] at this; cases this
        apply J.draw; intro c' hc'
        iterate 8 refine runP_stepQ (by simp [hlt, hjt, htj]; rfl) ?_
        refine runP_skip rfl (by decide) ?_
        iterate 20 refine runP_stepQ (by simp [hlt, hjt, htj]; rfl) ?_
        simp [runP]
        apply J.cond; simp
        apply J.skip; simp
        refine J.regE (by simp [hwj]; rfl) ?_
        simp
        refine ⟨_, ?_, _, ?_, j + 1, best, by omega, fun c hcj hec => ?_, fun b hb => ⟨by have := (hbest b hb).1; omega, (hbest b hb).2⟩, rfl, rfl⟩
        · omega
        · apply le_sub <;> simp [st12o]
        · by_cases e : c = j
          · subst e; exact absurd hec hnot
          · exact hmin c (by omega) hec
      ·
        have hnot : ¬ elC n l of many tc j := fun h => by have := h.2; rw [hfr] at this; cases this
        apply J.draw; intro c' hc'
        iterate 8 refine runP_stepQ (by simp [hlt, hjt, htj]; rfl) ?_
        refine runP_do rfl (runP_view (le22 (a := j) htc rfl rfl rfl rfl rfl rfl rfl rfl) rfl rfl (d22 (parts of many) (toL n l) of tc j (by rw [parts_length]; exact hlt) hPP hTT hOO) (by simp) ?_)
        rintro rv m1 ⟨rfl, rfl⟩
        refine ⟨rfl, rfl, ?_⟩
        rw [hfr]
        iterate 20 refine runP_stepQ (by simp [hlt, hjt, htj]; rfl) ?_
        simp [runP]
        apply J.cond; simp
        apply J.skip; simp
        refine J.regE (by simp [hwj]; rfl) ?_
        simp
        refine ⟨_, ?_, _, ?_, j + 1, best, by omega, fun c hcj hec => ?_, fun b hb => ⟨by have := (hbest b hb).1; omega, (hbest b hb).2⟩, rfl, rfl⟩
        · omega
        · apply le_sub <;> simp [st12o]
        · by_cases e : c = j
          · subst e; exact absurd hec hnot
          · exact hmin c (by omega) hec
      ·
        apply J.draw; intro c' hc'
        iterate 8 refine runP_stepQ (by simp [hlt, hjt, htj]; rfl) ?_
        refine runP_do rfl (runP_view (le22 (a := j) htc rfl rfl rfl rfl rfl rfl rfl rfl) rfl rfl (d22 (parts of many) (toL n l) of tc j (by rw [parts_length]; exact hlt) hPP hTT hOO) (by simp) ?_)
        rintro rv m1 ⟨rfl, rfl⟩
        refine ⟨rfl, rfl, ?_⟩
        rw [hfr]
        iterate 20 refine runP_stepQ (by simp [hlt, hjt, htj, bI]; rfl) ?_
        simp [runP]
        apply J.cond; simp
        refine J.regE (by simp; rfl) ?_
        simp
        refine J.regE (by simp [hwj]; rfl) ?_
        simp
        refine ⟨_, ?_, _, ?_, j + 1, some j, by omega, fun c hcj hec => ⟨j, rfl, ?_⟩, fun b hb => ?_, rfl, rfl⟩
        · omega
        · apply le_sub <;> simp [st12o, bI]
        · by_cases e : c = j
          · subst e; omega
          · obtain ⟨b, hb, _⟩ := hmin c (by omega) hec; cases hb
        · injection hb with hb; subst hb; exact ⟨by omega, by rw [htg]; exact htj, hfr⟩
      ·
        have hbI : ¬ ((b : Nat) : Int) < 0 := by omega
        have hbm := (hbest b rfl).1
        have hbp : b < (parts of many).length := by rw [hpl]; omega
        obtain ⟨hb0, hb1⟩ := hPl b hbp
        have hbm2 : b < many := by omega
        apply J.draw; intro c' hc'
        iterate 8 refine runP_stepQ (by simp [hlt, hjt, htj]; rfl) ?_
        refine runP_do rfl (runP_view (le22 (a := j) htc rfl rfl rfl rfl rfl rfl rfl rfl) rfl rfl (d22 (parts of many) (toL n l) of tc j (by rw [parts_length]; exact hlt) hPP hTT hOO) (by simp) ?_)
        rintro rv m1 ⟨rfl, rfl⟩
        refine ⟨rfl, rfl, ?_⟩
        rw [hfr]
        iterate 20 refine runP_stepQ (by simp [hlt, hjt, htj, bI, hbI, hjp, hj0, hj1, hbp, hb0, hb1, hlt2, hpl, hbm2]; rfl) ?_
        simp [runP]
        apply J.cond; simp
        refine J.regE (by simp; rfl) ?_
        simp
        refine J.regE (by simp [hwj]; rfl) ?_
        simp
        refine ⟨_, ?_, _, ?_, j + 1, some j, by omega, fun c hcj hec => ⟨j, rfl, ?_⟩, fun b hb => ?_, rfl, rfl⟩
        · omega
        · apply le_sub <;> simp [st12o, bI]
        · by_cases e : c = j
          · subst e; omega
          · obtain ⟨b', hb', hle⟩ := hmin c (by omega) hec; injection hb' with hb'; subst hb'; omega
        · injection hb with hb; subst hb; exact ⟨by omega, by rw [htg]; exact htj, hfr⟩
      ·
        have hbI : ¬ ((b : Nat) : Int) < 0 := by omega
        have hbm := (hbest b rfl).1
        have hbp : b < (parts of many).length := by rw [hpl]; omega
        obtain ⟨hb0, hb1⟩ := hPl b hbp
        have hbm2 : b < many := by omega
        apply J.draw; intro c' hc'
        iterate 8 refine runP_stepQ (by simp [hlt, hjt, htj]; rfl) ?_
        refine runP_do rfl (runP_view (le22 (a := j) htc rfl rfl rfl rfl rfl rfl rfl rfl) rfl rfl (d22 (parts of many) (toL n l) of tc j (by rw [parts_length]; exact hlt) hPP hTT hOO) (by simp) ?_)
        rintro rv m1 ⟨rfl, rfl⟩
        refine ⟨rfl, rfl, ?_⟩
        rw [hfr]
        iterate 20 refine runP_stepQ (by simp [hlt, hjt, htj, bI, hbI, hjp, hj0, hj1, hbp, hb0, hb1, hlt2, hpl, hbm2]; rfl) ?_
        simp [runP]
        apply J.cond; simp
        apply J.skip; simp
        refine J.regE (by simp [hwj]; rfl) ?_
        simp
        refine ⟨_, ?_, _, ?_, j + 1, some b, by omega, fun c hcj hec => ?_, fun b' hb' => ⟨by have := (hbest b' hb').1; omega, (hbest b' hb').2⟩, rfl, rfl⟩
        · omega
        · apply le_sub <;> simp [st12o, bI]
        · by_cases e : c = j
          · subst e; exact ⟨b, rfl, by omega⟩
          · exact hmin c (by omega) hec
    ·
      have hjm : many = j := by omega
      subst hjm
      obtain ⟨c0, hc0, he0⟩ := hNum.exists_ htc hsh (by omega)
      obtain ⟨b, rfl, _⟩ := hmin c0 hc0 he0
      obtain ⟨hbm, hbe⟩ := hbest b rfl
      have hbmin : ∀ c, c < many → tc.getD c false = false → frB (parts of many) (toL n l) of tc c = true → hd of many b ≤ hd of many c := fun c h1 h2 h3 => by
        obtain ⟨b', hb', hle⟩ := hmin c h1 ⟨h2, h3⟩
        injection hb' with hb'; subst hb'; exact hle
      have hbt : b < tc.length := by omega
      have hbf : tc[b] = false := by have := hbe.1; simpa [hbt] using this
      have hbP : b < (parts of many).length := by rw [hpl]; exact hbm
      simp only [bI]
      apply J.exit; simp
      apply J.seq
      refine J.regE (by simp [hbm, hbt]; rfl) ?_
      simp
      refine J.regE (by simp [hbm, hbP, hpl, List.take_of_length_le, show (out.length + 1) * 24 ≤ 140737488355328 from by omega]; rfl) ?_
      simp
      refine J.regE (by simp [hwt]; rfl) ?_
      simp
      have hnx := hNum.nextS htc hsh hbm hbe.1 hbe.2 hbmin
      rw [hnx] at hout
      have hset := unset_set hbt hbf
      refine ⟨_, ?_, _, ?_, t + 1, tc.set b true, out ++ [(parts of many).getD b []], by omega, by simp [htc], by omega, hNum.shutS htc hsh hbm hbe.1 hbe.2, by rw [List.append_assoc]; exact hout, by simp [hol], rfl, rfl⟩
      · omega
      · have e : (parts of many).getD b [] = (parts of many)[b] := by simp [hbP]
        rw [e]
        apply le_sub <;> simp [st12o]
  ·
    have : t = many := by omega
    subst this
    rw [rest_told hNum htc (by omega), List.append_nil] at hout
    subst hout
    apply J.exit; simp
    apply J.seq
    refine J.freeze hc 12074 rfl ?_
    simp [List.take_of_length_le]
    refine J.regE (by simp; rfl) ?_
    simp
    apply J.ret
    refine ⟨by simp, rfl, _, [(8033, .arr 33 2 (eds l))], by simp [a12R]; rfl, ?_⟩
    simp [hol]

end Go.Proofs.Ythccfgkklimebaa.F
