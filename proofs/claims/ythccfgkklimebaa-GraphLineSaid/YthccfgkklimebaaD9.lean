/- Chapter 11: graph.Components. Printed by walk.py from g9.walk.py. -/
import Derived.Test.YthccfgkklimebaaOrder
set_option linter.unusedVariables false
set_option linter.unusedSimpArgs false
namespace Go.Proofs.Ythccfgkklimebaa.F
open Go Go.SX

theorem d21r (to : List (List Nat)) (h : to.length ≤ 100) (hd : ∀ r ∈ to, r.length < 1000000) (hs : ∀ v z, z ∈ rw_ to v → z < to.length) :
    Does Try.prog 21 [.ro 1 (rws to)] [] [] (fun r m => m = [] ∧ ∃ order low of many at_, Good to order low [] of many at_ [] ∧ (∀ v, v < to.length → ix order v ≠ 0) ∧ r = .tup [.ro 1 (rws (parts of many)), .ro 1 (nats of)]) := d21 to h hd hs

def bI (b : Option Nat) : Int := match b with | some q => (q : Int) | none => -1
/-- The program's state. -/
def st12 (n : Int) (l : List (Int × Int)) (of : List Nat) (many : Nat) (tc : List Bool) (out : List (List Nat)) (t : Nat) (s : Slots) : St :=
  ⟨(6, .ptr 12006 0 0 0) :: (8, .ptr 12008 0 0 0) :: (9, .fn 22 [.ptr 12006 0 0 0, .ptr 12005 0 0 0, .ptr 12007 0 0 0, .ptr 12008 0 0 0]) :: (10, .own 12074 1 0 out.length) :: (26, iv many) :: (27, iv t) :: s,
    [(12005, .obj 25 [.ro 1 (rws (toL n l))]), (12006, .obj 25 [.ro 1 (rws (parts of many))]), (12007, .obj 29 [.ro 1 (nats of)]), (12008, .obj 38 [.own 12023 1 0 many]), (12023, .arr 4 1 (bools tc)), (12074, .arr 29 1 (rws out))], []⟩
def I12 (n : Int) (l : List (Int × Int)) (of : List Nat) (many : Nat) (m : Nat) (st : St) : Prop := ∃ (t : Nat) (tc : List Bool) (out : List (List Nat)), t ≤ many ∧ tc.length = many ∧ unset tc + t = many ∧ Shut (bN n) (rB n l) (tv n of tc) ∧ out ++ rest (bN n) (rB n l) (tv n of tc) = compsL n l ∧ out.length = t ∧ m = many - t ∧ st = st12 n l of many tc out t []
def elC (n : Int) (l : List (Int × Int)) (of : List Nat) (many : Nat) (tc : List Bool) (c : Nat) : Prop := tc.getD c false = false ∧ frB (parts of many) (toL n l) of tc c = true
def I12b (n : Int) (l : List (Int × Int)) (of : List Nat) (many : Nat) (tc : List Bool) (out : List (List Nat)) (t : Nat) (m : Nat) (st : St) : Prop := ∃ (j : Nat) (best : Option Nat), j ≤ many ∧ (∀ c, c < j → elC n l of many tc c → ∃ b, best = some b ∧ hd of many b ≤ hd of many c) ∧ (∀ b, best = some b → b < j ∧ elC n l of many tc b) ∧ m = many - j ∧
  st = st12 n l of many tc out t [(11, iv (bI best)), (30, iv many), (31, iv j)]

/-- The closure's variables, seen as what nobody writes. -/
theorem le22 {n : Int} {l : List (Int × Int)} {of : List Nat} {many : Nat} {tc : List Bool} {st : St} {a : Int} (hl : tc.length = many) (h40 : SX.look st.slots 40 = some (.fn 22 [.ptr 12006 0 0 0, .ptr 12005 0 0 0, .ptr 12007 0 0 0, .ptr 12008 0 0 0])) (h41 : SX.look st.slots 41 = some (iv a))
    (m1 : SX.look st.mem 12005 = some (.obj 25 [.ro 1 (rws (toL n l))])) (m2 : SX.look st.mem 12006 = some (.obj 25 [.ro 1 (rws (parts of many))])) (m3 : SX.look st.mem 12007 = some (.obj 29 [.ro 1 (nats of)])) (m4 : SX.look st.mem 12008 = some (.obj 38 [.own 12023 1 0 many])) (m5 : SX.look st.mem 12023 = some (.arr 4 1 (bools tc))) (hf : st.fixed = []) :
    St.le st ⟨[(40, .fn 22 [.rop 1 [[.ro 1 (rws (parts of many))]] 0 0, .rop 1 [[.ro 1 (rws (toL n l))]] 0 0, .rop 1 [[.ro 1 (nats of)]] 0 0, .rop 1 [[.ro 1 (bools tc)]] 0 0]), (41, iv a)], [], []⟩ := by
  refine le_retell ?_ ?_ (by rw [hf]) (by rw [hf]; simp)
  · intro p hp
    simp only [List.mem_cons, List.not_mem_nil, or_false] at hp
    rcases hp with rfl | rfl
    · refine ⟨_, h40, .fn rfl (fun i x hx => ?_)⟩
      match i with
      | 0 => simp at hx; subst hx; exact Re.rop (xs := [.ro 1 (rws (parts of many))]) m2 rfl rfl (by simp) (by simp [isTree]) (fun i x hx => by match i with | 0 => simp at hx; subst hx; exact .same trivial | i + 1 => simp at hx)
      | 1 => simp at hx; subst hx; exact Re.rop (xs := [.ro 1 (rws (toL n l))]) m1 rfl rfl (by simp) (by simp [isTree]) (fun i x hx => by match i with | 0 => simp at hx; subst hx; exact .same trivial | i + 1 => simp at hx)
      | 2 => simp at hx; subst hx; exact Re.rop (xs := [.ro 1 (nats of)]) m3 rfl rfl (by simp) (by simp [isTree]) (fun i x hx => by match i with | 0 => simp at hx; subst hx; exact .same trivial | i + 1 => simp at hx)
      | 3 =>
        simp at hx; subst hx
        refine Re.rop (xs := [.ro 1 (bools tc)]) m4 rfl rfl (by simp) (by simp [isTree]) (fun i x hx => ?_)
        match i with
        | 0 =>
          simp at hx; subst hx
          have := Re.row (m := st.mem) (m' := []) (lo := 0) (n := many) m5 rfl (by omega) (by simp [hl])
          simpa [← hl, List.take_of_length_le] using this
        | i + 1 => simp at hx
      | i + 4 => simp at hx
    · exact ⟨_, h41, .same trivial⟩
  · intro p hp; simp at hp

theorem c12 : chkFn Try.prog 12 77 2 a12 a12R = true := by kernel_rfl
set_option maxHeartbeats 1500000 in
/-- colloquy/graph.Components -/
theorem d12 (n : Int) (l : List (Int × Int)) (hl : l.length ≤ 900000) : DoesT 12 [iv n, .ro 2 (eds l)] (.ro 1 (rws (compsL n l))) := by
  have hN := bN_le n
  have htl := toL_length n l
  refine Does.of (nt := 77) (ac := a12) (rds := a12R) c12 (fun c hc => ?_)
  unfold a12
  apply J.seq
  refine J.regE (by simp; rfl) ?_
  simp
  apply J.seq
  apply J.reg
  iterate 2 refine runL_step rfl (by simp; rfl) ?_
  refine runL_tree rfl (d20 n l (by omega)) (by simp) hc ?_
  simp
  iterate 2 refine runL_step rfl (by simp; rfl) ?_
  simp [runL]
  apply J.seq
  apply J.reg
  refine runL_step rfl (by simp; rfl) ?_
  refine runL_call [] [] rfl rfl (d21r (toL n l) (by rw [htl]; exact hN) (fun r hr => ?_) (fun v z hz => ?_)) (by simp) (by simp) (by simp) hc ?_
  · obtain ⟨a, _, rfl⟩ := List.mem_map.1 hr
    have := succ_length n l l.length a; omega
  · have he : eN n l v z := by rw [← toL_reach]; exact hz
    rw [htl]; exact he.2.1
  rintro rv m1 ⟨rfl, order, low, of, many, at_, hG, hvis, rfl⟩
  refine ⟨by simp, ?_⟩
  have hNum := hG.num hvis
  have hmany := hNum.small
  have hpl := parts_length (of := of) (many := many)
  simp
  iterate 7 refine runL_step rfl (by simp; rfl) ?_
  simp [runL]
  apply J.seq
  refine J.regE (by simp [hpl, bools_zero, show ((many : Nat) : Int) ≤ 281474976710656 from by omega]; rfl) ?_
  simp
  apply J.seq
  refine J.regE (by simp; rfl) ?_
  simp
  apply J.seq
  refine J.regE (by simp; rfl) ?_
  simp
  refine J.nilrow hc 10 12074 29 rfl rfl rfl ?_
  simp
  apply J.seq
  apply J.seq
  refine J.regE (by simp [hpl]; rfl) ?_
  simp
  apply J.block
  have hPP : ∀ r ∈ parts of many, r.length ≤ 1000000 ∧ ∀ i ∈ r, i < (toL n l).length := by
    intro r hr
    obtain ⟨c, hc', rfl⟩ := List.mem_map.1 hr
    refine ⟨Nat.le_trans (List.length_filter_le _ _) (by have := hNum.len; simp; omega), fun i hi => ?_⟩
    rw [htl, ← hNum.len]
    have := (List.mem_filter.1 hi).1
    simpa using this
  have hTT : ∀ r ∈ toL n l, r.length ≤ 1000000 ∧ ∀ k ∈ r, k < of.length := by
    intro r hr
    obtain ⟨a, ha, rfl⟩ := List.mem_map.1 hr
    refine ⟨by have := succ_length n l l.length a; omega, fun k hk => ?_⟩
    rw [hNum.len]; exact (mem_succ.1 hk).1
  refine J.loop hc (I12 n l of many) ?_ ?_
  · refine ⟨_, _, ?_, 0, List.replicate many false, [], by omega, by simp, by simp [unset], ?_, ?_, rfl, rfl, rfl⟩
    · apply le_sub <;> simp [st12]
    · have : tv n of (List.replicate many false) = List.replicate (bN n) false := by
        apply List.ext_getElem
        · simp [tv]
        · intro i h1 h2; simp [tv, List.getElem?_replicate]; split <;> rfl
      rw [this]; exact .start
    · have : tv n of (List.replicate many false) = List.replicate (bN n) false := by
        apply List.ext_getElem
        · simp [tv]
        · intro i h1 h2; simp [tv, List.getElem?_replicate]; split <;> rfl
      rw [this]; rfl
  rintro n st ⟨t, tc, out, ht, htc, hun, hsh, hout, hol, rfl, rfl⟩
  unfold st12
  apply J.seq
  refine J.regE (by simp; rfl) ?_
  simp
  apply J.seq
  apply J.cond; simp
  refine ⟨fun hlt => ?_, fun hlt => ?_⟩
  ·
    have hwt : IntKind.i64.wrap ((t : Int) + 1) = t + 1 := wrap_id (by omega) (by omega)
    have hOO : ∀ x ∈ of, 1 ≤ x ∧ x ≤ tc.length ∧ x ≤ 1000000 := by
      intro x hx
      obtain ⟨i, hi, rfl⟩ := List.mem_iff_getElem.1 hx
      have := hNum.pos i (by rw [← hNum.len]; exact hi)
      rw [ix_get hi] at this
      omega
    apply J.skip; simp
    apply J.seq
    apply J.block
    apply J.seq
    refine J.regE (by simp; rfl) ?_
    simp
    apply J.seq
    apply J.seq
    refine J.regE (by simp [hpl]; rfl) ?_
    simp
    apply J.block
    refine J.loop hc (I12b n l of many tc out t) ?_ ?_
    · refine ⟨_, _, ?_, 0, none, by omega, (fun c h => by omega), (fun b hb => by cases hb), rfl, rfl⟩
      apply le_sub <;> simp [st12, bI]
    rintro n st ⟨j, best, hj, hmin, hbest, rfl, rfl⟩
    unfold st12
    apply J.seq
    refine J.regE (by simp; rfl) ?_
    simp
    apply J.seq
    apply J.cond; simp
    refine ⟨fun hlt => ?_, fun hlt => ?_⟩
    ·
      have hwj : IntKind.i64.wrap ((j : Int) + 1) = j + 1 := wrap_id (by omega) (by omega)
      have hjt : j < tc.length := by omega
      have htg : tc.getD j false = tc[j] := by simp [hjt]
      have hPl : ∀ c (h : c < (parts of many).length), ∃ h0 : 0 < ((parts of many)[c]).length, ((parts of many)[c])[0] = hd of many c := by
        intro c h
        have hcm : c < many := by rw [← hpl]; exact h
        have e : (parts of many).getD c [] = (parts of many)[c] := by simp [h]
        obtain ⟨g1, g2, _⟩ := hNum.hdS hcm
        have hm := (mem_parts (of := of) (v := hd of many c) hcm).2 ⟨by rw [hNum.len]; exact g1, g2⟩
        unfold hd at hm ⊢
        rw [e] at hm ⊢
        cases hr : (parts of many)[c] with
        | nil => rw [hr] at hm; simp at hm
        | cons x r => exact ⟨by simp, by simp⟩
      apply J.skip; simp
      apply J.seq
      apply J.block
      apply J.seq
      refine J.regE (by simp; rfl) ?_
      simp
      apply J.seq
      have hcase : tc[j] = true ∨ (tc[j] = false ∧ frB (parts of many) (toL n l) of tc j = false) ∨ (tc[j] = false ∧ frB (parts of many) (toL n l) of tc j = true ∧ best = none) ∨ (∃ b, tc[j] = false ∧ frB (parts of many) (toL n l) of tc j = true ∧ best = some b ∧ hd of many j < hd of many b) ∨ (∃ b, tc[j] = false ∧ frB (parts of many) (toL n l) of tc j = true ∧ best = some b ∧ ¬ hd of many j < hd of many b) := by
        cases h1 : tc[j]
        · cases h2 : frB (parts of many) (toL n l) of tc j
          · simp
          · cases best with
            | none => simp
            | some b =>
              by_cases h3 : hd of many j < hd of many b
              · exact .inr (.inr (.inr (.inl ⟨b, rfl, rfl, rfl, h3⟩)))
              · exact .inr (.inr (.inr (.inr ⟨b, rfl, rfl, rfl, h3⟩)))
        · simp
      obtain ⟨hj0, hj1⟩ := hPl j (by rw [hpl]; exact hlt)
      have hjp : j < (parts of many).length := by rw [hpl]; exact hlt
      rcases hcase with htj | ⟨htj, hfr⟩ | ⟨htj, hfr, rfl⟩ | ⟨b, htj, hfr, rfl, hlt2⟩ | ⟨b, htj, hfr, rfl, hlt2⟩
      ·
        have hnot : ¬ elC n l of many tc j := fun h => by have := h.1; rw [htg, htj] at this; cases this
        apply J.draw; intro c' hc'
        iterate 8 refine runP_stepQ (by simp [hlt, hjt, htj]; rfl) ?_
        refine runP_skip rfl (by decide) ?_
        iterate 20 refine runP_stepQ (by simp [hlt, hjt, htj]; rfl) ?_
        simp [runP]
        apply J.cond; simp
        apply J.skip; simp
        refine J.regE (by simp [hwj]; rfl) ?_
        simp
        refine ⟨_, ?_, _, ?_, j + 1, best, by omega, fun c hcj hec => ?_, fun b hb => ⟨by have := (hbest b hb).1; omega, (hbest b hb).2⟩, rfl, rfl⟩
        · omega
        · apply le_sub <;> simp [st12]
        · by_cases e : c = j
          · subst e; exact absurd hec hnot
          · exact hmin c (by omega) hec
      ·
        have hnot : ¬ elC n l of many tc j := fun h => by have := h.2; rw [hfr] at this; cases this
        apply J.draw; intro c' hc'
        iterate 8 refine runP_stepQ (by simp [hlt, hjt, htj]; rfl) ?_
        refine runP_do rfl (runP_view (le22 (a := j) htc rfl rfl rfl rfl rfl rfl rfl rfl) rfl rfl (d22 (parts of many) (toL n l) of tc j (by rw [parts_length]; exact hlt) hPP hTT hOO) (by simp) ?_)
        rintro rv m1 ⟨rfl, rfl⟩
        refine ⟨rfl, rfl, ?_⟩
        rw [hfr]
        iterate 20 refine runP_stepQ (by simp [hlt, hjt, htj]; rfl) ?_
        simp [runP]
        apply J.cond; simp
        apply J.skip; simp
        refine J.regE (by simp [hwj]; rfl) ?_
        simp
        refine ⟨_, ?_, _, ?_, j + 1, best, by omega, fun c hcj hec => ?_, fun b hb => ⟨by have := (hbest b hb).1; omega, (hbest b hb).2⟩, rfl, rfl⟩
        · omega
        · apply le_sub <;> simp [st12]
        · by_cases e : c = j
          · subst e; exact absurd hec hnot
          · exact hmin c (by omega) hec
      ·
        apply J.draw; intro c' hc'
        iterate 8 refine runP_stepQ (by simp [hlt, hjt, htj]; rfl) ?_
        refine runP_do rfl (runP_view (le22 (a := j) htc rfl rfl rfl rfl rfl rfl rfl rfl) rfl rfl (d22 (parts of many) (toL n l) of tc j (by rw [parts_length]; exact hlt) hPP hTT hOO) (by simp) ?_)
        rintro rv m1 ⟨rfl, rfl⟩
        refine ⟨rfl, rfl, ?_⟩
        rw [hfr]
        iterate 20 refine runP_stepQ (by simp [hlt, hjt, htj, bI]; rfl) ?_
        simp [runP]
        apply J.cond; simp
        refine J.regE (by simp; rfl) ?_
        simp
        refine J.regE (by simp [hwj]; rfl) ?_
        simp
        refine ⟨_, ?_, _, ?_, j + 1, some j, by omega, fun c hcj hec => ⟨j, rfl, ?_⟩, fun b hb => ?_, rfl, rfl⟩
        · omega
        · apply le_sub <;> simp [st12, bI]
        · by_cases e : c = j
          · subst e; omega
          · obtain ⟨b, hb, _⟩ := hmin c (by omega) hec; cases hb
        · injection hb with hb; subst hb; exact ⟨by omega, by rw [htg]; exact htj, hfr⟩
      ·
        have hbI : ¬ ((b : Nat) : Int) < 0 := by omega
        have hbm := (hbest b rfl).1
        have hbp : b < (parts of many).length := by rw [hpl]; omega
        obtain ⟨hb0, hb1⟩ := hPl b hbp
        have hbm2 : b < many := by omega
        apply J.draw; intro c' hc'
        iterate 8 refine runP_stepQ (by simp [hlt, hjt, htj]; rfl) ?_
        refine runP_do rfl (runP_view (le22 (a := j) htc rfl rfl rfl rfl rfl rfl rfl rfl) rfl rfl (d22 (parts of many) (toL n l) of tc j (by rw [parts_length]; exact hlt) hPP hTT hOO) (by simp) ?_)
        rintro rv m1 ⟨rfl, rfl⟩
        refine ⟨rfl, rfl, ?_⟩
        rw [hfr]
        iterate 20 refine runP_stepQ (by simp [hlt, hjt, htj, bI, hbI, hjp, hj0, hj1, hbp, hb0, hb1, hlt2, hpl, hbm2]; rfl) ?_
        simp [runP]
        apply J.cond; simp
        refine J.regE (by simp; rfl) ?_
        simp
        refine J.regE (by simp [hwj]; rfl) ?_
        simp
        refine ⟨_, ?_, _, ?_, j + 1, some j, by omega, fun c hcj hec => ⟨j, rfl, ?_⟩, fun b hb => ?_, rfl, rfl⟩
        · omega
        · apply le_sub <;> simp [st12, bI]
        · by_cases e : c = j
          · subst e; omega
          · obtain ⟨b', hb', hle⟩ := hmin c (by omega) hec; injection hb' with hb'; subst hb'; omega
        · injection hb with hb; subst hb; exact ⟨by omega, by rw [htg]; exact htj, hfr⟩
      ·
        have hbI : ¬ ((b : Nat) : Int) < 0 := by omega
        have hbm := (hbest b rfl).1
        have hbp : b < (parts of many).length := by rw [hpl]; omega
        obtain ⟨hb0, hb1⟩ := hPl b hbp
        have hbm2 : b < many := by omega
        apply J.draw; intro c' hc'
        iterate 8 refine runP_stepQ (by simp [hlt, hjt, htj]; rfl) ?_
        refine runP_do rfl (runP_view (le22 (a := j) htc rfl rfl rfl rfl rfl rfl rfl rfl) rfl rfl (d22 (parts of many) (toL n l) of tc j (by rw [parts_length]; exact hlt) hPP hTT hOO) (by simp) ?_)
        rintro rv m1 ⟨rfl, rfl⟩
        refine ⟨rfl, rfl, ?_⟩
        rw [hfr]
        iterate 20 refine runP_stepQ (by simp [hlt, hjt, htj, bI, hbI, hjp, hj0, hj1, hbp, hb0, hb1, hlt2, hpl, hbm2]; rfl) ?_
        simp [runP]
        apply J.cond; simp
        apply J.skip; simp
        refine J.regE (by simp [hwj]; rfl) ?_
        simp
        refine ⟨_, ?_, _, ?_, j + 1, some b, by omega, fun c hcj hec => ?_, fun b' hb' => ⟨by have := (hbest b' hb').1; omega, (hbest b' hb').2⟩, rfl, rfl⟩
        · omega
        · apply le_sub <;> simp [st12, bI]
        · by_cases e : c = j
          · subst e; exact ⟨b, rfl, by omega⟩
          · exact hmin c (by omega) hec
    ·
      have hjm : many = j := by omega
      subst hjm
      obtain ⟨c0, hc0, he0⟩ := hNum.exists_ htc hsh (by omega)
      obtain ⟨b, rfl, _⟩ := hmin c0 hc0 he0
      obtain ⟨hbm, hbe⟩ := hbest b rfl
      have hbmin : ∀ c, c < many → tc.getD c false = false → frB (parts of many) (toL n l) of tc c = true → hd of many b ≤ hd of many c := fun c h1 h2 h3 => by
        obtain ⟨b', hb', hle⟩ := hmin c h1 ⟨h2, h3⟩
        injection hb' with hb'; subst hb'; exact hle
      have hbt : b < tc.length := by omega
      have hbf : tc[b] = false := by have := hbe.1; simpa [hbt] using this
      have hbP : b < (parts of many).length := by rw [hpl]; exact hbm
      simp only [bI]
      apply J.exit; simp
      apply J.seq
      refine J.regE (by simp [hbm, hbt]; rfl) ?_
      simp
      refine J.regE (by simp [hbm, hbP, hpl, List.take_of_length_le, show (out.length + 1) * 24 ≤ 140737488355328 from by omega]; rfl) ?_
      simp
      refine J.regE (by simp [hwt]; rfl) ?_
      simp
      have hnx := hNum.nextS htc hsh hbm hbe.1 hbe.2 hbmin
      rw [hnx] at hout
      have hset := unset_set hbt hbf
      refine ⟨_, ?_, _, ?_, t + 1, tc.set b true, out ++ [(parts of many).getD b []], by omega, by simp [htc], by omega, hNum.shutS htc hsh hbm hbe.1 hbe.2, by rw [List.append_assoc]; exact hout, by simp [hol], rfl, rfl⟩
      · omega
      · have e : (parts of many).getD b [] = (parts of many)[b] := by simp [hbP]
        rw [e]
        apply le_sub <;> simp [st12]
  ·
    have : t = many := by omega
    subst this
    rw [rest_told hNum htc (by omega), List.append_nil] at hout
    subst hout
    apply J.exit; simp
    apply J.seq
    refine J.freeze hc 12074 rfl ?_
    simp [List.take_of_length_le]
    refine J.regE (by simp; rfl) ?_
    simp
    apply J.ret
    refine ⟨by simp, rfl, _, [], by simp [a12R]; rfl, ?_⟩
    simp [hol]

end Go.Proofs.Ythccfgkklimebaa.F
