/- Parts of a symbolic execution and of walks by it, for the statements of this seat: PD9, W2, PAwake, PPL, Sp, W3, W4. -/
import Derived.Test.YtdekelhmneeniaaQb6
set_option linter.unusedVariables false
set_option linter.unusedSimpArgs false
namespace Go.Proofs.Ytdekelhmneeniaa.P11
open Go Go.SX
theorem d21r (to : List (List Nat)) (h : to.length ≤ 100) (hd : ∀ r ∈ to, r.length < 1000000) (hs : ∀ v z, z ∈ rw_ to v → z < to.length) :
    Does Try.prog 50 [.ro 1 (rws to)] [] [] (fun r m => m = [] ∧ ∃ order low of many at_, Good to order low [] of many at_ [] ∧ (∀ v, v < to.length → ix order v ≠ 0) ∧ r = .tup [.ro 1 (rws (parts of many)), .ro 1 (nats of)]) := d21 to h hd hs
def bI (b : Option Nat) : Int := match b with | some q => (q : Int) | none => -1
def st12 (n : Int) (l : List (Int × Int)) (of : List Nat) (many : Nat) (tc : List Bool) (out : List (List Nat)) (t : Nat) (s : Slots) : St :=
  ⟨(6, .ptr 12006 0 0 0) :: (8, .ptr 12008 0 0 0) :: (9, .fn 51 [.ptr 12006 0 0 0, .ptr 12005 0 0 0, .ptr 12007 0 0 0, .ptr 12008 0 0 0]) :: (10, .own 12074 1 0 out.length) :: (26, iv many) :: (27, iv t) :: s,
    [(12005, .obj 48 [.ro 1 (rws (toL n l))]), (12006, .obj 48 [.ro 1 (rws (parts of many))]), (12007, .obj 26 [.ro 1 (nats of)]), (12008, .obj 41 [.own 12023 1 0 many]), (12023, .arr 4 1 (bools tc)), (12074, .arr 26 1 (rws out))], []⟩
def I12 (n : Int) (l : List (Int × Int)) (of : List Nat) (many : Nat) (m : Nat) (st : St) : Prop := ∃ (t : Nat) (tc : List Bool) (out : List (List Nat)), t ≤ many ∧ tc.length = many ∧ unset tc + t = many ∧ Shut (bN n) (rB n l) (tv n of tc) ∧ out ++ rest (bN n) (rB n l) (tv n of tc) = compsL n l ∧ out.length = t ∧ m = many - t ∧ st = st12 n l of many tc out t []
def elC (n : Int) (l : List (Int × Int)) (of : List Nat) (many : Nat) (tc : List Bool) (c : Nat) : Prop := tc.getD c false = false ∧ frB (parts of many) (toL n l) of tc c = true
def I12b (n : Int) (l : List (Int × Int)) (of : List Nat) (many : Nat) (tc : List Bool) (out : List (List Nat)) (t : Nat) (m : Nat) (st : St) : Prop := ∃ (j : Nat) (best : Option Nat), j ≤ many ∧ (∀ c, c < j → elC n l of many tc c → ∃ b, best = some b ∧ hd of many b ≤ hd of many c) ∧ (∀ b, best = some b → b < j ∧ elC n l of many tc b) ∧ m = many - j ∧
  st = st12 n l of many tc out t [(11, iv (bI best)), (30, iv many), (31, iv j)]
theorem le22 {n : Int} {l : List (Int × Int)} {of : List Nat} {many : Nat} {tc : List Bool} {st : St} {a : Int} (hl : tc.length = many) (h40 : SX.look st.slots 40 = some (.fn 51 [.ptr 12006 0 0 0, .ptr 12005 0 0 0, .ptr 12007 0 0 0, .ptr 12008 0 0 0])) (h41 : SX.look st.slots 41 = some (iv a))
    (m1 : SX.look st.mem 12005 = some (.obj 48 [.ro 1 (rws (toL n l))])) (m2 : SX.look st.mem 12006 = some (.obj 48 [.ro 1 (rws (parts of many))])) (m3 : SX.look st.mem 12007 = some (.obj 26 [.ro 1 (nats of)])) (m4 : SX.look st.mem 12008 = some (.obj 41 [.own 12023 1 0 many])) (m5 : SX.look st.mem 12023 = some (.arr 4 1 (bools tc))) (hf : st.fixed = []) :
    St.le st ⟨[(40, .fn 51 [.rop 1 [[.ro 1 (rws (parts of many))]] 0 0, .rop 1 [[.ro 1 (rws (toL n l))]] 0 0, .rop 1 [[.ro 1 (nats of)]] 0 0, .rop 1 [[.ro 1 (bools tc)]] 0 0]), (41, iv a)], [], []⟩ := by
  refine le_retell ?_ ?_ (by rw [hf]) (by rw [hf]; simp)
  · intro p hp
    simp only [List.mem_cons, List.not_mem_nil, or_false] at hp
    rcases hp with rfl | rfl
    · refine ⟨_, h40, .fn rfl (fun i x hx => ?_)⟩
      match i with
      | 0 => simp at hx; subst hx; exact Re.rop (xs := [.ro 1 (rws (parts of many))]) m2 rfl rfl (by simp) (by simp [isTree]) (fun i x hx => by match i with | 0 => simp at hx; subst hx; exact .same trivial | i + 1 => simp at hx)
      | 1 => simp at hx; subst hx; exact Re.rop (xs := [.ro 1 (rws (toL n l))]) m1 rfl rfl (by simp) (by simp [isTree]) (fun i x hx => by match i with | 0 => simp at hx; subst hx; exact .same trivial | i + 1 => simp at hx)
      | 2 => simp at hx; subst hx; exact Re.rop (xs := [.ro 1 (nats of)]) m3 rfl rfl (by simp) (by simp [isTree]) (fun i x hx => by match i with | 0 => simp at hx; subst hx; exact .same trivial | i + 1 => simp at hx)
      | 3 =>
        simp at hx; subst hx
        refine Re.rop (xs := [.ro 1 (bools tc)]) m4 rfl rfl (by simp) (by simp [isTree]) (fun i x hx => ?_)
        match i with
        | 0 =>
          simp at hx; subst hx
          have := Re.row (m := st.mem) (m' := []) (lo := 0) (n := many) m5 rfl (by omega) (by simp [hl])
          simpa [← hl, List.take_of_length_le] using this
        | i + 1 => simp at hx
      | i + 4 => simp at hx
    · exact ⟨_, h41, .same trivial⟩
  · intro p hp; simp at hp
theorem c12 : chkFn Try.prog 26 77 2 a12 a12R = true := by kernel_rfl
set_option maxHeartbeats 1500000 in
theorem d12 (n : Int) (l : List (Int × Int)) (hl : l.length ≤ 900000) : DoesT 26 [iv n, .ro 2 (eds l)] (.ro 1 (rws (compsL n l))) := by
  have hN := bN_le n
  have htl := toL_length n l
  refine Does.of (nt := 77) (ac := a12) (rds := a12R) c12 (fun c hc => ?_)
  unfold a12
  apply J.seq
  refine J.regE (by simp; rfl) ?_
  simp
  apply J.seq
  apply J.reg
  iterate 2 refine runL_step rfl (by simp; rfl) ?_
  refine runL_tree rfl (d20 n l (by omega)) (by simp) hc ?_
  simp
  iterate 2 refine runL_step rfl (by simp; rfl) ?_
  simp [runL]
  apply J.seq
  apply J.reg
  refine runL_step rfl (by simp; rfl) ?_
  refine runL_call [] [] rfl rfl (d21r (toL n l) (by rw [htl]; exact hN) (fun r hr => ?_) (fun v z hz => ?_)) (by simp) (by simp) (by simp) hc ?_
  · obtain ⟨a, _, rfl⟩ := List.mem_map.1 hr
    have := succ_length n l l.length a; omega
  · have he : eN n l v z := by rw [← toL_reach]; exact hz
    rw [htl]; exact he.2.1
  rintro rv m1 ⟨rfl, order, low, of, many, at_, hG, hvis, rfl⟩
  refine ⟨by simp, ?_⟩
  have hNum := hG.num hvis
  have hmany := hNum.small
  have hpl := parts_length (of := of) (many := many)
  simp
  iterate 7 refine runL_step rfl (by simp; rfl) ?_
  simp [runL]
  apply J.seq
  refine J.regE (by simp [hpl, bools_zero, show ((many : Nat) : Int) ≤ 281474976710656 from by omega]; rfl) ?_
  simp
  apply J.seq
  refine J.regE (by simp; rfl) ?_
  simp
  apply J.seq
  refine J.regE (by simp; rfl) ?_
  simp
  refine J.nilrow hc 10 12074 26 rfl rfl rfl ?_
  simp
  apply J.seq
  apply J.seq
  refine J.regE (by simp [hpl]; rfl) ?_
  simp
  apply J.block
  have hPP : ∀ r ∈ parts of many, r.length ≤ 1000000 ∧ ∀ i ∈ r, i < (toL n l).length := by
    intro r hr
    obtain ⟨c, hc', rfl⟩ := List.mem_map.1 hr
    refine ⟨Nat.le_trans (List.length_filter_le _ _) (by have := hNum.len; simp; omega), fun i hi => ?_⟩
    rw [htl, ← hNum.len]
    have := (List.mem_filter.1 hi).1
    simpa using this
  have hTT : ∀ r ∈ toL n l, r.length ≤ 1000000 ∧ ∀ k ∈ r, k < of.length := by
    intro r hr
    obtain ⟨a, ha, rfl⟩ := List.mem_map.1 hr
    refine ⟨by have := succ_length n l l.length a; omega, fun k hk => ?_⟩
    rw [hNum.len]; exact (mem_succ.1 hk).1
  refine J.loop hc (I12 n l of many) ?_ ?_
  · refine ⟨_, _, ?_, 0, List.replicate many false, [], by omega, by simp, by simp [unset], ?_, ?_, rfl, rfl, rfl⟩
    · apply le_sub <;> simp [st12]
    · have : tv n of (List.replicate many false) = List.replicate (bN n) false := by
        apply List.ext_getElem
        · simp [tv]
        · intro i h1 h2; simp [tv, List.getElem?_replicate]; split <;> rfl
      rw [this]; exact .start
    · have : tv n of (List.replicate many false) = List.replicate (bN n) false := by
        apply List.ext_getElem
        · simp [tv]
        · intro i h1 h2; simp [tv, List.getElem?_replicate]; split <;> rfl
      rw [this]; rfl
  rintro n st ⟨t, tc, out, ht, htc, hun, hsh, hout, hol, rfl, rfl⟩
  unfold st12
  apply J.seq
  refine J.regE (by simp; rfl) ?_
  simp
  apply J.seq
  apply J.cond; simp
  refine ⟨fun hlt => ?_, fun hlt => ?_⟩
  ·
    have hwt : IntKind.i64.wrap ((t : Int) + 1) = t + 1 := wrap_id (by omega) (by omega)
    have hOO : ∀ x ∈ of, 1 ≤ x ∧ x ≤ tc.length ∧ x ≤ 1000000 := by
      intro x hx
      obtain ⟨i, hi, rfl⟩ := List.mem_iff_getElem.1 hx
      have := hNum.pos i (by rw [← hNum.len]; exact hi)
      rw [ix_get hi] at this
      omega
    apply J.skip; simp
    apply J.seq
    apply J.block
    apply J.seq
    refine J.regE (by simp; rfl) ?_
    simp
    apply J.seq
    apply J.seq
    refine J.regE (by simp [hpl]; rfl) ?_
    simp
    apply J.block
    refine J.loop hc (I12b n l of many tc out t) ?_ ?_
    · refine ⟨_, _, ?_, 0, none, by omega, (fun c h => by omega), (fun b hb => by cases hb), rfl, rfl⟩
      apply le_sub <;> simp [st12, bI]
    rintro n st ⟨j, best, hj, hmin, hbest, rfl, rfl⟩
    unfold st12
    apply J.seq
    refine J.regE (by simp; rfl) ?_
    simp
    apply J.seq
    apply J.cond; simp
    refine ⟨fun hlt => ?_, fun hlt => ?_⟩
    ·
      have hwj : IntKind.i64.wrap ((j : Int) + 1) = j + 1 := wrap_id (by omega) (by omega)
      have hjt : j < tc.length := by omega
      have htg : tc.getD j false = tc[j] := by simp [hjt]
      have hPl : ∀ c (h : c < (parts of many).length), ∃ h0 : 0 < ((parts of many)[c]).length, ((parts of many)[c])[0] = hd of many c := by
        intro c h
        have hcm : c < many := by rw [← hpl]; exact h
        have e : (parts of many).getD c [] = (parts of many)[c] := by simp [h]
        obtain ⟨g1, g2, _⟩ := hNum.hdS hcm
        have hm := (mem_parts (of := of) (v := hd of many c) hcm).2 ⟨by rw [hNum.len]; exact g1, g2⟩
        unfold hd at hm ⊢
        rw [e] at hm ⊢
        cases hr : (parts of many)[c] with
        | nil => rw [hr] at hm; simp at hm
        | cons x r => exact ⟨by simp, by simp⟩
      apply J.skip; simp
      apply J.seq
      apply J.block
      apply J.seq
      refine J.regE (by simp; rfl) ?_
      simp
      apply J.seq
      have hcase : tc[j] = true ∨ (tc[j] = false ∧ frB (parts of many) (toL n l) of tc j = false) ∨ (tc[j] = false ∧ frB (parts of many) (toL n l) of tc j = true ∧ best = none) ∨ (∃ b, tc[j] = false ∧ frB (parts of many) (toL n l) of tc j = true ∧ best = some b ∧ hd of many j < hd of many b) ∨ (∃ b, tc[j] = false ∧ frB (parts of many) (toL n l) of tc j = true ∧ best = some b ∧ ¬ hd of many j < hd of many b) := by
        cases h1 : tc[j]
        · cases h2 : frB (parts of many) (toL n l) of tc j
          · simp
          · cases best with
            | none => simp
            | some b =>
              by_cases h3 : hd of many j < hd of many b
              · exact .inr (.inr (.inr (.inl ⟨b, rfl, rfl, rfl, h3⟩)))
              · exact .inr (.inr (.inr (.inr ⟨b, rfl, rfl, rfl, h3⟩)))
        · simp
      obtain ⟨hj0, hj1⟩ := hPl j (by rw [hpl]; exact hlt)
      have hjp : j < (parts of many).length := by rw [hpl]; exact hlt
      rcases hcase with htj | ⟨htj, hfr⟩ | ⟨htj, hfr, rfl⟩ | ⟨b, htj, hfr, rfl, hlt2⟩ | ⟨b, htj, hfr, rfl, hlt2⟩
      ·
        have hnot : ¬ elC n l of many tc j := fun h => by have := h.1; rw [htg, htj] at this; cases this
        apply J.draw; intro c' hc'
        iterate 8 refine runP_stepQ (by simp [hlt, hjt, htj]; rfl) ?_
        refine runP_skip rfl (by decide) ?_
        iterate 20 refine runP_stepQ (by simp [hlt, hjt, htj]; rfl) ?_
        simp [runP]
        apply J.cond; simp
        apply J.skip; simp
        refine J.regE (by simp [hwj]; rfl) ?_
        simp
        refine ⟨_, ?_, _, ?_, j + 1, best, by omega, fun c hcj hec => ?_, fun b hb => ⟨by have := (hbest b hb).1; omega, (hbest b hb).2⟩, rfl, rfl⟩
        · omega
        · apply le_sub <;> simp [st12]
        · by_cases e : c = j
          · subst e; exact absurd hec hnot
          · exact hmin c (by omega) hec
      ·
        have hnot : ¬ elC n l of many tc j := fun h => by have := h.2; rw [hfr] at this; cases this
        apply J.draw; intro c' hc'
        iterate 8 refine runP_stepQ (by simp [hlt, hjt, htj]; rfl) ?_
        refine runP_do rfl (runP_view (le22 (a := j) htc rfl rfl rfl rfl rfl rfl rfl rfl) rfl rfl (d22 (parts of many) (toL n l) of tc j (by rw [parts_length]; exact hlt) hPP hTT hOO) (by simp) ?_)
        rintro rv m1 ⟨rfl, rfl⟩
        refine ⟨rfl, rfl, ?_⟩
        rw [hfr]
        iterate 20 refine runP_stepQ (by simp [hlt, hjt, htj]; rfl) ?_
        simp [runP]
        apply J.cond; simp
        apply J.skip; simp
        refine J.regE (by simp [hwj]; rfl) ?_
        simp
        refine ⟨_, ?_, _, ?_, j + 1, best, by omega, fun c hcj hec => ?_, fun b hb => ⟨by have := (hbest b hb).1; omega, (hbest b hb).2⟩, rfl, rfl⟩
        · omega
        · apply le_sub <;> simp [st12]
        · by_cases e : c = j
          · subst e; exact absurd hec hnot
          · exact hmin c (by omega) hec
      ·
        apply J.draw; intro c' hc'
        iterate 8 refine runP_stepQ (by simp [hlt, hjt, htj]; rfl) ?_
        refine runP_do rfl (runP_view (le22 (a := j) htc rfl rfl rfl rfl rfl rfl rfl rfl) rfl rfl (d22 (parts of many) (toL n l) of tc j (by rw [parts_length]; exact hlt) hPP hTT hOO) (by simp) ?_)
        rintro rv m1 ⟨rfl, rfl⟩
        refine ⟨rfl, rfl, ?_⟩
        rw [hfr]
        iterate 20 refine runP_stepQ (by simp [hlt, hjt, htj, bI]; rfl) ?_
        simp [runP]
        apply J.cond; simp
        refine J.regE (by simp; rfl) ?_
        simp
        refine J.regE (by simp [hwj]; rfl) ?_
        simp
        refine ⟨_, ?_, _, ?_, j + 1, some j, by omega, fun c hcj hec => ⟨j, rfl, ?_⟩, fun b hb => ?_, rfl, rfl⟩
        · omega
        · apply le_sub <;> simp [st12, bI]
        · by_cases e : c = j
          · subst e; omega
          · obtain ⟨b, hb, _⟩ := hmin c (by omega) hec; cases hb
        · injection hb with hb; subst hb; exact ⟨by omega, by rw [htg]; exact htj, hfr⟩
      ·
        have hbI : ¬ ((b : Nat) : Int) < 0 := by omega
        have hbm := (hbest b rfl).1
        have hbp : b < (parts of many).length := by rw [hpl]; omega
        obtain ⟨hb0, hb1⟩ := hPl b hbp
        have hbm2 : b < many := by omega
        apply J.draw; intro c' hc'
        iterate 8 refine runP_stepQ (by simp [hlt, hjt, htj]; rfl) ?_
        refine runP_do rfl (runP_view (le22 (a := j) htc rfl rfl rfl rfl rfl rfl rfl rfl) rfl rfl (d22 (parts of many) (toL n l) of tc j (by rw [parts_length]; exact hlt) hPP hTT hOO) (by simp) ?_)
        rintro rv m1 ⟨rfl, rfl⟩
        refine ⟨rfl, rfl, ?_⟩
        rw [hfr]
        iterate 20 refine runP_stepQ (by simp [hlt, hjt, htj, bI, hbI, hjp, hj0, hj1, hbp, hb0, hb1, hlt2, hpl, hbm2]; rfl) ?_
        simp [runP]
        apply J.cond; simp
        refine J.regE (by simp; rfl) ?_
        simp
        refine J.regE (by simp [hwj]; rfl) ?_
        simp
        refine ⟨_, ?_, _, ?_, j + 1, some j, by omega, fun c hcj hec => ⟨j, rfl, ?_⟩, fun b hb => ?_, rfl, rfl⟩
        · omega
        · apply le_sub <;> simp [st12, bI]
        · by_cases e : c = j
          · subst e; omega
          · obtain ⟨b', hb', hle⟩ := hmin c (by omega) hec; injection hb' with hb'; subst hb'; omega
        · injection hb with hb; subst hb; exact ⟨by omega, by rw [htg]; exact htj, hfr⟩
      ·
        have hbI : ¬ ((b : Nat) : Int) < 0 := by omega
        have hbm := (hbest b rfl).1
        have hbp : b < (parts of many).length := by rw [hpl]; omega
        obtain ⟨hb0, hb1⟩ := hPl b hbp
        have hbm2 : b < many := by omega
        apply J.draw; intro c' hc'
        iterate 8 refine runP_stepQ (by simp [hlt, hjt, htj]; rfl) ?_
        refine runP_do rfl (runP_view (le22 (a := j) htc rfl rfl rfl rfl rfl rfl rfl rfl) rfl rfl (d22 (parts of many) (toL n l) of tc j (by rw [parts_length]; exact hlt) hPP hTT hOO) (by simp) ?_)
        rintro rv m1 ⟨rfl, rfl⟩
        refine ⟨rfl, rfl, ?_⟩
        rw [hfr]
        iterate 20 refine runP_stepQ (by simp [hlt, hjt, htj, bI, hbI, hjp, hj0, hj1, hbp, hb0, hb1, hlt2, hpl, hbm2]; rfl) ?_
        simp [runP]
        apply J.cond; simp
        apply J.skip; simp
        refine J.regE (by simp [hwj]; rfl) ?_
        simp
        refine ⟨_, ?_, _, ?_, j + 1, some b, by omega, fun c hcj hec => ?_, fun b' hb' => ⟨by have := (hbest b' hb').1; omega, (hbest b' hb').2⟩, rfl, rfl⟩
        · omega
        · apply le_sub <;> simp [st12, bI]
        · by_cases e : c = j
          · subst e; exact ⟨b, rfl, by omega⟩
          · exact hmin c (by omega) hec
    ·
      have hjm : many = j := by omega
      subst hjm
      obtain ⟨c0, hc0, he0⟩ := hNum.exists_ htc hsh (by omega)
      obtain ⟨b, rfl, _⟩ := hmin c0 hc0 he0
      obtain ⟨hbm, hbe⟩ := hbest b rfl
      have hbmin : ∀ c, c < many → tc.getD c false = false → frB (parts of many) (toL n l) of tc c = true → hd of many b ≤ hd of many c := fun c h1 h2 h3 => by
        obtain ⟨b', hb', hle⟩ := hmin c h1 ⟨h2, h3⟩
        injection hb' with hb'; subst hb'; exact hle
      have hbt : b < tc.length := by omega
      have hbf : tc[b] = false := by have := hbe.1; simpa [hbt] using this
      have hbP : b < (parts of many).length := by rw [hpl]; exact hbm
      simp only [bI]
      apply J.exit; simp
      apply J.seq
      refine J.regE (by simp [hbm, hbt]; rfl) ?_
      simp
      refine J.regE (by simp [hbm, hbP, hpl, List.take_of_length_le, show (out.length + 1) * 24 ≤ 140737488355328 from by omega]; rfl) ?_
      simp
      refine J.regE (by simp [hwt]; rfl) ?_
      simp
      have hnx := hNum.nextS htc hsh hbm hbe.1 hbe.2 hbmin
      rw [hnx] at hout
      have hset := unset_set hbt hbf
      refine ⟨_, ?_, _, ?_, t + 1, tc.set b true, out ++ [(parts of many).getD b []], by omega, by simp [htc], by omega, hNum.shutS htc hsh hbm hbe.1 hbe.2, by rw [List.append_assoc]; exact hout, by simp [hol], rfl, rfl⟩
      · omega
      · have e : (parts of many).getD b [] = (parts of many)[b] := by simp [hbP]
        rw [e]
        apply le_sub <;> simp [st12]
  ·
    have : t = many := by omega
    subst this
    rw [rest_told hNum htc (by omega), List.append_nil] at hout
    subst hout
    apply J.exit; simp
    apply J.seq
    refine J.freeze hc 12074 rfl ?_
    simp [List.take_of_length_le]
    refine J.regE (by simp; rfl) ?_
    simp
    apply J.ret
    refine ⟨by simp, rfl, _, [], by simp [a12R]; rfl, ?_⟩
    simp [hol]
end Go.Proofs.Ytdekelhmneeniaa.P11
namespace Go.Proofs.Ytdekelhmneeniaa.F
open Go Go.SX
def ixF {α : Type} (p : α → Bool) : List α → Nat → Int
 | [], _ => -1
 | x :: r, i => if p x then (i : Int) else ixF p r (i + 1)
theorem ixF_pos {α : Type} (p : α → Bool) : ∀ (l : List α) (i : Nat), decide (0 ≤ ixF p l i) = l.any p
 | [], i => by simp [ixF]
 | x :: r, i => by
  simp only [ixF, List.any_cons]
  split
  ·rename_i h; simp [h]
  ·rename_i h; rw [ixF_pos p r (i + 1)]; simp [h]
theorem any_mem (l : List (Int × Int)) (x : Int × Int) : (l.any fun y => decide (y = x)) = decide (x ∈ l) := by rw [Bool.eq_iff_iff]; simp only [List.any_eq_true, decide_eq_true_eq]; exact ⟨fun ⟨y, h, e⟩ => e ▸ h, fun h => ⟨x, h, rfl⟩⟩
theorem dep_in {d : List Int} {y : Int} (h : ¬ y < 1) (h1 : ¬ (d.length : Int) < y) : dep d y = d.getD (y - 1).toNat 0 := by unfold dep; rw [if_neg (by omega)]
theorem dep_out {d : List Int} {y : Int} (h : y < 1 ∨ (d.length : Int) < y) : dep d y = 0 := if_pos h
def I65 (l : List Int) (g : Nat) (cs : List AV) (p : Int → Bool) (m : Nat) (st : St) : Prop := ∃ i : Nat, i ≤ l.length ∧ m = l.length - i ∧ ixF p l 0 = ixF p (l.drop i) i ∧ st = ⟨[(0, .ro 1 (ints l)), (1, .fn g cs), (7, iv l.length), (8, iv i)], [], []⟩
def I64 (l : List (Int × Int)) (g : Nat) (cs : List AV) (p : Int × Int → Bool) (m : Nat) (st : St) : Prop := ∃ i : Nat, i ≤ l.length ∧ m = l.length - i ∧ ixF p l 0 = ixF p (l.drop i) i ∧ st = ⟨[(0, .ro 2 (eds l)), (1, .fn g cs), (7, iv l.length), (8, iv i)], [], []⟩
def I63 (l : List (Int × Int)) (x : Int × Int) (m : Nat) (st : St) : Prop := ∃ i : Nat, i ≤ l.length ∧ m = l.length - i ∧ ixF (fun y => decide (y = x)) l 0 = ixF (fun y => decide (y = x)) (l.drop i) i ∧ st = ⟨[(0, .ro 2 (eds l)), (3, .ptr 63003 0 0 0), (7, iv l.length), (8, iv i)], [(63003, .obj 25 (eI x))], []⟩
def I19 (l : List (Int × Int)) (x : Int × Int) (m : Nat) (st : St) : Prop := ∃ i : Nat, i ≤ l.length ∧ m = l.length - i ∧ (l.any fun y => decide (y = x)) = ((l.drop i).any fun y => decide (y = x)) ∧ st = ⟨[(0, .ro 2 (eds l)), (3, .ptr 19003 0 0 0), (5, iv i)], [(19003, .obj 25 (eI x))], []⟩
def I37 (n : Node) (m : Nat) (st : St) : Prop := ∃ i : Nat, i ≤ n.d.length ∧ m = n.d.length - i ∧ (n.d.any fun x => decide (60 < x)) = ((n.d.drop i).any fun x => decide (60 < x)) ∧ st = ⟨[(1, .ptr 37001 0 0 0), (3, iv i)], [(37001, .obj 30 (eN n))], []⟩
def I11 (a b : List (Int × Int)) (m : Nat) (st : St) : Prop := ∃ i : Nat, i ≤ a.length ∧ a.take i = b.take i ∧ m = a.length - i ∧ st = ⟨[(0, .ro 2 (eds a)), (1, .ro 2 (eds b)), (5, iv i)], [], []⟩
def I18 (l : List (Int × Int)) (x : Int × Int) (m : Nat) (st : St) : Prop := ∃ i : Nat, i ≤ l.length ∧ m = l.length - i ∧ ixF (fun y => decide (y = x)) l 0 = ixF (fun y => decide (y = x)) (l.drop i) i ∧ st = ⟨[(0, .ro 2 (eds l)), (3, .ptr 18003 0 0 0), (5, iv i)], [(18003, .obj 25 (eI x))], []⟩
def fewN (l : List Node) : Bool := decide (l.length ≤ 30) && l.all fun n => decide (n.d.length ≤ 7)
def I10 (l : List Node) (m : Nat) (st : St) : Prop := ∃ i : Nat, i ≤ l.length ∧ m = l.length - i ∧ (l.all fun n => decide (n.d.length ≤ 7)) = ((l.drop i).all fun n => decide (n.d.length ≤ 7)) ∧ st = ⟨[(0, .ro 4 (eNs l)), (3, iv i)], [], []⟩
theorem c36 : chkFn Try.prog 36 18 2 a36 a36R = true := by kernel_rfl
theorem d36 (d : List Int) (y : Int) (hd : d.length < 1000000) : DoesT 36 [.ro 1 (ints d), iv y] (iv (dep d y)) := by
 refine Does.of (nt := 18) (ac := a36) (rds := a36R) c36 (fun c hc => ?_)
 unfold a36
 apply J.seq
 refine J.regE (by simp; rfl) ?_
 simp
 apply J.seq
 apply J.seq
 apply J.reg
 iterate 3 refine runL_step rfl (by simp; rfl) ?_
 refine runL_if rfl (fun g7 => ?_) (fun g7 => ?_)
 ·
  try simp only [g7]
  try simp at g7
  try (exfalso; omega)
  all_goals
   iterate 5 refine runL_step rfl (by simp; rfl) ?_
   simp [runL]
   refine J.condB rfl (fun h12 => ?_) (fun h12 => ?_)
   ·
    simp at h12
    have hD := dep_out (d := d) (y := y) (by omega)
    try (exfalso; omega)
    all_goals
     apply J.seq
     refine J.regE (by simp; rfl) ?_
     simp
     apply J.ret
     refine ⟨by simp, rfl, _, [], by simp [a36R]; rfl, ?_⟩
     first | (simp [hD]; done) | (simp [hD, hj]; done) | (simp [dep_out (d := d) (y := y) (by omega)]; done)
   ·
    simp at h12
    have hD := dep_in (d := d) (y := y) (by omega) (by omega)
    obtain ⟨j, rfl⟩ : ∃ j : Nat, y = j + 1 := ⟨(y - 1).toNat, by omega⟩
    have hw : IntKind.i64.wrap (j : Int) = (j : Int) := wrap_id (by omega) (by omega)
    have hj : j < d.length := by omega
    try (exfalso; omega)
    all_goals
     apply J.skip; simp
     apply J.seq
     refine J.regE (by simp [hw, hj]; rfl) ?_
     simp
     apply J.ret
     refine ⟨by simp, rfl, _, [], by simp [a36R]; rfl, ?_⟩
     first | (simp [hD]; done) | (simp [hD, hj]; done) | (simp [dep_out (d := d) (y := y) (by omega)]; done)
 ·
  try simp only [g7]
  try simp at g7
  try (exfalso; omega)
  all_goals
   iterate 4 refine runL_step rfl (by simp; rfl) ?_
   simp [runL]
   apply J.cond; simp
   apply J.seq
   refine J.regE (by simp; rfl) ?_
   simp
   apply J.ret
   refine ⟨by simp, rfl, _, [], by simp [a36R]; rfl, ?_⟩
   first | (simp [hD]; done) | (simp [hD, hj]; done) | (simp [dep_out (d := d) (y := y) (by omega)]; done)
theorem c20 : chkFn Try.prog 20 18 2 a20 a20R = true := by kernel_rfl
theorem d20 (q : Int) (d : List Int) (x : Int × Int) (hd : d.length < 1000000) : DoesT 20 [.agg [iv q, .ro 1 (ints d)], .agg (eI x)] (bv (waits d x)) := by
 refine Does.of (nt := 18) (ac := a20) (rds := a20R) c20 (fun c hc => ?_)
 unfold a20
 apply J.seq
 refine J.regE (by simp [eI]; rfl) ?_
 simp
 apply J.seq
 apply J.draw; intro c' hc'
 iterate 4 refine runP_stepQ (by simp [eI]; rfl) ?_
 refine runP_if rfl (fun g8 => ?_) (fun g8 => ?_)
 ·
  try simp only [g8]
  try simp at g8
  iterate 6 refine runP_stepQ (by simp [eI]; rfl) ?_
  refine runP_do (by simp) ?_
  refine runP_tree rfl (d36 d x.1 hd) (by simp) rfl ?_
  simp
  iterate 3 refine runP_stepQ (by simp [eI]; rfl) ?_
  simp [runP]
  apply J.ret
  refine ⟨by simp, rfl, _, [], by simp [a20R]; rfl, ?_⟩
  simp [waits, *]
  try (intros; omega)
 ·
  try simp only [g8]
  try simp at g8
  iterate 5 refine runP_stepQ (by simp [eI]; rfl) ?_
  refine runP_skip (b := false) (by simp) (by simp) ?_
  simp
  iterate 3 refine runP_stepQ (by simp [eI]; rfl) ?_
  simp [runP]
  apply J.ret
  refine ⟨by simp, rfl, _, [], by simp [a20R]; rfl, ?_⟩
  simp [waits, *]
  try (intros; omega)
theorem c79 : chkFn Try.prog 79 20 2 a79 a79R = true := by kernel_rfl
theorem d79 (q : Int) (d : List Int) (y : Int) (hd : d.length < 1000000) : DoesT 79 [.agg [iv q, .ro 1 (ints d)], iv y] (iv (dep d y)) := by
 refine Does.of (nt := 20) (ac := a79) (rds := a79R) c79 (fun c hc => ?_)
 unfold a79
 apply J.seq
 refine J.regE (by simp; rfl) ?_
 simp
 apply J.seq
 apply J.seq
 apply J.reg
 iterate 3 refine runL_step rfl (by simp; rfl) ?_
 refine runL_if rfl (fun g7 => ?_) (fun g7 => ?_)
 ·
  try simp only [g7]
  try simp at g7
  try (exfalso; omega)
  all_goals
   iterate 6 refine runL_step rfl (by simp; rfl) ?_
   simp [runL]
   refine J.condB rfl (fun h13 => ?_) (fun h13 => ?_)
   ·
    simp at h13
    have hD := dep_out (d := d) (y := y) (by omega)
    try (exfalso; omega)
    all_goals
     apply J.seq
     refine J.regE (by simp; rfl) ?_
     simp
     apply J.ret
     refine ⟨by simp, rfl, _, [], by simp [a79R]; rfl, ?_⟩
     first | (simp [hD]; done) | (simp [hD, hj]; done) | (simp [dep_out (d := d) (y := y) (by omega)]; done)
   ·
    simp at h13
    have hD := dep_in (d := d) (y := y) (by omega) (by omega)
    obtain ⟨j, rfl⟩ : ∃ j : Nat, y = j + 1 := ⟨(y - 1).toNat, by omega⟩
    have hw : IntKind.i64.wrap (j : Int) = (j : Int) := wrap_id (by omega) (by omega)
    have hj : j < d.length := by omega
    try (exfalso; omega)
    all_goals
     apply J.skip; simp
     apply J.seq
     refine J.regE (by simp [hw, hj]; rfl) ?_
     simp
     apply J.ret
     refine ⟨by simp, rfl, _, [], by simp [a79R]; rfl, ?_⟩
     first | (simp [hD]; done) | (simp [hD, hj]; done) | (simp [dep_out (d := d) (y := y) (by omega)]; done)
 ·
  try simp only [g7]
  try simp at g7
  try (exfalso; omega)
  all_goals
   iterate 5 refine runL_step rfl (by simp; rfl) ?_
   simp [runL]
   apply J.cond; simp
   apply J.seq
   refine J.regE (by simp; rfl) ?_
   simp
   apply J.ret
   refine ⟨by simp, rfl, _, [], by simp [a79R]; rfl, ?_⟩
   first | (simp [hD]; done) | (simp [hD, hj]; done) | (simp [dep_out (d := d) (y := y) (by omega)]; done)
theorem c58 : chkFn Try.prog 58 17 2 a58 a58R = true := by kernel_rfl
theorem d58 (q : Int) (d : List Int) (x : Int × Int) (hd : d.length < 1000000) : DoesT 58 [.agg [iv q, .ro 1 (ints d)], .agg (eI x)] (bv (waits d x)) := by
 refine Does.of (nt := 17) (ac := a58) (rds := a58R) c58 (fun c hc => ?_)
 unfold a58
 apply J.seq
 refine J.regE (by simp [eI]; rfl) ?_
 simp
 apply J.seq
 apply J.draw; intro c' hc'
 iterate 4 refine runP_stepQ (by simp [eI]; rfl) ?_
 refine runP_if rfl (fun g8 => ?_) (fun g8 => ?_)
 ·
  try simp only [g8]
  try simp at g8
  iterate 5 refine runP_stepQ (by simp [eI]; rfl) ?_
  refine runP_do (by simp) ?_
  refine runP_tree rfl (d79 q d x.1 hd) (by simp) rfl ?_
  simp
  iterate 3 refine runP_stepQ (by simp [eI]; rfl) ?_
  simp [runP]
  apply J.ret
  refine ⟨by simp, rfl, _, [], by simp [a58R]; rfl, ?_⟩
  simp [waits, *]
  try (intros; omega)
 ·
  try simp only [g8]
  try simp at g8
  iterate 4 refine runP_stepQ (by simp [eI]; rfl) ?_
  refine runP_skip (b := false) (by simp) (by simp) ?_
  simp
  iterate 3 refine runP_stepQ (by simp [eI]; rfl) ?_
  simp [runP]
  apply J.ret
  refine ⟨by simp, rfl, _, [], by simp [a58R]; rfl, ?_⟩
  simp [waits, *]
  try (intros; omega)
theorem c62 : chkFn Try.prog 62 5 1 a62 a62R = true := by kernel_rfl
theorem d62 (x : Int) : DoesT 62 [iv x] (bv (decide (60 < x))) := by
 refine Does.of (nt := 5) (ac := a62) (rds := a62R) c62 (fun c hc => ?_)
 unfold a62
 apply J.seq
 refine J.regE (by simp; rfl) ?_
 simp
 apply J.seq
 refine J.regE (by simp; rfl) ?_
 simp
 apply J.ret
 refine ⟨by simp, rfl, _, [], by simp [a62R]; rfl, ?_⟩
 simp
theorem c65 : chkFn Try.prog 65 19 2 a65 a65R = true := by kernel_rfl
theorem d65 (l : List Int) (g : Nat) (cs : List AV) (p : Int → Bool) (hG : ∀ x ∈ l, DoesT g (iv x :: cs) (bv (p x))) (hcs : refsInL (fun _ => False) cs) (hl : l.length < 1000000) : DoesT 65 [.ro 1 (ints l), .fn g cs] (iv (ixF p l 0)) := by
 refine Does.of (nt := 19) (ac := a65) (rds := a65R) c65 (fun c hc => ?_)
 unfold a65
 apply J.seq
 refine J.regE (by simp; rfl) ?_
 simp
 apply J.seq
 apply J.seq
 refine J.regE (by simp; rfl) ?_
 simp
 apply J.block
 refine J.loop hc (I65 l g cs p) ?_ ?_
 ·exact ⟨_, _, St.le_refl _, 0, by omega, rfl, rfl, rfl⟩
 rintro n st ⟨i, hi, rfl, hI, rfl⟩
 apply J.seq
 refine J.regE (by simp; rfl) ?_
 simp
 apply J.seq
 apply J.cond; simp
 refine ⟨fun hlt => ?_, fun hlt => ?_⟩
 ·
  obtain ⟨y, hx, hgx, hg, hge, hdr, hw, hlt2, htk⟩ := getL (fun x => [iv x]) (show i < l.length by omega) (by omega)
  rw [hdr] at hI
  apply J.skip; simp
  apply J.seq
  apply J.block
  apply J.seq
  refine J.regE (by simp; rfl) ?_
  simp
  apply J.seq
  apply J.reg
  iterate 5 refine runL_step rfl (by simp [hlt, hgx]; rfl) ?_
  refine runL_fun rfl (by simp; rfl) (hG y (List.mem_of_getElem? hx)) (by simpa using hcs) rfl ?_
  simp
  simp [runL]
  apply J.cond; simp
  refine ⟨fun h16 => ?_, fun h16 => ?_⟩
  ·
   have hI2 : ixF p l 0 = i := by rw [hI]; simp [ixF, h16]
   apply J.seq
   refine J.regE (by simp; rfl) ?_
   simp
   apply J.ret
   refine ⟨by simp, rfl, _, [], by simp [a65R]; rfl, ?_⟩
   simp [hI2]
  ·
   have hI2 : ixF p l 0 = ixF p (l.drop (i + 1)) (i + 1) := by rw [hI]; simp [ixF, h16]
   apply J.skip; simp
   refine J.regE (by simp [hw]; rfl) ?_
   simp
   exact ⟨_, by omega, _, St.le_refl _, i + 1, by omega, rfl, hI2, rfl⟩
 ·
  have : i = l.length := by omega
  subst this
  rw [List.drop_length] at hI
  apply J.exit; simp
  apply J.seq
  refine J.regE (by simp; rfl) ?_
  simp
  apply J.ret
  refine ⟨by simp, rfl, _, [], by simp [a65R]; rfl, ?_⟩
  simp [hI, ixF]
theorem c47 : chkFn Try.prog 47 9 2 a47 a47R = true := by kernel_rfl
theorem d47 (l : List Int) (g : Nat) (cs : List AV) (p : Int → Bool) (hG : ∀ x ∈ l, DoesT g (iv x :: cs) (bv (p x))) (hcs : refsInL (fun _ => False) cs) (hl : l.length < 1000000) : DoesT 47 [.ro 1 (ints l), .fn g cs] (bv (l.any p)) := by
 refine Does.of (nt := 9) (ac := a47) (rds := a47R) c47 (fun c hc => ?_)
 unfold a47
 apply J.seq
 refine J.regE (by simp; rfl) ?_
 simp
 apply J.seq
 apply J.reg
 iterate 2 refine runL_step rfl (by simp; rfl) ?_
 refine runL_fun rfl (by simp; rfl) (by simpa using d65 l g cs p hG hcs hl) (by simpa using hcs) rfl ?_
 simp
 iterate 2 refine runL_step rfl (by simp; rfl) ?_
 simp [runL]
 apply J.ret
 refine ⟨by simp, rfl, _, [], by simp [a47R]; rfl, ?_⟩
 simp [← ixF_pos p l 0]
theorem c64 : chkFn Try.prog 64 19 2 a64 a64R = true := by kernel_rfl
theorem d64 (l : List (Int × Int)) (g : Nat) (cs : List AV) (p : Int × Int → Bool) (hG : ∀ x ∈ l, DoesT g (.agg (eI x) :: cs) (bv (p x))) (hcs : refsInL (fun _ => False) cs) (hl : l.length < 1000000) : DoesT 64 [.ro 2 (eds l), .fn g cs] (iv (ixF p l 0)) := by
 refine Does.of (nt := 19) (ac := a64) (rds := a64R) c64 (fun c hc => ?_)
 unfold a64
 apply J.seq
 refine J.regE (by simp; rfl) ?_
 simp
 apply J.seq
 apply J.seq
 refine J.regE (by simp; rfl) ?_
 simp
 apply J.block
 refine J.loop hc (I64 l g cs p) ?_ ?_
 ·exact ⟨_, _, St.le_refl _, 0, by omega, rfl, rfl, rfl⟩
 rintro n st ⟨i, hi, rfl, hI, rfl⟩
 apply J.seq
 refine J.regE (by simp; rfl) ?_
 simp
 apply J.seq
 apply J.cond; simp
 refine ⟨fun hlt => ?_, fun hlt => ?_⟩
 ·
  obtain ⟨y, hx, hgx, hg, hge, hdr, hw, hlt2, htk⟩ := getL (eI) (show i < l.length by omega) (by omega)
  rw [hdr] at hI
  apply J.skip; simp
  apply J.seq
  apply J.block
  apply J.seq
  refine J.regE (by simp; rfl) ?_
  simp
  apply J.seq
  apply J.reg
  iterate 5 refine runL_step rfl (by simp [hlt, hgx]; rfl) ?_
  refine runL_fun rfl (by simp; rfl) (hG y (List.mem_of_getElem? hx)) (by simpa using hcs) rfl ?_
  simp
  simp [runL]
  apply J.cond; simp
  refine ⟨fun h16 => ?_, fun h16 => ?_⟩
  ·
   have hI2 : ixF p l 0 = i := by rw [hI]; simp [ixF, h16]
   apply J.seq
   refine J.regE (by simp; rfl) ?_
   simp
   apply J.ret
   refine ⟨by simp, rfl, _, [], by simp [a64R]; rfl, ?_⟩
   simp [hI2]
  ·
   have hI2 : ixF p l 0 = ixF p (l.drop (i + 1)) (i + 1) := by rw [hI]; simp [ixF, h16]
   apply J.skip; simp
   refine J.regE (by simp [hw]; rfl) ?_
   simp
   exact ⟨_, by omega, _, St.le_refl _, i + 1, by omega, rfl, hI2, rfl⟩
 ·
  have : i = l.length := by omega
  subst this
  rw [List.drop_length] at hI
  apply J.exit; simp
  apply J.seq
  refine J.regE (by simp; rfl) ?_
  simp
  apply J.ret
  refine ⟨by simp, rfl, _, [], by simp [a64R]; rfl, ?_⟩
  simp [hI, ixF]
theorem c45 : chkFn Try.prog 45 9 2 a45 a45R = true := by kernel_rfl
theorem d45 (l : List (Int × Int)) (g : Nat) (cs : List AV) (p : Int × Int → Bool) (hG : ∀ x ∈ l, DoesT g (.agg (eI x) :: cs) (bv (p x))) (hcs : refsInL (fun _ => False) cs) (hl : l.length < 1000000) : DoesT 45 [.ro 2 (eds l), .fn g cs] (bv (l.any p)) := by
 refine Does.of (nt := 9) (ac := a45) (rds := a45R) c45 (fun c hc => ?_)
 unfold a45
 apply J.seq
 refine J.regE (by simp; rfl) ?_
 simp
 apply J.seq
 apply J.reg
 iterate 2 refine runL_step rfl (by simp; rfl) ?_
 refine runL_fun rfl (by simp; rfl) (by simpa using d64 l g cs p hG hcs hl) (by simpa using hcs) rfl ?_
 simp
 iterate 2 refine runL_step rfl (by simp; rfl) ?_
 simp [runL]
 apply J.ret
 refine ⟨by simp, rfl, _, [], by simp [a45R]; rfl, ?_⟩
 simp [← ixF_pos p l 0]
theorem c63 : chkFn Try.prog 63 19 2 a63 a63R = true := by kernel_rfl
theorem d63 (l : List (Int × Int)) (x : Int × Int) (hl : l.length < 1000000) : DoesT 63 [.ro 2 (eds l), .agg (eI x)] (iv (ixF (fun y => decide (y = x)) l 0)) := by
 refine Does.of (nt := 19) (ac := a63) (rds := a63R) c63 (fun c hc => ?_)
 unfold a63
 apply J.seq
 refine J.regE (by simp [eI]; rfl) ?_
 simp
 apply J.seq
 apply J.seq
 refine J.regE (by simp [eI]; rfl) ?_
 simp
 apply J.block
 refine J.loop hc (I63 l x) ?_ ?_
 ·exact ⟨_, _, St.le_refl _, 0, by omega, rfl, rfl, by simp [eI]⟩
 rintro n st ⟨i, hi, rfl, hI, rfl⟩
 apply J.seq
 refine J.regE (by simp [eI]; rfl) ?_
 simp
 apply J.seq
 apply J.cond; simp [eI]
 refine ⟨fun hlt => ?_, fun hlt => ?_⟩
 ·
  obtain ⟨y, hx, hgx, hg, hge, hdr, hw, hlt2, htk⟩ := getL (eI) (show i < l.length by omega) (by omega)
  rw [hdr] at hI
  apply J.skip; simp
  apply J.seq
  apply J.block
  apply J.seq
  refine J.regE (by simp [eI]; rfl) ?_
  simp
  apply J.seq
  apply J.draw; intro c' hc'
  iterate 6 refine runP_stepQ (by simp [eI, hlt, hgx]; rfl) ?_
  simp [runP]
  refine J.condB rfl (fun h16 => ?_) (fun h16 => ?_)
  ·
   simp at h16
   have hI2 : ixF (fun y => decide (y = x)) l 0 = i := by rw [hI]; obtain ⟨y1, y2⟩ := y; obtain ⟨x1, x2⟩ := x; simp_all [ixF]
   apply J.seq
   refine J.regE (by simp [eI]; rfl) ?_
   simp
   apply J.ret
   refine ⟨by simp, rfl, _, [], by simp [a63R]; rfl, ?_⟩
   simp [hI2]
  ·
   simp at h16
   have hI2 : ixF (fun y => decide (y = x)) l 0 = ixF (fun y => decide (y = x)) (l.drop (i + 1)) (i + 1) := by rw [hI]; obtain ⟨y1, y2⟩ := y; obtain ⟨x1, x2⟩ := x; simp [ixF]; intro e1 e2; exact absurd e2.symm (h16 e1.symm)
   apply J.skip; simp
   refine J.regE (by simp [eI, hw]; rfl) ?_
   simp
   refine ⟨_, by omega, _, ?_, i + 1, by omega, rfl, hI2, rfl⟩
   apply le_sub <;> simp [eI]
 ·
  have : i = l.length := by omega
  subst this
  rw [List.drop_length] at hI
  apply J.exit; simp
  apply J.seq
  refine J.regE (by simp [eI]; rfl) ?_
  simp
  apply J.ret
  refine ⟨by simp, rfl, _, [], by simp [a63R]; rfl, ?_⟩
  simp [hI, ixF]
theorem c41 : chkFn Try.prog 41 9 2 a41 a41R = true := by kernel_rfl
theorem d41 (l : List (Int × Int)) (x : Int × Int) (hl : l.length < 1000000) : DoesT 41 [.ro 2 (eds l), .agg (eI x)] (bv (decide (x ∈ l))) := by
 refine Does.of (nt := 9) (ac := a41) (rds := a41R) c41 (fun c hc => ?_)
 unfold a41
 apply J.seq
 refine J.regE (by simp [eI]; rfl) ?_
 simp
 apply J.seq
 apply J.reg
 iterate 2 refine runL_step rfl (by simp [eI]; rfl) ?_
 refine runL_tree rfl (d63 l x hl) (by simp) hc ?_
 simp
 iterate 2 refine runL_step rfl (by simp [eI]; rfl) ?_
 simp [runL]
 apply J.ret
 refine ⟨by simp, rfl, _, [], by simp [a41R]; rfl, ?_⟩
 simp [ixF_pos (fun y => decide (y = x)) l 0, any_mem]
theorem c19 : chkFn Try.prog 19 18 2 a19 a19R = true := by kernel_rfl
theorem d19 (l : List (Int × Int)) (x : Int × Int) (hl : l.length < 1000000) : DoesT 19 [.ro 2 (eds l), .agg (eI x)] (bv (decide (x ∈ l))) := by
 refine Does.of (nt := 18) (ac := a19) (rds := a19R) c19 (fun c hc => ?_)
 unfold a19
 apply J.seq
 refine J.regE (by simp [eI]; rfl) ?_
 simp
 apply J.seq
 apply J.seq
 refine J.regE (by simp [eI]; rfl) ?_
 simp
 apply J.block
 refine J.loop hc (I19 l x) ?_ ?_
 ·exact ⟨_, _, St.le_refl _, 0, by omega, rfl, rfl, by simp [eI]⟩
 rintro n st ⟨i, hi, rfl, hI, rfl⟩
 apply J.seq
 apply J.seq
 refine J.regE (by simp [eI]; rfl) ?_
 simp
 apply J.cond; simp [eI]
 refine ⟨fun hlt => ?_, fun hlt => ?_⟩
 ·
  obtain ⟨y, hx, hgx, hg, hge, hdr, hw, hlt2, htk⟩ := getL (eI) (show i < l.length by omega) (by omega)
  rw [hdr] at hI
  apply J.skip; simp
  apply J.seq
  apply J.block
  apply J.seq
  apply J.draw; intro c' hc'
  iterate 6 refine runP_stepQ (by simp [eI, hlt, hgx]; rfl) ?_
  simp [runP]
  refine J.condB rfl (fun h17 => ?_) (fun h17 => ?_)
  ·
   simp at h17
   have hI2 : (l.any fun y => decide (y = x)) = true := by rw [hI]; obtain ⟨y1, y2⟩ := y; obtain ⟨x1, x2⟩ := x; simp_all
   apply J.seq
   refine J.regE (by simp [eI]; rfl) ?_
   simp
   apply J.ret
   refine ⟨by simp, rfl, _, [], by simp [a19R]; rfl, ?_⟩
   rw [any_mem] at hI2
   simp [hI2]
  ·
   simp at h17
   have hI2 : (l.any fun y => decide (y = x)) = ((l.drop (i + 1)).any fun y => decide (y = x)) := by rw [hI]; obtain ⟨y1, y2⟩ := y; obtain ⟨x1, x2⟩ := x; simp; intro e1 e2; exact absurd e2 (h17 e1)
   apply J.skip; simp
   refine J.regE (by simp [eI, hw]; rfl) ?_
   simp
   refine ⟨_, by omega, _, ?_, i + 1, by omega, rfl, hI2, rfl⟩
   apply le_sub <;> simp [eI]
 ·
  have : i = l.length := by omega
  subst this
  rw [List.drop_length] at hI
  apply J.exit; simp
  apply J.seq
  refine J.regE (by simp [eI]; rfl) ?_
  simp
  apply J.ret
  refine ⟨by simp, rfl, _, [], by simp [a19R]; rfl, ?_⟩
  rw [any_mem] at hI
  simp [hI]
theorem c18 : chkFn Try.prog 18 19 2 a18 a18R = true := by kernel_rfl
theorem d18 (l : List (Int × Int)) (x : Int × Int) (hl : l.length < 1000000) : DoesT 18 [.ro 2 (eds l), .agg (eI x)] (iv (ixF (fun y => decide (y = x)) l 0)) := by
 refine Does.of (nt := 19) (ac := a18) (rds := a18R) c18 (fun c hc => ?_)
 unfold a18
 apply J.seq
 refine J.regE (by simp [eI]; rfl) ?_
 simp
 apply J.seq
 apply J.seq
 refine J.regE (by simp [eI]; rfl) ?_
 simp
 apply J.block
 refine J.loop hc (I18 l x) ?_ ?_
 ·exact ⟨_, _, St.le_refl _, 0, by omega, rfl, rfl, by simp [eI]⟩
 rintro n st ⟨i, hi, rfl, hI, rfl⟩
 apply J.seq
 apply J.seq
 refine J.regE (by simp [eI]; rfl) ?_
 simp
 apply J.cond; simp [eI]
 refine ⟨fun hlt => ?_, fun hlt => ?_⟩
 ·
  obtain ⟨y, hx, hgx, hg, hge, hdr, hw, hlt2, htk⟩ := getL (eI) (show i < l.length by omega) (by omega)
  rw [hdr] at hI
  apply J.skip; simp
  apply J.seq
  apply J.block
  apply J.seq
  apply J.draw; intro c' hc'
  iterate 6 refine runP_stepQ (by simp [eI, hlt, hgx]; rfl) ?_
  simp [runP]
  refine J.condB rfl (fun h17 => ?_) (fun h17 => ?_)
  ·
   simp at h17
   have hI2 : ixF (fun y => decide (y = x)) l 0 = i := by rw [hI]; obtain ⟨y1, y2⟩ := y; obtain ⟨x1, x2⟩ := x; simp_all [ixF]
   apply J.seq
   refine J.regE (by simp [eI]; rfl) ?_
   simp
   apply J.ret
   refine ⟨by simp, rfl, _, [], by simp [a18R]; rfl, ?_⟩
   simp [hI2]
  ·
   simp at h17
   have hI2 : ixF (fun y => decide (y = x)) l 0 = ixF (fun y => decide (y = x)) (l.drop (i + 1)) (i + 1) := by rw [hI]; obtain ⟨y1, y2⟩ := y; obtain ⟨x1, x2⟩ := x; simp [ixF]; intro e1 e2; exact absurd e2 (h17 e1)
   apply J.skip; simp
   refine J.regE (by simp [eI, hw]; rfl) ?_
   simp
   refine ⟨_, by omega, _, ?_, i + 1, by omega, rfl, hI2, rfl⟩
   apply le_sub <;> simp [eI]
 ·
  have : i = l.length := by omega
  subst this
  rw [List.drop_length] at hI
  apply J.exit; simp
  apply J.seq
  refine J.regE (by simp [eI]; rfl) ?_
  simp
  apply J.ret
  refine ⟨by simp, rfl, _, [], by simp [a18R]; rfl, ?_⟩
  simp [hI, ixF]
theorem c40 : chkFn Try.prog 40 34 1 a40 a40R = true := by kernel_rfl
theorem d40 (n : Node) (hd : n.d.length < 1000000) : DoesT 40 [.agg (eN n)] (bv (near n)) := by
 refine Does.of (nt := 34) (ac := a40) (rds := a40R) c40 (fun c hc => ?_)
 unfold a40
 apply J.seq
 refine J.regE (by simp [eN]; rfl) ?_
 simp
 apply J.seq
 refine J.regE (by simp [eN]; rfl) ?_
 simp
 apply J.seq
 apply J.reg
 iterate 5 refine runL_step rfl (by simp [eN]; rfl) ?_
 refine runL_if rfl (fun g8 => ?_) (fun g8 => ?_)
 ·
  try simp only [g8]
  try simp at g8
  iterate 6 refine runL_step rfl (by simp [eN]; rfl) ?_
  refine runL_if rfl (fun g14 => ?_) (fun g14 => ?_)
  ·
   try simp only [g14]
   try simp at g14
   iterate 6 refine runL_step rfl (by simp [eN]; rfl) ?_
   refine runL_if rfl (fun g20 => ?_) (fun g20 => ?_)
   ·
    try simp only [g20]
    try simp at g20
    iterate 6 refine runL_step rfl (by simp [eN]; rfl) ?_
    refine runL_if rfl (fun g26 => ?_) (fun g26 => ?_)
    ·
     try simp only [g26]
     try simp at g26
     iterate 4 refine runL_step rfl (by simp [eN]; rfl) ?_
     refine runL_do (by simp) ?_
     refine runL_tree rfl (d47 n.d 62 [] (fun x => decide (60 < x)) (fun x _ => d62 x) trivial hd) (by simp) hc ?_
     simp
     iterate 3 refine runL_step rfl (by simp [eN]; rfl) ?_
     simp [runL]
     apply J.ret
     refine ⟨by simp, rfl, _, [], by simp [a40R]; rfl, ?_⟩
     simp [near, *]
     try (intros; omega)
    ·
     try simp only [g26]
     try simp at g26
     iterate 3 refine runL_step rfl (by simp [eN]; rfl) ?_
     refine runL_pass (b := _) rfl (by simp) ?_
     simp
     iterate 3 refine runL_step rfl (by simp [eN]; rfl) ?_
     simp [runL]
     apply J.ret
     refine ⟨by simp, rfl, _, [], by simp [a40R]; rfl, ?_⟩
     simp [near, *]
     try (intros; omega)
   ·
    try simp only [g20]
    try simp at g20
    iterate 9 refine runL_step rfl (by simp [eN]; rfl) ?_
    refine runL_pass (b := _) rfl (by simp) ?_
    simp
    iterate 3 refine runL_step rfl (by simp [eN]; rfl) ?_
    simp [runL]
    apply J.ret
    refine ⟨by simp, rfl, _, [], by simp [a40R]; rfl, ?_⟩
    simp [near, *]
    try (intros; omega)
  ·
   try simp only [g14]
   try simp at g14
   iterate 15 refine runL_step rfl (by simp [eN]; rfl) ?_
   refine runL_pass (b := _) rfl (by simp) ?_
   simp
   iterate 3 refine runL_step rfl (by simp [eN]; rfl) ?_
   simp [runL]
   apply J.ret
   refine ⟨by simp, rfl, _, [], by simp [a40R]; rfl, ?_⟩
   simp [near, *]
   try (intros; omega)
 ·
  try simp only [g8]
  try simp at g8
  iterate 21 refine runL_step rfl (by simp [eN]; rfl) ?_
  refine runL_pass (b := _) rfl (by simp) ?_
  simp
  iterate 3 refine runL_step rfl (by simp [eN]; rfl) ?_
  simp [runL]
  apply J.ret
  refine ⟨by simp, rfl, _, [], by simp [a40R]; rfl, ?_⟩
  simp [near, *]
  try (intros; omega)
theorem c37 : chkFn Try.prog 37 41 1 a37 a37R = true := by kernel_rfl
theorem d37 (n : Node) (hd : n.d.length < 1000000) : DoesT 37 [.agg (eN n)] (bv (near n)) := by
 refine Does.of (nt := 41) (ac := a37) (rds := a37R) c37 (fun c hc => ?_)
 unfold a37
 apply J.seq
 refine J.regE (by simp [eN]; rfl) ?_
 simp
 apply J.seq
 apply J.seq
 refine J.regE (by simp [eN]; rfl) ?_
 simp
 apply J.block
 refine J.loop hc (I37 n) ?_ ?_
 ·exact ⟨_, _, St.le_refl _, 0, by omega, rfl, rfl, by simp [eN]⟩
 rintro n st ⟨i, hi, rfl, hI, rfl⟩
 apply J.seq
 apply J.seq
 refine J.regE (by simp [eN]; rfl) ?_
 simp
 apply J.cond; simp [eN]
 refine ⟨fun hlt => ?_, fun hlt => ?_⟩
 ·
  obtain ⟨y, hx, hgx, hg, hge, hdr, hw, hlt2, htk⟩ := getL (fun x => [iv x]) (show i < n.d.length by omega) (by omega)
  rw [hdr] at hI
  apply J.skip; simp
  apply J.seq
  apply J.block
  apply J.seq
  refine J.regE (by simp [eN, hlt, hgx]; rfl) ?_
  simp
  refine J.condB rfl (fun h18 => ?_) (fun h18 => ?_)
  ·
   simp at h18
   have hI2 : (n.d.any fun x => decide (60 < x)) = true := by rw [hI]; simp [h18]
   apply J.seq
   refine J.regE (by simp [eN]; rfl) ?_
   simp
   apply J.ret
   refine ⟨by simp, rfl, _, [], by simp [a37R]; rfl, ?_⟩
   first | (simp [near, hI2]; done) | (simp [near, hI, *]; done) | (simp [near, hI, *]; intros; omega)
  ·
   simp at h18
   have hI2 : (n.d.any fun x => decide (60 < x)) = ((n.d.drop (i + 1)).any fun x => decide (60 < x)) := by rw [hI]; simp; omega
   apply J.skip; simp
   refine J.regE (by simp [eN, hw]; rfl) ?_
   simp
   refine ⟨_, by omega, _, ?_, i + 1, by omega, rfl, hI2, rfl⟩
   apply le_sub <;> simp [eN]
 ·
  have : i = n.d.length := by omega
  subst this
  rw [List.drop_length] at hI
  apply J.exit; simp
  apply J.seq
  apply J.reg
  iterate 5 refine runL_step rfl (by simp [eN]; rfl) ?_
  refine runL_if rfl (fun g23 => ?_) (fun g23 => ?_)
  ·
   try simp only [g23]
   try simp at g23
   iterate 6 refine runL_step rfl (by simp [eN]; rfl) ?_
   refine runL_if rfl (fun g29 => ?_) (fun g29 => ?_)
   ·
    try simp only [g29]
    try simp at g29
    iterate 6 refine runL_step rfl (by simp [eN]; rfl) ?_
    refine runL_if rfl (fun g35 => ?_) (fun g35 => ?_)
    ·
     try simp only [g35]
     try simp at g35
     iterate 6 refine runL_step rfl (by simp [eN]; rfl) ?_
     simp [runL]
     apply J.ret
     refine ⟨by simp, rfl, _, [], by simp [a37R]; rfl, ?_⟩
     first | (simp [near, hI2]; done) | (simp [near, hI, *]; done) | (simp [near, hI, *]; intros; omega)
    ·
     try simp only [g35]
     try simp at g35
     iterate 5 refine runL_step rfl (by simp [eN]; rfl) ?_
     simp [runL]
     apply J.ret
     refine ⟨by simp, rfl, _, [], by simp [a37R]; rfl, ?_⟩
     first | (simp [near, hI2]; done) | (simp [near, hI, *]; done) | (simp [near, hI, *]; intros; omega)
   ·
    try simp only [g29]
    try simp at g29
    iterate 11 refine runL_step rfl (by simp [eN]; rfl) ?_
    simp [runL]
    apply J.ret
    refine ⟨by simp, rfl, _, [], by simp [a37R]; rfl, ?_⟩
    first | (simp [near, hI2]; done) | (simp [near, hI, *]; done) | (simp [near, hI, *]; intros; omega)
  ·
   try simp only [g23]
   try simp at g23
   iterate 17 refine runL_step rfl (by simp [eN]; rfl) ?_
   simp [runL]
   apply J.ret
   refine ⟨by simp, rfl, _, [], by simp [a37R]; rfl, ?_⟩
   first | (simp [near, hI2]; done) | (simp [near, hI, *]; done) | (simp [near, hI, *]; intros; omega)
theorem c11 : chkFn Try.prog 11 26 2 a11 a11R = true := by kernel_rfl
theorem d11 (a b : List (Int × Int)) (ha : a.length ≤ 1000000) : DoesT 11 [.ro 2 (eds a), .ro 2 (eds b)] (bv (decide (a = b))) := by
 refine Does.of (nt := 26) (ac := a11) (rds := a11R) c11 (fun c hc => ?_)
 unfold a11
 apply J.seq
 refine J.regE (by simp [eI]; rfl) ?_
 simp
 apply J.seq
 apply J.seq
 refine J.regE (by simp [eI]; rfl) ?_
 simp
 apply J.cond; simp [eI]
 refine ⟨fun hne => ?_, fun hne => ?_⟩
 ·
  apply J.seq
  refine J.regE (by simp [eI]; rfl) ?_
  simp
  apply J.ret
  refine ⟨by simp, rfl, _, [], by simp [a11R]; rfl, ?_⟩
  simp
  intro e; subst e; exact hne rfl
 ·
  apply J.skip; simp
  apply J.seq
  apply J.seq
  refine J.regE (by simp [eI]; rfl) ?_
  simp
  apply J.block
  refine J.loop hc (I11 a b) ?_ ?_
  ·exact ⟨_, _, by apply le_sub <;> simp, 0, by simp, by simp, rfl, rfl⟩
  rintro n st ⟨i, hi, ht, rfl, rfl⟩
  apply J.seq
  apply J.seq
  refine J.regE (by simp [eI]; rfl) ?_
  simp
  apply J.cond; simp [eI]
  refine ⟨fun hlt => ?_, fun hlt => ?_⟩
  ·
   have hw : IntKind.i64.wrap ((i : Int) + 1) = i + 1 := wrap_id (by omega) (by omega)
   have hlb : i < b.length := by omega
   apply J.skip; simp
   apply J.seq
   apply J.block
   apply J.seq
   apply J.draw; intro c' hc'
   iterate 9 refine runP_stepQ (by simp [eI, hlt, hlb]; rfl) ?_
   simp [runP]
   refine J.condB rfl (fun h25 => ?_) (fun h25 => ?_)
   ·
    simp at h25
    apply J.seq
    refine J.regE (by simp [eI]; rfl) ?_
    simp
    apply J.ret
    refine ⟨by simp, rfl, _, [], by simp [a11R]; rfl, ?_⟩
    simp
    intro e; subst e; simp at h25
   ·
    simp at h25
    apply J.skip; simp
    refine J.regE (by simp [eI, hw]; rfl) ?_
    simp
    exact ⟨_, by omega, _, St.le_refl _, i + 1, by omega, P11.take_step ht hlt hlb (Prod.ext h25.1 h25.2), rfl, rfl⟩
  ·
   have : i = a.length := by omega
   subst this
   apply J.exit; simp
   apply J.seq
   refine J.regE (by simp [eI]; rfl) ?_
   simp
   apply J.ret
   refine ⟨by simp, rfl, _, [], by simp [a11R]; rfl, ?_⟩
   simp
   exact P11.take_all ht (by omega)
theorem c10 : chkFn Try.prog 10 21 1 a10 a10R = true := by kernel_rfl
theorem d10 (l : List Node) : DoesT 10 [.ro 4 (eNs l)] (bv (fewN l)) := by
 refine Does.of (nt := 21) (ac := a10) (rds := a10R) c10 (fun c hc => ?_)
 unfold a10
 apply J.seq
 refine J.regE (by simp [eNs, eN, eNs_length]; rfl) ?_
 simp
 apply J.seq
 apply J.seq
 refine J.regE (by simp [eNs, eN, eNs_length]; rfl) ?_
 simp
 refine J.condB rfl (fun h6 => ?_) (fun h6 => ?_)
 ·
  simp [eNs_length] at h6
  apply J.seq
  refine J.regE (by simp [eNs, eN, eNs_length]; rfl) ?_
  simp
  apply J.ret
  refine ⟨by simp, rfl, _, [], by simp [a10R]; rfl, ?_⟩
  simp [fewN]
  intros
  omega
 ·
  simp [eNs_length] at h6
  apply J.skip; simp
  apply J.seq
  apply J.seq
  refine J.regE (by simp [eNs, eN, eNs_length]; rfl) ?_
  simp
  apply J.block
  refine J.loop hc (I10 l) ?_ ?_
  ·exact ⟨_, _, St.le_refl _, 0, by omega, rfl, rfl, by simp [eNs]⟩
  rintro n st ⟨i, hi, rfl, hI, rfl⟩
  apply J.seq
  apply J.seq
  refine J.regE (by simp [eNs, eN, eNs_length]; rfl) ?_
  simp
  apply J.cond; simp [eNs, eN, eNs_length]
  refine ⟨fun hlt => ?_, fun hlt => ?_⟩
  ·
   obtain ⟨y, hx, hgx, hg, hge, hdr, hw, hlt2, htk⟩ := getL (eN) (show i < l.length by omega) (by omega)
   rw [hdr] at hI
   apply J.skip; simp
   apply J.seq
   apply J.block
   apply J.seq
   refine J.regE (by simp [eNs, eN, eNs_length, hlt, hgx]; rfl) ?_
   simp
   refine J.condB rfl (fun h20 => ?_) (fun h20 => ?_)
   ·
    simp at h20
    have hI2 : (l.all fun n => decide (n.d.length ≤ 7)) = false := by rw [hI]; simp; intro h; omega
    apply J.seq
    refine J.regE (by simp [eNs, eN, eNs_length]; rfl) ?_
    simp
    apply J.ret
    refine ⟨by simp, rfl, _, [], by simp [a10R]; rfl, ?_⟩
    simp [fewN, hI2]
   ·
    simp at h20
    have hI2 : (l.all fun n => decide (n.d.length ≤ 7)) = ((l.drop (i + 1)).all fun n => decide (n.d.length ≤ 7)) := by rw [hI]; simp; omega
    apply J.skip; simp
    refine J.regE (by simp [eNs, eN, eNs_length, hw]; rfl) ?_
    simp
    refine ⟨_, by omega, _, ?_, i + 1, by omega, rfl, hI2, rfl⟩
    apply le_sub <;> simp [eNs]
  ·
   have : i = l.length := by omega
   subst this
   rw [List.drop_length] at hI
   apply J.exit; simp
   apply J.seq
   refine J.regE (by simp [eNs, eN, eNs_length]; rfl) ?_
   simp
   apply J.ret
   refine ⟨by simp, rfl, _, [], by simp [a10R]; rfl, ?_⟩
   simp [fewN, hI]
   omega
end Go.Proofs.Ytdekelhmneeniaa.F
namespace Go.Proofs.Ytdekelhmneeniaa.P11
open Go Go.SX
theorem rB_eq {n : Int} {l : List (Int × Int)} {R' : Nat → Nat → Bool} (h0 : ∀ a, a < bN n → R' a a = true) (h1 : ∀ a, a < bN n → ∀ b, b < bN n → ∀ c, c < bN n → R' a b = true → eN n l b c → R' a c = true) (h2 : ∀ a, a < bN n → ∀ b, b < bN n → R' a b = true → RR n l a b) {a b : Nat} (ha : a < bN n) (hb : b < bN n) : rB n l a b = R' a b := by
  rw [Bool.eq_iff_iff, rB_iff]
  refine ⟨fun h => ?_, h2 a ha b hb⟩
  induction h with
  | refl => exact h0 a ha
  | step h e ih => exact h1 a ha _ e.1 _ hb (ih e.1) e
section
variable {N : Nat} {R R' : Nat → Nat → Bool} (h : ∀ a, a < N → ∀ b, b < N → R a b = R' a b)
include h
theorem elig_congr {tl : List Bool} {k : Nat} (hk : k < N) : elig N R tl k = elig N R' tl k := by
  unfold elig
  congr 1
  rw [Bool.eq_iff_iff, List.all_eq_true, List.all_eq_true]
  refine forall_congr' (fun j => ?_)
  simp only [List.mem_range]
  refine forall_congr' (fun hj => ?_)
  rw [h k hk j hj, h j hj k hk]
theorem pick_congr {tl : List Bool} : pick N R tl = pick N R' tl := by
  unfold pick
  have key : ∀ l : List Nat, (∀ x ∈ l, x < N) → l.find? (elig N R tl) = l.find? (elig N R' tl) := by
    intro l
    induction l with
    | nil => intro _; rfl
    | cons x r ih =>
      intro hl
      simp only [List.find?_cons]
      rw [elig_congr h (hl x (by simp)), ih (fun y hy => hl y (by simp [hy]))]
  exact key _ (fun x hx => by simpa using hx)
theorem run_congr : ∀ (f : Nat) (tl : List Bool), run N R f tl = run N R' f tl
  | 0, _ => rfl
  | f + 1, tl => by
    simp only [run]
    rw [pick_congr h]
    cases hp : pick N R' tl with
    | none => rfl
    | some k =>
      obtain ⟨_, hk, _⟩ := pick_some.1 hp
      have h1 : cls N R k = cls N R' k := List.filter_congr (fun j hj => by have hj : j < N := by simpa using hj
                                                                            rw [h k hk j hj, h j hj k hk])
      have h2 : mark N R tl k = mark N R' tl k := List.map_congr_left (fun j hj => by have hj : j < N := by simpa using hj
                                                                                      rw [h k hk j hj, h j hj k hk])
      simp only
      rw [h1, h2, run_congr f]
theorem comps_congr : comps N R = comps N R' := run_congr h _ _
end
def ex1 : List (Int × Int) := [(0, 1), (1, 0), (2, 1)]
def ex2 : List (Int × Int) := [(0, 2)]
def r1 (a b : Nat) : Bool := a == b || (a == 0 && b == 1) || (a == 1 && b == 0) || (a == 2 && b == 1) || (a == 2 && b == 0)
def r2 (a b : Nat) : Bool := a == b || (a == 0 && b == 2)
instance (n : Int) (l : List (Int × Int)) (a b : Nat) : Decidable (eN n l a b) := by unfold eN; infer_instance
theorem lt3 {P : Nat → Prop} (h0 : P 0) (h1 : P 1) (h2 : P 2) : ∀ a, a < bN 3 → P a := by
  intro a ha
  have : a < 3 := ha
  match a with
  | 0 => exact h0
  | 1 => exact h1
  | 2 => exact h2
  | a + 3 => omega
theorem comps1 : compsL 3 ex1 = [[0, 1], [2]] := by
  have : ∀ a, a < bN 3 → ∀ b, b < bN 3 → rB 3 ex1 a b = r1 a b := fun a ha b hb => rB_eq (lt3 rfl rfl rfl) (lt3 (lt3 (lt3 (by decide) (by decide) (by decide)) (lt3 (by decide) (by decide) (by decide)) (lt3 (by decide) (by decide) (by decide))) (lt3 (lt3 (by decide) (by decide) (by decide)) (lt3 (by decide) (by decide) (by decide)) (lt3 (by decide) (by decide) (by decide))) (lt3 (lt3 (by decide) (by decide) (by decide)) (lt3 (by decide) (by decide) (by decide)) (lt3 (by decide) (by decide) (by decide))))
    (lt3 (lt3 (fun _ => .refl _) (fun _ => .one (by decide)) (fun h => absurd h (by decide))) (lt3 (fun _ => .one (by decide)) (fun _ => .refl _) (fun h => absurd h (by decide))) (lt3 (fun _ => .step (.one (show eN 3 ex1 2 1 by decide)) (by decide)) (fun _ => .one (by decide)) (fun _ => .refl _))) ha hb
  unfold compsL
  rw [comps_congr this]
  decide
theorem comps2 : compsL 3 ex2 = [[1], [2], [0]] := by
  have : ∀ a, a < bN 3 → ∀ b, b < bN 3 → rB 3 ex2 a b = r2 a b := fun a ha b hb => rB_eq (lt3 rfl rfl rfl) (lt3 (lt3 (lt3 (by decide) (by decide) (by decide)) (lt3 (by decide) (by decide) (by decide)) (lt3 (by decide) (by decide) (by decide))) (lt3 (lt3 (by decide) (by decide) (by decide)) (lt3 (by decide) (by decide) (by decide)) (lt3 (by decide) (by decide) (by decide))) (lt3 (lt3 (by decide) (by decide) (by decide)) (lt3 (by decide) (by decide) (by decide)) (lt3 (by decide) (by decide) (by decide))))
    (lt3 (lt3 (fun _ => .refl _) (fun h => absurd h (by decide)) (fun _ => .one (by decide))) (lt3 (fun h => absurd h (by decide)) (fun _ => .refl _) (fun h => absurd h (by decide))) (lt3 (fun h => absurd h (by decide)) (fun h => absurd h (by decide)) (fun _ => .refl _))) ha hb
  unfold compsL
  rw [comps_congr this]
  decide
theorem reach2 : reB 3 ex2 0 2 = true := by
  have : rB 3 ex2 0 2 = true := rB_iff.2 (.one (by decide))
  simp only [reB]
  have h0 : isT 3 0 = true := by decide
  have h2 : isT 3 2 = true := by decide
  rw [h0, h2]
  exact this
section
variable {N : Nat} {R : Nat → Nat → Bool}
theorem mem_cls {k v : Nat} : v ∈ cls N R k ↔ v < N ∧ R k v = true ∧ R v k = true := by simp [cls]
theorem cls_sorted (k : Nat) : (cls N R k).Pairwise (· < ·) := List.pairwise_lt_range.filter _
theorem Shut.mark (ht : ∀ a b c, R a b = true → R b c = true → R a c = true) {tl : List Bool} {k : Nat} (hs : Shut N R tl) (hk : pick N R tl = some k) : Shut N R (mark N R tl k) := by
  obtain ⟨he, hkN, _⟩ := pick_some.1 hk
  obtain ⟨he1, he2⟩ := elig_iff.1 he
  intro v w hv hw h1 h2
  rw [mark_getD hw]
  rw [mark_getD hv] at h1
  simp only [Bool.or_eq_true, Bool.and_eq_true] at h1 ⊢
  rcases h1 with h1 | ⟨h1, h3⟩
  · exact .inl (hs v w hv hw h1 h2)
  · have hkw := ht _ _ _ h1 h2
    cases h4 : R w k
    · exact .inl (he2 w hw hkw h4)
    · exact .inr ⟨hkw, rfl⟩
theorem run_spec (ht : ∀ a b c, R a b = true → R b c = true → R a c = true) (hr : ∀ a, R a a = true) : ∀ (f : Nat) (tl : List Bool), tl.length = N → unset tl ≤ f → Shut N R tl →
    (∀ r ∈ run N R f tl, ∃ k, k < N ∧ r = cls N R k) ∧ (∀ v, v ∈ (run N R f tl).flatten ↔ v < N ∧ tl.getD v false = false) ∧ (run N R f tl).flatten.Nodup ∧ (run N R f tl).Pairwise (fun r1 r2 => ∀ a ∈ r1, ∀ b ∈ r2, R a b = false)
  | 0, tl, hl, h, _ => by
    refine ⟨by simp [run], fun v => ?_, by simp [run], by simp [run]⟩
    simp only [run, List.flatten_nil, List.not_mem_nil, false_iff]
    rintro ⟨hv, h0⟩
    have h1 : false ∈ tl := by
      have : tl.getD v false = tl[v] := by simp [hl, hv]
      rw [this] at h0; exact h0 ▸ List.getElem_mem _
    have := List.count_pos_iff.2 h1
    unfold unset at h; omega
  | f + 1, tl, hl, h, hs => by
    simp only [run]
    cases hp : pick N R tl with
    | none =>
      refine ⟨by simp, fun v => ?_, by simp, by simp⟩
      simp only [List.flatten_nil, List.not_mem_nil, false_iff]
      rintro ⟨hv, h0⟩
      obtain ⟨k, hk⟩ := pick_exists ht hr (tl := tl) _ v hv h0 (Nat.le_refl _)
      rw [hp] at hk; cases hk
    | some k =>
      have hm := unset_mark hl (hr k) hp
      obtain ⟨he, hkN, _⟩ := pick_some.1 hp
      obtain ⟨he1, he2⟩ := elig_iff.1 he
      obtain ⟨i1, i2, i3, i4⟩ := run_spec ht hr f (mark N R tl k) (mark_length _ _) (by omega) (hs.mark ht hp)
      have hnew : ∀ v, v < N → (mark N R tl k).getD v false = false → tl.getD v false = false ∧ ¬ (R k v = true ∧ R v k = true) := fun v hv h0 => by
        rw [mark_getD hv] at h0
        simp only [Bool.or_eq_false_iff, Bool.and_eq_false_iff] at h0
        refine ⟨h0.1, fun ⟨a, b⟩ => ?_⟩
        rcases h0.2 with h0 | h0
        · rw [a] at h0; cases h0
        · rw [b] at h0; cases h0
      refine ⟨fun r hr' => ?_, fun v => ?_, ?_, ?_⟩
      · rcases List.mem_cons.1 hr' with rfl | hr'
        · exact ⟨k, hkN, rfl⟩
        · exact i1 r hr'
      · rw [List.flatten_cons, List.mem_append, i2, mem_cls]
        constructor
        · rintro (⟨h1, h2, h3⟩ | ⟨h1, h2⟩)
          · refine ⟨h1, ?_⟩
            cases h4 : tl.getD v false
            · rfl
            · exfalso
              rw [hs v k h1 hkN h4 h3] at he1; cases he1
          · exact ⟨h1, (hnew v h1 h2).1⟩
        · rintro ⟨h1, h2⟩
          by_cases h3 : R k v = true ∧ R v k = true
          · exact .inl ⟨h1, h3⟩
          · right
            refine ⟨h1, ?_⟩
            rw [mark_getD h1, h2]
            cases h4 : R k v <;> cases h5 : R v k <;> simp_all
      · rw [List.flatten_cons, List.nodup_append]
        refine ⟨(cls_sorted k).imp (fun h => Nat.ne_of_lt h), i3, fun a ha b hb e => ?_⟩
        subst e
        obtain ⟨h1, h2⟩ := (i2 a).1 hb
        exact (hnew a h1 h2).2 (mem_cls.1 ha).2
      · refine List.pairwise_cons.2 ⟨fun r hr' a ha b hb => ?_, i4⟩
        obtain ⟨g1, g2, g3⟩ := mem_cls.1 ha
        obtain ⟨h1, h2⟩ := (i2 b).1 (List.mem_flatten.2 ⟨r, hr', hb⟩)
        obtain ⟨h3, h4⟩ := hnew b h1 h2
        cases hab : R a b
        · rfl
        · exfalso
          have hkb := ht _ _ _ g2 hab
          cases hbk : R b k
          · rw [he2 b h1 hkb hbk] at h3; cases h3
          · exact h4 ⟨hkb, hbk⟩
end
theorem run_small {N : Nat} {R : Nat → Nat → Bool} : ∀ (f : Nat) (tl : List Bool), (run N R f tl).length ≤ f ∧ ∀ r ∈ run N R f tl, r.length ≤ N
  | 0, _ => by simp [run]
  | f + 1, tl => by
    simp only [run]
    cases hp : pick N R tl with
    | none => simp
    | some k =>
      obtain ⟨h1, h2⟩ := run_small f (mark N R tl k)
      refine ⟨by simpa using h1, fun r hr => ?_⟩
      rcases List.mem_cons.1 hr with rfl | hr
      · exact Nat.le_trans (List.length_filter_le _ _) (by simp)
      · exact h2 r hr
theorem compsL_small (n : Int) (l : List (Int × Int)) : (compsL n l).length ≤ 100 ∧ ∀ r ∈ compsL n l, r.length ≤ 100 := by
  have hN := bN_le n
  obtain ⟨h1, h2⟩ := run_small (N := bN n) (R := rB n l) (unset (List.replicate (bN n) false)) (List.replicate (bN n) false)
  have : unset (List.replicate (bN n) false) ≤ bN n := by simp [unset]
  exact ⟨Nat.le_trans h1 (by omega), fun r hr => Nat.le_trans (h2 r hr) hN⟩
section
variable {n : Int} {l : List (Int × Int)}
theorem compsL_spec (n : Int) (l : List (Int × Int)) : (∀ r ∈ compsL n l, ∃ k, k < bN n ∧ r = cls (bN n) (rB n l) k) ∧ (∀ v, v ∈ (compsL n l).flatten ↔ v < bN n) ∧ (compsL n l).flatten.Nodup ∧ (compsL n l).Pairwise (fun r1 r2 => ∀ a ∈ r1, ∀ b ∈ r2, rB n l a b = false) := by
  obtain ⟨h1, h2, h3, h4⟩ := run_spec (rB_trans n l) (rB_refl n l) _ (List.replicate (bN n) false) (by simp) (Nat.le_refl _) Shut.start
  refine ⟨h1, fun v => ?_, h3, h4⟩
  have := h2 v
  unfold compsL comps rest
  rw [this]
  constructor
  · exact fun h => h.1
  · exact fun h => ⟨h, by simp [List.getElem?_replicate, h]⟩
theorem compsL_total (n : Int) (l : List (Int × Int)) : (compsL n l).flatten.length = bN n := by
  obtain ⟨_, h2, h3, _⟩ := compsL_spec n l
  have := ((List.perm_ext_iff_of_nodup h3 (List.nodup_range (n := bN n))).2 (fun v => by rw [h2, List.mem_range])).length_eq
  simpa using this
theorem eN_ext {m : List (Int × Int)} (h : ∀ a b : Nat, a < bN n → b < bN n → (((a : Int), (b : Int)) ∈ l ↔ ((a : Int), (b : Int)) ∈ m)) : rB n l = rB n m := by
  have : eN n l = eN n m := by
    funext a b
    apply propext
    unfold eN
    constructor
    · rintro ⟨h1, h2, h3⟩; exact ⟨h1, h2, (h a b h1 h2).1 h3⟩
    · rintro ⟨h1, h2, h3⟩; exact ⟨h1, h2, (h a b h1 h2).2 h3⟩
  funext a b
  rw [Bool.eq_iff_iff, rB_iff, rB_iff, RR, RR, this]
theorem reach_mono {m : List (Int × Int)} (h : ∀ e ∈ l, e ∈ m) {a b : Nat} (hr : RR n l a b) : RR n m a b := by
  induction hr with
  | refl => exact .refl _
  | step _ e ih => exact .step ih ⟨e.1, e.2.1, h _ e.2.2⟩
theorem compsL_at {v : Nat} (hv : v < bN n) : ∃ (k j : Nat) (hk : k < (compsL n l).length) (hj : j < ((compsL n l)[k]).length), ((compsL n l)[k])[j] = v ∧ ∀ (k' j' : Nat) (hk' : k' < (compsL n l).length) (hj' : j' < ((compsL n l)[k']).length), ((compsL n l)[k'])[j'] = v → k' = k ∧ j' = j := by
  obtain ⟨h1, h2, h3, h4⟩ := compsL_spec n l
  obtain ⟨r, hr, hvr⟩ := List.mem_flatten.1 ((h2 v).2 hv)
  obtain ⟨k, hk, rfl⟩ := List.mem_iff_getElem.1 hr
  obtain ⟨j, hj, he⟩ := List.mem_iff_getElem.1 hvr
  refine ⟨k, j, hk, hj, he, fun k' j' hk' hj' he' => ?_⟩
  unfold List.Nodup at h3
  rw [List.pairwise_flatten] at h3
  obtain ⟨g1, g2⟩ := h3
  have hkk : k' = k := by
    rcases Nat.lt_trichotomy k' k with h | h | h
    · exact absurd (he'.trans he.symm) (List.pairwise_iff_getElem.1 g2 k' k hk' hk h _ (List.getElem_mem hj') _ (List.getElem_mem hj))
    · exact h
    · exact absurd (he.trans he'.symm) (List.pairwise_iff_getElem.1 g2 k k' hk hk' h _ (List.getElem_mem hj) _ (List.getElem_mem hj'))
  subst hkk
  refine ⟨rfl, ?_⟩
  have g3 := g1 _ (List.getElem_mem hk)
  rcases Nat.lt_trichotomy j' j with h | h | h
  · exact absurd (he'.trans he.symm) (List.pairwise_iff_getElem.1 g3 j' j hj' hj h)
  · exact h
  · exact absurd (he.trans he'.symm) (List.pairwise_iff_getElem.1 g3 j j' hj hj' h)
theorem compsL_same {k : Nat} (hk : k < (compsL n l).length) {i j : Nat} (hi : i < ((compsL n l)[k]).length) (hj : j < ((compsL n l)[k]).length) : rB n l ((compsL n l)[k])[i] ((compsL n l)[k])[j] = true := by
  obtain ⟨c, hc, e⟩ := (compsL_spec n l).1 _ (List.getElem_mem hk)
  have key : ∀ x ∈ (compsL n l)[k], rB n l c x = true ∧ rB n l x c = true := fun x hx => by rw [e] at hx; exact (mem_cls.1 hx).2
  exact rB_trans n l _ _ _ (key _ (List.getElem_mem hi)).2 (key _ (List.getElem_mem hj)).1
theorem compsL_lt {k i : Nat} (hk : k < (compsL n l).length) (hi : i < ((compsL n l)[k]).length) : ((compsL n l)[k])[i] < bN n :=
  ((compsL_spec n l).2.1 _).1 (List.mem_flatten.2 ⟨_, List.getElem_mem hk, List.getElem_mem hi⟩)
theorem compsL_sorted {k i : Nat} (hk : k < (compsL n l).length) (hi : i + 1 < ((compsL n l)[k]).length) : ((compsL n l)[k])[i] < ((compsL n l)[k])[i + 1] := by
  obtain ⟨c, hc, e⟩ := (compsL_spec n l).1 _ (List.getElem_mem hk)
  have := cls_sorted (N := bN n) (R := rB n l) c
  rw [← e] at this
  exact List.pairwise_iff_getElem.1 this i (i + 1) (by omega) hi (by omega)
theorem compsL_order {k k' i i' : Nat} (hk : k < (compsL n l).length) (hk' : k' < (compsL n l).length) (hi : i < ((compsL n l)[k]).length) (hi' : i' < ((compsL n l)[k']).length) (h : k < k') : rB n l ((compsL n l)[k])[i] ((compsL n l)[k'])[i'] = false :=
  List.pairwise_iff_getElem.1 (compsL_spec n l).2.2.2 k k' hk hk' h _ (List.getElem_mem hi) _ (List.getElem_mem hi')
end
end Go.Proofs.Ytdekelhmneeniaa.P11
namespace Go.Proofs.Ytdekelhmneeniaa.F
open Go Go.SX
def nN : Node := ⟨0, 0, 0, []⟩
def ndAt (c : List Node) (i : Nat) : Node := c.getD i nN
def insL (l : List Node) : List (Int × Int) := l.map Node.i
def edK (a : Node) (i : Nat) : List Node → Nat → List (Int × Int)
  | [], _ => []
  | b :: r, k => (if waits a.d b.i then [((i : Int), (k : Int))] else []) ++ edK a i r (k + 1)
def edR (c : List Node) : Nat → List Node → List (Int × Int)
  | _, [] => []
  | i, a :: r => edK a i c 0 ++ edR c (i + 1) r
def edgs (c : List Node) : List (Int × Int) := edR c 0 c
theorem edK_length (a : Node) (i : Nat) : ∀ (l : List Node) (k : Nat), (edK a i l k).length ≤ l.length
  | [], _ => by simp [edK]
  | b :: r, k => by have := edK_length a i r (k + 1); simp only [edK, List.length_append, List.length_cons]; split <;> simp <;> omega
theorem edR_length (c : List Node) : ∀ (l : List Node) (i : Nat), (edR c i l).length ≤ l.length * c.length
  | [], _ => by simp [edR]
  | a :: r, i => by
    have h1 := edK_length a i c 0
    have h2 := edR_length c r (i + 1)
    simp only [edR, List.length_append, List.length_cons, Nat.add_mul, Nat.one_mul]
    omega
theorem edgs_length {c : List Node} (h : c.length ≤ 500) : (edgs c).length ≤ 250000 :=
  Nat.le_trans (edR_length c c 0) (Nat.mul_le_mul h h)
theorem mem_edK {a : Node} {i : Nat} {x y : Int} : ∀ {l : List Node} {k : Nat}, (x, y) ∈ edK a i l k ↔ x = i ∧ ∃ j : Nat, j < l.length ∧ y = ((k + j : Nat) : Int) ∧ waits a.d (ndAt l j).i = true
  | [], k => by simp [edK]
  | b :: r, k => by
    simp only [edK, List.mem_append, mem_edK (l := r) (k := k + 1)]
    constructor
    · rintro (h | ⟨h1, j, h2, h3, h4⟩)
      · split at h
        · simp at h; exact ⟨h.1, 0, by simp, by simpa using h.2, by simpa [ndAt] using ‹waits a.d b.i = true›⟩
        · simp at h
      · exact ⟨h1, j + 1, by simpa using h2, by rw [h3]; congr 1; omega, by simpa [ndAt] using h4⟩
    · rintro ⟨h1, j, h2, h3, h4⟩
      cases j with
      | zero => left; rw [if_pos (by simpa [ndAt] using h4)]; simp; exact ⟨h1, by simpa using h3⟩
      | succ j => right; exact ⟨h1, j, by simpa using h2, by rw [h3]; congr 1; omega, by simpa [ndAt] using h4⟩
theorem mem_edR {c : List Node} {x y : Int} : ∀ {l : List Node} {i : Nat}, (x, y) ∈ edR c i l ↔ ∃ j : Nat, j < l.length ∧ x = ((i + j : Nat) : Int) ∧ ∃ k : Nat, k < c.length ∧ y = (k : Int) ∧ waits (ndAt l j).d (ndAt c k).i = true
  | [], i => by simp [edR]
  | a :: r, i => by
    simp only [edR, List.mem_append, mem_edR (l := r) (i := i + 1), mem_edK]
    constructor
    · rintro (⟨h1, k, h2, h3, h4⟩ | ⟨j, h1, h2, h3⟩)
      · exact ⟨0, by simp, by simpa using h1, k, h2, by simpa using h3, by simpa [ndAt] using h4⟩
      · exact ⟨j + 1, by simpa using h1, by rw [h2]; congr 1; omega, by simpa [ndAt] using h3⟩
    · rintro ⟨j, h1, h2, k, h3, h4, h5⟩
      cases j with
      | zero => exact .inl ⟨by simpa using h2, k, h3, by simpa using h4, by simpa [ndAt] using h5⟩
      | succ j => exact .inr ⟨j, by simpa using h1, by rw [h2]; congr 1; omega, k, h3, h4, by simpa [ndAt] using h5⟩
theorem mem_edgs {c : List Node} {a b : Nat} : ((a : Int), (b : Int)) ∈ edgs c ↔ a < c.length ∧ b < c.length ∧ waits (ndAt c a).d (ndAt c b).i = true := by
  unfold edgs
  rw [mem_edR]
  constructor
  · rintro ⟨j, h1, h2, k, h3, h4, h5⟩
    obtain rfl : a = j := by omega
    obtain rfl : b = k := by omega
    exact ⟨h1, h3, h5⟩
  · rintro ⟨h1, h2, h3⟩
    exact ⟨a, h1, by simp, b, h2, rfl, h3⟩
def rowS (b : Nat) : List (Int × Int) := (List.range' 1 60).map fun s : Nat => ((b : Int), (s : Int))
def slots : List (Int × Int) := (List.range' 1 7).flatMap rowS
theorem mem_slots {x : Int × Int} : x ∈ slots ↔ 1 ≤ x.1 ∧ x.1 ≤ 7 ∧ 1 ≤ x.2 ∧ x.2 ≤ 60 := by
  obtain ⟨a, b⟩ := x
  simp only [slots, rowS, List.mem_flatMap, List.mem_map, List.mem_range'_1, Prod.mk.injEq]
  constructor
  · rintro ⟨p, hp, q, hq, rfl, rfl⟩; omega
  · rintro ⟨h1, h2, h3, h4⟩
    exact ⟨a.toNat, by omega, b.toNat, by omega, by omega, by omega⟩
def pick (l : List Node) (done : List (Int × Int)) (x : Int × Int) : Option Node :=
  match (l.take 100).find? (fun n => decide (n.i = x) && near n) with
  | some n => if x ∈ done then none else some n
  | none => none
def cnt (l : List Node) (done : List (Int × Int)) : List Node := slots.filterMap (pick l done)
def misB (c : List Node) (done : List (Int × Int)) (x : Int × Int) : Bool := (c.any fun n => waits n.d x) && !decide (x ∈ insL c) && !decide (x ∈ done)
def miss (c : List Node) (done : List (Int × Int)) : List (Int × Int) := slots.filter (misB c done)
def lacks (m : List (Int × Int)) (n : Node) : Bool := m.any (waits n.d)
noncomputable def okB (c : List Node) (m : List (Int × Int)) (i : Nat) : Bool := !(P11.clos (c.length : Nat) (edgs c) (i : Nat)).any fun k => lacks m (ndAt c k)
noncomputable def rdyR (c : List Node) (m : List (Int × Int)) : Nat → List Node → List Node
  | _, [] => []
  | i, a :: r => (if okB c m i then [a] else []) ++ rdyR c m (i + 1) r
noncomputable def rdy (c : List Node) (m : List (Int × Int)) : List Node := rdyR c m 0 c
def posN (x : Node) : List Node → Nat
  | [] => 0
  | y :: r => if lessN x y then 0 else posN x r + 1
def insN (x : Node) (l : List Node) : List Node := l.take (posN x l) ++ [x] ++ l.drop (posN x l)
def srtR (o : List Node) : List Node → List Node
  | [] => o
  | x :: r => srtR (insN x o) r
def srt (l : List Node) : List Node := srtR [] l
def partL (r : List Node) (p : List Nat) : List (Int × Int) := insL (srt (p.map (ndAt r)))
def readyR (r : List Node) (ps : List (List Nat)) : List (Int × Int) := ps.flatMap (partL r)
noncomputable def readyL (l : List Node) (done : List (Int × Int)) : List (Int × Int) :=
  readyR (rdy (cnt l done) (miss (cnt l done) done)) (P11.compsL ((rdy (cnt l done) (miss (cnt l done) done)).length : Nat) (edgs (rdy (cnt l done) (miss (cnt l done) done))))
def missL (l : List Node) (done : List (Int × Int)) : List (Int × Int) := miss (cnt l done) done
theorem posN_le (x : Node) : ∀ l, posN x l ≤ l.length
  | [] => by simp [posN]
  | y :: r => by have := posN_le x r; simp only [posN, List.length_cons]; split <;> omega
theorem insN_length (x : Node) (l : List Node) : (insN x l).length = l.length + 1 := by have := posN_le x l; simp [insN]; omega
theorem srtR_length : ∀ (l o : List Node), (srtR o l).length = o.length + l.length
  | [], o => by simp [srtR]
  | x :: r, o => by rw [srtR, srtR_length r, insN_length]; simp; omega
theorem srt_length (l : List Node) : (srt l).length = l.length := by simp [srt, srtR_length]
theorem rdyR_length (c : List Node) (m : List (Int × Int)) : ∀ (l : List Node) (i : Nat), (rdyR c m i l).length ≤ l.length
  | [], _ => by simp [rdyR]
  | a :: r, i => by have := rdyR_length c m r (i + 1); simp only [rdyR, List.length_append, List.length_cons]; split <;> simp <;> omega
theorem rdy_length (c : List Node) (m : List (Int × Int)) : (rdy c m).length ≤ c.length := rdyR_length c m c 0
theorem mem_rdyR {c : List Node} {m : List (Int × Int)} {n : Node} : ∀ {l : List Node} {i : Nat}, n ∈ rdyR c m i l → n ∈ l
  | [], _, h => by simp [rdyR] at h
  | a :: r, i, h => by
    simp only [rdyR, List.mem_append] at h
    rcases h with h | h
    · split at h
      · simp at h; subst h; exact List.mem_cons_self
      · simp at h
    · exact List.mem_cons_of_mem _ (mem_rdyR h)
theorem mem_rdy {c : List Node} {m : List (Int × Int)} {n : Node} (h : n ∈ rdy c m) : n ∈ c := mem_rdyR h
theorem rowS_length (b : Nat) : (rowS b).length = 60 := by rw [rowS, List.length_map, List.length_range']
theorem flat_length : ∀ (l : List Nat), (l.flatMap rowS).length = 60 * l.length
  | [] => rfl
  | a :: r => by rw [List.flatMap_cons, List.length_append, flat_length r, rowS_length, List.length_cons]; omega
theorem slots_length : slots.length = 420 := by rw [slots, flat_length, List.length_range']
theorem cnt_length (l : List Node) (done : List (Int × Int)) : (cnt l done).length ≤ 420 := Nat.le_trans (List.length_filterMap_le _ _) (by rw [slots_length]; exact Nat.le_refl _)
theorem miss_length (c : List Node) (done : List (Int × Int)) : (miss c done).length ≤ 420 := Nat.le_trans (List.length_filter_le _ _) (by rw [slots_length]; exact Nat.le_refl _)
theorem pick_spec {l : List Node} {done : List (Int × Int)} {x : Int × Int} {n : Node} (h : pick l done x = some n) : n ∈ l ∧ n.i = x ∧ near n = true ∧ x ∉ done := by
  unfold pick at h
  split at h
  · rename_i q hq
    split at h
    · cases h
    · injection h with h; subst h
      have h1 := List.mem_of_find?_eq_some hq
      have h2 := List.find?_some hq
      simp only [Bool.and_eq_true, decide_eq_true_eq] at h2
      exact ⟨List.mem_of_mem_take h1, h2.1, h2.2, by assumption⟩
  · cases h
theorem mem_cnt {l : List Node} {done : List (Int × Int)} {n : Node} (h : n ∈ cnt l done) : n ∈ l ∧ near n = true ∧ n.i ∉ done ∧ pick l done n.i = some n := by
  obtain ⟨x, _, hx⟩ := List.mem_filterMap.1 h
  obtain ⟨h1, h2, h3, h4⟩ := pick_spec hx
  subst h2
  exact ⟨h1, h3, h4, hx⟩
theorem nodup_le {α : Type} [DecidableEq α] : ∀ {a b : List α}, a.Nodup → (∀ x ∈ a, x ∈ b) → a.length ≤ b.length
  | [], b, _, _ => by simp
  | x :: r, b, hn, h => by
    have hx := h x List.mem_cons_self
    have hn2 := List.nodup_cons.1 hn
    have h1 := nodup_le (b := b.erase x) hn2.2 (fun y hy => (List.mem_erase_of_ne (by intro e; subst e; exact hn2.1 hy)).2 (h y (List.mem_cons_of_mem _ hy)))
    have h2 := List.length_erase_of_mem hx
    have h3 := List.length_pos_of_mem hx
    simp only [List.length_cons]
    omega
theorem row_nodup (b : Nat) : (rowS b).Nodup := by
  unfold rowS
  rw [List.nodup_iff_pairwise_ne, List.pairwise_map]
  exact (List.pairwise_lt_range' (s := 1) (n := 60)).imp (fun {a b} h => by simp; omega)
theorem slots_nodup : slots.Nodup := by
  unfold slots
  rw [List.nodup_iff_pairwise_ne, List.pairwise_flatMap]
  refine ⟨fun b _ => List.nodup_iff_pairwise_ne.1 (row_nodup b), (List.pairwise_lt_range' (s := 1) (n := 7)).imp (fun {a b} h => ?_)⟩
  intro x hx y hy e
  subst e
  obtain ⟨s, _, rfl⟩ := List.mem_map.1 hx
  obtain ⟨s', _, e⟩ := List.mem_map.1 hy
  simp at e; omega
theorem insL_pick {l : List Node} {done : List (Int × Int)} : ∀ (S : List (Int × Int)), insL (S.filterMap (pick l done)) = S.filter fun x => (pick l done x).isSome
  | [] => rfl
  | x :: r => by
    have ih := insL_pick (l := l) (done := done) r
    rw [List.filterMap_cons, List.filter_cons]
    cases h : pick l done x with
    | none => simpa using ih
    | some n =>
      have := (pick_spec h).2.1
      simp only [Option.isSome_some, if_true]
      rw [← ih, ← this]; rfl
theorem cnt_insL (l : List Node) (done : List (Int × Int)) : insL (cnt l done) = slots.filter fun x => (pick l done x).isSome := insL_pick slots
theorem cnt_nodup (l : List Node) (done : List (Int × Int)) : (insL (cnt l done)).Nodup := by rw [cnt_insL]; exact slots_nodup.filter _
theorem pick_take {l : List Node} {done : List (Int × Int)} {x : Int × Int} {n : Node} (h : pick l done x = some n) : n ∈ l.take 100 := by
  unfold pick at h
  split at h
  · rename_i q hq
    split at h
    · cases h
    · injection h with h; subst h
      exact List.mem_of_find?_eq_some hq
  · cases h
theorem cnt_few (l : List Node) (done : List (Int × Int)) : (cnt l done).length ≤ 100 := by
  have h := nodup_le (b := insL (l.take 100)) (cnt_nodup l done) (fun x hx => by
    obtain ⟨n, hn, rfl⟩ := List.mem_map.1 hx
    exact List.mem_map.2 ⟨n, pick_take (mem_cnt hn).2.2.2, rfl⟩)
  simp only [insL, List.length_map] at h
  have := List.length_take_le 100 l
  omega
theorem compsL_sum (n : Int) (l : List (Int × Int)) : (P11.compsL n l).flatten.length ≤ 100 := by rw [P11.compsL_total]; exact P11.bN_le n
theorem ndAt_mem {c : List Node} {i : Nat} (h : i < c.length) : ndAt c i ∈ c := by simp [ndAt, h]
theorem app_le {α : Type} {a b c : List α} (h : a ++ b = c) : a.length + b.length = c.length := by rw [← h]; simp
def I34 (l : List Node) (m : Nat) (st : St) : Prop := ∃ i : Nat, i ≤ l.length ∧ m = l.length - i ∧ st = ⟨[(0, .ro 4 (eNs l)), (3, .own 34018 2 0 (insL (l.take i)).length), (4, iv i)], [(34018, .arr 25 2 (eds (insL (l.take i))))], []⟩
def I57 (n : Node) (l : List (Int × Int)) (m : Nat) (st : St) : Prop := ∃ i : Nat, i ≤ l.length ∧ m = l.length - i ∧ l.any (waits n.d) = (l.drop i).any (waits n.d) ∧ st = ⟨[(1, .ro 2 (eds l)), (2, .ptr 57002 0 0 0), (5, iv i)], [(57002, .obj 30 (eN n))], []⟩
def s33 (c : List Node) (e : List (Int × Int)) (s : Slots) : St := ⟨(0, .ro 4 (eNs c)) :: (3, .own 33036 2 0 e.length) :: s, [(33036, .arr 46 2 (eds e))], []⟩
def I33 (c : List Node) (m : Nat) (st : St) : Prop := ∃ (i : Nat) (e : List (Int × Int)), i ≤ c.length ∧ m = c.length - i ∧ e ++ edR c i (c.drop i) = edgs c ∧ st = s33 c e [(4, iv i)]
def I33b (c : List Node) (a : Node) (i : Nat) (m : Nat) (st : St) : Prop := ∃ (k : Nat) (e : List (Int × Int)), k ≤ c.length ∧ m = c.length - k ∧ (e ++ edK a i (c.drop k) k) ++ edR c (i + 1) (c.drop (i + 1)) = edgs c ∧ st = s33 c e [(4, iv i), (5, iv k)]
theorem c34 : chkFn Try.prog 34 20 1 a34 a34R = true := by kernel_rfl
theorem d34 (l : List Node) (hl : l.length < 1000000) : DoesT 34 [.ro 4 (eNs l)] (.ro 2 (eds (insL l))) := by
 refine Does.of (nt := 20) (ac := a34) (rds := a34R) c34 (fun c hc => ?_)
 unfold a34
 apply J.seq
 refine J.regE (by simp [eNs, eN, eNs_length, eI]; rfl) ?_
 simp
 apply J.seq
 refine J.regE (by simp [eNs, eN, eNs_length, eI]; rfl) ?_
 simp
 refine J.nilrow hc 3 34018 25 rfl rfl rfl ?_
 simp
 apply J.seq
 apply J.seq
 refine J.regE (by simp [eNs, eN, eNs_length, eI]; rfl) ?_
 simp
 apply J.block
 refine J.loop hc (I34 l) ?_ ?_
 ·exact ⟨_, _, by apply le_sub <;> simp [eNs, insL], 0, by omega, rfl, rfl⟩
 rintro n st ⟨i, hi, rfl, rfl⟩
 apply J.seq
 apply J.seq
 refine J.regE (by simp [eNs, eN, eNs_length, eI]; rfl) ?_
 simp
 apply J.cond; simp [eNs, eN, eNs_length, eI]
 refine ⟨fun hlt => ?_, fun hlt => ?_⟩
 ·
  have hi0 : i < l.length := by simpa [eNs_length] using hlt
  obtain ⟨y, hx, hgx, hg, hge, hdr, hw, hlt2, htk⟩ := getL (eN) (show i < l.length by omega) (by omega)
  have hlen : (insL (l.take i)).length = i := by simp [insL]; omega
  apply J.skip; simp
  apply J.seq
  apply J.block
  apply J.reg
  iterate 9 refine runL_step rfl (by simp [eNs, eN, eNs_length, eI, eNs, eN, eNs_length, eI, hi0, hgx, show ((insL (l.take i)).length + 1) * 16 ≤ 140737488355328 from by omega, List.take_of_length_le]; rfl) ?_
  simp [runL]
  refine J.regE (by simp [eNs, eN, eNs_length, eI, hw]; rfl) ?_
  simp
  refine ⟨_, by omega, _, ?_, i + 1, by omega, rfl, rfl⟩
  apply le_sub <;> simp [eNs, insL, htk, Node.i]
 ·
  have hie : i = l.length := by
   try simp [eNs_length] at hlt
   omega
  subst hie
  apply J.exit; simp
  apply J.seq
  refine J.freeze hc 34018 rfl ?_
  simp
  refine J.regE (by simp [eNs, eN, eNs_length, eI]; rfl) ?_
  simp
  apply J.ret
  refine ⟨by simp, rfl, _, [], by simp [a34R]; rfl, ?_⟩
  simp
theorem c33 : chkFn Try.prog 33 38 1 a33 a33R = true := by kernel_rfl
theorem d33 (z : List Node) (hl : z.length ≤ 500) (hd : ∀ n ∈ z, n.d.length < 1000000) : DoesT 33 [.ro 4 (eNs z)] (.ro 2 (eds (edgs z))) := by
 have hel := edgs_length hl
 refine Does.of (nt := 38) (ac := a33) (rds := a33R) c33 (fun c hc => ?_)
 unfold a33
 apply J.seq
 refine J.regE (by simp [eNs, eN, eNs_length, eI]; rfl) ?_
 simp
 apply J.seq
 refine J.regE (by simp [eNs, eN, eNs_length, eI]; rfl) ?_
 simp
 refine J.nilrow hc 3 33036 46 rfl rfl rfl ?_
 simp
 apply J.seq
 apply J.seq
 refine J.regE (by simp [eNs, eN, eNs_length, eI]; rfl) ?_
 simp
 apply J.block
 refine J.loop hc (I33 z) ?_ ?_
 ·exact ⟨_, _, by apply le_sub <;> simp [eNs, s33], 0, [], by omega, rfl, rfl, rfl⟩
 rintro n st ⟨i, e, hi, rfl, hI, rfl⟩
 unfold s33
 apply J.seq
 apply J.seq
 refine J.regE (by simp [eNs, eN, eNs_length, eI]; rfl) ?_
 simp
 apply J.cond; simp [eNs, eN, eNs_length, eI]
 refine ⟨fun hlt => ?_, fun hlt => ?_⟩
 ·
  have hi0 : i < z.length := by simpa [eNs_length] using hlt
  obtain ⟨a, hx, hgx, hg, hge, hdr, hw, hlt2, htk⟩ := getL (eN) (show i < z.length by omega) (by omega)
  rw [hdr] at hI
  simp only [edR] at hI
  apply J.skip; simp
  apply J.seq
  apply J.block
  apply J.seq
  refine J.regE (by simp [eNs, eN, eNs_length, eI]; rfl) ?_
  simp
  apply J.block
  refine J.loop hc (I33b z a i) ?_ ?_
  ·refine ⟨_, _, ?_, 0, e, by omega, rfl, by simpa using hI, rfl⟩
   apply le_sub <;> simp [eNs, s33]
  rintro n st ⟨k, e, hk, rfl, hI, rfl⟩
  unfold s33
  apply J.seq
  apply J.seq
  refine J.regE (by simp [eNs, eN, eNs_length, eI]; rfl) ?_
  simp
  apply J.cond; simp [eNs, eN, eNs_length, eI]
  refine ⟨fun hkt => ?_, fun hkt => ?_⟩
  ·
   have hk0 : k < z.length := by simpa [eNs_length] using hkt
   obtain ⟨b, hxk, hgxk, hgk, hgek, hdrk, hwk, hlt2k, htkk⟩ := getL (eN) (show k < z.length by omega) (by omega)
   rw [hdrk] at hI
   simp only [edK] at hI
   apply J.skip; simp
   apply J.seq
   apply J.block
   apply J.seq
   apply J.draw; intro c' hc'
   iterate 10 refine runP_stepQ (by simp [eNs, eN, eNs_length, eI, eNs, eN, eNs_length, eI, hi0, hgx, hk0, hgxk]; rfl) ?_
   refine runP_tree rfl (d58 a.q a.d b.i (hd _ (List.mem_of_getElem? hx))) (by simp) rfl ?_
   simp
   refine runP_stepQ (by simp [eNs, eN, eNs_length, eI, eNs, eN, eNs_length, eI, hi0, hgx, hk0, hgxk]; rfl) ?_
   simp [runP]
   apply J.seq
   refine J.regE (by simp [eNs, eN, eNs_length, eI]; rfl) ?_
   simp
   refine J.condB rfl (fun h30 => ?_) (fun h30 => ?_)
   ·
    try simp at h30
    rw [h30] at hI
    have hI2 : ((e ++ [((i : Int), (k : Int))]) ++ edK a i (z.drop (k + 1)) (k + 1)) ++ edR z (i + 1) (z.drop (i + 1)) = edgs z := by simpa using hI
    have hlen := app_le hI2
    simp at hlen
    apply J.reg
    iterate 7 refine runL_step rfl (by simp [eNs, eN, eNs_length, eI, eNs, eN, eNs_length, eI, show (e.length + 1) * 16 ≤ 140737488355328 from by omega, List.take_of_length_le]; rfl) ?_
    simp [runL]
    refine J.regE (by simp [eNs, eN, eNs_length, eI, hwk]; rfl) ?_
    simp
    refine ⟨_, ?_, _, ?_, k + 1, e ++ [((i : Int), (k : Int))], by omega, rfl, hI2, rfl⟩
    ·omega
    apply le_sub <;> simp [eNs, s33]
   ·
    try simp at h30
    rw [h30] at hI
    have hI2 : (e ++ edK a i (z.drop (k + 1)) (k + 1)) ++ edR z (i + 1) (z.drop (i + 1)) = edgs z := by simpa using hI
    apply J.skip; simp
    refine J.regE (by simp [eNs, eN, eNs_length, eI, hwk]; rfl) ?_
    simp
    refine ⟨_, ?_, _, ?_, k + 1, e, by omega, rfl, hI2, rfl⟩
    ·omega
    apply le_sub <;> simp [eNs, s33]
  ·
   have hke : k = z.length := by
    try simp [eNs_length] at hkt
    omega
   subst hke
   rw [List.drop_length] at hI
   simp only [edK, List.append_nil] at hI
   have hI2 := hI
   apply J.exit; simp
   refine J.regE (by simp [eNs, eN, eNs_length, eI, hw]; rfl) ?_
   simp
   refine ⟨_, by omega, _, ?_, i + 1, e, by omega, rfl, hI2, rfl⟩
   apply le_sub <;> simp [eNs, s33]
 ·
  have hie : i = z.length := by
   try simp [eNs_length] at hlt
   omega
  subst hie
  rw [List.drop_length] at hI
  simp only [edR, List.append_nil] at hI
  apply J.exit; simp
  apply J.seq
  refine J.freeze hc 33036 rfl ?_
  simp
  refine J.regE (by simp [eNs, eN, eNs_length, eI]; rfl) ?_
  simp
  apply J.ret
  refine ⟨by simp, rfl, _, [], by simp [a33R]; rfl, ?_⟩
  simp [hI]
theorem c57 : chkFn Try.prog 57 21 2 a57 a57R = true := by kernel_rfl
theorem d57 (n : Node) (l : List (Int × Int)) (hl : l.length < 1000000) (hd : n.d.length < 1000000) : DoesT 57 [.agg (eN n), .ro 2 (eds l)] (bv (lacks l n)) := by
 refine Does.of (nt := 21) (ac := a57) (rds := a57R) c57 (fun c hc => ?_)
 unfold a57
 apply J.seq
 refine J.regE (by simp [eN]; rfl) ?_
 simp
 apply J.seq
 apply J.seq
 refine J.regE (by simp [eN]; rfl) ?_
 simp
 apply J.block
 refine J.loop hc (I57 n l) ?_ ?_
 ·exact ⟨_, _, St.le_refl _, 0, by omega, rfl, rfl, by simp [eN]⟩
 rintro n st ⟨i, hi, rfl, hI, rfl⟩
 apply J.seq
 apply J.seq
 refine J.regE (by simp [eN]; rfl) ?_
 simp
 apply J.cond; simp [eN]
 refine ⟨fun hlt => ?_, fun hlt => ?_⟩
 ·
  obtain ⟨y, hx, hgx, hg, hge, hdr, hw, hlt2, htk⟩ := getL (eI) (show i < l.length by omega) (by omega)
  rw [hdr] at hI
  apply J.skip; simp
  apply J.seq
  apply J.block
  apply J.seq
  apply J.draw; intro c' hc'
  iterate 6 refine runP_stepQ (by simp [eN, hlt, hgx, eN]; rfl) ?_
  refine runP_tree rfl (d58 n.q n.d y hd) (by simp) rfl ?_
  simp
  refine runP_stepQ (by simp [eN, hlt, hgx, eN]; rfl) ?_
  simp [runP]
  apply J.seq
  refine J.regE (by simp [eN]; rfl) ?_
  simp
  refine J.condB rfl (fun h20 => ?_) (fun h20 => ?_)
  ·
   try simp at h20
   have hI2 : l.any (waits n.d) = true := by rw [hI]; simp [h20]
   apply J.seq
   refine J.regE (by simp [eN]; rfl) ?_
   simp
   apply J.ret
   refine ⟨by simp, rfl, _, [], by simp [a57R]; rfl, ?_⟩
   simp [lacks, hI2]
  ·
   try simp at h20
   have hI2 : l.any (waits n.d) = (l.drop (i + 1)).any (waits n.d) := by rw [hI]; simp [h20]
   apply J.skip; simp
   refine J.regE (by simp [eN, hw]; rfl) ?_
   simp
   refine ⟨_, by omega, _, ?_, i + 1, by omega, rfl, hI2, rfl⟩
   apply le_sub <;> simp [eN]
 ·
  have : i = l.length := by omega
  subst this
  rw [List.drop_length] at hI
  apply J.exit; simp
  apply J.seq
  refine J.regE (by simp [eN]; rfl) ?_
  simp
  apply J.ret
  refine ⟨by simp, rfl, _, [], by simp [a57R]; rfl, ?_⟩
  simp [lacks, hI]
def s21 (l : List Node) (done : List (Int × Int)) (o : List Node) (s : Slots) : St := ⟨(0, .ro 4 (eNs l)) :: (1, .ro 2 (eds done)) :: (5, .own 21061 4 0 o.length) :: s, [(21061, .arr 30 4 (eNs o))], []⟩
def R21 (b s : Nat) : List (Int × Int) := ((List.range' s (61 - s)).map fun s : Nat => ((b : Int), (s : Int))) ++ (List.range' (b + 1) (7 - b)).flatMap rowS
def I21 (l : List Node) (done : List (Int × Int)) (m : Nat) (st : St) : Prop := ∃ (b : Nat) (o : List Node), 1 ≤ b ∧ b ≤ 8 ∧ m = 8 - b ∧ o ++ ((List.range' b (8 - b)).flatMap rowS).filterMap (pick l done) = cnt l done ∧ st = s21 l done o [(6, iv b)]
def I21b (l : List Node) (done : List (Int × Int)) (b m : Nat) (st : St) : Prop := ∃ (s : Nat) (o : List Node), 1 ≤ s ∧ s ≤ 61 ∧ m = 61 - s ∧ o ++ (R21 b s).filterMap (pick l done) = cnt l done ∧ st = s21 l done o [(6, iv b), (7, iv s)]
def P21 (b s : Nat) (n : Node) : Bool := decide (n.i = ((b : Int), (s : Int))) && near n
def I21c (l : List Node) (done : List (Int × Int)) (o : List Node) (b s m : Nat) (st : St) : Prop := ∃ i : Nat, i ≤ l.length ∧ i ≤ 100 ∧ m = l.length - i ∧ (l.take 100).find? (P21 b s) = ((l.drop i).take (100 - i)).find? (P21 b s) ∧ st = s21 l done o [(6, iv b), (7, iv s), (8, iv i)]
theorem R21_step {b s : Nat} (h : s ≤ 60) : R21 b s = ((b : Int), (s : Int)) :: R21 b (s + 1) := by
 unfold R21
 rw [show 61 - s = (61 - (s + 1)) + 1 by omega, List.range'_succ]; rfl
theorem R21_row {b : Nat} (h : b ≤ 7) : (List.range' b (8 - b)).flatMap rowS = R21 b 1 := by
 unfold R21
 rw [show 8 - b = (7 - b) + 1 by omega, List.range'_succ, List.flatMap_cons]; rfl
theorem R21_end {b : Nat} : R21 b 61 = (List.range' (b + 1) (8 - (b + 1))).flatMap rowS := by
 unfold R21
 simp [show 8 - (b + 1) = 7 - b by omega]
theorem pick_none {l : List Node} {done : List (Int × Int)} {b s : Nat} (h : (l.take 100).find? (P21 b s) = none) : pick l done ((b : Int), (s : Int)) = none := by
 unfold pick; rw [show (fun n : Node => decide (n.i = ((b : Int), (s : Int))) && near n) = P21 b s from rfl, h]
theorem pick_some {l : List Node} {done : List (Int × Int)} {b s : Nat} {y : Node} (h : (l.take 100).find? (P21 b s) = some y) : pick l done ((b : Int), (s : Int)) = if ((b : Int), (s : Int)) ∈ done then none else some y := by
 unfold pick; rw [show (fun n : Node => decide (n.i = ((b : Int), (s : Int))) && near n) = P21 b s from rfl, h]
def s31 (z : List Node) (done o : List (Int × Int)) (s : Slots) (m : Mem) : St := ⟨(0, .ro 4 (eNs z)) :: (1, .ro 2 (eds done)) :: (5, .ro 2 (eds (insL z))) :: (6, .own 31063 2 0 o.length) :: s, (31063, .arr 25 2 (eds o)) :: m, []⟩
def I31 (z : List Node) (done : List (Int × Int)) (m : Nat) (st : St) : Prop := ∃ (b : Nat) (o : List (Int × Int)), 1 ≤ b ∧ b ≤ 8 ∧ m = 8 - b ∧ o ++ ((List.range' b (8 - b)).flatMap rowS).filter (misB z done) = miss z done ∧ st = s31 z done o [(7, iv b)] []
def I31b (z : List Node) (done : List (Int × Int)) (b m : Nat) (st : St) : Prop := ∃ (s : Nat) (o : List (Int × Int)), 1 ≤ s ∧ s ≤ 61 ∧ m = 61 - s ∧ o ++ (R21 b s).filter (misB z done) = miss z done ∧ st = s31 z done o [(7, iv b), (8, iv s)] []
def I31c (z : List Node) (done o : List (Int × Int)) (b s m : Nat) (st : St) : Prop := ∃ (i : Nat) (w : Bool), i ≤ z.length ∧ m = z.length - i ∧ (z.any fun n => waits n.d ((b : Int), (s : Int))) = (w || (z.drop i).any fun n => waits n.d ((b : Int), (s : Int))) ∧
 st = s31 z done o [(7, iv b), (8, iv s), (9, .ptr 31009 0 0 0), (10, bv (decide (((b : Int), (s : Int)) ∈ insL z))), (11, bv (decide (((b : Int), (s : Int)) ∈ done))), (12, bv w), (13, iv i)] [(31009, .obj 25 [iv b, iv s])]
theorem c21 : chkFn Try.prog 21 64 2 a21 a21R = true := by kernel_rfl
theorem d21 (l : List Node) (done : List (Int × Int)) (hl : l.length < 1000000) (hdn : done.length < 1000000) (hd : ∀ n ∈ l, n.d.length < 1000000) : DoesT 21 [.ro 4 (eNs l), .ro 2 (eds done)] (.ro 4 (eNs (cnt l done))) := by
 have hcl := cnt_length l done
 refine Does.of (nt := 64) (ac := a21) (rds := a21R) c21 (fun c hc => ?_)
 unfold a21
 apply J.seq
 refine J.regE (by simp [eNs, eN, eNs_length, eI]; rfl) ?_
 simp
 apply J.seq
 refine J.regE (by simp [eNs, eN, eNs_length, eI]; rfl) ?_
 simp
 refine J.nilrow hc 5 21061 30 rfl rfl rfl ?_
 simp
 apply J.seq
 apply J.seq
 refine J.regE (by simp [eNs, eN, eNs_length, eI]; rfl) ?_
 simp
 apply J.block
 refine J.loop hc (I21 l done) ?_ ?_
 ·exact ⟨_, _, by apply le_sub <;> simp [eNs, s21], 1, [], by omega, by omega, rfl, rfl, rfl⟩
 rintro n st ⟨b, o, hb, hb8, rfl, hI, rfl⟩
 unfold s21
 apply J.seq
 apply J.seq
 refine J.regE (by simp [eNs, eN, eNs_length, eI]; rfl) ?_
 simp
 refine J.condB rfl (fun h12 => ?_) (fun h12 => ?_)
 ·
  try simp at h12
  have hwb : IntKind.i64.wrap ((b : Int) + 1) = (b : Int) + 1 := wrap_id (by omega) (by omega)
  rw [R21_row (show b ≤ 7 by omega)] at hI
  apply J.skip; simp
  apply J.seq
  apply J.block
  apply J.seq
  refine J.regE (by simp [eNs, eN, eNs_length, eI]; rfl) ?_
  simp
  apply J.block
  refine J.loop hc (I21b l done b) ?_ ?_
  ·refine ⟨_, _, ?_, 1, o, by omega, by omega, rfl, hI, rfl⟩
   apply le_sub <;> simp [eNs, eN, s21]
  rintro n st ⟨s, o, hs, hs61, rfl, hI, rfl⟩
  unfold s21
  apply J.seq
  apply J.seq
  refine J.regE (by simp [eNs, eN, eNs_length, eI]; rfl) ?_
  simp
  refine J.condB rfl (fun h16 => ?_) (fun h16 => ?_)
  ·
   try simp at h16
   have hws : IntKind.i64.wrap ((s : Int) + 1) = (s : Int) + 1 := wrap_id (by omega) (by omega)
   rw [R21_step (show s ≤ 60 by omega)] at hI
   apply J.skip; simp
   apply J.seq
   apply J.block
   apply J.seq
   refine J.regE (by simp [eNs, eN, eNs_length, eI]; rfl) ?_
   simp
   apply J.block
   refine J.loop hc (I21c l done o b s) ?_ ?_
   ·refine ⟨_, _, ?_, 0, by omega, by omega, rfl, by simp, rfl⟩
    apply le_sub <;> simp [eNs, eN, s21]
   rintro n st ⟨i, hi, hi1, rfl, hF, rfl⟩
   unfold s21
   apply J.seq
   apply J.seq
   apply J.reg
   iterate 5 refine runL_step rfl (by simp [eNs, eN, eNs_length, eI]; rfl) ?_
   refine runL_if rfl (fun g23 => ?_) (fun g23 => ?_)
   ·
    try simp only [g23]
    try simp at g23
    try simp [eNs_length] at g23
    iterate 3 refine runL_step rfl (by simp [eNs, eN, eNs_length, eI]; rfl) ?_
    simp [runL]
    refine J.condB rfl (fun h26 => ?_) (fun h26 => ?_)
    ·
     try simp at h26
     have hi0 : i < l.length := by omega
     obtain ⟨y, hx, hgx, hg, hge, hdr, hw, hlt2, htk⟩ := getL (eN) (show i < l.length by omega) (by omega)
     have h100 : i < 100 := by omega
     rw [hdr, show 100 - i = (100 - (i + 1)) + 1 by omega, List.take_succ_cons, List.find?_cons] at hF
     apply J.skip; simp
     apply J.seq
     apply J.block
     apply J.seq
     apply J.seq
     apply J.reg
     iterate 9 refine runL_step rfl (by simp [eNs, eN, eNs_length, eI, hi0, hgx]; rfl) ?_
     simp [runL]
     refine J.condB rfl (fun h37 => ?_) (fun h37 => ?_)
     ·
      try simp at h37
      have hne : P21 b s y = false := by
       simp only [P21, Node.i, Prod.mk.injEq, Bool.and_eq_false_iff, decide_eq_false_iff_not]; left; rintro ⟨e1, e2⟩; rcases h37 with h | h; exact h e1; exact h e2
      rw [hne] at hF
      have hF3 := hF
      apply J.exit; simp
      refine J.regE (by simp [eNs, eN, eNs_length, eI, hw]; rfl) ?_
      simp
      refine ⟨_, ?_, _, ?_, i + 1, ?_, ?_, rfl, hF3, rfl⟩
      ·omega
      ·apply le_sub <;> simp [eNs, eN, s21]
      ·omega
      ·omega
     ·
      try simp at h37
      have hyi : y.i = ((b : Int), (s : Int)) := Prod.ext h37.1 h37.2
      have hP : P21 b s y = near y := by simp [P21, hyi]
      rw [hP] at hF
      have hmy := hd _ (List.mem_of_getElem? hx)
      apply J.skip; simp
      apply J.seq
      apply J.reg
      iterate 4 refine runL_step rfl (by simp [eNs, eN, eNs_length, eI, hi0, hgx]; rfl) ?_
      refine runL_tree rfl (d37 y hmy) (by simp) hc ?_
      simp
      refine runL_step rfl (by simp [eNs, eN, eNs_length, eI, hi0, hgx]; rfl) ?_
      simp [runL]
      apply J.seq
      apply J.reg
      iterate 6 refine runL_step rfl (by simp [eNs, eN, eNs_length, eI, hi0, hgx]; rfl) ?_
      refine runL_tree rfl (d19 done y.i hdn) (by simp) hc ?_
      simp
      refine runL_step rfl (by simp [eNs, eN, eNs_length, eI, hi0, hgx]; rfl) ?_
      simp [runL]
      apply J.seq
      apply J.seq
      apply J.reg
      iterate 2 refine runL_step rfl (by simp [eNs, eN, eNs_length, eI]; rfl) ?_
      refine runL_if rfl (fun g51 => ?_) (fun g51 => ?_)
      ·
       try simp only [g51]
       try simp at g51
       try simp at g51
       rw [g51] at hF
       simp only at hF
       iterate 3 refine runL_step rfl (by simp [eNs, eN, eNs_length, eI]; rfl) ?_
       simp [runL]
       refine J.condB rfl (fun h54 => ?_) (fun h54 => ?_)
       ·
        try simp at h54
        rw [hyi] at h54
        have hI2 : (o ++ [y]) ++ (R21 b (s + 1)).filterMap (pick l done) = cnt l done := by
         rw [List.filterMap_cons, pick_some hF, if_neg h54] at hI; simpa using hI
        have hlen := app_le hI2
        simp at hlen
        apply J.reg
        iterate 8 refine runL_step rfl (by simp [eNs, eN, eNs_length, eI, eNs, eN, eNs_length, eI, hi0, hgx, show (o.length + 1) * 48 ≤ 140737488355328 from by omega, List.take_of_length_le]; rfl) ?_
        simp [runL]
        apply J.seq
        refine J.regE (by simp [eNs, eN, eNs_length, eI]; rfl) ?_
        simp
        apply J.cond; simp [eNs, eN, eNs_length, eI]
        apply J.exit; simp
        refine J.regE (by simp [eNs, eN, eNs_length, eI, hws]; rfl) ?_
        simp
        refine ⟨_, ?_, _, ?_, s + 1, _, ?_, ?_, rfl, hI2, rfl⟩
        ·omega
        ·apply le_sub <;> simp [eNs, eN, s21]
        ·omega
        ·omega
       ·
        try simp at h54
        rw [hyi] at h54
        have hI2 : o ++ (R21 b (s + 1)).filterMap (pick l done) = cnt l done := by
         rw [List.filterMap_cons, pick_some hF, if_pos h54] at hI; exact hI
        apply J.skip; simp
        apply J.seq
        refine J.regE (by simp [eNs, eN, eNs_length, eI]; rfl) ?_
        simp
        apply J.cond; simp [eNs, eN, eNs_length, eI]
        apply J.exit; simp
        refine J.regE (by simp [eNs, eN, eNs_length, eI, hws]; rfl) ?_
        simp
        refine ⟨_, ?_, _, ?_, s + 1, _, ?_, ?_, rfl, hI2, rfl⟩
        ·omega
        ·apply le_sub <;> simp [eNs, eN, s21]
        ·omega
        ·omega
      ·
       try simp only [g51]
       try simp at g51
       try simp at g51
       rw [g51] at hF
       have hF3 := hF
       iterate 2 refine runL_step rfl (by simp [eNs, eN, eNs_length, eI]; rfl) ?_
       simp [runL]
       apply J.cond; simp [eNs, eN, eNs_length, eI]
       apply J.skip; simp
       apply J.seq
       refine J.regE (by simp [eNs, eN, eNs_length, eI]; rfl) ?_
       simp
       apply J.cond; simp [eNs, eN, eNs_length, eI]
       apply J.skip; simp
       refine J.regE (by simp [eNs, eN, eNs_length, eI, hw]; rfl) ?_
       simp
       refine ⟨_, ?_, _, ?_, i + 1, ?_, ?_, rfl, hF3, rfl⟩
       ·omega
       ·apply le_sub <;> simp [eNs, eN, s21]
       ·omega
       ·omega
    ·
     try simp at h26
     have hi3 : i = 100 := by omega
     have hI2 : o ++ (R21 b (s + 1)).filterMap (pick l done) = cnt l done := by
      rw [hi3, Nat.sub_self, List.take_zero] at hF
      rw [List.filterMap_cons, pick_none hF] at hI; exact hI
     apply J.exit; simp
     refine J.regE (by simp [eNs, eN, eNs_length, eI, hws]; rfl) ?_
     simp
     refine ⟨_, ?_, _, ?_, s + 1, _, ?_, ?_, rfl, hI2, rfl⟩
     ·omega
     ·apply le_sub <;> simp [eNs, eN, s21]
     ·omega
     ·omega
   ·
    try simp only [g23]
    try simp at g23
    try simp [eNs_length] at g23
    have hi3 : i = l.length := by omega
    have hI2 : o ++ (R21 b (s + 1)).filterMap (pick l done) = cnt l done := by
     rw [hi3, List.drop_length, List.take_nil] at hF
     rw [List.filterMap_cons, pick_none hF] at hI; exact hI
    iterate 2 refine runL_step rfl (by simp [eNs, eN, eNs_length, eI]; rfl) ?_
    simp [runL]
    apply J.cond; simp [eNs, eN, eNs_length, eI]
    apply J.exit; simp
    refine J.regE (by simp [eNs, eN, eNs_length, eI, hws]; rfl) ?_
    simp
    refine ⟨_, ?_, _, ?_, s + 1, _, ?_, ?_, rfl, hI2, rfl⟩
    ·omega
    ·apply le_sub <;> simp [eNs, eN, s21]
    ·omega
    ·omega
  ·
   try simp at h16
   obtain rfl : s = 61 := by omega
   rw [R21_end] at hI
   have hI2 := hI
   apply J.exit; simp
   refine J.regE (by simp [eNs, eN, eNs_length, eI, hwb]; rfl) ?_
   simp
   refine ⟨_, ?_, _, ?_, b + 1, o, by omega, by omega, rfl, hI2, rfl⟩
   ·omega
   apply le_sub <;> simp [eNs, eN, s21]
 ·
  try simp at h12
  obtain rfl : b = 8 := by omega
  simp at hI
  apply J.exit; simp
  apply J.seq
  refine J.freeze hc 21061 rfl ?_
  simp
  refine J.regE (by simp [eNs, eN, eNs_length, eI]; rfl) ?_
  simp
  apply J.ret
  refine ⟨by simp, rfl, _, [], by simp [a21R]; rfl, ?_⟩
  simp [hI, eNs, List.take_of_length_le]
theorem c31 : chkFn Try.prog 31 65 2 a31 a31R = true := by kernel_rfl
theorem d31 (z : List Node) (done : List (Int × Int)) (hl : z.length < 1000000) (hdn : done.length < 1000000) (hd : ∀ n ∈ z, n.d.length < 1000000) : DoesT 31 [.ro 4 (eNs z), .ro 2 (eds done)] (.ro 2 (eds (miss z done))) := by
 have hcl := miss_length z done
 have hil : (insL z).length < 1000000 := by simp [insL]; omega
 refine Does.of (nt := 65) (ac := a31) (rds := a31R) c31 (fun c hc => ?_)
 unfold a31
 apply J.seq
 refine J.regE (by simp [eNs, eN, eNs_length, eI]; rfl) ?_
 simp
 apply J.seq
 apply J.reg
 refine runL_step rfl (by simp [eNs, eN, eNs_length, eI]; rfl) ?_
 refine runL_tree rfl (d34 z hl) (by simp) hc ?_
 simp
 refine runL_step rfl (by simp [eNs, eN, eNs_length, eI]; rfl) ?_
 simp [runL]
 apply J.seq
 refine J.regE (by simp [eNs, eN, eNs_length, eI]; rfl) ?_
 simp
 refine J.nilrow hc 6 31063 25 rfl rfl rfl ?_
 simp
 apply J.seq
 apply J.seq
 refine J.regE (by simp [eNs, eN, eNs_length, eI]; rfl) ?_
 simp
 apply J.block
 refine J.loop hc (I31 z done) ?_ ?_
 ·exact ⟨_, _, by apply le_sub <;> simp [eNs, s31], 1, [], by omega, by omega, rfl, rfl, rfl⟩
 rintro n st ⟨b, o, hb, hb8, rfl, hI, rfl⟩
 unfold s31
 apply J.seq
 apply J.seq
 refine J.regE (by simp [eNs, eN, eNs_length, eI]; rfl) ?_
 simp
 refine J.condB rfl (fun h18 => ?_) (fun h18 => ?_)
 ·
  try simp at h18
  have hwb : IntKind.i64.wrap ((b : Int) + 1) = (b : Int) + 1 := wrap_id (by omega) (by omega)
  rw [R21_row (show b ≤ 7 by omega)] at hI
  apply J.skip; simp
  apply J.seq
  apply J.block
  apply J.seq
  refine J.regE (by simp [eNs, eN, eNs_length, eI]; rfl) ?_
  simp
  apply J.block
  refine J.loop hc (I31b z done b) ?_ ?_
  ·refine ⟨_, _, ?_, 1, o, by omega, by omega, rfl, hI, rfl⟩
   apply le_sub <;> simp [eNs, eN, s31]
  rintro n st ⟨s, o, hs, hs61, rfl, hI, rfl⟩
  unfold s31
  apply J.seq
  apply J.seq
  refine J.regE (by simp [eNs, eN, eNs_length, eI]; rfl) ?_
  simp
  refine J.condB rfl (fun h22 => ?_) (fun h22 => ?_)
  ·
   try simp at h22
   have hws : IntKind.i64.wrap ((s : Int) + 1) = (s : Int) + 1 := wrap_id (by omega) (by omega)
   rw [R21_step (show s ≤ 60 by omega), List.filter_cons] at hI
   apply J.skip; simp
   apply J.seq
   apply J.block
   apply J.seq
   refine J.regE (by simp [eNs, eN, eNs_length, eI]; rfl) ?_
   simp
   apply J.seq
   apply J.reg
   iterate 2 refine runL_step rfl (by simp [eNs, eN, eNs_length, eI]; rfl) ?_
   refine runL_tree rfl (d19 (insL z) ((b : Int), (s : Int)) hil) (by simp) hc ?_
   simp
   refine runL_step rfl (by simp [eNs, eN, eNs_length, eI]; rfl) ?_
   simp [runL]
   apply J.seq
   apply J.reg
   iterate 2 refine runL_step rfl (by simp [eNs, eN, eNs_length, eI]; rfl) ?_
   refine runL_tree rfl (d19 done ((b : Int), (s : Int)) hdn) (by simp) hc ?_
   simp
   refine runL_step rfl (by simp [eNs, eN, eNs_length, eI]; rfl) ?_
   simp [runL]
   apply J.seq
   refine J.regE (by simp [eNs, eN, eNs_length, eI]; rfl) ?_
   simp
   apply J.seq
   apply J.seq
   refine J.regE (by simp [eNs, eN, eNs_length, eI]; rfl) ?_
   simp
   apply J.block
   refine J.loop hc (I31c z done o b s) ?_ ?_
   ·refine ⟨_, _, ?_, 0, false, by omega, rfl, by simp, rfl⟩
    apply le_sub <;> simp [eNs, eN, s31]
   rintro n st ⟨i, w, hi, rfl, hA, rfl⟩
   unfold s31
   apply J.seq
   apply J.seq
   refine J.regE (by simp [eNs, eN, eNs_length, eI]; rfl) ?_
   simp
   refine J.condB rfl (fun h37 => ?_) (fun h37 => ?_)
   ·
    try simp [eNs_length] at h37
    have hi0 : i < z.length := by omega
    obtain ⟨y, hx, hgx, hg, hge, hdr, hw, hlt2, htk⟩ := getL (eN) (show i < z.length by omega) (by omega)
    rw [hdr, List.any_cons, ← Bool.or_assoc] at hA
    have hmy := hd _ (List.mem_of_getElem? hx)
    apply J.skip; simp
    apply J.seq
    apply J.block
    apply J.seq
    apply J.draw; intro c' hc'
    iterate 6 refine runP_stepQ (by simp [eNs, eN, eNs_length, eI, hi0, hgx]; rfl) ?_
    refine runP_tree rfl (d58 y.q y.d ((b : Int), (s : Int)) hmy) (by simp) rfl ?_
    simp
    refine runP_stepQ (by simp [eNs, eN, eNs_length, eI, hi0, hgx]; rfl) ?_
    simp [runP]
    apply J.reg
    iterate 2 refine runL_step rfl (by simp [eNs, eN, eNs_length, eI]; rfl) ?_
    refine runL_if rfl (fun g48 => ?_) (fun g48 => ?_)
    ·
     try simp only [g48]
     try simp at g48
     try simp at g48
     have hA2 := hA
     rw [g48, Bool.false_or] at hA2
     iterate 3 refine runL_step rfl (by simp [eNs, eN, eNs_length, eI]; rfl) ?_
     simp [runL]
     refine J.regE (by simp [eNs, eN, eNs_length, eI, hw]; rfl) ?_
     simp
     refine ⟨_, ?_, _, ?_, i + 1, _, ?_, rfl, hA2, rfl⟩
     ·omega
     ·apply le_sub <;> simp [eNs, eN, s31]
     ·omega
    ·
     try simp only [g48]
     try simp at g48
     try simp at g48
     have hA2 := hA
     rw [g48] at hA2
     iterate 2 refine runL_step rfl (by simp [eNs, eN, eNs_length, eI]; rfl) ?_
     simp [runL]
     refine J.regE (by simp [eNs, eN, eNs_length, eI, hw]; rfl) ?_
     simp
     refine ⟨_, ?_, _, ?_, i + 1, _, ?_, rfl, hA2, rfl⟩
     ·omega
     ·apply le_sub <;> simp [eNs, eN, s31]
     ·omega
   ·
    try simp [eNs_length] at h37
    have hi3 : i = z.length := by omega
    rw [hi3, List.drop_length] at hA
    simp only [List.any_nil, Bool.or_false] at hA
    have hM : misB z done ((b : Int), (s : Int)) = (w && !decide (((b : Int), (s : Int)) ∈ insL z) && !decide (((b : Int), (s : Int)) ∈ done)) := by unfold misB; rw [hA]
    rw [hM] at hI
    apply J.exit; simp
    apply J.seq
    apply J.reg
    iterate 2 refine runL_step rfl (by simp [eNs, eN, eNs_length, eI]; rfl) ?_
    refine runL_if rfl (fun g52 => ?_) (fun g52 => ?_)
    ·
     try simp only [g52]
     try simp at g52
     try simp at g52
     iterate 4 refine runL_step rfl (by simp [eNs, eN, eNs_length, eI]; rfl) ?_
     refine runL_if rfl (fun g56 => ?_) (fun g56 => ?_)
     ·
      try simp only [g56]
      try simp at g56
      try simp at g56
      iterate 3 refine runL_step rfl (by simp [eNs, eN, eNs_length, eI]; rfl) ?_
      simp [runL]
      refine J.condB rfl (fun h59 => ?_) (fun h59 => ?_)
      ·
       try simp at h59
       have hI2 : (o ++ [((b : Int), (s : Int))]) ++ (R21 b (s + 1)).filter (misB z done) = miss z done := by simpa [g52, g56, h59] using hI
       have hlen := app_le hI2
       simp at hlen
       apply J.reg
       iterate 5 refine runL_step rfl (by simp [eNs, eN, eNs_length, eI, eNs, eN, eNs_length, eI, show (o.length + 1) * 16 ≤ 140737488355328 from by omega, List.take_of_length_le]; rfl) ?_
       simp [runL]
       refine J.regE (by simp [eNs, eN, eNs_length, eI, hws]; rfl) ?_
       simp
       refine ⟨_, ?_, _, ?_, s + 1, _, ?_, ?_, rfl, hI2, rfl⟩
       ·omega
       ·apply le_sub <;> simp [eNs, eN, s31]
       ·omega
       ·omega
      ·
       try simp at h59
       have hI2 := hI
       simp [g52, g56, h59] at hI2
       apply J.skip; simp
       refine J.regE (by simp [eNs, eN, eNs_length, eI, hws]; rfl) ?_
       simp
       refine ⟨_, ?_, _, ?_, s + 1, _, ?_, ?_, rfl, hI2, rfl⟩
       ·omega
       ·apply le_sub <;> simp [eNs, eN, s31]
       ·omega
       ·omega
     ·
      try simp only [g56]
      try simp at g56
      try simp at g56
      have hI2 := hI
      simp [g52, g56] at hI2
      iterate 2 refine runL_step rfl (by simp [eNs, eN, eNs_length, eI]; rfl) ?_
      simp [runL]
      apply J.cond; simp [eNs, eN, eNs_length, eI]
      apply J.skip; simp
      refine J.regE (by simp [eNs, eN, eNs_length, eI, hws]; rfl) ?_
      simp
      refine ⟨_, ?_, _, ?_, s + 1, _, ?_, ?_, rfl, hI2, rfl⟩
      ·omega
      ·apply le_sub <;> simp [eNs, eN, s31]
      ·omega
      ·omega
    ·
     try simp only [g52]
     try simp at g52
     try simp at g52
     have hI2 := hI
     simp [g52] at hI2
     iterate 6 refine runL_step rfl (by simp [eNs, eN, eNs_length, eI]; rfl) ?_
     simp [runL]
     apply J.cond; simp [eNs, eN, eNs_length, eI]
     apply J.skip; simp
     refine J.regE (by simp [eNs, eN, eNs_length, eI, hws]; rfl) ?_
     simp
     refine ⟨_, ?_, _, ?_, s + 1, _, ?_, ?_, rfl, hI2, rfl⟩
     ·omega
     ·apply le_sub <;> simp [eNs, eN, s31]
     ·omega
     ·omega
  ·
   try simp at h22
   obtain rfl : s = 61 := by omega
   rw [R21_end] at hI
   have hI2 := hI
   apply J.exit; simp
   refine J.regE (by simp [eNs, eN, eNs_length, eI, hwb]; rfl) ?_
   simp
   refine ⟨_, ?_, _, ?_, b + 1, o, by omega, by omega, rfl, hI2, rfl⟩
   ·omega
   apply le_sub <;> simp [eNs, eN, s31]
 ·
  try simp at h18
  obtain rfl : b = 8 := by omega
  simp at hI
  apply J.exit; simp
  apply J.seq
  refine J.freeze hc 31063 rfl ?_
  simp
  refine J.regE (by simp [eNs, eN, eNs_length, eI]; rfl) ?_
  simp
  apply J.ret
  refine ⟨by simp, rfl, _, [], by simp [a31R]; rfl, ?_⟩
  simp [hI]
end Go.Proofs.Ytdekelhmneeniaa.F
