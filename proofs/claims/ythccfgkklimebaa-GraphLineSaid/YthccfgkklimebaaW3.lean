/- Chapter 11: components. -/
import Derived.Test.YthccfgkklimebaaW2
import Derived.Test.YthccfgkklimebaaSxN
import Derived.Test.YthccfgkklimebaaSxO
set_option linter.unusedVariables false
set_option linter.unusedSimpArgs false
namespace Go.Proofs.Ythccfgkklimebaa.F
open Go Go.SX

theorem c21 : chkFn Try.prog 21 70 1 a21 a21R = true := by kernel_rfl

/-- The things of each component, from the numbers. -/
def parts (of : List Nat) (many : Nat) : List (List Nat) := (List.range many).map fun c => (List.range of.length).filter fun i => ix of i == c + 1

theorem Good.start {to : List (List Nat)} (h : to.length ≤ 100) (hd : ∀ r ∈ to, r.length < 1000000) (hs : ∀ v z, z ∈ rw_ to v → z < to.length) : Good to (List.replicate to.length 0) (List.replicate to.length 0) [] (List.replicate to.length 0) 0 0 [] where
  inv := by
    have : ix (List.replicate to.length 0) = fun _ => 0 := by
      funext v; unfold ix
      simp [List.getD, List.getElem?_replicate]
      split <;> rfl
    rw [this]
    exact T.Inv.start hs
  lo := by simp
  ll := by simp
  lf := by simp
  cnt := by simp
  small := h
  deg := hd
  kl := Nat.le_refl _

def IC1 (to : List (List Nat)) (n : Nat) (st : St) : Prop :=
  ∃ i order low of many at_, i ≤ to.length ∧ Good to order low [] of many at_ [] ∧ (∀ v, v < i → ix order v ≠ 0) ∧ n = to.length - i ∧ st = ⟨[(5, .ptr 1 0 0 0), (21, iv to.length), (22, iv i)], memS to order low [] of many at_, []⟩

/-- The things below 'j' of component 'c'. -/
def pre (of : List Nat) (j c : Nat) : List Nat := (List.range j).filter fun i => ix of i == c + 1

def stC (to : List (List Nat)) (order low of : List Nat) (many at_ : Nat) (j : Nat) : St :=
  ⟨[(5, .ptr 1 0 0 0), (7, .own 21041 1 0 many), (45, .own 5 1 0 of.length), (46, iv of.length), (47, iv j)],
    memS to order low [] of many at_ ++ (21041, .obj 29 (famCells 22000 1 (fun c => (pre of j c).length) many)) :: fam 22000 3 1 (fun c => nats (pre of j c)) many, []⟩

def IC2 (to : List (List Nat)) (order low of : List Nat) (many at_ : Nat) (n : Nat) (st : St) : Prop :=
  ∃ j, j ≤ of.length ∧ n = of.length - j ∧ st = stC to order low of many at_ j


theorem killL_fam (q n : Nat) (f : Nat → Nat) (hq : q < n) : killL (22000 + q) (famCells 22000 1 f n) = (famCells 22000 1 f n).set q .dead := by
  apply List.ext_getElem?
  intro i
  rw [killL_get]
  by_cases hi : i < n
  · rw [famCells_get hi]
    by_cases e : i = q
    · subst e; simp [hi]
    · simp [List.getElem?_set_ne (Ne.symm e), famCells_get hi, e]
  · rw [List.getElem?_eq_none (by simpa using hi), List.getElem?_eq_none (by simpa using hi)]; rfl

theorem loop2 (c : Ctx) (hc : c.A = c.B) (to : List (List Nat)) (order low of : List Nat) (many at_ : Nat) (hG : Good to order low [] of many at_ []) (hcl : ∀ v, v < to.length → ix of v ≠ 0) (hmany : many ≤ 100) (Q : Exit → St → Prop) (hQ : ∀ s, Q (.exit 2) ⟨(5, .ptr 1 0 0 0) :: (7, .own 21041 1 0 many) :: s, (stC to order low of many at_ of.length).mem, []⟩) :
    J Try.prog 70 c a21L11.loop (stC to order low of many at_ 0) Q := by
  refine J.loop hc (IC2 to order low of many at_) ⟨_, _, St.le_refl _, 0, Nat.zero_le _, rfl, rfl⟩ ?_
  rintro n st ⟨j, hj, rfl, rfl⟩
  unfold stC memS
  apply J.seq; refine J.regE (by simp; rfl) ?_
  simp
  apply J.seq; apply J.cond; simp
  refine ⟨fun hlt => ?_, fun hge => ?_⟩
  · have hofj : of[j] ≠ 0 := by have := hcl j (by rw [← hG.lf]; exact hlt); rwa [ix_get hlt] at this
    have hofm : of[j] ≤ many := by have := hG.inv.fle j; rwa [ix_get hlt] at this
    obtain ⟨q, hq⟩ : ∃ q, of[j] = q + 1 := ⟨of[j] - 1, by omega⟩
    have hqm : q < many := by omega
    have hqm1 : q + 1 ≤ many := hqm
    have hol : of.length ≤ 100 := by rw [hG.lf]; exact hG.small
    have hwj : IntKind.i64.wrap ((j : Int) + 1) = j + 1 := wrap_id (by omega) (by omega)
    have hwq : IntKind.i64.wrap (q : Int) = q := wrap_id (by omega) (by omega)
    apply J.skip; simp
    apply J.seq; apply J.block
    apply J.seq; refine J.regE (by simp [hlt]; rfl) ?_
    simp [hq]
    have e1 : ¬ 1 = 22000 + q := by omega
    have e2 : ¬ 2 = 22000 + q := by omega
    have e3 : ¬ 3 = 22000 + q := by omega
    have e4 : ¬ 4 = 22000 + q := by omega
    have e5 : ¬ 5 = 22000 + q := by omega
    have e6 : ¬ 21041 = 22000 + q := by omega
    have e8 : ¬ 22000 + q = 21061 := by omega
    have e7 : ¬ 21061 = 22000 + q := by omega
    have hcell : ((famCells 22000 1 (fun c => (pre of j c).length) many).drop q).take 1 = [.own (22000 + q) 1 0 (pre of j q).length] := by
      rw [List.drop_eq_getElem_cons (by simpa using hqm)]
      simp [famCells]
    have hlen : (pre of j q).length ≤ 100 := by
      refine Nat.le_trans (List.length_filter_le _ _) ?_
      simp; omega
    apply J.reg
    refine runL_step rfl (by simp; rfl) ?_
    refine runL_step rfl (by simp; rfl) ?_
    refine runL_step rfl (by simp [hwq]; rfl) ?_
    refine runL_step rfl (by simp; rfl) ?_
    refine runL_step rfl (by simp; rfl) ?_
    refine runL_step rfl (by simp [hwq]; rfl) ?_
    refine runL_step rfl (by simp [hqm, hqm1]; rfl) ?_
    refine runL_step rfl (by simp [hqm, hcell, hqm1]; rfl) ?_
    refine runL_step rfl (by simp; rfl) ?_
    refine runL_step rfl (by simp [look_fam_lt]; rfl) ?_
    refine runL_step rfl (by simp [e1, e2, e3, e4, e5, e6, e7, e8, look_upd, look_fam hqm, look_fam_lt, killL_fam _ _ _ hqm, show ((pre of j q).length + 1) * 8 ≤ 140737488355328 from by omega]; rfl) ?_
    refine runL_step rfl (by simp [hqm, hqm1]; rfl) ?_
    refine runL_step rfl (by simp [hqm, hqm1, e1, e2, e3, e4, e5, e6, e7, e8]; rfl) ?_
    simp only [runL]
    simp
    have hpre : ∀ c, pre of (j + 1) c = pre of j c ++ (if c = q then [j] else []) := by
      intro c
      unfold pre
      rw [List.range_succ, List.filter_append]
      congr 1
      have : ix of j = q + 1 := by rw [ix_get hlt, hq]
      by_cases e : c = q
      · subst e; simp [this]
      · simp [this, e, Ne.symm e]
    have hcells : List.take q ((famCells 22000 1 (fun c => (pre of j c).length) many).set q AV.dead) ++ AV.own (22000 + q) 1 0 ((pre of j q).length + 1) :: List.drop (q + 1) ((famCells 22000 1 (fun c => (pre of j c).length) many).set q AV.dead) = famCells 22000 1 (fun c => (pre of (j + 1) c).length) many := by
      rw [List.take_set, List.drop_set_of_lt (by omega), List.set_eq_of_length_le (by simp; omega)]
      apply List.ext_getElem?
      intro i
      rcases Nat.lt_trichotomy i q with h1 | h1 | h1
      · rw [List.getElem?_append_left (by simp; omega), List.getElem?_take_of_lt h1, famCells_get (by omega), famCells_get (by omega)]
        simp [hpre, Nat.ne_of_lt h1]
      · subst h1
        rw [List.getElem?_append_right (by simp; omega), famCells_get hqm]
        simp [hpre, show min i many = i from by omega]
      · rw [List.getElem?_append_right (by simp; omega)]
        have h2 : i - (List.take q (famCells 22000 1 (fun c => (pre of j c).length) many)).length = (i - q - 1) + 1 := by simp; omega
        rw [h2, List.getElem?_cons_succ, List.getElem?_drop, show q + 1 + (i - q - 1) = i from by omega]
        by_cases h3 : i < many
        · rw [famCells_get h3, famCells_get h3]; simp [hpre, show ¬ i = q from by omega]
        · rw [List.getElem?_eq_none (by simp; omega), List.getElem?_eq_none (by simp; omega)]
    rw [hcells]
    refine J.le hc (st' := ⟨[(5, .ptr 1 0 0 0), (7, .own 21041 1 0 many), (45, .own 5 1 0 of.length), (46, iv of.length), (47, iv j)], (stC to order low of many at_ (j + 1)).mem, []⟩) (le_retell ?_ ?_ rfl (by simp)) ?_
    · refine fun p hp => ⟨p.2, ?_, .same ?_⟩ <;> revert p <;> simp [stC, memS]
    · intro p hp
      simp only [stC, memS, List.cons_append, List.nil_append, List.mem_cons] at hp
      rcases hp with rfl | rfl | rfl | rfl | rfl | rfl | hp
      · exact .same (by simp [stC, memS])
      · exact .same (by simp)
      · exact .same (by simp)
      · exact .same (by simp)
      · exact .same (by simp)
      · simp
        refine .obj rfl (fun i x hx => ?_)
        have hi : i < many := by simpa using (List.getElem?_eq_some_iff.1 hx).1
        rw [famCells_get hi] at hx
        injection hx with hx; subst hx
        simp [famCells_get hi]
        refine .same ?_
        simp [stC, memS, look_fam hi]
        repeat rw [if_neg (by omega)]
        rfl
      · obtain ⟨c', hc', rfl⟩ := mem_fam hp
        simp [look_drop, look_upd, look_mapv, look_fam hc', hpre]
        repeat rw [if_neg (by omega)]
        by_cases e : c' = q
        · subst e; simp; refine ReB.same ?_; trivial
        · simp [e]
          rw [if_neg (by omega)]
          exact ReB.same (b := .arr 3 1 (nats (pre of j c'))) trivial
    · refine J.regE (by simp [hwj]; rfl) ?_
      simp
      exact ⟨_, by omega, _, St.le_refl _, j + 1, by omega, rfl, by simp [stC]⟩
  · have : j = of.length := by omega
    subst this
    apply J.exit; simp
    exact hQ _
set_option maxHeartbeats 2000000 in
theorem d21 (to : List (List Nat)) (h : to.length ≤ 100) (hd : ∀ r ∈ to, r.length < 1000000) (hs : ∀ v z, z ∈ rw_ to v → z < to.length) :
    Does Try.prog 21 [.ro 1 (rows to)] [] [] (fun r m => m = [] ∧ ∃ order low of many at_, Good to order low [] of many at_ [] ∧ (∀ v, v < to.length → ix order v ≠ 0) ∧ r = .tup [.ro 1 (rows (parts of many)), .ro 1 (nats of)]) := by
  refine Does.of (nt := 70) (ac := a21) (rds := a21R) c21 (fun c hc => ?_)
  unfold a21
  apply J.seq; refine J.regE (by simp; rfl) ?_
  simp
  apply J.seq; refine J.regE (by simp; rfl) ?_
  simp
  generalize hQ : doneQ [] a21R _ = Q
  have hrest : ∀ st', (∃ m, st' = ⟨[(4, iv to.length), (5, .ptr 1 0 0 0)], m, []⟩ ∧ SX.look m 1 = some (.obj 48 [.ro 1 (rows to), .own 2 1 0 to.length, .own 3 1 0 to.length, .nils 1, .own 5 1 0 to.length, iv 0, iv 0]) ∧ SX.look m 4 = none ∧
      ∀ b, b = 2 ∨ b = 3 ∨ b = 5 → SX.look m b = some (.arr 3 1 (nats (List.replicate to.length 0)))) → J Try.prog 70 c
      ((a21r3.seq (AC.block 0 a21L4.loop)).seq (a21r9.seq ((a21r10.seq (AC.block 2 a21L11.loop)).seq (a21r15.seq AC.ret)))) st' Q := by
    rintro _ ⟨m, rfl, h1, h4, h235⟩
    refine J.le hc (st' := ⟨[(4, iv to.length), (5, .ptr 1 0 0 0)], memS to (List.replicate to.length 0) (List.replicate to.length 0) [] (List.replicate to.length 0) 0 0, []⟩) (le_retell ?_ ?_ rfl (by simp)) ?_
    · intro p hp
      simp at hp
      rcases hp with rfl | rfl
      · exact ⟨_, rfl, .same (by simp)⟩
      · exact ⟨_, rfl, .same (by simp [memS])⟩
    · intro p hp
      simp only [memS, List.mem_cons, List.not_mem_nil, or_false] at hp
      rcases hp with rfl | rfl | rfl | rfl | rfl
      · simp only [h1]
        refine .obj rfl (fun i x hx => ?_)
        match i with
        | 0 => simp at hx; subst hx; exact .same (by simp)
        | 1 => simp at hx; subst hx; simp; exact .same (by simp [memS])
        | 2 => simp at hx; subst hx; simp; exact .same (by simp [memS])
        | 3 => simp at hx; subst hx; exact .nil
        | 4 => simp at hx; subst hx; simp; exact .same (by simp [memS])
        | 5 => simp at hx; subst hx; exact .same (by simp)
        | 6 => simp at hx; subst hx; exact .same (by simp)
        | (i + 7) => simp at hx
      · simp only [h235 2 (by simp)]; exact .same (by simp)
      · simp only [h235 3 (by simp)]; exact .same (by simp)
      · simp only [h4]; exact .new
      · simp only [h235 5 (by simp)]; exact .same (by simp)
    · apply J.seq; apply J.seq; refine J.regE (by simp; rfl) ?_
      simp
      apply J.block
      refine J.loop hc (IC1 to) ⟨_, _, St.le_refl _, 0, _, _, _, _, _, Nat.zero_le _, Good.start h hd hs, fun v hv => by omega, rfl, rfl⟩ ?_
      rintro n st ⟨i, order, low, of, many, at_, hin, hG, hvis, rfl, rfl⟩
      apply J.seq; refine J.regE (by simp; rfl) ?_
      simp
      apply J.seq; apply J.cond; simp
      refine ⟨fun hlt => ?_, fun hge => ?_⟩
      · have hio : i < order.length := by rw [hG.lo]; exact hlt
        have hwi : IntKind.i64.wrap ((i : Int) + 1) = i + 1 := wrap_id (by omega) (by omega)
        apply J.skip; simp
        apply J.seq; apply J.block
        apply J.seq; refine J.regE (by simp; rfl) ?_
        simp
        apply J.seq; refine J.regE (by simp [memS, hio]; rfl) ?_
        simp
        apply J.cond; simp
        refine ⟨fun hz => ?_, fun hz => ?_⟩
        · refine J.regC (by simp; exact ⟨rfl, rfl⟩) ?_
          refine runL_call [1, 2, 3, 4, 5] [1, 2, 3, 5] rfl ?_ (d27 to order low of many at_ i hG hlt (by rw [ix_get hio]; exact hz)) ?_ ?_ ?_ hc ?_
          · simp [memS]
          · simp
          · simp
          · simp
          rintro rv m ⟨rfl, order', low', of', many', at', hG', rfl, hi', hmono⟩
          refine ⟨by simp [memS], ?_⟩
          refine runL_end (by simp [memS]; rfl) ?_
          simp
          refine J.regE (by simp [hwi]; rfl) ?_
          simp
          refine ⟨_, ?_, _, St.le_refl _, i + 1, order', low', of', many', at', hlt, hG', fun v hv => ?_, rfl, by simp [memS]⟩
          · omega
          · by_cases e : v = i
            · rw [e]; exact hi'
            · exact hmono v (hvis v (by omega))
        · apply J.skip; simp
          refine J.regE (by simp [hwi]; rfl) ?_
          simp
          refine ⟨_, ?_, _, St.le_refl _, i + 1, order, low, of, many, at_, hlt, hG, fun v hv => ?_, rfl, by simp [memS]⟩
          · omega
          · by_cases e : v = i
            · rw [e, ix_get hio]; exact hz
            · exact hvis v (by omega)
      · have : i = to.length := by omega
        subst this
        apply J.exit; simp
        have hmany : many ≤ 100 := by have := hG.bounds; simp at this; omega
        have hb9 : (many : Int) * 24 ≤ 281474976710656 := by omega
        have hcl : ∀ v, v < to.length → ix of v ≠ 0 := fun v hv h0 => by
          have := (hG.inv.opn_iff v).2 ⟨hvis v hv, h0⟩
          simp at this
        apply J.seq; refine J.regE (by simp [memS, hb9]; rfl) ?_
        simp
        apply J.seq; apply J.seq; refine J.regE (by simp; rfl) ?_
        simp
        refine J.le hc (st' := ⟨[(5, .ptr 1 0 0 0), (7, .own 21041 1 0 many), (45, .own 5 1 0 of.length), (46, iv of.length), (47, iv 0)], memS to order low [] of many at_ ++ (21041, .obj 29 (famCells 22000 1 (fun _ => 0) many)) :: fam 22000 3 1 (fun _ => []) many, []⟩) (le_retell ?_ ?_ rfl (by simp)) ?_
        · refine fun p hp => ⟨p.2, ?_, .same ?_⟩ <;> revert p <;> simp [memS]
        · intro p hp
          simp only [memS, List.cons_append, List.nil_append, List.mem_cons] at hp
          rcases hp with rfl | rfl | rfl | rfl | rfl | rfl | hp
          · exact .same (by simp [memS])
          · exact .same (by simp)
          · exact .same (by simp)
          · exact .same (by simp)
          · exact .same (by simp)
          · refine .obj (by simp) (fun i x hx => ?_)
            have hi : i < many := by
              have := (List.getElem?_eq_some_iff.1 hx).1
              simpa using this
            rw [famCells_get hi] at hx
            injection hx with hx; subst hx
            simp [hi]
            exact .nil
          · obtain ⟨c', hc', rfl⟩ := mem_fam hp
            simp
            repeat rw [if_neg (by omega)]
            exact .new
        apply J.block
        refine loop2 c hc to order low of many at_ hG hcl hmany _ ?_
        intro s
        simp
        refine J.le hc (st' := ⟨[(5, .ptr 1 0 0 0), (7, .ro 1 (rows (parts of many)))], [(1, .obj 48 [.ro 1 (rows to), .dead, .dead, .dead, .ro 1 (nats of), iv many, iv at_])], []⟩) (le_retell ?_ ?_ rfl (by simp)) ?_
        · intro p hp
          simp only [List.mem_cons, List.not_mem_nil, or_false] at hp
          rcases hp with rfl | rfl
          · exact ⟨_, rfl, .same (by simp)⟩
          · refine ⟨_, rfl, ?_⟩
            have hrw : rows (parts of many) = ((parts of many).map fun r => AV.ro 1 (nats r)).map fun x => [x] := by simp [rows]
            rw [hrw]
            refine Re.rows (lo := 0) (n := many) (ty := 29) (cs := famCells 22000 1 (fun c => (pre of of.length c).length) many) ?_ ?_ ?_ ?_ ?_ ?_
            · simp [stC, memS]
            · simp
            · simp [parts]
            · simp
            · intro x hx
              simp only [List.mem_map] at hx
              obtain ⟨r, _, rfl⟩ := hx
              rfl
            · intro i x hx
              have hi : i < many := by
                have := (List.getElem?_eq_some_iff.1 hx).1
                simpa [parts] using this
              simp [parts, hi] at hx
              subst hx
              simp [famCells_get hi]
              have := Re.row (m := (stC to order low of many at_ of.length).mem) (m' := [(1, .obj 48 [.ro 1 (rows to), .dead, .dead, .dead, .ro 1 (nats of), iv many, iv at_])]) (b := 22000 + i) (sz := 1) (lo := 0) (n := (pre of of.length i).length) (ty := 3) (es := nats (pre of of.length i)) (by
                simp [stC, memS]
                repeat rw [if_neg (by omega)]
                exact look_fam hi) (by simp; omega) (by omega) (by simp)
              simpa [pre, List.take_of_length_le] using this
        · intro p hp
          simp only [List.mem_cons, List.not_mem_nil, or_false] at hp
          rcases hp with rfl
          simp [stC, memS]
          refine .obj rfl (fun i x hx => ?_)
          match i with
          | 0 => simp at hx; subst hx; exact .same (by simp)
          | 1 => simp at hx; subst hx; exact .dead
          | 2 => simp at hx; subst hx; exact .dead
          | 3 => simp at hx; subst hx; exact .dead
          | 4 =>
            simp at hx; subst hx
            simp
            have := Re.row (m := (stC to order low of many at_ of.length).mem) (m' := [(1, .obj 48 [.ro 1 (rows to), .dead, .dead, .dead, .ro 1 (nats of), iv many, iv at_])]) (b := 5) (sz := 1) (lo := 0) (n := of.length) (ty := 3) (es := nats of) (by simp [stC, memS]) (by simp) (by omega) (by simp)
            simpa [stC, memS, List.take_of_length_le] using this
          | 5 => simp at hx; subst hx; exact .same (by simp)
          | 6 => simp at hx; subst hx; exact .same (by simp)
          | (i + 7) => simp at hx
        apply J.seq
        refine J.drawE (by simp; rfl) ?_
        simp
        apply J.ret
        rw [← hQ]
        refine ⟨by simp, rfl, _, [], by simp [a21R]; rfl, ?_⟩
        simp
        exact ⟨order, low, of, many, ⟨at_, hG⟩, hvis, rfl, rfl⟩
  have hb8 : (to.length : Int) * 8 ≤ 281474976710656 := by omega
  apply J.seq
  refine J.drawC (by simp; exact ⟨rfl, rfl⟩) (fun c' _ => ?_)
  refine runP_alt rfl rfl (by simp [hb8, nats_zero]; rfl) ?_ (.inr (runP_alt rfl rfl (by simp [hb8, nats_zero]; rfl) ?_ (.inr (runP_alt rfl rfl (by simp [hb8, nats_zero]; rfl) ?_ (.inl rfl)))))
  · refine runP_alt rfl rfl (by simp [hb8, nats_zero]; rfl) ?_ (.inr (runP_alt rfl rfl (by simp [hb8, nats_zero]; rfl) ?_ (.inl rfl)))
    · refine runP_end (by simp [hb8, nats_zero]; rfl) ?_
      exact hrest _ ⟨_, rfl, by simp, by simp, by rintro b (rfl | rfl | rfl) <;> simp⟩
    · refine runP_end (by simp [hb8, nats_zero]; rfl) ?_
      exact hrest _ ⟨_, rfl, by simp, by simp, by rintro b (rfl | rfl | rfl) <;> simp⟩
  · refine runP_alt rfl rfl (by simp [hb8, nats_zero]; rfl) ?_ (.inr (runP_alt rfl rfl (by simp [hb8, nats_zero]; rfl) ?_ (.inl rfl)))
    · refine runP_end (by simp [hb8, nats_zero]; rfl) ?_
      exact hrest _ ⟨_, rfl, by simp, by simp, by rintro b (rfl | rfl | rfl) <;> simp⟩
    · refine runP_end (by simp [hb8, nats_zero]; rfl) ?_
      exact hrest _ ⟨_, rfl, by simp, by simp, by rintro b (rfl | rfl | rfl) <;> simp⟩
  · refine runP_alt rfl rfl (by simp [hb8, nats_zero]; rfl) ?_ (.inr (runP_alt rfl rfl (by simp [hb8, nats_zero]; rfl) ?_ (.inl rfl)))
    · refine runP_end (by simp [hb8, nats_zero]; rfl) ?_
      exact hrest _ ⟨_, rfl, by simp, by simp, by rintro b (rfl | rfl | rfl) <;> simp⟩
    · refine runP_end (by simp [hb8, nats_zero]; rfl) ?_
      exact hrest _ ⟨_, rfl, by simp, by simp, by rintro b (rfl | rfl | rfl) <;> simp⟩
end Go.Proofs.Ythccfgkklimebaa.F
