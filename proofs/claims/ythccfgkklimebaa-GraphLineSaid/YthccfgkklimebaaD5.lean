/- Chapter 11: graph.next. Printed by walk.py from g5.walk.py. -/
import Derived.Test.YthccfgkklimebaaD3
set_option linter.unusedVariables false
set_option linter.unusedSimpArgs false
namespace Go.Proofs.Ythccfgkklimebaa.F
open Go Go.SX

/-- What a thing waits for, out of the first 'i' edges. -/
def succ (n : Int) (l : List (Int × Int)) (i : Nat) (a : Nat) : List Nat := (l.take i).filterMap fun e => if e.1 = (a : Int) ∧ isT n e.2 = true then some e.2.toNat else none
def toL (n : Int) (l : List (Int × Int)) : List (List Nat) := (List.range (bN n)).map (succ n l l.length)
theorem succ_succ {n : Int} {l : List (Int × Int)} {i : Nat} (a : Nat) (h : i < l.length) : succ n l (i + 1) a = succ n l i a ++ if l[i].1 = (a : Int) ∧ isT n l[i].2 = true then [l[i].2.toNat] else [] := by
  unfold succ
  rw [List.take_add_one, List.getElem?_eq_getElem h, List.filterMap_append]
  congr 1
  simp only [Option.toList_some, List.filterMap_cons, List.filterMap_nil]
  split <;> rename_i e <;> split at e <;> simp_all
theorem succ_length (n : Int) (l : List (Int × Int)) (i a : Nat) : (succ n l i a).length ≤ i := by
  unfold succ
  exact Nat.le_trans (List.length_filterMap_le ..) (by simp; omega)

def m20 (n : Int) (l : List (Int × Int)) (i : Nat) : Mem := fam 30000 3 1 (fun a => nats (succ n l i a)) (bN n) ++ [(20012, .obj 29 (famCells 30000 1 (fun a => (succ n l i a).length) (bN n)))]
def s20 (n : Int) (l : List (Int × Int)) (i : Nat) : Slots := [(0, iv (bN n : Nat)), (5, .own 20012 1 0 (bN n)), (13, .ro 2 (eds l)), (14, iv l.length), (15, iv i)]
def I20 (n : Int) (l : List (Int × Int)) (m : Nat) (st : St) : Prop := ∃ i : Nat, i ≤ l.length ∧ m = l.length - i ∧ st = ⟨s20 n l i, m20 n l i, []⟩

theorem c20 : chkFn Try.prog 20 49 2 a20 a20R = true := by kernel_rfl
/-- colloquy/graph.next -/
theorem d20 (n : Int) (l : List (Int × Int)) (hl : l.length ≤ 1000000) : DoesT 20 [iv n, .ro 2 (eds l)] (.ro 1 (rws (toL n l))) := by
  have hN := bN_le n
  have hNb : ((bN n : Nat) : Int) * 24 ≤ 281474976710656 := by omega
  have hmm : (if (100 : Int) < (if n < 0 then 0 else n) then (100 : Int) else if n < 0 then 0 else n) = (bN n : Nat) := by
    unfold bN
    by_cases h1 : n < 0
    · simp [h1]
    · by_cases h2 : 100 < n
      · simp [h1, h2]
      · simp only [h1, h2, if_false]; omega
  refine Does.of (nt := 49) (ac := a20) (rds := a20R) c20 (fun c hc => ?_)
  unfold a20
  apply J.seq
  refine J.regE (by simp; rfl) ?_
  simp
  apply J.seq
  refine J.regE (by simp; rfl) ?_
  simp
  rw [hmm]
  apply J.seq
  refine J.regE (by simp [hNb]; rfl) ?_
  simp
  apply J.seq
  apply J.seq
  refine J.regE (by simp; rfl) ?_
  simp
  apply J.block
  refine J.le hc (st' := ⟨s20 n l 0, m20 n l 0, []⟩) (le_retell ?_ ?_ rfl (by simp)) ?_
  · refine fun p hp => ⟨p.2, ?_, .same ?_⟩ <;> revert p <;> simp [s20, m20]
  · intro p hp
    simp only [m20, List.mem_append, List.mem_singleton] at hp
    rcases hp with hp | rfl
    rotate_left 1
    · refine .obj (by simp) (fun i x hx => ?_)
      have hi : i < bN n := by simpa using (List.getElem?_eq_some_iff.1 hx).1
      rw [famCells_get hi] at hx
      injection hx with hx; subst hx
      simp [hi, succ]
      exact .nil
    · obtain ⟨c', hc', rfl⟩ := mem_fam hp
      simp [succ]
      rw [if_neg (by omega)]
      exact .new
  refine J.loop hc (I20 n l) ?_ ?_
  · exact ⟨_, _, St.le_refl _, 0, by omega, rfl, rfl⟩
  rintro n st ⟨i, hi, rfl, rfl⟩
  have key : i < l.length → ∀ (S : Slots) (M : Mem) (Q : Exit → St → Prop), (∀ p ∈ s20 n l i, SX.look S p.1 = some p.2) → SX.look M 20012 = some (.obj 29 (famCells 30000 1 (fun a => (succ n l (i + 1) a).length) (bN n))) → (∀ c, c < bN n → SX.look M (30000 + c) = some (.arr 3 1 (nats (succ n l (i + 1) c)))) → J Try.prog 49 c a20r8 ⟨S, M, []⟩ (loopQ (I20 n l) (l.length - i) Q) := by
    intro hlt S M Q hS hM1 hM2
    have hw : IntKind.i64.wrap ((i : Int) + 1) = i + 1 := wrap_id (by omega) (by omega)
    refine J.le hc (st' := ⟨s20 n l i, m20 n l (i + 1), []⟩) (le_retell ?_ ?_ rfl (by simp)) ?_
    · refine fun p hp => ⟨p.2, hS p hp, .same ?_⟩
      revert p; simp [s20, m20]
    · intro p hp
      simp only [m20, List.mem_append, List.mem_singleton] at hp
      rcases hp with hp | rfl
      · obtain ⟨c', hc', rfl⟩ := mem_fam hp
        simp only [hM2 c' hc']
        exact ReB.same (b := .arr 3 1 (nats (succ n l (i + 1) c'))) trivial
      · simp only [hM1]
        refine .obj rfl (fun j x hx => ?_)
        have hj : j < bN n := by simpa using (List.getElem?_eq_some_iff.1 hx).1
        rw [famCells_get hj] at hx
        injection hx with hx; subst hx
        simp [famCells_get hj]
        exact .same (by simp [m20, look_famA_at hj])
    · unfold s20
      refine J.regE (by simp [hw]; rfl) ?_
      simp
      exact ⟨_, by omega, _, St.le_refl _, i + 1, by omega, rfl, by simp [s20]⟩
  unfold s20 m20
  apply J.seq
  refine J.regE (by simp; rfl) ?_
  simp
  apply J.seq
  apply J.cond; simp
  refine ⟨fun hlt => ?_, fun hlt => ?_⟩
  ·
    have hw : IntKind.i64.wrap ((i : Int) + 1) = i + 1 := wrap_id (by omega) (by omega)
    obtain ⟨⟨x, y⟩, hxy⟩ : ∃ p, l[i] = p := ⟨_, rfl⟩
    have hss := fun a => succ_succ (n := n) a hlt
    rw [hxy] at hss
    apply J.skip; simp
    apply J.seq
    apply J.block
    apply J.seq
    refine J.regE (by simp [hlt, hxy, hN, look_fam_lt, killL_fam_ne]; rfl) ?_
    simp
    apply J.seq
    have hcond : (∃ a b : Nat, x = a ∧ y = b ∧ a < bN n ∧ b < bN n) ∨ (¬ (0 ≤ (if y < x then y else x))) ∨ (0 ≤ (if y < x then y else x) ∧ ¬ ((if x < y then y else x) < (bN n : Int))) := by
      by_cases h1 : 0 ≤ (if y < x then y else x)
      · by_cases h2 : (if x < y then y else x) < (bN n : Int)
        · refine .inl ⟨x.toNat, y.toNat, ?_, ?_, ?_, ?_⟩ <;> split at h1 <;> split at h2 <;> omega
        · exact .inr (.inr ⟨h1, h2⟩)
      · exact .inr (.inl h1)
    rcases hcond with ⟨a, b, rfl, rfl, ha, hb⟩ | h1 | ⟨h1, h2⟩
    ·
      have h1 : (0 : Int) ≤ (if b < a then (b : Int) else a) := by split <;> omega
      have h2 : (if a < b then (b : Int) else a) < (bN n : Int) := by split <;> omega
      apply J.reg
      iterate 15 refine runL_step rfl (by simp [look_fam_lt, h1, h2]; rfl) ?_
      simp [runL]
      apply J.cond; simp
      have hla := succ_length n l i a
      have e1 : ¬ 20012 = 30000 + a := by omega
      have e2 : ¬ 20007 = 30000 + a := by omega
      have e3 : ¬ 20044 = 30000 + a := by omega
      have e4 : ¬ 30000 + a = 20044 := by omega
      have hss' : ∀ c, succ n l (i + 1) c = succ n l i c ++ if c = a then [b] else [] := by
        intro c
        have hT : isT n (b : Int) = true := (isT_iff _ _).2 ⟨by omega, by omega⟩
        rw [hss]
        by_cases e : c = a
        · subst e; simp [hT]
        · have e' : ¬ (a : Int) = c := by omega
          simp [e, e']
      have ha1 : a + 1 ≤ bN n := ha
      have hone := famCells_one (base := 30000) (sz := 1) (len := fun a => (succ n l i a).length) ha
      have hput := famCells_put (base := 30000) (sz := 1) (v := (succ n l i a).length + 1) (len := fun a => (succ n l i a).length) (len' := fun c => (succ n l (i + 1) c).length) ha (fun c => by rw [hss']; split <;> rename_i e <;> simp [e])
      apply J.draw; intro c' hc'
      iterate 9 refine runP_step rfl (by simp [ha]; rfl) ?_
      refine runP_alt rfl rfl (by simp [ha, ha1, hone]; rfl) ?_ (.inr ?_)
      · refine runP_one rfl rfl (by simp; rfl) ?_
        refine runP_one rfl (by simp; omega) (by simp [e1, e2, e3, e4, look_famA_at ha, killL_fam ha, show ((succ n l i a).length + 1) * 8 ≤ 140737488355328 from by omega]; rfl) ?_
        refine runP_step rfl (by simp [ha, ha1]; rfl) ?_
        refine runP_one rfl (by simp) (by simp [look_upd, look_killB, look_drop, e1, e2, e3, e4, hput, ha1, killL_fam ha]; rfl) ?_
        simp [runP]
        refine key hlt _ _ _ (by simp [s20]) (by simp [look_upd]) (fun c hc => ?_)
        simp only [look_upd, look_killB, look_drop]
        rw [if_neg (by omega)]
        by_cases e : c = a
        · subst e; simp [hss']
        · rw [if_neg (by omega), if_neg (by omega), look_famA_at hc]; simp [hss', e]
      · refine runP_one rfl rfl (by simp; rfl) ?_
        refine runP_one rfl rfl (by simp [ha, ha1, hone]; rfl) ?_
        refine runP_one rfl (by simp; omega) (by simp [e1, e2, e3, e4, look_famA_at ha, killL_fam ha, show ((succ n l i a).length + 1) * 8 ≤ 140737488355328 from by omega]; rfl) ?_
        refine runP_step rfl (by simp [ha, ha1]; rfl) ?_
        refine runP_one rfl (by simp) (by simp [look_upd, look_killB, look_drop, e1, e2, e3, e4, hput, ha1, killL_fam ha]; rfl) ?_
        simp [runP]
        refine key hlt _ _ _ (by simp [s20]) (by simp [look_upd]) (fun c hc => ?_)
        simp only [look_upd, look_killB, look_drop]
        rw [if_neg (by omega)]
        by_cases e : c = a
        · subst e; simp [hss']
        · rw [if_neg (by omega), if_neg (by omega), look_famA_at hc]; simp [hss', e]
    ·
      apply J.reg
      iterate 15 refine runL_step rfl (by simp [look_fam_lt, h1]; rfl) ?_
      simp [runL]
      apply J.cond; simp
      apply J.skip; simp
      have hssn : ∀ c, c < bN n → succ n l (i + 1) c = succ n l i c := by
        intro c hcN
        rw [hss]
        have : ¬ (x = (c : Int) ∧ isT n y = true) := by
          rintro ⟨rfl, hy⟩
          have := (isT_iff _ _).1 hy
          revert h1
          first | (intro h1; split at h1 <;> omega) | (revert h2; intro h2 h1; split at h1 <;> split at h2 <;> omega)
        simp [this]
      refine key hlt _ _ _ (by simp [s20]) ?_ (fun c hcN => by rw [look_famA_at hcN, hssn c hcN])
      simp
      unfold famCells
      exact List.map_congr_left (fun c hcN => by dsimp only; rw [hssn c (by simpa using hcN)])
    ·
      apply J.reg
      iterate 15 refine runL_step rfl (by simp [look_fam_lt, h1, h2]; rfl) ?_
      simp [runL]
      apply J.cond; simp
      apply J.skip; simp
      have hssn : ∀ c, c < bN n → succ n l (i + 1) c = succ n l i c := by
        intro c hcN
        rw [hss]
        have : ¬ (x = (c : Int) ∧ isT n y = true) := by
          rintro ⟨rfl, hy⟩
          have := (isT_iff _ _).1 hy
          revert h1
          first | (intro h1; split at h1 <;> omega) | (revert h2; intro h2 h1; split at h1 <;> split at h2 <;> omega)
        simp [this]
      refine key hlt _ _ _ (by simp [s20]) ?_ (fun c hcN => by rw [look_famA_at hcN, hssn c hcN])
      simp
      unfold famCells
      exact List.map_congr_left (fun c hcN => by dsimp only; rw [hssn c (by simpa using hcN)])
  ·
    have : i = l.length := by omega
    subst this
    apply J.exit; simp
    apply J.seq
    refine J.le hc (st' := ⟨[(5, .ro 1 (rws (toL n l)))], [], []⟩) (le_retell ?_ ?_ rfl (by simp)) ?_
    · intro p hp
      simp only [List.mem_cons, List.not_mem_nil, or_false] at hp
      subst hp
      refine ⟨_, rfl, ?_⟩
      have hrw : rws (toL n l) = ((toL n l).map fun r => AV.ro 1 (nats r)).map fun x => [x] := by simp [rws]
      rw [hrw]
      refine Re.rows (lo := 0) (n := bN n) (ty := 29) (cs := famCells 30000 1 (fun a => (succ n l l.length a).length) (bN n)) (by simp) rfl (by simp [toL]) (by simp) ?_ ?_
      · intro x hx
        simp only [List.mem_map] at hx
        obtain ⟨r, _, rfl⟩ := hx
        rfl
      · intro i x hx
        have hi : i < bN n := by simpa [toL] using (List.getElem?_eq_some_iff.1 hx).1
        simp [toL, hi] at hx
        subst hx
        simp [famCells_get hi]
        have := Re.row (m := fam 30000 3 1 (fun a => nats (succ n l l.length a)) (bN n) ++ [(20012, .obj 29 (famCells 30000 1 (fun a => (succ n l l.length a).length) (bN n)))]) (m' := []) (b := 30000 + i) (sz := 1) (lo := 0) (n := (succ n l l.length i).length) (ty := 3) (es := nats (succ n l l.length i)) (look_famA_at hi) rfl (by omega) (by simp)
        simpa [List.take_of_length_le] using this
    · simp
    refine J.regE (by simp; rfl) ?_
    simp
    apply J.ret
    refine ⟨by simp, rfl, _, [], by simp [a20R]; rfl, ?_⟩
    simp

end Go.Proofs.Ythccfgkklimebaa.F
