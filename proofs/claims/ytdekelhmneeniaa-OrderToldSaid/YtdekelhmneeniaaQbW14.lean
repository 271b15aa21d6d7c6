/- The walk of LawOrderTold. -/
import Derived.Test.YtdekelhmneeniaaQb9
set_option linter.unusedVariables false
set_option linter.unusedSimpArgs false
namespace Go.Proofs.Ytdekelhmneeniaa.F
open Go Go.SX
theorem d18p (l : List (Int × Int)) (x : Int × Int) (hl : l.length < 1000000) : DoesT 18 [.ro 2 (eds l), .agg (eI x)] (iv (plc l x)) := d18 l x hl
theorem Dif.snoc {l : List Node} {y : Node} (h : Dif l) (h1 : ∀ a ∈ l, a.i ≠ y.i) : Dif (l ++ [y]) := by
 unfold Dif
 rw [List.pairwise_append]
 exact ⟨h, List.pairwise_singleton _ _, fun a ha b hb => by simp at hb; subst hb; exact h1 a ha⟩
theorem dif_step {l : List Node} {i : Nat} {y : Node} (hd : Dif (l.take i)) (h1 : ∀ j (h : j < l.length), j < i → l[j].i ≠ y.i) (htk : l.take (i + 1) = l.take i ++ [y]) : Dif (l.take (i + 1)) := by
 rw [htk]
 refine hd.snoc (fun a ha => ?_)
 obtain ⟨j, hj, rfl⟩ := List.mem_iff_getElem.1 ha
 simp only [List.length_take] at hj
 rw [List.getElem_take]
 exact h1 j (by omega) (by omega)
section
variable {l : List Node} {done : List (Int × Int)} (hl : l.length ≤ 100) (h7 : ∀ n ∈ l, n.d.length ≤ 7) (hD : Dif l)
include hD in
theorem ready_node {n : Node} (hn : n ∈ l) (h : n.i ∈ readyL l done) : n ∈ rdy (cnt l done) (miss (cnt l done) done) := by
 obtain ⟨m, hm, e⟩ := mem_ready.1 h
 rwa [hD.inj (mem_cnt (mem_rdy hm)).1 hn e] at hm
theorem readyL_nodup (l : List Node) (done : List (Int × Int)) : (readyL l done).Nodup := by
 obtain ⟨z, ms, r, N, -, -, -, h, -, -, hn, -⟩ := ready_all l done
 rw [h]; exact hn
theorem ready_done {x : Int × Int} (h : x ∈ readyL l done) : x ∉ done := by
 obtain ⟨m, hm, rfl⟩ := mem_ready.1 h
 exact (mem_cnt (mem_rdy hm)).2.2.1
include hD in
theorem ready_miss {n : Node} (hn : n ∈ l) (h : n.i ∈ readyL l done) {x : Int × Int} (hx : x ∈ missL l done) : waits n.d x = false := by
 have h1 := ready_node hD hn h
 obtain ⟨z, ms, r, N, rfl, rfl, rfl, -, -, -, -, -, -, hr, -⟩ := ready_all l done
 exact lacks_false.1 (((hr n).1 h1).2 n (.refl n)) x hx
include hD h7 in
theorem ready_dep {n m : Node} (hn : n ∈ l) (h : n.i ∈ readyL l done) (w : waits n.d m.i = true) (hm : m.i ∉ done) : m.i ∈ readyL l done := by
 obtain ⟨q, hq, e⟩ := ready_waits h7 (ready_node hD hn h) w hm
 exact mem_ready.2 ⟨q, hq, e⟩
end
noncomputable def s4 (l : List Node) (done : List (Int × Int)) (s : Slots) : St := ⟨(0, .ro 4 (eNs l)) :: (1, .ro 2 (eds done)) :: (7, .ro 2 (eds (readyL l done))) :: (8, .ro 2 (eds (missL l done))) :: s, [], []⟩
def I4 (l : List Node) (done : List (Int × Int)) (m : Nat) (st : St) : Prop := ∃ i : Nat, i ≤ l.length ∧ m = l.length - i ∧ Dif (l.take i) ∧ st = s4 l done [(9, iv i)]
def I4b (l : List Node) (done : List (Int × Int)) (i : Nat) (y : Node) (m : Nat) (st : St) : Prop := ∃ k : Nat, k ≤ i ∧ m = i - k ∧ (∀ j (h : j < l.length), j < k → l[j].i ≠ y.i) ∧ st = s4 l done [(9, iv i), (10, iv k)]
def I4c (l : List Node) (done : List (Int × Int)) (m : Nat) (st : St) : Prop := ∃ i : Nat, i ≤ l.length ∧ m = l.length - i ∧ st = s4 l done [(11, iv i)]
def I4d (l : List Node) (done : List (Int × Int)) (i : Nat) (m : Nat) (st : St) : Prop := ∃ k : Nat, k ≤ (missL l done).length ∧ m = (missL l done).length - k ∧ st = s4 l done [(11, iv i), (14, iv k)]
def I4e (l : List Node) (done : List (Int × Int)) (i : Nat) (m : Nat) (st : St) : Prop := ∃ k : Nat, k ≤ l.length ∧ m = l.length - k ∧ st = s4 l done [(11, iv i), (15, iv k)]
theorem c4 : chkFn Try.prog 4 148 2 a4 a4R = true := by kernel_rfl
theorem d4 (l : List Node) (done : List (Int × Int)) : DoesT 4 [.ro 4 (eNs l), .ro 2 (eds done)] (bv true) := by
 have hrl := readyL_length l done
 have hmis : (missL l done).length ≤ 420 := miss_length _ _
 have hrn := readyL_nodup l done
 refine Does.of (nt := 148) (ac := a4) (rds := a4R) c4 (fun c hc => ?_)
 unfold a4
 apply J.seq
 refine J.regE (by simp [eNs, eN, eNs_length, eI]; rfl) ?_
 simp
 apply J.seq
 apply J.reg
 refine runL_tree rfl (d9) (by simp) hc ?_
 simp
 refine runL_step rfl (by simp [eNs, eN, eNs_length, eI]; rfl) ?_
 simp [runL]
 apply J.seq
 apply J.reg
 refine runL_step rfl (by simp [eNs, eN, eNs_length, eI]; rfl) ?_
 refine runL_tree rfl (by simpa [eNs] using d10 l) (by simp) hc ?_
 simp
 refine runL_step rfl (by simp [eNs, eN, eNs_length, eI]; rfl) ?_
 simp [runL]
 apply J.seq
 apply J.seq
 apply J.reg
 iterate 7 refine runL_step rfl (by simp [eNs, eN, eNs_length, eI]; rfl) ?_
 refine runL_if rfl (fun g25 => ?_) (fun g25 => ?_)
 ·
  try simp only [g25]
  try simp at g25
  iterate 4 refine runL_step rfl (by simp [eNs, eN, eNs_length, eI]; rfl) ?_
  simp [runL]
  refine J.condB rfl (fun h29 => ?_) (fun h29 => ?_)
  ·
   skip
   apply J.seq
   refine J.regE (by simp [eNs, eN, eNs_length, eI]; rfl) ?_
   simp
   apply J.ret
   refine ⟨by simp, rfl, _, [], by simp [a4R]; rfl, ?_⟩
   simp
  ·
   try simp at h29
   have hfe : fewN l = true := by simpa using g25
   obtain ⟨hl, hd⟩ := few_le hfe
   obtain ⟨hl30, h7⟩ := few_spec hfe
   have hdn : done.length < 1000000 := by omega
   have h12 := d12 l done hl hdn hd
   have h14 := d14 l done hl hdn hd
   apply J.skip; simp
   apply J.seq
   apply J.reg
   iterate 2 refine runL_step rfl (by simp [eNs, eN, eNs_length, eI]; rfl) ?_
   refine runL_tree rfl (by simpa [eNs] using h12) (by simp) hc ?_
   simp
   refine runL_step rfl (by simp [eNs, eN, eNs_length, eI]; rfl) ?_
   simp [runL]
   apply J.seq
   apply J.reg
   iterate 2 refine runL_step rfl (by simp [eNs, eN, eNs_length, eI]; rfl) ?_
   refine runL_tree rfl (by simpa [eNs] using h14) (by simp) hc ?_
   simp
   refine runL_step rfl (by simp [eNs, eN, eNs_length, eI]; rfl) ?_
   simp [runL]
   apply J.seq
   apply J.seq
   refine J.regE (by simp [eNs, eN, eNs_length, eI]; rfl) ?_
   simp
   apply J.block
   refine J.loop hc (I4 l done) ?_ ?_
   ·refine ⟨_, _, ?_, 0, by omega, rfl, List.Pairwise.nil, rfl⟩
    apply le_sub <;> simp [eNs, eN, s4]
   rintro n st ⟨i, hi, rfl, hdf, rfl⟩
   unfold s4
   apply J.seq
   apply J.seq
   refine J.regE (by simp [eNs, eN, eNs_length, eI]; rfl) ?_
   simp
   refine J.condB rfl (fun h40 => ?_) (fun h40 => ?_)
   ·
    try simp at h40
    have hi0 : i < l.length := by omega
    obtain ⟨y, hx, hgx, hg, hge, hdr, hw, hlt2, htk⟩ := getL (eN) (show i < l.length by omega) (by omega)
    apply J.skip; simp
    apply J.seq
    apply J.block
    apply J.seq
    refine J.regE (by simp [eNs, eN, eNs_length, eI]; rfl) ?_
    simp
    apply J.block
    refine J.loop hc (I4b l done i y) ?_ ?_
    ·refine ⟨_, _, ?_, 0, by omega, rfl, fun j _ h => by omega, rfl⟩
     apply le_sub <;> simp [eNs, eN, s4]
    rintro n st ⟨k, hk, rfl, hne, rfl⟩
    unfold s4
    apply J.seq
    apply J.seq
    refine J.regE (by simp [eNs, eN, eNs_length, eI]; rfl) ?_
    simp
    refine J.condB rfl (fun h45 => ?_) (fun h45 => ?_)
    ·
     try simp at h45
     have hk0 : k < l.length := by omega
     obtain ⟨b, hxk, hgxk, hgk, hgek, hdrk, hwk, hlt2k, htkk⟩ := getL (eN) (show k < l.length by omega) (by omega)
     apply J.skip; simp
     apply J.seq
     apply J.block
     apply J.seq
     apply J.draw; intro c' hc'
     iterate 11 refine runP_stepQ (by simp [eNs, eN, eNs_length, eI, hi0, hgx, hk0, hgxk]; rfl) ?_
     simp [runP]
     refine J.condB rfl (fun h58 => ?_) (fun h58 => ?_)
     ·
      skip
      apply J.seq
      refine J.regE (by simp [eNs, eN, eNs_length, eI]; rfl) ?_
      simp
      apply J.ret
      refine ⟨by simp, rfl, _, [], by simp [a4R]; rfl, ?_⟩
      simp
     ·
      have h58 : b.b = y.b → ¬ b.s = y.s := fun e1 e2 => by simp [e1, e2] at h58
      apply J.skip; simp
      refine J.regE (by simp [eNs, eN, eNs_length, eI, hwk]; rfl) ?_
      simp
      refine ⟨_, ?_, _, ?_, k + 1, ?_, rfl, ?_, rfl⟩
      ·omega
      ·apply le_sub <;> simp [eNs, eN, s4]
      ·omega
      ·intro j hj hjk
       by_cases e : j = k
       ·subst e; rw [hgxk]; intro e; injection e with e1 e2; exact h58 e1 e2
       ·exact hne j hj (by omega)
    ·
     try simp at h45
     obtain rfl : i = k := by omega
     have hdf2 := dif_step hdf hne htk
     apply J.exit; simp
     refine J.regE (by simp [eNs, eN, eNs_length, eI, hw]; rfl) ?_
     simp
     refine ⟨_, ?_, _, ?_, i + 1, ?_, rfl, hdf2, rfl⟩
     ·omega
     ·apply le_sub <;> simp [eNs, eN, s4]
     ·omega
   ·
    try simp at h40
    obtain rfl : i = l.length := by omega
    rw [List.take_length] at hdf
    apply J.exit; simp
    apply J.seq
    apply J.seq
    refine J.regE (by simp [eNs, eN, eNs_length, eI]; rfl) ?_
    simp
    apply J.block
    refine J.loop hc (I4c l done) ?_ ?_
    ·refine ⟨_, _, ?_, 0, by omega, rfl, rfl⟩
     apply le_sub <;> simp [eNs, eN, s4]
    rintro n st ⟨i, hi, rfl, rfl⟩
    unfold s4
    apply J.seq
    apply J.seq
    refine J.regE (by simp [eNs, eN, eNs_length, eI]; rfl) ?_
    simp
    refine J.condB rfl (fun h62 => ?_) (fun h62 => ?_)
    ·
     try simp at h62
     have hi0 : i < l.length := by omega
     obtain ⟨y, hx, hgx, hg, hge, hdr, hw, hlt2, htk⟩ := getL (eN) (show i < l.length by omega) (by omega)
     have hyl := List.mem_of_getElem? hx
     have hyd := hd y hyl
     apply J.skip; simp
     apply J.seq
     apply J.block
     apply J.seq
     apply J.reg
     iterate 6 refine runL_step rfl (by simp [eNs, eN, eNs_length, eI, hi0, hgx]; rfl) ?_
     refine runL_tree rfl (d18p (readyL l done) y.i (by omega)) (by simp) hc ?_
     simp
     refine runL_step rfl (by simp [eNs, eN, eNs_length, eI, hi0, hgx]; rfl) ?_
     simp [runL]
     apply J.seq
     apply J.seq
     refine J.regE (by simp [eNs, eN, eNs_length, eI]; rfl) ?_
     simp
     refine J.condB rfl (fun h73 => ?_) (fun h73 => ?_)
     ·
      skip
      apply J.exit; simp
      refine J.regE (by simp [eNs, eN, eNs_length, eI, hw]; rfl) ?_
      simp
      refine ⟨_, ?_, _, ?_, i + 1, ?_, rfl, rfl⟩
      ·omega
      ·apply le_sub <;> simp [eNs, eN, s4]
      ·omega
     ·
      try simp at h73
      have hyr : y.i ∈ readyL l done := Classical.byContradiction fun h => by have := plc_neg.2 h; omega
      obtain ⟨j, hj, hpj, hgj⟩ := plc_get hyr
      have hwj : IntKind.i64.wrap ((j : Int) + 1) = (j : Int) + 1 := wrap_id (by omega) (by omega)
      have hdn2 := ready_done hyr
      have hj1 : j + 1 ≤ (readyL l done).length := by omega
      have hj2 : (j : Int) + 1 ≤ ((readyL l done).length : Int) := by omega
      have hj3 : (0 : Int) ≤ (j : Int) + 1 := by omega
      have hneg : plc ((readyL l done).drop (j + 1)) y.i < 0 := by
       rw [plc_neg, ← hgj]
       intro hm
       obtain ⟨q, hq, e⟩ := List.mem_iff_getElem.1 hm
       rw [List.getElem_drop] at e
       have := (List.getElem_inj hrn).1 e
       omega
      rw [hpj]
      apply J.skip; simp
      apply J.seq
      apply J.reg
      iterate 6 refine runL_step rfl (by simp [eNs, eN, eNs_length, eI, hi0, hgx]; rfl) ?_
      refine runL_tree rfl (d19 done y.i hdn) (by simp) hc ?_
      simp
      refine runL_step rfl (by simp [eNs, eN, eNs_length, eI, hi0, hgx]; rfl) ?_
      simp [runL]
      simp only [hdn2, decide_false]
      apply J.seq
      apply J.seq
      apply J.draw; intro c' hc'
      iterate 11 refine runP_stepQ (by simp [eNs, eN, eNs_length, eI, hi0, hgx, hwj, hj1, hj2, hj3]; rfl) ?_
      refine runP_do (by simp) ?_
      refine runP_tree rfl (d18p ((readyL l done).drop (j + 1)) y.i (by simp; omega)) (by simp [eI, Node.i]) rfl ?_
      simp
      iterate 2 refine runP_stepQ (by simp [eNs, eN, eNs_length, eI, hi0, hgx, hwj, hj1, hj2, hj3]; rfl) ?_
      simp [runP]
      refine J.condB rfl (fun h94 => ?_) (fun h94 => ?_)
      ·
       exfalso
       try simp at h94
       omega
      ·
       skip
       apply J.skip; simp
       apply J.seq
       apply J.seq
       refine J.regE (by simp [eNs, eN, eNs_length, eI]; rfl) ?_
       simp
       apply J.block
       refine J.loop hc (I4d l done i) ?_ ?_
       ·refine ⟨_, _, ?_, 0, by omega, rfl, rfl⟩
        apply le_sub <;> simp [eNs, eN, s4]
       rintro n st ⟨k, hk, rfl, rfl⟩
       unfold s4
       apply J.seq
       apply J.seq
       refine J.regE (by simp [eNs, eN, eNs_length, eI]; rfl) ?_
       simp
       refine J.condB rfl (fun h98 => ?_) (fun h98 => ?_)
       ·
        try simp at h98
        have hk0 : k < (missL l done).length := by omega
        obtain ⟨x, hxk, hgxk, hgk, hgek, hdrk, hwk, hlt2k, htkk⟩ := getL (eI) (show k < (missL l done).length by omega) (by omega)
        have hwx := ready_miss hdf hyl hyr (List.mem_of_getElem? hxk)
        apply J.skip; simp
        apply J.seq
        apply J.block
        apply J.seq
        apply J.draw; intro c' hc'
        iterate 9 refine runP_stepQ (by simp [eNs, eN, eNs_length, eI, hi0, hgx, hk0, hgxk]; rfl) ?_
        refine runP_tree rfl (by have h := d20 y.q y.d x hyd; rw [hwx] at h; exact h) (by simp) rfl ?_
        simp
        simp [runP]
        apply J.cond; simp [eNs, eN, eNs_length, eI]
        apply J.skip; simp
        refine J.regE (by simp [eNs, eN, eNs_length, eI, hwk]; rfl) ?_
        simp
        refine ⟨_, ?_, _, ?_, k + 1, ?_, rfl, rfl⟩
        ·omega
        ·apply le_sub <;> simp [eNs, eN, s4]
        ·omega
       ·
        skip
        apply J.exit; simp
        apply J.seq
        refine J.regE (by simp [eNs, eN, eNs_length, eI]; rfl) ?_
        simp
        apply J.block
        refine J.loop hc (I4e l done i) ?_ ?_
        ·refine ⟨_, _, ?_, 0, by omega, rfl, rfl⟩
         apply le_sub <;> simp [eNs, eN, s4]
        rintro n st ⟨k, hk, rfl, rfl⟩
        unfold s4
        apply J.seq
        apply J.seq
        refine J.regE (by simp [eNs, eN, eNs_length, eI]; rfl) ?_
        simp
        refine J.condB rfl (fun h114 => ?_) (fun h114 => ?_)
        ·
         try simp at h114
         have hk0 : k < l.length := by omega
         obtain ⟨z, hxk, hgxk, hgk, hgek, hdrk, hwk, hlt2k, htkk⟩ := getL (eN) (show k < l.length by omega) (by omega)
         apply J.skip; simp
         apply J.seq
         apply J.block
         apply J.seq
         apply J.draw; intro c' hc'
         iterate 10 refine runP_stepQ (by simp [eNs, eN, eNs_length, eI, hi0, hgx, hk0, hgxk]; rfl) ?_
         refine runP_tree rfl (d20 y.q y.d z.i hyd) (by simp) rfl ?_
         simp
         refine runP_stepQ (by simp [eNs, eN, eNs_length, eI, hi0, hgx, hk0, hgxk]; rfl) ?_
         refine runP_if rfl (fun g128 => ?_) (fun g128 => ?_)
         ·
          try simp only [g128]
          try simp at g128
          iterate 6 refine runP_stepQ (by simp [eNs, eN, eNs_length, eI, hi0, hgx, hk0, hgxk]; rfl) ?_
          refine runP_do (by simp) ?_
          refine runP_tree rfl (d18p done z.i hdn) (by simp) rfl ?_
          simp
          iterate 3 refine runP_stepQ (by simp [eNs, eN, eNs_length, eI, hi0, hgx, hk0, hgxk]; rfl) ?_
          refine runP_if rfl (fun g138 => ?_) (fun g138 => ?_)
          ·
           try simp only [g138]
           try simp at g138
           iterate 6 refine runP_stepQ (by simp [eNs, eN, eNs_length, eI, hi0, hgx, hk0, hgxk]; rfl) ?_
           refine runP_do (by simp) ?_
           refine runP_tree rfl (d18p (readyL l done) z.i (by omega)) (by simp) rfl ?_
           simp
           iterate 2 refine runP_stepQ (by simp [eNs, eN, eNs_length, eI, hi0, hgx, hk0, hgxk]; rfl) ?_
           simp [runP]
           refine J.condB rfl (fun h147 => ?_) (fun h147 => ?_)
           ·
            exfalso
            try simp at h147
            simp only [plc_neg] at h147 g138
            exact h147 (ready_dep h7 hdf hyl hyr g128 g138)
           ·
            skip
            apply J.skip; simp
            refine J.regE (by simp [eNs, eN, eNs_length, eI, hwk]; rfl) ?_
            simp
            refine ⟨_, ?_, _, ?_, k + 1, ?_, rfl, rfl⟩
            ·omega
            ·apply le_sub <;> simp [eNs, eN, s4]
            ·omega
          ·
           try simp only [g138]
           try simp at g138
           iterate 5 refine runP_stepQ (by simp [eNs, eN, eNs_length, eI, hi0, hgx, hk0, hgxk]; rfl) ?_
           refine runP_skip (b := false) (by simp) (by simp) ?_
           simp
           iterate 2 refine runP_stepQ (by simp [eNs, eN, eNs_length, eI, hi0, hgx, hk0, hgxk]; rfl) ?_
           simp [runP]
           apply J.cond; simp [eNs, eN, eNs_length, eI]
           apply J.skip; simp
           refine J.regE (by simp [eNs, eN, eNs_length, eI, hwk]; rfl) ?_
           simp
           refine ⟨_, ?_, _, ?_, k + 1, ?_, rfl, rfl⟩
           ·omega
           ·apply le_sub <;> simp [eNs, eN, s4]
           ·omega
         ·
          try simp only [g128]
          try simp at g128
          iterate 5 refine runP_stepQ (by simp [eNs, eN, eNs_length, eI, hi0, hgx, hk0, hgxk]; rfl) ?_
          refine runP_skip (b := false) (by simp) (by simp) ?_
          simp
          iterate 9 refine runP_stepQ (by simp [eNs, eN, eNs_length, eI, hi0, hgx, hk0, hgxk]; rfl) ?_
          refine runP_skip (b := false) (by simp) (by simp) ?_
          simp
          iterate 2 refine runP_stepQ (by simp [eNs, eN, eNs_length, eI, hi0, hgx, hk0, hgxk]; rfl) ?_
          simp [runP]
          apply J.cond; simp [eNs, eN, eNs_length, eI]
          apply J.skip; simp
          refine J.regE (by simp [eNs, eN, eNs_length, eI, hwk]; rfl) ?_
          simp
          refine ⟨_, ?_, _, ?_, k + 1, ?_, rfl, rfl⟩
          ·omega
          ·apply le_sub <;> simp [eNs, eN, s4]
          ·omega
        ·
         skip
         apply J.exit; simp
         refine J.regE (by simp [eNs, eN, eNs_length, eI, hw]; rfl) ?_
         simp
         refine ⟨_, ?_, _, ?_, i + 1, ?_, rfl, rfl⟩
         ·omega
         ·apply le_sub <;> simp [eNs, eN, s4]
         ·omega
    ·
     try simp at h62
     obtain rfl : i = l.length := by omega
     apply J.exit; simp
     apply J.seq
     refine J.regE (by simp [eNs, eN, eNs_length, eI]; rfl) ?_
     simp
     apply J.ret
     refine ⟨by simp, rfl, _, [], by simp [a4R]; rfl, ?_⟩
     simp
 ·
  try simp only [g25]
  try simp at g25
  iterate 3 refine runL_step rfl (by simp [eNs, eN, eNs_length, eI]; rfl) ?_
  simp [runL]
  apply J.cond; simp [eNs, eN, eNs_length, eI]
  apply J.seq
  refine J.regE (by simp [eNs, eN, eNs_length, eI]; rfl) ?_
  simp
  apply J.ret
  refine ⟨by simp, rfl, _, [], by simp [a4R]; rfl, ?_⟩
  simp
end Go.Proofs.Ytdekelhmneeniaa.F
namespace Go.Proofs.Ytdekelhmneeniaa.F
open Go Go.SX
def ab7r0 : AC := .reg [oI 4 (.mov (.c (.lit (.bool false))))] [0, 1]
def ab7r1 : AC := .reg [oI 12 (.callv (.c (.fn 9 [])) []), oI 5 (.mov (.s 12))] [0, 1, 5]
def ab7r2 : AC := .reg [oI 13 (.mov (.s 0)), oI 14 (.callv (.c (.fn 10 [])) [(.s 13)]), oI 6 (.mov (.s 14))] [0, 1, 5, 6]
def ab7r3 : AC := .reg [oI 15 (.mov (.s 5)), oI 16 (.not (.s 15)), oI 17 (.mov (.s 16)), oG 18 17 false (.mov (.s 6)), oG 19 17 false (.not (.s 18)), oI 20 (.pick (.s 17) (.c (.lit (.bool true))) (.s 19)), oI 21 (.mov (.s 20)), oG 22 21 false (.mov (.s 1)), oG 23 21 false (.len (.s 22)), oG 24 21 false (.iop .gtr (.s 23) (.c (.lit (.int .i64 100)))), oI 25 (.pick (.s 21) (.c (.lit (.bool true))) (.s 24))] [0, 1, 5, 25]
def ab7r4 : AC := .reg [oI 26 (.mov (.s 5)), oI 4 (.mov (.s 26))] [4]
def ab7r5 : AC := .reg [oI 7 (.mov (.c (.nils 4)))] [0, 1, 7]
def ab7r6 : AC := .reg [oI 8 (.mov (.c (.lit (.int .i64 0))))] [0, 1, 7, 8]
def ab7r7 : AC := .reg [oI 27 (.mov (.s 8)), oI 28 (.mov (.s 0)), oI 29 (.len (.s 28)), oI 30 (.iop .lss (.s 27) (.s 29))] [0, 1, 7, 8, 30]
def ab7r9 : AC := .reg [oI 9 (.mov (.c (.lit (.int .i64 0))))] [0, 1, 7, 8, 9]
def ab7r10 : AC := .reg [oI 33 (.mov (.s 9)), oI 34 (.mov (.s 8)), oI 35 (.iop .lss (.s 33) (.s 34))] [0, 1, 7, 8, 9, 35]
def ab7r12 : AC := .draw [] (.take 0 (oI 38 (.mov (.s 0))) <| .take 1 (oI 39 (.mov (.s 8))) <| .take 2 (oI 40 (.iaddr 4 (.s 38) (.s 39))) <| .take 3 (oI 41 (.faddr 0 (.s 40))) <| .take 4 (oI 42 (.load 2 true (.s 41))) <| .take 5 (oI 43 (.mov (.s 0))) <| .take 6 (oI 44 (.mov (.s 9))) <| .take 7 (oI 45 (.iaddr 4 (.s 43) (.s 44))) <| .take 8 (oI 46 (.faddr 0 (.s 45))) <| .take 9 (oI 47 (.load 2 true (.s 46))) <| .take 10 (oI 48 (.seql false [1, 1] (.s 42) (.s 47))) <| .done) [0, 1, 7, 8, 9, 48]
def ab7r13 : AC := .reg [oI 4 (.mov (.c (.lit (.bool true))))] [4]
def ab7r11 : AC := .reg [oI 36 (.mov (.s 9)), oI 37 (.iop .add (.s 36) (.c (.lit (.int .i64 1)))), oI 9 (.mov (.s 37))] [0, 1, 7, 8, 9]
def ab7L10 : AC := .seq (.seq (ab7r10) (.cond (.s 35) (.skip) (.exit 2))) (.seq (.block 3 (.seq (ab7r12) (.cond (.s 48) (.seq (ab7r13) (.ret)) (.skip)))) (ab7r11))
def ab7r14 : AC := .draw [7066, 7067] (.take 0 (oI 49 (.mov (.s 7))) <| .take 1 (oI 50 (.mov (.s 0))) <| .take 2 (oI 51 (.mov (.s 0))) <| .take 3 (oI 52 (.len (.s 51))) <| .take 4 (oI 53 (.iop .sub (.s 52) (.c (.lit (.int .i64 1))))) <| .take 5 (oI 54 (.mov (.s 8))) <| .take 6 (oI 55 (.iop .sub (.s 53) (.s 54))) <| .take 7 (oI 56 (.iaddr 4 (.s 50) (.s 55))) <| .take 8 (oI 57 (.load 4 true (.s 56))) <| .take 9 (oI 58 (.mov (.s 0))) <| .take 10 (oI 59 (.mov (.s 0))) <| .take 11 (oI 60 (.len (.s 59))) <| .take 12 (oI 61 (.iop .sub (.s 60) (.c (.lit (.int .i64 1))))) <| .take 13 (oI 62 (.mov (.s 8))) <| .take 14 (oI 63 (.iop .sub (.s 61) (.s 62))) <| .take 15 (oI 64 (.iaddr 4 (.s 58) (.s 63))) <| .take 16 (oI 65 (.load 4 true (.s 64))) <| .alt 17 (oI 66 (.bslice 7066 30 4 [(.s 57), (.s 65)])) ( .alt 18 (oI 67 (.append 7067 30 4 48 (.s 49) (.s 66))) ( .take 19 (oI 7 (.mov (.s 67))) <| .done) .done) .done) [0, 1, 7, 8]
def ab7r8 : AC := .reg [oI 31 (.mov (.s 8)), oI 32 (.iop .add (.s 31) (.c (.lit (.int .i64 1)))), oI 8 (.mov (.s 32))] [0, 1, 7, 8]
def ab7L7 : AC := .seq (.seq (ab7r7) (.cond (.s 30) (.skip) (.exit 0))) (.seq (.block 1 (.seq (.seq (ab7r9) (.block 2 (.loop ab7L10))) (ab7r14))) (ab7r8))
def ab7r15 : AC := .reg [oI 68 (.mov (.s 0)), oI 69 (.mov (.s 1)), oI 70 (.callv (.c (.fn 12 [])) [(.s 68), (.s 69)]), oI 71 (.mov (.s 7)), oI 72 (.mov (.s 1)), oI 73 (.callv (.c (.fn 12 [])) [(.s 71), (.s 72)]), oI 74 (.callv (.c (.fn 11 [])) [(.s 70), (.s 73)]), oI 10 (.mov (.s 74))] [0, 1, 7, 10]
def ab7r16 : AC := .reg [oI 75 (.mov (.s 0)), oI 76 (.mov (.s 1)), oI 77 (.callv (.c (.fn 14 [])) [(.s 75), (.s 76)]), oI 78 (.mov (.s 7)), oI 79 (.mov (.s 1)), oI 80 (.callv (.c (.fn 14 [])) [(.s 78), (.s 79)]), oI 81 (.callv (.c (.fn 11 [])) [(.s 77), (.s 80)]), oI 11 (.mov (.s 81))] [10, 11]
def ab7r17 : AC := .reg [oI 82 (.mov (.s 10)), oI 83 (.mov (.s 82)), oG 84 83 true (.mov (.s 11)), oI 85 (.pick (.s 83) (.s 84) (.c (.lit (.bool false)))), oI 4 (.mov (.s 85))] [4]
def ab7 : AC := .seq (ab7r0) (.seq (ab7r1) (.seq (ab7r2) (.seq (.seq (ab7r3) (.cond (.s 25) (.seq (ab7r4) (.ret)) (.skip))) (.seq (ab7r5) (.seq (.seq (ab7r6) (.block 0 (.loop ab7L7))) (.seq (ab7r15) (.seq (ab7r16) (.seq (ab7r17) (.ret)))))))))
def ab7R : List RD := [.tmp 4]
theorem find_ext {l T : List Node} (hD : Dif l) (hm : ∀ n, n ∈ T ↔ n ∈ l) (x : Int × Int) : T.find? (fun n => decide (n.i = x) && near n) = l.find? (fun n => decide (n.i = x) && near n) := by
 cases hl : l.find? (fun n => decide (n.i = x) && near n) with
 | none =>
  rw [List.find?_eq_none] at hl ⊢
  exact fun n hn => hl n ((hm n).1 hn)
 | some n =>
  have h1 := List.mem_of_find?_eq_some hl
  have h2 := List.find?_some hl
  cases hT : T.find? (fun n => decide (n.i = x) && near n) with
  | none =>
   rw [List.find?_eq_none] at hT
   exact absurd h2 (hT n ((hm n).2 h1))
  | some q =>
   have h3 := List.mem_of_find?_eq_some hT
   have h4 := List.find?_some hT
   simp only [Bool.and_eq_true, decide_eq_true_eq] at h2 h4
   rw [hD.inj ((hm q).1 h3) h1 (h4.1.trans h2.1.symm)]
theorem cnt_ext {l T : List Node} (hD : Dif l) (hl : l.length ≤ 100) (hT : T.length ≤ 100) (hm : ∀ n, n ∈ T ↔ n ∈ l) (done : List (Int × Int)) : cnt T done = cnt l done := by
 unfold cnt
 congr 1
 funext x
 unfold pick
 rw [List.take_of_length_le hl, List.take_of_length_le hT, find_ext hD hm]
def tw (l : List Node) (i : Nat) : List Node := (l.reverse.take i).flatMap fun n => [n, n]
theorem tw_length (l : List Node) (i : Nat) (h : i ≤ l.length) : (tw l i).length = 2 * i := by
 unfold tw
 have : ∀ q : List Node, (q.flatMap fun n => [n, n]).length = 2 * q.length := by
  intro q
  induction q with
  | nil => rfl
  | cons a r ih => simp only [List.flatMap_cons, List.length_append, ih, List.length_cons, List.length_nil]; omega
 rw [this]; simp; omega
theorem tw_succ {l : List Node} {i q : Nat} (h : l.length = i + q + 1) {y : Node} (hy : l[q]? = some y) : tw l (i + 1) = tw l i ++ [y, y] := by
 unfold tw
 have h1 : l.reverse[i]? = some y := by rw [List.getElem?_reverse (by omega), ← hy]; congr 1; omega
 rw [List.take_add_one, h1, List.flatMap_append]; rfl
theorem mem_tw {l : List Node} {n : Node} : n ∈ tw l l.length ↔ n ∈ l := by
 unfold tw
 rw [List.take_of_length_le (by simp)]
 simp [List.mem_flatMap]
def s7 (l : List Node) (done : List (Int × Int)) (i : Nat) (s : Slots) : St := ⟨(0, .ro 4 (eNs l)) :: (1, .ro 2 (eds done)) :: (7, .own 7067 4 0 (tw l i).length) :: (8, iv i) :: s, [(7067, .arr 30 4 (eNs (tw l i)))], []⟩
def I7 (l : List Node) (done : List (Int × Int)) (m : Nat) (st : St) : Prop := ∃ i : Nat, i ≤ l.length ∧ m = l.length - i ∧ Dif (l.take i) ∧ st = s7 l done i []
def I7b (l : List Node) (done : List (Int × Int)) (i : Nat) (y : Node) (m : Nat) (st : St) : Prop := ∃ k : Nat, k ≤ i ∧ m = i - k ∧ (∀ j (h : j < l.length), j < k → l[j].i ≠ y.i) ∧ st = s7 l done i [(9, iv k)]
theorem c7 : chkFn Try.prog 7 86 2 ab7 ab7R = true := by kernel_rfl
set_option maxHeartbeats 4000000 in
theorem d7 (l : List Node) (done : List (Int × Int)) : DoesT 7 [.ro 4 (eNs l), .ro 2 (eds done)] (bv true) := by
 have hrl := readyL_length l done
 have hmis : (missL l done).length ≤ 420 := miss_length _ _
 refine Does.of (nt := 86) (ac := ab7) (rds := ab7R) c7 (fun c hc => ?_)
 unfold ab7
 apply J.seq
 refine J.regE (by simp [eNs, eN, eNs_length, eI]; rfl) ?_
 simp
 apply J.seq
 apply J.reg
 refine runL_tree rfl (d9) (by simp) hc ?_
 simp
 refine runL_step rfl (by simp [eNs, eN, eNs_length, eI]; rfl) ?_
 simp [runL]
 apply J.seq
 apply J.reg
 refine runL_step rfl (by simp [eNs, eN, eNs_length, eI]; rfl) ?_
 refine runL_tree rfl (by simpa [eNs] using d10 l) (by simp) hc ?_
 simp
 refine runL_step rfl (by simp [eNs, eN, eNs_length, eI]; rfl) ?_
 simp [runL]
 apply J.seq
 apply J.seq
 apply J.reg
 iterate 7 refine runL_step rfl (by simp [eNs, eN, eNs_length, eI]; rfl) ?_
 refine runL_if rfl (fun g21 => ?_) (fun g21 => ?_)
 ·
  try simp only [g21]
  try simp at g21
  iterate 4 refine runL_step rfl (by simp [eNs, eN, eNs_length, eI]; rfl) ?_
  simp [runL]
  refine J.condB rfl (fun h25 => ?_) (fun h25 => ?_)
  ·
   skip
   apply J.seq
   refine J.regE (by simp [eNs, eN, eNs_length, eI]; rfl) ?_
   simp
   apply J.ret
   refine ⟨by simp, rfl, _, [], by simp [ab7R]; rfl, ?_⟩
   simp
  ·
   try simp at h25
   have hfe : fewN l = true := by simpa using g21
   obtain ⟨hl, hd⟩ := few_le hfe
   obtain ⟨hl30, h7⟩ := few_spec hfe
   have hdn : done.length < 1000000 := by omega
   have h12 := d12 l done hl hdn hd
   have h14 := d14 l done hl hdn hd
   apply J.skip; simp
   apply J.seq
   refine J.regE (by simp [eNs, eN, eNs_length, eI]; rfl) ?_
   simp
   refine J.nilrow hc 7 7067 30 rfl rfl rfl ?_
   simp
   apply J.seq
   apply J.seq
   refine J.regE (by simp [eNs, eN, eNs_length, eI]; rfl) ?_
   simp
   apply J.block
   refine J.loop hc (I7 l done) ?_ ?_
   ·refine ⟨_, _, ?_, 0, by omega, rfl, List.Pairwise.nil, rfl⟩
    apply le_sub <;> simp [eNs, s7, tw]
   rintro n st ⟨i, hi, rfl, hdf, rfl⟩
   unfold s7
   apply J.seq
   apply J.seq
   refine J.regE (by simp [eNs, eN, eNs_length, eI]; rfl) ?_
   simp
   refine J.condB rfl (fun h30 => ?_) (fun h30 => ?_)
   ·
    try simp at h30
    have hi0 : i < l.length := by omega
    obtain ⟨y, hx, hgx, hg, hge, hdr, hw, hlt2, htk⟩ := getL (eN) (show i < l.length by omega) (by omega)
    apply J.skip; simp
    apply J.seq
    apply J.block
    apply J.seq
    apply J.seq
    refine J.regE (by simp [eNs, eN, eNs_length, eI]; rfl) ?_
    simp
    apply J.block
    refine J.loop hc (I7b l done i y) ?_ ?_
    ·refine ⟨_, _, ?_, 0, by omega, rfl, fun j _ h => by omega, rfl⟩
     apply le_sub <;> simp [eNs, eN, s7]
    rintro n st ⟨k, hk, rfl, hne, rfl⟩
    unfold s7
    apply J.seq
    apply J.seq
    refine J.regE (by simp [eNs, eN, eNs_length, eI]; rfl) ?_
    simp
    refine J.condB rfl (fun h35 => ?_) (fun h35 => ?_)
    ·
     try simp at h35
     have hk0 : k < l.length := by omega
     obtain ⟨b, hxk, hgxk, hgk, hgek, hdrk, hwk, hlt2k, htkk⟩ := getL (eN) (show k < l.length by omega) (by omega)
     apply J.skip; simp
     apply J.seq
     apply J.block
     apply J.seq
     apply J.draw; intro c' hc'
     iterate 11 refine runP_stepQ (by simp [eNs, eN, eNs_length, eI, hi0, hgx, hk0, hgxk]; rfl) ?_
     simp [runP]
     refine J.condB rfl (fun h48 => ?_) (fun h48 => ?_)
     ·
      skip
      apply J.seq
      refine J.regE (by simp [eNs, eN, eNs_length, eI]; rfl) ?_
      simp
      apply J.ret
      refine ⟨by simp, rfl, _, [], by simp [ab7R]; rfl, ?_⟩
      simp
     ·
      have h48 : b.b = y.b → ¬ b.s = y.s := fun e1 e2 => by simp [e1, e2] at h48
      apply J.skip; simp
      refine J.regE (by simp [eNs, eN, eNs_length, eI, hwk]; rfl) ?_
      simp
      refine ⟨_, ?_, _, ?_, k + 1, ?_, rfl, ?_, rfl⟩
      ·omega
      ·apply le_sub <;> simp [eNs, eN, s7]
      ·omega
      ·intro j hj hjk
       by_cases e : j = k
       ·subst e; rw [hgxk]; intro e; injection e with e1 e2; exact h48 e1 e2
       ·exact hne j hj (by omega)
    ·
     try simp at h35
     obtain rfl : i = k := by omega
     have hdf2 := dif_step hdf hne htk
     obtain ⟨q, hq⟩ : ∃ q, l.length = i + q + 1 := ⟨l.length - i - 1, by omega⟩
     obtain ⟨z, hxq, hgxq, hgq, hgeq, hdrq, hwq, hlt2q, htkq⟩ := getL (eN) (show q < l.length by omega) (by omega)
     have hq0 : q < l.length := by omega
     obtain ⟨E, hE⟩ : ∃ E : Int, E = (l.length : Int) - 1 := ⟨_, rfl⟩
     have hwa : IntKind.i64.wrap ((l.length : Int) - 1) = E := by rw [hE]; exact wrap_id (by omega) (by omega)
     have hwb : IntKind.i64.wrap (E - (i : Int)) = (q : Int) := by rw [show E - (i : Int) = (q : Int) by omega]; exact wrap_id (by omega) (by omega)
     have hTs := tw_succ hq hxq
     have hTL := tw_length l i hi
     have hTl : (tw l (i + 1)).length = (tw l i).length + 2 := by rw [hTs]; simp
     apply J.exit; simp
     apply J.draw; intro c' hc'
     iterate 17 refine runP_stepQ (by simp [eNs, eN, eNs_length, eI, hwa, hwb, hq0, hgxq, show ((tw l i).length + 2) * 48 ≤ 140737488355328 from by omega, List.take_of_length_le]; rfl) ?_
     refine runP_one rfl (by simp) (by simp [eNs, eN, eNs_length, eI, hwa, hwb, hq0, hgxq, show ((tw l i).length + 2) * 48 ≤ 140737488355328 from by omega, List.take_of_length_le]; rfl) ?_
     refine runP_one rfl (by simp) (by simp [eNs, eN, eNs_length, eI, hwa, hwb, hq0, hgxq, show ((tw l i).length + 2) * 48 ≤ 140737488355328 from by omega, List.take_of_length_le]; rfl) ?_
     refine runP_stepQ (by simp [eNs, eN, eNs_length, eI, hwa, hwb, hq0, hgxq, show ((tw l i).length + 2) * 48 ≤ 140737488355328 from by omega, List.take_of_length_le]; rfl) ?_
     simp [runP]
     refine J.regE (by simp [eNs, eN, eNs_length, eI, hw]; rfl) ?_
     simp
     refine ⟨_, ?_, _, ?_, i + 1, ?_, rfl, hdf2, rfl⟩
     ·omega
     ·rw [← hTl]
      apply le_sub <;> simp [eNs, eN, s7, hTs]
     ·omega
   ·
    try simp at h30
    obtain rfl : i = l.length := by omega
    rw [List.take_length] at hdf
    apply J.exit; simp
    apply J.seq
    refine J.freeze hc 7067 rfl ?_
    simp [List.take_of_length_le]
    obtain ⟨T, hT⟩ : ∃ T, tw l l.length = T := ⟨_, rfl⟩
    have hTn : ∀ n, n ∈ T ↔ n ∈ l := fun n => hT ▸ mem_tw
    have hTL : T.length = 2 * l.length := hT ▸ tw_length l _ (Nat.le_refl _)
    rw [hT]
    have hce := cnt_ext hdf (by omega) (by omega) hTn done
    have h12b := d12 T done (by omega) hdn (fun n hn => hd n ((hTn n).1 hn))
    have h14b := d14 T done (by omega) hdn (fun n hn => hd n ((hTn n).1 hn))
    rw [show readyL T done = readyL l done by unfold readyL; rw [hce]] at h12b
    rw [show missL T done = missL l done by unfold missL; rw [hce]] at h14b
    have h11 := d11 (readyL l done) (readyL l done) (by omega)
    have h11b := d11 (missL l done) (missL l done) (by omega)
    apply J.reg
    iterate 2 refine runL_step rfl (by simp [eNs, eN, eNs_length, eI]; rfl) ?_
    refine runL_tree rfl (by simpa [eNs] using h12) (by simp) hc ?_
    simp
    iterate 2 refine runL_step rfl (by simp [eNs, eN, eNs_length, eI]; rfl) ?_
    refine runL_tree rfl (by simpa [eNs] using h12b) (by simp) hc ?_
    simp
    refine runL_tree rfl (by simpa using h11) (by simp) hc ?_
    simp
    refine runL_step rfl (by simp [eNs, eN, eNs_length, eI]; rfl) ?_
    simp [runL]
    apply J.seq
    apply J.reg
    iterate 2 refine runL_step rfl (by simp [eNs, eN, eNs_length, eI]; rfl) ?_
    refine runL_tree rfl (by simpa [eNs] using h14) (by simp) hc ?_
    simp
    iterate 2 refine runL_step rfl (by simp [eNs, eN, eNs_length, eI]; rfl) ?_
    refine runL_tree rfl (by simpa [eNs] using h14b) (by simp) hc ?_
    simp
    refine runL_tree rfl (by simpa using h11b) (by simp) hc ?_
    simp
    refine runL_step rfl (by simp [eNs, eN, eNs_length, eI]; rfl) ?_
    simp [runL]
    apply J.seq
    apply J.reg
    iterate 5 refine runL_step rfl (by simp [eNs, eN, eNs_length, eI]; rfl) ?_
    simp [runL]
    apply J.ret
    refine ⟨by simp, rfl, _, [], by simp [ab7R]; rfl, ?_⟩
    simp
 ·
  try simp only [g21]
  try simp at g21
  iterate 3 refine runL_step rfl (by simp [eNs, eN, eNs_length, eI]; rfl) ?_
  simp [runL]
  apply J.cond; simp [eNs, eN, eNs_length, eI]
  apply J.seq
  refine J.regE (by simp [eNs, eN, eNs_length, eI]; rfl) ?_
  simp
  apply J.ret
  refine ⟨by simp, rfl, _, [], by simp [ab7R]; rfl, ?_⟩
  simp
end Go.Proofs.Ytdekelhmneeniaa.F
