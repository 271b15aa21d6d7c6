/- The walk of LawOrderMissing. -/
import Derived.Test.YtdekelhmneeniaaQb9
set_option linter.unusedVariables false
set_option linter.unusedSimpArgs false
namespace Go.Proofs.Ytdekelhmneeniaa.F
open Go Go.SX
theorem d18p (l : List (Int × Int)) (x : Int × Int) (hl : l.length < 1000000) : DoesT 18 [.ro 2 (eds l), .agg (eI x)] (iv (plc l x)) := d18 l x hl
theorem Dif.snoc {l : List Node} {y : Node} (h : Dif l) (h1 : ∀ a ∈ l, a.i ≠ y.i) : Dif (l ++ [y]) := by
 unfold Dif
 rw [List.pairwise_append]
 exact ⟨h, List.pairwise_singleton _ _, fun a ha b hb => by simp at hb; subst hb; exact h1 a ha⟩
theorem dif_step {l : List Node} {i : Nat} {y : Node} (hd : Dif (l.take i)) (h1 : ∀ j (h : j < l.length), j < i → l[j].i ≠ y.i) (htk : l.take (i + 1) = l.take i ++ [y]) : Dif (l.take (i + 1)) := by
 rw [htk]
 refine hd.snoc (fun a ha => ?_)
 obtain ⟨j, hj, rfl⟩ := List.mem_iff_getElem.1 ha
 simp only [List.length_take] at hj
 rw [List.getElem_take]
 exact h1 j (by omega) (by omega)
section
variable {l : List Node} {done : List (Int × Int)} (hl : l.length ≤ 100) (h7 : ∀ n ∈ l, n.d.length ≤ 7) (hD : Dif l)
include hD in
theorem ready_node {n : Node} (hn : n ∈ l) (h : n.i ∈ readyL l done) : n ∈ rdy (cnt l done) (miss (cnt l done) done) := by
 obtain ⟨m, hm, e⟩ := mem_ready.1 h
 rwa [hD.inj (mem_cnt (mem_rdy hm)).1 hn e] at hm
theorem readyL_nodup (l : List Node) (done : List (Int × Int)) : (readyL l done).Nodup := by
 obtain ⟨z, ms, r, N, -, -, -, h, -, -, hn, -⟩ := ready_all l done
 rw [h]; exact hn
theorem ready_done {x : Int × Int} (h : x ∈ readyL l done) : x ∉ done := by
 obtain ⟨m, hm, rfl⟩ := mem_ready.1 h
 exact (mem_cnt (mem_rdy hm)).2.2.1
include hD in
theorem ready_miss {n : Node} (hn : n ∈ l) (h : n.i ∈ readyL l done) {x : Int × Int} (hx : x ∈ missL l done) : waits n.d x = false := by
 have h1 := ready_node hD hn h
 obtain ⟨z, ms, r, N, rfl, rfl, rfl, -, -, -, -, -, -, hr, -⟩ := ready_all l done
 exact lacks_false.1 (((hr n).1 h1).2 n (.refl n)) x hx
include hD h7 in
theorem ready_dep {n m : Node} (hn : n ∈ l) (h : n.i ∈ readyL l done) (w : waits n.d m.i = true) (hm : m.i ∉ done) : m.i ∈ readyL l done := by
 obtain ⟨q, hq, e⟩ := ready_waits h7 (ready_node hD hn h) w hm
 exact mem_ready.2 ⟨q, hq, e⟩
end
noncomputable def s4 (l : List Node) (done : List (Int × Int)) (s : Slots) : St := ⟨(0, .ro 4 (eNs l)) :: (1, .ro 2 (eds done)) :: (7, .ro 2 (eds (readyL l done))) :: (8, .ro 2 (eds (missL l done))) :: s, [], []⟩
def I4 (l : List Node) (done : List (Int × Int)) (m : Nat) (st : St) : Prop := ∃ i : Nat, i ≤ l.length ∧ m = l.length - i ∧ Dif (l.take i) ∧ st = s4 l done [(9, iv i)]
def I4b (l : List Node) (done : List (Int × Int)) (i : Nat) (y : Node) (m : Nat) (st : St) : Prop := ∃ k : Nat, k ≤ i ∧ m = i - k ∧ (∀ j (h : j < l.length), j < k → l[j].i ≠ y.i) ∧ st = s4 l done [(9, iv i), (10, iv k)]
def I4c (l : List Node) (done : List (Int × Int)) (m : Nat) (st : St) : Prop := ∃ i : Nat, i ≤ l.length ∧ m = l.length - i ∧ st = s4 l done [(11, iv i)]
def I4d (l : List Node) (done : List (Int × Int)) (i : Nat) (m : Nat) (st : St) : Prop := ∃ k : Nat, k ≤ (missL l done).length ∧ m = (missL l done).length - k ∧ st = s4 l done [(11, iv i), (14, iv k)]
def I4e (l : List Node) (done : List (Int × Int)) (i : Nat) (m : Nat) (st : St) : Prop := ∃ k : Nat, k ≤ l.length ∧ m = l.length - k ∧ st = s4 l done [(11, iv i), (15, iv k)]
theorem c4 : chkFn Try.prog 4 148 2 a4 a4R = true := by kernel_rfl
theorem d4 (l : List Node) (done : List (Int × Int)) : DoesT 4 [.ro 4 (eNs l), .ro 2 (eds done)] (bv true) := by
 have hrl := readyL_length l done
 have hmis : (missL l done).length ≤ 420 := miss_length _ _
 have hrn := readyL_nodup l done
 refine Does.of (nt := 148) (ac := a4) (rds := a4R) c4 (fun c hc => ?_)
 unfold a4
 apply J.seq
 refine J.regE (by simp [eNs, eN, eNs_length, eI]; rfl) ?_
 simp
 apply J.seq
 apply J.reg
 refine runL_tree rfl (d9) (by simp) hc ?_
 simp
 refine runL_step rfl (by simp [eNs, eN, eNs_length, eI]; rfl) ?_
 simp [runL]
 apply J.seq
 apply J.reg
 refine runL_step rfl (by simp [eNs, eN, eNs_length, eI]; rfl) ?_
 refine runL_tree rfl (by simpa [eNs] using d10 l) (by simp) hc ?_
 simp
 refine runL_step rfl (by simp [eNs, eN, eNs_length, eI]; rfl) ?_
 simp [runL]
 apply J.seq
 apply J.seq
 apply J.reg
 iterate 7 refine runL_step rfl (by simp [eNs, eN, eNs_length, eI]; rfl) ?_
 refine runL_if rfl (fun g25 => ?_) (fun g25 => ?_)
 ·
  try simp only [g25]
  try simp at g25
  iterate 4 refine runL_step rfl (by simp [eNs, eN, eNs_length, eI]; rfl) ?_
  simp [runL]
  refine J.condB rfl (fun h29 => ?_) (fun h29 => ?_)
  ·
   skip
   apply J.seq
   refine J.regE (by simp [eNs, eN, eNs_length, eI]; rfl) ?_
   simp
   apply J.ret
   refine ⟨by simp, rfl, _, [], by simp [a4R]; rfl, ?_⟩
   simp
  ·
   try simp at h29
   have hfe : fewN l = true := by simpa using g25
   obtain ⟨hl, hd⟩ := few_le hfe
   obtain ⟨hl30, h7⟩ := few_spec hfe
   have hdn : done.length < 1000000 := by omega
   have h12 := d12 l done hl hdn hd
   have h14 := d14 l done hl hdn hd
   apply J.skip; simp
   apply J.seq
   apply J.reg
   iterate 2 refine runL_step rfl (by simp [eNs, eN, eNs_length, eI]; rfl) ?_
   refine runL_tree rfl (by simpa [eNs] using h12) (by simp) hc ?_
   simp
   refine runL_step rfl (by simp [eNs, eN, eNs_length, eI]; rfl) ?_
   simp [runL]
   apply J.seq
   apply J.reg
   iterate 2 refine runL_step rfl (by simp [eNs, eN, eNs_length, eI]; rfl) ?_
   refine runL_tree rfl (by simpa [eNs] using h14) (by simp) hc ?_
   simp
   refine runL_step rfl (by simp [eNs, eN, eNs_length, eI]; rfl) ?_
   simp [runL]
   apply J.seq
   apply J.seq
   refine J.regE (by simp [eNs, eN, eNs_length, eI]; rfl) ?_
   simp
   apply J.block
   refine J.loop hc (I4 l done) ?_ ?_
   ·refine ⟨_, _, ?_, 0, by omega, rfl, List.Pairwise.nil, rfl⟩
    apply le_sub <;> simp [eNs, eN, s4]
   rintro n st ⟨i, hi, rfl, hdf, rfl⟩
   unfold s4
   apply J.seq
   apply J.seq
   refine J.regE (by simp [eNs, eN, eNs_length, eI]; rfl) ?_
   simp
   refine J.condB rfl (fun h40 => ?_) (fun h40 => ?_)
   ·
    try simp at h40
    have hi0 : i < l.length := by omega
    obtain ⟨y, hx, hgx, hg, hge, hdr, hw, hlt2, htk⟩ := getL (eN) (show i < l.length by omega) (by omega)
    apply J.skip; simp
    apply J.seq
    apply J.block
    apply J.seq
    refine J.regE (by simp [eNs, eN, eNs_length, eI]; rfl) ?_
    simp
    apply J.block
    refine J.loop hc (I4b l done i y) ?_ ?_
    ·refine ⟨_, _, ?_, 0, by omega, rfl, fun j _ h => by omega, rfl⟩
     apply le_sub <;> simp [eNs, eN, s4]
    rintro n st ⟨k, hk, rfl, hne, rfl⟩
    unfold s4
    apply J.seq
    apply J.seq
    refine J.regE (by simp [eNs, eN, eNs_length, eI]; rfl) ?_
    simp
    refine J.condB rfl (fun h45 => ?_) (fun h45 => ?_)
    ·
     try simp at h45
     have hk0 : k < l.length := by omega
     obtain ⟨b, hxk, hgxk, hgk, hgek, hdrk, hwk, hlt2k, htkk⟩ := getL (eN) (show k < l.length by omega) (by omega)
     apply J.skip; simp
     apply J.seq
     apply J.block
     apply J.seq
     apply J.draw; intro c' hc'
     iterate 11 refine runP_stepQ (by simp [eNs, eN, eNs_length, eI, hi0, hgx, hk0, hgxk]; rfl) ?_
     simp [runP]
     refine J.condB rfl (fun h58 => ?_) (fun h58 => ?_)
     ·
      skip
      apply J.seq
      refine J.regE (by simp [eNs, eN, eNs_length, eI]; rfl) ?_
      simp
      apply J.ret
      refine ⟨by simp, rfl, _, [], by simp [a4R]; rfl, ?_⟩
      simp
     ·
      have h58 : b.b = y.b → ¬ b.s = y.s := fun e1 e2 => by simp [e1, e2] at h58
      apply J.skip; simp
      refine J.regE (by simp [eNs, eN, eNs_length, eI, hwk]; rfl) ?_
      simp
      refine ⟨_, ?_, _, ?_, k + 1, ?_, rfl, ?_, rfl⟩
      ·omega
      ·apply le_sub <;> simp [eNs, eN, s4]
      ·omega
      ·intro j hj hjk
       by_cases e : j = k
       ·subst e; rw [hgxk]; intro e; injection e with e1 e2; exact h58 e1 e2
       ·exact hne j hj (by omega)
    ·
     try simp at h45
     obtain rfl : i = k := by omega
     have hdf2 := dif_step hdf hne htk
     apply J.exit; simp
     refine J.regE (by simp [eNs, eN, eNs_length, eI, hw]; rfl) ?_
     simp
     refine ⟨_, ?_, _, ?_, i + 1, ?_, rfl, hdf2, rfl⟩
     ·omega
     ·apply le_sub <;> simp [eNs, eN, s4]
     ·omega
   ·
    try simp at h40
    obtain rfl : i = l.length := by omega
    rw [List.take_length] at hdf
    apply J.exit; simp
    apply J.seq
    apply J.seq
    refine J.regE (by simp [eNs, eN, eNs_length, eI]; rfl) ?_
    simp
    apply J.block
    refine J.loop hc (I4c l done) ?_ ?_
    ·refine ⟨_, _, ?_, 0, by omega, rfl, rfl⟩
     apply le_sub <;> simp [eNs, eN, s4]
    rintro n st ⟨i, hi, rfl, rfl⟩
    unfold s4
    apply J.seq
    apply J.seq
    refine J.regE (by simp [eNs, eN, eNs_length, eI]; rfl) ?_
    simp
    refine J.condB rfl (fun h62 => ?_) (fun h62 => ?_)
    ·
     try simp at h62
     have hi0 : i < l.length := by omega
     obtain ⟨y, hx, hgx, hg, hge, hdr, hw, hlt2, htk⟩ := getL (eN) (show i < l.length by omega) (by omega)
     have hyl := List.mem_of_getElem? hx
     have hyd := hd y hyl
     apply J.skip; simp
     apply J.seq
     apply J.block
     apply J.seq
     apply J.reg
     iterate 6 refine runL_step rfl (by simp [eNs, eN, eNs_length, eI, hi0, hgx]; rfl) ?_
     refine runL_tree rfl (d18p (readyL l done) y.i (by omega)) (by simp) hc ?_
     simp
     refine runL_step rfl (by simp [eNs, eN, eNs_length, eI, hi0, hgx]; rfl) ?_
     simp [runL]
     apply J.seq
     apply J.seq
     refine J.regE (by simp [eNs, eN, eNs_length, eI]; rfl) ?_
     simp
     refine J.condB rfl (fun h73 => ?_) (fun h73 => ?_)
     ·
      skip
      apply J.exit; simp
      refine J.regE (by simp [eNs, eN, eNs_length, eI, hw]; rfl) ?_
      simp
      refine ⟨_, ?_, _, ?_, i + 1, ?_, rfl, rfl⟩
      ·omega
      ·apply le_sub <;> simp [eNs, eN, s4]
      ·omega
     ·
      try simp at h73
      have hyr : y.i ∈ readyL l done := Classical.byContradiction fun h => by have := plc_neg.2 h; omega
      obtain ⟨j, hj, hpj, hgj⟩ := plc_get hyr
      have hwj : IntKind.i64.wrap ((j : Int) + 1) = (j : Int) + 1 := wrap_id (by omega) (by omega)
      have hdn2 := ready_done hyr
      have hj1 : j + 1 ≤ (readyL l done).length := by omega
      have hj2 : (j : Int) + 1 ≤ ((readyL l done).length : Int) := by omega
      have hj3 : (0 : Int) ≤ (j : Int) + 1 := by omega
      have hneg : plc ((readyL l done).drop (j + 1)) y.i < 0 := by
       rw [plc_neg, ← hgj]
       intro hm
       obtain ⟨q, hq, e⟩ := List.mem_iff_getElem.1 hm
       rw [List.getElem_drop] at e
       have := (List.getElem_inj hrn).1 e
       omega
      rw [hpj]
      apply J.skip; simp
      apply J.seq
      apply J.reg
      iterate 6 refine runL_step rfl (by simp [eNs, eN, eNs_length, eI, hi0, hgx]; rfl) ?_
      refine runL_tree rfl (d19 done y.i hdn) (by simp) hc ?_
      simp
      refine runL_step rfl (by simp [eNs, eN, eNs_length, eI, hi0, hgx]; rfl) ?_
      simp [runL]
      simp only [hdn2, decide_false]
      apply J.seq
      apply J.seq
      apply J.draw; intro c' hc'
      iterate 11 refine runP_stepQ (by simp [eNs, eN, eNs_length, eI, hi0, hgx, hwj, hj1, hj2, hj3]; rfl) ?_
      refine runP_do (by simp) ?_
      refine runP_tree rfl (d18p ((readyL l done).drop (j + 1)) y.i (by simp; omega)) (by simp [eI, Node.i]) rfl ?_
      simp
      iterate 2 refine runP_stepQ (by simp [eNs, eN, eNs_length, eI, hi0, hgx, hwj, hj1, hj2, hj3]; rfl) ?_
      simp [runP]
      refine J.condB rfl (fun h94 => ?_) (fun h94 => ?_)
      ·
       exfalso
       try simp at h94
       omega
      ·
       skip
       apply J.skip; simp
       apply J.seq
       apply J.seq
       refine J.regE (by simp [eNs, eN, eNs_length, eI]; rfl) ?_
       simp
       apply J.block
       refine J.loop hc (I4d l done i) ?_ ?_
       ·refine ⟨_, _, ?_, 0, by omega, rfl, rfl⟩
        apply le_sub <;> simp [eNs, eN, s4]
       rintro n st ⟨k, hk, rfl, rfl⟩
       unfold s4
       apply J.seq
       apply J.seq
       refine J.regE (by simp [eNs, eN, eNs_length, eI]; rfl) ?_
       simp
       refine J.condB rfl (fun h98 => ?_) (fun h98 => ?_)
       ·
        try simp at h98
        have hk0 : k < (missL l done).length := by omega
        obtain ⟨x, hxk, hgxk, hgk, hgek, hdrk, hwk, hlt2k, htkk⟩ := getL (eI) (show k < (missL l done).length by omega) (by omega)
        have hwx := ready_miss hdf hyl hyr (List.mem_of_getElem? hxk)
        apply J.skip; simp
        apply J.seq
        apply J.block
        apply J.seq
        apply J.draw; intro c' hc'
        iterate 9 refine runP_stepQ (by simp [eNs, eN, eNs_length, eI, hi0, hgx, hk0, hgxk]; rfl) ?_
        refine runP_tree rfl (by have h := d20 y.q y.d x hyd; rw [hwx] at h; exact h) (by simp) rfl ?_
        simp
        simp [runP]
        apply J.cond; simp [eNs, eN, eNs_length, eI]
        apply J.skip; simp
        refine J.regE (by simp [eNs, eN, eNs_length, eI, hwk]; rfl) ?_
        simp
        refine ⟨_, ?_, _, ?_, k + 1, ?_, rfl, rfl⟩
        ·omega
        ·apply le_sub <;> simp [eNs, eN, s4]
        ·omega
       ·
        skip
        apply J.exit; simp
        apply J.seq
        refine J.regE (by simp [eNs, eN, eNs_length, eI]; rfl) ?_
        simp
        apply J.block
        refine J.loop hc (I4e l done i) ?_ ?_
        ·refine ⟨_, _, ?_, 0, by omega, rfl, rfl⟩
         apply le_sub <;> simp [eNs, eN, s4]
        rintro n st ⟨k, hk, rfl, rfl⟩
        unfold s4
        apply J.seq
        apply J.seq
        refine J.regE (by simp [eNs, eN, eNs_length, eI]; rfl) ?_
        simp
        refine J.condB rfl (fun h114 => ?_) (fun h114 => ?_)
        ·
         try simp at h114
         have hk0 : k < l.length := by omega
         obtain ⟨z, hxk, hgxk, hgk, hgek, hdrk, hwk, hlt2k, htkk⟩ := getL (eN) (show k < l.length by omega) (by omega)
         apply J.skip; simp
         apply J.seq
         apply J.block
         apply J.seq
         apply J.draw; intro c' hc'
         iterate 10 refine runP_stepQ (by simp [eNs, eN, eNs_length, eI, hi0, hgx, hk0, hgxk]; rfl) ?_
         refine runP_tree rfl (d20 y.q y.d z.i hyd) (by simp) rfl ?_
         simp
         refine runP_stepQ (by simp [eNs, eN, eNs_length, eI, hi0, hgx, hk0, hgxk]; rfl) ?_
         refine runP_if rfl (fun g128 => ?_) (fun g128 => ?_)
         ·
          try simp only [g128]
          try simp at g128
          iterate 6 refine runP_stepQ (by simp [eNs, eN, eNs_length, eI, hi0, hgx, hk0, hgxk]; rfl) ?_
          refine runP_do (by simp) ?_
          refine runP_tree rfl (d18p done z.i hdn) (by simp) rfl ?_
          simp
          iterate 3 refine runP_stepQ (by simp [eNs, eN, eNs_length, eI, hi0, hgx, hk0, hgxk]; rfl) ?_
          refine runP_if rfl (fun g138 => ?_) (fun g138 => ?_)
          ·
           try simp only [g138]
           try simp at g138
           iterate 6 refine runP_stepQ (by simp [eNs, eN, eNs_length, eI, hi0, hgx, hk0, hgxk]; rfl) ?_
           refine runP_do (by simp) ?_
           refine runP_tree rfl (d18p (readyL l done) z.i (by omega)) (by simp) rfl ?_
           simp
           iterate 2 refine runP_stepQ (by simp [eNs, eN, eNs_length, eI, hi0, hgx, hk0, hgxk]; rfl) ?_
           simp [runP]
           refine J.condB rfl (fun h147 => ?_) (fun h147 => ?_)
           ·
            exfalso
            try simp at h147
            simp only [plc_neg] at h147 g138
            exact h147 (ready_dep h7 hdf hyl hyr g128 g138)
           ·
            skip
            apply J.skip; simp
            refine J.regE (by simp [eNs, eN, eNs_length, eI, hwk]; rfl) ?_
            simp
            refine ⟨_, ?_, _, ?_, k + 1, ?_, rfl, rfl⟩
            ·omega
            ·apply le_sub <;> simp [eNs, eN, s4]
            ·omega
          ·
           try simp only [g138]
           try simp at g138
           iterate 5 refine runP_stepQ (by simp [eNs, eN, eNs_length, eI, hi0, hgx, hk0, hgxk]; rfl) ?_
           refine runP_skip (b := false) (by simp) (by simp) ?_
           simp
           iterate 2 refine runP_stepQ (by simp [eNs, eN, eNs_length, eI, hi0, hgx, hk0, hgxk]; rfl) ?_
           simp [runP]
           apply J.cond; simp [eNs, eN, eNs_length, eI]
           apply J.skip; simp
           refine J.regE (by simp [eNs, eN, eNs_length, eI, hwk]; rfl) ?_
           simp
           refine ⟨_, ?_, _, ?_, k + 1, ?_, rfl, rfl⟩
           ·omega
           ·apply le_sub <;> simp [eNs, eN, s4]
           ·omega
         ·
          try simp only [g128]
          try simp at g128
          iterate 5 refine runP_stepQ (by simp [eNs, eN, eNs_length, eI, hi0, hgx, hk0, hgxk]; rfl) ?_
          refine runP_skip (b := false) (by simp) (by simp) ?_
          simp
          iterate 9 refine runP_stepQ (by simp [eNs, eN, eNs_length, eI, hi0, hgx, hk0, hgxk]; rfl) ?_
          refine runP_skip (b := false) (by simp) (by simp) ?_
          simp
          iterate 2 refine runP_stepQ (by simp [eNs, eN, eNs_length, eI, hi0, hgx, hk0, hgxk]; rfl) ?_
          simp [runP]
          apply J.cond; simp [eNs, eN, eNs_length, eI]
          apply J.skip; simp
          refine J.regE (by simp [eNs, eN, eNs_length, eI, hwk]; rfl) ?_
          simp
          refine ⟨_, ?_, _, ?_, k + 1, ?_, rfl, rfl⟩
          ·omega
          ·apply le_sub <;> simp [eNs, eN, s4]
          ·omega
        ·
         skip
         apply J.exit; simp
         refine J.regE (by simp [eNs, eN, eNs_length, eI, hw]; rfl) ?_
         simp
         refine ⟨_, ?_, _, ?_, i + 1, ?_, rfl, rfl⟩
         ·omega
         ·apply le_sub <;> simp [eNs, eN, s4]
         ·omega
    ·
     try simp at h62
     obtain rfl : i = l.length := by omega
     apply J.exit; simp
     apply J.seq
     refine J.regE (by simp [eNs, eN, eNs_length, eI]; rfl) ?_
     simp
     apply J.ret
     refine ⟨by simp, rfl, _, [], by simp [a4R]; rfl, ?_⟩
     simp
 ·
  try simp only [g25]
  try simp at g25
  iterate 3 refine runL_step rfl (by simp [eNs, eN, eNs_length, eI]; rfl) ?_
  simp [runL]
  apply J.cond; simp [eNs, eN, eNs_length, eI]
  apply J.seq
  refine J.regE (by simp [eNs, eN, eNs_length, eI]; rfl) ?_
  simp
  apply J.ret
  refine ⟨by simp, rfl, _, [], by simp [a4R]; rfl, ?_⟩
  simp
end Go.Proofs.Ytdekelhmneeniaa.F
namespace Go.Proofs.Ytdekelhmneeniaa.F
open Go Go.SX
theorem miss_up (l : List Node) (done : List (Int × Int)) : (missL l done).Pairwise fun x y => places x y < 0 := slots_up.filter _
theorem miss_spec {l : List Node} {done : List (Int × Int)} {x : Int × Int} (h : x ∈ missL l done) : x ∉ done ∧ x ∉ readyL l done ∧ (l.any fun n => waits n.d x) = true := by
 obtain ⟨h1, ⟨n, hn, hw⟩, h2, h3⟩ := mem_miss.1 h
 refine ⟨h3, fun hr => ?_, List.any_eq_true.2 ⟨n, (mem_cnt hn).1, hw⟩⟩
 obtain ⟨m, hm, rfl⟩ := mem_ready.1 hr
 exact h2 (insL_mem (mem_rdy hm))
theorem cnt_one {y : Node} {done : List (Int × Int)} (h : (cnt [y] done).length = 1) : near y = true ∧ y.i ∉ done := by
 obtain ⟨n, hn⟩ : ∃ n, n ∈ cnt [y] done := by
  cases e : cnt [y] done with
  | nil => rw [e] at h; simp at h
  | cons a r => exact ⟨a, by simp⟩
 obtain ⟨h1, h2, h3, _⟩ := mem_cnt hn
 simp at h1; subst h1
 exact ⟨h2, h3⟩
theorem ready_none {l : List Node} {done : List (Int × Int)} (hl : l.length ≤ 100) (hm : missL l done = []) {y : Node} (hy : y ∈ l) (hn : near y = true) (hd : y.i ∉ done) : y.i ∈ readyL l done := by
 cases hf : l.find? (fun m => decide (m.i = y.i) && near m) with
 | none =>
  rw [List.find?_eq_none] at hf
  have := hf y hy
  simp [hn] at this
 | some q =>
  have h1 := List.find?_some hf
  simp only [Bool.and_eq_true, decide_eq_true_eq] at h1
  have hq : q ∈ cnt l done := mem_cnt_iff.2 ⟨by rw [List.take_of_length_le hl, h1.1]; exact hf, by rw [h1.1]; exact hd⟩
  obtain ⟨z, ms, r, N, rfl, rfl, rfl, -, -, -, -, -, -, hr, -⟩ := ready_all l done
  refine mem_ready.2 ⟨q, (hr q).2 ⟨hq, fun x _ => ?_⟩, h1.1⟩
  rw [show miss (cnt l done) done = [] from hm]; rfl
noncomputable def s6 (l : List Node) (done : List (Int × Int)) (s : Slots) : St := ⟨(0, .ro 4 (eNs l)) :: (1, .ro 2 (eds done)) :: (8, .ro 2 (eds (readyL l done))) :: s, [], []⟩
def I6 (l : List Node) (done : List (Int × Int)) (m : Nat) (st : St) : Prop := ∃ k : Nat, k ≤ (missL l done).length ∧ m = (missL l done).length - k ∧ st = s6 l done [(7, .ro 2 (eds (missL l done))), (9, iv k)]
def I6b (l : List Node) (done : List (Int × Int)) (k : Nat) (x : Int × Int) (m : Nat) (st : St) : Prop := ∃ (i : Nat) (w : Bool), i ≤ l.length ∧ m = l.length - i ∧ (l.any fun n => waits n.d x) = (w || (l.drop i).any fun n => waits n.d x) ∧ st = s6 l done [(7, .ro 2 (eds (missL l done))), (9, iv k), (10, bv w), (11, iv i)]
def I6c (l : List Node) (done : List (Int × Int)) (m : Nat) (st : St) : Prop := ∃ i : Nat, i ≤ l.length ∧ m = l.length - i ∧ st = s6 l done [(12, iv i)]
theorem c6 : chkFn Try.prog 6 153 2 a6 a6R = true := by kernel_rfl
set_option maxHeartbeats 4000000 in
theorem d6 (l : List Node) (done : List (Int × Int)) : DoesT 6 [.ro 4 (eNs l), .ro 2 (eds done)] (bv true) := by
 have hrl := readyL_length l done
 have hmis : (missL l done).length ≤ 420 := miss_length _ _
 have hmu := miss_up l done
 refine Does.of (nt := 153) (ac := a6) (rds := a6R) c6 (fun c hc => ?_)
 unfold a6
 apply J.seq
 refine J.regE (by simp [eNs, eN, eNs_length, eI]; rfl) ?_
 simp
 apply J.seq
 apply J.reg
 refine runL_tree rfl (d9) (by simp) hc ?_
 simp
 refine runL_step rfl (by simp [eNs, eN, eNs_length, eI]; rfl) ?_
 simp [runL]
 apply J.seq
 apply J.reg
 refine runL_step rfl (by simp [eNs, eN, eNs_length, eI]; rfl) ?_
 refine runL_tree rfl (by simpa [eNs] using d10 l) (by simp) hc ?_
 simp
 refine runL_step rfl (by simp [eNs, eN, eNs_length, eI]; rfl) ?_
 simp [runL]
 apply J.seq
 apply J.seq
 apply J.reg
 iterate 7 refine runL_step rfl (by simp [eNs, eN, eNs_length, eI]; rfl) ?_
 refine runL_if rfl (fun g23 => ?_) (fun g23 => ?_)
 ·
  try simp only [g23]
  try simp at g23
  iterate 4 refine runL_step rfl (by simp [eNs, eN, eNs_length, eI]; rfl) ?_
  simp [runL]
  refine J.condB rfl (fun h27 => ?_) (fun h27 => ?_)
  ·
   skip
   apply J.seq
   refine J.regE (by simp [eNs, eN, eNs_length, eI]; rfl) ?_
   simp
   apply J.ret
   refine ⟨by simp, rfl, _, [], by simp [a6R]; rfl, ?_⟩
   simp
  ·
   try simp at h27
   have hfe : fewN l = true := by simpa using g23
   obtain ⟨hl, hd⟩ := few_le hfe
   obtain ⟨hl30, h7⟩ := few_spec hfe
   have hdn : done.length < 1000000 := by omega
   have h12 := d12 l done hl hdn hd
   have h14 := d14 l done hl hdn hd
   apply J.skip; simp
   apply J.seq
   apply J.reg
   iterate 2 refine runL_step rfl (by simp [eNs, eN, eNs_length, eI]; rfl) ?_
   refine runL_tree rfl (by simpa [eNs] using h14) (by simp) hc ?_
   simp
   refine runL_step rfl (by simp [eNs, eN, eNs_length, eI]; rfl) ?_
   simp [runL]
   apply J.seq
   apply J.reg
   iterate 2 refine runL_step rfl (by simp [eNs, eN, eNs_length, eI]; rfl) ?_
   refine runL_tree rfl (by simpa [eNs] using h12) (by simp) hc ?_
   simp
   refine runL_step rfl (by simp [eNs, eN, eNs_length, eI]; rfl) ?_
   simp [runL]
   apply J.seq
   apply J.seq
   refine J.regE (by simp [eNs, eN, eNs_length, eI]; rfl) ?_
   simp
   apply J.block
   refine J.loop hc (I6 l done) ?_ ?_
   ·refine ⟨_, _, ?_, 0, by omega, rfl, rfl⟩
    apply le_sub <;> simp [eNs, eN, s6]
   rintro n st ⟨k, hk, rfl, rfl⟩
   unfold s6
   apply J.seq
   apply J.seq
   refine J.regE (by simp [eNs, eN, eNs_length, eI]; rfl) ?_
   simp
   refine J.condB rfl (fun h38 => ?_) (fun h38 => ?_)
   ·
    try simp at h38
    have hk0 : k < (missL l done).length := by omega
    obtain ⟨x, hxk, hgxk, hgk, hgek, hdrk, hwk, hlt2k, htkk⟩ := getL (eI) (show k < (missL l done).length by omega) (by omega)
    obtain ⟨hx1, hx2, hx3⟩ := miss_spec (List.mem_of_getElem? hxk)
    have hp1 : ¬ 0 ≤ plc done x := by have := plc_neg.2 hx1; omega
    have hp2 : ¬ 0 ≤ plc (readyL l done) x := by have := plc_neg.2 hx2; omega
    apply J.skip; simp
    apply J.seq
    apply J.block
    apply J.seq
    apply J.seq
    apply J.draw; intro c' hc'
    iterate 5 refine runP_stepQ (by simp [eNs, eN, eNs_length, eI, hk0, hgxk, hp1, hp2]; rfl) ?_
    refine runP_tree rfl (d18p done x hdn) (by simp) rfl ?_
    simp
    iterate 7 refine runP_stepQ (by simp [eNs, eN, eNs_length, eI, hk0, hgxk, hp1, hp2]; rfl) ?_
    refine runP_do (by simp) ?_
    refine runP_tree rfl (d18p (readyL l done) x (by omega)) (by simp) rfl ?_
    simp
    iterate 6 refine runP_stepQ (by simp [eNs, eN, eNs_length, eI, hk0, hgxk, hp1, hp2]; rfl) ?_
    refine runP_if rfl (fun g60 => ?_) (fun g60 => ?_)
    ·
     try simp only [g60]
     try simp at g60
     obtain ⟨q, hkq⟩ : ∃ q, k = q + 1 := ⟨k - 1, by omega⟩
     have hq0 : q < (missL l done).length := by omega
     obtain ⟨v, hv⟩ : ∃ v, (missL l done)[q] = v := ⟨_, rfl⟩
     have hgv : ∀ h, (missL l done)[q]'h = v := fun _ => hv
     have hup := List.pairwise_iff_getElem.1 hmu q k hq0 hk0 (by omega)
     rw [hv, hgxk hk0, places_neg] at hup
     have hwq : IntKind.i64.wrap ((k : Int) - 1) = (q : Int) := by rw [show (k : Int) - 1 = (q : Int) by omega]; exact wrap_id (by omega) (by omega)
     try (exfalso; omega)
     all_goals
      iterate 13 refine runP_stepQ (by simp [eNs, eN, eNs_length, eI, hk0, hgxk, hp1, hp2, hwq, hq0, hgv]; rfl) ?_
      refine runP_if rfl (fun g73 => ?_) (fun g73 => ?_)
      ·
       try simp only [g73]
       try simp at g73
       try (exfalso; omega)
       all_goals
        iterate 13 refine runP_stepQ (by simp [eNs, eN, eNs_length, eI, hk0, hgxk, hp1, hp2, hwq, hq0, hgv]; rfl) ?_
        refine runP_if rfl (fun g86 => ?_) (fun g86 => ?_)
        ·
         try simp only [g86]
         try simp at g86
         try (exfalso; omega)
         all_goals
          iterate 16 refine runP_stepQ (by simp [eNs, eN, eNs_length, eI, hk0, hgxk, hp1, hp2, hwq, hq0, hgv]; rfl) ?_
          simp [runP]
          refine J.condB rfl (fun h102 => ?_) (fun h102 => ?_)
          ·
           exfalso
           try simp at h102
           omega
          ·
           skip
           apply J.skip; simp
           apply J.seq
           refine J.regE (by simp [eNs, eN, eNs_length, eI]; rfl) ?_
           simp
           apply J.seq
           apply J.seq
           refine J.regE (by simp [eNs, eN, eNs_length, eI]; rfl) ?_
           simp
           apply J.block
           refine J.loop hc (I6b l done k x) ?_ ?_
           ·refine ⟨_, _, ?_, 0, false, by omega, rfl, by simp, rfl⟩
            apply le_sub <;> simp [eNs, eN, s6]
           rintro n st ⟨i, w, hi, rfl, hA, rfl⟩
           unfold s6
           apply J.seq
           apply J.seq
           refine J.regE (by simp [eNs, eN, eNs_length, eI]; rfl) ?_
           simp
           refine J.condB rfl (fun h106 => ?_) (fun h106 => ?_)
           ·
            try simp at h106
            have hi0 : i < l.length := by omega
            obtain ⟨y, hx, hgx, hg, hge, hdr, hw, hlt2, htk⟩ := getL (eN) (show i < l.length by omega) (by omega)
            rw [hdr, List.any_cons, ← Bool.or_assoc] at hA
            have hmy := hd _ (List.mem_of_getElem? hx)
            apply J.skip; simp
            apply J.seq
            apply J.block
            apply J.draw; intro c' hc'
            iterate 2 refine runP_stepQ (by simp [eNs, eN, eNs_length, eI, hi0, hgx, hk0, hgxk]; rfl) ?_
            refine runP_if rfl (fun g110 => ?_) (fun g110 => ?_)
            ·
             try simp only [g110]
             try simp at g110
             try simp at g110
             have hA2 := hA
             rw [g110, Bool.false_or] at hA2
             iterate 9 refine runP_stepQ (by simp [eNs, eN, eNs_length, eI, hi0, hgx, hk0, hgxk]; rfl) ?_
             refine runP_do (by simp) ?_
             refine runP_tree rfl (d20 y.q y.d x hmy) (by simp [eI]) rfl ?_
             simp
             iterate 2 refine runP_stepQ (by simp [eNs, eN, eNs_length, eI, hi0, hgx, hk0, hgxk]; rfl) ?_
             simp [runP]
             refine J.regE (by simp [eNs, eN, eNs_length, eI, hw]; rfl) ?_
             simp
             refine ⟨_, ?_, _, ?_, i + 1, _, ?_, rfl, hA2, rfl⟩
             ·omega
             ·apply le_sub <;> simp [eNs, eN, s6]
             ·omega
            ·
             try simp only [g110]
             try simp at g110
             try simp at g110
             have hA2 := hA
             rw [g110, Bool.true_or] at hA2
             iterate 8 refine runP_stepQ (by simp [eNs, eN, eNs_length, eI, hi0, hgx, hk0, hgxk]; rfl) ?_
             refine runP_skip (b := true) (by simp) (by simp) ?_
             simp
             iterate 2 refine runP_stepQ (by simp [eNs, eN, eNs_length, eI, hi0, hgx, hk0, hgxk]; rfl) ?_
             simp [runP]
             refine J.regE (by simp [eNs, eN, eNs_length, eI, hw]; rfl) ?_
             simp
             refine ⟨_, ?_, _, ?_, i + 1, _, ?_, rfl, hA2, rfl⟩
             ·omega
             ·apply le_sub <;> simp [eNs, eN, s6]
             ·omega
           ·
            try simp at h106
            obtain rfl : i = l.length := by omega
            rw [List.drop_length] at hA
            simp only [List.any_nil, Bool.or_false] at hA
            rw [hx3] at hA
            subst hA
            apply J.exit; simp
            apply J.seq
            refine J.regE (by simp [eNs, eN, eNs_length, eI]; rfl) ?_
            simp
            apply J.cond; simp [eNs, eN, eNs_length, eI]
            apply J.skip; simp
            refine J.regE (by simp [eNs, eN, eNs_length, eI, hwk]; rfl) ?_
            simp
            refine ⟨_, ?_, _, ?_, k + 1, ?_, rfl, rfl⟩
            ·omega
            ·apply le_sub <;> simp [eNs, eN, s6]
            ·omega
        ·
         try simp only [g86]
         try simp at g86
         try (exfalso; omega)
         all_goals
          iterate 15 refine runP_stepQ (by simp [eNs, eN, eNs_length, eI, hk0, hgxk, hp1, hp2, hwq, hq0, hgv]; rfl) ?_
          simp [runP]
          apply J.cond; simp [eNs, eN, eNs_length, eI]
          apply J.skip; simp
          apply J.seq
          refine J.regE (by simp [eNs, eN, eNs_length, eI]; rfl) ?_
          simp
          apply J.seq
          apply J.seq
          refine J.regE (by simp [eNs, eN, eNs_length, eI]; rfl) ?_
          simp
          apply J.block
          refine J.loop hc (I6b l done k x) ?_ ?_
          ·refine ⟨_, _, ?_, 0, false, by omega, rfl, by simp, rfl⟩
           apply le_sub <;> simp [eNs, eN, s6]
          rintro n st ⟨i, w, hi, rfl, hA, rfl⟩
          unfold s6
          apply J.seq
          apply J.seq
          refine J.regE (by simp [eNs, eN, eNs_length, eI]; rfl) ?_
          simp
          refine J.condB rfl (fun h106 => ?_) (fun h106 => ?_)
          ·
           try simp at h106
           have hi0 : i < l.length := by omega
           obtain ⟨y, hx, hgx, hg, hge, hdr, hw, hlt2, htk⟩ := getL (eN) (show i < l.length by omega) (by omega)
           rw [hdr, List.any_cons, ← Bool.or_assoc] at hA
           have hmy := hd _ (List.mem_of_getElem? hx)
           apply J.skip; simp
           apply J.seq
           apply J.block
           apply J.draw; intro c' hc'
           iterate 2 refine runP_stepQ (by simp [eNs, eN, eNs_length, eI, hi0, hgx, hk0, hgxk]; rfl) ?_
           refine runP_if rfl (fun g110 => ?_) (fun g110 => ?_)
           ·
            try simp only [g110]
            try simp at g110
            try simp at g110
            have hA2 := hA
            rw [g110, Bool.false_or] at hA2
            iterate 9 refine runP_stepQ (by simp [eNs, eN, eNs_length, eI, hi0, hgx, hk0, hgxk]; rfl) ?_
            refine runP_do (by simp) ?_
            refine runP_tree rfl (d20 y.q y.d x hmy) (by simp [eI]) rfl ?_
            simp
            iterate 2 refine runP_stepQ (by simp [eNs, eN, eNs_length, eI, hi0, hgx, hk0, hgxk]; rfl) ?_
            simp [runP]
            refine J.regE (by simp [eNs, eN, eNs_length, eI, hw]; rfl) ?_
            simp
            refine ⟨_, ?_, _, ?_, i + 1, _, ?_, rfl, hA2, rfl⟩
            ·omega
            ·apply le_sub <;> simp [eNs, eN, s6]
            ·omega
           ·
            try simp only [g110]
            try simp at g110
            try simp at g110
            have hA2 := hA
            rw [g110, Bool.true_or] at hA2
            iterate 8 refine runP_stepQ (by simp [eNs, eN, eNs_length, eI, hi0, hgx, hk0, hgxk]; rfl) ?_
            refine runP_skip (b := true) (by simp) (by simp) ?_
            simp
            iterate 2 refine runP_stepQ (by simp [eNs, eN, eNs_length, eI, hi0, hgx, hk0, hgxk]; rfl) ?_
            simp [runP]
            refine J.regE (by simp [eNs, eN, eNs_length, eI, hw]; rfl) ?_
            simp
            refine ⟨_, ?_, _, ?_, i + 1, _, ?_, rfl, hA2, rfl⟩
            ·omega
            ·apply le_sub <;> simp [eNs, eN, s6]
            ·omega
          ·
           try simp at h106
           obtain rfl : i = l.length := by omega
           rw [List.drop_length] at hA
           simp only [List.any_nil, Bool.or_false] at hA
           rw [hx3] at hA
           subst hA
           apply J.exit; simp
           apply J.seq
           refine J.regE (by simp [eNs, eN, eNs_length, eI]; rfl) ?_
           simp
           apply J.cond; simp [eNs, eN, eNs_length, eI]
           apply J.skip; simp
           refine J.regE (by simp [eNs, eN, eNs_length, eI, hwk]; rfl) ?_
           simp
           refine ⟨_, ?_, _, ?_, k + 1, ?_, rfl, rfl⟩
           ·omega
           ·apply le_sub <;> simp [eNs, eN, s6]
           ·omega
      ·
       try simp only [g73]
       try simp at g73
       try (exfalso; omega)
       all_goals
        iterate 28 refine runP_stepQ (by simp [eNs, eN, eNs_length, eI, hk0, hgxk, hp1, hp2, hwq, hq0, hgv]; rfl) ?_
        simp [runP]
        apply J.cond; simp [eNs, eN, eNs_length, eI]
        apply J.seq
        refine J.regE (by simp [eNs, eN, eNs_length, eI]; rfl) ?_
        simp
        apply J.ret
        refine ⟨by simp, rfl, _, [], by simp [a6R]; rfl, ?_⟩
        simp
    ·
     try simp only [g60]
     try simp at g60
     try (exfalso; omega)
     all_goals
      iterate 41 refine runP_stepQ (by simp [eNs, eN, eNs_length, eI, hk0, hgxk, hp1, hp2]; rfl) ?_
      simp [runP]
      apply J.cond; simp [eNs, eN, eNs_length, eI]
      apply J.skip; simp
      apply J.seq
      refine J.regE (by simp [eNs, eN, eNs_length, eI]; rfl) ?_
      simp
      apply J.seq
      apply J.seq
      refine J.regE (by simp [eNs, eN, eNs_length, eI]; rfl) ?_
      simp
      apply J.block
      refine J.loop hc (I6b l done k x) ?_ ?_
      ·refine ⟨_, _, ?_, 0, false, by omega, rfl, by simp, rfl⟩
       apply le_sub <;> simp [eNs, eN, s6]
      rintro n st ⟨i, w, hi, rfl, hA, rfl⟩
      unfold s6
      apply J.seq
      apply J.seq
      refine J.regE (by simp [eNs, eN, eNs_length, eI]; rfl) ?_
      simp
      refine J.condB rfl (fun h106 => ?_) (fun h106 => ?_)
      ·
       try simp at h106
       have hi0 : i < l.length := by omega
       obtain ⟨y, hx, hgx, hg, hge, hdr, hw, hlt2, htk⟩ := getL (eN) (show i < l.length by omega) (by omega)
       rw [hdr, List.any_cons, ← Bool.or_assoc] at hA
       have hmy := hd _ (List.mem_of_getElem? hx)
       apply J.skip; simp
       apply J.seq
       apply J.block
       apply J.draw; intro c' hc'
       iterate 2 refine runP_stepQ (by simp [eNs, eN, eNs_length, eI, hi0, hgx, hk0, hgxk]; rfl) ?_
       refine runP_if rfl (fun g110 => ?_) (fun g110 => ?_)
       ·
        try simp only [g110]
        try simp at g110
        try simp at g110
        have hA2 := hA
        rw [g110, Bool.false_or] at hA2
        iterate 9 refine runP_stepQ (by simp [eNs, eN, eNs_length, eI, hi0, hgx, hk0, hgxk]; rfl) ?_
        refine runP_do (by simp) ?_
        refine runP_tree rfl (d20 y.q y.d x hmy) (by simp [eI]) rfl ?_
        simp
        iterate 2 refine runP_stepQ (by simp [eNs, eN, eNs_length, eI, hi0, hgx, hk0, hgxk]; rfl) ?_
        simp [runP]
        refine J.regE (by simp [eNs, eN, eNs_length, eI, hw]; rfl) ?_
        simp
        refine ⟨_, ?_, _, ?_, i + 1, _, ?_, rfl, hA2, rfl⟩
        ·omega
        ·apply le_sub <;> simp [eNs, eN, s6]
        ·omega
       ·
        try simp only [g110]
        try simp at g110
        try simp at g110
        have hA2 := hA
        rw [g110, Bool.true_or] at hA2
        iterate 8 refine runP_stepQ (by simp [eNs, eN, eNs_length, eI, hi0, hgx, hk0, hgxk]; rfl) ?_
        refine runP_skip (b := true) (by simp) (by simp) ?_
        simp
        iterate 2 refine runP_stepQ (by simp [eNs, eN, eNs_length, eI, hi0, hgx, hk0, hgxk]; rfl) ?_
        simp [runP]
        refine J.regE (by simp [eNs, eN, eNs_length, eI, hw]; rfl) ?_
        simp
        refine ⟨_, ?_, _, ?_, i + 1, _, ?_, rfl, hA2, rfl⟩
        ·omega
        ·apply le_sub <;> simp [eNs, eN, s6]
        ·omega
      ·
       try simp at h106
       obtain rfl : i = l.length := by omega
       rw [List.drop_length] at hA
       simp only [List.any_nil, Bool.or_false] at hA
       rw [hx3] at hA
       subst hA
       apply J.exit; simp
       apply J.seq
       refine J.regE (by simp [eNs, eN, eNs_length, eI]; rfl) ?_
       simp
       apply J.cond; simp [eNs, eN, eNs_length, eI]
       apply J.skip; simp
       refine J.regE (by simp [eNs, eN, eNs_length, eI, hwk]; rfl) ?_
       simp
       refine ⟨_, ?_, _, ?_, k + 1, ?_, rfl, rfl⟩
       ·omega
       ·apply le_sub <;> simp [eNs, eN, s6]
       ·omega
   ·
    skip
    apply J.exit; simp
    apply J.seq
    apply J.seq
    refine J.regE (by simp [eNs, eN, eNs_length, eI]; rfl) ?_
    simp
    refine J.condB rfl (fun h126 => ?_) (fun h126 => ?_)
    ·
     skip
     apply J.seq
     refine J.regE (by simp [eNs, eN, eNs_length, eI]; rfl) ?_
     simp
     apply J.ret
     refine ⟨by simp, rfl, _, [], by simp [a6R]; rfl, ?_⟩
     simp
    ·
     try simp at h126
     have hmn : missL l done = [] := by first | exact List.eq_nil_of_length_eq_zero (by omega) | simpa using h126
     apply J.skip; simp
     apply J.seq
     apply J.seq
     refine J.regE (by simp [eNs, eN, eNs_length, eI]; rfl) ?_
     simp
     apply J.block
     refine J.loop hc (I6c l done) ?_ ?_
     ·refine ⟨_, _, ?_, 0, by omega, rfl, rfl⟩
      apply le_sub <;> simp [eNs, eN, s6]
     rintro n st ⟨i, hi, rfl, rfl⟩
     unfold s6
     apply J.seq
     apply J.seq
     refine J.regE (by simp [eNs, eN, eNs_length, eI]; rfl) ?_
     simp
     refine J.condB rfl (fun h130 => ?_) (fun h130 => ?_)
     ·
      try simp at h130
      have hi0 : i < l.length := by omega
      obtain ⟨y, hx, hgx, hg, hge, hdr, hw, hlt2, htk⟩ := getL (eN) (show i < l.length by omega) (by omega)
      have hyl := List.mem_of_getElem? hx
      have h21 := d21 [y] done (by simp) hdn (fun n hn => by simp at hn; subst hn; exact hd _ hyl)
      have hi4 : (0 : Int) ≤ (i : Int) + 1 := by omega
      have hi6 : (i : Int) ≤ (i : Int) + 1 := by omega
      have hi5 : (i : Int) + 1 ≤ (l.length : Int) := by omega
      have hsl : List.drop i (List.take (i + 1) (List.map eN l)) = [eN y] := by rw [← List.map_take, htk, List.map_append, List.drop_append_of_le_length (by simp; omega), List.drop_of_length_le (by simp; omega)]; rfl
      apply J.skip; simp
      apply J.seq
      apply J.block
      apply J.seq
      apply J.reg
      iterate 6 refine runL_step rfl (by simp [eNs, eN, eNs_length, eI, hi0, hgx, hw, hi4, hi5, hi6, hsl]; rfl) ?_
      refine runL_tree rfl (by simpa [eNs, eN] using h21) (by simp) hc ?_
      simp
      refine runL_step rfl (by simp [eNs, eN, eNs_length, eI, hi0, hgx, hw, hi4, hi5, hi6, hsl]; rfl) ?_
      simp [runL]
      apply J.seq
      apply J.reg
      iterate 4 refine runL_step rfl (by simp [eNs, eN, eNs_length, eI, hi0, hgx]; rfl) ?_
      refine runL_if rfl (fun g143 => ?_) (fun g143 => ?_)
      ·
       try simp only [g143]
       try simp at g143
       iterate 6 refine runL_step rfl (by simp [eNs, eN, eNs_length, eI, hi0, hgx]; rfl) ?_
       refine runL_do (by simp) ?_
       refine runL_tree rfl (d18p (readyL l done) y.i (by omega)) (by simp) hc ?_
       simp
       iterate 2 refine runL_step rfl (by simp [eNs, eN, eNs_length, eI, hi0, hgx]; rfl) ?_
       simp [runL]
       refine J.condB rfl (fun h152 => ?_) (fun h152 => ?_)
       ·
        exfalso
        try simp at h152
        have hc1 : (cnt [y] done).length = 1 := by first | exact g143 | omega | (simp [eNs_length] at g143; omega)
        obtain ⟨hn1, hn2⟩ := cnt_one hc1
        rw [plc_neg] at h152
        exact h152 (ready_none (by omega) hmn hyl hn1 hn2)
       ·
        skip
        apply J.skip; simp
        refine J.regE (by simp [eNs, eN, eNs_length, eI, hw]; rfl) ?_
        simp
        refine ⟨_, ?_, _, ?_, i + 1, ?_, rfl, rfl⟩
        ·omega
        ·apply le_sub <;> simp [eNs, eN, s6]
        ·omega
      ·
       try simp only [g143]
       try simp at g143
       iterate 5 refine runL_step rfl (by simp [eNs, eN, eNs_length, eI, hi0, hgx]; rfl) ?_
       refine runL_pass (b := _) rfl (by simp) ?_
       simp
       iterate 2 refine runL_step rfl (by simp [eNs, eN, eNs_length, eI, hi0, hgx]; rfl) ?_
       simp [runL]
       apply J.cond; simp [eNs, eN, eNs_length, eI]
       apply J.skip; simp
       refine J.regE (by simp [eNs, eN, eNs_length, eI, hw]; rfl) ?_
       simp
       refine ⟨_, ?_, _, ?_, i + 1, ?_, rfl, rfl⟩
       ·omega
       ·apply le_sub <;> simp [eNs, eN, s6]
       ·omega
     ·
      skip
      apply J.exit; simp
      apply J.seq
      refine J.regE (by simp [eNs, eN, eNs_length, eI]; rfl) ?_
      simp
      apply J.ret
      refine ⟨by simp, rfl, _, [], by simp [a6R]; rfl, ?_⟩
      simp
 ·
  try simp only [g23]
  try simp at g23
  iterate 3 refine runL_step rfl (by simp [eNs, eN, eNs_length, eI]; rfl) ?_
  simp [runL]
  apply J.cond; simp [eNs, eN, eNs_length, eI]
  apply J.seq
  refine J.regE (by simp [eNs, eN, eNs_length, eI]; rfl) ?_
  simp
  apply J.ret
  refine ⟨by simp, rfl, _, [], by simp [a6R]; rfl, ?_⟩
  simp
end Go.Proofs.Ytdekelhmneeniaa.F
