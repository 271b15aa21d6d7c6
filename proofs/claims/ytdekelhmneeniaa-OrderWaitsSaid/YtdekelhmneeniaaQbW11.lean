/- The walk of LawOrderWaits. -/
import Derived.Test.YtdekelhmneeniaaQb9
set_option linter.unusedVariables false
set_option linter.unusedSimpArgs false
namespace Go.Proofs.Ytdekelhmneeniaa.F
open Go Go.SX
theorem d18p (l : List (Int × Int)) (x : Int × Int) (hl : l.length < 1000000) : DoesT 18 [.ro 2 (eds l), .agg (eI x)] (iv (plc l x)) := d18 l x hl
theorem Dif.snoc {l : List Node} {y : Node} (h : Dif l) (h1 : ∀ a ∈ l, a.i ≠ y.i) : Dif (l ++ [y]) := by
 unfold Dif
 rw [List.pairwise_append]
 exact ⟨h, List.pairwise_singleton _ _, fun a ha b hb => by simp at hb; subst hb; exact h1 a ha⟩
theorem dif_step {l : List Node} {i : Nat} {y : Node} (hd : Dif (l.take i)) (h1 : ∀ j (h : j < l.length), j < i → l[j].i ≠ y.i) (htk : l.take (i + 1) = l.take i ++ [y]) : Dif (l.take (i + 1)) := by
 rw [htk]
 refine hd.snoc (fun a ha => ?_)
 obtain ⟨j, hj, rfl⟩ := List.mem_iff_getElem.1 ha
 simp only [List.length_take] at hj
 rw [List.getElem_take]
 exact h1 j (by omega) (by omega)
section
variable {l : List Node} {done : List (Int × Int)} (hl : l.length ≤ 100) (h7 : ∀ n ∈ l, n.d.length ≤ 7) (hD : Dif l)
include hD in
theorem ready_node {n : Node} (hn : n ∈ l) (h : n.i ∈ readyL l done) : n ∈ rdy (cnt l done) (miss (cnt l done) done) := by
 obtain ⟨m, hm, e⟩ := mem_ready.1 h
 rwa [hD.inj (mem_cnt (mem_rdy hm)).1 hn e] at hm
theorem readyL_nodup (l : List Node) (done : List (Int × Int)) : (readyL l done).Nodup := by
 obtain ⟨z, ms, r, N, -, -, -, h, -, -, hn, -⟩ := ready_all l done
 rw [h]; exact hn
theorem ready_done {x : Int × Int} (h : x ∈ readyL l done) : x ∉ done := by
 obtain ⟨m, hm, rfl⟩ := mem_ready.1 h
 exact (mem_cnt (mem_rdy hm)).2.2.1
include hD in
theorem ready_miss {n : Node} (hn : n ∈ l) (h : n.i ∈ readyL l done) {x : Int × Int} (hx : x ∈ missL l done) : waits n.d x = false := by
 have h1 := ready_node hD hn h
 obtain ⟨z, ms, r, N, rfl, rfl, rfl, -, -, -, -, -, -, hr, -⟩ := ready_all l done
 exact lacks_false.1 (((hr n).1 h1).2 n (.refl n)) x hx
include hD h7 in
theorem ready_dep {n m : Node} (hn : n ∈ l) (h : n.i ∈ readyL l done) (w : waits n.d m.i = true) (hm : m.i ∉ done) : m.i ∈ readyL l done := by
 obtain ⟨q, hq, e⟩ := ready_waits h7 (ready_node hD hn h) w hm
 exact mem_ready.2 ⟨q, hq, e⟩
end
noncomputable def s4 (l : List Node) (done : List (Int × Int)) (s : Slots) : St := ⟨(0, .ro 4 (eNs l)) :: (1, .ro 2 (eds done)) :: (7, .ro 2 (eds (readyL l done))) :: (8, .ro 2 (eds (missL l done))) :: s, [], []⟩
def I4 (l : List Node) (done : List (Int × Int)) (m : Nat) (st : St) : Prop := ∃ i : Nat, i ≤ l.length ∧ m = l.length - i ∧ Dif (l.take i) ∧ st = s4 l done [(9, iv i)]
def I4b (l : List Node) (done : List (Int × Int)) (i : Nat) (y : Node) (m : Nat) (st : St) : Prop := ∃ k : Nat, k ≤ i ∧ m = i - k ∧ (∀ j (h : j < l.length), j < k → l[j].i ≠ y.i) ∧ st = s4 l done [(9, iv i), (10, iv k)]
def I4c (l : List Node) (done : List (Int × Int)) (m : Nat) (st : St) : Prop := ∃ i : Nat, i ≤ l.length ∧ m = l.length - i ∧ st = s4 l done [(11, iv i)]
def I4d (l : List Node) (done : List (Int × Int)) (i : Nat) (m : Nat) (st : St) : Prop := ∃ k : Nat, k ≤ (missL l done).length ∧ m = (missL l done).length - k ∧ st = s4 l done [(11, iv i), (14, iv k)]
def I4e (l : List Node) (done : List (Int × Int)) (i : Nat) (m : Nat) (st : St) : Prop := ∃ k : Nat, k ≤ l.length ∧ m = l.length - k ∧ st = s4 l done [(11, iv i), (15, iv k)]
theorem c4 : chkFn Try.prog 4 148 2 a4 a4R = true := by kernel_rfl
theorem d4 (l : List Node) (done : List (Int × Int)) : DoesT 4 [.ro 4 (eNs l), .ro 2 (eds done)] (bv true) := by
 have hrl := readyL_length l done
 have hmis : (missL l done).length ≤ 420 := miss_length _ _
 have hrn := readyL_nodup l done
 refine Does.of (nt := 148) (ac := a4) (rds := a4R) c4 (fun c hc => ?_)
 unfold a4
 apply J.seq
 refine J.regE (by simp [eNs, eN, eNs_length, eI]; rfl) ?_
 simp
 apply J.seq
 apply J.reg
 refine runL_tree rfl (d9) (by simp) hc ?_
 simp
 refine runL_step rfl (by simp [eNs, eN, eNs_length, eI]; rfl) ?_
 simp [runL]
 apply J.seq
 apply J.reg
 refine runL_step rfl (by simp [eNs, eN, eNs_length, eI]; rfl) ?_
 refine runL_tree rfl (by simpa [eNs] using d10 l) (by simp) hc ?_
 simp
 refine runL_step rfl (by simp [eNs, eN, eNs_length, eI]; rfl) ?_
 simp [runL]
 apply J.seq
 apply J.seq
 apply J.reg
 iterate 7 refine runL_step rfl (by simp [eNs, eN, eNs_length, eI]; rfl) ?_
 refine runL_if rfl (fun g25 => ?_) (fun g25 => ?_)
 ·
  try simp only [g25]
  try simp at g25
  iterate 4 refine runL_step rfl (by simp [eNs, eN, eNs_length, eI]; rfl) ?_
  simp [runL]
  refine J.condB rfl (fun h29 => ?_) (fun h29 => ?_)
  ·
   skip
   apply J.seq
   refine J.regE (by simp [eNs, eN, eNs_length, eI]; rfl) ?_
   simp
   apply J.ret
   refine ⟨by simp, rfl, _, [], by simp [a4R]; rfl, ?_⟩
   simp
  ·
   try simp at h29
   have hfe : fewN l = true := by simpa using g25
   obtain ⟨hl, hd⟩ := few_le hfe
   obtain ⟨hl30, h7⟩ := few_spec hfe
   have hdn : done.length < 1000000 := by omega
   have h12 := d12 l done hl hdn hd
   have h14 := d14 l done hl hdn hd
   apply J.skip; simp
   apply J.seq
   apply J.reg
   iterate 2 refine runL_step rfl (by simp [eNs, eN, eNs_length, eI]; rfl) ?_
   refine runL_tree rfl (by simpa [eNs] using h12) (by simp) hc ?_
   simp
   refine runL_step rfl (by simp [eNs, eN, eNs_length, eI]; rfl) ?_
   simp [runL]
   apply J.seq
   apply J.reg
   iterate 2 refine runL_step rfl (by simp [eNs, eN, eNs_length, eI]; rfl) ?_
   refine runL_tree rfl (by simpa [eNs] using h14) (by simp) hc ?_
   simp
   refine runL_step rfl (by simp [eNs, eN, eNs_length, eI]; rfl) ?_
   simp [runL]
   apply J.seq
   apply J.seq
   refine J.regE (by simp [eNs, eN, eNs_length, eI]; rfl) ?_
   simp
   apply J.block
   refine J.loop hc (I4 l done) ?_ ?_
   ·refine ⟨_, _, ?_, 0, by omega, rfl, List.Pairwise.nil, rfl⟩
    apply le_sub <;> simp [eNs, eN, s4]
   rintro n st ⟨i, hi, rfl, hdf, rfl⟩
   unfold s4
   apply J.seq
   apply J.seq
   refine J.regE (by simp [eNs, eN, eNs_length, eI]; rfl) ?_
   simp
   refine J.condB rfl (fun h40 => ?_) (fun h40 => ?_)
   ·
    try simp at h40
    have hi0 : i < l.length := by omega
    obtain ⟨y, hx, hgx, hg, hge, hdr, hw, hlt2, htk⟩ := getL (eN) (show i < l.length by omega) (by omega)
    apply J.skip; simp
    apply J.seq
    apply J.block
    apply J.seq
    refine J.regE (by simp [eNs, eN, eNs_length, eI]; rfl) ?_
    simp
    apply J.block
    refine J.loop hc (I4b l done i y) ?_ ?_
    ·refine ⟨_, _, ?_, 0, by omega, rfl, fun j _ h => by omega, rfl⟩
     apply le_sub <;> simp [eNs, eN, s4]
    rintro n st ⟨k, hk, rfl, hne, rfl⟩
    unfold s4
    apply J.seq
    apply J.seq
    refine J.regE (by simp [eNs, eN, eNs_length, eI]; rfl) ?_
    simp
    refine J.condB rfl (fun h45 => ?_) (fun h45 => ?_)
    ·
     try simp at h45
     have hk0 : k < l.length := by omega
     obtain ⟨b, hxk, hgxk, hgk, hgek, hdrk, hwk, hlt2k, htkk⟩ := getL (eN) (show k < l.length by omega) (by omega)
     apply J.skip; simp
     apply J.seq
     apply J.block
     apply J.seq
     apply J.draw; intro c' hc'
     iterate 11 refine runP_stepQ (by simp [eNs, eN, eNs_length, eI, hi0, hgx, hk0, hgxk]; rfl) ?_
     simp [runP]
     refine J.condB rfl (fun h58 => ?_) (fun h58 => ?_)
     ·
      skip
      apply J.seq
      refine J.regE (by simp [eNs, eN, eNs_length, eI]; rfl) ?_
      simp
      apply J.ret
      refine ⟨by simp, rfl, _, [], by simp [a4R]; rfl, ?_⟩
      simp
     ·
      have h58 : b.b = y.b → ¬ b.s = y.s := fun e1 e2 => by simp [e1, e2] at h58
      apply J.skip; simp
      refine J.regE (by simp [eNs, eN, eNs_length, eI, hwk]; rfl) ?_
      simp
      refine ⟨_, ?_, _, ?_, k + 1, ?_, rfl, ?_, rfl⟩
      ·omega
      ·apply le_sub <;> simp [eNs, eN, s4]
      ·omega
      ·intro j hj hjk
       by_cases e : j = k
       ·subst e; rw [hgxk]; intro e; injection e with e1 e2; exact h58 e1 e2
       ·exact hne j hj (by omega)
    ·
     try simp at h45
     obtain rfl : i = k := by omega
     have hdf2 := dif_step hdf hne htk
     apply J.exit; simp
     refine J.regE (by simp [eNs, eN, eNs_length, eI, hw]; rfl) ?_
     simp
     refine ⟨_, ?_, _, ?_, i + 1, ?_, rfl, hdf2, rfl⟩
     ·omega
     ·apply le_sub <;> simp [eNs, eN, s4]
     ·omega
   ·
    try simp at h40
    obtain rfl : i = l.length := by omega
    rw [List.take_length] at hdf
    apply J.exit; simp
    apply J.seq
    apply J.seq
    refine J.regE (by simp [eNs, eN, eNs_length, eI]; rfl) ?_
    simp
    apply J.block
    refine J.loop hc (I4c l done) ?_ ?_
    ·refine ⟨_, _, ?_, 0, by omega, rfl, rfl⟩
     apply le_sub <;> simp [eNs, eN, s4]
    rintro n st ⟨i, hi, rfl, rfl⟩
    unfold s4
    apply J.seq
    apply J.seq
    refine J.regE (by simp [eNs, eN, eNs_length, eI]; rfl) ?_
    simp
    refine J.condB rfl (fun h62 => ?_) (fun h62 => ?_)
    ·
     try simp at h62
     have hi0 : i < l.length := by omega
     obtain ⟨y, hx, hgx, hg, hge, hdr, hw, hlt2, htk⟩ := getL (eN) (show i < l.length by omega) (by omega)
     have hyl := List.mem_of_getElem? hx
     have hyd := hd y hyl
     apply J.skip; simp
     apply J.seq
     apply J.block
     apply J.seq
     apply J.reg
     iterate 6 refine runL_step rfl (by simp [eNs, eN, eNs_length, eI, hi0, hgx]; rfl) ?_
     refine runL_tree rfl (d18p (readyL l done) y.i (by omega)) (by simp) hc ?_
     simp
     refine runL_step rfl (by simp [eNs, eN, eNs_length, eI, hi0, hgx]; rfl) ?_
     simp [runL]
     apply J.seq
     apply J.seq
     refine J.regE (by simp [eNs, eN, eNs_length, eI]; rfl) ?_
     simp
     refine J.condB rfl (fun h73 => ?_) (fun h73 => ?_)
     ·
      skip
      apply J.exit; simp
      refine J.regE (by simp [eNs, eN, eNs_length, eI, hw]; rfl) ?_
      simp
      refine ⟨_, ?_, _, ?_, i + 1, ?_, rfl, rfl⟩
      ·omega
      ·apply le_sub <;> simp [eNs, eN, s4]
      ·omega
     ·
      try simp at h73
      have hyr : y.i ∈ readyL l done := Classical.byContradiction fun h => by have := plc_neg.2 h; omega
      obtain ⟨j, hj, hpj, hgj⟩ := plc_get hyr
      have hwj : IntKind.i64.wrap ((j : Int) + 1) = (j : Int) + 1 := wrap_id (by omega) (by omega)
      have hdn2 := ready_done hyr
      have hj1 : j + 1 ≤ (readyL l done).length := by omega
      have hj2 : (j : Int) + 1 ≤ ((readyL l done).length : Int) := by omega
      have hj3 : (0 : Int) ≤ (j : Int) + 1 := by omega
      have hneg : plc ((readyL l done).drop (j + 1)) y.i < 0 := by
       rw [plc_neg, ← hgj]
       intro hm
       obtain ⟨q, hq, e⟩ := List.mem_iff_getElem.1 hm
       rw [List.getElem_drop] at e
       have := (List.getElem_inj hrn).1 e
       omega
      rw [hpj]
      apply J.skip; simp
      apply J.seq
      apply J.reg
      iterate 6 refine runL_step rfl (by simp [eNs, eN, eNs_length, eI, hi0, hgx]; rfl) ?_
      refine runL_tree rfl (d19 done y.i hdn) (by simp) hc ?_
      simp
      refine runL_step rfl (by simp [eNs, eN, eNs_length, eI, hi0, hgx]; rfl) ?_
      simp [runL]
      simp only [hdn2, decide_false]
      apply J.seq
      apply J.seq
      apply J.draw; intro c' hc'
      iterate 11 refine runP_stepQ (by simp [eNs, eN, eNs_length, eI, hi0, hgx, hwj, hj1, hj2, hj3]; rfl) ?_
      refine runP_do (by simp) ?_
      refine runP_tree rfl (d18p ((readyL l done).drop (j + 1)) y.i (by simp; omega)) (by simp [eI, Node.i]) rfl ?_
      simp
      iterate 2 refine runP_stepQ (by simp [eNs, eN, eNs_length, eI, hi0, hgx, hwj, hj1, hj2, hj3]; rfl) ?_
      simp [runP]
      refine J.condB rfl (fun h94 => ?_) (fun h94 => ?_)
      ·
       exfalso
       try simp at h94
       omega
      ·
       skip
       apply J.skip; simp
       apply J.seq
       apply J.seq
       refine J.regE (by simp [eNs, eN, eNs_length, eI]; rfl) ?_
       simp
       apply J.block
       refine J.loop hc (I4d l done i) ?_ ?_
       ·refine ⟨_, _, ?_, 0, by omega, rfl, rfl⟩
        apply le_sub <;> simp [eNs, eN, s4]
       rintro n st ⟨k, hk, rfl, rfl⟩
       unfold s4
       apply J.seq
       apply J.seq
       refine J.regE (by simp [eNs, eN, eNs_length, eI]; rfl) ?_
       simp
       refine J.condB rfl (fun h98 => ?_) (fun h98 => ?_)
       ·
        try simp at h98
        have hk0 : k < (missL l done).length := by omega
        obtain ⟨x, hxk, hgxk, hgk, hgek, hdrk, hwk, hlt2k, htkk⟩ := getL (eI) (show k < (missL l done).length by omega) (by omega)
        have hwx := ready_miss hdf hyl hyr (List.mem_of_getElem? hxk)
        apply J.skip; simp
        apply J.seq
        apply J.block
        apply J.seq
        apply J.draw; intro c' hc'
        iterate 9 refine runP_stepQ (by simp [eNs, eN, eNs_length, eI, hi0, hgx, hk0, hgxk]; rfl) ?_
        refine runP_tree rfl (by have h := d20 y.q y.d x hyd; rw [hwx] at h; exact h) (by simp) rfl ?_
        simp
        simp [runP]
        apply J.cond; simp [eNs, eN, eNs_length, eI]
        apply J.skip; simp
        refine J.regE (by simp [eNs, eN, eNs_length, eI, hwk]; rfl) ?_
        simp
        refine ⟨_, ?_, _, ?_, k + 1, ?_, rfl, rfl⟩
        ·omega
        ·apply le_sub <;> simp [eNs, eN, s4]
        ·omega
       ·
        skip
        apply J.exit; simp
        apply J.seq
        refine J.regE (by simp [eNs, eN, eNs_length, eI]; rfl) ?_
        simp
        apply J.block
        refine J.loop hc (I4e l done i) ?_ ?_
        ·refine ⟨_, _, ?_, 0, by omega, rfl, rfl⟩
         apply le_sub <;> simp [eNs, eN, s4]
        rintro n st ⟨k, hk, rfl, rfl⟩
        unfold s4
        apply J.seq
        apply J.seq
        refine J.regE (by simp [eNs, eN, eNs_length, eI]; rfl) ?_
        simp
        refine J.condB rfl (fun h114 => ?_) (fun h114 => ?_)
        ·
         try simp at h114
         have hk0 : k < l.length := by omega
         obtain ⟨z, hxk, hgxk, hgk, hgek, hdrk, hwk, hlt2k, htkk⟩ := getL (eN) (show k < l.length by omega) (by omega)
         apply J.skip; simp
         apply J.seq
         apply J.block
         apply J.seq
         apply J.draw; intro c' hc'
         iterate 10 refine runP_stepQ (by simp [eNs, eN, eNs_length, eI, hi0, hgx, hk0, hgxk]; rfl) ?_
         refine runP_tree rfl (d20 y.q y.d z.i hyd) (by simp) rfl ?_
         simp
         refine runP_stepQ (by simp [eNs, eN, eNs_length, eI, hi0, hgx, hk0, hgxk]; rfl) ?_
         refine runP_if rfl (fun g128 => ?_) (fun g128 => ?_)
         ·
          try simp only [g128]
          try simp at g128
          iterate 6 refine runP_stepQ (by simp [eNs, eN, eNs_length, eI, hi0, hgx, hk0, hgxk]; rfl) ?_
          refine runP_do (by simp) ?_
          refine runP_tree rfl (d18p done z.i hdn) (by simp) rfl ?_
          simp
          iterate 3 refine runP_stepQ (by simp [eNs, eN, eNs_length, eI, hi0, hgx, hk0, hgxk]; rfl) ?_
          refine runP_if rfl (fun g138 => ?_) (fun g138 => ?_)
          ·
           try simp only [g138]
           try simp at g138
           iterate 6 refine runP_stepQ (by simp [eNs, eN, eNs_length, eI, hi0, hgx, hk0, hgxk]; rfl) ?_
           refine runP_do (by simp) ?_
           refine runP_tree rfl (d18p (readyL l done) z.i (by omega)) (by simp) rfl ?_
           simp
           iterate 2 refine runP_stepQ (by simp [eNs, eN, eNs_length, eI, hi0, hgx, hk0, hgxk]; rfl) ?_
           simp [runP]
           refine J.condB rfl (fun h147 => ?_) (fun h147 => ?_)
           ·
            exfalso
            try simp at h147
            simp only [plc_neg] at h147 g138
            exact h147 (ready_dep h7 hdf hyl hyr g128 g138)
           ·
            skip
            apply J.skip; simp
            refine J.regE (by simp [eNs, eN, eNs_length, eI, hwk]; rfl) ?_
            simp
            refine ⟨_, ?_, _, ?_, k + 1, ?_, rfl, rfl⟩
            ·omega
            ·apply le_sub <;> simp [eNs, eN, s4]
            ·omega
          ·
           try simp only [g138]
           try simp at g138
           iterate 5 refine runP_stepQ (by simp [eNs, eN, eNs_length, eI, hi0, hgx, hk0, hgxk]; rfl) ?_
           refine runP_skip (b := false) (by simp) (by simp) ?_
           simp
           iterate 2 refine runP_stepQ (by simp [eNs, eN, eNs_length, eI, hi0, hgx, hk0, hgxk]; rfl) ?_
           simp [runP]
           apply J.cond; simp [eNs, eN, eNs_length, eI]
           apply J.skip; simp
           refine J.regE (by simp [eNs, eN, eNs_length, eI, hwk]; rfl) ?_
           simp
           refine ⟨_, ?_, _, ?_, k + 1, ?_, rfl, rfl⟩
           ·omega
           ·apply le_sub <;> simp [eNs, eN, s4]
           ·omega
         ·
          try simp only [g128]
          try simp at g128
          iterate 5 refine runP_stepQ (by simp [eNs, eN, eNs_length, eI, hi0, hgx, hk0, hgxk]; rfl) ?_
          refine runP_skip (b := false) (by simp) (by simp) ?_
          simp
          iterate 9 refine runP_stepQ (by simp [eNs, eN, eNs_length, eI, hi0, hgx, hk0, hgxk]; rfl) ?_
          refine runP_skip (b := false) (by simp) (by simp) ?_
          simp
          iterate 2 refine runP_stepQ (by simp [eNs, eN, eNs_length, eI, hi0, hgx, hk0, hgxk]; rfl) ?_
          simp [runP]
          apply J.cond; simp [eNs, eN, eNs_length, eI]
          apply J.skip; simp
          refine J.regE (by simp [eNs, eN, eNs_length, eI, hwk]; rfl) ?_
          simp
          refine ⟨_, ?_, _, ?_, k + 1, ?_, rfl, rfl⟩
          ·omega
          ·apply le_sub <;> simp [eNs, eN, s4]
          ·omega
        ·
         skip
         apply J.exit; simp
         refine J.regE (by simp [eNs, eN, eNs_length, eI, hw]; rfl) ?_
         simp
         refine ⟨_, ?_, _, ?_, i + 1, ?_, rfl, rfl⟩
         ·omega
         ·apply le_sub <;> simp [eNs, eN, s4]
         ·omega
    ·
     try simp at h62
     obtain rfl : i = l.length := by omega
     apply J.exit; simp
     apply J.seq
     refine J.regE (by simp [eNs, eN, eNs_length, eI]; rfl) ?_
     simp
     apply J.ret
     refine ⟨by simp, rfl, _, [], by simp [a4R]; rfl, ?_⟩
     simp
 ·
  try simp only [g25]
  try simp at g25
  iterate 3 refine runL_step rfl (by simp [eNs, eN, eNs_length, eI]; rfl) ?_
  simp [runL]
  apply J.cond; simp [eNs, eN, eNs_length, eI]
  apply J.seq
  refine J.regE (by simp [eNs, eN, eNs_length, eI]; rfl) ?_
  simp
  apply J.ret
  refine ⟨by simp, rfl, _, [], by simp [a4R]; rfl, ?_⟩
  simp
end Go.Proofs.Ytdekelhmneeniaa.F
