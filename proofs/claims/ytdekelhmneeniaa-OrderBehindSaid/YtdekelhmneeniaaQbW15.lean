/- The walk of LawOrderBehind. -/
import Derived.Test.YtdekelhmneeniaaQb9
set_option linter.unusedVariables false
set_option linter.unusedSimpArgs false
namespace Go.Proofs.Ytdekelhmneeniaa.F
open Go Go.SX
theorem d18p (l : List (Int × Int)) (x : Int × Int) (hl : l.length < 1000000) : DoesT 18 [.ro 2 (eds l), .agg (eI x)] (iv (plc l x)) := d18 l x hl
theorem Dif.snoc {l : List Node} {y : Node} (h : Dif l) (h1 : ∀ a ∈ l, a.i ≠ y.i) : Dif (l ++ [y]) := by
 unfold Dif
 rw [List.pairwise_append]
 exact ⟨h, List.pairwise_singleton _ _, fun a ha b hb => by simp at hb; subst hb; exact h1 a ha⟩
theorem dif_step {l : List Node} {i : Nat} {y : Node} (hd : Dif (l.take i)) (h1 : ∀ j (h : j < l.length), j < i → l[j].i ≠ y.i) (htk : l.take (i + 1) = l.take i ++ [y]) : Dif (l.take (i + 1)) := by
 rw [htk]
 refine hd.snoc (fun a ha => ?_)
 obtain ⟨j, hj, rfl⟩ := List.mem_iff_getElem.1 ha
 simp only [List.length_take] at hj
 rw [List.getElem_take]
 exact h1 j (by omega) (by omega)
section
variable {l : List Node} {done : List (Int × Int)} (hl : l.length ≤ 100) (h7 : ∀ n ∈ l, n.d.length ≤ 7) (hD : Dif l)
include hD in
theorem ready_node {n : Node} (hn : n ∈ l) (h : n.i ∈ readyL l done) : n ∈ rdy (cnt l done) (miss (cnt l done) done) := by
 obtain ⟨m, hm, e⟩ := mem_ready.1 h
 rwa [hD.inj (mem_cnt (mem_rdy hm)).1 hn e] at hm
theorem readyL_nodup (l : List Node) (done : List (Int × Int)) : (readyL l done).Nodup := by
 obtain ⟨z, ms, r, N, -, -, -, h, -, -, hn, -⟩ := ready_all l done
 rw [h]; exact hn
theorem ready_done {x : Int × Int} (h : x ∈ readyL l done) : x ∉ done := by
 obtain ⟨m, hm, rfl⟩ := mem_ready.1 h
 exact (mem_cnt (mem_rdy hm)).2.2.1
include hD in
theorem ready_miss {n : Node} (hn : n ∈ l) (h : n.i ∈ readyL l done) {x : Int × Int} (hx : x ∈ missL l done) : waits n.d x = false := by
 have h1 := ready_node hD hn h
 obtain ⟨z, ms, r, N, rfl, rfl, rfl, -, -, -, -, -, -, hr, -⟩ := ready_all l done
 exact lacks_false.1 (((hr n).1 h1).2 n (.refl n)) x hx
include hD h7 in
theorem ready_dep {n m : Node} (hn : n ∈ l) (h : n.i ∈ readyL l done) (w : waits n.d m.i = true) (hm : m.i ∉ done) : m.i ∈ readyL l done := by
 obtain ⟨q, hq, e⟩ := ready_waits h7 (ready_node hD hn h) w hm
 exact mem_ready.2 ⟨q, hq, e⟩
end
noncomputable def s4 (l : List Node) (done : List (Int × Int)) (s : Slots) : St := ⟨(0, .ro 4 (eNs l)) :: (1, .ro 2 (eds done)) :: (7, .ro 2 (eds (readyL l done))) :: (8, .ro 2 (eds (missL l done))) :: s, [], []⟩
def I4 (l : List Node) (done : List (Int × Int)) (m : Nat) (st : St) : Prop := ∃ i : Nat, i ≤ l.length ∧ m = l.length - i ∧ Dif (l.take i) ∧ st = s4 l done [(9, iv i)]
def I4b (l : List Node) (done : List (Int × Int)) (i : Nat) (y : Node) (m : Nat) (st : St) : Prop := ∃ k : Nat, k ≤ i ∧ m = i - k ∧ (∀ j (h : j < l.length), j < k → l[j].i ≠ y.i) ∧ st = s4 l done [(9, iv i), (10, iv k)]
def I4c (l : List Node) (done : List (Int × Int)) (m : Nat) (st : St) : Prop := ∃ i : Nat, i ≤ l.length ∧ m = l.length - i ∧ st = s4 l done [(11, iv i)]
def I4d (l : List Node) (done : List (Int × Int)) (i : Nat) (m : Nat) (st : St) : Prop := ∃ k : Nat, k ≤ (missL l done).length ∧ m = (missL l done).length - k ∧ st = s4 l done [(11, iv i), (14, iv k)]
def I4e (l : List Node) (done : List (Int × Int)) (i : Nat) (m : Nat) (st : St) : Prop := ∃ k : Nat, k ≤ l.length ∧ m = l.length - k ∧ st = s4 l done [(11, iv i), (15, iv k)]
theorem c4 : chkFn Try.prog 4 148 2 a4 a4R = true := by kernel_rfl
theorem d4 (l : List Node) (done : List (Int × Int)) : DoesT 4 [.ro 4 (eNs l), .ro 2 (eds done)] (bv true) := by
 have hrl := readyL_length l done
 have hmis : (missL l done).length ≤ 420 := miss_length _ _
 have hrn := readyL_nodup l done
 refine Does.of (nt := 148) (ac := a4) (rds := a4R) c4 (fun c hc => ?_)
 unfold a4
 apply J.seq
 refine J.regE (by simp [eNs, eN, eNs_length, eI]; rfl) ?_
 simp
 apply J.seq
 apply J.reg
 refine runL_tree rfl (d9) (by simp) hc ?_
 simp
 refine runL_step rfl (by simp [eNs, eN, eNs_length, eI]; rfl) ?_
 simp [runL]
 apply J.seq
 apply J.reg
 refine runL_step rfl (by simp [eNs, eN, eNs_length, eI]; rfl) ?_
 refine runL_tree rfl (by simpa [eNs] using d10 l) (by simp) hc ?_
 simp
 refine runL_step rfl (by simp [eNs, eN, eNs_length, eI]; rfl) ?_
 simp [runL]
 apply J.seq
 apply J.seq
 apply J.reg
 iterate 7 refine runL_step rfl (by simp [eNs, eN, eNs_length, eI]; rfl) ?_
 refine runL_if rfl (fun g25 => ?_) (fun g25 => ?_)
 ·
  try simp only [g25]
  try simp at g25
  iterate 4 refine runL_step rfl (by simp [eNs, eN, eNs_length, eI]; rfl) ?_
  simp [runL]
  refine J.condB rfl (fun h29 => ?_) (fun h29 => ?_)
  ·
   skip
   apply J.seq
   refine J.regE (by simp [eNs, eN, eNs_length, eI]; rfl) ?_
   simp
   apply J.ret
   refine ⟨by simp, rfl, _, [], by simp [a4R]; rfl, ?_⟩
   simp
  ·
   try simp at h29
   have hfe : fewN l = true := by simpa using g25
   obtain ⟨hl, hd⟩ := few_le hfe
   obtain ⟨hl30, h7⟩ := few_spec hfe
   have hdn : done.length < 1000000 := by omega
   have h12 := d12 l done hl hdn hd
   have h14 := d14 l done hl hdn hd
   apply J.skip; simp
   apply J.seq
   apply J.reg
   iterate 2 refine runL_step rfl (by simp [eNs, eN, eNs_length, eI]; rfl) ?_
   refine runL_tree rfl (by simpa [eNs] using h12) (by simp) hc ?_
   simp
   refine runL_step rfl (by simp [eNs, eN, eNs_length, eI]; rfl) ?_
   simp [runL]
   apply J.seq
   apply J.reg
   iterate 2 refine runL_step rfl (by simp [eNs, eN, eNs_length, eI]; rfl) ?_
   refine runL_tree rfl (by simpa [eNs] using h14) (by simp) hc ?_
   simp
   refine runL_step rfl (by simp [eNs, eN, eNs_length, eI]; rfl) ?_
   simp [runL]
   apply J.seq
   apply J.seq
   refine J.regE (by simp [eNs, eN, eNs_length, eI]; rfl) ?_
   simp
   apply J.block
   refine J.loop hc (I4 l done) ?_ ?_
   ·refine ⟨_, _, ?_, 0, by omega, rfl, List.Pairwise.nil, rfl⟩
    apply le_sub <;> simp [eNs, eN, s4]
   rintro n st ⟨i, hi, rfl, hdf, rfl⟩
   unfold s4
   apply J.seq
   apply J.seq
   refine J.regE (by simp [eNs, eN, eNs_length, eI]; rfl) ?_
   simp
   refine J.condB rfl (fun h40 => ?_) (fun h40 => ?_)
   ·
    try simp at h40
    have hi0 : i < l.length := by omega
    obtain ⟨y, hx, hgx, hg, hge, hdr, hw, hlt2, htk⟩ := getL (eN) (show i < l.length by omega) (by omega)
    apply J.skip; simp
    apply J.seq
    apply J.block
    apply J.seq
    refine J.regE (by simp [eNs, eN, eNs_length, eI]; rfl) ?_
    simp
    apply J.block
    refine J.loop hc (I4b l done i y) ?_ ?_
    ·refine ⟨_, _, ?_, 0, by omega, rfl, fun j _ h => by omega, rfl⟩
     apply le_sub <;> simp [eNs, eN, s4]
    rintro n st ⟨k, hk, rfl, hne, rfl⟩
    unfold s4
    apply J.seq
    apply J.seq
    refine J.regE (by simp [eNs, eN, eNs_length, eI]; rfl) ?_
    simp
    refine J.condB rfl (fun h45 => ?_) (fun h45 => ?_)
    ·
     try simp at h45
     have hk0 : k < l.length := by omega
     obtain ⟨b, hxk, hgxk, hgk, hgek, hdrk, hwk, hlt2k, htkk⟩ := getL (eN) (show k < l.length by omega) (by omega)
     apply J.skip; simp
     apply J.seq
     apply J.block
     apply J.seq
     apply J.draw; intro c' hc'
     iterate 11 refine runP_stepQ (by simp [eNs, eN, eNs_length, eI, hi0, hgx, hk0, hgxk]; rfl) ?_
     simp [runP]
     refine J.condB rfl (fun h58 => ?_) (fun h58 => ?_)
     ·
      skip
      apply J.seq
      refine J.regE (by simp [eNs, eN, eNs_length, eI]; rfl) ?_
      simp
      apply J.ret
      refine ⟨by simp, rfl, _, [], by simp [a4R]; rfl, ?_⟩
      simp
     ·
      have h58 : b.b = y.b → ¬ b.s = y.s := fun e1 e2 => by simp [e1, e2] at h58
      apply J.skip; simp
      refine J.regE (by simp [eNs, eN, eNs_length, eI, hwk]; rfl) ?_
      simp
      refine ⟨_, ?_, _, ?_, k + 1, ?_, rfl, ?_, rfl⟩
      ·omega
      ·apply le_sub <;> simp [eNs, eN, s4]
      ·omega
      ·intro j hj hjk
       by_cases e : j = k
       ·subst e; rw [hgxk]; intro e; injection e with e1 e2; exact h58 e1 e2
       ·exact hne j hj (by omega)
    ·
     try simp at h45
     obtain rfl : i = k := by omega
     have hdf2 := dif_step hdf hne htk
     apply J.exit; simp
     refine J.regE (by simp [eNs, eN, eNs_length, eI, hw]; rfl) ?_
     simp
     refine ⟨_, ?_, _, ?_, i + 1, ?_, rfl, hdf2, rfl⟩
     ·omega
     ·apply le_sub <;> simp [eNs, eN, s4]
     ·omega
   ·
    try simp at h40
    obtain rfl : i = l.length := by omega
    rw [List.take_length] at hdf
    apply J.exit; simp
    apply J.seq
    apply J.seq
    refine J.regE (by simp [eNs, eN, eNs_length, eI]; rfl) ?_
    simp
    apply J.block
    refine J.loop hc (I4c l done) ?_ ?_
    ·refine ⟨_, _, ?_, 0, by omega, rfl, rfl⟩
     apply le_sub <;> simp [eNs, eN, s4]
    rintro n st ⟨i, hi, rfl, rfl⟩
    unfold s4
    apply J.seq
    apply J.seq
    refine J.regE (by simp [eNs, eN, eNs_length, eI]; rfl) ?_
    simp
    refine J.condB rfl (fun h62 => ?_) (fun h62 => ?_)
    ·
     try simp at h62
     have hi0 : i < l.length := by omega
     obtain ⟨y, hx, hgx, hg, hge, hdr, hw, hlt2, htk⟩ := getL (eN) (show i < l.length by omega) (by omega)
     have hyl := List.mem_of_getElem? hx
     have hyd := hd y hyl
     apply J.skip; simp
     apply J.seq
     apply J.block
     apply J.seq
     apply J.reg
     iterate 6 refine runL_step rfl (by simp [eNs, eN, eNs_length, eI, hi0, hgx]; rfl) ?_
     refine runL_tree rfl (d18p (readyL l done) y.i (by omega)) (by simp) hc ?_
     simp
     refine runL_step rfl (by simp [eNs, eN, eNs_length, eI, hi0, hgx]; rfl) ?_
     simp [runL]
     apply J.seq
     apply J.seq
     refine J.regE (by simp [eNs, eN, eNs_length, eI]; rfl) ?_
     simp
     refine J.condB rfl (fun h73 => ?_) (fun h73 => ?_)
     ·
      skip
      apply J.exit; simp
      refine J.regE (by simp [eNs, eN, eNs_length, eI, hw]; rfl) ?_
      simp
      refine ⟨_, ?_, _, ?_, i + 1, ?_, rfl, rfl⟩
      ·omega
      ·apply le_sub <;> simp [eNs, eN, s4]
      ·omega
     ·
      try simp at h73
      have hyr : y.i ∈ readyL l done := Classical.byContradiction fun h => by have := plc_neg.2 h; omega
      obtain ⟨j, hj, hpj, hgj⟩ := plc_get hyr
      have hwj : IntKind.i64.wrap ((j : Int) + 1) = (j : Int) + 1 := wrap_id (by omega) (by omega)
      have hdn2 := ready_done hyr
      have hj1 : j + 1 ≤ (readyL l done).length := by omega
      have hj2 : (j : Int) + 1 ≤ ((readyL l done).length : Int) := by omega
      have hj3 : (0 : Int) ≤ (j : Int) + 1 := by omega
      have hneg : plc ((readyL l done).drop (j + 1)) y.i < 0 := by
       rw [plc_neg, ← hgj]
       intro hm
       obtain ⟨q, hq, e⟩ := List.mem_iff_getElem.1 hm
       rw [List.getElem_drop] at e
       have := (List.getElem_inj hrn).1 e
       omega
      rw [hpj]
      apply J.skip; simp
      apply J.seq
      apply J.reg
      iterate 6 refine runL_step rfl (by simp [eNs, eN, eNs_length, eI, hi0, hgx]; rfl) ?_
      refine runL_tree rfl (d19 done y.i hdn) (by simp) hc ?_
      simp
      refine runL_step rfl (by simp [eNs, eN, eNs_length, eI, hi0, hgx]; rfl) ?_
      simp [runL]
      simp only [hdn2, decide_false]
      apply J.seq
      apply J.seq
      apply J.draw; intro c' hc'
      iterate 11 refine runP_stepQ (by simp [eNs, eN, eNs_length, eI, hi0, hgx, hwj, hj1, hj2, hj3]; rfl) ?_
      refine runP_do (by simp) ?_
      refine runP_tree rfl (d18p ((readyL l done).drop (j + 1)) y.i (by simp; omega)) (by simp [eI, Node.i]) rfl ?_
      simp
      iterate 2 refine runP_stepQ (by simp [eNs, eN, eNs_length, eI, hi0, hgx, hwj, hj1, hj2, hj3]; rfl) ?_
      simp [runP]
      refine J.condB rfl (fun h94 => ?_) (fun h94 => ?_)
      ·
       exfalso
       try simp at h94
       omega
      ·
       skip
       apply J.skip; simp
       apply J.seq
       apply J.seq
       refine J.regE (by simp [eNs, eN, eNs_length, eI]; rfl) ?_
       simp
       apply J.block
       refine J.loop hc (I4d l done i) ?_ ?_
       ·refine ⟨_, _, ?_, 0, by omega, rfl, rfl⟩
        apply le_sub <;> simp [eNs, eN, s4]
       rintro n st ⟨k, hk, rfl, rfl⟩
       unfold s4
       apply J.seq
       apply J.seq
       refine J.regE (by simp [eNs, eN, eNs_length, eI]; rfl) ?_
       simp
       refine J.condB rfl (fun h98 => ?_) (fun h98 => ?_)
       ·
        try simp at h98
        have hk0 : k < (missL l done).length := by omega
        obtain ⟨x, hxk, hgxk, hgk, hgek, hdrk, hwk, hlt2k, htkk⟩ := getL (eI) (show k < (missL l done).length by omega) (by omega)
        have hwx := ready_miss hdf hyl hyr (List.mem_of_getElem? hxk)
        apply J.skip; simp
        apply J.seq
        apply J.block
        apply J.seq
        apply J.draw; intro c' hc'
        iterate 9 refine runP_stepQ (by simp [eNs, eN, eNs_length, eI, hi0, hgx, hk0, hgxk]; rfl) ?_
        refine runP_tree rfl (by have h := d20 y.q y.d x hyd; rw [hwx] at h; exact h) (by simp) rfl ?_
        simp
        simp [runP]
        apply J.cond; simp [eNs, eN, eNs_length, eI]
        apply J.skip; simp
        refine J.regE (by simp [eNs, eN, eNs_length, eI, hwk]; rfl) ?_
        simp
        refine ⟨_, ?_, _, ?_, k + 1, ?_, rfl, rfl⟩
        ·omega
        ·apply le_sub <;> simp [eNs, eN, s4]
        ·omega
       ·
        skip
        apply J.exit; simp
        apply J.seq
        refine J.regE (by simp [eNs, eN, eNs_length, eI]; rfl) ?_
        simp
        apply J.block
        refine J.loop hc (I4e l done i) ?_ ?_
        ·refine ⟨_, _, ?_, 0, by omega, rfl, rfl⟩
         apply le_sub <;> simp [eNs, eN, s4]
        rintro n st ⟨k, hk, rfl, rfl⟩
        unfold s4
        apply J.seq
        apply J.seq
        refine J.regE (by simp [eNs, eN, eNs_length, eI]; rfl) ?_
        simp
        refine J.condB rfl (fun h114 => ?_) (fun h114 => ?_)
        ·
         try simp at h114
         have hk0 : k < l.length := by omega
         obtain ⟨z, hxk, hgxk, hgk, hgek, hdrk, hwk, hlt2k, htkk⟩ := getL (eN) (show k < l.length by omega) (by omega)
         apply J.skip; simp
         apply J.seq
         apply J.block
         apply J.seq
         apply J.draw; intro c' hc'
         iterate 10 refine runP_stepQ (by simp [eNs, eN, eNs_length, eI, hi0, hgx, hk0, hgxk]; rfl) ?_
         refine runP_tree rfl (d20 y.q y.d z.i hyd) (by simp) rfl ?_
         simp
         refine runP_stepQ (by simp [eNs, eN, eNs_length, eI, hi0, hgx, hk0, hgxk]; rfl) ?_
         refine runP_if rfl (fun g128 => ?_) (fun g128 => ?_)
         ·
          try simp only [g128]
          try simp at g128
          iterate 6 refine runP_stepQ (by simp [eNs, eN, eNs_length, eI, hi0, hgx, hk0, hgxk]; rfl) ?_
          refine runP_do (by simp) ?_
          refine runP_tree rfl (d18p done z.i hdn) (by simp) rfl ?_
          simp
          iterate 3 refine runP_stepQ (by simp [eNs, eN, eNs_length, eI, hi0, hgx, hk0, hgxk]; rfl) ?_
          refine runP_if rfl (fun g138 => ?_) (fun g138 => ?_)
          ·
           try simp only [g138]
           try simp at g138
           iterate 6 refine runP_stepQ (by simp [eNs, eN, eNs_length, eI, hi0, hgx, hk0, hgxk]; rfl) ?_
           refine runP_do (by simp) ?_
           refine runP_tree rfl (d18p (readyL l done) z.i (by omega)) (by simp) rfl ?_
           simp
           iterate 2 refine runP_stepQ (by simp [eNs, eN, eNs_length, eI, hi0, hgx, hk0, hgxk]; rfl) ?_
           simp [runP]
           refine J.condB rfl (fun h147 => ?_) (fun h147 => ?_)
           ·
            exfalso
            try simp at h147
            simp only [plc_neg] at h147 g138
            exact h147 (ready_dep h7 hdf hyl hyr g128 g138)
           ·
            skip
            apply J.skip; simp
            refine J.regE (by simp [eNs, eN, eNs_length, eI, hwk]; rfl) ?_
            simp
            refine ⟨_, ?_, _, ?_, k + 1, ?_, rfl, rfl⟩
            ·omega
            ·apply le_sub <;> simp [eNs, eN, s4]
            ·omega
          ·
           try simp only [g138]
           try simp at g138
           iterate 5 refine runP_stepQ (by simp [eNs, eN, eNs_length, eI, hi0, hgx, hk0, hgxk]; rfl) ?_
           refine runP_skip (b := false) (by simp) (by simp) ?_
           simp
           iterate 2 refine runP_stepQ (by simp [eNs, eN, eNs_length, eI, hi0, hgx, hk0, hgxk]; rfl) ?_
           simp [runP]
           apply J.cond; simp [eNs, eN, eNs_length, eI]
           apply J.skip; simp
           refine J.regE (by simp [eNs, eN, eNs_length, eI, hwk]; rfl) ?_
           simp
           refine ⟨_, ?_, _, ?_, k + 1, ?_, rfl, rfl⟩
           ·omega
           ·apply le_sub <;> simp [eNs, eN, s4]
           ·omega
         ·
          try simp only [g128]
          try simp at g128
          iterate 5 refine runP_stepQ (by simp [eNs, eN, eNs_length, eI, hi0, hgx, hk0, hgxk]; rfl) ?_
          refine runP_skip (b := false) (by simp) (by simp) ?_
          simp
          iterate 9 refine runP_stepQ (by simp [eNs, eN, eNs_length, eI, hi0, hgx, hk0, hgxk]; rfl) ?_
          refine runP_skip (b := false) (by simp) (by simp) ?_
          simp
          iterate 2 refine runP_stepQ (by simp [eNs, eN, eNs_length, eI, hi0, hgx, hk0, hgxk]; rfl) ?_
          simp [runP]
          apply J.cond; simp [eNs, eN, eNs_length, eI]
          apply J.skip; simp
          refine J.regE (by simp [eNs, eN, eNs_length, eI, hwk]; rfl) ?_
          simp
          refine ⟨_, ?_, _, ?_, k + 1, ?_, rfl, rfl⟩
          ·omega
          ·apply le_sub <;> simp [eNs, eN, s4]
          ·omega
        ·
         skip
         apply J.exit; simp
         refine J.regE (by simp [eNs, eN, eNs_length, eI, hw]; rfl) ?_
         simp
         refine ⟨_, ?_, _, ?_, i + 1, ?_, rfl, rfl⟩
         ·omega
         ·apply le_sub <;> simp [eNs, eN, s4]
         ·omega
    ·
     try simp at h62
     obtain rfl : i = l.length := by omega
     apply J.exit; simp
     apply J.seq
     refine J.regE (by simp [eNs, eN, eNs_length, eI]; rfl) ?_
     simp
     apply J.ret
     refine ⟨by simp, rfl, _, [], by simp [a4R]; rfl, ?_⟩
     simp
 ·
  try simp only [g25]
  try simp at g25
  iterate 3 refine runL_step rfl (by simp [eNs, eN, eNs_length, eI]; rfl) ?_
  simp [runL]
  apply J.cond; simp [eNs, eN, eNs_length, eI]
  apply J.seq
  refine J.regE (by simp [eNs, eN, eNs_length, eI]; rfl) ?_
  simp
  apply J.ret
  refine ⟨by simp, rfl, _, [], by simp [a4R]; rfl, ?_⟩
  simp
end Go.Proofs.Ytdekelhmneeniaa.F
namespace Go.Proofs.Ytdekelhmneeniaa.F
open Go Go.SX
section
variable {l : List Node} {done : List (Int × Int)} (h7 : ∀ n ∈ l, n.d.length ≤ 7) (hD : Dif l)
include h7 hD in
theorem RN.down {a b : Node} (h : RN l a b) (ha : a ∈ rdy (cnt l []) (miss (cnt l []) [])) : b ∈ rdy (cnt l []) (miss (cnt l []) []) ∧ RN (rdy (cnt l []) (miss (cnt l []) [])) a b := by
 induction h with
 | refl => exact ⟨ha, .refl _⟩
 | @step b c _ hc w ih =>
  obtain ⟨h1, h2⟩ := ih
  obtain ⟨m, hm, e⟩ := ready_waits h7 h1 w (by simp)
  obtain rfl := hD.inj (mem_cnt (mem_rdy hm)).1 hc e
  exact ⟨hm, .step h2 hm w⟩
include h7 hD in
theorem behind {a b : Node} (ha : a ∈ l) (hb : b ∈ l) (w : waits a.d b.i = true) (hr : a.i ∈ readyL l []) :
  b.i ∈ readyL l [] ∧ (plc (readyL l []) a.i < plc (readyL l []) b.i → RN l b a ∧ compN a b < 0) ∧ (RN l b a → plc (readyL l []) b.i < plc (readyL l []) a.i → compN b a < 0) := by
 have ha1 := ready_node hD ha hr
 obtain ⟨hb1, hab⟩ := (RN.one hb w).down h7 hD ha1
 obtain ⟨z, ms, r, N, rfl, rfl, rfl, hN, hp, hpw, hn, -⟩ := ready_all l []
 have haN := hp.mem_iff.2 ha1
 have hbN := hp.mem_iff.2 hb1
 refine ⟨mem_ready.2 ⟨b, hb1, rfl⟩, fun h => ?_, fun hm h => ?_⟩
 ·rw [hN] at h
  obtain ⟨h1, h2⟩ := plc_pw hpw hn haN hbN h hab
  exact ⟨h1.mono (fun n hn => (mem_cnt (mem_rdy hn)).1), h2⟩
 ·rw [hN] at h
  exact (plc_pw hpw hn hbN haN h (hm.down h7 hD hb1).2).2
end
theorem edgs_nat {z : List Node} {e : Int × Int} (h : e ∈ edgs z) : ∃ a b : Nat, e = ((a : Int), (b : Int)) ∧ a < z.length ∧ b < z.length ∧ waits (ndAt z a).d (ndAt z b).i = true := by
 obtain ⟨x, y⟩ := e
 unfold edgs at h
 obtain ⟨j, h1, h2, k, h3, h4, h5⟩ := mem_edR.1 h
 exact ⟨j, k, by rw [h2, h4]; simp, h1, h3, h5⟩
theorem reB_RN {z : List Node} (hz : z.length ≤ 100) (hn : z.Nodup) {a b : Nat} (ha : a < z.length) (hb : b < z.length) : P11.reB (z.length : Nat) (edgs z) (a : Int) (b : Int) = true ↔ RN z (ndAt z a) (ndAt z b) := by
 unfold P11.reB
 have h1 : P11.isT (z.length : Nat) (a : Int) = true := by rw [P11.isT_iff, bN_nat hz]; omega
 have h2 : P11.isT (z.length : Nat) (b : Int) = true := by rw [P11.isT_iff, bN_nat hz]; omega
 rw [h1, h2]
 simpa using rB_RN hz hn ha hb
theorem dif_all {l : List Node} (h : ∀ i j (hi : i < l.length) (hj : j < l.length), j ≠ i → l[j].i ≠ l[i].i) : Dif l := by
 unfold Dif
 rw [List.pairwise_iff_getElem]
 intro i j hi hj hij
 exact h j i hj hi (by omega)
def s8 (l : List Node) (e : List (Int × Int)) (s : Slots) : St := ⟨(0, .ro 4 (eNs l)) :: (5, .own 8067 2 0 e.length) :: s, [(8067, .arr 46 2 (eds e))], []⟩
def I8 (l : List Node) (m : Nat) (st : St) : Prop := ∃ (i : Nat) (e : List (Int × Int)), i ≤ l.length ∧ m = l.length - i ∧ e ++ edR l i (l.drop i) = edgs l ∧ (∀ i' j (hi : i' < l.length) (hj : j < l.length), i' < i → j ≠ i' → l[j].i ≠ l[i'].i) ∧ st = s8 l e [(6, iv i)]
def I8b (l : List Node) (a : Node) (i : Nat) (m : Nat) (st : St) : Prop := ∃ (k : Nat) (e : List (Int × Int)), k ≤ l.length ∧ m = l.length - k ∧ (e ++ edK a i (l.drop k) k) ++ edR l (i + 1) (l.drop (i + 1)) = edgs l ∧ (∀ j (hj : j < l.length), j < k → j ≠ i → l[j].i ≠ a.i) ∧ st = s8 l e [(6, iv i), (7, iv k)]
noncomputable def s8c (l : List Node) (s : Slots) : St := ⟨(0, .ro 4 (eNs l)) :: (5, .ro 2 (eds (edgs l))) :: (8, .ro 2 (eds (readyL l []))) :: s, [], []⟩
def I8c (l : List Node) (m : Nat) (st : St) : Prop := ∃ i : Nat, i ≤ (edgs l).length ∧ m = (edgs l).length - i ∧ st = s8c l [(9, iv i)]
theorem c8 : chkFn Try.prog 8 168 1 a8 a8R = true := by kernel_rfl
set_option maxHeartbeats 4000000 in
theorem d8 (l : List Node) : DoesT 8 [.ro 4 (eNs l)] (bv true) := by
 have hrl := readyL_length l []
 refine Does.of (nt := 168) (ac := a8) (rds := a8R) c8 (fun c hc => ?_)
 unfold a8
 apply J.seq
 refine J.regE (by simp [eNs, eN, eNs_length, eI]; rfl) ?_
 simp
 apply J.seq
 apply J.reg
 refine runL_tree rfl (d9) (by simp) hc ?_
 simp
 refine runL_step rfl (by simp [eNs, eN, eNs_length, eI]; rfl) ?_
 simp [runL]
 apply J.seq
 apply J.reg
 refine runL_step rfl (by simp [eNs, eN, eNs_length, eI]; rfl) ?_
 refine runL_tree rfl (by simpa [eNs] using d10 l) (by simp) hc ?_
 simp
 refine runL_step rfl (by simp [eNs, eN, eNs_length, eI]; rfl) ?_
 simp [runL]
 apply J.seq
 apply J.seq
 apply J.reg
 iterate 6 refine runL_step rfl (by simp [eNs, eN, eNs_length, eI]; rfl) ?_
 simp [runL]
 refine J.condB rfl (fun h21 => ?_) (fun h21 => ?_)
 ·
  skip
  apply J.seq
  refine J.regE (by simp [eNs, eN, eNs_length, eI]; rfl) ?_
  simp
  apply J.ret
  refine ⟨by simp, rfl, _, [], by simp [a8R]; rfl, ?_⟩
  simp
 ·
  try simp at h21
  have hfe : fewN l = true := by simpa using h21
  obtain ⟨hl, hd⟩ := few_le hfe
  obtain ⟨hl30, h7⟩ := few_spec hfe
  have h12 := Does.nil1 (s := 2) (d12 l [] hl (by simp) hd)
  have hel := edgs_length (c := l) (by omega)
  apply J.skip; simp
  apply J.seq
  refine J.regE (by simp [eNs, eN, eNs_length, eI]; rfl) ?_
  simp
  refine J.nilrow hc 5 8067 46 rfl rfl rfl ?_
  simp
  apply J.seq
  apply J.seq
  refine J.regE (by simp [eNs, eN, eNs_length, eI]; rfl) ?_
  simp
  apply J.block
  refine J.loop hc (I8 l) ?_ ?_
  ·exact ⟨_, _, by apply le_sub <;> simp [eNs, s8], 0, [], by omega, rfl, rfl, fun i' j _ _ h => by omega, rfl⟩
  rintro n st ⟨i, e, hi, rfl, hI, hdf, rfl⟩
  unfold s8
  apply J.seq
  apply J.seq
  refine J.regE (by simp [eNs, eN, eNs_length, eI]; rfl) ?_
  simp
  refine J.condB rfl (fun h26 => ?_) (fun h26 => ?_)
  ·
   try simp at h26
   have hi0 : i < l.length := by omega
   obtain ⟨a, hx, hgx, hg, hge, hdr, hw, hlt2, htk⟩ := getL (eN) (show i < l.length by omega) (by omega)
   rw [hdr] at hI
   simp only [edR] at hI
   apply J.skip; simp
   apply J.seq
   apply J.block
   apply J.seq
   refine J.regE (by simp [eNs, eN, eNs_length, eI]; rfl) ?_
   simp
   apply J.block
   refine J.loop hc (I8b l a i) ?_ ?_
   ·refine ⟨_, _, ?_, 0, e, by omega, rfl, by simpa using hI, fun j _ h => by omega, rfl⟩
    apply le_sub <;> simp [eNs, eN, s8]
   rintro n st ⟨k, e, hk, rfl, hI, hne, rfl⟩
   unfold s8
   apply J.seq
   apply J.seq
   refine J.regE (by simp [eNs, eN, eNs_length, eI]; rfl) ?_
   simp
   refine J.condB rfl (fun h32 => ?_) (fun h32 => ?_)
   ·
    try simp at h32
    have hk0 : k < l.length := by omega
    obtain ⟨b, hxk, hgxk, hgk, hgek, hdrk, hwk, hlt2k, htkk⟩ := getL (eN) (show k < l.length by omega) (by omega)
    rw [hdrk] at hI
    simp only [edK] at hI
    apply J.skip; simp
    apply J.seq
    apply J.block
    apply J.seq
    apply J.seq
    apply J.draw; intro c' hc'
    iterate 4 refine runP_stepQ (by simp [eNs, eN, eNs_length, eI, hi0, hgx, hk0, hgxk]; rfl) ?_
    refine runP_if rfl (fun g38 => ?_) (fun g38 => ?_)
    ·
     try simp only [g38]
     try simp at g38
     have hik : ¬ i = k := by omega
     iterate 12 refine runP_stepQ (by simp [eNs, eN, eNs_length, eI, hi0, hgx, hk0, hgxk, hik]; rfl) ?_
     simp [runP]
     refine J.condB rfl (fun h50 => ?_) (fun h50 => ?_)
     ·
      skip
      apply J.seq
      refine J.regE (by simp [eNs, eN, eNs_length, eI]; rfl) ?_
      simp
      apply J.ret
      refine ⟨by simp, rfl, _, [], by simp [a8R]; rfl, ?_⟩
      simp
     ·
      have h50 : ¬ i = k → a.b = b.b → ¬ a.s = b.s := fun hn e1 e2 => by first | exact absurd hik hn | (simp [e1, e2] at h50; done)
      apply J.skip; simp
      apply J.seq
      apply J.draw; intro c' hc'
      iterate 10 refine runP_stepQ (by simp [eNs, eN, eNs_length, eI, hi0, hgx, hk0, hgxk]; rfl) ?_
      refine runP_tree rfl (d20 a.q a.d b.i (hd _ (List.mem_of_getElem? hx))) (by simp) rfl ?_
      simp
      simp [runP]
      refine J.condB rfl (fun h61 => ?_) (fun h61 => ?_)
      ·
       try simp at h61
       rw [h61] at hI
       have hI2 : ((e ++ [((i : Int), (k : Int))]) ++ edK a i (l.drop (k + 1)) (k + 1)) ++ edR l (i + 1) (l.drop (i + 1)) = edgs l := by simpa using hI
       have hlen := app_le hI2
       simp at hlen
       have hne2 : ∀ j (hj : j < l.length), j < k + 1 → j ≠ i → l[j].i ≠ a.i := by
        intro j hj hjk hji
        by_cases e : j = k
        ·subst e; rw [hgxk]; intro e; injection e with e1 e2; exact h50 (fun e => hji e.symm) e1.symm e2.symm
        ·exact hne j hj (by omega) hji
       apply J.reg
       iterate 7 refine runL_step rfl (by simp [eNs, eN, eNs_length, eI, eNs, eN, eNs_length, eI, show (e.length + 1) * 16 ≤ 140737488355328 from by omega, List.take_of_length_le]; rfl) ?_
       simp [runL]
       refine J.regE (by simp [eNs, eN, eNs_length, eI, hwk]; rfl) ?_
       simp
       refine ⟨_, ?_, _, ?_, k + 1, _, ?_, rfl, hI2, hne2, rfl⟩
       ·omega
       ·apply le_sub <;> simp [eNs, eN, s8]
       ·omega
      ·
       try simp at h61
       rw [h61] at hI
       have hI2 : (e ++ edK a i (l.drop (k + 1)) (k + 1)) ++ edR l (i + 1) (l.drop (i + 1)) = edgs l := by simpa using hI
       have hne2 : ∀ j (hj : j < l.length), j < k + 1 → j ≠ i → l[j].i ≠ a.i := by
        intro j hj hjk hji
        by_cases e : j = k
        ·subst e; rw [hgxk]; intro e; injection e with e1 e2; exact h50 (fun e => hji e.symm) e1.symm e2.symm
        ·exact hne j hj (by omega) hji
       apply J.skip; simp
       refine J.regE (by simp [eNs, eN, eNs_length, eI, hwk]; rfl) ?_
       simp
       refine ⟨_, ?_, _, ?_, k + 1, _, ?_, rfl, hI2, hne2, rfl⟩
       ·omega
       ·apply le_sub <;> simp [eNs, eN, s8]
       ·omega
    ·
     try simp only [g38]
     try simp at g38
     have hik : i = k := by omega
     iterate 11 refine runP_stepQ (by simp [eNs, eN, eNs_length, eI, hi0, hgx, hk0, hgxk]; rfl) ?_
     simp [runP]
     refine J.condB rfl (fun h50 => ?_) (fun h50 => ?_)
     ·
      skip
      apply J.seq
      refine J.regE (by simp [eNs, eN, eNs_length, eI]; rfl) ?_
      simp
      apply J.ret
      refine ⟨by simp, rfl, _, [], by simp [a8R]; rfl, ?_⟩
      simp
     ·
      have h50 : ¬ i = k → a.b = b.b → ¬ a.s = b.s := fun hn e1 e2 => by first | exact absurd hik hn | (simp [e1, e2] at h50; done)
      apply J.skip; simp
      apply J.seq
      apply J.draw; intro c' hc'
      iterate 10 refine runP_stepQ (by simp [eNs, eN, eNs_length, eI, hi0, hgx, hk0, hgxk]; rfl) ?_
      refine runP_tree rfl (d20 a.q a.d b.i (hd _ (List.mem_of_getElem? hx))) (by simp) rfl ?_
      simp
      simp [runP]
      refine J.condB rfl (fun h61 => ?_) (fun h61 => ?_)
      ·
       try simp at h61
       rw [h61] at hI
       have hI2 : ((e ++ [((i : Int), (k : Int))]) ++ edK a i (l.drop (k + 1)) (k + 1)) ++ edR l (i + 1) (l.drop (i + 1)) = edgs l := by simpa using hI
       have hlen := app_le hI2
       simp at hlen
       have hne2 : ∀ j (hj : j < l.length), j < k + 1 → j ≠ i → l[j].i ≠ a.i := by
        intro j hj hjk hji
        by_cases e : j = k
        ·subst e; rw [hgxk]; intro e; injection e with e1 e2; exact h50 (fun e => hji e.symm) e1.symm e2.symm
        ·exact hne j hj (by omega) hji
       apply J.reg
       iterate 7 refine runL_step rfl (by simp [eNs, eN, eNs_length, eI, eNs, eN, eNs_length, eI, show (e.length + 1) * 16 ≤ 140737488355328 from by omega, List.take_of_length_le]; rfl) ?_
       simp [runL]
       refine J.regE (by simp [eNs, eN, eNs_length, eI, hwk]; rfl) ?_
       simp
       refine ⟨_, ?_, _, ?_, k + 1, _, ?_, rfl, hI2, hne2, rfl⟩
       ·omega
       ·apply le_sub <;> simp [eNs, eN, s8]
       ·omega
      ·
       try simp at h61
       rw [h61] at hI
       have hI2 : (e ++ edK a i (l.drop (k + 1)) (k + 1)) ++ edR l (i + 1) (l.drop (i + 1)) = edgs l := by simpa using hI
       have hne2 : ∀ j (hj : j < l.length), j < k + 1 → j ≠ i → l[j].i ≠ a.i := by
        intro j hj hjk hji
        by_cases e : j = k
        ·subst e; rw [hgxk]; intro e; injection e with e1 e2; exact h50 (fun e => hji e.symm) e1.symm e2.symm
        ·exact hne j hj (by omega) hji
       apply J.skip; simp
       refine J.regE (by simp [eNs, eN, eNs_length, eI, hwk]; rfl) ?_
       simp
       refine ⟨_, ?_, _, ?_, k + 1, _, ?_, rfl, hI2, hne2, rfl⟩
       ·omega
       ·apply le_sub <;> simp [eNs, eN, s8]
       ·omega
   ·
    try simp at h32
    obtain rfl : k = l.length := by omega
    rw [List.drop_length] at hI
    simp only [edK, List.append_nil] at hI
    have hI2 := hI
    have hdf2 : ∀ i' j (hi : i' < l.length) (hj : j < l.length), i' < i + 1 → j ≠ i' → l[j].i ≠ l[i'].i := by
     intro i' j hi' hj h1 h2
     by_cases e : i' = i
     ·subst e; rw [hgx]; exact hne j hj hj h2
     ·exact hdf i' j hi' hj (by omega) h2
    apply J.exit; simp
    refine J.regE (by simp [eNs, eN, eNs_length, eI, hw]; rfl) ?_
    simp
    refine ⟨_, ?_, _, ?_, i + 1, e, ?_, rfl, hI2, hdf2, rfl⟩
    ·omega
    ·apply le_sub <;> simp [eNs, eN, s8]
    ·omega
  ·
   try simp at h26
   obtain rfl : i = l.length := by omega
   rw [List.drop_length] at hI
   simp only [edR, List.append_nil] at hI
   have hD : Dif l := dif_all (fun i j hi hj hne => hdf i j hi hj hi hne)
   have hnd := hD.nodup
   apply J.exit; simp
   apply J.seq
   refine J.freeze hc 8067 rfl ?_
   simp [List.take_of_length_le]
   rw [hI]
   apply J.reg
   refine runL_step rfl (by simp [eNs, eN, eNs_length, eI]; rfl) ?_
   refine runL_tree rfl (by simpa [eNs] using h12) (by simp) hc ?_
   simp
   refine runL_step rfl (by simp [eNs, eN, eNs_length, eI]; rfl) ?_
   simp [runL]
   apply J.seq
   apply J.seq
   refine J.regE (by simp [eNs, eN, eNs_length, eI]; rfl) ?_
   simp
   apply J.block
   refine J.loop hc (I8c l) ?_ ?_
   ·refine ⟨_, _, ?_, 0, by omega, rfl, rfl⟩
    apply le_sub <;> simp [eNs, eN, s8c]
   rintro n st ⟨i, hi, rfl, rfl⟩
   unfold s8c
   apply J.seq
   apply J.seq
   refine J.regE (by simp [eNs, eN, eNs_length, eI]; rfl) ?_
   simp
   refine J.condB rfl (fun h73 => ?_) (fun h73 => ?_)
   ·
    try simp at h73
    have hi0 : i < (edgs l).length := by omega
    obtain ⟨e, hx, hgx, hg, hge, hdr, hw, hlt2, htk⟩ := getL (fun e : Int × Int => [iv e.1, iv e.2]) (show i < (edgs l).length by omega) (by omega)
    obtain ⟨a, b, rfl, ha, hb, hwt⟩ := edgs_nat (List.mem_of_getElem? hx)
    obtain ⟨na, hna⟩ : ∃ n, ndAt l a = n := ⟨_, rfl⟩
    obtain ⟨nb, hnb⟩ : ∃ n, ndAt l b = n := ⟨_, rfl⟩
    have hga : ∀ h, l[a]'h = na := fun h => by rw [← hna, ndAt_get h]
    have hgb : ∀ h, l[b]'h = nb := fun h => by rw [← hnb, ndAt_get h]
    have hal : na ∈ l := hna ▸ ndAt_mem ha
    have hbl : nb ∈ l := hnb ▸ ndAt_mem hb
    rw [hna, hnb] at hwt
    have hbh := behind h7 hD hal hbl hwt
    obtain ⟨mu, hmu⟩ : ∃ m, P11.reB (l.length : Nat) (edgs l) (b : Int) (a : Int) = m := ⟨_, rfl⟩
    have hmR : mu = true ↔ RN l nb na := by rw [← hmu, reB_RN (by omega) hnd hb ha, hna, hnb]
    have h22 := P11.d17 (l.length : Nat) (edgs l) (b : Int) (a : Int) (by omega)
    rw [hmu] at h22
    obtain ⟨pa, hpa⟩ : ∃ p, plc (readyL l []) na.i = p := ⟨_, rfl⟩
    obtain ⟨pb, hpb⟩ : ∃ p, plc (readyL l []) nb.i = p := ⟨_, rfl⟩
    have h18a := d18p (readyL l []) na.i (by omega)
    rw [hpa] at h18a
    have h18b := d18p (readyL l []) nb.i (by omega)
    rw [hpb] at h18b
    rw [hpa, hpb] at hbh
    have hra : 0 ≤ pa → na.i ∈ readyL l [] := fun h => Classical.byContradiction fun h1 => by have := plc_neg.2 h1; omega
    have hrb : 0 ≤ pa → 0 ≤ pb := fun h => by have h1 := (hbh (hra h)).1; rw [← hpb]; exact Int.not_lt.1 fun h2 => plc_neg.1 h2 h1
    apply J.skip; simp
    apply J.seq
    apply J.block
    apply J.seq
    apply J.reg
    iterate 10 refine runL_step rfl (by simp [eNs, eN, eNs_length, eI, hi0, hgx, ha, hga]; rfl) ?_
    refine runL_tree rfl (by simpa [eI, Node.i] using h18a) (by simp) hc ?_
    simp
    refine runL_step rfl (by simp [eNs, eN, eNs_length, eI, hi0, hgx, ha, hga]; rfl) ?_
    simp [runL]
    apply J.seq
    apply J.reg
    iterate 10 refine runL_step rfl (by simp [eNs, eN, eNs_length, eI, hi0, hgx, hb, hgb]; rfl) ?_
    refine runL_tree rfl (by simpa [eI, Node.i] using h18b) (by simp) hc ?_
    simp
    refine runL_step rfl (by simp [eNs, eN, eNs_length, eI, hi0, hgx, hb, hgb]; rfl) ?_
    simp [runL]
    apply J.seq
    apply J.draw; intro c' hc'
    iterate 13 refine runP_stepQ (by simp [eNs, eN, eNs_length, eI, hi0, hgx]; rfl) ?_
    refine runP_tree rfl (by simpa [eNs] using h22) (by simp) rfl ?_
    simp
    refine runP_stepQ (by simp [eNs, eN, eNs_length, eI, hi0, hgx]; rfl) ?_
    simp [runP]
    apply J.seq
    apply J.seq
    apply J.reg
    iterate 3 refine runL_step rfl (by simp [eNs, eN, eNs_length, eI]; rfl) ?_
    refine runL_if rfl (fun g114 => ?_) (fun g114 => ?_)
    ·
     try simp only [g114]
     try simp at g114
     have hra2 := hra (by simpa using g114)
     have hrb2 := hrb (by simpa using g114)
     obtain ⟨hq1, hq2, hq3⟩ := hbh hra2
     try (exfalso; omega)
     all_goals
      iterate 3 refine runL_step rfl (by simp [eNs, eN, eNs_length, eI]; rfl) ?_
      refine runL_if rfl (fun g117 => ?_) (fun g117 => ?_)
      ·
       try simp only [g117]
       try simp at g117
       try (exfalso; omega)
       all_goals
        iterate 3 refine runL_step rfl (by simp [eNs, eN, eNs_length, eI]; rfl) ?_
        refine runL_if rfl (fun g120 => ?_) (fun g120 => ?_)
        ·
         try simp only [g120]
         try simp at g120
         try (exfalso; omega)
         all_goals
          iterate 6 refine runL_step rfl (by simp [eNs, eN, eNs_length, eI]; rfl) ?_
          simp [runL]
          refine J.condB rfl (fun h126 => ?_) (fun h126 => ?_)
          ·
           exfalso
           have hlt : pa < pb := by simpa using h126
           have := hmR.2 (hq2 hlt).1
           simp [this] at g120
          ·
           skip
           apply J.skip; simp
           apply J.seq
           apply J.draw; intro c' hc'
           iterate 3 refine runP_stepQ (by simp [eNs, eN, eNs_length, eI, hi0, hgx, ha, hga, hb, hgb]; rfl) ?_
           refine runP_if rfl (fun g129 => ?_) (fun g129 => ?_)
           ·
            try simp only [g129]
            try simp at g129
            iterate 3 refine runP_stepQ (by simp [eNs, eN, eNs_length, eI, hi0, hgx, ha, hga, hb, hgb]; rfl) ?_
            refine runP_if rfl (fun g132 => ?_) (fun g132 => ?_)
            ·
             try simp only [g132]
             try simp at g132
             iterate 19 refine runP_stepQ (by simp [eNs, eN, eNs_length, eI, hi0, hgx, ha, hga, hb, hgb]; rfl) ?_
             refine runP_do (by simp) ?_
             refine runP_tree rfl (d16 na nb) (by simp) rfl ?_
             simp
             iterate 3 refine runP_stepQ (by simp [eNs, eN, eNs_length, eI, hi0, hgx, ha, hga, hb, hgb]; rfl) ?_
             refine runP_if rfl (fun g155 => ?_) (fun g155 => ?_)
             ·
              try simp only [g155]
              try simp at g155
              iterate 12 refine runP_stepQ (by simp [eNs, eN, eNs_length, eI, hi0, hgx, ha, hga, hb, hgb]; rfl) ?_
              simp [runP]
              refine J.condB rfl (fun h167 => ?_) (fun h167 => ?_)
              ·
               exfalso
               have hab : ¬ a = b := by intro e; subst e; simp at h167
               have hra2 := hra (by omega)
               obtain ⟨hq1, hq2, hq3⟩ := hbh hra2
               have hmm : RN l nb na := hmR.1 (by first | exact g132 | simpa using g132)
               by_cases hlt : pa < pb
               ·have h2 : lessN na nb = true := (less_iff _ _).2 (hq2 hlt).2
                simp [hlt, h2] at g155
               ·have hne : pa ≠ pb := fun e => by
                 obtain ⟨j, hj, e1, e2⟩ := plc_get hra2
                 obtain ⟨j', hj', e3, e4⟩ := plc_get hq1
                 have hjj : j = j' := by omega
                 subst hjj
                 have e5 := hD.inj hal hbl (e2.symm.trans e4)
                 rw [← hna, ← hnb, ndAt_get ha, ndAt_get hb] at e5
                 exact hab ((List.getElem_inj hnd).1 e5)
                have h1 := hq3 hmm (by omega)
                have h2 : lessN na nb = false := by
                 rw [Bool.eq_false_iff, Ne, less_iff]
                 rw [compN_neg] at *
                 omega
                simp [hlt, h2] at g155
              ·
               skip
               apply J.skip; simp
               refine J.regE (by simp [eNs, eN, eNs_length, eI, hw]; rfl) ?_
               simp
               refine ⟨_, ?_, _, ?_, i + 1, ?_, rfl, rfl⟩
               ·omega
               ·apply le_sub <;> simp [eNs, eN, s8c]
               ·omega
             ·
              try simp only [g155]
              try simp at g155
              iterate 11 refine runP_stepQ (by simp [eNs, eN, eNs_length, eI, hi0, hgx, ha, hga, hb, hgb]; rfl) ?_
              simp [runP]
              apply J.cond; simp [eNs, eN, eNs_length, eI]
              apply J.skip; simp
              refine J.regE (by simp [eNs, eN, eNs_length, eI, hw]; rfl) ?_
              simp
              refine ⟨_, ?_, _, ?_, i + 1, ?_, rfl, rfl⟩
              ·omega
              ·apply le_sub <;> simp [eNs, eN, s8c]
              ·omega
            ·
             try simp only [g132]
             try simp at g132
             iterate 18 refine runP_stepQ (by simp [eNs, eN, eNs_length, eI, hi0, hgx, ha, hga, hb, hgb]; rfl) ?_
             refine runP_skip (b := false) (by simp) (by simp) ?_
             simp
             iterate 15 refine runP_stepQ (by simp [eNs, eN, eNs_length, eI, hi0, hgx, ha, hga, hb, hgb]; rfl) ?_
             simp [runP]
             apply J.cond; simp [eNs, eN, eNs_length, eI]
             apply J.skip; simp
             refine J.regE (by simp [eNs, eN, eNs_length, eI, hw]; rfl) ?_
             simp
             refine ⟨_, ?_, _, ?_, i + 1, ?_, rfl, rfl⟩
             ·omega
             ·apply le_sub <;> simp [eNs, eN, s8c]
             ·omega
           ·
            try simp only [g129]
            try simp at g129
            iterate 21 refine runP_stepQ (by simp [eNs, eN, eNs_length, eI, hi0, hgx, ha, hga, hb, hgb]; rfl) ?_
            refine runP_skip (b := false) (by simp) (by simp) ?_
            simp
            iterate 15 refine runP_stepQ (by simp [eNs, eN, eNs_length, eI, hi0, hgx, ha, hga, hb, hgb]; rfl) ?_
            simp [runP]
            apply J.cond; simp [eNs, eN, eNs_length, eI]
            apply J.skip; simp
            refine J.regE (by simp [eNs, eN, eNs_length, eI, hw]; rfl) ?_
            simp
            refine ⟨_, ?_, _, ?_, i + 1, ?_, rfl, rfl⟩
            ·omega
            ·apply le_sub <;> simp [eNs, eN, s8c]
            ·omega
        ·
         try simp only [g120]
         try simp at g120
         try (exfalso; omega)
         all_goals
          iterate 5 refine runL_step rfl (by simp [eNs, eN, eNs_length, eI]; rfl) ?_
          simp [runL]
          apply J.cond; simp [eNs, eN, eNs_length, eI]
          apply J.skip; simp
          apply J.seq
          apply J.draw; intro c' hc'
          iterate 3 refine runP_stepQ (by simp [eNs, eN, eNs_length, eI, hi0, hgx, ha, hga, hb, hgb]; rfl) ?_
          refine runP_if rfl (fun g129 => ?_) (fun g129 => ?_)
          ·
           try simp only [g129]
           try simp at g129
           iterate 3 refine runP_stepQ (by simp [eNs, eN, eNs_length, eI, hi0, hgx, ha, hga, hb, hgb]; rfl) ?_
           refine runP_if rfl (fun g132 => ?_) (fun g132 => ?_)
           ·
            try simp only [g132]
            try simp at g132
            iterate 19 refine runP_stepQ (by simp [eNs, eN, eNs_length, eI, hi0, hgx, ha, hga, hb, hgb]; rfl) ?_
            refine runP_do (by simp) ?_
            refine runP_tree rfl (d16 na nb) (by simp) rfl ?_
            simp
            iterate 3 refine runP_stepQ (by simp [eNs, eN, eNs_length, eI, hi0, hgx, ha, hga, hb, hgb]; rfl) ?_
            refine runP_if rfl (fun g155 => ?_) (fun g155 => ?_)
            ·
             try simp only [g155]
             try simp at g155
             iterate 12 refine runP_stepQ (by simp [eNs, eN, eNs_length, eI, hi0, hgx, ha, hga, hb, hgb]; rfl) ?_
             simp [runP]
             refine J.condB rfl (fun h167 => ?_) (fun h167 => ?_)
             ·
              exfalso
              have hab : ¬ a = b := by intro e; subst e; simp at h167
              have hra2 := hra (by omega)
              obtain ⟨hq1, hq2, hq3⟩ := hbh hra2
              have hmm : RN l nb na := hmR.1 (by first | exact g132 | simpa using g132)
              by_cases hlt : pa < pb
              ·have h2 : lessN na nb = true := (less_iff _ _).2 (hq2 hlt).2
               simp [hlt, h2] at g155
              ·have hne : pa ≠ pb := fun e => by
                obtain ⟨j, hj, e1, e2⟩ := plc_get hra2
                obtain ⟨j', hj', e3, e4⟩ := plc_get hq1
                have hjj : j = j' := by omega
                subst hjj
                have e5 := hD.inj hal hbl (e2.symm.trans e4)
                rw [← hna, ← hnb, ndAt_get ha, ndAt_get hb] at e5
                exact hab ((List.getElem_inj hnd).1 e5)
               have h1 := hq3 hmm (by omega)
               have h2 : lessN na nb = false := by
                rw [Bool.eq_false_iff, Ne, less_iff]
                rw [compN_neg] at *
                omega
               simp [hlt, h2] at g155
             ·
              skip
              apply J.skip; simp
              refine J.regE (by simp [eNs, eN, eNs_length, eI, hw]; rfl) ?_
              simp
              refine ⟨_, ?_, _, ?_, i + 1, ?_, rfl, rfl⟩
              ·omega
              ·apply le_sub <;> simp [eNs, eN, s8c]
              ·omega
            ·
             try simp only [g155]
             try simp at g155
             iterate 11 refine runP_stepQ (by simp [eNs, eN, eNs_length, eI, hi0, hgx, ha, hga, hb, hgb]; rfl) ?_
             simp [runP]
             apply J.cond; simp [eNs, eN, eNs_length, eI]
             apply J.skip; simp
             refine J.regE (by simp [eNs, eN, eNs_length, eI, hw]; rfl) ?_
             simp
             refine ⟨_, ?_, _, ?_, i + 1, ?_, rfl, rfl⟩
             ·omega
             ·apply le_sub <;> simp [eNs, eN, s8c]
             ·omega
           ·
            try simp only [g132]
            try simp at g132
            iterate 18 refine runP_stepQ (by simp [eNs, eN, eNs_length, eI, hi0, hgx, ha, hga, hb, hgb]; rfl) ?_
            refine runP_skip (b := false) (by simp) (by simp) ?_
            simp
            iterate 15 refine runP_stepQ (by simp [eNs, eN, eNs_length, eI, hi0, hgx, ha, hga, hb, hgb]; rfl) ?_
            simp [runP]
            apply J.cond; simp [eNs, eN, eNs_length, eI]
            apply J.skip; simp
            refine J.regE (by simp [eNs, eN, eNs_length, eI, hw]; rfl) ?_
            simp
            refine ⟨_, ?_, _, ?_, i + 1, ?_, rfl, rfl⟩
            ·omega
            ·apply le_sub <;> simp [eNs, eN, s8c]
            ·omega
          ·
           try simp only [g129]
           try simp at g129
           iterate 21 refine runP_stepQ (by simp [eNs, eN, eNs_length, eI, hi0, hgx, ha, hga, hb, hgb]; rfl) ?_
           refine runP_skip (b := false) (by simp) (by simp) ?_
           simp
           iterate 15 refine runP_stepQ (by simp [eNs, eN, eNs_length, eI, hi0, hgx, ha, hga, hb, hgb]; rfl) ?_
           simp [runP]
           apply J.cond; simp [eNs, eN, eNs_length, eI]
           apply J.skip; simp
           refine J.regE (by simp [eNs, eN, eNs_length, eI, hw]; rfl) ?_
           simp
           refine ⟨_, ?_, _, ?_, i + 1, ?_, rfl, rfl⟩
           ·omega
           ·apply le_sub <;> simp [eNs, eN, s8c]
           ·omega
      ·
       try simp only [g117]
       try simp at g117
       try (exfalso; omega)
       all_goals
        iterate 8 refine runL_step rfl (by simp [eNs, eN, eNs_length, eI]; rfl) ?_
        simp [runL]
        apply J.cond; simp [eNs, eN, eNs_length, eI]
        apply J.seq
        refine J.regE (by simp [eNs, eN, eNs_length, eI]; rfl) ?_
        simp
        apply J.ret
        refine ⟨by simp, rfl, _, [], by simp [a8R]; rfl, ?_⟩
        simp
    ·
     try simp only [g114]
     try simp at g114
     try (exfalso; omega)
     all_goals
      iterate 11 refine runL_step rfl (by simp [eNs, eN, eNs_length, eI]; rfl) ?_
      simp [runL]
      apply J.cond; simp [eNs, eN, eNs_length, eI]
      apply J.skip; simp
      apply J.seq
      apply J.draw; intro c' hc'
      iterate 3 refine runP_stepQ (by simp [eNs, eN, eNs_length, eI, hi0, hgx, ha, hga, hb, hgb]; rfl) ?_
      refine runP_if rfl (fun g129 => ?_) (fun g129 => ?_)
      ·
       try simp only [g129]
       try simp at g129
       iterate 3 refine runP_stepQ (by simp [eNs, eN, eNs_length, eI, hi0, hgx, ha, hga, hb, hgb]; rfl) ?_
       refine runP_if rfl (fun g132 => ?_) (fun g132 => ?_)
       ·
        try simp only [g132]
        try simp at g132
        iterate 19 refine runP_stepQ (by simp [eNs, eN, eNs_length, eI, hi0, hgx, ha, hga, hb, hgb]; rfl) ?_
        refine runP_do (by simp) ?_
        refine runP_tree rfl (d16 na nb) (by simp) rfl ?_
        simp
        iterate 3 refine runP_stepQ (by simp [eNs, eN, eNs_length, eI, hi0, hgx, ha, hga, hb, hgb]; rfl) ?_
        refine runP_if rfl (fun g155 => ?_) (fun g155 => ?_)
        ·
         try simp only [g155]
         try simp at g155
         iterate 12 refine runP_stepQ (by simp [eNs, eN, eNs_length, eI, hi0, hgx, ha, hga, hb, hgb]; rfl) ?_
         simp [runP]
         refine J.condB rfl (fun h167 => ?_) (fun h167 => ?_)
         ·
          exfalso
          have hab : ¬ a = b := by intro e; subst e; simp at h167
          have hra2 := hra (by omega)
          obtain ⟨hq1, hq2, hq3⟩ := hbh hra2
          have hmm : RN l nb na := hmR.1 (by first | exact g132 | simpa using g132)
          by_cases hlt : pa < pb
          ·have h2 : lessN na nb = true := (less_iff _ _).2 (hq2 hlt).2
           simp [hlt, h2] at g155
          ·have hne : pa ≠ pb := fun e => by
            obtain ⟨j, hj, e1, e2⟩ := plc_get hra2
            obtain ⟨j', hj', e3, e4⟩ := plc_get hq1
            have hjj : j = j' := by omega
            subst hjj
            have e5 := hD.inj hal hbl (e2.symm.trans e4)
            rw [← hna, ← hnb, ndAt_get ha, ndAt_get hb] at e5
            exact hab ((List.getElem_inj hnd).1 e5)
           have h1 := hq3 hmm (by omega)
           have h2 : lessN na nb = false := by
            rw [Bool.eq_false_iff, Ne, less_iff]
            rw [compN_neg] at *
            omega
           simp [hlt, h2] at g155
         ·
          skip
          apply J.skip; simp
          refine J.regE (by simp [eNs, eN, eNs_length, eI, hw]; rfl) ?_
          simp
          refine ⟨_, ?_, _, ?_, i + 1, ?_, rfl, rfl⟩
          ·omega
          ·apply le_sub <;> simp [eNs, eN, s8c]
          ·omega
        ·
         try simp only [g155]
         try simp at g155
         iterate 11 refine runP_stepQ (by simp [eNs, eN, eNs_length, eI, hi0, hgx, ha, hga, hb, hgb]; rfl) ?_
         simp [runP]
         apply J.cond; simp [eNs, eN, eNs_length, eI]
         apply J.skip; simp
         refine J.regE (by simp [eNs, eN, eNs_length, eI, hw]; rfl) ?_
         simp
         refine ⟨_, ?_, _, ?_, i + 1, ?_, rfl, rfl⟩
         ·omega
         ·apply le_sub <;> simp [eNs, eN, s8c]
         ·omega
       ·
        try simp only [g132]
        try simp at g132
        iterate 18 refine runP_stepQ (by simp [eNs, eN, eNs_length, eI, hi0, hgx, ha, hga, hb, hgb]; rfl) ?_
        refine runP_skip (b := false) (by simp) (by simp) ?_
        simp
        iterate 15 refine runP_stepQ (by simp [eNs, eN, eNs_length, eI, hi0, hgx, ha, hga, hb, hgb]; rfl) ?_
        simp [runP]
        apply J.cond; simp [eNs, eN, eNs_length, eI]
        apply J.skip; simp
        refine J.regE (by simp [eNs, eN, eNs_length, eI, hw]; rfl) ?_
        simp
        refine ⟨_, ?_, _, ?_, i + 1, ?_, rfl, rfl⟩
        ·omega
        ·apply le_sub <;> simp [eNs, eN, s8c]
        ·omega
      ·
       try simp only [g129]
       try simp at g129
       iterate 21 refine runP_stepQ (by simp [eNs, eN, eNs_length, eI, hi0, hgx, ha, hga, hb, hgb]; rfl) ?_
       refine runP_skip (b := false) (by simp) (by simp) ?_
       simp
       iterate 15 refine runP_stepQ (by simp [eNs, eN, eNs_length, eI, hi0, hgx, ha, hga, hb, hgb]; rfl) ?_
       simp [runP]
       apply J.cond; simp [eNs, eN, eNs_length, eI]
       apply J.skip; simp
       refine J.regE (by simp [eNs, eN, eNs_length, eI, hw]; rfl) ?_
       simp
       refine ⟨_, ?_, _, ?_, i + 1, ?_, rfl, rfl⟩
       ·omega
       ·apply le_sub <;> simp [eNs, eN, s8c]
       ·omega
   ·
    skip
    apply J.exit; simp
    apply J.seq
    refine J.regE (by simp [eNs, eN, eNs_length, eI]; rfl) ?_
    simp
    apply J.ret
    refine ⟨by simp, rfl, _, [], by simp [a8R]; rfl, ?_⟩
    simp
end Go.Proofs.Ytdekelhmneeniaa.F
