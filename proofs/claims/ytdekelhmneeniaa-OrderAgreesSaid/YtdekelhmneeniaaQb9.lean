/- Parts of a symbolic execution and of walks by it, for the statements of this seat: W9, Pl, Aw, W10, SxOp, Opn. -/
import Derived.Test.YtdekelhmneeniaaQb8
import Derived.ChangeShapes
import Derived.OpenShut
import Derived.ChangeArms
import Derived.ChangeSame
import Derived.Lib.SmallJoins
set_option linter.unusedVariables false
set_option linter.unusedSimpArgs false
namespace Go.Proofs.Ytdekelhmneeniaa.F
open Go Go.SX
def s12 (r : List Node) (ps : List (List Nat)) (o : List (Int × Int)) (i : Nat) (s : Slots) (m : Mem) : St := ⟨(0, .ro 4 (eNs r)) :: (5, .own 12057 2 0 o.length) :: (25, .ro 1 (rws ps)) :: (26, iv ps.length) :: (27, iv i) :: s, (12057, .arr 25 2 (eds o)) :: m, []⟩
def I12 (r : List Node) (ps : List (List Nat)) (m : Nat) (st : St) : Prop := ∃ (i : Nat) (o : List (Int × Int)), i ≤ ps.length ∧ m = ps.length - i ∧ o ++ readyR r (ps.drop i) = readyR r ps ∧ st = s12 r ps o i [] []
def I12b (r : List Node) (ps : List (List Nat)) (o : List (Int × Int)) (i : Nat) (p : List Nat) (m : Nat) (st : St) : Prop := ∃ k : Nat, k ≤ p.length ∧ m = p.length - k ∧ st = s12 r ps o i [(8, .own 12043 4 0 ((p.take k).map (ndAt r)).length), (31, .ro 1 (nats p)), (32, iv p.length), (33, iv k)] [(12043, .arr 30 4 (eNs ((p.take k).map (ndAt r))))]
def I12c (r : List Node) (ps : List (List Nat)) (o : List (Int × Int)) (i : Nat) (q : List Node) (m : Nat) (st : St) : Prop := ∃ j : Nat, j ≤ q.length ∧ m = q.length - j ∧ st = s12 r ps (o ++ insL (q.take j)) i [(47, .ro 4 (eNs q)), (48, iv q.length), (49, iv j)] []
theorem c12 : chkFn Try.prog 12 61 2 a12 a12R = true := by kernel_rfl
theorem d12 (l : List Node) (done : List (Int × Int)) (hl : l.length < 1000000) (hdn : done.length < 1000000) (hd : ∀ n ∈ l, n.d.length < 1000000) : DoesT 12 [.ro 4 (eNs l), .ro 2 (eds done)] (.ro 2 (eds (readyL l done))) := by
 obtain ⟨z, hz⟩ : ∃ z, cnt l done = z := ⟨_, rfl⟩
 obtain ⟨ms, hms⟩ : ∃ ms, miss z done = ms := ⟨_, rfl⟩
 obtain ⟨r, hr⟩ : ∃ r, rdy z ms = r := ⟨_, rfl⟩
 obtain ⟨ps, hps⟩ : ∃ ps, P11.compsL (r.length : Nat) (edgs r) = ps := ⟨_, rfl⟩
 have hzl : z.length ≤ 100 := hz ▸ cnt_few l done
 have hzd : ∀ n ∈ z, n.d.length < 1000000 := fun n hn => hd n (mem_cnt (hz ▸ hn)).1
 have hzn : ∀ n ∈ z, near n = true := fun n hn => (mem_cnt (hz ▸ hn)).2.1
 have hml : ms.length ≤ 420 := hms ▸ miss_length z done
 have hrl : r.length ≤ 100 := by have := rdy_length z ms; rw [hr] at this; omega
 have hrd : ∀ n ∈ r, n.d.length < 1000000 := fun n hn => hzd n (mem_rdy (hr ▸ hn))
 have hri : ∀ a ∈ r, ∀ b ∈ r, a.i = b.i → a = b := fun a ha b hb h => pick_inj (hz ▸ mem_rdy (hr ▸ ha)) (hz ▸ mem_rdy (hr ▸ hb)) h
 have hel := edgs_length (c := r) (by omega)
 have hpb : ∀ p ∈ ps, ∀ v ∈ p, v < r.length := fun p hp v hv => compsL_bd (hps ▸ hp) hrl hv
 have hpl := P11.compsL_small (r.length : Nat) (edgs r)
 rw [hps] at hpl
 have hRL : readyL l done = readyR r ps := by unfold readyL; rw [hz, hms, hr, hps]
 have hsum : (readyR r ps).length ≤ 100 := by rw [readyR_length, ← hps]; exact compsL_sum _ _
 have h23 := d23 l done hl hdn hd
 rw [hz] at h23
 have h25 := d25 z done (by omega) hdn hzd hzn
 rw [hms] at h25
 have h24 := d24 z ms hzl (by omega) hzd
 rw [hr] at h24
 have h27 := d27 r (by omega) hrd
 have h26 := P11.d12 (r.length : Nat) (edgs r) (by omega)
 rw [hps] at h26
 rw [hRL]
 refine Does.of (nt := 61) (ac := a12) (rds := a12R) c12 (fun c hc => ?_)
 unfold a12
 apply J.seq
 refine J.regE (by simp [eNs, eN, eNs_length, eI]; rfl) ?_
 simp
 apply J.seq
 apply J.reg
 iterate 2 refine runL_step rfl (by simp [eNs, eN, eNs_length, eI]; rfl) ?_
 refine runL_tree rfl (by simpa [eNs] using h23) (by simp) hc ?_
 simp
 refine runL_step rfl (by simp [eNs, eN, eNs_length, eI]; rfl) ?_
 simp [runL]
 apply J.seq
 apply J.reg
 iterate 3 refine runL_step rfl (by simp [eNs, eN, eNs_length, eI]; rfl) ?_
 refine runL_tree rfl (by simpa [eNs] using h25) (by simp) hc ?_
 simp
 refine runL_tree rfl (by simpa [eNs] using h24) (by simp) hc ?_
 simp
 refine runL_step rfl (by simp [eNs, eN, eNs_length, eI]; rfl) ?_
 simp [runL]
 apply J.seq
 refine J.regE (by simp [eNs, eN, eNs_length, eI]; rfl) ?_
 simp
 refine J.nilrow hc 5 12057 25 rfl rfl rfl ?_
 simp
 apply J.seq
 apply J.seq
 apply J.reg
 iterate 3 refine runL_step rfl (by simp [eNs, eN, eNs_length, eI]; rfl) ?_
 refine runL_tree rfl (by simpa [eNs] using h27) (by simp) hc ?_
 simp
 refine runL_tree rfl (by simpa [eNs] using h26) (by simp) hc ?_
 simp
 iterate 2 refine runL_step rfl (by simp [eNs, eN, eNs_length, eI]; rfl) ?_
 simp [runL]
 apply J.block
 refine J.loop hc (I12 r ps) ?_ ?_
 ·exact ⟨_, _, by apply le_sub <;> simp [eNs, s12], 0, [], by omega, rfl, rfl, rfl⟩
 rintro n st ⟨i, o, hi, rfl, hI, rfl⟩
 unfold s12
 apply J.seq
 refine J.regE (by simp [eNs, eN, eNs_length, eI]; rfl) ?_
 simp
 apply J.seq
 refine J.condB rfl (fun h28 => ?_) (fun h28 => ?_)
 ·
  try simp at h28
  have hi0 : i < ps.length := by omega
  obtain ⟨p, hx, hgx, hg, hge, hdr, hw, hlt2, htk⟩ := getL (fun p => [.ro 1 (nats p)]) (show i < ps.length by omega) (by omega)
  rw [hdr] at hI
  have hpm := List.mem_of_getElem? hx
  have hpn := hpl.2 p hpm
  have hpv := hpb p hpm
  have hI2 : (o ++ partL r p) ++ readyR r (ps.drop (i + 1)) = readyR r ps := by rw [← hI]; simp [readyR]
  have hlen := len_pre hI2
  simp at hlen
  have hsl : (srt (p.map (ndAt r))).length = p.length := by simp [srt_length]
  have hpL : (partL r p).length = p.length := by simp [partL, insL, hsl]
  have hpi : ∀ a ∈ p.map (ndAt r), ∀ b ∈ p.map (ndAt r), a.i = b.i → a = b := fun a ha b hb h => by
   obtain ⟨u, hu, rfl⟩ := List.mem_map.1 ha
   obtain ⟨v, hv, rfl⟩ := List.mem_map.1 hb
   exact hri _ (ndAt_mem (hpv u hu)) _ (ndAt_mem (hpv v hv)) h
  apply J.skip; simp
  apply J.seq
  apply J.block
  apply J.seq
  refine J.regE (by simp [eNs, eN, eNs_length, eI, hi0, hgx]; rfl) ?_
  simp
  apply J.seq
  refine J.regE (by simp [eNs, eN, eNs_length, eI]; rfl) ?_
  simp
  refine J.nilrow hc 8 12043 30 rfl rfl rfl ?_
  simp
  apply J.seq
  apply J.seq
  refine J.regE (by simp [eNs, eN, eNs_length, eI]; rfl) ?_
  simp
  apply J.block
  refine J.loop hc (I12b r ps o i p) ?_ ?_
  ·refine ⟨_, _, ?_, 0, by omega, rfl, rfl⟩
   apply le_sub <;> simp [eNs, eN, s12]
  rintro n st ⟨k, hk, rfl, rfl⟩
  unfold s12
  apply J.seq
  refine J.regE (by simp [eNs, eN, eNs_length, eI]; rfl) ?_
  simp
  apply J.seq
  refine J.condB rfl (fun h34 => ?_) (fun h34 => ?_)
  ·
   try simp at h34
   have hk0 : k < p.length := by omega
   obtain ⟨v, hxk, hgxk, hgk, hgek, hdrk, hwk, hlt2k, htkk⟩ := getL (fun x : Nat => [iv (x : Int)]) (show k < p.length by omega) (by omega)
   have hv := hpv v (List.mem_of_getElem? hxk)
   have hndv : ∀ h, r[v]'h = ndAt r v := fun h => by simp [ndAt, h]
   have hkl : min k p.length = k := by omega
   apply J.skip; simp
   apply J.seq
   apply J.block
   apply J.seq
   refine J.regE (by simp [eNs, eN, eNs_length, eI, hk0, hgxk]; rfl) ?_
   simp
   apply J.reg
   iterate 8 refine runL_step rfl (by simp [eNs, eN, eNs_length, eI, eNs, eNs_length, eI, hv, hndv, hkl, show (k + 1) * 48 ≤ 140737488355328 from by omega, List.take_of_length_le]; rfl) ?_
   simp [runL]
   refine J.regE (by simp [eNs, eN, eNs_length, eI, hwk]; rfl) ?_
   simp
   refine ⟨_, ?_, _, ?_, k + 1, ?_, rfl, rfl⟩
   ·omega
   ·apply le_sub <;> simp [eNs, eN, s12, htkk, hkl]
   ·omega
  ·
   try simp at h34
   obtain rfl : k = p.length := by omega
   obtain ⟨q, hq⟩ : ∃ q, p.map (ndAt r) = q := ⟨_, rfl⟩
   have hql : q.length = p.length := by rw [← hq]; simp
   rw [show min p.length p.length = q.length by omega, List.take_of_length_le (i := p.length) (l := List.map (eN ∘ ndAt r) p) (by simp), show List.map (eN ∘ ndAt r) p = eNs q by rw [← hq]; simp [eNs]]
   apply J.exit; simp
   apply J.seq
   apply J.reg
   refine runL_step rfl (by simp [eNs, eN, eNs_length, eI]; rfl) ?_
   refine runL_call [12043] [12043] rfl rfl (d28C 12043 q [12043] (by omega)) (by simp) (by simp) (by simp) hc ?_
   rintro rv m1 ⟨rfl, l', hp', hs', rfl⟩
   refine ⟨by simp, ?_⟩
   try simp only [callSt, dropAll, killAll]
   simp
   simp [runL]
   have hll := hp'.length_eq
   obtain rfl := srt_of_sorted (hq ▸ hpi) hp' hs'
   rw [← hll]
   have hpe : partL r p = insL (srt q) := by unfold partL; rw [hq]
   obtain ⟨w, hw'⟩ : ∃ w, srt q = w := ⟨_, rfl⟩
   rw [hw'] at hpe hll ⊢
   have hwl : w.length = p.length := by omega
   apply J.seq
   refine J.freeze hc 12043 rfl ?_
   simp [eNs, List.take_of_length_le]
   refine J.regE (by simp [eNs, eN, eNs_length, eI]; rfl) ?_
   simp
   apply J.block
   refine J.loop hc (I12c r ps o i w) ?_ ?_
   ·refine ⟨_, _, ?_, 0, by omega, rfl, rfl⟩
    apply le_sub <;> simp [eNs, eN, s12, insL]
   rintro n st ⟨j, hj, rfl, rfl⟩
   unfold s12
   apply J.seq
   refine J.regE (by simp [eNs, eN, eNs_length, eI]; rfl) ?_
   simp
   apply J.seq
   refine J.condB rfl (fun h50 => ?_) (fun h50 => ?_)
   ·
    try simp [eNs_length] at h50
    have hj0 : j < w.length := by omega
    obtain ⟨y, hxj, hgxj, hgj, hgej, hdrj, hwj, hlt2j, htkj⟩ := getL (eN) (show j < w.length by omega) (by omega)
    have hjl : min j w.length = j := by omega
    have hol : (insL (w.take j)).length = j := by simp [insL, hjl]
    apply J.skip; simp
    apply J.seq
    apply J.block
    apply J.seq
    refine J.regE (by simp [eNs, eN, eNs_length, eI, hj0, hgxj]; rfl) ?_
    simp
    apply J.reg
    iterate 6 refine runL_step rfl (by simp [eNs, eN, eNs_length, eI, eNs, eN, eNs_length, eI, hol, show (o.length + j + 1) * 16 ≤ 140737488355328 from by omega, List.take_of_length_le]; rfl) ?_
    simp [runL]
    refine J.regE (by simp [eNs, eN, eNs_length, eI, hwj]; rfl) ?_
    simp
    refine ⟨_, ?_, _, ?_, j + 1, ?_, rfl, rfl⟩
    ·omega
    ·apply le_sub <;> simp [eNs, eN, s12, htkj, insL, Node.i, hjl, Nat.add_assoc]
    ·omega
   ·
    try simp [eNs_length] at h50
    obtain rfl : j = w.length := by omega
    rw [List.take_length]
    apply J.exit; simp
    refine J.regE (by simp [eNs, eN, eNs_length, eI, hw]; rfl) ?_
    simp
    refine ⟨_, ?_, _, ?_, i + 1, _, ?_, rfl, hI2, rfl⟩
    ·omega
    ·rw [hpe]
     apply le_sub <;> simp [eNs, eN, s12]
    ·omega
 ·
  try simp at h28
  obtain rfl : i = ps.length := by omega
  rw [List.drop_length] at hI
  simp only [readyR, List.flatMap_nil, List.append_nil] at hI
  apply J.exit; simp
  apply J.seq
  refine J.freeze hc 12057 rfl ?_
  simp
  refine J.regE (by simp [eNs, eN, eNs_length, eI]; rfl) ?_
  simp
  apply J.ret
  refine ⟨by simp, rfl, _, [], by simp [a12R]; rfl, ?_⟩
  simp [hI, readyR]
inductive RN (z : List Node) : Node → Node → Prop
  | refl (a : Node) : RN z a a
  | step {a b c : Node} (h : RN z a b) (hc : c ∈ z) (w : waits b.d c.i = true) : RN z a c
theorem RN.trans {z : List Node} {a b c : Node} (h : RN z a b) (k : RN z b c) : RN z a c := by
  induction k with
  | refl => exact h
  | step _ hc w ih => exact .step ih hc w
theorem RN.one {z : List Node} {a b : Node} (hb : b ∈ z) (w : waits a.d b.i = true) : RN z a b := .step (.refl a) hb w
theorem RN.mem {z : List Node} {a b : Node} (h : RN z a b) (ha : a ∈ z) : b ∈ z := by
  cases h with
  | refl => exact ha
  | step _ hc _ => exact hc
theorem RN.mono {z z' : List Node} (hz : ∀ n ∈ z, n ∈ z') {a b : Node} (h : RN z a b) : RN z' a b := by
  induction h with
  | refl => exact .refl _
  | step _ hc w ih => exact .step ih (hz _ hc) w
theorem ndAt_get {z : List Node} {i : Nat} (h : i < z.length) : ndAt z i = z[i] := by simp [ndAt, h]
theorem bN_nat {n : Nat} (h : n ≤ 100) : P11.bN (n : Nat) = n := by unfold P11.bN; rw [if_neg (by omega), if_neg (by omega)]; simp
theorem rB_RN {z : List Node} (hz : z.length ≤ 100) (hn : z.Nodup) {i k : Nat} (hi : i < z.length) (hk : k < z.length) : P11.rB (z.length : Nat) (edgs z) i k = true ↔ RN z (ndAt z i) (ndAt z k) := by
  rw [P11.rB_iff]
  constructor
  · intro h
    clear hk
    induction h with
    | refl => exact .refl _
    | @step v w _ e ih =>
      obtain ⟨h1, h2, h3⟩ := e
      obtain ⟨g1, g2, g3⟩ := mem_edgs.1 h3
      exact .step ih (ndAt_mem g2) g3
  · intro h
    generalize ha : ndAt z i = a at h
    generalize hc : ndAt z k = c at h
    induction h generalizing k with
    | refl =>
      subst ha
      rw [ndAt_get hi, ndAt_get hk] at hc
      obtain rfl := (List.getElem_inj hn).1 hc
      exact .refl _
    | @step b c h hcm w ih =>
      have hb : b ∈ z := h.mem (ha ▸ ndAt_mem hi)
      obtain ⟨j, hj, e⟩ := List.mem_iff_getElem.1 hb
      have hj' : ndAt z j = b := by rw [ndAt_get hj]; exact e
      refine .step (ih hj hj') ⟨by rw [bN_nat hz]; exact hj, by rw [bN_nat hz]; exact hk, mem_edgs.2 ⟨hj, hk, ?_⟩⟩
      rw [hj', hc]; exact w
theorem mem_clos {z : List Node} (hz : z.length ≤ 100) (hn : z.Nodup) {i k : Nat} (hi : i < z.length) : k ∈ P11.clos (z.length : Nat) (edgs z) (i : Nat) ↔ k < z.length ∧ RN z (ndAt z i) (ndAt z k) := by
  unfold P11.clos P11.pk P11.fromL
  rw [if_pos (by rw [P11.isT_iff, bN_nat hz]; omega), bN_nat hz, List.mem_filter, List.mem_range]
  refine and_congr_right fun hk => ?_
  rw [← rB_RN hz hn hi hk]
  simp [hk]
theorem mem_rdyR_iff {z : List Node} {ms : List (Int × Int)} {n : Node} : ∀ {l : List Node} {i : Nat}, n ∈ rdyR z ms i l ↔ ∃ j : Nat, ∃ h : j < l.length, l[j] = n ∧ okB z ms (i + j) = true
  | [], i => by simp [rdyR]
  | a :: r, i => by
    simp only [rdyR, List.mem_append, mem_rdyR_iff (l := r)]
    constructor
    · rintro (h | ⟨j, h1, h2, h3⟩)
      · split at h
        · simp at h; exact ⟨0, by simp, by simp [h], by assumption⟩
        · simp at h
      · exact ⟨j + 1, by simpa using h1, by simpa using h2, by rw [← h3]; congr 1; omega⟩
    · rintro ⟨j, h1, h2, h3⟩
      cases j with
      | zero => left; rw [if_pos (by simpa using h3)]; simpa using h2.symm
      | succ j => right; exact ⟨j, by simpa using h1, by simpa using h2, by rw [← h3]; congr 1; omega⟩
theorem mem_rdy_iff {z : List Node} {ms : List (Int × Int)} (hz : z.length ≤ 100) (hn : z.Nodup) {n : Node} : n ∈ rdy z ms ↔ n ∈ z ∧ ∀ y, RN z n y → lacks ms y = false := by
  unfold rdy
  rw [mem_rdyR_iff]
  constructor
  · rintro ⟨j, h1, rfl, h3⟩
    refine ⟨List.getElem_mem h1, fun y hy => ?_⟩
    have hy2 := hy.mem (List.getElem_mem h1)
    obtain ⟨k, hk, rfl⟩ := List.mem_iff_getElem.1 hy2
    simp only [okB, Nat.zero_add, Bool.not_eq_true', List.any_eq_false] at h3
    have := h3 k ((mem_clos hz hn h1).2 ⟨hk, by rw [ndAt_get h1, ndAt_get hk]; exact hy⟩)
    rw [ndAt_get hk] at this
    simpa using this
  · rintro ⟨h1, h2⟩
    obtain ⟨j, hj, rfl⟩ := List.mem_iff_getElem.1 h1
    refine ⟨j, hj, rfl, ?_⟩
    simp only [okB, Nat.zero_add, Bool.not_eq_true', List.any_eq_false]
    intro k hk
    obtain ⟨g1, g2⟩ := (mem_clos hz hn hj).1 hk
    rw [ndAt_get hj] at g2
    simp [h2 _ g2]
theorem rdyR_sub (z : List Node) (ms : List (Int × Int)) : ∀ (l : List Node) (i : Nat), (rdyR z ms i l).Sublist l
  | [], _ => by simp [rdyR]
  | a :: r, i => by
    simp only [rdyR]
    split
    · exact (rdyR_sub z ms r (i + 1)).cons_cons a
    · exact (rdyR_sub z ms r (i + 1)).cons a
theorem rdy_sub (z : List Node) (ms : List (Int × Int)) : (rdy z ms).Sublist z := rdyR_sub z ms z 0
noncomputable def nodesR (r : List Node) : List Node := (P11.compsL (r.length : Nat) (edgs r)).flatMap fun p => srt (p.map (ndAt r))
theorem readyR_insL (r : List Node) (ps : List (List Nat)) : readyR r ps = insL (ps.flatMap fun p => srt (p.map (ndAt r))) := by
  induction ps with
  | nil => rfl
  | cons p q ih => simp only [readyR, List.flatMap_cons, insL, List.map_append] at ih ⊢; rw [ih]; rfl
theorem nodesR_pw {r : List Node} (hr : r.length ≤ 100) (hn : r.Nodup) (hi : ∀ a ∈ r, ∀ b ∈ r, a.i = b.i → a = b) : (nodesR r).Pairwise fun a b => RN r a b → RN r b a ∧ compN a b < 0 := by
  obtain ⟨h1, h2, h3, h4⟩ := P11.compsL_spec (r.length : Nat) (edgs r)
  have hb : ∀ p ∈ P11.compsL (r.length : Nat) (edgs r), ∀ v ∈ p, v < r.length := fun p hp v hv => by
    have := (h2 v).1 (List.mem_flatten.2 ⟨p, hp, hv⟩)
    rwa [bN_nat hr] at this
  unfold nodesR
  rw [List.pairwise_flatMap]
  constructor
  · intro p hp
    have hpn : p.Nodup := by
      rw [List.nodup_iff_pairwise_ne, List.pairwise_flatten] at h3
      exact List.nodup_iff_pairwise_ne.2 (h3.1 p hp)
    have hmap : (p.map (ndAt r)).Nodup := by
      rw [List.nodup_iff_pairwise_ne, List.pairwise_map]
      refine (List.nodup_iff_pairwise_ne.1 hpn).imp_of_mem (fun {a b} ha hb' hne e => ?_)
      rw [ndAt_get (hb p hp a ha), ndAt_get (hb p hp b hb')] at e
      exact hne ((List.getElem_inj hn).1 e)
    have hs := srt_sorted (p.map (ndAt r))
    have hnd : (srt (p.map (ndAt r))).Nodup := (srt_perm _).nodup_iff.2 hmap
    refine (hs.and (List.nodup_iff_pairwise_ne.1 hnd)).imp_of_mem (fun {a b} ha hb' h _ => ?_)
    obtain ⟨u, hu, rfl⟩ := List.mem_map.1 ((srt_perm _).mem_iff.1 ha)
    obtain ⟨v, hv, rfl⟩ := List.mem_map.1 ((srt_perm _).mem_iff.1 hb')
    have hul := hb p hp u hu
    have hvl := hb p hp v hv
    obtain ⟨kk, hk, e⟩ := h1 p hp
    have hm : ∀ x ∈ p, P11.rB (r.length : Nat) (edgs r) kk x = true ∧ P11.rB (r.length : Nat) (edgs r) x kk = true := fun x hx => by rw [e] at hx; exact (P11.mem_cls.1 hx).2
    have hvu := P11.rB_trans _ _ _ _ _ (hm v hv).2 (hm u hu).1
    refine ⟨(rB_RN hr hn hvl hul).1 hvu, ?_⟩
    have hne : (ndAt r u).i ≠ (ndAt r v).i := fun e => h.2 (hi _ (ndAt_mem hul) _ (ndAt_mem hvl) e)
    have h5 := h.1
    rw [compN_neg] at h5 ⊢
    have : ¬ ((ndAt r u).b = (ndAt r v).b ∧ (ndAt r u).s = (ndAt r v).s) := fun h => hne (Prod.ext h.1 h.2)
    omega
  · refine h4.imp_of_mem (fun {p q} hp hq h => ?_)
    intro a ha b hb' hab
    obtain ⟨u, hu, rfl⟩ := List.mem_map.1 ((srt_perm _).mem_iff.1 ha)
    obtain ⟨v, hv, rfl⟩ := List.mem_map.1 ((srt_perm _).mem_iff.1 hb')
    have := (rB_RN hr hn (hb p hp u hu) (hb q hq v hv)).2 hab
    rw [h u hu v hv] at this; cases this
theorem flat_srt_perm (r : List Node) : ∀ ps : List (List Nat), (ps.flatMap fun p => srt (p.map (ndAt r))).Perm (ps.flatten.map (ndAt r))
  | [] => List.Perm.refl _
  | p :: q => by
    rw [List.flatMap_cons, List.flatten_cons, List.map_append]
    exact (srt_perm _).append (flat_srt_perm r q)
theorem map_ndAt (r : List Node) : (List.range r.length).map (ndAt r) = r := by
  apply List.ext_getElem
  · simp
  · intro i h1 h2
    simp [ndAt_get h2]
theorem nodesR_perm {r : List Node} (hr : r.length ≤ 100) : (nodesR r).Perm r := by
  obtain ⟨h1, h2, h3, h4⟩ := P11.compsL_spec (r.length : Nat) (edgs r)
  refine (flat_srt_perm r _).trans ?_
  have hp : (P11.compsL (r.length : Nat) (edgs r)).flatten.Perm (List.range r.length) := (List.perm_ext_iff_of_nodup h3 List.nodup_range).2 (fun v => by rw [h2, bN_nat hr, List.mem_range])
  have := hp.map (ndAt r)
  rwa [map_ndAt] at this
theorem ready_all (l : List Node) (done : List (Int × Int)) : ∃ z ms r N, cnt l done = z ∧ miss z done = ms ∧ rdy z ms = r ∧ readyL l done = insL N ∧ N.Perm r ∧ (N.Pairwise fun a b => RN r a b → RN r b a ∧ compN a b < 0) ∧ (insL N).Nodup ∧ z.Nodup ∧ z.length ≤ 100 ∧
    (∀ n, n ∈ r ↔ n ∈ z ∧ ∀ y, RN z n y → lacks ms y = false) ∧ (∀ a ∈ z, ∀ b ∈ z, a.i = b.i → a = b) := by
  have hz := cnt_few l done
  have hn := nodup_of_insL (cnt_nodup l done)
  have hs := rdy_sub (cnt l done) (miss (cnt l done) done)
  have hrl := rdy_length (cnt l done) (miss (cnt l done) done)
  have hinj : ∀ a ∈ cnt l done, ∀ b ∈ cnt l done, a.i = b.i → a = b := fun a ha b hb h => pick_inj ha hb h
  have hrn := hn.sublist hs
  refine ⟨_, _, _, nodesR (rdy (cnt l done) (miss (cnt l done) done)), rfl, rfl, rfl, ?_, nodesR_perm (by omega), nodesR_pw (by omega) hrn (fun a ha b hb => hinj a (mem_rdy ha) b (mem_rdy hb)), ?_, hn, hz, fun n => mem_rdy_iff hz hn, hinj⟩
  · unfold readyL; rw [readyR_insL]; rfl
  · have h1 : (insL (rdy (cnt l done) (miss (cnt l done) done))).Nodup := (cnt_nodup l done).sublist (hs.map Node.i)
    have h2 : (insL (nodesR (rdy (cnt l done) (miss (cnt l done) done)))).Perm (insL (rdy (cnt l done) (miss (cnt l done) done))) := (nodesR_perm (by omega)).map Node.i
    exact h2.nodup_iff.2 h1
theorem mem_ready {l : List Node} {done : List (Int × Int)} {x : Int × Int} : x ∈ readyL l done ↔ ∃ n ∈ rdy (cnt l done) (miss (cnt l done) done), n.i = x := by
  obtain ⟨z, ms, r, N, rfl, rfl, rfl, h1, h2, -⟩ := ready_all l done
  rw [h1, insL, List.mem_map]
  constructor
  · rintro ⟨n, h3, h4⟩; exact ⟨n, h2.mem_iff.1 h3, h4⟩
  · rintro ⟨n, h3, h4⟩; exact ⟨n, h2.mem_iff.2 h3, h4⟩
theorem waits_slot {n : Node} {x : Int × Int} (h : near n = true) (hd : n.d.length ≤ 7) (w : waits n.d x = true) : x ∈ slots := by
  obtain ⟨g1, j, g2, g3, g4⟩ := waits_iff.1 w
  have := near_dep h g2
  rw [mem_slots]; omega
theorem mem_miss {z : List Node} {done : List (Int × Int)} {x : Int × Int} : x ∈ miss z done ↔ x ∈ slots ∧ (∃ n ∈ z, waits n.d x = true) ∧ x ∉ insL z ∧ x ∉ done := by
  simp only [miss, List.mem_filter, misB, Bool.and_eq_true, Bool.not_eq_true', decide_eq_false_iff_not, List.any_eq_true, and_assoc]
theorem lacks_false {ms : List (Int × Int)} {n : Node} : lacks ms n = false ↔ ∀ x ∈ ms, waits n.d x = false := by simp [lacks]
theorem ready_waits {l : List Node} {done : List (Int × Int)} (hl7 : ∀ n ∈ l, n.d.length ≤ 7) {n : Node} (hn : n ∈ rdy (cnt l done) (miss (cnt l done) done)) {x : Int × Int} (w : waits n.d x = true) (hx : x ∉ done) : ∃ m ∈ rdy (cnt l done) (miss (cnt l done) done), m.i = x := by
  obtain ⟨z, ms, r, N, rfl, rfl, rfl, -, -, -, -, hzn, hz, hr, -⟩ := ready_all l done
  obtain ⟨h1, h2⟩ := (hr n).1 hn
  have h3 := mem_cnt h1
  have hsl := waits_slot h3.2.1 (hl7 n h3.1) w
  have h4 : x ∈ insL (cnt l done) := by
    apply Classical.byContradiction
    intro h
    have := lacks_false.1 (h2 n (.refl n)) x (mem_miss.2 ⟨hsl, ⟨n, h1, w⟩, h, hx⟩)
    rw [w] at this; cases this
  obtain ⟨m, hm, rfl⟩ := List.mem_map.1 h4
  exact ⟨m, (hr m).2 ⟨hm, fun y hy => h2 y ((RN.one hm w).trans hy)⟩, rfl⟩
def Dif (l : List Node) : Prop := l.Pairwise fun a b => a.i ≠ b.i
theorem Dif.inj {l : List Node} (h : Dif l) {a b : Node} (ha : a ∈ l) (hb : b ∈ l) (e : a.i = b.i) : a = b := by
  obtain ⟨i, hi, rfl⟩ := List.mem_iff_getElem.1 ha
  obtain ⟨j, hj, rfl⟩ := List.mem_iff_getElem.1 hb
  rcases Nat.lt_trichotomy i j with h1 | rfl | h1
  · exact absurd e (List.pairwise_iff_getElem.1 h i j hi hj h1)
  · rfl
  · exact absurd e.symm (List.pairwise_iff_getElem.1 h j i hj hi h1)
theorem Dif.nodup {l : List Node} (h : Dif l) : l.Nodup := List.nodup_iff_pairwise_ne.2 (h.imp fun {a b} h e => h (by rw [e]))
theorem Dif.cnt {l : List Node} {done : List (Int × Int)} (h : Dif l) (hl : l.length ≤ 100) {n : Node} : n ∈ F.cnt l done ↔ n ∈ l ∧ near n = true ∧ n.i ∉ done := by
  constructor
  · intro hn
    obtain ⟨h1, h2, h3, _⟩ := mem_cnt hn
    exact ⟨h1, h2, h3⟩
  · rintro ⟨h1, h2, h3⟩
    rw [mem_cnt_iff, List.take_of_length_le hl]
    refine ⟨?_, h3⟩
    cases hf : l.find? (fun m => decide (m.i = n.i) && near m) with
    | none =>
      rw [List.find?_eq_none] at hf
      have := hf n h1
      simp [h2] at this
    | some m =>
      have h4 := List.mem_of_find?_eq_some hf
      have h5 := List.find?_some hf
      simp only [Bool.and_eq_true, decide_eq_true_eq] at h5
      rw [h.inj h4 h1 h5.1]
def plc (l : List (Int × Int)) (x : Int × Int) : Int := ixF (fun y => decide (y = x)) l 0
theorem ixF_range {α : Type} (p : α → Bool) : ∀ (l : List α) (i : Nat), (ixF p l i = -1 ∧ ∀ x ∈ l, p x = false) ∨ ∃ j : Nat, ∃ h : j < l.length, ixF p l i = ((i + j : Nat) : Int) ∧ p l[j] = true ∧ ∀ k (hk : k < j), p (l[k]'(by omega)) = false
  | [], i => by simp [ixF]
  | x :: r, i => by
    simp only [ixF]
    by_cases hx : p x = true
    · right; exact ⟨0, by simp, by simp [hx], by simpa using hx, fun k hk => by omega⟩
    · rw [if_neg hx]
      rcases ixF_range p r (i + 1) with ⟨h1, h2⟩ | ⟨j, h1, h2, h3, h4⟩
      · left; refine ⟨h1, fun y hy => ?_⟩
        rcases List.mem_cons.1 hy with rfl | hy
        · simpa using hx
        · exact h2 y hy
      · right
        refine ⟨j + 1, by simpa using h1, by omega, by simpa using h3, fun k hk => ?_⟩
        cases k with
        | zero => simpa using hx
        | succ k => simpa using h4 k (by omega)
theorem plc_neg {l : List (Int × Int)} {x : Int × Int} : plc l x < 0 ↔ x ∉ l := by
  unfold plc
  rcases ixF_range (fun y => decide (y = x)) l 0 with ⟨h1, h2⟩ | ⟨j, h1, h2, h3, _⟩
  · rw [h1]; simp; intro h; have := h2 x h; simp at this
  · rw [h2]; simp at h3; subst h3; simp
theorem plc_get {l : List (Int × Int)} {x : Int × Int} (h : x ∈ l) : ∃ j : Nat, ∃ hj : j < l.length, plc l x = (j : Int) ∧ l[j] = x := by
  unfold plc
  rcases ixF_range (fun y => decide (y = x)) l 0 with ⟨h1, h2⟩ | ⟨j, h1, h2, h3, _⟩
  · have := h2 x h; simp at this
  · exact ⟨j, h1, by rw [h2]; simp, by simpa using h3⟩
theorem plc_eq {l : List (Int × Int)} (hn : l.Nodup) {j : Nat} (hj : j < l.length) : plc l l[j] = (j : Int) := by
  obtain ⟨k, hk, h1, h2⟩ := plc_get (List.getElem_mem hj)
  rw [h1]; congr 1
  exact (List.getElem_inj hn).1 h2
theorem insL_mem {l : List Node} {n : Node} (h : n ∈ l) : n.i ∈ insL l := List.mem_map.2 ⟨n, h, rfl⟩
theorem plc_pw {N : List Node} {R : Node → Node → Prop} (hp : N.Pairwise R) (hn : (insL N).Nodup) {a b : Node} (ha : a ∈ N) (hb : b ∈ N) (h : plc (insL N) a.i < plc (insL N) b.i) : R a b := by
  obtain ⟨i, hi, rfl⟩ := List.mem_iff_getElem.1 ha
  obtain ⟨j, hj, rfl⟩ := List.mem_iff_getElem.1 hb
  have e : ∀ k (hk : k < N.length), plc (insL N) N[k].i = (k : Int) := fun k hk => by
    have := plc_eq hn (j := k) (by simpa [insL] using hk)
    simpa [insL] using this
  rw [e i hi, e j hj] at h
  exact List.pairwise_iff_getElem.1 hp i j hi hj (by omega)
theorem Does.nil1 {P : Program} {f : FuncId} {s sz : Nat} {a : AV} {m : Mem} {fx : List Nat} {post : AV → Mem → Prop} (h : Does P f [a, .ro sz []] m fx post) : Does P f [a, .nils s] m fx post :=
  h.sub (by simp) (fun i x hx => by
    match i with
    | 0 => simp at hx; subst hx; exact ⟨_, rfl, fun _ _ _ _ h => h⟩
    | 1 => simp at hx; subst hx; exact ⟨_, rfl, fun _ _ _ _ => nils_ro⟩
    | i + 2 => simp at hx)
def xA : Node := ⟨1, 1, 2, [0, 1]⟩
def xB : Node := ⟨2, 1, 1, [1, 0]⟩
theorem cntAB : cnt [xA, xB] [] = [xA, xB] := by kernel_rfl
theorem cntA : cnt [xA] [] = [xA] := by kernel_rfl
theorem missAB : miss [xA, xB] [] = [] := by kernel_rfl
theorem missA : miss [xA] [] = [(2, 1)] := by kernel_rfl
theorem missL_A : missL [xA] [] = [(2, 1)] := by unfold missL; rw [cntA, missA]
theorem difAB : [xA, xB].Nodup := by
  rw [List.nodup_cons]
  exact ⟨fun h => by simp [xA, xB] at h, by simp⟩
theorem rdyA : rdy [xA] [(2, 1)] = [] := by
  apply List.eq_nil_iff_forall_not_mem.2
  intro n hn
  obtain ⟨h1, h2⟩ := (mem_rdy_iff (z := [xA]) (by simp) (by simp)).1 hn
  simp at h1; subst h1
  have := h2 xA (.refl _)
  revert this; decide
theorem rdyAB : rdy [xA, xB] [] = [xA, xB] := by
  have h : ∀ i, okB [xA, xB] [] i = true := fun i => by simp [okB, lacks]
  simp [rdy, rdyR, h]
theorem edgsAB : edgs [xA, xB] = [(0, 1), (1, 0)] := by kernel_rfl
theorem compsAB : P11.compsL 2 [(0, 1), (1, 0)] = [[0, 1]] := by
  have hb : P11.bN 2 = 2 := by decide
  have e1 : P11.eN 2 [(0, 1), (1, 0)] 0 1 := ⟨by decide, by decide, by decide⟩
  have e2 : P11.eN 2 [(0, 1), (1, 0)] 1 0 := ⟨by decide, by decide, by decide⟩
  have h : ∀ a, a < P11.bN 2 → ∀ b, b < P11.bN 2 → P11.rB 2 [(0, 1), (1, 0)] a b = (fun _ _ => true) a b := fun a ha b hb' =>
    P11.rB_eq (R' := fun _ _ => true) (fun _ _ => rfl) (fun _ _ _ _ _ _ _ _ => rfl) (fun a ha b hb' _ => by
      rw [hb] at ha hb'
      have ha2 : a = 0 ∨ a = 1 := by omega
      have hb2 : b = 0 ∨ b = 1 := by omega
      rcases ha2 with rfl | rfl <;> rcases hb2 with rfl | rfl
      · exact .refl _
      · exact .one e1
      · exact .one e2
      · exact .refl _) ha hb'
  unfold P11.compsL
  rw [P11.comps_congr h]
  decide
theorem readyL_AB : readyL [xA, xB] [] = [(2, 1), (1, 1)] := by
  unfold readyL
  rw [cntAB, missAB, rdyAB, edgsAB]
  show readyR _ (P11.compsL 2 _) = _
  rw [compsAB]
  decide
theorem readyL_A : readyL [xA] [] = [] := by
  unfold readyL
  rw [cntA, missA, rdyA]
  have h := P11.compsL_total ((([] : List Node).length : Nat)) (edgs [])
  rw [show P11.bN (([] : List Node).length : Nat) = 0 by decide] at h
  apply List.eq_nil_of_length_eq_zero
  rw [show (readyR [] (P11.compsL (([] : List Node).length : Nat) (edgs []))).length = (P11.compsL (([] : List Node).length : Nat) (edgs [])).flatten.length from by rw [readyR_insL]; simp [insL, List.length_flatMap, List.length_flatten, srt_length]]
  exact h
theorem xA_small : ∀ n ∈ [xA], n.d.length < 1000000 := by intro n hn; simp at hn; subst hn; simp [xA]
theorem xAB_small : ∀ n ∈ [xA, xB], n.d.length < 1000000 := by intro n hn; simp at hn; rcases hn with rfl | rfl <;> simp [xA, xB]
theorem few_spec {l : List Node} (h : fewN l = true) : l.length ≤ 30 ∧ ∀ n ∈ l, n.d.length ≤ 7 := by simpa [fewN] using h
theorem few_le {l : List Node} (h : fewN l = true) : l.length < 1000000 ∧ ∀ n ∈ l, n.d.length < 1000000 := by
 obtain ⟨h1, h2⟩ := few_spec h
 exact ⟨by omega, fun n hn => by have := h2 n hn; omega⟩
theorem readyL_length (l : List Node) (done : List (Int × Int)) : (readyL l done).length ≤ 100 := by
 unfold readyL; rw [readyR_length]; exact compsL_sum _ _
theorem c9 : chkFn Try.prog 9 56 0 a9 a9R = true := by kernel_rfl
theorem d9  : DoesT 9 [] (bv true) := by
 refine Does.of (nt := 56) (ac := a9) (rds := a9R) c9 (fun c hc => ?_)
 unfold a9
 apply J.seq
 refine J.regE (by simp; rfl) ?_
 simp
 apply J.seq
 refine J.regE (by simp; rfl) ?_
 simp
 refine J.freeze hc 9006 rfl ?_
 simp
 apply J.seq
 refine J.regE (by simp; rfl) ?_
 simp
 refine J.freeze hc 9010 rfl ?_
 simp
 apply J.seq
 apply J.reg
 iterate 3 refine runL_step rfl (by simp; rfl) ?_
 refine runL_freeze hc 9015 rfl ?_
 simp
 refine runL_tree rfl (by have h := Does.nil1 (s := 2) (d12 [xA, xB] [] (by simp) (by simp) xAB_small); rw [readyL_AB] at h; simpa [eNs, eN, xA, xB, ints] using h) (by simp) hc ?_
 simp
 refine runL_step rfl (by simp; rfl) ?_
 simp [runL]
 apply J.seq
 apply J.reg
 iterate 2 refine runL_step rfl (by simp; rfl) ?_
 refine runL_freeze hc 9018 rfl ?_
 simp
 refine runL_tree rfl (by have h := Does.nil1 (s := 2) (d14 [xA] [] (by simp) (by simp) xA_small); rw [missL_A] at h; simpa [eNs, eN, xA, ints] using h) (by simp) hc ?_
 simp
 refine runL_step rfl (by simp; rfl) ?_
 simp [runL]
 apply J.seq
 refine J.drawT rfl hc (fun c' hs' hc' => ?_)
 iterate 8 refine runP_stepQ (by simp [eds]; rfl) ?_
 refine runP_one rfl (by simp) (by simp [eds]; rfl) ?_
 iterate 4 refine runP_stepQ (by simp [eds]; rfl) ?_
 refine runP_one rfl (by simp) (by simp [eds]; rfl) ?_
 refine runP_do (by simp) ?_
 refine runP_le hs' (le_freeze _ 9033 rfl) ?_
 simp
 refine runP_treeT rfl (by have h := Does.nil1 (s := 2) (d12 [xA] [] (by simp) (by simp) xA_small); rw [readyL_A] at h; simpa [eNs, eN, xA, ints] using h) (by simp) hs' ?_
 simp
 iterate 13 refine runP_stepQ (by simp [eds]; rfl) ?_
 refine runP_one rfl (by simp) (by simp [eds]; rfl) ?_
 iterate 5 refine runP_stepQ (by simp [eds]; rfl) ?_
 refine runP_do (by simp) ?_
 refine runP_treeT rfl (by have h := d16 xB xA; rw [show lessN xB xA = true by decide] at h; simpa [eN, xA, xB, ints] using h) (by simp) hs' ?_
 simp
 iterate 2 refine runP_stepQ (by simp [eds]; rfl) ?_
 simp [runP]
 apply J.ret
 refine ⟨by simp, rfl, _, [], by simp [a9R]; rfl, ?_⟩
 simp
theorem c3 : chkFn Try.prog 3 55 4 a3 a3R = true := by kernel_rfl
theorem d3 (l : List Node) (done : List (Int × Int)) (a b : Node) : DoesT 3 [.ro 4 (eNs l), .ro 2 (eds done), .agg (eN a), .agg (eN b)] (bv true) := by
 have hrl := readyL_length l done
 refine Does.of (nt := 55) (ac := a3) (rds := a3R) c3 (fun c hc => ?_)
 unfold a3
 apply J.seq
 refine J.regE (by simp [eN]; rfl) ?_
 simp
 apply J.seq
 apply J.reg
 refine runL_tree rfl (d9) (by simp) hc ?_
 simp
 refine runL_step rfl (by simp [eN]; rfl) ?_
 simp [runL]
 apply J.seq
 apply J.reg
 refine runL_step rfl (by simp [eN]; rfl) ?_
 refine runL_tree rfl (d10 l) (by simp) hc ?_
 simp
 refine runL_step rfl (by simp [eN]; rfl) ?_
 simp [runL]
 apply J.seq
 apply J.seq
 apply J.reg
 iterate 7 refine runL_step rfl (by simp [eN]; rfl) ?_
 refine runL_if rfl (fun g22 => ?_) (fun g22 => ?_)
 ·
  try simp only [g22]
  try simp at g22
  iterate 4 refine runL_step rfl (by simp [eN]; rfl) ?_
  simp [runL]
  refine J.condB rfl (fun h26 => ?_) (fun h26 => ?_)
  ·
   skip
   apply J.seq
   refine J.regE (by simp [eN]; rfl) ?_
   simp
   apply J.ret
   refine ⟨by simp, rfl, _, [], by simp [a3R]; rfl, ?_⟩
   simp
  ·
   try simp at h26
   obtain ⟨hl, hd⟩ := few_le (l := l) (by simpa using g22)
   have hdn : done.length < 1000000 := by omega
   have h12 := d12 l done hl hdn hd
   have h13 := d13 l done hl hdn hd
   have h14 := d14 l done hl hdn hd
   have h15 := d15 l done hl hdn hd
   have h11 := d11 (readyL l done) (readyL l done) (by omega)
   have h11b := d11 (missL l done) (missL l done) (by have := miss_length (cnt l done) done; unfold missL; omega)
   apply J.skip; simp
   apply J.seq
   apply J.reg
   iterate 2 refine runL_step rfl (by simp [eN]; rfl) ?_
   refine runL_tree rfl (h12) (by simp) hc ?_
   simp
   iterate 2 refine runL_step rfl (by simp [eN]; rfl) ?_
   refine runL_tree rfl (h13) (by simp) hc ?_
   simp
   refine runL_tree rfl (by simpa using h11) (by simp) hc ?_
   simp
   refine runL_step rfl (by simp [eN]; rfl) ?_
   simp [runL]
   apply J.seq
   apply J.reg
   iterate 2 refine runL_step rfl (by simp [eN]; rfl) ?_
   refine runL_tree rfl (h14) (by simp) hc ?_
   simp
   iterate 2 refine runL_step rfl (by simp [eN]; rfl) ?_
   refine runL_tree rfl (h15) (by simp) hc ?_
   simp
   refine runL_tree rfl (by simpa using h11b) (by simp) hc ?_
   simp
   refine runL_step rfl (by simp [eN]; rfl) ?_
   simp [runL]
   apply J.seq
   apply J.draw; intro c' hc'
   iterate 9 refine runP_stepQ (by simp [eN]; rfl) ?_
   refine runP_do (by simp) ?_
   refine runP_tree rfl (d16 a b) (by simp) rfl ?_
   simp
   refine runP_do (by simp) ?_
   refine runP_tree rfl (d17 a b) (by simp) rfl ?_
   simp
   iterate 3 refine runP_stepQ (by simp [eN]; rfl) ?_
   simp [runP]
   apply J.ret
   refine ⟨by simp, rfl, _, [], by simp [a3R]; rfl, ?_⟩
   simp
 ·
  try simp only [g22]
  try simp at g22
  iterate 3 refine runL_step rfl (by simp [eN]; rfl) ?_
  simp [runL]
  apply J.cond; simp [eN]
  apply J.seq
  refine J.regE (by simp [eN]; rfl) ?_
  simp
  apply J.ret
  refine ⟨by simp, rfl, _, [], by simp [a3R]; rfl, ?_⟩
  simp
end Go.Proofs.Ytdekelhmneeniaa.F
namespace Go.SX
open Go
def Says (w : World) (xs : List AV) (cs : List Value) : Prop := xs.length = cs.length ∧ ∀ Own : Nat → Prop, (∀ k, ¬ Own k) → ∀ (i : Nat) x, xs[i]? = some x → ∃ v, cs[i]? = some v ∧ one v = true ∧ TRel w Own x v
structure Opens (P : Program) (t : TypeId) {α : Type} (f : α → List AV) : Prop where
  get : ∀ {H : Type} (enc : TypeId × Value → H) (w : World) (base : Nat) (spare : Nat → Bool) (held : Bool) (fuel : Nat) (cs : List Value) (y : DataW H × List MemPlace),
  DataW.trod enc P w base spare held fuel t cs = some y → ∃ a : α, Says w (f a) cs
theorem Says.one {w : World} {v : Value} (h : flat v = true) (h1 : SX.one v = true) : Says w [.lit v] [v] :=
  ⟨rfl, fun Own _ i x hx => by cases i <;> simp at hx; subst hx; exact ⟨v, rfl, h1, .lit h⟩⟩
theorem Says.app {w : World} {xs ys : List AV} {cs ds : List Value} (h : Says w xs cs) (k : Says w ys ds) : Says w (xs ++ ys) (cs ++ ds) := by
  refine ⟨by simp [h.1, k.1], fun Own ho i x hx => ?_⟩
  rcases Nat.lt_or_ge i xs.length with h1 | h1
  · rw [List.getElem?_append_left h1] at hx
    rw [List.getElem?_append_left (by rw [← h.1]; exact h1)]
    exact h.2 Own ho i x hx
  · rw [List.getElem?_append_right h1] at hx
    rw [List.getElem?_append_right (by rw [← h.1]; exact h1), ← h.1]
    exact k.2 Own ho _ x hx
theorem Says.agg {w : World} {xs : List AV} {cs : Array Value} (h : Says w xs cs.toList) {Own : Nat → Prop} (ho : ∀ k, ¬ Own k) : TRel w Own (.agg xs) (.agg cs) :=
  .agg (by simpa using h.1) (fun i x hx => by
    obtain ⟨v, hv, _, ht⟩ := h.2 Own ho i x hx
    have e : cs[i]? = some v := by simpa using hv
    simpa [Array.getD_eq_getD_getElem?, e] using ht)
theorem Says.val {w : World} {x : AV} {v : Value} (h : Says w [x] [v]) {Own : Nat → Prop} (ho : ∀ k, ¬ Own k) : TRel w Own x v := by
  obtain ⟨u, hu, _, ht⟩ := h.2 Own ho 0 x rfl
  simp at hu; subst hu; exact ht
section
variable {P : Program} {t : TypeId}
theorem Opens.int {k : IntKind} (ht : P.underlying t = some (.int k)) : Opens P t (fun n : Int => [.lit (.int k n)]) := ⟨fun _ _ _ _ _ _ _ _ h => by
  obtain ⟨n, rfl, _⟩ := DataW.trod_int ht h
  exact ⟨n, .one rfl rfl⟩⟩
theorem Opens.bool (ht : P.underlying t = some .bool) : Opens P t (fun b : Bool => [.lit (.bool b)]) := ⟨fun _ _ _ _ _ _ _ _ h => by
  obtain ⟨n, rfl, _⟩ := DataW.trod_bool ht h
  exact ⟨n, .one rfl rfl⟩⟩
theorem Opens.str (ht : P.underlying t = some .string) : Opens P t (fun s : ByteArray => [.lit (.string s)]) := ⟨fun _ _ _ _ _ _ _ _ h => by
  obtain ⟨n, rfl, _⟩ := DataW.trod_string ht h
  exact ⟨n, .one rfl rfl⟩⟩
theorem Opens.slice {e : TypeId} {sz : Nat} {α : Type} {f : α → List AV} (ht : P.underlying t = some (.slice e)) (hsz : P.cellsOf e = sz) (hs : 0 < sz) (he : Opens P e f) :
    Opens P t (fun l : { l : List α // l.length ≤ maxLen ∧ ∀ a ∈ l, (f a).length = sz } => [.ro sz (l.1.map f)]) := ⟨fun enc w base spare held fuel cs y h => by
  rcases DataW.trod_slice ht h with ⟨rfl, _⟩ | ⟨a, len, cap, elems, rest, n, _, rfl, _, _, hl, hm, hlen, hE, _⟩
  · refine ⟨⟨[], by simp, by simp⟩, rfl, fun Own ho i x hx => ?_⟩
    cases i <;> simp at hx
    subst hx; exact ⟨_, rfl, rfl, .ronil⟩
  · have hz : ∀ i, i < len → ∃ z : α, (f z).length = sz ∧ ∃ cs : List Value, Says w (f z) cs ∧ ∀ j u, cs[j]? = some u → w.cell? (a.add (i * sz + j)) = some u := fun i hi => by
      have h1 := hE i hi
      obtain ⟨x, hx⟩ : ∃ x, elems[i]? = some x := ⟨elems[i], List.getElem?_eq_getElem (by omega)⟩
      rw [hx, hsz] at h1
      obtain ⟨cs, hcs', hx'⟩ := Option.bind_eq_some_iff.1 h1
      obtain ⟨hl1, hl2⟩ := cells_get hcs'
      obtain ⟨z, hz⟩ := he.get _ _ _ _ _ _ _ _ hx'
      exact ⟨z, by rw [hz.1, hl1], cs, hz, fun j u hu => by rw [← add_add']; exact hl2 j u hu⟩
    classical
    let L : List α := List.ofFn (fun i : Fin len => (hz i.1 i.2).choose)
    have hL : L.length = len := by simp [L]
    have hg : ∀ (j : Nat) p, L[j]? = some p → (f p).length = sz ∧ ∃ cs : List Value, Says w (f p) cs ∧ ∀ i u, cs[i]? = some u → w.cell? (a.add (j * sz + i)) = some u := fun j p hj => by
      simp only [L, List.getElem?_ofFn] at hj
      split at hj
      · rename_i hlt
        injection hj with hj; subst hj
        exact (hz j hlt).choose_spec
      · cases hj
    refine ⟨⟨L, by rw [hL]; omega, fun p hp => by obtain ⟨j, hj, rfl⟩ := List.getElem_of_mem hp; exact (hg j _ (List.getElem?_eq_getElem hj)).1⟩, rfl, fun Own ho i x hx => ?_⟩
    cases i <;> simp at hx
    subst hx
    refine ⟨_, rfl, rfl, ?_⟩
    by_cases hne : L = []
    · have : len = 0 := by rw [← hL, hne]; rfl
      subst this
      simp only [hne, List.map_nil]
      exact .ronil
    · have e : len = (L.map f).length := by simp [hL]
      conv => rhs; rw [e]
      refine TRel.row ⟨hs, fun e he => ?_, ho _, fun i j x hx => ?_⟩ (by simp [hL]; omega)
      · obtain ⟨p, hp, rfl⟩ := List.mem_map.1 he
        obtain ⟨j, hj, rfl⟩ := List.getElem_of_mem hp
        exact (hg j _ (List.getElem?_eq_getElem hj)).1
      · obtain ⟨e, he, hj⟩ := Option.bind_eq_some_iff.1 hx
        rw [List.getElem?_map] at he
        obtain ⟨p, hp, rfl⟩ := Option.map_eq_some_iff.1 he
        obtain ⟨_, cs, hcs, hc⟩ := hg i p hp
        obtain ⟨v, hv, h1, htr⟩ := hcs.2 Own ho j x hj
        exact ⟨v, hc j v hv, h1, htr⟩⟩
structure OpensF (P : Program) (fs : List Field) (off : Nat) {α : Type} (f : α → List AV) : Prop where
  get : ∀ {H : Type} (enc : TypeId × Value → H) (w : World) (base : Nat) (spare : Nat → Bool) (held : Bool) (n : Nat) (cs : List Value),
  (∀ (i : Nat) (fd : Field), fs[i]? = some fd → ∃ y, DataW.trod enc P w base spare held n fd.type ((cs.drop fd.offset).take (P.cellsOf fd.type)) = some y) → ∃ a : α, ∃ m, Says w (f a) ((cs.drop off).take m) ∧ m = (f a).length
theorem OpensF.nil {off : Nat} : OpensF P [] off (fun _ : Unit => []) := ⟨fun _ _ _ _ _ _ _ _ => ⟨(), 0, ⟨by simp, fun _ _ i x hx => by simp at hx⟩, rfl⟩⟩
theorem OpensF.cons {fd : Field} {fs : List Field} {off sz : Nat} {α β : Type} {f : α → List AV} {g : β → List AV} (ho : fd.offset = off) (hsz : P.cellsOf fd.type = sz) (hf : Opens P fd.type f) (hl : ∀ a, (f a).length = sz) (hg : OpensF P fs (off + sz) g) :
    OpensF P (fd :: fs) off (fun p : α × β => f p.1 ++ g p.2) := ⟨fun enc w base spare held n cs h => by
  obtain ⟨y, hy⟩ := h 0 fd rfl
  rw [ho, hsz] at hy
  obtain ⟨a, ha⟩ := hf.get _ _ _ _ _ _ _ _ hy
  obtain ⟨b, m, hb, hm⟩ := hg.get enc w base spare held n cs (fun i fd' hfd => h (i + 1) fd' (by simpa using hfd))
  refine ⟨(a, b), sz + m, ?_, by simp [hl, hm]⟩
  rw [List.take_add, List.drop_drop]
  exact ha.app hb⟩
theorem Opens.struct {fs : List Field} {α β : Type} {f : α → List AV} {g : β → List AV} (ht : P.underlying t = some (.struct fs.toArray)) (hF : OpensF P fs 0 f) (tq : α → β) (hto : ∀ a, g (tq a) = f a) (hl : ∀ b, (g b).length = P.cellsOf t) : Opens P t g := ⟨fun enc w base spare held fuel cs y h => by
  obtain ⟨xs, n, _, _, hlen, hxs, hall⟩ := DataW.trod_struct ht h
  obtain ⟨a, m, ha, hm⟩ := hF.get enc w base spare held n cs (fun i fd hfd => by
    have h2 : fs.toArray[i]? = some fd := by simpa using hfd
    have h3 := hall i fd h2
    have hi : i < xs.length := by rw [hxs]; exact (Array.getElem?_eq_some_iff.1 h2).1
    exact ⟨xs[i], by rw [h3]; exact List.getElem?_eq_getElem hi⟩)
  refine ⟨tq a, ?_⟩
  rw [hto]
  have e : m = cs.length := by rw [hm, ← hto, hl, hlen]
  subst e
  simpa using ha⟩
end
end Go.SX
namespace Go.Proofs.Ytdekelhmneeniaa.F
open Go Go.SX
theorem opn_inst : Opens Try.prog 25 eI := by
  refine Opens.struct Try.underlying25 (OpensF.cons rfl (by kernel_rfl) (Opens.int Try.underlying3) (fun _ => rfl) (OpensF.cons rfl (by kernel_rfl) (Opens.int Try.underlying3) (fun _ => rfl) OpensF.nil)) (fun p => ((p.1, p.2.1) : Int × Int)) (fun _ => rfl) (fun _ => by kernel_rfl)
theorem opn_insts : Opens Try.prog 23 (fun l : { l : List (Int × Int) // l.length ≤ maxLen ∧ ∀ a ∈ l, (eI a).length = 2 } => [.ro 2 (eds l.1)]) := Opens.slice Try.underlying23 (by kernel_rfl) (by omega) opn_inst
abbrev SubI := { l : List Int // l.length ≤ maxLen ∧ ∀ a ∈ l, ((fun n : Int => [AV.lit (.int .i64 n)]) a).length = 1 }
theorem opn_ints : Opens Try.prog 26 (fun l : SubI => [.ro 1 (ints l.1)]) := Opens.slice Try.underlying26 (by kernel_rfl) (by omega) (Opens.int Try.underlying3)
theorem opn_attr : Opens Try.prog 28 (fun p : Int × SubI => [iv p.1, .ro 1 (ints p.2.1)]) := by
  refine Opens.struct Try.underlying28 (OpensF.cons rfl (by kernel_rfl) (Opens.int Try.underlying3) (fun _ => rfl) (OpensF.cons (sz := 1) rfl (by kernel_rfl) opn_ints (fun _ => rfl) OpensF.nil)) (fun p => (p.1, p.2.1)) (fun _ => rfl) (fun _ => by kernel_rfl)
theorem opn_node : Opens Try.prog 30 eN := by
  refine Opens.struct Try.underlying30 (OpensF.cons (sz := 2) rfl (by kernel_rfl) opn_inst (fun _ => rfl) (OpensF.cons (sz := 2) rfl (by kernel_rfl) opn_attr (fun _ => rfl) OpensF.nil)) (fun p => (⟨p.1.1, p.1.2, p.2.1.1, p.2.1.2.1⟩ : Node)) (fun _ => rfl) (fun _ => by kernel_rfl)
theorem opn_nodes : Opens Try.prog 22 (fun l : { l : List Node // l.length ≤ maxLen ∧ ∀ a ∈ l, (eN a).length = 4 } => [.ro 4 (eNs l.1)]) := Opens.slice Try.underlying22 (by kernel_rfl) (by omega) opn_node
theorem opn_bools : Opens Try.prog 41 (fun l : { l : List Bool // l.length ≤ maxLen ∧ ∀ a ∈ l, ((fun b : Bool => [AV.lit (.bool b)]) a).length = 1 } => [.ro 1 (bools l.1)]) := Opens.slice Try.underlying41 (by kernel_rfl) (by omega) (Opens.bool Try.underlying4)
end Go.Proofs.Ytdekelhmneeniaa.F
