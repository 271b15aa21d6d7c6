/- The walk of LawOrderAgrees. -/
import Derived.Test.YtdekelhmneeniaaQb9
set_option linter.unusedVariables false
set_option linter.unusedSimpArgs false
namespace Go.Proofs.Ytdekelhmneeniaa.F
open Go Go.SX
abbrev dM (done : List (Int × Int)) : Mem := [(5999, .arr 25 2 (eds done))]
def s23o (L : List Node) (done t : List (Int × Int)) (o : List Node) (s : Slots) (m : Mem) : St := ⟨(1, .own 5999 2 0 done.length) :: (5, .mapr 23009) :: (6, .own 23040 4 0 o.length) :: (14, .ro 4 (eNs L)) :: (15, iv L.length) :: s, (23009, .map (setM t)) :: (23040, .arr 30 4 (eNs o)) :: (5999, .arr 25 2 (eds done)) :: m, [5999]⟩
def I23o (L : List Node) (done : List (Int × Int)) (m : Nat) (st : St) : Prop := ∃ (i : Nat) (t : List (Int × Int)) (o : List Node), i ≤ L.length ∧ m = L.length - i ∧ o ++ fstR done t (L.drop i) = fstR done [] L ∧ st = s23o L done t o [(16, iv i)] []
def I25ao (z : List Node) (done : List (Int × Int)) (m : Nat) (st : St) : Prop := ∃ (i : Nat) (t : List (Int × Int)), i ≤ z.length ∧ m = z.length - i ∧ insAll t (insL (z.drop i)) = insAll [] (insL z) ∧ st = ⟨[(0, .ro 4 (eNs z)), (1, .own 5999 2 0 done.length), (5, .mapr 25017), (18, .ro 4 (eNs z)), (19, iv z.length), (20, iv i)], [(25017, .map (setM t)), (5999, .arr 25 2 (eds done))], [5999]⟩
def I25bo (z : List Node) (done : List (Int × Int)) (m : Nat) (st : St) : Prop := ∃ (i : Nat) (t : List (Int × Int)), i ≤ done.length ∧ m = done.length - i ∧ insAll t (done.drop i) = insAll (insAll [] (insL z)) done ∧ st = ⟨[(0, .ro 4 (eNs z)), (5, .mapr 25017), (28, .own 5999 2 0 done.length), (29, iv done.length), (30, iv i)], [(25017, .map (setM t)), (5999, .arr 25 2 (eds done))], [5999]⟩
def s25o (z : List Node) (done t o : List (Int × Int)) (i : Nat) (s : Slots) (m : Mem) : St := ⟨(5, .mapr 25017) :: (10, .own 25076 2 0 o.length) :: (37, .ro 4 (eNs z)) :: (38, iv z.length) :: (39, iv i) :: s, (25017, .map (setM t)) :: (25076, .arr 25 2 (eds o)) :: (5999, .arr 25 2 (eds done)) :: m, [5999]⟩
def I25co (z : List Node) (done : List (Int × Int)) (m : Nat) (st : St) : Prop := ∃ (i : Nat) (t o : List (Int × Int)), i ≤ z.length ∧ m = z.length - i ∧ o ++ ded t (candL (z.drop i)) = misU z done ∧ st = s25o z done t o i [] []
def I25do (z : List Node) (done : List (Int × Int)) (i : Nat) (D : List Int) (m : Nat) (st : St) : Prop := ∃ (j : Nat) (t o : List (Int × Int)), j ≤ D.length ∧ m = D.length - j ∧ o ++ ded t (candD j (D.drop j) ++ candL (z.drop (i + 1))) = misU z done ∧ st = s25o z done t o i [(51, .ro 1 (ints D)), (52, iv D.length), (53, iv j)] []
def I25eo (z : List Node) (done : List (Int × Int)) (i : Nat) (D : List Int) (j : Nat) (v : Int) (m : Nat) (st : St) : Prop := ∃ (s : Nat) (t o : List (Int × Int)), 1 ≤ s ∧ m = v.toNat + 1 - s ∧ o ++ ded t (colS j s v ++ (candD (j + 1) (D.drop (j + 1)) ++ candL (z.drop (i + 1)))) = misU z done ∧ st = s25o z done t o i [(13, iv j), (14, iv v), (15, iv s), (51, .ro 1 (ints D)), (52, iv D.length), (53, iv j)] []
def s12o (done : List (Int × Int)) (r : List Node) (ps : List (List Nat)) (o : List (Int × Int)) (i : Nat) (s : Slots) (m : Mem) : St := ⟨(0, .ro 4 (eNs r)) :: (5, .own 12057 2 0 o.length) :: (25, .ro 1 (rws ps)) :: (26, iv ps.length) :: (27, iv i) :: s, (12057, .arr 25 2 (eds o)) :: (5999, .arr 25 2 (eds done)) :: m, [5999]⟩
def I12o (done : List (Int × Int)) (r : List Node) (ps : List (List Nat)) (m : Nat) (st : St) : Prop := ∃ (i : Nat) (o : List (Int × Int)), i ≤ ps.length ∧ m = ps.length - i ∧ o ++ readyR r (ps.drop i) = readyR r ps ∧ st = s12o done r ps o i [] []
def I12bo (done : List (Int × Int)) (r : List Node) (ps : List (List Nat)) (o : List (Int × Int)) (i : Nat) (p : List Nat) (m : Nat) (st : St) : Prop := ∃ k : Nat, k ≤ p.length ∧ m = p.length - k ∧ st = s12o done r ps o i [(8, .own 12043 4 0 ((p.take k).map (ndAt r)).length), (31, .ro 1 (nats p)), (32, iv p.length), (33, iv k)] [(12043, .arr 30 4 (eNs ((p.take k).map (ndAt r))))]
def I12co (done : List (Int × Int)) (r : List Node) (ps : List (List Nat)) (o : List (Int × Int)) (i : Nat) (q : List Node) (m : Nat) (st : St) : Prop := ∃ j : Nat, j ≤ q.length ∧ m = q.length - j ∧ st = s12o done r ps (o ++ insL (q.take j)) i [(47, .ro 4 (eNs q)), (48, iv q.length), (49, iv j)] []
theorem Does.rename {P : Program} {f : FuncId} {args : List AV} {b b' ty sz n : Nat} {es : List (List AV)} (h : Does P f args [] [] (fun r m => m = [(b, .arr ty sz es)] ∧ r = .own b sz 0 n)) : Does P f args [] [] (fun r m => m = [(b', .arr ty sz es)] ∧ r = .own b' sz 0 n) :=
 ⟨h.1, fun A ρ w vs t1 t2 h1 h2 h3 => (h.2 A ρ w vs t1 t2 h1 h2 h3).mono fun e w' ⟨v, r, m', ρ', he, ⟨hm, hr⟩, hM, hv, hA⟩ => by
  subst hm; subst hr
  have hdom : ∀ x k o, ρ' x = some (k, o) → x = b := fun x k o hx => by
   obtain ⟨blk, hb⟩ := hM.dom x k o hx
   simp only [SX.look] at hb
   split at hb
   ·rename_i e; exact e.symm
   ·cases hb
  let ρ2 : Map := fun x => if x = b' then ρ' b else none
  have h2b : ρ2 b' = ρ' b := by simp [ρ2]
  have h2i : ∀ x k o, ρ2 x = some (k, o) → x = b' ∧ ρ' b = some (k, o) := fun x k o hx => by
   simp only [ρ2] at hx
   split at hx
   ·exact ⟨by assumption, hx⟩
   ·cases hx
  have hown : ∀ k, OwnBy A ρ2 k ↔ OwnBy A ρ' k := fun k => by
   constructor
   ·rintro (hk | ⟨x, o, hx⟩)
    ·exact .inl hk
    ·exact .inr ⟨b, o, (h2i x k o hx).2⟩
   ·rintro (hk | ⟨x, o, hx⟩)
    ·exact .inl hk
    ·have := hdom x k o hx
     subst this
     exact .inr ⟨b', o, by rw [h2b]; exact hx⟩
  have hOwn : OwnBy A ρ2 = OwnBy A ρ' := funext fun k => propext (hown k)
  refine ⟨v, .own b' sz 0 n, _, ρ2, he, ⟨rfl, rfl⟩, ?_, ?_, ?_⟩
  ·refine { mem := ?_, dom := ?_, lt := ?_, inj := ?_, far := ?_, alt := hM.alt }
   ·intro x blk hx
    simp only [SX.look] at hx
    split at hx
    ·rename_i e
     subst e
     injection hx with hx
     subst hx
     have := hM.mem b (.arr ty sz es) (by simp [SX.look])
     simp only [BRel] at this ⊢
     rw [hOwn, h2b]
     exact this
    ·cases hx
   ·intro x k o hx
    obtain ⟨rfl, _⟩ := h2i x k o hx
    exact ⟨.arr ty sz es, by simp [SX.look]⟩
   ·intro x k o hx; exact hM.lt b k o (h2i x k o hx).2
   ·intro x y k o o' hx hy; rw [(h2i x k o hx).1, (h2i y k o' hy).1]
   ·intro x k o hx; exact hM.far b k o (h2i x k o hx).2
  ·rw [hOwn]
   generalize hq : AV.own b sz 0 n = q at hv
   cases hv with
   | tree h => subst hq; cases h
   | ownnil => injection hq with e1 e2 e3 e4; subst e2; subst e4; exact .ownnil
   | ownz hz => injection hq with e1 e2 e3 e4; subst e1; subst e2; subst e4; exact .ownz (h2b.trans hz)
   | own ho hn hroom => injection hq with e1 e2 e3 e4; subst e1; subst e2; subst e3; subst e4; exact .own (h2b.trans ho) hn hroom
   | _ => cases hq
  ·exact { os := hA.os, tape := hA.tape, output := hA.output, size := hA.size, frame := hA.frame, mine := fun x k o hx => hA.mine b k o (h2i x k o hx).2, fix := fun x hx => by simp at hx, rows := hA.rows }⟩
theorem d23o (l : List Node) (done : List (Int × Int)) (hl : l.length < 1000000) (hdn : done.length < 1000000) (hd : ∀ n ∈ l, n.d.length < 1000000) : Does Try.prog 23 [.ro 4 (eNs l), .own 5999 2 0 done.length] (dM done) [5999] (fun r m => m = dM done ∧ r = .ro 4 (eNs (cnt l done))) := by
 obtain ⟨L, hL⟩ : ∃ L, l.take 100 = L := ⟨_, rfl⟩
 have hLl : L.length ≤ 100 := by rw [← hL, List.length_take]; omega
 have hmn : (if (100 : Int) < (l.length : Int) then (100 : Int) else (l.length : Int)) = (L.length : Int) := by rw [← hL, List.length_take]; split <;> omega
 have hLle : L.length ≤ l.length := by rw [← hL, List.length_take]; omega
 have hLt : List.take L.length (l.map eN) = L.map eN := by rw [← List.map_take, ← hL, List.length_take]; congr 1; apply List.ext_getElem?; intro i; simp only [List.getElem?_take]; split <;> split <;> first | rfl | omega | (rw [List.getElem?_eq_none (by omega)])
 have hLd : ∀ n ∈ L, n.d.length < 1000000 := fun n hn => hd n (List.mem_of_mem_take (hL ▸ hn))
 have hfl := fstR_length done L []
 have hU := cntU_perm l done
 unfold cntU at hU
 rw [hL] at hU
 refine Does.of (nt := 45) (ac := a23) (rds := a23R) c23 (fun c hc => ?_)
 unfold a23
 apply J.seq
 refine J.regE (by simp [eNs, eN, eNs_length, eI]; rfl) ?_
 simp
 apply J.seq
 apply J.reg
 refine runL_ext (extK_mkmap trivial rfl ?_)
 simp
 refine runL_step rfl (by simp; rfl) ?_
 simp [runL]
 apply J.seq
 refine J.regE (by simp [eNs, eN, eNs_length, eI]; rfl) ?_
 simp
 refine J.nilrow hc 6 23040 30 rfl rfl rfl ?_
 simp
 apply J.seq
 apply J.seq
 refine J.regE (by simp [eNs, eN, eNs_length, eI, hmn, hLle, hLt]; rfl) ?_
 simp
 apply J.block
 refine J.loop hc (I23o L done) ?_ ?_
 ·exact ⟨_, _, by apply le_sub <;> simp [eNs, s23o, setM], 0, [], [], by omega, rfl, rfl, rfl⟩
 rintro n st ⟨i, t, o, hi, rfl, hI, rfl⟩
 unfold s23o
 apply J.seq
 refine J.regE (by simp [eNs, eN, eNs_length, eI]; rfl) ?_
 simp
 apply J.seq
 refine J.condB rfl (fun h17 => ?_) (fun h17 => ?_)
 ·
  try simp [eNs_length] at h17
  have hi0 : i < L.length := by omega
  obtain ⟨y, hx, hgx, hg, hge, hdr, hw, hlt2, htk⟩ := getL (eN) (show i < L.length by omega) (by omega)
  rw [hdr] at hI
  simp only [fstR] at hI
  have hmy := hLd _ (List.mem_of_getElem? hx)
  apply J.skip; simp
  apply J.seq
  apply J.block
  apply J.seq
  refine J.regE (by simp [eNs, eN, eNs_length, eI, hi0, hgx]; rfl) ?_
  simp
  apply J.seq
  apply J.reg
  refine runL_step rfl (by simp [eNs, eN, eNs_length, eI]; rfl) ?_
  refine runL_tree rfl (d40 y hmy) (by simp) hc ?_
  simp
  refine runL_step rfl (by simp [eNs, eN, eNs_length, eI]; rfl) ?_
  refine runL_if rfl (fun g22 => ?_) (fun g22 => ?_)
  ·
   try simp only [g22]
   try simp at g22
   try simp at g22
   iterate 3 refine runL_step rfl (by simp [eNs, eN, eNs_length, eI]; rfl) ?_
   refine runL_do (by simp) ?_
   obtain ⟨r0, hr0, hr1⟩ := getA_set y.i t
   refine runL_ext (extK_mapget (x := .agg (eI y.i)) (es := setM t) (r := r0) (by simp; rfl) (by simp) (by simp [eI, Node.i]) (by simp [isTree1, eI, isTree]) (by simp [keyA, eqA, eqv, kindV, eI]) hr0 (.inl rfl) ?_)
   try simp only [hr1]
   simp
   iterate 2 refine runL_step rfl (by simp [eNs, eN, eNs_length, eI]; rfl) ?_
   simp [runL]
   refine J.condB rfl (fun h28 => ?_) (fun h28 => ?_)
   ·
    try simp at h28
    rw [if_pos ⟨g22, h28⟩, ← List.append_assoc] at hI
    apply J.seq
    apply J.reg
    iterate 3 refine runL_step rfl (by simp [eNs, eN, eNs_length, eI]; rfl) ?_
    obtain ⟨r0, hr0, hr1⟩ := putA_set y.i t
    refine runL_ext (extK_mapset (x := .agg (eI y.i)) (es := setM t) (r := r0) (by simp; rfl) (by simp) (by simp [eI, Node.i]) (by simp [isTree1, eI, isTree]) (by simp [keyA, eqA, eqv, kindV, eI]) (by simp; rfl) rfl trivial hr0 ?_)
    try simp only [hr1]
    simp
    simp [runL]
    apply J.seq
    apply J.reg
    iterate 3 refine runL_step rfl (by simp [eNs, eN, eNs_length, eI]; rfl) ?_
    refine runL_view (le_freeze _ 5999 rfl) rfl (by simp [St.freeze, eI, Node.i]) (d41 done y.i hdn) (by simp [eI]) ?_
    rintro rv m1 ⟨rfl, rfl⟩
    refine ⟨rfl, rfl, ?_⟩
    simp
    refine runL_step rfl (by simp [eNs, eN, eNs_length, eI]; rfl) ?_
    simp [runL]
    refine J.condB rfl (fun h36 => ?_) (fun h36 => ?_)
    ·
     try simp at h36
     have hI2 := hI
     rw [if_neg h36] at hI2
     have hlen := len_pre hI2
     simp at hlen
     apply J.reg
     iterate 5 refine runL_step rfl (by simp [eNs, eN, eNs_length, eI, eNs, eN, eNs_length, eI, show (o.length + 1) * 48 ≤ 140737488355328 from by omega, List.take_of_length_le]; rfl) ?_
     simp [runL]
     refine J.regE (by simp [eNs, eN, eNs_length, eI, hw]; rfl) ?_
     simp
     refine ⟨_, ?_, _, ?_, i + 1, _, _, ?_, rfl, hI2, rfl⟩
     ·omega
     ·apply le_sub <;> simp [eNs, eN, s23o]
     ·omega
    ·
     try simp at h36
     have hI2 := hI
     rw [if_pos h36, List.append_nil] at hI2
     apply J.skip; simp
     refine J.regE (by simp [eNs, eN, eNs_length, eI, hw]; rfl) ?_
     simp
     refine ⟨_, ?_, _, ?_, i + 1, _, _, ?_, rfl, hI2, rfl⟩
     ·omega
     ·apply le_sub <;> simp [eNs, eN, s23o]
     ·omega
   ·
    try simp at h28
    have hI2 := hI
    rw [if_neg (by simp [h28])] at hI2
    apply J.skip; simp
    refine J.regE (by simp [eNs, eN, eNs_length, eI, hw]; rfl) ?_
    simp
    refine ⟨_, ?_, _, ?_, i + 1, _, _, ?_, rfl, hI2, rfl⟩
    ·omega
    ·apply le_sub <;> simp [eNs, eN, s23o]
    ·omega
  ·
   try simp only [g22]
   try simp at g22
   try simp at g22
   have hI2 := hI
   rw [if_neg (by simp [g22])] at hI2
   iterate 2 refine runL_step rfl (by simp [eNs, eN, eNs_length, eI]; rfl) ?_
   refine runL_pass (b := _) rfl (by simp) ?_
   simp
   iterate 2 refine runL_step rfl (by simp [eNs, eN, eNs_length, eI]; rfl) ?_
   simp [runL]
   apply J.cond; simp [eNs, eN, eNs_length, eI]
   apply J.skip; simp
   refine J.regE (by simp [eNs, eN, eNs_length, eI, hw]; rfl) ?_
   simp
   refine ⟨_, ?_, _, ?_, i + 1, _, _, ?_, rfl, hI2, rfl⟩
   ·omega
   ·apply le_sub <;> simp [eNs, eN, s23o]
   ·omega
 ·
  try simp [eNs_length] at h17
  obtain rfl : i = L.length := by omega
  rw [List.drop_length] at hI
  simp only [fstR, List.append_nil] at hI
  apply J.exit; simp
  apply J.seq
  apply J.reg
  refine runL_step rfl (by simp [eNs, eN, eNs_length, eI]; rfl) ?_
  refine runL_call [23040] [23040] rfl rfl (d28P 23040 o [23040] (by rw [hI]; omega)) (by simp) (by simp) (by simp) hc ?_
  rintro rv m1 ⟨rfl, l', hp', hs', rfl⟩
  refine ⟨by simp, ?_⟩
  try simp only [callSt, dropAll, killAll]
  simp
  simp [runL]
  have hll := hp'.length_eq
  obtain rfl := cnt_of_sorted (hp'.trans (hI ▸ hU)) hs'
  rw [← hll]
  apply J.seq
  refine J.freeze hc 23040 rfl ?_
  simp
  refine J.regE (by simp [eNs, eN, eNs_length, eI]; rfl) ?_
  simp
  apply J.ret
  refine ⟨by simp, rfl, _, [(5999, .arr 25 2 (eds done))], by simp [a23R]; rfl, ?_⟩
  simp [eNs, List.take_of_length_le]
theorem d25o (z : List Node) (done : List (Int × Int)) (hl : z.length ≤ 1000) (hdn : done.length < 1000000) (hd : ∀ n ∈ z, n.d.length < 1000000) (hz : ∀ n ∈ z, near n = true) : Does Try.prog 25 [.ro 4 (eNs z), .own 5999 2 0 done.length] (dM done) [5999] (fun r m => m = dM done ∧ r = .ro 2 (eds (miss z done))) := by
 have hU := misU_perm (done := done) hz
 have hml := miss_length z done
 have hul := hU.length_eq
 have h60 : ∀ n ∈ z, ∀ v ∈ n.d, v ≤ 60 := fun n hn v hv => by have h := hz n hn; simp only [near, Bool.and_eq_true, Bool.not_eq_true', List.any_eq_false, decide_eq_true_eq] at h; have := h.2 v hv; omega
 refine Does.of (nt := 82) (ac := a25) (rds := a25R) c25 (fun c hc => ?_)
 unfold a25
 apply J.seq
 refine J.regE (by simp [eNs, eN, eNs_length, eI]; rfl) ?_
 simp
 apply J.seq
 apply J.reg
 refine runL_ext (extK_mkmap trivial rfl ?_)
 simp
 refine runL_step rfl (by simp; rfl) ?_
 simp [runL]
 apply J.seq
 apply J.seq
 refine J.regE (by simp [eNs, eN, eNs_length, eI]; rfl) ?_
 simp
 apply J.block
 refine J.loop hc (I25ao z done) ?_ ?_
 ·exact ⟨_, _, by apply le_sub <;> simp [eNs, setM], 0, [], by omega, rfl, rfl, rfl⟩
 rintro n st ⟨i, t, hi, rfl, hI, rfl⟩
 apply J.seq
 refine J.regE (by simp [eNs, eN, eNs_length, eI]; rfl) ?_
 simp
 apply J.seq
 refine J.condB rfl (fun h21 => ?_) (fun h21 => ?_)
 ·
  try simp [eNs_length] at h21
  have hi0 : i < z.length := by omega
  obtain ⟨y, hx, hgx, hg, hge, hdr, hw, hlt2, htk⟩ := getL (eN) (show i < z.length by omega) (by omega)
  rw [hdr, insL, List.map_cons, insAll] at hI
  apply J.skip; simp
  apply J.seq
  apply J.block
  apply J.seq
  refine J.regE (by simp [eNs, eN, eNs_length, eI, hi0, hgx]; rfl) ?_
  simp
  apply J.reg
  iterate 3 refine runL_step rfl (by simp [eNs, eN, eNs_length, eI]; rfl) ?_
  obtain ⟨r0, hr0, hr1⟩ := putA_set y.i t
  refine runL_ext (extK_mapset (x := .agg (eI y.i)) (es := setM t) (r := r0) (by simp; rfl) (by simp) (by simp [eI, Node.i]) (by simp [isTree1, eI, isTree]) (by simp [keyA, eqA, eqv, kindV, eI]) (by simp; rfl) rfl trivial hr0 ?_)
  try simp only [hr1]
  simp
  simp [runL]
  refine J.regE (by simp [eNs, eN, eNs_length, eI, hw]; rfl) ?_
  simp
  refine ⟨_, ?_, _, ?_, i + 1, _, ?_, rfl, hI, rfl⟩
  ·omega
  ·apply le_sub <;> simp [eNs]
  ·omega
 ·
  try simp [eNs_length] at h21
  obtain rfl : i = z.length := by omega
  rw [List.drop_length] at hI
  simp only [insL, List.map_nil, insAll] at hI
  apply J.exit; simp
  apply J.seq
  apply J.seq
  refine J.regE (by simp [eNs, eN, eNs_length, eI]; rfl) ?_
  simp
  apply J.block
  refine J.loop hc (I25bo z done) ?_ ?_
  ·refine ⟨_, _, ?_, 0, t, by omega, rfl, by rw [hI]; rfl, rfl⟩
   apply le_sub <;> simp [eNs]
  rintro n st ⟨i, t, hi, rfl, hI, rfl⟩
  apply J.seq
  refine J.regE (by simp [eNs, eN, eNs_length, eI]; rfl) ?_
  simp
  apply J.seq
  refine J.condB rfl (fun h31 => ?_) (fun h31 => ?_)
  ·
   try simp at h31
   have hi0 : i < done.length := by omega
   obtain ⟨y, hx, hgx, hg, hge, hdr, hw, hlt2, htk⟩ := getL (eI) (show i < done.length by omega) (by omega)
   rw [hdr, insAll] at hI
   apply J.skip; simp
   apply J.seq
   apply J.block
   apply J.seq
   refine J.regE (by simp [eNs, eN, eNs_length, eI, hi0, hgx]; rfl) ?_
   simp
   apply J.reg
   iterate 2 refine runL_step rfl (by simp [eNs, eN, eNs_length, eI]; rfl) ?_
   obtain ⟨r0, hr0, hr1⟩ := putA_set y t
   refine runL_ext (extK_mapset (x := .agg (eI y)) (es := setM t) (r := r0) (by simp; rfl) (by simp) (by simp [eI, Node.i]) (by simp [isTree1, eI, isTree]) (by simp [keyA, eqA, eqv, kindV, eI]) (by simp; rfl) rfl trivial hr0 ?_)
   try simp only [hr1]
   simp
   simp [runL]
   refine J.regE (by simp [eNs, eN, eNs_length, eI, hw]; rfl) ?_
   simp
   refine ⟨_, ?_, _, ?_, i + 1, _, ?_, rfl, hI, rfl⟩
   ·omega
   ·apply le_sub <;> simp [eNs]
   ·omega
  ·
   try simp at h31
   obtain rfl : i = done.length := by omega
   rw [List.drop_length] at hI
   simp only [insAll] at hI
   apply J.exit; simp
   apply J.seq
   refine J.regE (by simp [eNs, eN, eNs_length, eI]; rfl) ?_
   simp
   refine J.nilrow hc 10 25076 25 rfl rfl rfl ?_
   simp
   apply J.seq
   apply J.seq
   refine J.regE (by simp [eNs, eN, eNs_length, eI]; rfl) ?_
   simp
   apply J.block
   refine J.loop hc (I25co z done) ?_ ?_
   ·refine ⟨_, _, ?_, 0, t, [], by omega, rfl, by rw [hI]; rfl, rfl⟩
    apply le_sub <;> simp [eNs, eN, s25o]
   rintro n st ⟨i, t, o, hi, rfl, hI, rfl⟩
   unfold s25o
   apply J.seq
   refine J.regE (by simp [eNs, eN, eNs_length, eI]; rfl) ?_
   simp
   apply J.seq
   refine J.condB rfl (fun h40 => ?_) (fun h40 => ?_)
   ·
    try simp [eNs_length] at h40
    have hi0 : i < z.length := by omega
    obtain ⟨y, hx, hgx, hg, hge, hdr, hw, hlt2, htk⟩ := getL (eN) (show i < z.length by omega) (by omega)
    rw [hdr] at hI
    simp only [candL] at hI
    have hyz := List.mem_of_getElem? hx
    have hyd := hd y hyz
    obtain ⟨D, hD⟩ : ∃ D, y.d.take 7 = D := ⟨_, rfl⟩
    rw [hD] at hI
    have hDl : D.length ≤ 7 := by rw [← hD, List.length_take]; omega
    have hDle : D.length ≤ y.d.length := by rw [← hD, List.length_take]; omega
    have hDt : List.take D.length y.d = D := by rw [← hD, List.length_take]; apply List.ext_getElem?; intro i; simp only [List.getElem?_take]; split <;> split <;> first | rfl | omega | (rw [List.getElem?_eq_none (by omega)])
    have hmn : (if (7 : Int) < (y.d.length : Int) then (7 : Int) else (y.d.length : Int)) = (D.length : Int) := by rw [← hD, List.length_take]; split <;> omega
    have hDm : ∀ v ∈ D, v ≤ 60 := fun v hv => h60 y hyz v (List.mem_of_mem_take (hD ▸ hv))
    apply J.skip; simp
    apply J.seq
    apply J.block
    apply J.seq
    refine J.regE (by simp [eNs, eN, eNs_length, eI, hi0, hgx]; rfl) ?_
    simp
    apply J.seq
    apply J.reg
    iterate 11 refine runL_step rfl (by simp [eNs, eN, eNs_length, eI, hmn, hDle, hDt]; rfl) ?_
    simp [runL]
    apply J.block
    refine J.loop hc (I25do z done i D) ?_ ?_
    ·refine ⟨_, _, ?_, 0, t, o, by omega, rfl, hI, rfl⟩
     apply le_sub <;> simp [eNs, eN, s25o]
    rintro n st ⟨j, t, o, hj, rfl, hI, rfl⟩
    unfold s25o
    apply J.seq
    refine J.regE (by simp [eNs, eN, eNs_length, eI]; rfl) ?_
    simp
    apply J.seq
    refine J.condB rfl (fun h54 => ?_) (fun h54 => ?_)
    ·
     try simp at h54
     have hj0 : j < D.length := by omega
     obtain ⟨v, hxj, hgxj, hgj, hgej, hdrj, hwj, hlt2j, htkj⟩ := getL (fun v => [iv v]) (show j < D.length by omega) (by omega)
     rw [hdrj] at hI
     simp only [candD] at hI
     rw [List.append_assoc] at hI
     have hv60 := hDm v (List.mem_of_getElem? hxj)
     apply J.skip; simp
     apply J.seq
     apply J.block
     apply J.seq
     refine J.regE (by simp [eNs, eN, eNs_length, eI, hj0, hgxj]; rfl) ?_
     simp
     apply J.seq
     refine J.regE (by simp [eNs, eN, eNs_length, eI]; rfl) ?_
     simp
     apply J.block
     refine J.loop hc (I25eo z done i D j v) ?_ ?_
     ·refine ⟨_, _, ?_, 1, t, o, by omega, rfl, hI, rfl⟩
      apply le_sub <;> simp [eNs, eN, s25o]
     rintro n st ⟨s, t, o, hs, rfl, hI, rfl⟩
     unfold s25o
     apply J.seq
     apply J.seq
     refine J.regE (by simp [eNs, eN, eNs_length, eI]; rfl) ?_
     simp
     refine J.condB rfl (fun h60b => ?_) (fun h60b => ?_)
     ·
      try simp at h60b
      rw [colS_step h60b hs, List.cons_append, ded] at hI
      have hws : IntKind.i64.wrap ((s : Int) + 1) = (s : Int) + 1 := wrap_id (by omega) (by omega)
      apply J.skip; simp
      apply J.seq
      apply J.block
      apply J.seq
      refine J.regE (by simp [eNs, eN, eNs_length, eI, hwj]; rfl) ?_
      simp
      apply J.seq
      apply J.reg
      iterate 2 refine runL_step rfl (by simp [eNs, eN, eNs_length, eI]; rfl) ?_
      obtain ⟨r0, hr0, hr1⟩ := getA_set ((j : Int) + 1, (s : Int)) t
      refine runL_ext (extK_mapget (x := .agg (eI ((j : Int) + 1, (s : Int)))) (es := setM t) (r := r0) (by simp; rfl) (by simp) (by simp [eI, Node.i]) (by simp [isTree1, eI, isTree]) (by simp [keyA, eqA, eqv, kindV, eI]) hr0 (.inl rfl) ?_)
      try simp only [hr1]
      simp
      refine runL_step rfl (by simp [eNs, eN, eNs_length, eI]; rfl) ?_
      simp [runL]
      refine J.condB rfl (fun h70 => ?_) (fun h70 => ?_)
      ·
       try simp at h70
       rw [if_neg h70] at hI
       have hI2 := hI
       rw [← List.singleton_append, ← List.append_assoc] at hI2
       have hlen := len_pre hI2
       simp at hlen
       apply J.seq
       apply J.reg
       iterate 2 refine runL_step rfl (by simp [eNs, eN, eNs_length, eI]; rfl) ?_
       obtain ⟨r0, hr0, hr1⟩ := putA_set ((j : Int) + 1, (s : Int)) t
       refine runL_ext (extK_mapset (x := .agg (eI ((j : Int) + 1, (s : Int)))) (es := setM t) (r := r0) (by simp; rfl) (by simp) (by simp [eI, Node.i]) (by simp [isTree1, eI, isTree]) (by simp [keyA, eqA, eqv, kindV, eI]) (by simp; rfl) rfl trivial hr0 ?_)
       try simp only [hr1]
       simp
       simp [runL]
       apply J.reg
       iterate 5 refine runL_step rfl (by simp [eNs, eN, eNs_length, eI, eNs, eN, eNs_length, eI, show (o.length + 1) * 16 ≤ 140737488355328 from by omega, List.take_of_length_le]; rfl) ?_
       simp [runL]
       refine J.regE (by simp [eNs, eN, eNs_length, eI, hws]; rfl) ?_
       simp
       refine ⟨_, ?_, _, ?_, s + 1, _, _, ?_, rfl, hI2, rfl⟩
       ·omega
       ·apply le_sub <;> simp [eNs, eN, s25o]
       ·omega
      ·
       try simp at h70
       rw [if_pos h70] at hI
       have hI2 := hI
       apply J.skip; simp
       refine J.regE (by simp [eNs, eN, eNs_length, eI, hws]; rfl) ?_
       simp
       refine ⟨_, ?_, _, ?_, s + 1, _, _, ?_, rfl, hI2, rfl⟩
       ·omega
       ·apply le_sub <;> simp [eNs, eN, s25o]
       ·omega
     ·
      try simp at h60b
      rw [colS_end h60b hs, List.nil_append] at hI
      apply J.exit; simp
      refine J.regE (by simp [eNs, eN, eNs_length, eI, hwj]; rfl) ?_
      simp
      refine ⟨_, ?_, _, ?_, j + 1, _, _, ?_, rfl, hI, rfl⟩
      ·omega
      ·apply le_sub <;> simp [eNs, eN, s25o]
      ·omega
    ·
     try simp at h54
     obtain rfl : j = D.length := by omega
     rw [List.drop_length] at hI
     simp only [candD, List.nil_append] at hI
     apply J.exit; simp
     refine J.regE (by simp [eNs, eN, eNs_length, eI, hw]; rfl) ?_
     simp
     refine ⟨_, ?_, _, ?_, i + 1, _, _, ?_, rfl, hI, rfl⟩
     ·omega
     ·apply le_sub <;> simp [eNs, eN, s25o]
     ·omega
   ·
    try simp [eNs_length] at h40
    obtain rfl : i = z.length := by omega
    rw [List.drop_length] at hI
    simp only [candL, ded, List.append_nil] at hI
    apply J.exit; simp
    apply J.seq
    apply J.reg
    refine runL_step rfl (by simp [eNs, eN, eNs_length, eI]; rfl) ?_
    refine runL_call [25076] [25076] rfl rfl (d48 25076 o [25076] (by rw [hI]; omega)) (by simp) (by simp) (by simp) hc ?_
    rintro rv m1 ⟨rfl, l', hp', hs', rfl⟩
    refine ⟨by simp, ?_⟩
    try simp only [callSt, dropAll, killAll]
    simp
    simp [runL]
    have hll := hp'.length_eq
    obtain rfl := miss_of_sorted (hp'.trans (hI ▸ hU)) hs'
    rw [← hll]
    apply J.seq
    refine J.freeze hc 25076 rfl ?_
    simp
    refine J.regE (by simp [eNs, eN, eNs_length, eI]; rfl) ?_
    simp
    apply J.ret
    refine ⟨by simp, rfl, _, [(5999, .arr 25 2 (eds done))], by simp [a25R]; rfl, ?_⟩
    simp [List.take_of_length_le]
theorem d12w (l : List Node) (done : List (Int × Int)) (hl : l.length < 1000000) (hdn : done.length < 1000000) (hd : ∀ n ∈ l, n.d.length < 1000000) : Does Try.prog 12 [.ro 4 (eNs l), .ro 2 (eds done)] [] [] (fun r m => m = [(12057, .arr 25 2 (eds (readyL l done)))] ∧ r = .own 12057 2 0 (readyL l done).length) := by
 obtain ⟨z, hz⟩ : ∃ z, cnt l done = z := ⟨_, rfl⟩
 obtain ⟨ms, hms⟩ : ∃ ms, miss z done = ms := ⟨_, rfl⟩
 obtain ⟨r, hr⟩ : ∃ r, rdy z ms = r := ⟨_, rfl⟩
 obtain ⟨ps, hps⟩ : ∃ ps, P11.compsL (r.length : Nat) (edgs r) = ps := ⟨_, rfl⟩
 have hzl : z.length ≤ 100 := hz ▸ cnt_few l done
 have hzd : ∀ n ∈ z, n.d.length < 1000000 := fun n hn => hd n (mem_cnt (hz ▸ hn)).1
 have hzn : ∀ n ∈ z, near n = true := fun n hn => (mem_cnt (hz ▸ hn)).2.1
 have hml : ms.length ≤ 420 := hms ▸ miss_length z done
 have hrl : r.length ≤ 100 := by have := rdy_length z ms; rw [hr] at this; omega
 have hrd : ∀ n ∈ r, n.d.length < 1000000 := fun n hn => hzd n (mem_rdy (hr ▸ hn))
 have hri : ∀ a ∈ r, ∀ b ∈ r, a.i = b.i → a = b := fun a ha b hb h => pick_inj (hz ▸ mem_rdy (hr ▸ ha)) (hz ▸ mem_rdy (hr ▸ hb)) h
 have hel := edgs_length (c := r) (by omega)
 have hpb : ∀ p ∈ ps, ∀ v ∈ p, v < r.length := fun p hp v hv => compsL_bd (hps ▸ hp) hrl hv
 have hpl := P11.compsL_small (r.length : Nat) (edgs r)
 rw [hps] at hpl
 have hRL : readyL l done = readyR r ps := by unfold readyL; rw [hz, hms, hr, hps]
 have hsum : (readyR r ps).length ≤ 100 := by rw [readyR_length, ← hps]; exact compsL_sum _ _
 have h23 := d23 l done hl hdn hd
 rw [hz] at h23
 have h25 := d25 z done (by omega) hdn hzd hzn
 rw [hms] at h25
 have h24 := d24 z ms hzl (by omega) hzd
 rw [hr] at h24
 have h27 := d27 r (by omega) hrd
 have h26 := P11.d12 (r.length : Nat) (edgs r) (by omega)
 rw [hps] at h26
 rw [hRL]
 refine Does.of (nt := 61) (ac := a12) (rds := a12R) c12 (fun c hc => ?_)
 unfold a12
 apply J.seq
 refine J.regE (by simp [eNs, eN, eNs_length, eI]; rfl) ?_
 simp
 apply J.seq
 apply J.reg
 iterate 2 refine runL_step rfl (by simp [eNs, eN, eNs_length, eI]; rfl) ?_
 refine runL_tree rfl (by simpa [eNs] using h23) (by simp) hc ?_
 simp
 refine runL_step rfl (by simp [eNs, eN, eNs_length, eI]; rfl) ?_
 simp [runL]
 apply J.seq
 apply J.reg
 iterate 3 refine runL_step rfl (by simp [eNs, eN, eNs_length, eI]; rfl) ?_
 refine runL_tree rfl (by simpa [eNs] using h25) (by simp) hc ?_
 simp
 refine runL_tree rfl (by simpa [eNs] using h24) (by simp) hc ?_
 simp
 refine runL_step rfl (by simp [eNs, eN, eNs_length, eI]; rfl) ?_
 simp [runL]
 apply J.seq
 refine J.regE (by simp [eNs, eN, eNs_length, eI]; rfl) ?_
 simp
 refine J.nilrow hc 5 12057 25 rfl rfl rfl ?_
 simp
 apply J.seq
 apply J.seq
 apply J.reg
 iterate 3 refine runL_step rfl (by simp [eNs, eN, eNs_length, eI]; rfl) ?_
 refine runL_tree rfl (by simpa [eNs] using h27) (by simp) hc ?_
 simp
 refine runL_tree rfl (by simpa [eNs] using h26) (by simp) hc ?_
 simp
 iterate 2 refine runL_step rfl (by simp [eNs, eN, eNs_length, eI]; rfl) ?_
 simp [runL]
 apply J.block
 refine J.loop hc (I12 r ps) ?_ ?_
 ·exact ⟨_, _, by apply le_sub <;> simp [eNs, s12], 0, [], by omega, rfl, rfl, rfl⟩
 rintro n st ⟨i, o, hi, rfl, hI, rfl⟩
 unfold s12
 apply J.seq
 refine J.regE (by simp [eNs, eN, eNs_length, eI]; rfl) ?_
 simp
 apply J.seq
 refine J.condB rfl (fun h28 => ?_) (fun h28 => ?_)
 ·
  try simp at h28
  have hi0 : i < ps.length := by omega
  obtain ⟨p, hx, hgx, hg, hge, hdr, hw, hlt2, htk⟩ := getL (fun p => [.ro 1 (nats p)]) (show i < ps.length by omega) (by omega)
  rw [hdr] at hI
  have hpm := List.mem_of_getElem? hx
  have hpn := hpl.2 p hpm
  have hpv := hpb p hpm
  have hI2 : (o ++ partL r p) ++ readyR r (ps.drop (i + 1)) = readyR r ps := by rw [← hI]; simp [readyR]
  have hlen := len_pre hI2
  simp at hlen
  have hsl : (srt (p.map (ndAt r))).length = p.length := by simp [srt_length]
  have hpL : (partL r p).length = p.length := by simp [partL, insL, hsl]
  have hpi : ∀ a ∈ p.map (ndAt r), ∀ b ∈ p.map (ndAt r), a.i = b.i → a = b := fun a ha b hb h => by
   obtain ⟨u, hu, rfl⟩ := List.mem_map.1 ha
   obtain ⟨v, hv, rfl⟩ := List.mem_map.1 hb
   exact hri _ (ndAt_mem (hpv u hu)) _ (ndAt_mem (hpv v hv)) h
  apply J.skip; simp
  apply J.seq
  apply J.block
  apply J.seq
  refine J.regE (by simp [eNs, eN, eNs_length, eI, hi0, hgx]; rfl) ?_
  simp
  apply J.seq
  refine J.regE (by simp [eNs, eN, eNs_length, eI]; rfl) ?_
  simp
  refine J.nilrow hc 8 12043 30 rfl rfl rfl ?_
  simp
  apply J.seq
  apply J.seq
  refine J.regE (by simp [eNs, eN, eNs_length, eI]; rfl) ?_
  simp
  apply J.block
  refine J.loop hc (I12b r ps o i p) ?_ ?_
  ·refine ⟨_, _, ?_, 0, by omega, rfl, rfl⟩
   apply le_sub <;> simp [eNs, eN, s12]
  rintro n st ⟨k, hk, rfl, rfl⟩
  unfold s12
  apply J.seq
  refine J.regE (by simp [eNs, eN, eNs_length, eI]; rfl) ?_
  simp
  apply J.seq
  refine J.condB rfl (fun h34 => ?_) (fun h34 => ?_)
  ·
   try simp at h34
   have hk0 : k < p.length := by omega
   obtain ⟨v, hxk, hgxk, hgk, hgek, hdrk, hwk, hlt2k, htkk⟩ := getL (fun x : Nat => [iv (x : Int)]) (show k < p.length by omega) (by omega)
   have hv := hpv v (List.mem_of_getElem? hxk)
   have hndv : ∀ h, r[v]'h = ndAt r v := fun h => by simp [ndAt, h]
   have hkl : min k p.length = k := by omega
   apply J.skip; simp
   apply J.seq
   apply J.block
   apply J.seq
   refine J.regE (by simp [eNs, eN, eNs_length, eI, hk0, hgxk]; rfl) ?_
   simp
   apply J.reg
   iterate 8 refine runL_step rfl (by simp [eNs, eN, eNs_length, eI, eNs, eNs_length, eI, hv, hndv, hkl, show (k + 1) * 48 ≤ 140737488355328 from by omega, List.take_of_length_le]; rfl) ?_
   simp [runL]
   refine J.regE (by simp [eNs, eN, eNs_length, eI, hwk]; rfl) ?_
   simp
   refine ⟨_, ?_, _, ?_, k + 1, ?_, rfl, rfl⟩
   ·omega
   ·apply le_sub <;> simp [eNs, eN, s12, htkk, hkl]
   ·omega
  ·
   try simp at h34
   obtain rfl : k = p.length := by omega
   obtain ⟨q, hq⟩ : ∃ q, p.map (ndAt r) = q := ⟨_, rfl⟩
   have hql : q.length = p.length := by rw [← hq]; simp
   rw [show min p.length p.length = q.length by omega, List.take_of_length_le (i := p.length) (l := List.map (eN ∘ ndAt r) p) (by simp), show List.map (eN ∘ ndAt r) p = eNs q by rw [← hq]; simp [eNs]]
   apply J.exit; simp
   apply J.seq
   apply J.reg
   refine runL_step rfl (by simp [eNs, eN, eNs_length, eI]; rfl) ?_
   refine runL_call [12043] [12043] rfl rfl (d28C 12043 q [12043] (by omega)) (by simp) (by simp) (by simp) hc ?_
   rintro rv m1 ⟨rfl, l', hp', hs', rfl⟩
   refine ⟨by simp, ?_⟩
   try simp only [callSt, dropAll, killAll]
   simp
   simp [runL]
   have hll := hp'.length_eq
   obtain rfl := srt_of_sorted (hq ▸ hpi) hp' hs'
   rw [← hll]
   have hpe : partL r p = insL (srt q) := by unfold partL; rw [hq]
   obtain ⟨w, hw'⟩ : ∃ w, srt q = w := ⟨_, rfl⟩
   rw [hw'] at hpe hll ⊢
   have hwl : w.length = p.length := by omega
   apply J.seq
   refine J.freeze hc 12043 rfl ?_
   simp [eNs, List.take_of_length_le]
   refine J.regE (by simp [eNs, eN, eNs_length, eI]; rfl) ?_
   simp
   apply J.block
   refine J.loop hc (I12c r ps o i w) ?_ ?_
   ·refine ⟨_, _, ?_, 0, by omega, rfl, rfl⟩
    apply le_sub <;> simp [eNs, eN, s12, insL]
   rintro n st ⟨j, hj, rfl, rfl⟩
   unfold s12
   apply J.seq
   refine J.regE (by simp [eNs, eN, eNs_length, eI]; rfl) ?_
   simp
   apply J.seq
   refine J.condB rfl (fun h50 => ?_) (fun h50 => ?_)
   ·
    try simp [eNs_length] at h50
    have hj0 : j < w.length := by omega
    obtain ⟨y, hxj, hgxj, hgj, hgej, hdrj, hwj, hlt2j, htkj⟩ := getL (eN) (show j < w.length by omega) (by omega)
    have hjl : min j w.length = j := by omega
    have hol : (insL (w.take j)).length = j := by simp [insL, hjl]
    apply J.skip; simp
    apply J.seq
    apply J.block
    apply J.seq
    refine J.regE (by simp [eNs, eN, eNs_length, eI, hj0, hgxj]; rfl) ?_
    simp
    apply J.reg
    iterate 6 refine runL_step rfl (by simp [eNs, eN, eNs_length, eI, eNs, eN, eNs_length, eI, hol, show (o.length + j + 1) * 16 ≤ 140737488355328 from by omega, List.take_of_length_le]; rfl) ?_
    simp [runL]
    refine J.regE (by simp [eNs, eN, eNs_length, eI, hwj]; rfl) ?_
    simp
    refine ⟨_, ?_, _, ?_, j + 1, ?_, rfl, rfl⟩
    ·omega
    ·apply le_sub <;> simp [eNs, eN, s12, htkj, insL, Node.i, hjl, Nat.add_assoc]
    ·omega
   ·
    try simp [eNs_length] at h50
    obtain rfl : j = w.length := by omega
    rw [List.take_length]
    apply J.exit; simp
    refine J.regE (by simp [eNs, eN, eNs_length, eI, hw]; rfl) ?_
    simp
    refine ⟨_, ?_, _, ?_, i + 1, _, ?_, rfl, hI2, rfl⟩
    ·omega
    ·rw [hpe]
     apply le_sub <;> simp [eNs, eN, s12]
    ·omega
 ·
  try simp at h28
  obtain rfl : i = ps.length := by omega
  rw [List.drop_length] at hI
  simp only [readyR, List.flatMap_nil, List.append_nil] at hI
  apply J.exit; simp
  apply J.seq
  refine J.regE (by simp [eNs, eN, eNs_length, eI]; rfl) ?_
  simp
  apply J.ret
  refine ⟨by simp, rfl, _, [(12057, .arr 25 2 (eds (readyR r ps)))], by simp [a12R]; rfl, ?_⟩
  simp [hI, readyR]
theorem d12o (l : List Node) (done : List (Int × Int)) (hl : l.length < 1000000) (hdn : done.length < 1000000) (hd : ∀ n ∈ l, n.d.length < 1000000) : Does Try.prog 12 [.ro 4 (eNs l), .own 5999 2 0 done.length] (dM done) [5999] (fun r m => m = dM done ∧ r = .ro 2 (eds (readyL l done))) := by
 obtain ⟨z, hz⟩ : ∃ z, cnt l done = z := ⟨_, rfl⟩
 obtain ⟨ms, hms⟩ : ∃ ms, miss z done = ms := ⟨_, rfl⟩
 obtain ⟨r, hr⟩ : ∃ r, rdy z ms = r := ⟨_, rfl⟩
 obtain ⟨ps, hps⟩ : ∃ ps, P11.compsL (r.length : Nat) (edgs r) = ps := ⟨_, rfl⟩
 have hzl : z.length ≤ 100 := hz ▸ cnt_few l done
 have hzd : ∀ n ∈ z, n.d.length < 1000000 := fun n hn => hd n (mem_cnt (hz ▸ hn)).1
 have hzn : ∀ n ∈ z, near n = true := fun n hn => (mem_cnt (hz ▸ hn)).2.1
 have hml : ms.length ≤ 420 := hms ▸ miss_length z done
 have hrl : r.length ≤ 100 := by have := rdy_length z ms; rw [hr] at this; omega
 have hrd : ∀ n ∈ r, n.d.length < 1000000 := fun n hn => hzd n (mem_rdy (hr ▸ hn))
 have hri : ∀ a ∈ r, ∀ b ∈ r, a.i = b.i → a = b := fun a ha b hb h => pick_inj (hz ▸ mem_rdy (hr ▸ ha)) (hz ▸ mem_rdy (hr ▸ hb)) h
 have hel := edgs_length (c := r) (by omega)
 have hpb : ∀ p ∈ ps, ∀ v ∈ p, v < r.length := fun p hp v hv => compsL_bd (hps ▸ hp) hrl hv
 have hpl := P11.compsL_small (r.length : Nat) (edgs r)
 rw [hps] at hpl
 have hRL : readyL l done = readyR r ps := by unfold readyL; rw [hz, hms, hr, hps]
 have hsum : (readyR r ps).length ≤ 100 := by rw [readyR_length, ← hps]; exact compsL_sum _ _
 have h23 := d23o l done hl hdn hd
 rw [hz] at h23
 have h25 := d25o z done (by omega) hdn hzd hzn
 rw [hms] at h25
 have h24 := d24 z ms hzl (by omega) hzd
 rw [hr] at h24
 have h27 := d27 r (by omega) hrd
 have h26 := P11.d12 (r.length : Nat) (edgs r) (by omega)
 rw [hps] at h26
 rw [hRL]
 refine Does.of (nt := 61) (ac := a12) (rds := a12R) c12 (fun c hc => ?_)
 unfold a12
 apply J.seq
 refine J.regE (by simp [eNs, eN, eNs_length, eI]; rfl) ?_
 simp
 apply J.seq
 apply J.reg
 iterate 2 refine runL_step rfl (by simp [eNs, eN, eNs_length, eI]; rfl) ?_
 refine runL_call [5999] [5999] rfl rfl (by simpa [eNs] using h23) (by simp) (by simp) (by simp) hc ?_
 rintro rv m1 ⟨rfl, rfl⟩
 refine ⟨by simp, ?_⟩
 try simp only [callSt, dropAll, killAll]
 simp
 refine runL_step rfl (by simp [eNs, eN, eNs_length, eI]; rfl) ?_
 simp [runL]
 apply J.seq
 apply J.reg
 iterate 3 refine runL_step rfl (by simp [eNs, eN, eNs_length, eI]; rfl) ?_
 refine runL_call [5999] [5999] rfl rfl (by simpa [eNs] using h25) (by simp) (by simp) (by simp) hc ?_
 rintro rv m1 ⟨rfl, rfl⟩
 refine ⟨by simp, ?_⟩
 try simp only [callSt, dropAll, killAll]
 simp
 refine runL_tree rfl (by simpa [eNs] using h24) (by simp) hc ?_
 simp
 refine runL_step rfl (by simp [eNs, eN, eNs_length, eI]; rfl) ?_
 simp [runL]
 apply J.seq
 refine J.regE (by simp [eNs, eN, eNs_length, eI]; rfl) ?_
 simp
 refine J.nilrow hc 5 12057 25 rfl rfl rfl ?_
 simp
 apply J.seq
 apply J.seq
 apply J.reg
 iterate 3 refine runL_step rfl (by simp [eNs, eN, eNs_length, eI]; rfl) ?_
 refine runL_tree rfl (by simpa [eNs] using h27) (by simp) hc ?_
 simp
 refine runL_tree rfl (by simpa [eNs] using h26) (by simp) hc ?_
 simp
 iterate 2 refine runL_step rfl (by simp [eNs, eN, eNs_length, eI]; rfl) ?_
 simp [runL]
 apply J.block
 refine J.loop hc (I12o done r ps) ?_ ?_
 ·exact ⟨_, _, by apply le_sub <;> simp [eNs, s12o], 0, [], by omega, rfl, rfl, rfl⟩
 rintro n st ⟨i, o, hi, rfl, hI, rfl⟩
 unfold s12o
 apply J.seq
 refine J.regE (by simp [eNs, eN, eNs_length, eI]; rfl) ?_
 simp
 apply J.seq
 refine J.condB rfl (fun h28 => ?_) (fun h28 => ?_)
 ·
  try simp at h28
  have hi0 : i < ps.length := by omega
  obtain ⟨p, hx, hgx, hg, hge, hdr, hw, hlt2, htk⟩ := getL (fun p => [.ro 1 (nats p)]) (show i < ps.length by omega) (by omega)
  rw [hdr] at hI
  have hpm := List.mem_of_getElem? hx
  have hpn := hpl.2 p hpm
  have hpv := hpb p hpm
  have hI2 : (o ++ partL r p) ++ readyR r (ps.drop (i + 1)) = readyR r ps := by rw [← hI]; simp [readyR]
  have hlen := len_pre hI2
  simp at hlen
  have hsl : (srt (p.map (ndAt r))).length = p.length := by simp [srt_length]
  have hpL : (partL r p).length = p.length := by simp [partL, insL, hsl]
  have hpi : ∀ a ∈ p.map (ndAt r), ∀ b ∈ p.map (ndAt r), a.i = b.i → a = b := fun a ha b hb h => by
   obtain ⟨u, hu, rfl⟩ := List.mem_map.1 ha
   obtain ⟨v, hv, rfl⟩ := List.mem_map.1 hb
   exact hri _ (ndAt_mem (hpv u hu)) _ (ndAt_mem (hpv v hv)) h
  apply J.skip; simp
  apply J.seq
  apply J.block
  apply J.seq
  refine J.regE (by simp [eNs, eN, eNs_length, eI, hi0, hgx]; rfl) ?_
  simp
  apply J.seq
  refine J.regE (by simp [eNs, eN, eNs_length, eI]; rfl) ?_
  simp
  refine J.nilrow hc 8 12043 30 rfl rfl rfl ?_
  simp
  apply J.seq
  apply J.seq
  refine J.regE (by simp [eNs, eN, eNs_length, eI]; rfl) ?_
  simp
  apply J.block
  refine J.loop hc (I12bo done r ps o i p) ?_ ?_
  ·refine ⟨_, _, ?_, 0, by omega, rfl, rfl⟩
   apply le_sub <;> simp [eNs, eN, s12o]
  rintro n st ⟨k, hk, rfl, rfl⟩
  unfold s12o
  apply J.seq
  refine J.regE (by simp [eNs, eN, eNs_length, eI]; rfl) ?_
  simp
  apply J.seq
  refine J.condB rfl (fun h34 => ?_) (fun h34 => ?_)
  ·
   try simp at h34
   have hk0 : k < p.length := by omega
   obtain ⟨v, hxk, hgxk, hgk, hgek, hdrk, hwk, hlt2k, htkk⟩ := getL (fun x : Nat => [iv (x : Int)]) (show k < p.length by omega) (by omega)
   have hv := hpv v (List.mem_of_getElem? hxk)
   have hndv : ∀ h, r[v]'h = ndAt r v := fun h => by simp [ndAt, h]
   have hkl : min k p.length = k := by omega
   apply J.skip; simp
   apply J.seq
   apply J.block
   apply J.seq
   refine J.regE (by simp [eNs, eN, eNs_length, eI, hk0, hgxk]; rfl) ?_
   simp
   apply J.reg
   iterate 8 refine runL_step rfl (by simp [eNs, eN, eNs_length, eI, eNs, eNs_length, eI, hv, hndv, hkl, show (k + 1) * 48 ≤ 140737488355328 from by omega, List.take_of_length_le]; rfl) ?_
   simp [runL]
   refine J.regE (by simp [eNs, eN, eNs_length, eI, hwk]; rfl) ?_
   simp
   refine ⟨_, ?_, _, ?_, k + 1, ?_, rfl, rfl⟩
   ·omega
   ·apply le_sub <;> simp [eNs, eN, s12o, htkk, hkl]
   ·omega
  ·
   try simp at h34
   obtain rfl : k = p.length := by omega
   obtain ⟨q, hq⟩ : ∃ q, p.map (ndAt r) = q := ⟨_, rfl⟩
   have hql : q.length = p.length := by rw [← hq]; simp
   rw [show min p.length p.length = q.length by omega, List.take_of_length_le (i := p.length) (l := List.map (eN ∘ ndAt r) p) (by simp), show List.map (eN ∘ ndAt r) p = eNs q by rw [← hq]; simp [eNs]]
   apply J.exit; simp
   apply J.seq
   apply J.reg
   refine runL_step rfl (by simp [eNs, eN, eNs_length, eI]; rfl) ?_
   refine runL_call [12043] [12043] rfl rfl (d28C 12043 q [12043] (by omega)) (by simp) (by simp) (by simp) hc ?_
   rintro rv m1 ⟨rfl, l', hp', hs', rfl⟩
   refine ⟨by simp, ?_⟩
   try simp only [callSt, dropAll, killAll]
   simp
   simp [runL]
   have hll := hp'.length_eq
   obtain rfl := srt_of_sorted (hq ▸ hpi) hp' hs'
   rw [← hll]
   have hpe : partL r p = insL (srt q) := by unfold partL; rw [hq]
   obtain ⟨w, hw'⟩ : ∃ w, srt q = w := ⟨_, rfl⟩
   rw [hw'] at hpe hll ⊢
   have hwl : w.length = p.length := by omega
   apply J.seq
   refine J.freeze hc 12043 rfl ?_
   simp [eNs, List.take_of_length_le]
   refine J.regE (by simp [eNs, eN, eNs_length, eI]; rfl) ?_
   simp
   apply J.block
   refine J.loop hc (I12co done r ps o i w) ?_ ?_
   ·refine ⟨_, _, ?_, 0, by omega, rfl, rfl⟩
    apply le_sub <;> simp [eNs, eN, s12o, insL]
   rintro n st ⟨j, hj, rfl, rfl⟩
   unfold s12o
   apply J.seq
   refine J.regE (by simp [eNs, eN, eNs_length, eI]; rfl) ?_
   simp
   apply J.seq
   refine J.condB rfl (fun h50 => ?_) (fun h50 => ?_)
   ·
    try simp [eNs_length] at h50
    have hj0 : j < w.length := by omega
    obtain ⟨y, hxj, hgxj, hgj, hgej, hdrj, hwj, hlt2j, htkj⟩ := getL (eN) (show j < w.length by omega) (by omega)
    have hjl : min j w.length = j := by omega
    have hol : (insL (w.take j)).length = j := by simp [insL, hjl]
    apply J.skip; simp
    apply J.seq
    apply J.block
    apply J.seq
    refine J.regE (by simp [eNs, eN, eNs_length, eI, hj0, hgxj]; rfl) ?_
    simp
    apply J.reg
    iterate 6 refine runL_step rfl (by simp [eNs, eN, eNs_length, eI, eNs, eN, eNs_length, eI, hol, show (o.length + j + 1) * 16 ≤ 140737488355328 from by omega, List.take_of_length_le]; rfl) ?_
    simp [runL]
    refine J.regE (by simp [eNs, eN, eNs_length, eI, hwj]; rfl) ?_
    simp
    refine ⟨_, ?_, _, ?_, j + 1, ?_, rfl, rfl⟩
    ·omega
    ·apply le_sub <;> simp [eNs, eN, s12o, htkj, insL, Node.i, hjl, Nat.add_assoc]
    ·omega
   ·
    try simp [eNs_length] at h50
    obtain rfl : j = w.length := by omega
    rw [List.take_length]
    apply J.exit; simp
    refine J.regE (by simp [eNs, eN, eNs_length, eI, hw]; rfl) ?_
    simp
    refine ⟨_, ?_, _, ?_, i + 1, _, ?_, rfl, hI2, rfl⟩
    ·omega
    ·rw [hpe]
     apply le_sub <;> simp [eNs, eN, s12o]
    ·omega
 ·
  try simp at h28
  obtain rfl : i = ps.length := by omega
  rw [List.drop_length] at hI
  simp only [readyR, List.flatMap_nil, List.append_nil] at hI
  apply J.exit; simp
  apply J.seq
  refine J.freeze hc 12057 rfl ?_
  simp
  refine J.regE (by simp [eNs, eN, eNs_length, eI]; rfl) ?_
  simp
  apply J.ret
  refine ⟨by simp, rfl, _, [(5999, .arr 25 2 (eds done))], by simp [a12R]; rfl, ?_⟩
  simp [hI, readyR]
end Go.Proofs.Ytdekelhmneeniaa.F
namespace Go.Proofs.Ytdekelhmneeniaa.F
open Go Go.SX
theorem d18p (l : List (Int × Int)) (x : Int × Int) (hl : l.length < 1000000) : DoesT 18 [.ro 2 (eds l), .agg (eI x)] (iv (plc l x)) := d18 l x hl
theorem Dif.snoc {l : List Node} {y : Node} (h : Dif l) (h1 : ∀ a ∈ l, a.i ≠ y.i) : Dif (l ++ [y]) := by
 unfold Dif
 rw [List.pairwise_append]
 exact ⟨h, List.pairwise_singleton _ _, fun a ha b hb => by simp at hb; subst hb; exact h1 a ha⟩
theorem dif_step {l : List Node} {i : Nat} {y : Node} (hd : Dif (l.take i)) (h1 : ∀ j (h : j < l.length), j < i → l[j].i ≠ y.i) (htk : l.take (i + 1) = l.take i ++ [y]) : Dif (l.take (i + 1)) := by
 rw [htk]
 refine hd.snoc (fun a ha => ?_)
 obtain ⟨j, hj, rfl⟩ := List.mem_iff_getElem.1 ha
 simp only [List.length_take] at hj
 rw [List.getElem_take]
 exact h1 j (by omega) (by omega)
section
variable {l : List Node} {done : List (Int × Int)} (hl : l.length ≤ 100) (h7 : ∀ n ∈ l, n.d.length ≤ 7) (hD : Dif l)
include hD in
theorem ready_node {n : Node} (hn : n ∈ l) (h : n.i ∈ readyL l done) : n ∈ rdy (cnt l done) (miss (cnt l done) done) := by
 obtain ⟨m, hm, e⟩ := mem_ready.1 h
 rwa [hD.inj (mem_cnt (mem_rdy hm)).1 hn e] at hm
theorem readyL_nodup (l : List Node) (done : List (Int × Int)) : (readyL l done).Nodup := by
 obtain ⟨z, ms, r, N, -, -, -, h, -, -, hn, -⟩ := ready_all l done
 rw [h]; exact hn
theorem ready_done {x : Int × Int} (h : x ∈ readyL l done) : x ∉ done := by
 obtain ⟨m, hm, rfl⟩ := mem_ready.1 h
 exact (mem_cnt (mem_rdy hm)).2.2.1
include hD in
theorem ready_miss {n : Node} (hn : n ∈ l) (h : n.i ∈ readyL l done) {x : Int × Int} (hx : x ∈ missL l done) : waits n.d x = false := by
 have h1 := ready_node hD hn h
 obtain ⟨z, ms, r, N, rfl, rfl, rfl, -, -, -, -, -, -, hr, -⟩ := ready_all l done
 exact lacks_false.1 (((hr n).1 h1).2 n (.refl n)) x hx
include hD h7 in
theorem ready_dep {n m : Node} (hn : n ∈ l) (h : n.i ∈ readyL l done) (w : waits n.d m.i = true) (hm : m.i ∉ done) : m.i ∈ readyL l done := by
 obtain ⟨q, hq, e⟩ := ready_waits h7 (ready_node hD hn h) w hm
 exact mem_ready.2 ⟨q, hq, e⟩
end
noncomputable def s4 (l : List Node) (done : List (Int × Int)) (s : Slots) : St := ⟨(0, .ro 4 (eNs l)) :: (1, .ro 2 (eds done)) :: (7, .ro 2 (eds (readyL l done))) :: (8, .ro 2 (eds (missL l done))) :: s, [], []⟩
def I4 (l : List Node) (done : List (Int × Int)) (m : Nat) (st : St) : Prop := ∃ i : Nat, i ≤ l.length ∧ m = l.length - i ∧ Dif (l.take i) ∧ st = s4 l done [(9, iv i)]
def I4b (l : List Node) (done : List (Int × Int)) (i : Nat) (y : Node) (m : Nat) (st : St) : Prop := ∃ k : Nat, k ≤ i ∧ m = i - k ∧ (∀ j (h : j < l.length), j < k → l[j].i ≠ y.i) ∧ st = s4 l done [(9, iv i), (10, iv k)]
def I4c (l : List Node) (done : List (Int × Int)) (m : Nat) (st : St) : Prop := ∃ i : Nat, i ≤ l.length ∧ m = l.length - i ∧ st = s4 l done [(11, iv i)]
def I4d (l : List Node) (done : List (Int × Int)) (i : Nat) (m : Nat) (st : St) : Prop := ∃ k : Nat, k ≤ (missL l done).length ∧ m = (missL l done).length - k ∧ st = s4 l done [(11, iv i), (14, iv k)]
def I4e (l : List Node) (done : List (Int × Int)) (i : Nat) (m : Nat) (st : St) : Prop := ∃ k : Nat, k ≤ l.length ∧ m = l.length - k ∧ st = s4 l done [(11, iv i), (15, iv k)]
theorem c4 : chkFn Try.prog 4 148 2 a4 a4R = true := by kernel_rfl
theorem d4 (l : List Node) (done : List (Int × Int)) : DoesT 4 [.ro 4 (eNs l), .ro 2 (eds done)] (bv true) := by
 have hrl := readyL_length l done
 have hmis : (missL l done).length ≤ 420 := miss_length _ _
 have hrn := readyL_nodup l done
 refine Does.of (nt := 148) (ac := a4) (rds := a4R) c4 (fun c hc => ?_)
 unfold a4
 apply J.seq
 refine J.regE (by simp [eNs, eN, eNs_length, eI]; rfl) ?_
 simp
 apply J.seq
 apply J.reg
 refine runL_tree rfl (d9) (by simp) hc ?_
 simp
 refine runL_step rfl (by simp [eNs, eN, eNs_length, eI]; rfl) ?_
 simp [runL]
 apply J.seq
 apply J.reg
 refine runL_step rfl (by simp [eNs, eN, eNs_length, eI]; rfl) ?_
 refine runL_tree rfl (by simpa [eNs] using d10 l) (by simp) hc ?_
 simp
 refine runL_step rfl (by simp [eNs, eN, eNs_length, eI]; rfl) ?_
 simp [runL]
 apply J.seq
 apply J.seq
 apply J.reg
 iterate 7 refine runL_step rfl (by simp [eNs, eN, eNs_length, eI]; rfl) ?_
 refine runL_if rfl (fun g25 => ?_) (fun g25 => ?_)
 ·
  try simp only [g25]
  try simp at g25
  iterate 4 refine runL_step rfl (by simp [eNs, eN, eNs_length, eI]; rfl) ?_
  simp [runL]
  refine J.condB rfl (fun h29 => ?_) (fun h29 => ?_)
  ·
   skip
   apply J.seq
   refine J.regE (by simp [eNs, eN, eNs_length, eI]; rfl) ?_
   simp
   apply J.ret
   refine ⟨by simp, rfl, _, [], by simp [a4R]; rfl, ?_⟩
   simp
  ·
   try simp at h29
   have hfe : fewN l = true := by simpa using g25
   obtain ⟨hl, hd⟩ := few_le hfe
   obtain ⟨hl30, h7⟩ := few_spec hfe
   have hdn : done.length < 1000000 := by omega
   have h12 := d12 l done hl hdn hd
   have h14 := d14 l done hl hdn hd
   apply J.skip; simp
   apply J.seq
   apply J.reg
   iterate 2 refine runL_step rfl (by simp [eNs, eN, eNs_length, eI]; rfl) ?_
   refine runL_tree rfl (by simpa [eNs] using h12) (by simp) hc ?_
   simp
   refine runL_step rfl (by simp [eNs, eN, eNs_length, eI]; rfl) ?_
   simp [runL]
   apply J.seq
   apply J.reg
   iterate 2 refine runL_step rfl (by simp [eNs, eN, eNs_length, eI]; rfl) ?_
   refine runL_tree rfl (by simpa [eNs] using h14) (by simp) hc ?_
   simp
   refine runL_step rfl (by simp [eNs, eN, eNs_length, eI]; rfl) ?_
   simp [runL]
   apply J.seq
   apply J.seq
   refine J.regE (by simp [eNs, eN, eNs_length, eI]; rfl) ?_
   simp
   apply J.block
   refine J.loop hc (I4 l done) ?_ ?_
   ·refine ⟨_, _, ?_, 0, by omega, rfl, List.Pairwise.nil, rfl⟩
    apply le_sub <;> simp [eNs, eN, s4]
   rintro n st ⟨i, hi, rfl, hdf, rfl⟩
   unfold s4
   apply J.seq
   apply J.seq
   refine J.regE (by simp [eNs, eN, eNs_length, eI]; rfl) ?_
   simp
   refine J.condB rfl (fun h40 => ?_) (fun h40 => ?_)
   ·
    try simp at h40
    have hi0 : i < l.length := by omega
    obtain ⟨y, hx, hgx, hg, hge, hdr, hw, hlt2, htk⟩ := getL (eN) (show i < l.length by omega) (by omega)
    apply J.skip; simp
    apply J.seq
    apply J.block
    apply J.seq
    refine J.regE (by simp [eNs, eN, eNs_length, eI]; rfl) ?_
    simp
    apply J.block
    refine J.loop hc (I4b l done i y) ?_ ?_
    ·refine ⟨_, _, ?_, 0, by omega, rfl, fun j _ h => by omega, rfl⟩
     apply le_sub <;> simp [eNs, eN, s4]
    rintro n st ⟨k, hk, rfl, hne, rfl⟩
    unfold s4
    apply J.seq
    apply J.seq
    refine J.regE (by simp [eNs, eN, eNs_length, eI]; rfl) ?_
    simp
    refine J.condB rfl (fun h45 => ?_) (fun h45 => ?_)
    ·
     try simp at h45
     have hk0 : k < l.length := by omega
     obtain ⟨b, hxk, hgxk, hgk, hgek, hdrk, hwk, hlt2k, htkk⟩ := getL (eN) (show k < l.length by omega) (by omega)
     apply J.skip; simp
     apply J.seq
     apply J.block
     apply J.seq
     apply J.draw; intro c' hc'
     iterate 11 refine runP_stepQ (by simp [eNs, eN, eNs_length, eI, hi0, hgx, hk0, hgxk]; rfl) ?_
     simp [runP]
     refine J.condB rfl (fun h58 => ?_) (fun h58 => ?_)
     ·
      skip
      apply J.seq
      refine J.regE (by simp [eNs, eN, eNs_length, eI]; rfl) ?_
      simp
      apply J.ret
      refine ⟨by simp, rfl, _, [], by simp [a4R]; rfl, ?_⟩
      simp
     ·
      have h58 : b.b = y.b → ¬ b.s = y.s := fun e1 e2 => by simp [e1, e2] at h58
      apply J.skip; simp
      refine J.regE (by simp [eNs, eN, eNs_length, eI, hwk]; rfl) ?_
      simp
      refine ⟨_, ?_, _, ?_, k + 1, ?_, rfl, ?_, rfl⟩
      ·omega
      ·apply le_sub <;> simp [eNs, eN, s4]
      ·omega
      ·intro j hj hjk
       by_cases e : j = k
       ·subst e; rw [hgxk]; intro e; injection e with e1 e2; exact h58 e1 e2
       ·exact hne j hj (by omega)
    ·
     try simp at h45
     obtain rfl : i = k := by omega
     have hdf2 := dif_step hdf hne htk
     apply J.exit; simp
     refine J.regE (by simp [eNs, eN, eNs_length, eI, hw]; rfl) ?_
     simp
     refine ⟨_, ?_, _, ?_, i + 1, ?_, rfl, hdf2, rfl⟩
     ·omega
     ·apply le_sub <;> simp [eNs, eN, s4]
     ·omega
   ·
    try simp at h40
    obtain rfl : i = l.length := by omega
    rw [List.take_length] at hdf
    apply J.exit; simp
    apply J.seq
    apply J.seq
    refine J.regE (by simp [eNs, eN, eNs_length, eI]; rfl) ?_
    simp
    apply J.block
    refine J.loop hc (I4c l done) ?_ ?_
    ·refine ⟨_, _, ?_, 0, by omega, rfl, rfl⟩
     apply le_sub <;> simp [eNs, eN, s4]
    rintro n st ⟨i, hi, rfl, rfl⟩
    unfold s4
    apply J.seq
    apply J.seq
    refine J.regE (by simp [eNs, eN, eNs_length, eI]; rfl) ?_
    simp
    refine J.condB rfl (fun h62 => ?_) (fun h62 => ?_)
    ·
     try simp at h62
     have hi0 : i < l.length := by omega
     obtain ⟨y, hx, hgx, hg, hge, hdr, hw, hlt2, htk⟩ := getL (eN) (show i < l.length by omega) (by omega)
     have hyl := List.mem_of_getElem? hx
     have hyd := hd y hyl
     apply J.skip; simp
     apply J.seq
     apply J.block
     apply J.seq
     apply J.reg
     iterate 6 refine runL_step rfl (by simp [eNs, eN, eNs_length, eI, hi0, hgx]; rfl) ?_
     refine runL_tree rfl (d18p (readyL l done) y.i (by omega)) (by simp) hc ?_
     simp
     refine runL_step rfl (by simp [eNs, eN, eNs_length, eI, hi0, hgx]; rfl) ?_
     simp [runL]
     apply J.seq
     apply J.seq
     refine J.regE (by simp [eNs, eN, eNs_length, eI]; rfl) ?_
     simp
     refine J.condB rfl (fun h73 => ?_) (fun h73 => ?_)
     ·
      skip
      apply J.exit; simp
      refine J.regE (by simp [eNs, eN, eNs_length, eI, hw]; rfl) ?_
      simp
      refine ⟨_, ?_, _, ?_, i + 1, ?_, rfl, rfl⟩
      ·omega
      ·apply le_sub <;> simp [eNs, eN, s4]
      ·omega
     ·
      try simp at h73
      have hyr : y.i ∈ readyL l done := Classical.byContradiction fun h => by have := plc_neg.2 h; omega
      obtain ⟨j, hj, hpj, hgj⟩ := plc_get hyr
      have hwj : IntKind.i64.wrap ((j : Int) + 1) = (j : Int) + 1 := wrap_id (by omega) (by omega)
      have hdn2 := ready_done hyr
      have hj1 : j + 1 ≤ (readyL l done).length := by omega
      have hj2 : (j : Int) + 1 ≤ ((readyL l done).length : Int) := by omega
      have hj3 : (0 : Int) ≤ (j : Int) + 1 := by omega
      have hneg : plc ((readyL l done).drop (j + 1)) y.i < 0 := by
       rw [plc_neg, ← hgj]
       intro hm
       obtain ⟨q, hq, e⟩ := List.mem_iff_getElem.1 hm
       rw [List.getElem_drop] at e
       have := (List.getElem_inj hrn).1 e
       omega
      rw [hpj]
      apply J.skip; simp
      apply J.seq
      apply J.reg
      iterate 6 refine runL_step rfl (by simp [eNs, eN, eNs_length, eI, hi0, hgx]; rfl) ?_
      refine runL_tree rfl (d19 done y.i hdn) (by simp) hc ?_
      simp
      refine runL_step rfl (by simp [eNs, eN, eNs_length, eI, hi0, hgx]; rfl) ?_
      simp [runL]
      simp only [hdn2, decide_false]
      apply J.seq
      apply J.seq
      apply J.draw; intro c' hc'
      iterate 11 refine runP_stepQ (by simp [eNs, eN, eNs_length, eI, hi0, hgx, hwj, hj1, hj2, hj3]; rfl) ?_
      refine runP_do (by simp) ?_
      refine runP_tree rfl (d18p ((readyL l done).drop (j + 1)) y.i (by simp; omega)) (by simp [eI, Node.i]) rfl ?_
      simp
      iterate 2 refine runP_stepQ (by simp [eNs, eN, eNs_length, eI, hi0, hgx, hwj, hj1, hj2, hj3]; rfl) ?_
      simp [runP]
      refine J.condB rfl (fun h94 => ?_) (fun h94 => ?_)
      ·
       exfalso
       try simp at h94
       omega
      ·
       skip
       apply J.skip; simp
       apply J.seq
       apply J.seq
       refine J.regE (by simp [eNs, eN, eNs_length, eI]; rfl) ?_
       simp
       apply J.block
       refine J.loop hc (I4d l done i) ?_ ?_
       ·refine ⟨_, _, ?_, 0, by omega, rfl, rfl⟩
        apply le_sub <;> simp [eNs, eN, s4]
       rintro n st ⟨k, hk, rfl, rfl⟩
       unfold s4
       apply J.seq
       apply J.seq
       refine J.regE (by simp [eNs, eN, eNs_length, eI]; rfl) ?_
       simp
       refine J.condB rfl (fun h98 => ?_) (fun h98 => ?_)
       ·
        try simp at h98
        have hk0 : k < (missL l done).length := by omega
        obtain ⟨x, hxk, hgxk, hgk, hgek, hdrk, hwk, hlt2k, htkk⟩ := getL (eI) (show k < (missL l done).length by omega) (by omega)
        have hwx := ready_miss hdf hyl hyr (List.mem_of_getElem? hxk)
        apply J.skip; simp
        apply J.seq
        apply J.block
        apply J.seq
        apply J.draw; intro c' hc'
        iterate 9 refine runP_stepQ (by simp [eNs, eN, eNs_length, eI, hi0, hgx, hk0, hgxk]; rfl) ?_
        refine runP_tree rfl (by have h := d20 y.q y.d x hyd; rw [hwx] at h; exact h) (by simp) rfl ?_
        simp
        simp [runP]
        apply J.cond; simp [eNs, eN, eNs_length, eI]
        apply J.skip; simp
        refine J.regE (by simp [eNs, eN, eNs_length, eI, hwk]; rfl) ?_
        simp
        refine ⟨_, ?_, _, ?_, k + 1, ?_, rfl, rfl⟩
        ·omega
        ·apply le_sub <;> simp [eNs, eN, s4]
        ·omega
       ·
        skip
        apply J.exit; simp
        apply J.seq
        refine J.regE (by simp [eNs, eN, eNs_length, eI]; rfl) ?_
        simp
        apply J.block
        refine J.loop hc (I4e l done i) ?_ ?_
        ·refine ⟨_, _, ?_, 0, by omega, rfl, rfl⟩
         apply le_sub <;> simp [eNs, eN, s4]
        rintro n st ⟨k, hk, rfl, rfl⟩
        unfold s4
        apply J.seq
        apply J.seq
        refine J.regE (by simp [eNs, eN, eNs_length, eI]; rfl) ?_
        simp
        refine J.condB rfl (fun h114 => ?_) (fun h114 => ?_)
        ·
         try simp at h114
         have hk0 : k < l.length := by omega
         obtain ⟨z, hxk, hgxk, hgk, hgek, hdrk, hwk, hlt2k, htkk⟩ := getL (eN) (show k < l.length by omega) (by omega)
         apply J.skip; simp
         apply J.seq
         apply J.block
         apply J.seq
         apply J.draw; intro c' hc'
         iterate 10 refine runP_stepQ (by simp [eNs, eN, eNs_length, eI, hi0, hgx, hk0, hgxk]; rfl) ?_
         refine runP_tree rfl (d20 y.q y.d z.i hyd) (by simp) rfl ?_
         simp
         refine runP_stepQ (by simp [eNs, eN, eNs_length, eI, hi0, hgx, hk0, hgxk]; rfl) ?_
         refine runP_if rfl (fun g128 => ?_) (fun g128 => ?_)
         ·
          try simp only [g128]
          try simp at g128
          iterate 6 refine runP_stepQ (by simp [eNs, eN, eNs_length, eI, hi0, hgx, hk0, hgxk]; rfl) ?_
          refine runP_do (by simp) ?_
          refine runP_tree rfl (d18p done z.i hdn) (by simp) rfl ?_
          simp
          iterate 3 refine runP_stepQ (by simp [eNs, eN, eNs_length, eI, hi0, hgx, hk0, hgxk]; rfl) ?_
          refine runP_if rfl (fun g138 => ?_) (fun g138 => ?_)
          ·
           try simp only [g138]
           try simp at g138
           iterate 6 refine runP_stepQ (by simp [eNs, eN, eNs_length, eI, hi0, hgx, hk0, hgxk]; rfl) ?_
           refine runP_do (by simp) ?_
           refine runP_tree rfl (d18p (readyL l done) z.i (by omega)) (by simp) rfl ?_
           simp
           iterate 2 refine runP_stepQ (by simp [eNs, eN, eNs_length, eI, hi0, hgx, hk0, hgxk]; rfl) ?_
           simp [runP]
           refine J.condB rfl (fun h147 => ?_) (fun h147 => ?_)
           ·
            exfalso
            try simp at h147
            simp only [plc_neg] at h147 g138
            exact h147 (ready_dep h7 hdf hyl hyr g128 g138)
           ·
            skip
            apply J.skip; simp
            refine J.regE (by simp [eNs, eN, eNs_length, eI, hwk]; rfl) ?_
            simp
            refine ⟨_, ?_, _, ?_, k + 1, ?_, rfl, rfl⟩
            ·omega
            ·apply le_sub <;> simp [eNs, eN, s4]
            ·omega
          ·
           try simp only [g138]
           try simp at g138
           iterate 5 refine runP_stepQ (by simp [eNs, eN, eNs_length, eI, hi0, hgx, hk0, hgxk]; rfl) ?_
           refine runP_skip (b := false) (by simp) (by simp) ?_
           simp
           iterate 2 refine runP_stepQ (by simp [eNs, eN, eNs_length, eI, hi0, hgx, hk0, hgxk]; rfl) ?_
           simp [runP]
           apply J.cond; simp [eNs, eN, eNs_length, eI]
           apply J.skip; simp
           refine J.regE (by simp [eNs, eN, eNs_length, eI, hwk]; rfl) ?_
           simp
           refine ⟨_, ?_, _, ?_, k + 1, ?_, rfl, rfl⟩
           ·omega
           ·apply le_sub <;> simp [eNs, eN, s4]
           ·omega
         ·
          try simp only [g128]
          try simp at g128
          iterate 5 refine runP_stepQ (by simp [eNs, eN, eNs_length, eI, hi0, hgx, hk0, hgxk]; rfl) ?_
          refine runP_skip (b := false) (by simp) (by simp) ?_
          simp
          iterate 9 refine runP_stepQ (by simp [eNs, eN, eNs_length, eI, hi0, hgx, hk0, hgxk]; rfl) ?_
          refine runP_skip (b := false) (by simp) (by simp) ?_
          simp
          iterate 2 refine runP_stepQ (by simp [eNs, eN, eNs_length, eI, hi0, hgx, hk0, hgxk]; rfl) ?_
          simp [runP]
          apply J.cond; simp [eNs, eN, eNs_length, eI]
          apply J.skip; simp
          refine J.regE (by simp [eNs, eN, eNs_length, eI, hwk]; rfl) ?_
          simp
          refine ⟨_, ?_, _, ?_, k + 1, ?_, rfl, rfl⟩
          ·omega
          ·apply le_sub <;> simp [eNs, eN, s4]
          ·omega
        ·
         skip
         apply J.exit; simp
         refine J.regE (by simp [eNs, eN, eNs_length, eI, hw]; rfl) ?_
         simp
         refine ⟨_, ?_, _, ?_, i + 1, ?_, rfl, rfl⟩
         ·omega
         ·apply le_sub <;> simp [eNs, eN, s4]
         ·omega
    ·
     try simp at h62
     obtain rfl : i = l.length := by omega
     apply J.exit; simp
     apply J.seq
     refine J.regE (by simp [eNs, eN, eNs_length, eI]; rfl) ?_
     simp
     apply J.ret
     refine ⟨by simp, rfl, _, [], by simp [a4R]; rfl, ?_⟩
     simp
 ·
  try simp only [g25]
  try simp at g25
  iterate 3 refine runL_step rfl (by simp [eNs, eN, eNs_length, eI]; rfl) ?_
  simp [runL]
  apply J.cond; simp [eNs, eN, eNs_length, eI]
  apply J.seq
  refine J.regE (by simp [eNs, eN, eNs_length, eI]; rfl) ?_
  simp
  apply J.ret
  refine ⟨by simp, rfl, _, [], by simp [a4R]; rfl, ?_⟩
  simp
end Go.Proofs.Ytdekelhmneeniaa.F
namespace Go.Proofs.Ytdekelhmneeniaa.F
open Go Go.SX
section
variable {l : List Node} {done : List (Int × Int)} (h7 : ∀ n ∈ l, n.d.length ≤ 7) (hD : Dif l)
include h7 hD in
theorem RN.down {a b : Node} (h : RN l a b) (ha : a ∈ rdy (cnt l []) (miss (cnt l []) [])) : b ∈ rdy (cnt l []) (miss (cnt l []) []) ∧ RN (rdy (cnt l []) (miss (cnt l []) [])) a b := by
 induction h with
 | refl => exact ⟨ha, .refl _⟩
 | @step b c _ hc w ih =>
  obtain ⟨h1, h2⟩ := ih
  obtain ⟨m, hm, e⟩ := ready_waits h7 h1 w (by simp)
  obtain rfl := hD.inj (mem_cnt (mem_rdy hm)).1 hc e
  exact ⟨hm, .step h2 hm w⟩
include h7 hD in
theorem behind {a b : Node} (ha : a ∈ l) (hb : b ∈ l) (w : waits a.d b.i = true) (hr : a.i ∈ readyL l []) :
  b.i ∈ readyL l [] ∧ (plc (readyL l []) a.i < plc (readyL l []) b.i → RN l b a ∧ compN a b < 0) ∧ (RN l b a → plc (readyL l []) b.i < plc (readyL l []) a.i → compN b a < 0) := by
 have ha1 := ready_node hD ha hr
 obtain ⟨hb1, hab⟩ := (RN.one hb w).down h7 hD ha1
 obtain ⟨z, ms, r, N, rfl, rfl, rfl, hN, hp, hpw, hn, -⟩ := ready_all l []
 have haN := hp.mem_iff.2 ha1
 have hbN := hp.mem_iff.2 hb1
 refine ⟨mem_ready.2 ⟨b, hb1, rfl⟩, fun h => ?_, fun hm h => ?_⟩
 ·rw [hN] at h
  obtain ⟨h1, h2⟩ := plc_pw hpw hn haN hbN h hab
  exact ⟨h1.mono (fun n hn => (mem_cnt (mem_rdy hn)).1), h2⟩
 ·rw [hN] at h
  exact (plc_pw hpw hn hbN haN h (hm.down h7 hD hb1).2).2
end
theorem edgs_nat {z : List Node} {e : Int × Int} (h : e ∈ edgs z) : ∃ a b : Nat, e = ((a : Int), (b : Int)) ∧ a < z.length ∧ b < z.length ∧ waits (ndAt z a).d (ndAt z b).i = true := by
 obtain ⟨x, y⟩ := e
 unfold edgs at h
 obtain ⟨j, h1, h2, k, h3, h4, h5⟩ := mem_edR.1 h
 exact ⟨j, k, by rw [h2, h4]; simp, h1, h3, h5⟩
theorem reB_RN {z : List Node} (hz : z.length ≤ 100) (hn : z.Nodup) {a b : Nat} (ha : a < z.length) (hb : b < z.length) : P11.reB (z.length : Nat) (edgs z) (a : Int) (b : Int) = true ↔ RN z (ndAt z a) (ndAt z b) := by
 unfold P11.reB
 have h1 : P11.isT (z.length : Nat) (a : Int) = true := by rw [P11.isT_iff, bN_nat hz]; omega
 have h2 : P11.isT (z.length : Nat) (b : Int) = true := by rw [P11.isT_iff, bN_nat hz]; omega
 rw [h1, h2]
 simpa using rB_RN hz hn ha hb
theorem dif_all {l : List Node} (h : ∀ i j (hi : i < l.length) (hj : j < l.length), j ≠ i → l[j].i ≠ l[i].i) : Dif l := by
 unfold Dif
 rw [List.pairwise_iff_getElem]
 intro i j hi hj hij
 exact h j i hj hi (by omega)
def s8 (l : List Node) (e : List (Int × Int)) (s : Slots) : St := ⟨(0, .ro 4 (eNs l)) :: (5, .own 8067 2 0 e.length) :: s, [(8067, .arr 46 2 (eds e))], []⟩
def I8 (l : List Node) (m : Nat) (st : St) : Prop := ∃ (i : Nat) (e : List (Int × Int)), i ≤ l.length ∧ m = l.length - i ∧ e ++ edR l i (l.drop i) = edgs l ∧ (∀ i' j (hi : i' < l.length) (hj : j < l.length), i' < i → j ≠ i' → l[j].i ≠ l[i'].i) ∧ st = s8 l e [(6, iv i)]
def I8b (l : List Node) (a : Node) (i : Nat) (m : Nat) (st : St) : Prop := ∃ (k : Nat) (e : List (Int × Int)), k ≤ l.length ∧ m = l.length - k ∧ (e ++ edK a i (l.drop k) k) ++ edR l (i + 1) (l.drop (i + 1)) = edgs l ∧ (∀ j (hj : j < l.length), j < k → j ≠ i → l[j].i ≠ a.i) ∧ st = s8 l e [(6, iv i), (7, iv k)]
noncomputable def s8c (l : List Node) (s : Slots) : St := ⟨(0, .ro 4 (eNs l)) :: (5, .ro 2 (eds (edgs l))) :: (8, .ro 2 (eds (readyL l []))) :: s, [], []⟩
def I8c (l : List Node) (m : Nat) (st : St) : Prop := ∃ i : Nat, i ≤ (edgs l).length ∧ m = (edgs l).length - i ∧ st = s8c l [(9, iv i)]
theorem c8 : chkFn Try.prog 8 168 1 a8 a8R = true := by kernel_rfl
set_option maxHeartbeats 4000000 in
theorem d8 (l : List Node) : DoesT 8 [.ro 4 (eNs l)] (bv true) := by
 have hrl := readyL_length l []
 refine Does.of (nt := 168) (ac := a8) (rds := a8R) c8 (fun c hc => ?_)
 unfold a8
 apply J.seq
 refine J.regE (by simp [eNs, eN, eNs_length, eI]; rfl) ?_
 simp
 apply J.seq
 apply J.reg
 refine runL_tree rfl (d9) (by simp) hc ?_
 simp
 refine runL_step rfl (by simp [eNs, eN, eNs_length, eI]; rfl) ?_
 simp [runL]
 apply J.seq
 apply J.reg
 refine runL_step rfl (by simp [eNs, eN, eNs_length, eI]; rfl) ?_
 refine runL_tree rfl (by simpa [eNs] using d10 l) (by simp) hc ?_
 simp
 refine runL_step rfl (by simp [eNs, eN, eNs_length, eI]; rfl) ?_
 simp [runL]
 apply J.seq
 apply J.seq
 apply J.reg
 iterate 6 refine runL_step rfl (by simp [eNs, eN, eNs_length, eI]; rfl) ?_
 simp [runL]
 refine J.condB rfl (fun h21 => ?_) (fun h21 => ?_)
 ·
  skip
  apply J.seq
  refine J.regE (by simp [eNs, eN, eNs_length, eI]; rfl) ?_
  simp
  apply J.ret
  refine ⟨by simp, rfl, _, [], by simp [a8R]; rfl, ?_⟩
  simp
 ·
  try simp at h21
  have hfe : fewN l = true := by simpa using h21
  obtain ⟨hl, hd⟩ := few_le hfe
  obtain ⟨hl30, h7⟩ := few_spec hfe
  have h12 := Does.nil1 (s := 2) (d12 l [] hl (by simp) hd)
  have hel := edgs_length (c := l) (by omega)
  apply J.skip; simp
  apply J.seq
  refine J.regE (by simp [eNs, eN, eNs_length, eI]; rfl) ?_
  simp
  refine J.nilrow hc 5 8067 46 rfl rfl rfl ?_
  simp
  apply J.seq
  apply J.seq
  refine J.regE (by simp [eNs, eN, eNs_length, eI]; rfl) ?_
  simp
  apply J.block
  refine J.loop hc (I8 l) ?_ ?_
  ·exact ⟨_, _, by apply le_sub <;> simp [eNs, s8], 0, [], by omega, rfl, rfl, fun i' j _ _ h => by omega, rfl⟩
  rintro n st ⟨i, e, hi, rfl, hI, hdf, rfl⟩
  unfold s8
  apply J.seq
  apply J.seq
  refine J.regE (by simp [eNs, eN, eNs_length, eI]; rfl) ?_
  simp
  refine J.condB rfl (fun h26 => ?_) (fun h26 => ?_)
  ·
   try simp at h26
   have hi0 : i < l.length := by omega
   obtain ⟨a, hx, hgx, hg, hge, hdr, hw, hlt2, htk⟩ := getL (eN) (show i < l.length by omega) (by omega)
   rw [hdr] at hI
   simp only [edR] at hI
   apply J.skip; simp
   apply J.seq
   apply J.block
   apply J.seq
   refine J.regE (by simp [eNs, eN, eNs_length, eI]; rfl) ?_
   simp
   apply J.block
   refine J.loop hc (I8b l a i) ?_ ?_
   ·refine ⟨_, _, ?_, 0, e, by omega, rfl, by simpa using hI, fun j _ h => by omega, rfl⟩
    apply le_sub <;> simp [eNs, eN, s8]
   rintro n st ⟨k, e, hk, rfl, hI, hne, rfl⟩
   unfold s8
   apply J.seq
   apply J.seq
   refine J.regE (by simp [eNs, eN, eNs_length, eI]; rfl) ?_
   simp
   refine J.condB rfl (fun h32 => ?_) (fun h32 => ?_)
   ·
    try simp at h32
    have hk0 : k < l.length := by omega
    obtain ⟨b, hxk, hgxk, hgk, hgek, hdrk, hwk, hlt2k, htkk⟩ := getL (eN) (show k < l.length by omega) (by omega)
    rw [hdrk] at hI
    simp only [edK] at hI
    apply J.skip; simp
    apply J.seq
    apply J.block
    apply J.seq
    apply J.seq
    apply J.draw; intro c' hc'
    iterate 4 refine runP_stepQ (by simp [eNs, eN, eNs_length, eI, hi0, hgx, hk0, hgxk]; rfl) ?_
    refine runP_if rfl (fun g38 => ?_) (fun g38 => ?_)
    ·
     try simp only [g38]
     try simp at g38
     have hik : ¬ i = k := by omega
     iterate 12 refine runP_stepQ (by simp [eNs, eN, eNs_length, eI, hi0, hgx, hk0, hgxk, hik]; rfl) ?_
     simp [runP]
     refine J.condB rfl (fun h50 => ?_) (fun h50 => ?_)
     ·
      skip
      apply J.seq
      refine J.regE (by simp [eNs, eN, eNs_length, eI]; rfl) ?_
      simp
      apply J.ret
      refine ⟨by simp, rfl, _, [], by simp [a8R]; rfl, ?_⟩
      simp
     ·
      have h50 : ¬ i = k → a.b = b.b → ¬ a.s = b.s := fun hn e1 e2 => by first | exact absurd hik hn | (simp [e1, e2] at h50; done)
      apply J.skip; simp
      apply J.seq
      apply J.draw; intro c' hc'
      iterate 10 refine runP_stepQ (by simp [eNs, eN, eNs_length, eI, hi0, hgx, hk0, hgxk]; rfl) ?_
      refine runP_tree rfl (d20 a.q a.d b.i (hd _ (List.mem_of_getElem? hx))) (by simp) rfl ?_
      simp
      simp [runP]
      refine J.condB rfl (fun h61 => ?_) (fun h61 => ?_)
      ·
       try simp at h61
       rw [h61] at hI
       have hI2 : ((e ++ [((i : Int), (k : Int))]) ++ edK a i (l.drop (k + 1)) (k + 1)) ++ edR l (i + 1) (l.drop (i + 1)) = edgs l := by simpa using hI
       have hlen := app_le hI2
       simp at hlen
       have hne2 : ∀ j (hj : j < l.length), j < k + 1 → j ≠ i → l[j].i ≠ a.i := by
        intro j hj hjk hji
        by_cases e : j = k
        ·subst e; rw [hgxk]; intro e; injection e with e1 e2; exact h50 (fun e => hji e.symm) e1.symm e2.symm
        ·exact hne j hj (by omega) hji
       apply J.reg
       iterate 7 refine runL_step rfl (by simp [eNs, eN, eNs_length, eI, eNs, eN, eNs_length, eI, show (e.length + 1) * 16 ≤ 140737488355328 from by omega, List.take_of_length_le]; rfl) ?_
       simp [runL]
       refine J.regE (by simp [eNs, eN, eNs_length, eI, hwk]; rfl) ?_
       simp
       refine ⟨_, ?_, _, ?_, k + 1, _, ?_, rfl, hI2, hne2, rfl⟩
       ·omega
       ·apply le_sub <;> simp [eNs, eN, s8]
       ·omega
      ·
       try simp at h61
       rw [h61] at hI
       have hI2 : (e ++ edK a i (l.drop (k + 1)) (k + 1)) ++ edR l (i + 1) (l.drop (i + 1)) = edgs l := by simpa using hI
       have hne2 : ∀ j (hj : j < l.length), j < k + 1 → j ≠ i → l[j].i ≠ a.i := by
        intro j hj hjk hji
        by_cases e : j = k
        ·subst e; rw [hgxk]; intro e; injection e with e1 e2; exact h50 (fun e => hji e.symm) e1.symm e2.symm
        ·exact hne j hj (by omega) hji
       apply J.skip; simp
       refine J.regE (by simp [eNs, eN, eNs_length, eI, hwk]; rfl) ?_
       simp
       refine ⟨_, ?_, _, ?_, k + 1, _, ?_, rfl, hI2, hne2, rfl⟩
       ·omega
       ·apply le_sub <;> simp [eNs, eN, s8]
       ·omega
    ·
     try simp only [g38]
     try simp at g38
     have hik : i = k := by omega
     iterate 11 refine runP_stepQ (by simp [eNs, eN, eNs_length, eI, hi0, hgx, hk0, hgxk]; rfl) ?_
     simp [runP]
     refine J.condB rfl (fun h50 => ?_) (fun h50 => ?_)
     ·
      skip
      apply J.seq
      refine J.regE (by simp [eNs, eN, eNs_length, eI]; rfl) ?_
      simp
      apply J.ret
      refine ⟨by simp, rfl, _, [], by simp [a8R]; rfl, ?_⟩
      simp
     ·
      have h50 : ¬ i = k → a.b = b.b → ¬ a.s = b.s := fun hn e1 e2 => by first | exact absurd hik hn | (simp [e1, e2] at h50; done)
      apply J.skip; simp
      apply J.seq
      apply J.draw; intro c' hc'
      iterate 10 refine runP_stepQ (by simp [eNs, eN, eNs_length, eI, hi0, hgx, hk0, hgxk]; rfl) ?_
      refine runP_tree rfl (d20 a.q a.d b.i (hd _ (List.mem_of_getElem? hx))) (by simp) rfl ?_
      simp
      simp [runP]
      refine J.condB rfl (fun h61 => ?_) (fun h61 => ?_)
      ·
       try simp at h61
       rw [h61] at hI
       have hI2 : ((e ++ [((i : Int), (k : Int))]) ++ edK a i (l.drop (k + 1)) (k + 1)) ++ edR l (i + 1) (l.drop (i + 1)) = edgs l := by simpa using hI
       have hlen := app_le hI2
       simp at hlen
       have hne2 : ∀ j (hj : j < l.length), j < k + 1 → j ≠ i → l[j].i ≠ a.i := by
        intro j hj hjk hji
        by_cases e : j = k
        ·subst e; rw [hgxk]; intro e; injection e with e1 e2; exact h50 (fun e => hji e.symm) e1.symm e2.symm
        ·exact hne j hj (by omega) hji
       apply J.reg
       iterate 7 refine runL_step rfl (by simp [eNs, eN, eNs_length, eI, eNs, eN, eNs_length, eI, show (e.length + 1) * 16 ≤ 140737488355328 from by omega, List.take_of_length_le]; rfl) ?_
       simp [runL]
       refine J.regE (by simp [eNs, eN, eNs_length, eI, hwk]; rfl) ?_
       simp
       refine ⟨_, ?_, _, ?_, k + 1, _, ?_, rfl, hI2, hne2, rfl⟩
       ·omega
       ·apply le_sub <;> simp [eNs, eN, s8]
       ·omega
      ·
       try simp at h61
       rw [h61] at hI
       have hI2 : (e ++ edK a i (l.drop (k + 1)) (k + 1)) ++ edR l (i + 1) (l.drop (i + 1)) = edgs l := by simpa using hI
       have hne2 : ∀ j (hj : j < l.length), j < k + 1 → j ≠ i → l[j].i ≠ a.i := by
        intro j hj hjk hji
        by_cases e : j = k
        ·subst e; rw [hgxk]; intro e; injection e with e1 e2; exact h50 (fun e => hji e.symm) e1.symm e2.symm
        ·exact hne j hj (by omega) hji
       apply J.skip; simp
       refine J.regE (by simp [eNs, eN, eNs_length, eI, hwk]; rfl) ?_
       simp
       refine ⟨_, ?_, _, ?_, k + 1, _, ?_, rfl, hI2, hne2, rfl⟩
       ·omega
       ·apply le_sub <;> simp [eNs, eN, s8]
       ·omega
   ·
    try simp at h32
    obtain rfl : k = l.length := by omega
    rw [List.drop_length] at hI
    simp only [edK, List.append_nil] at hI
    have hI2 := hI
    have hdf2 : ∀ i' j (hi : i' < l.length) (hj : j < l.length), i' < i + 1 → j ≠ i' → l[j].i ≠ l[i'].i := by
     intro i' j hi' hj h1 h2
     by_cases e : i' = i
     ·subst e; rw [hgx]; exact hne j hj hj h2
     ·exact hdf i' j hi' hj (by omega) h2
    apply J.exit; simp
    refine J.regE (by simp [eNs, eN, eNs_length, eI, hw]; rfl) ?_
    simp
    refine ⟨_, ?_, _, ?_, i + 1, e, ?_, rfl, hI2, hdf2, rfl⟩
    ·omega
    ·apply le_sub <;> simp [eNs, eN, s8]
    ·omega
  ·
   try simp at h26
   obtain rfl : i = l.length := by omega
   rw [List.drop_length] at hI
   simp only [edR, List.append_nil] at hI
   have hD : Dif l := dif_all (fun i j hi hj hne => hdf i j hi hj hi hne)
   have hnd := hD.nodup
   apply J.exit; simp
   apply J.seq
   refine J.freeze hc 8067 rfl ?_
   simp [List.take_of_length_le]
   rw [hI]
   apply J.reg
   refine runL_step rfl (by simp [eNs, eN, eNs_length, eI]; rfl) ?_
   refine runL_tree rfl (by simpa [eNs] using h12) (by simp) hc ?_
   simp
   refine runL_step rfl (by simp [eNs, eN, eNs_length, eI]; rfl) ?_
   simp [runL]
   apply J.seq
   apply J.seq
   refine J.regE (by simp [eNs, eN, eNs_length, eI]; rfl) ?_
   simp
   apply J.block
   refine J.loop hc (I8c l) ?_ ?_
   ·refine ⟨_, _, ?_, 0, by omega, rfl, rfl⟩
    apply le_sub <;> simp [eNs, eN, s8c]
   rintro n st ⟨i, hi, rfl, rfl⟩
   unfold s8c
   apply J.seq
   apply J.seq
   refine J.regE (by simp [eNs, eN, eNs_length, eI]; rfl) ?_
   simp
   refine J.condB rfl (fun h73 => ?_) (fun h73 => ?_)
   ·
    try simp at h73
    have hi0 : i < (edgs l).length := by omega
    obtain ⟨e, hx, hgx, hg, hge, hdr, hw, hlt2, htk⟩ := getL (fun e : Int × Int => [iv e.1, iv e.2]) (show i < (edgs l).length by omega) (by omega)
    obtain ⟨a, b, rfl, ha, hb, hwt⟩ := edgs_nat (List.mem_of_getElem? hx)
    obtain ⟨na, hna⟩ : ∃ n, ndAt l a = n := ⟨_, rfl⟩
    obtain ⟨nb, hnb⟩ : ∃ n, ndAt l b = n := ⟨_, rfl⟩
    have hga : ∀ h, l[a]'h = na := fun h => by rw [← hna, ndAt_get h]
    have hgb : ∀ h, l[b]'h = nb := fun h => by rw [← hnb, ndAt_get h]
    have hal : na ∈ l := hna ▸ ndAt_mem ha
    have hbl : nb ∈ l := hnb ▸ ndAt_mem hb
    rw [hna, hnb] at hwt
    have hbh := behind h7 hD hal hbl hwt
    obtain ⟨mu, hmu⟩ : ∃ m, P11.reB (l.length : Nat) (edgs l) (b : Int) (a : Int) = m := ⟨_, rfl⟩
    have hmR : mu = true ↔ RN l nb na := by rw [← hmu, reB_RN (by omega) hnd hb ha, hna, hnb]
    have h22 := P11.d17 (l.length : Nat) (edgs l) (b : Int) (a : Int) (by omega)
    rw [hmu] at h22
    obtain ⟨pa, hpa⟩ : ∃ p, plc (readyL l []) na.i = p := ⟨_, rfl⟩
    obtain ⟨pb, hpb⟩ : ∃ p, plc (readyL l []) nb.i = p := ⟨_, rfl⟩
    have h18a := d18p (readyL l []) na.i (by omega)
    rw [hpa] at h18a
    have h18b := d18p (readyL l []) nb.i (by omega)
    rw [hpb] at h18b
    rw [hpa, hpb] at hbh
    have hra : 0 ≤ pa → na.i ∈ readyL l [] := fun h => Classical.byContradiction fun h1 => by have := plc_neg.2 h1; omega
    have hrb : 0 ≤ pa → 0 ≤ pb := fun h => by have h1 := (hbh (hra h)).1; rw [← hpb]; exact Int.not_lt.1 fun h2 => plc_neg.1 h2 h1
    apply J.skip; simp
    apply J.seq
    apply J.block
    apply J.seq
    apply J.reg
    iterate 10 refine runL_step rfl (by simp [eNs, eN, eNs_length, eI, hi0, hgx, ha, hga]; rfl) ?_
    refine runL_tree rfl (by simpa [eI, Node.i] using h18a) (by simp) hc ?_
    simp
    refine runL_step rfl (by simp [eNs, eN, eNs_length, eI, hi0, hgx, ha, hga]; rfl) ?_
    simp [runL]
    apply J.seq
    apply J.reg
    iterate 10 refine runL_step rfl (by simp [eNs, eN, eNs_length, eI, hi0, hgx, hb, hgb]; rfl) ?_
    refine runL_tree rfl (by simpa [eI, Node.i] using h18b) (by simp) hc ?_
    simp
    refine runL_step rfl (by simp [eNs, eN, eNs_length, eI, hi0, hgx, hb, hgb]; rfl) ?_
    simp [runL]
    apply J.seq
    apply J.draw; intro c' hc'
    iterate 13 refine runP_stepQ (by simp [eNs, eN, eNs_length, eI, hi0, hgx]; rfl) ?_
    refine runP_tree rfl (by simpa [eNs] using h22) (by simp) rfl ?_
    simp
    refine runP_stepQ (by simp [eNs, eN, eNs_length, eI, hi0, hgx]; rfl) ?_
    simp [runP]
    apply J.seq
    apply J.seq
    apply J.reg
    iterate 3 refine runL_step rfl (by simp [eNs, eN, eNs_length, eI]; rfl) ?_
    refine runL_if rfl (fun g114 => ?_) (fun g114 => ?_)
    ·
     try simp only [g114]
     try simp at g114
     have hra2 := hra (by simpa using g114)
     have hrb2 := hrb (by simpa using g114)
     obtain ⟨hq1, hq2, hq3⟩ := hbh hra2
     try (exfalso; omega)
     all_goals
      iterate 3 refine runL_step rfl (by simp [eNs, eN, eNs_length, eI]; rfl) ?_
      refine runL_if rfl (fun g117 => ?_) (fun g117 => ?_)
      ·
       try simp only [g117]
       try simp at g117
       try (exfalso; omega)
       all_goals
        iterate 3 refine runL_step rfl (by simp [eNs, eN, eNs_length, eI]; rfl) ?_
        refine runL_if rfl (fun g120 => ?_) (fun g120 => ?_)
        ·
         try simp only [g120]
         try simp at g120
         try (exfalso; omega)
         all_goals
          iterate 6 refine runL_step rfl (by simp [eNs, eN, eNs_length, eI]; rfl) ?_
          simp [runL]
          refine J.condB rfl (fun h126 => ?_) (fun h126 => ?_)
          ·
           exfalso
           have hlt : pa < pb := by simpa using h126
           have := hmR.2 (hq2 hlt).1
           simp [this] at g120
          ·
           skip
           apply J.skip; simp
           apply J.seq
           apply J.draw; intro c' hc'
           iterate 3 refine runP_stepQ (by simp [eNs, eN, eNs_length, eI, hi0, hgx, ha, hga, hb, hgb]; rfl) ?_
           refine runP_if rfl (fun g129 => ?_) (fun g129 => ?_)
           ·
            try simp only [g129]
            try simp at g129
            iterate 3 refine runP_stepQ (by simp [eNs, eN, eNs_length, eI, hi0, hgx, ha, hga, hb, hgb]; rfl) ?_
            refine runP_if rfl (fun g132 => ?_) (fun g132 => ?_)
            ·
             try simp only [g132]
             try simp at g132
             iterate 19 refine runP_stepQ (by simp [eNs, eN, eNs_length, eI, hi0, hgx, ha, hga, hb, hgb]; rfl) ?_
             refine runP_do (by simp) ?_
             refine runP_tree rfl (d16 na nb) (by simp) rfl ?_
             simp
             iterate 3 refine runP_stepQ (by simp [eNs, eN, eNs_length, eI, hi0, hgx, ha, hga, hb, hgb]; rfl) ?_
             refine runP_if rfl (fun g155 => ?_) (fun g155 => ?_)
             ·
              try simp only [g155]
              try simp at g155
              iterate 12 refine runP_stepQ (by simp [eNs, eN, eNs_length, eI, hi0, hgx, ha, hga, hb, hgb]; rfl) ?_
              simp [runP]
              refine J.condB rfl (fun h167 => ?_) (fun h167 => ?_)
              ·
               exfalso
               have hab : ¬ a = b := by intro e; subst e; simp at h167
               have hra2 := hra (by omega)
               obtain ⟨hq1, hq2, hq3⟩ := hbh hra2
               have hmm : RN l nb na := hmR.1 (by first | exact g132 | simpa using g132)
               by_cases hlt : pa < pb
               ·have h2 : lessN na nb = true := (less_iff _ _).2 (hq2 hlt).2
                simp [hlt, h2] at g155
               ·have hne : pa ≠ pb := fun e => by
                 obtain ⟨j, hj, e1, e2⟩ := plc_get hra2
                 obtain ⟨j', hj', e3, e4⟩ := plc_get hq1
                 have hjj : j = j' := by omega
                 subst hjj
                 have e5 := hD.inj hal hbl (e2.symm.trans e4)
                 rw [← hna, ← hnb, ndAt_get ha, ndAt_get hb] at e5
                 exact hab ((List.getElem_inj hnd).1 e5)
                have h1 := hq3 hmm (by omega)
                have h2 : lessN na nb = false := by
                 rw [Bool.eq_false_iff, Ne, less_iff]
                 rw [compN_neg] at *
                 omega
                simp [hlt, h2] at g155
              ·
               skip
               apply J.skip; simp
               refine J.regE (by simp [eNs, eN, eNs_length, eI, hw]; rfl) ?_
               simp
               refine ⟨_, ?_, _, ?_, i + 1, ?_, rfl, rfl⟩
               ·omega
               ·apply le_sub <;> simp [eNs, eN, s8c]
               ·omega
             ·
              try simp only [g155]
              try simp at g155
              iterate 11 refine runP_stepQ (by simp [eNs, eN, eNs_length, eI, hi0, hgx, ha, hga, hb, hgb]; rfl) ?_
              simp [runP]
              apply J.cond; simp [eNs, eN, eNs_length, eI]
              apply J.skip; simp
              refine J.regE (by simp [eNs, eN, eNs_length, eI, hw]; rfl) ?_
              simp
              refine ⟨_, ?_, _, ?_, i + 1, ?_, rfl, rfl⟩
              ·omega
              ·apply le_sub <;> simp [eNs, eN, s8c]
              ·omega
            ·
             try simp only [g132]
             try simp at g132
             iterate 18 refine runP_stepQ (by simp [eNs, eN, eNs_length, eI, hi0, hgx, ha, hga, hb, hgb]; rfl) ?_
             refine runP_skip (b := false) (by simp) (by simp) ?_
             simp
             iterate 15 refine runP_stepQ (by simp [eNs, eN, eNs_length, eI, hi0, hgx, ha, hga, hb, hgb]; rfl) ?_
             simp [runP]
             apply J.cond; simp [eNs, eN, eNs_length, eI]
             apply J.skip; simp
             refine J.regE (by simp [eNs, eN, eNs_length, eI, hw]; rfl) ?_
             simp
             refine ⟨_, ?_, _, ?_, i + 1, ?_, rfl, rfl⟩
             ·omega
             ·apply le_sub <;> simp [eNs, eN, s8c]
             ·omega
           ·
            try simp only [g129]
            try simp at g129
            iterate 21 refine runP_stepQ (by simp [eNs, eN, eNs_length, eI, hi0, hgx, ha, hga, hb, hgb]; rfl) ?_
            refine runP_skip (b := false) (by simp) (by simp) ?_
            simp
            iterate 15 refine runP_stepQ (by simp [eNs, eN, eNs_length, eI, hi0, hgx, ha, hga, hb, hgb]; rfl) ?_
            simp [runP]
            apply J.cond; simp [eNs, eN, eNs_length, eI]
            apply J.skip; simp
            refine J.regE (by simp [eNs, eN, eNs_length, eI, hw]; rfl) ?_
            simp
            refine ⟨_, ?_, _, ?_, i + 1, ?_, rfl, rfl⟩
            ·omega
            ·apply le_sub <;> simp [eNs, eN, s8c]
            ·omega
        ·
         try simp only [g120]
         try simp at g120
         try (exfalso; omega)
         all_goals
          iterate 5 refine runL_step rfl (by simp [eNs, eN, eNs_length, eI]; rfl) ?_
          simp [runL]
          apply J.cond; simp [eNs, eN, eNs_length, eI]
          apply J.skip; simp
          apply J.seq
          apply J.draw; intro c' hc'
          iterate 3 refine runP_stepQ (by simp [eNs, eN, eNs_length, eI, hi0, hgx, ha, hga, hb, hgb]; rfl) ?_
          refine runP_if rfl (fun g129 => ?_) (fun g129 => ?_)
          ·
           try simp only [g129]
           try simp at g129
           iterate 3 refine runP_stepQ (by simp [eNs, eN, eNs_length, eI, hi0, hgx, ha, hga, hb, hgb]; rfl) ?_
           refine runP_if rfl (fun g132 => ?_) (fun g132 => ?_)
           ·
            try simp only [g132]
            try simp at g132
            iterate 19 refine runP_stepQ (by simp [eNs, eN, eNs_length, eI, hi0, hgx, ha, hga, hb, hgb]; rfl) ?_
            refine runP_do (by simp) ?_
            refine runP_tree rfl (d16 na nb) (by simp) rfl ?_
            simp
            iterate 3 refine runP_stepQ (by simp [eNs, eN, eNs_length, eI, hi0, hgx, ha, hga, hb, hgb]; rfl) ?_
            refine runP_if rfl (fun g155 => ?_) (fun g155 => ?_)
            ·
             try simp only [g155]
             try simp at g155
             iterate 12 refine runP_stepQ (by simp [eNs, eN, eNs_length, eI, hi0, hgx, ha, hga, hb, hgb]; rfl) ?_
             simp [runP]
             refine J.condB rfl (fun h167 => ?_) (fun h167 => ?_)
             ·
              exfalso
              have hab : ¬ a = b := by intro e; subst e; simp at h167
              have hra2 := hra (by omega)
              obtain ⟨hq1, hq2, hq3⟩ := hbh hra2
              have hmm : RN l nb na := hmR.1 (by first | exact g132 | simpa using g132)
              by_cases hlt : pa < pb
              ·have h2 : lessN na nb = true := (less_iff _ _).2 (hq2 hlt).2
               simp [hlt, h2] at g155
              ·have hne : pa ≠ pb := fun e => by
                obtain ⟨j, hj, e1, e2⟩ := plc_get hra2
                obtain ⟨j', hj', e3, e4⟩ := plc_get hq1
                have hjj : j = j' := by omega
                subst hjj
                have e5 := hD.inj hal hbl (e2.symm.trans e4)
                rw [← hna, ← hnb, ndAt_get ha, ndAt_get hb] at e5
                exact hab ((List.getElem_inj hnd).1 e5)
               have h1 := hq3 hmm (by omega)
               have h2 : lessN na nb = false := by
                rw [Bool.eq_false_iff, Ne, less_iff]
                rw [compN_neg] at *
                omega
               simp [hlt, h2] at g155
             ·
              skip
              apply J.skip; simp
              refine J.regE (by simp [eNs, eN, eNs_length, eI, hw]; rfl) ?_
              simp
              refine ⟨_, ?_, _, ?_, i + 1, ?_, rfl, rfl⟩
              ·omega
              ·apply le_sub <;> simp [eNs, eN, s8c]
              ·omega
            ·
             try simp only [g155]
             try simp at g155
             iterate 11 refine runP_stepQ (by simp [eNs, eN, eNs_length, eI, hi0, hgx, ha, hga, hb, hgb]; rfl) ?_
             simp [runP]
             apply J.cond; simp [eNs, eN, eNs_length, eI]
             apply J.skip; simp
             refine J.regE (by simp [eNs, eN, eNs_length, eI, hw]; rfl) ?_
             simp
             refine ⟨_, ?_, _, ?_, i + 1, ?_, rfl, rfl⟩
             ·omega
             ·apply le_sub <;> simp [eNs, eN, s8c]
             ·omega
           ·
            try simp only [g132]
            try simp at g132
            iterate 18 refine runP_stepQ (by simp [eNs, eN, eNs_length, eI, hi0, hgx, ha, hga, hb, hgb]; rfl) ?_
            refine runP_skip (b := false) (by simp) (by simp) ?_
            simp
            iterate 15 refine runP_stepQ (by simp [eNs, eN, eNs_length, eI, hi0, hgx, ha, hga, hb, hgb]; rfl) ?_
            simp [runP]
            apply J.cond; simp [eNs, eN, eNs_length, eI]
            apply J.skip; simp
            refine J.regE (by simp [eNs, eN, eNs_length, eI, hw]; rfl) ?_
            simp
            refine ⟨_, ?_, _, ?_, i + 1, ?_, rfl, rfl⟩
            ·omega
            ·apply le_sub <;> simp [eNs, eN, s8c]
            ·omega
          ·
           try simp only [g129]
           try simp at g129
           iterate 21 refine runP_stepQ (by simp [eNs, eN, eNs_length, eI, hi0, hgx, ha, hga, hb, hgb]; rfl) ?_
           refine runP_skip (b := false) (by simp) (by simp) ?_
           simp
           iterate 15 refine runP_stepQ (by simp [eNs, eN, eNs_length, eI, hi0, hgx, ha, hga, hb, hgb]; rfl) ?_
           simp [runP]
           apply J.cond; simp [eNs, eN, eNs_length, eI]
           apply J.skip; simp
           refine J.regE (by simp [eNs, eN, eNs_length, eI, hw]; rfl) ?_
           simp
           refine ⟨_, ?_, _, ?_, i + 1, ?_, rfl, rfl⟩
           ·omega
           ·apply le_sub <;> simp [eNs, eN, s8c]
           ·omega
      ·
       try simp only [g117]
       try simp at g117
       try (exfalso; omega)
       all_goals
        iterate 8 refine runL_step rfl (by simp [eNs, eN, eNs_length, eI]; rfl) ?_
        simp [runL]
        apply J.cond; simp [eNs, eN, eNs_length, eI]
        apply J.seq
        refine J.regE (by simp [eNs, eN, eNs_length, eI]; rfl) ?_
        simp
        apply J.ret
        refine ⟨by simp, rfl, _, [], by simp [a8R]; rfl, ?_⟩
        simp
    ·
     try simp only [g114]
     try simp at g114
     try (exfalso; omega)
     all_goals
      iterate 11 refine runL_step rfl (by simp [eNs, eN, eNs_length, eI]; rfl) ?_
      simp [runL]
      apply J.cond; simp [eNs, eN, eNs_length, eI]
      apply J.skip; simp
      apply J.seq
      apply J.draw; intro c' hc'
      iterate 3 refine runP_stepQ (by simp [eNs, eN, eNs_length, eI, hi0, hgx, ha, hga, hb, hgb]; rfl) ?_
      refine runP_if rfl (fun g129 => ?_) (fun g129 => ?_)
      ·
       try simp only [g129]
       try simp at g129
       iterate 3 refine runP_stepQ (by simp [eNs, eN, eNs_length, eI, hi0, hgx, ha, hga, hb, hgb]; rfl) ?_
       refine runP_if rfl (fun g132 => ?_) (fun g132 => ?_)
       ·
        try simp only [g132]
        try simp at g132
        iterate 19 refine runP_stepQ (by simp [eNs, eN, eNs_length, eI, hi0, hgx, ha, hga, hb, hgb]; rfl) ?_
        refine runP_do (by simp) ?_
        refine runP_tree rfl (d16 na nb) (by simp) rfl ?_
        simp
        iterate 3 refine runP_stepQ (by simp [eNs, eN, eNs_length, eI, hi0, hgx, ha, hga, hb, hgb]; rfl) ?_
        refine runP_if rfl (fun g155 => ?_) (fun g155 => ?_)
        ·
         try simp only [g155]
         try simp at g155
         iterate 12 refine runP_stepQ (by simp [eNs, eN, eNs_length, eI, hi0, hgx, ha, hga, hb, hgb]; rfl) ?_
         simp [runP]
         refine J.condB rfl (fun h167 => ?_) (fun h167 => ?_)
         ·
          exfalso
          have hab : ¬ a = b := by intro e; subst e; simp at h167
          have hra2 := hra (by omega)
          obtain ⟨hq1, hq2, hq3⟩ := hbh hra2
          have hmm : RN l nb na := hmR.1 (by first | exact g132 | simpa using g132)
          by_cases hlt : pa < pb
          ·have h2 : lessN na nb = true := (less_iff _ _).2 (hq2 hlt).2
           simp [hlt, h2] at g155
          ·have hne : pa ≠ pb := fun e => by
            obtain ⟨j, hj, e1, e2⟩ := plc_get hra2
            obtain ⟨j', hj', e3, e4⟩ := plc_get hq1
            have hjj : j = j' := by omega
            subst hjj
            have e5 := hD.inj hal hbl (e2.symm.trans e4)
            rw [← hna, ← hnb, ndAt_get ha, ndAt_get hb] at e5
            exact hab ((List.getElem_inj hnd).1 e5)
           have h1 := hq3 hmm (by omega)
           have h2 : lessN na nb = false := by
            rw [Bool.eq_false_iff, Ne, less_iff]
            rw [compN_neg] at *
            omega
           simp [hlt, h2] at g155
         ·
          skip
          apply J.skip; simp
          refine J.regE (by simp [eNs, eN, eNs_length, eI, hw]; rfl) ?_
          simp
          refine ⟨_, ?_, _, ?_, i + 1, ?_, rfl, rfl⟩
          ·omega
          ·apply le_sub <;> simp [eNs, eN, s8c]
          ·omega
        ·
         try simp only [g155]
         try simp at g155
         iterate 11 refine runP_stepQ (by simp [eNs, eN, eNs_length, eI, hi0, hgx, ha, hga, hb, hgb]; rfl) ?_
         simp [runP]
         apply J.cond; simp [eNs, eN, eNs_length, eI]
         apply J.skip; simp
         refine J.regE (by simp [eNs, eN, eNs_length, eI, hw]; rfl) ?_
         simp
         refine ⟨_, ?_, _, ?_, i + 1, ?_, rfl, rfl⟩
         ·omega
         ·apply le_sub <;> simp [eNs, eN, s8c]
         ·omega
       ·
        try simp only [g132]
        try simp at g132
        iterate 18 refine runP_stepQ (by simp [eNs, eN, eNs_length, eI, hi0, hgx, ha, hga, hb, hgb]; rfl) ?_
        refine runP_skip (b := false) (by simp) (by simp) ?_
        simp
        iterate 15 refine runP_stepQ (by simp [eNs, eN, eNs_length, eI, hi0, hgx, ha, hga, hb, hgb]; rfl) ?_
        simp [runP]
        apply J.cond; simp [eNs, eN, eNs_length, eI]
        apply J.skip; simp
        refine J.regE (by simp [eNs, eN, eNs_length, eI, hw]; rfl) ?_
        simp
        refine ⟨_, ?_, _, ?_, i + 1, ?_, rfl, rfl⟩
        ·omega
        ·apply le_sub <;> simp [eNs, eN, s8c]
        ·omega
      ·
       try simp only [g129]
       try simp at g129
       iterate 21 refine runP_stepQ (by simp [eNs, eN, eNs_length, eI, hi0, hgx, ha, hga, hb, hgb]; rfl) ?_
       refine runP_skip (b := false) (by simp) (by simp) ?_
       simp
       iterate 15 refine runP_stepQ (by simp [eNs, eN, eNs_length, eI, hi0, hgx, ha, hga, hb, hgb]; rfl) ?_
       simp [runP]
       apply J.cond; simp [eNs, eN, eNs_length, eI]
       apply J.skip; simp
       refine J.regE (by simp [eNs, eN, eNs_length, eI, hw]; rfl) ?_
       simp
       refine ⟨_, ?_, _, ?_, i + 1, ?_, rfl, rfl⟩
       ·omega
       ·apply le_sub <;> simp [eNs, eN, s8c]
       ·omega
   ·
    skip
    apply J.exit; simp
    apply J.seq
    refine J.regE (by simp [eNs, eN, eNs_length, eI]; rfl) ?_
    simp
    apply J.ret
    refine ⟨by simp, rfl, _, [], by simp [a8R]; rfl, ?_⟩
    simp
end Go.Proofs.Ytdekelhmneeniaa.F
namespace Go.Proofs.Ytdekelhmneeniaa.F
open Go Go.SX
theorem plc_app_left {a b : List (Int × Int)} {x : Int × Int} (h : x ∈ a) : plc (a ++ b) x = plc a x := by
  unfold plc
  generalize 0 = i
  induction a generalizing i with
  | nil => cases h
  | cons y r ih =>
    simp only [List.cons_append, ixF]
    split
    · rfl
    · rename_i hy
      rcases List.mem_cons.1 h with rfl | h
      · simp at hy
      · exact ih h (i + 1)
theorem ixF_shift {α : Type} (p : α → Bool) : ∀ (l : List α) (i j : Nat), l.any p = true → ixF p l (i + j) = i + ixF p l j
  | [], _, _, h => by simp at h
  | x :: r, i, j, h => by
    simp only [ixF]
    split
    · simp
    · rename_i hx
      rw [Nat.add_assoc]
      exact ixF_shift p r i (j + 1) (by simpa [hx] using h)
theorem plc_app_right {a b : List (Int × Int)} {x : Int × Int} (h : x ∉ a) (hb : x ∈ b) : plc (a ++ b) x = a.length + plc b x := by
  unfold plc
  have key : ∀ (q : List (Int × Int)) (i : Nat), x ∉ q → ixF (fun y => decide (y = x)) (q ++ b) i = ixF (fun y => decide (y = x)) b (i + q.length) := by
    intro q
    induction q with
    | nil => intro i _; rfl
    | cons y r ih =>
      intro i hq
      simp only [List.cons_append, ixF]
      rw [if_neg (by simp; intro e; subst e; exact hq List.mem_cons_self), ih (i + 1) (fun h => hq (List.mem_cons_of_mem _ h))]
      congr 1; simp; omega
  rw [key a 0 h, Nat.zero_add]
  exact ixF_shift _ b a.length 0 (List.any_eq_true.2 ⟨x, hb, by simp⟩)
theorem plc_inj {R : List (Int × Int)} {x y : Int × Int} (hx : x ∈ R) (hy : y ∈ R) (h : plc R x = plc R y) : x = y := by
  obtain ⟨j, hj, e1, e2⟩ := plc_get hx
  obtain ⟨j', hj', e3, e4⟩ := plc_get hy
  have : j = j' := by omega
  subst this
  rw [← e2, ← e4]
theorem ready_order {l : List Node} {done : List (Int × Int)} {a b : Node} (ha : a ∈ rdy (cnt l done) (miss (cnt l done) done)) (hb : b ∈ rdy (cnt l done) (miss (cnt l done) done)) (h : plc (readyL l done) a.i < plc (readyL l done) b.i)
    (hr : RN (rdy (cnt l done) (miss (cnt l done) done)) a b) : RN (rdy (cnt l done) (miss (cnt l done) done)) b a ∧ compN a b < 0 := by
  obtain ⟨z, ms, r, N, rfl, rfl, rfl, hN, hp, hpw, hn, -⟩ := ready_all l done
  rw [hN] at h
  exact plc_pw hpw hn (hp.mem_iff.2 ha) (hp.mem_iff.2 hb) h hr
noncomputable abbrev rd (l : List Node) (done : List (Int × Int)) : List Node := rdy (cnt l done) (miss (cnt l done) done)
theorem rd_iff {l : List Node} {done : List (Int × Int)} {n : Node} : n ∈ rd l done ↔ n ∈ cnt l done ∧ ∀ y, RN (cnt l done) n y → lacks (miss (cnt l done) done) y = false := by
  obtain ⟨z, ms, r, N, rfl, rfl, rfl, -, -, -, -, -, -, hr, -⟩ := ready_all l done
  exact hr n
section
variable {l S : List Node} (hl : l.length ≤ 100) (h7 : ∀ n ∈ l, n.d.length ≤ 7) (hD : Dif l) (hS : ∀ n ∈ S, n ∈ l) (hSl : S.length ≤ 100)
include h7 hD hS in
theorem downS1 {a c : Node} (ha : a ∈ rd S []) (hc : c ∈ l) (w : waits a.d c.i = true) : c ∈ rd S [] := by
  obtain ⟨m, hm, e⟩ := ready_waits (fun n hn => h7 n (hS n hn)) ha w (by simp)
  obtain rfl := hD.inj (hS _ (mem_cnt (mem_rdy hm)).1) hc e
  exact hm
include h7 hD hS in
theorem downS {a b : Node} (h : RN l a b) (ha : a ∈ rd S []) : b ∈ rd S [] ∧ RN (rd S []) a b := by
  induction h with
  | refl => exact ⟨ha, .refl _⟩
  | step _ hc w ih => exact ⟨downS1 h7 hD hS ih.1 hc w, .step ih.2 (downS1 h7 hD hS ih.1 hc w) w⟩
include hS in
theorem rS_mem {n : Node} (hn : n ∈ rd S []) : n ∈ l ∧ near n = true := by
  have h := mem_cnt (mem_rdy hn)
  exact ⟨hS n h.1, h.2.1⟩
include hl h7 hD hS in
theorem rS_lacks {y : Node} (hy : y ∈ rd S []) : lacks (miss (cnt l []) []) y = false := by
  rw [lacks_false]
  intro x hx
  cases w : waits y.d x with
  | false => rfl
  | true =>
    obtain ⟨m, hm, rfl⟩ := ready_waits (fun n hn => h7 n (hS n hn)) hy w (by simp)
    obtain ⟨h1, h2⟩ := rS_mem hS hm
    exact absurd (insL_mem ((hD.cnt hl).2 ⟨h1, h2, by simp⟩)) (mem_miss.1 hx).2.2.1
include hl h7 hD hS in
theorem rS_r {n : Node} (hn : n ∈ rd S []) : n ∈ rd l [] := by
  obtain ⟨h1, h2⟩ := rS_mem hS hn
  refine rd_iff.2 ⟨(hD.cnt hl).2 ⟨h1, h2, by simp⟩, fun y hy => ?_⟩
  exact rS_lacks hl h7 hD hS (downS h7 hD hS (hy.mono fun q hq => (mem_cnt hq).1) hn).1
theorem mem_D {x : Int × Int} : x ∈ readyL S [] ↔ ∃ n ∈ rd S [], n.i = x := mem_ready
include hD hS in
theorem D_rS {n : Node} (hn : n ∈ l) (h : n.i ∈ readyL S []) : n ∈ rd S [] := by
  obtain ⟨m, hm, e⟩ := mem_D.1 h
  rwa [hD.inj (rS_mem hS hm).1 hn e] at hm
include hl hD in
theorem cntD {n : Node} : n ∈ cnt l (readyL S []) ↔ n ∈ cnt l [] ∧ n.i ∉ readyL S [] := by
  rw [hD.cnt hl, hD.cnt hl]
  constructor
  · rintro ⟨h1, h2, h3⟩; exact ⟨⟨h1, h2, by simp⟩, h3⟩
  · rintro ⟨⟨h1, h2, _⟩, h3⟩; exact ⟨h1, h2, h3⟩
include hl h7 hD hS in
theorem split1 {n y : Node} (h : RN (cnt l []) n y) (hn : n ∈ cnt l (readyL S [])) : y ∈ rd S [] ∨ RN (cnt l (readyL S [])) n y := by
  induction h with
  | refl => exact .inr (.refl _)
  | @step b c _ hc w ih =>
    have hcl := (mem_cnt hc).1
    rcases ih with ih | ih
    · exact .inl (downS1 h7 hD hS ih hcl w)
    · by_cases hi : c.i ∈ readyL S []
      · exact .inl (D_rS hD hS hcl hi)
      · exact .inr (.step ih ((cntD hl hD).2 ⟨hc, hi⟩) w)
include hl h7 hD hS in
theorem r2_iff {n : Node} : n ∈ rd l (readyL S []) ↔ n ∈ rd l [] ∧ n ∉ rd S [] := by
  constructor
  · intro h
    obtain ⟨h1, h2⟩ := rd_iff.1 h
    obtain ⟨h3, h4⟩ := (cntD hl hD).1 h1
    refine ⟨rd_iff.2 ⟨h3, fun y hy => ?_⟩, fun hs => h4 (mem_D.2 ⟨n, hs, rfl⟩)⟩
    rcases split1 hl h7 hD hS hy h1 with hs | hr
    · exact rS_lacks hl h7 hD hS hs
    · rw [lacks_false]
      intro x hx
      cases w : waits y.d x with
      | false => rfl
      | true =>
        obtain ⟨g1, _, g3, _⟩ := mem_miss.1 hx
        have := lacks_false.1 (h2 y hr) x (mem_miss.2 ⟨g1, ⟨y, hr.mem h1, w⟩, fun hi => by
          obtain ⟨q, hq, rfl⟩ := List.mem_map.1 hi
          exact g3 (insL_mem ((cntD hl hD).1 hq).1), fun hi => by
          obtain ⟨q, hq, rfl⟩ := mem_D.1 hi
          exact g3 (insL_mem (mem_rdy (rS_r hl h7 hD hS hq)))⟩)
        rw [w] at this; cases this
  · rintro ⟨h1, h2⟩
    have h3 := mem_rdy h1
    have h4 : n.i ∉ readyL S [] := fun h => h2 (D_rS hD hS (mem_cnt h3).1 h)
    refine rd_iff.2 ⟨(cntD hl hD).2 ⟨h3, h4⟩, fun y hy => ?_⟩
    have hyr : RN (cnt l []) n y := hy.mono fun q hq => ((cntD hl hD).1 hq).1
    have hy2 : y ∈ rd l [] := rd_iff.2 ⟨hyr.mem h3, fun z hz => (rd_iff.1 h1).2 z (hyr.trans hz)⟩
    rw [lacks_false]
    intro x hx
    cases w : waits y.d x with
    | false => rfl
    | true =>
      obtain ⟨m, hm, rfl⟩ := ready_waits h7 hy2 w (by simp)
      obtain ⟨_, _, g3, g4⟩ := mem_miss.1 hx
      exact absurd (insL_mem ((cntD hl hD).2 ⟨mem_rdy hm, g4⟩)) g3
include hl h7 hD hS in
theorem split2 {n y : Node} (h : RN (rd l []) n y) (hn : n ∈ rd l (readyL S [])) : y ∈ rd S [] ∨ RN (rd l (readyL S [])) n y := by
  induction h with
  | refl => exact .inr (.refl _)
  | @step b c _ hc w ih =>
    rcases ih with ih | ih
    · exact .inl (downS1 h7 hD hS ih (mem_cnt (mem_rdy hc)).1 w)
    · by_cases hi : c ∈ rd S []
      · exact .inl hi
      · exact .inr (.step ih ((r2_iff hl h7 hD hS).2 ⟨hc, hi⟩) w)
theorem comp_asym {a b : Node} (h : compN a b < 0) (k : compN b a < 0) : False := by rw [compN_neg] at *; omega
theorem same_order {d1 d2 : List (Int × Int)} {l1 l2 : List Node} {a b : Node} (ha : a ∈ rd l1 d1) (hb : b ∈ rd l1 d1) (ha2 : a ∈ rd l2 d2) (hb2 : b ∈ rd l2 d2) (w : waits a.d b.i = true) (hne : a.i ≠ b.i) (hm : RN (rd l1 d1) b a ↔ RN (rd l2 d2) b a) :
    plc (readyL l1 d1) a.i < plc (readyL l1 d1) b.i ↔ plc (readyL l2 d2) a.i < plc (readyL l2 d2) b.i := by
  have key : ∀ {d1 d2 : List (Int × Int)} {l1 l2 : List Node}, a ∈ rd l1 d1 → b ∈ rd l1 d1 → a ∈ rd l2 d2 → b ∈ rd l2 d2 → (RN (rd l1 d1) b a → RN (rd l2 d2) b a) → plc (readyL l1 d1) a.i < plc (readyL l1 d1) b.i → plc (readyL l2 d2) a.i < plc (readyL l2 d2) b.i := by
    intro d1 d2 l1 l2 ha hb ha2 hb2 hm h
    obtain ⟨h1, h2⟩ := ready_order ha hb h (RN.one hb w)
    rcases Int.lt_trichotomy (plc (readyL l2 d2) a.i) (plc (readyL l2 d2) b.i) with g | g | g
    · exact g
    · exact absurd (plc_inj (mem_ready.2 ⟨a, ha2, rfl⟩) (mem_ready.2 ⟨b, hb2, rfl⟩) g) hne
    · exact (comp_asym h2 (ready_order hb2 ha2 g (hm h1)).2).elim
  exact ⟨key ha hb ha2 hb2 hm.1, key ha2 hb2 ha hb hm.2⟩
include hl h7 hD hS in
theorem mem_both {x : Int × Int} : x ∈ readyL l [] ↔ x ∈ readyL S [] ++ readyL l (readyL S []) := by
  rw [List.mem_append]
  constructor
  · intro h
    obtain ⟨n, hn, rfl⟩ := mem_ready.1 h
    by_cases hs : n ∈ rd S []
    · exact .inl (mem_D.2 ⟨n, hs, rfl⟩)
    · exact .inr (mem_ready.2 ⟨n, (r2_iff hl h7 hD hS).2 ⟨hn, hs⟩, rfl⟩)
  · rintro (h | h)
    · obtain ⟨n, hn, rfl⟩ := mem_D.1 h
      exact mem_ready.2 ⟨n, rS_r hl h7 hD hS hn, rfl⟩
    · obtain ⟨n, hn, rfl⟩ := mem_ready.1 h
      exact mem_ready.2 ⟨n, ((r2_iff hl h7 hD hS).1 hn).1, rfl⟩
theorem both_nodup : (readyL S [] ++ readyL l (readyL S [])).Nodup := by
  rw [List.nodup_append]
  exact ⟨readyL_nodup _ _, readyL_nodup _ _, fun a ha b hb e => ready_done hb (e ▸ ha)⟩
include hl h7 hD hS in
theorem both_length : (readyL l []).length = (readyL S [] ++ readyL l (readyL S [])).length :=
  ((List.perm_ext_iff_of_nodup (readyL_nodup _ _) both_nodup).2 fun x => mem_both hl h7 hD hS).length_eq
include hl h7 hD hS in
theorem both_order {a b : Node} (ha : a ∈ l) (hb : b ∈ l) (w : waits a.d b.i = true) (hne : a.i ≠ b.i) (hra : a.i ∈ readyL l []) (hrb : b.i ∈ readyL l []) :
    plc (readyL l []) a.i < plc (readyL l []) b.i ↔ plc (readyL S [] ++ readyL l (readyL S [])) a.i < plc (readyL S [] ++ readyL l (readyL S [])) b.i := by
  have hA : a ∈ rd l [] := ready_node hD ha hra
  have hB : b ∈ rd l [] := ready_node hD hb hrb
  have hil : ∀ n ∈ rd l [], n ∈ l := fun n hn => (mem_cnt (mem_rdy hn)).1
  by_cases hsa : a ∈ rd S []
  · have hsb := downS1 h7 hD hS hsa hb w
    rw [plc_app_left (mem_D.2 ⟨a, hsa, rfl⟩), plc_app_left (mem_D.2 ⟨b, hsb, rfl⟩)]
    exact same_order hA hB hsa hsb w hne ⟨fun h => (downS h7 hD hS (h.mono hil) hsb).2, fun h => h.mono fun n hn => rS_r hl h7 hD hS hn⟩
  · have ha2 := (r2_iff hl h7 hD hS).2 ⟨hA, hsa⟩
    have hai : a.i ∉ readyL S [] := fun h => hsa (D_rS hD hS ha h)
    rw [plc_app_right hai (mem_ready.2 ⟨a, ha2, rfl⟩)]
    by_cases hsb : b ∈ rd S []
    · rw [plc_app_left (mem_D.2 ⟨b, hsb, rfl⟩)]
      constructor
      · intro h
        exact absurd (downS h7 hD hS ((ready_order hA hB h (RN.one hB w)).1.mono hil) hsb).1 hsa
      · intro h
        obtain ⟨j, hj, e1, _⟩ := plc_get (mem_D.2 ⟨b, hsb, rfl⟩)
        obtain ⟨j', hj', e2, _⟩ := plc_get (mem_ready.2 ⟨a, ha2, rfl⟩)
        omega
    · have hb2 := (r2_iff hl h7 hD hS).2 ⟨hB, hsb⟩
      have hbi : b.i ∉ readyL S [] := fun h => hsb (D_rS hD hS hb h)
      rw [plc_app_right hbi (mem_ready.2 ⟨b, hb2, rfl⟩)]
      have := same_order hA hB ha2 hb2 w hne ⟨fun h => (split2 hl h7 hD hS h hb2).resolve_left hsa, fun h => h.mono fun n hn => ((r2_iff hl h7 hD hS).1 hn).1⟩
      rw [this]; omega
end
def selL : List Node → List Bool → List Node
  | [], _ => []
  | _ :: _, [] => []
  | n :: r, b :: q => (if b then [n] else []) ++ selL r q
theorem mem_selL : ∀ {l : List Node} {f : List Bool} {n : Node}, n ∈ selL l f → n ∈ l
  | [], _, _, h => by simp [selL] at h
  | _ :: _, [], _, h => by simp [selL] at h
  | a :: r, b :: q, n, h => by
    simp only [selL, List.mem_append] at h
    rcases h with h | h
    · split at h
      · simp at h; subst h; exact List.mem_cons_self
      · simp at h
    · exact List.mem_cons_of_mem _ (mem_selL h)
theorem selL_length : ∀ (l : List Node) (f : List Bool), (selL l f).length ≤ l.length
  | [], _ => by simp [selL]
  | _ :: _, [] => by simp [selL]
  | a :: r, b :: q => by have := selL_length r q; simp only [selL, List.length_append, List.length_cons]; split <;> simp <;> omega
theorem selL_nil (l : List Node) : selL l [] = [] := by cases l <;> rfl
end Go.Proofs.Ytdekelhmneeniaa.F
namespace Go.Proofs.Ytdekelhmneeniaa.F
open Go Go.SX
def s5 (l : List Node) (f : List Bool) (o : List Node) (i : Nat) (s : Slots) : St := ⟨(0, .ro 4 (eNs l)) :: (1, .ro 1 (bools f)) :: (7, .own 5051 4 0 o.length) :: (8, iv i) :: s, [(5051, .arr 30 4 (eNs o))], []⟩
def I5 (l : List Node) (f : List Bool) (m : Nat) (st : St) : Prop := ∃ (i : Nat) (o : List Node), i ≤ l.length ∧ m = l.length - i ∧ Dif (l.take i) ∧ o ++ selL (l.drop i) (f.drop i) = selL l f ∧ st = s5 l f o i []
def I5b (l : List Node) (f : List Bool) (o : List Node) (i : Nat) (y : Node) (m : Nat) (st : St) : Prop := ∃ k : Nat, k ≤ i ∧ m = i - k ∧ (∀ j (h : j < l.length), j < k → l[j].i ≠ y.i) ∧ st = s5 l f o i [(9, iv k)]
def s5c (l : List Node) (R B : List (Int × Int)) (s : Slots) : St := ⟨(0, .ro 4 (eNs l)) :: (10, .ro 2 (eds R)) :: (11, .ro 2 (eds B)) :: s, [], []⟩
def I5c (l : List Node) (R B : List (Int × Int)) (m : Nat) (st : St) : Prop := ∃ i : Nat, i ≤ l.length ∧ m = l.length - i ∧ st = s5c l R B [(13, iv i)]
def I5d (l : List Node) (R B : List (Int × Int)) (i : Nat) (m : Nat) (st : St) : Prop := ∃ k : Nat, k ≤ l.length ∧ m = l.length - k ∧ st = s5c l R B [(13, iv i), (14, iv k)]
theorem c5 : chkFn Try.prog 5 169 2 a5 a5R = true := by kernel_rfl
set_option maxHeartbeats 4000000 in
theorem d5 (l : List Node) (f : List Bool) : DoesT 5 [.ro 4 (eNs l), .ro 1 (bools f)] (bv true) := by
 refine Does.of (nt := 169) (ac := a5) (rds := a5R) c5 (fun c hc => ?_)
 unfold a5
 apply J.seq
 refine J.regE (by simp [eNs, eN, eNs_length, eI]; rfl) ?_
 simp
 apply J.seq
 apply J.reg
 refine runL_tree rfl (d9) (by simp) hc ?_
 simp
 refine runL_step rfl (by simp [eNs, eN, eNs_length, eI]; rfl) ?_
 simp [runL]
 apply J.seq
 apply J.reg
 refine runL_step rfl (by simp [eNs, eN, eNs_length, eI]; rfl) ?_
 refine runL_tree rfl (by simpa [eNs] using d10 l) (by simp) hc ?_
 simp
 refine runL_step rfl (by simp [eNs, eN, eNs_length, eI]; rfl) ?_
 simp [runL]
 apply J.seq
 apply J.seq
 apply J.reg
 iterate 6 refine runL_step rfl (by simp [eNs, eN, eNs_length, eI]; rfl) ?_
 simp [runL]
 refine J.condB rfl (fun h27 => ?_) (fun h27 => ?_)
 ·
  skip
  apply J.seq
  refine J.regE (by simp [eNs, eN, eNs_length, eI]; rfl) ?_
  simp
  apply J.ret
  refine ⟨by simp, rfl, _, [], by simp [a5R]; rfl, ?_⟩
  simp
 ·
  try simp at h27
  have hfe : fewN l = true := by simpa using h27
  obtain ⟨hl, hd⟩ := few_le hfe
  obtain ⟨hl30, h7⟩ := few_spec hfe
  have hsl := selL_length l f
  apply J.skip; simp
  apply J.seq
  refine J.regE (by simp [eNs, eN, eNs_length, eI]; rfl) ?_
  simp
  refine J.nilrow hc 7 5051 30 rfl rfl rfl ?_
  simp
  apply J.seq
  apply J.seq
  refine J.regE (by simp [eNs, eN, eNs_length, eI]; rfl) ?_
  simp
  apply J.block
  refine J.loop hc (I5 l f) ?_ ?_
  ·exact ⟨_, _, by apply le_sub <;> simp [eNs, s5], 0, [], by omega, rfl, List.Pairwise.nil, rfl, rfl⟩
  rintro n st ⟨i, o, hi, rfl, hdf, hI, rfl⟩
  unfold s5
  apply J.seq
  apply J.seq
  refine J.regE (by simp [eNs, eN, eNs_length, eI]; rfl) ?_
  simp
  refine J.condB rfl (fun h32 => ?_) (fun h32 => ?_)
  ·
   try simp at h32
   have hi0 : i < l.length := by omega
   obtain ⟨y, hx, hgx, hg, hge, hdr, hw, hlt2, htk⟩ := getL (eN) (show i < l.length by omega) (by omega)
   rw [hdr] at hI
   apply J.skip; simp
   apply J.seq
   apply J.block
   apply J.seq
   apply J.seq
   apply J.reg
   iterate 5 refine runL_step rfl (by simp [eNs, eN, eNs_length, eI, hi0]; rfl) ?_
   refine runL_if rfl (fun g39 => ?_) (fun g39 => ?_)
   ·
    try simp only [g39]
    try simp at g39
    have hfi : i < f.length := by omega
    obtain ⟨v, hv⟩ : ∃ v, f[i] = v := ⟨_, rfl⟩
    have hgv : ∀ h, f[i]'h = v := fun _ => hv
    rw [List.drop_eq_getElem_cons hfi, hv] at hI
    simp only [selL] at hI
    iterate 5 refine runL_step rfl (by simp [eNs, eN, eNs_length, eI, hi0, hfi, hgv]; rfl) ?_
    simp [runL]
    refine J.condB rfl (fun h44 => ?_) (fun h44 => ?_)
    ·
     try simp at h44
     subst h44
     have hI2 : (o ++ [y]) ++ selL (l.drop (i + 1)) (f.drop (i + 1)) = selL l f := by simpa using hI
     have hlen := len_pre hI2
     simp at hlen
     apply J.reg
     iterate 8 refine runL_step rfl (by simp [eNs, eN, eNs_length, eI, eNs, eN, eNs_length, eI, hi0, hgx, show (o.length + 1) * 48 ≤ 140737488355328 from by omega, List.take_of_length_le]; rfl) ?_
     simp [runL]
     apply J.seq
     refine J.regE (by simp [eNs, eN, eNs_length, eI]; rfl) ?_
     simp
     apply J.block
     refine J.loop hc (I5b l f (o ++ [y]) i y) ?_ ?_
     ·refine ⟨_, _, ?_, 0, by omega, rfl, fun j _ h => by omega, rfl⟩
      apply le_sub <;> simp [eNs, eN, s5]
     rintro n st ⟨k, hk, rfl, hne, rfl⟩
     unfold s5
     apply J.seq
     apply J.seq
     refine J.regE (by simp [eNs, eN, eNs_length, eI]; rfl) ?_
     simp
     refine J.condB rfl (fun h54 => ?_) (fun h54 => ?_)
     ·
      try simp at h54
      have hk0 : k < l.length := by omega
      obtain ⟨b, hxk, hgxk, hgk, hgek, hdrk, hwk, hlt2k, htkk⟩ := getL (eN) (show k < l.length by omega) (by omega)
      apply J.skip; simp
      apply J.seq
      apply J.block
      apply J.seq
      apply J.draw; intro c' hc'
      iterate 11 refine runP_stepQ (by simp [eNs, eN, eNs_length, eI, hi0, hgx, hk0, hgxk]; rfl) ?_
      simp [runP]
      refine J.condB rfl (fun h67 => ?_) (fun h67 => ?_)
      ·
       skip
       apply J.seq
       refine J.regE (by simp [eNs, eN, eNs_length, eI]; rfl) ?_
       simp
       apply J.ret
       refine ⟨by simp, rfl, _, [], by simp [a5R]; rfl, ?_⟩
       simp
      ·
       have h67 : b.b = y.b → ¬ b.s = y.s := fun e1 e2 => by simp [e1, e2] at h67
       apply J.skip; simp
       refine J.regE (by simp [eNs, eN, eNs_length, eI, hwk]; rfl) ?_
       simp
       refine ⟨_, ?_, _, ?_, k + 1, ?_, rfl, ?_, rfl⟩
       ·omega
       ·apply le_sub <;> simp [eNs, eN, s5]
       ·omega
       ·intro j hj hjk
        by_cases e : j = k
        ·subst e; rw [hgxk]; intro e; injection e with e1 e2; exact h67 e1 e2
        ·exact hne j hj (by omega)
     ·
      try simp at h54
      obtain rfl : i = k := by omega
      have hdf2 := dif_step hdf hne htk
      apply J.exit; simp
      refine J.regE (by simp [eNs, eN, eNs_length, eI, hw]; rfl) ?_
      simp
      refine ⟨_, ?_, _, ?_, i + 1, _, ?_, rfl, hdf2, hI2, rfl⟩
      ·omega
      ·apply le_sub <;> simp [eNs, eN, s5]
      ·omega
    ·
     try simp at h44
     subst h44
     have hI2 : o ++ selL (l.drop (i + 1)) (f.drop (i + 1)) = selL l f := by simpa using hI
     apply J.skip; simp
     apply J.seq
     refine J.regE (by simp [eNs, eN, eNs_length, eI]; rfl) ?_
     simp
     apply J.block
     refine J.loop hc (I5b l f o i y) ?_ ?_
     ·refine ⟨_, _, ?_, 0, by omega, rfl, fun j _ h => by omega, rfl⟩
      apply le_sub <;> simp [eNs, eN, s5]
     rintro n st ⟨k, hk, rfl, hne, rfl⟩
     unfold s5
     apply J.seq
     apply J.seq
     refine J.regE (by simp [eNs, eN, eNs_length, eI]; rfl) ?_
     simp
     refine J.condB rfl (fun h54 => ?_) (fun h54 => ?_)
     ·
      try simp at h54
      have hk0 : k < l.length := by omega
      obtain ⟨b, hxk, hgxk, hgk, hgek, hdrk, hwk, hlt2k, htkk⟩ := getL (eN) (show k < l.length by omega) (by omega)
      apply J.skip; simp
      apply J.seq
      apply J.block
      apply J.seq
      apply J.draw; intro c' hc'
      iterate 11 refine runP_stepQ (by simp [eNs, eN, eNs_length, eI, hi0, hgx, hk0, hgxk]; rfl) ?_
      simp [runP]
      refine J.condB rfl (fun h67 => ?_) (fun h67 => ?_)
      ·
       skip
       apply J.seq
       refine J.regE (by simp [eNs, eN, eNs_length, eI]; rfl) ?_
       simp
       apply J.ret
       refine ⟨by simp, rfl, _, [], by simp [a5R]; rfl, ?_⟩
       simp
      ·
       have h67 : b.b = y.b → ¬ b.s = y.s := fun e1 e2 => by simp [e1, e2] at h67
       apply J.skip; simp
       refine J.regE (by simp [eNs, eN, eNs_length, eI, hwk]; rfl) ?_
       simp
       refine ⟨_, ?_, _, ?_, k + 1, ?_, rfl, ?_, rfl⟩
       ·omega
       ·apply le_sub <;> simp [eNs, eN, s5]
       ·omega
       ·intro j hj hjk
        by_cases e : j = k
        ·subst e; rw [hgxk]; intro e; injection e with e1 e2; exact h67 e1 e2
        ·exact hne j hj (by omega)
     ·
      try simp at h54
      obtain rfl : i = k := by omega
      have hdf2 := dif_step hdf hne htk
      apply J.exit; simp
      refine J.regE (by simp [eNs, eN, eNs_length, eI, hw]; rfl) ?_
      simp
      refine ⟨_, ?_, _, ?_, i + 1, _, ?_, rfl, hdf2, hI2, rfl⟩
      ·omega
      ·apply le_sub <;> simp [eNs, eN, s5]
      ·omega
   ·
    try simp only [g39]
    try simp at g39
    have hfi : f.length ≤ i := by omega
    have hI2 := hI
    rw [List.drop_of_length_le hfi, selL_nil] at hI2
    rw [← selL_nil (l.drop (i + 1)), ← List.drop_of_length_le (i := i + 1) (l := f) (by omega)] at hI2
    iterate 4 refine runL_step rfl (by simp [eNs, eN, eNs_length, eI, hi0]; rfl) ?_
    simp [runL]
    apply J.cond; simp [eNs, eN, eNs_length, eI]
    apply J.skip; simp
    apply J.seq
    refine J.regE (by simp [eNs, eN, eNs_length, eI]; rfl) ?_
    simp
    apply J.block
    refine J.loop hc (I5b l f o i y) ?_ ?_
    ·refine ⟨_, _, ?_, 0, by omega, rfl, fun j _ h => by omega, rfl⟩
     apply le_sub <;> simp [eNs, eN, s5]
    rintro n st ⟨k, hk, rfl, hne, rfl⟩
    unfold s5
    apply J.seq
    apply J.seq
    refine J.regE (by simp [eNs, eN, eNs_length, eI]; rfl) ?_
    simp
    refine J.condB rfl (fun h54 => ?_) (fun h54 => ?_)
    ·
     try simp at h54
     have hk0 : k < l.length := by omega
     obtain ⟨b, hxk, hgxk, hgk, hgek, hdrk, hwk, hlt2k, htkk⟩ := getL (eN) (show k < l.length by omega) (by omega)
     apply J.skip; simp
     apply J.seq
     apply J.block
     apply J.seq
     apply J.draw; intro c' hc'
     iterate 11 refine runP_stepQ (by simp [eNs, eN, eNs_length, eI, hi0, hgx, hk0, hgxk]; rfl) ?_
     simp [runP]
     refine J.condB rfl (fun h67 => ?_) (fun h67 => ?_)
     ·
      skip
      apply J.seq
      refine J.regE (by simp [eNs, eN, eNs_length, eI]; rfl) ?_
      simp
      apply J.ret
      refine ⟨by simp, rfl, _, [], by simp [a5R]; rfl, ?_⟩
      simp
     ·
      have h67 : b.b = y.b → ¬ b.s = y.s := fun e1 e2 => by simp [e1, e2] at h67
      apply J.skip; simp
      refine J.regE (by simp [eNs, eN, eNs_length, eI, hwk]; rfl) ?_
      simp
      refine ⟨_, ?_, _, ?_, k + 1, ?_, rfl, ?_, rfl⟩
      ·omega
      ·apply le_sub <;> simp [eNs, eN, s5]
      ·omega
      ·intro j hj hjk
       by_cases e : j = k
       ·subst e; rw [hgxk]; intro e; injection e with e1 e2; exact h67 e1 e2
       ·exact hne j hj (by omega)
    ·
     try simp at h54
     obtain rfl : i = k := by omega
     have hdf2 := dif_step hdf hne htk
     apply J.exit; simp
     refine J.regE (by simp [eNs, eN, eNs_length, eI, hw]; rfl) ?_
     simp
     refine ⟨_, ?_, _, ?_, i + 1, _, ?_, rfl, hdf2, hI2, rfl⟩
     ·omega
     ·apply le_sub <;> simp [eNs, eN, s5]
     ·omega
  ·
   try simp at h32
   obtain rfl : i = l.length := by omega
   rw [List.drop_length] at hI
   simp only [selL, List.append_nil] at hI
   rw [List.take_length] at hdf
   apply J.exit; simp
   apply J.seq
   refine J.freeze hc 5051 rfl ?_
   simp [List.take_of_length_le]
   rw [hI]
   obtain ⟨S, hS⟩ : ∃ S, selL l f = S := ⟨_, rfl⟩
   have hSm : ∀ n ∈ S, n ∈ l := fun n hn => mem_selL (hS ▸ hn)
   rw [hS] at hsl
   rw [hS]
   obtain ⟨R, hR⟩ : ∃ R, readyL l [] = R := ⟨_, rfl⟩
   obtain ⟨B1, hB1⟩ : ∃ B, readyL S [] = B := ⟨_, rfl⟩
   obtain ⟨B2, hB2⟩ : ∃ B, readyL l B1 = B := ⟨_, rfl⟩
   have hb1l : B1.length ≤ 100 := hB1 ▸ readyL_length S []
   have hb2l : B2.length ≤ 100 := hB2 ▸ readyL_length l B1
   have hrl : R.length ≤ 100 := hR ▸ readyL_length l []
   have h12 := Does.nil1 (s := 2) (d12 l [] hl (by simp) hd)
   rw [hR] at h12
   have h12b := Does.rename (b' := 5999) (Does.nil1 (s := 2) (d12w S [] (by omega) (by simp) (fun n hn => hd n (hSm n hn))))
   rw [hB1] at h12b
   have h12c := d12o l B1 hl (by omega) hd
   rw [hB2] at h12c
   have hlen := both_length (S := S) (by omega) h7 hdf hSm
   rw [hB1, hR, hB2] at hlen
   have hmem := fun x => mem_both (S := S) (x := x) (by omega) h7 hdf hSm
   rw [hB1, hR, hB2] at hmem
   have hord := fun a b => both_order (S := S) (a := a) (b := b) (by omega) h7 hdf hSm
   rw [hB1, hR, hB2] at hord
   obtain ⟨B, hB⟩ : ∃ B, B1 ++ B2 = B := ⟨_, rfl⟩
   rw [hB] at hlen hmem hord
   have hBl : B.length ≤ 100 := by omega
   apply J.reg
   refine runL_step rfl (by simp [eNs, eN, eNs_length, eI]; rfl) ?_
   refine runL_tree rfl (by simpa [eNs] using h12) (by simp) hc ?_
   simp
   refine runL_step rfl (by simp [eNs, eN, eNs_length, eI]; rfl) ?_
   simp [runL]
   apply J.seq
   apply J.reg
   refine runL_step rfl (by simp [eNs, eN, eNs_length, eI]; rfl) ?_
   refine runL_call [] [] rfl rfl (by simpa [eNs] using h12b) (by simp) (by simp) (by simp) hc ?_
   rintro rv m1 ⟨rfl, rfl⟩
   refine ⟨by simp, ?_⟩
   try simp only [callSt, dropAll, killAll]
   simp
   refine runL_step rfl (by simp [eNs, eN, eNs_length, eI]; rfl) ?_
   simp [runL]
   apply J.seq
   apply J.reg
   iterate 2 refine runL_step rfl (by simp [eNs, eN, eNs_length, eI]; rfl) ?_
   refine runL_call [5999] [5999] rfl rfl (by simpa [eNs] using h12c) (by simp) (by simp) (by simp) hc ?_
   rintro rv m1 ⟨rfl, rfl⟩
   refine ⟨by simp, ?_⟩
   try simp only [callSt, dropAll, killAll]
   simp
   refine runL_step rfl (by simp [eNs, eN, eNs_length, eI]; rfl) ?_
   simp [runL]
   apply J.seq
   apply J.reg
   iterate 4 refine runL_step rfl (by simp [eNs, eN, eNs_length, eI, eNs, eN, eNs_length, eI, show (B1.length + B2.length) * 16 ≤ 140737488355328 from by omega, List.take_of_length_le]; rfl) ?_
   simp [runL]
   rw [← List.length_append, hB]
   apply J.seq
   apply J.seq
   refine J.freeze hc 5999 rfl ?_
   simp [List.take_of_length_le]
   refine J.regE (by simp [eNs, eN, eNs_length, eI, hlen]; rfl) ?_
   simp
   refine J.condB rfl (fun h82 => ?_) (fun h82 => ?_)
   ·
    exfalso
    try simp at h82
    try omega
   ·
    skip
    apply J.skip; simp
    apply J.seq
    apply J.seq
    refine J.regE (by simp [eNs, eN, eNs_length, eI]; rfl) ?_
    simp
    apply J.block
    refine J.loop hc (I5c l R B) ?_ ?_
    ·refine ⟨_, _, ?_, 0, by omega, rfl, rfl⟩
     apply le_sub <;> simp [eNs, eN, s5c]
    rintro n st ⟨i, hi, rfl, rfl⟩
    unfold s5c
    apply J.seq
    apply J.seq
    refine J.regE (by simp [eNs, eN, eNs_length, eI]; rfl) ?_
    simp
    refine J.condB rfl (fun h86 => ?_) (fun h86 => ?_)
    ·
     try simp at h86
     have hi0 : i < l.length := by omega
     obtain ⟨a, hx, hgx, hg, hge, hdr, hw, hlt2, htk⟩ := getL (eN) (show i < l.length by omega) (by omega)
     have hal := List.mem_of_getElem? hx
     apply J.skip; simp
     apply J.seq
     apply J.block
     apply J.seq
     refine J.regE (by simp [eNs, eN, eNs_length, eI]; rfl) ?_
     simp
     apply J.block
     refine J.loop hc (I5d l R B i) ?_ ?_
     ·refine ⟨_, _, ?_, 0, by omega, rfl, rfl⟩
      apply le_sub <;> simp [eNs, eN, s5c]
     rintro n st ⟨k, hk, rfl, rfl⟩
     unfold s5c
     apply J.seq
     apply J.seq
     refine J.regE (by simp [eNs, eN, eNs_length, eI]; rfl) ?_
     simp
     refine J.condB rfl (fun h92 => ?_) (fun h92 => ?_)
     ·
      try simp at h92
      have hk0 : k < l.length := by omega
      obtain ⟨b, hxk, hgxk, hgk, hgek, hdrk, hwk, hlt2k, htkk⟩ := getL (eN) (show k < l.length by omega) (by omega)
      have hbl := List.mem_of_getElem? hxk
      obtain ⟨w, hwe⟩ : ∃ p, plc R a.i = p := ⟨_, rfl⟩
      obtain ⟨x, hxe⟩ : ∃ p, plc R b.i = p := ⟨_, rfl⟩
      obtain ⟨y, hye⟩ : ∃ p, plc B a.i = p := ⟨_, rfl⟩
      obtain ⟨z, hze⟩ : ∃ p, plc B b.i = p := ⟨_, rfl⟩
      have hw1 := d18p R a.i (by omega)
      rw [hwe] at hw1
      have hx1 := d18p R b.i (by omega)
      rw [hxe] at hx1
      have hy1 := d18p B a.i (by omega)
      rw [hye] at hy1
      have hz1 := d18p B b.i (by omega)
      rw [hze] at hz1
      have hwy : w < 0 ↔ y < 0 := by rw [← hwe, ← hye, plc_neg, plc_neg, hmem]
      have hxz : x < 0 ↔ z < 0 := by rw [← hxe, ← hze, plc_neg, plc_neg, hmem]
      apply J.skip; simp
      apply J.seq
      apply J.block
      apply J.seq
      apply J.seq
      apply J.draw; intro c' hc'
      iterate 10 refine runP_stepQ (by simp [eNs, eN, eNs_length, eI, hi0, hgx, hk0, hgxk]; rfl) ?_
      refine runP_tree rfl (d20 a.q a.d b.i (hd _ hal)) (by simp) rfl ?_
      simp
      iterate 2 refine runP_stepQ (by simp [eNs, eN, eNs_length, eI, hi0, hgx, hk0, hgxk]; rfl) ?_
      refine runP_if rfl (fun g107 => ?_) (fun g107 => ?_)
      ·
       try simp only [g107]
       try simp at g107
       iterate 4 refine runP_stepQ (by simp [eNs, eN, eNs_length, eI, hi0, hgx, hk0, hgxk]; rfl) ?_
       simp [runP]
       refine J.condB rfl (fun h111 => ?_) (fun h111 => ?_)
       ·
        skip
        apply J.exit; simp
        refine J.regE (by simp [eNs, eN, eNs_length, eI, hwk]; rfl) ?_
        simp
        refine ⟨_, ?_, _, ?_, k + 1, ?_, rfl, rfl⟩
        ·omega
        ·apply le_sub <;> simp [eNs, eN, s5c]
        ·omega
       ·
        have hik : ¬ i = k := by intro e; subst e; simp at h111
        have hnab : a.i ≠ b.i := fun e => by
         have e2 := hdf.inj hal hbl e
         rw [← hgx hi0, ← hgxk hk0] at e2
         exact hik ((List.getElem_inj hdf.nodup).1 e2)
        have hO : 0 ≤ w → 0 ≤ x → (w < x ↔ y < z) := fun g1 g2 => by
         have := hord a b hal hbl (by simpa using g107) hnab (Classical.byContradiction fun h => by have := plc_neg.2 h; omega) (Classical.byContradiction fun h => by have := plc_neg.2 h; omega)
         rwa [hwe, hxe, hye, hze] at this
        apply J.skip; simp
        apply J.seq
        apply J.reg
        iterate 6 refine runL_step rfl (by simp [eNs, eN, eNs_length, eI, hi0, hgx]; rfl) ?_
        refine runL_tree rfl (by simpa [eI, Node.i] using hw1) (by simp) hc ?_
        simp
        refine runL_step rfl (by simp [eNs, eN, eNs_length, eI, hi0, hgx]; rfl) ?_
        simp [runL]
        apply J.seq
        apply J.reg
        iterate 6 refine runL_step rfl (by simp [eNs, eN, eNs_length, eI, hk0, hgxk]; rfl) ?_
        refine runL_tree rfl (by simpa [eI, Node.i] using hx1) (by simp) hc ?_
        simp
        refine runL_step rfl (by simp [eNs, eN, eNs_length, eI, hk0, hgxk]; rfl) ?_
        simp [runL]
        apply J.seq
        apply J.reg
        iterate 6 refine runL_step rfl (by simp [eNs, eN, eNs_length, eI, hi0, hgx]; rfl) ?_
        refine runL_tree rfl (by simpa [eI, Node.i] using hy1) (by simp) hc ?_
        simp
        refine runL_step rfl (by simp [eNs, eN, eNs_length, eI, hi0, hgx]; rfl) ?_
        simp [runL]
        apply J.seq
        apply J.reg
        iterate 6 refine runL_step rfl (by simp [eNs, eN, eNs_length, eI, hk0, hgxk]; rfl) ?_
        refine runL_tree rfl (by simpa [eI, Node.i] using hz1) (by simp) hc ?_
        simp
        refine runL_step rfl (by simp [eNs, eN, eNs_length, eI, hk0, hgxk]; rfl) ?_
        simp [runL]
        apply J.seq
        apply J.reg
        iterate 6 refine runL_step rfl (by simp [eNs, eN, eNs_length, eI]; rfl) ?_
        refine runL_if rfl (fun g145 => ?_) (fun g145 => ?_)
        ·
         try simp only [g145]
         try simp at g145
         try (exfalso; omega)
         all_goals
          iterate 7 refine runL_step rfl (by simp [eNs, eN, eNs_length, eI]; rfl) ?_
          refine runL_if rfl (fun g152 => ?_) (fun g152 => ?_)
          ·
           try simp only [g152]
           try simp at g152
           try (exfalso; omega)
           all_goals
            iterate 3 refine runL_step rfl (by simp [eNs, eN, eNs_length, eI]; rfl) ?_
            refine runL_if rfl (fun g155 => ?_) (fun g155 => ?_)
            ·
             try simp only [g155]
             try simp at g155
             try (exfalso; omega)
             all_goals
              iterate 4 refine runL_step rfl (by simp [eNs, eN, eNs_length, eI]; rfl) ?_
              refine runL_if rfl (fun g159 => ?_) (fun g159 => ?_)
              ·
               try simp only [g159]
               try simp at g159
               try (exfalso; omega)
               all_goals
                iterate 9 refine runL_step rfl (by simp [eNs, eN, eNs_length, eI]; rfl) ?_
                simp [runL]
                refine J.condB rfl (fun h168 => ?_) (fun h168 => ?_)
                ·
                 exfalso
                 have hO2 := hO g155 g159
                 simp [hO2] at h168
                ·
                 skip
                 apply J.skip; simp
                 refine J.regE (by simp [eNs, eN, eNs_length, eI, hwk]; rfl) ?_
                 simp
                 refine ⟨_, ?_, _, ?_, k + 1, ?_, rfl, rfl⟩
                 ·omega
                 ·apply le_sub <;> simp [eNs, eN, s5c]
                 ·omega
              ·
               try simp only [g159]
               try simp at g159
               try (exfalso; omega)
               all_goals
                iterate 8 refine runL_step rfl (by simp [eNs, eN, eNs_length, eI]; rfl) ?_
                simp [runL]
                apply J.cond; simp [eNs, eN, eNs_length, eI]
                apply J.skip; simp
                refine J.regE (by simp [eNs, eN, eNs_length, eI, hwk]; rfl) ?_
                simp
                refine ⟨_, ?_, _, ?_, k + 1, ?_, rfl, rfl⟩
                ·omega
                ·apply le_sub <;> simp [eNs, eN, s5c]
                ·omega
            ·
             try simp only [g155]
             try simp at g155
             try (exfalso; omega)
             all_goals
              iterate 12 refine runL_step rfl (by simp [eNs, eN, eNs_length, eI]; rfl) ?_
              simp [runL]
              apply J.cond; simp [eNs, eN, eNs_length, eI]
              apply J.skip; simp
              refine J.regE (by simp [eNs, eN, eNs_length, eI, hwk]; rfl) ?_
              simp
              refine ⟨_, ?_, _, ?_, k + 1, ?_, rfl, rfl⟩
              ·omega
              ·apply le_sub <;> simp [eNs, eN, s5c]
              ·omega
          ·
           try simp only [g152]
           try simp at g152
           exact absurd hxz g152
           try (exfalso; omega)
           all_goals
            iterate 15 refine runL_step rfl (by simp [eNs, eN, eNs_length, eI]; rfl) ?_
            simp [runL]
            apply J.cond; simp [eNs, eN, eNs_length, eI]
            apply J.seq
            refine J.regE (by simp [eNs, eN, eNs_length, eI]; rfl) ?_
            simp
            apply J.ret
            refine ⟨by simp, rfl, _, [], by simp [a5R]; rfl, ?_⟩
            simp
        ·
         try simp only [g145]
         try simp at g145
         exact absurd hwy g145
         try (exfalso; omega)
         all_goals
          iterate 22 refine runL_step rfl (by simp [eNs, eN, eNs_length, eI]; rfl) ?_
          simp [runL]
          apply J.cond; simp [eNs, eN, eNs_length, eI]
          apply J.seq
          refine J.regE (by simp [eNs, eN, eNs_length, eI]; rfl) ?_
          simp
          apply J.ret
          refine ⟨by simp, rfl, _, [], by simp [a5R]; rfl, ?_⟩
          simp
      ·
       try simp only [g107]
       try simp at g107
       iterate 3 refine runP_stepQ (by simp [eNs, eN, eNs_length, eI, hi0, hgx, hk0, hgxk]; rfl) ?_
       simp [runP]
       apply J.cond; simp [eNs, eN, eNs_length, eI]
       apply J.exit; simp
       refine J.regE (by simp [eNs, eN, eNs_length, eI, hwk]; rfl) ?_
       simp
       refine ⟨_, ?_, _, ?_, k + 1, ?_, rfl, rfl⟩
       ·omega
       ·apply le_sub <;> simp [eNs, eN, s5c]
       ·omega
     ·
      skip
      apply J.exit; simp
      refine J.regE (by simp [eNs, eN, eNs_length, eI, hw]; rfl) ?_
      simp
      refine ⟨_, ?_, _, ?_, i + 1, ?_, rfl, rfl⟩
      ·omega
      ·apply le_sub <;> simp [eNs, eN, s5c]
      ·omega
    ·
     skip
     apply J.exit; simp
     apply J.seq
     refine J.regE (by simp [eNs, eN, eNs_length, eI]; rfl) ?_
     simp
     apply J.ret
     refine ⟨by simp, rfl, _, [], by simp [a5R]; rfl, ?_⟩
     simp
end Go.Proofs.Ytdekelhmneeniaa.F
