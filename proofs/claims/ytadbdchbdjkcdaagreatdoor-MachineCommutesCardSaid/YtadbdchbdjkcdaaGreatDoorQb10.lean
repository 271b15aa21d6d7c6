/- Parts of a symbolic execution and of walks by it, for the statements of this seat: W17, W18, W19, W20, W21, W22, W23, W24, W25, W26. -/
import Derived.Test.YtadbdchbdjkcdaaGreatDoorQb9
set_option linter.unusedVariables false
set_option linter.unusedSimpArgs false
namespace Go.Proofs.YtadbdchbdjkcdaaGreatDoor.F
open Go Go.SX
theorem getM {α : Type} (f : α → List AV) {l : List α} {i : Nat} (h : i < l.length) (hf : l.length < 1000000) : ∃ x, l[i]? = some x ∧ (∀ h, l[i]'h = x) ∧ (l.map f)[i]? = some (f x) ∧ (∀ h, (l.map f)[i]'h = f x) ∧ l.drop i = x :: l.drop (i + 1) ∧ IntKind.i64.wrap ((i : Int) + 1) = (i : Int) + 1 ∧ (i : Int) < (l.length : Int) ∧ (l.map f).set i (f x) = l.map f ∧ x ∈ l :=
 ⟨l[i], List.getElem?_eq_getElem h, fun _ => rfl, by simp [h], fun _ => by simp, List.drop_eq_getElem_cons h, wrap_id (by omega) (by omega), by omega, by rw [← List.map_set, List.set_getElem_self], List.getElem_mem h⟩
theorem getR {l : List Room} {i : Nat} (h : i < l.length) (hf : l.length < 1000000) : ∃ x, l[i]? = some x ∧ (∀ h, l[i]'h = x) ∧ (eRs l)[i]? = some (eR x) ∧ (∀ h, (eRs l)[i]'h = eR x) ∧ l.drop i = x :: l.drop (i + 1) ∧ IntKind.i64.wrap ((i : Int) + 1) = (i : Int) + 1 ∧ (i : Int) < (l.length : Int) ∧ (eRs l).set i (eR x) = eRs l ∧ x ∈ l := getM eR h hf
theorem getV {l : List Pers} {i : Nat} (h : i < l.length) (hf : l.length < 1000000) : ∃ x, l[i]? = some x ∧ (∀ h, l[i]'h = x) ∧ (eVs l)[i]? = some (eV x) ∧ (∀ h, (eVs l)[i]'h = eV x) ∧ l.drop i = x :: l.drop (i + 1) ∧ IntKind.i64.wrap ((i : Int) + 1) = (i : Int) + 1 ∧ (i : Int) < (l.length : Int) ∧ (eVs l).set i (eV x) = eVs l ∧ x ∈ l := getM eV h hf
theorem k79 : chkFn Tryz.prog 79 8 1 (slClone 4 52 64 79005 79007) slCloneR = true := by kernel_rfl
theorem k80 : chkFn Tryz.prog 80 8 1 (slClone 3 62 40 80005 80007) slCloneR = true := by kernel_rfl
theorem d79 {l : List Room} (h : l.length < 1000000) : Does Tryz.prog 79 [.ro 4 (eRs l)] [] [] (fun r m => r = .own 79005 4 0 l.length ∧ m = [(79005, .arr 52 4 (eRs l))]) := by
 have := dClone k79 (es := eRs l) (by omega) (by simp; omega)
 simpa using this
theorem d80 {l : List Pers} (h : l.length < 1000000) : Does Tryz.prog 80 [.ro 3 (eVs l)] [] [] (fun r m => r = .own 80005 3 0 l.length ∧ m = [(80005, .arr 62 3 (eVs l))]) := by
 have := dClone k80 (es := eVs l) (by omega) (by simp; omega)
 simpa using this
theorem ints_len (l : List Int) : (ints l).length = l.length := by simp [ints]
theorem ePs_len (l : List Post) : (ePs l).length = l.length := by simp [P16.ePs]
theorem d81t (l : List Int) (h : l.length < 1000000) : DoesT 81 [.ro 1 (ints l)] (.ro 1 (ints l)) := dCloneT (by omega) (dClone k81 (es := ints l) (by omega) (by rw [ints_len]; omega))
theorem d82t (l : List Post) (h : l.length < 1000000) : DoesT 82 [.ro 5 (ePs l)] (.ro 5 (ePs l)) := dCloneT (by omega) (P16.d42 (ePs l) (by rw [ePs_len]; omega))
theorem d83t (l : List Told) (h : l.length < 1000000) : DoesT 83 [.ro 4 (eTs l)] (.ro 4 (eTs l)) := dCloneT (by omega) (dClone k83 (es := eTs l) (by omega) (by rw [eTs_length]; omega))
theorem eRs_take (l : List Room) : (eRs l).take l.length = eRs l := List.take_of_length_le (by simp)
theorem eVs_take (l : List Pers) : (eVs l).take l.length = eVs l := List.take_of_length_le (by simp)
def M41 (s : Sta) : Mem := [(41001, .obj 27 [.own 79005 4 0 s.rooms.length, .own 80005 3 0 s.persons.length]), (41002, .obj 27 [.nils 4, .nils 3]), (79005, .arr 52 4 (eRs s.rooms)), (80005, .arr 62 3 (eVs s.persons))]
def I41a (s : Sta) (m : Nat) (st : St) : Prop := ∃ i : Nat, i ≤ s.rooms.length ∧ m = s.rooms.length - i ∧ st = ⟨[(1, .ptr 41001 0 0 0), (2, .ptr 41002 0 0 0), (16, .own 79005 4 0 s.rooms.length), (17, iv (s.rooms.length : Nat)), (18, iv (i : Nat))], M41 s, []⟩
def I41b (s : Sta) (m : Nat) (st : St) : Prop := ∃ i : Nat, i ≤ s.persons.length ∧ m = s.persons.length - i ∧ st = ⟨[(1, .ptr 41001 0 0 0), (2, .ptr 41002 0 0 0), (43, .own 80005 3 0 s.persons.length), (44, iv (s.persons.length : Nat)), (45, iv (i : Nat))], M41 s, []⟩
theorem c41 : chkFn Tryz.prog 41 62 1 a41 a41R = true := by kernel_rfl
theorem d41 (s : Sta) {n : Nat} (hn : n < 1000000) (h : FitS n s) : DoesT 41 [.agg (eS s)] (.agg (eS s)) := by
 have hl1 := h.l1 hn
 have hl2 := h.l2 hn
 refine Does.of (nt := 62) (ac := a41) (rds := a41R) c41 (fun c hc => ?_)
 unfold a41
 apply J.seq
 refine J.regE (by simp [eS, M41]; rfl) ?_
 simp
 apply J.seq
 refine J.to hc ⟨[(1, .ptr 41001 0 0 0), (2, .ptr 41002 0 0 0)], M41 s, []⟩ ?_ ?_
 ·refine J.drawT rfl hc (fun c' hs' hc' => ?_)
  iterate 2 refine runP_stepQ (by simp [eS]; rfl) ?_
  refine runP_or ?_ ?_
  ·refine runP_one rfl (by simp) (by simp [eS]; rfl) ?_
   refine runP_or ?_ ?_
   ·refine runP_callT [] [] rfl rfl (by simp; exact d79 hl1) (by simp) (by simp) (by simp) (by simp) hs' ?_
    rintro _ _ ⟨rfl, rfl⟩
    refine ⟨by simp, ?_⟩
    simp
    refine runP_one rfl (by simp) (by simp [eS]; rfl) ?_
    refine runP_stepQ (by simp [eS]; rfl) ?_
    refine runP_callT [] [] rfl rfl (by simp; exact d80 hl2) (by simp) (by simp) (by simp) (by simp) hs' ?_
    rintro _ _ ⟨rfl, rfl⟩
    refine ⟨by simp, ?_⟩
    simp
    refine runP_one rfl (by simp) (by simp [eS]; rfl) ?_
    refine runP_stepQ (by simp [eS]; rfl) ?_
    refine runP_end (by simp [eS]; rfl) ?_
    simp
    apply le_sub <;> simp [eS, M41, frz]
   ·refine runP_one rfl (by simp) (by simp [eS]; rfl) ?_
    refine runP_callT [] [] rfl rfl (by simp; exact d79 hl1) (by simp) (by simp) (by simp) (by simp) hs' ?_
    rintro _ _ ⟨rfl, rfl⟩
    refine ⟨by simp, ?_⟩
    simp
    refine runP_stepQ (by simp [eS]; rfl) ?_
    refine runP_callT [] [] rfl rfl (by simp; exact d80 hl2) (by simp) (by simp) (by simp) (by simp) hs' ?_
    rintro _ _ ⟨rfl, rfl⟩
    refine ⟨by simp, ?_⟩
    simp
    refine runP_one rfl (by simp) (by simp [eS]; rfl) ?_
    refine runP_stepQ (by simp [eS]; rfl) ?_
    refine runP_end (by simp [eS]; rfl) ?_
    simp
    apply le_sub <;> simp [eS, M41, frz]
  ·refine runP_one rfl (by simp) (by simp [eS]; rfl) ?_
   refine runP_one rfl (by simp) (by simp [eS]; rfl) ?_
   refine runP_callT [] [] rfl rfl (by simp; exact d79 hl1) (by simp) (by simp) (by simp) (by simp) hs' ?_
   rintro _ _ ⟨rfl, rfl⟩
   refine ⟨by simp, ?_⟩
   simp
   refine runP_stepQ (by simp [eS]; rfl) ?_
   refine runP_callT [] [] rfl rfl (by simp; exact d80 hl2) (by simp) (by simp) (by simp) (by simp) hs' ?_
   rintro _ _ ⟨rfl, rfl⟩
   refine ⟨by simp, ?_⟩
   simp
   refine runP_one rfl (by simp) (by simp [eS]; rfl) ?_
   refine runP_stepQ (by simp [eS]; rfl) ?_
   refine runP_end (by simp [eS]; rfl) ?_
   simp
   apply le_sub <;> simp [eS, M41, frz]
 simp
 apply J.seq
 apply J.seq
 refine J.regE (by simp [eS, M41]; rfl) ?_
 simp
 apply J.block
 refine J.loop hc (I41a s) ?_ ?_
 ·exact ⟨_, _, St.le_refl _, 0, by omega, rfl, by simp [M41]⟩
 rintro n st ⟨i, hi, rfl, rfl⟩
 apply J.seq
 refine J.regE (by simp [eS, M41]; rfl) ?_
 simp
 apply J.seq
 apply J.cond; simp [eS, M41]
 refine ⟨fun hlt => ?_, fun hlt => ?_⟩
 ·
  obtain ⟨x, hx, hgx, hg, hge, hdr, hw, hlt2, hset, hxm⟩ := getR (show i < s.rooms.length by omega) hl1
  have hfx := h.2.2.1 x hxm
  have hf1 : x.c.mem.length < 1000000 := by have := hfx.1; omega
  simp only [eR] at hg hge hset
  apply J.skip; simp
  apply J.seq
  apply J.block
  apply J.seq
  refine J.regE (by simp [eS, M41, hlt2, hg, hge, hlt]; rfl) ?_
  simp
  refine J.drawT rfl hc (fun c' hs' hc' => ?_)
  iterate 10 refine runP_stepQ (by simp [eS, M41, hlt2, hg, hge, hlt, hset]; rfl) ?_
  refine runP_one rfl (by simp) (by simp [eS, M41, hlt2, hg, hge, hlt, hset]; rfl) ?_
  refine runP_treeT rfl (d81t x.c.mem hf1) (by simp) hs' ?_
  simp
  refine runP_treeT rfl (d82t x.posts hfx.2.len) (by simp) hs' ?_
  simp
  iterate 3 refine runP_stepQ (by simp [eS, M41, hlt2, hg, hge, hlt, hset]; rfl) ?_
  refine runP_one rfl (by simp) (by simp [eS, M41, hlt2, hg, hge, hlt, hset]; rfl) ?_
  iterate 2 refine runP_stepQ (by simp [eS, M41, hlt2, hg, hge, hlt, hset]; rfl) ?_
  refine runP_one rfl (by simp) (by simp [eS, M41, hlt2, hg, hge, hlt, hset]; rfl) ?_
  simp [runP]
  refine J.regE (by simp [eS, M41, hw]; rfl) ?_
  simp
  refine ⟨_, by omega, _, ?_, i + 1, by omega, rfl, rfl⟩
  apply le_sub <;> simp [M41]
 ·
  have hie : i = s.rooms.length := by omega
  subst hie
  apply J.exit; simp
  apply J.seq
  apply J.seq
  refine J.regE (by simp [eS, M41]; rfl) ?_
  simp
  apply J.block
  refine J.loop hc (I41b s) ?_ ?_
  ·exact ⟨_, _, St.le_refl _, 0, by omega, rfl, by simp [M41]⟩
  rintro n st ⟨i, hi, rfl, rfl⟩
  apply J.seq
  refine J.regE (by simp [eS, M41]; rfl) ?_
  simp
  apply J.seq
  apply J.cond; simp [eS, M41]
  refine ⟨fun hlt => ?_, fun hlt => ?_⟩
  ·
   obtain ⟨x, hx, hgx, hg, hge, hdr, hw, hlt2, hset, hxm⟩ := getV (show i < s.persons.length by omega) hl2
   simp only [eV] at hg hge hset
   apply J.skip; simp
   apply J.seq
   apply J.block
   apply J.seq
   refine J.regE (by simp [eS, M41, hlt2, hg, hge, hlt]; rfl) ?_
   simp
   refine J.drawT rfl hc (fun c' hs' hc' => ?_)
   iterate 5 refine runP_stepQ (by simp [eS, M41, hlt2, hg, hge, hlt, hset]; rfl) ?_
   refine runP_one rfl (by simp) (by simp [eS, M41, hlt2, hg, hge, hlt, hset]; rfl) ?_
   refine runP_treeT rfl (d83t x.w.l (h.p hn x hxm)) (by simp) hs' ?_
   simp
   iterate 3 refine runP_stepQ (by simp [eS, M41, hlt2, hg, hge, hlt, hset]; rfl) ?_
   refine runP_one rfl (by simp) (by simp [eS, M41, hlt2, hg, hge, hlt, hset]; rfl) ?_
   simp [runP]
   refine J.regE (by simp [eS, M41, hw]; rfl) ?_
   simp
   refine ⟨_, by omega, _, ?_, i + 1, by omega, rfl, rfl⟩
   apply le_sub <;> simp [M41]
  ·
   have hie : i = s.persons.length := by omega
   subst hie
   apply J.exit; simp
   apply J.seq
   refine J.regE (by simp [eS, M41]; rfl) ?_
   simp
   refine J.freeze hc 79005 rfl ?_
   simp
   refine J.freeze hc 80005 rfl ?_
   simp
   apply J.ret
   refine ⟨by simp, rfl, _, [], by simp [a41R]; rfl, ?_⟩
   simp [eRs_take, eVs_take, eS]
theorem k113 : chkFn Tryz.prog 113 49 3 (slBsf 4) slBsfR = true := by kernel_rfl
theorem k84 : chkFn Tryz.prog 84 49 3 (slBsf 3) slBsfR = true := by kernel_rfl
theorem k114 : chkFn Tryz.prog 114 11 2 (slFindC 4 52 86 114003) slFindCR = true := by kernel_rfl
theorem k85 : chkFn Tryz.prog 85 11 2 (slFindC 3 62 86 85003) slFindCR = true := by kernel_rfl
theorem k88 : chkFn Tryz.prog 88 14 3 (slFind 71 113 114 88005) slFindR = true := by kernel_rfl
theorem k42 : chkFn Tryz.prog 42 14 3 (slFind 73 84 85 42005) slFindR = true := by kernel_rfl
theorem k168 : chkFn Tryz.prog 168 95 3 (slIns 168040 79005 4 52 64 170 171 168025) slInsR = true := by kernel_rfl
theorem k91 : chkFn Tryz.prog 91 95 3 (slIns 91040 80005 3 62 40 128 129 91025) slInsR = true := by kernel_rfl
noncomputable def ov170 : OvOK Tryz.prog 170 := ⟨Tryz.f170, 24, 4, 52, by kernel_rfl, by kernel_rfl, by kernel_rfl, by kernel_rfl, by kernel_rfl, by kernel_rfl, by kernel_rfl⟩
noncomputable def ov128 : OvOK Tryz.prog 128 := ⟨Tryz.f128, 25, 4, 62, by kernel_rfl, by kernel_rfl, by kernel_rfl, by kernel_rfl, by kernel_rfl, by kernel_rfl, by kernel_rfl⟩
theorem k160 : chkFn Tryz.prog 160 32 3 (slWith 4 52 88 79 168 160004 160025) slWithR = true := by kernel_rfl
theorem k46 : chkFn Tryz.prog 46 32 3 (slWith 3 62 42 80 91 46004 46025) slWithR = true := by kernel_rfl
theorem d114 (x : Room) (n : Int) : DoesT 114 [.agg (eR x), iv n, .rop 1 [[.fn 36 []]] 0 0] (iv (cmpI (kR x) n)) := dFindC k114 rfl rfl (by omega) (d36 x) d86
theorem d113 (l : List Room) (n : Int) (hf : l.length < 1000000) : DoesT 113 [.ro 4 (eRs l), iv n, .fn 114 [.rop 1 [[.fn 36 []]] 0 0]] (.tup [iv (bsK kR n l : Nat), bv (bsKF kR n l)]) := by
 obtain ⟨h1, h2⟩ := bsL_map eR kR n (fun e => cmpI (k0 e) n) (fun x => rfl) l
 have := dBsf k113 (y := iv n) (g := 114) (caps := [.rop 1 [[.fn 36 []]] 0 0]) (fun e => cmpI (k0 e) n) (by omega) (eRs_rows hf) trivial (by simp) (fun e he => by obtain ⟨x, _, rfl⟩ := List.mem_map.1 he; exact d114 x n)
 unfold eRs at *
 rw [h1, h2] at this
 exact this
theorem d88 (l : List Room) (n : Int) (hf : l.length < 1000000) : DoesT 88 [.ro 4 (eRs l), iv n, .fn 36 []] (.tup [iv (bsK kR n l : Nat), bv (bsKF kR n l)]) := dFind k88 (d113 l n hf)
theorem eRs_put {l : List Room} {x : Room} (hu : Up kR l) : (if bsKF kR (kR x) l = true then (eRs l).set (bsK kR (kR x) l) (eR x) else (eRs l).take (bsK kR (kR x) l) ++ [eR x] ++ (eRs l).drop (bsK kR (kR x) l)) = eRs (putK kR x l) := by
 cases h : bsKF kR (kR x) l
 ·rw [if_neg (by simp), ← put_new kR hu x h]; simp [eRs, List.map_take, List.map_drop]
 ·rw [if_pos rfl, ← (put_old kR hu x h).2]; simp [eRs, List.map_set]
theorem d160 (l : List Room) (x : Room) (hl : l.length < 900000) (hu : Up kR l) : DoesT 160 [.ro 4 (eRs l), .agg (eR x), .fn 36 []] (.ro 4 (eRs (putK kR x l))) := by
 rw [← eRs_put hu]
 have hf : l.length < 1000000 := by omega
 have hcl := d79 hf
 have hin := dIns k168 ov170 (es := eRs l) (e := eR x) (i := bsK kR (kR x) l) (b2 := 160025) (by omega) (by omega) (by omega) (by omega) (by simpa using bsK_le kR (kR x) l) (by simpa using hf) (by simp; omega)
 refine dWith k160 (id := 168040) (b1 := 79005) (by omega) (eRs_rows hf) rfl rfl (by simpa using bsK_le kR (kR x) l) (fun h => by simpa using bsKF_lt kR h) (by omega) (by omega) (by omega) (by omega) (by omega) (by omega) (d36 x) (d88 l _ hf) (by simpa using hcl) (by simpa using hin)
theorem d85 (x : Pers) (n : Int) : DoesT 85 [.agg (eV x), iv n, .rop 1 [[.fn 38 []]] 0 0] (iv (cmpI (kV x) n)) := dFindC k85 rfl rfl (by omega) (d38 x) d86
theorem d84 (l : List Pers) (n : Int) (hf : l.length < 1000000) : DoesT 84 [.ro 3 (eVs l), iv n, .fn 85 [.rop 1 [[.fn 38 []]] 0 0]] (.tup [iv (bsK kV n l : Nat), bv (bsKF kV n l)]) := by
 obtain ⟨h1, h2⟩ := bsL_map eV kV n (fun e => cmpI (k0 e) n) (fun x => rfl) l
 have := dBsf k84 (y := iv n) (g := 85) (caps := [.rop 1 [[.fn 38 []]] 0 0]) (fun e => cmpI (k0 e) n) (by omega) (eVs_rows hf) trivial (by simp) (fun e he => by obtain ⟨x, _, rfl⟩ := List.mem_map.1 he; exact d85 x n)
 unfold eVs at *
 rw [h1, h2] at this
 exact this
theorem d42 (l : List Pers) (n : Int) (hf : l.length < 1000000) : DoesT 42 [.ro 3 (eVs l), iv n, .fn 38 []] (.tup [iv (bsK kV n l : Nat), bv (bsKF kV n l)]) := dFind k42 (d84 l n hf)
theorem eVs_put {l : List Pers} {x : Pers} (hu : Up kV l) : (if bsKF kV (kV x) l = true then (eVs l).set (bsK kV (kV x) l) (eV x) else (eVs l).take (bsK kV (kV x) l) ++ [eV x] ++ (eVs l).drop (bsK kV (kV x) l)) = eVs (putK kV x l) := by
 cases h : bsKF kV (kV x) l
 ·rw [if_neg (by simp), ← put_new kV hu x h]; simp [eVs, List.map_take, List.map_drop]
 ·rw [if_pos rfl, ← (put_old kV hu x h).2]; simp [eVs, List.map_set]
theorem d46 (l : List Pers) (x : Pers) (hl : l.length < 900000) (hu : Up kV l) : DoesT 46 [.ro 3 (eVs l), .agg (eV x), .fn 38 []] (.ro 3 (eVs (putK kV x l))) := by
 rw [← eVs_put hu]
 have hf : l.length < 1000000 := by omega
 have hcl := d80 hf
 have hin := dIns k91 ov128 (es := eVs l) (e := eV x) (i := bsK kV (kV x) l) (b2 := 46025) (by omega) (by omega) (by omega) (by omega) (by simpa using bsK_le kV (kV x) l) (by simpa using hf) (by simp; omega)
 refine dWith k46 (id := 91040) (b1 := 80005) (by omega) (eVs_rows hf) rfl rfl (by simpa using bsK_le kV (kV x) l) (fun h => by simpa using bsKF_lt kV h) (by omega) (by omega) (by omega) (by omega) (by omega) (by omega) (d38 x) (d42 l _ hf) (by simpa using hcl) (by simpa using hin)
def eD (s : Sta) (a : Ans) (r : Room) : List AV := [.ro 4 (eRs s.rooms), .ro 3 (eVs s.persons), iv a.e, iv a.n, sv a.text, iv r.c.id, iv r.c.owner, .ro 1 (ints r.c.mem), .ro 5 (ePs r.posts)]
abbrev DD (f : Nat) (args : List AV) (s : Sta) (a : Ans) (r : Room) (s' : Sta) (a' : Ans) (r' : Room) : Prop := Does Tryz.prog f (.ptr 44011 0 0 0 :: args) [(44011, .obj 126 (eD s a r))] [44011] (fun rv m => rv = .tup [] ∧ m = [(44011, .obj 126 (eD s' a' r'))])
def keepS (s : Sta) (r : Room) (e : Int) : Sta := if e = 0 then { s with rooms := putK kR r s.rooms } else s
theorem putK_R {l : List Room} {x : Room} : (putK kR x l).length ≤ l.length + 1 := putK_len kR
theorem c146 : chkFn Tryz.prog 146 25 2 a146 a146R = true := by kernel_rfl
theorem d146 (s : Sta) (a : Ans) (r : Room) (e : Int) (hu : Up kR s.rooms) (hl : s.rooms.length < 900000) : DD 146 [iv e] s a r (keepS s r e) { a with e := e } r := by
 refine Does.of (nt := 25) (ac := a146) (rds := a146R) c146 (fun c hc => ?_)
 unfold a146
 apply J.seq
 refine J.regE (by simp [eD]; rfl) ?_
 simp
 apply J.seq
 refine J.regE (by simp [eD]; rfl) ?_
 simp
 refine J.condB rfl (fun h10 => ?_) (fun h10 => ?_)
 ·
  simp at h10
  refine J.drawT rfl hc (fun c' hs' hc' => ?_)
  iterate 8 refine runP_stepQ (by simp [eD]; rfl) ?_
  refine runP_or ?_ ?_
  ·refine runP_one rfl (by simp) (by simp [eD]; rfl) ?_
   refine runP_one rfl (by simp) (by simp [eD]; rfl) ?_
   refine runP_treeT rfl (d160 s.rooms r hl hu) (by simp) hs' ?_
   simp
   iterate 3 refine runP_stepQ (by simp [eD]; rfl) ?_
   refine runP_end (by simp [eD]; rfl) ?_
   simp
   refine ⟨[], rfl, [(44011, .obj 126 (eD { s with rooms := putK kR r s.rooms } { a with e := 0 } r))], ?_⟩
   simp [eD, keepS, h10]
  ·refine runP_one rfl (by simp) (by simp [eD]; rfl) ?_
   refine runP_one rfl (by simp) (by simp [eD]; rfl) ?_
   refine runP_treeT rfl (d160 s.rooms r hl hu) (by simp) hs' ?_
   simp
   iterate 3 refine runP_stepQ (by simp [eD]; rfl) ?_
   refine runP_end (by simp [eD]; rfl) ?_
   simp
   refine ⟨[], rfl, [(44011, .obj 126 (eD { s with rooms := putK kR r s.rooms } { a with e := 0 } r))], ?_⟩
   simp [eD, keepS, h10]
 ·
  simp at h10
  apply J.skip; simp
  refine ⟨[], rfl, [(44011, .obj 126 (eD s { a with e := e } r))], ?_⟩
  simp [eD, keepS, h10]
theorem c116 : chkFn Tryz.prog 116 14 3 a116 a116R = true := by kernel_rfl
theorem d116 (s : Sta) (a : Ans) (r : Room) (c' : Chan) (e : Int) (hu : Up kR s.rooms) (hl : s.rooms.length < 900000) : DD 116 [.agg (eC c'), iv e] s a r (keepS s { r with c := c' } e) { a with e := e } { r with c := c' } := by
 refine Does.of (nt := 14) (ac := a116) (rds := a116R) c116 (fun c hc => ?_)
 unfold a116
 apply J.seq
 refine J.regE (by simp [eD, eC]; rfl) ?_
 simp
 apply J.seq
 refine J.regE (by simp [eD, eC]; rfl) ?_
 simp
 apply J.reg
 iterate 2 refine runL_step rfl (by simp [eD, eC]; rfl) ?_
 refine runL_call [44011] [44011] rfl rfl (by simp [eD]; exact d146 s a { r with c := c' } e hu hl) (by simp) (by simp [eD]) (by simp) hc ?_
 rintro _ _ ⟨rfl, rfl⟩
 refine ⟨by simp, ?_⟩
 simp
 simp [runL]
 refine ⟨[], rfl, [(44011, .obj 126 (eD (keepS s { r with c := c' } e) { a with e := e } { r with c := c' }))], ?_⟩
 simp [eD]
theorem c121 : chkFn Tryz.prog 121 14 3 a121 a121R = true := by kernel_rfl
theorem d121 (s : Sta) (a : Ans) (r : Room) (l : List Post) (e : Int) (hu : Up kR s.rooms) (hl : s.rooms.length < 900000) : DD 121 [.ro 5 (ePs l), iv e] s a r (keepS s { r with posts := l } e) { a with e := e } { r with posts := l } := by
 refine Does.of (nt := 14) (ac := a121) (rds := a121R) c121 (fun c hc => ?_)
 unfold a121
 apply J.seq
 refine J.regE (by simp [eD, eC]; rfl) ?_
 simp
 apply J.reg
 iterate 2 refine runL_step rfl (by simp [eD, eC]; rfl) ?_
 refine runL_call [44011] [44011] rfl rfl (by simp [eD]; exact d146 s a { r with posts := l } e hu hl) (by simp) (by simp [eD]) (by simp) hc ?_
 rintro _ _ ⟨rfl, rfl⟩
 refine ⟨by simp, ?_⟩
 simp
 simp [runL]
 refine ⟨[], rfl, [(44011, .obj 126 (eD (keepS s { r with posts := l } e) { a with e := e } { r with posts := l }))], ?_⟩
 simp [eD]
theorem fit_nil : P16.Fit [] := ⟨by simp, by simp⟩
theorem fit_sub {l m : List Post} (hl : m.length < 1000000) (h : ∀ x ∈ m, x ∈ l ∨ x.text.size ≤ 100000) (hf : P16.Fit l) : P16.Fit m := ⟨hl, fun x hx => (h x hx).elim (hf.txt x) id⟩
theorem fairL_sub {l : List Post} {x : Post} (h : x ∈ P16.fairL l) : x ∈ l := by
 unfold P16.fairL at h; split at h
 ·exact h
 ·simp at h
theorem addP_fit {l : List Post} {u : Int} {s : ByteArray} (hf : P16.Fit l) (hs : s.size ≤ 100000) : P16.Fit (P16.addP l u s).1 := by
 unfold P16.addP
 split
 ·exact fit_nil
 ·split
  ·exact fit_nil
  ·have := P16.fairL_len l
   refine fit_sub (by simp; omega) (fun x hx => ?_) hf
   have := List.mem_of_mem_drop hx
   rcases List.mem_append.1 this with h | h
   ·exact .inl (fairL_sub h)
   ·simp at h; subst h; exact .inr hs
theorem set_fit {l : List Post} {i : Nat} {y : Post} (hf : P16.Fit l) (hy : y.text.size ≤ 100000) : P16.Fit ((P16.fairL l).set i y) := by
 have := P16.fairL_len l
 refine fit_sub (by simp; omega) (fun x hx => ?_) hf
 rcases List.mem_or_eq_of_mem_set hx with h | h
 ·exact .inl (fairL_sub h)
 ·subst h; exact .inr hy
theorem editP_fit {l : List Post} {no u : Int} {s : ByteArray} (hf : P16.Fit l) (hs : s.size ≤ 100000) : P16.Fit (P16.editP l no u s).1 := by
 unfold P16.editP
 split
 ·exact fit_nil
 ·split
  ·exact fit_nil
  ·split
   ·rename_i h
    refine set_fit hf ?_
    unfold P16.dofE at h ⊢
    split at h
    ·simp at h
    ·split at h
     ·simp at h
     ·rename_i h1 h2; rw [if_neg h1, if_neg h2]; exact hs
   ·exact fit_nil
theorem delP_fit {l : List Post} {no u o : Int} (hf : P16.Fit l) : P16.Fit (P16.delP l no u o).1 := by
 unfold P16.delP
 split
 ·exact fit_nil
 ·split
  ·rename_i h
   refine set_fit hf ?_
   unfold P16.dofD at h ⊢
   split at h
   ·simp at h
   ·rename_i h1; rw [if_neg h1]; exact Nat.zero_le _
  ·exact fit_nil
def saidS (s : Sta) (r : Room) (q : List Post × Int) : Sta := keepS s { r with posts := q.1 } q.2
def chanS (s : Sta) (r : Room) (q : Chan × Int) : Sta := keepS s { r with c := q.1 } q.2
theorem c115 : chkFn Tryz.prog 115 13 2 a115 a115R = true := by kernel_rfl
theorem d115 (s : Sta) (a : Ans) (r : Room) (m : Cmd) (hu : Up kR s.rooms) (hl : s.rooms.length < 900000) : DD 115 [.agg (eM m)] s a r (chanS s r (openC m.ch m.user)) { a with e := (openC m.ch m.user).2 } { r with c := (openC m.ch m.user).1 } := by
 refine Does.of (nt := 13) (ac := a115) (rds := a115R) c115 (fun c hc => ?_)
 unfold a115
 apply J.seq
 refine J.regE (by simp [eD, eM, eC]; rfl) ?_
 simp
 apply J.reg
 iterate 5 refine runL_step rfl (by simp [eD, eM, eC]; rfl) ?_
 refine runL_tree rfl (d70 _ _) (by simp) hc ?_
 simp
 iterate 2 refine runL_step rfl (by simp [eD, eM, eC]; rfl) ?_
 refine runL_call [44011] [44011] rfl rfl (by simp [eD]; exact d116 s a r (openC m.ch m.user).1 (openC m.ch m.user).2 hu hl) (by simp) (by simp [eD]) (by simp) hc ?_
 rintro _ _ ⟨rfl, rfl⟩
 refine ⟨by simp, ?_⟩
 simp
 simp [runL]
 refine ⟨[], rfl, [(44011, .obj 126 (eD (chanS s r (openC m.ch m.user)) { a with e := (openC m.ch m.user).2 } { r with c := (openC m.ch m.user).1 }))], ?_⟩
 simp [eD, chanS]
theorem c117 : chkFn Tryz.prog 117 16 2 a117 a117R = true := by kernel_rfl
theorem d117 (s : Sta) (a : Ans) (r : Room) (m : Cmd) (hu : Up kR s.rooms) (hl : s.rooms.length < 900000) (hf : r.c.mem.length < 1000000) : DD 117 [.agg (eM m)] s a r (chanS s r (joinC r.c m.user)) { a with e := (joinC r.c m.user).2 } { r with c := (joinC r.c m.user).1 } := by
 refine Does.of (nt := 16) (ac := a117) (rds := a117R) c117 (fun c hc => ?_)
 unfold a117
 apply J.seq
 refine J.regE (by simp [eD, eM, eC]; rfl) ?_
 simp
 refine J.drawT rfl hc (fun c' hs' hc' => ?_)
 iterate 7 refine runP_stepQ (by simp [eD, eM, eC]; rfl) ?_
 refine runP_one rfl (by simp) (by simp [eD, eM, eC]; rfl) ?_
 refine runP_treeT rfl (d71 r.c m.user hf) (by simp) hs' ?_
 simp
 iterate 2 refine runP_stepQ (by simp [eD, eM, eC]; rfl) ?_
 refine runP_callT [44011] [44011] rfl rfl (by simp [eD]; exact d116 s a r (joinC r.c m.user).1 (joinC r.c m.user).2 hu hl) (by simp) (by simp [eD]) (by simp) (by simp) hs' ?_
 rintro _ _ ⟨rfl, rfl⟩
 refine ⟨by simp, ?_⟩
 simp
 simp [runP]
 refine ⟨[], rfl, [(44011, .obj 126 (eD (chanS s r (joinC r.c m.user)) { a with e := (joinC r.c m.user).2 } { r with c := (joinC r.c m.user).1 }))], ?_⟩
 simp [eD, chanS]
theorem c118 : chkFn Tryz.prog 118 16 2 a118 a118R = true := by kernel_rfl
theorem d118 (s : Sta) (a : Ans) (r : Room) (m : Cmd) (hu : Up kR s.rooms) (hl : s.rooms.length < 900000) (hf : r.c.mem.length < 1000000) : DD 118 [.agg (eM m)] s a r (chanS s r (leaveC r.c m.user)) { a with e := (leaveC r.c m.user).2 } { r with c := (leaveC r.c m.user).1 } := by
 refine Does.of (nt := 16) (ac := a118) (rds := a118R) c118 (fun c hc => ?_)
 unfold a118
 apply J.seq
 refine J.regE (by simp [eD, eM, eC]; rfl) ?_
 simp
 refine J.drawT rfl hc (fun c' hs' hc' => ?_)
 iterate 7 refine runP_stepQ (by simp [eD, eM, eC]; rfl) ?_
 refine runP_one rfl (by simp) (by simp [eD, eM, eC]; rfl) ?_
 refine runP_treeT rfl (d72 r.c m.user hf) (by simp) hs' ?_
 simp
 iterate 2 refine runP_stepQ (by simp [eD, eM, eC]; rfl) ?_
 refine runP_callT [44011] [44011] rfl rfl (by simp [eD]; exact d116 s a r (leaveC r.c m.user).1 (leaveC r.c m.user).2 hu hl) (by simp) (by simp [eD]) (by simp) (by simp) hs' ?_
 rintro _ _ ⟨rfl, rfl⟩
 refine ⟨by simp, ?_⟩
 simp
 simp [runP]
 refine ⟨[], rfl, [(44011, .obj 126 (eD (chanS s r (leaveC r.c m.user)) { a with e := (leaveC r.c m.user).2 } { r with c := (leaveC r.c m.user).1 }))], ?_⟩
 simp [eD, chanS]
theorem c120 : chkFn Tryz.prog 120 20 2 a120 a120R = true := by kernel_rfl
theorem d120 (s : Sta) (a : Ans) (r : Room) (m : Cmd) (hu : Up kR s.rooms) (hl : s.rooms.length < 900000) (hf : P16.Fit r.posts) (ht : m.text.size ≤ 100000) : DD 120 [.agg (eM m)] s a r (saidS s r (P16.editP r.posts m.n m.user m.text)) { a with e := (P16.editP r.posts m.n m.user m.text).2 } { r with posts := (P16.editP r.posts m.n m.user m.text).1 } := by
 refine Does.of (nt := 20) (ac := a120) (rds := a120R) c120 (fun c hc => ?_)
 unfold a120
 apply J.seq
 refine J.regE (by simp [eD, eM, eC]; rfl) ?_
 simp
 refine J.drawT rfl hc (fun c' hs' hc' => ?_)
 iterate 11 refine runP_stepQ (by simp [eD, eM, eC]; rfl) ?_
 refine runP_one rfl (by simp) (by simp [eD, eM, eC]; rfl) ?_
 refine runP_treeT rfl (P16.d22 r.posts m.n m.user m.text hf (by omega)) (by simp) hs' ?_
 simp
 iterate 2 refine runP_stepQ (by simp [eD, eM, eC]; rfl) ?_
 refine runP_callT [44011] [44011] rfl rfl (by simp [eD]; exact d121 s a r (P16.editP r.posts m.n m.user m.text).1 (P16.editP r.posts m.n m.user m.text).2 hu hl) (by simp) (by simp [eD]) (by simp) (by simp) hs' ?_
 rintro _ _ ⟨rfl, rfl⟩
 refine ⟨by simp, ?_⟩
 simp
 simp [runP]
 refine ⟨[], rfl, [(44011, .obj 126 (eD (saidS s r (P16.editP r.posts m.n m.user m.text)) { a with e := (P16.editP r.posts m.n m.user m.text).2 } { r with posts := (P16.editP r.posts m.n m.user m.text).1 }))], ?_⟩
 simp [eD, saidS]
def kindsL : List (AV × AV) := [(iv 1, .fn 115 []), (iv 2, .fn 117 []), (iv 3, .fn 118 []), (iv 4, .fn 119 []), (iv 5, .fn 120 []), (iv 6, .fn 123 []), (iv 7, .fn 125 [])]
theorem c123 : chkFn Tryz.prog 123 24 2 a123 a123R = true := by kernel_rfl
theorem d123 (s : Sta) (a : Ans) (r : Room) (m : Cmd) (hu : Up kR s.rooms) (hl : s.rooms.length < 900000) (hf : P16.Fit r.posts) : DD 123 [.agg (eM m)] s a r (saidS s r (P16.delP r.posts m.n m.user r.c.owner)) { a with e := (P16.delP r.posts m.n m.user r.c.owner).2 } { r with posts := (P16.delP r.posts m.n m.user r.c.owner).1 } := by
 refine Does.of (nt := 24) (ac := a123) (rds := a123R) c123 (fun c hc => ?_)
 unfold a123
 apply J.seq
 refine J.regE (by simp [eD, eM, eC, P16.eP]; rfl) ?_
 simp
 refine J.drawT rfl hc (fun c' hs' hc' => ?_)
 iterate 14 refine runP_stepQ (by simp [eD, eM, eC, P16.eP]; rfl) ?_
 refine runP_or ?_ ?_
 ·refine runP_one rfl (by simp) (by simp [eD, eM, eC, P16.eP]; rfl) ?_
  refine runP_one rfl (by simp) (by simp [eD, eM, eC, P16.eP]; rfl) ?_
  refine runP_treeT rfl (P16.d23 r.posts m.n m.user r.c.owner hf) (by simp) hs' ?_
  simp
  refine runP_stepQ (by simp [eD, eM, eC, P16.eP]; rfl) ?_
  refine runP_stepQ (by simp [eD, eM, eC, P16.eP]; rfl) ?_
  refine runP_callT [44011] [44011] rfl rfl (by simp [eD]; exact d121 s a r (P16.delP r.posts m.n m.user r.c.owner).1 (P16.delP r.posts m.n m.user r.c.owner).2 hu hl) (by simp) (by simp [eD]) (by simp) (by simp) hs' ?_
  rintro _ _ ⟨rfl, rfl⟩
  refine ⟨by simp, ?_⟩
  simp [runP]
  refine ⟨[], rfl, [(44011, .obj 126 (eD (saidS s r (P16.delP r.posts m.n m.user r.c.owner)) { a with e := (P16.delP r.posts m.n m.user r.c.owner).2 } { r with posts := (P16.delP r.posts m.n m.user r.c.owner).1 }))], ?_⟩
  simp [eD, saidS]
 ·refine runP_one rfl (by simp) (by simp [eD, eM, eC, P16.eP]; rfl) ?_
  refine runP_one rfl (by simp) (by simp [eD, eM, eC, P16.eP]; rfl) ?_
  refine runP_treeT rfl (P16.d23 r.posts m.n m.user r.c.owner hf) (by simp) hs' ?_
  simp
  refine runP_stepQ (by simp [eD, eM, eC, P16.eP]; rfl) ?_
  refine runP_stepQ (by simp [eD, eM, eC, P16.eP]; rfl) ?_
  refine runP_callT [44011] [44011] rfl rfl (by simp [eD]; exact d121 s a r (P16.delP r.posts m.n m.user r.c.owner).1 (P16.delP r.posts m.n m.user r.c.owner).2 hu hl) (by simp) (by simp [eD]) (by simp) (by simp) hs' ?_
  rintro _ _ ⟨rfl, rfl⟩
  refine ⟨by simp, ?_⟩
  simp [runP]
  refine ⟨[], rfl, [(44011, .obj 126 (eD (saidS s r (P16.delP r.posts m.n m.user r.c.owner)) { a with e := (P16.delP r.posts m.n m.user r.c.owner).2 } { r with posts := (P16.delP r.posts m.n m.user r.c.owner).1 }))], ?_⟩
  simp [eD, saidS]
theorem c125 : chkFn Tryz.prog 125 26 2 a125 a125R = true := by kernel_rfl
theorem d125 (s : Sta) (a : Ans) (r : Room) (m : Cmd) (hf : P16.Fit r.posts) : DD 125 [.agg (eM m)] s a r s ⟨(P16.findP r.posts m.n).2, (P16.findP r.posts m.n).1.edits, (P16.findP r.posts m.n).1.text⟩ r := by
 refine Does.of (nt := 26) (ac := a125) (rds := a125R) c125 (fun c hc => ?_)
 unfold a125
 apply J.seq
 refine J.regE (by simp [eD, eM, eC, P16.eP]; rfl) ?_
 simp
 apply J.seq
 refine J.to hc ⟨[(0, .ptr 44011 0 0 0), (4, .ptr 125004 0 0 0), (5, iv (P16.findP r.posts m.n).2)], [(44011, .obj 126 (eD s a r)), (125004, .obj 86 (P16.eP (P16.findP r.posts m.n).1))], [44011]⟩ ?_ ?_
 ·refine J.drawT rfl hc (fun c' hs' hc' => ?_)
  iterate 7 refine runP_stepQ (by simp [eD, eM, eC, P16.eP]; rfl) ?_
  refine runP_or ?_ ?_
  ·refine runP_treeT rfl (P16.d17 r.posts m.n hf) (by simp) hs' ?_
   simp
   iterate 3 refine runP_stepQ (by simp [eD, eM, eC, P16.eP]; rfl) ?_
   refine runP_one rfl (by simp) (by simp [eD, eM, eC, P16.eP]; rfl) ?_
   refine runP_end (by simp [eD, eM, eC, P16.eP]; rfl) ?_
   simp
   apply le_sub <;> simp [eD, eM, eC, P16.eP]
  ·refine runP_one rfl (by simp) (by simp [eD, eM, eC, P16.eP]; rfl) ?_
   refine runP_treeT rfl (P16.d17 r.posts m.n hf) (by simp) hs' ?_
   simp
   iterate 3 refine runP_stepQ (by simp [eD, eM, eC, P16.eP]; rfl) ?_
   refine runP_end (by simp [eD, eM, eC, P16.eP]; rfl) ?_
   simp
   apply le_sub <;> simp [eD, eM, eC, P16.eP]
 simp
 apply J.reg
 iterate 10 refine runL_step rfl (by simp [eD, eM, eC, P16.eP]; rfl) ?_
 simp [runL]
 refine ⟨[], rfl, [(44011, .obj 126 (eD s ⟨(P16.findP r.posts m.n).2, (P16.findP r.posts m.n).1.edits, (P16.findP r.posts m.n).1.text⟩ r))], ?_⟩
 simp [eD]
theorem c119 : chkFn Tryz.prog 119 34 2 a119 a119R = true := by kernel_rfl
theorem d119 (s : Sta) (a : Ans) (r : Room) (m : Cmd) (hu : Up kR s.rooms) (hl : s.rooms.length < 900000) (hf : P16.Fit r.posts) (ht : m.text.size ≤ 100000) : DD 119 [.agg (eM m)] s a r (saidS s r (P16.addP r.posts m.user m.text)) { a with e := (P16.addP r.posts m.user m.text).2, n := if (P16.addP r.posts m.user m.text).2 = 0 then P16.lastP (P16.addP r.posts m.user m.text).1 else a.n } { r with posts := (P16.addP r.posts m.user m.text).1 } := by
 have hq := addP_fit (u := m.user) hf ht
 refine Does.of (nt := 34) (ac := a119) (rds := a119R) c119 (fun c hc => ?_)
 unfold a119
 apply J.seq
 refine J.regE (by simp [eD, eM]; rfl) ?_
 simp
 apply J.seq
 refine J.drawT rfl hc (fun c' hs' hc' => ?_)
 iterate 9 refine runP_stepQ (by simp [eD, eM]; rfl) ?_
 refine runP_one rfl (by simp) (by simp [eD, eM]; rfl) ?_
 refine runP_treeT rfl (P16.d24 r.posts m.user m.text hf (by omega)) (by simp) hs' ?_
 simp
 iterate 2 refine runP_stepQ (by simp [eD, eM]; rfl) ?_
 refine runP_callT [44011] [44011] rfl rfl (by simp [eD]; exact d121 s a r (P16.addP r.posts m.user m.text).1 (P16.addP r.posts m.user m.text).2 hu hl) (by simp) (by simp [eD]) (by simp) (by simp) hs' ?_
 rintro _ _ ⟨rfl, rfl⟩
 refine ⟨by simp, ?_⟩
 simp
 simp [runP]
 apply J.seq
 refine J.regE (by simp [eD, eM]; rfl) ?_
 simp
 refine J.condB rfl (fun h23 => ?_) (fun h23 => ?_)
 ·
  simp at h23
  apply J.reg
  iterate 6 refine runL_step rfl (by simp [eD, eM]; rfl) ?_
  refine runL_tree rfl (P16.d16 _ hq) (by simp) hc ?_
  simp
  iterate 4 refine runL_step rfl (by simp [eD, eM]; rfl) ?_
  simp [runL]
  refine ⟨[], rfl, [(44011, .obj 126 (eD (saidS s r (P16.addP r.posts m.user m.text)) { a with e := (P16.addP r.posts m.user m.text).2, n := P16.lastP (P16.addP r.posts m.user m.text).1 } { r with posts := (P16.addP r.posts m.user m.text).1 }))], ?_⟩
  simp [eD, saidS, h23]
 ·
  simp at h23
  apply J.skip; simp
  refine ⟨[], rfl, [(44011, .obj 126 (eD (saidS s r (P16.addP r.posts m.user m.text)) { a with e := (P16.addP r.posts m.user m.text).2 } { r with posts := (P16.addP r.posts m.user m.text).1 }))], ?_⟩
  simp [eD, saidS, h23]
theorem c89 : chkFn Tryz.prog 89 3 0 a89 a89R = true := by kernel_rfl
theorem d89  : Does Tryz.prog 89 [] [] [] (fun r m => r = .mapr 89001 ∧ m = [(89001, .map kindsL)]) := by
 refine Does.of (nt := 3) (ac := a89) (rds := a89R) c89 (fun c hc => ?_)
 unfold a89
 apply J.seq
 refine J.regE (by simp; rfl) ?_
 simp
 apply J.seq
 apply J.reg
 refine runL_ext (extK_mkmap trivial rfl ?_)
 simp
 refine runL_ext (extK_mapset (r := none) (by simp; rfl) (by simp; rfl) (by simp; rfl) (by simp [isTree1]) (by simp [keyA, eqA, eqv, kindV]) (by simp; rfl) rfl trivial (by simp [findA, keyA, eqA, eqv, kindV]) ?_)
 simp [putA]
 refine runL_ext (extK_mapset (r := none) (by simp; rfl) (by simp; rfl) (by simp; rfl) (by simp [isTree1]) (by simp [keyA, eqA, eqv, kindV]) (by simp; rfl) rfl trivial (by simp [findA, keyA, eqA, eqv, kindV]) ?_)
 simp [putA]
 refine runL_ext (extK_mapset (r := none) (by simp; rfl) (by simp; rfl) (by simp; rfl) (by simp [isTree1]) (by simp [keyA, eqA, eqv, kindV]) (by simp; rfl) rfl trivial (by simp [findA, keyA, eqA, eqv, kindV]) ?_)
 simp [putA]
 refine runL_ext (extK_mapset (r := none) (by simp; rfl) (by simp; rfl) (by simp; rfl) (by simp [isTree1]) (by simp [keyA, eqA, eqv, kindV]) (by simp; rfl) rfl trivial (by simp [findA, keyA, eqA, eqv, kindV]) ?_)
 simp [putA]
 refine runL_ext (extK_mapset (r := none) (by simp; rfl) (by simp; rfl) (by simp; rfl) (by simp [isTree1]) (by simp [keyA, eqA, eqv, kindV]) (by simp; rfl) rfl trivial (by simp [findA, keyA, eqA, eqv, kindV]) ?_)
 simp [putA]
 refine runL_ext (extK_mapset (r := none) (by simp; rfl) (by simp; rfl) (by simp; rfl) (by simp [isTree1]) (by simp [keyA, eqA, eqv, kindV]) (by simp; rfl) rfl trivial (by simp [findA, keyA, eqA, eqv, kindV]) ?_)
 simp [putA]
 refine runL_ext (extK_mapset (r := none) (by simp; rfl) (by simp; rfl) (by simp; rfl) (by simp [isTree1]) (by simp [keyA, eqA, eqv, kindV]) (by simp; rfl) rfl trivial (by simp [findA, keyA, eqA, eqv, kindV]) ?_)
 simp [putA]
 iterate 2 refine runL_step rfl (by simp; rfl) ?_
 simp [runL]
 apply J.ret
 refine ⟨by simp, rfl, _, [(89001, .map kindsL)], by simp [a89R]; rfl, ?_⟩
 simp [kindsL]
def noR : Room := ⟨noC, []⟩
def doQ (s : Sta) (m : Cmd) (r : Room) : Sta × Ans × Room :=
 if m.kind = 1 then (chanS s r (openC m.ch m.user), ⟨(openC m.ch m.user).2, 0, ⟨#[]⟩⟩, { r with c := (openC m.ch m.user).1 })
 else if m.kind = 2 then (chanS s r (joinC r.c m.user), ⟨(joinC r.c m.user).2, 0, ⟨#[]⟩⟩, { r with c := (joinC r.c m.user).1 })
 else if m.kind = 3 then (chanS s r (leaveC r.c m.user), ⟨(leaveC r.c m.user).2, 0, ⟨#[]⟩⟩, { r with c := (leaveC r.c m.user).1 })
 else if m.kind = 4 then (saidS s r (P16.addP r.posts m.user m.text), ⟨(P16.addP r.posts m.user m.text).2, if (P16.addP r.posts m.user m.text).2 = 0 then P16.lastP (P16.addP r.posts m.user m.text).1 else 0, ⟨#[]⟩⟩, { r with posts := (P16.addP r.posts m.user m.text).1 })
 else if m.kind = 5 then (saidS s r (P16.editP r.posts m.n m.user m.text), ⟨(P16.editP r.posts m.n m.user m.text).2, 0, ⟨#[]⟩⟩, { r with posts := (P16.editP r.posts m.n m.user m.text).1 })
 else if m.kind = 6 then (saidS s r (P16.delP r.posts m.n m.user r.c.owner), ⟨(P16.delP r.posts m.n m.user r.c.owner).2, 0, ⟨#[]⟩⟩, { r with posts := (P16.delP r.posts m.n m.user r.c.owner).1 })
 else (s, ⟨(P16.findP r.posts m.n).2, (P16.findP r.posts m.n).1.edits, (P16.findP r.posts m.n).1.text⟩, r)
def doesS (s : Sta) (m : Cmd) : Sta × Ans := match s.rooms.find? (fun r => decide (kR r = m.ch)) with
 | some r => if m.kind = 1 then (s, ⟨6, 0, ⟨#[]⟩⟩) else if 3 < m.kind ∧ inC r.c m.user = false then (s, ⟨8, 0, ⟨#[]⟩⟩) else ((doQ s m r).1, (doQ s m r).2.1)
 | none => if m.kind = 1 then ((doQ s m noR).1, (doQ s m noR).2.1) else (s, ⟨5, 0, ⟨#[]⟩⟩)
theorem does_some {s : Sta} {m : Cmd} {r : Room} (h : s.rooms.find? (fun r => decide (kR r = m.ch)) = some r) : doesS s m = if m.kind = 1 then (s, ⟨6, 0, ⟨#[]⟩⟩) else if 3 < m.kind ∧ inC r.c m.user = false then (s, ⟨8, 0, ⟨#[]⟩⟩) else ((doQ s m r).1, (doQ s m r).2.1) := by unfold doesS; rw [h]
theorem does_none {s : Sta} {m : Cmd} (h : s.rooms.find? (fun r => decide (kR r = m.ch)) = none) : doesS s m = if m.kind = 1 then ((doQ s m noR).1, (doQ s m noR).2.1) else (s, ⟨5, 0, ⟨#[]⟩⟩) := by unfold doesS; rw [h]
theorem run11 {c : Ctx} (hc : c.A = c.B) (s : Sta) (m : Cmd) (r : Room) (hu : Up kR s.rooms) (hl : s.rooms.length < 900000) (hm : r.c.mem.length < 1000000) (hf : P16.Fit r.posts) (ht : m.text.size ≤ 100000) (h7 : 1 ≤ m.kind ∧ m.kind ≤ 7) {b2 : Blk} {x62 : AV} :
  J Tryz.prog 80 c a44r11 ⟨[(2, .ptr 44002 0 0 0), (3, .ptr 44003 0 0 0), (4, .ptr 44004 0 0 0), (5, .ptr 44005 0 0 0), (6, .ptr 44011 0 0 0), (62, x62)], [(44002, b2), (44003, .obj 36 (eM m)), (44004, .obj 27 [.ro 4 [], .ro 3 []]), (44005, .obj 39 [iv 0, iv 0, sv ⟨#[]⟩]), (44011, .obj 126 (eD s noA r))], []⟩ (fun e st => e = .normal ∧ st.le ⟨[(4, .ptr 44004 0 0 0), (5, .ptr 44005 0 0 0), (6, .ptr 44011 0 0 0)], [(44004, .obj 27 [.ro 4 [], .ro 3 []]), (44005, .obj 39 [iv 0, iv 0, sv ⟨#[]⟩]), (44011, .obj 126 (eD (doQ s m r).1 (doQ s m r).2.1 (doQ s m r).2.2))], []⟩) := by
 have hk7 : m.kind = 1 ∨ m.kind = 2 ∨ m.kind = 3 ∨ m.kind = 4 ∨ m.kind = 5 ∨ m.kind = 6 ∨ m.kind = 7 := by omega
 rcases hk7 with hk | hk | hk | hk | hk | hk | hk
 ·refine J.drawT rfl hc (fun c' hs' hc' => ?_)
  iterate 4 refine runP_stepQ (by simp [eD, eM]; rfl) ?_
  refine runP_callT [] [] rfl rfl (by simp; exact d89) (by simp) (by simp) (by simp) (by simp) hs' ?_
  rintro _ _ ⟨rfl, rfl⟩
  refine ⟨by simp, ?_⟩
  simp
  refine runP_ext (extK_mapget (x := iv 1) (r := some (0, .fn 115 [])) (by simp; rfl) (by simp; rfl) (by simp [hk]) (by simp [isTree1]) (by simp [keyA, eqA, eqv, kindV]) (by simp [kindsL, findA, keyA, eqA, eqv, kindV]) (.inr (by simp)) ?_)
  simp
  refine runP_callT [44011] [44011] rfl rfl (by simp [eD, eM]; exact d115 s noA r m hu hl) (by simp) (by simp [eD]) (by simp) (by simp) hs' ?_
  rintro _ _ ⟨rfl, rfl⟩
  refine ⟨by simp, ?_⟩
  simp [runP]
  apply le_sub <;> simp [eD, doQ, hk, noA]
 ·refine J.drawT rfl hc (fun c' hs' hc' => ?_)
  iterate 4 refine runP_stepQ (by simp [eD, eM]; rfl) ?_
  refine runP_callT [] [] rfl rfl (by simp; exact d89) (by simp) (by simp) (by simp) (by simp) hs' ?_
  rintro _ _ ⟨rfl, rfl⟩
  refine ⟨by simp, ?_⟩
  simp
  refine runP_ext (extK_mapget (x := iv 2) (r := some (1, .fn 117 [])) (by simp; rfl) (by simp; rfl) (by simp [hk]) (by simp [isTree1]) (by simp [keyA, eqA, eqv, kindV]) (by simp [kindsL, findA, keyA, eqA, eqv, kindV]) (.inr (by simp)) ?_)
  simp
  refine runP_callT [44011] [44011] rfl rfl (by simp [eD, eM]; exact d117 s noA r m hu hl hm) (by simp) (by simp [eD]) (by simp) (by simp) hs' ?_
  rintro _ _ ⟨rfl, rfl⟩
  refine ⟨by simp, ?_⟩
  simp [runP]
  apply le_sub <;> simp [eD, doQ, hk, noA]
 ·refine J.drawT rfl hc (fun c' hs' hc' => ?_)
  iterate 4 refine runP_stepQ (by simp [eD, eM]; rfl) ?_
  refine runP_callT [] [] rfl rfl (by simp; exact d89) (by simp) (by simp) (by simp) (by simp) hs' ?_
  rintro _ _ ⟨rfl, rfl⟩
  refine ⟨by simp, ?_⟩
  simp
  refine runP_ext (extK_mapget (x := iv 3) (r := some (2, .fn 118 [])) (by simp; rfl) (by simp; rfl) (by simp [hk]) (by simp [isTree1]) (by simp [keyA, eqA, eqv, kindV]) (by simp [kindsL, findA, keyA, eqA, eqv, kindV]) (.inr (by simp)) ?_)
  simp
  refine runP_callT [44011] [44011] rfl rfl (by simp [eD, eM]; exact d118 s noA r m hu hl hm) (by simp) (by simp [eD]) (by simp) (by simp) hs' ?_
  rintro _ _ ⟨rfl, rfl⟩
  refine ⟨by simp, ?_⟩
  simp [runP]
  apply le_sub <;> simp [eD, doQ, hk, noA]
 ·refine J.drawT rfl hc (fun c' hs' hc' => ?_)
  iterate 4 refine runP_stepQ (by simp [eD, eM]; rfl) ?_
  refine runP_callT [] [] rfl rfl (by simp; exact d89) (by simp) (by simp) (by simp) (by simp) hs' ?_
  rintro _ _ ⟨rfl, rfl⟩
  refine ⟨by simp, ?_⟩
  simp
  refine runP_ext (extK_mapget (x := iv 4) (r := some (3, .fn 119 [])) (by simp; rfl) (by simp; rfl) (by simp [hk]) (by simp [isTree1]) (by simp [keyA, eqA, eqv, kindV]) (by simp [kindsL, findA, keyA, eqA, eqv, kindV]) (.inr (by simp)) ?_)
  simp
  refine runP_callT [44011] [44011] rfl rfl (by simp [eD, eM]; exact d119 s noA r m hu hl hf ht) (by simp) (by simp [eD]) (by simp) (by simp) hs' ?_
  rintro _ _ ⟨rfl, rfl⟩
  refine ⟨by simp, ?_⟩
  simp [runP]
  apply le_sub <;> simp [eD, doQ, hk, noA]
 ·refine J.drawT rfl hc (fun c' hs' hc' => ?_)
  iterate 4 refine runP_stepQ (by simp [eD, eM]; rfl) ?_
  refine runP_callT [] [] rfl rfl (by simp; exact d89) (by simp) (by simp) (by simp) (by simp) hs' ?_
  rintro _ _ ⟨rfl, rfl⟩
  refine ⟨by simp, ?_⟩
  simp
  refine runP_ext (extK_mapget (x := iv 5) (r := some (4, .fn 120 [])) (by simp; rfl) (by simp; rfl) (by simp [hk]) (by simp [isTree1]) (by simp [keyA, eqA, eqv, kindV]) (by simp [kindsL, findA, keyA, eqA, eqv, kindV]) (.inr (by simp)) ?_)
  simp
  refine runP_callT [44011] [44011] rfl rfl (by simp [eD, eM]; exact d120 s noA r m hu hl hf ht) (by simp) (by simp [eD]) (by simp) (by simp) hs' ?_
  rintro _ _ ⟨rfl, rfl⟩
  refine ⟨by simp, ?_⟩
  simp [runP]
  apply le_sub <;> simp [eD, doQ, hk, noA]
 ·refine J.drawT rfl hc (fun c' hs' hc' => ?_)
  iterate 4 refine runP_stepQ (by simp [eD, eM]; rfl) ?_
  refine runP_callT [] [] rfl rfl (by simp; exact d89) (by simp) (by simp) (by simp) (by simp) hs' ?_
  rintro _ _ ⟨rfl, rfl⟩
  refine ⟨by simp, ?_⟩
  simp
  refine runP_ext (extK_mapget (x := iv 6) (r := some (5, .fn 123 [])) (by simp; rfl) (by simp; rfl) (by simp [hk]) (by simp [isTree1]) (by simp [keyA, eqA, eqv, kindV]) (by simp [kindsL, findA, keyA, eqA, eqv, kindV]) (.inr (by simp)) ?_)
  simp
  refine runP_callT [44011] [44011] rfl rfl (by simp [eD, eM]; exact d123 s noA r m hu hl hf) (by simp) (by simp [eD]) (by simp) (by simp) hs' ?_
  rintro _ _ ⟨rfl, rfl⟩
  refine ⟨by simp, ?_⟩
  simp [runP]
  apply le_sub <;> simp [eD, doQ, hk, noA]
 ·refine J.drawT rfl hc (fun c' hs' hc' => ?_)
  iterate 4 refine runP_stepQ (by simp [eD, eM]; rfl) ?_
  refine runP_callT [] [] rfl rfl (by simp; exact d89) (by simp) (by simp) (by simp) (by simp) hs' ?_
  rintro _ _ ⟨rfl, rfl⟩
  refine ⟨by simp, ?_⟩
  simp
  refine runP_ext (extK_mapget (x := iv 7) (r := some (6, .fn 125 [])) (by simp; rfl) (by simp; rfl) (by simp [hk]) (by simp [isTree1]) (by simp [keyA, eqA, eqv, kindV]) (by simp [kindsL, findA, keyA, eqA, eqv, kindV]) (.inr (by simp)) ?_)
  simp
  refine runP_callT [44011] [44011] rfl rfl (by simp [eD, eM]; exact d125 s noA r m hf) (by simp) (by simp [eD]) (by simp) (by simp) hs' ?_
  rintro _ _ ⟨rfl, rfl⟩
  refine ⟨by simp, ?_⟩
  simp [runP]
  apply le_sub <;> simp [eD, doQ, hk, noA]
theorem c44 : chkFn Tryz.prog 44 80 2 a44 a44R = true := by kernel_rfl
theorem d44 (s : Sta) (m : Cmd) (hu : Up kR s.rooms) {n : Nat} (hn : n < 900000) (h : FitS n s) (ht : m.text.size ≤ 100000) (h7 : 1 ≤ m.kind ∧ m.kind ≤ 7) : DoesT 44 [.agg (eS s), .agg (eM m)] (.tup [.agg (eS (doesS s m).1), .agg (eA (doesS s m).2)]) := by
 have hl : s.rooms.length < 900000 := by have := h.1; omega
 obtain ⟨hf1, hf2⟩ := find_up kR hu m.ch
 obtain ⟨B, hB⟩ : ∃ B, bsKF kR m.ch s.rooms = B := ⟨_, rfl⟩
 have h88 := d88 s.rooms m.ch (by omega)
 rw [hB] at h88 hf1 hf2
 refine Does.of (nt := 80) (ac := a44) (rds := a44R) c44 (fun c hc => ?_)
 unfold a44
 apply J.seq
 refine J.regE (by simp [eS, eM]; rfl) ?_
 simp
 apply J.seq
 refine J.regE (by simp [eS, eM]; rfl) ?_
 simp
 refine J.nz hc ?_
 simp
 apply J.seq
 apply J.reg
 iterate 4 refine runL_step rfl (by simp [eS, eM]; rfl) ?_
 refine runL_tree rfl (h88) (by simp) hc ?_
 simp
 iterate 5 refine runL_step rfl (by simp [eS, eM]; rfl) ?_
 simp [runL]
 apply J.seq
 apply J.block
 apply J.seq
 apply J.reg
 iterate 4 refine runL_step rfl (by simp [eS, eM]; rfl) ?_
 refine runL_if rfl (fun g24 => ?_) (fun g24 => ?_)
 ·
  try simp only [g24]
  try simp at g24
  iterate 3 refine runL_step rfl (by simp [eS, eM]; rfl) ?_
  simp [runL]
  refine J.condB rfl (fun h20 => ?_) (fun h20 => ?_)
  ·
   subst h20
   obtain ⟨x, hx, hkx, hfx⟩ := hf1 rfl
   apply J.seq
   refine J.regE (by simp [eS, eM]; rfl) ?_
   simp
   apply J.ret
   refine ⟨by simp, rfl, _, [], by simp [a44R]; rfl, ?_⟩
   first | (rw [does_some hfx]; simp [eA, eS, *]; done) | (rw [does_some hfx]; simp [eA, eS, show ¬ 3 < m.kind by omega, g24]; done) | (rw [does_none hfx]; simp [eA, eS, *]; done) | trace_state
  ·
   subst h20
   have hfx := hf2 rfl
   apply J.seq
   apply J.reg
   iterate 4 refine runL_step rfl (by simp [eS, eM]; rfl) ?_
   refine runL_if rfl (fun g33 => ?_) (fun g33 => ?_)
   ·
    try simp only [g33]
    try simp at g33
    exfalso; omega
   ·
    try simp only [g33]
    try simp at g33
    iterate 3 refine runL_step rfl (by simp [eS, eM]; rfl) ?_
    simp [runL]
    apply J.cond; simp [eS, eM]
    apply J.seq
    refine J.regE (by simp [eS, eM]; rfl) ?_
    simp
    refine J.condB rfl (fun h39 => ?_) (fun h39 => ?_)
    ·
     cases h39
    ·
     apply J.skip; simp
     apply J.seq
     apply J.seq
     refine J.drawT rfl hc (fun c' hs' hc' => ?_)
     iterate 4 refine runP_stepQ (by simp [eS, eM, eD]; rfl) ?_
     refine runP_if rfl (fun g52 => ?_) (fun g52 => ?_)
     ·
      try simp only [g52]
      try simp at g52
      exfalso; omega
     ·
      try simp only [g52]
      try simp at g52
      iterate 6 refine runP_stepQ (by simp [eS, eM, eD]; rfl) ?_
      refine runP_skip (b := false) (by simp) (by simp) ?_
      simp
      iterate 2 refine runP_stepQ (by simp [eS, eM, eD]; rfl) ?_
      simp [runP]
      apply J.cond; simp [eS, eM]
      apply J.skip; simp
      apply J.seq
      refine J.to hc ⟨[(4, .ptr 44004 0 0 0), (5, .ptr 44005 0 0 0), (6, .ptr 44011 0 0 0)], [(44004, .obj 27 [.ro 4 [], .ro 3 []]), (44005, .obj 39 [iv 0, iv 0, sv ⟨#[]⟩]), (44011, .obj 126 (eD (doQ s m noR).1 (doQ s m noR).2.1 (doQ s m noR).2.2))], []⟩ ?_ ?_
      ·exact run11 hc s m noR hu hl (by simp [noR, noC]) fit_nil ht h7
      simp
      apply J.seq
      apply J.draw; intro c' hc'
      iterate 8 refine runP_stepQ (by simp [eS, eM, eD]; rfl) ?_
      refine runP_one rfl (by simp) (by simp [eS, eM, eD]; rfl) ?_
      refine runP_one rfl (by simp) (by simp [eS, eM, eD]; rfl) ?_
      simp [runP]
      apply J.ret
      refine ⟨by simp, rfl, _, [], by simp [a44R]; rfl, ?_⟩
      first | (rw [does_some hfx]; simp [eA, eS, *]; done) | (rw [does_some hfx]; simp [eA, eS, show ¬ 3 < m.kind by omega, g24]; done) | (rw [does_none hfx]; simp [eA, eS, *]; done) | trace_state
 ·
  try simp only [g24]
  try simp at g24
  iterate 2 refine runL_step rfl (by simp [eS, eM]; rfl) ?_
  simp [runL]
  apply J.cond; simp [eS, eM]
  apply J.seq
  apply J.reg
  iterate 4 refine runL_step rfl (by simp [eS, eM]; rfl) ?_
  refine runL_if rfl (fun g33 => ?_) (fun g33 => ?_)
  ·
   try simp only [g33]
   try simp at g33
   iterate 4 refine runL_step rfl (by simp [eS, eM]; rfl) ?_
   simp [runL]
   refine J.condB rfl (fun h29 => ?_) (fun h29 => ?_)
   ·
    obtain rfl : B = false := by simpa using h29
    have hfx := hf2 rfl
    apply J.seq
    refine J.regE (by simp [eS, eM]; rfl) ?_
    simp
    apply J.ret
    refine ⟨by simp, rfl, _, [], by simp [a44R]; rfl, ?_⟩
    first | (rw [does_some hfx]; simp [eA, eS, *]; done) | (rw [does_some hfx]; simp [eA, eS, show ¬ 3 < m.kind by omega, g24]; done) | (rw [does_none hfx]; simp [eA, eS, *]; done) | trace_state
   ·
    obtain rfl : B = true := by simpa using h29
    obtain ⟨x', hx', hkx, hfx⟩ := hf1 rfl
    obtain ⟨x, hx, hgx, hg, hge, hdr, hw, hlt2, hset, hxm⟩ := getR (bsKF_lt kR hB) (by omega)
    obtain rfl : x = x' := by rw [hx] at hx'; injection hx'
    have hm : x.c.mem.length < 1000000 := by have := (h.2.2.1 x hxm).1; omega
    have hf := (h.2.2.1 x hxm).2
    simp only [eR] at hg hge
    apply J.seq
    refine J.regE (by simp [eS, eM]; rfl) ?_
    simp
    refine J.condB rfl (fun h39 => ?_) (fun h39 => ?_)
    ·
     apply J.reg
     iterate 9 refine runL_step rfl (by simp [eS, eM, hlt2, hg, hge]; rfl) ?_
     simp [runL]
     apply J.seq
     apply J.seq
     refine J.drawT rfl hc (fun c' hs' hc' => ?_)
     iterate 4 refine runP_stepQ (by simp [eS, eM, eD]; rfl) ?_
     refine runP_if rfl (fun g52 => ?_) (fun g52 => ?_)
     ·
      try simp only [g52]
      try simp at g52
      iterate 7 refine runP_stepQ (by simp [eS, eM, eD]; rfl) ?_
      refine runP_do (by simp) ?_
      refine runP_treeT rfl (d73 x.c m.user hm) (by simp) hs' ?_
      simp
      iterate 2 refine runP_stepQ (by simp [eS, eM, eD]; rfl) ?_
      simp [runP]
      refine J.condB rfl (fun h62 => ?_) (fun h62 => ?_)
      ·
       simp at h62
       apply J.seq
       refine J.regE (by simp [eS, eM]; rfl) ?_
       simp
       apply J.ret
       refine ⟨by simp, rfl, _, [], by simp [a44R]; rfl, ?_⟩
       first | (rw [does_some hfx]; simp [eA, eS, *]; done) | (rw [does_some hfx]; simp [eA, eS, show ¬ 3 < m.kind by omega, g24]; done) | (rw [does_none hfx]; simp [eA, eS, *]; done) | trace_state
      ·
       simp at h62
       apply J.skip; simp
       apply J.seq
       refine J.to hc ⟨[(4, .ptr 44004 0 0 0), (5, .ptr 44005 0 0 0), (6, .ptr 44011 0 0 0)], [(44004, .obj 27 [.ro 4 [], .ro 3 []]), (44005, .obj 39 [iv 0, iv 0, sv ⟨#[]⟩]), (44011, .obj 126 (eD (doQ s m x).1 (doQ s m x).2.1 (doQ s m x).2.2))], []⟩ ?_ ?_
       ·exact run11 hc s m x hu hl hm hf ht h7
       simp
       apply J.seq
       apply J.draw; intro c' hc'
       iterate 8 refine runP_stepQ (by simp [eS, eM, eD]; rfl) ?_
       refine runP_one rfl (by simp) (by simp [eS, eM, eD]; rfl) ?_
       refine runP_one rfl (by simp) (by simp [eS, eM, eD]; rfl) ?_
       simp [runP]
       apply J.ret
       refine ⟨by simp, rfl, _, [], by simp [a44R]; rfl, ?_⟩
       first | (rw [does_some hfx]; simp [eA, eS, *]; done) | (rw [does_some hfx]; simp [eA, eS, show ¬ 3 < m.kind by omega, g24]; done) | (rw [does_none hfx]; simp [eA, eS, *]; done) | trace_state
     ·
      try simp only [g52]
      try simp at g52
      iterate 6 refine runP_stepQ (by simp [eS, eM, eD]; rfl) ?_
      refine runP_skip (b := false) (by simp) (by simp) ?_
      simp
      iterate 2 refine runP_stepQ (by simp [eS, eM, eD]; rfl) ?_
      simp [runP]
      apply J.cond; simp [eS, eM]
      apply J.skip; simp
      apply J.seq
      refine J.to hc ⟨[(4, .ptr 44004 0 0 0), (5, .ptr 44005 0 0 0), (6, .ptr 44011 0 0 0)], [(44004, .obj 27 [.ro 4 [], .ro 3 []]), (44005, .obj 39 [iv 0, iv 0, sv ⟨#[]⟩]), (44011, .obj 126 (eD (doQ s m x).1 (doQ s m x).2.1 (doQ s m x).2.2))], []⟩ ?_ ?_
      ·exact run11 hc s m x hu hl hm hf ht h7
      simp
      apply J.seq
      apply J.draw; intro c' hc'
      iterate 8 refine runP_stepQ (by simp [eS, eM, eD]; rfl) ?_
      refine runP_one rfl (by simp) (by simp [eS, eM, eD]; rfl) ?_
      refine runP_one rfl (by simp) (by simp [eS, eM, eD]; rfl) ?_
      simp [runP]
      apply J.ret
      refine ⟨by simp, rfl, _, [], by simp [a44R]; rfl, ?_⟩
      first | (rw [does_some hfx]; simp [eA, eS, *]; done) | (rw [does_some hfx]; simp [eA, eS, show ¬ 3 < m.kind by omega, g24]; done) | (rw [does_none hfx]; simp [eA, eS, *]; done) | trace_state
    ·
     cases h39
  ·
   try simp only [g33]
   try simp at g33
   exfalso; omega
def winOf (s : Sta) (u : Int) : Win := match s.persons.find? (fun p => decide (kV p = u)) with
 | some p => p.w
 | none => noW
def withP (s : Sta) (u : Int) (w : Win) : Sta := { s with persons := putK kV ⟨u, w⟩ s.persons }
def applyS (s : Sta) (m : Cmd) : Sta × Ans :=
 if mayS s = false ∨ mayM m = false then (s, ⟨1, 0, ⟨#[]⟩⟩) else if m.kind = 0 then (s, noA)
 else if (lookW (winOf s m.user) m.seq).2.2 ≠ 0 then (s, ⟨(lookW (winOf s m.user) m.seq).2.2, 0, ⟨#[]⟩⟩)
 else if (lookW (winOf s m.user) m.seq).2.1 = true then (s, (lookW (winOf s m.user) m.seq).1)
 else (withP (doesS s m).1 m.user (putW (winOf s m.user) m.seq (doesS s m).2).1, (doesS s m).2)
theorem apply_may {s : Sta} {m : Cmd} (h : mayS s = false ∨ mayM m = false) : applyS s m = (s, ⟨1, 0, ⟨#[]⟩⟩) := by unfold applyS; rw [if_pos h]
theorem apply_nop {s : Sta} {m : Cmd} (h1 : mayS s = true) (h2 : mayM m = true) (h : m.kind = 0) : applyS s m = (s, noA) := by unfold applyS; rw [if_neg (by simp [h1, h2]), if_pos h]
theorem apply_err {s : Sta} {m : Cmd} {A : Ans} {is : Bool} {er : Int} (h1 : mayS s = true) (h2 : mayM m = true) (h : ¬ m.kind = 0) (hL : lookW (winOf s m.user) m.seq = (A, is, er)) (he : ¬ er = 0) : applyS s m = (s, ⟨er, 0, ⟨#[]⟩⟩) := by unfold applyS; rw [if_neg (by simp [h1, h2]), if_neg h, hL, if_pos he]
theorem apply_is {s : Sta} {m : Cmd} {A : Ans} {is : Bool} (h1 : mayS s = true) (h2 : mayM m = true) (h : ¬ m.kind = 0) (hL : lookW (winOf s m.user) m.seq = (A, is, 0)) (he : is = true) : applyS s m = (s, A) := by unfold applyS; rw [if_neg (by simp [h1, h2]), if_neg h, hL, if_neg (by simp), if_pos he]
theorem apply_do {s : Sta} {m : Cmd} {A : Ans} (h1 : mayS s = true) (h2 : mayM m = true) (h : ¬ m.kind = 0) (hL : lookW (winOf s m.user) m.seq = (A, false, 0)) : applyS s m = (withP (doesS s m).1 m.user (putW (winOf s m.user) m.seq (doesS s m).2).1, (doesS s m).2) := by unfold applyS; rw [if_neg (by simp [h1, h2]), if_neg h, hL, if_neg (by simp), if_neg (by simp)]
theorem win_some {s : Sta} {u : Int} {p : Pers} (h : s.persons.find? (fun p => decide (kV p = u)) = some p) : winOf s u = p.w := by unfold winOf; rw [h]
theorem win_none {s : Sta} {u : Int} (h : s.persons.find? (fun p => decide (kV p = u)) = none) : winOf s u = noW := by unfold winOf; rw [h]
theorem win_fit {s : Sta} {n : Nat} (u : Int) (h : FitS n s) : (winOf s u).l.length ≤ n := by
 unfold winOf
 split
 ·rename_i p hp; exact h.2.2.2 p (List.mem_of_find?_eq_some hp)
 ·exact Nat.zero_le _
theorem ris_up {α : Type} {k : α → Int} : ∀ {l : List α} {p : Option Int}, risF p (l.map k) = true → Up k l ∧ ∀ q, p = some q → ∀ x ∈ l, q < k x
 | [], _, _ => ⟨List.Pairwise.nil, by simp⟩
 | x :: r, p, h => by
  simp only [List.map_cons, risF, Bool.and_eq_true] at h
  obtain ⟨h1, h2⟩ := ris_up (l := r) h.2
  refine ⟨List.pairwise_cons.2 ⟨fun y hy => h2 _ rfl y hy, h1⟩, fun q hq y hy => ?_⟩
  subst hq
  have h3 : q < k x := by simpa using h.1
  rcases List.mem_cons.1 hy with rfl | hy
  ·exact h3
  ·have := h2 _ rfl y hy; omega
theorem mayS_up {s : Sta} (h : mayS s = true) : Up kR s.rooms ∧ Up kV s.persons := by
 simp only [mayS, Bool.and_eq_true] at h
 exact ⟨(ris_up h.2.2.1).1, (ris_up h.2.2.2).1⟩
theorem chanS_p (s : Sta) (r : Room) (q : Chan × Int) : (chanS s r q).persons = s.persons := by unfold chanS keepS; split <;> rfl
theorem saidS_p (s : Sta) (r : Room) (q : List Post × Int) : (saidS s r q).persons = s.persons := by unfold saidS keepS; split <;> rfl
theorem doQ_p (s : Sta) (m : Cmd) (r : Room) : (doQ s m r).1.persons = s.persons := by
 unfold doQ
 repeat' split
 all_goals first | exact chanS_p _ _ _ | exact saidS_p _ _ _ | rfl
theorem does_p (s : Sta) (m : Cmd) : (doesS s m).1.persons = s.persons := by
 unfold doesS
 repeat' split
 all_goals first | rfl | exact doQ_p _ _ _
theorem mayM_kind {m : Cmd} (h : mayM m = true) (h0 : ¬ m.kind = 0) : (1 ≤ m.kind ∧ m.kind ≤ 7) ∧ m.text.size ≤ 64 := by
 have hk : 0 ≤ m.kind ∧ m.kind ≤ 7 := by
  simp only [mayM, Bool.and_eq_true] at h; exact btw_true h.1
 have h7 : 1 ≤ m.kind ∧ m.kind ≤ 7 := by omega
 rw [mayM_in h7.1 h7.2] at h
 simp only [Bool.and_eq_true] at h
 have := h.2.2.2.2
 unfold fits at this
 split at this
 ·have := btw_true this; exact ⟨h7, by omega⟩
 ·simp at this; exact ⟨h7, by rw [this]; exact Nat.zero_le _⟩
theorem c17 : chkFn Tryz.prog 17 91 2 a17 a17R = true := by kernel_rfl
theorem d17 (s : Sta) (m : Cmd) {n : Nat} (hn : n < 900000) (h : FitS n s) : DoesT 17 [.agg (eS s), .agg (eM m)] (.tup [.agg (eS (applyS s m).1), .agg (eA (applyS s m).2)]) := by
 have hn' : n < 1000000 := by omega
 obtain ⟨A0, hA0⟩ : ∃ A, mayS s = A := ⟨_, rfl⟩
 obtain ⟨B0, hB0⟩ : ∃ B, mayM m = B := ⟨_, rfl⟩
 have h15 := d15 s hn' h
 rw [hA0] at h15
 have h21 := d21 m
 rw [hB0] at h21
 refine Does.of (nt := 91) (ac := a17) (rds := a17R) c17 (fun c hc => ?_)
 unfold a17
 apply J.seq
 refine J.regE (by simp [eS, eM, eW, eA]; rfl) ?_
 simp
 apply J.seq
 apply J.reg
 refine runL_step rfl (by simp [eS, eM, eW, eA]; rfl) ?_
 refine runL_tree rfl (d41 s hn' h) (by simp) hc ?_
 simp
 refine runL_step rfl (by simp [eS, eM, eW, eA]; rfl) ?_
 simp [runL]
 apply J.seq
 apply J.block
 apply J.seq
 apply J.reg
 refine runL_step rfl (by simp [eS, eM, eW, eA]; rfl) ?_
 refine runL_tree rfl (h15) (by simp) hc ?_
 simp
 iterate 2 refine runL_step rfl (by simp [eS, eM, eW, eA]; rfl) ?_
 refine runL_if rfl (fun g19 => ?_) (fun g19 => ?_)
 ·
  try simp only [g19]
  try simp at g19
  refine runL_step rfl (by simp [eS, eM, eW, eA]; rfl) ?_
  refine runL_do (by simp) ?_
  refine runL_tree rfl (h21) (by simp) hc ?_
  simp
  iterate 3 refine runL_step rfl (by simp [eS, eM, eW, eA]; rfl) ?_
  simp [runL]
  refine J.condB rfl (fun h15b => ?_) (fun h15b => ?_)
  ·
   obtain rfl : B0 = false := by simpa using h15b
   apply J.seq
   refine J.regE (by simp [eS, eM, eW, eA]; rfl) ?_
   simp
   apply J.ret
   refine ⟨by simp, rfl, _, [], by simp [a17R]; rfl, ?_⟩
   rw [apply_may (.inr hB0)]; simp [eS, eA]
  ·
   obtain rfl : B0 = true := by simpa using h15b
   subst g19
   obtain ⟨huR, huV⟩ := mayS_up hA0
   have h42 := d42 s.persons m.user (h.l2 hn')
   obtain ⟨hf1, hf2⟩ := find_up kV huV m.user
   obtain ⟨B, hB⟩ : ∃ B, bsKF kV m.user s.persons = B := ⟨_, rfl⟩
   rw [hB] at h42 hf1 hf2
   apply J.seq
   refine J.regE (by simp [eS, eM, eW, eA]; rfl) ?_
   simp
   refine J.condB rfl (fun h26 => ?_) (fun h26 => ?_)
   ·
    simp at h26
    apply J.seq
    refine J.regE (by simp [eS, eM, eW, eA]; rfl) ?_
    simp
    apply J.ret
    refine ⟨by simp, rfl, _, [], by simp [a17R]; rfl, ?_⟩
    rw [apply_nop hA0 hB0 h26]; simp [eS, eA, noA]
   ·
    simp at h26
    obtain ⟨h7, htx⟩ := mayM_kind hB0 h26
    apply J.skip; simp
    apply J.seq
    refine J.regE (by simp [eS, eM, eW, eA]; rfl) ?_
    simp
    refine J.nz hc ?_
    simp
    apply J.seq
    apply J.seq
    apply J.reg
    iterate 4 refine runL_step rfl (by simp [eS, eM, eW, eA]; rfl) ?_
    refine runL_tree rfl (h42) (by simp) hc ?_
    simp
    iterate 5 refine runL_step rfl (by simp [eS, eM, eW, eA]; rfl) ?_
    simp [runL]
    apply J.seq
    refine J.regE (by simp [eS, eM, eW, eA]; rfl) ?_
    simp
    refine J.condB rfl (fun h40 => ?_) (fun h40 => ?_)
    ·
     subst h40
     obtain ⟨p', hp', hkp, hfp⟩ := hf1 rfl
     obtain ⟨p, hx, hgx, hg, hge, hdr, hw, hlt2, hset, hxm⟩ := getV (bsKF_lt kV hB) (h.l2 hn')
     obtain rfl : p = p' := by rw [hx] at hp'; injection hp'
     simp only [eV] at hg hge
     have hW := win_some hfp
     obtain ⟨L, hL⟩ : ∃ L, lookW (winOf s m.user) m.seq = L := ⟨_, rfl⟩
     obtain ⟨A, is, er⟩ := L
     have hwl : (p.w).l.length < 1000000 := by have := win_fit m.user h; rw [hW] at this; omega
     have h43 := d43 (p.w) m.seq hwl
     have hLw := hL
     rw [hW] at hLw
     rw [hLw] at h43
     simp only at h43
     refine J.regE (by simp [eS, eM, eW, eA, hlt2, hg, hge]; rfl) ?_
     simp
     apply J.seq
     apply J.reg
     iterate 4 refine runL_step rfl (by simp [eS, eM, eW, eA]; rfl) ?_
     refine runL_tree rfl (h43) (by simp) hc ?_
     simp
     iterate 8 refine runL_step rfl (by simp [eS, eM, eW, eA]; rfl) ?_
     simp [runL]
     apply J.seq
     apply J.block
     apply J.seq
     refine J.regE (by simp [eS, eM, eW, eA]; rfl) ?_
     simp
     refine J.condB rfl (fun h55 => ?_) (fun h55 => ?_)
     ·
      simp at h55
      apply J.seq
      refine J.regE (by simp [eS, eM, eW, eA]; rfl) ?_
      simp
      apply J.ret
      refine ⟨by simp, rfl, _, [], by simp [a17R]; rfl, ?_⟩
      rw [apply_err hA0 hB0 h26 hL h55]; simp [eS, eA]
     ·
      simp at h55
      subst h55
      apply J.seq
      refine J.regE (by simp [eS, eM, eW, eA]; rfl) ?_
      simp
      refine J.condB rfl (fun h61 => ?_) (fun h61 => ?_)
      ·
       apply J.seq
       apply J.draw; intro c' hc'
       iterate 2 refine runP_stepQ (by simp [eS, eM, eW, eA]; rfl) ?_
       refine runP_one rfl (by simp) (by simp [eS, eM, eW, eA]; rfl) ?_
       refine runP_one rfl (by simp) (by simp [eS, eM, eW, eA]; rfl) ?_
       simp [runP]
       apply J.ret
       refine ⟨by simp, rfl, _, [], by simp [a17R]; rfl, ?_⟩
       rw [apply_is hA0 hB0 h26 hL h61]; simp [eS, eA]
      ·
       subst h61
       have h45 := d45 (p.w) m.seq (doesS s m).2 hwl
       have h46 := d46 (doesS s m).1.persons ⟨m.user, (putW (p.w) m.seq (doesS s m).2).1⟩ (by rw [does_p]; have := h.2.1; omega) (by rw [does_p]; exact huV)
       apply J.skip; simp
       apply J.seq
       apply J.reg
       iterate 2 refine runL_step rfl (by simp [eS, eM, eW, eA]; rfl) ?_
       refine runL_tree rfl (d44 s m huR hn h (by omega) h7) (by simp) hc ?_
       simp
       iterate 6 refine runL_step rfl (by simp [eS, eM, eW, eA]; rfl) ?_
       simp [runL]
       apply J.seq
       refine J.regE (by simp [eS, eM, eW, eA]; rfl) ?_
       simp
       apply J.seq
       apply J.reg
       iterate 5 refine runL_step rfl (by simp [eS, eM, eW, eA]; rfl) ?_
       refine runL_tree rfl (h45) (by simp) hc ?_
       simp
       iterate 5 refine runL_step rfl (by simp [eS, eM, eW, eA]; rfl) ?_
       simp [runL]
       apply J.seq
       apply J.reg
       iterate 3 refine runL_step rfl (by simp [eS, eM, eW, eA]; rfl) ?_
       refine runL_tree rfl (h46) (by simp) hc ?_
       simp
       iterate 2 refine runL_step rfl (by simp [eS, eM, eW, eA]; rfl) ?_
       simp [runL]
       apply J.seq
       apply J.draw; intro c' hc'
       iterate 2 refine runP_stepQ (by simp [eS, eM, eW, eA]; rfl) ?_
       refine runP_one rfl (by simp) (by simp [eS, eM, eW, eA]; rfl) ?_
       refine runP_one rfl (by simp) (by simp [eS, eM, eW, eA]; rfl) ?_
       simp [runP]
       apply J.ret
       refine ⟨by simp, rfl, _, [], by simp [a17R]; rfl, ?_⟩
       rw [apply_do hA0 hB0 h26 hL, hW]; simp [eS, eA, withP]
    ·
     subst h40
     have hfp := hf2 rfl
     have hW := win_none hfp
     obtain ⟨L, hL⟩ : ∃ L, lookW (winOf s m.user) m.seq = L := ⟨_, rfl⟩
     obtain ⟨A, is, er⟩ := L
     have hwl : (noW).l.length < 1000000 := by have := win_fit m.user h; rw [hW] at this; omega
     have h43 := d43 (noW) m.seq hwl
     have hLw := hL
     rw [hW] at hLw
     rw [hLw] at h43
     simp only at h43
     apply J.skip; simp
     apply J.seq
     apply J.reg
     iterate 4 refine runL_step rfl (by simp [eS, eM, eW, eA]; rfl) ?_
     refine runL_tree rfl (h43) (by simp) hc ?_
     simp
     iterate 8 refine runL_step rfl (by simp [eS, eM, eW, eA]; rfl) ?_
     simp [runL]
     apply J.seq
     apply J.block
     apply J.seq
     refine J.regE (by simp [eS, eM, eW, eA]; rfl) ?_
     simp
     refine J.condB rfl (fun h55 => ?_) (fun h55 => ?_)
     ·
      simp at h55
      apply J.seq
      refine J.regE (by simp [eS, eM, eW, eA]; rfl) ?_
      simp
      apply J.ret
      refine ⟨by simp, rfl, _, [], by simp [a17R]; rfl, ?_⟩
      rw [apply_err hA0 hB0 h26 hL h55]; simp [eS, eA]
     ·
      simp at h55
      subst h55
      apply J.seq
      refine J.regE (by simp [eS, eM, eW, eA]; rfl) ?_
      simp
      refine J.condB rfl (fun h61 => ?_) (fun h61 => ?_)
      ·
       apply J.seq
       apply J.draw; intro c' hc'
       iterate 2 refine runP_stepQ (by simp [eS, eM, eW, eA]; rfl) ?_
       refine runP_one rfl (by simp) (by simp [eS, eM, eW, eA]; rfl) ?_
       refine runP_one rfl (by simp) (by simp [eS, eM, eW, eA]; rfl) ?_
       simp [runP]
       apply J.ret
       refine ⟨by simp, rfl, _, [], by simp [a17R]; rfl, ?_⟩
       rw [apply_is hA0 hB0 h26 hL h61]; simp [eS, eA]
      ·
       subst h61
       have h45 := d45 (noW) m.seq (doesS s m).2 hwl
       have h46 := d46 (doesS s m).1.persons ⟨m.user, (putW (noW) m.seq (doesS s m).2).1⟩ (by rw [does_p]; have := h.2.1; omega) (by rw [does_p]; exact huV)
       apply J.skip; simp
       apply J.seq
       apply J.reg
       iterate 2 refine runL_step rfl (by simp [eS, eM, eW, eA]; rfl) ?_
       refine runL_tree rfl (d44 s m huR hn h (by omega) h7) (by simp) hc ?_
       simp
       iterate 6 refine runL_step rfl (by simp [eS, eM, eW, eA]; rfl) ?_
       simp [runL]
       apply J.seq
       refine J.regE (by simp [eS, eM, eW, eA]; rfl) ?_
       simp
       apply J.seq
       apply J.reg
       iterate 5 refine runL_step rfl (by simp [eS, eM, eW, eA]; rfl) ?_
       refine runL_tree rfl (h45) (by simp) hc ?_
       simp
       iterate 5 refine runL_step rfl (by simp [eS, eM, eW, eA]; rfl) ?_
       simp [runL]
       apply J.seq
       apply J.reg
       iterate 3 refine runL_step rfl (by simp [eS, eM, eW, eA]; rfl) ?_
       refine runL_tree rfl (h46) (by simp) hc ?_
       simp
       iterate 2 refine runL_step rfl (by simp [eS, eM, eW, eA]; rfl) ?_
       simp [runL]
       apply J.seq
       apply J.draw; intro c' hc'
       iterate 2 refine runP_stepQ (by simp [eS, eM, eW, eA]; rfl) ?_
       refine runP_one rfl (by simp) (by simp [eS, eM, eW, eA]; rfl) ?_
       refine runP_one rfl (by simp) (by simp [eS, eM, eW, eA]; rfl) ?_
       simp [runP]
       apply J.ret
       refine ⟨by simp, rfl, _, [], by simp [a17R]; rfl, ?_⟩
       rw [apply_do hA0 hB0 h26 hL, hW]; simp [eS, eA, withP]
 ·
  try simp only [g19]
  try simp at g19
  refine runL_pass (b := _) rfl (by simp) ?_
  simp
  iterate 3 refine runL_step rfl (by simp [eS, eM, eW, eA]; rfl) ?_
  simp [runL]
  apply J.cond; simp [eS, eM, eW, eA]
  apply J.seq
  refine J.regE (by simp [eS, eM, eW, eA]; rfl) ?_
  simp
  apply J.ret
  refine ⟨by simp, rfl, _, [], by simp [a17R]; rfl, ?_⟩
  rw [apply_may (.inl (by rw [hA0, g19]))]; simp [eS, eA]
theorem putK_all {α : Type} {k : α → Int} {P : α → Prop} {y : α} {l : List α} (hy : P y) (h : ∀ x ∈ l, P x) : ∀ x ∈ putK k y l, P x := fun x hx => by
 rcases putK_mem k hx with rfl | hx
 ·exact hy
 ·exact h x hx
theorem fit_mono {n n' : Nat} (hle : n ≤ n') {s : Sta} (h : FitS n s) : FitS n' s := ⟨by have := h.1; omega, by have := h.2.1; omega, fun r hr => ⟨by have := (h.2.2.1 r hr).1; omega, (h.2.2.1 r hr).2⟩, fun p hp => by have := h.2.2.2 p hp; omega⟩
theorem keep_fit {n : Nat} {s : Sta} {r : Room} {e : Int} (h : FitS n s) (hr : FitR (n + 1) r) : FitS (n + 1) (keepS s r e) := by
 unfold keepS
 split
 ·refine ⟨?_, ?_, putK_all hr (fun x hx => ⟨?_, (h.2.2.1 x hx).2⟩), fun p hp => ?_⟩
  ·have := putK_len kR (y := r) (l := s.rooms); have := h.1; simp; omega
  ·have := h.2.1; simp; omega
  ·have := (h.2.2.1 x hx).1; omega
  ·have := h.2.2.2 p hp; omega
 ·exact fit_mono (by omega) h
theorem openC_len (a b : Int) : (openC a b).1.mem.length ≤ 1 := by unfold openC; split <;> simp [noC]
theorem joinC_len (x : Chan) (u : Int) : (joinC x u).1.mem.length ≤ x.mem.length + 1 := by
 unfold joinC
 repeat' split
 all_goals first | (simp [noC]; done) | exact putK_len idI
theorem leaveC_len (x : Chan) (u : Int) : (leaveC x u).1.mem.length ≤ x.mem.length + 1 := by
 unfold leaveC
 repeat' split
 all_goals first | (simp [noC]; done) | (simp only [delI]; exact Nat.le_succ_of_le (List.length_filter_le _ _))
theorem doQ_fit {n : Nat} {s : Sta} {m : Cmd} {r : Room} (h : FitS n s) (hr : FitR n r) (ht : m.text.size ≤ 100000) : FitS (n + 1) (doQ s m r).1 := by
 have h1 := hr.1
 unfold doQ
 repeat' split
 all_goals first
  | exact keep_fit h ⟨by have := openC_len m.ch m.user; simp; omega, hr.2⟩
  | exact keep_fit h ⟨by have := joinC_len r.c m.user; simp; omega, hr.2⟩
  | exact keep_fit h ⟨by have := leaveC_len r.c m.user; simp; omega, hr.2⟩
  | exact keep_fit (r := { r with posts := _ }) h ⟨by simp; omega, addP_fit hr.2 ht⟩
  | exact keep_fit (r := { r with posts := _ }) h ⟨by simp; omega, editP_fit hr.2 ht⟩
  | exact keep_fit (r := { r with posts := _ }) h ⟨by simp; omega, delP_fit hr.2⟩
  | exact fit_mono (by omega) h
theorem does_fit {n : Nat} {s : Sta} {m : Cmd} (h : FitS n s) (ht : m.text.size ≤ 100000) : FitS (n + 1) (doesS s m).1 := by
 unfold doesS
 split
 ·rename_i r hr
  repeat' split
  ·exact fit_mono (by omega) h
  ·exact fit_mono (by omega) h
  ·exact doQ_fit h (h.2.2.1 r (List.mem_of_find?_eq_some hr)) ht
 ·split
  ·exact doQ_fit h ⟨by simp [noR, noC], fit_nil⟩ ht
  ·exact fit_mono (by omega) h
theorem putW_len {w : Win} {q : Int} {a : Ans} : (putW w q a).1.l.length ≤ 8 := by
 obtain ⟨L, hL⟩ : ∃ L, lookW w q = L := ⟨_, rfl⟩
 obtain ⟨A, is, er⟩ := L
 rw [putW_eq hL]
 split
 ·exact Nat.zero_le _
 ·split
  ·exact Nat.zero_le _
  ·rename_i h1 h2
   have h1 : er = 0 := by simpa using h1
   have h2 : is = false := by simpa using h2
   subst h1; subst h2
   obtain ⟨_, _, h8⟩ := look_ok hL
   have := putK_len kT (y := ⟨q, a⟩) (l := w.l)
   unfold cutW
   split
   ·simp; omega
   ·simp; omega
theorem apply_fit {n : Nat} {s : Sta} {m : Cmd} (h : FitS n s) (h8 : 8 ≤ n) : FitS (n + 1) (applyS s m).1 := by
 unfold applyS
 repeat' split
 ·exact fit_mono (by omega) h
 ·exact fit_mono (by omega) h
 ·exact fit_mono (by omega) h
 ·exact fit_mono (by omega) h
 ·rename_i h1 h2 h3 h4
  have hm : mayM m = true := by
   cases e : mayM m
   ·exact absurd (.inr e) h1
   ·rfl
  have hd := does_fit (m := m) h (by have := (mayM_kind hm h2).2; omega)
  refine ⟨hd.1, ?_, hd.2.2.1, putK_all ?_ hd.2.2.2⟩
  ·have := putK_len kV (y := ⟨m.user, (putW (winOf s m.user) m.seq (doesS s m).2).1⟩) (l := (doesS s m).1.persons)
   rw [does_p] at this
   have := h.2.1
   simp [withP, does_p]; omega
  ·have := putW_len (w := winOf s m.user) (q := m.seq) (a := (doesS s m).2)
   simp; omega
def eAs (l : List Ans) : List (List AV) := l.map eA
def eMs (l : List Cmd) : List (List AV) := l.map eM
def runS : Sta → List Cmd → Sta × List Ans
 | s, [] => (s, [])
 | s, m :: r => ((runS (applyS s m).1 r).1, (applyS s m).2 :: (runS (applyS s m).1 r).2)
theorem eMs_len (l : List Cmd) : (eMs l).length = l.length := by simp [eMs]
theorem eAs_len (l : List Ans) : (eAs l).length = l.length := by simp [eAs]
attribute [simp] eMs_len eAs_len
theorem eAs_snoc (o : List Ans) (a : Ans) : eAs (o ++ [a]) = eAs o ++ [[iv a.e, iv a.n, sv a.text]] := by simp [eAs, eA]
theorem eAs_take (l : List Ans) : (eAs l).take l.length = eAs l := List.take_of_length_le (by simp)
theorem getMm {l : List Cmd} {i : Nat} (h : i < l.length) (hf : l.length < 1000000) : ∃ x, l[i]? = some x ∧ (∀ h, l[i]'h = x) ∧ (eMs l)[i]? = some (eM x) ∧ (∀ h, (eMs l)[i]'h = eM x) ∧ l.drop i = x :: l.drop (i + 1) ∧ IntKind.i64.wrap ((i : Int) + 1) = (i : Int) + 1 ∧ (i : Int) < (l.length : Int) ∧ (eMs l).set i (eM x) = eMs l ∧ x ∈ l := getM eM h hf
theorem run_fit {n : Nat} : ∀ {l : List Cmd} {s : Sta}, FitS n s → 8 ≤ n → FitS (n + l.length) (runS s l).1
 | [], s, h, _ => h
 | m :: r, s, h, h8 => by
  have := run_fit (l := r) (apply_fit (m := m) h h8) (by omega)
  simp only [runS, List.length_cons]
  exact fit_mono (by omega) this
theorem run_len : ∀ (l : List Cmd) (s : Sta), (runS s l).2.length = l.length
 | [], _ => rfl
 | m :: r, s => by simp [runS, run_len r]
def I11 (s : Sta) (l : List Cmd) (n : Nat) (m : Nat) (st : St) : Prop := ∃ (i : Nat) (t : Sta) (o : List Ans), i ≤ l.length ∧ m = l.length - i ∧ FitS (n + i) t ∧ o.length = i ∧ runS s l = ((runS t (l.drop i)).1, o ++ (runS t (l.drop i)).2) ∧ st = ⟨[(2, .ptr 11002 0 0 0), (4, .ptr 11004 0 0 0), (6, .own 11025 3 0 o.length), (10, .ro 6 (eMs l)), (11, iv (l.length : Nat)), (12, iv (i : Nat))], [(11002, .obj 27 (eS t)), (11004, .obj 27 [.nils 4, .nils 3]), (11025, .arr 39 3 (eAs o))], []⟩
theorem c11 : chkFn Tryz.prog 11 29 2 a11 a11R = true := by kernel_rfl
theorem d11 (s : Sta) (l : List Cmd) {n : Nat} (hn : n + l.length < 900000) (h8 : 8 ≤ n) (h : FitS n s) : DoesT 11 [.agg (eS s), .ro 6 (eMs l)] (.tup [.agg (eS (runS s l).1), .ro 3 (eAs (runS s l).2)]) := by
 refine Does.of (nt := 29) (ac := a11) (rds := a11R) c11 (fun c hc => ?_)
 unfold a11
 apply J.seq
 refine J.regE (by simp [eS]; rfl) ?_
 simp
 apply J.seq
 refine J.regE (by simp [eS]; rfl) ?_
 simp
 refine J.nilrow hc 6 11025 39 rfl rfl rfl ?_
 simp
 apply J.seq
 apply J.seq
 refine J.regE (by simp [eS]; rfl) ?_
 simp
 apply J.block
 refine J.loop hc (I11 s l n) ?_ ?_
 ·exact ⟨_, _, St.le_refl _, 0, s, [], by omega, rfl, h, rfl, by simp, by simp [eS, eAs]⟩
 rintro n st ⟨i, t, o, hi, rfl, hft, ho, hR, rfl⟩
 apply J.seq
 refine J.regE (by simp [eS]; rfl) ?_
 simp
 apply J.seq
 apply J.cond; simp [eS]
 refine ⟨fun hlt => ?_, fun hlt => ?_⟩
 ·
  obtain ⟨x, hx, hgx, hg, hge, hdr, hw, hlt2, hset, hxm⟩ := getMm (show i < l.length by omega) (by omega)
  simp only [eM] at hg hge
  rw [hdr] at hR
  have h17 := d17 t x (by omega) hft
  have hft2 := apply_fit (m := x) hft (by omega)
  generalize hQ : applyS t x = q at h17 hft2
  obtain ⟨t2, a2⟩ := q
  have hR2 : runS s l = ((runS t2 (l.drop (i + 1))).1, (o ++ [a2]) ++ (runS t2 (l.drop (i + 1))).2) := by rw [hR]; simp [runS, hQ]
  simp only at h17 hft2
  apply J.skip; simp
  apply J.seq
  apply J.block
  apply J.seq
  refine J.regE (by simp [eS, hlt2, hg, hge, hlt, eM]; rfl) ?_
  simp
  apply J.seq
  refine J.regE (by simp [eS]; rfl) ?_
  simp
  apply J.seq
  apply J.reg
  iterate 2 refine runL_step rfl (by simp [eS, eM, eA]; rfl) ?_
  refine runL_tree rfl (h17) (by simp) hc ?_
  simp
  iterate 5 refine runL_step rfl (by simp [eS, eM, eA]; rfl) ?_
  simp [runL]
  refine J.regE (by simp [eS, eA, show (o.length + 1) * 32 ≤ 140737488355328 from by omega, eAs_take]; rfl) ?_
  simp
  refine J.regE (by simp [eS, hw]; rfl) ?_
  simp
  refine ⟨_, by omega, _, ?_, i + 1, t2, o ++ [a2], by omega, rfl, hft2, by simp; omega, hR2, rfl⟩
  apply le_sub <;> simp [eS, eAs_snoc, eAs_take, ho]
 ·
  have hie : i = l.length := by omega
  subst hie
  rw [List.drop_length] at hR
  apply J.exit; simp
  apply J.seq
  refine J.regE (by simp [eS]; rfl) ?_
  simp
  refine J.freeze hc 11025 rfl ?_
  simp
  apply J.ret
  refine ⟨by simp, rfl, _, [], by simp [a11R]; rfl, ?_⟩
  rw [hR]; simp [runS, eAs_take, eS]
theorem c11o : chkFn Tryz.prog 11 29 2 a11 a11R = true := by kernel_rfl
theorem d11o (s : Sta) (l : List Cmd) {n : Nat} (hn : n + l.length < 900000) (h8 : 8 ≤ n) (h : FitS n s) : Does Tryz.prog 11 [.agg (eS s), .ro 6 (eMs l)] [] [] (fun r m => r = .tup [.agg (eS (runS s l).1), .own 11025 3 0 (runS s l).2.length] ∧ m = [(11025, .arr 39 3 (eAs (runS s l).2))]) := by
 refine Does.of (nt := 29) (ac := a11) (rds := a11R) c11o (fun c hc => ?_)
 unfold a11
 apply J.seq
 refine J.regE (by simp [eS]; rfl) ?_
 simp
 apply J.seq
 refine J.regE (by simp [eS]; rfl) ?_
 simp
 refine J.nilrow hc 6 11025 39 rfl rfl rfl ?_
 simp
 apply J.seq
 apply J.seq
 refine J.regE (by simp [eS]; rfl) ?_
 simp
 apply J.block
 refine J.loop hc (I11 s l n) ?_ ?_
 ·exact ⟨_, _, St.le_refl _, 0, s, [], by omega, rfl, h, rfl, by simp, by simp [eS, eAs]⟩
 rintro n st ⟨i, t, o, hi, rfl, hft, ho, hR, rfl⟩
 apply J.seq
 refine J.regE (by simp [eS]; rfl) ?_
 simp
 apply J.seq
 apply J.cond; simp [eS]
 refine ⟨fun hlt => ?_, fun hlt => ?_⟩
 ·
  obtain ⟨x, hx, hgx, hg, hge, hdr, hw, hlt2, hset, hxm⟩ := getMm (show i < l.length by omega) (by omega)
  simp only [eM] at hg hge
  rw [hdr] at hR
  have h17 := d17 t x (by omega) hft
  have hft2 := apply_fit (m := x) hft (by omega)
  generalize hQ : applyS t x = q at h17 hft2
  obtain ⟨t2, a2⟩ := q
  have hR2 : runS s l = ((runS t2 (l.drop (i + 1))).1, (o ++ [a2]) ++ (runS t2 (l.drop (i + 1))).2) := by rw [hR]; simp [runS, hQ]
  simp only at h17 hft2
  apply J.skip; simp
  apply J.seq
  apply J.block
  apply J.seq
  refine J.regE (by simp [eS, hlt2, hg, hge, hlt, eM]; rfl) ?_
  simp
  apply J.seq
  refine J.regE (by simp [eS]; rfl) ?_
  simp
  apply J.seq
  apply J.reg
  iterate 2 refine runL_step rfl (by simp [eS, eM, eA]; rfl) ?_
  refine runL_tree rfl (h17) (by simp) hc ?_
  simp
  iterate 5 refine runL_step rfl (by simp [eS, eM, eA]; rfl) ?_
  simp [runL]
  refine J.regE (by simp [eS, eA, show (o.length + 1) * 32 ≤ 140737488355328 from by omega, eAs_take]; rfl) ?_
  simp
  refine J.regE (by simp [eS, hw]; rfl) ?_
  simp
  refine ⟨_, by omega, _, ?_, i + 1, t2, o ++ [a2], by omega, rfl, hft2, by simp; omega, hR2, rfl⟩
  apply le_sub <;> simp [eS, eAs_snoc, eAs_take, ho]
 ·
  have hie : i = l.length := by omega
  subst hie
  rw [List.drop_length] at hR
  apply J.exit; simp
  apply J.seq
  refine J.regE (by simp [eS]; rfl) ?_
  simp
  apply J.ret
  refine ⟨by simp, rfl, _, [(11025, .arr 39 3 (eAs (runS s l).2))], by simp [a11R]; rfl, ?_⟩
  rw [hR]; simp [runS, eAs_take, eS]
def ixR (ch : Int) : List Room → Int → Int
 | [], _ => -1
 | r :: l, i => if r.c.id = ch then i else ixR ch l (i + 1)
theorem ixR_none {ch : Int} : ∀ {l : List Room} {i : Int}, l.find? (fun r => decide (kR r = ch)) = none → ixR ch l i = -1
 | [], _, _ => rfl
 | r :: l, i, h => by
  by_cases e : r.c.id = ch
  ·simp [List.find?, kR, e] at h
  ·simp only [ixR]; rw [if_neg e]
   refine ixR_none ?_
   simpa [List.find?, kR, e] using h
theorem ixR_some {ch : Int} {x : Room} : ∀ {l : List Room} {i : Nat}, l.find? (fun r => decide (kR r = ch)) = some x → ∃ j : Nat, ixR ch l i = ((i + j : Nat) : Int) ∧ l[j]? = some x
 | [], _, h => by simp at h
 | r :: l, i, h => by
  by_cases e : r.c.id = ch
  ·refine ⟨0, ?_, ?_⟩
   ·simp only [ixR]; rw [if_pos e]; rfl
   ·simp [List.find?, kR, e] at h; simp [h]
  ·have h' : l.find? (fun r => decide (kR r = ch)) = some x := by simpa [List.find?, kR, e] using h
   obtain ⟨j, h1, h2⟩ := ixR_some (i := i + 1) h'
   refine ⟨j + 1, ?_, by simpa using h2⟩
   simp only [ixR]; rw [if_neg e]
   have : ((i : Int) + 1) = ((i + 1 : Nat) : Int) := by omega
   rw [this, h1]; congr 1; omega
def I95 (s : Sta) (ch : Int) (m : Nat) (st : St) : Prop := ∃ i : Nat, i ≤ s.rooms.length ∧ m = s.rooms.length - i ∧ ixR ch s.rooms 0 = ixR ch (s.rooms.drop i) i ∧ st = ⟨[(1, iv ch), (2, .ptr 95002 0 0 0), (5, iv (i : Nat))], [(95002, .obj 27 (eS s))], []⟩
theorem putK_gt {α : Type} {k : α → Int} {y x : α} {r : List α} (h : k y < k x) : putK k y (x :: r) = y :: x :: r := by simp [putK, h]
theorem putK_same {α : Type} {k : α → Int} {y x : α} {r : List α} (h : k y = k x) : putK k y (x :: r) = y :: r := by simp [putK, h]
theorem putK_lt {α : Type} {k : α → Int} {y x : α} {r : List α} (h : k x < k y) : putK k y (x :: r) = x :: putK k y r := by simp [putK, show ¬ k y < k x by omega, show ¬ k x = k y by omega, show ¬ k y = k x by omega]
theorem up_drop {α : Type} {k : α → Int} {l : List α} {i : Nat} {y : α} (h : Up k l) (hd : l.drop i = y :: l.drop (i + 1)) : ∀ z ∈ l.drop (i + 1), k y < k z := by
 have : Up k (l.drop i) := h.sublist (List.drop_sublist _ _)
 rw [hd] at this
 exact (List.pairwise_cons.1 this).1
theorem eRs_app (a b : List Room) : eRs (a ++ b) = eRs a ++ eRs b := by simp [eRs]
theorem eRs_one (x : Room) : eRs [x] = [eR x] := rfl
theorem eRs_cons (x : Room) (r : List Room) : eRs (x :: r) = eR x :: eRs r := rfl
theorem eRs_nil : eRs [] = [] := rfl
theorem eRs_take1 (l : List Room) : (eRs l).take (l.length + 1) = eRs l := List.take_of_length_le (by simp)
theorem eVs_app (a b : List Pers) : eVs (a ++ b) = eVs a ++ eVs b := by simp [eVs]
theorem eVs_one (x : Pers) : eVs [x] = [eV x] := rfl
theorem eVs_cons (x : Pers) (r : List Pers) : eVs (x :: r) = eV x :: eVs r := rfl
theorem eVs_nil : eVs [] = [] := rfl
theorem eVs_take1 (l : List Pers) : (eVs l).take (l.length + 1) = eVs l := List.take_of_length_le (by simp)
def I131 (s : Sta) (x : Room) (m : Nat) (st : St) : Prop := ∃ (i : Nat) (o : List Room) (dn : Bool), i ≤ s.rooms.length ∧ m = s.rooms.length - i ∧ putK kR x s.rooms = o ++ (if dn = true then s.rooms.drop i else putK kR x (s.rooms.drop i)) ∧ (dn = true → ∀ y ∈ s.rooms.drop i, kR x < kR y) ∧ o.length ≤ i + dn.toNat ∧ st = ⟨[(2, .ptr 131002 0 0 0), (3, .ptr 131003 0 0 0), (4, .ptr 131004 0 0 0), (5, .own 131033 4 0 o.length), (6, bv dn), (7, iv (i : Nat))], [(131002, .obj 27 (eS s)), (131003, .obj 52 (eR x)), (131004, .obj 27 [.nils 4, .nils 3]), (131033, .arr 52 4 (eRs o))], []⟩
def I52 (s : Sta) (x : Pers) (m : Nat) (st : St) : Prop := ∃ (i : Nat) (o : List Pers) (dn : Bool), i ≤ s.persons.length ∧ m = s.persons.length - i ∧ putK kV x s.persons = o ++ (if dn = true then s.persons.drop i else putK kV x (s.persons.drop i)) ∧ (dn = true → ∀ y ∈ s.persons.drop i, kV x < kV y) ∧ o.length ≤ i + dn.toNat ∧ st = ⟨[(2, .ptr 52002 0 0 0), (3, .ptr 52003 0 0 0), (4, .ptr 52004 0 0 0), (5, .own 52031 3 0 o.length), (6, bv dn), (7, iv (i : Nat))], [(52002, .obj 27 (eS s)), (52003, .obj 62 (eV x)), (52004, .obj 27 [.nils 4, .nils 3]), (52031, .arr 62 3 (eVs o))], []⟩
theorem c48 : chkFn Tryz.prog 48 9 2 a48 a48R = true := by kernel_rfl
theorem d48 (s : Sta) (e : Int) : DoesT 48 [.agg (eS s), iv e] (.tup [.agg (eS s), .agg (eA ⟨e, 0, ⟨#[]⟩⟩)]) := by
 refine Does.of (nt := 9) (ac := a48) (rds := a48R) c48 (fun c hc => ?_)
 unfold a48
 apply J.seq
 refine J.regE (by simp [eS]; rfl) ?_
 simp
 apply J.seq
 refine J.regE (by simp [eS]; rfl) ?_
 simp
 apply J.ret
 refine ⟨by simp, rfl, _, [], by simp [a48R]; rfl, ?_⟩
 simp [eA, eS]
theorem c95 : chkFn Tryz.prog 95 23 2 a95 a95R = true := by kernel_rfl
theorem d95 (s : Sta) (ch : Int) (hl : s.rooms.length < 1000000) : DoesT 95 [.agg (eS s), iv ch] (iv (ixR ch s.rooms 0)) := by
 refine Does.of (nt := 23) (ac := a95) (rds := a95R) c95 (fun c hc => ?_)
 unfold a95
 apply J.seq
 refine J.regE (by simp [eS]; rfl) ?_
 simp
 apply J.seq
 apply J.seq
 refine J.regE (by simp [eS]; rfl) ?_
 simp
 apply J.block
 refine J.loop hc (I95 s ch) ?_ ?_
 ·exact ⟨_, _, St.le_refl _, 0, by omega, rfl, rfl, by simp [eS]⟩
 rintro n st ⟨i, hi, rfl, hI, rfl⟩
 apply J.seq
 apply J.seq
 refine J.regE (by simp [eS]; rfl) ?_
 simp
 apply J.cond; simp [eS]
 refine ⟨fun hlt => ?_, fun hlt => ?_⟩
 ·
  obtain ⟨y, hx, hgx, hg, hge, hdr, hw, hlt2, hset, hxm⟩ := getR (show i < s.rooms.length by omega) hl
  simp only [eR] at hg hge
  rw [hdr] at hI
  simp only [ixR] at hI
  apply J.skip; simp
  apply J.seq
  apply J.block
  apply J.seq
  apply J.reg
  iterate 9 refine runL_step rfl (by simp [eS, hlt2, hg, hge, hlt]; rfl) ?_
  simp [runL]
  refine J.condB rfl (fun h21 => ?_) (fun h21 => ?_)
  ·
   simp at h21
   rw [if_pos h21] at hI
   apply J.seq
   refine J.regE (by simp [eS]; rfl) ?_
   simp
   apply J.ret
   refine ⟨by simp, rfl, _, [], by simp [a95R]; rfl, ?_⟩
   rw [hI]; simp
  ·
   simp at h21
   rw [if_neg h21] at hI
   have hI2 : ixR ch s.rooms 0 = ixR ch (s.rooms.drop (i + 1)) ((i + 1 : Nat) : Int) := by rw [hI]; congr 1
   apply J.skip; simp
   refine J.regE (by simp [eS, hw]; rfl) ?_
   simp
   refine ⟨_, by omega, _, ?_, i + 1, by omega, rfl, hI2, rfl⟩
   apply le_sub <;> simp [eS]
 ·
  have hie : i = s.rooms.length := by omega
  subst hie
  rw [List.drop_length] at hI
  simp only [ixR] at hI
  apply J.exit; simp
  apply J.seq
  refine J.regE (by simp [eS]; rfl) ?_
  simp
  apply J.ret
  refine ⟨by simp, rfl, _, [], by simp [a95R]; rfl, ?_⟩
  rw [hI]; simp
theorem c131 : chkFn Tryz.prog 131 63 2 a131 a131R = true := by kernel_rfl
theorem d131 (s : Sta) (x : Room) (hu : Up kR s.rooms) (hl : s.rooms.length < 900000) : DoesT 131 [.agg (eS s), .agg (eR x)] (.agg (eS { s with rooms := putK kR x s.rooms })) := by
 refine Does.of (nt := 63) (ac := a131) (rds := a131R) c131 (fun c hc => ?_)
 unfold a131
 apply J.seq
 refine J.regE (by simp [eS, eR]; rfl) ?_
 simp
 apply J.seq
 refine J.regE (by simp [eS, eR]; rfl) ?_
 simp
 refine J.nilrow hc 5 131033 52 rfl rfl rfl ?_
 simp
 apply J.seq
 refine J.regE (by simp [eS, eR]; rfl) ?_
 simp
 apply J.seq
 apply J.seq
 refine J.regE (by simp [eS, eR]; rfl) ?_
 simp
 apply J.block
 refine J.loop hc (I131 s x) ?_ ?_
 ·exact ⟨_, _, St.le_refl _, 0, [], false, by omega, rfl, rfl, by simp, by simp, by simp [eS, eR, eRs]⟩
 rintro n st ⟨i, o, dn, hi, rfl, hI, hD, ho, rfl⟩
 apply J.seq
 apply J.seq
 refine J.regE (by simp [eS, eR]; rfl) ?_
 simp
 apply J.cond; simp [eS, eR]
 refine ⟨fun hlt => ?_, fun hlt => ?_⟩
 ·
  obtain ⟨y, hx, hgx, hg, hge, hdr, hw, hlt2, hset, hxm⟩ := getR (show i < s.rooms.length by omega) (by omega)
  simp only [eR] at hg hge
  have hup2 := up_drop hu hdr
  rw [hdr] at hI
  apply J.skip; simp
  apply J.seq
  apply J.block
  apply J.seq
  apply J.seq
  apply J.draw; intro c' hc'
  iterate 3 refine runP_stepQ (by simp [eS, eR, hlt2, hg, hge, hlt]; rfl) ?_
  refine runP_if rfl (fun g17 => ?_) (fun g17 => ?_)
  ·
   try simp only [g17]
   try simp at g17
   subst g17
   simp at ho
   iterate 12 refine runP_stepQ (by simp [eS, eR, hlt2, hg, hge, hlt]; rfl) ?_
   simp [runP]
   refine J.condB rfl (fun h29 => ?_) (fun h29 => ?_)
   ·
    simp at h29
    apply J.seq
    refine J.regE (by simp [eS, eR, show (o.length + 1) * 64 ≤ 140737488355328 from by omega, show (o.length + 1 + 1) * 64 ≤ 140737488355328 from by omega]; rfl) ?_
    simp
    refine J.regE (by simp [eS, eR]; rfl) ?_
    simp
    apply J.seq
    apply J.draw; intro c' hc'
    iterate 11 refine runP_stepQ (by simp [eS, eR, hlt2, hg, hge, hlt]; rfl) ?_
    simp [runP]
    refine J.condB rfl (fun h44 => ?_) (fun h44 => ?_)
    ·
     simp at h44
     have hI2 : putK kR x s.rooms = (o ++ [x] ++ [y]) ++ (if true = true then s.rooms.drop (i + 1) else putK kR x (s.rooms.drop (i + 1))) := by rw [hI, if_neg (by simp), putK_gt (by simp only [kR]; omega)]; simp
     apply J.reg
     iterate 9 refine runL_step rfl (by simp [eS, eR, hlt2, hg, hge, hlt, show (o.length + 1) * 64 ≤ 140737488355328 from by omega, show (o.length + 1 + 1) * 64 ≤ 140737488355328 from by omega]; rfl) ?_
     simp [runL]
     refine J.regE (by simp [eS, eR, hw]; rfl) ?_
     simp
     refine ⟨_, by omega, _, ?_, i + 1, o ++ [x] ++ [y], true, by omega, rfl, hI2, fun _ z hz => by have h1 : y.c.id < z.c.id := hup2 z hz; show x.c.id < z.c.id; omega, by simp; omega, rfl⟩
     apply le_sub <;> simp [eS, eRs_app, eRs_one, eRs_cons, eRs_nil, eRs_take, eRs_take1, List.take_append, eR]
    ·
     simp at h44
     have hI2 : putK kR x s.rooms = (o ++ [x]) ++ (if true = true then s.rooms.drop (i + 1) else putK kR x (s.rooms.drop (i + 1))) := by rw [hI, if_neg (by simp), putK_same (by simp only [kR]; omega)]; simp
     apply J.skip; simp
     refine J.regE (by simp [eS, eR, hw]; rfl) ?_
     simp
     refine ⟨_, by omega, _, ?_, i + 1, o ++ [x], true, by omega, rfl, hI2, fun _ z hz => by have h1 : y.c.id < z.c.id := hup2 z hz; show x.c.id < z.c.id; omega, by simp; omega, rfl⟩
     apply le_sub <;> simp [eS, eRs_app, eRs_one, eRs_cons, eRs_nil, eRs_take, eRs_take1, List.take_append, eR]
   ·
    simp at h29
    apply J.skip; simp
    apply J.seq
    apply J.draw; intro c' hc'
    iterate 11 refine runP_stepQ (by simp [eS, eR, hlt2, hg, hge, hlt]; rfl) ?_
    simp [runP]
    refine J.condB rfl (fun h44 => ?_) (fun h44 => ?_)
    ·
     simp at h44
     have hI2 : putK kR x s.rooms = (o ++ [y]) ++ (if false = true then s.rooms.drop (i + 1) else putK kR x (s.rooms.drop (i + 1))) := by rw [hI, if_neg (by simp), putK_lt (by simp only [kR]; omega)]; simp
     apply J.reg
     iterate 9 refine runL_step rfl (by simp [eS, eR, hlt2, hg, hge, hlt, show (o.length + 1) * 64 ≤ 140737488355328 from by omega, show (o.length + 1 + 1) * 64 ≤ 140737488355328 from by omega]; rfl) ?_
     simp [runL]
     refine J.regE (by simp [eS, eR, hw]; rfl) ?_
     simp
     refine ⟨_, by omega, _, ?_, i + 1, o ++ [y], false, by omega, rfl, hI2, by simp, by simp; omega, rfl⟩
     apply le_sub <;> simp [eS, eRs_app, eRs_one, eRs_cons, eRs_nil, eRs_take, eRs_take1, List.take_append, eR]
    ·
     simp at h44
     exfalso; omega
  ·
   try simp only [g17]
   try simp at g17
   subst g17
   simp at ho
   have hxy : kR x < kR y := hD rfl y (by rw [hdr]; exact List.mem_cons_self ..)
   iterate 11 refine runP_stepQ (by simp [eS, eR, hlt2, hg, hge, hlt]; rfl) ?_
   simp [runP]
   apply J.cond; simp [eS, eR]
   apply J.skip; simp
   apply J.seq
   apply J.draw; intro c' hc'
   iterate 11 refine runP_stepQ (by simp [eS, eR, hlt2, hg, hge, hlt]; rfl) ?_
   simp [runP]
   refine J.condB rfl (fun h44 => ?_) (fun h44 => ?_)
   ·
    simp at h44
    have hI2 : putK kR x s.rooms = (o ++ [y]) ++ (if true = true then s.rooms.drop (i + 1) else putK kR x (s.rooms.drop (i + 1))) := by rw [hI]; simp
    apply J.reg
    iterate 9 refine runL_step rfl (by simp [eS, eR, hlt2, hg, hge, hlt, show (o.length + 1) * 64 ≤ 140737488355328 from by omega, show (o.length + 1 + 1) * 64 ≤ 140737488355328 from by omega]; rfl) ?_
    simp [runL]
    refine J.regE (by simp [eS, eR, hw]; rfl) ?_
    simp
    refine ⟨_, by omega, _, ?_, i + 1, o ++ [y], true, by omega, rfl, hI2, fun _ z hz => hD rfl z (by rw [hdr]; exact List.mem_cons_of_mem _ hz), by simp; omega, rfl⟩
    apply le_sub <;> simp [eS, eRs_app, eRs_one, eRs_cons, eRs_nil, eRs_take, eRs_take1, List.take_append, eR]
   ·
    simp at h44
    exfalso
    simp only [kR] at hxy
    omega
 ·
  have hie : i = s.rooms.length := by omega
  subst hie
  rw [List.drop_length] at hI
  apply J.exit; simp
  apply J.seq
  apply J.seq
  cases dn
  ·
   have hI3 : putK kR x s.rooms = o ++ [x] := by rw [hI]; simp [putK]
   simp at ho
   refine J.regE (by simp [eS, eR]; rfl) ?_
   simp
   apply J.cond; simp [eS, eR]
   refine J.regE (by simp [eS, eR, show (o.length + 1) * 64 ≤ 140737488355328 from by omega, show (o.length + 1 + 1) * 64 ≤ 140737488355328 from by omega]; rfl) ?_
   simp
   apply J.seq
   refine J.freeze hc 131033 rfl ?_
   simp
   refine J.regE (by simp [eS, eR]; rfl) ?_
   simp
   apply J.ret
   refine ⟨by simp, rfl, _, [], by simp [a131R]; rfl, ?_⟩
   rw [hI3]; simp [eRs_app, eRs_one, eRs_take, eRs_take1, List.take_append, eR]
  ·
   have hI3 : putK kR x s.rooms = o := by rw [hI]; simp
   refine J.regE (by simp [eS, eR]; rfl) ?_
   simp
   apply J.cond; simp [eS, eR]
   apply J.skip; simp
   apply J.seq
   refine J.freeze hc 131033 rfl ?_
   simp
   refine J.regE (by simp [eS, eR]; rfl) ?_
   simp
   apply J.ret
   refine ⟨by simp, rfl, _, [], by simp [a131R]; rfl, ?_⟩
   rw [hI3]; simp [eRs_app, eRs_one, eRs_take, eRs_take1, List.take_append, eR]
theorem c52 : chkFn Tryz.prog 52 59 2 a52 a52R = true := by kernel_rfl
theorem d52 (s : Sta) (x : Pers) (hu : Up kV s.persons) (hl : s.persons.length < 900000) : DoesT 52 [.agg (eS s), .agg (eV x)] (.agg (eS { s with persons := putK kV x s.persons })) := by
 refine Does.of (nt := 59) (ac := a52) (rds := a52R) c52 (fun c hc => ?_)
 unfold a52
 apply J.seq
 refine J.regE (by simp [eS, eV]; rfl) ?_
 simp
 apply J.seq
 refine J.regE (by simp [eS, eV]; rfl) ?_
 simp
 refine J.nilrow hc 5 52031 62 rfl rfl rfl ?_
 simp
 apply J.seq
 refine J.regE (by simp [eS, eV]; rfl) ?_
 simp
 apply J.seq
 apply J.seq
 refine J.regE (by simp [eS, eV]; rfl) ?_
 simp
 apply J.block
 refine J.loop hc (I52 s x) ?_ ?_
 ·exact ⟨_, _, St.le_refl _, 0, [], false, by omega, rfl, rfl, by simp, by simp, by simp [eS, eV, eVs]⟩
 rintro n st ⟨i, o, dn, hi, rfl, hI, hD, ho, rfl⟩
 apply J.seq
 apply J.seq
 refine J.regE (by simp [eS, eV]; rfl) ?_
 simp
 apply J.cond; simp [eS, eV]
 refine ⟨fun hlt => ?_, fun hlt => ?_⟩
 ·
  obtain ⟨y, hx, hgx, hg, hge, hdr, hw, hlt2, hset, hxm⟩ := getV (show i < s.persons.length by omega) (by omega)
  simp only [eV] at hg hge
  have hup2 := up_drop hu hdr
  rw [hdr] at hI
  apply J.skip; simp
  apply J.seq
  apply J.block
  apply J.seq
  apply J.seq
  apply J.draw; intro c' hc'
  iterate 3 refine runP_stepQ (by simp [eS, eV, hlt2, hg, hge, hlt]; rfl) ?_
  refine runP_if rfl (fun g17 => ?_) (fun g17 => ?_)
  ·
   try simp only [g17]
   try simp at g17
   subst g17
   simp at ho
   iterate 10 refine runP_stepQ (by simp [eS, eV, hlt2, hg, hge, hlt]; rfl) ?_
   simp [runP]
   refine J.condB rfl (fun h27 => ?_) (fun h27 => ?_)
   ·
    simp at h27
    apply J.seq
    refine J.regE (by simp [eS, eV, show (o.length + 1) * 40 ≤ 140737488355328 from by omega, show (o.length + 1 + 1) * 40 ≤ 140737488355328 from by omega]; rfl) ?_
    simp
    refine J.regE (by simp [eS, eV]; rfl) ?_
    simp
    apply J.seq
    apply J.draw; intro c' hc'
    iterate 9 refine runP_stepQ (by simp [eS, eV, hlt2, hg, hge, hlt]; rfl) ?_
    simp [runP]
    refine J.condB rfl (fun h40 => ?_) (fun h40 => ?_)
    ·
     simp at h40
     have hI2 : putK kV x s.persons = (o ++ [x] ++ [y]) ++ (if true = true then s.persons.drop (i + 1) else putK kV x (s.persons.drop (i + 1))) := by rw [hI, if_neg (by simp), putK_gt (by simp only [kV]; omega)]; simp
     apply J.reg
     iterate 9 refine runL_step rfl (by simp [eS, eV, hlt2, hg, hge, hlt, show (o.length + 1) * 40 ≤ 140737488355328 from by omega, show (o.length + 1 + 1) * 40 ≤ 140737488355328 from by omega]; rfl) ?_
     simp [runL]
     refine J.regE (by simp [eS, eV, hw]; rfl) ?_
     simp
     refine ⟨_, by omega, _, ?_, i + 1, o ++ [x] ++ [y], true, by omega, rfl, hI2, fun _ z hz => by have h1 : y.user < z.user := hup2 z hz; show x.user < z.user; omega, by simp; omega, rfl⟩
     apply le_sub <;> simp [eS, eVs_app, eVs_one, eVs_cons, eVs_nil, eVs_take, eVs_take1, List.take_append, eV]
    ·
     simp at h40
     have hI2 : putK kV x s.persons = (o ++ [x]) ++ (if true = true then s.persons.drop (i + 1) else putK kV x (s.persons.drop (i + 1))) := by rw [hI, if_neg (by simp), putK_same (by simp only [kV]; omega)]; simp
     apply J.skip; simp
     refine J.regE (by simp [eS, eV, hw]; rfl) ?_
     simp
     refine ⟨_, by omega, _, ?_, i + 1, o ++ [x], true, by omega, rfl, hI2, fun _ z hz => by have h1 : y.user < z.user := hup2 z hz; show x.user < z.user; omega, by simp; omega, rfl⟩
     apply le_sub <;> simp [eS, eVs_app, eVs_one, eVs_cons, eVs_nil, eVs_take, eVs_take1, List.take_append, eV]
   ·
    simp at h27
    apply J.skip; simp
    apply J.seq
    apply J.draw; intro c' hc'
    iterate 9 refine runP_stepQ (by simp [eS, eV, hlt2, hg, hge, hlt]; rfl) ?_
    simp [runP]
    refine J.condB rfl (fun h40 => ?_) (fun h40 => ?_)
    ·
     simp at h40
     have hI2 : putK kV x s.persons = (o ++ [y]) ++ (if false = true then s.persons.drop (i + 1) else putK kV x (s.persons.drop (i + 1))) := by rw [hI, if_neg (by simp), putK_lt (by simp only [kV]; omega)]; simp
     apply J.reg
     iterate 9 refine runL_step rfl (by simp [eS, eV, hlt2, hg, hge, hlt, show (o.length + 1) * 40 ≤ 140737488355328 from by omega, show (o.length + 1 + 1) * 40 ≤ 140737488355328 from by omega]; rfl) ?_
     simp [runL]
     refine J.regE (by simp [eS, eV, hw]; rfl) ?_
     simp
     refine ⟨_, by omega, _, ?_, i + 1, o ++ [y], false, by omega, rfl, hI2, by simp, by simp; omega, rfl⟩
     apply le_sub <;> simp [eS, eVs_app, eVs_one, eVs_cons, eVs_nil, eVs_take, eVs_take1, List.take_append, eV]
    ·
     simp at h40
     exfalso; omega
  ·
   try simp only [g17]
   try simp at g17
   subst g17
   simp at ho
   have hxy : kV x < kV y := hD rfl y (by rw [hdr]; exact List.mem_cons_self ..)
   iterate 9 refine runP_stepQ (by simp [eS, eV, hlt2, hg, hge, hlt]; rfl) ?_
   simp [runP]
   apply J.cond; simp [eS, eV]
   apply J.skip; simp
   apply J.seq
   apply J.draw; intro c' hc'
   iterate 9 refine runP_stepQ (by simp [eS, eV, hlt2, hg, hge, hlt]; rfl) ?_
   simp [runP]
   refine J.condB rfl (fun h40 => ?_) (fun h40 => ?_)
   ·
    simp at h40
    have hI2 : putK kV x s.persons = (o ++ [y]) ++ (if true = true then s.persons.drop (i + 1) else putK kV x (s.persons.drop (i + 1))) := by rw [hI]; simp
    apply J.reg
    iterate 9 refine runL_step rfl (by simp [eS, eV, hlt2, hg, hge, hlt, show (o.length + 1) * 40 ≤ 140737488355328 from by omega, show (o.length + 1 + 1) * 40 ≤ 140737488355328 from by omega]; rfl) ?_
    simp [runL]
    refine J.regE (by simp [eS, eV, hw]; rfl) ?_
    simp
    refine ⟨_, by omega, _, ?_, i + 1, o ++ [y], true, by omega, rfl, hI2, fun _ z hz => hD rfl z (by rw [hdr]; exact List.mem_cons_of_mem _ hz), by simp; omega, rfl⟩
    apply le_sub <;> simp [eS, eVs_app, eVs_one, eVs_cons, eVs_nil, eVs_take, eVs_take1, List.take_append, eV]
   ·
    simp at h40
    exfalso
    simp only [kV] at hxy
    omega
 ·
  have hie : i = s.persons.length := by omega
  subst hie
  rw [List.drop_length] at hI
  apply J.exit; simp
  apply J.seq
  apply J.seq
  cases dn
  ·
   have hI3 : putK kV x s.persons = o ++ [x] := by rw [hI]; simp [putK]
   simp at ho
   refine J.regE (by simp [eS, eV]; rfl) ?_
   simp
   apply J.cond; simp [eS, eV]
   refine J.regE (by simp [eS, eV, show (o.length + 1) * 40 ≤ 140737488355328 from by omega, show (o.length + 1 + 1) * 40 ≤ 140737488355328 from by omega]; rfl) ?_
   simp
   apply J.seq
   refine J.freeze hc 52031 rfl ?_
   simp
   refine J.regE (by simp [eS, eV]; rfl) ?_
   simp
   apply J.ret
   refine ⟨by simp, rfl, _, [], by simp [a52R]; rfl, ?_⟩
   rw [hI3]; simp [eVs_app, eVs_one, eVs_take, eVs_take1, List.take_append, eV]
  ·
   have hI3 : putK kV x s.persons = o := by rw [hI]; simp
   refine J.regE (by simp [eS, eV]; rfl) ?_
   simp
   apply J.cond; simp [eS, eV]
   apply J.skip; simp
   apply J.seq
   refine J.freeze hc 52031 rfl ?_
   simp
   refine J.regE (by simp [eS, eV]; rfl) ?_
   simp
   apply J.ret
   refine ⟨by simp, rfl, _, [], by simp [a52R]; rfl, ?_⟩
   rw [hI3]; simp [eVs_app, eVs_one, eVs_take, eVs_take1, List.take_append, eV]
theorem ix_ge {ch : Int} {l : List Room} (h : 0 ≤ ixR ch l 0) : ∃ x, l.find? (fun r => decide (kR r = ch)) = some x := by
 cases e : l.find? (fun r => decide (kR r = ch)) with
 | none => rw [ixR_none e] at h; omega
 | some x => exact ⟨x, rfl⟩
theorem ix_lt {ch : Int} {l : List Room} (h : ixR ch l 0 < 0) : l.find? (fun r => decide (kR r = ch)) = none := by
 cases e : l.find? (fun r => decide (kR r = ch)) with
 | none => rfl
 | some x => obtain ⟨j, h1, _⟩ := ixR_some (i := 0) e; rw [show ((0 : Nat) : Int) = 0 from rfl] at h1; rw [h1] at h; omega
theorem ix_at {ch : Int} {l : List Room} {x : Room} (h : l.find? (fun r => decide (kR r = ch)) = some x) : ∃ j : Nat, ixR ch l 0 = (j : Int) ∧ l[j]? = some x := by
 obtain ⟨j, h1, h2⟩ := ixR_some (i := 0) h
 exact ⟨j, by rw [show ((0 : Nat) : Int) = 0 from rfl] at h1; rw [h1]; simp, h2⟩
theorem c96 : chkFn Tryz.prog 96 95 2 a96 a96R = true := by kernel_rfl
set_option maxHeartbeats 4000000 in
theorem d96 (s : Sta) (m : Cmd) (hu : Up kR s.rooms) {n : Nat} (hn : n < 900000) (h : FitS n s) (hk : 1 ≤ m.kind ∧ m.kind ≤ 3) (hr : m.kind ≠ 1 → ∃ x, s.rooms.find? (fun r => decide (kR r = m.ch)) = some x) : DoesT 96 [.agg (eS s), .agg (eM m)] (.tup [.agg (eS (doesS s m).1), .agg (eA (doesS s m).2)]) := by
 have hl : s.rooms.length < 900000 := by have := h.1; omega
 obtain ⟨I, hI⟩ : ∃ I, ixR m.ch s.rooms 0 = I := ⟨_, rfl⟩
 have h95 := d95 s m.ch (by omega)
 rw [hI] at h95
 refine Does.of (nt := 95) (ac := a96) (rds := a96R) c96 (fun c hc => ?_)
 unfold a96
 apply J.seq
 refine J.regE (by simp [eS, eM, eC]; rfl) ?_
 simp
 refine J.nz hc ?_
 simp
 apply J.seq
 apply J.reg
 iterate 3 refine runL_step rfl (by simp [eS, eM, eC]; rfl) ?_
 refine runL_tree rfl (h95) (by simp) hc ?_
 simp
 refine runL_step rfl (by simp [eS, eM, eC]; rfl) ?_
 simp [runL]
 apply J.seq
 apply J.seq
 refine J.regE (by simp [eS, eM, eC]; rfl) ?_
 simp
 refine J.condB rfl (fun h21 => ?_) (fun h21 => ?_)
 ·
  simp at h21
  obtain ⟨q, hq130⟩ : ∃ q, openC m.ch m.user = q := ⟨_, rfl⟩
  obtain ⟨cx, e⟩ := q
  have h130 := d130 m.ch m.user
  rw [hq130] at h130
  simp only at h130
  apply J.seq
  apply J.reg
  iterate 4 refine runL_step rfl (by simp [eS, eM, eC]; rfl) ?_
  refine runL_tree rfl (h130) (by simp) hc ?_
  simp
  iterate 6 refine runL_step rfl (by simp [eS, eM, eC]; rfl) ?_
  simp [runL]
  apply J.seq
  apply J.seq
  refine J.regE (by simp [eS, eM, eC]; rfl) ?_
  simp
  refine J.condB rfl (fun h31 => ?_) (fun h31 => ?_)
  ·
   simp at h31
   rw [← hI] at h31
   obtain ⟨x, hfx⟩ := ix_ge h31
   refine J.regE (by simp [eS, eM, eC]; rfl) ?_
   simp
   apply J.seq
   apply J.seq
   refine J.regE (by simp [eS, eM, eC]; rfl) ?_
   simp
   refine J.condB rfl (fun h33 => ?_) (fun h33 => ?_)
   ·
    try simp at h33
    apply J.seq
    apply J.reg
    iterate 2 refine runL_step rfl (by simp [eS, eM, eC, eA]; rfl) ?_
    refine runL_tree rfl (d48 s _) (by simp) hc ?_
    simp
    iterate 7 refine runL_step rfl (by simp [eS, eM, eC, eA]; rfl) ?_
    simp [runL]
    apply J.seq
    apply J.draw; intro c' hc'
    iterate 2 refine runP_stepQ (by simp [eS, eM, eC]; rfl) ?_
    refine runP_one rfl (by simp) (by simp [eS, eM, eC]; rfl) ?_
    refine runP_one rfl (by simp) (by simp [eS, eM, eC]; rfl) ?_
    simp [runP]
    apply J.ret
    refine ⟨by simp, rfl, _, [], by simp [a96R]; rfl, ?_⟩
    rw [does_some hfx]; simp [h21, eA, eS]
   ·
    try simp at h33
  ·
   simp at h31
   rw [← hI] at h31
   have hfx := ix_lt h31
   apply J.skip; simp
   apply J.seq
   apply J.seq
   refine J.regE (by simp [eS, eM, eC]; rfl) ?_
   simp
   refine J.condB rfl (fun h33 => ?_) (fun h33 => ?_)
   ·
    try simp at h33
    apply J.seq
    apply J.reg
    iterate 2 refine runL_step rfl (by simp [eS, eM, eC, eA]; rfl) ?_
    refine runL_tree rfl (d48 s _) (by simp) hc ?_
    simp
    iterate 7 refine runL_step rfl (by simp [eS, eM, eC, eA]; rfl) ?_
    simp [runL]
    apply J.seq
    apply J.draw; intro c' hc'
    iterate 2 refine runP_stepQ (by simp [eS, eM, eC]; rfl) ?_
    refine runP_one rfl (by simp) (by simp [eS, eM, eC]; rfl) ?_
    refine runP_one rfl (by simp) (by simp [eS, eM, eC]; rfl) ?_
    simp [runP]
    apply J.ret
    refine ⟨by simp, rfl, _, [], by simp [a96R]; rfl, ?_⟩
    rw [does_none hfx]; simp [h21, eA, eS, doQ, hq130, chanS, keepS, h33]
   ·
    try simp at h33
    apply J.skip; simp
    apply J.seq
    apply J.reg
    iterate 3 refine runL_step rfl (by simp [eS, eM, eC, eA]; rfl) ?_
    refine runL_le hc (le_nz _) ?_
    simp
    refine runL_tree rfl (d131 s ⟨cx, []⟩ hu hl) (by simp) hc ?_
    simp
    iterate 3 refine runL_step rfl (by simp [eS, eM, eC, eA]; rfl) ?_
    simp [runL]
    apply J.ret
    refine ⟨by simp, rfl, _, [], by simp [a96R]; rfl, ?_⟩
    rw [does_none hfx]; simp [h21, eA, eS, doQ, hq130, chanS, keepS, h33, noR]
 ·
  simp at h21
  obtain ⟨x, hfx⟩ := hr h21
  obtain ⟨j, hj, hxj⟩ := ix_at hfx
  obtain rfl : I = (j : Int) := by rw [← hI, hj]
  have hjl : j < s.rooms.length := (List.getElem?_eq_some_iff.1 hxj).1
  obtain ⟨x', hx, hgx, hg, hge, hdr, hw, hlt2, hset, hxm⟩ := getR hjl (by omega)
  obtain rfl : x = x' := by rw [hxj] at hx; injection hx
  have hm : x.c.mem.length < 1000000 := by have := (h.2.2.1 x hxm).1; omega
  have hf := (h.2.2.1 x hxm).2
  simp only [eR] at hg hge
  apply J.skip; simp
  apply J.seq
  obtain ⟨q, hq132⟩ : ∃ q, leaveC x.c m.user = q := ⟨_, rfl⟩
  obtain ⟨lx, le⟩ := q
  have h132 := d132 x.c m.user hm
  rw [hq132] at h132
  simp only at h132
  refine J.to hc ⟨[(2, .ptr 96002 0 0 0), (3, .ptr 96003 0 0 0), (4, .ptr 96004 0 0 0), (5, .ptr 96005 0 0 0), (6, iv (j : Nat)), (11, .ptr 96011 0 0 0), (12, iv le)], [(96002, .obj 27 (eS s)), (96003, .obj 36 (eM m)), (96004, .obj 27 [.ro 4 [], .ro 3 []]), (96005, .obj 39 [iv 0, iv 0, sv ⟨#[]⟩]), (96011, .obj 49 (eC lx))], []⟩ ?_ ?_
  ·refine J.drawT rfl hc (fun c' hs' hc' => ?_)
   repeat' (first
    | (show runP _ _ _ _ (.take _ _ _) _ _; refine runP_stepQ (by simp [eS, eM, eC, hlt2, hg, hge, hjl]; rfl) ?_)
    | (show runP _ _ _ _ (.alt _ ⟨_, none, .callv _ _⟩ _ .done) _ _; refine runP_treeT rfl (h132) (by simp) hs' ?_; simp)
    | (show runP _ _ _ _ (.alt _ _ _ .done) _ _; refine runP_one rfl (by simp) (by simp [eS, eM, eC, hlt2, hg, hge, hjl]; rfl) ?_)
    | refine runP_or ?_ ?_)
   all_goals
    (first | refine le_subF ?_ ?_ ?_ ?_ rfl ?_ | refine ⟨rfl, le_subF ?_ ?_ ?_ ?_ rfl ?_⟩) <;> (repeat' (first | exact trivial | exact rfl | refine ⟨?_, ?_⟩))
  simp
  apply J.seq
  apply J.seq
  refine J.regE (by simp [eS, eM, eC]; rfl) ?_
  simp
  refine J.condB rfl (fun h61 => ?_) (fun h61 => ?_)
  ·
   simp at h61
   obtain ⟨q, hq133⟩ : ∃ q, joinC x.c m.user = q := ⟨_, rfl⟩
   obtain ⟨cx, e⟩ := q
   have h133 := d133 x.c m.user hm
   rw [hq133] at h133
   simp only at h133
   refine J.drawT rfl hc (fun c' hs' hc' => ?_)
   iterate 7 refine runP_stepQ (by simp [eS, eM, eC, hlt2, hg, hge, hjl]; rfl) ?_
   refine runP_one rfl (by simp) (by simp [eS, eM, eC, hlt2, hg, hge, hjl]; rfl) ?_
   refine runP_treeT rfl (h133) (by simp) hs' ?_
   simp
   iterate 3 refine runP_stepQ (by simp [eS, eM, eC, hlt2, hg, hge, hjl]; rfl) ?_
   refine runP_one rfl (by simp) (by simp [eS, eM, eC, hlt2, hg, hge, hjl]; rfl) ?_
   refine runP_stepQ (by simp [eS, eM, eC, hlt2, hg, hge, hjl]; rfl) ?_
   simp [runP]
   apply J.seq
   apply J.seq
   refine J.regE (by simp [eS, eM, eC]; rfl) ?_
   simp
   refine J.condB rfl (fun h75 => ?_) (fun h75 => ?_)
   ·
    simp at h75
    apply J.seq
    apply J.reg
    iterate 2 refine runL_step rfl (by simp [eS, eM, eC, eA]; rfl) ?_
    refine runL_tree rfl (d48 s _) (by simp) hc ?_
    simp
    iterate 7 refine runL_step rfl (by simp [eS, eM, eC, eA]; rfl) ?_
    simp [runL]
    apply J.seq
    apply J.draw; intro c' hc'
    iterate 2 refine runP_stepQ (by simp [eS, eM, eC]; rfl) ?_
    refine runP_one rfl (by simp) (by simp [eS, eM, eC]; rfl) ?_
    refine runP_one rfl (by simp) (by simp [eS, eM, eC]; rfl) ?_
    simp [runP]
    apply J.ret
    refine ⟨by simp, rfl, _, [], by simp [a96R]; rfl, ?_⟩
    rw [does_some hfx]; simp [h21, h61, show ¬ 3 < m.kind by omega, eA, eS, doQ, hq133, chanS, keepS, h75]
   ·
    simp at h75
    apply J.skip; simp
    apply J.seq
    refine J.drawT rfl hc (fun c' hs' hc' => ?_)
    iterate 8 refine runP_stepQ (by simp [eS, eM, eC, hlt2, hg, hge, hjl]; rfl) ?_
    refine runP_one rfl (by simp) (by simp [eS, eM, eC, hlt2, hg, hge, hjl]; rfl) ?_
    refine runP_stepQ (by simp [eS, eM, eC, hlt2, hg, hge, hjl]; rfl) ?_
    refine runP_treeT rfl (d131 s ⟨cx, x.posts⟩ hu hl) (by simp) hs' ?_
    simp
    refine runP_one rfl (by simp) (by simp [eS, eM, eC, hlt2, hg, hge, hjl]; rfl) ?_
    refine runP_one rfl (by simp) (by simp [eS, eM, eC, hlt2, hg, hge, hjl]; rfl) ?_
    simp [runP]
    apply J.ret
    refine ⟨by simp, rfl, _, [], by simp [a96R]; rfl, ?_⟩
    rw [does_some hfx]; simp [h21, h61, show ¬ 3 < m.kind by omega, eA, eS, doQ, hq133, chanS, keepS, h75]
  ·
   simp at h61
   obtain ⟨cx, hcx⟩ : ∃ cx, cx = lx := ⟨_, rfl⟩
   obtain ⟨e, he⟩ : ∃ e, e = le := ⟨_, rfl⟩
   subst hcx
   subst he
   apply J.skip; simp
   apply J.seq
   apply J.seq
   refine J.regE (by simp [eS, eM, eC]; rfl) ?_
   simp
   refine J.condB rfl (fun h75 => ?_) (fun h75 => ?_)
   ·
    simp at h75
    apply J.seq
    apply J.reg
    iterate 2 refine runL_step rfl (by simp [eS, eM, eC, eA]; rfl) ?_
    refine runL_tree rfl (d48 s _) (by simp) hc ?_
    simp
    iterate 7 refine runL_step rfl (by simp [eS, eM, eC, eA]; rfl) ?_
    simp [runL]
    apply J.seq
    apply J.draw; intro c' hc'
    iterate 2 refine runP_stepQ (by simp [eS, eM, eC]; rfl) ?_
    refine runP_one rfl (by simp) (by simp [eS, eM, eC]; rfl) ?_
    refine runP_one rfl (by simp) (by simp [eS, eM, eC]; rfl) ?_
    simp [runP]
    apply J.ret
    refine ⟨by simp, rfl, _, [], by simp [a96R]; rfl, ?_⟩
    rw [does_some hfx]; simp [h21, h61, show ¬ 3 < m.kind by omega, show m.kind = 3 by omega, eA, eS, doQ, hq132, chanS, keepS, h75]
   ·
    simp at h75
    apply J.skip; simp
    apply J.seq
    refine J.drawT rfl hc (fun c' hs' hc' => ?_)
    iterate 8 refine runP_stepQ (by simp [eS, eM, eC, hlt2, hg, hge, hjl]; rfl) ?_
    refine runP_one rfl (by simp) (by simp [eS, eM, eC, hlt2, hg, hge, hjl]; rfl) ?_
    refine runP_stepQ (by simp [eS, eM, eC, hlt2, hg, hge, hjl]; rfl) ?_
    refine runP_treeT rfl (d131 s ⟨cx, x.posts⟩ hu hl) (by simp) hs' ?_
    simp
    refine runP_one rfl (by simp) (by simp [eS, eM, eC, hlt2, hg, hge, hjl]; rfl) ?_
    refine runP_one rfl (by simp) (by simp [eS, eM, eC, hlt2, hg, hge, hjl]; rfl) ?_
    simp [runP]
    apply J.ret
    refine ⟨by simp, rfl, _, [], by simp [a96R]; rfl, ?_⟩
    rw [does_some hfx]; simp [h21, h61, show ¬ 3 < m.kind by omega, show m.kind = 3 by omega, eA, eS, doQ, hq132, chanS, keepS, h75]
end Go.Proofs.YtadbdchbdjkcdaaGreatDoor.F
