/- Chapter 16: the document's Add, Edit, Delete, Same; few posts. Printed by walk.py from w14.walk.py. -/
import Derived.Test.YtifpfpiljionmaaDoorW13
set_option linter.unusedVariables false
set_option linter.unusedSimpArgs false
namespace Go.Proofs.YtifpfpiljionmaaDoor.F
open Go Go.SX
theorem take_set (l : List Post) (i : Nat) (e : List AV) : List.take l.length ((ePs l).set i e) = (ePs l).set i e := List.take_of_length_le (by simp)

theorem c26 : chkFn Tryd.prog 26 53 4 a26 a26R = true := by kernel_rfl
/-- colloquy/colloquyref16.Edit -/
theorem d26 (l : List Post) (no user : Int) (s : ByteArray) (hf : Fit l) (hs : s.size ≤ 100000) : DoesT 26 [.ro 5 (ePs l), iv no, iv user, sv s] (.tup [.ro 5 (ePs (editP l no user s).1), iv (editP l no user s).2]) := by
  obtain ⟨mr, hmr⟩ : ∃ mr, Tryd.mayR s = mr := ⟨_, rfl⟩
  have h40 := d40r s hs
  rw [hmr] at h40
  refine Does.of (nt := 53) (ac := a26) (rds := a26R) c26 (fun c hc => ?_)
  unfold a26
  apply J.seq
  refine J.regE (by simp; rfl) ?_
  simp
  apply J.seq
  apply J.reg
  refine runL_step rfl (by simp; rfl) ?_
  refine runL_call [] [] rfl rfl (d33o l hf) (by simp) (by simp) (by simp) hc ?_
  rintro rv m1 ⟨rfl, rfl⟩
  refine ⟨by simp, ?_⟩
  simp
  refine runL_step rfl (by simp; rfl) ?_
  simp [runL]
  apply J.seq
  apply J.reg
  refine runL_step rfl (by simp; rfl) ?_
  refine runL_tree rfl (h40) (by simp) hc ?_
  simp
  refine runL_step rfl (by simp; rfl) ?_
  simp [runL]
  apply J.seq
  apply J.seq
  refine J.regE (by simp; rfl) ?_
  simp
  refine J.condB rfl (fun h18 => ?_) (fun h18 => ?_)
  ·
    try simp only [h18]
    try simp at h18
    apply J.seq
    refine J.regE (by simp; rfl) ?_
    simp
    refine J.nilrow hc 8 98 33 rfl rfl rfl ?_
    simp
    refine J.freeze hc 98 rfl ?_
    simp [St.freeze]
    apply J.ret
    refine ⟨by simp, rfl, _, [], by simp [a26R]; rfl, ?_⟩
    simp [editP, hmr, h18]
  ·
    try simp only [h18]
    try simp at h18
    apply J.skip; simp
    apply J.seq
    rcases hst : stopAt no (fairL l) 0 with _ | ⟨i, x⟩
    ·
      have h34 := d34 (fairL l) no (by have := fairL_len l; omega)
      rw [atR_fair l no, hst] at h34
      simp only at h34
      apply J.reg
      iterate 2 refine runL_step rfl (by simp; rfl) ?_
      refine runL_view (le_freeze _ 33009 rfl) rfl (by simp [St.freeze]) (h34) (by simp) ?_
      rintro rv m1 ⟨rfl, rfl⟩
      refine ⟨rfl, rfl, ?_⟩
      simp
      refine runL_step rfl (by simp; rfl) ?_
      simp [runL]
      apply J.seq
      apply J.seq
      refine J.regE (by simp; rfl) ?_
      simp
      apply J.cond; simp
      apply J.seq
      refine J.regE (by simp; rfl) ?_
      simp
      refine J.nilrow hc 8 98 33 rfl rfl rfl ?_
      simp
      refine J.freeze hc 98 rfl ?_
      simp [St.freeze]
      apply J.ret
      refine ⟨by simp, rfl, _, [], by simp [a26R]; rfl, ?_⟩
      simp [editP, hmr, h18, hst]
    ·
      have h34 := d34 (fairL l) no (by have := fairL_len l; omega)
      rw [atR_fair l no, hst] at h34
      simp only at h34
      obtain ⟨_, hx, hno, hgn⟩ := stopAt_get hst
      simp only [Nat.sub_zero] at hx
      obtain ⟨hi, hgx, hge⟩ := ePs_at hx
      have hni : ¬ ((i : Int) < 0) := by omega
      have hmx := fairL_may x (List.mem_of_getElem? hx)
      have hed : 0 ≤ x.edits ∧ x.edits ≤ 1073741824 := by
        simp only [mayP, btw, Bool.and_eq_true, decide_eq_true_eq] at hmx; exact hmx.2
      have hw : IntKind.i64.wrap (x.edits + 1) = x.edits + 1 := wrap_id (by omega) (by omega)
      apply J.reg
      iterate 2 refine runL_step rfl (by simp; rfl) ?_
      refine runL_view (le_freeze _ 33009 rfl) rfl (by simp [St.freeze]) (h34) (by simp) ?_
      rintro rv m1 ⟨rfl, rfl⟩
      refine ⟨rfl, rfl, ?_⟩
      simp
      refine runL_step rfl (by simp; rfl) ?_
      simp [runL]
      apply J.seq
      apply J.seq
      refine J.regE (by simp; rfl) ?_
      simp
      apply J.cond; simp [hni]
      apply J.skip; simp
      apply J.seq
      apply J.seq
      apply J.reg
      iterate 7 refine runL_step rfl (by simp [hi, hgx, hge, eP]; rfl) ?_
      simp [runL]
      refine J.condB rfl (fun h30 => ?_) (fun h30 => ?_)
      ·
        try simp only [h30]
        try simp at h30
        apply J.seq
        refine J.regE (by simp; rfl) ?_
        simp
        refine J.nilrow hc 8 98 33 rfl rfl rfl ?_
        simp
        refine J.freeze hc 98 rfl ?_
        simp [St.freeze]
        apply J.ret
        refine ⟨by simp, rfl, _, [], by simp [a26R]; rfl, ?_⟩
        simp [editP, hmr, h18, hst, dofE, h30]
      ·
        try simp only [h30]
        try simp at h30
        apply J.skip; simp
        apply J.seq
        apply J.seq
        apply J.reg
        iterate 6 refine runL_step rfl (by simp [hi, hgx, hge, eP]; rfl) ?_
        simp [runL]
        refine J.condB rfl (fun h36 => ?_) (fun h36 => ?_)
        ·
          try simp only [h36]
          try simp at h36
          apply J.seq
          refine J.regE (by simp; rfl) ?_
          simp
          refine J.nilrow hc 8 98 33 rfl rfl rfl ?_
          simp
          refine J.freeze hc 98 rfl ?_
          simp [St.freeze]
          apply J.ret
          refine ⟨by simp, rfl, _, [], by simp [a26R]; rfl, ?_⟩
          simp [editP, hmr, h18, hst, dofE, h30, h36]
        ·
          try simp only [h36]
          try simp at h36
          apply J.skip; simp
          apply J.seq
          apply J.reg
          iterate 6 refine runL_step rfl (by simp [hi, hgx, hge, eP]; rfl) ?_
          simp [runL]
          apply J.seq
          apply J.reg
          iterate 11 refine runL_step rfl (by simp [hw, hi, hgx, hge, eP]; rfl) ?_
          simp [runL]
          apply J.seq
          refine J.regE (by simp; rfl) ?_
          simp
          refine J.freeze hc 33009 rfl ?_
          simp [St.freeze]
          apply J.ret
          refine ⟨by simp, rfl, _, [], by simp [a26R]; rfl, ?_⟩
          simp [editP, hmr, h18, hst, dofE, h30, show ¬ 1073741824 ≤ x.edits from by omega, ← ePs_set, eP, take_set]

theorem c27 : chkFn Tryd.prog 27 40 4 a27 a27R = true := by kernel_rfl
/-- colloquy/colloquyref16.Delete -/
theorem d27 (l : List Post) (no user owner : Int) (hf : Fit l) : DoesT 27 [.ro 5 (ePs l), iv no, iv user, iv owner] (.tup [.ro 5 (ePs (delP l no user owner).1), iv (delP l no user owner).2]) := by
  refine Does.of (nt := 40) (ac := a27) (rds := a27R) c27 (fun c hc => ?_)
  unfold a27
  apply J.seq
  refine J.regE (by simp; rfl) ?_
  simp
  apply J.seq
  apply J.reg
  refine runL_step rfl (by simp; rfl) ?_
  refine runL_call [] [] rfl rfl (d33o l hf) (by simp) (by simp) (by simp) hc ?_
  rintro rv m1 ⟨rfl, rfl⟩
  refine ⟨by simp, ?_⟩
  simp
  refine runL_step rfl (by simp; rfl) ?_
  simp [runL]
  apply J.seq
  rcases hst : stopAt no (fairL l) 0 with _ | ⟨i, x⟩
  ·
    have h34 := d34 (fairL l) no (by have := fairL_len l; omega)
    rw [atR_fair l no, hst] at h34
    simp only at h34
    apply J.reg
    iterate 2 refine runL_step rfl (by simp; rfl) ?_
    refine runL_view (le_freeze _ 33009 rfl) rfl (by simp [St.freeze]) (h34) (by simp) ?_
    rintro rv m1 ⟨rfl, rfl⟩
    refine ⟨rfl, rfl, ?_⟩
    simp
    refine runL_step rfl (by simp; rfl) ?_
    simp [runL]
    apply J.seq
    apply J.seq
    refine J.regE (by simp; rfl) ?_
    simp
    apply J.cond; simp
    apply J.seq
    refine J.regE (by simp; rfl) ?_
    simp
    refine J.nilrow hc 8 98 33 rfl rfl rfl ?_
    simp
    refine J.freeze hc 98 rfl ?_
    simp [St.freeze]
    apply J.ret
    refine ⟨by simp, rfl, _, [], by simp [a27R]; rfl, ?_⟩
    simp [delP, hst]
  ·
    have h34 := d34 (fairL l) no (by have := fairL_len l; omega)
    rw [atR_fair l no, hst] at h34
    simp only at h34
    obtain ⟨_, hx, hno, hgn⟩ := stopAt_get hst
    simp only [Nat.sub_zero] at hx
    obtain ⟨hi, hgx, hge⟩ := ePs_at hx
    have hni : ¬ ((i : Int) < 0) := by omega
    have hmx := fairL_may x (List.mem_of_getElem? hx)
    apply J.reg
    iterate 2 refine runL_step rfl (by simp; rfl) ?_
    refine runL_view (le_freeze _ 33009 rfl) rfl (by simp [St.freeze]) (h34) (by simp) ?_
    rintro rv m1 ⟨rfl, rfl⟩
    refine ⟨rfl, rfl, ?_⟩
    simp
    refine runL_step rfl (by simp; rfl) ?_
    simp [runL]
    apply J.seq
    apply J.seq
    refine J.regE (by simp; rfl) ?_
    simp
    apply J.cond; simp [hni]
    apply J.skip; simp
    apply J.seq
    apply J.seq
    apply J.reg
    iterate 8 refine runL_step rfl (by simp [hi, hgx, hge, eP]; rfl) ?_
    refine runL_if rfl (fun g26 => ?_) (fun g26 => ?_)
    ·
      try simp only [g26]
      try simp at g26
      iterate 4 refine runL_step rfl (by simp [hi, hgx, hge, eP]; rfl) ?_
      simp [runL]
      refine J.condB rfl (fun h30 => ?_) (fun h30 => ?_)
      ·
        try simp only [h30]
        try simp at h30
        apply J.seq
        refine J.regE (by simp; rfl) ?_
        simp
        refine J.nilrow hc 8 98 33 rfl rfl rfl ?_
        simp
        refine J.freeze hc 98 rfl ?_
        simp [St.freeze]
        apply J.ret
        refine ⟨by simp, rfl, _, [], by simp [a27R]; rfl, ?_⟩
        simp [delP, hst, dofD, Ne.symm g26, h30]
      ·
        try simp only [h30]
        try simp at h30
        apply J.skip; simp
        apply J.seq
        apply J.reg
        iterate 5 refine runL_step rfl (by simp [hi, hgx, hge, eP]; rfl) ?_
        simp [runL]
        apply J.seq
        apply J.reg
        iterate 5 refine runL_step rfl (by simp [hi, hgx, hge, eP]; rfl) ?_
        simp [runL]
        apply J.seq
        refine J.regE (by simp; rfl) ?_
        simp
        refine J.freeze hc 33009 rfl ?_
        simp [St.freeze]
        apply J.ret
        refine ⟨by simp, rfl, _, [], by simp [a27R]; rfl, ?_⟩
        simp [delP, hst, dofD, Ne.symm g26, h30, ← ePs_set, eP, take_set]
    ·
      try simp only [g26]
      try simp at g26
      iterate 3 refine runL_step rfl (by simp [hi, hgx, hge, eP]; rfl) ?_
      simp [runL]
      apply J.cond; simp
      apply J.skip; simp
      apply J.seq
      apply J.reg
      iterate 5 refine runL_step rfl (by simp [hi, hgx, hge, eP]; rfl) ?_
      simp [runL]
      apply J.seq
      apply J.reg
      iterate 5 refine runL_step rfl (by simp [hi, hgx, hge, eP]; rfl) ?_
      simp [runL]
      apply J.seq
      refine J.regE (by simp; rfl) ?_
      simp
      refine J.freeze hc 33009 rfl ?_
      simp [St.freeze]
      apply J.ret
      refine ⟨by simp, rfl, _, [], by simp [a27R]; rfl, ?_⟩
      simp [delP, hst, dofD, g26, ← ePs_set, eP, take_set]

theorem c25 : chkFn Tryd.prog 25 42 3 a25 a25R = true := by kernel_rfl
/-- colloquy/colloquyref16.Add -/
theorem d25 (l : List Post) (user : Int) (s : ByteArray) (hf : Fit l) (hs : s.size ≤ 100000) : DoesT 25 [.ro 5 (ePs l), iv user, sv s] (.tup [.ro 5 (ePs (addP l user s).1), iv (addP l user s).2]) := by
  obtain ⟨mr, hmr⟩ : ∃ mr, Tryd.mayR s = mr := ⟨_, rfl⟩
  have h40 := d40r s hs
  rw [hmr] at h40
  have hlen := fairL_len l
  have hlb := lastP_bd l
  have hw : IntKind.i64.wrap (lastP l + 1) = lastP l + 1 := wrap_id (by omega) (by omega)
  have h21 := d21 (fairL l) (fairL_fit hf)
  rw [lastP_fair] at h21
  refine Does.of (nt := 42) (ac := a25) (rds := a25R) c25 (fun c hc => ?_)
  unfold a25
  apply J.seq
  refine J.regE (by simp; rfl) ?_
  simp
  apply J.seq
  apply J.reg
  refine runL_step rfl (by simp; rfl) ?_
  refine runL_call [] [] rfl rfl (d33o l hf) (by simp) (by simp) (by simp) hc ?_
  rintro rv m1 ⟨rfl, rfl⟩
  refine ⟨by simp, ?_⟩
  simp
  refine runL_step rfl (by simp; rfl) ?_
  simp [runL]
  apply J.seq
  apply J.reg
  refine runL_step rfl (by simp; rfl) ?_
  refine runL_tree rfl (h40) (by simp) hc ?_
  simp
  refine runL_step rfl (by simp; rfl) ?_
  simp [runL]
  apply J.seq
  apply J.seq
  apply J.reg
  iterate 3 refine runL_step rfl (by simp; rfl) ?_
  refine runL_if rfl (fun g16 => ?_) (fun g16 => ?_)
  ·
    try simp only [g16]
    try simp at g16
    iterate 4 refine runL_step rfl (by simp; rfl) ?_
    refine runL_if rfl (fun g20 => ?_) (fun g20 => ?_)
    ·
      try simp only [g20]
      try simp at g20
      iterate 3 refine runL_step rfl (by simp; rfl) ?_
      simp [runL]
      refine J.condB rfl (fun h23 => ?_) (fun h23 => ?_)
      ·
        try simp only [h23]
        try simp at h23
        apply J.seq
        refine J.regE (by simp; rfl) ?_
        simp
        refine J.nilrow hc 6 98 33 rfl rfl rfl ?_
        simp
        refine J.freeze hc 98 rfl ?_
        simp [St.freeze]
        apply J.ret
        refine ⟨by simp, rfl, _, [], by simp [a25R]; rfl, ?_⟩
        have hb : btw user 1 1048576 = false := by simp [btw]; omega
        simp [addP, hb]
      ·
        try simp only [h23]
        try simp at h23
        apply J.skip; simp
        apply J.seq
        apply J.seq
        apply J.reg
        refine runL_step rfl (by simp; rfl) ?_
        refine runL_view (le_freeze _ 33009 rfl) rfl (by simp [St.freeze]) (h21) (by simp) ?_
        rintro rv m1 ⟨rfl, rfl⟩
        refine ⟨rfl, rfl, ?_⟩
        simp
        refine runL_step rfl (by simp; rfl) ?_
        simp [runL]
        refine J.condB rfl (fun h26 => ?_) (fun h26 => ?_)
        ·
          try simp only [h26]
          try simp at h26
          apply J.seq
          refine J.regE (by simp; rfl) ?_
          simp
          refine J.nilrow hc 6 98 33 rfl rfl rfl ?_
          simp
          refine J.freeze hc 98 rfl ?_
          simp [St.freeze]
          apply J.ret
          refine ⟨by simp, rfl, _, [], by simp [a25R]; rfl, ?_⟩
          have h1 : btw user 1 1048576 = true := by simp [btw, *]
          simp [addP, h1, hmr, g16, h26]
        ·
          try simp only [h26]
          try simp at h26
          apply J.skip; simp
          apply J.seq
          apply J.reg
          iterate 2 refine runL_step rfl (by simp [hw, show ((fairL l).length + 1) * 48 ≤ 140737488355328 from by omega]; rfl) ?_
          refine runL_view (le_freeze _ 33009 rfl) rfl (by simp [St.freeze]) (h21) (by simp) ?_
          rintro rv m1 ⟨rfl, rfl⟩
          refine ⟨rfl, rfl, ?_⟩
          simp
          iterate 7 refine runL_step rfl (by simp [hw, show ((fairL l).length + 1) * 48 ≤ 140737488355328 from by omega]; rfl) ?_
          simp [runL]
          obtain ⟨m, hm⟩ : ∃ m, fairL l ++ [⟨lastP l + 1, user, s, 0, false⟩] = m := ⟨_, rfl⟩
          have hmm : ePs (fairL l) ++ [[iv (lastP l + 1), iv user, sv s, iv 0, bv false]] = ePs m := by rw [← hm]; simp [ePs, eP]
          have hml : (fairL l).length + 1 = m.length := by rw [← hm]; simp
          have h1 : btw user 1 1048576 = true := by simp [btw, *]
          have hA : addP l user s = (m.drop (m.length - 32), 0) := by simp only [addP, h1, hmr, g16, hm]; simp; omega
          rw [hmm, hml]
          have hm33 : m.length ≤ 33 := by omega
          have hm1 : 1 ≤ m.length := by omega
          clear hm hmm
          apply J.seq
          apply J.seq
          refine J.regE (by simp; rfl) ?_
          simp
          refine J.condB rfl (fun h38 => ?_) (fun h38 => ?_)
          ·
            try simp only [h38]
            try simp at h38
            refine J.regE (by simp [show (1 : Int) ≤ (m.length : Int) from by omega]; rfl) ?_
            simp
            apply J.seq
            refine J.regE (by simp; rfl) ?_
            simp
            refine J.freeze hc 33009 rfl ?_
            simp [St.freeze]
            apply J.ret
            refine ⟨by simp, rfl, _, [], by simp [a25R]; rfl, ?_⟩
            rw [if_pos (by omega), hA]
            have h5 : m.length = 33 := by omega
            simp [h5]
            rw [show (ePs m).tail = ePs m.tail from by simp [ePs, List.map_tail], List.take_of_length_le (by simp; omega)]
          ·
            try simp only [h38]
            try simp at h38
            apply J.skip; simp
            apply J.seq
            refine J.regE (by simp; rfl) ?_
            simp
            refine J.freeze hc 33009 rfl ?_
            simp [St.freeze]
            apply J.ret
            refine ⟨by simp, rfl, _, [], by simp [a25R]; rfl, ?_⟩
            rw [hA]
            simp [show m.length - 32 = 0 from by omega]
    ·
      try simp only [g20]
      try simp at g20
      iterate 2 refine runL_step rfl (by simp; rfl) ?_
      simp [runL]
      apply J.cond; simp
      apply J.seq
      refine J.regE (by simp; rfl) ?_
      simp
      refine J.nilrow hc 6 98 33 rfl rfl rfl ?_
      simp
      refine J.freeze hc 98 rfl ?_
      simp [St.freeze]
      apply J.ret
      refine ⟨by simp, rfl, _, [], by simp [a25R]; rfl, ?_⟩
      have hb : btw user 1 1048576 = false := by simp [btw]; omega
      simp [addP, hb]
  ·
    try simp only [g16]
    try simp at g16
    iterate 6 refine runL_step rfl (by simp; rfl) ?_
    simp [runL]
    apply J.cond; simp
    apply J.seq
    refine J.regE (by simp; rfl) ?_
    simp
    refine J.nilrow hc 6 98 33 rfl rfl rfl ?_
    simp
    refine J.freeze hc 98 rfl ?_
    simp [St.freeze]
    apply J.ret
    refine ⟨by simp, rfl, _, [], by simp [a25R]; rfl, ?_⟩
    simp [addP, hmr, g16]

/-- Are posts the same? -/
def eqP (x y : Post) : Bool := x.no == y.no && (x.user == y.user && (x.text.toList == y.text.toList && (x.edits == y.edits && x.gone == y.gone)))
def sameR : List Post → List Post → Bool
  | x :: r, y :: q => eqP x y && sameR r q
  | _, _ => true
/-- colloquyref16.Same -/
def sameP (a b : List Post) : Bool := (a.length == b.length) && sameR a b
def I13 (a b : List Post) (m : Nat) (st : St) : Prop := ∃ i : Nat, i ≤ a.length ∧ m = a.length - i ∧ sameR a b = sameR (a.drop i) (b.drop i) ∧ st = ⟨[(0, .ro 5 (ePs a)), (1, .ro 5 (ePs b)), (5, iv (i : Nat))], [], []⟩
/-- colloquylaw16.Few -/
def fewR : List Post → Bool
  | [] => true
  | x :: r => decide (x.text.size ≤ 200) && fewR r
def fewP (l : List Post) : Bool := decide (l.length ≤ 50) && fewR l
def I10 (l : List Post) (m : Nat) (st : St) : Prop := ∃ i : Nat, i ≤ l.length ∧ m = l.length - i ∧ fewR l = fewR (l.drop i) ∧ st = ⟨[(0, .ro 5 (ePs l)), (3, iv (i : Nat))], [], []⟩

theorem c13 : chkFn Tryd.prog 13 26 2 a13 a13R = true := by kernel_rfl
/-- colloquy/colloquyref16.Same -/
theorem d13 (a b : List Post) (hl : a.length ≤ 1000000) : DoesT 13 [.ro 5 (ePs a), .ro 5 (ePs b)] (bv (sameP a b)) := by
  refine Does.of (nt := 26) (ac := a13) (rds := a13R) c13 (fun c hc => ?_)
  unfold a13
  apply J.seq
  refine J.regE (by simp; rfl) ?_
  simp
  apply J.seq
  apply J.seq
  refine J.regE (by simp; rfl) ?_
  simp
  refine J.condB rfl (fun h10 => ?_) (fun h10 => ?_)
  ·
    simp at h10
    have hne : ¬ a.length = b.length := by omega
    apply J.seq
    refine J.regE (by simp; rfl) ?_
    simp
    apply J.ret
    refine ⟨by simp, rfl, _, [], by simp [a13R]; rfl, ?_⟩
    simp [sameP, hne]
  ·
    simp at h10
    have hle : a.length = b.length := by omega
    apply J.skip; simp
    apply J.seq
    apply J.seq
    refine J.regE (by simp; rfl) ?_
    simp
    apply J.block
    refine J.loop hc (I13 a b) ?_ ?_
    · refine ⟨_, _, St.le_refl _, 0, by omega, rfl, rfl, by simp⟩
    rintro n st ⟨i, hi, rfl, hI, rfl⟩
    apply J.seq
    apply J.seq
    refine J.regE (by simp; rfl) ?_
    simp
    refine J.condB rfl (fun h14 => ?_) (fun h14 => ?_)
    ·
      simp at h14
      obtain ⟨x, hx, hgx, hge, hdr⟩ := ePs_step h14
      obtain ⟨y, hy, hgy, hgey, hdry⟩ := ePs_step (es := b) (i := i) (by omega)
      have h14b : i < b.length := by omega
      have hw : IntKind.i64.wrap ((i : Int) + 1) = (i : Int) + 1 := wrap_id (by omega) (by omega)
      rw [hdr, hdry] at hI
      apply J.skip; simp
      apply J.seq
      apply J.block
      apply J.seq
      apply J.draw; intro c' hc'
      iterate 9 refine runP_stepQ (by simp [h14, h14b, hgx, hge, hgy, hgey, eP]; rfl) ?_
      simp [runP]
      refine J.condB rfl (fun h25 => ?_) (fun h25 => ?_)
      ·
        have hE0 : (!(eqP x y)) = true := by simp only [eqP, Bool.not_and]; exact h25
        have hE : eqP x y = false := by simpa using hE0
        apply J.seq
        refine J.regE (by simp; rfl) ?_
        simp
        apply J.ret
        refine ⟨by simp, rfl, _, [], by simp [a13R]; rfl, ?_⟩
        simp [sameP, hI, sameR, hE]
      ·
        have hE0 : (!(eqP x y)) = false := by simp only [eqP, Bool.not_and]; exact h25
        have hE : eqP x y = true := by simpa using hE0
        apply J.skip; simp
        refine J.regE (by simp [hw]; rfl) ?_
        simp
        refine ⟨a.length - (i + 1), by omega, _, St.le_refl _, i + 1, by omega, rfl, ?_, by simp⟩
        rw [hI]; simp [sameR, hE]
    ·
      simp at h14
      obtain rfl : i = a.length := by omega
      apply J.exit; simp
      apply J.seq
      refine J.regE (by simp; rfl) ?_
      simp
      apply J.ret
      refine ⟨by simp, rfl, _, [], by simp [a13R]; rfl, ?_⟩
      simp [sameP, hle, hI, sameR]

theorem c10 : chkFn Tryd.prog 10 20 1 a10 a10R = true := by kernel_rfl
/-- colloquy/colloquylaw16.Few -/
theorem d10 (l : List Post) (hl : l.length ≤ 9223372036854775807) : DoesT 10 [.ro 5 (ePs l)] (bv (fewP l)) := by
  refine Does.of (nt := 20) (ac := a10) (rds := a10R) c10 (fun c hc => ?_)
  unfold a10
  apply J.seq
  refine J.regE (by simp; rfl) ?_
  simp
  apply J.seq
  apply J.seq
  refine J.regE (by simp; rfl) ?_
  simp
  refine J.condB rfl (fun h6 => ?_) (fun h6 => ?_)
  ·
    simp at h6
    have hne : ¬ l.length ≤ 50 := by omega
    apply J.seq
    refine J.regE (by simp; rfl) ?_
    simp
    apply J.ret
    refine ⟨by simp, rfl, _, [], by simp [a10R]; rfl, ?_⟩
    simp [fewP, hne]
  ·
    simp at h6
    apply J.skip; simp
    apply J.seq
    apply J.seq
    refine J.regE (by simp; rfl) ?_
    simp
    apply J.block
    refine J.loop hc (I10 l) ?_ ?_
    · refine ⟨_, _, St.le_refl _, 0, by omega, rfl, rfl, by simp⟩
    rintro n st ⟨i, hi, rfl, hI, rfl⟩
    apply J.seq
    apply J.seq
    refine J.regE (by simp; rfl) ?_
    simp
    refine J.condB rfl (fun h10 => ?_) (fun h10 => ?_)
    ·
      simp at h10
      obtain ⟨x, hx, hgx, hge, hdr⟩ := ePs_step h10
      have hw : IntKind.i64.wrap ((i : Int) + 1) = (i : Int) + 1 := wrap_id (by omega) (by omega)
      rw [hdr] at hI
      apply J.skip; simp
      apply J.seq
      apply J.block
      apply J.seq
      apply J.reg
      iterate 7 refine runL_step rfl (by simp [h10, hgx, hge, eP]; rfl) ?_
      simp [runL]
      refine J.condB rfl (fun h19 => ?_) (fun h19 => ?_)
      ·
        try simp only [h19]
        try simp at h19
        apply J.seq
        refine J.regE (by simp; rfl) ?_
        simp
        apply J.ret
        refine ⟨by simp, rfl, _, [], by simp [a10R]; rfl, ?_⟩
        simp [fewP, hI, fewR]; omega
      ·
        try simp only [h19]
        try simp at h19
        apply J.skip; simp
        refine J.regE (by simp [hw]; rfl) ?_
        simp
        refine ⟨l.length - (i + 1), by omega, _, St.le_refl _, i + 1, by omega, rfl, ?_, by simp⟩
        rw [hI]; simp [fewR]; omega
    ·
      simp at h10
      obtain rfl : i = l.length := by omega
      apply J.exit; simp
      apply J.seq
      refine J.regE (by simp; rfl) ?_
      simp
      apply J.ret
      refine ⟨by simp, rfl, _, [], by simp [a10R]; rfl, ?_⟩
      simp [fewP, hI, fewR]; omega

end Go.Proofs.YtifpfpiljionmaaDoor.F
