/- Chapter 16: the document's posts. Printed by walk.py from w12.walk.py. -/
import Derived.Test.YtifpfpiljionmaaDoorW11
import Derived.Test.YtifpfpiljionmaaDoorW8
set_option linter.unusedVariables false
set_option linter.unusedSimpArgs false
namespace Go.Proofs.YtifpfpiljionmaaDoor.F
open Go Go.SX

theorem mayR_noT {s : ByteArray} (h : Tryd.mayR s = true) : noT s = false := by
  unfold Tryd.mayR at h
  simp only [Bool.and_eq_true, decide_eq_true_eq] at h
  have h1 := h.1.1.1
  unfold noT
  cases hl : s.toList with
  | nil =>
    have h2 : s.data.toList = [] := by rw [← Lib.toList_data]; exact hl
    have h3 := congrArg List.length h2
    have h4 : s.data.size = s.size := rfl
    simp only [Array.length_toList, List.length_nil] at h3
    omega
  | cons a r => rfl

theorem c35 : chkFn Tryd.prog 35 50 1 a35 a35R = true := by kernel_rfl
/-- colloquy/colloquyref16.may -/
theorem d35 (x : Post) (hs : x.text.size ≤ 100000) : DoesT 35 [.agg (eP x)] (bv (mayP x)) := by
  obtain ⟨no, user, text, edits, gone⟩ := x
  obtain ⟨em, hem⟩ : ∃ em, noT text = em := ⟨_, rfl⟩
  have hem' : text.toList.isEmpty = em := hem
  have hmr : Tryd.mayR text = true → em = false := fun h => hem ▸ mayR_noT h
  obtain ⟨mr, hmm⟩ : ∃ mr, Tryd.mayR text = mr := ⟨_, rfl⟩
  rw [hmm] at hmr
  have h40 := d40r text hs
  rw [hmm] at h40
  have hE : mayP ⟨no, user, text, edits, gone⟩ = ((gone == em) && (gone || mr) && btw no 1 1073741824 && btw user 1 1048576 && btw edits 0 1073741824) := by simp only [mayP, hem, hmm]
  rw [hE]
  clear hE
  refine Does.of (nt := 50) (ac := a35) (rds := a35R) c35 (fun c hc => ?_)
  unfold a35
  apply J.seq
  refine J.regE (by simp [eP, hem']; rfl) ?_
  simp
  apply J.seq
  apply J.reg
  iterate 2 refine runL_step rfl (by simp [eP, hem']; rfl) ?_
  refine runL_tree rfl (h40) (by simp) hc ?_
  simp
  refine runL_step rfl (by simp [eP, hem']; rfl) ?_
  simp [runL]
  apply J.seq
  apply J.seq
  apply J.reg
  iterate 4 refine runL_step rfl (by simp [eP, hem']; rfl) ?_
  refine runL_if rfl (fun g10 => ?_) (fun g10 => ?_)
  ·
    try simp only [g10]
    try simp at g10
    iterate 5 refine runL_step rfl (by simp [eP, hem']; rfl) ?_
    refine runL_if rfl (fun g15 => ?_) (fun g15 => ?_)
    ·
      try simp only [g15]
      try simp at g15
      iterate 5 refine runL_step rfl (by simp [eP, hem']; rfl) ?_
      refine runL_if rfl (fun g20 => ?_) (fun g20 => ?_)
      ·
        try simp only [g20]
        try simp at g20
        iterate 5 refine runL_step rfl (by simp [eP, hem']; rfl) ?_
        refine runL_if rfl (fun g25 => ?_) (fun g25 => ?_)
        ·
          try simp only [g25]
          try simp at g25
          iterate 5 refine runL_step rfl (by simp [eP, hem']; rfl) ?_
          refine runL_if rfl (fun g30 => ?_) (fun g30 => ?_)
          ·
            try simp only [g30]
            try simp at g30
            iterate 4 refine runL_step rfl (by simp [eP, hem']; rfl) ?_
            simp [runL]
            refine J.condB rfl (fun h34 => ?_) (fun h34 => ?_)
            ·
              try simp only [h34]
              try simp at h34
              apply J.seq
              refine J.regE (by simp [eP, hem']; rfl) ?_
              simp
              apply J.ret
              refine ⟨by simp, rfl, _, [], by simp [a35R]; rfl, ?_⟩
              try subst g38
              try subst g41
              try subst g44
              try (have g44' := g44; subst g44')
              simp [btw, *] <;> omega
            ·
              try simp only [h34]
              try simp at h34
              apply J.skip; simp
              apply J.seq
              apply J.reg
              iterate 4 refine runL_step rfl (by simp [eP, hem']; rfl) ?_
              refine runL_if rfl (fun g38 => ?_) (fun g38 => ?_)
              ·
                try simp only [g38]
                try simp at g38
                iterate 3 refine runL_step rfl (by simp [eP, hem']; rfl) ?_
                refine runL_if rfl (fun g41 => ?_) (fun g41 => ?_)
                ·
                  try simp only [g41]
                  try simp at g41
                  iterate 3 refine runL_step rfl (by simp [eP, hem']; rfl) ?_
                  refine runL_if rfl (fun g44 => ?_) (fun g44 => ?_)
                  ·
                    try simp only [g44]
                    try simp at g44
                    iterate 6 refine runL_step rfl (by simp [eP, hem']; rfl) ?_
                    simp [runL]
                    apply J.ret
                    refine ⟨by simp, rfl, _, [], by simp [a35R]; rfl, ?_⟩
                    try subst g38
                    try subst g41
                    try subst g44
                    try (have g44' := g44; subst g44')
                    simp [btw, *] <;> omega
                  ·
                    try simp only [g44]
                    try simp at g44
                    iterate 5 refine runL_step rfl (by simp [eP, hem']; rfl) ?_
                    simp [runL]
                    apply J.ret
                    refine ⟨by simp, rfl, _, [], by simp [a35R]; rfl, ?_⟩
                    try subst g38
                    try subst g41
                    try subst g44
                    try (have g44' := g44; subst g44')
                    simp [btw, *] <;> omega
                ·
                  try simp only [g41]
                  try simp at g41
                  iterate 8 refine runL_step rfl (by simp [eP, hem']; rfl) ?_
                  simp [runL]
                  apply J.ret
                  refine ⟨by simp, rfl, _, [], by simp [a35R]; rfl, ?_⟩
                  try subst g38
                  try subst g41
                  try subst g44
                  try (have g44' := g44; subst g44')
                  simp [btw, *] <;> omega
              ·
                try simp only [g38]
                try simp at g38
                iterate 5 refine runL_step rfl (by simp [eP, hem']; rfl) ?_
                refine runL_if rfl (fun g44 => ?_) (fun g44 => ?_)
                ·
                  try simp only [g44]
                  try simp at g44
                  iterate 6 refine runL_step rfl (by simp [eP, hem']; rfl) ?_
                  simp [runL]
                  apply J.ret
                  refine ⟨by simp, rfl, _, [], by simp [a35R]; rfl, ?_⟩
                  try subst g38
                  try subst g41
                  try subst g44
                  try (have g44' := g44; subst g44')
                  simp [btw, *] <;> omega
                ·
                  try simp only [g44]
                  try simp at g44
                  iterate 5 refine runL_step rfl (by simp [eP, hem']; rfl) ?_
                  simp [runL]
                  apply J.ret
                  refine ⟨by simp, rfl, _, [], by simp [a35R]; rfl, ?_⟩
                  try subst g38
                  try subst g41
                  try subst g44
                  try (have g44' := g44; subst g44')
                  simp [btw, *] <;> omega
          ·
            try simp only [g30]
            try simp at g30
            iterate 3 refine runL_step rfl (by simp [eP, hem']; rfl) ?_
            simp [runL]
            apply J.cond; simp [eP, hem']
            apply J.seq
            refine J.regE (by simp [eP, hem']; rfl) ?_
            simp
            apply J.ret
            refine ⟨by simp, rfl, _, [], by simp [a35R]; rfl, ?_⟩
            try subst g38
            try subst g41
            try subst g44
            try (have g44' := g44; subst g44')
            simp [btw, *] <;> omega
        ·
          try simp only [g25]
          try simp at g25
          iterate 8 refine runL_step rfl (by simp [eP, hem']; rfl) ?_
          simp [runL]
          apply J.cond; simp [eP, hem']
          apply J.seq
          refine J.regE (by simp [eP, hem']; rfl) ?_
          simp
          apply J.ret
          refine ⟨by simp, rfl, _, [], by simp [a35R]; rfl, ?_⟩
          try subst g38
          try subst g41
          try subst g44
          try (have g44' := g44; subst g44')
          simp [btw, *] <;> omega
      ·
        try simp only [g20]
        try simp at g20
        iterate 13 refine runL_step rfl (by simp [eP, hem']; rfl) ?_
        simp [runL]
        apply J.cond; simp [eP, hem']
        apply J.seq
        refine J.regE (by simp [eP, hem']; rfl) ?_
        simp
        apply J.ret
        refine ⟨by simp, rfl, _, [], by simp [a35R]; rfl, ?_⟩
        try subst g38
        try subst g41
        try subst g44
        try (have g44' := g44; subst g44')
        simp [btw, *] <;> omega
    ·
      try simp only [g15]
      try simp at g15
      iterate 18 refine runL_step rfl (by simp [eP, hem']; rfl) ?_
      simp [runL]
      apply J.cond; simp [eP, hem']
      apply J.seq
      refine J.regE (by simp [eP, hem']; rfl) ?_
      simp
      apply J.ret
      refine ⟨by simp, rfl, _, [], by simp [a35R]; rfl, ?_⟩
      try subst g38
      try subst g41
      try subst g44
      try (have g44' := g44; subst g44')
      simp [btw, *] <;> omega
  ·
    try simp only [g10]
    try simp at g10
    iterate 23 refine runL_step rfl (by simp [eP, hem']; rfl) ?_
    simp [runL]
    apply J.cond; simp [eP, hem']
    apply J.seq
    refine J.regE (by simp [eP, hem']; rfl) ?_
    simp
    apply J.ret
    refine ⟨by simp, rfl, _, [], by simp [a35R]; rfl, ?_⟩
    try subst g38
    try subst g41
    try subst g44
    try (have g44' := g44; subst g44')
    simp [btw, *] <;> omega

def I20 (l : List Post) (m : Nat) (st : St) : Prop := ∃ i : Nat, i ≤ l.length ∧ m = l.length - i ∧ mayFrom none l = mayFrom (prev l i) (l.drop i) ∧ (∀ j y, j < i → l[j]? = some y → mayP y = true) ∧ st = ⟨[(0, .ro 5 (ePs l)), (3, iv (i : Nat))], [], []⟩

theorem c20 : chkFn Tryd.prog 20 40 1 a20 a20R = true := by kernel_rfl
/-- colloquy/colloquyref16.May -/
theorem d20 (l : List Post) (hf : Fit l) : DoesT 20 [.ro 5 (ePs l)] (bv (mayPs l)) := by
  have hl := hf.len
  refine Does.of (nt := 40) (ac := a20) (rds := a20R) c20 (fun c hc => ?_)
  unfold a20
  apply J.seq
  refine J.regE (by simp; rfl) ?_
  simp
  apply J.seq
  apply J.seq
  refine J.regE (by simp; rfl) ?_
  simp
  refine J.condB rfl (fun h7 => ?_) (fun h7 => ?_)
  ·
    simp at h7
    have hz : ¬ l.length ≤ 32 := by omega
    apply J.seq
    refine J.regE (by simp; rfl) ?_
    simp
    apply J.ret
    refine ⟨by simp, rfl, _, [], by simp [a20R]; rfl, ?_⟩
    simp [mayPs, hz]
  ·
    simp at h7
    apply J.skip; simp
    apply J.seq
    apply J.seq
    refine J.regE (by simp; rfl) ?_
    simp
    apply J.block
    refine J.loop hc (I20 l) ?_ ?_
    · refine ⟨_, _, St.le_refl _, 0, by omega, rfl, rfl, fun j y h => absurd h (by omega), by simp⟩
    rintro n st ⟨i, hi, rfl, hI, hM, rfl⟩
    apply J.seq
    apply J.seq
    refine J.regE (by simp; rfl) ?_
    simp
    refine J.condB rfl (fun h11 => ?_) (fun h11 => ?_)
    ·
      simp at h11
      obtain ⟨x, hx⟩ : ∃ x, l[i]? = some x := ⟨_, List.getElem?_eq_getElem h11⟩
      obtain ⟨_, hgx, hge⟩ := ePs_at hx
      have hsx : x.text.size ≤ 100000 := hf.txt x (List.mem_of_getElem? hx)
      have hw : IntKind.i64.wrap ((i : Int) + 1) = (i : Int) + 1 := wrap_id (by omega) (by omega)
      have hdr : l.drop i = x :: l.drop (i + 1) := by rw [List.drop_eq_getElem_cons h11, hgx]
      rw [hdr] at hI
      obtain ⟨mp, hmp⟩ : ∃ mp, mayP x = mp := ⟨_, rfl⟩
      have h35 := d35 x hsx
      rw [hmp] at h35
      apply J.skip; simp
      apply J.seq
      apply J.block
      apply J.seq
      apply J.reg
      iterate 4 refine runL_step rfl (by simp [h11, hge, hgx, eP]; rfl) ?_
      refine runL_tree rfl (h35) (by simp) hc ?_
      simp
      refine runL_step rfl (by simp [h11, hge, hgx, eP]; rfl) ?_
      simp [runL]
      apply J.seq
      apply J.draw; intro c' hc'
      iterate 3 refine runP_stepQ (by simp [eP, h11, hge, hgx]; rfl) ?_
      refine runP_if rfl (fun g21 => ?_) (fun g21 => ?_)
      ·
        try simp only [g21]
        try simp at g21
        subst g21
        iterate 3 refine runP_stepQ (by simp [eP, h11, hge, hgx]; rfl) ?_
        refine runP_if rfl (fun g24 => ?_) (fun g24 => ?_)
        ·
          try simp only [g24]
          try simp at g24
          have hlj : i - 1 < l.length := by omega
          obtain ⟨y, hy⟩ : ∃ y, l[i - 1]? = some y := ⟨_, List.getElem?_eq_getElem hlj⟩
          obtain ⟨_, hgy, hgey⟩ := ePs_at hy
          have hwj : IntKind.i64.wrap ((i : Int) - 1) = ((i - 1 : Nat) : Int) := by rw [wrap_id (by omega) (by omega)]; omega
          have hyn := mayP_no (hM (i - 1) y (by omega) hy)
          have hwn : IntKind.i64.wrap (y.no + 1) = y.no + 1 := wrap_id (by omega) (by omega)
          have hpv : prev l i = some y.no := by
            obtain ⟨j, rfl⟩ : ∃ j, i = j + 1 := ⟨i - 1, by omega⟩
            simp at hy; simp [prev, hy]
          iterate 15 refine runP_stepQ (by simp [eP, h11, hge, hgx, hlj, hgy, hgey, hwj, hwn, ePs_length]; rfl) ?_
          simp [runP]
          refine J.condB rfl (fun h39 => ?_) (fun h39 => ?_)
          ·
            try simp only [h39]
            try simp at h39
            apply J.seq
            refine J.regE (by simp; rfl) ?_
            simp
            apply J.ret
            refine ⟨by simp, rfl, _, [], by simp [a20R]; rfl, ?_⟩
            have e : mayFrom none l = false := by rw [hI, hpv]; simp [mayFrom, hmp, h39]
            simp [mayPs, e]
          ·
            try simp only [h39]
            try simp at h39
            apply J.skip; simp
            refine J.regE (by simp [hw]; rfl) ?_
            simp
            refine ⟨l.length - (i + 1), by omega, _, St.le_refl _, i + 1, by omega, rfl, ?_, ?_, by simp⟩
            · rw [hI, hpv, show prev l (i + 1) = some x.no from by simp [prev, hx]]
              simp [mayFrom, hmp]
              try simp [h39]
            · intro k z hk hz
              by_cases e : k = i
              · subst e; rw [hx] at hz; injection hz with hz; subst hz; exact hmp
              · exact hM k z (by omega) hz
        ·
          try simp only [g24]
          try simp at g24
          have hpv : prev l i = none := by rw [g24]; rfl
          iterate 14 refine runP_stepQ (by simp [eP, h11, hge, hgx]; rfl) ?_
          simp [runP]
          apply J.cond; simp
          apply J.skip; simp
          refine J.regE (by simp [hw]; rfl) ?_
          simp
          refine ⟨l.length - (i + 1), by omega, _, St.le_refl _, i + 1, by omega, rfl, ?_, ?_, by simp⟩
          · rw [hI, hpv, show prev l (i + 1) = some x.no from by simp [prev, hx]]
            simp [mayFrom, hmp]
            try simp [h39]
          · intro k z hk hz
            by_cases e : k = i
            · subst e; rw [hx] at hz; injection hz with hz; subst hz; exact hmp
            · exact hM k z (by omega) hz
      ·
        try simp only [g21]
        try simp at g21
        subst g21
        iterate 17 refine runP_stepQ (by simp [eP, h11, hge, hgx]; rfl) ?_
        simp [runP]
        apply J.cond; simp
        apply J.seq
        refine J.regE (by simp; rfl) ?_
        simp
        apply J.ret
        refine ⟨by simp, rfl, _, [], by simp [a20R]; rfl, ?_⟩
        have e : mayFrom none l = false := by rw [hI]; simp [mayFrom, hmp]
        simp [mayPs, e]
    ·
      simp at h11
      obtain rfl : i = l.length := by omega
      apply J.exit; simp
      apply J.seq
      refine J.regE (by simp; rfl) ?_
      simp
      apply J.ret
      refine ⟨by simp, rfl, _, [], by simp [a20R]; rfl, ?_⟩
      simp [mayPs, hI, mayFrom]; omega

end Go.Proofs.YtifpfpiljionmaaDoor.F
