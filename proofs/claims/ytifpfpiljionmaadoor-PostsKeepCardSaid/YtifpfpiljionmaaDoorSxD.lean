/- SX, part D: 'make' and 'append'. -/
import Derived.Test.YtifpfpiljionmaaDoorSxC
import Derived.Laws.Append
import Derived.IntWalk
set_option linter.unusedVariables false
set_option linter.unusedSimpArgs false
namespace Go.SX
open Go
section
variable {P : Program} {c : Ctx} {o : Oper} {st : St} {ρ : Map} {a : Act} {w : World}

theorem wrap_id {q : Int} (h0 : -9223372036854775808 ≤ q) (h1 : q ≤ 9223372036854775807) : IntKind.i64.wrap q = q := IntWalk.i64_in q ⟨h0, h1⟩

theorem mk_core {d id ty sz bytes : Nat} {zero : List AV} {x : Src} {k : IntKind} {q : Int} {row : Bool} (hc : chkM P o (if row then .mkrow id ty sz bytes zero x else .mkslice id ty sz bytes zero x) = true) (hv : st.src x = some (.lit (.int k q))) (h0 : Conc c st ρ a w) (hq : 0 ≤ q ∧ q * bytes ≤ 281474976710656 ∧ k = .i64)
    (hf0 : st.fixed.contains id = false) (hd : o.dst = some d) (hlt : d < a.tmps.size) (h1 : ρ id = none) (h2 : look st.mem id = none) :
    StepOK P c o (St.put { st with mem := upd st.mem id (if row then .obj ty (List.replicate q.toNat zero).flatten else .arr ty sz (List.replicate q.toNat zero)) } d (.own id sz 0 q.toNat)) [id] ρ a w := by
  have hc' : ∃ t y z, o.op = .makeSlice t y z ∧ (match P.underlying t, P.info? ty with
      | some (.slice e), some i => e == ty && i.size == sz && i.bytes == bytes && sz != 0 && bytes != 0
      | _, _ => false) = true ∧ zeroOK P ty zero = true ∧ zero.all isTree = true ∧ zero.length = sz ∧ srcOK y x = true ∧ srcOK z x = true := by
    cases row <;> simp only [Bool.false_eq_true, if_true, if_false, chkM] at hc <;> (
      split at hc <;> try (cases hc; done)
      rename_i t y z ho
      simp only [Bool.and_eq_true, beq_iff_eq] at hc
      obtain ⟨⟨⟨⟨⟨hty, hz⟩, htree⟩, hzl⟩, hy⟩, hy2⟩ := hc
      exact ⟨t, y, z, ho, hty, hz, htree, hzl, hy, hy2⟩)
  obtain ⟨t, y, z, ho, hty, hz, htree, hzl, hy, hy2⟩ := hc'
  split at hty <;> try (cases hty; done)
  rename_i el i hu hi
  simp only [Bool.and_eq_true, beq_iff_eq, bne_iff_ne] at hty
  obtain ⟨⟨⟨⟨rfl, hisz⟩, hby⟩, hsz0⟩, hby0⟩ := hty
  obtain ⟨i', zv, hi', hzz, hzvl, hzr⟩ := zeroOK_spec hz
  rw [hi] at hi'; injection hi' with hi'; subst hi'
  obtain ⟨hq0, hq1, rfl⟩ := hq
  obtain ⟨hy', _⟩ := (h0.srcs _ _ _ hy hv).lit_inv
  obtain ⟨hz', _⟩ := (h0.srcs _ _ _ hy2 hv).lit_inv
  have hqb : q ≤ 281474976710656 := by
    have h1 : q * 1 ≤ q * bytes := Int.mul_le_mul_of_nonneg_left (by omega) hq0
    omega
  have hw : IntKind.i64.wrap q = q := wrap_id (by omega) (by omega)
  have hl1 : ¬ (bytes * q > 2 ^ 48) := by rw [Int.mul_comm]; omega
  have hzs : zv.cells.size = sz := by omega
  let cells := (Array.range (q.toNat * sz)).map (zv.cells[· % zv.cells.size]!)
  have hrun : (execOp a.eval o).run P w = .ok (.value (.slice (some ⟨w.heap.size, 0, none⟩) q.toNat q.toNat)) (w.alloc (.cells cells el)) := by
    have hzv : (zeroValue el).run P w = .ok zv w := by simp [zeroValue, run_typeInfo w hi, hzz]
    by_cases hn : q.toNat * i.size = 0
    · have hc0 : cells = #[] := Array.eq_empty_of_size_eq_zero (by simp [cells]; rw [← hisz]; simpa using hn)
      have e0 : ∀ f : Nat → Value, Array.map f (Array.range 0) = #[] := fun f => Array.eq_empty_of_size_eq_zero (by simp)
      rw [hc0]
      have hq0' : q = 0 := by
        rcases Nat.mul_eq_zero.1 hn with h' | h'
        · omega
        · omega
      subst hq0'
      simp [execOp, ho, hy', hz', Instr.makeSlice, und hu, asInt, asIntOf, run_typeInfo w hi, hw, askRoom, szOf hi, newRow, e0]
    · have hlt0 : ¬ q < 0 := by omega
      have hl2 : ¬ (281474976710656 < (bytes : Int) * q) := by omega
      have hn' : ¬ q.toNat * sz = 0 := by rw [← hisz]; exact hn
      have hpos : 0 < q := by
        rcases Int.lt_or_le 0 q with h' | h'
        · exact h'
        · exfalso; apply hn; have : q.toNat = 0 := by omega
          rw [this]; simp
      simp [execOp, ho, hy', hz', Instr.makeSlice, und hu, asInt, asIntOf, run_typeInfo w hi, hw, askRoom, szOf hi, newRow, hby, hlt0, hl2, hzv, hisz, hn']
      rfl
  have hcell : ∀ p j x, p < q.toNat → zero[j]? = some x → ∀ (w' : World) Own', ∃ u, cells[p * sz + j]? = some u ∧ one u = true ∧ TRel w' Own' x u := by
    intro p j x hp hj w' Own'
    have hjs : j < sz := by
      rcases Nat.lt_or_ge j zero.length with h' | h'
      · omega
      · rw [List.getElem?_eq_none h'] at hj; cases hj
    have hmod : (p * sz + j) % sz = j := by rw [Nat.mul_comm, Nat.mul_add_mod]; exact Nat.mod_eq_of_lt hjs
    have hle : p * sz + sz ≤ q.toNat * sz := by have := Nat.mul_le_mul_right sz (show p + 1 ≤ q.toNat from hp); rwa [Nat.add_mul, Nat.one_mul] at this
    have hjc : j < zv.cells.size := by omega
    have hv := hzr w' Own' j x hj
    have e1 : zv.cells.getD j undef = zv.cells[j] := by simp [hjc]
    rw [e1] at hv
    have hxt := List.all_eq_true.1 htree x (List.mem_of_getElem? hj)
    refine ⟨zv.cells[j], ?_, one_of_cell (ρ := ρ) (tree_cell hxt) (.tree hv), hv⟩
    have hlt' : p * sz + j < q.toNat * sz := by omega
    simp [cells, hlt', hzs, hmod]
    simp [getElem!_pos, hjc]
  refine new_ok (cells := cells) (ty := el) (w' := w.alloc (.cells cells el)) h0 hf0 hd hlt h1 h2 hrun rfl rfl rfl rfl (fun ρ' hρ' hk => ?_) (fun Own' ρ' hρ' => ?_)
  · cases row
    · simp only [Bool.false_eq_true, if_false, BRel, hρ']
      refine ⟨cells, push_get w rfl, fun e he => ?_, by simp [cells], fun p j x hx => ?_⟩
      · rw [List.eq_of_mem_replicate he]; exact hzl
      · obtain ⟨e, he, hj⟩ := Option.bind_eq_some_iff.1 hx
        have hp : p < q.toNat := by
          rcases Nat.lt_or_ge p q.toNat with h' | h'
          · exact h'
          · rw [List.getElem?_eq_none (by simpa using h')] at he; cases he
        have he' : e = zero := List.eq_of_mem_replicate (List.mem_of_getElem? he)
        subst he'
        rw [Nat.zero_add]
        exact hcell p j x hp hj _ _
    · simp only [if_true]
      have hfl : ∀ n : Nat, (List.replicate n zero).flatten.length = n * sz := fun n => by simp [hzl]
      refine ⟨w.heap.size, cells, hρ', push_get w rfl, by rw [hfl]; simp [cells], fun p x hx => ?_⟩
      have hpl : p < q.toNat * sz := by
        rcases Nat.lt_or_ge p (q.toNat * sz) with h' | h'
        · exact h'
        · rw [List.getElem?_eq_none (by rw [hfl]; exact h')] at hx; cases hx
      have hpd : p / sz < q.toNat := Nat.div_lt_of_lt_mul (by rwa [Nat.mul_comm])
      have hpm : p % sz < sz := Nat.mod_lt _ (by omega)
      have hpe : p / sz * sz + p % sz = p := by rw [Nat.mul_comm]; exact Nat.div_add_mod p sz
      have hget : ∀ (n p : Nat), p < n * sz → (List.replicate n zero).flatten[p]? = zero[p % sz]? := by
        intro n
        induction n with
        | zero => intro p hp; omega
        | succ n ih =>
          intro p hp
          rw [List.replicate_succ, List.flatten_cons]
          by_cases h' : p < sz
          · rw [List.getElem?_append_left (by omega), Nat.mod_eq_of_lt h']
          · rw [List.getElem?_append_right (by omega), hzl, ih (p - sz) (by rw [Nat.add_mul] at hp; omega)]
            congr 1
            rw [Nat.mod_eq_sub_mod (a := p) (by omega)]
      rw [hget _ _ hpl] at hx
      obtain ⟨u, hu, h1', ht⟩ := hcell (p / sz) (p % sz) x hpd hx (w.alloc (.cells cells el)) (OwnBy c.A ρ')
      rw [hpe] at hu
      exact ⟨u, hu, h1', .tree ht⟩
  · have := VRel.own (w := w.alloc (.cells cells el)) (Own := Own') (ρ := ρ') (b := id) (sz := sz) (lo := 0) (n := q.toNat) (k := w.heap.size) (o := 0) (cap := q.toNat) hρ' (Nat.le_refl _) (fun cur ty fr hh => by
      rw [push_get w rfl] at hh
      injection hh with hh; injection hh with hh _ _
      rw [← hh]; simp [cells])
    simpa using this

theorem mkslice_ok (h : Conc c st ρ a w) {d id ty sz bytes : Nat} {zero : List AV} {x : Src} {st' : St} (hc : chkM P o (.mkslice id ty sz bytes zero x) = true) (hd : o.dst = some d) (hlt : d < a.tmps.size) (he : exec (some d) (.mkslice id ty sz bytes zero x) st = some st') : StepOK P c o st' [id] ρ a w := by
  simp only [exec] at he
  split at he <;> try (cases he; done)
  rename_i hfx
  simp only [Bool.not_eq_true] at hfx
  split at he <;> try (cases he; done)
  rename_i d' k q hd' hv
  injection hd' with hd'; subst hd'
  split at he <;> try (cases he; done)
  rename_i hq
  injection he with he; subst he
  refine StepOK.of_fresh (id := id) h hfx (fun ρ0 h0 h1 h2 hf0 h3 => ?_)
  exact mk_core (row := false) hc hv h0 hq hf0 hd hlt h1 h2

theorem mkrow_ok (h : Conc c st ρ a w) {d id ty sz bytes : Nat} {zero : List AV} {x : Src} {st' : St} (hc : chkM P o (.mkrow id ty sz bytes zero x) = true) (hd : o.dst = some d) (hlt : d < a.tmps.size) (he : exec (some d) (.mkrow id ty sz bytes zero x) st = some st') : StepOK P c o st' [id] ρ a w := by
  simp only [exec] at he
  split at he <;> try (cases he; done)
  rename_i hfx
  simp only [Bool.not_eq_true] at hfx
  split at he <;> try (cases he; done)
  rename_i d' k q hd' hv
  injection hd' with hd'; subst hd'
  split at he <;> try (cases he; done)
  rename_i hq
  injection he with he; subst he
  refine StepOK.of_fresh (id := id) h hfx (fun ρ0 h0 h1 h2 hf0 h3 => ?_)
  exact mk_core (row := true) hc hv h0 hq hf0 hd hlt h1 h2

/-- Block 'b' is told anew (its references die): the rest stays. -/
theorem Conc.remake (h : Conc c st ρ a w) {b k o' : Nat} (hfx : st.fixed.contains b = false) {w' : World} {blk : Blk} (hsz : w.heap.size ≤ w'.heap.size) (hk' : (∃ o2, ρ b = some (k, o2)) ∨ w.heap.size ≤ k) (hklt : k < w'.heap.size)
    (hsame : ∀ k1, k1 < w.heap.size → (∀ o2, ρ b ≠ some (k1, o2)) → w'.heap[k1]? = w.heap[k1]?) (hrows : ∀ k1 cur ty fr, k1 < w.heap.size → w'.heap[k1]? = some (.cells cur ty fr) → ∃ cur0 ty0 fr0, w.heap[k1]? = some (.cells cur0 ty0 fr0) ∧ cur0.size = cur.size)
    (e1 : w'.os = w.os) (e2 : w'.tape = w.tape) (e3 : w'.output = w.output)
    (hB : KeepsV w w' (OwnBy c.A ρ) (OwnBy c.A (fun x => if x = b then some (k, o') else ρ x)) ρ (fun x => if x = b then some (k, o') else ρ x) (fun x => x ≠ b) → BRel w' (OwnBy c.A (fun x => if x = b then some (k, o') else ρ x)) (fun x => if x = b then some (k, o') else ρ x) b blk) :
    Conc c { st.kill b with mem := upd (st.kill b).mem b blk } (fun x => if x = b then some (k, o') else ρ x) a w' := by
  have hk : KeepsV w w' (OwnBy c.A ρ) (OwnBy c.A (fun x => if x = b then some (k, o') else ρ x)) ρ (fun x => if x = b then some (k, o') else ρ x) (fun x => x ≠ b) := {
    size := hsz
    same := fun k1 hlt hno => hsame k1 hlt (fun o2 he => hno (.inr ⟨b, o2, he⟩))
    own := fun k1 hlt hO => by
      rcases hO with hO | ⟨b', o2, hO⟩
      · exact .inl hO
      · replace hO : (if b' = b then some (k, o') else ρ b') = some (k1, o2) := hO
        split at hO
        · injection hO with hO; injection hO with hO _
          subst hO
          rcases hk' with ⟨o3, h3⟩ | h3
          · exact .inr ⟨b, o3, h3⟩
          · omega
        · exact .inr ⟨b', o2, hO⟩
    map := fun b' hb' k1 o2 hρ => by simp only [hb', if_false]; exact hρ
    rows := hrows
    lt := h.lt }
  have hkill := h.kill b hfx
  refine { slots := ?_, defers := h.defers, mem := ?_, dom := ?_, lt := ?_, inj := ?_, mine := ?_, far := ?_, fix := fun b' hb' => by rw [if_neg (by rintro rfl; simp at hfx; exact hfx hb')]; exact h.fix b' hb', alt := h.alt, os := e1.trans h.os, tape := e2.trans h.tape, output := e3.trans h.output, size := Nat.le_trans h.size hsz, frame := ?_, rows := h.rows' hk }
  · intro d x hx
    simp only [St.kill, killS, look_mapv] at hx
    obtain ⟨y, hy, rfl⟩ := Option.map_eq_some_iff.1 hx
    exact ((h.slots d y hy).kill b).keep hk (refs_kill b y)
  · intro b' blk' hl
    simp only [look_upd] at hl
    split at hl
    · rename_i e; subst e; injection hl with hl; subst hl; exact hB hk
    · rename_i hne
      simp only [St.kill, look_mapv, look_drop, hne, if_false] at hl
      obtain ⟨blk2, hl2, rfl⟩ := Option.map_eq_some_iff.1 hl
      have hB2 := h.mem b' blk2 hl2
      have hsm : ∀ k1 o2, ρ b' = some (k1, o2) → w'.heap[k1]? = w.heap[k1]? := fun k1 o2 hρ => hsame k1 (h.lt _ _ _ hρ) (fun o3 he => hne (h.inj _ _ _ _ _ hρ he))
      cases blk2 with
      | arr ty sz es => exact hB2.keep hk (by simp [hne]) hsm (fun _ _ h => by cases h)
      | obj ty cs =>
        have hB3 : BRel w (OwnBy c.A ρ) ρ b' (.obj ty (killL b cs)) := by
          obtain ⟨k1, cur, h0, h1, h2, h3⟩ := hB2
          refine ⟨k1, cur, h0, h1, by rw [killL_length]; exact h2, fun j x hx => ?_⟩
          rw [killL_get] at hx
          obtain ⟨y, hy, rfl⟩ := Option.map_eq_some_iff.1 hx
          obtain ⟨v, hv, h1v, ht⟩ := h3 j y hy
          exact ⟨v, hv, h1v, ht.kill b⟩
        exact hB3.keep hk (by simp [hne]) hsm (fun _ _ h => by cases h; exact refs_killL b cs)
  · intro b' k1 o2 h'
    simp only [look_upd]
    split
    · exact ⟨blk, rfl⟩
    · rename_i hne
      simp only [hne, if_false] at h'
      exact hkill.dom b' k1 o2 (by simp only [hne, if_false]; exact h')
  · intro b' k1 o2 h'
    split at h'
    · injection h' with h'; injection h' with h1 h2; omega
    · have := h.lt _ _ _ h'; omega
  · intro b1 b2 k1 o1 o2 h1 h2
    split at h1 <;> split at h2
    · rename_i e1 e2; rw [e1, e2]
    · rename_i e1 e2
      injection h1 with h1; injection h1 with h1 _
      subst h1
      rcases hk' with ⟨o3, h3⟩ | h3
      · exact absurd (h.inj _ _ _ _ _ h2 h3) e2
      · have := h.lt _ _ _ h2; omega
    · rename_i e1 e2
      injection h2 with h2; injection h2 with h2 _
      subst h2
      rcases hk' with ⟨o3, h3⟩ | h3
      · exact absurd (h.inj _ _ _ _ _ h1 h3) e1
      · have := h.lt _ _ _ h1; omega
    · exact h.inj _ _ _ _ _ h1 h2
  · intro b' k1 o2 h'
    split at h'
    · injection h' with h'; injection h' with h1 h2
      subst h1
      rcases hk' with ⟨o3, h3⟩ | h3
      · exact h.mine _ _ _ h3
      · exact .inr (Nat.le_trans h.size h3)
    · exact h.mine _ _ _ h'
  · intro b' k1 o2 h'
    split at h'
    · injection h' with h'; injection h' with h1 h2
      subst h1
      rcases hk' with ⟨o3, h3⟩ | h3
      · exact h.far _ _ _ h3
      · intro hA
        have := h.alt _ hA; have := h.size; omega
    · exact h.far _ _ _ h'
  · intro k1 hlt hF
    rw [hsame k1 (by have := h.size; omega) (fun o2 he => ?_)]
    · exact h.frame k1 hlt hF
    · rcases h.mine _ _ _ he with h1 | h1
      · exact hF h1
      · omega

/-- A row that is nil yet gets a name. -/
theorem Conc.virt (h : Conc c st ρ a w) {b : Nat} (hb : ρ b = none) (ty sz : Nat) : Conc c { st with mem := upd st.mem b (.arr ty sz []) } ρ a w :=
  { slots := h.slots, defers := h.defers, mem := fun b' blk hl => by
      simp only [look_upd] at hl
      split at hl
      · rename_i e; subst e; injection hl with hl; subst hl; simp [BRel, hb]
      · exact h.mem b' blk hl
    dom := fun b' k o' hρ => by
      simp only [look_upd]
      split
      · exact ⟨_, rfl⟩
      · exact h.dom b' k o' hρ
    lt := h.lt, inj := h.inj, mine := h.mine, far := h.far, fix := h.fix, alt := h.alt, os := h.os, tape := h.tape, output := h.output, size := h.size, frame := h.frame, rows := h.rows }

/-- The cells of a row, as they are read. -/
theorem row_cells (h : Conc c st ρ a w) {q : AV} {v : Value} {ys : List (List AV)} {sz : Nat} (hs : 0 < sz) (hv : VRel w (OwnBy c.A ρ) ρ q v) (hr : rowOf st q = some ys) (hsz : ys = [] ∨ rowSz q = some sz) :
    ∃ A cap, v = .slice A ys.length cap ∧ (∀ e ∈ ys, e.length = sz) ∧ ∃ news : List Value, news.length = ys.length * sz ∧ (∀ w' : World, w'.heap = w.heap → (Builtin.firstCells sz ys.length v).run P w' = .ok news.toArray w') ∧
      ∀ i j x, cellAt ys i j = some x → ∃ u, news[i * sz + j]? = some u ∧ one u = true ∧ TRel w (OwnBy c.A ρ) x u := by
  have hempty : ∀ A cap, v = .slice A 0 cap → ys = [] → ∃ A cap, v = .slice A ys.length cap ∧ (∀ e ∈ ys, e.length = sz) ∧ ∃ news : List Value, news.length = ys.length * sz ∧ (∀ w' : World, w'.heap = w.heap → (Builtin.firstCells sz ys.length v).run P w' = .ok news.toArray w') ∧
      ∀ i j x, cellAt ys i j = some x → ∃ u, news[i * sz + j]? = some u ∧ one u = true ∧ TRel w (OwnBy c.A ρ) x u := by
    rintro A cap rfl rfl
    refine ⟨A, cap, rfl, by simp, [], by simp, fun w' _ => ?_, fun i j x hx => by simp [cellAt] at hx⟩
    cases A <;> simp [Builtin.firstCells, loadCells, loadCellsFrom]
  have hfull : ∀ (ad : Addr) cap, v = .slice (some ad) ys.length cap → 0 < sz → (∀ e ∈ ys, e.length = sz) → (∀ i j x, cellAt ys i j = some x → ∃ u, w.cell? (ad.add (i * sz + j)) = some u ∧ one u = true ∧ TRel w (OwnBy c.A ρ) x u) →
      ∃ A cap, v = .slice A ys.length cap ∧ (∀ e ∈ ys, e.length = sz) ∧ ∃ news : List Value, news.length = ys.length * sz ∧ (∀ w' : World, w'.heap = w.heap → (Builtin.firstCells sz ys.length v).run P w' = .ok news.toArray w') ∧
      ∀ i j x, cellAt ys i j = some x → ∃ u, news[i * sz + j]? = some u ∧ one u = true ∧ TRel w (OwnBy c.A ρ) x u := by
    rintro ad cap rfl hs0 hlen hcell
    have hall : ∀ p, p < ys.length * sz → ∃ u, w.cell? (ad.add p) = some u := by
      intro p hp
      have hi : p / sz < ys.length := Nat.div_lt_of_lt_mul (by rwa [Nat.mul_comm])
      have hj : p % sz < sz := Nat.mod_lt _ hs0
      have he := List.getElem?_eq_getElem hi
      have hl := hlen _ (List.getElem_mem hi)
      obtain ⟨u, hu, _⟩ := hcell (p / sz) (p % sz) _ (show cellAt ys (p / sz) (p % sz) = some ((ys[p / sz])[p % sz]'(by omega)) by simp only [cellAt, he, Option.bind_some]; exact List.getElem?_eq_getElem (by omega))
      have : p / sz * sz + p % sz = p := by rw [Nat.mul_comm]; exact Nat.div_add_mod p sz
      rw [this] at hu
      exact ⟨u, hu⟩
    refine ⟨some ad, cap, rfl, hlen, (List.range (ys.length * sz)).map (fun p => (w.cell? (ad.add p)).getD undef), by simp, fun w' hw' => ?_, fun i j x hx => ?_⟩
    · have := run_loadCells_list (P := P) w' ad ((List.range (ys.length * sz)).map (fun p => (w.cell? (ad.add p)).getD undef)) (fun j u hu => by
        simp only [List.getElem?_map, Option.map_eq_some_iff] at hu
        obtain ⟨p, hp, rfl⟩ := hu
        have hpj : j < ys.length * sz ∧ p = j := by
          rcases Nat.lt_or_ge j (ys.length * sz) with h1 | h1
          · rw [List.getElem?_range h1] at hp; injection hp with hp; exact ⟨h1, hp.symm⟩
          · rw [List.getElem?_eq_none (by simpa using h1)] at hp; cases hp
        obtain ⟨hpj, rfl⟩ := hpj
        obtain ⟨u, hu⟩ := hall p hpj
        rw [World.cell?_of_block (w := w) (by rw [hw']), hu]; rfl)
      simpa [Builtin.firstCells] using this
    · obtain ⟨u, hu, h1, ht⟩ := hcell i j x hx
      refine ⟨u, ?_, h1, ht⟩
      have hi : i < ys.length := by
        obtain ⟨e, he, _⟩ := Option.bind_eq_some_iff.1 hx
        rcases Nat.lt_or_ge i ys.length with h' | h'
        · exact h'
        · rw [List.getElem?_eq_none h'] at he; cases he
      have hj : j < sz := by
        obtain ⟨e, he, hj⟩ := Option.bind_eq_some_iff.1 hx
        rcases Nat.lt_or_ge j e.length with h' | h'
        · rw [hlen e (List.mem_of_getElem? he)] at h'; exact h'
        · rw [List.getElem?_eq_none h'] at hj; cases hj
      have hle : i * sz + sz ≤ ys.length * sz := by have := Nat.mul_le_mul_right sz (show i + 1 ≤ ys.length from hi); rwa [Nat.add_mul, Nat.one_mul] at this
      have hlt : i * sz + j < ys.length * sz := by omega
      simp [hlt, hu]
  cases q <;> simp only [rowOf] at hr <;> try (cases hr; done)
  case nils sz' =>
    injection hr with hr; subst hr
    have : v = .slice none 0 0 := by
      cases hv with
      | tree h => cases h; rfl
    exact hempty _ _ this rfl
  case ro sz' es =>
    injection hr with hr; subst hr
    obtain ⟨A, cap, rfl, hc, hrow⟩ := hv.ro_inv
    by_cases hne : es = []
    · subst hne; exact hempty _ _ rfl rfl
    · obtain ⟨ad, rfl, g1, g2, g3, g4⟩ := hrow hne
      have : sz' = sz := by rcases hsz with h | h; exact absurd h hne; simpa [rowSz] using h
      subst this
      exact hfull ad cap rfl g1 g2 (fun i j x hx => by
        obtain ⟨u, hu, h1, ht⟩ := g4 i j x hx
        exact ⟨u, hu, h1, ht⟩)
  case own b sz' lo n =>
    split at hr <;> try (cases hr; done)
    rename_i ty sz2 es hm
    split at hr <;> try (cases hr; done)
    rename_i hc
    obtain ⟨rfl, hle⟩ := hc
    injection hr with hr
    have hlen : ys.length = n := by rw [← hr]; simp; omega
    by_cases hne : ys = []
    · have hn0 : n = 0 := by rw [← hlen, hne]; rfl
      subst hn0
      obtain ⟨A, cap, rfl, _⟩ := hv.own_slice
      exact hempty _ _ rfl hne
    · have hsz' : sz' = sz := by rcases hsz with h | h; exact absurd h hne; simpa [rowSz] using h
      subst hsz'
      have hpos : 0 < n := by rcases Nat.eq_zero_or_pos n with h0 | h0; exact absurd (List.eq_nil_of_length_eq_zero (by omega)) hne; exact h0
      rcases hv.own_inv with ⟨hv, rfl, rfl⟩ | ⟨ad, hv, rfl, _⟩ | ⟨k, o', cap, hρ, rfl, hn, hroom⟩
      · omega
      · omega
      · have hB := h.mem b _ hm
        simp only [BRel, hρ] at hB
        obtain ⟨cur, hh, hl, _, hcell⟩ := hB
        have hel : ∀ e ∈ ys, e.length = sz' := fun e he => by rw [← hr] at he; exact hl e (List.mem_of_mem_drop (List.mem_of_mem_take he))
        have := hfull ⟨k, o' + lo * sz', none⟩ cap (by rw [hlen]) hs hel (fun i j x hx => by
          rw [← hr] at hx
          have hx' : cellAt es (lo + i) j = some x := by
            simp only [cellAt] at hx ⊢
            obtain ⟨e, he, hj⟩ := Option.bind_eq_some_iff.1 hx
            have hin : i < n := by
              rcases Nat.lt_or_ge i n with h1 | h1
              · exact h1
              · rw [List.getElem?_eq_none (by simp; omega)] at he; cases he
            rw [List.getElem?_take_of_lt hin, List.getElem?_drop] at he
            rw [he]; exact hj
          obtain ⟨u, hu, h1, ht⟩ := hcell _ _ _ hx'
          refine ⟨u, ?_, h1, ht⟩
          rw [add_none]
          simp only [World.cell?, hh]
          rw [if_neg (by simp)]
          rw [← hu]; congr 1; rw [Nat.add_mul]; omega)
        rwa [hlen] at this ⊢

theorem drew_heap (w : World) : (w.drew).heap = w.heap := rfl

/-- The builtin, where there is room. -/
theorem run_append_room {t t' ty el el' : TypeId} {i : TypeInfo} (ht : P.underlying t = some (.slice el)) (ht' : P.underlying t' = some (.slice el')) (hi : P.info? el = some i) {k off n cap : Nat} {v2 : Value} {m : Nat} {tyb : TypeId} {cur : Array Value}
    {A : Option Addr} {c2 : Nat} (hv2 : v2 = .slice A m c2) {news : List Value} (hl : news.length = m * i.size) (hnews : (Builtin.firstCells i.size m v2).run P w = .ok news.toArray w) (h1 : ∀ u ∈ news, one u = true) (hroom : n + m ≤ cap)
    (hh : w.heap[k]? = some (.cells cur tyb (0, 0))) (hfit : off + n * i.size + m * i.size ≤ cur.size) (ats : Array TypeId) (h0 : ats[0]? = some t) (h2 : ats[1]? = some t') :
    (Builtin.append_ ats ty #[.slice (some ⟨k, off, none⟩) n cap, v2]).run P w = .ok (.slice (some ⟨k, off, none⟩) (n + m) cap) (w.setRow k (cur.toList.take (off + n * i.size) ++ news ++ cur.toList.drop (off + n * i.size + news.length)).toArray) := by
  subst hv2
  have hst := run_storeCells_at (P := P) k (off + n * i.size) tyb news 0 cur w hh (by omega) (fun v hv => oneCell_of (h1 v hv))
  simp only [Nat.add_zero] at hst
  simp [Builtin.append_, h0, h2, und ht, und ht', szOf hi, Builtin.lenOf, hroom, hnews, add_none, hst]

theorem run_append_grow {t t' ty el el' : TypeId} {i : TypeInfo} {z : Value} (ht : P.underlying t = some (.slice el)) (ht' : P.underlying t' = some (.slice el')) (hi : P.info? el = some i) (hz : i.zero = some z) {n cap : Nat} {B : Option Addr} {v2 : Value} {m : Nat}
    {A : Option Addr} {c2 : Nat} (hv2 : v2 = .slice A m c2) {olds news : List Value} (hnews : ∀ w' : World, w'.heap = w.heap → (Builtin.firstCells i.size m v2).run P w' = .ok news.toArray w') (holds : ∀ w' : World, w'.heap = w.heap → (Builtin.firstCells i.size n (.slice B n cap)).run P w' = .ok olds.toArray w')
    (hroom : cap < n + m) (hb : (n + m) * i.bytes ≤ 140737488355328) (hb0 : i.bytes ≠ 0) (ats : Array TypeId) (h0 : ats[0]? = some t) (h2 : ats[1]? = some t') :
    (Builtin.append_ ats ty #[.slice B n cap, v2]).run P w = .ok (.slice (some ⟨w.heap.size, 0, none⟩) (n + m) (grownCap w (n + m) cap el)) (w.drew.alloc (.cells (olds.toArray ++ news.toArray ++ Builtin.zeroCells z.cells (grownCap w (n + m) cap el - (n + m))) el)) := by
  subst hv2
  have hnr : ¬ (n + m ≤ cap) := by omega
  have hfit := growslice_fits hroom hb
  have hle : n + m ≤ 140737488355328 := Nat.le_trans (Nat.le_mul_of_pos_right _ (by omega)) hb
  have h63' : ¬ (9223372036854775807 < ((n : Int) + (m : Int))) := by omega
  have h48' : ¬ (281474976710656 < Builtin.nextslicecap (n + m) cap * i.bytes) := by omega
  have hf := hnews w.drew rfl
  have hfo := holds w.drew rfl
  simp [Builtin.append_, h0, h2, und ht, und ht', sizeOf, typeInfo, zeroValue, hi, hz, Builtin.lenOf, hnr, h63', h48', Question.forced, hf, hfo, newRow, grownCap]
  congr 2
  apply Array.ext'
  simp [List.append_assoc]

theorem grown_ge (w : World) (need old : Nat) (e : TypeId) : need ≤ grownCap w need old e := by simp [grownCap, Question.cut]

/-- What an append's own row comes to: abstractly, a row of the old elements and the new ones. -/
theorem append_ok (h : Conc c st ρ a w) {d id ty sz bytes : Nat} {x y : Src} {st' : St} (hc : chkM P o (.append id ty sz bytes x y) = true) (hd : o.dst = some d) (hlt : d < a.tmps.size) (he : exec (some d) (.append id ty sz bytes x y) st = some st') :
    StepOK P c o st' (wrs st (.append id ty sz bytes x y)) ρ a w := by
  simp only [chkM] at hc
  split at hc <;> try (cases hc; done)
  rename_i cl ho
  simp only [Bool.and_eq_true] at hc
  obtain ⟨⟨hcal, hty⟩, hargs⟩ := hc
  split at hcal <;> try (cases hcal; done)
  rename_i hcal'
  split at hty <;> try (cases hty; done)
  rename_i t t' ht0 ht1
  split at hty <;> try (cases hty; done)
  rename_i el el' i hu hu' hi
  simp only [Bool.and_eq_true, beq_iff_eq, bne_iff_ne] at hty
  obtain ⟨⟨⟨⟨⟨rfl, hisz⟩, hby⟩, hsz0⟩, hby0⟩, hzero⟩ := hty
  split at hzero <;> try (cases hzero; done)
  rename_i z hz
  simp only [beq_iff_eq] at hzero
  -- the operands
  obtain ⟨x', y', hargs', hx', hy'⟩ : ∃ x' y', cl.args = #[x', y'] ∧ srcOK x' x = true ∧ srcOK y' y = true := by
    have hl : ∀ l : List Operand, okL l [x, y] = true → ∃ x' y', l = [x', y'] ∧ srcOK x' x = true ∧ srcOK y' y = true := by
      intro l hl
      match l, hl with
      | [p, q], hl => simp only [okL, Bool.and_eq_true] at hl; exact ⟨p, q, rfl, hl.1, hl.2.1⟩
      | [], hl => simp [okL] at hl
      | [p], hl => simp [okL] at hl
      | p :: q :: r :: s, hl => simp [okL] at hl
    obtain ⟨p, q, h1, h2, h3⟩ := hl _ hargs
    exact ⟨p, q, by rw [← Array.toList_inj]; exact h1, h2, h3⟩
  have hrunOf : ∀ v w', (Builtin.append_ cl.argTypes o.type #[a.eval x', a.eval y']).run P w = .ok v w' → (execOp a.eval o).run P w = .ok (.value v) w' := by
    intro v w' hr
    simp [execOp, ho, resolve, hcal', hargs', invoke, builtin, hr]
  have hszp : 0 < sz := by omega
  simp only [exec] at he
  split at he <;> try (cases he; done)
  · -- a row of the call's own
    rename_i d' b sz' lo n q hd' hx hy
    injection hd' with hd'; subst hd'
    split at he <;> try (cases he; done)
    rename_i xs ys ty' sz2 es0 hxs hys hm
    split at he <;> try (cases he; done)
    rename_i hcond
    obtain ⟨rfl, hrs, rfl, hno, hfx, hbound⟩ := hcond
    injection he with he; subst he
    have hws : wrs st (.append id el sz bytes x y) = [b] := by simp [wrs, hx]
    rw [hws]
    have hVx := h.srcs _ _ _ hx' hx
    have hVy := h.srcs _ _ _ hy' hy
    obtain ⟨A2, c2, hv2, hylen, news, hnl, hnrun, hncell⟩ := row_cells (P := P) h hszp hVy hys hrs
    obtain ⟨A1, c1, hv1, hxlen, olds, hol, horun, hocell⟩ := row_cells (P := P) h hszp hVx hxs (.inr rfl)
    have hxn : xs.length = n := by
      simp only [rowOf, hm] at hxs
      split at hxs <;> try (cases hxs; done)
      rename_i hc; injection hxs with hxs; rw [← hxs]; simp; omega
    rw [hxn] at horun hol hv1
    have hn1 : ∀ u ∈ news, one u = true := by
      intro u hu
      obtain ⟨p, hp, rfl⟩ := List.mem_iff_getElem.1 hu
      have hdiv : p / sz < ys.length := Nat.div_lt_of_lt_mul (by rw [Nat.mul_comm]; omega)
      have hmod : p % sz < sz := Nat.mod_lt _ hszp
      have hlen := hylen _ (List.getElem_mem hdiv)
      obtain ⟨u, hu, h1, _⟩ := hncell (p / sz) (p % sz) _ (show cellAt ys (p / sz) (p % sz) = some ((ys[p / sz])[p % sz]'(by omega)) by simp only [cellAt, List.getElem?_eq_getElem hdiv, Option.bind_some]; exact List.getElem?_eq_getElem (by omega))
      rw [show p / sz * sz + p % sz = p from by rw [Nat.mul_comm]; exact Nat.div_add_mod p sz, List.getElem?_eq_getElem hp] at hu
      injection hu with hu; rw [hu]; exact h1
    have hcellX : ∀ (old : List Value) (i j : Nat) x, (xs ++ ys).length = n + ys.length → cellAt (xs ++ ys) i j = some x → ∃ u, (olds ++ news)[i * sz + j]? = some u ∧ one u = true ∧ TRel w (OwnBy c.A ρ) x u := by
      intro _ i j x hlen hx
      obtain ⟨e, he, hj⟩ := Option.bind_eq_some_iff.1 hx
      by_cases hi : i < n
      · rw [List.getElem?_append_left (by omega)] at he
        obtain ⟨u, hu, h1, ht⟩ := hocell i j x (by simp [cellAt, he, hj])
        refine ⟨u, ?_, h1, ht⟩
        have hlt : i * sz + j < olds.length := by
          rcases Nat.lt_or_ge (i * sz + j) olds.length with h' | h'
          · exact h'
          · rw [List.getElem?_eq_none h'] at hu; cases hu
        rw [List.getElem?_append_left hlt]; exact hu
      · rw [List.getElem?_append_right (by omega), hxn] at he
        obtain ⟨u, hu, h1, ht⟩ := hncell (i - n) j x (by simp [cellAt, he, hj])
        refine ⟨u, ?_, h1, ht⟩
        have e1 : n * sz ≤ i * sz := Nat.mul_le_mul_right sz (by omega)
        rw [List.getElem?_append_right (by rw [hol]; omega), hol, ← hu]
        congr 1
        rw [Nat.sub_mul]; omega
    have hlenXY : (xs ++ ys).length = n + ys.length := by simp [hxn]
    have helXY : ∀ e ∈ xs ++ ys, e.length = sz := fun e he => by
      rcases List.mem_append.1 he with h1 | h1
      · exact hxlen e h1
      · exact hylen e h1
    have hgrow : ∀ B cap, a.eval x' = .slice B n cap → cap < n + ys.length → StepOK P c o (St.put { st.kill b with mem := upd (st.kill b).mem b (.arr el sz (xs ++ ys)) } d (.own b sz 0 (n + ys.length))) [b] ρ a w := by
      intro B cap hB hcap
      have hr := run_append_grow (P := P) (ty := o.type) (n := n) (cap := cap) (B := B) hu hu' hi hz hv2 (olds := olds) (news := news) (by rw [hisz]; exact hnrun) (fun w' hw' => by rw [hisz]; have := horun w' hw'; rwa [hB] at this) hcap (by rw [hby]; exact hbound) (by omega) cl.argTypes ht0 ht1
      have hrun := hrunOf _ _ (by rw [hB]; exact hr)
      have hge := grown_ge w (n + ys.length) cap el
      have hrm := h.remake (b := b) (hfx := hfx) (k := w.heap.size) (o' := 0) (blk := .arr el sz (xs ++ ys)) (w' := w.drew.alloc (.cells (olds.toArray ++ news.toArray ++ Builtin.zeroCells z.cells (grownCap w (n + ys.length) cap el - (n + ys.length))) el))
        (by simp) (.inr (Nat.le_refl _)) (by simp) (fun k1 hk1 _ => by simp only [World.alloc, World.drew]; rw [Array.getElem?_push, if_neg (by omega)])
        (fun k1 cur tyq fr hk1 hh => by simp only [World.alloc, World.drew] at hh; rw [Array.getElem?_push, if_neg (by omega)] at hh; exact ⟨cur, tyq, fr, hh, rfl⟩) rfl rfl rfl (fun hk => by
          simp only [BRel, if_true]
          refine ⟨_, push_get w rfl, helXY, ?_, fun p j x hx => ?_⟩
          · simp only [Array.size_append, List.size_toArray, size_zeroCells, hzero, hol, hnl, hlenXY, Nat.add_mul]
            omega
          · obtain ⟨u, hu, h1, ht⟩ := hcellX olds p j x hlenXY hx
            refine ⟨u, ?_, h1, ht.keep hk.toKeeps⟩
            rw [Nat.zero_add, Array.getElem?_append_left]
            · rw [show olds.toArray ++ news.toArray = (olds ++ news).toArray from by simp]; simpa using hu
            · rcases Nat.lt_or_ge (p * sz + j) (olds ++ news).length with h' | h'
              · simpa using h'
              · rw [List.getElem?_eq_none h'] at hu; cases hu)
      refine ⟨.value _, _, (fun b' => if b' = b then some (w.heap.size, 0) else ρ b'), _, hrun, .inl rfl, ?_, fun k1 hk1 _ => by simp only [World.alloc, World.drew]; rw [Array.getElem?_push, if_neg (by omega)], fun b' k1 o1 hρ => ?_⟩
      · rw [hd]
        refine hrm.put hlt ?_
        have := VRel.own (w := w.drew.alloc (.cells (olds.toArray ++ news.toArray ++ Builtin.zeroCells z.cells (grownCap w (n + ys.length) cap el - (n + ys.length))) el)) (Own := OwnBy c.A (fun b' => if b' = b then some (w.heap.size, 0) else ρ b')) (ρ := fun b' => if b' = b then some (w.heap.size, 0) else ρ b') (b := b) (sz := sz) (lo := 0) (n := n + ys.length) (k := w.heap.size) (o := 0) (cap := grownCap w (n + ys.length) cap el) (by simp) hge (fun cur tyq fr hh => by
          rw [push_get w rfl] at hh
          injection hh with hh; injection hh with hh _ _
          rw [← hh]
          simp only [Array.size_append, List.size_toArray, size_zeroCells, hzero, hol, hnl, Nat.zero_add]
          rw [← Nat.add_mul, ← Nat.add_mul]
          exact Nat.mul_le_mul_right _ (by omega))
        simpa using this
      · replace hρ : (if b' = b then some (w.heap.size, 0) else ρ b') = some (k1, o1) := hρ
        split at hρ
        · rename_i e; injection hρ with hρ; injection hρ with h1 h2; exact .inr ⟨by simp [e], .inl (by omega)⟩
        · exact .inl hρ
    have hsame : ∀ (ρv : Value), ys = [] → a.eval x' = ρv → (∀ w', (Builtin.append_ cl.argTypes o.type #[a.eval x', a.eval y']).run P w' = .ok ρv w') → (∀ Own' (ρ' : Map), (∀ b' k o', ρ b' = some (k, o') → ρ' b' = some (k, o')) → VRel w Own' ρ' (.own b sz 0 0) ρv) → n = 0 → StepOK P c o (St.put { st.kill b with mem := upd (st.kill b).mem b (.arr el sz (xs ++ ys)) } d (.own b sz 0 (n + ys.length))) [b] ρ a w := by
      intro ρv hys0 hev hrun hvr hn0
      have hxs0 : xs = [] := List.eq_nil_of_length_eq_zero (by omega)
      rw [hys0, hxs0, hn0]
      cases hρb : ρ b with
      | none =>
        have hk := (h.kill b hfx).virt (b := b) (by simp) el sz
        refine ⟨.value ρv, w, (fun b' => if b' = b then none else ρ b'), ρv, hrunOf _ _ (hrun w), .inl rfl, ?_, fun _ _ _ => rfl, fun b' k1 o1 hρ => ?_⟩
        · rw [hd]
          refine hk.put hlt (hvr _ _ (fun b' k o' hρ => ?_))
          split
          · rename_i e; subst e; rw [hρb] at hρ; cases hρ
          · exact hρ
        · replace hρ : (if b' = b then none else ρ b') = some (k1, o1) := hρ
          split at hρ
          · cases hρ
          · exact .inl hρ
      | some p =>
        obtain ⟨k, o'⟩ := p
        have hB := h.mem b _ hm
        simp only [BRel, hρb] at hB
        obtain ⟨cur, hh, _, hsc, _⟩ := hB
        have hrm := h.remake (b := b) (hfx := hfx) (k := k) (o' := o') (blk := .arr el sz []) (w' := w) (Nat.le_refl _) (.inl ⟨o', hρb⟩) (h.lt _ _ _ hρb) (fun _ _ _ => rfl) (fun k1 cur tyq fr _ hh => ⟨cur, tyq, fr, hh, rfl⟩) rfl rfl rfl (fun hk => by
          simp only [BRel, if_true]
          exact ⟨cur, hh, by simp, by simp; omega, fun p j x hx => by simp [cellAt] at hx⟩)
        refine ⟨.value ρv, w, (fun b' => if b' = b then some (k, o') else ρ b'), ρv, hrunOf _ _ (hrun w), .inl rfl, ?_, fun _ _ _ => rfl, fun b' k1 o1 hρ => ?_⟩
        · rw [hd]
          refine hrm.put hlt (hvr _ _ (fun b' k1 o1 hρ => ?_))
          split
          · rename_i e; subst e; rw [hρb] at hρ; exact hρ
          · exact hρ
        · replace hρ : (if b' = b then some (k, o') else ρ b') = some (k1, o1) := hρ
          split at hρ
          · rename_i e; subst e; exact .inl (hρb.trans hρ)
          · exact .inl hρ
    rcases hVx.own_inv with ⟨hv, hlo, hn0⟩ | ⟨ad, hv, hn0, k, o', hρ, hk⟩ | ⟨k, o', cap, hρ, hv, hncap, hroom⟩
    · by_cases hys0 : ys = []
      · refine hsame (.slice none 0 0) hys0 hv (fun w' => ?_) (fun _ _ _ => .ownnil) hn0
        rw [hv2, hys0] at hnrun ⊢
        have : (Builtin.firstCells i.size 0 (.slice A2 0 c2)).run P w' = .ok #[] w' := by cases A2 <;> simp [Builtin.firstCells, loadCells, loadCellsFrom]
        simp [Builtin.append_, hv, ht0, ht1, und hu, und hu', szOf hi, Builtin.lenOf, this]
      · refine hgrow _ _ (by rw [hv, hn0]) ?_
        have : 0 < ys.length := List.length_pos_iff.2 hys0
        omega
    · by_cases hys0 : ys = []
      · refine hsame (.slice (some ad) 0 0) hys0 hv (fun w' => ?_) (fun _ ρ' hρ' => .ownz (hρ' _ _ _ (by rw [hk]; exact hρ))) hn0
        rw [hv2, hys0] at hnrun ⊢
        have : (Builtin.firstCells i.size 0 (.slice A2 0 c2)).run P w' = .ok #[] w' := by cases A2 <;> simp [Builtin.firstCells, loadCells, loadCellsFrom]
        simp [Builtin.append_, hv, ht0, ht1, und hu, und hu', szOf hi, Builtin.lenOf, this, storeCells]
      · refine hgrow _ _ (by rw [hv, hn0]) ?_
        have : 0 < ys.length := List.length_pos_iff.2 hys0
        omega
    · by_cases hcap : n + ys.length ≤ cap
      · have hB := h.mem b _ hm
        simp only [BRel, hρ] at hB
        obtain ⟨cur, hh, _, hsc, _⟩ := hB
        have hrm0 := hroom _ _ _ hh
        have hcapm : (n + ys.length) * sz ≤ cap * sz := Nat.mul_le_mul_right sz hcap
        rw [Nat.add_mul] at hrm0 hcapm
        have hr := run_append_room (P := P) (ty := o.type) (off := o' + lo * sz) (n := n) (cap := cap) hu hu' hi hv2 (news := news) (by rw [hisz]; exact hnl) (by rw [hisz]; exact hnrun w rfl) hn1 hcap hh (by rw [hisz]; omega) cl.argTypes ht0 ht1
        rw [hisz] at hr
        have hrun := hrunOf _ _ (by rw [hv]; exact hr)
        have hsplice := splice_get cur.toList (o' + lo * sz + n * sz) news (by simp; omega)
        have hget : ∀ p, ((cur.toList.take (o' + lo * sz + n * sz) ++ news ++ cur.toList.drop (o' + lo * sz + n * sz + news.length)).toArray)[p]? = if o' + lo * sz + n * sz ≤ p ∧ p < o' + lo * sz + n * sz + news.length then news[p - (o' + lo * sz + n * sz)]? else cur[p]? := by
          intro p; have := hsplice p; simpa using this
        have hszc : ((cur.toList.take (o' + lo * sz + n * sz) ++ news ++ cur.toList.drop (o' + lo * sz + n * sz + news.length)).toArray).size = cur.size := by simp; omega
        generalize (cur.toList.take (o' + lo * sz + n * sz) ++ news ++ cur.toList.drop (o' + lo * sz + n * sz + news.length)).toArray = cur' at hrun hget hszc
        have hset := setRow_get w k cur cur' _ _ hh
        have hrowsz : ∀ k1 cur1 ty1 fr1, k1 < w.heap.size → (w.setRow k cur').heap[k1]? = some (.cells cur1 ty1 fr1) → ∃ cur0 ty0 fr0, w.heap[k1]? = some (.cells cur0 ty0 fr0) ∧ cur0.size = cur1.size := by
          intro k1 cur1 ty1 fr1 _ hh1
          by_cases e : k1 = k
          · subst e
            rw [hset] at hh1; injection hh1 with hh1; injection hh1 with h1 _ _
            exact ⟨cur, _, _, hh, by rw [← h1, hszc]⟩
          · rw [setRow_far w k cur' k1 e] at hh1; exact ⟨cur1, ty1, fr1, hh1, rfl⟩
        have holdc : ∀ i j x, cellAt xs i j = some x → ∃ u, cur[o' + (lo + i) * sz + j]? = some u ∧ one u = true ∧ TRel w (OwnBy c.A ρ) x u := by
          intro i j x hx
          simp only [rowOf, hm] at hxs
          split at hxs <;> try (cases hxs; done)
          rename_i hcx
          injection hxs with hxs
          rw [← hxs] at hx
          have hx' : cellAt es0 (lo + i) j = some x := by
            simp only [cellAt] at hx ⊢
            obtain ⟨e, he, hj⟩ := Option.bind_eq_some_iff.1 hx
            have hin : i < n := by
              rcases Nat.lt_or_ge i n with h1 | h1
              · exact h1
              · rw [List.getElem?_eq_none (by simp; omega)] at he; cases he
            rw [List.getElem?_take_of_lt hin, List.getElem?_drop] at he
            rw [he]; exact hj
          have hB2 := h.mem b _ hm
          simp only [BRel, hρ] at hB2
          obtain ⟨cur2, hh2, _, _, hcell2⟩ := hB2
          rw [hh] at hh2; injection hh2 with hh2; injection hh2 with hh2 _ _; subst hh2
          obtain ⟨u, hu, h1, ht⟩ := hcell2 _ _ _ hx'
          obtain ⟨rfl, _⟩ := hcx
          exact ⟨u, by rw [← hu]; congr 1; omega, h1, ht⟩
        have hrm := h.remake (b := b) (hfx := hfx) (k := k) (o' := o' + lo * sz) (blk := .arr el sz (xs ++ ys)) (w' := w.setRow k cur') (by rw [setRow_size]; exact Nat.le_refl _) (.inl ⟨o', hρ⟩) (by rw [setRow_size]; exact h.lt _ _ _ hρ)
          (fun k1 _ hk1 => setRow_far w k cur' k1 (by rintro rfl; exact hk1 o' hρ)) hrowsz rfl rfl rfl (fun hk => by
            simp only [BRel, if_true]
            have hty : ∀ ty, w.heap[k]? = some (.cells cur ty (0, 0)) → (w.setRow k cur').heap[k]? = some (.cells cur' ty (0, 0)) := fun ty hq => setRow_get w k cur cur' ty _ hq
            have hB2 := h.mem b _ hm
            simp only [BRel, hρ] at hB2
            obtain ⟨cur2, hh2, _⟩ := hB2
            have hc2 : cur2 = cur := by rw [hh] at hh2; injection hh2 with hh2; injection hh2 with hh2 _ _; exact hh2.symm
            subst hc2
            refine ⟨cur', hty _ hh2, helXY, by rw [hlenXY, hszc, Nat.add_mul]; omega, fun p j x hx => ?_⟩
            obtain ⟨e, he, hj⟩ := Option.bind_eq_some_iff.1 hx
            have hjs : j < sz := by
              rcases Nat.lt_or_ge j e.length with h' | h'
              · rw [helXY e (List.mem_of_getElem? he)] at h'; exact h'
              · rw [List.getElem?_eq_none h'] at hj; cases hj
            by_cases hpn : p < n
            · rw [List.getElem?_append_left (by omega)] at he
              obtain ⟨u, hu, h1, ht⟩ := holdc p j x (by simp [cellAt, he, hj])
              have hle : p * sz + sz ≤ n * sz := by have := Nat.mul_le_mul_right sz (show p + 1 ≤ n from hpn); rwa [Nat.add_mul, Nat.one_mul] at this
              refine ⟨u, ?_, h1, ht.keep hk.toKeeps⟩
              rw [hget, if_neg (by omega), ← hu]
              congr 1; rw [Nat.add_mul]; omega
            · rw [List.getElem?_append_right (by omega), hxn] at he
              obtain ⟨u, hu, h1, ht⟩ := hncell (p - n) j x (by simp [cellAt, he, hj])
              refine ⟨u, ?_, h1, ht.keep hk.toKeeps⟩
              have e1 : n * sz ≤ p * sz := Nat.mul_le_mul_right sz (by omega)
              have e2 : (p - n) * sz + j < news.length := by
                rcases Nat.lt_or_ge ((p - n) * sz + j) news.length with h' | h'
                · exact h'
                · rw [List.getElem?_eq_none h'] at hu; cases hu
              rw [Nat.sub_mul] at e2 hu
              rw [hget, if_pos (by omega), ← hu]
              congr 1; omega)
        refine ⟨.value _, _, (fun b' => if b' = b then some (k, o' + lo * sz) else ρ b'), _, hrun, .inl rfl, ?_, fun k1 hk1 hk2 => setRow_far w k cur' k1 (by rintro rfl; exact hk2 b o' (by simp) hρ), fun b' k1 o1 hρ' => ?_⟩
        · rw [hd]
          refine hrm.put hlt ?_
          have := VRel.own (w := w.setRow k cur') (Own := OwnBy c.A (fun b' => if b' = b then some (k, o' + lo * sz) else ρ b')) (ρ := fun b' => if b' = b then some (k, o' + lo * sz) else ρ b') (b := b) (sz := sz) (lo := 0) (n := n + ys.length) (k := k) (o := o' + lo * sz) (cap := cap) (by simp) hcap (fun cur1 ty1 fr1 hh1 => by
            rw [hset] at hh1; injection hh1 with hh1; injection hh1 with h1 _ _
            rw [← h1, hszc]; simp; omega)
          simpa using this
        · replace hρ' : (if b' = b then some (k, o' + lo * sz) else ρ b') = some (k1, o1) := hρ'
          split at hρ'
          · rename_i e; subst e
            injection hρ' with hρ'; injection hρ' with h1 h2
            exact .inr ⟨by simp, .inr ⟨b', by simp, o', by rw [← h1]; exact hρ⟩⟩
          · exact .inl hρ'
      · exact hgrow _ _ hv (by omega)
  · -- nil
    rename_i d' sz' q hd' hx hy
    injection hd' with hd'; subst hd'
    split at he <;> try (cases he; done)
    rename_i ys hys
    split at he <;> try (cases he; done)
    rename_i hcond
    obtain ⟨rfl, hrs, hno, hfx, hbound⟩ := hcond
    injection he with he; subst he
    have hws : wrs st (.append id el sz bytes x y) = [id] := by simp [wrs, hx]
    rw [hws]
    have hVy := h.srcs _ _ _ hy' hy
    have hv : a.eval x' = .slice none 0 0 := by
      have := h.srcs _ _ _ hx' hx
      generalize a.eval x' = v at this
      cases this with
      | tree h => cases h; rfl
    obtain ⟨A2, c2, hv2, hylen, news, hnl, hnrun, hncell⟩ := row_cells (P := P) h hszp hVy hys hrs
    refine StepOK.of_fresh (id := id) h hfx (fun ρ0 h0 h1 h2 hf0 h3 => ?_)
    -- what the new elements say, of the smaller state
    have hnc0 : ∀ i j x, cellAt ys i j = some x → ∃ u, news[i * sz + j]? = some u ∧ one u = true ∧ TRel w (OwnBy c.A ρ0) x u := by
      intro i j x hx
      obtain ⟨u, hu, h1', ht⟩ := hncell i j x hx
      refine ⟨u, hu, h1', ht.keep ⟨Nat.le_refl _, fun _ _ _ => rfl, fun k _ hk => ?_⟩⟩
      rcases hk with hk | ⟨b', o', hk⟩
      · exact .inl hk
      · exact .inr ⟨b', o', h3 _ _ _ hk⟩
    by_cases hys0 : ys = []
    · have hrun := hrunOf (.slice none 0 0) w (by
        rw [hv2, hys0, hv]
        have : (Builtin.firstCells i.size 0 (.slice A2 0 c2)).run P w = .ok #[] w := by cases A2 <;> simp [Builtin.firstCells, loadCells, loadCellsFrom]
        simp [Builtin.append_, ht0, ht1, und hu, und hu', szOf hi, Builtin.lenOf, this])
      subst hys0
      refine ⟨.value (.slice none 0 0), w, ρ0, .slice none 0 0, hrun, .inl rfl, ?_, fun _ _ _ => rfl, fun b' k1 o1 hρ => .inl hρ⟩
      rw [hd]
      exact (h0.virt h1 el sz).put hlt (.ownnil)
    · have hpos : 0 < ys.length := List.length_pos_iff.2 hys0
      have hr := run_append_grow (P := P) (w := w) (ty := o.type) (n := 0) (cap := 0) (B := none) hu hu' hi hz hv2 (olds := []) (news := news) (by rw [hisz]; exact hnrun) (fun w' hw' => by simp [Builtin.firstCells]) (by omega) (by rw [hby]; simpa using hbound) (by omega) cl.argTypes ht0 ht1
      have hrun := hrunOf _ _ (by rw [hv]; exact hr)
      have hge := grown_ge w (0 + ys.length) 0 el
      refine new_ok (cells := (([] : List Value).toArray ++ news.toArray ++ Builtin.zeroCells z.cells (grownCap w (0 + ys.length) 0 el - (0 + ys.length)))) (ty := el) (w' := w.drew.alloc (.cells (([] : List Value).toArray ++ news.toArray ++ Builtin.zeroCells z.cells (grownCap w (0 + ys.length) 0 el - (0 + ys.length))) el)) h0 hf0 hd hlt h1 h2 hrun rfl rfl rfl rfl (fun ρ' hρ' hk => ?_) (fun Own' ρ' hρ' => ?_)
      · simp only [BRel, hρ']
        refine ⟨_, push_get w rfl, hylen, ?_, fun p j x hx => ?_⟩
        · simp only [Array.size_append, List.size_toArray, size_zeroCells, hzero, hnl, List.length_nil]
          omega
        · obtain ⟨u, hu, h1', ht⟩ := hnc0 p j x hx
          refine ⟨u, ?_, h1', ht.keep hk.toKeeps⟩
          rw [Nat.zero_add, Array.getElem?_append_left]
          · simpa using hu
          · rcases Nat.lt_or_ge (p * sz + j) news.length with h' | h'
            · simpa using h'
            · rw [List.getElem?_eq_none h'] at hu; cases hu
      · have := VRel.own (w := w.drew.alloc (.cells (([] : List Value).toArray ++ news.toArray ++ Builtin.zeroCells z.cells (grownCap w (0 + ys.length) 0 el - (0 + ys.length))) el)) (Own := Own') (ρ := ρ') (b := id) (sz := sz) (lo := 0) (n := 0 + ys.length) (k := w.heap.size) (o := 0) (cap := grownCap w (0 + ys.length) 0 el) hρ' hge (fun cur tyq fr hh => by
          rw [push_get w rfl] at hh
          injection hh with hh; injection hh with hh _ _
          rw [← hh]
          simp only [Array.size_append, List.size_toArray, size_zeroCells, hzero, hnl, List.length_nil, Nat.zero_add]
          rw [← Nat.add_mul]
          exact Nat.mul_le_mul_right _ (by omega))
        simpa using this
end
end Go.SX
