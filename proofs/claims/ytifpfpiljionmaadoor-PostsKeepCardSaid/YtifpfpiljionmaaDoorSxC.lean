/- SX, part C: operations that read, make and write memory. -/
import Derived.Test.YtifpfpiljionmaaDoorSxB
import Derived.Laws.CopyRow
import Derived.Great.BuildSlice
set_option linter.unusedVariables false
set_option linter.unusedSimpArgs false
namespace Go.SX
open Go

/-- May it lie in a row? -/
def isTree : AV → Bool
  | .lit _ | .nils _ | .ro _ _ | .fn _ [] => true
  | _ => false
/-- May it lie in a variable? -/
def isCell : AV → Bool
  | .agg _ | .tup _ | .dead => false
  | _ => true

theorem VRel.toTree {w : World} {Own : Nat → Prop} {ρ : Map} {x : AV} {v : Value} (ht : isTree x = true) (h : VRel w Own ρ x v) : TRel w Own x v := by
  cases h with
  | tree h => exact h
  | fn hl h =>
    rename_i f cs vs
    cases cs with
    | nil => exact .fn hl (fun i x hx => by simp at hx)
    | cons _ _ => simp [isTree] at ht
  | _ => simp [isTree] at ht

theorem one_of_cell {w : World} {Own : Nat → Prop} {ρ : Map} {x : AV} {v : Value} (hc : isCell x = true) (h : VRel w Own ρ x v) : one v = true := by
  cases h with
  | tree h =>
    cases h with
    | lit hf => cases v <;> first | rfl | (simp [flat] at hf)
    | agg => simp [isCell] at hc
    | tup => simp [isCell] at hc
    | _ => rfl
  | agg => simp [isCell] at hc
  | tup => simp [isCell] at hc
  | dead => simp [isCell] at hc
  | _ => rfl

theorem tree_cell {x : AV} (h : isTree x = true) : isCell x = true := by cases x <;> simp_all [isTree, isCell]

theorem cellsA_cell {x : AV} (h : isCell x = true) : cellsA x = some [x] := by cases x <;> simp_all [isCell, cellsA]

theorem oneCell_of {v : Value} (h : one v = true) : v.oneCell' = true := by cases v <;> simp_all [one, Value.oneCell']

/-- The cells that a pointer leads to. -/
def lv (m : Mem) (n : Nat) : AV → Option (List AV)
  | .ptr b sz i j => match look m b with
    | some (.arr _ sz' es) => if sz = sz' ∧ j + n ≤ sz then (es[i]?).map fun e => (e.drop j).take n else none
    | some (.obj _ cs) => if i * sz + j + n ≤ cs.length then some ((cs.drop (i * sz + j)).take n) else none
    | none => none
  | .rop sz es i j => if j + n ≤ sz then (es[i]?).map fun e => (e.drop j).take n else none
  | _ => none

def killS (b : Nat) (l : Slots) : Slots := l.map fun p => (p.1, kill b p.2)
def killB (b : Nat) : Blk → Blk
  | .arr ty sz es => .arr ty sz es
  | .obj ty cs => .obj ty (killL b cs)
/-- Block 'b' is nobody's any more; nothing leads to it. -/
def St.kill (st : St) (b : Nat) : St := ⟨killS b st.slots, (drop st.mem b).map fun p => (p.1, killB b p.2), st.fixed⟩
def St.fresh (st : St) (b : Nat) : St := match look st.mem b with
  | none => st
  | some _ => st.kill b

theorem look_mapv {α β : Type} (f : α → β) : ∀ (l : List (Nat × α)) (d : Nat), look (l.map fun p => (p.1, f p.2)) d = (look l d).map f
  | [], _ => rfl
  | (k, v) :: r, d => by
    simp only [List.map_cons, look]
    split
    · rfl
    · exact look_mapv f r d

def rowOf (st : St) : AV → Option (List (List AV))
  | .nils _ => some []
  | .ro _ es => some es
  | .own b sz lo n => match look st.mem b with
    | some (.arr _ sz' es) => if sz = sz' ∧ lo + n ≤ es.length then some ((es.drop lo).take n) else none
    | _ => none
  | _ => none

def rowSz : AV → Option Nat
  | .ro sz _ => some sz
  | .own _ sz _ _ => some sz
  | .nils sz => some sz
  | _ => none

def notOn (b : Nat) : AV → Bool
  | .own b' _ _ _ => b' != b
  | _ => true

def mapCells : List AV → Option (List (List AV))
  | [] => some []
  | x :: r => match cellsA x, mapCells r with
    | some c, some cs => some (c :: cs)
    | _, _ => none

/-- One operation on a state. -/
def exec (d : Option Nat) (ao : AOp) (st : St) : Option St :=
  match ao with
  | .load n g x => match d, st.src x with
    | some d, some p => match lv st.mem n p with
      | some cs => match mkv g cs with
        | some r => some (st.put d r)
        | none => none
      | none => none
    | _, _ => none
  | .store n x v => match d, st.src x, (st.src v).bind cellsA with
    | none, some (.ptr b sz i j), some xs => if xs.length = n then match look st.mem b with
        | some (.arr ty sz' es) => match es[i]? with
          | some e => if sz = sz' ∧ j + n ≤ sz ∧ xs.all isTree = true then some { st with mem := upd st.mem b (.arr ty sz (es.set i (e.take j ++ xs ++ e.drop (j + n)))) } else none
          | none => none
        | some (.obj ty cs) => if i * sz + j + n ≤ cs.length ∧ xs.all isCell = true then some { st with mem := upd st.mem b (.obj ty (cs.take (i * sz + j) ++ xs ++ cs.drop (i * sz + j + n))) } else none
        | none => none
        else none
    | _, _, _ => none
  | .alloc id ty zero => match d with
    | some d => if st.fixed.contains id = true then none else let s := st.fresh id; some (St.put { s with mem := upd s.mem id (.obj ty zero) } d (.ptr id 0 0 0))
    | none => none
  | .box id ty n x => if st.fixed.contains id = true then none else let s := st.fresh id; match d, (s.src x).bind cellsA with
    | some d, some xs => if xs.length = n ∧ xs.all isCell = true then some (St.put { s with mem := upd s.mem id (.obj ty xs) } d (.ptr id 0 0 0)) else none
    | _, _ => none
  | .bslice id ty sz xs => if st.fixed.contains id = true then none else let s := st.fresh id; match d, (srcsOf s.src xs).bind mapCells with
    | some d, some es => if es.all (fun e => e.length == sz && e.all isTree) = true then some (St.put { s with mem := upd s.mem id (.arr ty sz es) } d (.own id sz 0 es.length)) else none
    | _, _ => none
  | .mkslice id ty sz bytes zero n => if st.fixed.contains id = true then none else let s := st.fresh id; match d, s.src n with
    | some d, some (.lit (.int k q)) => if 0 ≤ q ∧ q * bytes ≤ 281474976710656 ∧ k = .i64 then some (St.put { s with mem := upd s.mem id (.arr ty sz (List.replicate q.toNat zero)) } d (.own id sz 0 q.toNat)) else none
    | _, _ => none
  | .mkrow id ty sz bytes zero n => if st.fixed.contains id = true then none else let s := st.fresh id; match d, s.src n with
    | some d, some (.lit (.int k q)) => if 0 ≤ q ∧ q * bytes ≤ 281474976710656 ∧ k = .i64 then some (St.put { s with mem := upd s.mem id (.obj ty (List.replicate q.toNat zero).flatten) } d (.own id sz 0 q.toNat)) else none
    | _, _ => none
  | .append id ty sz bytes x y => match d, st.src x, st.src y with
    | some d, some (.own b sz' lo n), some q => match rowOf st (.own b sz' lo n), rowOf st q, look st.mem b with
      | some xs, some ys, some (.arr ty' _ _) => if sz = sz' ∧ (ys = [] ∨ rowSz q = some sz) ∧ ty = ty' ∧ notOn b q = true ∧ st.fixed.contains b = false ∧ (n + ys.length) * bytes ≤ 140737488355328 then
          let s := st.kill b
          some (St.put { s with mem := upd s.mem b (.arr ty sz (xs ++ ys)) } d (.own b sz 0 (n + ys.length))) else none
      | _, _, _ => none
    | some d, some (.nils sz'), some q => match rowOf st q with
      | some ys => if sz = sz' ∧ (ys = [] ∨ rowSz q = some sz) ∧ notOn id q = true ∧ st.fixed.contains id = false ∧ ys.length * bytes ≤ 140737488355328 then
          let s := st.fresh id
          some (St.put { s with mem := upd s.mem id (.arr ty sz ys) } d (.own id sz 0 ys.length)) else none
      | none => none
    | _, _, _ => none
  | _ => match d, pv st.src ao with
    | some d, some r => some (st.put d r)
    | _, _ => none

/-- The blocks that an operation writes. -/
def wrs (st : St) : AOp → List Nat
  | .store _ x _ => match st.src x with
    | some (.ptr b _ _ _) => [b]
    | _ => []
  | .append id _ _ _ x _ => match st.src x with
    | some (.own b _ _ _) => [b]
    | _ => [id]
  | .alloc id _ _ => [id]
  | .box id _ _ _ => [id]
  | .bslice id _ _ _ => [id]
  | .mkslice id _ _ _ _ _ => [id]
  | .mkrow id _ _ _ _ _ => [id]
  | _ => []

/-- Does the program's operation do what is told? -/
def chkM (P : Program) (o : Oper) : AOp → Bool
  | .load n g x => match o.op with | .load t y => shape1 P t n g && n != 0 && srcOK y x | _ => false
  | .store n x v => match o.op with | .store t y z => (match P.info? t with | some i => i.size == n | none => false) && srcOK y x && srcOK z v | _ => false
  | .alloc _ ty zero => match o.op with | .alloc t => t == ty && zeroOK P t zero && zero.all isCell | _ => false
  | .box _ ty _ x => match o.op with | .box t y => t == ty && srcOK y x | _ => false
  | .bslice _ ty sz xs => match o.op with
    | .buildSlice t n ps => (match P.underlying t, P.info? ty with
      | some (.slice e), some i => e == ty && i.size == sz && sz != 0 && (match i.zero with | some _ => true | none => false)
      | _, _ => false) && n == xs.length && decide (n * sz ≤ 16777216) && ps.toList.map (·.1) == List.range n && okL (ps.toList.map (·.2)) xs
    | _ => false
  | .mkslice _ ty sz bytes zero n => match o.op with
    | .makeSlice t y z => (match P.underlying t, P.info? ty with
      | some (.slice e), some i => e == ty && i.size == sz && i.bytes == bytes && sz != 0 && bytes != 0
      | _, _ => false) && zeroOK P ty zero && zero.all isTree && zero.length == sz && srcOK y n && srcOK z n
    | _ => false
  | .mkrow _ ty sz bytes zero n => match o.op with
    | .makeSlice t y z => (match P.underlying t, P.info? ty with
      | some (.slice e), some i => e == ty && i.size == sz && i.bytes == bytes && sz != 0 && bytes != 0
      | _, _ => false) && zeroOK P ty zero && zero.all isTree && zero.length == sz && srcOK y n && srcOK z n
    | _ => false
  | .append _ ty sz bytes x y => match o.op with
    | .call c => (match c.callee with | .builtin .append => true | _ => false) && (match c.argTypes[0]?, c.argTypes[1]? with
      | some t, some t' => (match P.underlying t, P.underlying t', P.info? ty with
        | some (.slice e), some (.slice _), some i => e == ty && i.size == sz && i.bytes == bytes && sz != 0 && bytes != 0 && (match i.zero with | some z => z.cells.size == sz | none => false)
        | _, _, _ => false)
      | _, _ => false) && okL c.args.toList [x, y]
    | _ => false
  | ao => chk P o ao

/-- What a step of one operation comes to. -/
def StepOK (P : Program) (c : Ctx) (o : Oper) (st' : St) (ws : List Nat) (ρ : Map) (a : Act) (w : World) : Prop :=
  ∃ r w' ρ' v, (execOp a.eval o).run P w = .ok r w' ∧ (r = .value v ∨ r = .skip ∧ v = undef) ∧ Conc c st' ρ' (a.put o.dst v) w' ∧
    (∀ k, k < w.heap.size → (∀ b o', b ∈ ws → ρ b ≠ some (k, o')) → w'.heap[k]? = w.heap[k]?) ∧ (∀ b k o', ρ' b = some (k, o') → ρ b = some (k, o') ∨ (b ∈ ws ∧ (w.heap.size ≤ k ∨ ∃ b0 ∈ ws, ∃ o2, ρ b0 = some (k, o2))))

section
variable {P : Program} {c : Ctx} {o : Oper} {st : St} {ρ : Map} {a : Act} {w : World}

theorem own_iff {A : Nat → Prop} {ρ ρ' : Map} (h : ∀ b, ρ' b = ρ b) (k : Nat) : OwnBy A ρ' k ↔ OwnBy A ρ k := by simp [OwnBy, h]

/-- Block 'b' is let go. -/
theorem Conc.kill (h : Conc c st ρ a w) (b : Nat) (hfx : st.fixed.contains b = false) : Conc c (st.kill b) (fun x => if x = b then none else ρ x) a w := by
  have hk : KeepsV w w (OwnBy c.A ρ) (OwnBy c.A (fun x => if x = b then none else ρ x)) ρ (fun x => if x = b then none else ρ x) (fun k => k ≠ b) := {
    size := Nat.le_refl _
    same := fun _ _ _ => rfl
    own := fun k _ hk => by
      rcases hk with hk | ⟨b', o', hk⟩
      · exact .inl hk
      · replace hk : (if b' = b then none else ρ b') = some (k, o') := hk
        split at hk
        · cases hk
        · exact .inr ⟨b', o', hk⟩
    map := fun b' hb' k o' hρ => by simp only [hb', if_false]; exact hρ
    rows := fun k cur ty fr _ hh => ⟨cur, ty, fr, hh, rfl⟩
    lt := h.lt }
  have hm : ∀ b' blk', look (st.kill b).mem b' = some blk' → b' ≠ b ∧ ∃ blk, look st.mem b' = some blk ∧ blk' = killB b blk := by
    intro b' blk' hl
    simp only [St.kill, look_mapv, look_drop] at hl
    split at hl
    · simp at hl
    · rename_i hne
      obtain ⟨blk, h1, h2⟩ := Option.map_eq_some_iff.1 hl
      exact ⟨hne, blk, h1, h2.symm⟩
  refine { slots := ?_, defers := h.defers, mem := ?_, dom := ?_, lt := ?_, inj := ?_, mine := ?_, far := ?_, fix := fun b' hb' => by rw [if_neg (by rintro rfl; simp at hfx; exact hfx hb')]; exact h.fix b' hb', alt := h.alt, os := h.os, tape := h.tape, output := h.output, size := h.size, frame := h.frame, rows := h.rows }
  · intro d x hx
    simp only [St.kill, killS, look_mapv] at hx
    obtain ⟨y, hy, rfl⟩ := Option.map_eq_some_iff.1 hx
    exact ((h.slots d y hy).kill b).keep hk (refs_kill b y)
  · intro b' blk' hl
    obtain ⟨hne, blk, hl', rfl⟩ := hm b' blk' hl
    have hB := h.mem b' blk hl'
    cases blk with
    | arr ty sz es => exact hB.keep hk (by simp [hne]) (fun _ _ _ => rfl) (fun _ _ h => by cases h)
    | obj ty cs =>
      have hB2 : BRel w (OwnBy c.A ρ) ρ b' (.obj ty (killL b cs)) := by
        obtain ⟨k, cur, h0, h1, h2, h3⟩ := hB
        refine ⟨k, cur, h0, h1, by rw [killL_length]; exact h2, fun j x hx => ?_⟩
        rw [killL_get] at hx
        obtain ⟨y, hy, rfl⟩ := Option.map_eq_some_iff.1 hx
        obtain ⟨v, hv, h1v, ht⟩ := h3 j y hy
        exact ⟨v, hv, h1v, ht.kill b⟩
      exact hB2.keep hk (by simp [hne]) (fun _ _ _ => rfl) (fun _ _ h => by cases h; exact refs_killL b cs)
  · intro b' k o' hρ
    split at hρ
    · cases hρ
    · rename_i hne
      obtain ⟨blk, hl⟩ := h.dom b' k o' hρ
      exact ⟨killB b blk, by simp [St.kill, look_mapv, look_drop, hne, hl]⟩
  · intro b' k o' hρ
    split at hρ
    · cases hρ
    · exact h.lt _ _ _ hρ
  · intro b1 b2 k o1 o2 h1 h2
    split at h1 <;> split at h2 <;> first | (cases h1; done) | (cases h2; done) | exact h.inj _ _ _ _ _ h1 h2
  · intro b' k o' hρ
    split at hρ
    · cases hρ
    · exact h.mine _ _ _ hρ
  · intro b' k o' hρ
    split at hρ
    · cases hρ
    · exact h.far _ _ _ hρ

theorem Conc.fresh (h : Conc c st ρ a w) (b : Nat) (hfx : st.fixed.contains b = false) : ∃ ρ0, Conc c (st.fresh b) ρ0 a w ∧ ρ0 b = none ∧ look (st.fresh b).mem b = none ∧ ∀ b' k o', ρ0 b' = some (k, o') → ρ b' = some (k, o') := by
  unfold St.fresh
  split
  · rename_i hl
    refine ⟨ρ, h, ?_, hl, fun _ _ _ h => h⟩
    cases hρ : ρ b with
    | none => rfl
    | some p =>
      obtain ⟨k, o'⟩ := p
      obtain ⟨blk, hb⟩ := h.dom b k o' hρ
      rw [hl] at hb; cases hb
  · refine ⟨_, h.kill b hfx, by simp, by simp [St.kill, look_mapv, look_drop], fun b' k o' hρ => ?_⟩
    split at hρ
    · cases hρ
    · exact hρ

/-- A block of the call's own is written. -/
theorem Conc.write (h : Conc c st ρ a w) {b k o' : Nat} {w' : World} {cur cur' : Array Value} {ty ty' : TypeId} {blk0 blk : Blk} (hb : look st.mem b = some blk0) (hρ : ρ b = some (k, o'))
    (hh : w.heap[k]? = some (.cells cur ty (0, 0))) (hh' : w'.heap[k]? = some (.cells cur' ty' (0, 0))) (hsz : cur'.size = cur.size) (hsame : ∀ k', k' ≠ k → w'.heap[k']? = w.heap[k']?) (hs : w'.heap.size = w.heap.size)
    (e1 : w'.os = w.os) (e2 : w'.tape = w.tape) (e3 : w'.output = w.output)
    (hB : KeepsV w w' (OwnBy c.A ρ) (OwnBy c.A ρ) ρ ρ (fun _ => True) → BRel w' (OwnBy c.A ρ) ρ b blk) : Conc c { st with mem := upd st.mem b blk } ρ a w' := by
  have hO : OwnBy c.A ρ k := .inr ⟨b, o', hρ⟩
  have hk : KeepsV w w' (OwnBy c.A ρ) (OwnBy c.A ρ) ρ ρ (fun _ => True) := {
    size := by rw [hs]; exact Nat.le_refl _
    same := fun k' _ hno => hsame k' (by rintro rfl; exact hno hO)
    own := fun _ _ h => h
    map := fun _ _ _ _ h => h
    rows := fun k' cur1 ty1 fr1 _ hc => by
      by_cases e : k' = k
      · subst e
        rw [hh'] at hc
        injection hc with hc; injection hc with hc1 hc2 hc3
        exact ⟨cur, ty, (0, 0), hh, by rw [← hc1, hsz]⟩
      · rw [hsame k' e] at hc; exact ⟨cur1, ty1, fr1, hc, rfl⟩
    lt := h.lt }
  refine { slots := fun d x hx => (h.slots d x hx).keep hk (refs_all x), defers := h.defers, mem := ?_, dom := ?_, lt := fun b' k' o2 h' => by rw [hs]; exact h.lt _ _ _ h', inj := h.inj, mine := h.mine, far := h.far, fix := h.fix, alt := h.alt, os := e1.trans h.os, tape := e2.trans h.tape, output := e3.trans h.output, size := by rw [hs]; exact h.size, frame := ?_, rows := h.rows' hk }
  · intro b' blk' hl
    simp only [look_upd] at hl
    split at hl
    · rename_i e; subst e; injection hl with hl; subst hl; exact hB hk
    · rename_i hne
      refine (h.mem b' blk' hl).keep hk rfl (fun k' o2 h' => hsame k' ?_) (fun _ cs _ => refs_allL cs)
      rintro rfl
      exact hne (h.inj _ _ _ _ _ h' hρ)
  · intro b' k' o2 h'
    simp only [look_upd]
    split
    · exact ⟨blk, rfl⟩
    · exact h.dom _ _ _ h'
  · intro k' hlt hF
    rw [hsame k' ?_]
    · exact h.frame k' hlt hF
    · rintro rfl
      rcases h.mine _ _ _ hρ with h1 | h1
      · exact hF h1
      · omega

/-- A new block. -/
theorem Conc.new (h : Conc c st ρ a w) {b : Nat} (hfx : st.fixed.contains b = false) (hb : ρ b = none) (hm : look st.mem b = none) {cells : Array Value} {ty : TypeId} {blk : Blk} {w' : World} (hw : w'.heap = w.heap.push (.cells cells ty)) (e1 : w'.os = w.os) (e2 : w'.tape = w.tape) (e3 : w'.output = w.output)
    (hB : KeepsV w w' (OwnBy c.A ρ) (OwnBy c.A (fun x => if x = b then some (w.heap.size, 0) else ρ x)) ρ (fun x => if x = b then some (w.heap.size, 0) else ρ x) (fun _ => True) → BRel w' (OwnBy c.A (fun x => if x = b then some (w.heap.size, 0) else ρ x)) (fun x => if x = b then some (w.heap.size, 0) else ρ x) b blk) :
    Conc c { st with mem := upd st.mem b blk } (fun x => if x = b then some (w.heap.size, 0) else ρ x) a w' := by
  have hold : ∀ k, k < w.heap.size → w'.heap[k]? = w.heap[k]? := fun k hk => by rw [hw, Array.getElem?_push, if_neg (by omega)]
  have hsz : w'.heap.size = w.heap.size + 1 := by rw [hw]; simp
  have hk : KeepsV w w' (OwnBy c.A ρ) (OwnBy c.A (fun x => if x = b then some (w.heap.size, 0) else ρ x)) ρ (fun x => if x = b then some (w.heap.size, 0) else ρ x) (fun _ => True) := {
    size := by omega
    same := fun k hk _ => hold k hk
    own := fun k hk hO => by
      rcases hO with hO | ⟨b', o', hO⟩
      · exact .inl hO
      · replace hO : (if b' = b then some (w.heap.size, 0) else ρ b') = some (k, o') := hO
        split at hO
        · injection hO with hO; injection hO with hO _; omega
        · exact .inr ⟨b', o', hO⟩
    map := fun b' _ k o' hρ => by
      split
      · rename_i e; subst e; rw [hb] at hρ; cases hρ
      · exact hρ
    rows := fun k cur ty fr hk hh => ⟨cur, ty, fr, by rwa [hold k hk] at hh, rfl⟩
    lt := h.lt }
  refine { slots := fun d x hx => (h.slots d x hx).keep hk (refs_all x), defers := h.defers, mem := ?_, dom := ?_, lt := ?_, inj := ?_, mine := ?_, far := ?_, fix := fun b' hb' => by rw [if_neg (by rintro rfl; simp at hfx; exact hfx hb')]; exact h.fix b' hb', alt := h.alt, os := e1.trans h.os, tape := e2.trans h.tape, output := e3.trans h.output, size := by have := h.size; omega, frame := fun k hk hF => (hold k (by have := h.size; omega)).trans (h.frame k hk hF), rows := h.rows' hk }
  · intro b' blk' hl
    simp only [look_upd] at hl
    split at hl
    · rename_i e; subst e; injection hl with hl; subst hl; exact hB hk
    · rename_i hne
      exact (h.mem b' blk' hl).keep hk (by simp [hne]) (fun k o' h' => hold k (h.lt _ _ _ h')) (fun _ cs _ => refs_allL cs)
  · intro b' k o' h'
    simp only [look_upd]
    split
    · exact ⟨blk, rfl⟩
    · rename_i hne
      simp only [hne, if_false] at h'
      exact h.dom _ _ _ h'
  · intro b' k o' h'
    split at h'
    · injection h' with h'; injection h' with h1 h2; omega
    · have := h.lt _ _ _ h'; omega
  · intro b1 b2 k o1 o2 h1 h2
    split at h1 <;> split at h2
    · rename_i e1 e2; rw [e1, e2]
    · injection h1 with h1; injection h1 with h1 _
      have := h.lt _ _ _ h2; omega
    · injection h2 with h2; injection h2 with h2 _
      have := h.lt _ _ _ h1; omega
    · exact h.inj _ _ _ _ _ h1 h2
  · intro b' k o' h'
    split at h'
    · injection h' with h'; injection h' with h1 h2
      exact .inr (by rw [← h1]; exact h.size)
    · exact h.mine _ _ _ h'
  · intro b' k o' h'
    split at h'
    · injection h' with h'; injection h' with h1 h2
      intro hA
      have := h.alt _ hA; have := h.size; omega
    · exact h.far _ _ _ h'

/-! ### Reading -/

theorem load1 {w : World} {ad : Addr} {v : Value} (h : w.cell? ad = some v) : (load ad).run P w = .ok v w := by
  simp [load, Sem.run, h]

/-- What a pointer leads to, at any world in which its block is the same. -/
theorem lv_rel (h : Conc c st ρ a w) {x : AV} {p : Value} (hx : VRel w (OwnBy c.A ρ) ρ x p) {n : Nat} {cs : List AV} (hl : lv st.mem n x = some cs) (hn : n ≠ 0) :
    ∃ (ad : Addr) (vs : List Value), p = .pointer (some ad) ∧ ad.block < w.heap.size ∧ cs.length = n ∧ vs.length = n ∧ (∀ j v, vs[j]? = some v → w.cell? (ad.add j) = some v) ∧ (∀ (j : Nat) y, cs[j]? = some y → VRel w (OwnBy c.A ρ) ρ y (vs.getD j undef)) ∧
      ((∃ b sz i j o', x = .ptr b sz i j ∧ ρ b = some (ad.block, o')) ∨ ((∃ sz es i j, x = .rop sz es i j) ∧ ¬ OwnBy c.A ρ ad.block)) := by
  cases x <;> simp only [lv] at hl <;> try (cases hl; done)
  case ptr b sz i j =>
    have hp : ∃ k o', ρ b = some (k, o') ∧ p = .pointer (some ⟨k, o' + (i * sz + j), none⟩) := by
      cases hx with
      | tree h => cases h
      | ptr h => exact ⟨_, _, h, rfl⟩
    obtain ⟨k, o', hρ, rfl⟩ := hp
    split at hl
    · rename_i ty sz' es hm
      split at hl <;> try (cases hl; done)
      rename_i hc
      obtain ⟨rfl, hc⟩ := hc
      obtain ⟨e, he, rfl⟩ := Option.map_eq_some_iff.1 hl
      have hB := h.mem b _ hm
      simp only [BRel, hρ] at hB
      obtain ⟨cur, hh, hlen, hsz, hcell⟩ := hB
      have hel : e.length = sz := hlen e (List.mem_of_getElem? he)
      have hget : ∀ q, q < n → ∃ v, cur[o' + (i * sz + j) + q]? = some v ∧ ∃ y, ((e.drop j).take n)[q]? = some y ∧ TRel w (OwnBy c.A ρ) y v := by
        intro q hq
        have hy : ((e.drop j).take n)[q]? = some (e[j + q]'(by omega)) := by
          rw [List.getElem?_take_of_lt hq, List.getElem?_drop, List.getElem?_eq_getElem (by omega)]
        obtain ⟨v, hv, _, ht⟩ := hcell i (j + q) _ (show cellAt es i (j + q) = some (e[j + q]'(by omega)) by simp only [cellAt, he, Option.bind_some]; exact List.getElem?_eq_getElem (by omega))
        exact ⟨v, by rw [← hv]; congr 1; omega, _, hy, ht⟩
      refine ⟨⟨k, o' + (i * sz + j), none⟩, (List.range n).map (fun q => cur.getD (o' + (i * sz + j) + q) undef), rfl, h.lt _ _ _ hρ, by simp; omega, by simp, ?_, ?_, .inl ⟨b, sz, i, j, o', rfl, hρ⟩⟩
      · intro q v hv
        simp only [List.getElem?_map, Option.map_eq_some_iff] at hv
        obtain ⟨q', hq', rfl⟩ := hv
        have hqn : q < n ∧ q' = q := by
          rcases Nat.lt_or_ge q n with h1 | h1
          · rw [List.getElem?_range h1] at hq'; injection hq' with hq'; exact ⟨h1, hq'.symm⟩
          · rw [List.getElem?_eq_none (by simpa using h1)] at hq'; cases hq'
        obtain ⟨hqn, rfl⟩ := hqn
        obtain ⟨v, hv, _⟩ := hget q' hqn
        rw [add_none]
        simp [World.cell?, hh, hv]
      · intro q y hy
        have hqn : q < n := by
          rcases Nat.lt_or_ge q n with h1 | h1
          · exact h1
          · rw [List.getElem?_eq_none (by simp; omega)] at hy; cases hy
        obtain ⟨v, hv, y', hy', ht⟩ := hget q hqn
        rw [hy'] at hy; injection hy with hy; subst hy
        have e2 : ((List.range n).map (fun q => cur.getD (o' + (i * sz + j) + q) undef)).getD q undef = v := by
          simp [List.getD, hqn, hv]
        rw [e2]; exact .tree ht
    · rename_i ty cs0 hm
      split at hl <;> try (cases hl; done)
      rename_i hc
      injection hl with hl; subst hl
      obtain ⟨k', cur, hρ', hh, hsz, hcell⟩ := h.mem b _ hm
      rw [hρ] at hρ'; injection hρ' with hρ'; injection hρ' with h1 h2; subst h1; subst h2
      refine ⟨⟨k, 0 + (i * sz + j), none⟩, (List.range n).map (fun q => cur.getD (i * sz + j + q) undef), rfl, h.lt _ _ _ hρ, by simp; omega, by simp, ?_, ?_, .inl ⟨b, sz, i, j, 0, rfl, hρ⟩⟩
      · intro q v hv
        simp only [List.getElem?_map, Option.map_eq_some_iff] at hv
        obtain ⟨q', hq', rfl⟩ := hv
        have hqn : q < n ∧ q' = q := by
          rcases Nat.lt_or_ge q n with h1 | h1
          · rw [List.getElem?_range h1] at hq'; injection hq' with hq'; exact ⟨h1, hq'.symm⟩
          · rw [List.getElem?_eq_none (by simpa using h1)] at hq'; cases hq'
        obtain ⟨hqn, rfl⟩ := hqn
        rw [add_none, show 0 + (i * sz + j) + q' = i * sz + j + q' from by omega]
        have hlt : i * sz + j + q' < cur.size := by omega
        simp [World.cell?, hh, hlt]
      · intro q y hy
        have hqn : q < n := by
          rcases Nat.lt_or_ge q n with h1 | h1
          · exact h1
          · rw [List.getElem?_eq_none (by simp; omega)] at hy; cases hy
        rw [List.getElem?_take_of_lt hqn, List.getElem?_drop] at hy
        obtain ⟨v, hv, _, ht⟩ := hcell _ _ hy
        have e2 : ((List.range n).map (fun q => cur.getD (i * sz + j + q) undef)).getD q undef = v := by
          simp [List.getD, hqn, hv]
        rw [e2]; exact ht
    · cases hl
  case rop sz es i j =>
    split at hl <;> try (cases hl; done)
    rename_i hc
    obtain ⟨e, he, rfl⟩ := Option.map_eq_some_iff.1 hl
    cases hx with
    | tree h => cases h
    | @rop _ _ _ _ ad val hs hlen hblk hi hj hcell hone hrel =>
      have hel : e.length = sz := hlen e (List.mem_of_getElem? he)
      have hca : ∀ q, ∀ _ : q < n, cellAt es i (j + q) = some (e[j + q]'(by omega)) := fun q hq => by
        simp only [cellAt, he, Option.bind_some]; exact List.getElem?_eq_getElem (by omega)
      have hlt := cell_lt (hcell i (j + 0) _ (hca 0 (by omega)))
      rw [add_blk] at hlt
      refine ⟨ad.add (i * sz + j), (List.range n).map (fun q => val i (j + q)), rfl, by rw [add_blk]; exact hlt, by simp; omega, by simp, ?_, ?_, .inr ⟨⟨_, _, _, _, rfl⟩, by rw [add_blk]; exact hblk⟩⟩
      · intro q v hv
        simp only [List.getElem?_map, Option.map_eq_some_iff] at hv
        obtain ⟨q', hq', rfl⟩ := hv
        have hqn : q < n ∧ q' = q := by
          rcases Nat.lt_or_ge q n with h1 | h1
          · rw [List.getElem?_range h1] at hq'; injection hq' with hq'; exact ⟨h1, hq'.symm⟩
          · rw [List.getElem?_eq_none (by simpa using h1)] at hq'; cases hq'
        obtain ⟨hqn, rfl⟩ := hqn
        rw [Addr.add_add, Nat.add_assoc]
        exact hcell _ _ _ (hca q' hqn)
      · intro q y hy
        have hqn : q < n := by
          rcases Nat.lt_or_ge q n with h1 | h1
          · exact h1
          · rw [List.getElem?_eq_none (by simp; omega)] at hy; cases hy
        have hjq : j + q < e.length := by omega
        rw [List.getElem?_take_of_lt hqn, List.getElem?_drop, List.getElem?_eq_getElem hjq] at hy
        injection hy with hy; subst hy
        have e2 : ((List.range n).map (fun q => val i (j + q))).getD q undef = val i (j + q) := by
          simp [List.getD, hqn]
        rw [e2]; exact .tree (hrel _ _ _ (hca q hqn))

/-- A load: its value is the same in every world that has the block. -/
theorem load_ok (h : Conc c st ρ a w) {n : Nat} {g : Bool} {x : Src} {p r : AV} {cs : List AV} (hc : chkM P o (.load n g x) = true) (hx : st.src x = some p) (hl : lv st.mem n p = some cs) (hr : mkv g cs = some r) :
    ∃ v blk, (∀ w', w'.heap[blk]? = w.heap[blk]? → (execOp a.eval o).run P w' = .ok (.value v) w') ∧ VRel w (OwnBy c.A ρ) ρ r v ∧ blk < w.heap.size ∧
      ((∃ b sz i j o', p = .ptr b sz i j ∧ ρ b = some (blk, o')) ∨ ((∃ sz es i j, p = .rop sz es i j) ∧ ¬ OwnBy c.A ρ blk)) := by
  simp only [chkM] at hc
  split at hc <;> try (cases hc; done)
  rename_i t y ho
  simp only [Bool.and_eq_true] at hc
  obtain ⟨d, i, hd, hi, hsz, hag⟩ := shape1_spec hc.1.1
  have hn : n ≠ 0 := by simpa using hc.1.2
  obtain ⟨ad, vs, hp, hlt, hcl, hvl, hcell, hrel, hblk⟩ := lv_rel h (h.srcs _ _ _ hc.2 hx) hl hn
  have hR := mkv_rel (R := VRel w (OwnBy c.A ρ) ρ) (fun _ _ h1 h2 => .agg h1 h2) (vs := vs.toArray) hr (by simp; omega) (fun i x hx => by have := hrel i x hx; simpa [List.getD] using this)
  refine ⟨_, ad.block, fun w' hw' => ?_, hR, hlt, hblk⟩
  have hcell' : ∀ j v, vs[j]? = some v → w'.cell? (ad.add j) = some v := fun j v hv => by
    rw [World.cell?_of_block (w := w) (by rw [add_blk]; exact hw')]; exact hcell j v hv
  cases g
  · have hn1 : n = 1 := by
      unfold mkv at hr; simp only [Bool.false_eq_true, if_false] at hr
      split at hr
      · simpa using hcl.symm
      · cases hr
    subst hn1
    obtain ⟨v, rfl⟩ : ∃ v, vs = [v] := List.length_eq_one_iff.1 hvl
    have h0 := hcell' 0 v rfl
    have e0 : ad.add 0 = ad := by simp [Addr.add]
    rw [e0] at h0
    simp [execOp, ho, hp, Instr.loadAt, Instr.sureAddr, loadVar, hag, h0]
  · have := run_loadCells_list (P := P) w' ad vs hcell'
    rw [hvl] at this
    simp [execOp, ho, hp, Instr.loadAt, Instr.sureAddr, loadVar, hag, szOf hi, hsz, this]

/-! ### Writing -/

theorem put_none (a : Act) (v : Value) : a.put none v = a := rfl

theorem run_storeVar (t : TypeId) {i : TypeInfo} (hi : P.info? t = some i) {k off : Nat} {ty : TypeId} {cur : Array Value} {v : Value} (hh : w.heap[k]? = some (.cells cur ty (0, 0))) (hsz : v.cells.size = i.size) (hfit : off + v.cells.size ≤ cur.size)
    (h1 : ∀ u ∈ v.cells.toList, u.oneCell' = true) : (storeVar t ⟨k, off, none⟩ v).run P w = .ok () (w.setRow k (cur.toList.take off ++ v.cells.toList ++ cur.toList.drop (off + v.cells.size)).toArray) := by
  have := run_storeCells_at (P := P) k off ty v.cells.toList 0 cur w hh (by simpa using hfit) h1
  simp only [Nat.add_zero, Array.length_toList] at this
  simp [storeVar, szOf hi, hsz, this]

theorem setRow_get (w : World) (k : Nat) (cur cur' : Array Value) (ty : TypeId) (fr : Nat × Nat) (h : w.heap[k]? = some (.cells cur ty fr)) : (w.setRow k cur').heap[k]? = some (.cells cur' ty fr) := setRow_heap w k cur cur' ty fr h

theorem setRow_far (w : World) (k : Nat) (cur' : Array Value) (k' : Nat) (h : k' ≠ k) : (w.setRow k cur').heap[k']? = w.heap[k']? := by
  simp only [World.setRow, Array.getElem?_modify]
  rw [if_neg (by omega)]

theorem setRow_size (w : World) (k : Nat) (cur' : Array Value) : (w.setRow k cur').heap.size = w.heap.size := by simp [World.setRow]

theorem splice_get {α : Type} (l : List α) (off : Nat) (xs : List α) (h : off + xs.length ≤ l.length) (q : Nat) : (l.take off ++ xs ++ l.drop (off + xs.length))[q]? = if off ≤ q ∧ q < off + xs.length then xs[q - off]? else l[q]? := by
  by_cases h1 : q < off
  · rw [if_neg (by omega), List.append_assoc, List.getElem?_append_left (by simp; omega), List.getElem?_take_of_lt h1]
  · by_cases h2 : q < off + xs.length
    · rw [if_pos ⟨by omega, h2⟩, List.append_assoc, List.getElem?_append_right (by simp; omega), List.length_take, Nat.min_eq_left (by omega), List.getElem?_append_left (by omega)]
    · rw [if_neg (by omega), List.getElem?_append_right (by simp; omega), List.getElem?_drop]
      congr 1
      simp; omega

theorem cells_one {w : World} {Own : Nat → Prop} {ρ : Map} {xs : List AV} {vs : Array Value} (hl : xs.length = vs.size) (hc : xs.all isCell = true) (h : ∀ (i : Nat) x, xs[i]? = some x → VRel w Own ρ x (vs.getD i undef)) : ∀ u ∈ vs.toList, one u = true := by
  intro u hu
  obtain ⟨i, hi, rfl⟩ := List.mem_iff_getElem.1 hu
  have hi' : i < xs.length := by simp at hi; omega
  have hx := h i _ (List.getElem?_eq_getElem hi')
  have e : vs.getD i undef = vs.toList[i] := by simp at hi; simp [hi]
  rw [e] at hx
  exact one_of_cell (List.all_eq_true.1 hc _ (List.getElem_mem hi')) hx

theorem store_ok (h : Conc c st ρ a w) {n : Nat} {x v : Src} {st' : St} (hc : chkM P o (.store n x v) = true) (hd : o.dst = none) (he : exec none (.store n x v) st = some st') : StepOK P c o st' (wrs st (.store n x v)) ρ a w := by
  simp only [chkM] at hc
  split at hc <;> try (cases hc; done)
  rename_i t y z ho
  simp only [Bool.and_eq_true] at hc
  obtain ⟨⟨hi, hy⟩, hz⟩ := hc
  split at hi <;> try (cases hi; done)
  rename_i i hi'
  simp only [beq_iff_eq] at hi
  simp only [exec] at he
  split at he <;> try (cases he; done)
  rename_i b sz ii j xs _ hx hv
  split at he <;> try (cases he; done)
  rename_i hn
  obtain ⟨q, hq, hqx⟩ := Option.bind_eq_some_iff.1 hv
  have hp : ∃ k o', ρ b = some (k, o') ∧ a.eval y = .pointer (some ⟨k, o' + (ii * sz + j), none⟩) := by
    have := h.srcs _ _ _ hy hx
    generalize a.eval y = p at this
    cases this with
    | tree h => cases h
    | ptr h => exact ⟨_, _, h, rfl⟩
  obtain ⟨k, o', hρ, hp⟩ := hp
  obtain ⟨hzl, hzr⟩ := cellsA_rel hqx (h.srcs _ _ _ hz hq)
  have hlt := h.lt _ _ _ hρ
  have hO : OwnBy c.A ρ k := .inr ⟨b, o', hρ⟩
  have hws : wrs st (.store n x v) = [b] := by simp [wrs, hx]
  have fin : ∀ (ty : TypeId) (cur : Array Value) (blk0 blk : Blk), look st.mem b = some blk0 → w.heap[k]? = some (.cells cur ty (0, 0)) → o' + (ii * sz + j) + n ≤ cur.size → xs.all isCell = true →
      (∀ cur' : Array Value, cur'.size = cur.size → (∀ p, cur'[p]? = if o' + (ii * sz + j) ≤ p ∧ p < o' + (ii * sz + j) + n then (a.eval z).cells[p - (o' + (ii * sz + j))]? else cur[p]?) → ∀ w', w'.heap[k]? = some (.cells cur' ty (0, 0)) →
        KeepsV w w' (OwnBy c.A ρ) (OwnBy c.A ρ) ρ ρ (fun _ => True) → BRel w' (OwnBy c.A ρ) ρ b blk) → StepOK P c o { st with mem := upd st.mem b blk } (wrs st (.store n x v)) ρ a w := by
    intro ty cur blk0 blk hm hh hfit hcell hB
    have hones := cells_one hzl hcell hzr
    have hfit' : o' + (ii * sz + j) + (a.eval z).cells.size ≤ cur.size := by omega
    have hrun := run_storeVar (P := P) t hi' hh (by omega) hfit' (fun u hu => oneCell_of (hones u hu))
    have hget : ∀ p, ((cur.toList.take (o' + (ii * sz + j)) ++ (a.eval z).cells.toList ++ cur.toList.drop (o' + (ii * sz + j) + (a.eval z).cells.size)).toArray)[p]? = if o' + (ii * sz + j) ≤ p ∧ p < o' + (ii * sz + j) + n then (a.eval z).cells[p - (o' + (ii * sz + j))]? else cur[p]? := by
      intro p
      have := splice_get cur.toList (o' + (ii * sz + j)) (a.eval z).cells.toList (by simpa using hfit') p
      simp only [Array.length_toList, ← hzl, hn] at this
      simpa [← hzl, hn] using this
    have hsz' : ((cur.toList.take (o' + (ii * sz + j)) ++ (a.eval z).cells.toList ++ cur.toList.drop (o' + (ii * sz + j) + (a.eval z).cells.size)).toArray).size = cur.size := by
      simp; omega
    generalize (cur.toList.take (o' + (ii * sz + j)) ++ (a.eval z).cells.toList ++ cur.toList.drop (o' + (ii * sz + j) + (a.eval z).cells.size)).toArray = cur' at hrun hget hsz'
    have hset := setRow_get w k cur cur' ty (0, 0) hh
    refine ⟨.skip, w.setRow k cur', ρ, undef, ?_, .inr ⟨rfl, rfl⟩, ?_, ?_, fun _ _ _ h => .inl h⟩
    · simp [execOp, ho, hp, Instr.storeAt, Instr.sureAddr, hrun]
    · rw [hd, put_none]
      exact h.write hm hρ hh hset hsz' (fun k' hk' => setRow_far w k cur' k' hk') (setRow_size w k cur') rfl rfl rfl (hB cur' hsz' hget _ hset)
    · intro k' _ hk'
      refine setRow_far w k cur' k' ?_
      rintro rfl
      exact hk' b o' (by rw [hws]; simp) hρ
  split at he <;> try (cases he; done)
  · rename_i ty sz' es hm
    split at he <;> try (cases he; done)
    rename_i e hee
    split at he <;> try (cases he; done)
    rename_i hcc
    obtain ⟨rfl, hj, hall⟩ := hcc
    injection he with he; subst he
    have hB := h.mem b _ hm
    simp only [BRel, hρ] at hB
    obtain ⟨cur, hh, hlen, hsz, hcell⟩ := hB
    have hel : e.length = sz := hlen e (List.mem_of_getElem? hee)
    have hii : ii < es.length := by
      rcases Nat.lt_or_ge ii es.length with h1 | h1
      · exact h1
      · rw [List.getElem?_eq_none h1] at hee; cases hee
    have hmul : ii * sz + sz ≤ es.length * sz := by
      have := Nat.mul_le_mul_right sz (show ii + 1 ≤ es.length from hii)
      rwa [Nat.add_mul, Nat.one_mul] at this
    refine fin ty cur _ _ hm hh (by omega) (List.all_eq_true.2 fun y hy => tree_cell (List.all_eq_true.1 hall y hy)) (fun cur' hs' hget w' hh' hk => ?_)
    have hsl := splice_get e j xs (by omega)
    rw [hn] at hsl
    simp only [BRel, hρ]
    refine ⟨cur', hh', ?_, by rw [List.length_set, hs']; exact hsz, ?_⟩
    · intro e' he'
      rcases List.mem_or_eq_of_mem_set he' with h1 | h1
      · exact hlen _ h1
      · subst h1; simp; omega
    · intro i2 j2 y hy
      simp only [cellAt, List.getElem?_set] at hy
      by_cases hi2 : ii = i2
      · subst hi2
        simp only [if_true, hii] at hy
        simp only [Option.bind_some] at hy
        rw [hsl j2] at hy
        by_cases hj2 : j ≤ j2 ∧ j2 < j + n
        · rw [if_pos hj2] at hy
          have := hzr _ _ hy
          have hlt2 : j2 - j < (a.eval z).cells.size := by omega
          refine ⟨(a.eval z).cells[j2 - j], ?_, ?_, ?_⟩
          · rw [hget, if_pos (by omega), show o' + (ii * sz + j2) - (o' + (ii * sz + j)) = j2 - j from by omega]
            exact Array.getElem?_eq_getElem hlt2
          · exact cells_one hzl (List.all_eq_true.2 fun y hy => tree_cell (List.all_eq_true.1 hall y hy)) hzr _ (by simp)
          · have e1 : (a.eval z).cells.getD (j2 - j) undef = (a.eval z).cells[j2 - j] := by simp [hlt2]
            rw [e1] at this
            exact (this.toTree (List.all_eq_true.1 hall _ (List.mem_of_getElem? hy))).keep hk.toKeeps
        · rw [if_neg hj2] at hy
          have hj3 : j2 < sz := by
            rcases Nat.lt_or_ge j2 e.length with h1 | h1
            · omega
            · rw [List.getElem?_eq_none h1] at hy; cases hy
          obtain ⟨v', hv', h1', ht'⟩ := hcell ii j2 y (by simp [cellAt, hee, hy])
          exact ⟨v', by rw [hget, if_neg (by omega)]; exact hv', h1', ht'.keep hk.toKeeps⟩
      · rw [if_neg hi2] at hy
        obtain ⟨v', hv', h1', ht'⟩ := hcell i2 j2 y hy
        refine ⟨v', ?_, h1', ht'.keep hk.toKeeps⟩
        have hj3 : j2 < sz := by
          obtain ⟨e2, he2, hy2⟩ := Option.bind_eq_some_iff.1 hy
          have := hlen e2 (List.mem_of_getElem? he2)
          rcases Nat.lt_or_ge j2 e2.length with h1 | h1
          · omega
          · rw [List.getElem?_eq_none h1] at hy2; cases hy2
        rw [hget, if_neg ?_]
        · exact hv'
        · rcases Nat.lt_or_gt_of_ne hi2 with h1 | h1
          · have := Nat.mul_le_mul_right sz (show ii + 1 ≤ i2 from h1)
            rw [Nat.add_mul, Nat.one_mul] at this
            omega
          · have := Nat.mul_le_mul_right sz (show i2 + 1 ≤ ii from h1)
            rw [Nat.add_mul, Nat.one_mul] at this
            omega
  · rename_i ty cs hm
    split at he <;> try (cases he; done)
    rename_i hcc
    obtain ⟨hj, hall⟩ := hcc
    injection he with he; subst he
    obtain ⟨k', cur, hρ', hh, hsz, hcell⟩ := h.mem b _ hm
    rw [hρ] at hρ'; injection hρ' with hρ'; injection hρ' with h1 h2; subst h1; subst h2
    refine fin ty cur _ _ hm hh (by omega) hall (fun cur' hs' hget w' hh' hk => ?_)
    have hsl := splice_get cs (ii * sz + j) xs (by omega)
    rw [hn] at hsl
    refine ⟨k, cur', hρ, hh', by rw [hs', hsz]; simp; omega, fun j2 y hy => ?_⟩
    rw [hsl j2] at hy
    by_cases hj2 : ii * sz + j ≤ j2 ∧ j2 < ii * sz + j + n
    · rw [if_pos hj2] at hy
      have := hzr _ _ hy
      have hlt2 : j2 - (ii * sz + j) < (a.eval z).cells.size := by omega
      refine ⟨(a.eval z).cells[j2 - (ii * sz + j)], ?_, ?_, ?_⟩
      · rw [hget, if_pos (by omega), show j2 - (0 + (ii * sz + j)) = j2 - (ii * sz + j) from by omega]
        exact Array.getElem?_eq_getElem hlt2
      · exact cells_one hzl hall hzr _ (by simp)
      · have e1 : (a.eval z).cells.getD (j2 - (ii * sz + j)) undef = (a.eval z).cells[j2 - (ii * sz + j)] := by simp [hlt2]
        rw [e1] at this
        exact this.keep hk (refs_all _)
    · rw [if_neg hj2] at hy
      obtain ⟨v', hv', h1', ht'⟩ := hcell j2 y hy
      exact ⟨v', by rw [hget, if_neg (by omega)]; exact hv', h1', ht'.keep hk (refs_all _)⟩

/-! ### Making -/

theorem StepOK.of_fresh {st' : St} {id : Nat} (h : Conc c st ρ a w) (hfx : st.fixed.contains id = false) (hf : ∀ ρ0, Conc c (st.fresh id) ρ0 a w → ρ0 id = none → look (st.fresh id).mem id = none → (st.fresh id).fixed.contains id = false → (∀ b' k o', ρ0 b' = some (k, o') → ρ b' = some (k, o')) → StepOK P c o st' [id] ρ0 a w) : StepOK P c o st' [id] ρ a w := by
  obtain ⟨ρ0, h0, h1, h2, h3⟩ := h.fresh id hfx
  obtain ⟨r, w', ρ', v, e1, e2, e3, e4, e5⟩ := hf ρ0 h0 h1 h2 (by unfold St.fresh; split <;> simpa [St.kill] using hfx) h3
  refine ⟨r, w', ρ', v, e1, e2, e3, fun k hk hno => e4 k hk (fun b o' hb hρ => hno b o' hb (h3 _ _ _ hρ)), fun b k o' hb => ?_⟩
  rcases e5 b k o' hb with h | ⟨h, h' | ⟨b0, hb0, o2, h0⟩⟩
  · exact .inl (h3 _ _ _ h)
  · exact .inr ⟨h, .inl h'⟩
  · exact .inr ⟨h, .inr ⟨b0, hb0, o2, h3 _ _ _ h0⟩⟩

/-- A new block, and a slot that leads to it. -/
theorem new_ok {d id : Nat} {cells : Array Value} {ty : TypeId} {blk : Blk} {w' : World} {x : AV} {v : Value} (h : Conc c st ρ a w) (hfx : st.fixed.contains id = false) (hd : o.dst = some d) (hlt : d < a.tmps.size) (hb : ρ id = none) (hm : look st.mem id = none)
    (hrun : (execOp a.eval o).run P w = .ok (.value v) w') (hw : w'.heap = w.heap.push (.cells cells ty)) (e1 : w'.os = w.os) (e2 : w'.tape = w.tape) (e3 : w'.output = w.output)
    (hB : ∀ ρ' : Map, ρ' id = some (w.heap.size, 0) → KeepsV w w' (OwnBy c.A ρ) (OwnBy c.A ρ') ρ ρ' (fun _ => True) → BRel w' (OwnBy c.A ρ') ρ' id blk)
    (hx : ∀ Own' (ρ' : Map), ρ' id = some (w.heap.size, 0) → VRel w' Own' ρ' x v) : StepOK P c o (St.put { st with mem := upd st.mem id blk } d x) [id] ρ a w := by
  have hn := h.new hfx hb hm (blk := blk) hw e1 e2 e3 (fun hk => hB _ (by simp) hk)
  refine ⟨.value v, w', (fun x => if x = id then some (w.heap.size, 0) else ρ x), v, hrun, .inl rfl, ?_, fun k hk _ => by rw [hw, Array.getElem?_push, if_neg (by omega)], fun b k o' hρ => ?_⟩
  · rw [hd]
    exact hn.put hlt (hx _ _ (by simp))
  · replace hρ : (if b = id then some (w.heap.size, 0) else ρ b) = some (k, o') := hρ
    split at hρ
    · rename_i e; injection hρ with hρ; injection hρ with h1 h2; exact .inr ⟨by simp [e], .inl (by omega)⟩
    · exact .inl hρ

theorem push_get (w : World) {w' : World} {o : Obj} (hw : w'.heap = w.heap.push o) : w'.heap[w.heap.size]? = some o := by rw [hw]; simp

theorem alloc_ok (h : Conc c st ρ a w) {d id ty : Nat} {zero : List AV} {st' : St} (hc : chkM P o (.alloc id ty zero) = true) (hd : o.dst = some d) (hlt : d < a.tmps.size) (he : exec (some d) (.alloc id ty zero) st = some st') : StepOK P c o st' [id] ρ a w := by
  simp only [chkM] at hc
  split at hc <;> try (cases hc; done)
  rename_i t ho
  simp only [Bool.and_eq_true, beq_iff_eq] at hc
  obtain ⟨⟨rfl, hz⟩, hcell⟩ := hc
  obtain ⟨i, z, hi, hzz, hzl, hzr⟩ := zeroOK_spec hz
  simp only [exec] at he
  split at he <;> try (cases he; done)
  rename_i hfx
  simp only [Bool.not_eq_true] at hfx
  simp only [Option.some.injEq] at he
  subst he
  refine StepOK.of_fresh (id := id) h hfx (fun ρ0 h0 h1 h2 hf0 h3 => ?_)
  refine new_ok (cells := z.cells) (ty := t) (w' := w.alloc (.cells z.cells t)) (v := .pointer (some ⟨w.heap.size, 0, none⟩)) h0 hf0 hd hlt h1 h2 ?_ rfl rfl rfl rfl (fun ρ' hρ' hk => ?_) (fun Own' ρ' hρ' => ?_)
  · have hzv : (zeroValue t).run P w = .ok z w := by simp [zeroValue, run_typeInfo w hi, hzz]
    simp [execOp, ho, Instr.alloc, hzv, newVar, newRow]
  · refine ⟨w.heap.size, z.cells, hρ', push_get w rfl, hzl.symm, fun j x hx => ?_⟩
    have hjl : j < z.cells.size := by
      rcases Nat.lt_or_ge j zero.length with h' | h'
      · omega
      · rw [List.getElem?_eq_none h'] at hx; cases hx
    have ht := hzr (w.alloc (.cells z.cells t)) (OwnBy c.A ρ') j x hx
    have e1 : z.cells.getD j undef = z.cells[j] := by simp [hjl]
    rw [e1] at ht
    exact ⟨z.cells[j], Array.getElem?_eq_getElem hjl, one_of_cell (ρ := ρ') (List.all_eq_true.1 hcell x (List.mem_of_getElem? hx)) (.tree ht), .tree ht⟩
  · exact .ptr (k := w.heap.size) (o := 0) (sz := 0) (i := 0) (j := 0) hρ'

theorem box_ok (h : Conc c st ρ a w) {d id ty n : Nat} {x : Src} {st' : St} (hc : chkM P o (.box id ty n x) = true) (hd : o.dst = some d) (hlt : d < a.tmps.size) (he : exec (some d) (.box id ty n x) st = some st') : StepOK P c o st' [id] ρ a w := by
  simp only [chkM] at hc
  split at hc <;> try (cases hc; done)
  rename_i t y ho
  simp only [Bool.and_eq_true, beq_iff_eq] at hc
  obtain ⟨rfl, hy⟩ := hc
  simp only [exec] at he
  split at he <;> try (cases he; done)
  rename_i hfx
  simp only [Bool.not_eq_true] at hfx
  split at he <;> try (cases he; done)
  rename_i d' xs hd' hv
  injection hd' with hd'; subst hd'
  split at he <;> try (cases he; done)
  rename_i hn
  injection he with he; subst he
  obtain ⟨q, hq, hqx⟩ := Option.bind_eq_some_iff.1 hv
  refine StepOK.of_fresh (id := id) h hfx (fun ρ0 h0 h1 h2 hf0 h3 => ?_)
  obtain ⟨hzl, hzr⟩ := cellsA_rel hqx (h0.srcs _ _ _ hy hq)
  refine new_ok (cells := (a.eval y).cells) (ty := t) (w' := w.alloc (.cells (a.eval y).cells t)) (v := .pointer (some ⟨w.heap.size, 0, none⟩)) h0 hf0 hd hlt h1 h2 ?_ rfl rfl rfl rfl (fun ρ' hρ' hk => ?_) (fun Own' ρ' hρ' => ?_)
  · simp [execOp, ho, Instr.box, newVar, newRow]
  · refine ⟨w.heap.size, (a.eval y).cells, hρ', push_get w rfl, hzl.symm, fun j z hz => ?_⟩
    have hjl : j < (a.eval y).cells.size := by
      rcases Nat.lt_or_ge j xs.length with h' | h'
      · omega
      · rw [List.getElem?_eq_none h'] at hz; cases hz
    have ht := hzr j z hz
    have e1 : (a.eval y).cells.getD j undef = (a.eval y).cells[j] := by simp [hjl]
    rw [e1] at ht
    exact ⟨_, Array.getElem?_eq_getElem hjl, one_of_cell (List.all_eq_true.1 hn.2 z (List.mem_of_getElem? hz)) ht, ht.keep hk (refs_all _)⟩
  · exact .ptr (k := w.heap.size) (o := 0) (sz := 0) (i := 0) (j := 0) hρ'

theorem mapCells_spec : ∀ {xs : List AV} {es : List (List AV)}, mapCells xs = some es → es.length = xs.length ∧ ∀ (i : Nat) x, xs[i]? = some x → ∃ e, es[i]? = some e ∧ cellsA x = some e
  | [], es, h => by
    simp only [mapCells, Option.some.injEq] at h; subst h; exact ⟨rfl, fun i x hx => by simp at hx⟩
  | y :: r, es, h => by
    simp only [mapCells] at h
    split at h <;> try (cases h; done)
    rename_i e0 es0 h1 h2
    injection h with h; subst h
    obtain ⟨hl, ih⟩ := mapCells_spec h2
    refine ⟨by simp [hl], fun i x hx => ?_⟩
    cases i with
    | zero => simp at hx; subst hx; exact ⟨e0, rfl, h1⟩
    | succ i => obtain ⟨e, he, hc⟩ := ih i x (by simpa using hx); exact ⟨e, by simpa using he, hc⟩

theorem zipIdx_of_range {α : Type} : ∀ (l : List (Nat × α)) (s : Nat), l.map (·.1) = List.range' s l.length → l = ((l.map (·.2)).zipIdx s).map fun x => (x.2, x.1)
  | [], _, _ => rfl
  | (i, y) :: r, s, h => by
    simp only [List.map_cons, List.length_cons, List.range'_succ, List.cons.injEq] at h
    obtain ⟨rfl, h⟩ := h
    simp only [List.map_cons, List.zipIdx_cons, List.cons.injEq, true_and]
    exact zipIdx_of_range r _ h

theorem zipIdx_mapf {α β : Type} (f : α → β) : ∀ (l : List α) (s : Nat), ((l.map f).zipIdx s) = (l.zipIdx s).map fun p => (f p.1, p.2)
  | [], _ => rfl
  | y :: r, s => by simp [List.zipIdx_cons, zipIdx_mapf f r]

theorem bslice_ok (h : Conc c st ρ a w) {d id ty sz : Nat} {xs : List Src} {st' : St} (hc : chkM P o (.bslice id ty sz xs) = true) (hd : o.dst = some d) (hlt : d < a.tmps.size) (he : exec (some d) (.bslice id ty sz xs) st = some st') : StepOK P c o st' [id] ρ a w := by
  simp only [chkM] at hc
  split at hc <;> try (cases hc; done)
  rename_i t n ps ho
  simp only [Bool.and_eq_true, beq_iff_eq, decide_eq_true_eq] at hc
  obtain ⟨⟨⟨⟨hty, hn⟩, hsmall⟩, hidx⟩, hys⟩ := hc
  split at hty <;> try (cases hty; done)
  rename_i el i hu hi
  simp only [Bool.and_eq_true, beq_iff_eq, bne_iff_ne] at hty
  obtain ⟨⟨⟨rfl, hisz⟩, hsz0⟩, hzero⟩ := hty
  split at hzero <;> try (cases hzero; done)
  rename_i z hz
  simp only [exec] at he
  split at he <;> try (cases he; done)
  rename_i hfx
  simp only [Bool.not_eq_true] at hfx
  split at he <;> try (cases he; done)
  rename_i d' es hd' hv
  injection hd' with hd'; subst hd'
  split at he <;> try (cases he; done)
  rename_i hall
  injection he with he; subst he
  obtain ⟨qs, hqs, hqx⟩ := Option.bind_eq_some_iff.1 hv
  refine StepOK.of_fresh (id := id) h hfx (fun ρ0 h0 h1 h2 hf0 h3 => ?_)
  obtain ⟨hql, hqr⟩ := srcs_list h0.srcs hys hqs
  obtain ⟨hel, hec⟩ := mapCells_spec hqx
  have hpl : ps.toList.length = n := by have := congrArg List.length hidx; simpa using this
  have hen : es.length = n := by rw [hel, hql]; simpa using hpl
  have helem : ∀ (q : Nat) e, es[q]? = some e → e.length = sz ∧ e.all isTree = true := by
    intro q e he
    have := List.all_eq_true.1 hall e (List.mem_of_getElem? he)
    simpa using this
  -- the values
  have hval : ∀ q, q < n → ∃ e y, es[q]? = some e ∧ (ps.toList.map (·.2))[q]? = some y ∧ e.length = (a.eval y).cells.size ∧ ∀ (j : Nat) x, e[j]? = some x → VRel w (OwnBy c.A ρ0) ρ0 x ((a.eval y).cells.getD j undef) := by
    intro q hq
    have hq1 : q < qs.length := by rw [hql]; simpa [hpl] using hq
    obtain ⟨e, he, hce⟩ := hec q _ (List.getElem?_eq_getElem hq1)
    have hq2 : q < (ps.toList.map (·.2)).length := by simpa [hpl] using hq
    have hr := hqr q _ (List.getElem?_eq_getElem hq1)
    have e1 : (((ps.toList.map (·.2)).map a.eval).toArray.getD q undef) = a.eval ((ps.toList.map (·.2))[q]) := by
      have : q < ps.size := by rw [← Array.length_toList]; omega
      simp [this]
    rw [e1] at hr
    obtain ⟨g1, g2⟩ := cellsA_rel hce hr
    exact ⟨e, _, he, List.getElem?_eq_getElem hq2, g1, g2⟩
  have hsize : ∀ v ∈ (ps.toList.map (·.2)).map a.eval, v.cells.size = sz := by
    intro v hv
    obtain ⟨q, hq, rfl⟩ := List.mem_iff_getElem.1 hv
    have hqn : q < n := by simpa [hpl] using hq
    obtain ⟨e, y, he, hy, hl, _⟩ := hval q hqn
    rw [List.getElem_map]
    have : (ps.toList.map (·.2))[q]'(by simpa [hpl] using hqn) = y := by
      have := List.getElem?_eq_getElem (l := ps.toList.map (·.2)) (i := q) (by simpa [hpl] using hqn)
      rw [this] at hy; injection hy
    rw [this, ← hl]; exact (helem q e he).1
  obtain ⟨r, hr, hrs, hrk⟩ := Great.fill_dense (s := sz) (by omega) ((ps.toList.map (·.2)).map a.eval) 0 ((Array.range (n * sz)).map (z.cells[· % z.cells.size]!)) hsize (by simp [hpl])
  have hparts : (ps.map fun p => (p.1, a.eval p.2)).toList = ((((ps.toList.map (·.2)).map a.eval).zipIdx 0).map fun x => (x.2, x.1)) := by
    rw [zipIdx_mapf, List.map_map, Array.toList_map]
    conv => lhs; rw [zipIdx_of_range ps.toList 0 (by rw [hidx, hpl, List.range_eq_range'])]
    rw [List.map_map]; rfl
  have hn0 : ¬ n * sz > 2 ^ 24 := by omega
  have hbs : (Instr.buildSlice t n (ps.map fun p => (p.1, a.eval p.2))).run P w = .ok (.slice (some ⟨w.heap.size, 0, none⟩) n n) (w.alloc (.cells r el)) := by
    rcases Nat.eq_zero_or_pos n with hz0 | hz0
    · subst hz0
      have hps : ps.toList = [] := List.eq_nil_of_length_eq_zero hpl
      have hps' : ps = #[] := by rw [← Array.toList_inj]; exact hps
      subst hps'
      have hr0 : r = #[] := Array.eq_empty_of_size_eq_zero (by rw [hrs]; simp)
      subst hr0
      have e0 : ∀ f : Nat → Value, Array.map f (Array.range 0) = #[] := fun f => Array.eq_empty_of_size_eq_zero (by simp)
      simp [Instr.buildSlice, und hu, szOf hi, hisz, Instr.fill, newRow, e0]
    · have hpos : ¬ n * i.size = 0 := by rw [hisz]; have := Nat.mul_pos hz0 (show 0 < sz by omega); omega
      refine run_buildSlice w t el n _ r i z hu hi hz (by rw [hisz]; exact hn0) hpos ?_
      rw [hisz, hparts]; exact hr
  have hrun : (execOp a.eval o).run P w = .ok (.value (.slice (some ⟨w.heap.size, 0, none⟩) n n)) (w.alloc (.cells r el)) := by
    simp only [execOp, ho, Sem.run_bind, hbs, Result.andThen_ok, Sem.run_pure]
  rw [hen]
  refine new_ok (cells := r) (ty := el) (w' := w.alloc (.cells r el)) h0 hf0 hd hlt h1 h2 hrun rfl rfl rfl rfl (fun ρ' hρ' hk => ?_) (fun Own' ρ' hρ' => ?_)
  · simp only [BRel, hρ']
    have hrsz : r.size = n * sz := by rw [hrs]; simp
    refine ⟨r, push_get w rfl, fun e he => ?_, by rw [hen, hrsz]; omega, fun q j x hx => ?_⟩
    · obtain ⟨q, hq⟩ := List.getElem?_of_mem he
      exact (helem q e hq).1
    · obtain ⟨e, he, hj⟩ := Option.bind_eq_some_iff.1 hx
      have hq : q < n := by
        rcases Nat.lt_or_ge q es.length with h' | h'
        · omega
        · rw [List.getElem?_eq_none h'] at he; cases he
      obtain ⟨e', y, he', hy, hl, hvr⟩ := hval q hq
      rw [he] at he'; injection he' with he'; subst he'
      have hjs : j < sz := by
        rcases Nat.lt_or_ge j e.length with h' | h'
        · rw [← (helem q e he).1]; exact h'
        · rw [List.getElem?_eq_none h'] at hj; cases hj
      have hdiv : (q * sz + j) / sz = q := by rw [Nat.mul_comm, Nat.mul_add_div (by omega)]; simp [Nat.div_eq_of_lt hjs]
      have hmod : (q * sz + j) % sz = j := by rw [Nat.mul_comm, Nat.mul_add_mod]; exact Nat.mod_eq_of_lt hjs
      have hle : q * sz + sz ≤ n * sz := by have := Nat.mul_le_mul_right sz (show q + 1 ≤ n from hq); rwa [Nat.add_mul, Nat.one_mul] at this
      have hk2 := hrk (q * sz + j)
      rw [if_pos ⟨by simp, by simp [hpl]; omega⟩, hdiv, hmod] at hk2
      simp only [Nat.sub_zero, List.getElem?_map, hy, Option.map_some, Option.bind_some] at hk2
      have hjc : j < (a.eval y).cells.size := by rw [← hl, (helem q e he).1]; exact hjs
      have hv := hvr j x hj
      have e1 : (a.eval y).cells.getD j undef = (a.eval y).cells[j] := by simp [hjc]
      rw [e1] at hv
      have hxt := List.all_eq_true.1 (helem q e he).2 x (List.mem_of_getElem? hj)
      refine ⟨(a.eval y).cells[j], by rw [Nat.zero_add, hk2]; exact Array.getElem?_eq_getElem hjc, one_of_cell (tree_cell hxt) hv, (hv.toTree hxt).keep hk.toKeeps⟩
  · have := VRel.own (w := w.alloc (.cells r el)) (Own := Own') (ρ := ρ') (b := id) (sz := sz) (lo := 0) (n := n) (k := w.heap.size) (o := 0) (cap := n) hρ' (Nat.le_refl _) (fun cur ty fr hh => by
      rw [push_get w rfl] at hh
      injection hh with hh; injection hh with hh _ _
      rw [← hh, hrs]; simp)
    simpa using this
end

end Go.SX
