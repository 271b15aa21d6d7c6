/- Parts of a symbolic execution and of walks by it, for the statements of this seat: SxC, SxD, SxE. -/
import Derived.Test.YtdekelhmneeniaaQb0
import Derived.Laws.CopyRow
import Derived.Great.BuildSlice
import Derived.Laws.Append
import Derived.IntWalk
set_option linter.unusedVariables false
set_option linter.unusedSimpArgs false
namespace Go.SX
open Go
def isTree : AV → Bool
  | .lit _ | .nils _ | .ro _ _ | .fn _ [] => true
  | _ => false
def isCell : AV → Bool
  | .agg _ | .tup _ | .dead => false
  | _ => true
theorem VRel.toTree {w : World} {Own : Nat → Prop} {ρ : Map} {x : AV} {v : Value} (ht : isTree x = true) (h : VRel w Own ρ x v) : TRel w Own x v := by
  cases h with
  | tree h => exact h
  | fn hl h =>
    rename_i f cs vs
    cases cs with
    | nil => exact .fn hl (fun i x hx => by simp at hx)
    | cons _ _ => simp [isTree] at ht
  | _ => simp [isTree] at ht
theorem one_of_cell {w : World} {Own : Nat → Prop} {ρ : Map} {x : AV} {v : Value} (hc : isCell x = true) (h : VRel w Own ρ x v) : one v = true := by
  cases h with
  | tree h =>
    cases h with
    | lit hf => cases v <;> first | rfl | (simp [flat] at hf)
    | agg => simp [isCell] at hc
    | tup => simp [isCell] at hc
    | _ => rfl
  | agg => simp [isCell] at hc
  | tup => simp [isCell] at hc
  | dead => simp [isCell] at hc
  | _ => rfl
theorem tree_cell {x : AV} (h : isTree x = true) : isCell x = true := by cases x <;> simp_all [isTree, isCell]
theorem cellsA_cell {x : AV} (h : isCell x = true) : cellsA x = some [x] := by cases x <;> simp_all [isCell, cellsA]
theorem oneCell_of {v : Value} (h : one v = true) : v.oneCell' = true := by cases v <;> simp_all [one, Value.oneCell']
def lv (m : Mem) (n : Nat) : AV → Option (List AV)
  | .ptr b sz i j => match look m b with
    | some (.arr _ sz' es) => if sz = sz' ∧ j + n ≤ sz then (es[i]?).map fun e => (e.drop j).take n else none
    | some (.obj _ cs) => if i * sz + j + n ≤ cs.length then some ((cs.drop (i * sz + j)).take n) else none
    | _ => none
  | .rop sz es i j => if j + n ≤ sz then (es[i]?).map fun e => (e.drop j).take n else none
  | _ => none
def killS (b : Nat) (l : Slots) : Slots := l.map fun p => (p.1, kill b p.2)
def killB (b : Nat) : Blk → Blk
  | .arr ty sz es => .arr ty sz es
  | .obj ty cs => .obj ty (killL b cs)
  | .map es => .map es
def St.kill (st : St) (b : Nat) : St := ⟨killS b st.slots, (drop st.mem b).map fun p => (p.1, killB b p.2), st.fixed⟩
def St.fresh (st : St) (b : Nat) : St := match look st.mem b with
  | none => st
  | some _ => st.kill b
theorem look_mapv {α β : Type} (f : α → β) : ∀ (l : List (Nat × α)) (d : Nat), look (l.map fun p => (p.1, f p.2)) d = (look l d).map f
  | [], _ => rfl
  | (k, v) :: r, d => by
    simp only [List.map_cons, look]
    split
    · rfl
    · exact look_mapv f r d
def rowOf (st : St) : AV → Option (List (List AV))
  | .nils _ => some []
  | .ro _ es => some es
  | .own b sz lo n => match look st.mem b with
    | some (.arr _ sz' es) => if sz = sz' ∧ lo + n ≤ es.length then some ((es.drop lo).take n) else none
    | _ => none
  | _ => none
def rowSz : AV → Option Nat
  | .ro sz _ => some sz
  | .own _ sz _ _ => some sz
  | .nils sz => some sz
  | _ => none
def notOn (b : Nat) : AV → Bool
  | .own b' _ _ _ => b' != b
  | _ => true
def mapCells : List AV → Option (List (List AV))
  | [] => some []
  | x :: r => match cellsA x, mapCells r with
    | some c, some cs => some (c :: cs)
    | _, _ => none
def exec (d : Option Nat) (ao : AOp) (st : St) : Option St :=
  match ao with
  | .load n g x => match d, st.src x with
    | some d, some p => match lv st.mem n p with
      | some cs => match mkv g cs with
        | some r => some (st.put d r)
        | none => none
      | none => none
    | _, _ => none
  | .store n x v => match d, st.src x, (st.src v).bind cellsA with
    | none, some (.ptr b sz i j), some xs => if xs.length = n then match look st.mem b with
        | some (.arr ty sz' es) => match es[i]? with
          | some e => if sz = sz' ∧ j + n ≤ sz ∧ xs.all isTree = true then some { st with mem := upd st.mem b (.arr ty sz (es.set i (e.take j ++ xs ++ e.drop (j + n)))) } else none
          | _ => none
        | some (.obj ty cs) => if i * sz + j + n ≤ cs.length ∧ xs.all isCell = true then some { st with mem := upd st.mem b (.obj ty (cs.take (i * sz + j) ++ xs ++ cs.drop (i * sz + j + n))) } else none
        | _ => none
        else none
    | _, _, _ => none
  | .alloc id ty zero => match d with
    | some d => if st.fixed.contains id = true then none else let s := st.fresh id; some (St.put { s with mem := upd s.mem id (.obj ty zero) } d (.ptr id 0 0 0))
    | none => none
  | .box id ty n x => if st.fixed.contains id = true then none else let s := st.fresh id; match d, (s.src x).bind cellsA with
    | some d, some xs => if xs.length = n ∧ xs.all isCell = true then some (St.put { s with mem := upd s.mem id (.obj ty xs) } d (.ptr id 0 0 0)) else none
    | _, _ => none
  | .bslice id ty sz xs => if st.fixed.contains id = true then none else let s := st.fresh id; match d, (srcsOf s.src xs).bind mapCells with
    | some d, some es => if es.all (fun e => e.length == sz && e.all isTree) = true then some (St.put { s with mem := upd s.mem id (.arr ty sz es) } d (.own id sz 0 es.length)) else none
    | _, _ => none
  | .mkslice id ty sz bytes zero n => if st.fixed.contains id = true then none else let s := st.fresh id; match d, s.src n with
    | some d, some (.lit (.int k q)) => if 0 ≤ q ∧ q * bytes ≤ 281474976710656 ∧ k = .i64 then some (St.put { s with mem := upd s.mem id (.arr ty sz (List.replicate q.toNat zero)) } d (.own id sz 0 q.toNat)) else none
    | _, _ => none
  | .mkrow id ty sz bytes zero n => if st.fixed.contains id = true then none else let s := st.fresh id; match d, s.src n with
    | some d, some (.lit (.int k q)) => if 0 ≤ q ∧ q * bytes ≤ 281474976710656 ∧ k = .i64 then some (St.put { s with mem := upd s.mem id (.obj ty (List.replicate q.toNat zero).flatten) } d (.own id sz 0 q.toNat)) else none
    | _, _ => none
  | .append id ty sz bytes x y => match d, st.src x, st.src y with
    | some d, some (.own b sz' lo n), some q => match rowOf st (.own b sz' lo n), rowOf st q, look st.mem b with
      | some xs, some ys, some (.arr ty' _ _) => if sz = sz' ∧ (ys = [] ∨ rowSz q = some sz) ∧ ty = ty' ∧ notOn b q = true ∧ st.fixed.contains b = false ∧ (n + ys.length) * bytes ≤ 140737488355328 then
          let s := st.kill b
          some (St.put { s with mem := upd s.mem b (.arr ty sz (xs ++ ys)) } d (.own b sz 0 (n + ys.length))) else none
      | _, _, _ => none
    | some d, some (.nils sz'), some q => match rowOf st q with
      | some ys => if sz = sz' ∧ (ys = [] ∨ rowSz q = some sz) ∧ notOn id q = true ∧ st.fixed.contains id = false ∧ ys.length * bytes ≤ 140737488355328 then
          let s := st.fresh id
          some (St.put { s with mem := upd s.mem id (.arr ty sz ys) } d (.own id sz 0 ys.length)) else none
      | none => none
    | _, _, _ => none
  | _ => match d, pv st.src ao with
    | some d, some r => some (st.put d r)
    | _, _ => none
def wrs (st : St) : AOp → List Nat
  | .store _ x _ => match st.src x with
    | some (.ptr b _ _ _) => [b]
    | _ => []
  | .append id _ _ _ x _ => match st.src x with
    | some (.own b _ _ _) => [b]
    | _ => [id]
  | .alloc id _ _ => [id]
  | .box id _ _ _ => [id]
  | .bslice id _ _ _ => [id]
  | .mkslice id _ _ _ _ _ => [id]
  | .mkrow id _ _ _ _ _ => [id]
  | _ => []
def chkM (P : Program) (o : Oper) : AOp → Bool
  | .load n g x => match o.op with | .load t y => shape1 P t n g && n != 0 && srcOK y x | _ => false
  | .store n x v => match o.op with | .store t y z => (match P.info? t with | some i => i.size == n | none => false) && srcOK y x && srcOK z v | _ => false
  | .alloc _ ty zero => match o.op with | .alloc t => t == ty && zeroOK P t zero && zero.all isCell | _ => false
  | .box _ ty _ x => match o.op with | .box t y => t == ty && srcOK y x | _ => false
  | .bslice _ ty sz xs => match o.op with
    | .buildSlice t n ps => (match P.underlying t, P.info? ty with
      | some (.slice e), some i => e == ty && i.size == sz && sz != 0 && (match i.zero with | some _ => true | none => false)
      | _, _ => false) && n == xs.length && decide (n * sz ≤ 16777216) && ps.toList.map (·.1) == List.range n && okL (ps.toList.map (·.2)) xs
    | _ => false
  | .mkslice _ ty sz bytes zero n => match o.op with
    | .makeSlice t y z => (match P.underlying t, P.info? ty with
      | some (.slice e), some i => e == ty && i.size == sz && i.bytes == bytes && sz != 0 && bytes != 0
      | _, _ => false) && zeroOK P ty zero && zero.all isTree && zero.length == sz && srcOK y n && srcOK z n
    | _ => false
  | .mkrow _ ty sz bytes zero n => match o.op with
    | .makeSlice t y z => (match P.underlying t, P.info? ty with
      | some (.slice e), some i => e == ty && i.size == sz && i.bytes == bytes && sz != 0 && bytes != 0
      | _, _ => false) && zeroOK P ty zero && zero.all isTree && zero.length == sz && srcOK y n && srcOK z n
    | _ => false
  | .append _ ty sz bytes x y => match o.op with
    | .call c => (match c.callee with | .builtin .append => true | _ => false) && (match c.argTypes[0]?, c.argTypes[1]? with
      | some t, some t' => (match P.underlying t, P.underlying t', P.info? ty with
        | some (.slice e), some (.slice _), some i => e == ty && i.size == sz && i.bytes == bytes && sz != 0 && bytes != 0 && (match i.zero with | some z => z.cells.size == sz | none => false)
        | _, _, _ => false)
      | _, _ => false) && okL c.args.toList [x, y]
    | _ => false
  | ao => chk P o ao
def StepOK (P : Program) (c : Ctx) (o : Oper) (st' : St) (ws : List Nat) (ρ : Map) (a : Act) (w : World) : Prop :=
  ∃ r w' ρ' v, (execOp a.eval o).run P w = .ok r w' ∧ (r = .value v ∨ r = .skip ∧ v = undef) ∧ Conc c st' ρ' (a.put o.dst v) w' ∧
    (∀ k, k < w.heap.size → (∀ b o', b ∈ ws → ρ b ≠ some (k, o')) → w'.heap[k]? = w.heap[k]?) ∧ (∀ b k o', ρ' b = some (k, o') → ρ b = some (k, o') ∨ (b ∈ ws ∧ (w.heap.size ≤ k ∨ ∃ b0 ∈ ws, ∃ o2, ρ b0 = some (k, o2))))
section
variable {P : Program} {c : Ctx} {o : Oper} {st : St} {ρ : Map} {a : Act} {w : World}
theorem own_iff {A : Nat → Prop} {ρ ρ' : Map} (h : ∀ b, ρ' b = ρ b) (k : Nat) : OwnBy A ρ' k ↔ OwnBy A ρ k := by simp [OwnBy, h]
theorem Conc.kill (h : Conc c st ρ a w) (b : Nat) (hfx : st.fixed.contains b = false) : Conc c (st.kill b) (fun x => if x = b then none else ρ x) a w := by
  have hk : KeepsV w w (OwnBy c.A ρ) (OwnBy c.A (fun x => if x = b then none else ρ x)) ρ (fun x => if x = b then none else ρ x) (fun k => k ≠ b) := {
    size := Nat.le_refl _
    same := fun _ _ _ => rfl
    own := fun k _ hk => by
      rcases hk with hk | ⟨b', o', hk⟩
      · exact .inl hk
      · replace hk : (if b' = b then none else ρ b') = some (k, o') := hk
        split at hk
        · cases hk
        · exact .inr ⟨b', o', hk⟩
    map := fun b' hb' k o' hρ => by simp only [hb', if_false]; exact hρ
    rows := fun k cur ty fr _ hh => ⟨cur, ty, fr, hh, rfl⟩
    lt := h.lt }
  have hm : ∀ b' blk', look (st.kill b).mem b' = some blk' → b' ≠ b ∧ ∃ blk, look st.mem b' = some blk ∧ blk' = killB b blk := by
    intro b' blk' hl
    simp only [St.kill, look_mapv, look_drop] at hl
    split at hl
    · simp at hl
    · rename_i hne
      obtain ⟨blk, h1, h2⟩ := Option.map_eq_some_iff.1 hl
      exact ⟨hne, blk, h1, h2.symm⟩
  refine { slots := ?_, defers := h.defers, mem := ?_, dom := ?_, lt := ?_, inj := ?_, mine := ?_, far := ?_, fix := fun b' hb' => by rw [if_neg (by rintro rfl; simp at hfx; exact hfx hb')]; exact h.fix b' hb', alt := h.alt, os := h.os, tape := h.tape, output := h.output, size := h.size, frame := h.frame, rows := h.rows }
  · intro d x hx
    simp only [St.kill, killS, look_mapv] at hx
    obtain ⟨y, hy, rfl⟩ := Option.map_eq_some_iff.1 hx
    exact ((h.slots d y hy).kill b).keep hk (refs_kill b y)
  · intro b' blk' hl
    obtain ⟨hne, blk, hl', rfl⟩ := hm b' blk' hl
    have hB := h.mem b' blk hl'
    cases blk with
    | arr ty sz es => exact hB.keep hk (by simp [hne]) (fun _ _ _ => rfl) (fun _ _ h => by cases h)
    | map es => exact hB.keep hk (by simp [hne]) (fun _ _ _ => rfl) (fun _ _ h => by cases h)
    | obj ty cs =>
      have hB2 : BRel w (OwnBy c.A ρ) ρ b' (.obj ty (killL b cs)) := by
        obtain ⟨k, cur, h0, h1, h2, h3⟩ := hB
        refine ⟨k, cur, h0, h1, by rw [killL_length]; exact h2, fun j x hx => ?_⟩
        rw [killL_get] at hx
        obtain ⟨y, hy, rfl⟩ := Option.map_eq_some_iff.1 hx
        obtain ⟨v, hv, h1v, ht⟩ := h3 j y hy
        exact ⟨v, hv, h1v, ht.kill b⟩
      exact hB2.keep hk (by simp [hne]) (fun _ _ _ => rfl) (fun _ _ h => by cases h; exact refs_killL b cs)
  · intro b' k o' hρ
    split at hρ
    · cases hρ
    · rename_i hne
      obtain ⟨blk, hl⟩ := h.dom b' k o' hρ
      exact ⟨killB b blk, by simp [St.kill, look_mapv, look_drop, hne, hl]⟩
  · intro b' k o' hρ
    split at hρ
    · cases hρ
    · exact h.lt _ _ _ hρ
  · intro b1 b2 k o1 o2 h1 h2
    split at h1 <;> split at h2 <;> first | (cases h1; done) | (cases h2; done) | exact h.inj _ _ _ _ _ h1 h2
  · intro b' k o' hρ
    split at hρ
    · cases hρ
    · exact h.mine _ _ _ hρ
  · intro b' k o' hρ
    split at hρ
    · cases hρ
    · exact h.far _ _ _ hρ
theorem Conc.fresh (h : Conc c st ρ a w) (b : Nat) (hfx : st.fixed.contains b = false) : ∃ ρ0, Conc c (st.fresh b) ρ0 a w ∧ ρ0 b = none ∧ look (st.fresh b).mem b = none ∧ ∀ b' k o', ρ0 b' = some (k, o') → ρ b' = some (k, o') := by
  unfold St.fresh
  split
  · rename_i hl
    refine ⟨ρ, h, ?_, hl, fun _ _ _ h => h⟩
    cases hρ : ρ b with
    | none => rfl
    | some p =>
      obtain ⟨k, o'⟩ := p
      obtain ⟨blk, hb⟩ := h.dom b k o' hρ
      rw [hl] at hb; cases hb
  · refine ⟨_, h.kill b hfx, by simp, by simp [St.kill, look_mapv, look_drop], fun b' k o' hρ => ?_⟩
    split at hρ
    · cases hρ
    · exact hρ
theorem Conc.writeO (h : Conc c st ρ a w) {b k o' : Nat} {w' : World} {blk0 blk : Blk} (hb : look st.mem b = some blk0) (hρ : ρ b = some (k, o'))
    (hrow : ∀ cur1 ty1 fr1, w'.heap[k]? = some (.cells cur1 ty1 fr1) → ∃ cur0 ty0 fr0, w.heap[k]? = some (.cells cur0 ty0 fr0) ∧ cur0.size = cur1.size) (hsame : ∀ k', k' ≠ k → w'.heap[k']? = w.heap[k']?) (hs : w'.heap.size = w.heap.size)
    (e1 : w'.os = w.os) (e2 : w'.tape = w.tape) (e3 : OutLe w' w)
    (hB : KeepsV w w' (OwnBy c.A ρ) (OwnBy c.A ρ) ρ ρ (fun _ => True) → BRel w' (OwnBy c.A ρ) ρ b blk) : Conc c { st with mem := upd st.mem b blk } ρ a w' := by
  have hO : OwnBy c.A ρ k := .inr ⟨b, o', hρ⟩
  have hk : KeepsV w w' (OwnBy c.A ρ) (OwnBy c.A ρ) ρ ρ (fun _ => True) := {
    size := by rw [hs]; exact Nat.le_refl _
    same := fun k' _ hno => hsame k' (by rintro rfl; exact hno hO)
    own := fun _ _ h => h
    map := fun _ _ _ _ h => h
    rows := fun k' cur1 ty1 fr1 _ hc => by
      by_cases e : k' = k
      · subst e; exact hrow _ _ _ hc
      · rw [hsame k' e] at hc; exact ⟨cur1, ty1, fr1, hc, rfl⟩
    lt := h.lt }
  refine { slots := fun d x hx => (h.slots d x hx).keep hk (refs_all x), defers := h.defers, mem := ?_, dom := ?_, lt := fun b' k' o2 h' => by rw [hs]; exact h.lt _ _ _ h', inj := h.inj, mine := h.mine, far := h.far, fix := h.fix, alt := h.alt, os := e1.trans h.os, tape := e2.trans h.tape, output := e3.trans h.output, size := by rw [hs]; exact h.size, frame := ?_, rows := h.rows' hk }
  · intro b' blk' hl
    simp only [look_upd] at hl
    split at hl
    · rename_i e; subst e; injection hl with hl; subst hl; exact hB hk
    · rename_i hne
      refine (h.mem b' blk' hl).keep hk rfl (fun k' o2 h' => hsame k' ?_) (fun _ cs _ => refs_allL cs)
      rintro rfl
      exact hne (h.inj _ _ _ _ _ h' hρ)
  · intro b' k' o2 h'
    simp only [look_upd]
    split
    · exact ⟨blk, rfl⟩
    · exact h.dom _ _ _ h'
  · intro k' hlt hF
    rw [hsame k' ?_]
    · exact h.frame k' hlt hF
    · rintro rfl
      rcases h.mine _ _ _ hρ with h1 | h1
      · exact hF h1
      · omega
theorem Conc.write (h : Conc c st ρ a w) {b k o' : Nat} {w' : World} {cur cur' : Array Value} {ty ty' : TypeId} {blk0 blk : Blk} (hb : look st.mem b = some blk0) (hρ : ρ b = some (k, o'))
    (hh : w.heap[k]? = some (.cells cur ty (0, 0))) (hh' : w'.heap[k]? = some (.cells cur' ty' (0, 0))) (hsz : cur'.size = cur.size) (hsame : ∀ k', k' ≠ k → w'.heap[k']? = w.heap[k']?) (hs : w'.heap.size = w.heap.size)
    (e1 : w'.os = w.os) (e2 : w'.tape = w.tape) (e3 : OutLe w' w)
    (hB : KeepsV w w' (OwnBy c.A ρ) (OwnBy c.A ρ) ρ ρ (fun _ => True) → BRel w' (OwnBy c.A ρ) ρ b blk) : Conc c { st with mem := upd st.mem b blk } ρ a w' :=
  h.writeO hb hρ (fun cur1 ty1 fr1 hc => by
    rw [hh'] at hc
    injection hc with hc; injection hc with hc1 hc2 hc3
    exact ⟨cur, ty, (0, 0), hh, by rw [← hc1, hsz]⟩) hsame hs e1 e2 e3 hB
theorem Conc.new (h : Conc c st ρ a w) {b : Nat} (hfx : st.fixed.contains b = false) (hb : ρ b = none) (hm : look st.mem b = none) {ob : Obj} {blk : Blk} {w' : World} (hw : w'.heap = w.heap.push ob) (e1 : w'.os = w.os) (e2 : w'.tape = w.tape) (e3 : OutLe w' w)
    (hB : KeepsV w w' (OwnBy c.A ρ) (OwnBy c.A (fun x => if x = b then some (w.heap.size, 0) else ρ x)) ρ (fun x => if x = b then some (w.heap.size, 0) else ρ x) (fun _ => True) → BRel w' (OwnBy c.A (fun x => if x = b then some (w.heap.size, 0) else ρ x)) (fun x => if x = b then some (w.heap.size, 0) else ρ x) b blk) :
    Conc c { st with mem := upd st.mem b blk } (fun x => if x = b then some (w.heap.size, 0) else ρ x) a w' := by
  have hold : ∀ k, k < w.heap.size → w'.heap[k]? = w.heap[k]? := fun k hk => by rw [hw, Array.getElem?_push, if_neg (by omega)]
  have hsz : w'.heap.size = w.heap.size + 1 := by rw [hw]; simp
  have hk : KeepsV w w' (OwnBy c.A ρ) (OwnBy c.A (fun x => if x = b then some (w.heap.size, 0) else ρ x)) ρ (fun x => if x = b then some (w.heap.size, 0) else ρ x) (fun _ => True) := {
    size := by omega
    same := fun k hk _ => hold k hk
    own := fun k hk hO => by
      rcases hO with hO | ⟨b', o', hO⟩
      · exact .inl hO
      · replace hO : (if b' = b then some (w.heap.size, 0) else ρ b') = some (k, o') := hO
        split at hO
        · injection hO with hO; injection hO with hO _; omega
        · exact .inr ⟨b', o', hO⟩
    map := fun b' _ k o' hρ => by
      split
      · rename_i e; subst e; rw [hb] at hρ; cases hρ
      · exact hρ
    rows := fun k cur ty fr hk hh => ⟨cur, ty, fr, by rwa [hold k hk] at hh, rfl⟩
    lt := h.lt }
  refine { slots := fun d x hx => (h.slots d x hx).keep hk (refs_all x), defers := h.defers, mem := ?_, dom := ?_, lt := ?_, inj := ?_, mine := ?_, far := ?_, fix := fun b' hb' => by rw [if_neg (by rintro rfl; simp at hfx; exact hfx hb')]; exact h.fix b' hb', alt := h.alt, os := e1.trans h.os, tape := e2.trans h.tape, output := e3.trans h.output, size := by have := h.size; omega, frame := fun k hk hF => (hold k (by have := h.size; omega)).trans (h.frame k hk hF), rows := h.rows' hk }
  · intro b' blk' hl
    simp only [look_upd] at hl
    split at hl
    · rename_i e; subst e; injection hl with hl; subst hl; exact hB hk
    · rename_i hne
      exact (h.mem b' blk' hl).keep hk (by simp [hne]) (fun k o' h' => hold k (h.lt _ _ _ h')) (fun _ cs _ => refs_allL cs)
  · intro b' k o' h'
    simp only [look_upd]
    split
    · exact ⟨blk, rfl⟩
    · rename_i hne
      simp only [hne, if_false] at h'
      exact h.dom _ _ _ h'
  · intro b' k o' h'
    split at h'
    · injection h' with h'; injection h' with h1 h2; omega
    · have := h.lt _ _ _ h'; omega
  · intro b1 b2 k o1 o2 h1 h2
    split at h1 <;> split at h2
    · rename_i e1 e2; rw [e1, e2]
    · injection h1 with h1; injection h1 with h1 _
      have := h.lt _ _ _ h2; omega
    · injection h2 with h2; injection h2 with h2 _
      have := h.lt _ _ _ h1; omega
    · exact h.inj _ _ _ _ _ h1 h2
  · intro b' k o' h'
    split at h'
    · injection h' with h'; injection h' with h1 h2
      exact .inr (by rw [← h1]; exact h.size)
    · exact h.mine _ _ _ h'
  · intro b' k o' h'
    split at h'
    · injection h' with h'; injection h' with h1 h2
      intro hA
      have := h.alt _ hA; have := h.size; omega
    · exact h.far _ _ _ h'
theorem load1 {w : World} {ad : Addr} {v : Value} (h : w.cell? ad = some v) : (load ad).run P w = .ok v w := by
  simp [load, Sem.run, h]
theorem lv_rel (h : Conc c st ρ a w) {x : AV} {p : Value} (hx : VRel w (OwnBy c.A ρ) ρ x p) {n : Nat} {cs : List AV} (hl : lv st.mem n x = some cs) (hn : n ≠ 0) :
    ∃ (ad : Addr) (vs : List Value), p = .pointer (some ad) ∧ ad.block < w.heap.size ∧ cs.length = n ∧ vs.length = n ∧ (∀ j v, vs[j]? = some v → w.cell? (ad.add j) = some v) ∧ (∀ (j : Nat) y, cs[j]? = some y → VRel w (OwnBy c.A ρ) ρ y (vs.getD j undef)) ∧
      ((∃ b sz i j o', x = .ptr b sz i j ∧ ρ b = some (ad.block, o')) ∨ ((∃ sz es i j, x = .rop sz es i j) ∧ ¬ OwnBy c.A ρ ad.block)) := by
  cases x <;> simp only [lv] at hl <;> try (cases hl; done)
  case ptr b sz i j =>
    have hp : ∃ k o', ρ b = some (k, o') ∧ p = .pointer (some ⟨k, o' + (i * sz + j), none⟩) := by
      cases hx with
      | tree h => cases h
      | ptr h => exact ⟨_, _, h, rfl⟩
    obtain ⟨k, o', hρ, rfl⟩ := hp
    split at hl
    · rename_i ty sz' es hm
      split at hl <;> try (cases hl; done)
      rename_i hc
      obtain ⟨rfl, hc⟩ := hc
      obtain ⟨e, he, rfl⟩ := Option.map_eq_some_iff.1 hl
      have hB := h.mem b _ hm
      simp only [BRel, hρ] at hB
      obtain ⟨cur, hh, hlen, hsz, hcell⟩ := hB
      have hel : e.length = sz := hlen e (List.mem_of_getElem? he)
      have hget : ∀ q, q < n → ∃ v, cur[o' + (i * sz + j) + q]? = some v ∧ ∃ y, ((e.drop j).take n)[q]? = some y ∧ TRel w (OwnBy c.A ρ) y v := by
        intro q hq
        have hy : ((e.drop j).take n)[q]? = some (e[j + q]'(by omega)) := by
          rw [List.getElem?_take_of_lt hq, List.getElem?_drop, List.getElem?_eq_getElem (by omega)]
        obtain ⟨v, hv, _, ht⟩ := hcell i (j + q) _ (show cellAt es i (j + q) = some (e[j + q]'(by omega)) by simp only [cellAt, he, Option.bind_some]; exact List.getElem?_eq_getElem (by omega))
        exact ⟨v, by rw [← hv]; congr 1; omega, _, hy, ht⟩
      refine ⟨⟨k, o' + (i * sz + j), none⟩, (List.range n).map (fun q => cur.getD (o' + (i * sz + j) + q) undef), rfl, h.lt _ _ _ hρ, by simp; omega, by simp, ?_, ?_, .inl ⟨b, sz, i, j, o', rfl, hρ⟩⟩
      · intro q v hv
        simp only [List.getElem?_map, Option.map_eq_some_iff] at hv
        obtain ⟨q', hq', rfl⟩ := hv
        have hqn : q < n ∧ q' = q := by
          rcases Nat.lt_or_ge q n with h1 | h1
          · rw [List.getElem?_range h1] at hq'; injection hq' with hq'; exact ⟨h1, hq'.symm⟩
          · rw [List.getElem?_eq_none (by simpa using h1)] at hq'; cases hq'
        obtain ⟨hqn, rfl⟩ := hqn
        obtain ⟨v, hv, _⟩ := hget q' hqn
        rw [add_none]
        simp [World.cell?, hh, hv]
      · intro q y hy
        have hqn : q < n := by
          rcases Nat.lt_or_ge q n with h1 | h1
          · exact h1
          · rw [List.getElem?_eq_none (by simp; omega)] at hy; cases hy
        obtain ⟨v, hv, y', hy', ht⟩ := hget q hqn
        rw [hy'] at hy; injection hy with hy; subst hy
        have e2 : ((List.range n).map (fun q => cur.getD (o' + (i * sz + j) + q) undef)).getD q undef = v := by
          simp [List.getD, hqn, hv]
        rw [e2]; exact .tree ht
    · rename_i ty cs0 hm
      split at hl <;> try (cases hl; done)
      rename_i hc
      injection hl with hl; subst hl
      obtain ⟨k', cur, hρ', hh, hsz, hcell⟩ := h.mem b _ hm
      rw [hρ] at hρ'; injection hρ' with hρ'; injection hρ' with h1 h2; subst h1; subst h2
      refine ⟨⟨k, 0 + (i * sz + j), none⟩, (List.range n).map (fun q => cur.getD (i * sz + j + q) undef), rfl, h.lt _ _ _ hρ, by simp; omega, by simp, ?_, ?_, .inl ⟨b, sz, i, j, 0, rfl, hρ⟩⟩
      · intro q v hv
        simp only [List.getElem?_map, Option.map_eq_some_iff] at hv
        obtain ⟨q', hq', rfl⟩ := hv
        have hqn : q < n ∧ q' = q := by
          rcases Nat.lt_or_ge q n with h1 | h1
          · rw [List.getElem?_range h1] at hq'; injection hq' with hq'; exact ⟨h1, hq'.symm⟩
          · rw [List.getElem?_eq_none (by simpa using h1)] at hq'; cases hq'
        obtain ⟨hqn, rfl⟩ := hqn
        rw [add_none, show 0 + (i * sz + j) + q' = i * sz + j + q' from by omega]
        have hlt : i * sz + j + q' < cur.size := by omega
        simp [World.cell?, hh, hlt]
      · intro q y hy
        have hqn : q < n := by
          rcases Nat.lt_or_ge q n with h1 | h1
          · exact h1
          · rw [List.getElem?_eq_none (by simp; omega)] at hy; cases hy
        rw [List.getElem?_take_of_lt hqn, List.getElem?_drop] at hy
        obtain ⟨v, hv, _, ht⟩ := hcell _ _ hy
        have e2 : ((List.range n).map (fun q => cur.getD (i * sz + j + q) undef)).getD q undef = v := by
          simp [List.getD, hqn, hv]
        rw [e2]; exact ht
    · cases hl
  case rop sz es i j =>
    split at hl <;> try (cases hl; done)
    rename_i hc
    obtain ⟨e, he, rfl⟩ := Option.map_eq_some_iff.1 hl
    cases hx with
    | tree h => cases h
    | @rop _ _ _ _ ad val hs hlen hblk hi hj hcell hone hrel =>
      have hel : e.length = sz := hlen e (List.mem_of_getElem? he)
      have hca : ∀ q, ∀ _ : q < n, cellAt es i (j + q) = some (e[j + q]'(by omega)) := fun q hq => by
        simp only [cellAt, he, Option.bind_some]; exact List.getElem?_eq_getElem (by omega)
      have hlt := cell_lt (hcell i (j + 0) _ (hca 0 (by omega)))
      rw [add_blk] at hlt
      refine ⟨ad.add (i * sz + j), (List.range n).map (fun q => val i (j + q)), rfl, by rw [add_blk]; exact hlt, by simp; omega, by simp, ?_, ?_, .inr ⟨⟨_, _, _, _, rfl⟩, by rw [add_blk]; exact hblk⟩⟩
      · intro q v hv
        simp only [List.getElem?_map, Option.map_eq_some_iff] at hv
        obtain ⟨q', hq', rfl⟩ := hv
        have hqn : q < n ∧ q' = q := by
          rcases Nat.lt_or_ge q n with h1 | h1
          · rw [List.getElem?_range h1] at hq'; injection hq' with hq'; exact ⟨h1, hq'.symm⟩
          · rw [List.getElem?_eq_none (by simpa using h1)] at hq'; cases hq'
        obtain ⟨hqn, rfl⟩ := hqn
        rw [Addr.add_add, Nat.add_assoc]
        exact hcell _ _ _ (hca q' hqn)
      · intro q y hy
        have hqn : q < n := by
          rcases Nat.lt_or_ge q n with h1 | h1
          · exact h1
          · rw [List.getElem?_eq_none (by simp; omega)] at hy; cases hy
        have hjq : j + q < e.length := by omega
        rw [List.getElem?_take_of_lt hqn, List.getElem?_drop, List.getElem?_eq_getElem hjq] at hy
        injection hy with hy; subst hy
        have e2 : ((List.range n).map (fun q => val i (j + q))).getD q undef = val i (j + q) := by
          simp [List.getD, hqn]
        rw [e2]; exact .tree (hrel _ _ _ (hca q hqn))
theorem load_ok (h : Conc c st ρ a w) {n : Nat} {g : Bool} {x : Src} {p r : AV} {cs : List AV} (hc : chkM P o (.load n g x) = true) (hx : st.src x = some p) (hl : lv st.mem n p = some cs) (hr : mkv g cs = some r) :
    ∃ v blk, (∀ w', w'.heap[blk]? = w.heap[blk]? → (execOp a.eval o).run P w' = .ok (.value v) w') ∧ VRel w (OwnBy c.A ρ) ρ r v ∧ blk < w.heap.size ∧
      ((∃ b sz i j o', p = .ptr b sz i j ∧ ρ b = some (blk, o')) ∨ ((∃ sz es i j, p = .rop sz es i j) ∧ ¬ OwnBy c.A ρ blk)) := by
  simp only [chkM] at hc
  split at hc <;> try (cases hc; done)
  rename_i t y ho
  simp only [Bool.and_eq_true] at hc
  obtain ⟨d, i, hd, hi, hsz, hag⟩ := shape1_spec hc.1.1
  have hn : n ≠ 0 := by simpa using hc.1.2
  obtain ⟨ad, vs, hp, hlt, hcl, hvl, hcell, hrel, hblk⟩ := lv_rel h (h.srcs _ _ _ hc.2 hx) hl hn
  have hR := mkv_rel (R := VRel w (OwnBy c.A ρ) ρ) (fun _ _ h1 h2 => .agg h1 h2) (vs := vs.toArray) hr (by simp; omega) (fun i x hx => by have := hrel i x hx; simpa [List.getD] using this)
  refine ⟨_, ad.block, fun w' hw' => ?_, hR, hlt, hblk⟩
  have hcell' : ∀ j v, vs[j]? = some v → w'.cell? (ad.add j) = some v := fun j v hv => by
    rw [World.cell?_of_block (w := w) (by rw [add_blk]; exact hw')]; exact hcell j v hv
  cases g
  · have hn1 : n = 1 := by
      unfold mkv at hr; simp only [Bool.false_eq_true, if_false] at hr
      split at hr
      · simpa using hcl.symm
      · cases hr
    subst hn1
    obtain ⟨v, rfl⟩ : ∃ v, vs = [v] := List.length_eq_one_iff.1 hvl
    have h0 := hcell' 0 v rfl
    have e0 : ad.add 0 = ad := by simp [Addr.add]
    rw [e0] at h0
    simp [execOp, ho, hp, Instr.loadAt, Instr.sureAddr, loadVar, hag, h0]
  · have := run_loadCells_list (P := P) w' ad vs hcell'
    rw [hvl] at this
    simp [execOp, ho, hp, Instr.loadAt, Instr.sureAddr, loadVar, hag, szOf hi, hsz, this]
theorem put_none (a : Act) (v : Value) : a.put none v = a := rfl
theorem run_storeVar (t : TypeId) {i : TypeInfo} (hi : P.info? t = some i) {k off : Nat} {ty : TypeId} {cur : Array Value} {v : Value} (hh : w.heap[k]? = some (.cells cur ty (0, 0))) (hsz : v.cells.size = i.size) (hfit : off + v.cells.size ≤ cur.size)
    (h1 : ∀ u ∈ v.cells.toList, u.oneCell' = true) : (storeVar t ⟨k, off, none⟩ v).run P w = .ok () (w.setRow k (cur.toList.take off ++ v.cells.toList ++ cur.toList.drop (off + v.cells.size)).toArray) := by
  have := run_storeCells_at (P := P) k off ty v.cells.toList 0 cur w hh (by simpa using hfit) h1
  simp only [Nat.add_zero, Array.length_toList] at this
  simp [storeVar, szOf hi, hsz, this]
theorem setRow_get (w : World) (k : Nat) (cur cur' : Array Value) (ty : TypeId) (fr : Nat × Nat) (h : w.heap[k]? = some (.cells cur ty fr)) : (w.setRow k cur').heap[k]? = some (.cells cur' ty fr) := setRow_heap w k cur cur' ty fr h
theorem setRow_far (w : World) (k : Nat) (cur' : Array Value) (k' : Nat) (h : k' ≠ k) : (w.setRow k cur').heap[k']? = w.heap[k']? := by
  simp only [World.setRow, Array.getElem?_modify]
  rw [if_neg (by omega)]
theorem setRow_size (w : World) (k : Nat) (cur' : Array Value) : (w.setRow k cur').heap.size = w.heap.size := by simp [World.setRow]
theorem splice_get {α : Type} (l : List α) (off : Nat) (xs : List α) (h : off + xs.length ≤ l.length) (q : Nat) : (l.take off ++ xs ++ l.drop (off + xs.length))[q]? = if off ≤ q ∧ q < off + xs.length then xs[q - off]? else l[q]? := by
  by_cases h1 : q < off
  · rw [if_neg (by omega), List.append_assoc, List.getElem?_append_left (by simp; omega), List.getElem?_take_of_lt h1]
  · by_cases h2 : q < off + xs.length
    · rw [if_pos ⟨by omega, h2⟩, List.append_assoc, List.getElem?_append_right (by simp; omega), List.length_take, Nat.min_eq_left (by omega), List.getElem?_append_left (by omega)]
    · rw [if_neg (by omega), List.getElem?_append_right (by simp; omega), List.getElem?_drop]
      congr 1
      simp; omega
theorem cells_one {w : World} {Own : Nat → Prop} {ρ : Map} {xs : List AV} {vs : Array Value} (hl : xs.length = vs.size) (hc : xs.all isCell = true) (h : ∀ (i : Nat) x, xs[i]? = some x → VRel w Own ρ x (vs.getD i undef)) : ∀ u ∈ vs.toList, one u = true := by
  intro u hu
  obtain ⟨i, hi, rfl⟩ := List.mem_iff_getElem.1 hu
  have hi' : i < xs.length := by simp at hi; omega
  have hx := h i _ (List.getElem?_eq_getElem hi')
  have e : vs.getD i undef = vs.toList[i] := by simp at hi; simp [hi]
  rw [e] at hx
  exact one_of_cell (List.all_eq_true.1 hc _ (List.getElem_mem hi')) hx
theorem store_ok (h : Conc c st ρ a w) {n : Nat} {x v : Src} {st' : St} (hc : chkM P o (.store n x v) = true) (hd : o.dst = none) (he : exec none (.store n x v) st = some st') : StepOK P c o st' (wrs st (.store n x v)) ρ a w := by
  simp only [chkM] at hc
  split at hc <;> try (cases hc; done)
  rename_i t y z ho
  simp only [Bool.and_eq_true] at hc
  obtain ⟨⟨hi, hy⟩, hz⟩ := hc
  split at hi <;> try (cases hi; done)
  rename_i i hi'
  simp only [beq_iff_eq] at hi
  simp only [exec] at he
  split at he <;> try (cases he; done)
  rename_i b sz ii j xs _ hx hv
  split at he <;> try (cases he; done)
  rename_i hn
  obtain ⟨q, hq, hqx⟩ := Option.bind_eq_some_iff.1 hv
  have hp : ∃ k o', ρ b = some (k, o') ∧ a.eval y = .pointer (some ⟨k, o' + (ii * sz + j), none⟩) := by
    have := h.srcs _ _ _ hy hx
    generalize a.eval y = p at this
    cases this with
    | tree h => cases h
    | ptr h => exact ⟨_, _, h, rfl⟩
  obtain ⟨k, o', hρ, hp⟩ := hp
  obtain ⟨hzl, hzr⟩ := cellsA_rel hqx (h.srcs _ _ _ hz hq)
  have hlt := h.lt _ _ _ hρ
  have hO : OwnBy c.A ρ k := .inr ⟨b, o', hρ⟩
  have hws : wrs st (.store n x v) = [b] := by simp [wrs, hx]
  have fin : ∀ (ty : TypeId) (cur : Array Value) (blk0 blk : Blk), look st.mem b = some blk0 → w.heap[k]? = some (.cells cur ty (0, 0)) → o' + (ii * sz + j) + n ≤ cur.size → xs.all isCell = true →
      (∀ cur' : Array Value, cur'.size = cur.size → (∀ p, cur'[p]? = if o' + (ii * sz + j) ≤ p ∧ p < o' + (ii * sz + j) + n then (a.eval z).cells[p - (o' + (ii * sz + j))]? else cur[p]?) → ∀ w', w'.heap[k]? = some (.cells cur' ty (0, 0)) →
        KeepsV w w' (OwnBy c.A ρ) (OwnBy c.A ρ) ρ ρ (fun _ => True) → BRel w' (OwnBy c.A ρ) ρ b blk) → StepOK P c o { st with mem := upd st.mem b blk } (wrs st (.store n x v)) ρ a w := by
    intro ty cur blk0 blk hm hh hfit hcell hB
    have hones := cells_one hzl hcell hzr
    have hfit' : o' + (ii * sz + j) + (a.eval z).cells.size ≤ cur.size := by omega
    have hrun := run_storeVar (P := P) t hi' hh (by omega) hfit' (fun u hu => oneCell_of (hones u hu))
    have hget : ∀ p, ((cur.toList.take (o' + (ii * sz + j)) ++ (a.eval z).cells.toList ++ cur.toList.drop (o' + (ii * sz + j) + (a.eval z).cells.size)).toArray)[p]? = if o' + (ii * sz + j) ≤ p ∧ p < o' + (ii * sz + j) + n then (a.eval z).cells[p - (o' + (ii * sz + j))]? else cur[p]? := by
      intro p
      have := splice_get cur.toList (o' + (ii * sz + j)) (a.eval z).cells.toList (by simpa using hfit') p
      simp only [Array.length_toList, ← hzl, hn] at this
      simpa [← hzl, hn] using this
    have hsz' : ((cur.toList.take (o' + (ii * sz + j)) ++ (a.eval z).cells.toList ++ cur.toList.drop (o' + (ii * sz + j) + (a.eval z).cells.size)).toArray).size = cur.size := by
      simp; omega
    generalize (cur.toList.take (o' + (ii * sz + j)) ++ (a.eval z).cells.toList ++ cur.toList.drop (o' + (ii * sz + j) + (a.eval z).cells.size)).toArray = cur' at hrun hget hsz'
    have hset := setRow_get w k cur cur' ty (0, 0) hh
    refine ⟨.skip, w.setRow k cur', ρ, undef, ?_, .inr ⟨rfl, rfl⟩, ?_, ?_, fun _ _ _ h => .inl h⟩
    · simp [execOp, ho, hp, Instr.storeAt, Instr.sureAddr, hrun]
    · rw [hd, put_none]
      exact h.write hm hρ hh hset hsz' (fun k' hk' => setRow_far w k cur' k' hk') (setRow_size w k cur') rfl rfl ⟨rfl, by first | exact Nat.le_refl _ | exact Nat.le_succ _⟩ (hB cur' hsz' hget _ hset)
    · intro k' _ hk'
      refine setRow_far w k cur' k' ?_
      rintro rfl
      exact hk' b o' (by rw [hws]; simp) hρ
  split at he <;> try (cases he; done)
  · rename_i ty sz' es hm
    split at he <;> try (cases he; done)
    rename_i e hee
    split at he <;> try (cases he; done)
    rename_i hcc
    obtain ⟨rfl, hj, hall⟩ := hcc
    injection he with he; subst he
    have hB := h.mem b _ hm
    simp only [BRel, hρ] at hB
    obtain ⟨cur, hh, hlen, hsz, hcell⟩ := hB
    have hel : e.length = sz := hlen e (List.mem_of_getElem? hee)
    have hii : ii < es.length := by
      rcases Nat.lt_or_ge ii es.length with h1 | h1
      · exact h1
      · rw [List.getElem?_eq_none h1] at hee; cases hee
    have hmul : ii * sz + sz ≤ es.length * sz := by
      have := Nat.mul_le_mul_right sz (show ii + 1 ≤ es.length from hii)
      rwa [Nat.add_mul, Nat.one_mul] at this
    refine fin ty cur _ _ hm hh (by omega) (List.all_eq_true.2 fun y hy => tree_cell (List.all_eq_true.1 hall y hy)) (fun cur' hs' hget w' hh' hk => ?_)
    have hsl := splice_get e j xs (by omega)
    rw [hn] at hsl
    simp only [BRel, hρ]
    refine ⟨cur', hh', ?_, by rw [List.length_set, hs']; exact hsz, ?_⟩
    · intro e' he'
      rcases List.mem_or_eq_of_mem_set he' with h1 | h1
      · exact hlen _ h1
      · subst h1; simp; omega
    · intro i2 j2 y hy
      simp only [cellAt, List.getElem?_set] at hy
      by_cases hi2 : ii = i2
      · subst hi2
        simp only [if_true, hii] at hy
        simp only [Option.bind_some] at hy
        rw [hsl j2] at hy
        by_cases hj2 : j ≤ j2 ∧ j2 < j + n
        · rw [if_pos hj2] at hy
          have := hzr _ _ hy
          have hlt2 : j2 - j < (a.eval z).cells.size := by omega
          refine ⟨(a.eval z).cells[j2 - j], ?_, ?_, ?_⟩
          · rw [hget, if_pos (by omega), show o' + (ii * sz + j2) - (o' + (ii * sz + j)) = j2 - j from by omega]
            exact Array.getElem?_eq_getElem hlt2
          · exact cells_one hzl (List.all_eq_true.2 fun y hy => tree_cell (List.all_eq_true.1 hall y hy)) hzr _ (by simp)
          · have e1 : (a.eval z).cells.getD (j2 - j) undef = (a.eval z).cells[j2 - j] := by simp [hlt2]
            rw [e1] at this
            exact (this.toTree (List.all_eq_true.1 hall _ (List.mem_of_getElem? hy))).keep hk.toKeeps
        · rw [if_neg hj2] at hy
          have hj3 : j2 < sz := by
            rcases Nat.lt_or_ge j2 e.length with h1 | h1
            · omega
            · rw [List.getElem?_eq_none h1] at hy; cases hy
          obtain ⟨v', hv', h1', ht'⟩ := hcell ii j2 y (by simp [cellAt, hee, hy])
          exact ⟨v', by rw [hget, if_neg (by omega)]; exact hv', h1', ht'.keep hk.toKeeps⟩
      · rw [if_neg hi2] at hy
        obtain ⟨v', hv', h1', ht'⟩ := hcell i2 j2 y hy
        refine ⟨v', ?_, h1', ht'.keep hk.toKeeps⟩
        have hj3 : j2 < sz := by
          obtain ⟨e2, he2, hy2⟩ := Option.bind_eq_some_iff.1 hy
          have := hlen e2 (List.mem_of_getElem? he2)
          rcases Nat.lt_or_ge j2 e2.length with h1 | h1
          · omega
          · rw [List.getElem?_eq_none h1] at hy2; cases hy2
        rw [hget, if_neg ?_]
        · exact hv'
        · rcases Nat.lt_or_gt_of_ne hi2 with h1 | h1
          · have := Nat.mul_le_mul_right sz (show ii + 1 ≤ i2 from h1)
            rw [Nat.add_mul, Nat.one_mul] at this
            omega
          · have := Nat.mul_le_mul_right sz (show i2 + 1 ≤ ii from h1)
            rw [Nat.add_mul, Nat.one_mul] at this
            omega
  · rename_i ty cs hm
    split at he <;> try (cases he; done)
    rename_i hcc
    obtain ⟨hj, hall⟩ := hcc
    injection he with he; subst he
    obtain ⟨k', cur, hρ', hh, hsz, hcell⟩ := h.mem b _ hm
    rw [hρ] at hρ'; injection hρ' with hρ'; injection hρ' with h1 h2; subst h1; subst h2
    refine fin ty cur _ _ hm hh (by omega) hall (fun cur' hs' hget w' hh' hk => ?_)
    have hsl := splice_get cs (ii * sz + j) xs (by omega)
    rw [hn] at hsl
    refine ⟨k, cur', hρ, hh', by rw [hs', hsz]; simp; omega, fun j2 y hy => ?_⟩
    rw [hsl j2] at hy
    by_cases hj2 : ii * sz + j ≤ j2 ∧ j2 < ii * sz + j + n
    · rw [if_pos hj2] at hy
      have := hzr _ _ hy
      have hlt2 : j2 - (ii * sz + j) < (a.eval z).cells.size := by omega
      refine ⟨(a.eval z).cells[j2 - (ii * sz + j)], ?_, ?_, ?_⟩
      · rw [hget, if_pos (by omega), show j2 - (0 + (ii * sz + j)) = j2 - (ii * sz + j) from by omega]
        exact Array.getElem?_eq_getElem hlt2
      · exact cells_one hzl hall hzr _ (by simp)
      · have e1 : (a.eval z).cells.getD (j2 - (ii * sz + j)) undef = (a.eval z).cells[j2 - (ii * sz + j)] := by simp [hlt2]
        rw [e1] at this
        exact this.keep hk (refs_all _)
    · rw [if_neg hj2] at hy
      obtain ⟨v', hv', h1', ht'⟩ := hcell j2 y hy
      exact ⟨v', by rw [hget, if_neg (by omega)]; exact hv', h1', ht'.keep hk (refs_all _)⟩
theorem StepOK.of_fresh {st' : St} {id : Nat} (h : Conc c st ρ a w) (hfx : st.fixed.contains id = false) (hf : ∀ ρ0, Conc c (st.fresh id) ρ0 a w → ρ0 id = none → look (st.fresh id).mem id = none → (st.fresh id).fixed.contains id = false → (∀ b' k o', ρ0 b' = some (k, o') → ρ b' = some (k, o')) → StepOK P c o st' [id] ρ0 a w) : StepOK P c o st' [id] ρ a w := by
  obtain ⟨ρ0, h0, h1, h2, h3⟩ := h.fresh id hfx
  obtain ⟨r, w', ρ', v, e1, e2, e3, e4, e5⟩ := hf ρ0 h0 h1 h2 (by unfold St.fresh; split <;> simpa [St.kill] using hfx) h3
  refine ⟨r, w', ρ', v, e1, e2, e3, fun k hk hno => e4 k hk (fun b o' hb hρ => hno b o' hb (h3 _ _ _ hρ)), fun b k o' hb => ?_⟩
  rcases e5 b k o' hb with h | ⟨h, h' | ⟨b0, hb0, o2, h0⟩⟩
  · exact .inl (h3 _ _ _ h)
  · exact .inr ⟨h, .inl h'⟩
  · exact .inr ⟨h, .inr ⟨b0, hb0, o2, h3 _ _ _ h0⟩⟩
theorem new_ok {d id : Nat} {ob : Obj} {blk : Blk} {w' : World} {x : AV} {v : Value} (h : Conc c st ρ a w) (hfx : st.fixed.contains id = false) (hd : o.dst = some d) (hlt : d < a.tmps.size) (hb : ρ id = none) (hm : look st.mem id = none)
    (hrun : (execOp a.eval o).run P w = .ok (.value v) w') (hw : w'.heap = w.heap.push ob) (e1 : w'.os = w.os) (e2 : w'.tape = w.tape) (e3 : OutLe w' w)
    (hB : ∀ ρ' : Map, ρ' id = some (w.heap.size, 0) → KeepsV w w' (OwnBy c.A ρ) (OwnBy c.A ρ') ρ ρ' (fun _ => True) → BRel w' (OwnBy c.A ρ') ρ' id blk)
    (hx : ∀ Own' (ρ' : Map), ρ' id = some (w.heap.size, 0) → VRel w' Own' ρ' x v) : StepOK P c o (St.put { st with mem := upd st.mem id blk } d x) [id] ρ a w := by
  have hn := h.new hfx hb hm (blk := blk) hw e1 e2 e3 (fun hk => hB _ (by simp) hk)
  refine ⟨.value v, w', (fun x => if x = id then some (w.heap.size, 0) else ρ x), v, hrun, .inl rfl, ?_, fun k hk _ => by rw [hw, Array.getElem?_push, if_neg (by omega)], fun b k o' hρ => ?_⟩
  · rw [hd]
    exact hn.put hlt (hx _ _ (by simp))
  · replace hρ : (if b = id then some (w.heap.size, 0) else ρ b) = some (k, o') := hρ
    split at hρ
    · rename_i e; injection hρ with hρ; injection hρ with h1 h2; exact .inr ⟨by simp [e], .inl (by omega)⟩
    · exact .inl hρ
theorem push_get (w : World) {w' : World} {o : Obj} (hw : w'.heap = w.heap.push o) : w'.heap[w.heap.size]? = some o := by rw [hw]; simp
theorem alloc_ok (h : Conc c st ρ a w) {d id ty : Nat} {zero : List AV} {st' : St} (hc : chkM P o (.alloc id ty zero) = true) (hd : o.dst = some d) (hlt : d < a.tmps.size) (he : exec (some d) (.alloc id ty zero) st = some st') : StepOK P c o st' [id] ρ a w := by
  simp only [chkM] at hc
  split at hc <;> try (cases hc; done)
  rename_i t ho
  simp only [Bool.and_eq_true, beq_iff_eq] at hc
  obtain ⟨⟨rfl, hz⟩, hcell⟩ := hc
  obtain ⟨i, z, hi, hzz, hzl, hzr⟩ := zeroOK_spec hz
  simp only [exec] at he
  split at he <;> try (cases he; done)
  rename_i hfx
  simp only [Bool.not_eq_true] at hfx
  simp only [Option.some.injEq] at he
  subst he
  refine StepOK.of_fresh (id := id) h hfx (fun ρ0 h0 h1 h2 hf0 h3 => ?_)
  refine new_ok (w' := w.alloc (.cells z.cells t)) (v := .pointer (some ⟨w.heap.size, 0, none⟩)) h0 hf0 hd hlt h1 h2 ?_ rfl rfl rfl ⟨rfl, by first | exact Nat.le_refl _ | exact Nat.le_succ _⟩ (fun ρ' hρ' hk => ?_) (fun Own' ρ' hρ' => ?_)
  · have hzv : (zeroValue t).run P w = .ok z w := by simp [zeroValue, run_typeInfo w hi, hzz]
    simp [execOp, ho, Instr.alloc, hzv, newVar, newRow]
  · refine ⟨w.heap.size, z.cells, hρ', push_get w rfl, hzl.symm, fun j x hx => ?_⟩
    have hjl : j < z.cells.size := by
      rcases Nat.lt_or_ge j zero.length with h' | h'
      · omega
      · rw [List.getElem?_eq_none h'] at hx; cases hx
    have ht := hzr (w.alloc (.cells z.cells t)) (OwnBy c.A ρ') j x hx
    have e1 : z.cells.getD j undef = z.cells[j] := by simp [hjl]
    rw [e1] at ht
    exact ⟨z.cells[j], Array.getElem?_eq_getElem hjl, one_of_cell (ρ := ρ') (List.all_eq_true.1 hcell x (List.mem_of_getElem? hx)) (.tree ht), .tree ht⟩
  · exact .ptr (k := w.heap.size) (o := 0) (sz := 0) (i := 0) (j := 0) hρ'
theorem box_ok (h : Conc c st ρ a w) {d id ty n : Nat} {x : Src} {st' : St} (hc : chkM P o (.box id ty n x) = true) (hd : o.dst = some d) (hlt : d < a.tmps.size) (he : exec (some d) (.box id ty n x) st = some st') : StepOK P c o st' [id] ρ a w := by
  simp only [chkM] at hc
  split at hc <;> try (cases hc; done)
  rename_i t y ho
  simp only [Bool.and_eq_true, beq_iff_eq] at hc
  obtain ⟨rfl, hy⟩ := hc
  simp only [exec] at he
  split at he <;> try (cases he; done)
  rename_i hfx
  simp only [Bool.not_eq_true] at hfx
  split at he <;> try (cases he; done)
  rename_i d' xs hd' hv
  injection hd' with hd'; subst hd'
  split at he <;> try (cases he; done)
  rename_i hn
  injection he with he; subst he
  obtain ⟨q, hq, hqx⟩ := Option.bind_eq_some_iff.1 hv
  refine StepOK.of_fresh (id := id) h hfx (fun ρ0 h0 h1 h2 hf0 h3 => ?_)
  obtain ⟨hzl, hzr⟩ := cellsA_rel hqx (h0.srcs _ _ _ hy hq)
  refine new_ok (w' := w.alloc (.cells (a.eval y).cells t)) (v := .pointer (some ⟨w.heap.size, 0, none⟩)) h0 hf0 hd hlt h1 h2 ?_ rfl rfl rfl ⟨rfl, by first | exact Nat.le_refl _ | exact Nat.le_succ _⟩ (fun ρ' hρ' hk => ?_) (fun Own' ρ' hρ' => ?_)
  · simp [execOp, ho, Instr.box, newVar, newRow]
  · refine ⟨w.heap.size, (a.eval y).cells, hρ', push_get w rfl, hzl.symm, fun j z hz => ?_⟩
    have hjl : j < (a.eval y).cells.size := by
      rcases Nat.lt_or_ge j xs.length with h' | h'
      · omega
      · rw [List.getElem?_eq_none h'] at hz; cases hz
    have ht := hzr j z hz
    have e1 : (a.eval y).cells.getD j undef = (a.eval y).cells[j] := by simp [hjl]
    rw [e1] at ht
    exact ⟨_, Array.getElem?_eq_getElem hjl, one_of_cell (List.all_eq_true.1 hn.2 z (List.mem_of_getElem? hz)) ht, ht.keep hk (refs_all _)⟩
  · exact .ptr (k := w.heap.size) (o := 0) (sz := 0) (i := 0) (j := 0) hρ'
theorem mapCells_spec : ∀ {xs : List AV} {es : List (List AV)}, mapCells xs = some es → es.length = xs.length ∧ ∀ (i : Nat) x, xs[i]? = some x → ∃ e, es[i]? = some e ∧ cellsA x = some e
  | [], es, h => by
    simp only [mapCells, Option.some.injEq] at h; subst h; exact ⟨rfl, fun i x hx => by simp at hx⟩
  | y :: r, es, h => by
    simp only [mapCells] at h
    split at h <;> try (cases h; done)
    rename_i e0 es0 h1 h2
    injection h with h; subst h
    obtain ⟨hl, ih⟩ := mapCells_spec h2
    refine ⟨by simp [hl], fun i x hx => ?_⟩
    cases i with
    | zero => simp at hx; subst hx; exact ⟨e0, rfl, h1⟩
    | succ i => obtain ⟨e, he, hc⟩ := ih i x (by simpa using hx); exact ⟨e, by simpa using he, hc⟩
theorem zipIdx_of_range {α : Type} : ∀ (l : List (Nat × α)) (s : Nat), l.map (·.1) = List.range' s l.length → l = ((l.map (·.2)).zipIdx s).map fun x => (x.2, x.1)
  | [], _, _ => rfl
  | (i, y) :: r, s, h => by
    simp only [List.map_cons, List.length_cons, List.range'_succ, List.cons.injEq] at h
    obtain ⟨rfl, h⟩ := h
    simp only [List.map_cons, List.zipIdx_cons, List.cons.injEq, true_and]
    exact zipIdx_of_range r _ h
theorem zipIdx_mapf {α β : Type} (f : α → β) : ∀ (l : List α) (s : Nat), ((l.map f).zipIdx s) = (l.zipIdx s).map fun p => (f p.1, p.2)
  | [], _ => rfl
  | y :: r, s => by simp [List.zipIdx_cons, zipIdx_mapf f r]
theorem bslice_ok (h : Conc c st ρ a w) {d id ty sz : Nat} {xs : List Src} {st' : St} (hc : chkM P o (.bslice id ty sz xs) = true) (hd : o.dst = some d) (hlt : d < a.tmps.size) (he : exec (some d) (.bslice id ty sz xs) st = some st') : StepOK P c o st' [id] ρ a w := by
  simp only [chkM] at hc
  split at hc <;> try (cases hc; done)
  rename_i t n ps ho
  simp only [Bool.and_eq_true, beq_iff_eq, decide_eq_true_eq] at hc
  obtain ⟨⟨⟨⟨hty, hn⟩, hsmall⟩, hidx⟩, hys⟩ := hc
  split at hty <;> try (cases hty; done)
  rename_i el i hu hi
  simp only [Bool.and_eq_true, beq_iff_eq, bne_iff_ne] at hty
  obtain ⟨⟨⟨rfl, hisz⟩, hsz0⟩, hzero⟩ := hty
  split at hzero <;> try (cases hzero; done)
  rename_i z hz
  simp only [exec] at he
  split at he <;> try (cases he; done)
  rename_i hfx
  simp only [Bool.not_eq_true] at hfx
  split at he <;> try (cases he; done)
  rename_i d' es hd' hv
  injection hd' with hd'; subst hd'
  split at he <;> try (cases he; done)
  rename_i hall
  injection he with he; subst he
  obtain ⟨qs, hqs, hqx⟩ := Option.bind_eq_some_iff.1 hv
  refine StepOK.of_fresh (id := id) h hfx (fun ρ0 h0 h1 h2 hf0 h3 => ?_)
  obtain ⟨hql, hqr⟩ := srcs_list h0.srcs hys hqs
  obtain ⟨hel, hec⟩ := mapCells_spec hqx
  have hpl : ps.toList.length = n := by have := congrArg List.length hidx; simpa using this
  have hen : es.length = n := by rw [hel, hql]; simpa using hpl
  have helem : ∀ (q : Nat) e, es[q]? = some e → e.length = sz ∧ e.all isTree = true := by
    intro q e he
    have := List.all_eq_true.1 hall e (List.mem_of_getElem? he)
    simpa using this
  -- the values
  have hval : ∀ q, q < n → ∃ e y, es[q]? = some e ∧ (ps.toList.map (·.2))[q]? = some y ∧ e.length = (a.eval y).cells.size ∧ ∀ (j : Nat) x, e[j]? = some x → VRel w (OwnBy c.A ρ0) ρ0 x ((a.eval y).cells.getD j undef) := by
    intro q hq
    have hq1 : q < qs.length := by rw [hql]; simpa [hpl] using hq
    obtain ⟨e, he, hce⟩ := hec q _ (List.getElem?_eq_getElem hq1)
    have hq2 : q < (ps.toList.map (·.2)).length := by simpa [hpl] using hq
    have hr := hqr q _ (List.getElem?_eq_getElem hq1)
    have e1 : (((ps.toList.map (·.2)).map a.eval).toArray.getD q undef) = a.eval ((ps.toList.map (·.2))[q]) := by
      have : q < ps.size := by rw [← Array.length_toList]; omega
      simp [this]
    rw [e1] at hr
    obtain ⟨g1, g2⟩ := cellsA_rel hce hr
    exact ⟨e, _, he, List.getElem?_eq_getElem hq2, g1, g2⟩
  have hsize : ∀ v ∈ (ps.toList.map (·.2)).map a.eval, v.cells.size = sz := by
    intro v hv
    obtain ⟨q, hq, rfl⟩ := List.mem_iff_getElem.1 hv
    have hqn : q < n := by simpa [hpl] using hq
    obtain ⟨e, y, he, hy, hl, _⟩ := hval q hqn
    rw [List.getElem_map]
    have : (ps.toList.map (·.2))[q]'(by simpa [hpl] using hqn) = y := by
      have := List.getElem?_eq_getElem (l := ps.toList.map (·.2)) (i := q) (by simpa [hpl] using hqn)
      rw [this] at hy; injection hy
    rw [this, ← hl]; exact (helem q e he).1
  obtain ⟨r, hr, hrs, hrk⟩ := Great.fill_dense (s := sz) (by omega) ((ps.toList.map (·.2)).map a.eval) 0 ((Array.range (n * sz)).map (z.cells[· % z.cells.size]!)) hsize (by simp [hpl])
  have hparts : (ps.map fun p => (p.1, a.eval p.2)).toList = ((((ps.toList.map (·.2)).map a.eval).zipIdx 0).map fun x => (x.2, x.1)) := by
    rw [zipIdx_mapf, List.map_map, Array.toList_map]
    conv => lhs; rw [zipIdx_of_range ps.toList 0 (by rw [hidx, hpl, List.range_eq_range'])]
    rw [List.map_map]; rfl
  have hn0 : ¬ n * sz > 2 ^ 24 := by omega
  have hbs : (Instr.buildSlice t n (ps.map fun p => (p.1, a.eval p.2))).run P w = .ok (.slice (some ⟨w.heap.size, 0, none⟩) n n) (w.alloc (.cells r el)) := by
    rcases Nat.eq_zero_or_pos n with hz0 | hz0
    · subst hz0
      have hps : ps.toList = [] := List.eq_nil_of_length_eq_zero hpl
      have hps' : ps = #[] := by rw [← Array.toList_inj]; exact hps
      subst hps'
      have hr0 : r = #[] := Array.eq_empty_of_size_eq_zero (by rw [hrs]; simp)
      subst hr0
      have e0 : ∀ f : Nat → Value, Array.map f (Array.range 0) = #[] := fun f => Array.eq_empty_of_size_eq_zero (by simp)
      simp [Instr.buildSlice, und hu, szOf hi, hisz, Instr.fill, newRow, e0]
    · have hpos : ¬ n * i.size = 0 := by rw [hisz]; have := Nat.mul_pos hz0 (show 0 < sz by omega); omega
      refine run_buildSlice w t el n _ r i z hu hi hz (by rw [hisz]; exact hn0) hpos ?_
      rw [hisz, hparts]; exact hr
  have hrun : (execOp a.eval o).run P w = .ok (.value (.slice (some ⟨w.heap.size, 0, none⟩) n n)) (w.alloc (.cells r el)) := by
    simp only [execOp, ho, Sem.run_bind, hbs, Result.andThen_ok, Sem.run_pure]
  rw [hen]
  refine new_ok (w' := w.alloc (.cells r el)) h0 hf0 hd hlt h1 h2 hrun rfl rfl rfl ⟨rfl, by first | exact Nat.le_refl _ | exact Nat.le_succ _⟩ (fun ρ' hρ' hk => ?_) (fun Own' ρ' hρ' => ?_)
  · simp only [BRel, hρ']
    have hrsz : r.size = n * sz := by rw [hrs]; simp
    refine ⟨r, push_get w rfl, fun e he => ?_, by rw [hen, hrsz]; omega, fun q j x hx => ?_⟩
    · obtain ⟨q, hq⟩ := List.getElem?_of_mem he
      exact (helem q e hq).1
    · obtain ⟨e, he, hj⟩ := Option.bind_eq_some_iff.1 hx
      have hq : q < n := by
        rcases Nat.lt_or_ge q es.length with h' | h'
        · omega
        · rw [List.getElem?_eq_none h'] at he; cases he
      obtain ⟨e', y, he', hy, hl, hvr⟩ := hval q hq
      rw [he] at he'; injection he' with he'; subst he'
      have hjs : j < sz := by
        rcases Nat.lt_or_ge j e.length with h' | h'
        · rw [← (helem q e he).1]; exact h'
        · rw [List.getElem?_eq_none h'] at hj; cases hj
      have hdiv : (q * sz + j) / sz = q := by rw [Nat.mul_comm, Nat.mul_add_div (by omega)]; simp [Nat.div_eq_of_lt hjs]
      have hmod : (q * sz + j) % sz = j := by rw [Nat.mul_comm, Nat.mul_add_mod]; exact Nat.mod_eq_of_lt hjs
      have hle : q * sz + sz ≤ n * sz := by have := Nat.mul_le_mul_right sz (show q + 1 ≤ n from hq); rwa [Nat.add_mul, Nat.one_mul] at this
      have hk2 := hrk (q * sz + j)
      rw [if_pos ⟨by simp, by simp [hpl]; omega⟩, hdiv, hmod] at hk2
      simp only [Nat.sub_zero, List.getElem?_map, hy, Option.map_some, Option.bind_some] at hk2
      have hjc : j < (a.eval y).cells.size := by rw [← hl, (helem q e he).1]; exact hjs
      have hv := hvr j x hj
      have e1 : (a.eval y).cells.getD j undef = (a.eval y).cells[j] := by simp [hjc]
      rw [e1] at hv
      have hxt := List.all_eq_true.1 (helem q e he).2 x (List.mem_of_getElem? hj)
      refine ⟨(a.eval y).cells[j], by rw [Nat.zero_add, hk2]; exact Array.getElem?_eq_getElem hjc, one_of_cell (tree_cell hxt) hv, (hv.toTree hxt).keep hk.toKeeps⟩
  · have := VRel.own (w := w.alloc (.cells r el)) (Own := Own') (ρ := ρ') (b := id) (sz := sz) (lo := 0) (n := n) (k := w.heap.size) (o := 0) (cap := n) hρ' (Nat.le_refl _) (fun cur ty fr hh => by
      rw [push_get w rfl] at hh
      injection hh with hh; injection hh with hh _ _
      rw [← hh, hrs]; simp)
    simpa using this
end
end Go.SX
namespace Go.SX
open Go
section
variable {P : Program} {c : Ctx} {o : Oper} {st : St} {ρ : Map} {a : Act} {w : World}
theorem wrap_id {q : Int} (h0 : -9223372036854775808 ≤ q) (h1 : q ≤ 9223372036854775807) : IntKind.i64.wrap q = q := IntWalk.i64_in q ⟨h0, h1⟩
theorem mk_core {d id ty sz bytes : Nat} {zero : List AV} {x : Src} {k : IntKind} {q : Int} {row : Bool} (hc : chkM P o (if row then .mkrow id ty sz bytes zero x else .mkslice id ty sz bytes zero x) = true) (hv : st.src x = some (.lit (.int k q))) (h0 : Conc c st ρ a w) (hq : 0 ≤ q ∧ q * bytes ≤ 281474976710656 ∧ k = .i64)
    (hf0 : st.fixed.contains id = false) (hd : o.dst = some d) (hlt : d < a.tmps.size) (h1 : ρ id = none) (h2 : look st.mem id = none) :
    StepOK P c o (St.put { st with mem := upd st.mem id (if row then .obj ty (List.replicate q.toNat zero).flatten else .arr ty sz (List.replicate q.toNat zero)) } d (.own id sz 0 q.toNat)) [id] ρ a w := by
  have hc' : ∃ t y z, o.op = .makeSlice t y z ∧ (match P.underlying t, P.info? ty with
      | some (.slice e), some i => e == ty && i.size == sz && i.bytes == bytes && sz != 0 && bytes != 0
      | _, _ => false) = true ∧ zeroOK P ty zero = true ∧ zero.all isTree = true ∧ zero.length = sz ∧ srcOK y x = true ∧ srcOK z x = true := by
    cases row <;> simp only [Bool.false_eq_true, if_true, if_false, chkM] at hc <;> (
      split at hc <;> try (cases hc; done)
      rename_i t y z ho
      simp only [Bool.and_eq_true, beq_iff_eq] at hc
      obtain ⟨⟨⟨⟨⟨hty, hz⟩, htree⟩, hzl⟩, hy⟩, hy2⟩ := hc
      exact ⟨t, y, z, ho, hty, hz, htree, hzl, hy, hy2⟩)
  obtain ⟨t, y, z, ho, hty, hz, htree, hzl, hy, hy2⟩ := hc'
  split at hty <;> try (cases hty; done)
  rename_i el i hu hi
  simp only [Bool.and_eq_true, beq_iff_eq, bne_iff_ne] at hty
  obtain ⟨⟨⟨⟨rfl, hisz⟩, hby⟩, hsz0⟩, hby0⟩ := hty
  obtain ⟨i', zv, hi', hzz, hzvl, hzr⟩ := zeroOK_spec hz
  rw [hi] at hi'; injection hi' with hi'; subst hi'
  obtain ⟨hq0, hq1, rfl⟩ := hq
  obtain ⟨hy', _⟩ := (h0.srcs _ _ _ hy hv).lit_inv
  obtain ⟨hz', _⟩ := (h0.srcs _ _ _ hy2 hv).lit_inv
  have hqb : q ≤ 281474976710656 := by
    have h1 : q * 1 ≤ q * bytes := Int.mul_le_mul_of_nonneg_left (by omega) hq0
    omega
  have hw : IntKind.i64.wrap q = q := wrap_id (by omega) (by omega)
  have hl1 : ¬ (bytes * q > 2 ^ 48) := by rw [Int.mul_comm]; omega
  have hzs : zv.cells.size = sz := by omega
  let cells := (Array.range (q.toNat * sz)).map (zv.cells[· % zv.cells.size]!)
  have hrun : (execOp a.eval o).run P w = .ok (.value (.slice (some ⟨w.heap.size, 0, none⟩) q.toNat q.toNat)) (w.alloc (.cells cells el)) := by
    have hzv : (zeroValue el).run P w = .ok zv w := by simp [zeroValue, run_typeInfo w hi, hzz]
    by_cases hn : q.toNat * i.size = 0
    · have hc0 : cells = #[] := Array.eq_empty_of_size_eq_zero (by simp [cells]; rw [← hisz]; simpa using hn)
      have e0 : ∀ f : Nat → Value, Array.map f (Array.range 0) = #[] := fun f => Array.eq_empty_of_size_eq_zero (by simp)
      rw [hc0]
      have hq0' : q = 0 := by
        rcases Nat.mul_eq_zero.1 hn with h' | h'
        · omega
        · omega
      subst hq0'
      simp [execOp, ho, hy', hz', Instr.makeSlice, und hu, asInt, asIntOf, run_typeInfo w hi, hw, askRoom, szOf hi, newRow, e0]
    · have hlt0 : ¬ q < 0 := by omega
      have hl2 : ¬ (281474976710656 < (bytes : Int) * q) := by omega
      have hn' : ¬ q.toNat * sz = 0 := by rw [← hisz]; exact hn
      have hpos : 0 < q := by
        rcases Int.lt_or_le 0 q with h' | h'
        · exact h'
        · exfalso; apply hn; have : q.toNat = 0 := by omega
          rw [this]; simp
      simp [execOp, ho, hy', hz', Instr.makeSlice, und hu, asInt, asIntOf, run_typeInfo w hi, hw, askRoom, szOf hi, newRow, hby, hlt0, hl2, hzv, hisz, hn']
      rfl
  have hcell : ∀ p j x, p < q.toNat → zero[j]? = some x → ∀ (w' : World) Own', ∃ u, cells[p * sz + j]? = some u ∧ one u = true ∧ TRel w' Own' x u := by
    intro p j x hp hj w' Own'
    have hjs : j < sz := by
      rcases Nat.lt_or_ge j zero.length with h' | h'
      · omega
      · rw [List.getElem?_eq_none h'] at hj; cases hj
    have hmod : (p * sz + j) % sz = j := by rw [Nat.mul_comm, Nat.mul_add_mod]; exact Nat.mod_eq_of_lt hjs
    have hle : p * sz + sz ≤ q.toNat * sz := by have := Nat.mul_le_mul_right sz (show p + 1 ≤ q.toNat from hp); rwa [Nat.add_mul, Nat.one_mul] at this
    have hjc : j < zv.cells.size := by omega
    have hv := hzr w' Own' j x hj
    have e1 : zv.cells.getD j undef = zv.cells[j] := by simp [hjc]
    rw [e1] at hv
    have hxt := List.all_eq_true.1 htree x (List.mem_of_getElem? hj)
    refine ⟨zv.cells[j], ?_, one_of_cell (ρ := ρ) (tree_cell hxt) (.tree hv), hv⟩
    have hlt' : p * sz + j < q.toNat * sz := by omega
    simp [cells, hlt', hzs, hmod]
    simp [getElem!_pos, hjc]
  refine new_ok (w' := w.alloc (.cells cells el)) h0 hf0 hd hlt h1 h2 hrun rfl rfl rfl ⟨rfl, by first | exact Nat.le_refl _ | exact Nat.le_succ _⟩ (fun ρ' hρ' hk => ?_) (fun Own' ρ' hρ' => ?_)
  · cases row
    · simp only [Bool.false_eq_true, if_false, BRel, hρ']
      refine ⟨cells, push_get w rfl, fun e he => ?_, by simp [cells], fun p j x hx => ?_⟩
      · rw [List.eq_of_mem_replicate he]; exact hzl
      · obtain ⟨e, he, hj⟩ := Option.bind_eq_some_iff.1 hx
        have hp : p < q.toNat := by
          rcases Nat.lt_or_ge p q.toNat with h' | h'
          · exact h'
          · rw [List.getElem?_eq_none (by simpa using h')] at he; cases he
        have he' : e = zero := List.eq_of_mem_replicate (List.mem_of_getElem? he)
        subst he'
        rw [Nat.zero_add]
        exact hcell p j x hp hj _ _
    · simp only [if_true]
      have hfl : ∀ n : Nat, (List.replicate n zero).flatten.length = n * sz := fun n => by simp [hzl]
      refine ⟨w.heap.size, cells, hρ', push_get w rfl, by rw [hfl]; simp [cells], fun p x hx => ?_⟩
      have hpl : p < q.toNat * sz := by
        rcases Nat.lt_or_ge p (q.toNat * sz) with h' | h'
        · exact h'
        · rw [List.getElem?_eq_none (by rw [hfl]; exact h')] at hx; cases hx
      have hpd : p / sz < q.toNat := Nat.div_lt_of_lt_mul (by rwa [Nat.mul_comm])
      have hpm : p % sz < sz := Nat.mod_lt _ (by omega)
      have hpe : p / sz * sz + p % sz = p := by rw [Nat.mul_comm]; exact Nat.div_add_mod p sz
      have hget : ∀ (n p : Nat), p < n * sz → (List.replicate n zero).flatten[p]? = zero[p % sz]? := by
        intro n
        induction n with
        | zero => intro p hp; omega
        | succ n ih =>
          intro p hp
          rw [List.replicate_succ, List.flatten_cons]
          by_cases h' : p < sz
          · rw [List.getElem?_append_left (by omega), Nat.mod_eq_of_lt h']
          · rw [List.getElem?_append_right (by omega), hzl, ih (p - sz) (by rw [Nat.add_mul] at hp; omega)]
            congr 1
            rw [Nat.mod_eq_sub_mod (a := p) (by omega)]
      rw [hget _ _ hpl] at hx
      obtain ⟨u, hu, h1', ht⟩ := hcell (p / sz) (p % sz) x hpd hx (w.alloc (.cells cells el)) (OwnBy c.A ρ')
      rw [hpe] at hu
      exact ⟨u, hu, h1', .tree ht⟩
  · have := VRel.own (w := w.alloc (.cells cells el)) (Own := Own') (ρ := ρ') (b := id) (sz := sz) (lo := 0) (n := q.toNat) (k := w.heap.size) (o := 0) (cap := q.toNat) hρ' (Nat.le_refl _) (fun cur ty fr hh => by
      rw [push_get w rfl] at hh
      injection hh with hh; injection hh with hh _ _
      rw [← hh]; simp [cells])
    simpa using this
theorem mkslice_ok (h : Conc c st ρ a w) {d id ty sz bytes : Nat} {zero : List AV} {x : Src} {st' : St} (hc : chkM P o (.mkslice id ty sz bytes zero x) = true) (hd : o.dst = some d) (hlt : d < a.tmps.size) (he : exec (some d) (.mkslice id ty sz bytes zero x) st = some st') : StepOK P c o st' [id] ρ a w := by
  simp only [exec] at he
  split at he <;> try (cases he; done)
  rename_i hfx
  simp only [Bool.not_eq_true] at hfx
  split at he <;> try (cases he; done)
  rename_i d' k q hd' hv
  injection hd' with hd'; subst hd'
  split at he <;> try (cases he; done)
  rename_i hq
  injection he with he; subst he
  refine StepOK.of_fresh (id := id) h hfx (fun ρ0 h0 h1 h2 hf0 h3 => ?_)
  exact mk_core (row := false) hc hv h0 hq hf0 hd hlt h1 h2
theorem mkrow_ok (h : Conc c st ρ a w) {d id ty sz bytes : Nat} {zero : List AV} {x : Src} {st' : St} (hc : chkM P o (.mkrow id ty sz bytes zero x) = true) (hd : o.dst = some d) (hlt : d < a.tmps.size) (he : exec (some d) (.mkrow id ty sz bytes zero x) st = some st') : StepOK P c o st' [id] ρ a w := by
  simp only [exec] at he
  split at he <;> try (cases he; done)
  rename_i hfx
  simp only [Bool.not_eq_true] at hfx
  split at he <;> try (cases he; done)
  rename_i d' k q hd' hv
  injection hd' with hd'; subst hd'
  split at he <;> try (cases he; done)
  rename_i hq
  injection he with he; subst he
  refine StepOK.of_fresh (id := id) h hfx (fun ρ0 h0 h1 h2 hf0 h3 => ?_)
  exact mk_core (row := true) hc hv h0 hq hf0 hd hlt h1 h2
theorem Conc.remake (h : Conc c st ρ a w) {b k o' : Nat} (hfx : st.fixed.contains b = false) {w' : World} {blk : Blk} (hsz : w.heap.size ≤ w'.heap.size) (hk' : (∃ o2, ρ b = some (k, o2)) ∨ w.heap.size ≤ k) (hklt : k < w'.heap.size)
    (hsame : ∀ k1, k1 < w.heap.size → (∀ o2, ρ b ≠ some (k1, o2)) → w'.heap[k1]? = w.heap[k1]?) (hrows : ∀ k1 cur ty fr, k1 < w.heap.size → w'.heap[k1]? = some (.cells cur ty fr) → ∃ cur0 ty0 fr0, w.heap[k1]? = some (.cells cur0 ty0 fr0) ∧ cur0.size = cur.size)
    (e1 : w'.os = w.os) (e2 : w'.tape = w.tape) (e3 : OutLe w' w)
    (hB : KeepsV w w' (OwnBy c.A ρ) (OwnBy c.A (fun x => if x = b then some (k, o') else ρ x)) ρ (fun x => if x = b then some (k, o') else ρ x) (fun x => x ≠ b) → BRel w' (OwnBy c.A (fun x => if x = b then some (k, o') else ρ x)) (fun x => if x = b then some (k, o') else ρ x) b blk) :
    Conc c { st.kill b with mem := upd (st.kill b).mem b blk } (fun x => if x = b then some (k, o') else ρ x) a w' := by
  have hk : KeepsV w w' (OwnBy c.A ρ) (OwnBy c.A (fun x => if x = b then some (k, o') else ρ x)) ρ (fun x => if x = b then some (k, o') else ρ x) (fun x => x ≠ b) := {
    size := hsz
    same := fun k1 hlt hno => hsame k1 hlt (fun o2 he => hno (.inr ⟨b, o2, he⟩))
    own := fun k1 hlt hO => by
      rcases hO with hO | ⟨b', o2, hO⟩
      · exact .inl hO
      · replace hO : (if b' = b then some (k, o') else ρ b') = some (k1, o2) := hO
        split at hO
        · injection hO with hO; injection hO with hO _
          subst hO
          rcases hk' with ⟨o3, h3⟩ | h3
          · exact .inr ⟨b, o3, h3⟩
          · omega
        · exact .inr ⟨b', o2, hO⟩
    map := fun b' hb' k1 o2 hρ => by simp only [hb', if_false]; exact hρ
    rows := hrows
    lt := h.lt }
  have hkill := h.kill b hfx
  refine { slots := ?_, defers := h.defers, mem := ?_, dom := ?_, lt := ?_, inj := ?_, mine := ?_, far := ?_, fix := fun b' hb' => by rw [if_neg (by rintro rfl; simp at hfx; exact hfx hb')]; exact h.fix b' hb', alt := h.alt, os := e1.trans h.os, tape := e2.trans h.tape, output := e3.trans h.output, size := Nat.le_trans h.size hsz, frame := ?_, rows := h.rows' hk }
  · intro d x hx
    simp only [St.kill, killS, look_mapv] at hx
    obtain ⟨y, hy, rfl⟩ := Option.map_eq_some_iff.1 hx
    exact ((h.slots d y hy).kill b).keep hk (refs_kill b y)
  · intro b' blk' hl
    simp only [look_upd] at hl
    split at hl
    · rename_i e; subst e; injection hl with hl; subst hl; exact hB hk
    · rename_i hne
      simp only [St.kill, look_mapv, look_drop, hne, if_false] at hl
      obtain ⟨blk2, hl2, rfl⟩ := Option.map_eq_some_iff.1 hl
      have hB2 := h.mem b' blk2 hl2
      have hsm : ∀ k1 o2, ρ b' = some (k1, o2) → w'.heap[k1]? = w.heap[k1]? := fun k1 o2 hρ => hsame k1 (h.lt _ _ _ hρ) (fun o3 he => hne (h.inj _ _ _ _ _ hρ he))
      cases blk2 with
      | arr ty sz es => exact hB2.keep hk (by simp [hne]) hsm (fun _ _ h => by cases h)
      | map es => exact hB2.keep hk (by simp [hne]) hsm (fun _ _ h => by cases h)
      | obj ty cs =>
        have hB3 : BRel w (OwnBy c.A ρ) ρ b' (.obj ty (killL b cs)) := by
          obtain ⟨k1, cur, h0, h1, h2, h3⟩ := hB2
          refine ⟨k1, cur, h0, h1, by rw [killL_length]; exact h2, fun j x hx => ?_⟩
          rw [killL_get] at hx
          obtain ⟨y, hy, rfl⟩ := Option.map_eq_some_iff.1 hx
          obtain ⟨v, hv, h1v, ht⟩ := h3 j y hy
          exact ⟨v, hv, h1v, ht.kill b⟩
        exact hB3.keep hk (by simp [hne]) hsm (fun _ _ h => by cases h; exact refs_killL b cs)
  · intro b' k1 o2 h'
    simp only [look_upd]
    split
    · exact ⟨blk, rfl⟩
    · rename_i hne
      simp only [hne, if_false] at h'
      exact hkill.dom b' k1 o2 (by simp only [hne, if_false]; exact h')
  · intro b' k1 o2 h'
    split at h'
    · injection h' with h'; injection h' with h1 h2; omega
    · have := h.lt _ _ _ h'; omega
  · intro b1 b2 k1 o1 o2 h1 h2
    split at h1 <;> split at h2
    · rename_i e1 e2; rw [e1, e2]
    · rename_i e1 e2
      injection h1 with h1; injection h1 with h1 _
      subst h1
      rcases hk' with ⟨o3, h3⟩ | h3
      · exact absurd (h.inj _ _ _ _ _ h2 h3) e2
      · have := h.lt _ _ _ h2; omega
    · rename_i e1 e2
      injection h2 with h2; injection h2 with h2 _
      subst h2
      rcases hk' with ⟨o3, h3⟩ | h3
      · exact absurd (h.inj _ _ _ _ _ h1 h3) e1
      · have := h.lt _ _ _ h1; omega
    · exact h.inj _ _ _ _ _ h1 h2
  · intro b' k1 o2 h'
    split at h'
    · injection h' with h'; injection h' with h1 h2
      subst h1
      rcases hk' with ⟨o3, h3⟩ | h3
      · exact h.mine _ _ _ h3
      · exact .inr (Nat.le_trans h.size h3)
    · exact h.mine _ _ _ h'
  · intro b' k1 o2 h'
    split at h'
    · injection h' with h'; injection h' with h1 h2
      subst h1
      rcases hk' with ⟨o3, h3⟩ | h3
      · exact h.far _ _ _ h3
      · intro hA
        have := h.alt _ hA; have := h.size; omega
    · exact h.far _ _ _ h'
  · intro k1 hlt hF
    rw [hsame k1 (by have := h.size; omega) (fun o2 he => ?_)]
    · exact h.frame k1 hlt hF
    · rcases h.mine _ _ _ he with h1 | h1
      · exact hF h1
      · omega
theorem Conc.virt (h : Conc c st ρ a w) {b : Nat} (hb : ρ b = none) (ty sz : Nat) : Conc c { st with mem := upd st.mem b (.arr ty sz []) } ρ a w :=
  { slots := h.slots, defers := h.defers, mem := fun b' blk hl => by
      simp only [look_upd] at hl
      split at hl
      · rename_i e; subst e; injection hl with hl; subst hl; simp [BRel, hb]
      · exact h.mem b' blk hl
    dom := fun b' k o' hρ => by
      simp only [look_upd]
      split
      · exact ⟨_, rfl⟩
      · exact h.dom b' k o' hρ
    lt := h.lt, inj := h.inj, mine := h.mine, far := h.far, fix := h.fix, alt := h.alt, os := h.os, tape := h.tape, output := h.output, size := h.size, frame := h.frame, rows := h.rows }
theorem row_cells (h : Conc c st ρ a w) {q : AV} {v : Value} {ys : List (List AV)} {sz : Nat} (hs : 0 < sz) (hv : VRel w (OwnBy c.A ρ) ρ q v) (hr : rowOf st q = some ys) (hsz : ys = [] ∨ rowSz q = some sz) :
    ∃ A cap, v = .slice A ys.length cap ∧ (∀ e ∈ ys, e.length = sz) ∧ ∃ news : List Value, news.length = ys.length * sz ∧ (∀ w' : World, w'.heap = w.heap → (Builtin.firstCells sz ys.length v).run P w' = .ok news.toArray w') ∧
      ∀ i j x, cellAt ys i j = some x → ∃ u, news[i * sz + j]? = some u ∧ one u = true ∧ TRel w (OwnBy c.A ρ) x u := by
  have hempty : ∀ A cap, v = .slice A 0 cap → ys = [] → ∃ A cap, v = .slice A ys.length cap ∧ (∀ e ∈ ys, e.length = sz) ∧ ∃ news : List Value, news.length = ys.length * sz ∧ (∀ w' : World, w'.heap = w.heap → (Builtin.firstCells sz ys.length v).run P w' = .ok news.toArray w') ∧
      ∀ i j x, cellAt ys i j = some x → ∃ u, news[i * sz + j]? = some u ∧ one u = true ∧ TRel w (OwnBy c.A ρ) x u := by
    rintro A cap rfl rfl
    refine ⟨A, cap, rfl, by simp, [], by simp, fun w' _ => ?_, fun i j x hx => by simp [cellAt] at hx⟩
    cases A <;> simp [Builtin.firstCells, loadCells, loadCellsFrom]
  have hfull : ∀ (ad : Addr) cap, v = .slice (some ad) ys.length cap → 0 < sz → (∀ e ∈ ys, e.length = sz) → (∀ i j x, cellAt ys i j = some x → ∃ u, w.cell? (ad.add (i * sz + j)) = some u ∧ one u = true ∧ TRel w (OwnBy c.A ρ) x u) →
      ∃ A cap, v = .slice A ys.length cap ∧ (∀ e ∈ ys, e.length = sz) ∧ ∃ news : List Value, news.length = ys.length * sz ∧ (∀ w' : World, w'.heap = w.heap → (Builtin.firstCells sz ys.length v).run P w' = .ok news.toArray w') ∧
      ∀ i j x, cellAt ys i j = some x → ∃ u, news[i * sz + j]? = some u ∧ one u = true ∧ TRel w (OwnBy c.A ρ) x u := by
    rintro ad cap rfl hs0 hlen hcell
    have hall : ∀ p, p < ys.length * sz → ∃ u, w.cell? (ad.add p) = some u := by
      intro p hp
      have hi : p / sz < ys.length := Nat.div_lt_of_lt_mul (by rwa [Nat.mul_comm])
      have hj : p % sz < sz := Nat.mod_lt _ hs0
      have he := List.getElem?_eq_getElem hi
      have hl := hlen _ (List.getElem_mem hi)
      obtain ⟨u, hu, _⟩ := hcell (p / sz) (p % sz) _ (show cellAt ys (p / sz) (p % sz) = some ((ys[p / sz])[p % sz]'(by omega)) by simp only [cellAt, he, Option.bind_some]; exact List.getElem?_eq_getElem (by omega))
      have : p / sz * sz + p % sz = p := by rw [Nat.mul_comm]; exact Nat.div_add_mod p sz
      rw [this] at hu
      exact ⟨u, hu⟩
    refine ⟨some ad, cap, rfl, hlen, (List.range (ys.length * sz)).map (fun p => (w.cell? (ad.add p)).getD undef), by simp, fun w' hw' => ?_, fun i j x hx => ?_⟩
    · have := run_loadCells_list (P := P) w' ad ((List.range (ys.length * sz)).map (fun p => (w.cell? (ad.add p)).getD undef)) (fun j u hu => by
        simp only [List.getElem?_map, Option.map_eq_some_iff] at hu
        obtain ⟨p, hp, rfl⟩ := hu
        have hpj : j < ys.length * sz ∧ p = j := by
          rcases Nat.lt_or_ge j (ys.length * sz) with h1 | h1
          · rw [List.getElem?_range h1] at hp; injection hp with hp; exact ⟨h1, hp.symm⟩
          · rw [List.getElem?_eq_none (by simpa using h1)] at hp; cases hp
        obtain ⟨hpj, rfl⟩ := hpj
        obtain ⟨u, hu⟩ := hall p hpj
        rw [World.cell?_of_block (w := w) (by rw [hw']), hu]; rfl)
      simpa [Builtin.firstCells] using this
    · obtain ⟨u, hu, h1, ht⟩ := hcell i j x hx
      refine ⟨u, ?_, h1, ht⟩
      have hi : i < ys.length := by
        obtain ⟨e, he, _⟩ := Option.bind_eq_some_iff.1 hx
        rcases Nat.lt_or_ge i ys.length with h' | h'
        · exact h'
        · rw [List.getElem?_eq_none h'] at he; cases he
      have hj : j < sz := by
        obtain ⟨e, he, hj⟩ := Option.bind_eq_some_iff.1 hx
        rcases Nat.lt_or_ge j e.length with h' | h'
        · rw [hlen e (List.mem_of_getElem? he)] at h'; exact h'
        · rw [List.getElem?_eq_none h'] at hj; cases hj
      have hle : i * sz + sz ≤ ys.length * sz := by have := Nat.mul_le_mul_right sz (show i + 1 ≤ ys.length from hi); rwa [Nat.add_mul, Nat.one_mul] at this
      have hlt : i * sz + j < ys.length * sz := by omega
      simp [hlt, hu]
  cases q <;> simp only [rowOf] at hr <;> try (cases hr; done)
  case nils sz' =>
    injection hr with hr; subst hr
    have : v = .slice none 0 0 := by
      cases hv with
      | tree h => cases h; rfl
    exact hempty _ _ this rfl
  case ro sz' es =>
    injection hr with hr; subst hr
    obtain ⟨A, cap, rfl, hc, hrow⟩ := hv.ro_inv
    by_cases hne : es = []
    · subst hne; exact hempty _ _ rfl rfl
    · obtain ⟨ad, rfl, g1, g2, g3, g4⟩ := hrow hne
      have : sz' = sz := by rcases hsz with h | h; exact absurd h hne; simpa [rowSz] using h
      subst this
      exact hfull ad cap rfl g1 g2 (fun i j x hx => by
        obtain ⟨u, hu, h1, ht⟩ := g4 i j x hx
        exact ⟨u, hu, h1, ht⟩)
  case own b sz' lo n =>
    split at hr <;> try (cases hr; done)
    rename_i ty sz2 es hm
    split at hr <;> try (cases hr; done)
    rename_i hc
    obtain ⟨rfl, hle⟩ := hc
    injection hr with hr
    have hlen : ys.length = n := by rw [← hr]; simp; omega
    by_cases hne : ys = []
    · have hn0 : n = 0 := by rw [← hlen, hne]; rfl
      subst hn0
      obtain ⟨A, cap, rfl, _⟩ := hv.own_slice
      exact hempty _ _ rfl hne
    · have hsz' : sz' = sz := by rcases hsz with h | h; exact absurd h hne; simpa [rowSz] using h
      subst hsz'
      have hpos : 0 < n := by rcases Nat.eq_zero_or_pos n with h0 | h0; exact absurd (List.eq_nil_of_length_eq_zero (by omega)) hne; exact h0
      rcases hv.own_inv with ⟨hv, rfl, rfl⟩ | ⟨ad, hv, rfl, _⟩ | ⟨k, o', cap, hρ, rfl, hn, hroom⟩
      · omega
      · omega
      · have hB := h.mem b _ hm
        simp only [BRel, hρ] at hB
        obtain ⟨cur, hh, hl, _, hcell⟩ := hB
        have hel : ∀ e ∈ ys, e.length = sz' := fun e he => by rw [← hr] at he; exact hl e (List.mem_of_mem_drop (List.mem_of_mem_take he))
        have := hfull ⟨k, o' + lo * sz', none⟩ cap (by rw [hlen]) hs hel (fun i j x hx => by
          rw [← hr] at hx
          have hx' : cellAt es (lo + i) j = some x := by
            simp only [cellAt] at hx ⊢
            obtain ⟨e, he, hj⟩ := Option.bind_eq_some_iff.1 hx
            have hin : i < n := by
              rcases Nat.lt_or_ge i n with h1 | h1
              · exact h1
              · rw [List.getElem?_eq_none (by simp; omega)] at he; cases he
            rw [List.getElem?_take_of_lt hin, List.getElem?_drop] at he
            rw [he]; exact hj
          obtain ⟨u, hu, h1, ht⟩ := hcell _ _ _ hx'
          refine ⟨u, ?_, h1, ht⟩
          rw [add_none]
          simp only [World.cell?, hh]
          rw [if_neg (by simp)]
          rw [← hu]; congr 1; rw [Nat.add_mul]; omega)
        rwa [hlen] at this ⊢
theorem drew_heap (w : World) : (w.drew).heap = w.heap := rfl
theorem run_append_room {t t' ty el el' : TypeId} {i : TypeInfo} (ht : P.underlying t = some (.slice el)) (ht' : P.underlying t' = some (.slice el')) (hi : P.info? el = some i) {k off n cap : Nat} {v2 : Value} {m : Nat} {tyb : TypeId} {cur : Array Value}
    {A : Option Addr} {c2 : Nat} (hv2 : v2 = .slice A m c2) {news : List Value} (hl : news.length = m * i.size) (hnews : (Builtin.firstCells i.size m v2).run P w = .ok news.toArray w) (h1 : ∀ u ∈ news, one u = true) (hroom : n + m ≤ cap)
    (hh : w.heap[k]? = some (.cells cur tyb (0, 0))) (hfit : off + n * i.size + m * i.size ≤ cur.size) (ats : Array TypeId) (h0 : ats[0]? = some t) (h2 : ats[1]? = some t') :
    (Builtin.append_ ats ty #[.slice (some ⟨k, off, none⟩) n cap, v2]).run P w = .ok (.slice (some ⟨k, off, none⟩) (n + m) cap) (w.setRow k (cur.toList.take (off + n * i.size) ++ news ++ cur.toList.drop (off + n * i.size + news.length)).toArray) := by
  subst hv2
  have hst := run_storeCells_at (P := P) k (off + n * i.size) tyb news 0 cur w hh (by omega) (fun v hv => oneCell_of (h1 v hv))
  simp only [Nat.add_zero] at hst
  simp [Builtin.append_, h0, h2, und ht, und ht', szOf hi, Builtin.lenOf, hroom, hnews, add_none, hst]
theorem run_append_grow {t t' ty el el' : TypeId} {i : TypeInfo} {z : Value} (ht : P.underlying t = some (.slice el)) (ht' : P.underlying t' = some (.slice el')) (hi : P.info? el = some i) (hz : i.zero = some z) {n cap : Nat} {B : Option Addr} {v2 : Value} {m : Nat}
    {A : Option Addr} {c2 : Nat} (hv2 : v2 = .slice A m c2) {olds news : List Value} (hnews : ∀ w' : World, w'.heap = w.heap → (Builtin.firstCells i.size m v2).run P w' = .ok news.toArray w') (holds : ∀ w' : World, w'.heap = w.heap → (Builtin.firstCells i.size n (.slice B n cap)).run P w' = .ok olds.toArray w')
    (hroom : cap < n + m) (hb : (n + m) * i.bytes ≤ 140737488355328) (hb0 : i.bytes ≠ 0) (ats : Array TypeId) (h0 : ats[0]? = some t) (h2 : ats[1]? = some t') :
    (Builtin.append_ ats ty #[.slice B n cap, v2]).run P w = .ok (.slice (some ⟨w.heap.size, 0, none⟩) (n + m) (grownCap w (n + m) cap el)) (w.drew.alloc (.cells (olds.toArray ++ news.toArray ++ Builtin.zeroCells z.cells (grownCap w (n + m) cap el - (n + m))) el)) := by
  subst hv2
  have hnr : ¬ (n + m ≤ cap) := by omega
  have hfit := growslice_fits hroom hb
  have hle : n + m ≤ 140737488355328 := Nat.le_trans (Nat.le_mul_of_pos_right _ (by omega)) hb
  have h63' : ¬ (9223372036854775807 < ((n : Int) + (m : Int))) := by omega
  have h48' : ¬ (281474976710656 < Builtin.nextslicecap (n + m) cap * i.bytes) := by omega
  have hf := hnews w.drew rfl
  have hfo := holds w.drew rfl
  simp [Builtin.append_, h0, h2, und ht, und ht', sizeOf, typeInfo, zeroValue, hi, hz, Builtin.lenOf, hnr, h63', h48', Question.forced, hf, hfo, newRow, grownCap]
  congr 2
  apply Array.ext'
  simp [List.append_assoc]
theorem grown_ge (w : World) (need old : Nat) (e : TypeId) : need ≤ grownCap w need old e := by simp [grownCap, Question.cut]
theorem append_ok (h : Conc c st ρ a w) {d id ty sz bytes : Nat} {x y : Src} {st' : St} (hc : chkM P o (.append id ty sz bytes x y) = true) (hd : o.dst = some d) (hlt : d < a.tmps.size) (he : exec (some d) (.append id ty sz bytes x y) st = some st') :
    StepOK P c o st' (wrs st (.append id ty sz bytes x y)) ρ a w := by
  simp only [chkM] at hc
  split at hc <;> try (cases hc; done)
  rename_i cl ho
  simp only [Bool.and_eq_true] at hc
  obtain ⟨⟨hcal, hty⟩, hargs⟩ := hc
  split at hcal <;> try (cases hcal; done)
  rename_i hcal'
  split at hty <;> try (cases hty; done)
  rename_i t t' ht0 ht1
  split at hty <;> try (cases hty; done)
  rename_i el el' i hu hu' hi
  simp only [Bool.and_eq_true, beq_iff_eq, bne_iff_ne] at hty
  obtain ⟨⟨⟨⟨⟨rfl, hisz⟩, hby⟩, hsz0⟩, hby0⟩, hzero⟩ := hty
  split at hzero <;> try (cases hzero; done)
  rename_i z hz
  simp only [beq_iff_eq] at hzero
  -- the operands
  obtain ⟨x', y', hargs', hx', hy'⟩ : ∃ x' y', cl.args = #[x', y'] ∧ srcOK x' x = true ∧ srcOK y' y = true := by
    have hl : ∀ l : List Operand, okL l [x, y] = true → ∃ x' y', l = [x', y'] ∧ srcOK x' x = true ∧ srcOK y' y = true := by
      intro l hl
      match l, hl with
      | [p, q], hl => simp only [okL, Bool.and_eq_true] at hl; exact ⟨p, q, rfl, hl.1, hl.2.1⟩
      | [], hl => simp [okL] at hl
      | [p], hl => simp [okL] at hl
      | p :: q :: r :: s, hl => simp [okL] at hl
    obtain ⟨p, q, h1, h2, h3⟩ := hl _ hargs
    exact ⟨p, q, by rw [← Array.toList_inj]; exact h1, h2, h3⟩
  have hrunOf : ∀ v w', (Builtin.append_ cl.argTypes o.type #[a.eval x', a.eval y']).run P w = .ok v w' → (execOp a.eval o).run P w = .ok (.value v) w' := by
    intro v w' hr
    simp [execOp, ho, resolve, hcal', hargs', invoke, builtin, hr]
  have hszp : 0 < sz := by omega
  simp only [exec] at he
  split at he <;> try (cases he; done)
  · -- a row of the call's own
    rename_i d' b sz' lo n q hd' hx hy
    injection hd' with hd'; subst hd'
    split at he <;> try (cases he; done)
    rename_i xs ys ty' sz2 es0 hxs hys hm
    split at he <;> try (cases he; done)
    rename_i hcond
    obtain ⟨rfl, hrs, rfl, hno, hfx, hbound⟩ := hcond
    injection he with he; subst he
    have hws : wrs st (.append id el sz bytes x y) = [b] := by simp [wrs, hx]
    rw [hws]
    have hVx := h.srcs _ _ _ hx' hx
    have hVy := h.srcs _ _ _ hy' hy
    obtain ⟨A2, c2, hv2, hylen, news, hnl, hnrun, hncell⟩ := row_cells (P := P) h hszp hVy hys hrs
    obtain ⟨A1, c1, hv1, hxlen, olds, hol, horun, hocell⟩ := row_cells (P := P) h hszp hVx hxs (.inr rfl)
    have hxn : xs.length = n := by
      simp only [rowOf, hm] at hxs
      split at hxs <;> try (cases hxs; done)
      rename_i hc; injection hxs with hxs; rw [← hxs]; simp; omega
    rw [hxn] at horun hol hv1
    have hn1 : ∀ u ∈ news, one u = true := by
      intro u hu
      obtain ⟨p, hp, rfl⟩ := List.mem_iff_getElem.1 hu
      have hdiv : p / sz < ys.length := Nat.div_lt_of_lt_mul (by rw [Nat.mul_comm]; omega)
      have hmod : p % sz < sz := Nat.mod_lt _ hszp
      have hlen := hylen _ (List.getElem_mem hdiv)
      obtain ⟨u, hu, h1, _⟩ := hncell (p / sz) (p % sz) _ (show cellAt ys (p / sz) (p % sz) = some ((ys[p / sz])[p % sz]'(by omega)) by simp only [cellAt, List.getElem?_eq_getElem hdiv, Option.bind_some]; exact List.getElem?_eq_getElem (by omega))
      rw [show p / sz * sz + p % sz = p from by rw [Nat.mul_comm]; exact Nat.div_add_mod p sz, List.getElem?_eq_getElem hp] at hu
      injection hu with hu; rw [hu]; exact h1
    have hcellX : ∀ (old : List Value) (i j : Nat) x, (xs ++ ys).length = n + ys.length → cellAt (xs ++ ys) i j = some x → ∃ u, (olds ++ news)[i * sz + j]? = some u ∧ one u = true ∧ TRel w (OwnBy c.A ρ) x u := by
      intro _ i j x hlen hx
      obtain ⟨e, he, hj⟩ := Option.bind_eq_some_iff.1 hx
      by_cases hi : i < n
      · rw [List.getElem?_append_left (by omega)] at he
        obtain ⟨u, hu, h1, ht⟩ := hocell i j x (by simp [cellAt, he, hj])
        refine ⟨u, ?_, h1, ht⟩
        have hlt : i * sz + j < olds.length := by
          rcases Nat.lt_or_ge (i * sz + j) olds.length with h' | h'
          · exact h'
          · rw [List.getElem?_eq_none h'] at hu; cases hu
        rw [List.getElem?_append_left hlt]; exact hu
      · rw [List.getElem?_append_right (by omega), hxn] at he
        obtain ⟨u, hu, h1, ht⟩ := hncell (i - n) j x (by simp [cellAt, he, hj])
        refine ⟨u, ?_, h1, ht⟩
        have e1 : n * sz ≤ i * sz := Nat.mul_le_mul_right sz (by omega)
        rw [List.getElem?_append_right (by rw [hol]; omega), hol, ← hu]
        congr 1
        rw [Nat.sub_mul]; omega
    have hlenXY : (xs ++ ys).length = n + ys.length := by simp [hxn]
    have helXY : ∀ e ∈ xs ++ ys, e.length = sz := fun e he => by
      rcases List.mem_append.1 he with h1 | h1
      · exact hxlen e h1
      · exact hylen e h1
    have hgrow : ∀ B cap, a.eval x' = .slice B n cap → cap < n + ys.length → StepOK P c o (St.put { st.kill b with mem := upd (st.kill b).mem b (.arr el sz (xs ++ ys)) } d (.own b sz 0 (n + ys.length))) [b] ρ a w := by
      intro B cap hB hcap
      have hr := run_append_grow (P := P) (ty := o.type) (n := n) (cap := cap) (B := B) hu hu' hi hz hv2 (olds := olds) (news := news) (by rw [hisz]; exact hnrun) (fun w' hw' => by rw [hisz]; have := horun w' hw'; rwa [hB] at this) hcap (by rw [hby]; exact hbound) (by omega) cl.argTypes ht0 ht1
      have hrun := hrunOf _ _ (by rw [hB]; exact hr)
      have hge := grown_ge w (n + ys.length) cap el
      have hrm := h.remake (b := b) (hfx := hfx) (k := w.heap.size) (o' := 0) (blk := .arr el sz (xs ++ ys)) (w' := w.drew.alloc (.cells (olds.toArray ++ news.toArray ++ Builtin.zeroCells z.cells (grownCap w (n + ys.length) cap el - (n + ys.length))) el))
        (by simp) (.inr (Nat.le_refl _)) (by simp) (fun k1 hk1 _ => by simp only [World.alloc, World.drew]; rw [Array.getElem?_push, if_neg (by omega)])
        (fun k1 cur tyq fr hk1 hh => by simp only [World.alloc, World.drew] at hh; rw [Array.getElem?_push, if_neg (by omega)] at hh; exact ⟨cur, tyq, fr, hh, rfl⟩) rfl rfl ⟨rfl, by first | exact Nat.le_refl _ | exact Nat.le_succ _⟩ (fun hk => by
          simp only [BRel, if_true]
          refine ⟨_, push_get w rfl, helXY, ?_, fun p j x hx => ?_⟩
          · simp only [Array.size_append, List.size_toArray, size_zeroCells, hzero, hol, hnl, hlenXY, Nat.add_mul]
            omega
          · obtain ⟨u, hu, h1, ht⟩ := hcellX olds p j x hlenXY hx
            refine ⟨u, ?_, h1, ht.keep hk.toKeeps⟩
            rw [Nat.zero_add, Array.getElem?_append_left]
            · rw [show olds.toArray ++ news.toArray = (olds ++ news).toArray from by simp]; simpa using hu
            · rcases Nat.lt_or_ge (p * sz + j) (olds ++ news).length with h' | h'
              · simpa using h'
              · rw [List.getElem?_eq_none h'] at hu; cases hu)
      refine ⟨.value _, _, (fun b' => if b' = b then some (w.heap.size, 0) else ρ b'), _, hrun, .inl rfl, ?_, fun k1 hk1 _ => by simp only [World.alloc, World.drew]; rw [Array.getElem?_push, if_neg (by omega)], fun b' k1 o1 hρ => ?_⟩
      · rw [hd]
        refine hrm.put hlt ?_
        have := VRel.own (w := w.drew.alloc (.cells (olds.toArray ++ news.toArray ++ Builtin.zeroCells z.cells (grownCap w (n + ys.length) cap el - (n + ys.length))) el)) (Own := OwnBy c.A (fun b' => if b' = b then some (w.heap.size, 0) else ρ b')) (ρ := fun b' => if b' = b then some (w.heap.size, 0) else ρ b') (b := b) (sz := sz) (lo := 0) (n := n + ys.length) (k := w.heap.size) (o := 0) (cap := grownCap w (n + ys.length) cap el) (by simp) hge (fun cur tyq fr hh => by
          rw [push_get w rfl] at hh
          injection hh with hh; injection hh with hh _ _
          rw [← hh]
          simp only [Array.size_append, List.size_toArray, size_zeroCells, hzero, hol, hnl, Nat.zero_add]
          rw [← Nat.add_mul, ← Nat.add_mul]
          exact Nat.mul_le_mul_right _ (by omega))
        simpa using this
      · replace hρ : (if b' = b then some (w.heap.size, 0) else ρ b') = some (k1, o1) := hρ
        split at hρ
        · rename_i e; injection hρ with hρ; injection hρ with h1 h2; exact .inr ⟨by simp [e], .inl (by omega)⟩
        · exact .inl hρ
    have hsame : ∀ (ρv : Value), ys = [] → a.eval x' = ρv → (∀ w', (Builtin.append_ cl.argTypes o.type #[a.eval x', a.eval y']).run P w' = .ok ρv w') → (∀ Own' (ρ' : Map), (∀ b' k o', ρ b' = some (k, o') → ρ' b' = some (k, o')) → VRel w Own' ρ' (.own b sz 0 0) ρv) → n = 0 → StepOK P c o (St.put { st.kill b with mem := upd (st.kill b).mem b (.arr el sz (xs ++ ys)) } d (.own b sz 0 (n + ys.length))) [b] ρ a w := by
      intro ρv hys0 hev hrun hvr hn0
      have hxs0 : xs = [] := List.eq_nil_of_length_eq_zero (by omega)
      rw [hys0, hxs0, hn0]
      cases hρb : ρ b with
      | none =>
        have hk := (h.kill b hfx).virt (b := b) (by simp) el sz
        refine ⟨.value ρv, w, (fun b' => if b' = b then none else ρ b'), ρv, hrunOf _ _ (hrun w), .inl rfl, ?_, fun _ _ _ => rfl, fun b' k1 o1 hρ => ?_⟩
        · rw [hd]
          refine hk.put hlt (hvr _ _ (fun b' k o' hρ => ?_))
          split
          · rename_i e; subst e; rw [hρb] at hρ; cases hρ
          · exact hρ
        · replace hρ : (if b' = b then none else ρ b') = some (k1, o1) := hρ
          split at hρ
          · cases hρ
          · exact .inl hρ
      | some p =>
        obtain ⟨k, o'⟩ := p
        have hB := h.mem b _ hm
        simp only [BRel, hρb] at hB
        obtain ⟨cur, hh, _, hsc, _⟩ := hB
        have hrm := h.remake (b := b) (hfx := hfx) (k := k) (o' := o') (blk := .arr el sz []) (w' := w) (Nat.le_refl _) (.inl ⟨o', hρb⟩) (h.lt _ _ _ hρb) (fun _ _ _ => rfl) (fun k1 cur tyq fr _ hh => ⟨cur, tyq, fr, hh, rfl⟩) rfl rfl ⟨rfl, by first | exact Nat.le_refl _ | exact Nat.le_succ _⟩ (fun hk => by
          simp only [BRel, if_true]
          exact ⟨cur, hh, by simp, by simp; omega, fun p j x hx => by simp [cellAt] at hx⟩)
        refine ⟨.value ρv, w, (fun b' => if b' = b then some (k, o') else ρ b'), ρv, hrunOf _ _ (hrun w), .inl rfl, ?_, fun _ _ _ => rfl, fun b' k1 o1 hρ => ?_⟩
        · rw [hd]
          refine hrm.put hlt (hvr _ _ (fun b' k1 o1 hρ => ?_))
          split
          · rename_i e; subst e; rw [hρb] at hρ; exact hρ
          · exact hρ
        · replace hρ : (if b' = b then some (k, o') else ρ b') = some (k1, o1) := hρ
          split at hρ
          · rename_i e; subst e; exact .inl (hρb.trans hρ)
          · exact .inl hρ
    rcases hVx.own_inv with ⟨hv, hlo, hn0⟩ | ⟨ad, hv, hn0, k, o', hρ, hk⟩ | ⟨k, o', cap, hρ, hv, hncap, hroom⟩
    · by_cases hys0 : ys = []
      · refine hsame (.slice none 0 0) hys0 hv (fun w' => ?_) (fun _ _ _ => .ownnil) hn0
        rw [hv2, hys0] at hnrun ⊢
        have : (Builtin.firstCells i.size 0 (.slice A2 0 c2)).run P w' = .ok #[] w' := by cases A2 <;> simp [Builtin.firstCells, loadCells, loadCellsFrom]
        simp [Builtin.append_, hv, ht0, ht1, und hu, und hu', szOf hi, Builtin.lenOf, this]
      · refine hgrow _ _ (by rw [hv, hn0]) ?_
        have : 0 < ys.length := List.length_pos_iff.2 hys0
        omega
    · by_cases hys0 : ys = []
      · refine hsame (.slice (some ad) 0 0) hys0 hv (fun w' => ?_) (fun _ ρ' hρ' => .ownz (hρ' _ _ _ (by rw [hk]; exact hρ))) hn0
        rw [hv2, hys0] at hnrun ⊢
        have : (Builtin.firstCells i.size 0 (.slice A2 0 c2)).run P w' = .ok #[] w' := by cases A2 <;> simp [Builtin.firstCells, loadCells, loadCellsFrom]
        simp [Builtin.append_, hv, ht0, ht1, und hu, und hu', szOf hi, Builtin.lenOf, this, storeCells]
      · refine hgrow _ _ (by rw [hv, hn0]) ?_
        have : 0 < ys.length := List.length_pos_iff.2 hys0
        omega
    · by_cases hcap : n + ys.length ≤ cap
      · have hB := h.mem b _ hm
        simp only [BRel, hρ] at hB
        obtain ⟨cur, hh, _, hsc, _⟩ := hB
        have hrm0 := hroom _ _ _ hh
        have hcapm : (n + ys.length) * sz ≤ cap * sz := Nat.mul_le_mul_right sz hcap
        rw [Nat.add_mul] at hrm0 hcapm
        have hr := run_append_room (P := P) (ty := o.type) (off := o' + lo * sz) (n := n) (cap := cap) hu hu' hi hv2 (news := news) (by rw [hisz]; exact hnl) (by rw [hisz]; exact hnrun w rfl) hn1 hcap hh (by rw [hisz]; omega) cl.argTypes ht0 ht1
        rw [hisz] at hr
        have hrun := hrunOf _ _ (by rw [hv]; exact hr)
        have hsplice := splice_get cur.toList (o' + lo * sz + n * sz) news (by simp; omega)
        have hget : ∀ p, ((cur.toList.take (o' + lo * sz + n * sz) ++ news ++ cur.toList.drop (o' + lo * sz + n * sz + news.length)).toArray)[p]? = if o' + lo * sz + n * sz ≤ p ∧ p < o' + lo * sz + n * sz + news.length then news[p - (o' + lo * sz + n * sz)]? else cur[p]? := by
          intro p; have := hsplice p; simpa using this
        have hszc : ((cur.toList.take (o' + lo * sz + n * sz) ++ news ++ cur.toList.drop (o' + lo * sz + n * sz + news.length)).toArray).size = cur.size := by simp; omega
        generalize (cur.toList.take (o' + lo * sz + n * sz) ++ news ++ cur.toList.drop (o' + lo * sz + n * sz + news.length)).toArray = cur' at hrun hget hszc
        have hset := setRow_get w k cur cur' _ _ hh
        have hrowsz : ∀ k1 cur1 ty1 fr1, k1 < w.heap.size → (w.setRow k cur').heap[k1]? = some (.cells cur1 ty1 fr1) → ∃ cur0 ty0 fr0, w.heap[k1]? = some (.cells cur0 ty0 fr0) ∧ cur0.size = cur1.size := by
          intro k1 cur1 ty1 fr1 _ hh1
          by_cases e : k1 = k
          · subst e
            rw [hset] at hh1; injection hh1 with hh1; injection hh1 with h1 _ _
            exact ⟨cur, _, _, hh, by rw [← h1, hszc]⟩
          · rw [setRow_far w k cur' k1 e] at hh1; exact ⟨cur1, ty1, fr1, hh1, rfl⟩
        have holdc : ∀ i j x, cellAt xs i j = some x → ∃ u, cur[o' + (lo + i) * sz + j]? = some u ∧ one u = true ∧ TRel w (OwnBy c.A ρ) x u := by
          intro i j x hx
          simp only [rowOf, hm] at hxs
          split at hxs <;> try (cases hxs; done)
          rename_i hcx
          injection hxs with hxs
          rw [← hxs] at hx
          have hx' : cellAt es0 (lo + i) j = some x := by
            simp only [cellAt] at hx ⊢
            obtain ⟨e, he, hj⟩ := Option.bind_eq_some_iff.1 hx
            have hin : i < n := by
              rcases Nat.lt_or_ge i n with h1 | h1
              · exact h1
              · rw [List.getElem?_eq_none (by simp; omega)] at he; cases he
            rw [List.getElem?_take_of_lt hin, List.getElem?_drop] at he
            rw [he]; exact hj
          have hB2 := h.mem b _ hm
          simp only [BRel, hρ] at hB2
          obtain ⟨cur2, hh2, _, _, hcell2⟩ := hB2
          rw [hh] at hh2; injection hh2 with hh2; injection hh2 with hh2 _ _; subst hh2
          obtain ⟨u, hu, h1, ht⟩ := hcell2 _ _ _ hx'
          obtain ⟨rfl, _⟩ := hcx
          exact ⟨u, by rw [← hu]; congr 1; omega, h1, ht⟩
        have hrm := h.remake (b := b) (hfx := hfx) (k := k) (o' := o' + lo * sz) (blk := .arr el sz (xs ++ ys)) (w' := w.setRow k cur') (by rw [setRow_size]; exact Nat.le_refl _) (.inl ⟨o', hρ⟩) (by rw [setRow_size]; exact h.lt _ _ _ hρ)
          (fun k1 _ hk1 => setRow_far w k cur' k1 (by rintro rfl; exact hk1 o' hρ)) hrowsz rfl rfl ⟨rfl, by first | exact Nat.le_refl _ | exact Nat.le_succ _⟩ (fun hk => by
            simp only [BRel, if_true]
            have hty : ∀ ty, w.heap[k]? = some (.cells cur ty (0, 0)) → (w.setRow k cur').heap[k]? = some (.cells cur' ty (0, 0)) := fun ty hq => setRow_get w k cur cur' ty _ hq
            have hB2 := h.mem b _ hm
            simp only [BRel, hρ] at hB2
            obtain ⟨cur2, hh2, _⟩ := hB2
            have hc2 : cur2 = cur := by rw [hh] at hh2; injection hh2 with hh2; injection hh2 with hh2 _ _; exact hh2.symm
            subst hc2
            refine ⟨cur', hty _ hh2, helXY, by rw [hlenXY, hszc, Nat.add_mul]; omega, fun p j x hx => ?_⟩
            obtain ⟨e, he, hj⟩ := Option.bind_eq_some_iff.1 hx
            have hjs : j < sz := by
              rcases Nat.lt_or_ge j e.length with h' | h'
              · rw [helXY e (List.mem_of_getElem? he)] at h'; exact h'
              · rw [List.getElem?_eq_none h'] at hj; cases hj
            by_cases hpn : p < n
            · rw [List.getElem?_append_left (by omega)] at he
              obtain ⟨u, hu, h1, ht⟩ := holdc p j x (by simp [cellAt, he, hj])
              have hle : p * sz + sz ≤ n * sz := by have := Nat.mul_le_mul_right sz (show p + 1 ≤ n from hpn); rwa [Nat.add_mul, Nat.one_mul] at this
              refine ⟨u, ?_, h1, ht.keep hk.toKeeps⟩
              rw [hget, if_neg (by omega), ← hu]
              congr 1; rw [Nat.add_mul]; omega
            · rw [List.getElem?_append_right (by omega), hxn] at he
              obtain ⟨u, hu, h1, ht⟩ := hncell (p - n) j x (by simp [cellAt, he, hj])
              refine ⟨u, ?_, h1, ht.keep hk.toKeeps⟩
              have e1 : n * sz ≤ p * sz := Nat.mul_le_mul_right sz (by omega)
              have e2 : (p - n) * sz + j < news.length := by
                rcases Nat.lt_or_ge ((p - n) * sz + j) news.length with h' | h'
                · exact h'
                · rw [List.getElem?_eq_none h'] at hu; cases hu
              rw [Nat.sub_mul] at e2 hu
              rw [hget, if_pos (by omega), ← hu]
              congr 1; omega)
        refine ⟨.value _, _, (fun b' => if b' = b then some (k, o' + lo * sz) else ρ b'), _, hrun, .inl rfl, ?_, fun k1 hk1 hk2 => setRow_far w k cur' k1 (by rintro rfl; exact hk2 b o' (by simp) hρ), fun b' k1 o1 hρ' => ?_⟩
        · rw [hd]
          refine hrm.put hlt ?_
          have := VRel.own (w := w.setRow k cur') (Own := OwnBy c.A (fun b' => if b' = b then some (k, o' + lo * sz) else ρ b')) (ρ := fun b' => if b' = b then some (k, o' + lo * sz) else ρ b') (b := b) (sz := sz) (lo := 0) (n := n + ys.length) (k := k) (o := o' + lo * sz) (cap := cap) (by simp) hcap (fun cur1 ty1 fr1 hh1 => by
            rw [hset] at hh1; injection hh1 with hh1; injection hh1 with h1 _ _
            rw [← h1, hszc]; simp; omega)
          simpa using this
        · replace hρ' : (if b' = b then some (k, o' + lo * sz) else ρ b') = some (k1, o1) := hρ'
          split at hρ'
          · rename_i e; subst e
            injection hρ' with hρ'; injection hρ' with h1 h2
            exact .inr ⟨by simp, .inr ⟨b', by simp, o', by rw [← h1]; exact hρ⟩⟩
          · exact .inl hρ'
      · exact hgrow _ _ hv (by omega)
  · -- nil
    rename_i d' sz' q hd' hx hy
    injection hd' with hd'; subst hd'
    split at he <;> try (cases he; done)
    rename_i ys hys
    split at he <;> try (cases he; done)
    rename_i hcond
    obtain ⟨rfl, hrs, hno, hfx, hbound⟩ := hcond
    injection he with he; subst he
    have hws : wrs st (.append id el sz bytes x y) = [id] := by simp [wrs, hx]
    rw [hws]
    have hVy := h.srcs _ _ _ hy' hy
    have hv : a.eval x' = .slice none 0 0 := by
      have := h.srcs _ _ _ hx' hx
      generalize a.eval x' = v at this
      cases this with
      | tree h => cases h; rfl
    obtain ⟨A2, c2, hv2, hylen, news, hnl, hnrun, hncell⟩ := row_cells (P := P) h hszp hVy hys hrs
    refine StepOK.of_fresh (id := id) h hfx (fun ρ0 h0 h1 h2 hf0 h3 => ?_)
    -- what the new elements say, of the smaller state
    have hnc0 : ∀ i j x, cellAt ys i j = some x → ∃ u, news[i * sz + j]? = some u ∧ one u = true ∧ TRel w (OwnBy c.A ρ0) x u := by
      intro i j x hx
      obtain ⟨u, hu, h1', ht⟩ := hncell i j x hx
      refine ⟨u, hu, h1', ht.keep ⟨Nat.le_refl _, fun _ _ _ => rfl, fun k _ hk => ?_⟩⟩
      rcases hk with hk | ⟨b', o', hk⟩
      · exact .inl hk
      · exact .inr ⟨b', o', h3 _ _ _ hk⟩
    by_cases hys0 : ys = []
    · have hrun := hrunOf (.slice none 0 0) w (by
        rw [hv2, hys0, hv]
        have : (Builtin.firstCells i.size 0 (.slice A2 0 c2)).run P w = .ok #[] w := by cases A2 <;> simp [Builtin.firstCells, loadCells, loadCellsFrom]
        simp [Builtin.append_, ht0, ht1, und hu, und hu', szOf hi, Builtin.lenOf, this])
      subst hys0
      refine ⟨.value (.slice none 0 0), w, ρ0, .slice none 0 0, hrun, .inl rfl, ?_, fun _ _ _ => rfl, fun b' k1 o1 hρ => .inl hρ⟩
      rw [hd]
      exact (h0.virt h1 el sz).put hlt (.ownnil)
    · have hpos : 0 < ys.length := List.length_pos_iff.2 hys0
      have hr := run_append_grow (P := P) (w := w) (ty := o.type) (n := 0) (cap := 0) (B := none) hu hu' hi hz hv2 (olds := []) (news := news) (by rw [hisz]; exact hnrun) (fun w' hw' => by simp [Builtin.firstCells]) (by omega) (by rw [hby]; simpa using hbound) (by omega) cl.argTypes ht0 ht1
      have hrun := hrunOf _ _ (by rw [hv]; exact hr)
      have hge := grown_ge w (0 + ys.length) 0 el
      refine new_ok (w' := w.drew.alloc (.cells (([] : List Value).toArray ++ news.toArray ++ Builtin.zeroCells z.cells (grownCap w (0 + ys.length) 0 el - (0 + ys.length))) el)) h0 hf0 hd hlt h1 h2 hrun rfl rfl rfl ⟨rfl, by first | exact Nat.le_refl _ | exact Nat.le_succ _⟩ (fun ρ' hρ' hk => ?_) (fun Own' ρ' hρ' => ?_)
      · simp only [BRel, hρ']
        refine ⟨_, push_get w rfl, hylen, ?_, fun p j x hx => ?_⟩
        · simp only [Array.size_append, List.size_toArray, size_zeroCells, hzero, hnl, List.length_nil]
          omega
        · obtain ⟨u, hu, h1', ht⟩ := hnc0 p j x hx
          refine ⟨u, ?_, h1', ht.keep hk.toKeeps⟩
          rw [Nat.zero_add, Array.getElem?_append_left]
          · simpa using hu
          · rcases Nat.lt_or_ge (p * sz + j) news.length with h' | h'
            · simpa using h'
            · rw [List.getElem?_eq_none h'] at hu; cases hu
      · have := VRel.own (w := w.drew.alloc (.cells (([] : List Value).toArray ++ news.toArray ++ Builtin.zeroCells z.cells (grownCap w (0 + ys.length) 0 el - (0 + ys.length))) el)) (Own := Own') (ρ := ρ') (b := id) (sz := sz) (lo := 0) (n := 0 + ys.length) (k := w.heap.size) (o := 0) (cap := grownCap w (0 + ys.length) 0 el) hρ' hge (fun cur tyq fr hh => by
          rw [push_get w rfl] at hh
          injection hh with hh; injection hh with hh _ _
          rw [← hh]
          simp only [Array.size_append, List.size_toArray, size_zeroCells, hzero, hnl, List.length_nil, Nat.zero_add]
          rw [← Nat.add_mul]
          exact Nat.mul_le_mul_right _ (by omega))
        simpa using this
end
end Go.SX
namespace Go.SX
open Go
section
variable {P : Program} {c : Ctx} {o : Oper} {st : St} {ρ : Map} {a : Act} {w : World}
theorem pure_ok (h : Conc c st ρ a w) {ao : AOp} {d : Nat} {r : AV} (hc : chk P o ao = true) (hd : o.dst = some d) (hlt : d < a.tmps.size) (hp : pv st.src ao = some r) (ws : List Nat) : StepOK P c o (st.put d r) ws ρ a w := by
  obtain ⟨v, hrun, hv⟩ := pv_ok h.srcs hc hp
  refine ⟨.value v, w, ρ, v, hrun w, .inl rfl, ?_, fun _ _ _ => rfl, fun _ _ _ h => .inl h⟩
  rw [hd]
  exact h.put hlt hv
theorem loadStep_ok (h : Conc c st ρ a w) {n : Nat} {g : Bool} {x : Src} {d : Nat} {st' : St} (hc : chkM P o (.load n g x) = true) (hd : o.dst = some d) (hlt : d < a.tmps.size) (he : exec (some d) (.load n g x) st = some st') (ws : List Nat) : StepOK P c o st' ws ρ a w := by
  simp only [exec] at he
  split at he <;> try (cases he; done)
  rename_i d' p hd' hx
  injection hd' with hd'; subst hd'
  split at he <;> try (cases he; done)
  rename_i cs hl
  split at he <;> try (cases he; done)
  rename_i r hr
  injection he with he; subst he
  obtain ⟨v, blk, hrun, hv, _, _⟩ := load_ok h hc hx hl hr
  refine ⟨.value v, w, ρ, v, hrun w rfl, .inl rfl, ?_, fun _ _ _ => rfl, fun _ _ _ h => .inl h⟩
  rw [hd]
  exact h.put hlt hv
theorem StepOK.mono {st' : St} {ws ws' : List Nat} (h : StepOK P c o st' ws ρ a w) (hs : ∀ b ∈ ws, b ∈ ws') : StepOK P c o st' ws' ρ a w := by
  obtain ⟨r, w', ρ', v, e1, e2, e3, e4, e5⟩ := h
  exact ⟨r, w', ρ', v, e1, e2, e3, fun k hk hb => e4 k hk (fun b o' hb' => hb b o' (hs b hb')), fun b k o' hρ => (e5 b k o' hρ).imp id (fun ⟨h1, h2⟩ => ⟨hs b h1, h2.imp id (fun ⟨b0, h3, h4⟩ => ⟨b0, hs b0 h3, h4⟩)⟩)⟩
theorem exec_ok (h : Conc c st ρ a w) {ao : AOp} {st' : St} (hc : chkM P o ao = true) (hlt : ∀ d, o.dst = some d → d < a.tmps.size) (he : exec o.dst ao st = some st') : StepOK P c o st' (wrs st ao) ρ a w := by
  have hpure : ∀ (ao : AOp), chk P o ao = true → (match o.dst, pv st.src ao with | some d, some r => some (st.put d r) | _, _ => none) = some st' → StepOK P c o st' [] ρ a w := by
    intro ao hc he
    split at he <;> try (cases he; done)
    rename_i d r hd hp
    injection he with he; subst he
    exact pure_ok h hc hd (hlt d hd) hp []
  cases ao with
  | load n g x =>
    cases hd : o.dst with
    | none => rw [hd] at he; simp [exec] at he
    | some d => rw [hd] at he; exact loadStep_ok h hc hd (hlt d hd) he _
  | store n x v =>
    cases hd : o.dst with
    | none => rw [hd] at he; exact store_ok h hc hd he
    | some d => rw [hd] at he; simp [exec] at he
  | alloc id ty zero =>
    cases hd : o.dst with
    | none => rw [hd] at he; simp [exec] at he
    | some d => rw [hd] at he; exact alloc_ok h hc hd (hlt d hd) he
  | box id ty n x =>
    cases hd : o.dst with
    | none => rw [hd] at he; simp [exec] at he
    | some d => rw [hd] at he; exact box_ok h hc hd (hlt d hd) he
  | bslice id ty sz xs =>
    cases hd : o.dst with
    | none => rw [hd] at he; simp [exec] at he
    | some d => rw [hd] at he; exact bslice_ok h hc hd (hlt d hd) he
  | mkslice id ty sz bytes zero n =>
    cases hd : o.dst with
    | none => rw [hd] at he; simp [exec] at he
    | some d => rw [hd] at he; exact mkslice_ok h hc hd (hlt d hd) he
  | mkrow id ty sz bytes zero n =>
    cases hd : o.dst with
    | none => rw [hd] at he; simp [exec] at he
    | some d => rw [hd] at he; exact mkrow_ok h hc hd (hlt d hd) he
  | append id ty sz bytes x y =>
    cases hd : o.dst with
    | none => rw [hd] at he; simp [exec] at he
    | some d => rw [hd] at he; exact append_ok h hc hd (hlt d hd) he
  | call f xs => simp [exec, pv] at he
  | callv f xs => simp [exec, pv] at he
  | ext t ns xs => simp [exec, pv] at he
  | mov x => exact hpure (.mov x) hc he
  | nilck x => exact hpure (.nilck x) hc he
  | pick a b c => exact hpure (.pick a b c) hc he
  | not x => exact hpure (.not x) hc he
  | iop op x y => exact hpure (.iop op x y) hc he
  | conv k x => exact hpure (.conv k x) hc he
  | beq neg x y => exact hpure (.beq neg x y) hc he
  | seql neg n x y => exact hpure (.seql neg n x y) hc he
  | faddr j x => exact hpure (.faddr j x) hc he
  | iaddr sz x i => exact hpure (.iaddr sz x i) hc he
  | field off n g x => exact hpure (.field off n g x) hc he
  | build zero parts => exact hpure (.build zero parts) hc he
  | extract i x => exact hpure (.extract i x) hc he
  | len x => exact hpure (.len x) hc he
  | slen x => exact hpure (.slen x) hc he
  | slice sz x lo hi => exact hpure (.slice sz x lo hi) hc he
  | sslice x lo hi => exact hpure (.sslice x lo hi) hc he
  | sidx x i => exact hpure (.sidx x i) hc he
  | mkfn f caps => exact hpure (.mkfn f caps) hc he
  | minmax mx x y => exact hpure (.minmax mx x y) hc he
end
def St.le (s t : St) : Prop := ∀ c ρ a w, c.A = c.B → Conc c s ρ a w → ∃ ρ', Conc c t ρ' a w ∧ ∀ b k o, ρ' b = some (k, o) → ρ b = some (k, o)
theorem St.le_refl (s : St) : s.le s := fun _ ρ _ _ _ h => ⟨ρ, h, fun _ _ _ h => h⟩
theorem St.le_trans {s t u : St} (h : s.le t) (k : t.le u) : s.le u := fun c ρ a w hs hc => by
  obtain ⟨ρ1, h1, g1⟩ := h c ρ a w hs hc
  obtain ⟨ρ2, h2, g2⟩ := k c ρ1 a w hs h1
  exact ⟨ρ2, h2, fun b q o hb => g1 _ _ _ (g2 _ _ _ hb)⟩
def keepS {α : Type} (ds : List Nat) (l : List (Nat × α)) : List (Nat × α) := l.filter fun p => ds.contains p.1
theorem look_keep {α : Type} (ds : List Nat) : ∀ (l : List (Nat × α)) (d : Nat), look (keepS ds l) d = if ds.contains d then look l d else none
  | [], d => by simp [keepS, look]
  | (k, v) :: r, d => by
    have ih := look_keep ds r d
    simp only [keepS] at ih ⊢
    by_cases hk : ds.contains k = true
    · rw [List.filter_cons_of_pos (by simpa using hk)]
      simp only [look]
      by_cases e : k = d
      · subst e; rw [if_pos rfl, if_pos rfl, if_pos hk]
      · simp only [e, if_false]; exact ih
    · rw [List.filter_cons_of_neg (by simpa using hk)]
      rw [ih]
      by_cases e : k = d
      · subst e; rw [if_neg hk, if_neg hk]
      · simp only [look, e, if_false]
theorem le_keep (st : St) (ds : List Nat) : st.le { st with slots := keepS ds st.slots } := fun c ρ a w _ h =>
  ⟨ρ, h.less _ (fun d x hx => by rw [look_keep] at hx; split at hx; exact hx; cases hx), fun _ _ _ h => h⟩
theorem le_slots {st : St} {s : Slots} (hs : ∀ d x, look s d = some x → look st.slots d = some x) : st.le { st with slots := s } := fun _ ρ _ _ _ h => ⟨ρ, h.less s hs, fun _ _ _ h => h⟩
theorem le_kill (st : St) (b : Nat) (hf : st.fixed.contains b = false) : st.le (st.kill b) := fun c ρ a w _ h =>
  ⟨_, h.kill b hf, fun b' k o hb => by
    replace hb : (if b' = b then none else ρ b') = some (k, o) := hb
    split at hb
    · cases hb
    · exact hb⟩
mutual
def frz (b sz : Nat) (es : List (List AV)) : AV → AV
  | .agg cs => .agg (frzL b sz es cs)
  | .tup cs => .tup (frzL b sz es cs)
  | .fn f cs => .fn f (frzL b sz es cs)
  | .own b' s lo n => if b' = b then (if s = sz ∧ 0 < sz ∧ lo + n ≤ es.length then .ro sz ((es.drop lo).take n) else .dead) else .own b' s lo n
  | .ownc b' s lo n cap => if b' = b then .dead else .ownc b' s lo n cap
  | .ptr b' s i j => if b' = b then .dead else .ptr b' s i j
  | .mapr b' => if b' = b then .dead else .mapr b'
  | x => x
def frzL (b sz : Nat) (es : List (List AV)) : List AV → List AV
  | [] => []
  | x :: r => frz b sz es x :: frzL b sz es r
end
theorem frzL_get {b sz : Nat} {es : List (List AV)} : ∀ {cs : List AV} (i : Nat), (frzL b sz es cs)[i]? = (cs[i]?).map (frz b sz es)
  | [], i => by simp [frzL]
  | y :: r, 0 => by simp [frzL]
  | y :: r, i + 1 => by simpa [frzL] using frzL_get (cs := r) i
theorem frzL_length {b sz : Nat} {es : List (List AV)} : ∀ (cs : List AV), (frzL b sz es cs).length = cs.length
  | [] => rfl
  | _ :: r => by simp [frzL, frzL_length r]
mutual
theorem refs_frz (b sz : Nat) (es : List (List AV)) : ∀ x, refsIn (fun k => k ≠ b) (frz b sz es x)
  | .agg cs => by simp only [frz, refsIn]; exact refs_frzL b sz es cs
  | .tup cs => by simp only [frz, refsIn]; exact refs_frzL b sz es cs
  | .fn f cs => by simp only [frz, refsIn]; exact refs_frzL b sz es cs
  | .own b' s lo n => by
    simp only [frz]; split
    · split <;> trivial
    · simpa [refsIn]
  | .ownc b' s lo n cap => by simp only [frz]; split; trivial; simpa [refsIn]
  | .ptr b' s i j => by simp only [frz]; split; trivial; simpa [refsIn]
  | .mapr b' => by simp only [frz]; split; trivial; simpa [refsIn]
  | .lit _ => trivial
  | .nils _ => trivial
  | .ro _ _ => trivial
  | .rop _ _ _ _ => trivial
  | .dead => trivial
theorem refs_frzL (b sz : Nat) (es : List (List AV)) : ∀ cs, refsInL (fun k => k ≠ b) (frzL b sz es cs)
  | [] => trivial
  | x :: r => ⟨refs_frz b sz es x, refs_frzL b sz es r⟩
end
theorem TRel.frz {w : World} {Own : Nat → Prop} {x : AV} {v : Value} (b sz : Nat) (es : List (List AV)) (h : TRel w Own x v) : TRel w Own (frz b sz es x) v := by
  induction h with
  | lit h => simpa [SX.frz] using .lit h
  | nils => simpa [SX.frz] using .nils
  | ronil => simpa [SX.frz] using .ronil
  | ro val hc hs hlen hblk hne hcell hone hrel _ => simpa [SX.frz] using .ro val hc hs hlen hblk hne hcell hone hrel
  | agg hl _ ih => simp only [SX.frz]; exact .agg (by rw [frzL_length]; exact hl) (fun i x hx => by rw [frzL_get] at hx; obtain ⟨y, hy, rfl⟩ := Option.map_eq_some_iff.1 hx; exact ih i y hy)
  | tup hl _ ih => simp only [SX.frz]; exact .tup (by rw [frzL_length]; exact hl) (fun i x hx => by rw [frzL_get] at hx; obtain ⟨y, hy, rfl⟩ := Option.map_eq_some_iff.1 hx; exact ih i y hy)
  | fn hl _ ih => simp only [SX.frz]; exact .fn (by rw [frzL_length]; exact hl) (fun i x hx => by rw [frzL_get] at hx; obtain ⟨y, hy, rfl⟩ := Option.map_eq_some_iff.1 hx; exact ih i y hy)
def frzB (b sz : Nat) (es : List (List AV)) : Blk → Blk
  | .arr ty s e => .arr ty s e
  | .obj ty cs => .obj ty (frzL b sz es cs)
  | .map es => .map es
def St.freeze (st : St) (b : Nat) : St :=
  match look st.mem b with
  | some (.arr _ sz es) => ⟨st.slots.map fun p => (p.1, frz b sz es p.2), (SX.drop st.mem b).map fun p => (p.1, frzB b sz es p.2), st.fixed⟩
  | _ => st
theorem le_freeze (st : St) (b : Nat) (hf : st.fixed.contains b = false) : st.le (st.freeze b) := by
  intro c ρ a w hstd h
  unfold St.freeze
  split
  case h_2 => exact ⟨ρ, h, fun _ _ _ h => h⟩
  rename_i ty sz es hm
  have hk : KeepsV w w (OwnBy c.A ρ) (OwnBy c.A (fun x => if x = b then none else ρ x)) ρ (fun x => if x = b then none else ρ x) (fun k => k ≠ b) := {
    size := Nat.le_refl _
    same := fun _ _ _ => rfl
    own := fun k _ hk => by
      rcases hk with hk | ⟨b', o', hk⟩
      · exact .inl hk
      · replace hk : (if b' = b then none else ρ b') = some (k, o') := hk
        split at hk
        · cases hk
        · exact .inr ⟨b', o', hk⟩
    map := fun b' hb' k o' hρ => by simp only [hb', if_false]; exact hρ
    rows := fun k cur ty fr _ hh => ⟨cur, ty, fr, hh, rfl⟩
    lt := h.lt }
  have hB := h.mem b _ hm
  -- a value in the new state
  have hval : ∀ x v, VRel w (OwnBy c.A ρ) ρ x v → VRel w (OwnBy c.A (fun x => if x = b then none else ρ x)) (fun x => if x = b then none else ρ x) (frz b sz es x) v := by
    intro x v hx
    induction hx with
    | tree h => exact .tree ((h.frz b sz es).keep hk.toKeeps)
    | agg hl _ ih => simp only [SX.frz]; exact .agg (by rw [frzL_length]; exact hl) (fun i x hx => by rw [frzL_get] at hx; obtain ⟨y, hy, rfl⟩ := Option.map_eq_some_iff.1 hx; exact ih i y hy)
    | tup hl _ ih => simp only [SX.frz]; exact .tup (by rw [frzL_length]; exact hl) (fun i x hx => by rw [frzL_get] at hx; obtain ⟨y, hy, rfl⟩ := Option.map_eq_some_iff.1 hx; exact ih i y hy)
    | fn hl _ ih => simp only [SX.frz]; exact .fn (by rw [frzL_length]; exact hl) (fun i x hx => by rw [frzL_get] at hx; obtain ⟨y, hy, rfl⟩ := Option.map_eq_some_iff.1 hx; exact ih i y hy)
    | rop val hs hlen hblk hi hj hcell hone hrel =>
      have := VRel.keep hk (.rop val hs hlen hblk hi hj hcell hone hrel) trivial
      simpa [SX.frz] using this
    | @ownnil b' s =>
      simp only [SX.frz]
      split
      · split
        · simp only [List.take_zero]; exact .tree .ronil
        · exact .dead
      · exact .ownnil
    | @ownz b' s lo o' ad hρ =>
      simp only [SX.frz]
      split
      · split
        · simp only [List.take_zero]; exact .tree .ronil
        · exact .dead
      · rename_i hne
        exact .ownz (by simp only [hne, if_false]; exact hρ)
    | @own b' s lo n k o' cap hρ hn hroom =>
      simp only [SX.frz]
      split
      · rename_i e; subst e
        split
        · rename_i hc
          obtain ⟨rfl, hs0, hle⟩ := hc
          simp only [BRel, hρ] at hB
          obtain ⟨cur, hh, hlen, hsz, hcell⟩ := hB
          have hlen2 : ((es.drop lo).take n).length = n := by simp; omega
          by_cases hne : (es.drop lo).take n = []
          · rw [hne]
            have : n = 0 := by rw [← hlen2, hne]; rfl
            subst this
            exact .tree .ronil
          · · have := TRel.row (w := w) (Own := OwnBy c.A (fun x => if x = b' then none else ρ x)) (sz := s) (c := cap) (es := (es.drop lo).take n) (ad := ⟨k, o' + lo * s, none⟩)
                ⟨hs0, fun e he => hlen e (List.mem_of_mem_drop (List.mem_of_mem_take he)), fun hO => by
                  rcases hO with hO | ⟨b2, o2, hO⟩
                  · exact h.far _ _ _ hρ (hstd ▸ hO)
                  · replace hO : (if b2 = b' then none else ρ b2) = some (k, o2) := hO
                    split at hO
                    · cases hO
                    · rename_i hne2; exact hne2 (h.inj _ _ _ _ _ hO hρ), fun i j x hx => by
                  have hx' : cellAt es (lo + i) j = some x := by
                    simp only [cellAt] at hx ⊢
                    obtain ⟨e, he, hj⟩ := Option.bind_eq_some_iff.1 hx
                    have hin : i < n := by
                      rcases Nat.lt_or_ge i n with h1 | h1
                      · exact h1
                      · rw [List.getElem?_eq_none (by omega)] at he; cases he
                    rw [List.getElem?_take_of_lt hin, List.getElem?_drop] at he
                    rw [he]; exact hj
                  obtain ⟨u, hu, h1, ht⟩ := hcell _ _ _ hx'
                  refine ⟨u, ?_, h1, ht.keep hk.toKeeps⟩
                  rw [add_none]
                  simp only [World.cell?, hh]
                  rw [if_neg (by simp), ← hu]
                  congr 1; rw [Nat.add_mul]; omega⟩ (by omega)
              rw [hlen2] at this
              exact .tree this
        · exact .dead
      · rename_i hne
        exact .own (by simp only [hne, if_false]; exact hρ) hn hroom
    | @ownc b' s lo n k o' cap hρ hn hroom =>
      simp only [SX.frz]
      split
      · exact .dead
      · rename_i hne
        exact .ownc (by simp only [hne, if_false]; exact hρ) hn hroom
    | @mapr b' k hρ =>
      simp only [SX.frz]
      split
      · exact .dead
      · rename_i hne
        exact .mapr (by simp only [hne, if_false]; exact hρ)
    | @ptr b' s i j k o' hρ =>
      simp only [SX.frz]
      split
      · exact .dead
      · rename_i hne
        exact .ptr (by simp only [hne, if_false]; exact hρ)
    | dead => simpa [SX.frz] using .dead
  have hm2 : ∀ b' blk', look ((SX.drop st.mem b).map fun p => (p.1, frzB b sz es p.2)) b' = some blk' → b' ≠ b ∧ ∃ blk, look st.mem b' = some blk ∧ blk' = frzB b sz es blk := by
    intro b' blk' hl
    simp only [look_mapv, look_drop] at hl
    split at hl
    · simp at hl
    · rename_i hne
      obtain ⟨blk, h1, h2⟩ := Option.map_eq_some_iff.1 hl
      exact ⟨hne, blk, h1, h2.symm⟩
  refine ⟨fun x => if x = b then none else ρ x, { slots := ?_, defers := h.defers, mem := ?_, dom := ?_, lt := ?_, inj := ?_, mine := ?_, far := ?_, fix := fun b' hb' => by rw [if_neg (by rintro rfl; simp at hf; exact hf hb')]; exact h.fix b' hb', alt := h.alt, os := h.os, tape := h.tape, output := h.output, size := h.size, frame := h.frame, rows := h.rows }, fun b' k o hb => by
    replace hb : (if b' = b then none else ρ b') = some (k, o) := hb
    split at hb
    · cases hb
    · exact hb⟩
  · intro d x hx
    simp only [look_mapv] at hx
    obtain ⟨y, hy, rfl⟩ := Option.map_eq_some_iff.1 hx
    exact hval _ _ (h.slots d y hy)
  · intro b' blk' hl
    obtain ⟨hne, blk, hl', rfl⟩ := hm2 b' blk' hl
    have hB := h.mem b' blk hl'
    cases blk with
    | arr ty sz es => exact hB.keep hk (by simp [hne]) (fun _ _ _ => rfl) (fun _ _ h => by cases h)
    | map es => exact hB.keep hk (by simp [hne]) (fun _ _ _ => rfl) (fun _ _ h => by cases h)
    | obj ty cs =>
      obtain ⟨k, cur, h0, h1, h2, h3⟩ := hB
      refine ⟨k, cur, by simp only [hne, if_false]; exact h0, h1, by rw [frzL_length]; exact h2, fun j x hx => ?_⟩
      rw [frzL_get] at hx
      obtain ⟨y, hy, rfl⟩ := Option.map_eq_some_iff.1 hx
      obtain ⟨v, hv, h1v, ht⟩ := h3 j y hy
      exact ⟨v, hv, h1v, hval _ _ ht⟩
  · intro b' k o' hρ
    split at hρ
    · cases hρ
    · rename_i hne
      obtain ⟨blk, hl⟩ := h.dom b' k o' hρ
      exact ⟨frzB b sz es blk, by simp [look_mapv, look_drop, hne, hl]⟩
  · intro b' k o' hρ
    split at hρ
    · cases hρ
    · exact h.lt _ _ _ hρ
  · intro b1 b2 k o1 o2 h1 h2
    split at h1 <;> split at h2 <;> first | (cases h1; done) | (cases h2; done) | exact h.inj _ _ _ _ _ h1 h2
  · intro b' k o' hρ
    split at hρ
    · cases hρ
    · exact h.mine _ _ _ hρ
  · intro b' k o' hρ
    split at hρ
    · cases hρ
    · exact h.far _ _ _ hρ
theorem look_mem {α : Type} : ∀ {l : List (Nat × α)} {d : Nat} {x : α}, look l d = some x → (d, x) ∈ l
  | [], _, _, h => by simp [look] at h
  | (k, v) :: r, d, x, h => by
    simp only [look] at h
    split at h
    · rename_i e; subst e; injection h with h; subst h; exact List.mem_cons_self
    · exact List.mem_cons_of_mem _ (look_mem h)
def Blk.refs (S : Nat → Prop) : Blk → Prop
  | .arr .. => True
  | .obj _ cs => refsInL S cs
  | .map _ => True
theorem Conc.sub {c : Ctx} {ρ : Map} {a : Act} {w : World} {st st' : St} (h : Conc c st ρ a w) (h1 : ∀ p ∈ st'.slots, look st.slots p.1 = some p.2) (h2 : ∀ p ∈ st'.mem, look st.mem p.1 = some p.2) (h3 : ∀ p ∈ st'.slots, refsIn (fun b => (look st'.mem b).isSome) p.2) (h4 : ∀ p ∈ st'.mem, p.2.refs (fun b => (look st'.mem b).isSome))
    (h5 : st'.fixed = st.fixed) (h6 : ∀ b ∈ st.fixed, (look st'.mem b).isSome) : Conc c st' (fun x => if (look st'.mem x).isSome then ρ x else none) a w := by
  have hk : KeepsV w w (OwnBy c.A ρ) (OwnBy c.A (fun x => if (look st'.mem x).isSome then ρ x else none)) ρ (fun x => if (look st'.mem x).isSome then ρ x else none) (fun b => (look st'.mem b).isSome) := {
    size := Nat.le_refl _
    same := fun _ _ _ => rfl
    own := fun k _ hk => by
      rcases hk with hk | ⟨b', o', hk⟩
      · exact .inl hk
      · replace hk : (if (look st'.mem b').isSome then ρ b' else none) = some (k, o') := hk
        split at hk
        · exact .inr ⟨b', o', hk⟩
        · cases hk
    map := fun b' hb' k o' hρ => by simp only [hb', if_true]; exact hρ
    rows := fun k cur ty fr _ hh => ⟨cur, ty, fr, hh, rfl⟩
    lt := h.lt }
  refine { slots := ?_, defers := h.defers, mem := ?_, dom := ?_, lt := ?_, inj := ?_, mine := ?_, far := ?_, fix := ?_, alt := h.alt, os := h.os, tape := h.tape, output := h.output, size := h.size, frame := h.frame, rows := h.rows }
  · intro d x hx
    have hm := look_mem hx
    exact (h.slots d x (h1 _ hm)).keep hk (h3 _ hm)
  · intro b blk hl
    have hm := look_mem hl
    refine (h.mem b blk (h2 _ hm)).keep hk (by simp [hl]) (fun _ _ _ => rfl) (fun ty cs e => ?_)
    have := h4 _ hm
    subst e
    exact this
  · intro b k o hb
    split at hb
    · rename_i hs; exact Option.isSome_iff_exists.1 hs
    · cases hb
  · intro b k o hb
    split at hb
    · exact h.lt _ _ _ hb
    · cases hb
  · intro b1 b2 k o1 o2 h1 h2
    split at h1 <;> split at h2 <;> first | (cases h1; done) | (cases h2; done) | exact h.inj _ _ _ _ _ h1 h2
  · intro b k o hb
    split at hb
    · exact h.mine _ _ _ hb
    · cases hb
  · intro b k o hb
    split at hb
    · exact h.far _ _ _ hb
    · cases hb
  · intro b hb
    rw [h5] at hb
    rw [if_pos (h6 b hb)]
    exact h.fix b hb
theorem le_sub {st st' : St} (h1 : ∀ p ∈ st'.slots, look st.slots p.1 = some p.2) (h2 : ∀ p ∈ st'.mem, look st.mem p.1 = some p.2) (h3 : ∀ p ∈ st'.slots, refsIn (fun b => (look st'.mem b).isSome) p.2) (h4 : ∀ p ∈ st'.mem, p.2.refs (fun b => (look st'.mem b).isSome))
    (h5 : st'.fixed = st.fixed) (h6 : ∀ b ∈ st.fixed, (look st'.mem b).isSome) : st.le st' := fun _ _ _ _ _ h =>
  ⟨_, h.sub h1 h2 h3 h4 h5 h6, fun b k o hb => by
    split at hb
    · exact hb
    · cases hb⟩
theorem le_trunc {st : St} {b ty sz k : Nat} {es : List (List AV)} (hb : look st.mem b = some (.arr ty sz es)) : st.le { st with mem := upd st.mem b (.arr ty sz (es.take k)) } := by
  intro c ρ a w _ h
  refine ⟨ρ, { slots := h.slots, defers := h.defers, mem := ?_, dom := ?_, lt := h.lt, inj := h.inj, mine := h.mine, far := h.far, fix := h.fix, alt := h.alt, os := h.os, tape := h.tape, output := h.output, size := h.size, frame := h.frame, rows := h.rows }, fun _ _ _ h => h⟩
  · intro b' blk hl
    simp only [look_upd] at hl
    split at hl
    · rename_i e; subst e
      injection hl with hl; subst hl
      have hB := h.mem _ _ hb
      simp only [BRel] at hB ⊢
      split
      · rename_i e; rw [e] at hB; simp at hB; simp [hB]
      · rename_i q o e
        rw [e] at hB
        obtain ⟨cur, g1, g2, g3, g4⟩ := hB
        refine ⟨cur, g1, fun e he => g2 e (List.mem_of_mem_take he), ?_, fun i j x hx => g4 i j x ?_⟩
        · have : (es.take k).length * sz ≤ es.length * sz := Nat.mul_le_mul_right _ (by simp; omega)
          omega
        · obtain ⟨e, he, hj⟩ := Option.bind_eq_some_iff.1 hx
          have hik : i < k := by
            rcases Nat.lt_or_ge i k with h' | h'
            · exact h'
            · rw [List.getElem?_eq_none (by simp; omega)] at he; cases he
          rw [List.getElem?_take_of_lt hik] at he
          simp [cellAt, he, hj]
    · exact h.mem _ _ hl
  · intro b' q o hρ
    simp only [look_upd]
    split
    · exact ⟨_, rfl⟩
    · exact h.dom _ _ _ hρ
theorem le_virt {st : St} {b : Nat} (ty sz : Nat) (hb : look st.mem b = none) (hf : st.fixed.contains b = false) : st.le { st with mem := upd st.mem b (.arr ty sz []) } := by
  intro c ρ a w _ h
  have hρ : ρ b = none := by
    cases e : ρ b with
    | none => rfl
    | some p => obtain ⟨k, o⟩ := p; obtain ⟨blk, hl⟩ := h.dom b k o e; rw [hb] at hl; cases hl
  exact ⟨ρ, h.virt hρ ty sz, fun _ _ _ h => h⟩
theorem le_tell {st st' : St} (hs : ∀ d x, look st'.slots d = some x → ∃ y, look st.slots d = some y ∧ (y = x ∨ ∃ sz b, y = .nils sz ∧ x = .own b sz 0 0)) (hm : ∀ b, look st'.mem b = look st.mem b ∨ ∃ ty cs cs', look st.mem b = some (.obj ty cs) ∧ look st'.mem b = some (.obj ty cs') ∧ cs'.length = cs.length ∧
    ∀ (j : Nat) x, cs'[j]? = some x → ∃ y, cs[j]? = some y ∧ (y = x ∨ ∃ sz b, y = .nils sz ∧ x = .own b sz 0 0)) (hf : st'.fixed = st.fixed) : st.le st' := by
  intro c ρ a w _ h
  have hv : ∀ x y v, VRel w (OwnBy c.A ρ) ρ y v → (y = x ∨ ∃ sz b, y = .nils sz ∧ x = .own b sz 0 0) → VRel w (OwnBy c.A ρ) ρ x v := by
    rintro x y v hy (rfl | ⟨sz, b, rfl, rfl⟩)
    · exact hy
    · cases hy with
      | tree h => cases h; exact .ownnil
  refine ⟨ρ, { slots := ?_, defers := h.defers, mem := ?_, dom := ?_, lt := h.lt, inj := h.inj, mine := h.mine, far := h.far, fix := fun b hb => h.fix b (hf ▸ hb), alt := h.alt, os := h.os, tape := h.tape, output := h.output, size := h.size, frame := h.frame, rows := h.rows }, fun _ _ _ h => h⟩
  · intro d x hx
    obtain ⟨y, hy, he⟩ := hs d x hx
    exact hv _ _ _ (h.slots d y hy) he
  · intro b blk hl
    rcases hm b with he | ⟨ty, cs, cs', h1, h2, h3, h4⟩
    · exact h.mem b blk (he ▸ hl)
    · rw [h2] at hl; injection hl with hl; subst hl
      obtain ⟨k, cur, g0, g1, g2, g3⟩ := h.mem b _ h1
      refine ⟨k, cur, g0, g1, g2.trans h3.symm, fun j x hx => ?_⟩
      obtain ⟨y, hy, he⟩ := h4 j x hx
      obtain ⟨v, hv1, hv2, hv3⟩ := g3 j y hy
      exact ⟨v, hv1, hv2, hv _ _ _ hv3 he⟩
  · intro b k o hb
    obtain ⟨blk, hl⟩ := h.dom b k o hb
    rcases hm b with he | ⟨ty, cs, cs', h1, h2, _⟩
    · exact ⟨blk, he.trans hl⟩
    · exact ⟨_, h2⟩
end Go.SX
