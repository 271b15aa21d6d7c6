/- SX, part G: regions, in the text's order or in any; code. -/
import Derived.Test.YtifpfpiljionmaaDoorSxF
import Derived.Scope
import Derived.OrdersIn
set_option linter.unusedVariables false
set_option linter.unusedSimpArgs false
namespace Go.SX
open Go

structure It where
  d : Option Nat
  g : Option (Nat × Bool)
  ao : AOp

inductive Plan where
  | done
  | take (i : Nat) (it : It) (p : Plan)
  | alt (i : Nat) (it : It) (p q : Plan)

inductive AC where
  | skip
  | seq (x y : AC)
  | cond (s : Src) (x y : AC)
  | block (id : Nat) (x : AC)
  | loop (x : AC)
  | exit (id : Nat)
  | ret
  | label
  | scope (x : AC)
  | rangef (g : Src) (ps : List Nat) (x y : AC)
  | reg (its : List It) (keep : List Nat)
  | draw (X : List Nat) (plan : Plan) (keep : List Nat)

/-- Is it a call of this builtin, with these operands? -/
def isB (b : Builtin) (o : Oper) (xs : List Src) : Bool := match o.op with
  | .call c => (match c.callee with | .builtin b' => b' == b | _ => false) && okL c.args.toList xs
  | _ => false
def argT (o : Oper) (i : Nat) : Option TypeId := match o.op with
  | .call c => c.argTypes[i]?
  | _ => none
def isSliceOf (P : Program) (t : Option TypeId) (ty : TypeId) : Bool := match t with
  | some t => (match P.underlying t with | some (.slice e) => e == ty | _ => false)
  | none => false
def sized (P : Program) (ty : TypeId) (sz bytes : Nat) (zero : Bool) : Bool := match P.info? ty with
  | some i => i.size == sz && i.bytes == bytes && sz != 0 && bytes != 0 && (!zero || match i.zero with | some z => z.cells.size == sz && z.cells.toList.all one | none => false)
  | none => false

/-- Operations that are told by rules of their own (part O): 0: cap · 1: copy · 2: clear · 3: append of zeros · 4: append in place · 5: a slice with a maximum · 6: is a slice nil? · 7: do slices overlap? -/
def chkExt (P : Program) (o : Oper) (t : Nat) (ns : List Nat) (xs : List Src) : Bool := match t, ns with
  | 0, [] => isB .cap o xs && (match argT o 0 with | some t => (match P.underlying t with | some (.slice _) => true | _ => false) | none => false)
  | 1, [ty, sz, bytes] => isB .copy o xs && isSliceOf P (argT o 0) ty && sized P ty sz bytes false
  | 2, [ty, sz, bytes] => isB .clear o xs && isSliceOf P (argT o 0) ty && sized P ty sz bytes true
  | 3, [ty, sz, bytes] => isB .append o xs && isSliceOf P (argT o 0) ty && sized P ty sz bytes true && (match argT o 1 with | some t => (match P.underlying t with | some (.int _) => true | _ => false) | none => false)
  | 4, [ty, sz, bytes] => isB .append o xs && isSliceOf P (argT o 0) ty && sized P ty sz bytes true && isSliceOf P (argT o 1) ty
  | 5, [] => (match o.op, xs with | .slice t y (some l) (some h) (some m), [a, b, c, d] => (match P.underlying t with | some (.slice e) => (P.info? e).isSome | _ => false) && srcOK y a && srcOK l b && srcOK h c && srcOK m d | _, _ => false)
  | 6, [] => (match o.op, xs with | .binOp .eql t y (.const (.slice none 0 0)) _, [a] => (match P.underlying t with | some (.slice _) => true | _ => false) && srcOK y a | _, _ => false)
  | 7, [f] => (match o.op with | .call c => (match c.callee with | .value (.func f') => f == f' | _ => false) && okL c.args.toList xs | _ => false)
  | 8, [t] => (match o.op, xs with | .binOp .eql t' y z _, [a, b] => t' == t && srcOK y a && srcOK z b | _, _ => false)
  | _, _ => false

def chkOp (P : Program) (o : Oper) : AOp → Bool
  | .ext t ns xs => chkExt P o t ns xs
  | .callv fs xs => chkCall o fs xs
  | .call _ _ => false
  | ao => chkM P o ao

def chkIt (P : Program) (nt : Nat) (ops : Array Oper) (o : Oper) (it : It) : Bool :=
  o.dst == it.d && (match it.d with | some d => decide (d < nt) | none => true) &&
  (match o.guard, it.g with
    | none, none => true
    | some (j, want), some (s, want') => want == want' && decide (s < nt) && (match ops[j]? with | some oj => oj.dst == some s | none => false)
    | _, _ => false) && chkOp P o it.ao

def chkIts (P : Program) (nt : Nat) (ops : Array Oper) : List Oper → List It → Bool
  | [], [] => true
  | o :: r, it :: q => chkIt P nt ops o it && chkIts P nt ops r q
  | _, _ => false

def Plan.depth : Plan → Nat
  | .done => 0
  | .take _ _ p => p.depth + 1
  | .alt _ _ p q => max (p.depth + 1) q.depth

def Plan.alts : Plan → List Nat
  | .alt i _ _ q => i :: q.alts
  | _ => []

def chkAt (P : Program) (nt : Nat) (ops : Array Oper) (i : Nat) (it : It) : Bool := match ops[i]? with
  | some o => chkIt P nt ops o it
  | none => false

/-- Is that a way to take all, whatever order is picked? -/
def chkPlan (P : Program) (nt : Nat) (ops : Array Oper) : Bool → Plan → Array Bool → Bool
  | _, .done, l => Region.ready .any ops l == []
  | _, .take i it p, l => chkAt P nt ops i it && Region.free .any ops l i && (Region.ready .any ops l).contains i && chkPlan P nt ops true p (l.setIfInBounds i true)
  | first, .alt i it p q, l => chkAt P nt ops i it && (!first || Region.ready .any ops l == i :: q.alts) && chkPlan P nt ops true p (l.setIfInBounds i true) && (match q with
    | .done => true
    | .alt i' it' p' q' => chkPlan P nt ops false (.alt i' it' p' q') l
    | _ => false)

def plainOps (ops : Array Oper) : Bool := ops.toList.all fun o => match o.op with | .defer _ => false | _ => true
def plainC : Code → Bool
  | .region _ ops _ => plainOps ops
  | .seq x y => plainC x && plainC y
  | .cond _ x y => plainC x && plainC y
  | .block _ x => plainC x
  | .loop x => plainC x
  | .skip | .exit _ | .ret | .label _ => true
  | _ => false

def chkC (P : Program) (nt : Nat) : Code → AC → Bool
  | .skip, .skip => true
  | .seq x y, .seq x' y' => chkC P nt x x' && chkC P nt y y'
  | .cond (.tmp t) x y, .cond (.s t') x' y' => t == t' && chkC P nt x x' && chkC P nt y y'
  | .block id x, .block id' x' => id == id' && chkC P nt x x'
  | .loop x, .loop x' => chkC P nt x x'
  | .exit id, .exit id' => id == id'
  | .ret, .ret => true
  | .label _, .label => true
  | .scope x, .scope x' => chkC P nt x x'
  | .rangeFunc g ps x y, .rangef g' ps' x' y' => srcOK g g' && ps.toList == ps' && ps'.all (fun p => decide (p < nt)) && plainC x && plainC y && chkC P nt x x' && chkC P nt y y'
  | .region _ ops false, .reg its _ => chkIts P nt ops ops.toList its
  | .region _ ops true, .draw _ p _ => Region.noSelect ops && P.follows .mixedOrders && chkPlan P nt ops true p (Array.replicate ops.size false) && decide (p.depth ≤ ops.size)
  | _, _ => false

section
variable {P : Program} {c : Ctx} {nt : Nat}

/-- A call, told by what it comes to wherever it is met. -/
def CallK (P : Program) (c : Ctx) (nt : Nat) (X : Nat → Prop) (fs : Src) (xs : List Src) (d : Option Nat) (st : St) (k : St → Prop) : Prop :=
  ∀ o ρ a w, Conc c st ρ a w → a.tmps.size = nt → chkCall o fs xs = true → o.dst = d → (∀ q, d = some q → q < a.tmps.size) → CallOK P c o k X ρ a w

/-- What comes of an operation that is told by a rule of its own. -/
def ExtOK (P : Program) (c : Ctx) (o : Oper) (k : St → Prop) (X : Nat → Prop) (ρ : Map) (a : Act) (w : World) : Prop :=
  ∃ st' r w' ρ' v, (execOp a.eval o).run P w = .ok r w' ∧ (r = .value v ∨ r = .skip ∧ v = undef) ∧ Conc c st' ρ' (a.put o.dst v) w' ∧ k st' ∧ w.heap.size ≤ w'.heap.size ∧
    (∀ q, q < w.heap.size → (∀ b o', X b → ρ b ≠ some (q, o')) → w'.heap[q]? = w.heap[q]?) ∧ (∀ b q o', ρ' b = some (q, o') → ρ b = some (q, o') ∨ (X b ∧ (w.heap.size ≤ q ∨ ∃ b0, X b0 ∧ ∃ o2, ρ b0 = some (q, o2))))

def ExtK (P : Program) (c : Ctx) (nt : Nat) (X : Nat → Prop) (t : Nat) (ns : List Nat) (xs : List Src) (d : Option Nat) (st : St) (k : St → Prop) : Prop :=
  ∀ o ρ a w, Conc c st ρ a w → a.tmps.size = nt → chkExt P o t ns xs = true → o.dst = d → (∀ q, d = some q → q < a.tmps.size) → ExtOK P c o k X ρ a w

def runA (P : Program) (c : Ctx) (nt : Nat) (X : Nat → Prop) (d : Option Nat) (ao : AOp) (st : St) (k : St → Prop) : Prop :=
  match ao with
  | .callv fs xs => CallK P c nt X fs xs d st k
  | .ext t ns xs => ExtK P c nt X t ns xs d st k
  | ao => ∃ st', exec d ao st = some st' ∧ (∀ b ∈ wrs st ao, X b) ∧ k st'

/-- What a guard says: a truth value, or nothing (what was skipped). -/
def gval (st : St) (s : Nat) : Option (Option Bool) := match look st.slots s with
  | some (.lit (.bool b)) => some (some b)
  | some (.tup []) => some none
  | _ => none

def runI (P : Program) (c : Ctx) (nt : Nat) (X : Nat → Prop) (it : It) (st : St) (k : St → Prop) : Prop :=
  match it.g with
  | none => runA P c nt X it.d it.ao st k
  | some (s, want) => ∃ b, gval st s = some b ∧ (b = some want → runA P c nt X it.d it.ao st k) ∧ (b ≠ some want → k (st.put? it.d (.tup [])))

def runL (P : Program) (c : Ctx) (nt : Nat) : List It → St → (St → Prop) → Prop
  | [], st, k => k st
  | it :: r, st, k => runI P c nt (fun _ => True) it st fun st' => runL P c nt r st' k

/-- Does it read what nobody writes? -/
def quiet (X : List Nat) (st : St) : AOp → Bool
  | .load _ _ x => match st.src x with
    | some (.ptr b _ _ _) => !X.contains b
    | some (.rop _ _ _ _) => true
    | _ => false
  | .store .. | .alloc .. | .box .. | .bslice .. | .mkslice .. | .mkrow .. | .append .. | .call .. | .callv .. | .ext .. => false
  | _ => true

def runQ (X : List Nat) (it : It) (st : St) (k : St → Prop) : Prop :=
  match it.g with
  | none => quiet X st it.ao = true ∧ ∃ st', exec it.d it.ao st = some st' ∧ k st'
  | some (s, want) => ∃ b, gval st s = some b ∧ (b = some want → quiet X st it.ao = true ∧ ∃ st', exec it.d it.ao st = some st' ∧ k st') ∧ (b ≠ some want → k (st.put? it.d (.tup [])))

def runP (P : Program) (c : Ctx) (nt : Nat) (X : List Nat) : Plan → St → (St → Prop) → Prop
  | .done, st, k => k st
  | .take _ it p, st, k => runQ X it st fun st' => runP P c nt X p st' k
  | .alt _ it p q, st, k => (runI P c nt (fun b => b ∈ X) it st fun st' => runP P c nt X p st' k) ∧ (match q with | .done => True | _ => runP P c nt X q st k)

def St.keep (st : St) (ds : List Nat) : St := { st with slots := keepS ds st.slots }

/-- How code may end. -/
def post (nt : Nat) (c : Ctx) (Q : Exit → St → Prop) : Exit → Act → World → Prop
  | .panic _, _, _ => False
  | .outgrown, _, _ => False
  | e, a, w => a.tmps.size = nt ∧ ∃ st ρ, Q e st ∧ Conc c st ρ a w

theorem put_size (a : Act) (d : Option Nat) (v : Value) : (a.put d v).tmps.size = a.tmps.size := by
  cases d <;> simp [Act.put]

/-- Everything is let in; a frame of such a round. -/
def fw (r : Option Nat) : Fence := { Fence.wide with round := r }
/-- In a round: code that defers nothing. -/
def rOK (r : Option Nat) (code : Code) : Bool := r.isNone || plainC code

/-- The judgement: code that is so told, begun in such a state, ends so. -/
def J (P : Program) (nt : Nat) (c : Ctx) (ac : AC) (st : St) (Q : Exit → St → Prop) : Prop :=
  ∀ code, chkC P nt code ac = true → ∀ r, rOK r code = true → ∀ ρ a w, Conc c st ρ a w → a.tmps.size = nt → code.wpIn (fw r) 0 P (post nt c Q) a w

/-- Inside a region: what holds when it is through. -/
def postR (nt : Nat) (c : Ctx) (k : St → Prop) : Exit → Act → World → Prop
  | .normal, a, w => a.tmps.size = nt ∧ ∃ st ρ, k st ∧ Conc c st ρ a w
  | _, _, _ => False

theorem undef_rel {w : World} {Own : Nat → Prop} {ρ : Map} : VRel w Own ρ (.tup []) undef := .tree (.tup rfl (fun i x hx => by simp at hx))

theorem chkIt_spec {ops : Array Oper} {o : Oper} {it : It} (h : chkIt P nt ops o it = true) : o.dst = it.d ∧ (∀ d, it.d = some d → d < nt) ∧ chkOp P o it.ao = true ∧
    ((o.guard = none ∧ it.g = none) ∨ ∃ j want s oj, o.guard = some (j, want) ∧ it.g = some (s, want) ∧ ops[j]? = some oj ∧ oj.dst = some s ∧ s < nt) := by
  unfold chkIt at h
  simp only [Bool.and_eq_true, beq_iff_eq] at h
  obtain ⟨⟨⟨h1, h2⟩, h3⟩, h4⟩ := h
  refine ⟨h1, fun d hd => by rw [hd] at h2; simpa using h2, h4, ?_⟩
  split at h3 <;> try (cases h3; done)
  · rename_i e1 e2; exact .inl ⟨e1, e2⟩
  · rename_i j want s want' e1 e2
    simp only [Bool.and_eq_true, beq_iff_eq, decide_eq_true_eq] at h3
    obtain ⟨⟨rfl, hsn⟩, h3⟩ := h3
    split at h3 <;> try (cases h3; done)
    rename_i oj hoj
    exact .inr ⟨j, want, s, oj, e1, e2, hoj, by simpa using h3, hsn⟩

/-- Is it wanted? -/
theorem wanted_of {ops : Array Oper} {o : Oper} {st : St} {ρ : Map} {a : Act} {w : World} (h : Conc c st ρ a w) (hs : a.tmps.size = nt) {j : Nat} {want : Bool} {s : Nat} {oj : Oper} {b : Option Bool} (hg : o.guard = some (j, want)) (hj : ops[j]? = some oj) (hd : oj.dst = some s)
    (hb : gval st s = some b) (hsl : s < nt) : Region.wanted o (yielded ops a.tmps) = (b == some want) := by
  have h3 : ∃ v, a.tmps[s]? = some v ∧ (match v with | .bool b => some b | _ => none) = b := by
    have hget : a.tmps[s]? = some (a.tmps.getD s undef) := by
      rw [Array.getD_eq_getD_getElem?, Array.getElem?_eq_getElem (by omega)]; rfl
    refine ⟨_, hget, ?_⟩
    unfold gval at hb
    split at hb
    · rename_i b' hl
      injection hb with hb; subst hb
      rw [(h.slots _ _ hl).lit_inv.1]
    · rename_i hl
      injection hb with hb; subst hb
      obtain ⟨vs, hv, _⟩ := (h.slots _ _ hl).tup_inv
      rw [hv]
    · cases hb
  obtain ⟨v, h4, h5⟩ := h3
  simp only [Region.wanted, hg, yielded, hj, hd, Option.bind_some, h4]
  rw [← h5]
  cases v <;> rfl

theorem chkIts_get {ops : Array Oper} : ∀ {l : List Oper} {its : List It}, chkIts P nt ops l its = true → l.length = its.length ∧ ∀ (i : Nat) (o : Oper), l[i]? = some o → ∃ it, its[i]? = some it ∧ chkIt P nt ops o it = true
  | [], [], _ => ⟨rfl, fun i o h => by simp at h⟩
  | o :: r, it :: q, h => by
    simp only [chkIts, Bool.and_eq_true] at h
    obtain ⟨hl, ih⟩ := chkIts_get h.2
    refine ⟨by simp [hl], fun i o' ho => ?_⟩
    cases i with
    | zero => simp at ho; subst ho; exact ⟨it, rfl, h.1⟩
    | succ i => obtain ⟨it', h1, h2⟩ := ih i o' (by simpa using ho); exact ⟨it', by simpa using h1, h2⟩
  | [], _ :: _, h => by simp [chkIts] at h
  | _ :: _, [], h => by simp [chkIts] at h

theorem chkAt_spec {ops : Array Oper} {i : Nat} {it : It} (h : chkAt P nt ops i it = true) : ∃ o, ops[i]? = some o ∧ chkIt P nt ops o it = true := by
  unfold chkAt at h
  split at h
  · exact ⟨_, by assumption, h⟩
  · cases h

/-- Begun here. -/
theorem Conc.rebase {st : St} {ρ : Map} {a : Act} {w : World} (h : Conc c st ρ a w) : Conc ⟨w, c.A, c.B, ρ, fun k => ∃ b o, ρ b = some (k, o), c.sub, h.tab, fun q hq ⟨b, o, hb⟩ => h.tabρ q hq b o hb, c.defs⟩ st ρ a w :=
  { slots := h.slots, defers := h.defers, mem := h.mem, dom := h.dom, lt := h.lt, inj := h.inj, mine := fun b k o hb => .inl ⟨b, o, hb⟩, far := h.far, fix := fun _ _ => rfl, alt := fun k hk => Nat.lt_of_lt_of_le (h.alt k hk) h.size, os := rfl, tape := rfl, output := rfl, size := Nat.le_refl _, frame := fun _ _ _ => rfl, rows := fun k cur ty fr _ hh => ⟨cur, ty, fr, hh, rfl⟩ }

/-- One step, forced. -/
theorem step_run {ops : Array Oper} {i : Nat} {it : It} (hch : chkAt P nt ops i it = true) {st : St} {ρ : Map} {a : Act} {w : World} (h : Conc c st ρ a w) (hs : a.tmps.size = nt) {X : Nat → Prop} {k : St → Prop}
    (hr : runI P c nt X it st k) {Q : Exit → Act → World → Prop} {next : Act → World → Prop}
    (hn : ∀ a' w' st' ρ', Conc c st' ρ' a' w' → a'.tmps.size = nt → k st' → w.heap.size ≤ w'.heap.size → (∀ q, q < w.heap.size → (∀ b o', X b → ρ b ≠ some (q, o')) → w'.heap[q]? = w.heap[q]?) →
      (∀ b q o', ρ' b = some (q, o') → ρ b = some (q, o') ∨ (X b ∧ (w.heap.size ≤ q ∨ ∃ b0, X b0 ∧ ∃ o2, ρ b0 = some (q, o2)))) → next a' w') : wpOp P ops Q i next a w := by
  obtain ⟨o, ho, hck⟩ := chkAt_spec hch
  obtain ⟨hd, hdl, hop, hg⟩ := chkIt_spec hck
  have hlt : ∀ d, o.dst = some d → d < a.tmps.size := fun d h1 => by rw [hs]; exact hdl d (by rw [← hd]; exact h1)
  unfold wpOp
  rw [ho]
  dsimp only
  have hdo : runA P c nt X it.d it.ao st k → o.wp P a w next Q := by
    intro hA
    unfold runA at hA
    split at hA
    · rename_i fs xs e
      rw [e] at hop
      obtain ⟨f, vs, hrun, hcalls⟩ := hA o ρ a w h hs hop hd (fun q hq => hlt q (by rw [hd]; exact hq))
      unfold Oper.wp
      rw [hrun]
      refine hcalls.mono ?_
      rintro e w' ⟨v, st', ρ', rfl, hk, hc', hf, hm, hsz⟩
      exact hn _ _ st' ρ' hc' (by rw [put_size]; exact hs) hk hsz hf hm
    · rename_i t ns xs e
      rw [e] at hop
      obtain ⟨st', r, w', ρ', v, hrun, hrv, hc', hk, hsz, hf, hm⟩ := hA o ρ a w h hs hop hd (fun q hq => hlt q (by rw [hd]; exact hq))
      have hnext : next (o.dst.elim a (fun d => a.put (some d) v)) w' := by
        have : (o.dst.elim a (fun d => a.put (some d) v)) = a.put o.dst v := by cases o.dst <;> rfl
        rw [this]
        exact hn _ _ st' ρ' hc' (by rw [put_size]; exact hs) hk hsz hf hm
      unfold Oper.wp
      rw [hrun]
      have e2 : (o.dst.elim a (fun d => a.put (some d) v)) = a.put o.dst v := by cases o.dst <;> rfl
      rw [e2] at hnext
      rcases hrv with rfl | ⟨rfl, rfl⟩
      · exact hnext
      · exact hnext
    · obtain ⟨st', he, hw, hk⟩ := hA
      have hc0 : chkM P o it.ao = true := by
        unfold chkOp at hop
        split at hop
        · rename_i t ns xs e
          exfalso
          simp_all
        · rename_i fs xs e
          exfalso
          simp_all
        · cases hop
        · exact hop
      obtain ⟨r, w', ρ', v, hrun, hrv, hc', hf, hm⟩ := exec_ok h hc0 hlt (by rw [hd]; exact he)
      have hnext : next (o.dst.elim a (fun d => a.put (some d) v)) w' := by
        have : (o.dst.elim a (fun d => a.put (some d) v)) = a.put o.dst v := by cases o.dst <;> rfl
        rw [this]
        refine hn _ _ st' ρ' hc' (by rw [put_size]; exact hs) hk ?_ (fun q hq hno => hf q hq (fun b o' hb => hno b o' (hw b hb))) (fun b q o' hb => (hm b q o' hb).imp id (fun ⟨h1, h2⟩ => ⟨hw b h1, h2.imp id (fun ⟨b0, h3, h4⟩ => ⟨b0, hw b0 h3, h4⟩)⟩))
        obtain ⟨r2, w2, ρ2, v2, hrun2, _, hc2, _⟩ := exec_ok h.rebase hc0 hlt (by rw [hd]; exact he)
        rw [hrun] at hrun2
        injection hrun2 with _ hw2
        rw [hw2]; exact hc2.size
      unfold Oper.wp
      rw [hrun]
      have e2 : (o.dst.elim a (fun d => a.put (some d) v)) = a.put o.dst v := by cases o.dst <;> rfl
      rw [e2] at hnext
      rcases hrv with rfl | ⟨rfl, rfl⟩
      · exact hnext
      · exact hnext
  unfold runI at hr
  rcases hg with ⟨hg1, hg2⟩ | ⟨j, want, s, oj, hg1, hg2, hj, hjd, hsn⟩
  · rw [hg2] at hr
    have : Region.wanted o (yielded ops a.tmps) = true := by simp [Region.wanted, hg1]
    rw [this, if_pos rfl]
    exact .inl (hdo hr)
  · rw [hg2] at hr
    obtain ⟨b, hb, hr1, hr2⟩ := hr
    rw [wanted_of h hs hg1 hj hjd hb hsn]
    by_cases e : b = some want
    · subst e
      simp only [beq_self_eq_true, if_true]
      exact .inl (hdo (hr1 rfl))
    · have : (b == some want) = false := by simpa using e
      rw [this]
      simp only [Bool.false_eq_true, if_false]
      rw [hd]
      exact hn _ _ _ _ (h.put? (fun q hq => by rw [hs]; exact hdl q hq) undef_rel) (by rw [put_size]; exact hs) (hr2 e) (Nat.le_refl _) (fun _ _ _ => rfl) (fun _ _ _ hb => .inl hb)


theorem Conc.draw {st : St} {ρ : Map} {a : Act} {w : World} (h : Conc c st ρ a w) : Conc c st ρ a { w with drawn := w.drawn + 1 } := h.world rfl rfl rfl rfl

theorem chkIts_at {ops : Array Oper} {its : List It} (hch : chkIts P nt ops ops.toList its = true) {i : Nat} {it : It} (hit : its[i]? = some it) : chkAt P nt ops i it = true := by
  have hlen := (chkIts_get hch).1
  have hio : i < its.length := by
    rcases Nat.lt_or_ge i its.length with h1 | h1
    · exact h1
    · rw [List.getElem?_eq_none h1] at hit; cases hit
  have hi' : i < ops.size := by rw [← Array.length_toList, hlen]; exact hio
  obtain ⟨it', hit', hck⟩ := (chkIts_get hch).2 i ops[i] (by simp [hi'])
  rw [hit] at hit'; injection hit' with hit'; subst hit'
  unfold chkAt
  rw [Array.getElem?_eq_getElem hi']
  exact hck

/-- In the text's order. -/
theorem run_list {ops : Array Oper} {its : List It} (hch : chkIts P nt ops ops.toList its = true) {k : St → Prop} : ∀ (n i : Nat) (st : St) (ρ : Map) (a : Act) (w : World), i + n = its.length → Conc c st ρ a w → a.tmps.size = nt → runL P c nt (its.drop i) st k → wpOps P ops (postR nt c k) (List.range' i n) a w
  | 0, i, st, ρ, a, w, hi, h, hs, hr => by
    rw [List.drop_eq_nil_of_le (by omega)] at hr
    exact ⟨hs, st, ρ, hr, h⟩
  | n + 1, i, st, ρ, a, w, hi, h, hs, hr => by
    rw [List.range'_succ, wpOps_cons]
    have hlt : i < its.length := by omega
    rw [List.drop_eq_getElem_cons hlt] at hr
    exact step_run (chkIts_at hch (List.getElem?_eq_getElem hlt)) h hs hr (fun a' w' st' ρ' hc' hs' hk _ _ _ => run_list hch n (i + 1) st' ρ' a' w' (by omega) hc' hs' hk)

theorem pv_isPure {X : List Nat} {st : St} {ao : AOp} (hq : quiet X st ao = true) : (∃ n g x, ao = .load n g x) ∨ ∀ d, exec d ao st = match d, pv st.src ao with | some d, some r => some (st.put d r) | _, _ => none := by
  cases ao <;> first | exact .inl ⟨_, _, _, rfl⟩ | (simp [quiet] at hq; done) | exact .inr (fun d => rfl)

theorem chkOp_M {o : Oper} {ao : AOp} {X : List Nat} {st : St} (hq : quiet X st ao = true) (h : chkOp P o ao = true) : chkM P o ao = true := by
  cases ao <;> first | exact h | (simp [quiet] at hq; done)

theorem chk_of_M {o : Oper} {ao : AOp} {X : List Nat} {st : St} (hq : quiet X st ao = true) (hn : ∀ n g x, ao ≠ .load n g x) (h : chkM P o ao = true) : chk P o ao = true := by
  cases ao <;> first | exact h | (simp [quiet] at hq; done) | exact absurd rfl (hn _ _ _)

/-- An operation that reads what nobody writes yields its value in whatever world. -/
theorem quiet_yields {ops : Array Oper} {i : Nat} {it : It} (hch : chkAt P nt ops i it = true) {st : St} {ρ ρ1 : Map} {a : Act} {w w1 : World} (h : Conc c st ρ a w) (hs : a.tmps.size = nt) {X : List Nat} {k : St → Prop}
    (hr : runQ X it st k) (h1 : ∀ b q o, b ∉ X → ρ b = some (q, o) → ρ1 b = some (q, o)) (hlt1 : ∀ b q o, ρ1 b = some (q, o) → q < w1.heap.size) (hinj : ∀ b b' q o o', ρ1 b = some (q, o) → ρ1 b' = some (q, o') → b = b')
    (hS : ∀ q, q < w1.heap.size → (∀ b o, b ∈ X → ρ1 b ≠ some (q, o)) → w.heap[q]? = w1.heap[q]?) (hrop : ∀ q, ¬ OwnBy c.A ρ q → q < w.heap.size → q < w1.heap.size ∧ ∀ b o, b ∈ X → ρ1 b ≠ some (q, o)) :
    ∃ oi v st', ops[i]? = some oi ∧ YieldsIf P ops (fun w' => ∀ q, q < w1.heap.size → (∀ b o, b ∈ X → ρ1 b ≠ some (q, o)) → w'.heap[q]? = w1.heap[q]?) oi v a ∧ k st' ∧ Conc c st' ρ (a.put oi.dst v) w := by
  obtain ⟨o, ho, hck⟩ := chkAt_spec hch
  obtain ⟨hd, hdl, hop, hg⟩ := chkIt_spec hck
  have hlt : ∀ d, o.dst = some d → d < a.tmps.size := fun d h1 => by rw [hs]; exact hdl d (by rw [← hd]; exact h1)
  have hdo : Region.wanted o (yielded ops a.tmps) = true → quiet X st it.ao = true → (∃ st', exec it.d it.ao st = some st' ∧ k st') → ∃ v st', YieldsIf P ops (fun w' => ∀ q, q < w1.heap.size → (∀ b o, b ∈ X → ρ1 b ≠ some (q, o)) → w'.heap[q]? = w1.heap[q]?) o v a ∧ k st' ∧ Conc c st' ρ (a.put o.dst v) w := by
    rintro hw hq ⟨st', he, hk⟩
    have hcm := chkOp_M hq hop
    rw [← hd] at he
    rcases pv_isPure hq with ⟨n, g, x, hao⟩ | hpure
    · rw [hao] at he hcm hq
      cases hdd : o.dst with
      | none => rw [hdd] at he; simp [exec] at he
      | some d =>
        rw [hdd] at he
        simp only [exec] at he
        split at he <;> try (cases he; done)
        rename_i d' p hd' hx
        injection hd' with hd'; subst hd'
        split at he <;> try (cases he; done)
        rename_i cs hl
        split at he <;> try (cases he; done)
        rename_i r hr2
        injection he with he; subst he
        obtain ⟨v, blk, hrun, hv, hblt, hblk⟩ := load_ok h hcm hx hl hr2
        refine ⟨v, _, .inl ⟨hw, fun w' hw' => hrun w' ?_⟩, hk, h.put (hlt _ hdd) hv⟩
        have hfar : blk < w1.heap.size ∧ ∀ b o, b ∈ X → ρ1 b ≠ some (blk, o) := by
          rcases hblk with ⟨b, sz, ii, j, o', hp, hρ⟩ | ⟨⟨sz, es, ii, j, hp⟩, hno⟩
          · simp only [quiet, hx, hp] at hq
            have hbX : b ∉ X := by simpa using hq
            have hρ1 := h1 _ _ _ hbX hρ
            exact ⟨hlt1 _ _ _ hρ1, fun b' o2 hb' hρ2 => hbX (by rw [hinj _ _ _ _ _ hρ1 hρ2]; exact hb')⟩
          · exact hrop blk hno hblt
        rw [hw' blk hfar.1 hfar.2, hS blk hfar.1 hfar.2]
    · rw [hpure] at he
      split at he <;> try (cases he; done)
      rename_i d r hdd hp
      injection he with he; subst he
      by_cases hload : ∃ n g x, it.ao = .load n g x
      · obtain ⟨n, g, x, hao⟩ := hload
        rw [hao] at hp; simp [pv] at hp
      · have hc0 := chk_of_M hq (fun n g x e => hload ⟨n, g, x, e⟩) hcm
        obtain ⟨v, hrun, hv⟩ := pv_ok h.srcs hc0 hp
        refine ⟨v, _, .inl ⟨hw, fun w' _ => hrun w'⟩, hk, ?_⟩
        rw [hdd]
        exact h.put (hlt _ hdd) hv
  unfold runQ at hr
  rcases hg with ⟨hg1, hg2⟩ | ⟨j, want, s, oj, hg1, hg2, hj, hjd, hsn⟩
  · rw [hg2] at hr
    obtain ⟨v, st', h2, h3, h4⟩ := hdo (by simp [Region.wanted, hg1]) hr.1 hr.2
    exact ⟨o, v, st', ho, h2, h3, h4⟩
  · rw [hg2] at hr
    obtain ⟨b, hb, hr1, hr2⟩ := hr
    have hwant := wanted_of h hs hg1 hj hjd hb hsn
    by_cases e : b = some want
    · subst e
      rw [beq_self_eq_true] at hwant
      obtain ⟨v, st', h2, h3, h4⟩ := hdo hwant (hr1 rfl).1 (hr1 rfl).2
      exact ⟨o, v, st', ho, h2, h3, h4⟩
    · have hf : (b == some want) = false := by simpa using e
      rw [hf] at hwant
      refine ⟨o, undef, _, ho, .inr ⟨hwant, rfl⟩, hr2 e, ?_⟩
      rw [hd]
      exact h.put? (fun q hq => by rw [hs]; exact hdl q hq) undef_rel

/-- What holds all through a region that draws its order. -/
structure Thru (c : Ctx) (X : List Nat) (ρ1 : Map) (w1 : World) (ρ : Map) (w : World) : Prop where
  out : ∀ b q o, b ∉ X → ρ b = some (q, o) → ρ1 b = some (q, o)
  ins : ∀ b q o, b ∈ X → ρ b = some (q, o) → (∃ b0 ∈ X, ∃ o0, ρ1 b0 = some (q, o0)) ∨ w1.heap.size ≤ q
  size : w1.heap.size ≤ w.heap.size
  same : ∀ q, q < w1.heap.size → (∀ b o, b ∈ X → ρ1 b ≠ some (q, o)) → w.heap[q]? = w1.heap[q]?


def ctxR (c : Ctx) (X : List Nat) (ρ1 : Map) (w1 : World) (hT : TabOK ρ1 w1) : Ctx :=
  ⟨w1, fun k => c.A k ∨ (∃ b ∈ X, ∃ o, ρ1 b = some (k, o)) ∨ w1.heap.size ≤ k, c.B, c.ρ0, fun k => ∃ b o, ρ1 b = some (k, o), fun k h => .inl (c.sub k h), hT.1, fun q hq ⟨b, o, hb⟩ => hT.2 q hq b o hb, c.defs⟩

theorem thru_begin {st : St} {ρ1 : Map} {a : Act} {w1 : World} (h : Conc c st ρ1 a w1) (X : List Nat) : Conc (ctxR c X ρ1 w1 h.tabOK) st ρ1 a w1 := by
  have hk : KeepsV w1 w1 (OwnBy c.A ρ1) (OwnBy (ctxR c X ρ1 w1 h.tabOK).A ρ1) ρ1 ρ1 (fun _ => True) := {
    size := Nat.le_refl _, same := fun _ _ _ => rfl
    own := fun k hk hO => by
      rcases hO with (hO | ⟨b, _, o, hO⟩ | hO) | hO
      · exact .inl hO
      · exact .inr ⟨b, o, hO⟩
      · omega
      · exact .inr hO
    map := fun _ _ _ _ h => h, rows := fun k cur ty fr _ hh => ⟨cur, ty, fr, hh, rfl⟩, lt := h.lt }
  exact { slots := fun d x hx => (h.slots d x hx).keep hk (refs_all x), defers := h.defers, mem := fun b blk hb => (h.mem b blk hb).keep hk rfl (fun _ _ _ => rfl) (fun _ cs _ => refs_allL cs), dom := h.dom, lt := h.lt, inj := h.inj, mine := fun b k o hb => .inl ⟨b, o, hb⟩, far := h.far, fix := h.fix, alt := fun k hk => Nat.lt_of_lt_of_le (h.alt k hk) h.size, os := rfl, tape := rfl, output := rfl, size := Nat.le_refl _, frame := fun _ _ _ => rfl, rows := fun k cur ty fr _ hh => ⟨cur, ty, fr, hh, rfl⟩ }

theorem thru_end {st1 st : St} {ρ1 ρ : Map} {a1 a : Act} {w1 w : World} {X : List Nat} {hT : TabOK ρ1 w1} (h1 : Conc c st1 ρ1 a1 w1) (h : Conc (ctxR c X ρ1 w1 hT) st ρ a w) : Conc c st ρ a w := by
  have hk : KeepsV w w (OwnBy (ctxR c X ρ1 w1 hT).A ρ) (OwnBy c.A ρ) ρ ρ (fun _ => True) := {
    size := Nat.le_refl _, same := fun _ _ _ => rfl
    own := fun k _ hO => hO.imp .inl id
    map := fun _ _ _ _ h => h, rows := fun k cur ty fr _ hh => ⟨cur, ty, fr, hh, rfl⟩, lt := h.lt }
  refine { slots := fun d x hx => (h.slots d x hx).keep hk (refs_all x), defers := h.defers, mem := fun b blk hb => (h.mem b blk hb).keep hk rfl (fun _ _ _ => rfl) (fun _ cs _ => refs_allL cs), dom := h.dom, lt := h.lt, inj := h.inj, mine := ?_, far := h.far, fix := h.fix, alt := h1.alt, os := h.os.trans h1.os, tape := h.tape.trans h1.tape, output := h.output.trans h1.output, size := Nat.le_trans h1.size h.size, frame := ?_, rows := ?_ }
  · intro b k o hb
    rcases h.mine _ _ _ hb with ⟨b0, o0, h0⟩ | h0
    · exact h1.mine _ _ _ h0
    · exact .inr (Nat.le_trans h1.size h0)
  · intro k hk hF
    have hk1 : k < w1.heap.size := Nat.lt_of_lt_of_le hk h1.size
    rw [h.frame k hk1 (fun ⟨b, o, hb⟩ => ?_)]
    · exact h1.frame k hk hF
    · rcases h1.mine _ _ _ hb with h0 | h0
      · exact hF h0
      · omega
  · intro k cur ty fr hk hh
    have hk1 : k < w1.heap.size := Nat.lt_of_lt_of_le hk h1.size
    obtain ⟨c2, t2, f2, h2, e2⟩ := h.rows k cur ty fr hk1 hh
    obtain ⟨c3, t3, f3, h3, e3⟩ := h1.rows k c2 t2 f2 hk h2
    exact ⟨c3, t3, f3, h3, e3.trans e2⟩

/-- In whatever order. -/
theorem run_plan {ops : Array Oper} (hsel : Region.noSelect ops = true) {st1 : St} {ρ1 : Map} {a1 : Act} {w1 : World} (h1 : Conc c st1 ρ1 a1 w1) {X : List Nat} {k : St → Prop} :
    ∀ (plan : Plan) (listed : Array Bool) (fuel : Nat) (st : St) (ρ : Map) (a : Act) (w : World), Conc (ctxR c X ρ1 w1 h1.tabOK) st ρ a w → a.tmps.size = nt → Thru c X ρ1 w1 ρ w → runP P (ctxR c X ρ1 w1 h1.tabOK) nt X plan st k → plan.depth ≤ fuel →
      (chkPlan P nt ops true plan listed = true → wpAnyH P .any ops (postR nt (ctxR c X ρ1 w1 h1.tabOK) k) (fun w' => ∀ q, q < w1.heap.size → (∀ b o, b ∈ X → ρ1 b ≠ some (q, o)) → w'.heap[q]? = w1.heap[q]?) fuel listed a w) ∧
      (chkPlan P nt ops false plan listed = true → ∀ i ∈ plan.alts, wpOp P ops (postR nt (ctxR c X ρ1 w1 h1.tabOK) k) i (fun a' w' => (∀ q, q < w1.heap.size → (∀ b o, b ∈ X → ρ1 b ≠ some (q, o)) → w'.heap[q]? = w1.heap[q]?) ∧
        wpAnyH P .any ops (postR nt (ctxR c X ρ1 w1 h1.tabOK) k) (fun w' => ∀ q, q < w1.heap.size → (∀ b o, b ∈ X → ρ1 b ≠ some (q, o)) → w'.heap[q]? = w1.heap[q]?) (fuel - 1) (listed.setIfInBounds i true) a' w') a w) := by
  intro plan
  induction plan with
  | done =>
    intro listed fuel st ρ a w h hs ht hr hd
    refine ⟨fun hc => ?_, fun _ i hi => by simp [Plan.alts] at hi⟩
    simp only [chkPlan, beq_iff_eq] at hc
    exact wpAnyH_done hc ⟨hs, st, ρ, hr, h⟩ fuel
  | take i it p ih =>
    intro listed fuel st ρ a w h hs ht hr hd
    refine ⟨fun hc => ?_, fun _ i hi => by simp [Plan.alts] at hi⟩
    simp only [chkPlan, Bool.and_eq_true] at hc
    obtain ⟨⟨⟨hch, hfree⟩, hready⟩, hc⟩ := hc
    obtain ⟨oi, v, st', hoi, hy, hk, hcc⟩ := quiet_yields hch h hs hr ht.out h1.lt h1.inj ht.same (fun q hno hq => by
      refine ⟨?_, fun b o hb hρ => hno (.inl (.inr (.inl ⟨b, hb, o, hρ⟩)))⟩
      rcases Nat.lt_or_ge q w1.heap.size with h' | h'
      · exact h'
      · exact absurd (.inl (.inr (.inr h'))) hno)
    obtain ⟨f, rfl⟩ : ∃ f, fuel = f + 1 := ⟨fuel - 1, by simp only [Plan.depth] at hd; omega⟩
    exact wpAnyH_take hoi hsel hfree hready (fun _ _ _ h => h) hy ht.same ((ih _ _ st' ρ _ w hcc (by rw [put_size]; exact hs) ht hk (by simp only [Plan.depth] at hd; omega)).1 hc)
  | alt i it p q ihp ihq =>
    intro listed fuel st ρ a w h hs ht hr hd
    obtain ⟨hi, hrq⟩ := hr
    obtain ⟨f, rfl⟩ : ∃ f, fuel = f + 1 := ⟨fuel - 1, by simp only [Plan.depth] at hd; omega⟩
    have hdp : p.depth ≤ f := by simp only [Plan.depth] at hd; omega
    have hdq : q.depth ≤ f + 1 := by simp only [Plan.depth] at hd; omega
    have hone : chkAt P nt ops i it = true → chkPlan P nt ops true p (listed.setIfInBounds i true) = true → wpOp P ops (postR nt (ctxR c X ρ1 w1 h1.tabOK) k) i (fun a' w' => (∀ q, q < w1.heap.size → (∀ b o, b ∈ X → ρ1 b ≠ some (q, o)) → w'.heap[q]? = w1.heap[q]?) ∧
        wpAnyH P .any ops (postR nt (ctxR c X ρ1 w1 h1.tabOK) k) (fun w' => ∀ q, q < w1.heap.size → (∀ b o, b ∈ X → ρ1 b ≠ some (q, o)) → w'.heap[q]? = w1.heap[q]?) f (listed.setIfInBounds i true) a' w') a w := by
      intro hch hcp
      refine step_run hch h hs hi (fun a' w' st' ρ' hc' hs' hk' hsz hf hm => ?_)
      have ht' : Thru c X ρ1 w1 ρ' w' := {
        out := fun b q o hb hρ => by
          rcases hm _ _ _ hρ with h' | ⟨h', _⟩
          · exact ht.out _ _ _ hb h'
          · exact absurd h' hb
        ins := fun b q o hb hρ => by
          rcases hm _ _ _ hρ with h' | ⟨_, h' | ⟨b0, hb0, o2, h'⟩⟩
          · exact ht.ins _ _ _ hb h'
          · exact .inr (Nat.le_trans ht.size h')
          · exact ht.ins _ _ _ hb0 h'
        size := Nat.le_trans ht.size hsz
        same := fun q hq hno => by
          rw [hf q (Nat.lt_of_lt_of_le hq ht.size) (fun b o hb hρ => ?_)]
          · exact ht.same q hq hno
          · rcases ht.ins _ _ _ hb hρ with ⟨b0, hb0, o0, h0⟩ | h0
            · exact hno b0 o0 hb0 h0
            · omega }
      exact ⟨ht'.same, (ihp _ _ st' ρ' a' w' hc' hs' ht' hk' hdp).1 hcp⟩
    have hrest : (q = .done ∨ chkPlan P nt ops false q listed = true) → ∀ j ∈ q.alts, wpOp P ops (postR nt (ctxR c X ρ1 w1 h1.tabOK) k) j (fun a' w' => (∀ q, q < w1.heap.size → (∀ b o, b ∈ X → ρ1 b ≠ some (q, o)) → w'.heap[q]? = w1.heap[q]?) ∧
        wpAnyH P .any ops (postR nt (ctxR c X ρ1 w1 h1.tabOK) k) (fun w' => ∀ q, q < w1.heap.size → (∀ b o, b ∈ X → ρ1 b ≠ some (q, o)) → w'.heap[q]? = w1.heap[q]?) f (listed.setIfInBounds j true) a' w') a w := by
      intro hcq
      rcases hcq with rfl | hcq
      · intro j hj; simp [Plan.alts] at hj
      · cases hq : q with
        | done => intro j hj; simp [Plan.alts] at hj
        | take _ _ _ => intro j hj; simp [Plan.alts] at hj
        | alt i' it' p' q' =>
          have hrq' : runP P (ctxR c X ρ1 w1 h1.tabOK) nt X q st k := by rw [hq] at hrq ⊢; exact hrq
          rw [← hq]
          exact (ihq listed (f + 1) st ρ a w h hs ht hrq' hdq).2 hcq
    refine ⟨fun hc => ?_, fun hc => ?_⟩
    · unfold chkPlan at hc
      simp only [Bool.not_true, Bool.false_or, Bool.and_eq_true, beq_iff_eq] at hc
      obtain ⟨⟨⟨hch, hready⟩, hcp⟩, hcq⟩ := hc
      refine wpAnyH_all hready (by simp) (fun j hj => ?_)
      rcases List.mem_cons.1 hj with rfl | hj
      · exact hone hch hcp
      · exact hrest (by revert hcq; cases q <;> simp) j hj
    · unfold chkPlan at hc
      simp only [Bool.not_false, Bool.true_or, Bool.true_and, Bool.and_eq_true] at hc
      intro j hj
      rcases List.mem_cons.1 hj with rfl | hj
      · exact hone hc.1.1.1 hc.1.2
      · exact hrest (by have := hc.2; revert this; cases q <;> simp) j hj

end

/-! ### Evaluation: as far as it goes without a call -/

def stepI (it : It) (st : St) : Option St :=
  match it.g with
  | none => exec it.d it.ao st
  | some (s, want) => match gval st s with
    | some b => if b = some want then exec it.d it.ao st else some (st.put? it.d (.tup []))
    | none => none

def isCall : AOp → Bool
  | .callv .. => true
  | .ext .. => true
  | _ => false

/-- Up to the first call. -/
def evalL : List It → St → Option (List It × St)
  | [], st => some ([], st)
  | it :: r, st => if isCall it.ao then some (it :: r, st) else (stepI it st).bind (evalL r)

theorem runI_of_step {P : Program} {c : Ctx} {nt : Nat} {X : Nat → Prop} {it : It} {st st' : St} {k : St → Prop} (hc : isCall it.ao = false) (h : stepI it st = some st') (hX : ∀ b ∈ wrs st it.ao, X b) (hk : k st') : runI P c nt X it st k := by
  have hA : ∀ st', exec it.d it.ao st = some st' → k st' → runA P c nt X it.d it.ao st k := by
    intro st' h hk
    unfold runA
    split
    · rename_i e; rw [e] at hc; cases hc
    · rename_i e; rw [e] at hc; cases hc
    · exact ⟨st', h, hX, hk⟩
  unfold stepI at h
  unfold runI
  split at h
  · exact hA _ h hk
  · split at h <;> try (cases h; done)
    rename_i b hb
    split at h
    · rename_i hw; exact ⟨b, hb, fun _ => hA _ h hk, fun hn => absurd hw hn⟩
    · rename_i hw; injection h with h; subst h; exact ⟨b, hb, fun he => absurd he hw, fun _ => hk⟩

theorem runL_of_eval {P : Program} {c : Ctx} {nt : Nat} {k : St → Prop} : ∀ {its its' : List It} {st st' : St}, evalL its st = some (its', st') → runL P c nt its' st' k → runL P c nt its st k
  | [], its', st, st', h, hk => by
    simp only [evalL, Option.some.injEq, Prod.mk.injEq] at h
    obtain ⟨rfl, rfl⟩ := h; exact hk
  | it :: r, its', st, st', h, hk => by
    simp only [evalL] at h
    split at h
    · simp only [Option.some.injEq, Prod.mk.injEq] at h
      obtain ⟨rfl, rfl⟩ := h; exact hk
    · rename_i hc
      obtain ⟨st1, h1, h2⟩ := Option.bind_eq_some_iff.1 h
      exact runI_of_step (by simpa using hc) h1 (fun _ _ => trivial) (runL_of_eval h2 hk)

def wrOK (X : List Nat) (st : St) (ao : AOp) : Bool := (wrs st ao).all fun b => X.contains b

/-- In a plan: up to the first call, or to where more than one may come up. -/
def evalP (X : List Nat) : Plan → St → Option (Plan × St)
  | .done, st => some (.done, st)
  | .take _ it p, st => if quiet X st it.ao then (stepI it st).bind (evalP X p) else none
  | .alt i it p q, st => match q with
    | .done => if isCall it.ao then some (.alt i it p .done, st) else if wrOK X st it.ao then (stepI it st).bind (evalP X p) else none
    | _ => some (.alt i it p q, st)

theorem runQ_of_step {X : List Nat} {it : It} {st st' : St} {k : St → Prop} (hq : quiet X st it.ao = true) (h : stepI it st = some st') (hk : k st') : runQ X it st k := by
  unfold stepI at h
  unfold runQ
  split at h
  · exact ⟨hq, _, h, hk⟩
  · split at h <;> try (cases h; done)
    rename_i b hb
    split at h
    · rename_i hw; exact ⟨b, hb, fun _ => ⟨hq, _, h, hk⟩, fun hn => absurd hw hn⟩
    · rename_i hw; injection h with h; subst h; exact ⟨b, hb, fun he => absurd he hw, fun _ => hk⟩

theorem runP_of_eval {P : Program} {c : Ctx} {nt : Nat} {X : List Nat} {k : St → Prop} : ∀ {p p' : Plan} {st st' : St}, evalP X p st = some (p', st') → runP P c nt X p' st' k → runP P c nt X p st k := by
  intro p
  induction p with
  | done =>
    intro p' st st' h hk
    simp only [evalP, Option.some.injEq, Prod.mk.injEq] at h
    obtain ⟨rfl, rfl⟩ := h; exact hk
  | take i it p ih =>
    intro p' st st' h hk
    simp only [evalP] at h
    split at h <;> try (cases h; done)
    rename_i hq
    obtain ⟨st1, h1, h2⟩ := Option.bind_eq_some_iff.1 h
    exact runQ_of_step hq h1 (ih h2 hk)
  | alt i it p q ihp _ =>
    intro p' st st' h hk
    simp only [evalP] at h
    split at h
    · split at h
      · simp only [Option.some.injEq, Prod.mk.injEq] at h
        obtain ⟨rfl, rfl⟩ := h; exact hk
      · rename_i hc
        split at h <;> try (cases h; done)
        rename_i hw
        obtain ⟨st1, h1, h2⟩ := Option.bind_eq_some_iff.1 h
        refine ⟨runI_of_step (by simpa using hc) h1 (fun b hb => ?_) (ihp h2 hk), trivial⟩
        have := List.all_eq_true.1 hw b hb
        simpa using this
    · simp only [Option.some.injEq, Prod.mk.injEq] at h
      obtain ⟨rfl, rfl⟩ := h; exact hk

/-! ### The rules -/
section
variable {P : Program} {nt : Nat} {c : Ctx} {st : St} {Q : Exit → St → Prop}

theorem keep_conc {st : St} {ρ : Map} {a : Act} {w : World} (h : Conc c st ρ a w) (ds : List Nat) : Conc c (st.keep ds) ρ a w :=
  h.less _ (fun d x hx => by rw [look_keep] at hx; split at hx; exact hx; cases hx)

theorem plainOps_get {ops : Array Oper} (h : plainOps ops = true) {i : Nat} {o : Oper} (ho : ops[i]? = some o) : ∀ c, o.op ≠ .defer c := by
  intro c hc
  have := List.all_eq_true.1 h o (by rw [← Array.getElem?_toList] at ho; exact List.mem_of_getElem? ho)
  rw [hc] at this; cases this

/-- An operation, in whatever round. -/
theorem wpOp_in {ops : Array Oper} {r : Option Nat} (hr : r = none ∨ plainOps ops = true) {R : Exit → Act → World → Prop} (hR : ¬ LetsOut R) {i : Nat} {K K' : Act → World → Prop} (hK : ∀ a w, K a w → K' a w) {a : Act} {w : World} (h : wpOp P ops R i K a w) : wpOpIn (fw r) 0 P ops R i K' a w := by
  unfold wpOp at h
  unfold wpOpIn
  cases ho : ops[i]? with
  | none => rw [ho] at h; exact hK _ _ h
  | some o =>
    rw [ho] at h
    dsimp only at h ⊢
    split at h
    · rename_i hw
      rw [if_pos hw]
      rcases h with h | ⟨_, h⟩
      · have hsem : o.semAt (fw r).round a.eval = execOp a.eval o := by
          rcases hr with rfl | hr
          · rfl
          · exact Oper.semAt_eq _ _ _ (plainOps_get hr ho)
        refine ⟨fun _ _ => trivial, ?_⟩
        rw [hsem]
        unfold Oper.wp at h
        generalize (execOp a.eval o).run P w = x at h ⊢
        cases x with
        | ok y w' =>
          cases y <;> simp only [Oper.upon, Oper.uponIn] at h ⊢
          case value v => exact hK _ _ h
          case skip => exact hK _ _ h
          case defer d => exact hK _ _ h
          case enter f args =>
            refine ⟨fun hd => (by simp [fw, Fence.wide] at hd), ?_⟩
            have h2 : CallsIn Fence.wide 0 P f args w' _ := callsIn_wide.2 h
            refine CallsIn.mono (show CallsIn (fw r) (0 - 1) P f args w' _ from h2) (fun e w'' he => ?_)
            cases e <;> first | exact hK _ _ he | exact he
          case row row args =>
            refine ⟨fun hd => (by simp [fw, Fence.wide] at hd), fun c' cs _ => ?_⟩
            obtain ⟨v, w'', hv, hst⟩ := h c' cs
            exact ⟨v, w'', hK _ _ hv, stepsIn_wide.2 hst⟩
        | halt y w' =>
          cases y <;> simp only [Oper.upon, Oper.uponIn] at h ⊢ <;> exact h
      · exact absurd h hR
    · rename_i hw
      rw [if_neg hw]
      exact ⟨fun _ _ => trivial, hK _ _ h⟩

theorem wpOps_in {ops : Array Oper} {r : Option Nat} (hr : r = none ∨ plainOps ops = true) {R : Exit → Act → World → Prop} (hR : ¬ LetsOut R) : ∀ (l : List Nat) (a : Act) (w : World), wpOps P ops R l a w → wpOpsIn (fw r) 0 P ops R l a w
  | [], a, w, h => h
  | i :: q, a, w, h => by
    rw [wpOps_cons] at h
    rw [wpOpsIn_cons]
    exact wpOp_in hr hR (fun a w h => wpOps_in hr hR q a w h) h

theorem wpAny_in {ops : Array Oper} {r : Option Nat} (hr : r = none ∨ plainOps ops = true) {R : Exit → Act → World → Prop} (hR : ¬ LetsOut R) {md : Region.Mode} : ∀ (fuel : Nat) (l : Array Bool) (a : Act) (w : World), wpAny P md ops R fuel l a w → wpAnyIn (fw r) 0 P md ops R fuel l a w
  | 0, l, a, w, h => h
  | fuel + 1, l, a, w, h => ⟨h.1, fun i hi => wpOp_in hr hR (fun a w h => wpAny_in hr hR fuel _ a w h) (h.2 i hi)⟩

theorem postR_in {k : St → Prop} : ¬ LetsOut (postR nt c k) := fun ⟨_, _, h⟩ => h

theorem rOK_region {r : Option Nat} {id : Nat} {ops : Array Oper} {d : Bool} (h : rOK r (.region id ops d) = true) : r = none ∨ plainOps ops = true := by
  unfold rOK at h
  rcases Bool.or_eq_true _ _ ▸ h with h | h
  · exact .inl (by simpa using h)
  · exact .inr h
theorem rOK_seq {r : Option Nat} {x y : Code} (h : rOK r (.seq x y) = true) : rOK r x = true ∧ rOK r y = true := by
  unfold rOK at h ⊢; cases r <;> simp_all [plainC]
theorem rOK_cond {r : Option Nat} {s : Operand} {x y : Code} (h : rOK r (.cond s x y) = true) : rOK r x = true ∧ rOK r y = true := by
  unfold rOK at h ⊢; cases r <;> simp_all [plainC]
theorem rOK_block {r : Option Nat} {id : Nat} {x : Code} (h : rOK r (.block id x) = true) : rOK r x = true := by
  unfold rOK at h ⊢; cases r <;> simp_all [plainC]
theorem rOK_loop {r : Option Nat} {x : Code} (h : rOK r (.loop x) = true) : rOK r x = true := by
  unfold rOK at h ⊢; cases r <;> simp_all [plainC]

theorem J.reg {its : List It} {ks : List Nat} (h : runL P c nt its st fun st' => Q .normal (st'.keep ks)) : J P nt c (.reg its ks) st Q := by
  intro code hc r hr ρ a w hcc hs
  cases code <;> try (simp [chkC] at hc; done)
  rename_i id ops draw
  cases draw <;> simp only [chkC] at hc
  · have hl := (chkIts_get hc).1
    have hl' : ops.size = its.length := by rw [← Array.length_toList, hl]
    have := run_list hc its.length 0 st ρ a w (by omega) hcc hs h
    rw [← hl', ← List.range_eq_range'] at this
    refine wpIn_mono (wpIn_region (wpOps_in (rOK_region hr) postR_in _ _ _ this)) (fun e a' w' h' => ?_)
    cases e <;> first | exact h'.elim | skip
    obtain ⟨hs', st', ρ', hq, hc'⟩ := h'
    exact ⟨hs', _, ρ', hq, keep_conc hc' ks⟩
  · cases hc

theorem J.draw {X ks : List Nat} {p : Plan} (h : ∀ c', c'.B = c.B → runP P c' nt X p st fun st' => Q .normal (st'.keep ks)) : J P nt c (.draw X p ks) st Q := by
  intro code hc r hr ρ a w hcc hs
  cases code <;> try (simp [chkC] at hc; done)
  rename_i id ops draw
  cases draw <;> simp only [chkC] at hc
  · cases hc
  · simp only [Bool.and_eq_true, decide_eq_true_eq] at hc
    obtain ⟨⟨⟨hsel, hfol⟩, hplan⟩, hdep⟩ := hc
    have hd := hcc.draw
    have := (run_plan hsel hd (X := X) p (Array.replicate ops.size false) ops.size st ρ a _ (thru_begin hd X) hs { out := fun _ _ _ _ h => h, ins := fun b q o hb h => .inl ⟨b, hb, o, h⟩, size := Nat.le_refl _, same := fun _ _ _ => rfl } (h _ rfl) hdep).1 hplan
    refine wpIn_mono (wpIn_region_any hfol (wpAny_in (rOK_region hr) postR_in _ _ _ _ (wpAny_of_held _ _ _ _ this))) (fun e a' w' h' => ?_)
    cases e <;> first | exact h'.elim | skip
    obtain ⟨hs', st', ρ', hq, hc'⟩ := h'
    exact ⟨hs', _, ρ', hq, keep_conc (thru_end hd hc') ks⟩


/-- One of some that may come up. -/
theorem runP_alt {X : List Nat} {i : Nat} {it : It} {p q : Plan} {st st1 : St} {k : St → Prop} (hc : isCall it.ao = false) (hw : wrOK X st it.ao = true) (h : stepI it st = some st1) (h1 : runP P c nt X p st1 k) (h2 : q = .done ∨ runP P c nt X q st k) : runP P c nt X (.alt i it p q) st k := by
  refine ⟨runI_of_step hc h (fun b hb => ?_) h1, ?_⟩
  · have := List.all_eq_true.1 hw b hb
    simpa using this
  · rcases h2 with rfl | h2
    · trivial
    · cases q <;> first | trivial | exact h2

/-- A region without a call. -/
theorem J.regE {its : List It} {ks : List Nat} {st' : St} (h : evalL its st = some ([], st')) (hk : Q .normal (st'.keep ks)) : J P nt c (.reg its ks) st Q := J.reg (runL_of_eval h hk)

/-- A region with one: as far as it. -/
theorem J.regC {its its' : List It} {ks : List Nat} {st' : St} (h : evalL its st = some (its', st')) (hk : runL P c nt its' st' fun st' => Q .normal (st'.keep ks)) : J P nt c (.reg its ks) st Q := J.reg (runL_of_eval h hk)

theorem J.drawE {X ks : List Nat} {p : Plan} {st' : St} (h : evalP X p st = some (.done, st')) (hk : Q .normal (st'.keep ks)) : J P nt c (.draw X p ks) st Q := J.draw (fun _ _ => runP_of_eval h hk)

theorem J.drawC {X ks : List Nat} {p p' : Plan} {st' : St} (h : evalP X p st = some (p', st')) (hk : ∀ c', c'.B = c.B → runP P c' nt X p' st' fun st' => Q .normal (st'.keep ks)) : J P nt c (.draw X p ks) st Q := J.draw (fun c' hc => runP_of_eval h (hk c' hc))

theorem J.skip (h : Q .normal st) : J P nt c .skip st Q := by
  intro code hc r hr ρ a w hcc hs
  cases code <;> try (simp [chkC] at hc; done)
  exact wpIn_skip ⟨hs, st, ρ, h, hcc⟩

theorem J.exit {id : Nat} (h : Q (.exit id) st) : J P nt c (.exit id) st Q := by
  intro code hc r hr ρ a w hcc hs
  cases code <;> try (simp [chkC] at hc; done)
  simp only [chkC, beq_iff_eq] at hc
  subst hc
  exact wpIn_exit ⟨hs, st, ρ, h, hcc⟩

theorem J.ret (h : Q .ret st) : J P nt c .ret st Q := by
  intro code hc r hr ρ a w hcc hs
  cases code <;> try (simp [chkC] at hc; done)
  exact wpIn_ret ⟨hs, st, ρ, h, hcc⟩

theorem J.label (h : Q .normal st) : J P nt c .label st Q := by
  intro code hc r hr ρ a w hcc hs
  cases code <;> try (simp [chkC] at hc; done)
  exact wpIn_label ⟨hs, st, ρ, h, hcc⟩

def scopeQ (Q : Exit → St → Prop) : Exit → St → Prop
  | .goto _, _ => False
  | e, st => Q e st

theorem J.scope {x : AC} (h : J P nt c x st (scopeQ Q)) : J P nt c (.scope x) st Q := by
  intro code hc r hr ρ a w hcc hs
  cases code <;> try (simp [chkC] at hc; done)
  simp only [chkC] at hc
  cases r with
  | some l => simp [rOK, plainC] at hr
  | none =>
  refine (wpIn_wide (n := 0)).2 (wp_scope_straight (wp_mono ((wpIn_wide (n := 0)).1 (h _ hc none rfl ρ a w hcc hs)) (fun e a' w' h' => ?_)))
  cases e <;> first | exact h'.elim | exact h' | skip
  obtain ⟨hs', st', ρ', hq, hc'⟩ := h'
  exact hq.elim

/-- Behind the first part. -/
def thenQ (P : Program) (nt : Nat) (c : Ctx) (y : AC) (Q : Exit → St → Prop) : Exit → St → Prop
  | .normal, st => J P nt c y st Q
  | e, st => Q e st

theorem J.seq {x y : AC} (h : J P nt c x st (thenQ P nt c y Q)) : J P nt c (.seq x y) st Q := by
  intro code hc r hr ρ a w hcc hs
  cases code <;> try (simp [chkC] at hc; done)
  simp only [chkC, Bool.and_eq_true] at hc
  refine wpIn_seq (wpIn_mono (h _ hc.1 r (rOK_seq hr).1 ρ a w hcc hs) (fun e a' w' h' => ?_))
  cases e <;> first | exact h'.elim | skip
  · obtain ⟨hs', st', ρ', hq, hc'⟩ := h'
    exact hq _ hc.2 r (rOK_seq hr).2 ρ' a' w' hc' hs'
  all_goals exact h'

theorem J.cond {t : Nat} {x y : AC} (h : ∃ b, look st.slots t = some (.lit (.bool b)) ∧ (b = true → J P nt c x st Q) ∧ (b = false → J P nt c y st Q)) : J P nt c (.cond (.s t) x y) st Q := by
  obtain ⟨b, hb, h1, h2⟩ := h
  intro code hc r hr ρ a w hcc hs
  cases code <;> try (simp [chkC] at hc; done)
  rename_i s x' y'
  cases s <;> try (simp [chkC] at hc; done)
  rename_i t'
  simp only [chkC, Bool.and_eq_true, beq_iff_eq] at hc
  obtain ⟨⟨rfl, hx⟩, hy⟩ := hc
  have he := (hcc.slots _ _ hb).lit_inv.1
  refine wpIn_cond_split (t := b) he (fun e => h1 e _ hx r (rOK_cond hr).1 ρ a w hcc hs) (fun e => h2 e _ hy r (rOK_cond hr).2 ρ a w hcc hs)

def blockQ (id : Nat) (Q : Exit → St → Prop) : Exit → St → Prop
  | .exit id', st => if id' = id then Q .normal st else Q (.exit id') st
  | e, st => Q e st

theorem J.block {id : Nat} {x : AC} (h : J P nt c x st (blockQ id Q)) : J P nt c (.block id x) st Q := by
  intro code hc r hr ρ a w hcc hs
  cases code <;> try (simp [chkC] at hc; done)
  simp only [chkC, Bool.and_eq_true, beq_iff_eq] at hc
  obtain ⟨rfl, hx⟩ := hc
  refine wpIn_block (wpIn_mono (h _ hx r (rOK_block hr) ρ a w hcc hs) (fun e a' w' h' => ?_))
  cases e <;> first | exact h'.elim | exact h' | skip
  rename_i id' _
  obtain ⟨hs', st', ρ', hq, hc'⟩ := h'
  simp only [blockQ] at hq
  simp only [Exit.inBlock]
  split
  · rename_i e; rw [if_pos e] at hq; exact ⟨hs', st', ρ', hq, hc'⟩
  · rename_i e; rw [if_neg e] at hq; exact ⟨hs', st', ρ', hq, hc'⟩

/-- Round by round: 'n' falls. -/
def loopQ (I : Nat → St → Prop) (n : Nat) (Q : Exit → St → Prop) : Exit → St → Prop
  | .normal, st => ∃ m s', m < n ∧ st.le s' ∧ I m s'
  | e, st => Q e st

theorem J.loop {x : AC} (hstd : c.A = c.B) (I : Nat → St → Prop) (h0 : ∃ n s', st.le s' ∧ I n s') (h : ∀ n st, I n st → J P nt c x st (loopQ I n Q)) : J P nt c (.loop x) st Q := by
  intro code hc r hr ρ a w hcc hs
  cases code <;> try (simp [chkC] at hc; done)
  rename_i x'
  simp only [chkC] at hc
  classical
  let R : Nat → Act → World → Prop := fun n a w => a.tmps.size = nt ∧ ∃ st ρ, I n st ∧ Conc c st ρ a w
  have hmin : ∀ a w, (∃ n, R n a w) → ∃ n, R n a w ∧ ∀ m, R m a w → n ≤ m := by
    intro a w ⟨n, hn⟩
    induction n using Nat.strongRecOn with
    | _ n ih =>
      by_cases hlt : ∃ m, m < n ∧ R m a w
      · obtain ⟨m, hm, hR⟩ := hlt; exact ih m hm hR
      · exact ⟨n, hn, fun m hm => Nat.le_of_not_lt (fun h' => hlt ⟨m, h', hm⟩)⟩
  let μ : Act → World → Nat := fun a w => if h : ∃ n, R n a w then (hmin a w h).choose else 0
  have hμ : ∀ a w, (∃ n, R n a w) → R (μ a w) a w ∧ ∀ m, R m a w → μ a w ≤ m := by
    intro a w hex
    simp only [μ, hex, dif_pos]
    exact (hmin a w hex).choose_spec
  obtain ⟨n0, s0, hle0, hn0⟩ := h0
  obtain ⟨ρ0, hcc0, _⟩ := hle0 c ρ a w hstd hcc
  refine wpIn_loop (fun a w => ∃ n, R n a w) μ ⟨n0, hs, s0, ρ0, hn0, hcc0⟩ (fun a w hex => ?_)
  obtain ⟨⟨hs1, st1, ρ1, hI, hc1⟩, _⟩ := hμ a w hex
  refine wpIn_mono (h _ st1 hI _ hc r (rOK_loop hr) ρ1 a w hc1 hs1) (fun e a' w' h' => ?_)
  cases e <;> first | exact h'.elim | exact h' | skip
  obtain ⟨hs', st0, ρ0, ⟨m, st', hm, hle, hI'⟩, hc0⟩ := h'
  obtain ⟨ρ', hc', _⟩ := hle c ρ0 a' w' hstd hc0
  have hex' : ∃ n, R n a' w' := ⟨m, hs', st', ρ', hI', hc'⟩
  exact ⟨hex', Nat.lt_of_le_of_lt ((hμ a' w' hex').2 m ⟨hs', st', ρ', hI', hc'⟩) hm⟩

theorem J.le {ac : AC} {st' : St} (hstd : c.A = c.B) (hl : st.le st') (h : J P nt c ac st' Q) : J P nt c ac st Q := by
  intro code hc r hr ρ a w hcc hs
  obtain ⟨ρ', h', _⟩ := hl c ρ a w hstd hcc
  exact h code hc r hr ρ' a w h' hs

theorem J.mono {ac : AC} {Q' : Exit → St → Prop} (h : J P nt c ac st Q') (hq : ∀ e s, Q' e s → Q e s) : J P nt c ac st Q := by
  intro code hc r hr ρ a w hcc hs
  refine wpIn_mono (h code hc r hr ρ a w hcc hs) (fun e a' w' h' => ?_)
  cases e <;> first | exact h'.elim | (obtain ⟨hs', st', ρ', hQ, hc'⟩ := h'; exact ⟨hs', st', ρ', hq _ _ hQ, hc'⟩)

end
end Go.SX
