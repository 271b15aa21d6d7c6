/- SX, part F: what a function comes to, and calls. -/
import Derived.Test.YtifpfpiljionmaaDoorSxE
set_option linter.unusedVariables false
set_option linter.unusedSimpArgs false
namespace Go.SX
open Go

structure MemOK (A : Nat → Prop) (m : Mem) (ρ : Map) (w : World) : Prop where
  mem : ∀ b blk, look m b = some blk → BRel w (OwnBy A ρ) ρ b blk
  dom : ∀ b k o, ρ b = some (k, o) → ∃ blk, look m b = some blk
  lt : ∀ b k o, ρ b = some (k, o) → k < w.heap.size
  inj : ∀ b b' k o o', ρ b = some (k, o) → ρ b' = some (k, o') → b = b'
  far : ∀ b k o, ρ b = some (k, o) → ¬ A k
  alt : ∀ k, A k → k < w.heap.size

structure After (w w' : World) (ρ ρ' : Map) (fixed : List Nat) : Prop where
  os : w'.os = w.os
  tape : w'.tape = w.tape
  output : w'.output = w.output
  size : w.heap.size ≤ w'.heap.size
  frame : ∀ k, k < w.heap.size → (∀ b o, ρ b ≠ some (k, o)) → w'.heap[k]? = w.heap[k]?
  mine : ∀ b k o, ρ' b = some (k, o) → (∃ b0 o0, ρ b0 = some (k, o0)) ∨ w.heap.size ≤ k
  fix : ∀ b ∈ fixed, ρ' b = ρ b
  rows : ∀ k cur ty fr, k < w.heap.size → w'.heap[k]? = some (.cells cur ty fr) → ∃ cur0 ty0 fr0, w.heap[k]? = some (.cells cur0 ty0 fr0) ∧ cur0.size = cur.size

def fnOK (P : Program) (f : FuncId) : Bool := match P.funcs[f]? with
  | some fn => fn.body.isSome && fn.name != "runtime.NumGoroutine"
  | none => false

/-- What a function comes to, called with these values in such a memory. -/
def Does (P : Program) (f : FuncId) (args : List AV) (m : Mem) (fixed : List Nat) (post : AV → Mem → Prop) : Prop :=
  fnOK P f = true ∧ ∀ (A : Nat → Prop) (ρ : Map) (w : World) (vs : Array Value), theTab.p w → (∀ q, theTab.k q → ∀ b o, ρ b ≠ some (q, o)) → MemOK A m ρ w → args.length = vs.size → (∀ (i : Nat) x, args[i]? = some x → VRel w (OwnBy A ρ) ρ x (vs.getD i undef)) →
    Calls P f vs w fun e w' => ∃ v r m' ρ', e = .returned v ∧ post r m' ∧ MemOK A m' ρ' w' ∧ VRel w' (OwnBy A ρ') ρ' r v ∧ After w w' ρ ρ' fixed

theorem Does.mono {P : Program} {f : FuncId} {args : List AV} {m : Mem} {fixed : List Nat} {post post' : AV → Mem → Prop} (h : Does P f args m fixed post) (hp : ∀ r m', post r m' → post' r m') : Does P f args m fixed post' :=
  ⟨h.1, fun A ρ w vs t1 t2 h1 h2 h3 => (h.2 A ρ w vs t1 t2 h1 h2 h3).mono fun _ _ ⟨v, r, m', ρ', e, h4, h5⟩ => ⟨v, r, m', ρ', e, hp _ _ h4, h5⟩⟩

def killAll (ks : List Nat) (x : AV) : AV := ks.foldl (fun x b => kill b x) x
def killAllB (ks : List Nat) (x : Blk) : Blk := ks.foldl (fun x b => killB b x) x

mutual
theorem refs_kill_mono {S : Nat → Prop} (b : Nat) : ∀ x, refsIn S x → refsIn S (kill b x)
  | .agg cs, h => by simp only [kill, refsIn] at h ⊢; exact refs_killL_mono b cs h
  | .tup cs, h => by simp only [kill, refsIn] at h ⊢; exact refs_killL_mono b cs h
  | .fn f cs, h => by simp only [kill, refsIn] at h ⊢; exact refs_killL_mono b cs h
  | .own b' sz lo n, h => by simp only [kill]; split; trivial; exact h
  | .ownc b' sz lo n cap, h => by simp only [kill]; split; trivial; exact h
  | .ptr b' sz i j, h => by simp only [kill]; split; trivial; exact h
  | .mapr b', h => by simp only [kill]; split; trivial; exact h
  | .lit _, h => h
  | .nils _, h => h
  | .ro _ _, h => h
  | .rop _ _ _ _, h => h
  | .dead, h => h
theorem refs_killL_mono {S : Nat → Prop} (b : Nat) : ∀ cs, refsInL S cs → refsInL S (killL b cs)
  | [], _ => trivial
  | x :: r, h => ⟨refs_kill_mono b x h.1, refs_killL_mono b r h.2⟩
end
mutual
theorem refs_and {S T : Nat → Prop} : ∀ x, refsIn S x → refsIn T x → refsIn (fun k => S k ∧ T k) x
  | .agg cs, h, h' => by simp only [refsIn] at h h' ⊢; exact refs_andL cs h h'
  | .tup cs, h, h' => by simp only [refsIn] at h h' ⊢; exact refs_andL cs h h'
  | .fn f cs, h, h' => by simp only [refsIn] at h h' ⊢; exact refs_andL cs h h'
  | .own b' sz lo n, h, h' => ⟨h, h'⟩
  | .ownc b' sz lo n cap, h, h' => ⟨h, h'⟩
  | .ptr b' sz i j, h, h' => ⟨h, h'⟩
  | .mapr b', h, h' => ⟨h, h'⟩
  | .lit _, h, _ => h
  | .nils _, h, _ => h
  | .ro _ _, h, _ => h
  | .rop _ _ _ _, h, _ => h
  | .dead, h, _ => h
theorem refs_andL {S T : Nat → Prop} : ∀ cs, refsInL S cs → refsInL T cs → refsInL (fun k => S k ∧ T k) cs
  | [], _, _ => trivial
  | x :: r, h, h' => ⟨refs_and x h.1 h'.1, refs_andL r h.2 h'.2⟩
end
mutual
theorem refs_imp {S T : Nat → Prop} (hi : ∀ k, S k → T k) : ∀ x, refsIn S x → refsIn T x
  | .agg cs, h => by simp only [refsIn] at h ⊢; exact refs_impL hi cs h
  | .tup cs, h => by simp only [refsIn] at h ⊢; exact refs_impL hi cs h
  | .fn f cs, h => by simp only [refsIn] at h ⊢; exact refs_impL hi cs h
  | .own b' sz lo n, h => hi _ h
  | .ownc b' sz lo n cap, h => hi _ h
  | .ptr b' sz i j, h => hi _ h
  | .mapr b', h => hi _ h
  | .lit _, h => h
  | .nils _, h => h
  | .ro _ _, h => h
  | .rop _ _ _ _, h => h
  | .dead, h => h
theorem refs_impL {S T : Nat → Prop} (hi : ∀ k, S k → T k) : ∀ cs, refsInL S cs → refsInL T cs
  | [], _ => trivial
  | x :: r, h => ⟨refs_imp hi x h.1, refs_impL hi r h.2⟩
end

theorem refs_killAll : ∀ (ks : List Nat) (x : AV), refsIn (fun k => k ∉ ks) (killAll ks x)
  | [], x => refs_imp (fun _ _ => by simp) x (refs_all x)
  | b :: r, x => by
    have h1 := refs_killAll r (kill b x)
    have h2 : ∀ (ks : List Nat) x, refsIn (fun k => k ≠ b) x → refsIn (fun k => k ≠ b) (killAll ks x) := by
      intro ks
      induction ks with
      | nil => exact fun x h => h
      | cons q r ih => exact fun x h => ih _ (refs_kill_mono q x h)
    exact refs_imp (fun k hk => by simp only [List.mem_cons, not_or]; exact ⟨hk.2, hk.1⟩) _ (refs_and _ h1 (h2 r _ (refs_kill b x)))

theorem VRel.killAll {w : World} {Own : Nat → Prop} {ρ : Map} : ∀ (ks : List Nat) {x : AV} {v : Value}, VRel w Own ρ x v → VRel w Own ρ (killAll ks x) v
  | [], _, _, h => h
  | b :: r, _, _, h => VRel.killAll r (h.kill b)

theorem killB_get (b : Nat) (blk : Blk) : killB b blk = match blk with | .arr ty sz es => .arr ty sz es | .obj ty cs => .obj ty (killL b cs) := by cases blk <;> rfl

theorem BRel.killB {w : World} {Own : Nat → Prop} {ρ : Map} {b' : Nat} {blk : Blk} (b : Nat) (h : BRel w Own ρ b' blk) : BRel w Own ρ b' (killB b blk) := by
  cases blk with
  | arr ty sz es => exact h
  | obj ty cs =>
    obtain ⟨k, cur, h0, h1, h2, h3⟩ := h
    refine ⟨k, cur, h0, h1, by rw [killL_length]; exact h2, fun j x hx => ?_⟩
    rw [killL_get] at hx
    obtain ⟨y, hy, rfl⟩ := Option.map_eq_some_iff.1 hx
    obtain ⟨v, hv, h1v, ht⟩ := h3 j y hy
    exact ⟨v, hv, h1v, ht.kill b⟩
theorem BRel.killAllB {w : World} {Own : Nat → Prop} {ρ : Map} {b' : Nat} : ∀ (ks : List Nat) {blk : Blk}, BRel w Own ρ b' blk → BRel w Own ρ b' (killAllB ks blk)
  | [], _, h => h
  | b :: r, _, h => BRel.killAllB r (h.killB b)

theorem Blk.refs_killB_mono {S : Nat → Prop} (b : Nat) : ∀ x : Blk, x.refs S → (killB b x).refs S
  | .arr .., _ => trivial
  | .obj _ cs, h => refs_killL_mono b cs h
theorem Blk.refs_killB (b : Nat) : ∀ x : Blk, (killB b x).refs (fun k => k ≠ b)
  | .arr .. => trivial
  | .obj _ cs => refs_killL b cs
theorem Blk.refs_and {S T : Nat → Prop} : ∀ x : Blk, x.refs S → x.refs T → x.refs (fun k => S k ∧ T k)
  | .arr .., _, _ => trivial
  | .obj _ cs, h, h' => refs_andL cs h h'
theorem Blk.refs_imp {S T : Nat → Prop} (hi : ∀ k, S k → T k) : ∀ x : Blk, x.refs S → x.refs T
  | .arr .., _ => trivial
  | .obj _ cs, h => refs_impL hi cs h
theorem refs_killAllB : ∀ (ks : List Nat) (x : Blk), (killAllB ks x).refs (fun k => k ∉ ks)
  | [], x => by cases x with
    | arr => trivial
    | obj _ cs => exact refs_impL (fun _ _ => by simp) cs (refs_allL cs)
  | b :: r, x => by
    have h1 := refs_killAllB r (killB b x)
    have h2 : ∀ (ks : List Nat) (x : Blk), x.refs (fun k => k ≠ b) → (killAllB ks x).refs (fun k => k ≠ b) := by
      intro ks
      induction ks with
      | nil => exact fun x h => h
      | cons q r ih => exact fun x h => ih _ (Blk.refs_killB_mono q x h)
    exact Blk.refs_imp (fun k hk => by simp only [List.mem_cons, not_or]; exact ⟨hk.2, hk.1⟩) _ (Blk.refs_and _ h1 (h2 r _ (Blk.refs_killB b x)))

def dropAll {α : Type} (bs : List Nat) (l : List (Nat × α)) : List (Nat × α) := l.filter fun p => !bs.contains p.1

theorem look_dropAll {α : Type} (ds : List Nat) : ∀ (l : List (Nat × α)) (d : Nat), look (dropAll ds l) d = if ds.contains d then none else look l d
  | [], d => by simp [dropAll, look]
  | (k, v) :: r, d => by
    have ih := look_dropAll ds r d
    simp only [dropAll] at ih ⊢
    by_cases hk : ds.contains k = true
    · rw [List.filter_cons_of_neg (by simpa using hk), ih]
      by_cases e : k = d
      · subst e; rw [if_pos hk, if_pos hk]
      · simp only [look, e, if_false]
    · rw [List.filter_cons_of_pos (by simpa using hk)]
      simp only [look]
      by_cases e : k = d
      · subst e; rw [if_pos rfl, if_pos rfl, if_neg hk]
      · simp only [e, if_false]; exact ih

theorem look_append {α : Type} : ∀ (l m : List (Nat × α)) (d : Nat), look (l ++ m) d = match look l d with | some x => some x | none => look m d
  | [], _, _ => rfl
  | (k, v) :: r, m, d => by
    simp only [List.cons_append, look]
    split
    · rfl
    · exact look_append r m d

/-- The state behind a call: what was handed over and is not 'fixed' is led to by nobody; the callee's memory is told anew. -/
def callSt (st : St) (bs fixed : List Nat) (m1 : Mem) : St :=
  ⟨st.slots.map fun p => (p.1, killAll (bs.filter fun b => !fixed.contains b) p.2), m1 ++ (dropAll bs st.mem).map fun p => (p.1, killAllB (bs.filter fun b => !fixed.contains b) p.2), st.fixed⟩

def St.put? (st : St) (d : Option Nat) (r : AV) : St := match d with
  | some d => st.put d r
  | none => st

mutual
def noTree : AV → Bool
  | .agg cs => noTreeL cs
  | .tup cs => noTreeL cs
  | .fn _ cs => noTreeL cs
  | .ro _ _ => false
  | .rop _ _ _ _ => false
  | .mapr _ => false
  | _ => true
def noTreeL : List AV → Bool
  | [] => true
  | x :: r => noTree x && noTreeL r
end
theorem noTreeL_get : ∀ {cs : List AV}, noTreeL cs = true → ∀ (i : Nat) x, cs[i]? = some x → noTree x = true
  | [], _, i, x, h => by simp at h
  | y :: r, hr, 0, x, h => by simp at h; subst h; exact (Bool.and_eq_true _ _ ▸ hr).1
  | y :: r, hr, i + 1, x, h => noTreeL_get ((Bool.and_eq_true _ _ ▸ hr).2) i x (by simpa using h)

theorem TRel.noTree {w w' : World} {Own Own' : Nat → Prop} {x : AV} {v : Value} (h : TRel w Own x v) (hn : noTree x = true) : TRel w' Own' x v := by
  induction h with
  | lit h => exact .lit h
  | nils => exact .nils
  | ronil => exact .ronil
  | ro => simp [SX.noTree] at hn
  | agg hl _ ih => exact .agg hl (fun i x hx => ih i x hx (noTreeL_get (by simpa [SX.noTree] using hn) i x hx))
  | tup hl _ ih => exact .tup hl (fun i x hx => ih i x hx (noTreeL_get (by simpa [SX.noTree] using hn) i x hx))
  | fn hl _ ih => exact .fn hl (fun i x hx => ih i x hx (noTreeL_get (by simpa [SX.noTree] using hn) i x hx))

theorem VRel.noTree {w : World} {Own Own' : Nat → Prop} {ρ ρ' : Map} (hm : ∀ b k o, ρ b = some (k, o) → ρ' b = some (k, o)) {x : AV} {v : Value} (h : VRel w Own ρ x v) (hn : noTree x = true) : VRel w Own' ρ' x v := by
  induction h with
  | tree h => exact .tree (h.noTree hn)
  | agg hl _ ih => exact .agg hl (fun i x hx => ih i x hx (noTreeL_get (by simpa [SX.noTree] using hn) i x hx))
  | tup hl _ ih => exact .tup hl (fun i x hx => ih i x hx (noTreeL_get (by simpa [SX.noTree] using hn) i x hx))
  | fn hl _ ih => exact .fn hl (fun i x hx => ih i x hx (noTreeL_get (by simpa [SX.noTree] using hn) i x hx))
  | rop => simp [SX.noTree] at hn
  | ownnil => exact .ownnil
  | ownz h => exact .ownz (hm _ _ _ h)
  | own h h1 h2 => exact .own (hm _ _ _ h) h1 h2
  | ownc h h1 h2 => exact .ownc (hm _ _ _ h) h1 h2
  | ptr h => exact .ptr (hm _ _ _ h)
  | dead => exact .dead

def noTreeB : Blk → Bool
  | .arr _ _ es => es.all noTreeL
  | .obj _ cs => noTreeL cs

theorem BRel.noTree {w : World} {Own Own' : Nat → Prop} {ρ ρ' : Map} (hm : ∀ b k o, ρ b = some (k, o) → ρ' b = some (k, o)) {b : Nat} {blk : Blk} (h : BRel w Own ρ b blk) (hρ : ρ' b = ρ b) (hn : noTreeB blk = true) : BRel w Own' ρ' b blk := by
  cases blk with
  | arr ty sz es =>
    simp only [BRel] at h ⊢
    rw [hρ]
    split
    · rename_i e; rw [e] at h; exact h
    · rename_i k o e
      rw [e] at h
      obtain ⟨cur, h1, h2, h3, h4⟩ := h
      exact ⟨cur, h1, h2, h3, fun i j x hx => by
        obtain ⟨v, hv, h1v, ht⟩ := h4 i j x hx
        obtain ⟨e', he, hj⟩ := Option.bind_eq_some_iff.1 hx
        exact ⟨v, hv, h1v, ht.noTree (noTreeL_get (List.all_eq_true.1 hn e' (List.mem_of_getElem? he)) j x hj)⟩⟩
  | obj ty cs =>
    obtain ⟨k, cur, h0, h1, h2, h3⟩ := h
    exact ⟨k, cur, hρ.trans h0, h1, h2, fun j x hx => by
      obtain ⟨v, hv, h1v, ht⟩ := h3 j x hx
      exact ⟨v, hv, h1v, ht.noTree hm (noTreeL_get hn j x hx)⟩⟩

/-- Fewer blocks are somebody's: more is told. -/
theorem TRel.sub {w : World} {Own Own' : Nat → Prop} (h : ∀ k, Own' k → Own k) {x : AV} {v : Value} (ht : TRel w Own x v) : TRel w Own' x v :=
  ht.keep ⟨Nat.le_refl _, fun _ _ _ => rfl, fun k _ hk => h k hk⟩

def chkCall (o : Oper) (fs : Src) (xs : List Src) : Bool := match o.op with
  | .call c => (match c.callee with | .value y => srcOK y fs | _ => false) && okL c.args.toList xs
  | _ => false

section
variable {P : Program} {c : Ctx} {o : Oper} {st : St} {ρ : Map} {a : Act} {w : World}

theorem run_callv {f : FuncId} {cl : Call} {y : Operand} {caps : Array Value} (ho : o.op = .call cl) (hy : cl.callee = .value y) (hv : a.eval y = .func (.func f) #[] caps) (hf : fnOK P f = true) :
    (execOp a.eval o).run P w = .ok (.enter f (cl.args.map a.eval ++ caps)) w := by
  unfold fnOK at hf
  split at hf <;> try (cases hf; done)
  rename_i fn hfn
  simp only [Bool.and_eq_true, bne_iff_ne] at hf
  obtain ⟨h1, h2⟩ := hf
  have h3 : fn.body.isNone = false := by cases hb : fn.body <;> simp_all
  have h4 : (fn.name == "runtime.NumGoroutine") = false := by simpa using h2
  have h5 : fn.name ≠ "runtime.NumGoroutine" := h2
  have hcall : ∀ args, (callFunc f args).run P w = .ok (.enter f args) w := by
    intro args
    have hp : (program).run P w = .ok P w := rfl
    rw [callFunc, Sem.run_bind, hp, Result.andThen_ok]
    simp only [hfn, h4, h3, Bool.false_eq_true, if_false, Sem.run_pure]
  have : (execOp a.eval o) = callFunc f (#[] ++ cl.args.map a.eval ++ caps) := by
    unfold execOp
    rw [ho]
    simp only [resolve, hy, hv]
    rfl
  rw [this, hcall]
  simp


theorem fn_inv {w : World} {Own : Nat → Prop} {ρ : Map} {f : FuncId} {cs : List AV} {v : Value} (h : VRel w Own ρ (.fn f cs) v) : ∃ vs : Array Value, v = .func (.func f) #[] vs ∧ cs.length = vs.size ∧ ∀ (i : Nat) x, cs[i]? = some x → VRel w Own ρ x (vs.getD i undef) := by
  cases h with
  | tree h => cases h with
    | fn hl h => exact ⟨_, rfl, hl, fun i x hx => .tree (h i x hx)⟩
  | fn hl h => exact ⟨_, rfl, hl, h⟩

/-- What is handed over. -/
theorem handed (h : Conc c st ρ a w) {fs : Src} {xs : List Src} {f : FuncId} {caps args : List AV} {bs fixed : List Nat} {post : AV → Mem → Prop} (hc : chkCall o fs xs = true) (hf : st.src fs = some (.fn f caps)) (hx : srcsOf st.src xs = some args)
    (hD : Does P f (args ++ caps) (keepS bs st.mem) fixed post) (hr : refsInL (fun b => b ∈ bs) (args ++ caps)) (hm : ∀ b ∈ bs, ∀ blk, look st.mem b = some blk → blk.refs (fun b => b ∈ bs)) :
    ∃ vs, (execOp a.eval o).run P w = .ok (.enter f vs) w ∧ Calls P f vs w fun e w' => ∃ v r m' ρ', e = .returned v ∧ post r m' ∧ MemOK (fun k => c.B k ∨ ∃ b o', b ∉ bs ∧ ρ b = some (k, o')) m' ρ' w' ∧
      VRel w' (OwnBy (fun k => c.B k ∨ ∃ b o', b ∉ bs ∧ ρ b = some (k, o')) ρ') ρ' r v ∧ After w w' (fun b => if b ∈ bs then ρ b else none) ρ' fixed := by
  unfold chkCall at hc
  split at hc <;> try (cases hc; done)
  rename_i cl ho
  simp only [Bool.and_eq_true] at hc
  obtain ⟨hc1, hc2⟩ := hc
  split at hc1 <;> try (cases hc1; done)
  rename_i y hy
  obtain ⟨cv, hfv, hcl, hcr⟩ := fn_inv (h.srcs _ _ _ hc1 hf)
  obtain ⟨hal, har⟩ := srcs_list h.srcs hc2 hx
  refine ⟨cl.args.map a.eval ++ cv, run_callv ho hy hfv hD.1, ?_⟩
  have hk : KeepsV w w (OwnBy c.A ρ) (OwnBy (fun k => c.B k ∨ ∃ b o', b ∉ bs ∧ ρ b = some (k, o')) (fun b => if b ∈ bs then ρ b else none)) ρ (fun b => if b ∈ bs then ρ b else none) (fun b => b ∈ bs) := {
    size := Nat.le_refl _
    same := fun _ _ _ => rfl
    own := fun k _ hk => by
      rcases hk with (hk | ⟨b, o', _, hk⟩) | ⟨b, o', hk⟩
      · exact .inl (c.sub k hk)
      · exact .inr ⟨b, o', hk⟩
      · replace hk : (if b ∈ bs then ρ b else none) = some (k, o') := hk
        split at hk
        · exact .inr ⟨b, o', hk⟩
        · cases hk
    map := fun b hb k o' hρ => by simp only [hb, if_true]; exact hρ
    rows := fun k cur ty fr _ hh => ⟨cur, ty, fr, hh, rfl⟩
    lt := h.lt }
  refine hD.2 _ (fun b => if b ∈ bs then ρ b else none) w _ h.tab (fun q hq b o' hb => by
    split at hb
    · exact h.tabρ q hq _ _ hb
    · cases hb) ?_ ?_ ?_
  · refine { mem := ?_, dom := ?_, lt := ?_, inj := ?_, far := ?_, alt := ?_ }
    · intro b blk hl
      rw [look_keep] at hl
      split at hl <;> try (cases hl; done)
      rename_i hb
      have hb' : b ∈ bs := by simpa using hb
      exact (h.mem b blk hl).keep hk (by simp [hb']) (fun _ _ _ => rfl) (fun ty cs e => by have := hm b hb' blk hl; subst e; exact this)
    · intro b k o' hρ
      split at hρ
      · rename_i hb
        obtain ⟨blk, hl⟩ := h.dom b k o' hρ
        exact ⟨blk, by rw [look_keep, if_pos (by simpa using hb)]; exact hl⟩
      · cases hρ
    · intro b k o' hρ
      split at hρ
      · exact h.lt _ _ _ hρ
      · cases hρ
    · intro b1 b2 k o1 o2 h1 h2
      split at h1 <;> split at h2 <;> first | (cases h1; done) | (cases h2; done) | exact h.inj _ _ _ _ _ h1 h2
    · intro b k o' hρ hA
      split at hρ
      · rename_i hb
        rcases hA with hA | ⟨b', o2, hnb, hA⟩
        · exact h.far _ _ _ hρ hA
        · have := h.inj _ _ _ _ _ hρ hA
          subst this; exact hnb hb
      · cases hρ
    · intro k hA
      rcases hA with hA | ⟨b', o2, hnb, hA⟩
      · have := h.alt _ hA; have := h.size; omega
      · exact h.lt _ _ _ hA
  · simp only [List.length_append, Array.size_append, Array.size_map]
    have : cl.args.toList.length = cl.args.size := by simp
    omega
  · intro i x hx'
    have hri := refsInL_get hr i x hx'
    rcases Nat.lt_or_ge i args.length with hi | hi
    · rw [List.getElem?_append_left hi] at hx'
      have h1 := har i x hx'
      have hi' : i < cl.args.size := by have : cl.args.toList.length = cl.args.size := by simp
                                        omega
      have e1 : ((cl.args.toList.map a.eval).toArray.getD i undef) = (cl.args.map a.eval ++ cv).getD i undef := by
        simp only [Array.getD_eq_getD_getElem?]
        congr 1
        rw [Array.getElem?_append_left (by simpa using hi')]
        simp
      rw [e1] at h1
      exact h1.keep hk hri
    · rw [List.getElem?_append_right hi] at hx'
      have h1 := hcr _ x hx'
      have e0 : cl.args.toList.length = cl.args.size := by simp
      have e1 : cv.getD (i - args.length) undef = (cl.args.map a.eval ++ cv).getD i undef := by
        simp only [Array.getD_eq_getD_getElem?]
        congr 1
        rw [Array.getElem?_append_right (by simp; omega)]
        simp only [Array.size_map]
        congr 1; omega
      rw [e1] at h1
      exact h1.keep hk hri

/-- What comes of a step that calls. -/
def CallOK (P : Program) (c : Ctx) (o : Oper) (K : St → Prop) (X : Nat → Prop) (ρ : Map) (a : Act) (w : World) : Prop :=
  ∃ f vs, (execOp a.eval o).run P w = .ok (.enter f vs) w ∧ Calls P f vs w fun e w' => ∃ v st' ρ', e = .returned v ∧ K st' ∧ Conc c st' ρ' (a.put o.dst v) w' ∧
    (∀ k, k < w.heap.size → (∀ b o', X b → ρ b ≠ some (k, o')) → w'.heap[k]? = w.heap[k]?) ∧ (∀ b k o', ρ' b = some (k, o') → ρ b = some (k, o') ∨ (X b ∧ (w.heap.size ≤ k ∨ ∃ b0, X b0 ∧ ∃ o2, ρ b0 = some (k, o2)))) ∧ w.heap.size ≤ w'.heap.size

theorem Conc.put? {c : Ctx} {st : St} {ρ : Map} {a : Act} {w : World} (h : Conc c st ρ a w) {d : Option Nat} (hd : ∀ q, d = some q → q < a.tmps.size) {x : AV} {v : Value} (hx : VRel w (OwnBy c.A ρ) ρ x v) : Conc c (st.put? d x) ρ (a.put d v) w := by
  cases d with
  | none => exact h
  | some d => exact h.put (hd d rfl) hx

theorem call_ok (h : Conc c st ρ a w) {fs : Src} {xs : List Src} {f : FuncId} {caps args : List AV} {bs fixed : List Nat} {X : Nat → Prop} {post : AV → Mem → Prop} {K : St → Prop} (hlt : ∀ d, o.dst = some d → d < a.tmps.size) (hc : chkCall o fs xs = true) (hf : st.src fs = some (.fn f caps)) (hx : srcsOf st.src xs = some args)
    (hD : Does P f (args ++ caps) (keepS bs st.mem) fixed post) (hr : refsInL (fun b => b ∈ bs) (args ++ caps)) (hm : ∀ b ∈ bs, ∀ blk, look st.mem b = some blk → blk.refs (fun b => b ∈ bs)) (hfx : ∀ b ∈ st.fixed, b ∈ bs → b ∈ fixed) (hbw : ∀ b ∈ bs, X b)
    (hk : ∀ r m1, post r m1 → (∀ b blk, look m1 b = some blk → X b ∧ (b ∈ bs ∨ look st.mem b = none ∧ b ∉ st.fixed)) ∧ (c.A = c.B ∨ noTree r = true ∧ ∀ b blk, look m1 b = some blk → noTreeB blk = true) ∧ K ((callSt st bs fixed m1).put? o.dst r)) : CallOK P c o K X ρ a w := by
  obtain ⟨vs, hrun, hcalls⟩ := handed h hc hf hx hD hr hm
  refine ⟨f, vs, hrun, hcalls.mono ?_⟩
  rintro e w' ⟨v, r, m1, ρ', rfl, hpost, hM, hv, hA⟩
  obtain ⟨hnew, hnt, hK⟩ := hk r m1 hpost
  let ρ2 : Map := fun b => if (look m1 b).isSome then ρ' b else if b ∈ bs then none else ρ b
  have h2 : ∀ b k o', ρ2 b = some (k, o') → (∃ blk, look m1 b = some blk ∧ ρ' b = some (k, o')) ∨ (look m1 b = none ∧ b ∉ bs ∧ ρ b = some (k, o')) := by
    intro b k o' hb
    simp only [ρ2] at hb
    split at hb
    · rename_i hs
      exact .inl ⟨_, (Option.some_get hs).symm, hb⟩
    · rename_i hs
      split at hb
      · cases hb
      · rename_i hnb; exact .inr ⟨by simpa using hs, hnb, hb⟩
  have hin : ∀ b k o', ρ' b = some (k, o') → (∃ b0 ∈ bs, ∃ o0, ρ b0 = some (k, o0)) ∨ w.heap.size ≤ k := by
    intro b k o' hb
    rcases hA.mine _ _ _ hb with ⟨b0, o0, h0⟩ | h0
    · split at h0
      · rename_i hb0; exact .inl ⟨b0, hb0, o0, h0⟩
      · cases h0
    · exact .inr h0
  have hframe : ∀ k, k < w.heap.size → (∀ b o', b ∈ bs → ρ b ≠ some (k, o')) → w'.heap[k]? = w.heap[k]? := fun k hk hno => hA.frame k hk (fun b o' hb => by
    split at hb
    · rename_i hbb; exact hno b o' hbb hb
    · cases hb)
  have hkeep : KeepsV w w' (OwnBy c.A ρ) (OwnBy c.A ρ2) ρ ρ2 (fun b => b ∉ bs.filter fun b => !fixed.contains b) := {
    size := hA.size
    same := fun k hk hno => hframe k hk (fun b o' _ hb => hno (.inr ⟨b, o', hb⟩))
    own := fun k hk hO => by
      rcases hO with hO | ⟨b, o', hO⟩
      · exact .inl hO
      · rcases h2 _ _ _ hO with ⟨_, _, h3⟩ | ⟨_, _, h3⟩
        · rcases hin _ _ _ h3 with ⟨b0, _, o0, h0⟩ | h0
          · exact .inr ⟨b0, o0, h0⟩
          · omega
        · exact .inr ⟨b, o', h3⟩
    map := fun b hb k o' hρ => by
      simp only [List.mem_filter, not_and, Bool.not_eq_true, Bool.not_eq_false', List.contains_iff_mem] at hb
      simp only [ρ2]
      by_cases hbb : b ∈ bs
      · have hfix := hA.fix b (hb hbb)
        simp only [hbb, if_true] at hfix
        obtain ⟨blk, hl⟩ := hM.dom b k o' (hfix.trans hρ)
        simp [hl, hfix, hρ]
      · have hn : look m1 b = none := by
          cases hl : look m1 b with
          | none => rfl
          | some blk =>
            rcases (hnew b blk hl).2 with h3 | h3
            · exact absurd h3 hbb
            · obtain ⟨blk2, h4⟩ := h.dom b k o' hρ
              rw [h3.1] at h4; cases h4
        simp [hn, hbb, hρ]
    rows := hA.rows
    lt := h.lt }
  have hmap2 : ∀ b k o', ρ' b = some (k, o') → ρ2 b = some (k, o') := fun b k o' hb => by
      obtain ⟨blk, hl⟩ := hM.dom b k o' hb
      simp only [ρ2, hl, Option.isSome_some, if_true]; exact hb
  have hkeep2 : c.A = c.B → KeepsV w' w' (OwnBy (fun k => c.B k ∨ ∃ b o', b ∉ bs ∧ ρ b = some (k, o')) ρ') (OwnBy c.A ρ2) ρ' ρ2 (fun _ => True) := fun hstd => {
    size := Nat.le_refl _
    same := fun _ _ _ => rfl
    own := fun k _ hO => by
      rcases hO with hO | ⟨b, o', hO⟩
      · exact .inl (.inl (hstd ▸ hO))
      · rcases h2 _ _ _ hO with ⟨_, _, h3⟩ | ⟨_, hnb, h3⟩
        · exact .inr ⟨b, o', h3⟩
        · exact .inl (.inr ⟨b, o', hnb, h3⟩)
    map := fun b _ k o' hb => hmap2 b k o' hb
    rows := fun k cur ty fr _ hh => ⟨cur, ty, fr, hh, rfl⟩
    lt := hM.lt }
  have hconc : Conc c (callSt st bs fixed m1) ρ2 a w' := by
    refine { slots := ?_, defers := h.defers, mem := ?_, dom := ?_, lt := ?_, inj := ?_, mine := ?_, far := ?_, fix := ?_, alt := h.alt, os := hA.os.trans h.os, tape := hA.tape.trans h.tape, output := hA.output.trans h.output, size := Nat.le_trans h.size hA.size, frame := ?_, rows := h.rows' hkeep }
    · intro d x hx
      simp only [callSt, look_mapv] at hx
      obtain ⟨y, hy, rfl⟩ := Option.map_eq_some_iff.1 hx
      exact ((h.slots d y hy).killAll _).keep hkeep (refs_killAll _ y)
    · intro b blk hl
      simp only [callSt, look_append] at hl
      split at hl
      · rename_i blk2 hl2
        injection hl with hl; subst hl
        have he2 : ρ2 b = ρ' b := by simp only [ρ2, hl2, Option.isSome_some, if_true]
        rcases hnt with hstd | ⟨_, hnt⟩
        · exact (hM.mem b _ hl2).keep (hkeep2 hstd) he2 (fun _ _ _ => rfl) (fun _ cs _ => refs_allL cs)
        · exact (hM.mem b _ hl2).noTree hmap2 he2 (hnt b _ hl2)
      · rename_i hn
        simp only [look_mapv, look_dropAll] at hl
        split at hl
        · cases hl
        · rename_i hnb
          have hnb' : b ∉ bs := by simpa using hnb
          obtain ⟨blk0, hl0, rfl⟩ := Option.map_eq_some_iff.1 hl
          have hB := (h.mem b blk0 hl0).killAllB (bs.filter fun b => !fixed.contains b)
          refine hB.keep hkeep (by simp only [ρ2, hn, Option.isSome_none, Bool.false_eq_true, if_false, hnb']) (fun k o' hb => hframe k (h.lt _ _ _ hb) (fun b0 o0 hb0 h0 => ?_)) (fun ty cs e => by
            have := refs_killAllB (bs.filter fun b => !fixed.contains b) blk0
            rw [e] at this; exact this)
          have := h.inj _ _ _ _ _ hb h0
          subst this; exact hnb' hb0
    · intro b k o' hb
      simp only [callSt, look_append]
      rcases h2 _ _ _ hb with ⟨blk, hl, _⟩ | ⟨hn, hnb, h3⟩
      · exact ⟨blk, by simp [hl]⟩
      · obtain ⟨blk, hl⟩ := h.dom _ _ _ h3
        exact ⟨_, by simp only [hn, look_mapv, look_dropAll]; rw [if_neg (by simpa using hnb), hl]; rfl⟩
    · intro b k o' hb
      rcases h2 _ _ _ hb with ⟨_, _, h3⟩ | ⟨_, _, h3⟩
      · exact hM.lt _ _ _ h3
      · exact Nat.lt_of_lt_of_le (h.lt _ _ _ h3) hA.size
    · intro b1 b2 k o1 o2 hb1 hb2
      rcases h2 _ _ _ hb1 with ⟨_, _, h3⟩ | ⟨_, hn3, h3⟩ <;> rcases h2 _ _ _ hb2 with ⟨_, _, h4⟩ | ⟨_, hn4, h4⟩
      · exact hM.inj _ _ _ _ _ h3 h4
      · exact absurd (Or.inr ⟨b2, o2, hn4, h4⟩) (hM.far _ _ _ h3)
      · exact absurd (Or.inr ⟨b1, o1, hn3, h3⟩) (hM.far _ _ _ h4)
      · exact h.inj _ _ _ _ _ h3 h4
    · intro b k o' hb
      rcases h2 _ _ _ hb with ⟨_, _, h3⟩ | ⟨_, _, h3⟩
      · rcases hin _ _ _ h3 with ⟨b0, _, o0, h0⟩ | h0
        · exact h.mine _ _ _ h0
        · exact .inr (Nat.le_trans h.size h0)
      · exact h.mine _ _ _ h3
    · intro b k o' hb hAk
      rcases h2 _ _ _ hb with ⟨_, _, h3⟩ | ⟨_, _, h3⟩
      · exact hM.far _ _ _ h3 (.inl hAk)
      · exact h.far _ _ _ h3 hAk
    · intro b hb
      have hb' : b ∈ st.fixed := hb
      rw [← h.fix b hb']
      simp only [ρ2]
      by_cases hbb : b ∈ bs
      · have hfix := hA.fix b (hfx b hb' hbb)
        simp only [hbb, if_true] at hfix
        rw [hfix]
        split
        · rfl
        · rename_i hs
          cases hρ : ρ b with
          | none => first | rfl | simp [hbb]
          | some p =>
            obtain ⟨k, o'⟩ := p
            obtain ⟨blk, hl⟩ := hM.dom b k o' (hfix.trans hρ)
            simp [hl] at hs
      · rw [if_neg hbb]
        split
        · rename_i hs
          obtain ⟨blk, hl⟩ := Option.isSome_iff_exists.1 hs
          rcases (hnew b blk hl).2 with h3 | h3
          · exact absurd h3 hbb
          · exact absurd hb' h3.2
        · rfl
    · intro k hk hF
      rw [hframe k (by have := h.size; omega) (fun b o' _ hb => ?_)]
      · exact h.frame k hk hF
      · rcases h.mine _ _ _ hb with h3 | h3
        · exact hF h3
        · omega
  refine ⟨v, _, ρ2, rfl, hK, hconc.put? hlt (by
    rcases hnt with hstd | ⟨hnt, _⟩
    · exact hv.keep (hkeep2 hstd) (refs_all r)
    · exact hv.noTree hmap2 hnt), fun k hk hno => hframe k hk (fun b o' hb => hno b o' (hbw b hb)), fun b k o' hb => ?_, hA.size⟩
  rcases h2 _ _ _ hb with ⟨blk, hl, h3⟩ | ⟨_, _, h3⟩
  · rcases hin _ _ _ h3 with ⟨b0, hb0, o0, h0⟩ | h0
    · exact .inr ⟨(hnew b blk hl).1, .inr ⟨b0, hbw _ hb0, o0, h0⟩⟩
    · exact .inr ⟨(hnew b blk hl).1, .inl h0⟩
  · exact .inl h3

/-- Trees may lead to more. -/
theorem Conc.less' (h : Conc c st ρ a w) : Conc { c with A := c.B, sub := fun _ h => h } st ρ a w := by
  have hk : KeepsV w w (OwnBy c.A ρ) (OwnBy c.B ρ) ρ ρ (fun _ => True) := { size := Nat.le_refl _, same := fun _ _ _ => rfl, own := fun k _ hk => hk.imp (c.sub k) id, map := fun _ _ _ _ h => h, rows := fun k cur ty fr _ hh => ⟨cur, ty, fr, hh, rfl⟩, lt := h.lt }
  exact { slots := fun d x hx => (h.slots d x hx).keep hk (refs_all x), defers := h.defers, mem := fun b blk hb => (h.mem b blk hb).keep hk rfl (fun _ _ _ => rfl) (fun _ cs _ => refs_allL cs), dom := h.dom, lt := h.lt, inj := h.inj, mine := h.mine, far := h.far, fix := h.fix, alt := h.alt, os := h.os, tape := h.tape, output := h.output, size := h.size, frame := h.frame, rows := h.rows }

/-- A call that sees rows of one's own as trees, and answers no tree. -/
theorem view_ok (h : Conc c st ρ a w) {stF : St} (hle : St.le { st with fixed := [] } stF) {fs : Src} {xs : List Src} {f : FuncId} {caps args : List AV} {fixed : List Nat} {post : AV → Mem → Prop} {K : St → Prop} (hlt : ∀ d, o.dst = some d → d < a.tmps.size) (hc : chkCall o fs xs = true) (hf : stF.src fs = some (.fn f caps)) (hx : srcsOf stF.src xs = some args)
    (hD : Does P f (args ++ caps) [] fixed post) (hr : refsInL (fun _ => False) (args ++ caps))
    (hk : ∀ r m1, post r m1 → m1 = [] ∧ noTree r = true ∧ K (st.put? o.dst r)) (X : Nat → Prop) : CallOK P c o K X ρ a w := by
  obtain ⟨ρF, hF, hsub⟩ := hle { c with A := c.B, sub := fun _ h => h } ρ a w rfl { h.less' with fix := fun b hb => by simp at hb }
  have hnil : keepS [] stF.mem = ([] : Mem) := by simp [keepS]
  obtain ⟨vs, hrun, hcalls⟩ := handed (bs := []) hF hc hf hx (by rw [hnil]; exact hD) (refs_impL (fun _ h => h.elim) _ hr) (fun b hb => by simp at hb)
  refine ⟨f, vs, hrun, hcalls.mono ?_⟩
  rintro e w' ⟨v, r, m1, ρ', rfl, hpost, hM, hv, hA⟩
  obtain ⟨rfl, hnt, hK⟩ := hk r m1 hpost
  have hframe : ∀ k, k < w.heap.size → w'.heap[k]? = w.heap[k]? := fun k hk => hA.frame k hk (fun b o' hb => by simp at hb)
  have hkeep : KeepsV w w' (OwnBy c.A ρ) (OwnBy c.A ρ) ρ ρ (fun _ => True) := {
    size := hA.size, same := fun k hk _ => hframe k hk, own := fun _ _ h => h, map := fun _ _ _ _ h => h, rows := hA.rows, lt := h.lt }
  have hρ' : ∀ b, ρ' b = none := fun b => by
    cases hb : ρ' b with
    | none => rfl
    | some p => obtain ⟨k, o'⟩ := p; obtain ⟨blk, hl⟩ := hM.dom b k o' hb; simp [look] at hl
  have hconc : Conc c st ρ a w' := { slots := fun d x hx => (h.slots d x hx).keep hkeep (refs_all x), defers := h.defers, mem := fun b blk hb => (h.mem b blk hb).keep hkeep rfl (fun k o' hρ => hframe k (h.lt _ _ _ hρ)) (fun _ cs _ => refs_allL cs), dom := h.dom, lt := fun b k o' hb => Nat.lt_of_lt_of_le (h.lt _ _ _ hb) hA.size, inj := h.inj, mine := h.mine, far := h.far, fix := h.fix, alt := h.alt, os := hA.os.trans h.os, tape := hA.tape.trans h.tape, output := hA.output.trans h.output, size := Nat.le_trans h.size hA.size, frame := fun k hk hf => (hframe k (Nat.lt_of_lt_of_le hk h.size)).trans (h.frame k hk hf), rows := h.rows' hkeep }
  exact ⟨v, _, ρ, rfl, hK, hconc.put? hlt (hv.noTree (fun b k o' hb => by rw [hρ'] at hb; cases hb) hnt), fun k hk _ => hframe k hk, fun b k o' hb => .inl hb, hA.size⟩

end
end Go.SX
