/- Parts of a symbolic execution and of walks by it, for the statements of this seat: SxF, SxG, SxH, SxK, SxI, SxM. -/
import Derived.Test.YtdekelhmneeniaaQb1
import Derived.Scope
import Derived.OrdersIn
set_option linter.unusedVariables false
set_option linter.unusedSimpArgs false
namespace Go.SX
open Go
structure MemOK (A : Nat → Prop) (m : Mem) (ρ : Map) (w : World) : Prop where
  mem : ∀ b blk, look m b = some blk → BRel w (OwnBy A ρ) ρ b blk
  dom : ∀ b k o, ρ b = some (k, o) → ∃ blk, look m b = some blk
  lt : ∀ b k o, ρ b = some (k, o) → k < w.heap.size
  inj : ∀ b b' k o o', ρ b = some (k, o) → ρ b' = some (k, o') → b = b'
  far : ∀ b k o, ρ b = some (k, o) → ¬ A k
  alt : ∀ k, A k → k < w.heap.size
structure After (w w' : World) (ρ ρ' : Map) (fixed : List Nat) : Prop where
  os : w'.os = w.os
  tape : w'.tape = w.tape
  output : OutLe w' w
  size : w.heap.size ≤ w'.heap.size
  frame : ∀ k, k < w.heap.size → (∀ b o, ρ b ≠ some (k, o)) → w'.heap[k]? = w.heap[k]?
  mine : ∀ b k o, ρ' b = some (k, o) → (∃ b0 o0, ρ b0 = some (k, o0)) ∨ w.heap.size ≤ k
  fix : ∀ b ∈ fixed, ρ' b = ρ b
  rows : ∀ k cur ty fr, k < w.heap.size → w'.heap[k]? = some (.cells cur ty fr) → ∃ cur0 ty0 fr0, w.heap[k]? = some (.cells cur0 ty0 fr0) ∧ cur0.size = cur.size
def fnOK (P : Program) (f : FuncId) : Bool := match P.funcs[f]? with
  | some fn => fn.body.isSome && fn.name != "runtime.NumGoroutine"
  | none => false
def Does (P : Program) (f : FuncId) (args : List AV) (m : Mem) (fixed : List Nat) (post : AV → Mem → Prop) : Prop :=
  fnOK P f = true ∧ ∀ (A : Nat → Prop) (ρ : Map) (w : World) (vs : Array Value), theTab.p w → (∀ q, theTab.k q → ∀ b o, ρ b ≠ some (q, o)) → MemOK A m ρ w → args.length = vs.size → (∀ (i : Nat) x, args[i]? = some x → VRel w (OwnBy A ρ) ρ x (vs.getD i undef)) →
    Calls P f vs w fun e w' => ∃ v r m' ρ', e = .returned v ∧ post r m' ∧ MemOK A m' ρ' w' ∧ VRel w' (OwnBy A ρ') ρ' r v ∧ After w w' ρ ρ' fixed
theorem Does.mono {P : Program} {f : FuncId} {args : List AV} {m : Mem} {fixed : List Nat} {post post' : AV → Mem → Prop} (h : Does P f args m fixed post) (hp : ∀ r m', post r m' → post' r m') : Does P f args m fixed post' :=
  ⟨h.1, fun A ρ w vs t1 t2 h1 h2 h3 => (h.2 A ρ w vs t1 t2 h1 h2 h3).mono fun _ _ ⟨v, r, m', ρ', e, h4, h5⟩ => ⟨v, r, m', ρ', e, hp _ _ h4, h5⟩⟩
def killAll (ks : List Nat) (x : AV) : AV := ks.foldl (fun x b => kill b x) x
def killAllB (ks : List Nat) (x : Blk) : Blk := ks.foldl (fun x b => killB b x) x
mutual
theorem refs_kill_mono {S : Nat → Prop} (b : Nat) : ∀ x, refsIn S x → refsIn S (kill b x)
  | .agg cs, h => by simp only [kill, refsIn] at h ⊢; exact refs_killL_mono b cs h
  | .tup cs, h => by simp only [kill, refsIn] at h ⊢; exact refs_killL_mono b cs h
  | .fn f cs, h => by simp only [kill, refsIn] at h ⊢; exact refs_killL_mono b cs h
  | .own b' sz lo n, h => by simp only [kill]; split; trivial; exact h
  | .ownc b' sz lo n cap, h => by simp only [kill]; split; trivial; exact h
  | .ptr b' sz i j, h => by simp only [kill]; split; trivial; exact h
  | .mapr b', h => by simp only [kill]; split; trivial; exact h
  | .lit _, h => h
  | .nils _, h => h
  | .ro _ _, h => h
  | .rop _ _ _ _, h => h
  | .dead, h => h
theorem refs_killL_mono {S : Nat → Prop} (b : Nat) : ∀ cs, refsInL S cs → refsInL S (killL b cs)
  | [], _ => trivial
  | x :: r, h => ⟨refs_kill_mono b x h.1, refs_killL_mono b r h.2⟩
end
mutual
theorem refs_and {S T : Nat → Prop} : ∀ x, refsIn S x → refsIn T x → refsIn (fun k => S k ∧ T k) x
  | .agg cs, h, h' => by simp only [refsIn] at h h' ⊢; exact refs_andL cs h h'
  | .tup cs, h, h' => by simp only [refsIn] at h h' ⊢; exact refs_andL cs h h'
  | .fn f cs, h, h' => by simp only [refsIn] at h h' ⊢; exact refs_andL cs h h'
  | .own b' sz lo n, h, h' => ⟨h, h'⟩
  | .ownc b' sz lo n cap, h, h' => ⟨h, h'⟩
  | .ptr b' sz i j, h, h' => ⟨h, h'⟩
  | .mapr b', h, h' => ⟨h, h'⟩
  | .lit _, h, _ => h
  | .nils _, h, _ => h
  | .ro _ _, h, _ => h
  | .rop _ _ _ _, h, _ => h
  | .dead, h, _ => h
theorem refs_andL {S T : Nat → Prop} : ∀ cs, refsInL S cs → refsInL T cs → refsInL (fun k => S k ∧ T k) cs
  | [], _, _ => trivial
  | x :: r, h, h' => ⟨refs_and x h.1 h'.1, refs_andL r h.2 h'.2⟩
end
mutual
theorem refs_imp {S T : Nat → Prop} (hi : ∀ k, S k → T k) : ∀ x, refsIn S x → refsIn T x
  | .agg cs, h => by simp only [refsIn] at h ⊢; exact refs_impL hi cs h
  | .tup cs, h => by simp only [refsIn] at h ⊢; exact refs_impL hi cs h
  | .fn f cs, h => by simp only [refsIn] at h ⊢; exact refs_impL hi cs h
  | .own b' sz lo n, h => hi _ h
  | .ownc b' sz lo n cap, h => hi _ h
  | .ptr b' sz i j, h => hi _ h
  | .mapr b', h => hi _ h
  | .lit _, h => h
  | .nils _, h => h
  | .ro _ _, h => h
  | .rop _ _ _ _, h => h
  | .dead, h => h
theorem refs_impL {S T : Nat → Prop} (hi : ∀ k, S k → T k) : ∀ cs, refsInL S cs → refsInL T cs
  | [], _ => trivial
  | x :: r, h => ⟨refs_imp hi x h.1, refs_impL hi r h.2⟩
end
theorem refs_killAll : ∀ (ks : List Nat) (x : AV), refsIn (fun k => k ∉ ks) (killAll ks x)
  | [], x => refs_imp (fun _ _ => by simp) x (refs_all x)
  | b :: r, x => by
    have h1 := refs_killAll r (kill b x)
    have h2 : ∀ (ks : List Nat) x, refsIn (fun k => k ≠ b) x → refsIn (fun k => k ≠ b) (killAll ks x) := by
      intro ks
      induction ks with
      | nil => exact fun x h => h
      | cons q r ih => exact fun x h => ih _ (refs_kill_mono q x h)
    exact refs_imp (fun k hk => by simp only [List.mem_cons, not_or]; exact ⟨hk.2, hk.1⟩) _ (refs_and _ h1 (h2 r _ (refs_kill b x)))
theorem VRel.killAll {w : World} {Own : Nat → Prop} {ρ : Map} : ∀ (ks : List Nat) {x : AV} {v : Value}, VRel w Own ρ x v → VRel w Own ρ (killAll ks x) v
  | [], _, _, h => h
  | b :: r, _, _, h => VRel.killAll r (h.kill b)
theorem killB_get (b : Nat) (blk : Blk) : killB b blk = match blk with | .arr ty sz es => .arr ty sz es | .obj ty cs => .obj ty (killL b cs) | .map es => .map es := by cases blk <;> rfl
theorem BRel.killB {w : World} {Own : Nat → Prop} {ρ : Map} {b' : Nat} {blk : Blk} (b : Nat) (h : BRel w Own ρ b' blk) : BRel w Own ρ b' (killB b blk) := by
  cases blk with
  | arr ty sz es => exact h
  | map es => exact h
  | obj ty cs =>
    obtain ⟨k, cur, h0, h1, h2, h3⟩ := h
    refine ⟨k, cur, h0, h1, by rw [killL_length]; exact h2, fun j x hx => ?_⟩
    rw [killL_get] at hx
    obtain ⟨y, hy, rfl⟩ := Option.map_eq_some_iff.1 hx
    obtain ⟨v, hv, h1v, ht⟩ := h3 j y hy
    exact ⟨v, hv, h1v, ht.kill b⟩
theorem BRel.killAllB {w : World} {Own : Nat → Prop} {ρ : Map} {b' : Nat} : ∀ (ks : List Nat) {blk : Blk}, BRel w Own ρ b' blk → BRel w Own ρ b' (killAllB ks blk)
  | [], _, h => h
  | b :: r, _, h => BRel.killAllB r (h.killB b)
theorem Blk.refs_killB_mono {S : Nat → Prop} (b : Nat) : ∀ x : Blk, x.refs S → (killB b x).refs S
  | .arr .., _ => trivial
  | .map .., _ => trivial
  | .obj _ cs, h => refs_killL_mono b cs h
theorem Blk.refs_killB (b : Nat) : ∀ x : Blk, (killB b x).refs (fun k => k ≠ b)
  | .arr .. => trivial
  | .map .. => trivial
  | .obj _ cs => refs_killL b cs
theorem Blk.refs_and {S T : Nat → Prop} : ∀ x : Blk, x.refs S → x.refs T → x.refs (fun k => S k ∧ T k)
  | .arr .., _, _ => trivial
  | .map .., _, _ => trivial
  | .obj _ cs, h, h' => refs_andL cs h h'
theorem Blk.refs_imp {S T : Nat → Prop} (hi : ∀ k, S k → T k) : ∀ x : Blk, x.refs S → x.refs T
  | .arr .., _ => trivial
  | .map .., _ => trivial
  | .obj _ cs, h => refs_impL hi cs h
theorem refs_killAllB : ∀ (ks : List Nat) (x : Blk), (killAllB ks x).refs (fun k => k ∉ ks)
  | [], x => by cases x with
    | arr => trivial
    | map => trivial
    | obj _ cs => exact refs_impL (fun _ _ => by simp) cs (refs_allL cs)
  | b :: r, x => by
    have h1 := refs_killAllB r (killB b x)
    have h2 : ∀ (ks : List Nat) (x : Blk), x.refs (fun k => k ≠ b) → (killAllB ks x).refs (fun k => k ≠ b) := by
      intro ks
      induction ks with
      | nil => exact fun x h => h
      | cons q r ih => exact fun x h => ih _ (Blk.refs_killB_mono q x h)
    exact Blk.refs_imp (fun k hk => by simp only [List.mem_cons, not_or]; exact ⟨hk.2, hk.1⟩) _ (Blk.refs_and _ h1 (h2 r _ (Blk.refs_killB b x)))
def dropAll {α : Type} (bs : List Nat) (l : List (Nat × α)) : List (Nat × α) := l.filter fun p => !bs.contains p.1
theorem look_dropAll {α : Type} (ds : List Nat) : ∀ (l : List (Nat × α)) (d : Nat), look (dropAll ds l) d = if ds.contains d then none else look l d
  | [], d => by simp [dropAll, look]
  | (k, v) :: r, d => by
    have ih := look_dropAll ds r d
    simp only [dropAll] at ih ⊢
    by_cases hk : ds.contains k = true
    · rw [List.filter_cons_of_neg (by simpa using hk), ih]
      by_cases e : k = d
      · subst e; rw [if_pos hk, if_pos hk]
      · simp only [look, e, if_false]
    · rw [List.filter_cons_of_pos (by simpa using hk)]
      simp only [look]
      by_cases e : k = d
      · subst e; rw [if_pos rfl, if_pos rfl, if_neg hk]
      · simp only [e, if_false]; exact ih
theorem look_append {α : Type} : ∀ (l m : List (Nat × α)) (d : Nat), look (l ++ m) d = match look l d with | some x => some x | none => look m d
  | [], _, _ => rfl
  | (k, v) :: r, m, d => by
    simp only [List.cons_append, look]
    split
    · rfl
    · exact look_append r m d
def callSt (st : St) (bs fixed : List Nat) (m1 : Mem) : St :=
  ⟨st.slots.map fun p => (p.1, killAll (bs.filter fun b => !fixed.contains b) p.2), m1 ++ (dropAll bs st.mem).map fun p => (p.1, killAllB (bs.filter fun b => !fixed.contains b) p.2), st.fixed⟩
def St.put? (st : St) (d : Option Nat) (r : AV) : St := match d with
  | some d => st.put d r
  | none => st
mutual
def noTree : AV → Bool
  | .agg cs => noTreeL cs
  | .tup cs => noTreeL cs
  | .fn _ cs => noTreeL cs
  | .ro _ _ => false
  | .rop _ _ _ _ => false
  | .mapr _ => false
  | _ => true
def noTreeL : List AV → Bool
  | [] => true
  | x :: r => noTree x && noTreeL r
end
theorem noTreeL_get : ∀ {cs : List AV}, noTreeL cs = true → ∀ (i : Nat) x, cs[i]? = some x → noTree x = true
  | [], _, i, x, h => by simp at h
  | y :: r, hr, 0, x, h => by simp at h; subst h; exact (Bool.and_eq_true _ _ ▸ hr).1
  | y :: r, hr, i + 1, x, h => noTreeL_get ((Bool.and_eq_true _ _ ▸ hr).2) i x (by simpa using h)
theorem TRel.noTree {w w' : World} {Own Own' : Nat → Prop} {x : AV} {v : Value} (h : TRel w Own x v) (hn : noTree x = true) : TRel w' Own' x v := by
  induction h with
  | lit h => exact .lit h
  | nils => exact .nils
  | ronil => exact .ronil
  | ro => simp [SX.noTree] at hn
  | agg hl _ ih => exact .agg hl (fun i x hx => ih i x hx (noTreeL_get (by simpa [SX.noTree] using hn) i x hx))
  | tup hl _ ih => exact .tup hl (fun i x hx => ih i x hx (noTreeL_get (by simpa [SX.noTree] using hn) i x hx))
  | fn hl _ ih => exact .fn hl (fun i x hx => ih i x hx (noTreeL_get (by simpa [SX.noTree] using hn) i x hx))
theorem VRel.noTree {w : World} {Own Own' : Nat → Prop} {ρ ρ' : Map} (hm : ∀ b k o, ρ b = some (k, o) → ρ' b = some (k, o)) {x : AV} {v : Value} (h : VRel w Own ρ x v) (hn : noTree x = true) : VRel w Own' ρ' x v := by
  induction h with
  | tree h => exact .tree (h.noTree hn)
  | agg hl _ ih => exact .agg hl (fun i x hx => ih i x hx (noTreeL_get (by simpa [SX.noTree] using hn) i x hx))
  | tup hl _ ih => exact .tup hl (fun i x hx => ih i x hx (noTreeL_get (by simpa [SX.noTree] using hn) i x hx))
  | fn hl _ ih => exact .fn hl (fun i x hx => ih i x hx (noTreeL_get (by simpa [SX.noTree] using hn) i x hx))
  | rop => simp [SX.noTree] at hn
  | ownnil => exact .ownnil
  | ownz h => exact .ownz (hm _ _ _ h)
  | own h h1 h2 => exact .own (hm _ _ _ h) h1 h2
  | ownc h h1 h2 => exact .ownc (hm _ _ _ h) h1 h2
  | ptr h => exact .ptr (hm _ _ _ h)
  | mapr h => exact .mapr (hm _ _ _ h)
  | dead => exact .dead
def noTreeB : Blk → Bool
  | .arr _ _ es => es.all noTreeL
  | .obj _ cs => noTreeL cs
  | .map es => es.all fun p => noTree p.1 && noTree p.2
theorem BRel.noTree {w : World} {Own Own' : Nat → Prop} {ρ ρ' : Map} (hm : ∀ b k o, ρ b = some (k, o) → ρ' b = some (k, o)) {b : Nat} {blk : Blk} (h : BRel w Own ρ b blk) (hρ : ρ' b = ρ b) (hn : noTreeB blk = true) : BRel w Own' ρ' b blk := by
  cases blk with
  | arr ty sz es =>
    simp only [BRel] at h ⊢
    rw [hρ]
    split
    · rename_i e; rw [e] at h; exact h
    · rename_i k o e
      rw [e] at h
      obtain ⟨cur, h1, h2, h3, h4⟩ := h
      exact ⟨cur, h1, h2, h3, fun i j x hx => by
        obtain ⟨v, hv, h1v, ht⟩ := h4 i j x hx
        obtain ⟨e', he, hj⟩ := Option.bind_eq_some_iff.1 hx
        exact ⟨v, hv, h1v, ht.noTree (noTreeL_get (List.all_eq_true.1 hn e' (List.mem_of_getElem? he)) j x hj)⟩⟩
  | obj ty cs =>
    obtain ⟨k, cur, h0, h1, h2, h3⟩ := h
    exact ⟨k, cur, hρ.trans h0, h1, h2, fun j x hx => by
      obtain ⟨v, hv, h1v, ht⟩ := h3 j x hx
      exact ⟨v, hv, h1v, ht.noTree hm (noTreeL_get hn j x hx)⟩⟩
  | map es =>
    obtain ⟨k, es', clock, h0, h1, h2, h3⟩ := h
    exact ⟨k, es', clock, hρ.trans h0, h1, h2, fun i p hp => by
      obtain ⟨e, he, hk1, ht⟩ := h3 i p hp
      have hn2 := List.all_eq_true.1 hn p (List.mem_of_getElem? hp)
      simp only [Bool.and_eq_true] at hn2
      exact ⟨e, he, hk1.noTree hn2.1, ht.noTree hn2.2⟩⟩
theorem TRel.sub {w : World} {Own Own' : Nat → Prop} (h : ∀ k, Own' k → Own k) {x : AV} {v : Value} (ht : TRel w Own x v) : TRel w Own' x v :=
  ht.keep ⟨Nat.le_refl _, fun _ _ _ => rfl, fun k _ hk => h k hk⟩
def chkCall (o : Oper) (fs : Src) (xs : List Src) : Bool := match o.op with
  | .call c => (match c.callee with | .value y => srcOK y fs | _ => false) && okL c.args.toList xs
  | _ => false
section
variable {P : Program} {c : Ctx} {o : Oper} {st : St} {ρ : Map} {a : Act} {w : World}
theorem run_callv {f : FuncId} {cl : Call} {y : Operand} {caps : Array Value} (ho : o.op = .call cl) (hy : cl.callee = .value y) (hv : a.eval y = .func (.func f) #[] caps) (hf : fnOK P f = true) :
    (execOp a.eval o).run P w = .ok (.enter f (cl.args.map a.eval ++ caps)) w := by
  unfold fnOK at hf
  split at hf <;> try (cases hf; done)
  rename_i fn hfn
  simp only [Bool.and_eq_true, bne_iff_ne] at hf
  obtain ⟨h1, h2⟩ := hf
  have h3 : fn.body.isNone = false := by cases hb : fn.body <;> simp_all
  have h4 : (fn.name == "runtime.NumGoroutine") = false := by simpa using h2
  have h5 : fn.name ≠ "runtime.NumGoroutine" := h2
  have hcall : ∀ args, (callFunc f args).run P w = .ok (.enter f args) w := by
    intro args
    have hp : (program).run P w = .ok P w := rfl
    rw [callFunc, Sem.run_bind, hp, Result.andThen_ok]
    simp only [hfn, h4, h3, Bool.false_eq_true, if_false, Sem.run_pure]
  have : (execOp a.eval o) = callFunc f (#[] ++ cl.args.map a.eval ++ caps) := by
    unfold execOp
    rw [ho]
    simp only [resolve, hy, hv]
    rfl
  rw [this, hcall]
  simp
theorem fn_inv {w : World} {Own : Nat → Prop} {ρ : Map} {f : FuncId} {cs : List AV} {v : Value} (h : VRel w Own ρ (.fn f cs) v) : ∃ vs : Array Value, v = .func (.func f) #[] vs ∧ cs.length = vs.size ∧ ∀ (i : Nat) x, cs[i]? = some x → VRel w Own ρ x (vs.getD i undef) := by
  cases h with
  | tree h => cases h with
    | fn hl h => exact ⟨_, rfl, hl, fun i x hx => .tree (h i x hx)⟩
  | fn hl h => exact ⟨_, rfl, hl, h⟩
theorem handed (h : Conc c st ρ a w) {fs : Src} {xs : List Src} {f : FuncId} {caps args : List AV} {bs fixed : List Nat} {post : AV → Mem → Prop} (hc : chkCall o fs xs = true) (hf : st.src fs = some (.fn f caps)) (hx : srcsOf st.src xs = some args)
    (hD : Does P f (args ++ caps) (keepS bs st.mem) fixed post) (hr : refsInL (fun b => b ∈ bs) (args ++ caps)) (hm : ∀ b ∈ bs, ∀ blk, look st.mem b = some blk → blk.refs (fun b => b ∈ bs)) :
    ∃ vs, (execOp a.eval o).run P w = .ok (.enter f vs) w ∧ Calls P f vs w fun e w' => ∃ v r m' ρ', e = .returned v ∧ post r m' ∧ MemOK (fun k => c.B k ∨ ∃ b o', b ∉ bs ∧ ρ b = some (k, o')) m' ρ' w' ∧
      VRel w' (OwnBy (fun k => c.B k ∨ ∃ b o', b ∉ bs ∧ ρ b = some (k, o')) ρ') ρ' r v ∧ After w w' (fun b => if b ∈ bs then ρ b else none) ρ' fixed := by
  unfold chkCall at hc
  split at hc <;> try (cases hc; done)
  rename_i cl ho
  simp only [Bool.and_eq_true] at hc
  obtain ⟨hc1, hc2⟩ := hc
  split at hc1 <;> try (cases hc1; done)
  rename_i y hy
  obtain ⟨cv, hfv, hcl, hcr⟩ := fn_inv (h.srcs _ _ _ hc1 hf)
  obtain ⟨hal, har⟩ := srcs_list h.srcs hc2 hx
  refine ⟨cl.args.map a.eval ++ cv, run_callv ho hy hfv hD.1, ?_⟩
  have hk : KeepsV w w (OwnBy c.A ρ) (OwnBy (fun k => c.B k ∨ ∃ b o', b ∉ bs ∧ ρ b = some (k, o')) (fun b => if b ∈ bs then ρ b else none)) ρ (fun b => if b ∈ bs then ρ b else none) (fun b => b ∈ bs) := {
    size := Nat.le_refl _
    same := fun _ _ _ => rfl
    own := fun k _ hk => by
      rcases hk with (hk | ⟨b, o', _, hk⟩) | ⟨b, o', hk⟩
      · exact .inl (c.sub k hk)
      · exact .inr ⟨b, o', hk⟩
      · replace hk : (if b ∈ bs then ρ b else none) = some (k, o') := hk
        split at hk
        · exact .inr ⟨b, o', hk⟩
        · cases hk
    map := fun b hb k o' hρ => by simp only [hb, if_true]; exact hρ
    rows := fun k cur ty fr _ hh => ⟨cur, ty, fr, hh, rfl⟩
    lt := h.lt }
  refine hD.2 _ (fun b => if b ∈ bs then ρ b else none) w _ h.tab (fun q hq b o' hb => by
    split at hb
    · exact h.tabρ q hq _ _ hb
    · cases hb) ?_ ?_ ?_
  · refine { mem := ?_, dom := ?_, lt := ?_, inj := ?_, far := ?_, alt := ?_ }
    · intro b blk hl
      rw [look_keep] at hl
      split at hl <;> try (cases hl; done)
      rename_i hb
      have hb' : b ∈ bs := by simpa using hb
      exact (h.mem b blk hl).keep hk (by simp [hb']) (fun _ _ _ => rfl) (fun ty cs e => by have := hm b hb' blk hl; subst e; exact this)
    · intro b k o' hρ
      split at hρ
      · rename_i hb
        obtain ⟨blk, hl⟩ := h.dom b k o' hρ
        exact ⟨blk, by rw [look_keep, if_pos (by simpa using hb)]; exact hl⟩
      · cases hρ
    · intro b k o' hρ
      split at hρ
      · exact h.lt _ _ _ hρ
      · cases hρ
    · intro b1 b2 k o1 o2 h1 h2
      split at h1 <;> split at h2 <;> first | (cases h1; done) | (cases h2; done) | exact h.inj _ _ _ _ _ h1 h2
    · intro b k o' hρ hA
      split at hρ
      · rename_i hb
        rcases hA with hA | ⟨b', o2, hnb, hA⟩
        · exact h.far _ _ _ hρ hA
        · have := h.inj _ _ _ _ _ hρ hA
          subst this; exact hnb hb
      · cases hρ
    · intro k hA
      rcases hA with hA | ⟨b', o2, hnb, hA⟩
      · have := h.alt _ hA; have := h.size; omega
      · exact h.lt _ _ _ hA
  · simp only [List.length_append, Array.size_append, Array.size_map]
    have : cl.args.toList.length = cl.args.size := by simp
    omega
  · intro i x hx'
    have hri := refsInL_get hr i x hx'
    rcases Nat.lt_or_ge i args.length with hi | hi
    · rw [List.getElem?_append_left hi] at hx'
      have h1 := har i x hx'
      have hi' : i < cl.args.size := by have : cl.args.toList.length = cl.args.size := by simp
                                        omega
      have e1 : ((cl.args.toList.map a.eval).toArray.getD i undef) = (cl.args.map a.eval ++ cv).getD i undef := by
        simp only [Array.getD_eq_getD_getElem?]
        congr 1
        rw [Array.getElem?_append_left (by simpa using hi')]
        simp
      rw [e1] at h1
      exact h1.keep hk hri
    · rw [List.getElem?_append_right hi] at hx'
      have h1 := hcr _ x hx'
      have e0 : cl.args.toList.length = cl.args.size := by simp
      have e1 : cv.getD (i - args.length) undef = (cl.args.map a.eval ++ cv).getD i undef := by
        simp only [Array.getD_eq_getD_getElem?]
        congr 1
        rw [Array.getElem?_append_right (by simp; omega)]
        simp only [Array.size_map]
        congr 1; omega
      rw [e1] at h1
      exact h1.keep hk hri
def CallOK (P : Program) (c : Ctx) (o : Oper) (K : St → Prop) (X : Nat → Prop) (ρ : Map) (a : Act) (w : World) : Prop :=
  ∃ f vs, (execOp a.eval o).run P w = .ok (.enter f vs) w ∧ Calls P f vs w fun e w' => ∃ v st' ρ', e = .returned v ∧ K st' ∧ Conc c st' ρ' (a.put o.dst v) w' ∧
    (∀ k, k < w.heap.size → (∀ b o', X b → ρ b ≠ some (k, o')) → w'.heap[k]? = w.heap[k]?) ∧ (∀ b k o', ρ' b = some (k, o') → ρ b = some (k, o') ∨ (X b ∧ (w.heap.size ≤ k ∨ ∃ b0, X b0 ∧ ∃ o2, ρ b0 = some (k, o2)))) ∧ w.heap.size ≤ w'.heap.size
theorem Conc.put? {c : Ctx} {st : St} {ρ : Map} {a : Act} {w : World} (h : Conc c st ρ a w) {d : Option Nat} (hd : ∀ q, d = some q → q < a.tmps.size) {x : AV} {v : Value} (hx : VRel w (OwnBy c.A ρ) ρ x v) : Conc c (st.put? d x) ρ (a.put d v) w := by
  cases d with
  | none => exact h
  | some d => exact h.put (hd d rfl) hx
theorem call_ok (h : Conc c st ρ a w) {fs : Src} {xs : List Src} {f : FuncId} {caps args : List AV} {bs fixed : List Nat} {X : Nat → Prop} {post : AV → Mem → Prop} {K : St → Prop} (hlt : ∀ d, o.dst = some d → d < a.tmps.size) (hc : chkCall o fs xs = true) (hf : st.src fs = some (.fn f caps)) (hx : srcsOf st.src xs = some args)
    (hD : Does P f (args ++ caps) (keepS bs st.mem) fixed post) (hr : refsInL (fun b => b ∈ bs) (args ++ caps)) (hm : ∀ b ∈ bs, ∀ blk, look st.mem b = some blk → blk.refs (fun b => b ∈ bs)) (hfx : ∀ b ∈ st.fixed, b ∈ bs → b ∈ fixed) (hbw : ∀ b ∈ bs, X b)
    (hk : ∀ r m1, post r m1 → (∀ b blk, look m1 b = some blk → X b ∧ (b ∈ bs ∨ look st.mem b = none ∧ b ∉ st.fixed)) ∧ (c.A = c.B ∨ noTree r = true ∧ ∀ b blk, look m1 b = some blk → noTreeB blk = true) ∧ K ((callSt st bs fixed m1).put? o.dst r)) : CallOK P c o K X ρ a w := by
  obtain ⟨vs, hrun, hcalls⟩ := handed h hc hf hx hD hr hm
  refine ⟨f, vs, hrun, hcalls.mono ?_⟩
  rintro e w' ⟨v, r, m1, ρ', rfl, hpost, hM, hv, hA⟩
  obtain ⟨hnew, hnt, hK⟩ := hk r m1 hpost
  let ρ2 : Map := fun b => if (look m1 b).isSome then ρ' b else if b ∈ bs then none else ρ b
  have h2 : ∀ b k o', ρ2 b = some (k, o') → (∃ blk, look m1 b = some blk ∧ ρ' b = some (k, o')) ∨ (look m1 b = none ∧ b ∉ bs ∧ ρ b = some (k, o')) := by
    intro b k o' hb
    simp only [ρ2] at hb
    split at hb
    · rename_i hs
      exact .inl ⟨_, (Option.some_get hs).symm, hb⟩
    · rename_i hs
      split at hb
      · cases hb
      · rename_i hnb; exact .inr ⟨by simpa using hs, hnb, hb⟩
  have hin : ∀ b k o', ρ' b = some (k, o') → (∃ b0 ∈ bs, ∃ o0, ρ b0 = some (k, o0)) ∨ w.heap.size ≤ k := by
    intro b k o' hb
    rcases hA.mine _ _ _ hb with ⟨b0, o0, h0⟩ | h0
    · split at h0
      · rename_i hb0; exact .inl ⟨b0, hb0, o0, h0⟩
      · cases h0
    · exact .inr h0
  have hframe : ∀ k, k < w.heap.size → (∀ b o', b ∈ bs → ρ b ≠ some (k, o')) → w'.heap[k]? = w.heap[k]? := fun k hk hno => hA.frame k hk (fun b o' hb => by
    split at hb
    · rename_i hbb; exact hno b o' hbb hb
    · cases hb)
  have hkeep : KeepsV w w' (OwnBy c.A ρ) (OwnBy c.A ρ2) ρ ρ2 (fun b => b ∉ bs.filter fun b => !fixed.contains b) := {
    size := hA.size
    same := fun k hk hno => hframe k hk (fun b o' _ hb => hno (.inr ⟨b, o', hb⟩))
    own := fun k hk hO => by
      rcases hO with hO | ⟨b, o', hO⟩
      · exact .inl hO
      · rcases h2 _ _ _ hO with ⟨_, _, h3⟩ | ⟨_, _, h3⟩
        · rcases hin _ _ _ h3 with ⟨b0, _, o0, h0⟩ | h0
          · exact .inr ⟨b0, o0, h0⟩
          · omega
        · exact .inr ⟨b, o', h3⟩
    map := fun b hb k o' hρ => by
      simp only [List.mem_filter, not_and, Bool.not_eq_true, Bool.not_eq_false', List.contains_iff_mem] at hb
      simp only [ρ2]
      by_cases hbb : b ∈ bs
      · have hfix := hA.fix b (hb hbb)
        simp only [hbb, if_true] at hfix
        obtain ⟨blk, hl⟩ := hM.dom b k o' (hfix.trans hρ)
        simp [hl, hfix, hρ]
      · have hn : look m1 b = none := by
          cases hl : look m1 b with
          | none => rfl
          | some blk =>
            rcases (hnew b blk hl).2 with h3 | h3
            · exact absurd h3 hbb
            · obtain ⟨blk2, h4⟩ := h.dom b k o' hρ
              rw [h3.1] at h4; cases h4
        simp [hn, hbb, hρ]
    rows := hA.rows
    lt := h.lt }
  have hmap2 : ∀ b k o', ρ' b = some (k, o') → ρ2 b = some (k, o') := fun b k o' hb => by
      obtain ⟨blk, hl⟩ := hM.dom b k o' hb
      simp only [ρ2, hl, Option.isSome_some, if_true]; exact hb
  have hkeep2 : c.A = c.B → KeepsV w' w' (OwnBy (fun k => c.B k ∨ ∃ b o', b ∉ bs ∧ ρ b = some (k, o')) ρ') (OwnBy c.A ρ2) ρ' ρ2 (fun _ => True) := fun hstd => {
    size := Nat.le_refl _
    same := fun _ _ _ => rfl
    own := fun k _ hO => by
      rcases hO with hO | ⟨b, o', hO⟩
      · exact .inl (.inl (hstd ▸ hO))
      · rcases h2 _ _ _ hO with ⟨_, _, h3⟩ | ⟨_, hnb, h3⟩
        · exact .inr ⟨b, o', h3⟩
        · exact .inl (.inr ⟨b, o', hnb, h3⟩)
    map := fun b _ k o' hb => hmap2 b k o' hb
    rows := fun k cur ty fr _ hh => ⟨cur, ty, fr, hh, rfl⟩
    lt := hM.lt }
  have hconc : Conc c (callSt st bs fixed m1) ρ2 a w' := by
    refine { slots := ?_, defers := h.defers, mem := ?_, dom := ?_, lt := ?_, inj := ?_, mine := ?_, far := ?_, fix := ?_, alt := h.alt, os := hA.os.trans h.os, tape := hA.tape.trans h.tape, output := hA.output.trans h.output, size := Nat.le_trans h.size hA.size, frame := ?_, rows := h.rows' hkeep }
    · intro d x hx
      simp only [callSt, look_mapv] at hx
      obtain ⟨y, hy, rfl⟩ := Option.map_eq_some_iff.1 hx
      exact ((h.slots d y hy).killAll _).keep hkeep (refs_killAll _ y)
    · intro b blk hl
      simp only [callSt, look_append] at hl
      split at hl
      · rename_i blk2 hl2
        injection hl with hl; subst hl
        have he2 : ρ2 b = ρ' b := by simp only [ρ2, hl2, Option.isSome_some, if_true]
        rcases hnt with hstd | ⟨_, hnt⟩
        · exact (hM.mem b _ hl2).keep (hkeep2 hstd) he2 (fun _ _ _ => rfl) (fun _ cs _ => refs_allL cs)
        · exact (hM.mem b _ hl2).noTree hmap2 he2 (hnt b _ hl2)
      · rename_i hn
        simp only [look_mapv, look_dropAll] at hl
        split at hl
        · cases hl
        · rename_i hnb
          have hnb' : b ∉ bs := by simpa using hnb
          obtain ⟨blk0, hl0, rfl⟩ := Option.map_eq_some_iff.1 hl
          have hB := (h.mem b blk0 hl0).killAllB (bs.filter fun b => !fixed.contains b)
          refine hB.keep hkeep (by simp only [ρ2, hn, Option.isSome_none, Bool.false_eq_true, if_false, hnb']) (fun k o' hb => hframe k (h.lt _ _ _ hb) (fun b0 o0 hb0 h0 => ?_)) (fun ty cs e => by
            have := refs_killAllB (bs.filter fun b => !fixed.contains b) blk0
            rw [e] at this; exact this)
          have := h.inj _ _ _ _ _ hb h0
          subst this; exact hnb' hb0
    · intro b k o' hb
      simp only [callSt, look_append]
      rcases h2 _ _ _ hb with ⟨blk, hl, _⟩ | ⟨hn, hnb, h3⟩
      · exact ⟨blk, by simp [hl]⟩
      · obtain ⟨blk, hl⟩ := h.dom _ _ _ h3
        exact ⟨_, by simp only [hn, look_mapv, look_dropAll]; rw [if_neg (by simpa using hnb), hl]; rfl⟩
    · intro b k o' hb
      rcases h2 _ _ _ hb with ⟨_, _, h3⟩ | ⟨_, _, h3⟩
      · exact hM.lt _ _ _ h3
      · exact Nat.lt_of_lt_of_le (h.lt _ _ _ h3) hA.size
    · intro b1 b2 k o1 o2 hb1 hb2
      rcases h2 _ _ _ hb1 with ⟨_, _, h3⟩ | ⟨_, hn3, h3⟩ <;> rcases h2 _ _ _ hb2 with ⟨_, _, h4⟩ | ⟨_, hn4, h4⟩
      · exact hM.inj _ _ _ _ _ h3 h4
      · exact absurd (Or.inr ⟨b2, o2, hn4, h4⟩) (hM.far _ _ _ h3)
      · exact absurd (Or.inr ⟨b1, o1, hn3, h3⟩) (hM.far _ _ _ h4)
      · exact h.inj _ _ _ _ _ h3 h4
    · intro b k o' hb
      rcases h2 _ _ _ hb with ⟨_, _, h3⟩ | ⟨_, _, h3⟩
      · rcases hin _ _ _ h3 with ⟨b0, _, o0, h0⟩ | h0
        · exact h.mine _ _ _ h0
        · exact .inr (Nat.le_trans h.size h0)
      · exact h.mine _ _ _ h3
    · intro b k o' hb hAk
      rcases h2 _ _ _ hb with ⟨_, _, h3⟩ | ⟨_, _, h3⟩
      · exact hM.far _ _ _ h3 (.inl hAk)
      · exact h.far _ _ _ h3 hAk
    · intro b hb
      have hb' : b ∈ st.fixed := hb
      rw [← h.fix b hb']
      simp only [ρ2]
      by_cases hbb : b ∈ bs
      · have hfix := hA.fix b (hfx b hb' hbb)
        simp only [hbb, if_true] at hfix
        rw [hfix]
        split
        · rfl
        · rename_i hs
          cases hρ : ρ b with
          | none => first | rfl | simp [hbb]
          | some p =>
            obtain ⟨k, o'⟩ := p
            obtain ⟨blk, hl⟩ := hM.dom b k o' (hfix.trans hρ)
            simp [hl] at hs
      · rw [if_neg hbb]
        split
        · rename_i hs
          obtain ⟨blk, hl⟩ := Option.isSome_iff_exists.1 hs
          rcases (hnew b blk hl).2 with h3 | h3
          · exact absurd h3 hbb
          · exact absurd hb' h3.2
        · rfl
    · intro k hk hF
      rw [hframe k (by have := h.size; omega) (fun b o' _ hb => ?_)]
      · exact h.frame k hk hF
      · rcases h.mine _ _ _ hb with h3 | h3
        · exact hF h3
        · omega
  refine ⟨v, _, ρ2, rfl, hK, hconc.put? hlt (by
    rcases hnt with hstd | ⟨hnt, _⟩
    · exact hv.keep (hkeep2 hstd) (refs_all r)
    · exact hv.noTree hmap2 hnt), fun k hk hno => hframe k hk (fun b o' hb => hno b o' (hbw b hb)), fun b k o' hb => ?_, hA.size⟩
  rcases h2 _ _ _ hb with ⟨blk, hl, h3⟩ | ⟨_, _, h3⟩
  · rcases hin _ _ _ h3 with ⟨b0, hb0, o0, h0⟩ | h0
    · exact .inr ⟨(hnew b blk hl).1, .inr ⟨b0, hbw _ hb0, o0, h0⟩⟩
    · exact .inr ⟨(hnew b blk hl).1, .inl h0⟩
  · exact .inl h3
theorem Conc.less' (h : Conc c st ρ a w) : Conc { c with A := c.B, sub := fun _ h => h } st ρ a w := by
  have hk : KeepsV w w (OwnBy c.A ρ) (OwnBy c.B ρ) ρ ρ (fun _ => True) := { size := Nat.le_refl _, same := fun _ _ _ => rfl, own := fun k _ hk => hk.imp (c.sub k) id, map := fun _ _ _ _ h => h, rows := fun k cur ty fr _ hh => ⟨cur, ty, fr, hh, rfl⟩, lt := h.lt }
  exact { slots := fun d x hx => (h.slots d x hx).keep hk (refs_all x), defers := h.defers, mem := fun b blk hb => (h.mem b blk hb).keep hk rfl (fun _ _ _ => rfl) (fun _ cs _ => refs_allL cs), dom := h.dom, lt := h.lt, inj := h.inj, mine := h.mine, far := h.far, fix := h.fix, alt := h.alt, os := h.os, tape := h.tape, output := h.output, size := h.size, frame := h.frame, rows := h.rows }
theorem view_ok (h : Conc c st ρ a w) {stF : St} (hle : St.le { st with fixed := [] } stF) {fs : Src} {xs : List Src} {f : FuncId} {caps args : List AV} {fixed : List Nat} {post : AV → Mem → Prop} {K : St → Prop} (hlt : ∀ d, o.dst = some d → d < a.tmps.size) (hc : chkCall o fs xs = true) (hf : stF.src fs = some (.fn f caps)) (hx : srcsOf stF.src xs = some args)
    (hD : Does P f (args ++ caps) [] fixed post) (hr : refsInL (fun _ => False) (args ++ caps))
    (hk : ∀ r m1, post r m1 → m1 = [] ∧ noTree r = true ∧ K (st.put? o.dst r)) (X : Nat → Prop) : CallOK P c o K X ρ a w := by
  obtain ⟨ρF, hF, hsub⟩ := hle { c with A := c.B, sub := fun _ h => h } ρ a w rfl { h.less' with fix := fun b hb => by simp at hb }
  have hnil : keepS [] stF.mem = ([] : Mem) := by simp [keepS]
  obtain ⟨vs, hrun, hcalls⟩ := handed (bs := []) hF hc hf hx (by rw [hnil]; exact hD) (refs_impL (fun _ h => h.elim) _ hr) (fun b hb => by simp at hb)
  refine ⟨f, vs, hrun, hcalls.mono ?_⟩
  rintro e w' ⟨v, r, m1, ρ', rfl, hpost, hM, hv, hA⟩
  obtain ⟨rfl, hnt, hK⟩ := hk r m1 hpost
  have hframe : ∀ k, k < w.heap.size → w'.heap[k]? = w.heap[k]? := fun k hk => hA.frame k hk (fun b o' hb => by simp at hb)
  have hkeep : KeepsV w w' (OwnBy c.A ρ) (OwnBy c.A ρ) ρ ρ (fun _ => True) := {
    size := hA.size, same := fun k hk _ => hframe k hk, own := fun _ _ h => h, map := fun _ _ _ _ h => h, rows := hA.rows, lt := h.lt }
  have hρ' : ∀ b, ρ' b = none := fun b => by
    cases hb : ρ' b with
    | none => rfl
    | some p => obtain ⟨k, o'⟩ := p; obtain ⟨blk, hl⟩ := hM.dom b k o' hb; simp [look] at hl
  have hconc : Conc c st ρ a w' := { slots := fun d x hx => (h.slots d x hx).keep hkeep (refs_all x), defers := h.defers, mem := fun b blk hb => (h.mem b blk hb).keep hkeep rfl (fun k o' hρ => hframe k (h.lt _ _ _ hρ)) (fun _ cs _ => refs_allL cs), dom := h.dom, lt := fun b k o' hb => Nat.lt_of_lt_of_le (h.lt _ _ _ hb) hA.size, inj := h.inj, mine := h.mine, far := h.far, fix := h.fix, alt := h.alt, os := hA.os.trans h.os, tape := hA.tape.trans h.tape, output := hA.output.trans h.output, size := Nat.le_trans h.size hA.size, frame := fun k hk hf => (hframe k (Nat.lt_of_lt_of_le hk h.size)).trans (h.frame k hk hf), rows := h.rows' hkeep }
  exact ⟨v, _, ρ, rfl, hK, hconc.put? hlt (hv.noTree (fun b k o' hb => by rw [hρ'] at hb; cases hb) hnt), fun k hk _ => hframe k hk, fun b k o' hb => .inl hb, hA.size⟩
end
end Go.SX
namespace Go.SX
open Go
structure It where
  d : Option Nat
  g : Option (Nat × Bool)
  ao : AOp
inductive Plan where
  | done
  | take (i : Nat) (it : It) (p : Plan)
  | alt (i : Nat) (it : It) (p q : Plan)
inductive AC where
  | skip
  | seq (x y : AC)
  | cond (s : Src) (x y : AC)
  | block (id : Nat) (x : AC)
  | loop (x : AC)
  | exit (id : Nat)
  | ret
  | label
  | scope (x : AC)
  | rangef (g : Src) (ps : List Nat) (x y : AC)
  | reg (its : List It) (keep : List Nat)
  | draw (X : List Nat) (plan : Plan) (keep : List Nat)
def isB (b : Builtin) (o : Oper) (xs : List Src) : Bool := match o.op with
  | .call c => (match c.callee with | .builtin b' => b' == b | _ => false) && okL c.args.toList xs
  | _ => false
def argT (o : Oper) (i : Nat) : Option TypeId := match o.op with
  | .call c => c.argTypes[i]?
  | _ => none
def isSliceOf (P : Program) (t : Option TypeId) (ty : TypeId) : Bool := match t with
  | some t => (match P.underlying t with | some (.slice e) => e == ty | _ => false)
  | none => false
def sized (P : Program) (ty : TypeId) (sz bytes : Nat) (zero : Bool) : Bool := match P.info? ty with
  | some i => i.size == sz && i.bytes == bytes && sz != 0 && bytes != 0 && (!zero || match i.zero with | some z => z.cells.size == sz && z.cells.toList.all one | none => false)
  | none => false
def keyT (P : Program) (t kt s : Nat) (ks : List Nat) : Bool := (match P.underlying t with | some (.map q _) => q == kt | _ => false) && flatT P 6 kt == some ks && (s == match P.underlying kt with | some (.struct _) => 1 | _ => 0)
def zeroF (P : Program) (t : Nat) : Bool := match P.underlying t with
  | some (.map _ e) => (match P.info? e with | some i => (match i.zero with | some (.bool false) => true | _ => false) | none => false)
  | _ => false
def chkExt (P : Program) (o : Oper) (t : Nat) (ns : List Nat) (xs : List Src) : Bool := match t, ns with
  | 0, [] => isB .cap o xs && (match argT o 0 with | some t => (match P.underlying t with | some (.slice _) => true | _ => false) | none => false)
  | 1, [ty, sz, bytes] => isB .copy o xs && isSliceOf P (argT o 0) ty && sized P ty sz bytes false
  | 2, [ty, sz, bytes] => isB .clear o xs && isSliceOf P (argT o 0) ty && sized P ty sz bytes true
  | 3, [ty, sz, bytes] => isB .append o xs && isSliceOf P (argT o 0) ty && sized P ty sz bytes true && (match argT o 1 with | some t => (match P.underlying t with | some (.int _) => true | _ => false) | none => false)
  | 4, [ty, sz, bytes] => isB .append o xs && isSliceOf P (argT o 0) ty && sized P ty sz bytes true && isSliceOf P (argT o 1) ty
  | 5, [] => (match o.op, xs with | .slice t y (some l) (some h) (some m), [a, b, c, d] => (match P.underlying t with | some (.slice e) => (P.info? e).isSome | _ => false) && srcOK y a && srcOK l b && srcOK h c && srcOK m d | _, _ => false)
  | 6, [] => (match o.op, xs with | .binOp .eql t y (.const (.slice none 0 0)) _, [a] => (match P.underlying t with | some (.slice _) => true | _ => false) && srcOK y a | _, _ => false)
  | 7, [f] => (match o.op with | .call c => (match c.callee with | .value (.func f') => f == f' | _ => false) && okL c.args.toList xs | _ => false)
  | 10, [_] => (match o.op, xs with | .makeMap _ none, [] => true | _, _ => false)
  | 11, t :: kt :: s :: ks => (match o.op, xs with
    | .mapUpdate t' m k v, [a, b, d] => t' == t && keyT P t kt s ks && srcOK m a && srcOK k b && srcOK v d
    | .insert t' m k v, [a, b, d] => t' == t && keyT P t kt s ks && srcOK m a && srcOK k b && srcOK v d
    | _, _ => false)
  | 12, t :: kt :: q :: s :: ks => (match o.op, xs with
    | .lookup t' m k ok, [a, b] => t' == t && ok == (q == 2) && keyT P t kt s ks && (q != 1 || zeroF P t) && srcOK m a && srcOK k b
    | _, _ => false)
  | 13, [t, e, n, sz] => (match o.op, xs with
    | .index t' x i, [a, b] => t' == t && (match P.underlying t with | some (.array m e') => e' == e && m == n | _ => false) && shape1 P e sz true && srcOK x a && srcOK i b
    | _, _ => false)
  | 8, [t] => (match o.op, xs with | .binOp .eql t' y z _, [a, b] => t' == t && srcOK y a && srcOK z b | _, _ => false)
  | _, _ => false
def chkOp (P : Program) (o : Oper) : AOp → Bool
  | .ext t ns xs => chkExt P o t ns xs
  | .callv fs xs => chkCall o fs xs
  | .call _ _ => false
  | ao => chkM P o ao
def chkIt (P : Program) (nt : Nat) (ops : Array Oper) (o : Oper) (it : It) : Bool :=
  o.dst == it.d && (match it.d with | some d => decide (d < nt) | none => true) &&
  (match o.guard, it.g with
    | none, none => true
    | some (j, want), some (s, want') => want == want' && decide (s < nt) && (match ops[j]? with | some oj => oj.dst == some s | none => false)
    | _, _ => false) && chkOp P o it.ao
def chkIts (P : Program) (nt : Nat) (ops : Array Oper) : List Oper → List It → Bool
  | [], [] => true
  | o :: r, it :: q => chkIt P nt ops o it && chkIts P nt ops r q
  | _, _ => false
def Plan.depth : Plan → Nat
  | .done => 0
  | .take _ _ p => p.depth + 1
  | .alt _ _ p q => max (p.depth + 1) q.depth
def Plan.alts : Plan → List Nat
  | .alt i _ _ q => i :: q.alts
  | _ => []
def chkAt (P : Program) (nt : Nat) (ops : Array Oper) (i : Nat) (it : It) : Bool := match ops[i]? with
  | some o => chkIt P nt ops o it
  | none => false
def chkPlan (P : Program) (nt : Nat) (ops : Array Oper) : Bool → Plan → Array Bool → Bool
  | _, .done, l => Region.ready .any ops l == []
  | _, .take i it p, l => chkAt P nt ops i it && Region.free .any ops l i && (Region.ready .any ops l).contains i && chkPlan P nt ops true p (l.setIfInBounds i true)
  | first, .alt i it p q, l => chkAt P nt ops i it && (!first || Region.ready .any ops l == i :: q.alts) && chkPlan P nt ops true p (l.setIfInBounds i true) && (match q with
    | .done => true
    | .alt i' it' p' q' => chkPlan P nt ops false (.alt i' it' p' q') l
    | _ => false)
def plainOps (ops : Array Oper) : Bool := ops.toList.all fun o => match o.op with | .defer _ => false | _ => true
def plainC : Code → Bool
  | .region _ ops _ => plainOps ops
  | .seq x y => plainC x && plainC y
  | .cond _ x y => plainC x && plainC y
  | .block _ x => plainC x
  | .loop x => plainC x
  | .skip | .exit _ | .ret | .label _ => true
  | _ => false
def chkC (P : Program) (nt : Nat) : Code → AC → Bool
  | .skip, .skip => true
  | .seq x y, .seq x' y' => chkC P nt x x' && chkC P nt y y'
  | .cond (.tmp t) x y, .cond (.s t') x' y' => t == t' && chkC P nt x x' && chkC P nt y y'
  | .block id x, .block id' x' => id == id' && chkC P nt x x'
  | .loop x, .loop x' => chkC P nt x x'
  | .exit id, .exit id' => id == id'
  | .ret, .ret => true
  | .label _, .label => true
  | .scope x, .scope x' => chkC P nt x x'
  | .rangeFunc g ps x y, .rangef g' ps' x' y' => srcOK g g' && ps.toList == ps' && ps'.all (fun p => decide (p < nt)) && plainC x && plainC y && chkC P nt x x' && chkC P nt y y'
  | .region _ ops false, .reg its _ => chkIts P nt ops ops.toList its
  | .region _ ops true, .draw _ p _ => Region.noSelect ops && P.follows .mixedOrders && chkPlan P nt ops true p (Array.replicate ops.size false) && decide (p.depth ≤ ops.size)
  | _, _ => false
section
variable {P : Program} {c : Ctx} {nt : Nat}
def CallK (P : Program) (c : Ctx) (nt : Nat) (X : Nat → Prop) (fs : Src) (xs : List Src) (d : Option Nat) (st : St) (k : St → Prop) : Prop :=
  ∀ o ρ a w, Conc c st ρ a w → a.tmps.size = nt → chkCall o fs xs = true → o.dst = d → (∀ q, d = some q → q < a.tmps.size) → CallOK P c o k X ρ a w
def ExtOK (P : Program) (c : Ctx) (o : Oper) (k : St → Prop) (X : Nat → Prop) (ρ : Map) (a : Act) (w : World) : Prop :=
  ∃ st' r w' ρ' v, (execOp a.eval o).run P w = .ok r w' ∧ (r = .value v ∨ r = .skip ∧ v = undef) ∧ Conc c st' ρ' (a.put o.dst v) w' ∧ k st' ∧ w.heap.size ≤ w'.heap.size ∧
    (∀ q, q < w.heap.size → (∀ b o', X b → ρ b ≠ some (q, o')) → w'.heap[q]? = w.heap[q]?) ∧ (∀ b q o', ρ' b = some (q, o') → ρ b = some (q, o') ∨ (X b ∧ (w.heap.size ≤ q ∨ ∃ b0, X b0 ∧ ∃ o2, ρ b0 = some (q, o2))))
def ExtK (P : Program) (c : Ctx) (nt : Nat) (X : Nat → Prop) (t : Nat) (ns : List Nat) (xs : List Src) (d : Option Nat) (st : St) (k : St → Prop) : Prop :=
  ∀ o ρ a w, Conc c st ρ a w → a.tmps.size = nt → chkExt P o t ns xs = true → o.dst = d → (∀ q, d = some q → q < a.tmps.size) → ExtOK P c o k X ρ a w
def runA (P : Program) (c : Ctx) (nt : Nat) (X : Nat → Prop) (d : Option Nat) (ao : AOp) (st : St) (k : St → Prop) : Prop :=
  match ao with
  | .callv fs xs => CallK P c nt X fs xs d st k
  | .ext t ns xs => ExtK P c nt X t ns xs d st k
  | ao => ∃ st', exec d ao st = some st' ∧ (∀ b ∈ wrs st ao, X b) ∧ k st'
def gval (st : St) (s : Nat) : Option (Option Bool) := match look st.slots s with
  | some (.lit (.bool b)) => some (some b)
  | some (.tup []) => some none
  | _ => none
def runI (P : Program) (c : Ctx) (nt : Nat) (X : Nat → Prop) (it : It) (st : St) (k : St → Prop) : Prop :=
  match it.g with
  | none => runA P c nt X it.d it.ao st k
  | some (s, want) => ∃ b, gval st s = some b ∧ (b = some want → runA P c nt X it.d it.ao st k) ∧ (b ≠ some want → k (st.put? it.d (.tup [])))
def runL (P : Program) (c : Ctx) (nt : Nat) : List It → St → (St → Prop) → Prop
  | [], st, k => k st
  | it :: r, st, k => runI P c nt (fun _ => True) it st fun st' => runL P c nt r st' k
def quiet (X : List Nat) (st : St) : AOp → Bool
  | .load _ _ x => match st.src x with
    | some (.ptr b _ _ _) => !X.contains b
    | some (.rop _ _ _ _) => !X.contains 7
    | _ => false
  | .store .. | .alloc .. | .box .. | .bslice .. | .mkslice .. | .mkrow .. | .append .. | .call .. | .callv .. | .ext .. => false
  | _ => true
def runQ (X : List Nat) (it : It) (st : St) (k : St → Prop) : Prop :=
  match it.g with
  | none => quiet X st it.ao = true ∧ ∃ st', exec it.d it.ao st = some st' ∧ k st'
  | some (s, want) => ∃ b, gval st s = some b ∧ (b = some want → quiet X st it.ao = true ∧ ∃ st', exec it.d it.ao st = some st' ∧ k st') ∧ (b ≠ some want → k (st.put? it.d (.tup [])))
def runP (P : Program) (c : Ctx) (nt : Nat) (X : List Nat) : Plan → St → (St → Prop) → Prop
  | .done, st, k => k st
  | .take _ it p, st, k => runQ X it st fun st' => runP P c nt X p st' k
  | .alt _ it p q, st, k => (runI P c nt (fun b => b ∈ X) it st fun st' => runP P c nt X p st' k) ∧ (match q with | .done => True | _ => runP P c nt X q st k)
def St.keep (st : St) (ds : List Nat) : St := { st with slots := keepS ds st.slots }
def post (nt : Nat) (c : Ctx) (Q : Exit → St → Prop) : Exit → Act → World → Prop
  | .panic _, _, _ => False
  | .outgrown, _, _ => False
  | e, a, w => a.tmps.size = nt ∧ ∃ st ρ, Q e st ∧ Conc c st ρ a w
theorem put_size (a : Act) (d : Option Nat) (v : Value) : (a.put d v).tmps.size = a.tmps.size := by
  cases d <;> simp [Act.put]
def fw (r : Option Nat) : Fence := { Fence.wide with round := r }
def rOK (r : Option Nat) (code : Code) : Bool := r.isNone || plainC code
def J (P : Program) (nt : Nat) (c : Ctx) (ac : AC) (st : St) (Q : Exit → St → Prop) : Prop :=
  ∀ code, chkC P nt code ac = true → ∀ r, rOK r code = true → ∀ ρ a w, Conc c st ρ a w → a.tmps.size = nt → code.wpIn (fw r) 0 P (post nt c Q) a w
def postR (nt : Nat) (c : Ctx) (k : St → Prop) : Exit → Act → World → Prop
  | .normal, a, w => a.tmps.size = nt ∧ ∃ st ρ, k st ∧ Conc c st ρ a w
  | _, _, _ => False
theorem undef_rel {w : World} {Own : Nat → Prop} {ρ : Map} : VRel w Own ρ (.tup []) undef := .tree (.tup rfl (fun i x hx => by simp at hx))
theorem chkIt_spec {ops : Array Oper} {o : Oper} {it : It} (h : chkIt P nt ops o it = true) : o.dst = it.d ∧ (∀ d, it.d = some d → d < nt) ∧ chkOp P o it.ao = true ∧
    ((o.guard = none ∧ it.g = none) ∨ ∃ j want s oj, o.guard = some (j, want) ∧ it.g = some (s, want) ∧ ops[j]? = some oj ∧ oj.dst = some s ∧ s < nt) := by
  unfold chkIt at h
  simp only [Bool.and_eq_true, beq_iff_eq] at h
  obtain ⟨⟨⟨h1, h2⟩, h3⟩, h4⟩ := h
  refine ⟨h1, fun d hd => by rw [hd] at h2; simpa using h2, h4, ?_⟩
  split at h3 <;> try (cases h3; done)
  · rename_i e1 e2; exact .inl ⟨e1, e2⟩
  · rename_i j want s want' e1 e2
    simp only [Bool.and_eq_true, beq_iff_eq, decide_eq_true_eq] at h3
    obtain ⟨⟨rfl, hsn⟩, h3⟩ := h3
    split at h3 <;> try (cases h3; done)
    rename_i oj hoj
    exact .inr ⟨j, want, s, oj, e1, e2, hoj, by simpa using h3, hsn⟩
theorem wanted_of {ops : Array Oper} {o : Oper} {st : St} {ρ : Map} {a : Act} {w : World} (h : Conc c st ρ a w) (hs : a.tmps.size = nt) {j : Nat} {want : Bool} {s : Nat} {oj : Oper} {b : Option Bool} (hg : o.guard = some (j, want)) (hj : ops[j]? = some oj) (hd : oj.dst = some s)
    (hb : gval st s = some b) (hsl : s < nt) : Region.wanted o (yielded ops a.tmps) = (b == some want) := by
  have h3 : ∃ v, a.tmps[s]? = some v ∧ (match v with | .bool b => some b | _ => none) = b := by
    have hget : a.tmps[s]? = some (a.tmps.getD s undef) := by
      rw [Array.getD_eq_getD_getElem?, Array.getElem?_eq_getElem (by omega)]; rfl
    refine ⟨_, hget, ?_⟩
    unfold gval at hb
    split at hb
    · rename_i b' hl
      injection hb with hb; subst hb
      rw [(h.slots _ _ hl).lit_inv.1]
    · rename_i hl
      injection hb with hb; subst hb
      obtain ⟨vs, hv, _⟩ := (h.slots _ _ hl).tup_inv
      rw [hv]
    · cases hb
  obtain ⟨v, h4, h5⟩ := h3
  simp only [Region.wanted, hg, yielded, hj, hd, Option.bind_some, h4]
  rw [← h5]
  cases v <;> rfl
theorem chkIts_get {ops : Array Oper} : ∀ {l : List Oper} {its : List It}, chkIts P nt ops l its = true → l.length = its.length ∧ ∀ (i : Nat) (o : Oper), l[i]? = some o → ∃ it, its[i]? = some it ∧ chkIt P nt ops o it = true
  | [], [], _ => ⟨rfl, fun i o h => by simp at h⟩
  | o :: r, it :: q, h => by
    simp only [chkIts, Bool.and_eq_true] at h
    obtain ⟨hl, ih⟩ := chkIts_get h.2
    refine ⟨by simp [hl], fun i o' ho => ?_⟩
    cases i with
    | zero => simp at ho; subst ho; exact ⟨it, rfl, h.1⟩
    | succ i => obtain ⟨it', h1, h2⟩ := ih i o' (by simpa using ho); exact ⟨it', by simpa using h1, h2⟩
  | [], _ :: _, h => by simp [chkIts] at h
  | _ :: _, [], h => by simp [chkIts] at h
theorem chkAt_spec {ops : Array Oper} {i : Nat} {it : It} (h : chkAt P nt ops i it = true) : ∃ o, ops[i]? = some o ∧ chkIt P nt ops o it = true := by
  unfold chkAt at h
  split at h
  · exact ⟨_, by assumption, h⟩
  · cases h
theorem Conc.rebase {st : St} {ρ : Map} {a : Act} {w : World} (h : Conc c st ρ a w) : Conc ⟨w, c.A, c.B, ρ, fun k => ∃ b o, ρ b = some (k, o), c.sub, h.tab, fun q hq ⟨b, o, hb⟩ => h.tabρ q hq b o hb, c.defs⟩ st ρ a w :=
  { slots := h.slots, defers := h.defers, mem := h.mem, dom := h.dom, lt := h.lt, inj := h.inj, mine := fun b k o hb => .inl ⟨b, o, hb⟩, far := h.far, fix := fun _ _ => rfl, alt := fun k hk => Nat.lt_of_lt_of_le (h.alt k hk) h.size, os := rfl, tape := rfl, output := OutLe.refl _, size := Nat.le_refl _, frame := fun _ _ _ => rfl, rows := fun k cur ty fr _ hh => ⟨cur, ty, fr, hh, rfl⟩ }
theorem step_run {ops : Array Oper} {i : Nat} {it : It} (hch : chkAt P nt ops i it = true) {st : St} {ρ : Map} {a : Act} {w : World} (h : Conc c st ρ a w) (hs : a.tmps.size = nt) {X : Nat → Prop} {k : St → Prop}
    (hr : runI P c nt X it st k) {Q : Exit → Act → World → Prop} {next : Act → World → Prop}
    (hn : ∀ a' w' st' ρ', Conc c st' ρ' a' w' → a'.tmps.size = nt → k st' → w.heap.size ≤ w'.heap.size → (∀ q, q < w.heap.size → (∀ b o', X b → ρ b ≠ some (q, o')) → w'.heap[q]? = w.heap[q]?) →
      (∀ b q o', ρ' b = some (q, o') → ρ b = some (q, o') ∨ (X b ∧ (w.heap.size ≤ q ∨ ∃ b0, X b0 ∧ ∃ o2, ρ b0 = some (q, o2)))) → next a' w') : wpOp P ops Q i next a w := by
  obtain ⟨o, ho, hck⟩ := chkAt_spec hch
  obtain ⟨hd, hdl, hop, hg⟩ := chkIt_spec hck
  have hlt : ∀ d, o.dst = some d → d < a.tmps.size := fun d h1 => by rw [hs]; exact hdl d (by rw [← hd]; exact h1)
  unfold wpOp
  rw [ho]
  dsimp only
  have hdo : runA P c nt X it.d it.ao st k → o.wp P a w next Q := by
    intro hA
    unfold runA at hA
    split at hA
    · rename_i fs xs e
      rw [e] at hop
      obtain ⟨f, vs, hrun, hcalls⟩ := hA o ρ a w h hs hop hd (fun q hq => hlt q (by rw [hd]; exact hq))
      unfold Oper.wp
      rw [hrun]
      refine hcalls.mono ?_
      rintro e w' ⟨v, st', ρ', rfl, hk, hc', hf, hm, hsz⟩
      exact hn _ _ st' ρ' hc' (by rw [put_size]; exact hs) hk hsz hf hm
    · rename_i t ns xs e
      rw [e] at hop
      obtain ⟨st', r, w', ρ', v, hrun, hrv, hc', hk, hsz, hf, hm⟩ := hA o ρ a w h hs hop hd (fun q hq => hlt q (by rw [hd]; exact hq))
      have hnext : next (o.dst.elim a (fun d => a.put (some d) v)) w' := by
        have : (o.dst.elim a (fun d => a.put (some d) v)) = a.put o.dst v := by cases o.dst <;> rfl
        rw [this]
        exact hn _ _ st' ρ' hc' (by rw [put_size]; exact hs) hk hsz hf hm
      unfold Oper.wp
      rw [hrun]
      have e2 : (o.dst.elim a (fun d => a.put (some d) v)) = a.put o.dst v := by cases o.dst <;> rfl
      rw [e2] at hnext
      rcases hrv with rfl | ⟨rfl, rfl⟩
      · exact hnext
      · exact hnext
    · obtain ⟨st', he, hw, hk⟩ := hA
      have hc0 : chkM P o it.ao = true := by
        unfold chkOp at hop
        split at hop
        · rename_i t ns xs e
          exfalso
          simp_all
        · rename_i fs xs e
          exfalso
          simp_all
        · cases hop
        · exact hop
      obtain ⟨r, w', ρ', v, hrun, hrv, hc', hf, hm⟩ := exec_ok h hc0 hlt (by rw [hd]; exact he)
      have hnext : next (o.dst.elim a (fun d => a.put (some d) v)) w' := by
        have : (o.dst.elim a (fun d => a.put (some d) v)) = a.put o.dst v := by cases o.dst <;> rfl
        rw [this]
        refine hn _ _ st' ρ' hc' (by rw [put_size]; exact hs) hk ?_ (fun q hq hno => hf q hq (fun b o' hb => hno b o' (hw b hb))) (fun b q o' hb => (hm b q o' hb).imp id (fun ⟨h1, h2⟩ => ⟨hw b h1, h2.imp id (fun ⟨b0, h3, h4⟩ => ⟨b0, hw b0 h3, h4⟩)⟩))
        obtain ⟨r2, w2, ρ2, v2, hrun2, _, hc2, _⟩ := exec_ok h.rebase hc0 hlt (by rw [hd]; exact he)
        rw [hrun] at hrun2
        injection hrun2 with _ hw2
        rw [hw2]; exact hc2.size
      unfold Oper.wp
      rw [hrun]
      have e2 : (o.dst.elim a (fun d => a.put (some d) v)) = a.put o.dst v := by cases o.dst <;> rfl
      rw [e2] at hnext
      rcases hrv with rfl | ⟨rfl, rfl⟩
      · exact hnext
      · exact hnext
  unfold runI at hr
  rcases hg with ⟨hg1, hg2⟩ | ⟨j, want, s, oj, hg1, hg2, hj, hjd, hsn⟩
  · rw [hg2] at hr
    have : Region.wanted o (yielded ops a.tmps) = true := by simp [Region.wanted, hg1]
    rw [this, if_pos rfl]
    exact .inl (hdo hr)
  · rw [hg2] at hr
    obtain ⟨b, hb, hr1, hr2⟩ := hr
    rw [wanted_of h hs hg1 hj hjd hb hsn]
    by_cases e : b = some want
    · subst e
      simp only [beq_self_eq_true, if_true]
      exact .inl (hdo (hr1 rfl))
    · have : (b == some want) = false := by simpa using e
      rw [this]
      simp only [Bool.false_eq_true, if_false]
      rw [hd]
      exact hn _ _ _ _ (h.put? (fun q hq => by rw [hs]; exact hdl q hq) undef_rel) (by rw [put_size]; exact hs) (hr2 e) (Nat.le_refl _) (fun _ _ _ => rfl) (fun _ _ _ hb => .inl hb)
theorem Conc.draw {st : St} {ρ : Map} {a : Act} {w : World} (h : Conc c st ρ a w) : Conc c st ρ a { w with drawn := w.drawn + 1 } := h.world rfl rfl rfl ⟨rfl, by first | exact Nat.le_refl _ | exact Nat.le_succ _⟩
theorem chkIts_at {ops : Array Oper} {its : List It} (hch : chkIts P nt ops ops.toList its = true) {i : Nat} {it : It} (hit : its[i]? = some it) : chkAt P nt ops i it = true := by
  have hlen := (chkIts_get hch).1
  have hio : i < its.length := by
    rcases Nat.lt_or_ge i its.length with h1 | h1
    · exact h1
    · rw [List.getElem?_eq_none h1] at hit; cases hit
  have hi' : i < ops.size := by rw [← Array.length_toList, hlen]; exact hio
  obtain ⟨it', hit', hck⟩ := (chkIts_get hch).2 i ops[i] (by simp [hi'])
  rw [hit] at hit'; injection hit' with hit'; subst hit'
  unfold chkAt
  rw [Array.getElem?_eq_getElem hi']
  exact hck
theorem run_list {ops : Array Oper} {its : List It} (hch : chkIts P nt ops ops.toList its = true) {k : St → Prop} : ∀ (n i : Nat) (st : St) (ρ : Map) (a : Act) (w : World), i + n = its.length → Conc c st ρ a w → a.tmps.size = nt → runL P c nt (its.drop i) st k → wpOps P ops (postR nt c k) (List.range' i n) a w
  | 0, i, st, ρ, a, w, hi, h, hs, hr => by
    rw [List.drop_eq_nil_of_le (by omega)] at hr
    exact ⟨hs, st, ρ, hr, h⟩
  | n + 1, i, st, ρ, a, w, hi, h, hs, hr => by
    rw [List.range'_succ, wpOps_cons]
    have hlt : i < its.length := by omega
    rw [List.drop_eq_getElem_cons hlt] at hr
    exact step_run (chkIts_at hch (List.getElem?_eq_getElem hlt)) h hs hr (fun a' w' st' ρ' hc' hs' hk _ _ _ => run_list hch n (i + 1) st' ρ' a' w' (by omega) hc' hs' hk)
theorem pv_isPure {X : List Nat} {st : St} {ao : AOp} (hq : quiet X st ao = true) : (∃ n g x, ao = .load n g x) ∨ ∀ d, exec d ao st = match d, pv st.src ao with | some d, some r => some (st.put d r) | _, _ => none := by
  cases ao <;> first | exact .inl ⟨_, _, _, rfl⟩ | (simp [quiet] at hq; done) | exact .inr (fun d => rfl)
theorem chkOp_M {o : Oper} {ao : AOp} {X : List Nat} {st : St} (hq : quiet X st ao = true) (h : chkOp P o ao = true) : chkM P o ao = true := by
  cases ao <;> first | exact h | (simp [quiet] at hq; done)
theorem chk_of_M {o : Oper} {ao : AOp} {X : List Nat} {st : St} (hq : quiet X st ao = true) (hn : ∀ n g x, ao ≠ .load n g x) (h : chkM P o ao = true) : chk P o ao = true := by
  cases ao <;> first | exact h | (simp [quiet] at hq; done) | exact absurd rfl (hn _ _ _)
theorem quiet_yields {ops : Array Oper} {i : Nat} {it : It} (hch : chkAt P nt ops i it = true) {st : St} {ρ ρ1 : Map} {a : Act} {w w1 : World} (h : Conc c st ρ a w) (hs : a.tmps.size = nt) {X : List Nat} {k : St → Prop}
    (hr : runQ X it st k) (h1 : ∀ b q o, b ∉ X → ρ b = some (q, o) → ρ1 b = some (q, o)) (hlt1 : ∀ b q o, ρ1 b = some (q, o) → q < w1.heap.size) (hinj : ∀ b b' q o o', ρ1 b = some (q, o) → ρ1 b' = some (q, o') → b = b')
    (hS : ∀ q, q < w1.heap.size → (∀ b o, b ∈ X → ρ1 b ≠ some (q, o)) → w.heap[q]? = w1.heap[q]?) (hrop : X.contains 7 = false → ∀ q, ¬ OwnBy c.A ρ q → q < w.heap.size → q < w1.heap.size ∧ ∀ b o, b ∈ X → ρ1 b ≠ some (q, o)) :
    ∃ oi v st', ops[i]? = some oi ∧ YieldsIf P ops (fun w' => ∀ q, q < w1.heap.size → (∀ b o, b ∈ X → ρ1 b ≠ some (q, o)) → w'.heap[q]? = w1.heap[q]?) oi v a ∧ k st' ∧ Conc c st' ρ (a.put oi.dst v) w := by
  obtain ⟨o, ho, hck⟩ := chkAt_spec hch
  obtain ⟨hd, hdl, hop, hg⟩ := chkIt_spec hck
  have hlt : ∀ d, o.dst = some d → d < a.tmps.size := fun d h1 => by rw [hs]; exact hdl d (by rw [← hd]; exact h1)
  have hdo : Region.wanted o (yielded ops a.tmps) = true → quiet X st it.ao = true → (∃ st', exec it.d it.ao st = some st' ∧ k st') → ∃ v st', YieldsIf P ops (fun w' => ∀ q, q < w1.heap.size → (∀ b o, b ∈ X → ρ1 b ≠ some (q, o)) → w'.heap[q]? = w1.heap[q]?) o v a ∧ k st' ∧ Conc c st' ρ (a.put o.dst v) w := by
    rintro hw hq ⟨st', he, hk⟩
    have hcm := chkOp_M hq hop
    rw [← hd] at he
    rcases pv_isPure hq with ⟨n, g, x, hao⟩ | hpure
    · rw [hao] at he hcm hq
      cases hdd : o.dst with
      | none => rw [hdd] at he; simp [exec] at he
      | some d =>
        rw [hdd] at he
        simp only [exec] at he
        split at he <;> try (cases he; done)
        rename_i d' p hd' hx
        injection hd' with hd'; subst hd'
        split at he <;> try (cases he; done)
        rename_i cs hl
        split at he <;> try (cases he; done)
        rename_i r hr2
        injection he with he; subst he
        obtain ⟨v, blk, hrun, hv, hblt, hblk⟩ := load_ok h hcm hx hl hr2
        refine ⟨v, _, .inl ⟨hw, fun w' hw' => hrun w' ?_⟩, hk, h.put (hlt _ hdd) hv⟩
        have hfar : blk < w1.heap.size ∧ ∀ b o, b ∈ X → ρ1 b ≠ some (blk, o) := by
          rcases hblk with ⟨b, sz, ii, j, o', hp, hρ⟩ | ⟨⟨sz, es, ii, j, hp⟩, hno⟩
          · simp only [quiet, hx, hp] at hq
            have hbX : b ∉ X := by simpa using hq
            have hρ1 := h1 _ _ _ hbX hρ
            exact ⟨hlt1 _ _ _ hρ1, fun b' o2 hb' hρ2 => hbX (by rw [hinj _ _ _ _ _ hρ1 hρ2]; exact hb')⟩
          · simp only [quiet, hx, hp] at hq
            exact hrop (by simpa using hq) blk hno hblt
        rw [hw' blk hfar.1 hfar.2, hS blk hfar.1 hfar.2]
    · rw [hpure] at he
      split at he <;> try (cases he; done)
      rename_i d r hdd hp
      injection he with he; subst he
      by_cases hload : ∃ n g x, it.ao = .load n g x
      · obtain ⟨n, g, x, hao⟩ := hload
        rw [hao] at hp; simp [pv] at hp
      · have hc0 := chk_of_M hq (fun n g x e => hload ⟨n, g, x, e⟩) hcm
        obtain ⟨v, hrun, hv⟩ := pv_ok h.srcs hc0 hp
        refine ⟨v, _, .inl ⟨hw, fun w' _ => hrun w'⟩, hk, ?_⟩
        rw [hdd]
        exact h.put (hlt _ hdd) hv
  unfold runQ at hr
  rcases hg with ⟨hg1, hg2⟩ | ⟨j, want, s, oj, hg1, hg2, hj, hjd, hsn⟩
  · rw [hg2] at hr
    obtain ⟨v, st', h2, h3, h4⟩ := hdo (by simp [Region.wanted, hg1]) hr.1 hr.2
    exact ⟨o, v, st', ho, h2, h3, h4⟩
  · rw [hg2] at hr
    obtain ⟨b, hb, hr1, hr2⟩ := hr
    have hwant := wanted_of h hs hg1 hj hjd hb hsn
    by_cases e : b = some want
    · subst e
      rw [beq_self_eq_true] at hwant
      obtain ⟨v, st', h2, h3, h4⟩ := hdo hwant (hr1 rfl).1 (hr1 rfl).2
      exact ⟨o, v, st', ho, h2, h3, h4⟩
    · have hf : (b == some want) = false := by simpa using e
      rw [hf] at hwant
      refine ⟨o, undef, _, ho, .inr ⟨hwant, rfl⟩, hr2 e, ?_⟩
      rw [hd]
      exact h.put? (fun q hq => by rw [hs]; exact hdl q hq) undef_rel
structure Thru (c : Ctx) (X : List Nat) (ρ1 : Map) (w1 : World) (ρ : Map) (w : World) : Prop where
  out : ∀ b q o, b ∉ X → ρ b = some (q, o) → ρ1 b = some (q, o)
  ins : ∀ b q o, b ∈ X → ρ b = some (q, o) → (∃ b0 ∈ X, ∃ o0, ρ1 b0 = some (q, o0)) ∨ w1.heap.size ≤ q
  size : w1.heap.size ≤ w.heap.size
  same : ∀ q, q < w1.heap.size → (∀ b o, b ∈ X → ρ1 b ≠ some (q, o)) → w.heap[q]? = w1.heap[q]?
def ctxR (c : Ctx) (X : List Nat) (ρ1 : Map) (w1 : World) (hT : TabOK ρ1 w1) : Ctx :=
  ⟨w1, fun k => c.A k ∨ X.contains 7 = false ∧ ((∃ b ∈ X, ∃ o, ρ1 b = some (k, o)) ∨ w1.heap.size ≤ k), c.B, c.ρ0, fun k => ∃ b o, ρ1 b = some (k, o), fun k h => .inl (c.sub k h), hT.1, fun q hq ⟨b, o, hb⟩ => hT.2 q hq b o hb, c.defs⟩
theorem thru_begin {st : St} {ρ1 : Map} {a : Act} {w1 : World} (h : Conc c st ρ1 a w1) (X : List Nat) : Conc (ctxR c X ρ1 w1 h.tabOK) st ρ1 a w1 := by
  have hk : KeepsV w1 w1 (OwnBy c.A ρ1) (OwnBy (ctxR c X ρ1 w1 h.tabOK).A ρ1) ρ1 ρ1 (fun _ => True) := {
    size := Nat.le_refl _, same := fun _ _ _ => rfl
    own := fun k hk hO => by
      rcases hO with (hO | ⟨_, ⟨b, _, o, hO⟩ | hO⟩) | hO
      · exact .inl hO
      · exact .inr ⟨b, o, hO⟩
      · omega
      · exact .inr hO
    map := fun _ _ _ _ h => h, rows := fun k cur ty fr _ hh => ⟨cur, ty, fr, hh, rfl⟩, lt := h.lt }
  exact { slots := fun d x hx => (h.slots d x hx).keep hk (refs_all x), defers := h.defers, mem := fun b blk hb => (h.mem b blk hb).keep hk rfl (fun _ _ _ => rfl) (fun _ cs _ => refs_allL cs), dom := h.dom, lt := h.lt, inj := h.inj, mine := fun b k o hb => .inl ⟨b, o, hb⟩, far := h.far, fix := h.fix, alt := fun k hk => Nat.lt_of_lt_of_le (h.alt k hk) h.size, os := rfl, tape := rfl, output := OutLe.refl _, size := Nat.le_refl _, frame := fun _ _ _ => rfl, rows := fun k cur ty fr _ hh => ⟨cur, ty, fr, hh, rfl⟩ }
theorem thru_end {st1 st : St} {ρ1 ρ : Map} {a1 a : Act} {w1 w : World} {X : List Nat} {hT : TabOK ρ1 w1} (h1 : Conc c st1 ρ1 a1 w1) (h : Conc (ctxR c X ρ1 w1 hT) st ρ a w) : Conc c st ρ a w := by
  have hk : KeepsV w w (OwnBy (ctxR c X ρ1 w1 hT).A ρ) (OwnBy c.A ρ) ρ ρ (fun _ => True) := {
    size := Nat.le_refl _, same := fun _ _ _ => rfl
    own := fun k _ hO => hO.imp .inl id
    map := fun _ _ _ _ h => h, rows := fun k cur ty fr _ hh => ⟨cur, ty, fr, hh, rfl⟩, lt := h.lt }
  refine { slots := fun d x hx => (h.slots d x hx).keep hk (refs_all x), defers := h.defers, mem := fun b blk hb => (h.mem b blk hb).keep hk rfl (fun _ _ _ => rfl) (fun _ cs _ => refs_allL cs), dom := h.dom, lt := h.lt, inj := h.inj, mine := ?_, far := h.far, fix := h.fix, alt := h1.alt, os := h.os.trans h1.os, tape := h.tape.trans h1.tape, output := h.output.trans h1.output, size := Nat.le_trans h1.size h.size, frame := ?_, rows := ?_ }
  · intro b k o hb
    rcases h.mine _ _ _ hb with ⟨b0, o0, h0⟩ | h0
    · exact h1.mine _ _ _ h0
    · exact .inr (Nat.le_trans h1.size h0)
  · intro k hk hF
    have hk1 : k < w1.heap.size := Nat.lt_of_lt_of_le hk h1.size
    rw [h.frame k hk1 (fun ⟨b, o, hb⟩ => ?_)]
    · exact h1.frame k hk hF
    · rcases h1.mine _ _ _ hb with h0 | h0
      · exact hF h0
      · omega
  · intro k cur ty fr hk hh
    have hk1 : k < w1.heap.size := Nat.lt_of_lt_of_le hk h1.size
    obtain ⟨c2, t2, f2, h2, e2⟩ := h.rows k cur ty fr hk1 hh
    obtain ⟨c3, t3, f3, h3, e3⟩ := h1.rows k c2 t2 f2 hk h2
    exact ⟨c3, t3, f3, h3, e3.trans e2⟩
theorem run_plan {ops : Array Oper} (hsel : Region.noSelect ops = true) {st1 : St} {ρ1 : Map} {a1 : Act} {w1 : World} (h1 : Conc c st1 ρ1 a1 w1) {X : List Nat} {k : St → Prop} :
    ∀ (plan : Plan) (listed : Array Bool) (fuel : Nat) (st : St) (ρ : Map) (a : Act) (w : World), Conc (ctxR c X ρ1 w1 h1.tabOK) st ρ a w → a.tmps.size = nt → Thru c X ρ1 w1 ρ w → runP P (ctxR c X ρ1 w1 h1.tabOK) nt X plan st k → plan.depth ≤ fuel →
      (chkPlan P nt ops true plan listed = true → wpAnyH P .any ops (postR nt (ctxR c X ρ1 w1 h1.tabOK) k) (fun w' => ∀ q, q < w1.heap.size → (∀ b o, b ∈ X → ρ1 b ≠ some (q, o)) → w'.heap[q]? = w1.heap[q]?) fuel listed a w) ∧
      (chkPlan P nt ops false plan listed = true → ∀ i ∈ plan.alts, wpOp P ops (postR nt (ctxR c X ρ1 w1 h1.tabOK) k) i (fun a' w' => (∀ q, q < w1.heap.size → (∀ b o, b ∈ X → ρ1 b ≠ some (q, o)) → w'.heap[q]? = w1.heap[q]?) ∧
        wpAnyH P .any ops (postR nt (ctxR c X ρ1 w1 h1.tabOK) k) (fun w' => ∀ q, q < w1.heap.size → (∀ b o, b ∈ X → ρ1 b ≠ some (q, o)) → w'.heap[q]? = w1.heap[q]?) (fuel - 1) (listed.setIfInBounds i true) a' w') a w) := by
  intro plan
  induction plan with
  | done =>
    intro listed fuel st ρ a w h hs ht hr hd
    refine ⟨fun hc => ?_, fun _ i hi => by simp [Plan.alts] at hi⟩
    simp only [chkPlan, beq_iff_eq] at hc
    exact wpAnyH_done hc ⟨hs, st, ρ, hr, h⟩ fuel
  | take i it p ih =>
    intro listed fuel st ρ a w h hs ht hr hd
    refine ⟨fun hc => ?_, fun _ i hi => by simp [Plan.alts] at hi⟩
    simp only [chkPlan, Bool.and_eq_true] at hc
    obtain ⟨⟨⟨hch, hfree⟩, hready⟩, hc⟩ := hc
    obtain ⟨oi, v, st', hoi, hy, hk, hcc⟩ := quiet_yields hch h hs hr ht.out h1.lt h1.inj ht.same (fun h7 q hno hq => by
      refine ⟨?_, fun b o hb hρ => hno (.inl (.inr ⟨h7, .inl ⟨b, hb, o, hρ⟩⟩))⟩
      rcases Nat.lt_or_ge q w1.heap.size with h' | h'
      · exact h'
      · exact absurd (.inl (.inr ⟨h7, .inr h'⟩)) hno)
    obtain ⟨f, rfl⟩ : ∃ f, fuel = f + 1 := ⟨fuel - 1, by simp only [Plan.depth] at hd; omega⟩
    exact wpAnyH_take hoi hsel hfree hready (fun _ _ _ h => h) hy ht.same ((ih _ _ st' ρ _ w hcc (by rw [put_size]; exact hs) ht hk (by simp only [Plan.depth] at hd; omega)).1 hc)
  | alt i it p q ihp ihq =>
    intro listed fuel st ρ a w h hs ht hr hd
    obtain ⟨hi, hrq⟩ := hr
    obtain ⟨f, rfl⟩ : ∃ f, fuel = f + 1 := ⟨fuel - 1, by simp only [Plan.depth] at hd; omega⟩
    have hdp : p.depth ≤ f := by simp only [Plan.depth] at hd; omega
    have hdq : q.depth ≤ f + 1 := by simp only [Plan.depth] at hd; omega
    have hone : chkAt P nt ops i it = true → chkPlan P nt ops true p (listed.setIfInBounds i true) = true → wpOp P ops (postR nt (ctxR c X ρ1 w1 h1.tabOK) k) i (fun a' w' => (∀ q, q < w1.heap.size → (∀ b o, b ∈ X → ρ1 b ≠ some (q, o)) → w'.heap[q]? = w1.heap[q]?) ∧
        wpAnyH P .any ops (postR nt (ctxR c X ρ1 w1 h1.tabOK) k) (fun w' => ∀ q, q < w1.heap.size → (∀ b o, b ∈ X → ρ1 b ≠ some (q, o)) → w'.heap[q]? = w1.heap[q]?) f (listed.setIfInBounds i true) a' w') a w := by
      intro hch hcp
      refine step_run hch h hs hi (fun a' w' st' ρ' hc' hs' hk' hsz hf hm => ?_)
      have ht' : Thru c X ρ1 w1 ρ' w' := {
        out := fun b q o hb hρ => by
          rcases hm _ _ _ hρ with h' | ⟨h', _⟩
          · exact ht.out _ _ _ hb h'
          · exact absurd h' hb
        ins := fun b q o hb hρ => by
          rcases hm _ _ _ hρ with h' | ⟨_, h' | ⟨b0, hb0, o2, h'⟩⟩
          · exact ht.ins _ _ _ hb h'
          · exact .inr (Nat.le_trans ht.size h')
          · exact ht.ins _ _ _ hb0 h'
        size := Nat.le_trans ht.size hsz
        same := fun q hq hno => by
          rw [hf q (Nat.lt_of_lt_of_le hq ht.size) (fun b o hb hρ => ?_)]
          · exact ht.same q hq hno
          · rcases ht.ins _ _ _ hb hρ with ⟨b0, hb0, o0, h0⟩ | h0
            · exact hno b0 o0 hb0 h0
            · omega }
      exact ⟨ht'.same, (ihp _ _ st' ρ' a' w' hc' hs' ht' hk' hdp).1 hcp⟩
    have hrest : (q = .done ∨ chkPlan P nt ops false q listed = true) → ∀ j ∈ q.alts, wpOp P ops (postR nt (ctxR c X ρ1 w1 h1.tabOK) k) j (fun a' w' => (∀ q, q < w1.heap.size → (∀ b o, b ∈ X → ρ1 b ≠ some (q, o)) → w'.heap[q]? = w1.heap[q]?) ∧
        wpAnyH P .any ops (postR nt (ctxR c X ρ1 w1 h1.tabOK) k) (fun w' => ∀ q, q < w1.heap.size → (∀ b o, b ∈ X → ρ1 b ≠ some (q, o)) → w'.heap[q]? = w1.heap[q]?) f (listed.setIfInBounds j true) a' w') a w := by
      intro hcq
      rcases hcq with rfl | hcq
      · intro j hj; simp [Plan.alts] at hj
      · cases hq : q with
        | done => intro j hj; simp [Plan.alts] at hj
        | take _ _ _ => intro j hj; simp [Plan.alts] at hj
        | alt i' it' p' q' =>
          have hrq' : runP P (ctxR c X ρ1 w1 h1.tabOK) nt X q st k := by rw [hq] at hrq ⊢; exact hrq
          rw [← hq]
          exact (ihq listed (f + 1) st ρ a w h hs ht hrq' hdq).2 hcq
    refine ⟨fun hc => ?_, fun hc => ?_⟩
    · unfold chkPlan at hc
      simp only [Bool.not_true, Bool.false_or, Bool.and_eq_true, beq_iff_eq] at hc
      obtain ⟨⟨⟨hch, hready⟩, hcp⟩, hcq⟩ := hc
      refine wpAnyH_all hready (by simp) (fun j hj => ?_)
      rcases List.mem_cons.1 hj with rfl | hj
      · exact hone hch hcp
      · exact hrest (by revert hcq; cases q <;> simp) j hj
    · unfold chkPlan at hc
      simp only [Bool.not_false, Bool.true_or, Bool.true_and, Bool.and_eq_true] at hc
      intro j hj
      rcases List.mem_cons.1 hj with rfl | hj
      · exact hone hc.1.1.1 hc.1.2
      · exact hrest (by have := hc.2; revert this; cases q <;> simp) j hj
end
def stepI (it : It) (st : St) : Option St :=
  match it.g with
  | none => exec it.d it.ao st
  | some (s, want) => match gval st s with
    | some b => if b = some want then exec it.d it.ao st else some (st.put? it.d (.tup []))
    | none => none
def isCall : AOp → Bool
  | .callv .. => true
  | .ext .. => true
  | _ => false
def evalL : List It → St → Option (List It × St)
  | [], st => some ([], st)
  | it :: r, st => if isCall it.ao then some (it :: r, st) else (stepI it st).bind (evalL r)
theorem runI_of_step {P : Program} {c : Ctx} {nt : Nat} {X : Nat → Prop} {it : It} {st st' : St} {k : St → Prop} (hc : isCall it.ao = false) (h : stepI it st = some st') (hX : ∀ b ∈ wrs st it.ao, X b) (hk : k st') : runI P c nt X it st k := by
  have hA : ∀ st', exec it.d it.ao st = some st' → k st' → runA P c nt X it.d it.ao st k := by
    intro st' h hk
    unfold runA
    split
    · rename_i e; rw [e] at hc; cases hc
    · rename_i e; rw [e] at hc; cases hc
    · exact ⟨st', h, hX, hk⟩
  unfold stepI at h
  unfold runI
  split at h
  · exact hA _ h hk
  · split at h <;> try (cases h; done)
    rename_i b hb
    split at h
    · rename_i hw; exact ⟨b, hb, fun _ => hA _ h hk, fun hn => absurd hw hn⟩
    · rename_i hw; injection h with h; subst h; exact ⟨b, hb, fun he => absurd he hw, fun _ => hk⟩
theorem runL_of_eval {P : Program} {c : Ctx} {nt : Nat} {k : St → Prop} : ∀ {its its' : List It} {st st' : St}, evalL its st = some (its', st') → runL P c nt its' st' k → runL P c nt its st k
  | [], its', st, st', h, hk => by
    simp only [evalL, Option.some.injEq, Prod.mk.injEq] at h
    obtain ⟨rfl, rfl⟩ := h; exact hk
  | it :: r, its', st, st', h, hk => by
    simp only [evalL] at h
    split at h
    · simp only [Option.some.injEq, Prod.mk.injEq] at h
      obtain ⟨rfl, rfl⟩ := h; exact hk
    · rename_i hc
      obtain ⟨st1, h1, h2⟩ := Option.bind_eq_some_iff.1 h
      exact runI_of_step (by simpa using hc) h1 (fun _ _ => trivial) (runL_of_eval h2 hk)
def wrOK (X : List Nat) (st : St) (ao : AOp) : Bool := (wrs st ao).all fun b => X.contains b
def evalP (X : List Nat) : Plan → St → Option (Plan × St)
  | .done, st => some (.done, st)
  | .take _ it p, st => if quiet X st it.ao then (stepI it st).bind (evalP X p) else none
  | .alt i it p q, st => match q with
    | .done => if isCall it.ao then some (.alt i it p .done, st) else if wrOK X st it.ao then (stepI it st).bind (evalP X p) else none
    | _ => some (.alt i it p q, st)
theorem runQ_of_step {X : List Nat} {it : It} {st st' : St} {k : St → Prop} (hq : quiet X st it.ao = true) (h : stepI it st = some st') (hk : k st') : runQ X it st k := by
  unfold stepI at h
  unfold runQ
  split at h
  · exact ⟨hq, _, h, hk⟩
  · split at h <;> try (cases h; done)
    rename_i b hb
    split at h
    · rename_i hw; exact ⟨b, hb, fun _ => ⟨hq, _, h, hk⟩, fun hn => absurd hw hn⟩
    · rename_i hw; injection h with h; subst h; exact ⟨b, hb, fun he => absurd he hw, fun _ => hk⟩
theorem runP_of_eval {P : Program} {c : Ctx} {nt : Nat} {X : List Nat} {k : St → Prop} : ∀ {p p' : Plan} {st st' : St}, evalP X p st = some (p', st') → runP P c nt X p' st' k → runP P c nt X p st k := by
  intro p
  induction p with
  | done =>
    intro p' st st' h hk
    simp only [evalP, Option.some.injEq, Prod.mk.injEq] at h
    obtain ⟨rfl, rfl⟩ := h; exact hk
  | take i it p ih =>
    intro p' st st' h hk
    simp only [evalP] at h
    split at h <;> try (cases h; done)
    rename_i hq
    obtain ⟨st1, h1, h2⟩ := Option.bind_eq_some_iff.1 h
    exact runQ_of_step hq h1 (ih h2 hk)
  | alt i it p q ihp _ =>
    intro p' st st' h hk
    simp only [evalP] at h
    split at h
    · split at h
      · simp only [Option.some.injEq, Prod.mk.injEq] at h
        obtain ⟨rfl, rfl⟩ := h; exact hk
      · rename_i hc
        split at h <;> try (cases h; done)
        rename_i hw
        obtain ⟨st1, h1, h2⟩ := Option.bind_eq_some_iff.1 h
        refine ⟨runI_of_step (by simpa using hc) h1 (fun b hb => ?_) (ihp h2 hk), trivial⟩
        have := List.all_eq_true.1 hw b hb
        simpa using this
    · simp only [Option.some.injEq, Prod.mk.injEq] at h
      obtain ⟨rfl, rfl⟩ := h; exact hk
section
variable {P : Program} {nt : Nat} {c : Ctx} {st : St} {Q : Exit → St → Prop}
theorem keep_conc {st : St} {ρ : Map} {a : Act} {w : World} (h : Conc c st ρ a w) (ds : List Nat) : Conc c (st.keep ds) ρ a w :=
  h.less _ (fun d x hx => by rw [look_keep] at hx; split at hx; exact hx; cases hx)
theorem plainOps_get {ops : Array Oper} (h : plainOps ops = true) {i : Nat} {o : Oper} (ho : ops[i]? = some o) : ∀ c, o.op ≠ .defer c := by
  intro c hc
  have := List.all_eq_true.1 h o (by rw [← Array.getElem?_toList] at ho; exact List.mem_of_getElem? ho)
  rw [hc] at this; cases this
theorem wpOp_in {ops : Array Oper} {r : Option Nat} (hr : r = none ∨ plainOps ops = true) {R : Exit → Act → World → Prop} (hR : ¬ LetsOut R) {i : Nat} {K K' : Act → World → Prop} (hK : ∀ a w, K a w → K' a w) {a : Act} {w : World} (h : wpOp P ops R i K a w) : wpOpIn (fw r) 0 P ops R i K' a w := by
  unfold wpOp at h
  unfold wpOpIn
  cases ho : ops[i]? with
  | none => rw [ho] at h; exact hK _ _ h
  | some o =>
    rw [ho] at h
    dsimp only at h ⊢
    split at h
    · rename_i hw
      rw [if_pos hw]
      rcases h with h | ⟨_, h⟩
      · have hsem : o.semAt (fw r).round a.eval = execOp a.eval o := by
          rcases hr with rfl | hr
          · rfl
          · exact Oper.semAt_eq _ _ _ (plainOps_get hr ho)
        refine ⟨fun _ _ => trivial, ?_⟩
        rw [hsem]
        unfold Oper.wp at h
        generalize (execOp a.eval o).run P w = x at h ⊢
        cases x with
        | ok y w' =>
          cases y <;> simp only [Oper.upon, Oper.uponIn] at h ⊢
          case value v => exact hK _ _ h
          case skip => exact hK _ _ h
          case defer d => exact hK _ _ h
          case enter f args =>
            refine ⟨fun hd => (by simp [fw, Fence.wide] at hd), ?_⟩
            have h2 : CallsIn Fence.wide 0 P f args w' _ := callsIn_wide.2 h
            refine CallsIn.mono (show CallsIn (fw r) (0 - 1) P f args w' _ from h2) (fun e w'' he => ?_)
            cases e <;> first | exact hK _ _ he | exact he
          case row row args =>
            refine ⟨fun hd => (by simp [fw, Fence.wide] at hd), fun c' cs _ => ?_⟩
            obtain ⟨v, w'', hv, hst⟩ := h c' cs
            exact ⟨v, w'', hK _ _ hv, stepsIn_wide.2 hst⟩
        | halt y w' =>
          cases y <;> simp only [Oper.upon, Oper.uponIn] at h ⊢ <;> exact h
      · exact absurd h hR
    · rename_i hw
      rw [if_neg hw]
      exact ⟨fun _ _ => trivial, hK _ _ h⟩
theorem wpOps_in {ops : Array Oper} {r : Option Nat} (hr : r = none ∨ plainOps ops = true) {R : Exit → Act → World → Prop} (hR : ¬ LetsOut R) : ∀ (l : List Nat) (a : Act) (w : World), wpOps P ops R l a w → wpOpsIn (fw r) 0 P ops R l a w
  | [], a, w, h => h
  | i :: q, a, w, h => by
    rw [wpOps_cons] at h
    rw [wpOpsIn_cons]
    exact wpOp_in hr hR (fun a w h => wpOps_in hr hR q a w h) h
theorem wpAny_in {ops : Array Oper} {r : Option Nat} (hr : r = none ∨ plainOps ops = true) {R : Exit → Act → World → Prop} (hR : ¬ LetsOut R) {md : Region.Mode} : ∀ (fuel : Nat) (l : Array Bool) (a : Act) (w : World), wpAny P md ops R fuel l a w → wpAnyIn (fw r) 0 P md ops R fuel l a w
  | 0, l, a, w, h => h
  | fuel + 1, l, a, w, h => ⟨h.1, fun i hi => wpOp_in hr hR (fun a w h => wpAny_in hr hR fuel _ a w h) (h.2 i hi)⟩
theorem postR_in {k : St → Prop} : ¬ LetsOut (postR nt c k) := fun ⟨_, _, h⟩ => h
theorem rOK_region {r : Option Nat} {id : Nat} {ops : Array Oper} {d : Bool} (h : rOK r (.region id ops d) = true) : r = none ∨ plainOps ops = true := by
  unfold rOK at h
  rcases Bool.or_eq_true _ _ ▸ h with h | h
  · exact .inl (by simpa using h)
  · exact .inr h
theorem rOK_seq {r : Option Nat} {x y : Code} (h : rOK r (.seq x y) = true) : rOK r x = true ∧ rOK r y = true := by
  unfold rOK at h ⊢; cases r <;> simp_all [plainC]
theorem rOK_cond {r : Option Nat} {s : Operand} {x y : Code} (h : rOK r (.cond s x y) = true) : rOK r x = true ∧ rOK r y = true := by
  unfold rOK at h ⊢; cases r <;> simp_all [plainC]
theorem rOK_block {r : Option Nat} {id : Nat} {x : Code} (h : rOK r (.block id x) = true) : rOK r x = true := by
  unfold rOK at h ⊢; cases r <;> simp_all [plainC]
theorem rOK_loop {r : Option Nat} {x : Code} (h : rOK r (.loop x) = true) : rOK r x = true := by
  unfold rOK at h ⊢; cases r <;> simp_all [plainC]
theorem J.reg {its : List It} {ks : List Nat} (h : runL P c nt its st fun st' => Q .normal (st'.keep ks)) : J P nt c (.reg its ks) st Q := by
  intro code hc r hr ρ a w hcc hs
  cases code <;> try (simp [chkC] at hc; done)
  rename_i id ops draw
  cases draw <;> simp only [chkC] at hc
  · have hl := (chkIts_get hc).1
    have hl' : ops.size = its.length := by rw [← Array.length_toList, hl]
    have := run_list hc its.length 0 st ρ a w (by omega) hcc hs h
    rw [← hl', ← List.range_eq_range'] at this
    refine wpIn_mono (wpIn_region (wpOps_in (rOK_region hr) postR_in _ _ _ this)) (fun e a' w' h' => ?_)
    cases e <;> first | exact h'.elim | skip
    obtain ⟨hs', st', ρ', hq, hc'⟩ := h'
    exact ⟨hs', _, ρ', hq, keep_conc hc' ks⟩
  · cases hc
theorem J.draw {X ks : List Nat} {p : Plan} (h : ∀ c', c'.B = c.B → runP P c' nt X p st fun st' => Q .normal (st'.keep ks)) : J P nt c (.draw X p ks) st Q := by
  intro code hc r hr ρ a w hcc hs
  cases code <;> try (simp [chkC] at hc; done)
  rename_i id ops draw
  cases draw <;> simp only [chkC] at hc
  · cases hc
  · simp only [Bool.and_eq_true, decide_eq_true_eq] at hc
    obtain ⟨⟨⟨hsel, hfol⟩, hplan⟩, hdep⟩ := hc
    have hd := hcc.draw
    have := (run_plan hsel hd (X := X) p (Array.replicate ops.size false) ops.size st ρ a _ (thru_begin hd X) hs { out := fun _ _ _ _ h => h, ins := fun b q o hb h => .inl ⟨b, hb, o, h⟩, size := Nat.le_refl _, same := fun _ _ _ => rfl } (h _ rfl) hdep).1 hplan
    refine wpIn_mono (wpIn_region_any hfol (wpAny_in (rOK_region hr) postR_in _ _ _ _ (wpAny_of_held _ _ _ _ this))) (fun e a' w' h' => ?_)
    cases e <;> first | exact h'.elim | skip
    obtain ⟨hs', st', ρ', hq, hc'⟩ := h'
    exact ⟨hs', _, ρ', hq, keep_conc (thru_end hd hc') ks⟩
theorem J.drawT {X ks : List Nat} {p : Plan} (h7 : X.contains 7 = true) (hstd : c.A = c.B) (h : ∀ c', c'.A = c'.B → c'.B = c.B → runP P c' nt X p st fun st' => Q .normal (st'.keep ks)) : J P nt c (.draw X p ks) st Q := by
  intro code hc r hr ρ a w hcc hs
  cases code <;> try (simp [chkC] at hc; done)
  rename_i id ops draw
  cases draw <;> simp only [chkC] at hc
  · cases hc
  · simp only [Bool.and_eq_true, decide_eq_true_eq] at hc
    obtain ⟨⟨⟨hsel, hfol⟩, hplan⟩, hdep⟩ := hc
    have hd := hcc.draw
    have := (run_plan hsel hd (X := X) p (Array.replicate ops.size false) ops.size st ρ a _ (thru_begin hd X) hs { out := fun _ _ _ _ h => h, ins := fun b q o hb h => .inl ⟨b, hb, o, h⟩, size := Nat.le_refl _, same := fun _ _ _ => rfl } (h _ (by funext k; show (c.A k ∨ X.contains 7 = false ∧ _) = c.B k; rw [h7, hstd]; simp) rfl) hdep).1 hplan
    refine wpIn_mono (wpIn_region_any hfol (wpAny_in (rOK_region hr) postR_in _ _ _ _ (wpAny_of_held _ _ _ _ this))) (fun e a' w' h' => ?_)
    cases e <;> first | exact h'.elim | skip
    obtain ⟨hs', st', ρ', hq, hc'⟩ := h'
    exact ⟨hs', _, ρ', hq, keep_conc (thru_end hd hc') ks⟩
theorem runP_alt {X : List Nat} {i : Nat} {it : It} {p q : Plan} {st st1 : St} {k : St → Prop} (hc : isCall it.ao = false) (hw : wrOK X st it.ao = true) (h : stepI it st = some st1) (h1 : runP P c nt X p st1 k) (h2 : q = .done ∨ runP P c nt X q st k) : runP P c nt X (.alt i it p q) st k := by
  refine ⟨runI_of_step hc h (fun b hb => ?_) h1, ?_⟩
  · have := List.all_eq_true.1 hw b hb
    simpa using this
  · rcases h2 with rfl | h2
    · trivial
    · cases q <;> first | trivial | exact h2
theorem J.regE {its : List It} {ks : List Nat} {st' : St} (h : evalL its st = some ([], st')) (hk : Q .normal (st'.keep ks)) : J P nt c (.reg its ks) st Q := J.reg (runL_of_eval h hk)
theorem J.regC {its its' : List It} {ks : List Nat} {st' : St} (h : evalL its st = some (its', st')) (hk : runL P c nt its' st' fun st' => Q .normal (st'.keep ks)) : J P nt c (.reg its ks) st Q := J.reg (runL_of_eval h hk)
theorem J.drawE {X ks : List Nat} {p : Plan} {st' : St} (h : evalP X p st = some (.done, st')) (hk : Q .normal (st'.keep ks)) : J P nt c (.draw X p ks) st Q := J.draw (fun _ _ => runP_of_eval h hk)
theorem J.drawC {X ks : List Nat} {p p' : Plan} {st' : St} (h : evalP X p st = some (p', st')) (hk : ∀ c', c'.B = c.B → runP P c' nt X p' st' fun st' => Q .normal (st'.keep ks)) : J P nt c (.draw X p ks) st Q := J.draw (fun c' hc => runP_of_eval h (hk c' hc))
theorem J.skip (h : Q .normal st) : J P nt c .skip st Q := by
  intro code hc r hr ρ a w hcc hs
  cases code <;> try (simp [chkC] at hc; done)
  exact wpIn_skip ⟨hs, st, ρ, h, hcc⟩
theorem J.exit {id : Nat} (h : Q (.exit id) st) : J P nt c (.exit id) st Q := by
  intro code hc r hr ρ a w hcc hs
  cases code <;> try (simp [chkC] at hc; done)
  simp only [chkC, beq_iff_eq] at hc
  subst hc
  exact wpIn_exit ⟨hs, st, ρ, h, hcc⟩
theorem J.ret (h : Q .ret st) : J P nt c .ret st Q := by
  intro code hc r hr ρ a w hcc hs
  cases code <;> try (simp [chkC] at hc; done)
  exact wpIn_ret ⟨hs, st, ρ, h, hcc⟩
theorem J.label (h : Q .normal st) : J P nt c .label st Q := by
  intro code hc r hr ρ a w hcc hs
  cases code <;> try (simp [chkC] at hc; done)
  exact wpIn_label ⟨hs, st, ρ, h, hcc⟩
def scopeQ (Q : Exit → St → Prop) : Exit → St → Prop
  | .goto _, _ => False
  | e, st => Q e st
theorem J.scope {x : AC} (h : J P nt c x st (scopeQ Q)) : J P nt c (.scope x) st Q := by
  intro code hc r hr ρ a w hcc hs
  cases code <;> try (simp [chkC] at hc; done)
  simp only [chkC] at hc
  cases r with
  | some l => simp [rOK, plainC] at hr
  | none =>
  refine (wpIn_wide (n := 0)).2 (wp_scope_straight (wp_mono ((wpIn_wide (n := 0)).1 (h _ hc none rfl ρ a w hcc hs)) (fun e a' w' h' => ?_)))
  cases e <;> first | exact h'.elim | exact h' | skip
  obtain ⟨hs', st', ρ', hq, hc'⟩ := h'
  exact hq.elim
def thenQ (P : Program) (nt : Nat) (c : Ctx) (y : AC) (Q : Exit → St → Prop) : Exit → St → Prop
  | .normal, st => J P nt c y st Q
  | e, st => Q e st
theorem J.seq {x y : AC} (h : J P nt c x st (thenQ P nt c y Q)) : J P nt c (.seq x y) st Q := by
  intro code hc r hr ρ a w hcc hs
  cases code <;> try (simp [chkC] at hc; done)
  simp only [chkC, Bool.and_eq_true] at hc
  refine wpIn_seq (wpIn_mono (h _ hc.1 r (rOK_seq hr).1 ρ a w hcc hs) (fun e a' w' h' => ?_))
  cases e <;> first | exact h'.elim | skip
  · obtain ⟨hs', st', ρ', hq, hc'⟩ := h'
    exact hq _ hc.2 r (rOK_seq hr).2 ρ' a' w' hc' hs'
  all_goals exact h'
theorem J.cond {t : Nat} {x y : AC} (h : ∃ b, look st.slots t = some (.lit (.bool b)) ∧ (b = true → J P nt c x st Q) ∧ (b = false → J P nt c y st Q)) : J P nt c (.cond (.s t) x y) st Q := by
  obtain ⟨b, hb, h1, h2⟩ := h
  intro code hc r hr ρ a w hcc hs
  cases code <;> try (simp [chkC] at hc; done)
  rename_i s x' y'
  cases s <;> try (simp [chkC] at hc; done)
  rename_i t'
  simp only [chkC, Bool.and_eq_true, beq_iff_eq] at hc
  obtain ⟨⟨rfl, hx⟩, hy⟩ := hc
  have he := (hcc.slots _ _ hb).lit_inv.1
  refine wpIn_cond_split (t := b) he (fun e => h1 e _ hx r (rOK_cond hr).1 ρ a w hcc hs) (fun e => h2 e _ hy r (rOK_cond hr).2 ρ a w hcc hs)
def blockQ (id : Nat) (Q : Exit → St → Prop) : Exit → St → Prop
  | .exit id', st => if id' = id then Q .normal st else Q (.exit id') st
  | e, st => Q e st
theorem J.block {id : Nat} {x : AC} (h : J P nt c x st (blockQ id Q)) : J P nt c (.block id x) st Q := by
  intro code hc r hr ρ a w hcc hs
  cases code <;> try (simp [chkC] at hc; done)
  simp only [chkC, Bool.and_eq_true, beq_iff_eq] at hc
  obtain ⟨rfl, hx⟩ := hc
  refine wpIn_block (wpIn_mono (h _ hx r (rOK_block hr) ρ a w hcc hs) (fun e a' w' h' => ?_))
  cases e <;> first | exact h'.elim | exact h' | skip
  rename_i id' _
  obtain ⟨hs', st', ρ', hq, hc'⟩ := h'
  simp only [blockQ] at hq
  simp only [Exit.inBlock]
  split
  · rename_i e; rw [if_pos e] at hq; exact ⟨hs', st', ρ', hq, hc'⟩
  · rename_i e; rw [if_neg e] at hq; exact ⟨hs', st', ρ', hq, hc'⟩
def loopQ (I : Nat → St → Prop) (n : Nat) (Q : Exit → St → Prop) : Exit → St → Prop
  | .normal, st => ∃ m s', m < n ∧ st.le s' ∧ I m s'
  | e, st => Q e st
theorem J.loop {x : AC} (hstd : c.A = c.B) (I : Nat → St → Prop) (h0 : ∃ n s', st.le s' ∧ I n s') (h : ∀ n st, I n st → J P nt c x st (loopQ I n Q)) : J P nt c (.loop x) st Q := by
  intro code hc r hr ρ a w hcc hs
  cases code <;> try (simp [chkC] at hc; done)
  rename_i x'
  simp only [chkC] at hc
  classical
  let R : Nat → Act → World → Prop := fun n a w => a.tmps.size = nt ∧ ∃ st ρ, I n st ∧ Conc c st ρ a w
  have hmin : ∀ a w, (∃ n, R n a w) → ∃ n, R n a w ∧ ∀ m, R m a w → n ≤ m := by
    intro a w ⟨n, hn⟩
    induction n using Nat.strongRecOn with
    | _ n ih =>
      by_cases hlt : ∃ m, m < n ∧ R m a w
      · obtain ⟨m, hm, hR⟩ := hlt; exact ih m hm hR
      · exact ⟨n, hn, fun m hm => Nat.le_of_not_lt (fun h' => hlt ⟨m, h', hm⟩)⟩
  let μ : Act → World → Nat := fun a w => if h : ∃ n, R n a w then (hmin a w h).choose else 0
  have hμ : ∀ a w, (∃ n, R n a w) → R (μ a w) a w ∧ ∀ m, R m a w → μ a w ≤ m := by
    intro a w hex
    simp only [μ, hex, dif_pos]
    exact (hmin a w hex).choose_spec
  obtain ⟨n0, s0, hle0, hn0⟩ := h0
  obtain ⟨ρ0, hcc0, _⟩ := hle0 c ρ a w hstd hcc
  refine wpIn_loop (fun a w => ∃ n, R n a w) μ ⟨n0, hs, s0, ρ0, hn0, hcc0⟩ (fun a w hex => ?_)
  obtain ⟨⟨hs1, st1, ρ1, hI, hc1⟩, _⟩ := hμ a w hex
  refine wpIn_mono (h _ st1 hI _ hc r (rOK_loop hr) ρ1 a w hc1 hs1) (fun e a' w' h' => ?_)
  cases e <;> first | exact h'.elim | exact h' | skip
  obtain ⟨hs', st0, ρ0, ⟨m, st', hm, hle, hI'⟩, hc0⟩ := h'
  obtain ⟨ρ', hc', _⟩ := hle c ρ0 a' w' hstd hc0
  have hex' : ∃ n, R n a' w' := ⟨m, hs', st', ρ', hI', hc'⟩
  exact ⟨hex', Nat.lt_of_le_of_lt ((hμ a' w' hex').2 m ⟨hs', st', ρ', hI', hc'⟩) hm⟩
theorem J.le {ac : AC} {st' : St} (hstd : c.A = c.B) (hl : st.le st') (h : J P nt c ac st' Q) : J P nt c ac st Q := by
  intro code hc r hr ρ a w hcc hs
  obtain ⟨ρ', h', _⟩ := hl c ρ a w hstd hcc
  exact h code hc r hr ρ' a w h' hs
theorem J.mono {ac : AC} {Q' : Exit → St → Prop} (h : J P nt c ac st Q') (hq : ∀ e s, Q' e s → Q e s) : J P nt c ac st Q := by
  intro code hc r hr ρ a w hcc hs
  refine wpIn_mono (h code hc r hr ρ a w hcc hs) (fun e a' w' h' => ?_)
  cases e <;> first | exact h'.elim | (obtain ⟨hs', st', ρ', hQ, hc'⟩ := h'; exact ⟨hs', st', ρ', hq _ _ hQ, hc'⟩)
end
end Go.SX
namespace Go.SX
open Go
inductive RD where
  | tmp (t : Nat)
  | cell (t n : Nat) (g : Bool)
def chkRes (P : Program) : List ResultVar → List RD → Bool
  | [], [] => true
  | .tmp t :: r, .tmp t' :: q => t == t' && chkRes P r q
  | .cell t ty :: r, .cell t' n g :: q => t == t' && shape1 P ty n g && n != 0 && chkRes P r q
  | _, _ => false
def resV (st : St) : RD → Option AV
  | .tmp t => look st.slots t
  | .cell t n g => match look st.slots t with
    | some p => match lv st.mem n p with
      | some cs => mkv g cs
      | none => none
    | none => none
def resL (st : St) : List RD → Option (List AV)
  | [] => some []
  | r :: q => match resV st r, resL st q with
    | some x, some xs => some (x :: xs)
    | _, _ => none
def resT : List AV → AV
  | [x] => x
  | xs => .tup xs
def number : Nat → List AV → Slots
  | _, [] => []
  | n, x :: r => (n, x) :: number (n + 1) r
def entry (args : List AV) (m : Mem) (fixed : List Nat) : St := ⟨number 0 args, m, fixed⟩
def chkFn (P : Program) (f : FuncId) (nt nargs : Nat) (ac : AC) (rds : List RD) : Bool :=
  match P.funcs[f]? with
  | some fn => (match fn.body with
    | some code => chkC P nt code ac
    | none => false) && fn.ntmps == nt && decide (nargs ≤ nt) && chkRes P fn.results.toList rds && fn.name != "runtime.NumGoroutine"
  | none => false
theorem look_number : ∀ (l : List AV) (n d : Nat), look (number n l) d = if n ≤ d then l[d - n]? else none
  | [], n, d => by simp [number, look]
  | x :: r, n, d => by
    simp only [number, look]
    by_cases e : n = d
    · subst e; simp
    · rw [if_neg e, look_number r (n + 1) d]
      by_cases h : n ≤ d
      · rw [if_pos h, if_pos (by omega), show d - n = (d - (n + 1)) + 1 from by omega]; simp
      · rw [if_neg h, if_neg (by omega)]
def resRead (tmps : Array Value) : ResultVar → Sem Value
  | .tmp t => pure (tmps.getD t undef)
  | .cell q t => do loadVar t (← asAddr (tmps.getD q undef))
theorem results_eq (fn : Func) (tmps : Array Value) : results fn tmps = (do let vs ← fn.results.mapM (resRead tmps); pure (if h : vs.size = 1 then vs[0] else .tuple vs)) := by
  unfold results
  congr 2
section
variable {P : Program} {nt : Nat} {c : Ctx}
theorem res_ok {st : St} {ρ : Map} {a : Act} {w : World} (h : Conc c st ρ a w) : ∀ {rvs : List ResultVar} {rds : List RD} {xs : List AV}, chkRes P rvs rds = true → resL st rds = some xs →
    ∃ vs : List Value, (rvs.mapM (resRead a.tmps)).run P w = .ok vs w ∧ xs.length = vs.length ∧ ∀ (i : Nat) x, xs[i]? = some x → VRel w (OwnBy c.A ρ) ρ x (vs.getD i undef)
  | [], [], xs, _, hr => by
    simp only [resL, Option.some.injEq] at hr; subst hr
    exact ⟨[], by simp, rfl, fun i x hx => by simp at hx⟩
  | .tmp t :: r, .tmp t' :: q, xs, hc, hr => by
    simp only [chkRes, Bool.and_eq_true, beq_iff_eq] at hc
    obtain ⟨rfl, hc⟩ := hc
    simp only [resL] at hr
    split at hr <;> try (cases hr; done)
    rename_i x xs0 h1 h2
    injection hr with hr; subst hr
    obtain ⟨vs, h3, h4, h5⟩ := res_ok h hc h2
    refine ⟨a.tmps.getD t undef :: vs, ?_, by simp [h4], fun i y hy => ?_⟩
    · have h0 : (resRead a.tmps (.tmp t)).run P w = .ok (a.tmps.getD t undef) w := rfl
      rw [List.mapM_cons, Sem.run_bind, h0, Result.andThen_ok, Sem.run_bind, h3, Result.andThen_ok, Sem.run_pure]
    · cases i with
      | zero => simp at hy; subst hy; exact h.slots _ _ h1
      | succ i => simpa using h5 i y (by simpa using hy)
  | .cell t ty :: r, .cell t' n g :: q, xs, hc, hr => by
    simp only [chkRes, Bool.and_eq_true, beq_iff_eq, bne_iff_ne] at hc
    obtain ⟨⟨⟨rfl, hsh⟩, hn⟩, hc⟩ := hc
    simp only [resL] at hr
    split at hr <;> try (cases hr; done)
    rename_i x xs0 h1 h2
    injection hr with hr; subst hr
    obtain ⟨vs, h3, h4, h5⟩ := res_ok h hc h2
    simp only [resV] at h1
    split at h1 <;> try (cases h1; done)
    rename_i p hp
    split at h1 <;> try (cases h1; done)
    rename_i cs hl
    obtain ⟨d, i, hd, hi, hsz, hag⟩ := shape1_spec hsh
    obtain ⟨ad, us, hpv, hlt, hcl, hul, hcell, hrel, _⟩ := lv_rel h (h.slots _ _ hp) hl hn
    have hR := mkv_rel (R := VRel w (OwnBy c.A ρ) ρ) (fun _ _ h1 h2 => .agg h1 h2) (vs := us.toArray) h1 (by simp; omega) (fun i x hx => by have := hrel i x hx; simpa [List.getD] using this)
    have hload : (loadVar ty ad).run P w = .ok (if g then .agg us.toArray else us.toArray.getD 0 undef) w := by
      cases g
      · have hn1 : n = 1 := by
          unfold mkv at h1; simp only [Bool.false_eq_true, if_false] at h1
          split at h1
          · simpa using hcl.symm
          · cases h1
        subst hn1
        obtain ⟨v, rfl⟩ : ∃ v, us = [v] := List.length_eq_one_iff.1 hul
        have h0 := hcell 0 v rfl
        have e0 : ad.add 0 = ad := by simp [Addr.add]
        rw [e0] at h0
        simp [loadVar, hag, h0]
      · have := run_loadCells_list (P := P) w ad us hcell
        rw [hul] at this
        simp [loadVar, hag, szOf hi, hsz, this]
    refine ⟨(if g then .agg us.toArray else us.toArray.getD 0 undef) :: vs, ?_, by simp [h4], fun i y hy => ?_⟩
    · have h0 : (resRead a.tmps (.cell t ty)).run P w = .ok (if g then .agg us.toArray else us.toArray.getD 0 undef) w := by
        unfold resRead
        rw [Sem.run_bind, hpv]
        exact hload
      rw [List.mapM_cons, Sem.run_bind, h0, Result.andThen_ok, Sem.run_bind, h3, Result.andThen_ok, Sem.run_pure]
    · cases i with
      | zero => simp at hy; subst hy; simpa using hR
      | succ i => simpa using h5 i y (by simpa using hy)
  | [], _ :: _, _, hc, _ => by simp [chkRes] at hc
  | .tmp _ :: _, [], _, hc, _ => by simp [chkRes] at hc
  | .cell _ _ :: _, [], _, hc, _ => by simp [chkRes] at hc
  | .tmp _ :: _, .cell .. :: _, _, hc, _ => by simp [chkRes] at hc
  | .cell _ _ :: _, .tmp _ :: _, _, hc, _ => by simp [chkRes] at hc
theorem results_ok {st : St} {ρ : Map} {a : Act} {w : World} (h : Conc c st ρ a w) {fn : Func} {rds : List RD} {xs : List AV} (hc : chkRes P fn.results.toList rds = true) (hr : resL st rds = some xs) :
    ∃ v, (results fn a.tmps).run P w = .ok v w ∧ VRel w (OwnBy c.A ρ) ρ (resT xs) v := by
  obtain ⟨vs, h1, h2, h3⟩ := res_ok h hc hr
  have hm : (fn.results.mapM (resRead a.tmps)).run P w = .ok vs.toArray w := by
    rw [Array.mapM_eq_mapM_toList, Sem.run_map]
    rw [h1]
    rfl
  refine ⟨if h : vs.toArray.size = 1 then vs.toArray[0] else .tuple vs.toArray, ?_, ?_⟩
  · rw [results_eq, Sem.run_bind, hm]
    rfl
  · by_cases h1 : vs.length = 1
    · obtain ⟨v, rfl⟩ := List.length_eq_one_iff.1 h1
      obtain ⟨x, rfl⟩ := List.length_eq_one_iff.1 (h2.trans h1)
      have := h3 0 x rfl
      simpa [resT] using this
    · rw [dif_neg (by simpa using h1)]
      have : resT xs = .tup xs := by
        unfold resT
        split
        · simp at h2; omega
        · rfl
      rw [this]
      exact .tup (by simpa using h2) (fun i x hx => by have := h3 i x hx; simpa [List.getD] using this)
def doneQ (fixed : List Nat) (rds : List RD) (postF : AV → Mem → Prop) (e : Exit) (st : St) : Prop :=
  (e = .normal ∨ e = .ret) ∧ st.fixed = fixed ∧ ∃ xs m, resL st rds = some xs ∧ (∀ p ∈ m, look st.mem p.1 = some p.2) ∧ refsIn (fun b => (look m b).isSome) (resT xs) ∧ (∀ p ∈ m, p.2.refs (fun b => (look m b).isSome)) ∧ (∀ b ∈ fixed, (look m b).isSome) ∧ postF (resT xs) m
theorem Does.of {f : FuncId} {args : List AV} {m : Mem} {fixed : List Nat} {ac : AC} {rds : List RD} {postF : AV → Mem → Prop} (hc : chkFn P f nt args.length ac rds = true)
    (hJ : ∀ c, c.A = c.B → J P nt c ac (entry args m fixed) (doneQ fixed rds postF)) : Does P f args m fixed postF := by
  unfold chkFn at hc
  split at hc <;> try (cases hc; done)
  rename_i fn hfn
  simp only [Bool.and_eq_true, beq_iff_eq, decide_eq_true_eq, bne_iff_ne] at hc
  obtain ⟨⟨⟨⟨hb, hnt⟩, hna⟩, hres⟩, hname⟩ := hc
  split at hb <;> try (cases hb; done)
  rename_i code hbody
  refine ⟨by simp [fnOK, hfn, hbody, hname], fun A ρ w vs ht1 ht2 hM hlen hv => ?_⟩
  let c : Ctx := ⟨w, A, A, ρ, fun k => ∃ b o, ρ b = some (k, o), fun _ h => h, ht1, fun q hq ⟨b, o, hb⟩ => ht2 q hq b o hb, []⟩
  have hcc : Conc c (entry args m fixed) ρ { tmps := vs ++ Array.replicate (fn.ntmps - vs.size) undef, defers := [] } w := {
    slots := fun d x hx => by
      simp only [entry, look_number, Nat.zero_le, if_true, Nat.sub_zero] at hx
      have hd : d < vs.size := by
        rcases Nat.lt_or_ge d args.length with h' | h'
        · omega
        · rw [List.getElem?_eq_none h'] at hx; cases hx
      have := hv d x hx
      have e : (vs ++ Array.replicate (fn.ntmps - vs.size) undef).getD d undef = vs.getD d undef := by
        simp only [Array.getD_eq_getD_getElem?]
        rw [Array.getElem?_append_left hd]
      simp only [e]
      exact this
    defers := rfl, mem := hM.mem, dom := hM.dom, lt := hM.lt, inj := hM.inj, mine := fun b k o hb => .inl ⟨b, o, hb⟩, far := hM.far, fix := fun _ _ => rfl, alt := hM.alt, os := rfl, tape := rfl, output := OutLe.refl _, size := Nat.le_refl _, frame := fun _ _ _ => rfl, rows := fun k cur ty fr _ hh => ⟨cur, ty, fr, hh, rfl⟩ }
  have hsz : (vs ++ Array.replicate (fn.ntmps - vs.size) undef).size = nt := by simp; omega
  have hw := (wpIn_wide (n := 0)).1 (hJ c rfl code hb none rfl ρ _ w hcc hsz)
  refine calls_of_wp hfn hbody (wp_mono hw (fun e a' w' h' => ?_))
  have fin : ∀ e : Exit, (a'.tmps.size = nt ∧ ∃ st ρ', doneQ fixed rds postF e st ∧ Conc c st ρ' a' w') → (e = .normal ∨ e = .ret) ∧ a'.defers = [] ∧ ∃ v, (results fn a'.tmps).run P w' = .ok v w' ∧
      ∃ v_1 r m' ρ', Ending.returned v = .returned v_1 ∧ postF r m' ∧ MemOK A m' ρ' w' ∧ VRel w' (OwnBy A ρ') ρ' r v_1 ∧ After w w' ρ ρ' fixed := by
    rintro e ⟨_, st, ρ', ⟨he, hfx, xs, m2, hxs, hm2, hr1, hr2, hfm, hp⟩, hc'⟩
    obtain ⟨v, hrun, hrel⟩ := results_ok hc' hres hxs
    have hc2 := hc'.sub (st' := { st with slots := [], mem := m2 }) (fun p hp => by simp at hp) hm2 (fun p hp => by simp at hp) hr2 rfl (fun b hb => hfm b (hfx ▸ hb))
    have hsub : ∀ b k o, (fun x => if (look m2 x).isSome then ρ' x else none) b = some (k, o) → ρ' b = some (k, o) := fun b k o hb => by
      replace hb : (if (look m2 b).isSome then ρ' b else none) = some (k, o) := hb
      split at hb
      · exact hb
      · cases hb
    have hk : KeepsV w' w' (OwnBy A ρ') (OwnBy A (fun x => if (look m2 x).isSome then ρ' x else none)) ρ' (fun x => if (look m2 x).isSome then ρ' x else none) (fun b => (look m2 b).isSome) := {
      size := Nat.le_refl _, same := fun _ _ _ => rfl
      own := fun k _ hk => hk.imp id (fun ⟨b, o, hb⟩ => ⟨b, o, hsub _ _ _ hb⟩)
      map := fun b hb k o hρ => by simp only [hb, if_true]; exact hρ
      rows := fun k cur ty fr _ hh => ⟨cur, ty, fr, hh, rfl⟩, lt := hc'.lt }
    exact ⟨he, hc'.defers, v, hrun, v, _, m2, _, rfl, hp, { mem := hc2.mem, dom := hc2.dom, lt := hc2.lt, inj := hc2.inj, far := hc2.far, alt := fun k hk => Nat.lt_of_lt_of_le (hc'.alt k hk) hc'.size }, hrel.keep hk hr1,
      { os := hc'.os, tape := hc'.tape, output := hc'.output, size := hc'.size, frame := fun k hk hno => hc'.frame k hk (fun ⟨b, o, hb⟩ => hno b o hb), mine := fun b k o hb => hc'.mine b k o (hsub _ _ _ hb), fix := fun b hb => hc2.fix b (hfx ▸ hb), rows := hc'.rows }⟩
  cases e with
  | normal => exact (fin _ h').2
  | ret => exact (fin _ h').2
  | exit id => have := (fin _ h').1; simp at this
  | goto l => have := (fin _ h').1; simp at this
  | panic ch => exact h'.elim
  | outgrown => exact h'.elim
end
end Go.SX
namespace Go.SX
open Go
attribute [simp] gval entry number thenQ blockQ loopQ scopeQ evalL evalP stepI isCall wrOK quiet exec pv St.src look upd St.put St.put? mkv lv wrs keepS St.keep resL resV resT bop ibin St.kill St.fresh drop kill killL killS srcsOf cellsA mapCells isTree isCell rowOf rowSz notOn bound lowb fillA refsIn refsInL Blk.refs noTree noTreeL noTreeB callSt killAll killAllB dropAll doneQ eqA eqv kindV
@[simp] theorem killB_arr (b ty sz : Nat) (es : List (List AV)) : killB b (.arr ty sz es) = .arr ty sz es := rfl
@[simp] theorem killB_map (b : Nat) (es : List (AV × AV)) : killB b (.map es) = .map es := rfl
@[simp] theorem killB_obj (b ty : Nat) (cs : List AV) : killB b (.obj ty cs) = .obj ty (killL b cs) := rfl
abbrev iv (x : Int) : AV := .lit (.int .i64 x)
abbrev bv (b : Bool) : AV := .lit (.bool b)
def ints (l : List Int) : List (List AV) := l.map fun x => [iv x]
def nats (l : List Nat) : List (List AV) := l.map fun (x : Nat) => [iv (x : Int)]
def bools (l : List Bool) : List (List AV) := l.map fun x => [bv x]
section
variable (l m : List Nat) (i : Nat)
@[simp] theorem nats_length : (nats l).length = l.length := by simp [nats]
@[simp] theorem nats_getElem (h : i < (nats l).length) : (nats l)[i] = [iv ((l[i]'(by simpa using h) : Nat) : Int)] := by simp [nats]
@[simp] theorem nats_set (x : Nat) : (nats l).set i [iv (x : Int)] = nats (l.set i x) := by simp [nats, List.map_set]
@[simp] theorem nats_set1 (x : Nat) : (nats l).set i [iv ((x : Int) + 1)] = nats (l.set i (x + 1)) := by simp [nats, List.map_set]
@[simp] theorem nats_append : nats l ++ nats m = nats (l ++ m) := by simp [nats]
@[simp] theorem nats_snoc (x : Nat) : nats l ++ [[iv (x : Int)]] = nats (l ++ [x]) := by simp [nats]
@[simp] theorem nats_take : (nats l).take i = nats (l.take i) := by simp [nats, List.map_take]
@[simp] theorem nats_drop : (nats l).drop i = nats (l.drop i) := by simp [nats, List.map_drop]
@[simp] theorem nats_nil : nats [] = [] := rfl
theorem nats_zero : List.replicate i [iv 0] = nats (List.replicate i 0) := by simp [nats]
end
section
variable (l m : List Int) (i : Nat)
@[simp] theorem ints_length : (ints l).length = l.length := by simp [ints]
@[simp] theorem ints_getElem (h : i < (ints l).length) : (ints l)[i] = [iv (l[i]'(by simpa using h))] := by simp [ints]
@[simp] theorem ints_set (x : Int) : (ints l).set i [iv x] = ints (l.set i x) := by simp [ints, List.map_set]
@[simp] theorem ints_append : ints l ++ ints m = ints (l ++ m) := by simp [ints]
@[simp] theorem ints_snoc (x : Int) : ints l ++ [[iv x]] = ints (l ++ [x]) := by simp [ints]
@[simp] theorem ints_take : (ints l).take i = ints (l.take i) := by simp [ints, List.map_take]
@[simp] theorem ints_drop : (ints l).drop i = ints (l.drop i) := by simp [ints, List.map_drop]
@[simp] theorem ints_nil : ints [] = [] := rfl
end
section
variable (l m : List Bool) (i : Nat)
@[simp] theorem bools_length : (bools l).length = l.length := by simp [bools]
@[simp] theorem bools_getElem (h : i < (bools l).length) : (bools l)[i] = [bv (l[i]'(by simpa using h))] := by simp [bools]
@[simp] theorem bools_set (x : Bool) : (bools l).set i [bv x] = bools (l.set i x) := by simp [bools, List.map_set]
@[simp] theorem bools_nil : bools [] = [] := rfl
end
end Go.SX
namespace Go.SX
open Go
section
variable {P : Program} {nt : Nat} {c : Ctx} {st : St}
theorem callK_view {X : Nat → Prop} {stF : St} (hle : St.le { st with fixed := [] } stF) {fs : Src} {xs : List Src} {d : Option Nat} {f : FuncId} {caps all : List AV} {fixed : List Nat} {post : AV → Mem → Prop} {k : St → Prop} (hf : stF.src fs = some (.fn f caps)) (hx : (srcsOf stF.src xs).map (· ++ caps) = some all)
    (hD : Does P f all [] fixed post) (hr : refsInL (fun _ => False) all) (hk : ∀ r m1, post r m1 → m1 = [] ∧ noTree r = true ∧ k (st.put? d r)) : CallK P c nt X fs xs d st k := by
  obtain ⟨args, hx', rfl⟩ := Option.map_eq_some_iff.1 hx
  intro o ρ a w h _ hc hd hlt
  refine view_ok h hle (fun q hq => hlt q (by rw [← hd]; exact hq)) hc hf hx' hD hr (fun r m1 hp => ?_) X
  rw [hd]; exact hk r m1 hp
theorem callK_call {X : Nat → Prop} {fs : Src} {xs : List Src} {d : Option Nat} {f : FuncId} {caps all : List AV} {bs fixed : List Nat} {post : AV → Mem → Prop} {k : St → Prop} (hf : st.src fs = some (.fn f caps)) (hx : (srcsOf st.src xs).map (· ++ caps) = some all)
    (hD : Does P f all (keepS bs st.mem) fixed post) (hr : refsInL (fun b => b ∈ bs) all) (hm : ∀ b ∈ bs, ∀ blk, look st.mem b = some blk → blk.refs (fun b => b ∈ bs)) (hfx : ∀ b ∈ st.fixed, b ∈ bs → b ∈ fixed) (hbw : ∀ b ∈ bs, X b)
    (hk : ∀ r m1, post r m1 → (∀ b blk, look m1 b = some blk → X b ∧ (b ∈ bs ∨ look st.mem b = none ∧ b ∉ st.fixed)) ∧ (c.A = c.B ∨ noTree r = true ∧ ∀ b blk, look m1 b = some blk → noTreeB blk = true) ∧ k ((callSt st bs fixed m1).put? d r)) : CallK P c nt X fs xs d st k := by
  obtain ⟨args, hx', rfl⟩ := Option.map_eq_some_iff.1 hx
  intro o ρ a w h _ hc hd hlt
  refine call_ok h (fun q hq => hlt q (by rw [← hd]; exact hq)) hc hf hx' hD hr hm hfx hbw (fun r m1 hp => ?_)
  rw [hd]; exact hk r m1 hp
theorem runL_view {stF : St} (hle : St.le { st with fixed := [] } stF) {fs : Src} {xs : List Src} {d : Option Nat} {f : FuncId} {caps all : List AV} {fixed : List Nat} {post : AV → Mem → Prop} {k : St → Prop} {r : List It} (hf : stF.src fs = some (.fn f caps)) (hx : (srcsOf stF.src xs).map (· ++ caps) = some all)
    (hD : Does P f all [] fixed post) (hr : refsInL (fun _ => False) all) (hk : ∀ rv m1, post rv m1 → m1 = [] ∧ noTree rv = true ∧ runL P c nt r (st.put? d rv) k) : runL P c nt (⟨d, none, .callv fs xs⟩ :: r) st k :=
  callK_view hle hf hx hD hr hk
theorem runL_call {fs : Src} {xs : List Src} {d : Option Nat} {f : FuncId} {caps all : List AV} (bs fixed : List Nat) {post : AV → Mem → Prop} {k : St → Prop} {r : List It} (hf : st.src fs = some (.fn f caps)) (hx : (srcsOf st.src xs).map (· ++ caps) = some all)
    (hD : Does P f all (keepS bs st.mem) fixed post) (hr : refsInL (fun b => b ∈ bs) all) (hm : ∀ b ∈ bs, ∀ blk, look st.mem b = some blk → blk.refs (fun b => b ∈ bs)) (hfx : ∀ b ∈ st.fixed, b ∈ bs → b ∈ fixed) (hstd : c.A = c.B)
    (hk : ∀ rv m1, post rv m1 → (∀ p ∈ m1, p.1 ∈ bs ∨ look st.mem p.1 = none ∧ p.1 ∉ st.fixed) ∧ runL P c nt r ((callSt st bs fixed m1).put? d rv) k) : runL P c nt (⟨d, none, .callv fs xs⟩ :: r) st k :=
  callK_call (X := fun _ => True) hf hx hD hr hm hfx (fun _ _ => trivial) (fun rv m1 hp => ⟨fun b blk hb => ⟨trivial, (hk rv m1 hp).1 _ (look_mem hb)⟩, .inl hstd, (hk rv m1 hp).2⟩)
theorem runP_view {X : List Nat} {i : Nat} {p : Plan} {stF : St} (hle : St.le { st with fixed := [] } stF) {fs : Src} {xs : List Src} {d : Option Nat} {f : FuncId} {caps all : List AV} {fixed : List Nat} {post : AV → Mem → Prop} {k : St → Prop} (hf : stF.src fs = some (.fn f caps)) (hx : (srcsOf stF.src xs).map (· ++ caps) = some all)
    (hD : Does P f all [] fixed post) (hr : refsInL (fun _ => False) all) (hk : ∀ rv m1, post rv m1 → m1 = [] ∧ noTree rv = true ∧ runP P c nt X p (st.put? d rv) k) : runP P c nt X (.alt i ⟨d, none, .callv fs xs⟩ p .done) st k :=
  ⟨callK_view hle hf hx hD hr hk, trivial⟩
theorem runL_end {its : List It} {st' : St} {k : St → Prop} (h : evalL its st = some ([], st')) (hk : k st') : runL P c nt its st k := runL_of_eval h hk
theorem runP_end {X : List Nat} {p : Plan} {st' : St} {k : St → Prop} (h : evalP X p st = some (.done, st')) (hk : k st') : runP P c nt X p st k := runP_of_eval h hk
end
end Go.SX
namespace Go.SX
open Go
inductive Re (m m' : Mem) : AV → AV → Prop
  | same {x : AV} (h : refsIn (fun b => (look m' b).isSome) x) : Re m m' x x
  | dead {y : AV} : Re m m' y .dead
  | nil {sz s b : Nat} : Re m m' (.nils s) (.own b sz 0 0)
  | row {b sz lo n ty : Nat} {es : List (List AV)} (hb : look m b = some (.arr ty sz es)) (hb' : look m' b = none) (hs : 0 < sz) (hn : lo + n ≤ es.length) : Re m m' (.own b sz lo n) (.ro sz ((es.drop lo).take n))
  | rows {b lo n ty : Nat} {cs : List AV} {xs : List AV} (hb : look m b = some (.obj ty cs)) (hb' : look m' b = none) (hl : xs.length = n) (hn : lo + n ≤ cs.length) (ht : ∀ x ∈ xs, isTree x = true)
      (h : ∀ (i : Nat) x, xs[i]? = some x → Re m m' (cs.getD (lo + i) .dead) x) : Re m m' (.own b 1 lo n) (.ro 1 (xs.map fun x => [x]))
  | rop {b s ty : Nat} {cs xs : List AV} (hb : look m b = some (.obj ty cs)) (hb' : look m' b = none) (hl : xs.length = cs.length) (hp : 0 < xs.length) (ht : ∀ x ∈ xs, isTree x = true)
      (h : ∀ (i : Nat) x, xs[i]? = some x → Re m m' (cs.getD i .dead) x) : Re m m' (.ptr b s 0 0) (.rop xs.length [xs] 0 0)
  | agg {ys xs : List AV} (hl : ys.length = xs.length) (h : ∀ (i : Nat) x, xs[i]? = some x → Re m m' (ys.getD i .dead) x) : Re m m' (.agg ys) (.agg xs)
  | tup {ys xs : List AV} (hl : ys.length = xs.length) (h : ∀ (i : Nat) x, xs[i]? = some x → Re m m' (ys.getD i .dead) x) : Re m m' (.tup ys) (.tup xs)
  | fn {f : FuncId} {ys xs : List AV} (hl : ys.length = xs.length) (h : ∀ (i : Nat) x, xs[i]? = some x → Re m m' (ys.getD i .dead) x) : Re m m' (.fn f ys) (.fn f xs)
inductive ReB (m m' : Mem) : Option Blk → Blk → Prop
  | same {b : Blk} (h : b.refs (fun b => (look m' b).isSome)) : ReB m m' (some b) b
  | take {ty sz k : Nat} {es : List (List AV)} : ReB m m' (some (.arr ty sz es)) (.arr ty sz (es.take k))
  | new {ty sz : Nat} : ReB m m' none (.arr ty sz [])
  | obj {ty : Nat} {ys xs : List AV} (hl : ys.length = xs.length) (h : ∀ (i : Nat) x, xs[i]? = some x → Re m m' (ys.getD i .dead) x) : ReB m m' (some (.obj ty ys)) (.obj ty xs)
section
variable {c : Ctx} {st : St} {ρ : Map} {a : Act} {w : World} {m' : Mem}
def part (m' : Mem) (ρ : Map) : Map := fun b => if (look m' b).isSome then ρ b else none
theorem part_some {b k o : Nat} (h : part m' ρ b = some (k, o)) : (look m' b).isSome ∧ ρ b = some (k, o) := by
  unfold part at h
  split at h
  · rename_i hs; exact ⟨hs, h⟩
  · cases h
theorem part_keeps (h : Conc c st ρ a w) : KeepsV w w (OwnBy c.A ρ) (OwnBy c.A (part m' ρ)) ρ (part m' ρ) (fun b => (look m' b).isSome) where
  size := Nat.le_refl _
  same := fun _ _ _ => rfl
  own := fun k _ hk => by
    rcases hk with hk | ⟨b', o', hk⟩
    · exact .inl hk
    · exact .inr ⟨b', o', (part_some hk).2⟩
  map := fun b' hb' k o' hρ => by unfold part; rw [if_pos hb']; exact hρ
  rows := fun k cur ty fr _ hh => ⟨cur, ty, fr, hh, rfl⟩
  lt := h.lt
theorem part_free (h : Conc c st ρ a w) (hstd : c.A = c.B) {b k o : Nat} (hρ : ρ b = some (k, o)) (hb : look m' b = none) : ¬ OwnBy c.A (part m' ρ) k := by
  rintro (hO | ⟨b2, o2, hO⟩)
  · exact h.far _ _ _ hρ (hstd ▸ hO)
  · obtain ⟨hs, h2⟩ := part_some hO
    have := h.inj _ _ _ _ _ hρ h2
    subst this
    rw [hb] at hs; cases hs
theorem Re.rel (h : Conc c st ρ a w) (hstd : c.A = c.B) {y x : AV} (hr : Re st.mem m' y x) : ∀ v, VRel w (OwnBy c.A ρ) ρ y v → VRel w (OwnBy c.A (part m' ρ)) (part m' ρ) x v := by
  induction hr with
  | same hx => exact fun v hv => hv.keep (part_keeps h) hx
  | dead => exact fun v _ => .dead
  | nil =>
    intro v hv
    cases hv with
    | tree hv => cases hv; exact .ownnil
  | @row b sz lo n ty es hb hb' hs hn =>
    intro v hv
    have hlen2 : ((es.drop lo).take n).length = n := by simp; omega
    have hnil : n = 0 → ∀ A cap, VRel w (OwnBy c.A (part m' ρ)) (part m' ρ) (.ro sz ((es.drop lo).take n)) (.slice A 0 cap) := by
      rintro rfl A cap; rw [List.take_zero]; exact .tree .ronil
    rcases hv.own_inv with ⟨rfl, _, h0⟩ | ⟨ad, rfl, h0, _⟩ | ⟨k, o, cap, hρ, rfl, hcap, _⟩
    · exact hnil h0 _ _
    · exact hnil h0 _ _
    · have hB := h.mem b _ hb
      simp only [BRel, hρ] at hB
      obtain ⟨cur, hh, hlen, hsz, hcell⟩ := hB
      have := TRel.row (w := w) (Own := OwnBy c.A (part m' ρ)) (sz := sz) (c := cap) (es := (es.drop lo).take n) (ad := ⟨k, o + lo * sz, none⟩)
        ⟨hs, fun e he => hlen e (List.mem_of_mem_drop (List.mem_of_mem_take he)), part_free h hstd hρ hb', fun i j x hx => by
          have hx' : cellAt es (lo + i) j = some x := by
            simp only [cellAt] at hx ⊢
            obtain ⟨e, he, hj⟩ := Option.bind_eq_some_iff.1 hx
            have hin : i < n := by
              rcases Nat.lt_or_ge i n with h1 | h1
              · exact h1
              · rw [List.getElem?_eq_none (by omega)] at he; cases he
            rw [List.getElem?_take_of_lt hin, List.getElem?_drop] at he
            rw [he]; exact hj
          obtain ⟨u, hu, h1, ht⟩ := hcell _ _ _ hx'
          refine ⟨u, ?_, h1, ht.keep (part_keeps h).toKeeps⟩
          rw [add_none]
          simp only [World.cell?, hh]
          rw [if_neg (by simp), ← hu]
          congr 1; rw [Nat.add_mul]; omega⟩ (by omega)
      rw [hlen2] at this
      exact .tree this
  | @rows b lo n ty cs xs hb hb' hl hn ht _ ih =>
    intro v hv
    have hnil : n = 0 → ∀ A cap, VRel w (OwnBy c.A (part m' ρ)) (part m' ρ) (.ro 1 (xs.map fun x => [x])) (.slice A 0 cap) := by
      rintro rfl A cap
      rw [List.eq_nil_of_length_eq_zero hl]; exact .tree .ronil
    rcases hv.own_inv with ⟨rfl, _, h0⟩ | ⟨ad, rfl, h0, _⟩ | ⟨k, o, cap, hρ, rfl, hcap, _⟩
    · exact hnil h0 _ _
    · exact hnil h0 _ _
    · obtain ⟨k2, cur, g0, g1, g2, g3⟩ := h.mem b _ hb
      rw [hρ] at g0; injection g0 with g0; injection g0 with g0 g0'; subst g0; subst g0'
      have hcellx : ∀ i, ∀ x, xs[i]? = some x → ∃ u, cur[lo + i]? = some u ∧ one u = true ∧ TRel w (OwnBy c.A (part m' ρ)) x u := by
        intro i x hx
        have hi : i < n := by
          rcases Nat.lt_or_ge i xs.length with h1 | h1
          · omega
          · rw [List.getElem?_eq_none h1] at hx; cases hx
        have hlo : lo + i < cs.length := by omega
        obtain ⟨u, hu, h1, hv⟩ := g3 (lo + i) cs[lo + i] (List.getElem?_eq_getElem hlo)
        have e1 : cs.getD (lo + i) .dead = cs[lo + i] := by simp [hlo]
        exact ⟨u, hu, h1, (ih i x hx u (by rw [e1]; exact hv)).toTree (ht x (List.mem_of_getElem? hx))⟩
      have := TRel.row (w := w) (Own := OwnBy c.A (part m' ρ)) (sz := 1) (c := cap) (es := xs.map fun x => [x]) (ad := ⟨k, 0 + lo * 1, none⟩)
        ⟨by omega, fun e he => by obtain ⟨x, _, rfl⟩ := List.mem_map.1 he; rfl, part_free h hstd hρ hb', fun i j x hx => by
          obtain ⟨e, he, hj⟩ := Option.bind_eq_some_iff.1 hx
          rw [List.getElem?_map] at he
          obtain ⟨x2, hx2, rfl⟩ := Option.map_eq_some_iff.1 he
          have hj0 : j = 0 ∧ x2 = x := by
            cases j with
            | zero => simp at hj; exact ⟨rfl, hj⟩
            | succ j => simp at hj
          obtain ⟨rfl, rfl⟩ := hj0
          obtain ⟨u, hu, h1, htr⟩ := hcellx i x2 hx2
          refine ⟨u, ?_, h1, htr⟩
          rw [add_none]
          simp only [World.cell?, g1]
          rw [if_neg (by simp), ← hu]
          congr 1; omega⟩ (by simp; omega)
      rw [List.length_map, hl] at this
      exact .tree this
  | @rop b s ty cs xs hb hb' hl hp ht _ ih =>
    intro v hv
    cases hv with
    | tree hv => cases hv
    | @ptr _ _ _ _ k o hρ =>
    obtain ⟨k2, cur, g0, g1, g2, g3⟩ := h.mem b _ hb
    rw [hρ] at g0; injection g0 with g0; injection g0 with g0 g0'; subst g0; subst g0'
    have hc : ∀ i j x, cellAt [xs] i j = some x → ∃ u, w.cell? ((⟨k, 0, none⟩ : Addr).add (i * xs.length + j)) = some u ∧ one u = true ∧ TRel w (OwnBy c.A (part m' ρ)) x u := by
      intro i j x hx
      obtain ⟨e, he, hj⟩ := Option.bind_eq_some_iff.1 hx
      have hi : i = 0 ∧ e = xs := by
        cases i with
        | zero => simp at he; exact ⟨rfl, he.symm⟩
        | succ i => simp at he
      obtain ⟨rfl, rfl⟩ := hi
      have hjl : j < cs.length := by have := (List.getElem?_eq_some_iff.1 hj).1; omega
      obtain ⟨u, hu, h1, hv⟩ := g3 j cs[j] (List.getElem?_eq_getElem hjl)
      have e1 : cs.getD j .dead = cs[j] := by simp [hjl]
      refine ⟨u, ?_, h1, (ih j x hj u (by rw [e1]; exact hv)).toTree (ht x (List.mem_of_getElem? hj))⟩
      rw [add_none]
      simp only [World.cell?, g1]
      rw [if_neg (by simp), ← hu]
      congr 1; omega
    have := VRel.rop (w := w) (Own := OwnBy c.A (part m' ρ)) (ρ := part m' ρ) (sz := xs.length) (es := [xs]) (i0 := 0) (j0 := 0) (ad := ⟨k, 0, none⟩) (fun i j => (w.cell? ((⟨k, 0, none⟩ : Addr).add (i * xs.length + j))).getD undef) hp (fun e he => by simp at he; rw [he]) (part_free h hstd hρ hb') (by simp) hp
      (fun i j x hx => by obtain ⟨u, hu, _⟩ := hc i j x hx; rw [hu]; rfl) (fun i j x hx => by obtain ⟨u, hu, h1, _⟩ := hc i j x hx; rw [hu]; exact h1) (fun i j x hx => by obtain ⟨u, hu, _, ht⟩ := hc i j x hx; rw [hu]; exact ht)
    rw [add_none] at this
    simpa using this
  | agg hl _ ih =>
    intro v hv
    obtain ⟨vs, rfl, h1, h2⟩ := hv.agg_inv
    refine .agg (by omega) (fun i x hx => ih i x hx _ ?_)
    have hi : i < _ := (List.getElem?_eq_some_iff.1 hx).1
    rename_i ys xs _
    have hiy : i < ys.length := by omega
    have e1 : ys.getD i .dead = ys[i] := by simp [hiy]
    rw [e1]; exact h2 i _ (List.getElem?_eq_getElem hiy)
  | tup hl _ ih =>
    intro v hv
    obtain ⟨vs, rfl, h1, h2⟩ := hv.tup_inv
    refine .tup (by omega) (fun i x hx => ih i x hx _ ?_)
    have hi : i < _ := (List.getElem?_eq_some_iff.1 hx).1
    rename_i ys xs _
    have hiy : i < ys.length := by omega
    have e1 : ys.getD i .dead = ys[i] := by simp [hiy]
    rw [e1]; exact h2 i _ (List.getElem?_eq_getElem hiy)
  | fn hl _ ih =>
    intro v hv
    obtain ⟨vs, rfl, h1, h2⟩ := fn_inv hv
    refine .fn (by omega) (fun i x hx => ih i x hx _ ?_)
    have hi : i < _ := (List.getElem?_eq_some_iff.1 hx).1
    rename_i ys xs _
    have hiy : i < ys.length := by omega
    have e1 : ys.getD i .dead = ys[i] := by simp [hiy]
    rw [e1]; exact h2 i _ (List.getElem?_eq_getElem hiy)
end
theorem le_retell {st st' : St} (hs : ∀ p ∈ st'.slots, ∃ y, look st.slots p.1 = some y ∧ Re st.mem st'.mem y p.2) (hm : ∀ p ∈ st'.mem, ReB st.mem st'.mem (look st.mem p.1) p.2) (hf : st'.fixed = st.fixed) (hf2 : ∀ b ∈ st.fixed, (look st'.mem b).isSome) : st.le st' := by
  intro c ρ a w hstd h
  refine ⟨part st'.mem ρ, { slots := ?_, defers := h.defers, mem := ?_, dom := ?_, lt := ?_, inj := ?_, mine := ?_, far := ?_, fix := ?_, alt := h.alt, os := h.os, tape := h.tape, output := h.output, size := h.size, frame := h.frame, rows := h.rows }, fun b k o hb => (part_some hb).2⟩
  · intro d x hx
    obtain ⟨y, hy, hr⟩ := hs _ (look_mem hx)
    exact hr.rel h hstd _ (h.slots d y hy)
  · intro b blk hl
    have hpb : part st'.mem ρ b = ρ b := by unfold part; rw [if_pos (by simp [hl])]
    have hr := hm _ (look_mem hl)
    simp only at hr
    cases hlb : look st.mem b with
    | none =>
      rw [hlb] at hr
      cases hr
      have hρ : ρ b = none := by
        cases e : ρ b with
        | none => rfl
        | some p => obtain ⟨k, o⟩ := p; obtain ⟨blk, hl2⟩ := h.dom b k o e; rw [hlb] at hl2; cases hl2
      simp [BRel, hpb, hρ]
    | some blk0 =>
      rw [hlb] at hr
      have hB := h.mem b _ hlb
      cases hr with
      | same hx => exact hB.keep (part_keeps h) hpb (fun _ _ _ => rfl) (fun ty cs e => by subst e; exact hx)
      | @take ty sz k es =>
        simp only [BRel] at hB ⊢
        rw [hpb]
        split
        · rename_i e; rw [e] at hB; simp at hB; simp [hB]
        · rename_i q o e
          rw [e] at hB
          obtain ⟨cur, g1, g2, g3, g4⟩ := hB
          refine ⟨cur, g1, fun e he => g2 e (List.mem_of_mem_take he), ?_, fun i j x hx => ?_⟩
          · have : (es.take k).length * sz ≤ es.length * sz := Nat.mul_le_mul_right _ (by simp; omega)
            omega
          · obtain ⟨e, he, hj⟩ := Option.bind_eq_some_iff.1 hx
            have hik : i < k := by
              rcases Nat.lt_or_ge i k with h' | h'
              · exact h'
              · rw [List.getElem?_eq_none (by simp; omega)] at he; cases he
            rw [List.getElem?_take_of_lt hik] at he
            obtain ⟨v, hv1, hv2, hv3⟩ := g4 i j x (by simp [cellAt, he, hj])
            exact ⟨v, hv1, hv2, hv3.keep (part_keeps h).toKeeps⟩
      | @obj ty ys xs hl2 hx =>
        obtain ⟨k, cur, g0, g1, g2, g3⟩ := hB
        refine ⟨k, cur, hpb.trans g0, g1, by omega, fun j x hj => ?_⟩
        have hjl : j < ys.length := by
          rcases Nat.lt_or_ge j xs.length with h1 | h1
          · omega
          · rw [List.getElem?_eq_none h1] at hj; cases hj
        obtain ⟨v, hv1, hv2, hv3⟩ := g3 j ys[j] (List.getElem?_eq_getElem hjl)
        have e1 : ys.getD j .dead = ys[j] := by simp [hjl]
        exact ⟨v, hv1, hv2, (hx j x hj).rel h hstd _ (by rw [e1]; exact hv3)⟩
  · intro b k o hb
    obtain ⟨hs, _⟩ := part_some hb
    exact Option.isSome_iff_exists.1 hs
  · exact fun b k o hb => h.lt _ _ _ (part_some hb).2
  · exact fun b1 b2 k o1 o2 h1 h2 => h.inj _ _ _ _ _ (part_some h1).2 (part_some h2).2
  · exact fun b k o hb => h.mine _ _ _ (part_some hb).2
  · exact fun b k o hb => h.far _ _ _ (part_some hb).2
  · intro b hb
    rw [hf] at hb
    unfold part
    rw [if_pos (hf2 b hb)]
    exact h.fix b hb
end Go.SX
