/- SX, part U: a range over a function. -/
import Derived.Test.YtifpfpiljionmaaDoorSxS
import Derived.RangeFuncLeaves
set_option linter.unusedVariables false
set_option linter.unusedSimpArgs false
namespace Go.SX
open Go

def markOf (D : Nat) : Deferred := { target := .collected D, args := #[] }

def jumpOf : Exit → Option (Option Code)
  | .normal => some none
  | .ret => some (some .ret)
  | .exit id => some (some (.exit id))
  | _ => none

def putL : List Nat → List AV → St → St
  | p :: ps, x :: xs, st => putL ps xs (st.put p x)
  | _, _, st => st

section
variable {P : Program} {c : Ctx} {st : St} {E : Ex} {ρ : Map} {a : Act} {w : World}

theorem VRel.putObj {Own : Nat → Prop} {l : Nat} {o o' : Obj} (hl : w.heap[l]? = some o) (ho : isC o = false) (ho' : isC o' = false) (lt : ∀ b k o, ρ b = some (k, o) → k < w.heap.size) {x : AV} {v : Value} (h : VRel w Own ρ x v) : VRel (w.putObj l o') Own ρ x v := by
  have hk : KeepsV w (w.putObj l o') (fun k => Own k ∨ k = l) Own ρ ρ (fun _ => True) := {
    size := by simp
    same := fun k _ hno => World.putObj_heap_other (fun e => hno (.inr e))
    own := fun k _ hk => .inl hk
    map := fun _ _ _ _ h => h
    rows := fun k cur ty fr hk hh => by
      by_cases e : k = l
      · subst e; rw [World.putObj_heap_same hk] at hh; injection hh with hh; subst hh; cases ho'
      · rw [World.putObj_heap_other e] at hh; exact ⟨cur, ty, fr, hh, rfl⟩
    lt := lt }
  exact (h.bar hl ho).keep hk (refs_all x)

/-- A hidden block turns. -/
theorem ConcH.turn (h : ConcH c st E ρ a w) {l : Nat} {o o' : Obj} (hl : w.heap[l]? = some o) (ho : isC o = false) (ho' : isC o' = false) (hw : c.w0.heap.size ≤ l) {E' : Ex} (hd : E'.ds = E.ds) (hE : ∀ p ∈ E'.hid, (p.1 = l ∧ p.2 = o') ∨ (p.1 ≠ l ∧ p ∈ E.hid)) : ConcH c st E' ρ a (w.putObj l o') :=
  ⟨h.conc.putObj hl ho ho' hw, h.hid.1.trans hd.symm, fun p hp => by
    rcases hE p hp with ⟨e1, e2⟩ | ⟨e1, e2⟩
    · rw [e1, e2]; exact ⟨World.putObj_heap_same (Array.getElem?_eq_some_iff.1 hl).1, ho'⟩
    · obtain ⟨h1, h2⟩ := h.hid.2 p e2
      exact ⟨(World.putObj_heap_other e1).trans h1, h2⟩⟩

theorem Conc.putL : ∀ {ps : List Nat} {xs : List AV} {vs : List Value} {st : St} {a : Act}, Conc c st ρ a w → (∀ p ∈ ps, p < a.tmps.size) → xs.length = vs.length → ps.length = vs.length → (∀ (i : Nat) x, xs[i]? = some x → VRel w (OwnBy c.A ρ) ρ x (vs.getD i undef)) →
    Conc c (putL ps xs st) ρ { a with tmps := (ps.zip vs).foldl (fun t p => t.setIfInBounds p.1 p.2) a.tmps } w
  | [], [], [], st, a, h, _, _, _, _ => h
  | p :: ps, x :: xs, v :: vs, st, a, h, hp, h1, h2, h3 => by
    have h4 := h.put (d := p) (hp p List.mem_cons_self) (x := x) (v := v) (by simpa using h3 0 x rfl)
    have h5 := Conc.putL (ps := ps) (xs := xs) (vs := vs) h4 (fun q hq => by rw [put_size]; exact hp q (List.mem_cons_of_mem _ hq)) (by simpa using h1) (by simpa using h2) (fun i y hy => by simpa using h3 (i + 1) y (by simpa using hy))
    exact h5
  | [], [], _ :: _, _, _, _, _, h1, _, _ => by simp at h1
  | [], _ :: _, [], _, _, _, _, h1, _, _ => by simp at h1
  | [], _ :: _, _ :: _, _, _, _, _, _, h2, _ => by simp at h2
  | _ :: _, [], [], _, _, _, _, _, h2, _ => by simp at h2
  | _ :: _, [], _ :: _, _, _, _, _, h1, _, _ => by simp at h1
  | _ :: _, _ :: _, [], _, _, _, _, h1, _, _ => by simp at h1

theorem putL_mem : ∀ (ps : List Nat) (xs : List AV) (st : St), (putL ps xs st).mem = st.mem ∧ (putL ps xs st).fixed = st.fixed
  | [], _, _ => ⟨rfl, rfl⟩
  | _ :: _, [], _ => ⟨rfl, rfl⟩
  | p :: ps, x :: xs, st => putL_mem ps xs (st.put p x)

theorem foldl_size (l : List (Nat × Value)) (t : Array Value) : (l.foldl (fun t p => t.setIfInBounds p.1 p.2) t).size = t.size := by
  induction l generalizing t with
  | nil => rfl
  | cons p r ih => simp [ih]
end

/-- What a round's code comes to. -/
def BodyOK (P : Program) (nt : Nat) (ps : List Nat) (asg bd : AC) (slots : Slots) (fixed : List Nat) (m : Mem) (xs : List AV) (KB : Exit → Mem → Prop) : Prop :=
  ps.length = xs.length ∧ ∃ KA : St → Prop, (∀ c', c'.A = c'.B → J P nt c' asg (putL ps xs ⟨slots, m, fixed⟩) (fun e s => e = .normal ∧ s.fixed = fixed ∧ KA s)) ∧
    ∀ s, s.fixed = fixed → KA s → ∀ c', c'.A = c'.B → J P nt c' bd s (fun e s' => (jumpOf e).isSome = true ∧ s'.fixed = fixed ∧ KB e s'.mem)

/-- What is hidden while the function runs. -/
def exOf (l D : Nat) (r : LoopState → Option Code → Loop) (E : Ex) (j : Option Code) : Ex :=
  ⟨(l, .loop (r (if j.isNone then .ready else .done) j)) :: (D, .deferred (some [])) :: E.hid, []⟩

section
variable {P : Program} {c : Ctx} {nt : Nat}

theorem rounds_of (hstd : c.A = c.B) {stO : St} {EO : Ex} {ρO : Map} {aO : Act} {W : World} (hO : ConcH c stO EO ρO aO W) (hsO : aO.tmps.size = nt) {ps : Array Tmp} {ps' : List Nat} {asg bd : AC} {asC bdC : Code}
    (hps : ps.toList = ps') (hlt : ∀ p ∈ ps', p < nt) (hpa : plainC asC = true) (hpb : plainC bdC = true) (hca : chkC P nt asC asg = true) (hcb : chkC P nt bdC bd = true) {ds : List Nat}
    (hds : ∀ p ∈ keepS ds stO.slots, look stO.slots p.1 = some p.2 ∧ refsIn (fun b => b ∈ stO.fixed) p.2) (fn : FuncId) {m : Mem} {xs : List AV} {KB : Exit → Mem → Prop} (hB : BodyOK P nt ps' asg bd (keepS ds stO.slots) stO.fixed m xs KB)
    {r : LoopState → Option Code → Loop} (hr : r = fun st pe => { state := st, pending := pe, fn, tmps := aO.tmps, params := ps, assign := asC, body := bdC, defers := W.heap.size }) :
    Rounds P (ctxD c ρO W [] hO.conc.tabOK) (W.heap.size + 1) (exOf (W.heap.size + 1) W.heap.size r EO none) m stO.fixed xs (fun b m' E' => ∃ e j, jumpOf e = some j ∧ b = j.isNone ∧ KB e m' ∧ E' = exOf (W.heap.size + 1) W.heap.size r EO j) := by
  intro st ρ a w vs hm hfx hcc hlen hv
  obtain ⟨hpl, KA, hA, hB⟩ := hB
  have hl : w.heap[W.heap.size + 1]? = some (.loop (r .ready none)) := (hcc.hid.2 (_, _) List.mem_cons_self).1
  have hplen : ps.size = ps'.length := by rw [← hps]; simp
  have hyl := run_yield (P := P) (args := vs) hl (by rw [hr]; show vs.size = ps.size; omega)
  have hout : ∀ p ∈ EO.hid, p.1 < W.heap.size := fun p hp => (Array.getElem?_eq_some_iff.1 (hO.hid.2 p hp).1).1
  refine ⟨fn, (ps.zip vs).foldl (fun t (p, v) => t.setIfInBounds p v) aO.tmps, asC, bdC, by rw [hr] at hyl; exact hyl, ?_⟩
  -- the round's beginning
  have e1 : (ps.zip vs).foldl (fun t (p, v) => t.setIfInBounds p v) aO.tmps = (ps'.zip vs.toList).foldl (fun t p => t.setIfInBounds p.1 p.2) aO.tmps := by
    rw [← Array.foldl_toList, Array.toList_zip, hps]
  rw [e1]
  let aR : Act := { tmps := (ps'.zip vs.toList).foldl (fun t p => t.setIfInBounds p.1 p.2) aO.tmps, defers := [] }
  have hsR : aR.tmps.size = nt := (foldl_size _ _).trans hsO
  have h0 : Conc (ctxD c ρO W [] hO.conc.tabOK) ⟨keepS ds stO.slots, m, stO.fixed⟩ ρ { tmps := aO.tmps, defers := [] } w :=
    { hcc.conc with
      slots := fun d x hx => by
        obtain ⟨h6, h7⟩ := hds _ (look_mem hx)
        have h8 := hO.conc.slots _ _ h6
        exact hO.conc.hold (ds := []) (hT := hO.conc.tabOK) hcc.conc h8 (refs_imp (fun b hb => ⟨hb, by rw [hfx]; exact hb⟩) _ h7)
      mem := by rw [← hm]; exact hcc.conc.mem
      dom := by rw [← hm]; exact hcc.conc.dom
      fix := by rw [← hfx]; exact hcc.conc.fix
      defers := rfl }
  have h1 : Conc (ctxD c ρO W [] hO.conc.tabOK) (putL ps' xs ⟨keepS ds stO.slots, m, stO.fixed⟩) ρ aR w :=
    Conc.putL h0 (fun p hp => by show p < aO.tmps.size; rw [hsO]; exact hlt p hp) (by simpa using hlen) (by rw [hpl]; simpa using hlen) (fun i x hx => by
      have := hv i x hx
      have e2 : vs.toList.getD i undef = vs.getD i undef := by simp [List.getD]
      rw [e2]; exact this)
  have hh1 : ConcH (ctxD c ρO W [] hO.conc.tabOK) (putL ps' xs ⟨keepS ds stO.slots, m, stO.fixed⟩) (exOf (W.heap.size + 1) W.heap.size r EO none) ρ aR w := ⟨h1, rfl, hcc.hid.2⟩
  refine roundIn_of_wpIn (F := fw none) trivial ?_
  refine wpIn_mono (hA (ctxD (ctxD c ρO W [] hO.conc.tabOK) ρ w [] h1.tabOK) hstd asC hca (some (W.heap.size + 1)) (by simp [rOK, hpa]) ρ aR w hh1.begin hsR) (fun e a1 w1 h2 => ?_)
  have hnorm : e = .normal ∧ a1.tmps.size = nt ∧ ∃ s1 ρ1, (s1.fixed = stO.fixed ∧ KA s1) ∧ Conc (ctxD (ctxD c ρO W [] hO.conc.tabOK) ρ w [] h1.tabOK) s1 ρ1 a1 w1 := by
    cases e <;> first | exact h2.elim | skip
    all_goals
      obtain ⟨hs1, s1, ρ1, ⟨he, hq⟩, hc1⟩ := h2
      first | exact ⟨rfl, hs1, s1, ρ1, hq, hc1⟩ | (cases he)
  obtain ⟨rfl, hs1, s1, ρ1, ⟨hf1, hk1⟩, hc1⟩ := hnorm
  have hh2 := hh1.back hc1
  have hl1 : w1.heap[W.heap.size + 1]? = some (.loop (r .ready none)) := (hh2.hid.2 (_, _) List.mem_cons_self).1
  refine ⟨_, run_beginRound hl1 (by rw [hr]), ?_⟩
  obtain ⟨rb, hrb⟩ : ∃ rb : Loop, rb = { r .ready none with state := .busy } := ⟨_, rfl⟩
  rw [← hrb]
  have hh3 : ConcH (ctxD c ρO W [] hO.conc.tabOK) s1 ⟨(W.heap.size + 1, .loop rb) :: (W.heap.size, .deferred (some [])) :: EO.hid, []⟩ ρ1 a1 (w1.putObj (W.heap.size + 1) (.loop rb)) :=
    hh2.turn hl1 rfl rfl (Nat.le_succ _) rfl (fun p hp => by
      rcases List.mem_cons.1 hp with rfl | hp
      · exact .inl ⟨rfl, rfl⟩
      · refine .inr ⟨?_, List.mem_cons_of_mem _ hp⟩
        rcases List.mem_cons.1 hp with rfl | hp
        · show W.heap.size ≠ W.heap.size + 1; omega
        · have := hout p hp; omega)
  refine wpIn_mono (hB s1 hf1 hk1 (ctxD (ctxD c ρO W [] hO.conc.tabOK) ρ1 (w1.putObj (W.heap.size + 1) (.loop rb)) [] hh3.conc.tabOK) hstd bdC hcb (some (W.heap.size + 1)) (by simp [rOK, hpb]) ρ1 a1 _ hh3.begin hs1) (fun e a2 w2 h4 => ?_)
  have fin : ∀ e (j : Option Code), jumpOf e = some j → (a2.tmps.size = nt ∧ ∃ st ρ', ((jumpOf e).isSome = true ∧ st.fixed = stO.fixed ∧ KB e st.mem) ∧ Conc (ctxD (ctxD c ρO W [] hO.conc.tabOK) ρ1 (w1.putObj (W.heap.size + 1) (.loop rb)) [] hh3.conc.tabOK) st ρ' a2 w2) →
      ∃ v w', (Instr.endRound (W.heap.size + 1) j).run P w2 = .ok v w' ∧ ∃ b m' E' ρ', Ending.returned v = .returned (.bool b) ∧ (∃ e j, jumpOf e = some j ∧ b = j.isNone ∧ KB e m' ∧ E' = exOf (W.heap.size + 1) W.heap.size r EO j) ∧ ConcH (ctxD c ρO W [] hO.conc.tabOK) ⟨[], m', stO.fixed⟩ E' ρ' a w' ∧
        ∀ x v, VRel w (OwnBy c.A ρ) ρ x v → refsIn (fun b => b ∈ stO.fixed) x → VRel w' (OwnBy c.A ρ') ρ' x v := by
    rintro e j hj ⟨hs2, s2, ρ2, ⟨_, hf2, hk2⟩, hc2⟩
    have hh4 := hh3.back hc2
    have hl2 : w2.heap[W.heap.size + 1]? = some (.loop rb) := (hh4.hid.2 (_, _) List.mem_cons_self).1
    have hrun := run_endRound (P := P) j hl2
    have erb : ({ rb with state := if j.isNone then .ready else .done, pending := j } : Loop) = r (if j.isNone then .ready else .done) j := by rw [hrb, hr]
    rw [erb] at hrun
    have hh5 : ConcH (ctxD c ρO W [] hO.conc.tabOK) s2 (exOf (W.heap.size + 1) W.heap.size r EO j) ρ2 a2 (w2.putObj (W.heap.size + 1) (.loop (r (if j.isNone then .ready else .done) j))) :=
      hh4.turn hl2 rfl rfl (Nat.le_succ _) rfl (fun p hp => by
        rcases List.mem_cons.1 hp with rfl | hp
        · exact .inl ⟨rfl, rfl⟩
        · refine .inr ⟨?_, List.mem_cons_of_mem _ hp⟩
          rcases List.mem_cons.1 hp with rfl | hp
          · show W.heap.size ≠ W.heap.size + 1; omega
          · have := hout p hp; omega)
    refine ⟨_, _, hrun, j.isNone, s2.mem, _, ρ2, rfl, ⟨e, j, hj, rfl, hk2, rfl⟩, ⟨{ hh5.conc with slots := fun d x hx => (by cases hx), fix := (by rw [← hf2]; exact hh5.conc.fix), defers := rfl }, hcc.hid.1, hh5.hid.2⟩, fun x v hx hrx => ?_⟩
    have t1 := h1.hold (ds := []) (hT := h1.tabOK) hc1 hx (refs_imp (fun b hb => ⟨by rw [(putL_mem _ _ _).2]; exact hb, by rw [hf1]; exact hb⟩) _ hrx)
    have t2 := VRel.putObj (o' := .loop rb) hl1 rfl rfl hh2.conc.lt t1
    have t3 := hh3.conc.hold (ds := []) (hT := hh3.conc.tabOK) hc2 t2 (refs_imp (fun b hb => ⟨by rw [hf1]; exact hb, by rw [hf2]; exact hb⟩) _ hrx)
    exact VRel.putObj hl2 rfl rfl hh4.conc.lt t3
  cases e with
  | normal => exact fin .normal none rfl h4
  | ret => exact fin .ret (some .ret) rfl h4
  | exit id => exact fin (.exit id) (some (.exit id)) rfl h4
  | goto l => obtain ⟨_, _, _, ⟨h5, _⟩, _⟩ := h4; cases h5
  | panic ch => exact h4.elim
  | outgrown => exact h4.elim
end
end Go.SX
