/- SX, part V: the statement that ranges over a function; functions that hold one. -/
import Derived.Test.YtifpfpiljionmaaDoorSxU
set_option linter.unusedVariables false
set_option linter.unusedSimpArgs false
namespace Go.SX
open Go

section
variable {P : Program} {c : Ctx} {nt : Nat}

/-- What the function that is ranged over comes to, with whatever it may ask of the rounds. -/
def IterOK (P : Program) (f : FuncId) (caps : List AV) (fixed : List Nat) (m : Mem) (body : Mem → List AV → (Exit → Mem → Prop) → Prop) (K : Exit → Mem → Prop) : Prop :=
  ∃ nt ac, chkFn P f nt (1 + caps.length) ac [] = true ∧ ∀ (c : Ctx) (l : Nat) (Ej : Option Code → Ex), c.A = c.B → (∀ j, (Ej j).ds = []) →
    (∀ m xs KB, body m xs KB → Rounds P c l (Ej none) m fixed xs (fun b m' E' => ∃ e j, jumpOf e = some j ∧ b = j.isNone ∧ KB e m' ∧ E' = Ej j)) →
    JH P nt c ac (entry (.lit (.func (.yield l) #[] #[]) :: caps) m fixed) (Ej none) (fun e s E => (e = .normal ∨ e = .ret) ∧ s.fixed = fixed ∧ ∃ e' j, jumpOf e' = some j ∧ E = Ej j ∧ K e' s.mem)

theorem JH.rangef (hstd : c.A = c.B) {g : Src} {ps : List Nat} {asg bd : AC} {stO : St} {EO : Ex} {Q : Exit → St → Ex → Prop} {f : FuncId} {caps : List AV} (hg : stO.src g = some (.fn f caps)) (ds : List Nat)
    (hds : ∀ p ∈ keepS ds stO.slots, look stO.slots p.1 = some p.2 ∧ refsIn (fun b => b ∈ stO.fixed) p.2) {K : Exit → Mem → Prop}
    (hI : IterOK P f caps stO.fixed stO.mem (BodyOK P nt ps asg bd (keepS ds stO.slots) stO.fixed) K)
    (hq : ∀ e j m', jumpOf e = some j → K e m' → ∀ D, c.w0.heap.size ≤ D → Q e ⟨keepS ds stO.slots, m', stO.fixed⟩ ⟨(D, .deferred (some [])) :: EO.hid, markOf D :: EO.ds⟩) : JH P nt c (.rangef g ps asg bd) stO EO Q := by
  intro code hc ρO aO W hO hsO
  cases code <;> try (simp [chkC] at hc; done)
  rename_i gC psC asC bdC
  simp only [chkC, Bool.and_eq_true, beq_iff_eq, List.all_eq_true, decide_eq_true_eq] at hc
  obtain ⟨⟨⟨⟨⟨⟨hgo, hps⟩, hlt⟩, hpa⟩, hpb⟩, hca⟩, hcb⟩ := hc
  obtain ⟨ntI, acI, hfn, hI⟩ := hI
  unfold chkFn at hfn
  split at hfn <;> try (cases hfn; done)
  rename_i fn hfun
  simp only [Bool.and_eq_true, beq_iff_eq, decide_eq_true_eq, bne_iff_ne] at hfn
  obtain ⟨⟨⟨⟨hb, hnt⟩, hna⟩, hres⟩, hname⟩ := hfn
  split at hb <;> try (cases hb; done)
  rename_i codeI hbody
  have hOK : fnOK P f = true := by simp [fnOK, hfun, hbody, hname]
  obtain ⟨cv, hgv, hcl, hcr⟩ := fn_inv (hO.conc.srcs _ _ _ hgo hg)
  refine wpIn_rangeFunc (fun fnr _ => ?_)
  obtain ⟨r, hr⟩ : ∃ r : LoopState → Option Code → Loop, r = fun st pe => { state := st, pending := pe, fn := fnr, tmps := aO.tmps, params := psC, assign := asC, body := bdC, defers := W.heap.size } := ⟨_, rfl⟩
  obtain ⟨W1, hW1⟩ : ∃ W1, W1 = (W.alloc (.deferred (some []))).alloc (.loop (r .ready none)) := ⟨_, rfl⟩
  have hgv' : aO.eval gC = .func (.func f) #[] cv := hgv
  refine ⟨W.heap.size + 1, [markOf W.heap.size], W1, { target := .fn (.func f) cv, args := #[.func (.yield (W.heap.size + 1)) #[] #[]] }, W1, f, #[.func (.yield (W.heap.size + 1)) #[] #[]] ++ cv, W1, ?_, ?_, fun _ _ => trivial, ?_, fun hd => (by simp [fw, Fence.wide] at hd), ?_⟩
  · rw [hW1, hr]; exact run_enterLoop_outer _ _ _ _ _
  · simp only [resolve, hgv']
    simp [go_sem]
  · have hp : (program).run P W1 = .ok P W1 := rfl
    have h4 : (fn.name == "runtime.NumGoroutine") = false := by simpa using hname
    show (callFunc f (#[.func (.yield (W.heap.size + 1)) #[] #[]] ++ cv)).run P W1 = _
    rw [callFunc, Sem.run_bind, hp, Result.andThen_ok]
    simp only [hfun, h4, hbody, Option.isNone_some, Bool.false_eq_true, if_false, Sem.run_pure]
  · -- the function's own run
    have hl1 : W1.heap[W.heap.size + 1]? = some (.loop (r .ready none)) := by
      rw [hW1]; have := World.alloc_heap_new (W.alloc (.deferred (some []))) (.loop (r .ready none)); rwa [World.size_alloc] at this
    have hD1 : W1.heap[W.heap.size]? = some (.deferred (some [])) := by
      rw [hW1, alloc_old _ _ (by simp)]; exact World.alloc_heap_new W _
    let aI : Act := { tmps := (#[Value.func (.yield (W.heap.size + 1)) #[] #[]] ++ cv) ++ Array.replicate (fn.ntmps - (#[Value.func (.yield (W.heap.size + 1)) #[] #[]] ++ cv).size) undef, defers := [] }
    have hb0 := (hO.conc.begin []).alloc' (.deferred (some []))
    have hb1 := hb0.alloc' (.loop (r .ready none))
    rw [← hW1] at hb1
    have hkO : ∀ x v, VRel W (OwnBy c.A ρO) ρO x v → VRel W1 (OwnBy c.A ρO) ρO x v := fun x v hx => by
      have hk : KeepsV W W1 (OwnBy c.A ρO) (OwnBy c.A ρO) ρO ρO (fun _ => True) := {
        size := by rw [hW1]; simp; omega
        same := fun k hk _ => by rw [hW1, alloc_old _ _ (by simp; omega), alloc_old _ _ hk]
        own := fun k _ hk => hk
        map := fun _ _ _ _ h => h
        rows := fun k cur ty fr hk hh => by rw [hW1, alloc_old _ _ (by simp; omega), alloc_old _ _ hk] at hh; exact ⟨cur, ty, fr, hh, rfl⟩
        lt := hO.conc.lt }
      exact hx.keep hk (refs_all x)
    have hcI : ConcH (ctxD c ρO W [] hO.conc.tabOK) (entry (.lit (.func (.yield (W.heap.size + 1)) #[] #[]) :: caps) stO.mem stO.fixed) (exOf (W.heap.size + 1) W.heap.size r EO none) ρO aI W1 := by
      refine ⟨{ hb1 with slots := fun d x hx => ?_, defers := rfl }, rfl, fun p hp => ?_⟩
      · simp only [entry, look_number, Nat.zero_le, if_true, Nat.sub_zero] at hx
        cases d with
        | zero =>
          simp only [List.getElem?_cons_zero, Option.some.injEq] at hx
          subst hx
          have : aI.tmps.getD 0 undef = .func (.yield (W.heap.size + 1)) #[] #[] := by
            simp only [aI, Array.getD_eq_getD_getElem?]
            rw [Array.getElem?_append_left (by simp; omega), Array.getElem?_append_left (by simp)]
            rfl
          show VRel _ _ _ _ (aI.tmps.getD 0 undef)
          rw [this]; exact .tree (.lit rfl)
        | succ d =>
          simp only [List.getElem?_cons_succ] at hx
          have hd : d < cv.size := by
            rcases Nat.lt_or_ge d caps.length with h' | h'
            · omega
            · rw [List.getElem?_eq_none h'] at hx; cases hx
          have h1 := hkO _ _ (hcr d x hx)
          have e : aI.tmps.getD (d + 1) undef = cv.getD d undef := by
            simp only [aI, Array.getD_eq_getD_getElem?]
            rw [Array.getElem?_append_left (by simp; omega), Array.getElem?_append_right (by simp)]
            simp
          show VRel _ _ _ _ (aI.tmps.getD (d + 1) undef)
          rw [e]; exact h1
      · rcases List.mem_cons.1 hp with rfl | hp
        · exact ⟨hl1, rfl⟩
        rcases List.mem_cons.1 hp with rfl | hp
        · exact ⟨hD1, rfl⟩
        · obtain ⟨h1, h2⟩ := hO.hid.2 p hp
          have hlt := (Array.getElem?_eq_some_iff.1 h1).1
          exact ⟨by rw [hW1, alloc_old _ _ (by simp; omega), alloc_old _ _ hlt]; exact h1, h2⟩
    have hsI : aI.tmps.size = ntI := by
      simp only [aI, Array.size_append, Array.size_replicate, List.size_toArray, List.length_cons, List.length_nil]
      omega
    have hJ := hI (ctxD c ρO W [] hO.conc.tabOK) (W.heap.size + 1) (fun j => exOf (W.heap.size + 1) W.heap.size r EO j) hstd (fun _ => rfl)
      (fun m xs KB hB => rounds_of hstd hO hsO hps hlt hpa hpb hca hcb hds fnr hB hr) codeI hb ρO aI W1 hcI hsI
    refine callsIn_of_wp (F := fw none) hfun hbody trivial (wpIn_mono hJ (fun e a' w' h' => ?_))
    have fin : ∀ e : Exit, (a'.tmps.size = ntI ∧ ∃ st E ρ, ((e = .normal ∨ e = .ret) ∧ st.fixed = stO.fixed ∧ ∃ e' j, jumpOf e' = some j ∧ E = exOf (W.heap.size + 1) W.heap.size r EO j ∧ K e' st.mem) ∧ ConcH (ctxD c ρO W [] hO.conc.tabOK) st E ρ a' w') → (e = .normal ∨ e = .ret) ∧ a'.defers = [] ∧ ∃ v, (results fn a'.tmps).run P w' = .ok v w' ∧
        rangePost (fw none) 0 P (W.heap.size + 1) (postH nt c Q) { aO with defers := [markOf W.heap.size] ++ aO.defers } (.returned v) w' := by
      rintro e ⟨_, s', E', ρ', ⟨he, hfx, e', j, hj, rfl, hK⟩, hh⟩
      obtain ⟨v, hrun, _⟩ := results_ok (rds := []) (xs := []) hh.conc hres rfl
      refine ⟨he, hh.hid.1, v, hrun, ?_⟩
      have hl2 : w'.heap[W.heap.size + 1]? = some (.loop (r (if j.isNone then .ready else .done) j)) := (hh.hid.2 (_, _) List.mem_cons_self).1
      obtain ⟨rx, hend⟩ : ∃ rx : Loop, (Instr.endLoop (W.heap.size + 1)).run P w' = .ok j (w'.putObj (W.heap.size + 1) (.loop rx)) := by
        have hend := run_endLoop (P := P) hl2 (by rw [hr]; dsimp only; cases j <;> simp)
        have epe : (r (if j.isNone then .ready else .done) j).pending = j := by rw [hr]
        rw [epe] at hend
        exact ⟨_, hend⟩
      refine ⟨j, _, hend, ?_⟩
      have hslots : ∀ d x, look (keepS ds stO.slots) d = some x → VRel w' (OwnBy c.A ρ') ρ' x (aO.tmps.getD d undef) := fun d x hx => by
        obtain ⟨h6, h7⟩ := hds _ (look_mem hx)
        exact hO.conc.hold (ds := []) (hT := hO.conc.tabOK) hh.conc (hO.conc.slots _ _ h6) (refs_imp (fun b hb => ⟨hb, by rw [hfx]; exact hb⟩) _ h7)
      have hback : Conc c ⟨keepS ds stO.slots, s'.mem, stO.fixed⟩ ρ' { aO with defers := c.defs } w' :=
        { hO.conc.back hh.conc with slots := hslots, defers := rfl, fix := (by rw [← hfx]; exact (hO.conc.back hh.conc).fix) }
      have hH : ConcH c ⟨keepS ds stO.slots, s'.mem, stO.fixed⟩ ⟨(W.heap.size + 1, .loop (r (if j.isNone then .ready else .done) j)) :: (W.heap.size, .deferred (some [])) :: EO.hid, markOf W.heap.size :: EO.ds⟩ ρ' { aO with defers := [markOf W.heap.size] ++ aO.defers } w' :=
        ⟨hback, by show [markOf W.heap.size] ++ aO.defers = _; rw [hO.hid.1]; rfl, hh.hid.2⟩
      have hH2 := hH.turn (o' := .loop rx) hl2 rfl rfl (by have := hO.conc.size; omega) (E' := ⟨(W.heap.size, .deferred (some [])) :: EO.hid, markOf W.heap.size :: EO.ds⟩) rfl (fun p hp => by
        refine .inr ⟨?_, List.mem_cons_of_mem _ hp⟩
        rcases List.mem_cons.1 hp with rfl | hp
        · show W.heap.size ≠ W.heap.size + 1; omega
        · have := (Array.getElem?_eq_some_iff.1 (hO.hid.2 p hp).1).1; omega)
      have hQ := hq e' j s'.mem hj hK W.heap.size hO.conc.size
      have hsz : ({ aO with defers := [markOf W.heap.size] ++ aO.defers } : Act).tmps.size = nt := hsO
      cases e' with
      | normal => injection hj with hj; subst hj; exact ⟨hsz, _, _, ρ', hQ, hH2⟩
      | ret => injection hj with hj; subst hj; exact wpIn_ret ⟨hsz, _, _, ρ', hQ, hH2⟩
      | exit id => injection hj with hj; subst hj; exact wpIn_exit ⟨hsz, _, _, ρ', hQ, hH2⟩
      | goto l => cases hj
      | panic ch => cases hj
      | outgrown => cases hj
    cases e with
    | normal => exact (fin _ h').2
    | ret => exact (fin _ h').2
    | exit id => have := (fin _ h').1; simp at this
    | goto l => have := (fin _ h').1; simp at this
    | panic ch => exact h'.elim
    | outgrown => exact h'.elim

/-- How a function ends that may have ranged over another one. -/
def doneH (lo : Nat) (fixed : List Nat) (rds : List RD) (postF : AV → Mem → Prop) (e : Exit) (st : St) (E : Ex) : Prop :=
  doneQ fixed rds postF e st ∧ (E.ds = [] ∨ ∃ D, E.ds = [markOf D] ∧ (D, .deferred (some [])) ∈ E.hid ∧ lo ≤ D)

theorem Does.ofH {f : FuncId} {args : List AV} {m : Mem} {fixed : List Nat} {ac : AC} {rds : List RD} {postF : AV → Mem → Prop} (hc : chkFn P f nt args.length ac rds = true)
    (hJ : ∀ c, c.A = c.B → JH P nt c ac (entry args m fixed) ⟨[], []⟩ (doneH c.w0.heap.size fixed rds postF)) : Does P f args m fixed postF := by
  unfold chkFn at hc
  split at hc <;> try (cases hc; done)
  rename_i fn hfn
  simp only [Bool.and_eq_true, beq_iff_eq, decide_eq_true_eq, bne_iff_ne] at hc
  obtain ⟨⟨⟨⟨hb, hnt⟩, hna⟩, hres⟩, hname⟩ := hc
  split at hb <;> try (cases hb; done)
  rename_i code hbody
  refine ⟨by simp [fnOK, hfn, hbody, hname], fun A ρ w vs ht1 ht2 hM hlen hv => ?_⟩
  let c : Ctx := ⟨w, A, A, ρ, fun k => ∃ b o, ρ b = some (k, o), fun _ h => h, ht1, fun q hq ⟨b, o, hb⟩ => ht2 q hq b o hb, []⟩
  have hcc : Conc c (entry args m fixed) ρ { tmps := vs ++ Array.replicate (fn.ntmps - vs.size) undef, defers := [] } w := {
    slots := fun d x hx => by
      simp only [entry, look_number, Nat.zero_le, if_true, Nat.sub_zero] at hx
      have hd : d < vs.size := by
        rcases Nat.lt_or_ge d args.length with h' | h'
        · omega
        · rw [List.getElem?_eq_none h'] at hx; cases hx
      have := hv d x hx
      have e : (vs ++ Array.replicate (fn.ntmps - vs.size) undef).getD d undef = vs.getD d undef := by
        simp only [Array.getD_eq_getD_getElem?]
        rw [Array.getElem?_append_left hd]
      simp only [e]
      exact this
    defers := rfl, mem := hM.mem, dom := hM.dom, lt := hM.lt, inj := hM.inj, mine := fun b k o hb => .inl ⟨b, o, hb⟩, far := hM.far, fix := fun _ _ => rfl, alt := hM.alt, os := rfl, tape := rfl, output := rfl, size := Nat.le_refl _, frame := fun _ _ _ => rfl, rows := fun k cur ty fr _ hh => ⟨cur, ty, fr, hh, rfl⟩ }
  have hsz : (vs ++ Array.replicate (fn.ntmps - vs.size) undef).size = nt := by simp; omega
  have hw := hJ c rfl code hb ρ { tmps := vs ++ Array.replicate (fn.ntmps - vs.size) undef, defers := [] } w ⟨hcc, rfl, fun p hp => by cases hp⟩ hsz
  refine callsIn_wide.1 (show CallsIn Fence.wide 0 P f vs w _ from callsIn_of_wp_marks (F := Fence.wide) hfn hbody trivial (wpIn_mono hw (fun e a' w' h' => ?_)))
  have fin0 : ∀ (st : St) (ρ' : Map) (a' : Act) (w' : World), doneQ fixed rds postF .normal st → Conc c st ρ' a' w' → ∃ v, (results fn a'.tmps).run P w' = .ok v w' ∧
      ∃ v_1 r m' ρ', Ending.returned v = .returned v_1 ∧ postF r m' ∧ MemOK A m' ρ' w' ∧ VRel w' (OwnBy A ρ') ρ' r v_1 ∧ After w w' ρ ρ' fixed := by
    rintro st ρ' a' w' ⟨_, hfx, xs, m2, hxs, hm2, hr1, hr2, hfm, hp⟩ hc'
    obtain ⟨v, hrun, hrel⟩ := results_ok hc' hres hxs
    have hc2 := hc'.sub (st' := { st with slots := [], mem := m2 }) (fun p hp => by simp at hp) hm2 (fun p hp => by simp at hp) hr2 rfl (fun b hb => hfm b (hfx ▸ hb))
    have hsub : ∀ b k o, (fun x => if (look m2 x).isSome then ρ' x else none) b = some (k, o) → ρ' b = some (k, o) := fun b k o hb => by
      replace hb : (if (look m2 b).isSome then ρ' b else none) = some (k, o) := hb
      split at hb
      · exact hb
      · cases hb
    have hk : KeepsV w' w' (OwnBy A ρ') (OwnBy A (fun x => if (look m2 x).isSome then ρ' x else none)) ρ' (fun x => if (look m2 x).isSome then ρ' x else none) (fun b => (look m2 b).isSome) := {
      size := Nat.le_refl _, same := fun _ _ _ => rfl
      own := fun k _ hk => hk.imp id (fun ⟨b, o, hb⟩ => ⟨b, o, hsub _ _ _ hb⟩)
      map := fun b hb k o hρ => by simp only [hb, if_true]; exact hρ
      rows := fun k cur ty fr _ hh => ⟨cur, ty, fr, hh, rfl⟩, lt := hc'.lt }
    exact ⟨v, hrun, v, _, m2, _, rfl, hp, { mem := hc2.mem, dom := hc2.dom, lt := hc2.lt, inj := hc2.inj, far := hc2.far, alt := fun k hk => Nat.lt_of_lt_of_le (hc'.alt k hk) hc'.size }, hrel.keep hk hr1,
      { os := hc'.os, tape := hc'.tape, output := hc'.output, size := hc'.size, frame := fun k hk hno => hc'.frame k hk (fun ⟨b, o, hb⟩ => hno b o hb), mine := fun b k o hb => hc'.mine b k o (hsub _ _ _ hb), fix := fun b hb => hc2.fix b (hfx ▸ hb), rows := hc'.rows }⟩
  have fin : ∀ e : Exit, (a'.tmps.size = nt ∧ ∃ st E ρ', doneH w.heap.size fixed rds postF e st E ∧ ConcH c st E ρ' a' w') → (e = .normal ∨ e = .ret) ∧ LeavesInM Fence.wide 0 P fn a'.tmps (fun e w' => ∃ v r m' ρ', e = .returned v ∧ postF r m' ∧ MemOK A m' ρ' w' ∧ VRel w' (OwnBy A ρ') ρ' r v ∧ After w w' ρ ρ' fixed) a'.defers .returning w' := by
    rintro e ⟨_, st, E, ρ', ⟨hq, hE⟩, hh⟩
    refine ⟨hq.1, ?_⟩
    have hq' : doneQ fixed rds postF .normal st := ⟨.inl rfl, hq.2⟩
    rcases hE with hE | ⟨D, hE, hD, hnew⟩
    · rw [hh.hid.1, hE]
      obtain ⟨v, hrun, hR⟩ := fin0 st ρ' _ w' hq' hh.conc
      exact ⟨v, hrun, hR⟩
    · rw [hh.hid.1, hE]
      obtain ⟨hD1, hD2⟩ := hh.hid.2 _ hD
      refine ⟨by simp, .inl ⟨D, _, rfl, run_takeDeferred hD1, ?_⟩⟩
      obtain ⟨v, hrun, hR⟩ := fin0 st ρ' _ _ hq' (hh.conc.putObj (o' := .deferred none) hD1 hD2 rfl hnew)
      exact ⟨v, hrun, hR⟩
  cases e with
  | normal => exact (fin _ h').2
  | ret => exact (fin _ h').2
  | exit id => have := (fin _ h').1; simp at this
  | goto l => have := (fin _ h').1; simp at this
  | panic ch => exact h'.elim
  | outgrown => exact h'.elim

end
end Go.SX
