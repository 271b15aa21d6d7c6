/- SX, part R: a range over a function: blocks that nobody's state names, marks among the deferred calls, rounds. -/
import Derived.Test.YtifpfpiljionmaaDoorSxP
import Derived.RangeFuncRecord
set_option linter.unusedVariables false
set_option linter.unusedSimpArgs false
namespace Go.SX
open Go

def isC : Obj → Bool
  | .cells .. => true
  | _ => false

theorem cell_isC {w : World} {a : Addr} {v : Value} (h : w.cell? a = some v) : ∃ o, w.heap[a.block]? = some o ∧ isC o = true := by
  unfold World.cell? at h
  cases ho : w.heap[a.block]? with
  | none => simp [ho] at h
  | some o => exact ⟨o, rfl, by cases o <;> simp_all [isC]⟩

/-- No tree leads to what is no cells. -/
theorem TRel.bar {w : World} {Own : Nat → Prop} {l : Nat} {o : Obj} (hl : w.heap[l]? = some o) (ho : isC o = false) {x : AV} {v : Value} (h : TRel w Own x v) : TRel w (fun k => Own k ∨ k = l) x v := by
  induction h with
  | lit h => exact .lit h
  | nils => exact .nils
  | ronil => exact .ronil
  | ro val hc hs hlen hblk hne hcell hone hrel ih =>
    refine .ro val hc hs hlen (fun h => ?_) hne hcell hone ih
    rcases h with h | h
    · exact hblk h
    · obtain ⟨x0, h0⟩ := exists_cell hs hlen hne
      obtain ⟨o', h1, h2⟩ := cell_isC (hcell 0 0 x0 h0)
      rw [add_blk, h, hl] at h1
      injection h1 with h1
      rw [h1, h2] at ho; cases ho
  | agg hl _ ih => exact .agg hl ih
  | tup hl _ ih => exact .tup hl ih
  | fn hl _ ih => exact .fn hl ih
theorem VRel.bar {w : World} {Own : Nat → Prop} {ρ : Map} {l : Nat} {o : Obj} (hl : w.heap[l]? = some o) (ho : isC o = false) {x : AV} {v : Value} (h : VRel w Own ρ x v) : VRel w (fun k => Own k ∨ k = l) ρ x v := by
  induction h with
  | tree h => exact .tree (h.bar hl ho)
  | agg hl _ ih => exact .agg hl ih
  | tup hl _ ih => exact .tup hl ih
  | fn hl _ ih => exact .fn hl ih
  | rop val hs hlen hblk hi hj hcell hone hrel =>
    refine .rop val hs hlen (fun h => ?_) hi hj hcell hone (fun i j x hx => (hrel i j x hx).bar hl ho)
    rcases h with h | h
    · exact hblk h
    · obtain ⟨x0, h0⟩ := exists_cell hs hlen (by intro h; subst h; simp at hi)
      obtain ⟨o', h1, h2⟩ := cell_isC (hcell 0 0 x0 h0)
      rw [add_blk, h, hl] at h1
      injection h1 with h1
      rw [h1, h2] at ho; cases ho
  | ownnil => exact .ownnil
  | ownz h => exact .ownz h
  | own h hn hroom => exact .own h hn hroom
  | ownc h hn hroom => exact .ownc h hn hroom
  | ptr h => exact .ptr h
  | dead => exact .dead

theorem BRel.bar {w : World} {Own : Nat → Prop} {ρ : Map} {l : Nat} {o : Obj} (hl : w.heap[l]? = some o) (ho : isC o = false) {b : Nat} {blk : Blk} (h : BRel w Own ρ b blk) : BRel w (fun k => Own k ∨ k = l) ρ b blk := by
  cases blk with
  | arr ty sz es =>
    simp only [BRel] at h ⊢
    cases hb : ρ b with
    | none => rw [hb] at h; exact h
    | some p =>
      obtain ⟨k, o'⟩ := p
      rw [hb] at h
      obtain ⟨cur, h1, h2, h3, h4⟩ := h
      exact ⟨cur, h1, h2, h3, fun i j x hx => by
        obtain ⟨v, hv, h1v, ht⟩ := h4 i j x hx
        exact ⟨v, hv, h1v, ht.bar hl ho⟩⟩
  | obj ty cs =>
    obtain ⟨k, cur, h0, h1, h2, h3⟩ := h
    exact ⟨k, cur, h0, h1, h2, fun j x hx => by
      obtain ⟨v, hv, h1v, ht⟩ := h3 j x hx
      exact ⟨v, hv, h1v, ht.bar hl ho⟩⟩

section
variable {c : Ctx} {st : St} {ρ : Map} {a : Act} {w : World}

/-- What the state names holds cells. -/
theorem Conc.cells (h : Conc c st ρ a w) {b k o : Nat} (hb : ρ b = some (k, o)) : ∃ cur ty fr, w.heap[k]? = some (.cells cur ty fr) := by
  obtain ⟨blk, hl⟩ := h.dom b k o hb
  have hB := h.mem b blk hl
  cases blk with
  | arr ty sz es => simp only [BRel, hb] at hB; obtain ⟨cur, h1, _⟩ := hB; exact ⟨_, _, _, h1⟩
  | obj ty cs => obtain ⟨k', cur, h0, h1, _⟩ := hB; rw [hb] at h0; injection h0 with h0; injection h0 with h0 _; subst h0; exact ⟨_, _, _, h1⟩

theorem Conc.notIn (h : Conc c st ρ a w) {l : Nat} {o : Obj} (hl : w.heap[l]? = some o) (ho : isC o = false) (b o' : Nat) : ρ b ≠ some (l, o') := fun hb => by
  obtain ⟨cur, ty, fr, hc⟩ := h.cells hb
  rw [hl] at hc; injection hc with hc; subst hc; cases ho

/-- A block that the state does not name turns. -/
theorem Conc.putObj (h : Conc c st ρ a w) {l : Nat} {o o' : Obj} (hl : w.heap[l]? = some o) (ho : isC o = false) (ho' : isC o' = false) (hw : c.w0.heap.size ≤ l) : Conc c st ρ a (w.putObj l o') := by
  have hlt : l < w.heap.size := (Array.getElem?_eq_some_iff.1 hl).1
  have hk : KeepsV w (w.putObj l o') (fun k => OwnBy c.A ρ k ∨ k = l) (OwnBy c.A ρ) ρ ρ (fun _ => True) := {
    size := by simp
    same := fun k _ hno => World.putObj_heap_other (fun e => hno (.inr e))
    own := fun k _ hk => .inl hk
    map := fun _ _ _ _ h => h
    rows := fun k cur ty fr hk hh => by
      by_cases e : k = l
      · subst e; rw [World.putObj_heap_same hk] at hh; injection hh with hh; subst hh; cases ho'
      · rw [World.putObj_heap_other e] at hh; exact ⟨cur, ty, fr, hh, rfl⟩
    lt := h.lt }
  exact { slots := fun d x hx => ((h.slots d x hx).bar hl ho).keep hk (refs_all x), defers := h.defers
          mem := fun b blk hb => ((h.mem b blk hb).bar hl ho).keep hk rfl (fun k o'' hρ => World.putObj_heap_other (fun e => h.notIn hl ho b o'' (e ▸ hρ))) (fun _ cs _ => refs_allL cs)
          dom := h.dom, lt := fun b k o'' hb => by rw [World.putObj_size]; exact h.lt _ _ _ hb, inj := h.inj, mine := h.mine, far := h.far, fix := h.fix, alt := h.alt, os := h.os, tape := h.tape, output := h.output
          size := by rw [World.putObj_size]; exact h.size
          frame := fun k hk hF => by rw [World.putObj_heap_other (by omega)]; exact h.frame k hk hF
          rows := h.rows' hk }

theorem alloc_old (w : World) (o : Obj) {k : Nat} (hk : k < w.heap.size) : (w.alloc o).heap[k]? = w.heap[k]? := by
  show (w.heap.push o)[k]? = w.heap[k]?
  rw [Array.getElem?_push_lt hk, Array.getElem?_eq_getElem hk]

/-- A block is laid that the state does not name. -/
theorem Conc.alloc' (h : Conc c st ρ a w) (o : Obj) : Conc c st ρ a (w.alloc o) := by
  have hk : KeepsV w (w.alloc o) (OwnBy c.A ρ) (OwnBy c.A ρ) ρ ρ (fun _ => True) := {
    size := by simp
    same := fun k hk _ => alloc_old w o hk
    own := fun k _ hk => hk
    map := fun _ _ _ _ h => h
    rows := fun k cur ty fr hk hh => by rw [alloc_old w o hk] at hh; exact ⟨cur, ty, fr, hh, rfl⟩
    lt := h.lt }
  exact { slots := fun d x hx => (h.slots d x hx).keep hk (refs_all x), defers := h.defers
          mem := fun b blk hb => (h.mem b blk hb).keep hk rfl (fun k o'' hρ => alloc_old w o (h.lt _ _ _ hρ)) (fun _ cs _ => refs_allL cs)
          dom := h.dom, lt := fun b k o'' hb => by have := h.lt _ _ _ hb; simp; omega, inj := h.inj, mine := h.mine, far := h.far, fix := h.fix, alt := h.alt, os := h.os, tape := h.tape, output := h.output
          size := by have := h.size; simp; omega
          frame := fun k hk hF => by rw [alloc_old w o (by have := h.size; omega)]; exact h.frame k hk hF
          rows := h.rows' hk }

/-- Begun here, with such deferred calls. -/
def ctxD (c : Ctx) (ρ : Map) (w : World) (ds : List Deferred) (hT : TabOK ρ w) : Ctx :=
  ⟨w, c.A, c.B, c.ρ0, fun k => ∃ b o, ρ b = some (k, o), c.sub, hT.1, fun q hq ⟨b, o, hb⟩ => hT.2 q hq b o hb, ds⟩

theorem Conc.begin (h : Conc c st ρ a w) (ds : List Deferred) : Conc (ctxD c ρ w ds h.tabOK) st ρ { a with defers := ds } w :=
  { slots := h.slots, defers := rfl, mem := h.mem, dom := h.dom, lt := h.lt, inj := h.inj, mine := fun b k o hb => .inl ⟨b, o, hb⟩, far := h.far, fix := h.fix, alt := fun k hk => Nat.lt_of_lt_of_le (h.alt k hk) h.size, os := rfl, tape := rfl, output := rfl, size := Nat.le_refl _, frame := fun _ _ _ => rfl, rows := fun k cur ty fr _ hh => ⟨cur, ty, fr, hh, rfl⟩ }

theorem Conc.back {st1 : St} {ρ1 : Map} {a1 : Act} {w1 : World} (h1 : Conc c st1 ρ1 a1 w1) {ds : List Deferred} {hT : TabOK ρ1 w1} (h : Conc (ctxD c ρ1 w1 ds hT) st ρ a w) : Conc c st ρ { a with defers := c.defs } w := by
  refine { slots := h.slots, defers := rfl, mem := h.mem, dom := h.dom, lt := h.lt, inj := h.inj, mine := ?_, far := h.far, fix := h.fix, alt := h1.alt, os := h.os.trans h1.os, tape := h.tape.trans h1.tape, output := h.output.trans h1.output, size := Nat.le_trans h1.size h.size, frame := ?_, rows := ?_ }
  · intro b k o hb
    rcases h.mine _ _ _ hb with ⟨b0, o0, h0⟩ | h0
    · exact h1.mine _ _ _ h0
    · exact .inr (Nat.le_trans h1.size h0)
  · intro k hk hF
    have hk1 : k < w1.heap.size := Nat.lt_of_lt_of_le hk h1.size
    rw [h.frame k hk1 (fun ⟨b, o, hb⟩ => ?_)]
    · exact h1.frame k hk hF
    · rcases h1.mine _ _ _ hb with h0 | h0
      · exact hF h0
      · omega
  · intro k cur ty fr hk hh
    have hk1 : k < w1.heap.size := Nat.lt_of_lt_of_le hk h1.size
    obtain ⟨c2, t2, f2, h2, e2⟩ := h.rows k cur ty fr hk1 hh
    obtain ⟨c3, t3, f3, h3, e3⟩ := h1.rows k c2 t2 f2 hk h2
    exact ⟨c3, t3, f3, h3, e3.trans e2⟩

/-- What leads to blocks that stay where they are holds on. -/
theorem Conc.hold {st1 : St} {ρ1 : Map} {a1 : Act} {w1 : World} (h1 : Conc c st1 ρ1 a1 w1) {ds : List Deferred} {hT : TabOK ρ1 w1} (h : Conc (ctxD c ρ1 w1 ds hT) st ρ a w) {x : AV} {v : Value} (hx : VRel w1 (OwnBy c.A ρ1) ρ1 x v) (hr : refsIn (fun b => b ∈ st1.fixed ∧ b ∈ st.fixed) x) : VRel w (OwnBy c.A ρ) ρ x v := by
  have hk : KeepsV w1 w (OwnBy c.A ρ1) (OwnBy c.A ρ) ρ1 ρ (fun b => b ∈ st1.fixed ∧ b ∈ st.fixed) := {
    size := h.size
    same := fun k hk hno => h.frame k hk (fun ⟨b, o, hb⟩ => hno (.inr ⟨b, o, hb⟩))
    own := fun k hk hO => by
      rcases hO with hO | ⟨b, o, hO⟩
      · exact .inl hO
      · rcases h.mine _ _ _ hO with ⟨b0, o0, h0⟩ | h0
        · exact .inr ⟨b0, o0, h0⟩
        · exact absurd hk (by have : w1.heap.size ≤ k := h0; omega)
    map := fun b hb k o hρ => by rw [h.fix b hb.2]; exact (h1.fix b hb.1).symm.trans hρ
    rows := h.rows
    lt := h1.lt }
  exact hx.keep hk hr
end

/-! ### J beside what the state does not name -/

structure Ex where
  hid : List (Nat × Obj)
  ds : List Deferred

def Hid (E : Ex) (a : Act) (w : World) : Prop := a.defers = E.ds ∧ ∀ p ∈ E.hid, w.heap[p.1]? = some p.2 ∧ isC p.2 = false

structure ConcH (c : Ctx) (st : St) (E : Ex) (ρ : Map) (a : Act) (w : World) : Prop where
  conc : Conc c st ρ { a with defers := c.defs } w
  hid : Hid E a w

def postH (nt : Nat) (c : Ctx) (Q : Exit → St → Ex → Prop) : Exit → Act → World → Prop
  | .panic _, _, _ => False
  | .outgrown, _, _ => False
  | e, a, w => a.tmps.size = nt ∧ ∃ st E ρ, Q e st E ∧ ConcH c st E ρ a w

def JH (P : Program) (nt : Nat) (c : Ctx) (ac : AC) (st : St) (E : Ex) (Q : Exit → St → Ex → Prop) : Prop :=
  ∀ code, chkC P nt code ac = true → ∀ ρ a w, ConcH c st E ρ a w → a.tmps.size = nt → code.wpIn (fw none) 0 P (postH nt c Q) a w

section
variable {P : Program} {nt : Nat} {c : Ctx} {st : St} {E : Ex} {Q : Exit → St → Ex → Prop}

/-- What a part did that was begun here. -/
theorem ConcH.back {st1 : St} {ρ1 ρ : Map} {a1 a : Act} {w1 w : World} (h1 : ConcH c st1 E ρ1 a1 w1) {hT : TabOK ρ1 w1} (h : Conc (ctxD c ρ1 w1 E.ds hT) st ρ a w) : ConcH c st E ρ a w :=
  ⟨h1.conc.back h, h.defers, fun p hp => by
    obtain ⟨h2, h3⟩ := h1.hid.2 p hp
    refine ⟨(h.frame p.1 (Array.getElem?_eq_some_iff.1 h2).1 (fun ⟨b, o, hb⟩ => h1.conc.notIn h2 h3 b o hb)).trans h2, h3⟩⟩

theorem ConcH.begin {ρ : Map} {a : Act} {w : World} (h : ConcH c st E ρ a w) : Conc (ctxD c ρ w E.ds h.conc.tabOK) st ρ a w := by
  have := h.conc.begin E.ds
  have e : ({ ({ a with defers := c.defs } : Act) with defers := E.ds } : Act) = a := by
    obtain ⟨t, d⟩ := a
    have := h.hid.1
    simp only at this; subst this; rfl
  rw [e] at this; exact this

theorem JH.of {ac : AC} (hstd : c.A = c.B) (h : ∀ c', c'.A = c'.B → J P nt c' ac st (fun e s => Q e s E)) : JH P nt c ac st E Q := by
  intro code hc ρ a w hcc hs
  refine wpIn_mono (h (ctxD c ρ w E.ds hcc.conc.tabOK) hstd code hc none rfl ρ a w hcc.begin hs) (fun e a' w' h' => ?_)
  cases e <;> first | exact h'.elim | skip
  all_goals
    obtain ⟨hs', st', ρ', hq, hc'⟩ := h'
    exact ⟨hs', st', E, ρ', hq, hcc.back hc'⟩

def thenH (P : Program) (nt : Nat) (c : Ctx) (y : AC) (Q : Exit → St → Ex → Prop) : Exit → St → Ex → Prop
  | .normal, st, E => JH P nt c y st E Q
  | e, st, E => Q e st E

theorem JH.seq {x y : AC} (h : JH P nt c x st E (thenH P nt c y Q)) : JH P nt c (.seq x y) st E Q := by
  intro code hc ρ a w hcc hs
  cases code <;> try (simp [chkC] at hc; done)
  simp only [chkC, Bool.and_eq_true] at hc
  refine wpIn_seq (wpIn_mono (h _ hc.1 ρ a w hcc hs) (fun e a' w' h' => ?_))
  cases e <;> first | exact h'.elim | skip
  · obtain ⟨hs', st', E', ρ', hq, hc'⟩ := h'
    exact hq _ hc.2 ρ' a' w' hc' hs'
  all_goals exact h'

theorem JH.cond {t : Nat} {x y : AC} (h : ∃ b, look st.slots t = some (.lit (.bool b)) ∧ (b = true → JH P nt c x st E Q) ∧ (b = false → JH P nt c y st E Q)) : JH P nt c (.cond (.s t) x y) st E Q := by
  obtain ⟨b, hb, h1, h2⟩ := h
  intro code hc ρ a w hcc hs
  cases code <;> try (simp [chkC] at hc; done)
  rename_i s x' y'
  cases s <;> try (simp [chkC] at hc; done)
  rename_i t'
  simp only [chkC, Bool.and_eq_true, beq_iff_eq] at hc
  obtain ⟨⟨rfl, hx⟩, hy⟩ := hc
  have he := (hcc.conc.slots _ _ hb).lit_inv.1
  exact wpIn_cond_split (t := b) he (fun e => h1 e _ hx ρ a w hcc hs) (fun e => h2 e _ hy ρ a w hcc hs)

def blockH (id : Nat) (Q : Exit → St → Ex → Prop) : Exit → St → Ex → Prop
  | .exit id', st, E => if id' = id then Q .normal st E else Q (.exit id') st E
  | e, st, E => Q e st E

theorem JH.block {id : Nat} {x : AC} (h : JH P nt c x st E (blockH id Q)) : JH P nt c (.block id x) st E Q := by
  intro code hc ρ a w hcc hs
  cases code <;> try (simp [chkC] at hc; done)
  simp only [chkC, Bool.and_eq_true, beq_iff_eq] at hc
  obtain ⟨rfl, hx⟩ := hc
  refine wpIn_block (wpIn_mono (h _ hx ρ a w hcc hs) (fun e a' w' h' => ?_))
  cases e <;> first | exact h'.elim | exact h' | skip
  rename_i id' _
  obtain ⟨hs', st', E', ρ', hq, hc'⟩ := h'
  simp only [blockH] at hq
  simp only [Exit.inBlock]
  split
  · rename_i e; rw [if_pos e] at hq; exact ⟨hs', st', E', ρ', hq, hc'⟩
  · rename_i e; rw [if_neg e] at hq; exact ⟨hs', st', E', ρ', hq, hc'⟩

theorem JH.mono {ac : AC} {Q' : Exit → St → Ex → Prop} (h : JH P nt c ac st E Q') (hq : ∀ e s E, Q' e s E → Q e s E) : JH P nt c ac st E Q := by
  intro code hc ρ a w hcc hs
  refine wpIn_mono (h code hc ρ a w hcc hs) (fun e a' w' h' => ?_)
  cases e <;> first | exact h'.elim | (obtain ⟨hs', st', E', ρ', hQ, hc'⟩ := h'; exact ⟨hs', st', E', ρ', hq _ _ _ hQ, hc'⟩)

theorem JH.le {ac : AC} {st' : St} (hstd : c.A = c.B) (hl : st.le st') (h : JH P nt c ac st' E Q) : JH P nt c ac st E Q := by
  intro code hc ρ a w hcc hs
  obtain ⟨ρ', h', _⟩ := hl c ρ _ w hstd hcc.conc
  exact h code hc ρ' a w ⟨h', hcc.hid⟩ hs

def loopH (I : Nat → St → Prop) (n : Nat) (E : Ex) (Q : Exit → St → Ex → Prop) : Exit → St → Ex → Prop
  | .normal, st, E' => E' = E ∧ ∃ m s', m < n ∧ st.le s' ∧ I m s'
  | e, st, E => Q e st E

theorem JH.loop {x : AC} (hstd : c.A = c.B) (I : Nat → St → Prop) (h0 : ∃ n s', st.le s' ∧ I n s') (h : ∀ n st, I n st → JH P nt c x st E (loopH I n E Q)) : JH P nt c (.loop x) st E Q := by
  intro code hc ρ a w hcc hs
  cases code <;> try (simp [chkC] at hc; done)
  rename_i x'
  simp only [chkC] at hc
  classical
  let R : Nat → Act → World → Prop := fun n a w => a.tmps.size = nt ∧ ∃ st ρ, I n st ∧ ConcH c st E ρ a w
  have hmin : ∀ a w, (∃ n, R n a w) → ∃ n, R n a w ∧ ∀ m, R m a w → n ≤ m := by
    intro a w ⟨n, hn⟩
    induction n using Nat.strongRecOn with
    | _ n ih =>
      by_cases hlt : ∃ m, m < n ∧ R m a w
      · obtain ⟨m, hm, hR⟩ := hlt; exact ih m hm hR
      · exact ⟨n, hn, fun m hm => Nat.le_of_not_lt (fun h' => hlt ⟨m, h', hm⟩)⟩
  let μ : Act → World → Nat := fun a w => if h : ∃ n, R n a w then (hmin a w h).choose else 0
  have hμ : ∀ a w, (∃ n, R n a w) → R (μ a w) a w ∧ ∀ m, R m a w → μ a w ≤ m := by
    intro a w hex
    simp only [μ, hex, dif_pos]
    exact (hmin a w hex).choose_spec
  obtain ⟨n0, s0, hle0, hn0⟩ := h0
  obtain ⟨ρ0, hcc0, _⟩ := hle0 c ρ _ w hstd hcc.conc
  refine wpIn_loop (fun a w => ∃ n, R n a w) μ ⟨n0, hs, s0, ρ0, hn0, hcc0, hcc.hid⟩ (fun a w hex => ?_)
  obtain ⟨⟨hs1, st1, ρ1, hI, hc1⟩, _⟩ := hμ a w hex
  refine wpIn_mono (h _ st1 hI _ hc ρ1 a w hc1 hs1) (fun e a' w' h' => ?_)
  cases e <;> first | exact h'.elim | exact h' | skip
  obtain ⟨hs', st0, E0, ρ0, ⟨rfl, m, st', hm, hle, hI'⟩, hc0⟩ := h'
  obtain ⟨ρ', hc', _⟩ := hle c ρ0 _ w' hstd hc0.conc
  have hex' : ∃ n, R n a' w' := ⟨m, hs', st', ρ', hI', hc', hc0.hid⟩
  exact ⟨hex', Nat.lt_of_le_of_lt ((hμ a' w' hex').2 m ⟨hs', st', ρ', hI', hc', hc0.hid⟩) hm⟩
end
end Go.SX
