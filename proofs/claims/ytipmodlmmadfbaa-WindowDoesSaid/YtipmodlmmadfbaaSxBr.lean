/- SX, bridge: the print's contracts and ours. -/
import Derived.Test.YtipmodlmmadfbaaSxO
import Derived.Test.YtipmodlmmadfbaaWMore
set_option linter.unusedVariables false
set_option linter.unusedSimpArgs false
namespace Go.SX
open Go Go.RowKit Go.Proofs.YtipmodlmmadfbaaW.PrintWords

/-- Elements that lead nowhere: their cells. -/
structure Flat {α : Type} (d : Kd α) (e : α → List Value) : Prop where
  len : ∀ x, (e x).length = d.sz
  flat : ∀ x, ∀ u ∈ e x, flat u = true
  K : ∀ w x cs, d.K w x cs ↔ cs = e x
  pos : 0 < d.sz

def cellsOf {α : Type} (e : α → List Value) (l : List α) : List (List AV) := l.map fun x => (e x).map AV.lit

theorem one_flat {u : Value} (h : flat u = true) : one u = true := by cases u <;> first | rfl | (simp [SX.flat] at h)

theorem Flat.int (k : IntKind) : Flat (Kd.int k) (fun x => [.int k x]) := ⟨fun _ => rfl, by simp [SX.flat], fun _ _ _ => Iff.rfl, Nat.one_pos⟩

section
variable {α : Type} {d : Kd α} {e : α → List Value}

theorem cellAt_cells {l : List α} {i j : Nat} {x : AV} : cellAt (cellsOf e l) i j = some x ↔ ∃ a u, l[i]? = some a ∧ (e a)[j]? = some u ∧ x = .lit u := by
  simp only [cellAt, cellsOf, List.getElem?_map]
  constructor
  · intro h
    obtain ⟨r, hr, hj⟩ := Option.bind_eq_some_iff.1 h
    obtain ⟨a, ha, rfl⟩ := Option.map_eq_some_iff.1 hr
    rw [List.getElem?_map] at hj
    obtain ⟨u, hu, rfl⟩ := Option.map_eq_some_iff.1 hj
    exact ⟨a, u, ha, hu, rfl⟩
  · rintro ⟨a, u, ha, hu, rfl⟩
    simp [ha, hu]

/-- A row that is read, as a tree. -/
theorem Flat.tree' (hf : Flat d e) {w : World} {Own : Nat → Prop} {A : Option Addr} {c : Nat} {l : List α} (h : d.C w A l.length l) (hc : l.length ≤ c) (ho : ∀ ad, A = some ad → ¬ Own ad.block) : TRel w Own (.ro d.sz (cellsOf e l)) (.slice A l.length c) := by
  have hlen : (cellsOf e l).length = l.length := by simp [cellsOf]
  rw [← hlen]
  by_cases hl : l = []
  · subst hl; exact .ronil
  · obtain ⟨ad, rfl, hcell⟩ := h.2.2 (List.length_pos_iff.2 hl)
    refine .ro (fun i j => match l[i]? with | some a => (e a).getD j undef | none => undef) (by omega) hf.pos (fun r hr => ?_) (ho _ rfl) (by simpa [cellsOf] using hl) (fun i j x hx => ?_) (fun i j x hx => ?_) (fun i j x hx => ?_)
    · simp only [cellsOf, List.mem_map] at hr
      obtain ⟨a, _, rfl⟩ := hr
      simp [hf.len a]
    all_goals
      obtain ⟨a, u, ha, hu, rfl⟩ := cellAt_cells.1 hx
      have hu' : (e a).getD j undef = u := by simp [List.getD_eq_getElem?_getD, hu]
      simp only [ha, hu']
    · obtain ⟨cs, _, hK, hcs⟩ := hcell i a ha
      rw [hf.K] at hK
      subst hK
      exact hcs j u hu
    · exact one_flat (hf.flat a u (List.mem_of_getElem? hu))
    · exact .lit (hf.flat a u (List.mem_of_getElem? hu))

/-- A row that came in, as a tree. -/
theorem Flat.tree (hf : Flat d e) {w : World} {Own : Nat → Prop} {A : Option Addr} {c : Nat} {l : List α} (h : d.C w A l.length l) (hc : l.length ≤ c) (ho : ∀ k, ¬ Own k) : TRel w Own (.ro d.sz (cellsOf e l)) (.slice A l.length c) :=
  hf.tree' h hc (fun _ _ => ho _)

/-- A row that the print says is new, as a tree. -/
theorem Flat.treeR (hf : Flat d e) {w : World} {Own : Nat → Prop} {q base : Nat} {ok : Nat → Prop} {v : Value} {l : List α} (h : Kd.R d q w base ok v l) (ho : ∀ k, Own k → k < base) : TRel w Own (.ro d.sz (cellsOf e l)) v := by
  obtain ⟨A, c, rfl⟩ := Kd.R_slice h
  obtain ⟨_, hc, hC⟩ := Kd.R_reads' h
  refine hf.tree' hC hc (fun ad hA hO => ?_)
  subst hA
  have := Kd.R_base h ad.block rfl
  have := ho _ hO
  omega

/-- A tree, as a row that is read. -/
theorem Flat.reads (hf : Flat d e) {w : World} {Own : Nat → Prop} {v : Value} {l : List α} (h : TRel w Own (.ro d.sz (cellsOf e l)) v) (hm : l.length ≤ 9223372036854775807) : ∃ A c, v = .slice A l.length c ∧ l.length ≤ c ∧ d.C w A l.length l := by
  have hlen : (cellsOf e l).length = l.length := by simp [cellsOf]
  obtain ⟨A, c, rfl, hc, hrow⟩ := (VRel.tree (ρ := fun _ => none) h).ro_inv
  rw [hlen] at hc ⊢
  refine ⟨A, c, rfl, hc, rfl, hm, fun hn => ?_⟩
  obtain ⟨ad, rfl, _, _, _, hcell⟩ := hrow (by intro h0; have := congrArg List.length h0; rw [hlen] at this; simp only [List.length_nil] at this; omega)
  refine ⟨ad, rfl, fun j p hj => ⟨e p, hf.len p, (hf.K _ _ _).2 rfl, fun i u hu => ?_⟩⟩
  obtain ⟨u', hu', _, ht⟩ := hcell j i (.lit u) (cellAt_cells.2 ⟨p, u, hj, hu, rfl⟩)
  obtain ⟨rfl, _⟩ := (VRel.tree (ρ := fun _ => none) ht).lit_inv
  exact hu'

/-- A row of the call's own, handed back: it is read, and lies in what is new. -/
theorem Flat.back (hf : Flat d e) {w w' : World} {A : Nat → Prop} {ρ' : Map} {m : Mem} {b lo n ty : Nat} {v : Value} {l : List α} {es : List (List AV)} {q : Nat} (hM : MemOK A m ρ' w') (hA : After w w' (fun _ => none) ρ' []) (hv : VRel w' (OwnBy A ρ') ρ' (.own b d.sz lo n) v)
    (hb : look m b = some (.arr ty d.sz es)) (hn : n = l.length) (hle : lo + n ≤ es.length) (he : (es.drop lo).take n = cellsOf e l) (hm : l.length ≤ 9223372036854775807) : Kd.V d q w' w.heap.size (fun k_ => w.heap.size ≤ k_) v l := by
  subst hn
  rcases hv.own_inv with ⟨rfl, rfl, h0⟩ | ⟨ad, rfl, h0, _⟩ | ⟨k, o, cap, hρ, rfl, hcap, hroom⟩
  · have hl0 : l = [] := List.eq_nil_of_length_eq_zero h0
    subst hl0
    exact ⟨none, 0, rfl, Nat.le_refl _, fun W' _ => ⟨rfl, by simp, fun h => by simp at h⟩⟩
  · have hl0 : l = [] := List.eq_nil_of_length_eq_zero h0
    subst hl0
    exact ⟨some ad, 0, rfl, Nat.le_refl _, fun W' _ => ⟨rfl, by simp, fun h => by simp at h⟩⟩
  · refine ⟨_, cap, rfl, hcap, fun W' hW => ⟨rfl, hm, fun hn => ⟨_, rfl, fun j p hj => ⟨e p, hf.len p, (hf.K _ _ _).2 rfl, fun i u hu => ?_⟩⟩⟩⟩
    have hk : w.heap.size ≤ k := by
      rcases hA.mine _ _ _ hρ with ⟨_, _, h0⟩ | h0
      · cases h0
      · exact h0
    have hB := hM.mem b _ hb
    simp only [BRel, hρ] at hB
    obtain ⟨cur, hh, hlen, hsz, hcell⟩ := hB
    have hx : cellAt ((es.drop lo).take l.length) j i = some (.lit u) := by rw [he]; exact cellAt_cells.2 ⟨p, u, hj, hu, rfl⟩
    have hjl : j < l.length := (List.getElem?_eq_some_iff.1 hj).1
    have hx' : cellAt es (lo + j) i = some (.lit u) := by
      simp only [cellAt] at hx ⊢
      rwa [List.getElem?_take_of_lt hjl, List.getElem?_drop] at hx
    obtain ⟨u', hu', _, ht⟩ := hcell _ _ _ hx'
    obtain ⟨rfl, _⟩ := (VRel.tree (ρ := fun _ => none) ht).lit_inv
    have hh' := hW k hk (hM.lt _ _ _ hρ)
    rw [add_none]
    simp only [World.cell?, hh', hh]
    rw [if_neg (by simp), ← hu']
    congr 1; rw [Nat.add_mul]; omega

end

/-- A world that only drew. -/
theorem after_drawn {w w' : World} {ρ : Map} {A : Nat → Prop} (h : Below w.heap.size w w') (hM : MemOK A [] ρ w) (hrows : ∀ k cur ty fr, k < w.heap.size → w'.heap[k]? = some (.cells cur ty fr) → ∃ cur0 ty0 fr0, w.heap[k]? = some (.cells cur0 ty0 fr0) ∧ cur0.size = cur.size) :
    MemOK A [] ρ w' ∧ After w w' ρ ρ [] := by
  have hρ : ∀ b, ρ b = none := fun b => by
    cases e : ρ b with
    | none => rfl
    | some p => obtain ⟨k, o⟩ := p; obtain ⟨blk, hl⟩ := hM.dom b k o e; simp [look] at hl
  refine ⟨{ mem := fun b blk hl => (by simp [look] at hl), dom := hM.dom, lt := fun b k o h => (by rw [hρ] at h; cases h), inj := hM.inj, far := hM.far, alt := fun k hk => Nat.lt_of_lt_of_le (hM.alt k hk) h.size }, { os := h.os, tape := h.tape, output := h.output, size := h.size, frame := fun k hk _ => h.block k hk, mine := fun b k o h => (by rw [hρ] at h; cases h), fix := fun b hb => (by simp at hb), rows := hrows }⟩

/-- A contract of the print's, as ours: what it answers is told as trees. -/
theorem Does.of_ret {P : Program} {f : FuncId} {args : List AV} {r : AV} (hfn : fnOK P f = true)
    (h : ∀ (w : World) (Own : Nat → Prop) (vs : Array Value), args.length = vs.size → (∀ (i : Nat) x, args[i]? = some x → VRel w Own (fun _ => none) x (vs.getD i undef)) → Calls P f vs w fun e w' => ∃ v, e = .returned v ∧ Below w.heap.size w w' ∧ ∀ Own', (∀ k, Own' k → k < w.heap.size) → VRel w' Own' (fun _ => none) r v) : Does P f args [] [] (fun r' m => m = [] ∧ r' = r) := by
  refine ⟨hfn, fun A ρ w vs hM hlen hv => ?_⟩
  have hρ : ρ = fun _ => none := by
    funext b
    cases e : ρ b with
    | none => rfl
    | some p => obtain ⟨k, o⟩ := p; obtain ⟨blk, hl⟩ := hM.dom b k o e; simp [look] at hl
  subst hρ
  refine (h w _ vs hlen hv).mono ?_
  rintro e w' ⟨v, rfl, hb, hr⟩
  obtain ⟨h1, h2⟩ := after_drawn hb hM (fun k cur ty fr hk hh => by rw [hb.block k hk] at hh; exact ⟨cur, ty, fr, hh, rfl⟩)
  exact ⟨v, r, [], _, rfl, ⟨rfl, rfl⟩, h1, hr _ (fun k hk => by rcases hk with hk | ⟨_, _, hk⟩; exact hM.alt k hk; cases hk), h2⟩

theorem Does.of_plain {P : Program} {f : FuncId} {args : List AV} {r : AV} {v : Value} (hfn : fnOK P f = true) (hr : ∀ w Own ρ, VRel w Own ρ r v)
    (h : ∀ (w : World) (Own : Nat → Prop) (vs : Array Value), args.length = vs.size → (∀ (i : Nat) x, args[i]? = some x → VRel w Own (fun _ => none) x (vs.getD i undef)) → Calls P f vs w fun e w' => e = .returned v ∧ Below w.heap.size w w') : Does P f args [] [] (fun r' m => m = [] ∧ r' = r) :=
  Does.of_ret hfn (fun w Own vs h1 h2 => (h w Own vs h1 h2).mono fun _ _ ⟨he, hb⟩ => ⟨v, he, hb, fun _ _ => hr _ _ _⟩)

/-- Ours, called from without: nothing is handed over. -/
theorem Does.calls {P : Program} {f : FuncId} {args : List AV} {post : AV → Mem → Prop} (h : Does P f args [] [] post) {w : World} {vs : Array Value} (hlen : args.length = vs.size) (hv : ∀ (i : Nat) x, args[i]? = some x → VRel w (OwnBy (fun _ => False) fun _ => none) (fun _ => none) x (vs.getD i undef)) :
    Calls P f vs w fun e w' => ∃ v r m ρ', e = .returned v ∧ post r m ∧ MemOK (fun _ => False) m ρ' w' ∧ VRel w' (OwnBy (fun _ => False) ρ') ρ' r v ∧ After w w' (fun _ => none) ρ' [] :=
  h.2 (fun _ => False) (fun _ => none) w vs ⟨fun b blk hl => (by simp [look] at hl), fun _ _ _ h => (by cases h), fun _ _ _ h => (by cases h), fun _ _ _ _ _ h => (by cases h), fun _ _ _ h => (by cases h), fun _ h => h.elim⟩ hlen hv

/-- A row of the call's own, handed back, as a tree. -/
theorem own_tree {A : Nat → Prop} {m : Mem} {ρ' : Map} {w' : World} {b ty sz n : Nat} {es : List (List AV)} {v : Value} (hs : 0 < sz) (hM : MemOK A m ρ' w') (hb : look m b = some (.arr ty sz es)) (hv : VRel w' (OwnBy A ρ') ρ' (.own b sz 0 n) v) (hn : n = es.length) : TRel w' (OwnBy A fun _ => none) (.ro sz es) v := by
  subst hn
  rcases hv.own_inv with ⟨rfl, _, h0⟩ | ⟨ad, rfl, h0, _⟩ | ⟨k, o, cap, hρ, rfl, hcap, hroom⟩
  · rw [List.eq_nil_of_length_eq_zero h0]; exact .ronil
  · rw [List.eq_nil_of_length_eq_zero h0]; exact .ronil
  · have hB := hM.mem b _ hb
    simp only [BRel, hρ] at hB
    obtain ⟨cur, hh, hlen, hsz, hcell⟩ := hB
    refine TRel.row ⟨hs, hlen, ?_, fun i j x hx => ?_⟩ hcap
    · rintro (hO | ⟨_, _, hO⟩)
      · exact hM.far _ _ _ hρ hO
      · cases hO
    · obtain ⟨u, hu, h1, ht⟩ := hcell i j x hx
      refine ⟨u, ?_, h1, ht.sub (fun k hk => by rcases hk with hk | ⟨_, _, hk⟩; exact .inl hk; cases hk)⟩
      rw [add_none]
      simp only [World.cell?, hh]
      rw [if_neg (by simp), ← hu]
      congr 1; omega

theorem nils_tree {w : World} {Own Own' : Nat → Prop} {ρ : Map} {s sz : Nat} {v : Value} (h : VRel w Own ρ (.nils s) v) : TRel w Own' (.ro sz []) v := by
  cases h with
  | tree h => cases h; exact .ronil

/-- What is answered, told as a tree. -/
theorem Does.tree {P : Program} {f : FuncId} {args : List AV} {post : AV → Mem → Prop} (h : Does P f args [] [] post) (r' : AV) (hp : ∀ r m, post r m → ∀ A ρ' w' v, MemOK A m ρ' w' → VRel w' (OwnBy A ρ') ρ' r v → VRel w' (OwnBy A fun _ => none) (fun _ => none) r' v) : Does P f args [] [] (fun r m => m = [] ∧ r = r') := by
  refine ⟨h.1, fun A ρ w vs hM hlen hv => (h.2 A ρ w vs hM hlen hv).mono ?_⟩
  rintro e w' ⟨v, r, m, ρ', rfl, hpost, hM', hv', hA⟩
  have hρ : ∀ b, ρ b = none := fun b => by
    cases e : ρ b with
    | none => rfl
    | some p => obtain ⟨k, o⟩ := p; obtain ⟨blk, hl⟩ := hM.dom b k o e; simp [look] at hl
  exact ⟨v, r', [], fun _ => none, rfl, ⟨rfl, rfl⟩, ⟨fun b blk hl => (by simp [look] at hl), fun _ _ _ h => (by cases h), fun _ _ _ h => (by cases h), fun _ _ _ _ _ h => (by cases h), fun _ _ _ h => (by cases h), hM'.alt⟩, hp r m hpost A ρ' w' v hM' hv',
    { os := hA.os, tape := hA.tape, output := hA.output, size := hA.size, frame := hA.frame, mine := fun _ _ _ h => (by cases h), fix := fun b hb => (by simp at hb), rows := hA.rows }⟩

theorem srcs_no {g : Src → Option AV} {xs : List Src} {args : List AV} (h : srcsOf g xs = some args) : (srcsOf g xs).map (· ++ ([] : List AV)) = some args := by rw [h]; simp

section
variable {P : Program} {nt : Nat} {c : Ctx} {st : St}
/-- A call that takes trees and answers one. -/
theorem runL_tree {f : FuncId} {xs : List Src} {d : Option Nat} {args : List AV} {v : AV} {k : St → Prop} {r : List It} (hx : srcsOf st.src xs = some args) (hD : Does P f args [] [] (fun r m => m = [] ∧ r = v)) (hr : refsInL (fun _ => False) args) (hstd : c.A = c.B)
    (hk : runL P c nt r ((callSt st [] [] []).put? d v) k) : runL P c nt (⟨d, none, .callv (.c (.fn f [])) xs⟩ :: r) st k :=
by
  have hkk : keepS [] st.mem = ([] : Mem) := by simp [keepS]
  refine runL_call (post := fun r m => m = [] ∧ r = v) [] [] rfl (srcs_no hx) (by rw [hkk]; exact hD) (refs_impL (fun _ h => h.elim) _ hr) (fun b hb => by simp at hb) (fun b _ hb => by simp at hb) hstd (fun rv m hp => ?_)
  obtain ⟨hm, he⟩ := hp
  subst hm; subst he
  exact ⟨fun p hp => by simp at hp, hk⟩

theorem runP_tree {X : List Nat} {i : Nat} {p : Plan} {f : FuncId} {xs : List Src} {d : Option Nat} {args : List AV} {v : AV} {k : St → Prop} (hx : srcsOf st.src xs = some args) (hD : Does P f args [] [] (fun r m => m = [] ∧ r = v)) (hr : refsInL (fun _ => False) args) (hn : noTree v = true)
    (hk : runP P c nt X p (st.put? d v) k) : runP P c nt X (.alt i ⟨d, none, .callv (.c (.fn f [])) xs⟩ p .done) st k :=
  ⟨callK_view (stF := { st with fixed := [] }) (St.le_refl _) rfl (srcs_no (show srcsOf st.src xs = some args from hx)) hD hr (fun rv m ⟨hm, he⟩ => by subst hm; subst he; exact ⟨rfl, hn, hk⟩), trivial⟩

theorem runP_do {X : List Nat} {i : Nat} {p : Plan} {d : Option Nat} {ao : AOp} {k : St → Prop} {s : Nat} {want : Bool} (hb : look st.slots s = some (.lit (.bool want))) (h : runP P c nt X (.alt i ⟨d, none, ao⟩ p .done) st k) : runP P c nt X (.alt i ⟨d, some (s, want), ao⟩ p .done) st k :=
  ⟨⟨want, hb, fun _ => h.1, fun hne => absurd rfl hne⟩, trivial⟩
theorem runP_skip {X : List Nat} {i : Nat} {p : Plan} {d : Option Nat} {ao : AOp} {k : St → Prop} {s : Nat} {b want : Bool} (hb : look st.slots s = some (.lit (.bool b))) (hne : b ≠ want) (h : runP P c nt X p (st.put? d (.tup [])) k) : runP P c nt X (.alt i ⟨d, some (s, want), ao⟩ p .done) st k :=
  ⟨⟨b, hb, fun he => absurd he hne, fun _ => h⟩, trivial⟩
/-- One operation of a plan. -/
theorem runP_step {X : List Nat} {i : Nat} {it : It} {p : Plan} {st' : St} {k : St → Prop} (hq : quiet X st it.ao = true) (h : stepI it st = some st') (hk : runP P c nt X p st' k) : runP P c nt X (.take i it p) st k := runQ_of_step hq h hk
end

theorem After.below {w w' : World} {ρ' : Map} {fx : List Nat} (h : After w w' (fun _ => none) ρ' fx) : Below w.heap.size w w' :=
  ⟨h.os, h.tape, h.output, h.size, fun k hk => h.frame k hk (fun _ _ h => by cases h)⟩

end Go.SX
