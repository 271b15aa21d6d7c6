/- SX, part P: regions whose ends are told, rows that are nil yet, pairs of numbers, rows of rows. -/
import Derived.Test.YtifpfpiljionmaaDoorSxO
import Derived.Test.YtifpfpiljionmaaDoorSxN
set_option linter.unusedVariables false
set_option linter.unusedSimpArgs false
namespace Go.SX
open Go Go.RowKit
section
variable {P : Program} {nt : Nat} {c : Ctx} {st : St} {Q : Exit → St → Prop}

/-- A region without a call, its end told. -/
theorem J.regJ {its : List It} {ks : List Nat} (S : St) (h : ∃ st', evalL its st = some ([], st') ∧ st'.keep ks = S) (hk : Q .normal S) : J P nt c (.reg its ks) st Q := by
  obtain ⟨st', h1, rfl⟩ := h
  exact J.regE h1 hk
theorem J.drawJ {X ks : List Nat} {p : Plan} (S : St) (h : ∃ st', evalP X p st = some (.done, st') ∧ st'.keep ks = S) (hk : Q .normal S) : J P nt c (.draw X p ks) st Q := by
  obtain ⟨st', h1, rfl⟩ := h
  exact J.drawE h1 hk

/-- A slot that is nil is told as a row of one's own. -/
theorem le_nilrow {st : St} (d b ty : Nat) {sz : Nat} (hd : look st.slots d = some (.nils sz)) (hb : look st.mem b = none) (hf : st.fixed.contains b = false) : st.le ⟨upd st.slots d (.own b sz 0 0), upd st.mem b (.arr ty sz []), st.fixed⟩ := by
  refine St.le_trans (le_virt ty sz hb hf) (le_tell (fun d' x hx => ?_) (fun b' => .inl rfl) rfl)
  simp only [look_upd] at hx
  by_cases e : d' = d
  · subst e
    rw [if_pos rfl] at hx; injection hx with hx
    exact ⟨_, hd, .inr ⟨_, _, rfl, hx.symm⟩⟩
  · rw [if_neg e] at hx; exact ⟨x, hx, .inl rfl⟩

theorem J.nilrow {ac : AC} (hstd : c.A = c.B) (d b ty : Nat) {sz : Nat} (hd : look st.slots d = some (.nils sz)) (hb : look st.mem b = none) (hf : st.fixed.contains b = false) (h : J P nt c ac ⟨upd st.slots d (.own b sz 0 0), upd st.mem b (.arr ty sz []), st.fixed⟩ Q) : J P nt c ac st Q :=
  J.le hstd (le_nilrow d b ty hd hb hf) h
/-- A row of one's own is told as a tree. -/
theorem J.freeze {ac : AC} (hstd : c.A = c.B) (b : Nat) (hf : st.fixed.contains b = false) (h : J P nt c ac (st.freeze b) Q) : J P nt c ac st Q := J.le hstd (le_freeze st b hf) h
end

/-- A world that only drew. -/
theorem after_drawn {w w' : World} {ρ : Map} {A : Nat → Prop} (h : Below w.heap.size w w') (hM : MemOK A [] ρ w) (hrows : ∀ k cur ty fr, k < w.heap.size → w'.heap[k]? = some (.cells cur ty fr) → ∃ cur0 ty0 fr0, w.heap[k]? = some (.cells cur0 ty0 fr0) ∧ cur0.size = cur.size) :
    MemOK A [] ρ w' ∧ After w w' ρ ρ [] := by
  have hρ : ∀ b, ρ b = none := fun b => by
    cases e : ρ b with
    | none => rfl
    | some p => obtain ⟨k, o⟩ := p; obtain ⟨blk, hl⟩ := hM.dom b k o e; simp [look] at hl
  refine ⟨{ mem := fun b blk hl => (by simp [look] at hl), dom := hM.dom, lt := fun b k o h => (by rw [hρ] at h; cases h), inj := hM.inj, far := hM.far, alt := fun k hk => Nat.lt_of_lt_of_le (hM.alt k hk) h.size }, { os := h.os, tape := h.tape, output := h.output, size := h.size, frame := fun k hk _ => h.block k hk, mine := fun b k o h => (by rw [hρ] at h; cases h), fix := fun b hb => (by simp at hb), rows := hrows }⟩

/-- A contract of the print's, as ours: what it answers is told as trees. -/
theorem Does.of_ret {P : Program} {f : FuncId} {args : List AV} {r : AV} (hfn : fnOK P f = true)
    (h : ∀ (w : World) (Own : Nat → Prop) (vs : Array Value), args.length = vs.size → (∀ (i : Nat) x, args[i]? = some x → VRel w Own (fun _ => none) x (vs.getD i undef)) → Calls P f vs w fun e w' => ∃ v, e = .returned v ∧ Below w.heap.size w w' ∧ ∀ Own', (∀ k, Own' k → k < w.heap.size) → VRel w' Own' (fun _ => none) r v) : Does P f args [] [] (fun r' m => m = [] ∧ r' = r) := by
  refine ⟨hfn, fun A ρ w vs ht1 ht2 hM hlen hv => ?_⟩
  have hρ : ρ = fun _ => none := by
    funext b
    cases e : ρ b with
    | none => rfl
    | some p => obtain ⟨k, o⟩ := p; obtain ⟨blk, hl⟩ := hM.dom b k o e; simp [look] at hl
  subst hρ
  refine (h w _ vs hlen hv).mono ?_
  rintro e w' ⟨v, rfl, hb, hr⟩
  obtain ⟨h1, h2⟩ := after_drawn hb hM (fun k cur ty fr hk hh => by rw [hb.block k hk] at hh; exact ⟨cur, ty, fr, hh, rfl⟩)
  exact ⟨v, r, [], _, rfl, ⟨rfl, rfl⟩, h1, hr _ (fun k hk => by rcases hk with hk | ⟨_, _, hk⟩; exact hM.alt k hk; cases hk), h2⟩

theorem Does.of_plain {P : Program} {f : FuncId} {args : List AV} {r : AV} {v : Value} (hfn : fnOK P f = true) (hr : ∀ w Own ρ, VRel w Own ρ r v)
    (h : ∀ (w : World) (Own : Nat → Prop) (vs : Array Value), args.length = vs.size → (∀ (i : Nat) x, args[i]? = some x → VRel w Own (fun _ => none) x (vs.getD i undef)) → Calls P f vs w fun e w' => e = .returned v ∧ Below w.heap.size w w') : Does P f args [] [] (fun r' m => m = [] ∧ r' = r) :=
  Does.of_ret hfn (fun w Own vs h1 h2 => (h w Own vs h1 h2).mono fun _ _ ⟨he, hb⟩ => ⟨v, he, hb, fun _ _ => hr _ _ _⟩)

/-- Ours, called from without: nothing is handed over. -/
theorem Does.calls {P : Program} {f : FuncId} {args : List AV} {post : AV → Mem → Prop} (h : Does P f args [] [] post) {w : World} {vs : Array Value} (ht : theTab.p w) (hlen : args.length = vs.size) (hv : ∀ (i : Nat) x, args[i]? = some x → VRel w (OwnBy (fun _ => False) fun _ => none) (fun _ => none) x (vs.getD i undef)) :
    Calls P f vs w fun e w' => ∃ v r m ρ', e = .returned v ∧ post r m ∧ MemOK (fun _ => False) m ρ' w' ∧ VRel w' (OwnBy (fun _ => False) ρ') ρ' r v ∧ After w w' (fun _ => none) ρ' [] :=
  h.2 (fun _ => False) (fun _ => none) w vs ht (fun _ _ _ _ h => by cases h) ⟨fun b blk hl => (by simp [look] at hl), fun _ _ _ h => (by cases h), fun _ _ _ h => (by cases h), fun _ _ _ _ _ h => (by cases h), fun _ _ _ h => (by cases h), fun _ h => h.elim⟩ hlen hv

/-- A row of the call's own, handed back, as a tree. -/
theorem own_tree {A : Nat → Prop} {m : Mem} {ρ' : Map} {w' : World} {b ty sz n : Nat} {es : List (List AV)} {v : Value} (hs : 0 < sz) (hM : MemOK A m ρ' w') (hb : look m b = some (.arr ty sz es)) (hv : VRel w' (OwnBy A ρ') ρ' (.own b sz 0 n) v) (hn : n = es.length) : TRel w' (OwnBy A fun _ => none) (.ro sz es) v := by
  subst hn
  rcases hv.own_inv with ⟨rfl, _, h0⟩ | ⟨ad, rfl, h0, _⟩ | ⟨k, o, cap, hρ, rfl, hcap, hroom⟩
  · rw [List.eq_nil_of_length_eq_zero h0]; exact .ronil
  · rw [List.eq_nil_of_length_eq_zero h0]; exact .ronil
  · have hB := hM.mem b _ hb
    simp only [BRel, hρ] at hB
    obtain ⟨cur, hh, hlen, hsz, hcell⟩ := hB
    refine TRel.row ⟨hs, hlen, ?_, fun i j x hx => ?_⟩ hcap
    · rintro (hO | ⟨_, _, hO⟩)
      · exact hM.far _ _ _ hρ hO
      · cases hO
    · obtain ⟨u, hu, h1, ht⟩ := hcell i j x hx
      refine ⟨u, ?_, h1, ht.sub (fun k hk => by rcases hk with hk | ⟨_, _, hk⟩; exact .inl hk; cases hk)⟩
      rw [add_none]
      simp only [World.cell?, hh]
      rw [if_neg (by simp), ← hu]
      congr 1; omega

theorem nils_tree {w : World} {Own Own' : Nat → Prop} {ρ : Map} {s sz : Nat} {v : Value} (h : VRel w Own ρ (.nils s) v) : TRel w Own' (.ro sz []) v := by
  cases h with
  | tree h => cases h; exact .ronil

/-- What is answered, told as a tree. -/
theorem Does.tree {P : Program} {f : FuncId} {args : List AV} {post : AV → Mem → Prop} (h : Does P f args [] [] post) (r' : AV) (hp : ∀ r m, post r m → ∀ A ρ' w' v, MemOK A m ρ' w' → VRel w' (OwnBy A ρ') ρ' r v → VRel w' (OwnBy A fun _ => none) (fun _ => none) r' v) : Does P f args [] [] (fun r m => m = [] ∧ r = r') := by
  refine ⟨h.1, fun A ρ w vs ht1 ht2 hM hlen hv => (h.2 A ρ w vs ht1 ht2 hM hlen hv).mono ?_⟩
  rintro e w' ⟨v, r, m, ρ', rfl, hpost, hM', hv', hA⟩
  have hρ : ∀ b, ρ b = none := fun b => by
    cases e : ρ b with
    | none => rfl
    | some p => obtain ⟨k, o⟩ := p; obtain ⟨blk, hl⟩ := hM.dom b k o e; simp [look] at hl
  exact ⟨v, r', [], fun _ => none, rfl, ⟨rfl, rfl⟩, ⟨fun b blk hl => (by simp [look] at hl), fun _ _ _ h => (by cases h), fun _ _ _ h => (by cases h), fun _ _ _ _ _ h => (by cases h), fun _ _ _ h => (by cases h), hM'.alt⟩, hp r m hpost A ρ' w' v hM' hv',
    { os := hA.os, tape := hA.tape, output := hA.output, size := hA.size, frame := hA.frame, mine := fun _ _ _ h => (by cases h), fix := fun b hb => (by simp at hb), rows := hA.rows }⟩

theorem srcs_no {g : Src → Option AV} {xs : List Src} {args : List AV} (h : srcsOf g xs = some args) : (srcsOf g xs).map (· ++ ([] : List AV)) = some args := by rw [h]; simp

section
variable {P : Program} {nt : Nat} {c : Ctx} {st : St}
/-- A call that takes trees and answers one. -/
theorem runL_tree {f : FuncId} {xs : List Src} {d : Option Nat} {args : List AV} {v : AV} {k : St → Prop} {r : List It} (hx : srcsOf st.src xs = some args) (hD : Does P f args [] [] (fun r m => m = [] ∧ r = v)) (hr : refsInL (fun _ => False) args) (hstd : c.A = c.B)
    (hk : runL P c nt r ((callSt st [] [] []).put? d v) k) : runL P c nt (⟨d, none, .callv (.c (.fn f [])) xs⟩ :: r) st k :=
by
  have hkk : keepS [] st.mem = ([] : Mem) := by simp [keepS]
  refine runL_call (post := fun r m => m = [] ∧ r = v) [] [] rfl (srcs_no hx) (by rw [hkk]; exact hD) (refs_impL (fun _ h => h.elim) _ hr) (fun b hb => by simp at hb) (fun b _ hb => by simp at hb) hstd (fun rv m hp => ?_)
  obtain ⟨hm, he⟩ := hp
  subst hm; subst he
  exact ⟨fun p hp => by simp at hp, hk⟩

theorem runP_tree {X : List Nat} {i : Nat} {p : Plan} {f : FuncId} {xs : List Src} {d : Option Nat} {args : List AV} {v : AV} {k : St → Prop} (hx : srcsOf st.src xs = some args) (hD : Does P f args [] [] (fun r m => m = [] ∧ r = v)) (hr : refsInL (fun _ => False) args) (hn : noTree v = true)
    (hk : runP P c nt X p (st.put? d v) k) : runP P c nt X (.alt i ⟨d, none, .callv (.c (.fn f [])) xs⟩ p .done) st k :=
  ⟨callK_view (stF := { st with fixed := [] }) (St.le_refl _) rfl (srcs_no (show srcsOf st.src xs = some args from hx)) hD hr (fun rv m ⟨hm, he⟩ => by subst hm; subst he; exact ⟨rfl, hn, hk⟩), trivial⟩

theorem runP_do {X : List Nat} {i : Nat} {p : Plan} {d : Option Nat} {ao : AOp} {k : St → Prop} {s : Nat} {want : Bool} (hb : look st.slots s = some (.lit (.bool want))) (h : runP P c nt X (.alt i ⟨d, none, ao⟩ p .done) st k) : runP P c nt X (.alt i ⟨d, some (s, want), ao⟩ p .done) st k :=
  ⟨⟨some want, by simp [gval, hb], fun _ => h.1, fun hne => absurd rfl hne⟩, trivial⟩
theorem runP_skip {X : List Nat} {i : Nat} {p : Plan} {d : Option Nat} {ao : AOp} {k : St → Prop} {s : Nat} {b want : Bool} (hb : look st.slots s = some (.lit (.bool b))) (hne : b ≠ want) (h : runP P c nt X p (st.put? d (.tup [])) k) : runP P c nt X (.alt i ⟨d, some (s, want), ao⟩ p .done) st k :=
  ⟨⟨some b, by simp [gval, hb], fun he => absurd (by simpa using he) hne, fun _ => h⟩, trivial⟩
/-- One operation of a plan. -/
theorem runP_step {X : List Nat} {i : Nat} {it : It} {p : Plan} {st' : St} {k : St → Prop} (hq : quiet X st it.ao = true) (h : stepI it st = some st') (hk : runP P c nt X p st' k) : runP P c nt X (.take i it p) st k := runQ_of_step hq h hk
end

theorem After.below {w w' : World} {ρ' : Map} {fx : List Nat} (h : After w w' (fun _ => none) ρ' fx) : Below w.heap.size w w' :=
  ⟨h.os, h.tape, h.output, h.size, fun k hk => h.frame k hk (fun _ _ h => by cases h)⟩


theorem killL_fam {base sz q n : Nat} {f : Nat → Nat} (hq : q < n) : killL (base + q) (famCells base sz f n) = (famCells base sz f n).set q .dead := by
  apply List.ext_getElem?
  intro i
  rw [killL_get]
  by_cases hi : i < n
  · rw [famCells_get hi]
    by_cases e : i = q
    · subst e; simp [hi]
    · simp [List.getElem?_set_ne (Ne.symm e), famCells_get hi, e]
  · rw [List.getElem?_eq_none (by simpa using hi), List.getElem?_eq_none (by simpa using hi)]; rfl
theorem killL_fam_ne {base sz b n : Nat} {f : Nat → Nat} (hb : b < base) : killL b (famCells base sz f n) = famCells base sz f n := by
  apply List.ext_getElem?
  intro i
  rw [killL_get]
  by_cases hi : i < n
  · rw [famCells_get hi]; simp; omega
  · rw [List.getElem?_eq_none (by simpa using hi)]; rfl
theorem famCells_put {base sz q n v : Nat} {len len' : Nat → Nat} (hq : q < n) (h : ∀ c, len' c = if c = q then v else len c) : List.take q ((famCells base sz len n).set q AV.dead) ++ AV.own (base + q) sz 0 v :: List.drop (q + 1) ((famCells base sz len n).set q AV.dead) = famCells base sz len' n := by
  rw [List.take_set, List.drop_set_of_lt (by omega), List.set_eq_of_length_le (by simp; omega)]
  apply List.ext_getElem?
  intro i
  rcases Nat.lt_trichotomy i q with h1 | h1 | h1
  · rw [List.getElem?_append_left (by simp; omega), List.getElem?_take_of_lt h1, famCells_get (by omega), famCells_get (by omega)]
    simp [h, Nat.ne_of_lt h1]
  · subst h1
    rw [List.getElem?_append_right (by simp; omega), famCells_get hq]
    simp [h, show min i n = i from by omega]
  · rw [List.getElem?_append_right (by simp; omega)]
    have h2 : i - (List.take q (famCells base sz len n)).length = (i - q - 1) + 1 := by simp; omega
    rw [h2, List.getElem?_cons_succ, List.getElem?_drop, show q + 1 + (i - q - 1) = i from by omega]
    by_cases h3 : i < n
    · rw [famCells_get h3, famCells_get h3]; simp [h, show ¬ i = q from by omega]
    · rw [List.getElem?_eq_none (by simp; omega), List.getElem?_eq_none (by simp; omega)]
theorem famCells_one {base sz q n : Nat} {len : Nat → Nat} (hq : q < n) : ((famCells base sz len n).drop q).take 1 = [.own (base + q) sz 0 (len q)] := by
  rw [List.drop_eq_getElem_cons (by simpa using hq)]
  simp [famCells]
theorem look_killB (l : Mem) (b d : Nat) : look (l.map fun p => (p.1, killB b p.2)) d = (look l d).map (killB b) := look_mapv _ _ _
theorem upd_app {α : Type} : ∀ {l r : List (Nat × α)} {d : Nat} {x : α}, look l d = none → upd (l ++ r) d x = l ++ upd r d x
  | [], _, _, _, _ => rfl
  | (k, v) :: q, r, d, x, h => by
    simp only [look] at h
    split at h
    · cases h
    · rename_i e
      show upd ((k, v) :: (q ++ r)) d x = (k, v) :: (q ++ upd r d x)
      simp only [upd]
      rw [if_neg e, upd_app h]
theorem drop_app {α : Type} : ∀ {l r : List (Nat × α)} {d : Nat}, look l d = none → drop (l ++ r) d = l ++ drop r d
  | [], _, _, _ => rfl
  | (k, v) :: q, r, d, h => by
    simp only [look] at h
    split at h
    · cases h
    · rename_i e
      show drop ((k, v) :: (q ++ r)) d = (k, v) :: (q ++ drop r d)
      simp only [drop]
      rw [if_neg e, drop_app h]
section
variable {base ty sz n d : Nat} {f : Nat → List (List AV)} {r : Mem}
@[simp] theorem look_famA (h : d < base) : look (fam base ty sz f n ++ r) d = look r d := by rw [look_append, look_fam_lt h]
@[simp] theorem upd_famA {x : Blk} (h : d < base) : upd (fam base ty sz f n ++ r) d x = fam base ty sz f n ++ upd r d x := upd_app (look_fam_lt h)
@[simp] theorem drop_famA (h : d < base) : drop (fam base ty sz f n ++ r) d = fam base ty sz f n ++ drop r d := drop_app (look_fam_lt h)
@[simp] theorem map_killB_fam {b : Nat} : ((fam base ty sz f n).map fun p => (p.1, killB b p.2)) = fam base ty sz f n := by
  simp [fam]
theorem look_famA_at {c : Nat} (h : c < n) : look (fam base ty sz f n ++ r) (base + c) = some (.arr ty sz (f c)) := by rw [look_append, look_fam h]
end
theorem evalL_step {it : It} {r : List It} {st st1 : St} {x : List It × St} (hc : isCall it.ao = false) (h : stepI it st = some st1) (h2 : evalL r st1 = some x) : evalL (it :: r) st = some x := by
  simp only [evalL, hc, h]; simpa using h2
theorem evalP_step {X : List Nat} {i : Nat} {it : It} {p : Plan} {st st1 : St} {x : Plan × St} (hq : quiet X st it.ao = true) (h : stepI it st = some st1) (h2 : evalP X p st1 = some x) : evalP X (.take i it p) st = some x := by
  simp only [evalP, hq, h]; simpa using h2
/-- One operation of a plan, wanted or not. -/
def stepQ (X : List Nat) (it : It) (st : St) : Option St := match it.g with
  | none => if quiet X st it.ao = true then exec it.d it.ao st else none
  | some (s, want) => match gval st s with
    | some b => if b = some want then (if quiet X st it.ao = true then exec it.d it.ao st else none) else some (st.put? it.d (.tup []))
    | none => none
attribute [simp] stepQ
theorem runP_stepQ {P : Program} {nt : Nat} {c : Ctx} {st : St} {X : List Nat} {i : Nat} {it : It} {p : Plan} {st' : St} {k : St → Prop} (h : stepQ X it st = some st') (hk : runP P c nt X p st' k) : runP P c nt X (.take i it p) st k := by
  show runQ X it st _
  obtain ⟨d, g, ao⟩ := it
  cases g with
  | none =>
    simp only [stepQ] at h
    split at h
    · rename_i hq; exact ⟨hq, _, h, hk⟩
    · cases h
  | some g =>
    obtain ⟨s, want⟩ := g
    simp only [stepQ] at h
    split at h
    · rename_i b hb
      refine ⟨b, hb, fun e => ?_, fun e => ?_⟩
      · rw [if_pos e] at h
        split at h
        · rename_i hq; exact ⟨hq, _, h, hk⟩
        · cases h
      · rw [if_neg e] at h
        injection h with h; show runP P c nt X p (st.put? d (.tup [])) k; rw [h]; exact hk
    · cases h
/-- An operation of a plan that is not wanted. -/
theorem runP_pass {P : Program} {nt : Nat} {c : Ctx} {st : St} {X : List Nat} {i : Nat} {p : Plan} {d : Option Nat} {ao : AOp} {k : St → Prop} {s : Nat} {b : Option Bool} {want : Bool} (hb : gval st s = some b) (hne : b ≠ some want) (h : runP P c nt X p (st.put? d (.tup [])) k) : runP P c nt X (.take i ⟨d, some (s, want), ao⟩ p) st k :=
  ⟨b, hb, fun he => absurd he hne, fun _ => h⟩
theorem runL_pass {P : Program} {nt : Nat} {c : Ctx} {st : St} {r : List It} {d : Option Nat} {ao : AOp} {k : St → Prop} {s : Nat} {b : Option Bool} {want : Bool} (hb : gval st s = some b) (hne : b ≠ some want) (h : runL P c nt r (st.put? d (.tup [])) k) : runL P c nt (⟨d, some (s, want), ao⟩ :: r) st k :=
  ⟨b, hb, fun he => absurd he hne, fun _ => h⟩
/-- Ahead of a call, told otherwise. -/
theorem runL_le {P : Program} {nt : Nat} {c : Ctx} {st st' : St} {fs : Src} {xs : List Src} {d : Option Nat} {r : List It} {k : St → Prop} (hstd : c.A = c.B) (hle : St.le st st') (h : runL P c nt (⟨d, none, .callv fs xs⟩ :: r) st' k) : runL P c nt (⟨d, none, .callv fs xs⟩ :: r) st k := by
  intro o ρ a w hc hs hch hd hlt
  obtain ⟨ρ', hc', hsub⟩ := hle c ρ a w hstd hc
  obtain ⟨f, vs, hrun, hcalls⟩ := h o ρ' a w hc' hs hch hd hlt
  refine ⟨f, vs, hrun, hcalls.mono ?_⟩
  rintro e w' ⟨v, st2, ρ2, he, hk, hc2, hf, hm, hsz⟩
  refine ⟨v, st2, ρ2, he, hk, hc2, fun q hq hno => hf q hq (fun b o' hX hb => hno b o' hX (hsub _ _ _ hb)), fun b q o' hb => ?_, hsz⟩
  rcases hm b q o' hb with h1 | ⟨hX, h1⟩
  · exact .inl (hsub _ _ _ h1)
  · refine .inr ⟨hX, h1.imp id ?_⟩
    rintro ⟨b0, hX0, o2, h2⟩
    exact ⟨b0, hX0, o2, hsub _ _ _ h2⟩
theorem runL_freeze {P : Program} {nt : Nat} {c : Ctx} {st : St} {fs : Src} {xs : List Src} {d : Option Nat} {r : List It} {k : St → Prop} (hstd : c.A = c.B) (b : Nat) (hf : st.fixed.contains b = false) (h : runL P c nt (⟨d, none, .callv fs xs⟩ :: r) (st.freeze b) k) : runL P c nt (⟨d, none, .callv fs xs⟩ :: r) st k := runL_le hstd (le_freeze st b hf) h
theorem runP_one {P : Program} {nt : Nat} {c : Ctx} {st : St} {X : List Nat} {i : Nat} {it : It} {p : Plan} {st1 : St} {k : St → Prop} (hc : isCall it.ao = false) (hw : wrOK X st it.ao = true) (h : stepI it st = some st1) (h1 : runP P c nt X p st1 k) : runP P c nt X (.alt i it p .done) st k := runP_alt hc hw h h1 (.inl rfl)
theorem b2 (a b : Bool) : a = false ∨ (a = true ∧ b = false) ∨ (a = true ∧ b = true) := by cases a <;> cases b <;> simp
theorem b3 (a b c : Bool) : a = false ∨ (a = true ∧ b = false) ∨ (a = true ∧ b = true ∧ c = false) ∨ (a = true ∧ b = true ∧ c = true) := by cases a <;> cases b <;> cases c <;> simp

attribute [simp] St.freeze frz frzL frzB

def eds (l : List (Int × Int)) : List (List AV) := l.map fun e => [iv e.1, iv e.2]
def rws (l : List (List Nat)) : List (List AV) := l.map fun r => [.ro 1 (nats r)]
def bws (l : List (List Bool)) : List (List AV) := l.map fun r => [.ro 1 (bools r)]
section
variable (l m : List (Int × Int)) (i : Nat)
@[simp] theorem eds_length : (eds l).length = l.length := by simp [eds]
@[simp] theorem eds_getElem (h : i < (eds l).length) : (eds l)[i] = [iv (l[i]'(by simpa using h)).1, iv (l[i]'(by simpa using h)).2] := by simp [eds]
@[simp] theorem eds_append : eds l ++ eds m = eds (l ++ m) := by simp [eds]
@[simp] theorem eds_snoc (a b : Int) : eds l ++ [[iv a, iv b]] = eds (l ++ [(a, b)]) := by simp [eds]
@[simp] theorem eds_take : (eds l).take i = eds (l.take i) := by simp [eds, List.map_take]
@[simp] theorem eds_drop : (eds l).drop i = eds (l.drop i) := by simp [eds, List.map_drop]
@[simp] theorem eds_nil : eds [] = [] := rfl
end
section
variable (l m : List (List Nat)) (i : Nat)
@[simp] theorem rws_length : (rws l).length = l.length := by simp [rws]
@[simp] theorem rws_getElem (h : i < (rws l).length) : (rws l)[i] = [.ro 1 (nats (l[i]'(by simpa using h)))] := by simp [rws]
@[simp] theorem rws_append : rws l ++ rws m = rws (l ++ m) := by simp [rws]
@[simp] theorem rws_snoc (x : List Nat) : rws l ++ [[.ro 1 (nats x)]] = rws (l ++ [x]) := by simp [rws]
@[simp] theorem rws_take : (rws l).take i = rws (l.take i) := by simp [rws, List.map_take]
@[simp] theorem rws_nil : rws [] = [] := rfl
end
section
variable (l m : List (List Bool)) (i : Nat)
@[simp] theorem bws_length : (bws l).length = l.length := by simp [bws]
@[simp] theorem bws_getElem (h : i < (bws l).length) : (bws l)[i] = [.ro 1 (bools (l[i]'(by simpa using h)))] := by simp [bws]
@[simp] theorem bws_snoc (x : List Bool) : bws l ++ [[.ro 1 (bools x)]] = bws (l ++ [x]) := by simp [bws]
@[simp] theorem bws_take : (bws l).take i = bws (l.take i) := by simp [bws, List.map_take]
@[simp] theorem bws_nil : bws [] = [] := rfl
end
section
variable (l m : List Bool) (i : Nat)
@[simp] theorem bools_take : (bools l).take i = bools (l.take i) := by simp [bools, List.map_take]
@[simp] theorem bools_drop : (bools l).drop i = bools (l.drop i) := by simp [bools, List.map_drop]
@[simp] theorem bools_append : bools l ++ bools m = bools (l ++ m) := by simp [bools]
@[simp] theorem bools_snoc (x : Bool) : bools l ++ [[bv x]] = bools (l ++ [x]) := by simp [bools]
theorem bools_zero : List.replicate i [bv false] = bools (List.replicate i false) := by simp [bools]
end
end Go.SX
