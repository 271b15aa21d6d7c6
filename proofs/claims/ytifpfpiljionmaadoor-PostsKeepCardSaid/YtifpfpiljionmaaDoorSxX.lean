/- SX, part X: shorthands for walks; blocks that are to stay where they are. -/
import Derived.Test.YtifpfpiljionmaaDoorSxV
import Derived.Test.YtifpfpiljionmaaDoorSxRx
set_option linter.unusedVariables false
set_option linter.unusedSimpArgs false
namespace Go.SX
open Go
section
variable {P : Program} {c : Ctx} {nt : Nat} {st : St} {Q : Exit → St → Prop}
theorem J.condB {t : Nat} {x y : AC} {b : Bool} (hb : look st.slots t = some (.lit (.bool b))) (h1 : b = true → J P nt c x st Q) (h2 : b = false → J P nt c y st Q) : J P nt c (.cond (.s t) x y) st Q :=
  J.cond ⟨b, hb, h1, h2⟩

theorem Conc.pin {st : St} {ρ : Map} {a : Act} {w : World} (h : Conc c st ρ a w) (ρ1 : Map) (fx : List Nat) (hf : ∀ b ∈ fx, ρ b = ρ1 b) : Conc { c with ρ0 := ρ1 } ⟨st.slots, st.mem, fx⟩ ρ a w :=
  { slots := h.slots, defers := h.defers, mem := h.mem, dom := h.dom, lt := h.lt, inj := h.inj, mine := h.mine, far := h.far, fix := hf, alt := h.alt, os := h.os, tape := h.tape, output := h.output, size := h.size, frame := h.frame, rows := h.rows }

/-- These blocks are to stay where they are from here on. -/
theorem JH.pin {E : Ex} {Q : Exit → St → Ex → Prop} {ac : AC} (fx : List Nat) (hsub : ∀ b ∈ st.fixed, b ∈ fx)
    (h : ∀ c' : Ctx, c'.w0 = c.w0 → c'.A = c.A → c'.B = c.B → JH P nt c' ac ⟨st.slots, st.mem, fx⟩ E (fun e s E' => s.fixed = fx ∧ Q e ⟨s.slots, s.mem, st.fixed⟩ E')) : JH P nt c ac st E Q := by
  intro code hc ρ a w hcc hs
  have h1 := h { c with ρ0 := ρ } rfl rfl rfl code hc ρ a w ⟨hcc.conc.pin ρ fx (fun _ _ => rfl), hcc.hid⟩ hs
  refine wpIn_mono h1 (fun e a' w' h' => ?_)
  cases e <;> first | exact h'.elim | skip
  all_goals
    obtain ⟨hs', st', E', ρ', ⟨hfx, hq⟩, hc'⟩ := h'
    refine ⟨hs', ⟨st'.slots, st'.mem, st.fixed⟩, E', ρ', hq, ?_, hc'.hid⟩
    exact hc'.conc.pin c.ρ0 st.fixed (fun b hb => (hc'.conc.fix b (by rw [hfx]; exact hsub b hb)).trans (hcc.conc.fix b hb))

/-- A guard that is not known. -/
theorem runL_if {d : Option Nat} {ao : AOp} {r : List It} {k : St → Prop} {s : Nat} {b want : Bool} (hb : look st.slots s = some (.lit (.bool b))) (h1 : b = want → runL P c nt (⟨d, none, ao⟩ :: r) st k) (h2 : b = !want → runL P c nt r (st.put? d (.tup [])) k) : runL P c nt (⟨d, some (s, want), ao⟩ :: r) st k :=
  ⟨some b, by simp [gval, hb], fun h => h1 (by simpa using h), fun h => h2 (by cases b <;> cases want <;> simp_all)⟩
theorem runP_if {X : List Nat} {i : Nat} {p : Plan} {d : Option Nat} {ao : AOp} {k : St → Prop} {s : Nat} {b want : Bool} (hb : look st.slots s = some (.lit (.bool b))) (h1 : b = want → runP P c nt X (.take i ⟨d, none, ao⟩ p) st k) (h2 : b = !want → runP P c nt X p (st.put? d (.tup [])) k) : runP P c nt X (.take i ⟨d, some (s, want), ao⟩ p) st k :=
  ⟨some b, by simp [gval, hb], fun h => h1 (by simpa using h), fun h => h2 (by cases b <;> cases want <;> simp_all)⟩
theorem runP_ifA {X : List Nat} {i : Nat} {p : Plan} {d : Option Nat} {ao : AOp} {k : St → Prop} {s : Nat} {b want : Bool} (hb : look st.slots s = some (.lit (.bool b))) (h1 : b = want → runP P c nt X (.alt i ⟨d, none, ao⟩ p .done) st k) (h2 : b = !want → runP P c nt X p (st.put? d (.tup [])) k) : runP P c nt X (.alt i ⟨d, some (s, want), ao⟩ p .done) st k :=
  ⟨⟨some b, by simp [gval, hb], fun h => (h1 (by simpa using h)).1, fun h => h2 (by cases b <;> cases want <;> simp_all)⟩, trivial⟩

/-- A region whose outcome is one truth value more. -/
theorem J.regB {its : List It} {ks : List Nat} (d : Nat) (e : Bool) (h : ∃ st', evalL its st = some ([], st') ∧ st'.keep ks = (st.put d (.lit (.bool e))).keep ks) (hk : Q .normal ((st.put d (.lit (.bool e))).keep ks)) : J P nt c (.reg its ks) st Q := J.regJ _ h hk

/-- Arguments that say more. -/
theorem Does.sub {f : FuncId} {args args' : List AV} {m : Mem} {fx : List Nat} {post : AV → Mem → Prop} (h : Does P f args m fx post) (hl : args.length = args'.length)
    (hs : ∀ (i : Nat) x, args[i]? = some x → ∃ x', args'[i]? = some x' ∧ ∀ w Own ρ v, VRel w Own ρ x' v → VRel w Own ρ x v) : Does P f args' m fx post :=
  ⟨h.1, fun A ρ w vs t1 t2 hM hlen hv => h.2 A ρ w vs t1 t2 hM (by omega) (fun i x hx => by
    obtain ⟨x', hx', hr⟩ := hs i x hx
    exact hr _ _ _ _ (hv i x' hx'))⟩
theorem nils_ro {s sz : Nat} {w : World} {Own : Nat → Prop} {ρ : Map} {v : Value} (h : VRel w Own ρ (.nils s) v) : VRel w Own ρ (.ro sz []) v := by
  cases h with
  | tree h => cases h; exact .tree .ronil
/-- A nil slice for an empty row. -/
theorem Does.nil0 {f : FuncId} {s sz : Nat} {r : List AV} {m : Mem} {fx : List Nat} {post : AV → Mem → Prop} (h : Does P f (.ro sz [] :: r) m fx post) : Does P f (.nils s :: r) m fx post :=
  h.sub (by simp) (fun i x hx => by
    cases i with
    | zero => simp at hx; subst hx; exact ⟨_, rfl, fun _ _ _ _ => nils_ro⟩
    | succ i => exact ⟨x, by simpa using hx, fun _ _ _ _ h => h⟩)

/-- What is behind it is told otherwise. -/
theorem J.weak {ac : AC} (hstd : c.A = c.B) (h : J P nt c ac st (fun e s => ∃ s', s.le s' ∧ Q e s')) : J P nt c ac st Q := by
  intro code hc r hr ρ a w hcc hs
  refine wpIn_mono (h code hc r hr ρ a w hcc hs) (fun e a' w' h' => ?_)
  cases e <;> first | exact h'.elim | skip
  all_goals
    obtain ⟨hs', st', ρ', ⟨s', hle, hq⟩, hc'⟩ := h'
    obtain ⟨ρ2, hc2, _⟩ := hle _ _ _ _ hstd hc'
    exact ⟨hs', s', ρ2, hq, hc2⟩

/-- A call in a region of any order: blocks are handed over. -/
theorem runP_call {X : List Nat} {i : Nat} {p : Plan} {fs : Src} {xs : List Src} {d : Option Nat} {f : FuncId} {caps all : List AV} (bs fixed : List Nat) {post : AV → Mem → Prop} {k : St → Prop} (hf : st.src fs = some (.fn f caps)) (hx : (srcsOf st.src xs).map (· ++ caps) = some all)
    (hD : Does P f all (keepS bs st.mem) fixed post) (hr : refsInL (fun b => b ∈ bs) all) (hm : ∀ b ∈ bs, ∀ blk, look st.mem b = some blk → blk.refs (fun b => b ∈ bs)) (hfx : ∀ b ∈ st.fixed, b ∈ bs → b ∈ fixed) (hbw : ∀ b ∈ bs, b ∈ X)
    (hk : ∀ rv m1, post rv m1 → (∀ p ∈ m1, p.1 ∈ X ∧ (p.1 ∈ bs ∨ look st.mem p.1 = none ∧ p.1 ∉ st.fixed)) ∧ (noTree rv = true ∧ ∀ p ∈ m1, noTreeB p.2 = true) ∧ runP P c nt X p ((callSt st bs fixed m1).put? d rv) k) : runP P c nt X (.alt i ⟨d, none, .callv fs xs⟩ p .done) st k :=
  ⟨callK_call hf hx hD hr hm hfx hbw (fun rv m1 hp => by
    obtain ⟨h1, ⟨h2, h3⟩, h4⟩ := hk rv m1 hp
    exact ⟨fun b blk hb => h1 _ (look_mem hb), .inr ⟨h2, fun b blk hb => h3 _ (look_mem hb)⟩, h4⟩), trivial⟩

theorem JH.condB {E : Ex} {Q : Exit → St → Ex → Prop} {t : Nat} {x y : AC} {b : Bool} (hb : look st.slots t = some (.lit (.bool b))) (h1 : b = true → JH P nt c x st E Q) (h2 : b = false → JH P nt c y st E Q) : JH P nt c (.cond (.s t) x y) st E Q :=
  JH.cond ⟨b, hb, h1, h2⟩
end
end Go.SX
