/- SX, part I: calls in regions. -/
import Derived.Test.YtifpfpiljionmaaDoorSxK
set_option linter.unusedVariables false
set_option linter.unusedSimpArgs false
namespace Go.SX
open Go
section
variable {P : Program} {nt : Nat} {c : Ctx} {st : St}

theorem callK_view {X : Nat → Prop} {stF : St} (hle : St.le { st with fixed := [] } stF) {fs : Src} {xs : List Src} {d : Option Nat} {f : FuncId} {caps all : List AV} {fixed : List Nat} {post : AV → Mem → Prop} {k : St → Prop} (hf : stF.src fs = some (.fn f caps)) (hx : (srcsOf stF.src xs).map (· ++ caps) = some all)
    (hD : Does P f all [] fixed post) (hr : refsInL (fun _ => False) all) (hk : ∀ r m1, post r m1 → m1 = [] ∧ noTree r = true ∧ k (st.put? d r)) : CallK P c nt X fs xs d st k := by
  obtain ⟨args, hx', rfl⟩ := Option.map_eq_some_iff.1 hx
  intro o ρ a w h _ hc hd hlt
  refine view_ok h hle (fun q hq => hlt q (by rw [← hd]; exact hq)) hc hf hx' hD hr (fun r m1 hp => ?_) X
  rw [hd]; exact hk r m1 hp

theorem callK_call {X : Nat → Prop} {fs : Src} {xs : List Src} {d : Option Nat} {f : FuncId} {caps all : List AV} {bs fixed : List Nat} {post : AV → Mem → Prop} {k : St → Prop} (hf : st.src fs = some (.fn f caps)) (hx : (srcsOf st.src xs).map (· ++ caps) = some all)
    (hD : Does P f all (keepS bs st.mem) fixed post) (hr : refsInL (fun b => b ∈ bs) all) (hm : ∀ b ∈ bs, ∀ blk, look st.mem b = some blk → blk.refs (fun b => b ∈ bs)) (hfx : ∀ b ∈ st.fixed, b ∈ bs → b ∈ fixed) (hbw : ∀ b ∈ bs, X b)
    (hk : ∀ r m1, post r m1 → (∀ b blk, look m1 b = some blk → X b ∧ (b ∈ bs ∨ look st.mem b = none ∧ b ∉ st.fixed)) ∧ (c.A = c.B ∨ noTree r = true ∧ ∀ b blk, look m1 b = some blk → noTreeB blk = true) ∧ k ((callSt st bs fixed m1).put? d r)) : CallK P c nt X fs xs d st k := by
  obtain ⟨args, hx', rfl⟩ := Option.map_eq_some_iff.1 hx
  intro o ρ a w h _ hc hd hlt
  refine call_ok h (fun q hq => hlt q (by rw [← hd]; exact hq)) hc hf hx' hD hr hm hfx hbw (fun r m1 hp => ?_)
  rw [hd]; exact hk r m1 hp

/-- Own rows are seen as trees; the answer is no tree. -/
theorem runL_view {stF : St} (hle : St.le { st with fixed := [] } stF) {fs : Src} {xs : List Src} {d : Option Nat} {f : FuncId} {caps all : List AV} {fixed : List Nat} {post : AV → Mem → Prop} {k : St → Prop} {r : List It} (hf : stF.src fs = some (.fn f caps)) (hx : (srcsOf stF.src xs).map (· ++ caps) = some all)
    (hD : Does P f all [] fixed post) (hr : refsInL (fun _ => False) all) (hk : ∀ rv m1, post rv m1 → m1 = [] ∧ noTree rv = true ∧ runL P c nt r (st.put? d rv) k) : runL P c nt (⟨d, none, .callv fs xs⟩ :: r) st k :=
  callK_view hle hf hx hD hr hk

/-- The blocks 'bs' are handed over; 'fixed' ones stay where they are. -/
theorem runL_call {fs : Src} {xs : List Src} {d : Option Nat} {f : FuncId} {caps all : List AV} (bs fixed : List Nat) {post : AV → Mem → Prop} {k : St → Prop} {r : List It} (hf : st.src fs = some (.fn f caps)) (hx : (srcsOf st.src xs).map (· ++ caps) = some all)
    (hD : Does P f all (keepS bs st.mem) fixed post) (hr : refsInL (fun b => b ∈ bs) all) (hm : ∀ b ∈ bs, ∀ blk, look st.mem b = some blk → blk.refs (fun b => b ∈ bs)) (hfx : ∀ b ∈ st.fixed, b ∈ bs → b ∈ fixed) (hstd : c.A = c.B)
    (hk : ∀ rv m1, post rv m1 → (∀ p ∈ m1, p.1 ∈ bs ∨ look st.mem p.1 = none ∧ p.1 ∉ st.fixed) ∧ runL P c nt r ((callSt st bs fixed m1).put? d rv) k) : runL P c nt (⟨d, none, .callv fs xs⟩ :: r) st k :=
  callK_call (X := fun _ => True) hf hx hD hr hm hfx (fun _ _ => trivial) (fun rv m1 hp => ⟨fun b blk hb => ⟨trivial, (hk rv m1 hp).1 _ (look_mem hb)⟩, .inl hstd, (hk rv m1 hp).2⟩)

theorem runP_view {X : List Nat} {i : Nat} {p : Plan} {stF : St} (hle : St.le { st with fixed := [] } stF) {fs : Src} {xs : List Src} {d : Option Nat} {f : FuncId} {caps all : List AV} {fixed : List Nat} {post : AV → Mem → Prop} {k : St → Prop} (hf : stF.src fs = some (.fn f caps)) (hx : (srcsOf stF.src xs).map (· ++ caps) = some all)
    (hD : Does P f all [] fixed post) (hr : refsInL (fun _ => False) all) (hk : ∀ rv m1, post rv m1 → m1 = [] ∧ noTree rv = true ∧ runP P c nt X p (st.put? d rv) k) : runP P c nt X (.alt i ⟨d, none, .callv fs xs⟩ p .done) st k :=
  ⟨callK_view hle hf hx hD hr hk, trivial⟩

/-- A region's rest, behind a call. -/
theorem runL_end {its : List It} {st' : St} {k : St → Prop} (h : evalL its st = some ([], st')) (hk : k st') : runL P c nt its st k := runL_of_eval h hk
theorem runP_end {X : List Nat} {p : Plan} {st' : St} {k : St → Prop} (h : evalP X p st = some (.done, st')) (hk : k st') : runP P c nt X p st k := runP_of_eval h hk
end
end Go.SX
