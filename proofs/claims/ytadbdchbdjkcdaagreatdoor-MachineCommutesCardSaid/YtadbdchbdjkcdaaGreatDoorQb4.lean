/- Parts of a symbolic execution and of walks by it, for the statements of this seat: SxX, SxSl, LeF, SxMp. -/
import Derived.Test.YtadbdchbdjkcdaaGreatDoorQb3
import Derived.WideKeyRuns
import Derived.WideMake
set_option linter.unusedVariables false
set_option linter.unusedSimpArgs false
namespace Go.SX
open Go
section
variable {P : Program} {c : Ctx} {nt : Nat} {st : St} {Q : Exit → St → Prop}
theorem J.condB {t : Nat} {x y : AC} {b : Bool} (hb : look st.slots t = some (.lit (.bool b))) (h1 : b = true → J P nt c x st Q) (h2 : b = false → J P nt c y st Q) : J P nt c (.cond (.s t) x y) st Q :=
  J.cond ⟨b, hb, h1, h2⟩
theorem Conc.pin {st : St} {ρ : Map} {a : Act} {w : World} (h : Conc c st ρ a w) (ρ1 : Map) (fx : List Nat) (hf : ∀ b ∈ fx, ρ b = ρ1 b) : Conc { c with ρ0 := ρ1 } ⟨st.slots, st.mem, fx⟩ ρ a w :=
  { slots := h.slots, defers := h.defers, mem := h.mem, dom := h.dom, lt := h.lt, inj := h.inj, mine := h.mine, far := h.far, fix := hf, alt := h.alt, os := h.os, tape := h.tape, output := h.output, size := h.size, frame := h.frame, rows := h.rows }
theorem JH.pin {E : Ex} {Q : Exit → St → Ex → Prop} {ac : AC} (fx : List Nat) (hsub : ∀ b ∈ st.fixed, b ∈ fx)
    (h : ∀ c' : Ctx, c'.w0 = c.w0 → c'.A = c.A → c'.B = c.B → JH P nt c' ac ⟨st.slots, st.mem, fx⟩ E (fun e s E' => s.fixed = fx ∧ Q e ⟨s.slots, s.mem, st.fixed⟩ E')) : JH P nt c ac st E Q := by
  intro code hc ρ a w hcc hs
  have h1 := h { c with ρ0 := ρ } rfl rfl rfl code hc ρ a w ⟨hcc.conc.pin ρ fx (fun _ _ => rfl), hcc.hid⟩ hs
  refine wpIn_mono h1 (fun e a' w' h' => ?_)
  cases e <;> first | exact h'.elim | skip
  all_goals
    obtain ⟨hs', st', E', ρ', ⟨hfx, hq⟩, hc'⟩ := h'
    refine ⟨hs', ⟨st'.slots, st'.mem, st.fixed⟩, E', ρ', hq, ?_, hc'.hid⟩
    exact hc'.conc.pin c.ρ0 st.fixed (fun b hb => (hc'.conc.fix b (by rw [hfx]; exact hsub b hb)).trans (hcc.conc.fix b hb))
theorem runL_if {d : Option Nat} {ao : AOp} {r : List It} {k : St → Prop} {s : Nat} {b want : Bool} (hb : look st.slots s = some (.lit (.bool b))) (h1 : b = want → runL P c nt (⟨d, none, ao⟩ :: r) st k) (h2 : b = !want → runL P c nt r (st.put? d (.tup [])) k) : runL P c nt (⟨d, some (s, want), ao⟩ :: r) st k :=
  ⟨some b, by simp [gval, hb], fun h => h1 (by simpa using h), fun h => h2 (by cases b <;> cases want <;> simp_all)⟩
theorem runP_if {X : List Nat} {i : Nat} {p : Plan} {d : Option Nat} {ao : AOp} {k : St → Prop} {s : Nat} {b want : Bool} (hb : look st.slots s = some (.lit (.bool b))) (h1 : b = want → runP P c nt X (.take i ⟨d, none, ao⟩ p) st k) (h2 : b = !want → runP P c nt X p (st.put? d (.tup [])) k) : runP P c nt X (.take i ⟨d, some (s, want), ao⟩ p) st k :=
  ⟨some b, by simp [gval, hb], fun h => h1 (by simpa using h), fun h => h2 (by cases b <;> cases want <;> simp_all)⟩
theorem runP_ifA {X : List Nat} {i : Nat} {p : Plan} {d : Option Nat} {ao : AOp} {k : St → Prop} {s : Nat} {b want : Bool} (hb : look st.slots s = some (.lit (.bool b))) (h1 : b = want → runP P c nt X (.alt i ⟨d, none, ao⟩ p .done) st k) (h2 : b = !want → runP P c nt X p (st.put? d (.tup [])) k) : runP P c nt X (.alt i ⟨d, some (s, want), ao⟩ p .done) st k :=
  ⟨⟨some b, by simp [gval, hb], fun h => (h1 (by simpa using h)).1, fun h => h2 (by cases b <;> cases want <;> simp_all)⟩, trivial⟩
theorem J.regB {its : List It} {ks : List Nat} (d : Nat) (e : Bool) (h : ∃ st', evalL its st = some ([], st') ∧ st'.keep ks = (st.put d (.lit (.bool e))).keep ks) (hk : Q .normal ((st.put d (.lit (.bool e))).keep ks)) : J P nt c (.reg its ks) st Q := J.regJ _ h hk
theorem Does.sub {f : FuncId} {args args' : List AV} {m : Mem} {fx : List Nat} {post : AV → Mem → Prop} (h : Does P f args m fx post) (hl : args.length = args'.length)
    (hs : ∀ (i : Nat) x, args[i]? = some x → ∃ x', args'[i]? = some x' ∧ ∀ w Own ρ v, VRel w Own ρ x' v → VRel w Own ρ x v) : Does P f args' m fx post :=
  ⟨h.1, fun A ρ w vs t1 t2 hM hlen hv => h.2 A ρ w vs t1 t2 hM (by omega) (fun i x hx => by
    obtain ⟨x', hx', hr⟩ := hs i x hx
    exact hr _ _ _ _ (hv i x' hx'))⟩
theorem nils_ro {s sz : Nat} {w : World} {Own : Nat → Prop} {ρ : Map} {v : Value} (h : VRel w Own ρ (.nils s) v) : VRel w Own ρ (.ro sz []) v := by
  cases h with
  | tree h => cases h; exact .tree .ronil
theorem Does.nil0 {f : FuncId} {s sz : Nat} {r : List AV} {m : Mem} {fx : List Nat} {post : AV → Mem → Prop} (h : Does P f (.ro sz [] :: r) m fx post) : Does P f (.nils s :: r) m fx post :=
  h.sub (by simp) (fun i x hx => by
    cases i with
    | zero => simp at hx; subst hx; exact ⟨_, rfl, fun _ _ _ _ => nils_ro⟩
    | succ i => exact ⟨x, by simpa using hx, fun _ _ _ _ h => h⟩)
theorem J.weak {ac : AC} (hstd : c.A = c.B) (h : J P nt c ac st (fun e s => ∃ s', s.le s' ∧ Q e s')) : J P nt c ac st Q := by
  intro code hc r hr ρ a w hcc hs
  refine wpIn_mono (h code hc r hr ρ a w hcc hs) (fun e a' w' h' => ?_)
  cases e <;> first | exact h'.elim | skip
  all_goals
    obtain ⟨hs', st', ρ', ⟨s', hle, hq⟩, hc'⟩ := h'
    obtain ⟨ρ2, hc2, _⟩ := hle _ _ _ _ hstd hc'
    exact ⟨hs', s', ρ2, hq, hc2⟩
theorem runP_call {X : List Nat} {i : Nat} {p : Plan} {fs : Src} {xs : List Src} {d : Option Nat} {f : FuncId} {caps all : List AV} (bs fixed : List Nat) {post : AV → Mem → Prop} {k : St → Prop} (hf : st.src fs = some (.fn f caps)) (hx : (srcsOf st.src xs).map (· ++ caps) = some all)
    (hD : Does P f all (keepS bs st.mem) fixed post) (hr : refsInL (fun b => b ∈ bs) all) (hm : ∀ b ∈ bs, ∀ blk, look st.mem b = some blk → blk.refs (fun b => b ∈ bs)) (hfx : ∀ b ∈ st.fixed, b ∈ bs → b ∈ fixed) (hbw : ∀ b ∈ bs, b ∈ X)
    (hk : ∀ rv m1, post rv m1 → (∀ p ∈ m1, p.1 ∈ X ∧ (p.1 ∈ bs ∨ look st.mem p.1 = none ∧ p.1 ∉ st.fixed)) ∧ (noTree rv = true ∧ ∀ p ∈ m1, noTreeB p.2 = true) ∧ runP P c nt X p ((callSt st bs fixed m1).put? d rv) k) : runP P c nt X (.alt i ⟨d, none, .callv fs xs⟩ p .done) st k :=
  ⟨callK_call hf hx hD hr hm hfx hbw (fun rv m1 hp => by
    obtain ⟨h1, ⟨h2, h3⟩, h4⟩ := hk rv m1 hp
    exact ⟨fun b blk hb => h1 _ (look_mem hb), .inr ⟨h2, fun b blk hb => h3 _ (look_mem hb)⟩, h4⟩), trivial⟩
theorem runP_callT {X : List Nat} {i : Nat} {p : Plan} {fs : Src} {xs : List Src} {d : Option Nat} {f : FuncId} {caps all : List AV} (bs fixed : List Nat) {post : AV → Mem → Prop} {k : St → Prop} (hf : st.src fs = some (.fn f caps)) (hx : (srcsOf st.src xs).map (· ++ caps) = some all)
    (hD : Does P f all (keepS bs st.mem) fixed post) (hr : refsInL (fun b => b ∈ bs) all) (hm : ∀ b ∈ bs, ∀ blk, look st.mem b = some blk → blk.refs (fun b => b ∈ bs)) (hfx : ∀ b ∈ st.fixed, b ∈ bs → b ∈ fixed) (hbw : ∀ b ∈ bs, b ∈ X) (hstd : c.A = c.B)
    (hk : ∀ rv m1, post rv m1 → (∀ p ∈ m1, p.1 ∈ X ∧ (p.1 ∈ bs ∨ look st.mem p.1 = none ∧ p.1 ∉ st.fixed)) ∧ runP P c nt X p ((callSt st bs fixed m1).put? d rv) k) : runP P c nt X (.alt i ⟨d, none, .callv fs xs⟩ p .done) st k :=
  ⟨callK_call hf hx hD hr hm hfx hbw (fun rv m1 hp => ⟨fun b blk hb => (hk rv m1 hp).1 _ (look_mem hb), .inl hstd, (hk rv m1 hp).2⟩), trivial⟩
theorem JH.condB {E : Ex} {Q : Exit → St → Ex → Prop} {t : Nat} {x y : AC} {b : Bool} (hb : look st.slots t = some (.lit (.bool b))) (h1 : b = true → JH P nt c x st E Q) (h2 : b = false → JH P nt c y st E Q) : JH P nt c (.cond (.s t) x y) st E Q :=
  JH.cond ⟨b, hb, h1, h2⟩
end
end Go.SX
namespace Go.SX
open Go
attribute [simp] ownAt asOwn boundc
mutual
def nz : AV → AV
  | .nils s => .ro s []
  | .agg cs => .agg (nzL cs)
  | .tup cs => .tup (nzL cs)
  | x => x
def nzL : List AV → List AV
  | [] => []
  | x :: r => nz x :: nzL r
end
theorem nzL_get : ∀ {cs : List AV} (i : Nat), (nzL cs)[i]? = (cs[i]?).map nz
  | [], i => by simp [nzL]
  | y :: r, 0 => by simp [nzL]
  | y :: r, i + 1 => by simpa [nzL] using nzL_get (cs := r) i
theorem nzL_length : ∀ (cs : List AV), (nzL cs).length = cs.length
  | [] => rfl
  | _ :: r => by simp [nzL, nzL_length r]
theorem TRel.nz {w : World} {Own : Nat → Prop} {x : AV} {v : Value} (h : TRel w Own x v) : TRel w Own (nz x) v := by
  induction h with
  | nils => exact .ronil
  | lit h => exact .lit h
  | ronil => exact .ronil
  | ro val hc hs hlen hblk hne hcell hone hrel _ => exact .ro val hc hs hlen hblk hne hcell hone hrel
  | agg hl _ ih => exact .agg (by rw [nzL_length]; exact hl) (fun i x hx => by rw [nzL_get] at hx; obtain ⟨y, hy, rfl⟩ := Option.map_eq_some_iff.1 hx; exact ih i y hy)
  | tup hl _ ih => exact .tup (by rw [nzL_length]; exact hl) (fun i x hx => by rw [nzL_get] at hx; obtain ⟨y, hy, rfl⟩ := Option.map_eq_some_iff.1 hx; exact ih i y hy)
  | fn hl h _ => exact .fn hl h
theorem VRel.nz {w : World} {Own : Nat → Prop} {ρ : Map} {x : AV} {v : Value} (h : VRel w Own ρ x v) : VRel w Own ρ (nz x) v := by
  induction h with
  | tree h => exact .tree h.nz
  | agg hl _ ih => exact .agg (by rw [nzL_length]; exact hl) (fun i x hx => by rw [nzL_get] at hx; obtain ⟨y, hy, rfl⟩ := Option.map_eq_some_iff.1 hx; exact ih i y hy)
  | tup hl _ ih => exact .tup (by rw [nzL_length]; exact hl) (fun i x hx => by rw [nzL_get] at hx; obtain ⟨y, hy, rfl⟩ := Option.map_eq_some_iff.1 hx; exact ih i y hy)
  | fn hl h _ => exact .fn hl h
  | rop val hs hlen hblk hi hj hcell hone hrel => exact .rop val hs hlen hblk hi hj hcell hone hrel
  | ownnil => exact .ownnil
  | ownz h => exact .ownz h
  | own h h1 h2 => exact .own h h1 h2
  | ownc h h1 h2 => exact .ownc h h1 h2
  | ptr h => exact .ptr h
  | mapr h => exact .mapr h
  | dead => exact .dead
def nzB : Blk → Blk
  | .obj ty cs => .obj ty (nzL cs)
  | b => b
def St.nz (st : St) : St := ⟨st.slots.map fun p => (p.1, SX.nz p.2), st.mem.map fun p => (p.1, nzB p.2), st.fixed⟩
theorem le_nz (st : St) : st.le st.nz := fun c ρ a w _ h =>
  ⟨ρ, { h with
    slots := fun d x hx => by
      simp only [St.nz, look_mapv] at hx
      obtain ⟨y, hy, rfl⟩ := Option.map_eq_some_iff.1 hx
      exact (h.slots d y hy).nz
    mem := fun b blk hl => by
      simp only [St.nz, look_mapv] at hl
      obtain ⟨y, hy, rfl⟩ := Option.map_eq_some_iff.1 hl
      have hB := h.mem b y hy
      cases y with
      | arr ty sz es => exact hB
      | map es => exact hB
      | obj ty cs =>
        obtain ⟨k, cur, h0, h1, h2, h3⟩ := hB
        refine ⟨k, cur, h0, h1, by rw [nzL_length]; exact h2, fun j x hx => ?_⟩
        rw [nzL_get] at hx
        obtain ⟨y, hy, rfl⟩ := Option.map_eq_some_iff.1 hx
        obtain ⟨v, hv, h1v, ht⟩ := h3 j y hy
        exact ⟨v, hv, h1v, ht.nz⟩
    dom := fun b k o hb => by
      obtain ⟨blk, hl⟩ := h.dom b k o hb
      exact ⟨nzB blk, by simp only [St.nz, look_mapv, hl, Option.map_some]⟩ }, fun _ _ _ h => h⟩
theorem J.nz {P : Program} {nt : Nat} {c : Ctx} {ac : AC} {st : St} {Q : Exit → St → Prop} (hstd : c.A = c.B) (h : J P nt c ac st.nz Q) : J P nt c ac st Q := J.le hstd (le_nz st) h
attribute [simp] SX.nz nzL nzB St.nz
theorem runP_or {P : Program} {nt : Nat} {c : Ctx} {st : St} {X : List Nat} {i : Nat} {it : It} {p q : Plan} {k : St → Prop} (h1 : runP P c nt X (.alt i it p .done) st k) (h2 : runP P c nt X q st k) : runP P c nt X (.alt i it p q) st k := by
  refine ⟨h1.1, ?_⟩
  cases q <;> first | trivial | exact h2
theorem J.to {P : Program} {nt : Nat} {c : Ctx} {st : St} {Q : Exit → St → Prop} {ac : AC} (hstd : c.A = c.B) (S : St) (h : J P nt c ac st (fun e s => e = .normal ∧ s.le S)) (hk : Q .normal S) : J P nt c ac st Q :=
  J.weak hstd (fun code hc r hr ρ a w hcc hs => wpIn_mono (h code hc r hr ρ a w hcc hs) (fun e a' w' h' => by
    cases e <;> first | exact h'.elim | skip
    all_goals
      obtain ⟨hs', st', ρ', ⟨he, hle⟩, hc'⟩ := h'
      first | cases he | skip
    exact ⟨hs', st', ρ', ⟨S, hle, hk⟩, hc'⟩))
@[simp] abbrev oI (d : Nat) (o : AOp) : It := ⟨some d, none, o⟩
@[simp] abbrev oG (d s : Nat) (b : Bool) (o : AOp) : It := ⟨some d, some (s, b), o⟩
@[simp] abbrev oN (o : AOp) : It := ⟨none, none, o⟩
@[simp] abbrev oH (s : Nat) (b : Bool) (o : AOp) : It := ⟨none, some (s, b), o⟩
def slCloner0 (sz : Nat) : AC := .reg [⟨(some 2), none, .mov (.c (.nils sz))⟩] [0]
def slCloner1 : AC := .reg [⟨(some 3), none, .mov (.s 0)⟩,
    ⟨(some 4), none, .ext 6 [] [(.s 3)]⟩] [0, 4]
def slCloner2 (sz : Nat) : AC := .reg [⟨(some 2), none, .mov (.c (.nils sz))⟩] [2]
def slCloner3 (sz : Nat) (ty : Nat) (bz : Nat) (i5 : Nat) (i7 : Nat) : AC := .reg [⟨(some 5), none, .bslice i5 ty sz []⟩,
    ⟨(some 6), none, .mov (.s 0)⟩,
    ⟨(some 7), none, .append i7 ty sz bz (.s 5) (.s 6)⟩,
    ⟨(some 2), none, .mov (.s 7)⟩] [2]
def slClone (sz : Nat) (ty : Nat) (bz : Nat) (i5 : Nat) (i7 : Nat) : AC := .seq (slCloner0 sz) (.seq (.seq (slCloner1) (.cond (.s 4) (.seq (slCloner2 sz) (.ret)) (.skip))) (.seq (slCloner3 sz ty bz i5 i7) (.ret)))
def slCloneR : List RD := [.tmp 2]
def slInsr0 (sz : Nat) : AC := .reg [⟨(some 6), none, .mov (.c (.nils sz))⟩] [0, 1, 2]
def slInsr1 (sz : Nat) : AC := .reg [⟨(some 10), none, .mov (.s 0)⟩,
    ⟨(some 11), none, .mov (.s 1)⟩,
    ⟨(some 12), none, .slice sz (.s 10) (some (.s 11)) none⟩] [0, 1, 2]
def slInsr2 : AC := .reg [⟨(some 13), none, .mov (.s 2)⟩,
    ⟨(some 14), none, .len (.s 13)⟩,
    ⟨(some 7), none, .mov (.s 14)⟩] [0, 1, 2, 7]
def slInsr3 : AC := .reg [⟨(some 15), none, .mov (.s 7)⟩,
    ⟨(some 16), none, .iop .eql (.s 15) (.c (.lit (.int .i64 0)))⟩] [0, 1, 2, 7, 16]
def slInsr4 : AC := .reg [⟨(some 17), none, .mov (.s 0)⟩,
    ⟨(some 6), none, .mov (.s 17)⟩] [6]
def slInsr5 : AC := .reg [⟨(some 18), none, .mov (.s 0)⟩,
    ⟨(some 19), none, .len (.s 18)⟩,
    ⟨(some 8), none, .mov (.s 19)⟩] [0, 1, 2, 7, 8]
def slInsr6 : AC := .reg [⟨(some 20), none, .mov (.s 1)⟩,
    ⟨(some 21), none, .mov (.s 8)⟩,
    ⟨(some 22), none, .iop .eql (.s 20) (.s 21)⟩] [0, 1, 2, 7, 8, 22]
def slInsr7 (sz : Nat) (ty : Nat) (bz : Nat) (i25 : Nat) : AC := .reg [⟨(some 23), none, .mov (.s 0)⟩,
    ⟨(some 24), none, .mov (.s 2)⟩,
    ⟨(some 25), none, .append i25 ty sz bz (.s 23) (.s 24)⟩,
    ⟨(some 6), none, .mov (.s 25)⟩] [6]
def slInsr8 : AC := .reg [⟨(some 26), none, .mov (.s 8)⟩,
    ⟨(some 27), none, .mov (.s 7)⟩,
    ⟨(some 28), none, .iop .add (.s 26) (.s 27)⟩,
    ⟨(some 29), none, .mov (.s 0)⟩,
    ⟨(some 30), none, .ext 0 [] [(.s 29)]⟩,
    ⟨(some 31), none, .iop .gtr (.s 28) (.s 30)⟩] [0, 1, 2, 7, 8, 31]
def slInsr9 (sz : Nat) (ty : Nat) (bz : Nat) : AC := .reg [⟨(some 32), none, .mov (.s 0)⟩,
    ⟨(some 33), none, .mov (.s 1)⟩,
    ⟨(some 34), none, .slice sz (.s 32) none (some (.s 33))⟩,
    ⟨(some 35), none, .mov (.s 8)⟩,
    ⟨(some 36), none, .mov (.s 7)⟩,
    ⟨(some 37), none, .iop .add (.s 35) (.s 36)⟩,
    ⟨(some 38), none, .mov (.s 1)⟩,
    ⟨(some 39), none, .iop .sub (.s 37) (.s 38)⟩,
    ⟨(some 40), none, .ext 3 [ty, sz, bz] [(.s 34), (.s 39)]⟩,
    ⟨(some 9), none, .mov (.s 40)⟩] [0, 1, 2, 7, 9]
def slInsr10 (sz : Nat) (ty : Nat) (bz : Nat) : AC := .reg [⟨(some 41), none, .mov (.s 9)⟩,
    ⟨(some 42), none, .mov (.s 1)⟩,
    ⟨(some 43), none, .slice sz (.s 41) (some (.s 42)) none⟩,
    ⟨(some 44), none, .mov (.s 2)⟩,
    ⟨(some 45), none, .ext 1 [ty, sz, bz] [(.s 43), (.s 44)]⟩] [0, 1, 7, 9]
def slInsr11 (id : Nat) (sz : Nat) (ty : Nat) (bz : Nat) : AC := .draw [id] (.take 0 ⟨(some 46), none, .mov (.s 9)⟩ <|
    .take 1 ⟨(some 47), none, .mov (.s 1)⟩ <|
    .take 2 ⟨(some 48), none, .mov (.s 7)⟩ <|
    .take 3 ⟨(some 49), none, .iop .add (.s 47) (.s 48)⟩ <|
    .take 4 ⟨(some 50), none, .slice sz (.s 46) (some (.s 49)) none⟩ <|
    .take 5 ⟨(some 51), none, .mov (.s 0)⟩ <|
    .take 6 ⟨(some 52), none, .mov (.s 1)⟩ <|
    .take 7 ⟨(some 53), none, .slice sz (.s 51) (some (.s 52)) none⟩ <|
    .alt 8 ⟨(some 54), none, .ext 1 [ty, sz, bz] [(.s 50), (.s 53)]⟩ (
    .done) .done) [9]
def slInsr12 : AC := .reg [⟨(some 55), none, .mov (.s 9)⟩,
    ⟨(some 6), none, .mov (.s 55)⟩] [6]
def slInsr13 (sz : Nat) : AC := .reg [⟨(some 56), none, .mov (.s 0)⟩,
    ⟨(some 57), none, .mov (.s 8)⟩,
    ⟨(some 58), none, .mov (.s 7)⟩,
    ⟨(some 59), none, .iop .add (.s 57) (.s 58)⟩,
    ⟨(some 60), none, .slice sz (.s 56) none (some (.s 59))⟩,
    ⟨(some 0), none, .mov (.s 60)⟩] [0, 1, 2, 7, 8]
def slInsr14 (sz : Nat) (fo : Nat) : AC := .reg [⟨(some 61), none, .mov (.s 2)⟩,
    ⟨(some 62), none, .mov (.s 0)⟩,
    ⟨(some 63), none, .mov (.s 1)⟩,
    ⟨(some 64), none, .mov (.s 7)⟩,
    ⟨(some 65), none, .iop .add (.s 63) (.s 64)⟩,
    ⟨(some 66), none, .slice sz (.s 62) (some (.s 65)) none⟩,
    ⟨(some 67), none, .ext 7 [fo] [(.s 61), (.s 66)]⟩,
    ⟨(some 68), none, .not (.s 67)⟩] [0, 1, 2, 7, 8, 68]
def slInsr15 (x1 : Nat) (sz : Nat) (ty : Nat) (bz : Nat) : AC := .draw [x1] (.take 0 ⟨(some 69), none, .mov (.s 0)⟩ <|
    .take 1 ⟨(some 70), none, .mov (.s 1)⟩ <|
    .take 2 ⟨(some 71), none, .mov (.s 7)⟩ <|
    .take 3 ⟨(some 72), none, .iop .add (.s 70) (.s 71)⟩ <|
    .take 4 ⟨(some 73), none, .slice sz (.s 69) (some (.s 72)) none⟩ <|
    .take 5 ⟨(some 74), none, .mov (.s 0)⟩ <|
    .take 6 ⟨(some 75), none, .mov (.s 1)⟩ <|
    .take 7 ⟨(some 76), none, .slice sz (.s 74) (some (.s 75)) none⟩ <|
    .alt 8 ⟨(some 77), none, .ext 1 [ty, sz, bz] [(.s 73), (.s 76)]⟩ (
    .done) .done) [0, 1, 2]
def slInsr16 (sz : Nat) (ty : Nat) (bz : Nat) : AC := .reg [⟨(some 78), none, .mov (.s 0)⟩,
    ⟨(some 79), none, .mov (.s 1)⟩,
    ⟨(some 80), none, .slice sz (.s 78) (some (.s 79)) none⟩,
    ⟨(some 81), none, .mov (.s 2)⟩,
    ⟨(some 82), none, .ext 1 [ty, sz, bz] [(.s 80), (.s 81)]⟩] [0]
def slInsr17 : AC := .reg [⟨(some 83), none, .mov (.s 0)⟩,
    ⟨(some 6), none, .mov (.s 83)⟩] [6]
def slInsr18 (sz : Nat) (ty : Nat) (bz : Nat) : AC := .reg [⟨(some 84), none, .mov (.s 0)⟩,
    ⟨(some 85), none, .mov (.s 8)⟩,
    ⟨(some 86), none, .slice sz (.s 84) (some (.s 85)) none⟩,
    ⟨(some 87), none, .mov (.s 2)⟩,
    ⟨(some 88), none, .ext 1 [ty, sz, bz] [(.s 86), (.s 87)]⟩] [0, 1, 7]
def slInsr19 (sz : Nat) (fr : Nat) : AC := .reg [⟨(some 89), none, .mov (.s 0)⟩,
    ⟨(some 90), none, .mov (.s 1)⟩,
    ⟨(some 91), none, .slice sz (.s 89) (some (.s 90)) none⟩,
    ⟨(some 92), none, .mov (.s 7)⟩,
    ⟨(some 93), none, .callv (.c (.fn fr [])) [(.s 91), (.s 92)]⟩] [0]
def slInsr20 : AC := .reg [⟨(some 94), none, .mov (.s 0)⟩,
    ⟨(some 6), none, .mov (.s 94)⟩] [6]
def slIns (id : Nat) (x1 : Nat) (sz : Nat) (ty : Nat) (bz : Nat) (fo : Nat) (fr : Nat) (i25 : Nat) : AC := .seq (slInsr0 sz) (.seq (slInsr1 sz) (.seq (slInsr2) (.seq (.seq (slInsr3) (.cond (.s 16) (.seq (slInsr4) (.ret)) (.skip))) (.seq (slInsr5) (.seq (.seq (slInsr6) (.cond (.s 22) (.seq (slInsr7 sz ty bz i25) (.ret)) (.skip))) (.seq (.seq (slInsr8) (.cond (.s 31) (.seq (slInsr9 sz ty bz) (.seq (slInsr10 sz ty bz) (.seq (slInsr11 id sz ty bz) (.seq (slInsr12) (.ret))))) (.skip))) (.seq (slInsr13 sz) (.seq (.seq (slInsr14 sz fo) (.cond (.s 68) (.seq (slInsr15 x1 sz ty bz) (.seq (slInsr16 sz ty bz) (.seq (slInsr17) (.ret)))) (.skip))) (.seq (slInsr18 sz ty bz) (.seq (slInsr19 sz fr) (.seq (slInsr20) (.ret))))))))))))
def slInsR : List RD := [.tmp 6]
def slBsfr0 : AC := .reg [⟨(some 6), none, .mov (.c (.lit (.int .i64 0)))⟩,
    ⟨(some 7), none, .mov (.c (.lit (.bool false)))⟩] [0, 1, 2]
def slBsfr1 : AC := .reg [⟨(some 12), none, .mov (.s 0)⟩,
    ⟨(some 13), none, .len (.s 12)⟩,
    ⟨(some 8), none, .mov (.s 13)⟩] [0, 1, 2, 8]
def slBsfr2 : AC := .reg [⟨(some 14), none, .mov (.s 8)⟩,
    ⟨(some 9), none, .mov (.c (.lit (.int .i64 0)))⟩,
    ⟨(some 10), none, .mov (.s 14)⟩] [0, 1, 2, 8, 9, 10]
def slBsfr3 : AC := .reg [⟨(some 15), none, .mov (.s 9)⟩,
    ⟨(some 16), none, .mov (.s 10)⟩,
    ⟨(some 17), none, .iop .lss (.s 15) (.s 16)⟩] [0, 1, 2, 8, 9, 10, 17]
def slBsfr4 : AC := .reg [⟨(some 18), none, .mov (.s 9)⟩,
    ⟨(some 19), none, .mov (.s 10)⟩,
    ⟨(some 20), none, .iop .add (.s 18) (.s 19)⟩,
    ⟨(some 21), none, .conv .u64 (.s 20)⟩,
    ⟨(some 22), none, .iop .shr (.s 21) (.c (.lit (.int .u64 1)))⟩,
    ⟨(some 23), none, .conv .i64 (.s 22)⟩,
    ⟨(some 11), none, .mov (.s 23)⟩] [0, 1, 2, 8, 9, 10, 11]
def slBsfr5 (sz : Nat) : AC := .reg [⟨(some 24), none, .mov (.s 2)⟩,
    ⟨(some 25), none, .mov (.s 0)⟩,
    ⟨(some 26), none, .mov (.s 11)⟩,
    ⟨(some 27), none, .iaddr sz (.s 25) (.s 26)⟩,
    ⟨(some 28), none, .load sz true (.s 27)⟩,
    ⟨(some 29), none, .mov (.s 1)⟩,
    ⟨(some 30), none, .callv (.s 24) [(.s 28), (.s 29)]⟩,
    ⟨(some 31), none, .iop .lss (.s 30) (.c (.lit (.int .i64 0)))⟩] [0, 1, 2, 8, 9, 10, 11, 31]
def slBsfr6 : AC := .reg [⟨(some 32), none, .mov (.s 11)⟩,
    ⟨(some 33), none, .iop .add (.s 32) (.c (.lit (.int .i64 1)))⟩,
    ⟨(some 9), none, .mov (.s 33)⟩] [0, 1, 2, 8, 9, 10]
def slBsfr7 : AC := .reg [⟨(some 34), none, .mov (.s 11)⟩,
    ⟨(some 10), none, .mov (.s 34)⟩] [0, 1, 2, 8, 9, 10]
def slBsfL3 (sz : Nat) : AC := .seq (.seq (slBsfr3) (.cond (.s 17) (.skip) (.exit 0))) (.block 1 (.seq (slBsfr4) (.seq (slBsfr5 sz) (.cond (.s 31) (slBsfr6) (slBsfr7)))))
def slBsfr8 (sz : Nat) : AC := .reg [⟨(some 35), none, .mov (.s 9)⟩,
    ⟨(some 36), none, .mov (.s 9)⟩,
    ⟨(some 37), none, .mov (.s 8)⟩,
    ⟨(some 38), none, .iop .lss (.s 36) (.s 37)⟩,
    ⟨(some 39), none, .mov (.s 38)⟩,
    ⟨(some 40), (some (39, true)), .mov (.s 2)⟩,
    ⟨(some 41), (some (39, true)), .mov (.s 0)⟩,
    ⟨(some 42), (some (39, true)), .mov (.s 9)⟩,
    ⟨(some 43), (some (39, true)), .iaddr sz (.s 41) (.s 42)⟩,
    ⟨(some 44), (some (39, true)), .load sz true (.s 43)⟩,
    ⟨(some 45), (some (39, true)), .mov (.s 1)⟩,
    ⟨(some 46), (some (39, true)), .callv (.s 40) [(.s 44), (.s 45)]⟩,
    ⟨(some 47), (some (39, true)), .iop .eql (.s 46) (.c (.lit (.int .i64 0)))⟩,
    ⟨(some 48), none, .pick (.s 39) (.s 47) (.c (.lit (.bool false)))⟩,
    ⟨(some 6), none, .mov (.s 35)⟩,
    ⟨(some 7), none, .mov (.s 48)⟩] [6, 7]
def slBsf (sz : Nat) : AC := .seq (slBsfr0) (.seq (slBsfr1) (.seq (slBsfr2) (.seq (.block 0 (.loop (slBsfL3 sz))) (.seq (slBsfr8 sz) (.ret)))))
def slBsfR : List RD := [.tmp 6, .tmp 7]
def slIdxr0 : AC := .reg [⟨(some 4), none, .mov (.c (.lit (.int .i64 0)))⟩] [0, 1]
def slIdxr1 : AC := .reg [⟨(some 6), none, .mov (.s 0)⟩,
    ⟨(some 7), none, .len (.s 6)⟩,
    ⟨(some 8), none, .mov (.c (.lit (.int .i64 0)))⟩] [0, 1, 7, 8]
def slIdxr2 : AC := .reg [⟨(some 9), none, .iop .lss (.s 8) (.s 7)⟩] [0, 1, 7, 8, 9]
def slIdxr3 : AC := .reg [⟨(some 10), none, .mov (.s 8)⟩,
    ⟨(some 5), none, .mov (.s 10)⟩] [0, 1, 5, 7, 8]
def slIdxr4 (sz : Nat) : AC := .reg [⟨(some 11), none, .mov (.s 1)⟩,
    ⟨(some 12), none, .mov (.s 0)⟩,
    ⟨(some 13), none, .mov (.s 5)⟩,
    ⟨(some 14), none, .iaddr sz (.s 12) (.s 13)⟩,
    ⟨(some 15), none, .load sz true (.s 14)⟩,
    ⟨(some 16), none, .callv (.s 11) [(.s 15)]⟩] [0, 1, 5, 7, 8, 16]
def slIdxr5 : AC := .reg [⟨(some 17), none, .mov (.s 5)⟩,
    ⟨(some 4), none, .mov (.s 17)⟩] [4]
def slIdxr6 : AC := .reg [⟨(some 18), none, .iop .add (.s 8) (.c (.lit (.int .i64 1)))⟩,
    ⟨(some 8), none, .mov (.s 18)⟩] [0, 1, 7, 8]
def slIdxL2 (sz : Nat) : AC := .seq (slIdxr2) (.seq (.cond (.s 9) (.skip) (.exit 0)) (.seq (.block 1 (.seq (slIdxr3) (.seq (slIdxr4 sz) (.cond (.s 16) (.seq (slIdxr5) (.ret)) (.skip))))) (slIdxr6)))
def slIdxr7 : AC := .reg [⟨(some 4), none, .mov (.c (.lit (.int .i64 (-1))))⟩] [4]
def slIdx (sz : Nat) : AC := .seq (slIdxr0) (.seq (.seq (slIdxr1) (.block 0 (.loop (slIdxL2 sz)))) (.seq (slIdxr7) (.ret)))
def slIdxR : List RD := [.tmp 4]
def slConr0 : AC := .reg [⟨(some 4), none, .mov (.c (.lit (.bool false)))⟩] [0, 1]
def slConr1 (f1 : Nat) : AC := .reg [⟨(some 5), none, .mov (.s 0)⟩,
    ⟨(some 6), none, .mov (.s 1)⟩,
    ⟨(some 7), none, .callv (.c (.fn f1 [])) [(.s 5), (.s 6)]⟩,
    ⟨(some 8), none, .iop .geq (.s 7) (.c (.lit (.int .i64 0)))⟩,
    ⟨(some 4), none, .mov (.s 8)⟩] [4]
def slCon (f1 : Nat) : AC := .seq (slConr0) (.seq (slConr1 f1) (.ret))
def slConR : List RD := [.tmp 4]
def slEqfr0 : AC := .reg [⟨(some 6), none, .mov (.c (.lit (.bool false)))⟩] [0, 1, 2]
def slEqfr1 : AC := .reg [⟨(some 10), none, .mov (.s 0)⟩,
    ⟨(some 11), none, .len (.s 10)⟩,
    ⟨(some 12), none, .mov (.s 1)⟩,
    ⟨(some 13), none, .len (.s 12)⟩,
    ⟨(some 14), none, .iop .neq (.s 11) (.s 13)⟩] [0, 1, 2, 14]
def slEqfr2 : AC := .reg [⟨(some 6), none, .mov (.c (.lit (.bool false)))⟩] [6]
def slEqfr3 : AC := .reg [⟨(some 15), none, .mov (.s 0)⟩,
    ⟨(some 16), none, .len (.s 15)⟩,
    ⟨(some 17), none, .mov (.c (.lit (.int .i64 0)))⟩] [1, 2, 15, 16, 17]
def slEqfr4 : AC := .reg [⟨(some 18), none, .iop .lss (.s 17) (.s 16)⟩] [1, 2, 15, 16, 17, 18]
def slEqfr5 (sz : Nat) (ty : Nat) (zr : List AV) (i8 : Nat) : AC := .reg [⟨(some 19), none, .mov (.s 17)⟩,
    ⟨(some 20), none, .iaddr sz (.s 15) (.s 17)⟩,
    ⟨(some 21), none, .load sz true (.s 20)⟩,
    ⟨(some 8), none, .alloc i8 ty zr⟩,
    ⟨(some 7), none, .mov (.s 19)⟩,
    ⟨none, none, .store sz (.s 8) (.s 21)⟩] [1, 2, 7, 8, 15, 16, 17]
def slEqfr6 (sz : Nat) (ty : Nat) (zr : List AV) (i9 : Nat) : AC := .reg [⟨(some 22), none, .mov (.s 1)⟩,
    ⟨(some 23), none, .mov (.s 7)⟩,
    ⟨(some 24), none, .iaddr sz (.s 22) (.s 23)⟩,
    ⟨(some 25), none, .load sz true (.s 24)⟩,
    ⟨(some 9), none, .alloc i9 ty zr⟩,
    ⟨none, none, .store sz (.s 9) (.s 25)⟩] [1, 2, 8, 9, 15, 16, 17]
def slEqfr7 (sz : Nat) : AC := .reg [⟨(some 26), none, .mov (.s 2)⟩,
    ⟨(some 27), none, .load sz true (.s 8)⟩,
    ⟨(some 28), none, .load sz true (.s 9)⟩,
    ⟨(some 29), none, .callv (.s 26) [(.s 27), (.s 28)]⟩,
    ⟨(some 30), none, .not (.s 29)⟩] [1, 2, 15, 16, 17, 30]
def slEqfr8 : AC := .reg [⟨(some 6), none, .mov (.c (.lit (.bool false)))⟩] [6]
def slEqfr9 : AC := .reg [⟨(some 31), none, .iop .add (.s 17) (.c (.lit (.int .i64 1)))⟩,
    ⟨(some 17), none, .mov (.s 31)⟩] [1, 2, 15, 16, 17]
def slEqfL4 (sz : Nat) (ty : Nat) (zr : List AV) (i8 : Nat) (i9 : Nat) : AC := .seq (slEqfr4) (.seq (.cond (.s 18) (.skip) (.exit 0)) (.seq (.block 1 (.seq (slEqfr5 sz ty zr i8) (.seq (slEqfr6 sz ty zr i9) (.seq (slEqfr7 sz) (.cond (.s 30) (.seq (slEqfr8) (.ret)) (.skip)))))) (slEqfr9)))
def slEqfr10 : AC := .reg [⟨(some 6), none, .mov (.c (.lit (.bool true)))⟩] [6]
def slEqf (sz : Nat) (ty : Nat) (zr : List AV) (i8 : Nat) (i9 : Nat) : AC := .seq (slEqfr0) (.seq (.seq (slEqfr1) (.cond (.s 14) (.seq (slEqfr2) (.ret)) (.skip))) (.seq (.seq (slEqfr3) (.block 0 (.loop (slEqfL4 sz ty zr i8 i9)))) (.seq (slEqfr10) (.ret))))
def slEqfR : List RD := [.tmp 6]
def slEqr0 : AC := .reg [⟨(some 4), none, .mov (.c (.lit (.bool false)))⟩] [0, 1]
def slEqr1 : AC := .reg [⟨(some 6), none, .mov (.s 0)⟩,
    ⟨(some 7), none, .len (.s 6)⟩,
    ⟨(some 8), none, .mov (.s 1)⟩,
    ⟨(some 9), none, .len (.s 8)⟩,
    ⟨(some 10), none, .iop .neq (.s 7) (.s 9)⟩] [0, 1, 10]
def slEqr2 : AC := .reg [⟨(some 4), none, .mov (.c (.lit (.bool false)))⟩] [4]
def slEqr3 : AC := .reg [⟨(some 11), none, .mov (.s 0)⟩,
    ⟨(some 12), none, .len (.s 11)⟩,
    ⟨(some 13), none, .mov (.c (.lit (.int .i64 0)))⟩] [0, 1, 12, 13]
def slEqr4 : AC := .reg [⟨(some 14), none, .iop .lss (.s 13) (.s 12)⟩] [0, 1, 12, 13, 14]
def slEqr5 : AC := .reg [⟨(some 15), none, .mov (.s 13)⟩,
    ⟨(some 5), none, .mov (.s 15)⟩] [0, 1, 5, 12, 13]
def slEqr6 (sz : Nat) (ks : List Nat) : AC := .draw [] (.take 0 ⟨(some 16), none, .mov (.s 0)⟩ <|
    .take 1 ⟨(some 17), none, .mov (.s 5)⟩ <|
    .take 2 ⟨(some 18), none, .iaddr sz (.s 16) (.s 17)⟩ <|
    .take 3 ⟨(some 19), none, .load sz true (.s 18)⟩ <|
    .take 4 ⟨(some 20), none, .mov (.s 1)⟩ <|
    .take 5 ⟨(some 21), none, .mov (.s 5)⟩ <|
    .take 6 ⟨(some 22), none, .iaddr sz (.s 20) (.s 21)⟩ <|
    .take 7 ⟨(some 23), none, .load sz true (.s 22)⟩ <|
    .take 8 ⟨(some 24), none, .seql true ks (.s 19) (.s 23)⟩ <|
    .done) [0, 1, 12, 13, 24]
def slEqr7 : AC := .reg [⟨(some 4), none, .mov (.c (.lit (.bool false)))⟩] [4]
def slEqr8 : AC := .reg [⟨(some 25), none, .iop .add (.s 13) (.c (.lit (.int .i64 1)))⟩,
    ⟨(some 13), none, .mov (.s 25)⟩] [0, 1, 12, 13]
def slEqL4 (sz : Nat) (ks : List Nat) : AC := .seq (slEqr4) (.seq (.cond (.s 14) (.skip) (.exit 0)) (.seq (.block 1 (.seq (slEqr5) (.seq (slEqr6 sz ks) (.cond (.s 24) (.seq (slEqr7) (.ret)) (.skip))))) (slEqr8)))
def slEqr9 : AC := .reg [⟨(some 4), none, .mov (.c (.lit (.bool true)))⟩] [4]
def slEq (sz : Nat) (ks : List Nat) : AC := .seq (slEqr0) (.seq (.seq (slEqr1) (.cond (.s 10) (.seq (slEqr2) (.ret)) (.skip))) (.seq (.seq (slEqr3) (.block 0 (.loop (slEqL4 sz ks)))) (.seq (slEqr9) (.ret))))
def slEqR : List RD := [.tmp 4]
def slFindCr0 (sz : Nat) (ty : Nat) (i3 : Nat) : AC := .reg [⟨(some 3), none, .box i3 ty sz (.s 0)⟩,
    ⟨(some 5), none, .mov (.c (.lit (.int .i64 0)))⟩] [1, 2, 3]
def slFindCr1 (sz : Nat) (f1 : Nat) : AC := .reg [⟨(some 6), none, .load 1 false (.s 2)⟩,
    ⟨(some 7), none, .load sz true (.s 3)⟩,
    ⟨(some 8), none, .callv (.s 6) [(.s 7)]⟩,
    ⟨(some 9), none, .mov (.s 1)⟩,
    ⟨(some 10), none, .callv (.c (.fn f1 [])) [(.s 8), (.s 9)]⟩,
    ⟨(some 5), none, .mov (.s 10)⟩] [5]
def slFindC (sz : Nat) (ty : Nat) (f1 : Nat) (i3 : Nat) : AC := .seq (slFindCr0 sz ty i3) (.seq (slFindCr1 sz f1) (.ret))
def slFindCR : List RD := [.tmp 5]
def slFindr0 (ft : Nat) (i5 : Nat) : AC := .reg [⟨(some 5), none, .box i5 ft 1 (.s 2)⟩,
    ⟨(some 6), none, .mov (.c (.lit (.int .i64 0)))⟩,
    ⟨(some 7), none, .mov (.c (.lit (.bool false)))⟩] [0, 1, 5]
def slFindr1 (f1 : Nat) (f2 : Nat) : AC := .reg [⟨(some 8), none, .mov (.s 0)⟩,
    ⟨(some 9), none, .mov (.s 1)⟩,
    ⟨(some 10), none, .mkfn f2 [(.s 5)]⟩,
    ⟨(some 11), none, .callv (.c (.fn f1 [])) [(.s 8), (.s 9), (.s 10)]⟩,
    ⟨(some 12), none, .extract 0 (.s 11)⟩,
    ⟨(some 13), none, .extract 1 (.s 11)⟩,
    ⟨(some 6), none, .mov (.s 12)⟩,
    ⟨(some 7), none, .mov (.s 13)⟩] [6, 7]
def slFind (ft : Nat) (f1 : Nat) (f2 : Nat) (i5 : Nat) : AC := .seq (slFindr0 ft i5) (.seq (slFindr1 f1 f2) (.ret))
def slFindR : List RD := [.tmp 6, .tmp 7]
def slWithr0 (sz : Nat) (ty : Nat) (i4 : Nat) : AC := .reg [⟨(some 4), none, .box i4 ty sz (.s 1)⟩,
    ⟨(some 6), none, .mov (.c (.nils sz))⟩] [0, 2, 4]
def slWithr1 (sz : Nat) (f1 : Nat) : AC := .reg [⟨(some 10), none, .mov (.s 0)⟩,
    ⟨(some 11), none, .mov (.s 2)⟩,
    ⟨(some 12), none, .load sz true (.s 4)⟩,
    ⟨(some 13), none, .callv (.s 11) [(.s 12)]⟩,
    ⟨(some 14), none, .mov (.s 2)⟩,
    ⟨(some 15), none, .callv (.c (.fn f1 [])) [(.s 10), (.s 13), (.s 14)]⟩,
    ⟨(some 9), none, .mov (.s 15)⟩,
    ⟨(some 16), none, .extract 0 (.s 9)⟩,
    ⟨(some 17), none, .extract 1 (.s 9)⟩,
    ⟨(some 7), none, .mov (.s 16)⟩,
    ⟨(some 8), none, .mov (.s 17)⟩] [0, 4, 7, 8]
def slWithr2 (f2 : Nat) : AC := .reg [⟨(some 18), none, .mov (.s 0)⟩,
    ⟨(some 19), none, .callv (.c (.fn f2 [])) [(.s 18)]⟩,
    ⟨(some 0), none, .mov (.s 19)⟩] [0, 4, 7, 8]
def slWithr3 : AC := .reg [⟨(some 20), none, .mov (.s 8)⟩,
    ⟨(some 21), none, .not (.s 20)⟩] [0, 4, 7, 21]
def slWithr4 (sz : Nat) (ty : Nat) (f3 : Nat) (i25 : Nat) : AC := .reg [⟨(some 22), none, .mov (.s 0)⟩,
    ⟨(some 23), none, .mov (.s 7)⟩,
    ⟨(some 24), none, .load sz true (.s 4)⟩,
    ⟨(some 25), none, .bslice i25 ty sz [(.s 24)]⟩,
    ⟨(some 26), none, .callv (.c (.fn f3 [])) [(.s 22), (.s 23), (.s 25)]⟩,
    ⟨(some 6), none, .mov (.s 26)⟩] [6]
def slWithr5 (sz : Nat) : AC := .reg [⟨(some 27), none, .mov (.s 0)⟩,
    ⟨(some 28), none, .mov (.s 7)⟩,
    ⟨(some 29), none, .load sz true (.s 4)⟩,
    ⟨(some 30), none, .iaddr sz (.s 27) (.s 28)⟩,
    ⟨none, none, .store sz (.s 30) (.s 29)⟩] [0]
def slWithr6 : AC := .reg [⟨(some 31), none, .mov (.s 0)⟩,
    ⟨(some 6), none, .mov (.s 31)⟩] [6]
def slWith (sz : Nat) (ty : Nat) (f1 : Nat) (f2 : Nat) (f3 : Nat) (i4 : Nat) (i25 : Nat) : AC := .seq (slWithr0 sz ty i4) (.seq (slWithr1 sz f1) (.seq (slWithr2 f2) (.seq (.seq (slWithr3) (.cond (.s 21) (.seq (slWithr4 sz ty f3 i25) (.ret)) (.skip))) (.seq (slWithr5 sz) (.seq (slWithr6) (.ret))))))
def slWithR : List RD := [.tmp 6]
def slDelr0 (sz : Nat) : AC := .reg [⟨(some 6), none, .mov (.c (.nils sz))⟩] [0, 1, 2]
def slDelr1 : AC := .reg [⟨(some 8), none, .mov (.s 0)⟩,
    ⟨(some 9), none, .mov (.s 1)⟩,
    ⟨(some 10), none, .mov (.s 2)⟩,
    ⟨(some 11), none, .mov (.s 0)⟩,
    ⟨(some 12), none, .len (.s 11)⟩,
    ⟨(some 13), none, .ext 5 [] [(.s 8), (.s 9), (.s 10), (.s 12)]⟩] [0, 1, 2]
def slDelr2 : AC := .reg [⟨(some 14), none, .mov (.s 1)⟩,
    ⟨(some 15), none, .mov (.s 2)⟩,
    ⟨(some 16), none, .iop .eql (.s 14) (.s 15)⟩] [0, 1, 2, 16]
def slDelr3 : AC := .reg [⟨(some 17), none, .mov (.s 0)⟩,
    ⟨(some 6), none, .mov (.s 17)⟩] [6]
def slDelr4 : AC := .reg [⟨(some 18), none, .mov (.s 0)⟩,
    ⟨(some 19), none, .len (.s 18)⟩,
    ⟨(some 7), none, .mov (.s 19)⟩] [0, 1, 2, 7]
def slDelr5 (x1 : Nat) (sz : Nat) (ty : Nat) (bz : Nat) : AC := .draw [x1] (.take 0 ⟨(some 20), none, .mov (.s 0)⟩ <|
    .take 1 ⟨(some 21), none, .mov (.s 1)⟩ <|
    .take 2 ⟨(some 22), none, .slice sz (.s 20) none (some (.s 21))⟩ <|
    .take 3 ⟨(some 23), none, .mov (.s 0)⟩ <|
    .take 4 ⟨(some 24), none, .mov (.s 2)⟩ <|
    .take 5 ⟨(some 25), none, .slice sz (.s 23) (some (.s 24)) none⟩ <|
    .alt 6 ⟨(some 26), none, .ext 4 [ty, sz, bz] [(.s 22), (.s 25)]⟩ (
    .take 7 ⟨(some 0), none, .mov (.s 26)⟩ <|
    .done) .done) [0, 7]
def slDelr6 (sz : Nat) (ty : Nat) (bz : Nat) : AC := .reg [⟨(some 27), none, .mov (.s 0)⟩,
    ⟨(some 28), none, .mov (.s 0)⟩,
    ⟨(some 29), none, .len (.s 28)⟩,
    ⟨(some 30), none, .mov (.s 7)⟩,
    ⟨(some 31), none, .slice sz (.s 27) (some (.s 29)) (some (.s 30))⟩,
    ⟨none, none, .ext 2 [ty, sz, bz] [(.s 31)]⟩] [0]
def slDelr7 : AC := .reg [⟨(some 32), none, .mov (.s 0)⟩,
    ⟨(some 6), none, .mov (.s 32)⟩] [6]
def slDel (x1 : Nat) (sz : Nat) (ty : Nat) (bz : Nat) : AC := .seq (slDelr0 sz) (.seq (slDelr1) (.seq (.seq (slDelr2) (.cond (.s 16) (.seq (slDelr3) (.ret)) (.skip))) (.seq (slDelr4) (.seq (slDelr5 x1 sz ty bz) (.seq (slDelr6 sz ty bz) (.seq (slDelr7) (.ret)))))))
def slDelR : List RD := [.tmp 6]
def slRisesr0 : AC := .reg [⟨(some 4), none, .mov (.c (.lit (.bool false)))⟩] [0, 1]
def slRisesr1 : AC := .reg [⟨(some 7), none, .mov (.s 0)⟩,
    ⟨(some 8), none, .len (.s 7)⟩,
    ⟨(some 9), none, .mov (.c (.lit (.int .i64 0)))⟩] [0, 1, 7, 8, 9]
def slRisesr2 : AC := .reg [⟨(some 10), none, .iop .lss (.s 9) (.s 8)⟩] [0, 1, 7, 8, 9, 10]
def slRisesr3 (sz : Nat) (ty : Nat) (zr : List AV) (i6 : Nat) : AC := .reg [⟨(some 11), none, .mov (.s 9)⟩,
    ⟨(some 12), none, .iaddr sz (.s 7) (.s 9)⟩,
    ⟨(some 13), none, .load sz true (.s 12)⟩,
    ⟨(some 6), none, .alloc i6 ty zr⟩,
    ⟨(some 5), none, .mov (.s 11)⟩,
    ⟨none, none, .store sz (.s 6) (.s 13)⟩] [0, 1, 5, 6, 7, 8, 9]
def slRisesr4 (sz : Nat) : AC := .draw [] (.take 0 ⟨(some 14), none, .mov (.s 5)⟩ <|
    .take 1 ⟨(some 15), none, .iop .gtr (.s 14) (.c (.lit (.int .i64 0)))⟩ <|
    .take 2 ⟨(some 16), none, .mov (.s 15)⟩ <|
    .take 3 ⟨(some 17), (some (16, true)), .mov (.s 1)⟩ <|
    .take 4 ⟨(some 18), (some (16, true)), .load sz true (.s 6)⟩ <|
    .take 6 ⟨(some 20), (some (16, true)), .mov (.s 1)⟩ <|
    .take 7 ⟨(some 21), (some (16, true)), .mov (.s 0)⟩ <|
    .take 8 ⟨(some 22), (some (16, true)), .mov (.s 5)⟩ <|
    .take 9 ⟨(some 23), (some (16, true)), .iop .sub (.s 22) (.c (.lit (.int .i64 1)))⟩ <|
    .take 10 ⟨(some 24), (some (16, true)), .iaddr sz (.s 21) (.s 23)⟩ <|
    .take 11 ⟨(some 25), (some (16, true)), .load sz true (.s 24)⟩ <|
    .alt 5 ⟨(some 19), (some (16, true)), .callv (.s 17) [(.s 18)]⟩ (
    .alt 12 ⟨(some 26), (some (16, true)), .callv (.s 20) [(.s 25)]⟩ (
    .take 13 ⟨(some 27), (some (16, true)), .iop .leq (.s 19) (.s 26)⟩ <|
    .take 14 ⟨(some 28), none, .pick (.s 16) (.s 27) (.c (.lit (.bool false)))⟩ <|
    .done) .done) .done) [0, 1, 7, 8, 9, 28]
def slRisesr5 : AC := .reg [⟨(some 4), none, .mov (.c (.lit (.bool false)))⟩] [4]
def slRisesr6 : AC := .reg [⟨(some 29), none, .iop .add (.s 9) (.c (.lit (.int .i64 1)))⟩,
    ⟨(some 9), none, .mov (.s 29)⟩] [0, 1, 7, 8, 9]
def slRisesL2 (sz : Nat) (ty : Nat) (zr : List AV) (i6 : Nat) : AC := .seq (slRisesr2) (.seq (.cond (.s 10) (.skip) (.exit 0)) (.seq (.block 1 (.seq (slRisesr3 sz ty zr i6) (.seq (slRisesr4 sz) (.cond (.s 28) (.seq (slRisesr5) (.ret)) (.skip))))) (slRisesr6)))
def slRisesr7 : AC := .reg [⟨(some 4), none, .mov (.c (.lit (.bool true)))⟩] [4]
def slRises (sz : Nat) (ty : Nat) (zr : List AV) (i6 : Nat) : AC := .seq (slRisesr0) (.seq (.seq (slRisesr1) (.block 0 (.loop (slRisesL2 sz ty zr i6)))) (.seq (slRisesr7) (.ret)))
def slRisesR : List RD := [.tmp 4]
section
variable {P : Program} {f sz ty bz : Nat}
abbrev DoesP (P : Program) (f : Nat) (args : List AV) (r : AV) : Prop := Does P f args [] [] (fun r' m => m = [] ∧ r' = r)
theorem runL_fun {nt : Nat} {c : Ctx} {st : St} {g : Nat} {fs : Src} {xs : List Src} {d : Option Nat} {caps args : List AV} {v : AV} {k : St → Prop} {r : List It} (hf : st.src fs = some (.fn g caps)) (hx : srcsOf st.src xs = some args)
    (hD : DoesP P g (args ++ caps) v) (hr : refsInL (fun _ => False) (args ++ caps)) (hn : noTree v = true) (hk : runL P c nt r (st.put? d v) k) : runL P c nt (⟨d, none, .callv fs xs⟩ :: r) st k :=
  runL_view (stF := { st with fixed := [] }) (St.le_refl _) hf (show (srcsOf st.src xs).map (· ++ caps) = some (args ++ caps) by rw [hx]; rfl) hD hr (fun rv m1 ⟨hm, he⟩ => by subst hm; subst he; exact ⟨rfl, hn, hk⟩)
theorem runP_fun {nt : Nat} {c : Ctx} {st : St} {X : List Nat} {i : Nat} {p : Plan} {g : Nat} {fs : Src} {xs : List Src} {d : Option Nat} {caps args : List AV} {v : AV} {k : St → Prop} (hf : st.src fs = some (.fn g caps)) (hx : srcsOf st.src xs = some args)
    (hD : DoesP P g (args ++ caps) v) (hr : refsInL (fun _ => False) (args ++ caps)) (hn : noTree v = true) (hk : runP P c nt X p (st.put? d v) k) : runP P c nt X (.alt i ⟨d, none, .callv fs xs⟩ p .done) st k :=
  runP_view (stF := { st with fixed := [] }) (St.le_refl _) hf (show (srcsOf st.src xs).map (· ++ caps) = some (args ++ caps) by rw [hx]; rfl) hD hr (fun rv m1 ⟨hm, he⟩ => by subst hm; subst he; exact ⟨rfl, hn, hk⟩)
theorem dClone {i5 i7 : Nat} (hch : chkFn P f 8 1 (slClone sz ty bz i5 i7) slCloneR = true) {es : List (List AV)} (hs : 0 < sz) (hb : es.length * bz ≤ 140737488355328) : Does P f [.ro sz es] [] [] (fun r m => r = .own i5 sz 0 es.length ∧ m = [(i5, .arr ty sz es)]) := by
  refine Does.of (nt := 8) (ac := (slClone sz ty bz i5 i7)) (rds := slCloneR) hch (fun c hc => ?_)
  unfold slClone
  apply J.seq
  refine J.regE (by simp; rfl) ?_
  simp
  apply J.seq
  apply J.seq
  refine J.regC (by simp; exact ⟨rfl, rfl⟩) ?_
  refine runL_ext (extK_isnil (sz := sz) (es := es) (by simp) (fun t ht => ?_))
  refine runL_end (by simp; rfl) ?_
  simp
  apply J.cond; simp
  refine ⟨fun hn => ?_, fun hn => ?_⟩
  ·
    apply J.seq
    refine J.regE (by simp; rfl) ?_
    simp
    refine J.nilrow hc 2 i5 ty rfl rfl rfl ?_
    apply J.ret
    refine ⟨by simp, rfl, _, [(i5, .arr ty sz [])], by simp [slCloneR]; rfl, ?_⟩
    simp [ht hn]
  ·
    apply J.skip; simp
    apply J.seq
    refine J.regE (by simp [hb, hs]; rfl) ?_
    simp
    apply J.ret
    refine ⟨by simp, rfl, _, [(i5, .arr ty sz es)], by simp [slCloneR]; rfl, ?_⟩
    simp
theorem dCloneT {i5 : Nat} {es : List (List AV)} (hs : 0 < sz) (h : Does P f [.ro sz es] [] [] (fun r m => r = .own i5 sz 0 es.length ∧ m = [(i5, .arr ty sz es)])) : DoesP P f [.ro sz es] (.ro sz es) :=
  h.tree _ (fun r m ⟨h1, h2⟩ A ρ' w' v hM hv => by subst h1; subst h2; exact .tree (own_tree hs hM (by simp [look]; rfl) hv rfl))
theorem ref_tree {S : Nat → Prop} : ∀ {x : AV}, isTree x = true → refsIn S x
  | .lit _, _ => trivial
  | .nils _, _ => trivial
  | .ro _ _, _ => trivial
  | .fn _ [], _ => trivial
theorem refs_tree {S : Nat → Prop} : ∀ {e : List AV}, e.all isTree = true → refsInL S e
  | [], _ => trivial
  | x :: r, h => by simp only [List.all_cons, Bool.and_eq_true] at h; exact ⟨ref_tree h.1, refs_tree h.2⟩
theorem cells_tree {e : List AV} (h : e.all isTree = true) : e.all isCell = true := List.all_eq_true.2 fun x hx => tree_cell (List.all_eq_true.1 h x hx)
structure Rows (sz : Nat) (es : List (List AV)) : Prop where
  len : ∀ e ∈ es, e.length = sz
  tree : ∀ e ∈ es, e.all isTree = true
  few : es.length < 1000000
theorem Rows.get {sz : Nat} {es : List (List AV)} (h : Rows sz es) {i : Nat} (hi : i < es.length) : ∃ e, es[i]? = some e ∧ e ∈ es ∧ (∀ h, es[i]'h = e) ∧ e.take sz = e ∧ e.length = sz ∧ refsInL (fun _ => False) e ∧ es.drop i = e :: es.drop (i + 1) :=
  ⟨es[i], List.getElem?_eq_getElem hi, List.getElem_mem hi, fun _ => rfl, List.take_of_length_le (by rw [h.len _ (List.getElem_mem hi)]; exact Nat.le_refl _), h.len _ (List.getElem_mem hi), refs_tree (h.tree _ (List.getElem_mem hi)), List.drop_eq_getElem_cons hi⟩
def idxF (p : List AV → Bool) : List (List AV) → Nat → Int
  | [], _ => -1
  | e :: r, i => if p e = true then i else idxF p r (i + 1)
theorem idxF_pos (p : List AV → Bool) : ∀ (l : List (List AV)) (i : Nat), decide (0 ≤ idxF p l i) = l.any p
  | [], _ => by simp [idxF]
  | e :: r, i => by
    simp only [idxF, List.any_cons]
    split
    · rename_i h; simp [h]
    · rename_i h; rw [idxF_pos p r]; simp [h]
def IIdx (p : List AV → Bool) (sz : Nat) (es : List (List AV)) (g : Nat) (caps : List AV) (m : Nat) (st : St) : Prop := ∃ i : Nat, i ≤ es.length ∧ m = es.length - i ∧ idxF p es 0 = idxF p (es.drop i) i ∧ st = ⟨[(0, .ro sz es), (1, .fn g caps), (7, iv (es.length : Nat)), (8, iv (i : Nat))], [], []⟩
theorem dIdx (hch : chkFn P f 19 2 (slIdx sz) slIdxR = true) {es : List (List AV)} {g : Nat} {caps : List AV} (p : List AV → Bool) (hs : 0 < sz) (hR : Rows sz es) (hcap : refsInL (fun _ => False) caps) (hg : ∀ e ∈ es, DoesP P g (.agg e :: caps) (bv (p e))) : DoesP P f [.ro sz es, .fn g caps] (iv (idxF p es 0)) := by
  refine Does.of (nt := 19) (ac := (slIdx sz)) (rds := slIdxR) hch (fun c hc => ?_)
  unfold slIdx
  apply J.seq
  refine J.regE (by simp; rfl) ?_
  simp
  apply J.seq
  apply J.seq
  refine J.regE (by simp; rfl) ?_
  simp
  apply J.block
  refine J.loop hc (IIdx p sz es g caps) ?_ ?_
  · exact ⟨_, _, St.le_refl _, 0, by omega, rfl, rfl, by simp⟩
  rintro n st ⟨i, hi, rfl, hI, rfl⟩
  apply J.seq
  refine J.regE (by simp; rfl) ?_
  simp
  apply J.seq
  apply J.cond; simp
  refine ⟨fun hlt => ?_, fun hlt => ?_⟩
  ·
    obtain ⟨e, he, hmem, hge, htk, hel, hre, hdr⟩ := hR.get (show i < es.length by omega)
    have hw : IntKind.i64.wrap ((i : Int) + 1) = (i : Int) + 1 := wrap_id (by have := hR.few; omega) (by have := hR.few; omega)
    have hlt2 : (i : Int) < (es.length : Int) := by omega
    rw [hdr] at hI
    apply J.skip; simp
    apply J.seq
    apply J.block
    apply J.seq
    refine J.regE (by simp; rfl) ?_
    simp
    apply J.seq
    apply J.reg
    iterate 5 refine runL_step rfl (by simp [hlt2, he, htk, hel]; rfl) ?_
    refine runL_fun rfl rfl (hg e hmem) (by simp [hcap, hre]) rfl ?_
    simp [runL]
    refine J.condB rfl (fun hb => ?_) (fun hb => ?_)
    ·
      have hI2 : idxF p es 0 = i := by rw [hI]; simp [idxF, hb]
      apply J.seq
      refine J.regE (by simp; rfl) ?_
      simp
      apply J.ret
      refine ⟨by simp, rfl, _, [], by simp [slIdxR]; rfl, ?_⟩
      simp [hI2]
    ·
      have hI2 : idxF p es 0 = idxF p (es.drop (i + 1)) (i + 1) := by rw [hI]; simp [idxF, hb]
      apply J.skip; simp
      refine J.regE (by simp [hw]; rfl) ?_
      simp
      refine ⟨_, by omega, _, ?_, i + 1, by omega, rfl, hI2, rfl⟩
      apply le_sub <;> simp [hcap]
  ·
    have hie : i = es.length := by omega
    subst hie
    apply J.exit; simp
    apply J.seq
    refine J.regE (by simp; rfl) ?_
    simp
    apply J.ret
    refine ⟨by simp, rfl, _, [], by simp [slIdxR]; rfl, ?_⟩
    simp [hI, idxF]
theorem dCon {f1 : Nat} (hch : chkFn P f 9 2 (slCon f1) slConR = true) {es : List (List AV)} {g : Nat} {caps : List AV} {p : List AV → Bool} (hcap : refsInL (fun _ => False) caps) (hg : DoesP P f1 [.ro sz es, .fn g caps] (iv (idxF p es 0))) : DoesP P f [.ro sz es, .fn g caps] (bv (es.any p)) := by
  refine Does.of (nt := 9) (ac := (slCon f1)) (rds := slConR) hch (fun c hc => ?_)
  unfold slCon
  apply J.seq
  refine J.regE (by simp; rfl) ?_
  simp
  apply J.seq
  apply J.reg
  iterate 2 refine runL_step rfl (by simp; rfl) ?_
  refine runL_fun rfl rfl (by simpa using hg) (by simp [hcap]) rfl ?_
  iterate 2 refine runL_step rfl (by simp [idxF_pos]; rfl) ?_
  simp [runL]
  apply J.ret
  refine ⟨by simp, rfl, _, [], by simp [slConR]; rfl, ?_⟩
  simp
def eqL (q : List AV → List AV → Bool) : List (List AV) → List (List AV) → Bool
  | [], [] => true
  | x :: r, y :: s => q x y && eqL q r s
  | _, _ => false
theorem eqL_len {q : List AV → List AV → Bool} : ∀ {a b : List (List AV)}, a.length ≠ b.length → eqL q a b = false
  | [], [], h => absurd rfl h
  | [], _ :: _, _ => rfl
  | _ :: _, [], _ => rfl
  | x :: r, y :: s, h => by simp only [eqL]; rw [eqL_len (a := r) (b := s) (fun h' => h (by simp [h']))]; simp
def IEq (q : List AV → List AV → Bool) (sz : Nat) (a b : List (List AV)) (m : Nat) (st : St) : Prop := ∃ i : Nat, i ≤ a.length ∧ m = a.length - i ∧ eqL q a b = eqL q (a.drop i) (b.drop i) ∧ st = ⟨[(0, .ro sz a), (1, .ro sz b), (12, iv (a.length : Nat)), (13, iv (i : Nat))], [], []⟩
def IEqf (q : List AV → List AV → Bool) (sz : Nat) (a b : List (List AV)) (g : Nat) (caps : List AV) (m : Nat) (st : St) : Prop := ∃ i : Nat, i ≤ a.length ∧ m = a.length - i ∧ eqL q a b = eqL q (a.drop i) (b.drop i) ∧ st = ⟨[(1, .ro sz b), (2, .fn g caps), (15, .ro sz a), (16, iv (a.length : Nat)), (17, iv (i : Nat))], [], []⟩
theorem dEq {ks : List Nat} (hch : chkFn P f 26 2 (slEq sz ks) slEqR = true) {a b : List (List AV)} (q : List AV → List AV → Bool) (hs : 0 < sz) (hA : Rows sz a) (hB : Rows sz b) (hq : ∀ x ∈ a, ∀ y ∈ b, eqA ks x y = some (q x y)) : DoesP P f [.ro sz a, .ro sz b] (bv (eqL q a b)) := by
  refine Does.of (nt := 26) (ac := (slEq sz ks)) (rds := slEqR) hch (fun c hc => ?_)
  unfold slEq
  apply J.seq
  refine J.regE (by simp; rfl) ?_
  simp
  apply J.seq
  apply J.seq
  refine J.regE (by simp; rfl) ?_
  simp
  apply J.cond; simp
  refine ⟨fun hlen => ?_, fun hlen => ?_⟩
  ·
    apply J.seq
    refine J.regE (by simp; rfl) ?_
    simp
    apply J.ret
    refine ⟨by simp, rfl, _, [], by simp [slEqR]; rfl, ?_⟩
    simp [eqL_len (q := q) (a := a) (b := b) (by omega)]
  ·
    have hlen' : a.length = b.length := by omega
    apply J.skip; simp
    apply J.seq
    apply J.seq
    refine J.regE (by simp; rfl) ?_
    simp
    apply J.block
    refine J.loop hc (IEq q sz a b) ?_ ?_
    · exact ⟨_, _, St.le_refl _, 0, by omega, rfl, rfl, by simp⟩
    rintro n st ⟨i, hi, rfl, hI, rfl⟩
    apply J.seq
    refine J.regE (by simp; rfl) ?_
    simp
    apply J.seq
    apply J.cond; simp
    refine ⟨fun hlt => ?_, fun hlt => ?_⟩
    ·
      obtain ⟨e, he, hmem, hge, htk, hel, hre, hdr⟩ := hA.get (show i < a.length by omega)
      obtain ⟨e2, he2, hmem2, hge2, htk2, hel2, hre2, hdr2⟩ := hB.get (show i < b.length by omega)
      have hw : IntKind.i64.wrap ((i : Int) + 1) = (i : Int) + 1 := wrap_id (by have := hA.few; omega) (by have := hA.few; omega)
      have hlt2 : (i : Int) < (a.length : Int) := by omega
      have hlt3 : (i : Int) < (b.length : Int) := by omega
      rw [hdr, hdr2] at hI
      apply J.skip; simp
      apply J.seq
      apply J.block
      apply J.seq
      refine J.regE (by simp; rfl) ?_
      simp
      apply J.seq
      apply J.draw; intro c' hc'
      iterate 9 refine runP_step rfl (by simp [hlt2, hlt3, he, he2, htk, htk2, hel, hel2, hq e hmem e2 hmem2]; rfl) ?_
      simp [runP]
      refine J.condB rfl (fun hb => ?_) (fun hb => ?_)
      ·
        simp at hb
        have hI2 : eqL q a b = false := by rw [hI]; simp [eqL, hb]
        apply J.seq
        refine J.regE (by simp; rfl) ?_
        simp
        apply J.ret
        refine ⟨by simp, rfl, _, [], by simp [slEqR]; rfl, ?_⟩
        simp [hI2]
      ·
        simp at hb
        have hI2 : eqL q a b = eqL q (a.drop (i + 1)) (b.drop (i + 1)) := by rw [hI]; simp [eqL, hb]
        apply J.skip; simp
        refine J.regE (by simp [hw]; rfl) ?_
        simp
        refine ⟨_, by omega, _, ?_, i + 1, by omega, rfl, hI2, rfl⟩
        apply le_sub <;> simp
    ·
      have hie : i = a.length := by omega
      subst hie
      have hI2 : eqL q a b = true := by rw [hI, List.drop_length, List.drop_of_length_le (by omega)]; rfl
      apply J.exit; simp
      apply J.seq
      refine J.regE (by simp; rfl) ?_
      simp
      apply J.ret
      refine ⟨by simp, rfl, _, [], by simp [slEqR]; rfl, ?_⟩
      simp [hI2]
theorem dEqf {i8 i9 : Nat} {zr : List AV} (hch : chkFn P f 32 3 (slEqf sz ty zr i8 i9) slEqfR = true) {a b : List (List AV)} {g : Nat} {caps : List AV} (q : List AV → List AV → Bool) (hs : 0 < sz) (hid : i8 ≠ i9) (hzr : zr.length = sz) (hA : Rows sz a) (hB : Rows sz b) (hcap : refsInL (fun _ => False) caps) (hq : ∀ x ∈ a, ∀ y ∈ b, DoesP P g (.agg x :: .agg y :: caps) (bv (q x y))) : DoesP P f [.ro sz a, .ro sz b, .fn g caps] (bv (eqL q a b)) := by
  refine Does.of (nt := 32) (ac := (slEqf sz ty zr i8 i9)) (rds := slEqfR) hch (fun c hc => ?_)
  unfold slEqf
  apply J.seq
  refine J.regE (by simp; rfl) ?_
  simp
  apply J.seq
  apply J.seq
  refine J.regE (by simp; rfl) ?_
  simp
  apply J.cond; simp
  refine ⟨fun hlen => ?_, fun hlen => ?_⟩
  ·
    apply J.seq
    refine J.regE (by simp; rfl) ?_
    simp
    apply J.ret
    refine ⟨by simp, rfl, _, [], by simp [slEqfR]; rfl, ?_⟩
    simp [eqL_len (q := q) (a := a) (b := b) (by omega)]
  ·
    have hlen' : a.length = b.length := by omega
    apply J.skip; simp
    apply J.seq
    apply J.seq
    refine J.regE (by simp; rfl) ?_
    simp
    apply J.block
    refine J.loop hc (IEqf q sz a b g caps) ?_ ?_
    · exact ⟨_, _, St.le_refl _, 0, by omega, rfl, rfl, by simp⟩
    rintro n st ⟨i, hi, rfl, hI, rfl⟩
    apply J.seq
    refine J.regE (by simp; rfl) ?_
    simp
    apply J.seq
    apply J.cond; simp
    refine ⟨fun hlt => ?_, fun hlt => ?_⟩
    ·
      obtain ⟨e, he, hmem, hge, htk, hel, hre, hdr⟩ := hA.get (show i < a.length by omega)
      obtain ⟨e2, he2, hmem2, hge2, htk2, hel2, hre2, hdr2⟩ := hB.get (show i < b.length by omega)
      have hw : IntKind.i64.wrap ((i : Int) + 1) = (i : Int) + 1 := wrap_id (by have := hA.few; omega) (by have := hA.few; omega)
      have hlt2 : (i : Int) < (a.length : Int) := by omega
      have hlt3 : (i : Int) < (b.length : Int) := by omega
      rw [hdr, hdr2] at hI
      have hzd : zr.drop sz = [] := List.drop_of_length_le (by omega)
      have hc1 := cells_tree (hA.tree e hmem)
      have hc2 := cells_tree (hB.tree e2 hmem2)
      rw [List.all_eq_true] at hc1 hc2
      apply J.skip; simp
      apply J.seq
      apply J.block
      apply J.seq
      apply J.reg
      iterate 5 refine runL_step rfl (by simp [hlt2, he, htk, hel]; rfl) ?_
      refine runL_step rfl (by simp [hel, hzr, hzd, htk]; exact ⟨hc1, rfl⟩) ?_
      simp [runL]
      apply J.seq
      apply J.reg
      iterate 5 refine runL_step rfl (by simp [hlt3, he2, htk2, hel2, hid, Ne.symm hid]; rfl) ?_
      refine runL_step rfl (by simp [hel2, hzr, hzd, htk2, hid, Ne.symm hid]; exact ⟨hc2, rfl⟩) ?_
      simp [runL, hid, Ne.symm hid]
      apply J.seq
      apply J.reg
      iterate 3 refine runL_step rfl (by simp [hlt2, he, htk, hel, htk2, hel2, hid]; rfl) ?_
      refine runL_fun rfl rfl (hq e hmem e2 hmem2) (by simp [hcap, hre, hre2]) rfl ?_
      iterate 1 refine runL_step rfl (by simp; rfl) ?_
      simp [runL]
      refine J.condB rfl (fun hb => ?_) (fun hb => ?_)
      ·
        simp at hb
        have hI2 : eqL q a b = false := by rw [hI]; simp [eqL, hb]
        apply J.seq
        refine J.regE (by simp; rfl) ?_
        simp
        apply J.ret
        refine ⟨by simp, rfl, _, [], by simp [slEqfR]; rfl, ?_⟩
        simp [hI2]
      ·
        simp at hb
        have hI2 : eqL q a b = eqL q (a.drop (i + 1)) (b.drop (i + 1)) := by rw [hI]; simp [eqL, hb]
        apply J.skip; simp
        refine J.regE (by simp [hw]; rfl) ?_
        simp
        refine ⟨_, by omega, _, ?_, i + 1, by omega, rfl, hI2, rfl⟩
        apply le_sub <;> simp [hcap]
    ·
      have hie : i = a.length := by omega
      subst hie
      have hI2 : eqL q a b = true := by rw [hI, List.drop_length, List.drop_of_length_le (by omega)]; rfl
      apply J.exit; simp
      apply J.seq
      refine J.regE (by simp; rfl) ?_
      simp
      apply J.ret
      refine ⟨by simp, rfl, _, [], by simp [slEqfR]; rfl, ?_⟩
      simp [hI2]
def bsG (lt : Nat → Bool) : Nat → Nat → Nat → Nat
  | 0, i, _ => i
  | n + 1, i, j => if i < j then (if lt ((i + j) / 2) = true then bsG lt n ((i + j) / 2 + 1) j else bsG lt n i ((i + j) / 2)) else i
theorem bsG_fuel (lt : Nat → Bool) : ∀ n m i j, j - i ≤ n → j - i ≤ m → bsG lt n i j = bsG lt m i j
  | 0, 0, i, j, _, _ => rfl
  | 0, m + 1, i, j, h, _ => by simp only [bsG]; rw [if_neg (by omega)]
  | n + 1, 0, i, j, _, h => by simp only [bsG]; rw [if_neg (by omega)]
  | n + 1, m + 1, i, j, h1, h2 => by
    simp only [bsG]
    split
    · split
      · exact bsG_fuel lt n m _ _ (by omega) (by omega)
      · exact bsG_fuel lt n m _ _ (by omega) (by omega)
    · rfl
theorem bsG_in (lt : Nat → Bool) : ∀ n i j, i ≤ j → i ≤ bsG lt n i j ∧ bsG lt n i j ≤ j
  | 0, i, j, h => ⟨Nat.le_refl _, h⟩
  | n + 1, i, j, h => by
    simp only [bsG]
    split
    · split
      · have := bsG_in lt n ((i + j) / 2 + 1) j (by omega); omega
      · have := bsG_in lt n i ((i + j) / 2) (by omega); omega
    · omega
theorem bsG_at (lt : Nat → Bool) (p : Nat) (h1 : ∀ q, q < p → lt q = true) : ∀ n i j, j - i ≤ n → i ≤ p → p ≤ j → (∀ q, p ≤ q → q < j → lt q = false) → bsG lt n i j = p
  | 0, i, j, hn, hi, hj, _ => by simp only [bsG]; omega
  | n + 1, i, j, hn, hi, hj, h2 => by
    simp only [bsG]
    split
    · split
      · rename_i h
        refine bsG_at lt p h1 n _ _ (by omega) ?_ hj h2
        rcases Nat.lt_or_ge ((i + j) / 2) p with h3 | h3
        · omega
        · rw [h2 _ h3 (by omega)] at h; cases h
      · rename_i h
        refine bsG_at lt p h1 n _ _ (by omega) hi ?_ (fun q hq hqj => h2 q hq (by omega))
        rcases Nat.lt_or_ge ((i + j) / 2) p with h3 | h3
        · exact absurd (h1 _ h3) h
        · exact h3
    · omega
def ltL (c : List AV → Int) (es : List (List AV)) (m : Nat) : Bool := match es[m]? with | some e => decide (c e < 0) | none => false
def bsL (c : List AV → Int) (es : List (List AV)) : Nat := bsG (ltL c es) es.length 0 es.length
def bsF (c : List AV → Int) (es : List (List AV)) : Bool := match es[bsL c es]? with | some e => decide (c e = 0) | none => false
theorem bsL_le (c : List AV → Int) (es : List (List AV)) : bsL c es ≤ es.length := (bsG_in _ _ _ _ (Nat.zero_le _)).2
def IBs (cf : List AV → Int) (sz : Nat) (es : List (List AV)) (y : AV) (g : Nat) (caps : List AV) (m : Nat) (st : St) : Prop := ∃ i j : Nat, i ≤ j ∧ j ≤ es.length ∧ m = j - i ∧ bsL cf es = bsG (ltL cf es) (j - i) i j ∧ st = ⟨[(0, .ro sz es), (1, y), (2, .fn g caps), (8, iv (es.length : Nat)), (9, iv (i : Nat)), (10, iv (j : Nat))], [], []⟩
theorem half_wrap {i j m : Nat} (hm : m = (i + j) / 2) (hi : i < 1000000) (hj : j < 1000000) : IntKind.i64.wrap ((i : Int) + j) = ((i + j : Nat) : Int) ∧ IntKind.i64.wrap ((IntKind.u64.wrap ((i : Int) + j)).fdiv (2 ^ min 1 IntKind.u64.bits)) = (m : Int) := by
  have hw2 : IntKind.u64.wrap ((i : Int) + j) = (i : Int) + j := IntWalk.u64_in _ ⟨by omega, by omega⟩
  refine ⟨by rw [wrap_id (by omega) (by omega)]; omega, ?_⟩
  rw [hw2, show (2 : Int) ^ min 1 IntKind.u64.bits = 2 from rfl, Int.fdiv_eq_ediv_of_nonneg _ (by omega), wrap_id (by omega) (by omega)]; omega
theorem dBsf (hch : chkFn P f 49 3 (slBsf sz) slBsfR = true) {es : List (List AV)} {y : AV} {g : Nat} {caps : List AV} (cf : List AV → Int) (hs : 0 < sz) (hR : Rows sz es) (hy : refsIn (fun _ => False) y) (hcap : refsInL (fun _ => False) caps) (hg : ∀ e ∈ es, DoesP P g (.agg e :: y :: caps) (iv (cf e))) : DoesP P f [.ro sz es, y, .fn g caps] (.tup [iv (bsL cf es : Nat), bv (bsF cf es)]) := by
  have hfew := hR.few
  have hple := bsL_le cf es
  refine Does.of (nt := 49) (ac := (slBsf sz)) (rds := slBsfR) hch (fun c hc => ?_)
  unfold slBsf
  apply J.seq
  refine J.regE (by simp; rfl) ?_
  simp
  apply J.seq
  refine J.regE (by simp; rfl) ?_
  simp
  apply J.seq
  refine J.regE (by simp; rfl) ?_
  simp
  apply J.seq
  apply J.block
  refine J.loop hc (IBs cf sz es y g caps) ?_ ?_
  · exact ⟨_, _, St.le_refl _, 0, es.length, by omega, by omega, rfl, rfl, by simp⟩
  rintro n st ⟨i, j, hij, hj, rfl, hI, rfl⟩
  apply J.seq
  apply J.seq
  refine J.regE (by simp; rfl) ?_
  simp
  apply J.cond; simp
  refine ⟨fun hlt => ?_, fun hlt => ?_⟩
  ·
    obtain ⟨m, hm⟩ : ∃ m : Nat, m = (i + j) / 2 := ⟨_, rfl⟩
    obtain ⟨hw1, hw3⟩ := half_wrap hm (by omega) (by omega)
    obtain ⟨e, he, hmem, hge, htk, hel, hre, hdr⟩ := hR.get (show m < es.length by omega)
    have hwm : IntKind.i64.wrap ((m : Int) + 1) = (m : Int) + 1 := wrap_id (by omega) (by omega)
    have hlt2 : (m : Int) < (es.length : Int) := by omega
    obtain ⟨k, hk⟩ : ∃ k, j - i = k + 1 := ⟨j - i - 1, by omega⟩
    rw [hk] at hI
    simp only [bsG, ← hm, ltL, he, if_pos hlt, decide_eq_true_eq] at hI
    apply J.skip; simp
    apply J.block
    apply J.seq
    refine J.regE (by simp [hw1, hw3]; rfl) ?_
    simp
    apply J.seq
    apply J.reg
    iterate 6 refine runL_step rfl (by simp [hlt2, he, hge, htk, hel]; rfl) ?_
    refine runL_fun rfl rfl (hg e hmem) (by simp [hcap, hre, hy]) rfl ?_
    iterate 1 refine runL_step rfl (by simp; rfl) ?_
    simp [runL]
    apply J.cond; simp
    refine ⟨fun hb => ?_, fun hb => ?_⟩
    ·
      rw [if_pos hb] at hI
      have hI2 : bsL cf es = bsG (ltL cf es) (j - (m + 1)) (m + 1) j := by rw [hI]; exact bsG_fuel _ _ _ _ _ (by omega) (by omega)
      refine J.regE (by simp [hwm]; rfl) ?_
      simp
      refine ⟨_, ?_, _, ?_, m + 1, j, by omega, hj, rfl, hI2, rfl⟩
      · omega
      · apply le_sub <;> simp [hy, hcap]
    ·
      rw [if_neg (by omega)] at hI
      have hI2 : bsL cf es = bsG (ltL cf es) (m - i) i m := by rw [hI]; exact bsG_fuel _ _ _ _ _ (by omega) (by omega)
      refine J.regE (by simp; rfl) ?_
      simp
      refine ⟨_, ?_, _, ?_, i, m, by omega, by omega, rfl, hI2, rfl⟩
      · omega
      · apply le_sub <;> simp [hy, hcap]
  ·
    have hji : j = i := by omega
    subst hji
    have hp : bsL cf es = j := by rw [hI]; simp [bsG]
    apply J.exit; simp
    apply J.seq
    by_cases hil : j < es.length
    ·
      obtain ⟨e, he, hmem, hge, htk, hel, hre, hdr⟩ := hR.get hil
      apply J.reg
      iterate 11 refine runL_step rfl (by simp [hil, he, hge, htk, hel]; rfl) ?_
      refine runL_do rfl ?_
      refine runL_fun rfl rfl (hg e hmem) (by simp [hcap, hre, hy]) rfl ?_
      iterate 4 refine runL_step rfl (by simp; rfl) ?_
      simp [runL]
      have hf : bsF cf es = decide (cf e = 0) := by simp [bsF, hp, he]
      apply J.ret
      refine ⟨by simp, rfl, _, [], by simp [slBsfR]; rfl, ?_⟩
      simp [hp, hf]
      rfl
    ·
      apply J.reg
      iterate 11 refine runL_step rfl (by simp [hil]; rfl) ?_
      refine runL_skip rfl (by simp) ?_
      iterate 4 refine runL_step rfl (by simp; rfl) ?_
      simp [runL]
      have hf : bsF cf es = false := by simp [bsF, hp, List.getElem?_eq_none (show es.length ≤ j by omega)]
      apply J.ret
      refine ⟨by simp, rfl, _, [], by simp [slBsfR]; rfl, ?_⟩
      simp [hp, hf]
def cmpI (x y : Int) : Int := if x < y then -1 else if y < x then 1 else 0
theorem cmpI_lt {x y : Int} : cmpI x y < 0 ↔ x < y := by unfold cmpI; split; simp [*]; split <;> simp <;> omega
theorem cmpI_eq {x y : Int} : cmpI x y = 0 ↔ x = y := by unfold cmpI; split; simp; omega; split <;> simp <;> omega
theorem Re.var {m m' : Mem} {b s ty : Nat} {x : AV} (hb : look m b = some (.obj ty [x])) (hb' : look m' b = none) (ht : isTree x = true) : Re m m' (.ptr b s 0 0) (.rop 1 [[x]] 0 0) :=
  Re.rop (xs := [x]) hb hb' rfl (by simp) (by simpa using ht) (fun i y hy => by
    match i with
    | 0 => simp at hy; subst hy; exact .same (ref_tree ht)
    | i + 1 => simp at hy)
theorem dFindC {f1 i3 : Nat} (hch : chkFn P f 11 2 (slFindC sz ty f1 i3) slFindCR = true) {e : List AV} {n : Int} {gk : Nat} {k : Int} (hel : e.length = sz) (htr : e.all isTree = true) (hs : 0 < sz) (hk : DoesP P gk [.agg e] (iv k)) (hcmp : ∀ x y, DoesP P f1 [iv x, iv y] (iv (cmpI x y))) : DoesP P f [.agg e, iv n, .rop 1 [[.fn gk []]] 0 0] (iv (cmpI k n)) := by
  have hre : refsInL (fun _ => False) e := refs_tree htr
  have hcl := cells_tree htr
  rw [List.all_eq_true] at hcl
  have htk : e.take sz = e := List.take_of_length_le (by omega)
  refine Does.of (nt := 11) (ac := (slFindC sz ty f1 i3)) (rds := slFindCR) hch (fun c hc => ?_)
  unfold slFindC
  apply J.seq
  apply J.reg
  refine runL_step rfl (by simp [hel]; exact ⟨hcl, rfl⟩) ?_
  refine runL_step rfl (by simp; rfl) ?_
  simp [runL]
  apply J.seq
  apply J.reg
  iterate 2 refine runL_step rfl (by simp [hel, htk]; rfl) ?_
  refine runL_fun rfl rfl hk (by simp [hre]) rfl ?_
  refine runL_step rfl (by simp; rfl) ?_
  refine runL_fun rfl rfl (hcmp _ _) (by simp) rfl ?_
  refine runL_step rfl (by simp; rfl) ?_
  simp [runL]
  apply J.ret
  refine ⟨by simp, rfl, _, [], by simp [slFindCR]; rfl, ?_⟩
  simp
theorem dFind {ft f1 f2 i5 : Nat} (hch : chkFn P f 14 3 (slFind ft f1 f2 i5) slFindR = true) {es : List (List AV)} {n : Int} {gk p : Nat} {b : Bool} (hb : DoesP P f1 [.ro sz es, iv n, .fn f2 [.rop 1 [[.fn gk []]] 0 0]] (.tup [iv (p : Nat), bv b])) : DoesP P f [.ro sz es, iv n, .fn gk []] (.tup [iv (p : Nat), bv b]) := by
  refine Does.of (nt := 14) (ac := (slFind ft f1 f2 i5)) (rds := slFindR) hch (fun c hc => ?_)
  unfold slFind
  apply J.seq
  refine J.regE (by simp; rfl) ?_
  simp
  apply J.seq
  apply J.reg
  iterate 3 refine runL_step rfl (by simp; rfl) ?_
  refine runL_view (stF := ⟨[(8, .ro sz es), (9, iv n), (10, .fn f2 [.rop 1 [[.fn gk []]] 0 0])], [], []⟩) ?_ rfl rfl hb (by simp) ?_
  · refine le_retell (fun q hq => ?_) (fun q hq => by simp at hq) rfl (by simp)
    simp only [List.mem_cons, List.not_mem_nil, or_false] at hq
    rcases hq with rfl | rfl | rfl
    · exact ⟨_, rfl, .same trivial⟩
    · exact ⟨_, rfl, .same trivial⟩
    · refine ⟨_, rfl, .fn rfl (fun i x hx => ?_)⟩
      match i with
      | 0 => simp at hx; subst hx; exact Re.var (by simp; rfl) rfl rfl
      | i + 1 => simp at hx
  rintro _ _ ⟨rfl, rfl⟩
  refine ⟨rfl, rfl, ?_⟩
  iterate 4 refine runL_step rfl (by simp; rfl) ?_
  simp [runL]
  apply J.ret
  refine ⟨by simp, rfl, _, [], by simp [slFindR]; rfl, ?_⟩
  simp
structure OvOK (P : Program) (fo : Nat) where
  fn : Func
  tS : TypeId
  tR : TypeId
  e : TypeId
  h1 : P.funcs[fo]? = some fn
  h2 : (fn.name == "runtime.NumGoroutine") = false
  h3 : fn.body.isNone = true
  h4 : Extern.findNext fn = none
  h5 : Extern.find fn = some (Extern.SlicesOverlaps.overlaps #[tS, tS] #[tR])
  h6 : P.underlying tS = some (.slice e)
  h7 : (P.info? e).isSome = true
theorem dIns {fo fr i25 id b1 b2 : Nat} (hch : chkFn P f 95 3 (slIns id b1 sz ty bz fo fr i25) slInsR = true) (hov : OvOK P fo) {es : List (List AV)} {e : List AV} {i : Nat} (hs : 0 < sz) (h12 : b1 ≠ b2) (h01 : id ≠ b1) (h02 : id ≠ b2) (hi : i ≤ es.length) (hn : es.length < 1000000) (hbz : (es.length + 1) * bz ≤ 140737488355328) :
    Does P f [.own b1 sz 0 es.length, iv i, .own b2 sz 0 1] [(b1, .arr ty sz es), (b2, .arr ty sz [e])] [] (fun r m => ∃ b, (b = b1 ∨ b = id) ∧ r = .own b sz 0 (es.length + 1) ∧ m = [(b, .arr ty sz (es.take i ++ [e] ++ es.drop i))]) := by
  have h12' := Ne.symm h12
  have h01' := Ne.symm h01
  have h02' := Ne.symm h02
  refine Does.of (nt := 95) (ac := slIns id b1 sz ty bz fo fr i25) (rds := slInsR) hch (fun c hc => ?_)
  unfold slIns
  have hi' : (i : Int) ≤ (es.length : Int) := by omega
  have hw1 : IntKind.i64.wrap ((es.length : Int) + 1) = es.length + 1 := wrap_id (by omega) (by omega)
  apply J.seq; refine J.regE (by simp [h12, h12', h01, h01', h02, h02']; rfl) ?_
  simp [h12, h12', h01, h01', h02, h02']
  apply J.seq; refine J.regE (by simp [h12, h12', h01, h01', h02, h02', hi']; rfl) ?_
  simp [h12, h12', h01, h01', h02, h02']
  apply J.seq; refine J.regE (by simp [h12, h12', h01, h01', h02, h02']; rfl) ?_
  simp [h12, h12', h01, h01', h02, h02']
  apply J.seq; apply J.seq; refine J.regE (by simp [h12, h12', h01, h01', h02, h02']; rfl) ?_
  simp [h12, h12', h01, h01', h02, h02']
  apply J.cond; simp [h12, h12', h01, h01', h02, h02']
  apply J.skip; simp [h12, h12', h01, h01', h02, h02']
  apply J.seq; refine J.regE (by simp [h12, h12', h01, h01', h02, h02']; rfl) ?_
  simp [h12, h12', h01, h01', h02, h02']
  apply J.seq; apply J.seq; refine J.regE (by simp [h12, h12', h01, h01', h02, h02']; rfl) ?_
  simp [h12, h12', h01, h01', h02, h02']
  apply J.cond; simp [h12, h12', h01, h01', h02, h02']
  refine ⟨fun hb => ?_, fun hb => ?_⟩
  · apply J.seq; refine J.regE (by simp [h12, h12', h01, h01', h02, h02', hbz]; rfl) ?_
    simp [h12, h12', h01, h01', h02, h02']
    apply J.ret
    refine ⟨by simp [h12, h12', h01, h01', h02, h02'], rfl, _, [(b1, .arr ty sz (es ++ [e]))], by simp [h12, h12', h01, h01', h02, h02', slInsR]; rfl, ?_⟩
    have : i = es.length := by omega
    subst this
    simp [h12, h12', h01, h01', h02, h02']
  have hin : i < es.length := by omega
  apply J.skip; simp [h12, h12', h01, h01', h02, h02']
  refine J.reveal (s := 0) rfl (by omega) (fun cap hcap => ?_)
  apply J.seq; apply J.seq; refine J.regC (by simp [h12, h12', h01, h01', h02, h02', hw1]; exact ⟨rfl, rfl⟩) ?_
  refine runL_ext (extK_cap (by simp [h12, h12', h01, h01', h02, h02']; exact ⟨rfl, rfl, rfl, rfl, rfl⟩) ?_)
  refine runL_end (by simp [h12, h12', h01, h01', h02, h02']; rfl) ?_
  simp [h12, h12', h01, h01', h02, h02']
  apply J.cond; simp [h12, h12', h01, h01', h02, h02']
  refine ⟨fun hgr => ?_, fun hrm => ?_⟩
  · have hwi : IntKind.i64.wrap ((es.length : Int) + 1 - i) = (es.length + 1 - i : Nat) := by rw [wrap_id (by omega) (by omega)]; omega
    have hcap0 : 0 < cap := by omega
    have hic : i < cap := by omega
    have hi1 : i + 1 ≤ es.length + 1 := by omega
    have hwp : IntKind.i64.wrap ((i : Int) + 1) = (i + 1 : Nat) := by rw [wrap_id (by omega) (by omega)]; omega
    apply J.seq; refine J.regC (by simp [h12, h12', h01, h01', h02, h02', hw1, hwi, show i ≤ cap from by omega, hcap0]; exact ⟨rfl, rfl⟩) ?_
    refine runL_ext (extK_appendZeros (id := id) (m := es.length + 1 - i) rfl rfl (by simp [h12, h12', h01, h01', h02, h02']; first | exact ⟨rfl, rfl, rfl⟩ | exact ⟨rfl, rfl⟩ | rfl) (by omega) (by omega) (by omega) (by rw [show i + (es.length + 1 - i) = es.length + 1 from by omega]; exact hbz) (by simp [h12, h12', h01, h01', h02, h02']) rfl trivial ?_)
    refine runL_end (by simp [h12, h12', h01, h01', h02, h02']; rfl) ?_
    simp [h12, h12', h01, h01', h02, h02', show i + (es.length + 1 - i) = es.length + 1 from by omega]
    apply J.seq; refine J.regC (by simp [h12, h12', h01, h01', h02, h02', show (i : Int) ≤ (es.length : Int) + 1 from by omega]; exact ⟨rfl, rfl⟩) ?_
    refine runL_ext (extK_copy (m := 1) rfl rfl rfl rfl (by simp [h12, h12', h01, h01', h02, h02']; first | exact ⟨rfl, rfl⟩ | rfl) (by simp [h12, h12', h01, h01', h02, h02']; first | exact ⟨rfl, rfl⟩ | rfl) (by omega) (by omega) (by simp [h12, h12', h01, h01', h02, h02']; omega) (by simp [h12, h12', h01, h01', h02, h02']) trivial ?_)
    refine runL_end (by simp [h12, h12', h01, h01', h02, h02']; rfl) ?_
    simp [h12, h12', h01, h01', h02, h02']
    apply J.seq
    refine J.drawC (by simp [h12, h12', h01, h01', h02, h02', hwp, hic, hi1, show (0 : Int) ≤ (i : Int) + 1 from by omega, show (i : Int) + 1 ≤ (es.length : Int) + 1 from by omega, show (i : Int) ≤ (es.length : Int) from by omega]; exact ⟨rfl, rfl⟩) (fun c' _ => ?_)
    refine runP_ext (extK_copy (m := es.length - i) rfl rfl rfl rfl (by simp [h12, h12', h01, h01', h02, h02']; first | exact ⟨rfl, rfl⟩ | rfl) (by simp [h12, h12', h01, h01', h02, h02']; first | exact ⟨rfl, rfl⟩ | rfl) (by omega) (by omega) (by simp [h12, h12', h01, h01', h02, h02']; omega) (by omega) (by simp [h12, h12', h01, h01', h02, h02']) ?_)
    refine runP_end (by simp [h12, h12', h01, h01', h02, h02']; rfl) ?_
    have g1 : (es.take i).drop (i + 1) = [] := List.drop_of_length_le (by simp [h12, h12', h01, h01', h02, h02']; omega)
    have g2 : (es.take i ++ [e]).take (i + 1) = es.take i ++ [e] := List.take_of_length_le (by simp [h12, h12', h01, h01', h02, h02']; omega)
    have g3 : (es.take i ++ [e]).drop (i + 1 + (es.length - i)) = [] := List.drop_of_length_le (by simp [h12, h12', h01, h01', h02, h02']; omega)
    have g4 : (es.drop i).take (es.length - i) = es.drop i := List.take_of_length_le (by simp [h12, h12', h01, h01', h02, h02'])
    have g0 : (es.take i).take i = es.take i := by rw [List.take_take, Nat.min_self]
    simp only [g0] at g1 g2 g3 ⊢
    simp [h12, h12', h01, h01', h02, h02', g0, g1, g2, g3, g4]
    apply J.seq; refine J.regE (by simp [h12, h12', h01, h01', h02, h02']; rfl) ?_
    simp [h12, h12', h01, h01', h02, h02']
    apply J.ret
    refine ⟨by simp [h12, h12', h01, h01', h02, h02'], rfl, _, [(id, .arr ty sz (es.take i ++ [e] ++ es.drop i))], by simp [h12, h12', h01, h01', h02, h02', slInsR]; rfl, ?_⟩
    simp [h12, h12', h01, h01', h02, h02']
  · have hi1 : i + 1 ≤ es.length + 1 := by omega
    have hwp : IntKind.i64.wrap ((i : Int) + 1) = (i + 1 : Nat) := by rw [wrap_id (by omega) (by omega)]; omega
    have hcr : es.length + 1 ≤ cap := by omega
    apply J.skip; simp [h12, h12', h01, h01', h02, h02']
    apply J.seq; refine J.regE (by simp [h12, h12', h01, h01', h02, h02', hw1, hcr, show (0 : Int) ≤ (es.length : Int) + 1 from by omega, show (es.length : Int) + 1 ≤ (cap : Int) from by omega, show 0 < cap from by omega]; rfl) ?_
    simp [h12, h12', h01, h01', h02, h02']
    apply J.seq; apply J.seq; refine J.regC (by simp [h12, h12', h01, h01', h02, h02', hwp, show (0 : Int) ≤ (i : Int) + 1 from by omega, show (i : Int) + 1 ≤ (es.length : Int) + 1 from by omega, show i + 1 < cap from by omega]; exact ⟨rfl, rfl⟩) ?_
    refine runL_ext (extK_overlaps (fn := hov.fn) (tS := hov.tS) (tR := hov.tR) (e := hov.e) hov.h1 hov.h2 hov.h3 hov.h4 hov.h5 hov.h6 hov.h7 rfl rfl rfl rfl (by omega) (by omega) (Ne.symm h12) (by simp [h12, h12', h01, h01', h02, h02']; first | exact ⟨rfl, rfl, rfl⟩ | exact ⟨rfl, rfl⟩ | rfl) (by simp [h12, h12', h01, h01', h02, h02']; first | exact ⟨rfl, rfl, rfl⟩ | exact ⟨rfl, rfl⟩ | rfl) hs ?_)
    refine runL_end (by simp [h12, h12', h01, h01', h02, h02']; rfl) ?_
    simp [h12, h12', h01, h01', h02, h02']
    apply J.cond; simp [h12, h12', h01, h01', h02, h02']
    apply J.seq
    refine J.drawC (by simp [h12, h12', h01, h01', h02, h02', hwp, show (0 : Int) ≤ (i : Int) + 1 from by omega, show (i : Int) + 1 ≤ (es.length : Int) + 1 from by omega, show i + 1 < cap from by omega, show (i : Int) ≤ (es.length : Int) + 1 from by omega, show i < cap from by omega]; exact ⟨rfl, rfl⟩) (fun c' _ => ?_)
    refine runP_ext (extK_copy (m := es.length - i) rfl rfl rfl rfl (by simp [h12, h12', h01, h01', h02, h02']; first | exact ⟨rfl, rfl⟩ | rfl) (by simp [h12, h12', h01, h01', h02, h02']; first | exact ⟨rfl, rfl⟩ | rfl) (by omega) (by omega) (by omega) (by omega) (by simp [h12, h12', h01, h01', h02, h02']) ?_)
    refine runP_end (by simp [h12, h12', h01, h01', h02, h02']; rfl) ?_
    have g1 : es.drop (i + 1 + (es.length - i)) = [] := List.drop_of_length_le (by omega)
    have g4 : (es.drop i).take (es.length - i) = es.drop i := List.take_of_length_le (by simp [h12, h12', h01, h01', h02, h02'])
    simp [h12, h12', h01, h01', h02, h02', g1, g4]
    apply J.seq; refine J.regC (by simp [h12, h12', h01, h01', h02, h02', show (i : Int) ≤ (es.length : Int) + 1 from by omega, show i < cap from by omega]; exact ⟨rfl, rfl⟩) ?_
    refine runL_ext (extK_copy (m := 1) rfl rfl rfl rfl (by simp [h12, h12', h01, h01', h02, h02']; first | exact ⟨rfl, rfl⟩ | rfl) (by simp [h12, h12', h01, h01', h02, h02']; first | exact ⟨rfl, rfl⟩ | rfl) (by omega) (by omega) (by simp [h12, h12', h01, h01', h02, h02']; omega) (by simp [h12, h12', h01, h01', h02, h02']) trivial ?_)
    refine runL_end (by simp [h12, h12', h01, h01', h02, h02']; rfl) ?_
    have g5 : (es.take (i + 1) ++ es.drop i).take i = es.take i := by rw [List.take_append_of_le_length (by simp [h12, h12', h01, h01', h02, h02']; omega), List.take_take]; congr 1; omega
    have g6 : (es.take (i + 1) ++ es.drop i).drop (i + 1) = es.drop i := by rw [List.drop_append_of_le_length (by simp [h12, h12', h01, h01', h02, h02']; omega), List.drop_of_length_le (by simp [h12, h12', h01, h01', h02, h02']; omega)]; rfl
    simp [h12, h12', h01, h01', h02, h02', g5, g6]
    apply J.seq; refine J.regE (by simp [h12, h12', h01, h01', h02, h02']; rfl) ?_
    simp [h12, h12', h01, h01', h02, h02']
    refine J.le hc (le_own (st := ⟨[], _, _⟩) 6 b1 sz 0 (es.length + 1) cap) ?_
    apply J.ret
    refine ⟨by simp [h12, h12', h01, h01', h02, h02'], rfl, _, [(b1, .arr ty sz (es.take i ++ [e] ++ es.drop i))], by simp [h12, h12', h01, h01', h02, h02', slInsR]; rfl, ?_⟩
    simp [h12, h12', h01, h01', h02, h02']
def risF : Option Int → List Int → Bool
  | _, [] => true
  | p, x :: r => (match p with | none => true | some q => decide (q < x)) && risF (some x) r
def prevI (l : List Int) : Nat → Option Int
  | 0 => none
  | i + 1 => l[i]?
def IRis (k : List AV → Int) (sz : Nat) (es : List (List AV)) (g : Nat) (caps : List AV) (m : Nat) (st : St) : Prop := ∃ i : Nat, i ≤ es.length ∧ m = es.length - i ∧ risF none (es.map k) = risF (prevI (es.map k) i) ((es.drop i).map k) ∧ st = ⟨[(0, .ro sz es), (1, .fn g caps), (7, .ro sz es), (8, iv (es.length : Nat)), (9, iv (i : Nat))], [], []⟩
theorem dRises {i6 : Nat} {zr : List AV} (hch : chkFn P f 30 2 (slRises sz ty zr i6) slRisesR = true) {es : List (List AV)} {g : Nat} {caps : List AV} (k : List AV → Int) (hs : 0 < sz) (hzr : zr.length = sz) (hR : Rows sz es) (hcap : refsInL (fun _ => False) caps) (hg : ∀ e ∈ es, DoesP P g (.agg e :: caps) (iv (k e))) : DoesP P f [.ro sz es, .fn g caps] (bv (risF none (es.map k))) := by
  have hfew := hR.few
  refine Does.of (nt := 30) (ac := (slRises sz ty zr i6)) (rds := slRisesR) hch (fun c hc => ?_)
  unfold slRises
  apply J.seq
  refine J.regE (by simp; rfl) ?_
  simp
  apply J.seq
  apply J.seq
  refine J.regE (by simp; rfl) ?_
  simp
  apply J.block
  refine J.loop hc (IRis k sz es g caps) ?_ ?_
  · exact ⟨_, _, St.le_refl _, 0, by omega, rfl, rfl, by simp⟩
  rintro n st ⟨i, hi, rfl, hI, rfl⟩
  apply J.seq
  refine J.regE (by simp; rfl) ?_
  simp
  apply J.seq
  apply J.cond; simp
  refine ⟨fun hlt => ?_, fun hlt => ?_⟩
  ·
    obtain ⟨e, he, hmem, hge, htk, hel, hre, hdr⟩ := hR.get (show i < es.length by omega)
    have hw : IntKind.i64.wrap ((i : Int) + 1) = (i : Int) + 1 := wrap_id (by have := hR.few; omega) (by have := hR.few; omega)
    have hlt2 : (i : Int) < (es.length : Int) := by omega
    have hzd : zr.drop sz = [] := List.drop_of_length_le (by omega)
    have hcl := cells_tree (hR.tree e hmem)
    rw [List.all_eq_true] at hcl
    rw [hdr, List.map_cons] at hI
    apply J.skip; simp
    apply J.seq
    apply J.block
    apply J.seq
    apply J.reg
    iterate 5 refine runL_step rfl (by simp [hlt2, he, hge, htk, hel]; rfl) ?_
    refine runL_step rfl (by simp [hel, hzr, hzd, htk]; exact ⟨hcl, rfl⟩) ?_
    simp [runL]
    apply J.seq
    rcases (show i = 0 ∨ ∃ j, i = j + 1 by cases i <;> simp) with rfl | ⟨j, rfl⟩
    ·
      apply J.draw; intro c' hc'
      iterate 11 refine runP_stepQ (by simp; rfl) ?_
      refine runP_skip rfl (by decide) ?_
      refine runP_skip rfl (by decide) ?_
      iterate 2 refine runP_stepQ (by simp; rfl) ?_
      simp [runP]
      have hq : risF (prevI (es.map k) 0) (k e :: (es.drop (0 + 1)).map k) = risF (some (k e)) ((es.drop (0 + 1)).map k) := by simp [risF, prevI]
      have hpv : prevI (es.map k) (0 + 1) = some (k e) := by simp [prevI, he]
      obtain ⟨bad, hbad⟩ : ∃ bad, bad = false := ⟨_, rfl⟩
      rw [← hbad]
      have hI2' : bad = false → risF none (es.map k) = risF (prevI (es.map k) (0 + 1)) ((es.drop (0 + 1)).map k) := fun _ => by rw [hI, hq, hpv]
      have hI3' : bad = true → risF none (es.map k) = false := fun h => by rw [hbad] at h; cases h
      refine J.condB rfl (fun hb => ?_) (fun hb => ?_)
      ·
        have hI2 := hI3' hb
        apply J.seq
        refine J.regE (by simp; rfl) ?_
        simp
        apply J.ret
        refine ⟨by simp, rfl, _, [], by simp [slRisesR]; rfl, ?_⟩
        simp [hI2]
      ·
        have hI2 := hI2' hb
        apply J.skip; simp
        refine J.regE (by simp [show IntKind.i64.wrap 1 = 1 from rfl]; rfl) ?_
        simp
        refine ⟨_, by omega, _, ?_, 0 + 1, by omega, rfl, hI2, rfl⟩
        apply le_sub <;> simp [hcap]
    ·
      obtain ⟨e0, he0, hmem0, hge0, htk0, hel0, hre0, hdr0⟩ := hR.get (show j < es.length by omega)
      have hw9 : IntKind.i64.wrap (((j : Int) + 1) - 1) = (j : Int) := by rw [wrap_id (by omega) (by omega)]; omega
      have hlt0 : (j : Int) < (es.length : Int) := by omega
      have hj0 : (0 : Int) < (j : Int) + 1 := by omega
      have hwj : IntKind.i64.wrap (j : Int) = (j : Int) := wrap_id (by omega) (by omega)
      apply J.draw; intro c' hc'
      iterate 11 refine runP_stepQ (by simp [hw9, hwj, hlt0, hj0, he0, hge0, htk0, hel0, hel, htk]; rfl) ?_
      refine runP_do (by simp [hj0]) ?_
      refine runP_fun rfl rfl (hg e hmem) (by simp [hcap, hre]) rfl ?_
      refine runP_do (by simp [hj0]) ?_
      refine runP_fun rfl rfl (hg e0 hmem0) (by simp [hcap, hre0]) rfl ?_
      iterate 2 refine runP_stepQ (by simp [hj0]; rfl) ?_
      simp [runP]
      have hq : risF (prevI (es.map k) (j + 1)) (k e :: (es.drop (j + 1 + 1)).map k) = (decide (k e0 < k e) && risF (some (k e)) ((es.drop (j + 1 + 1)).map k)) := by simp [risF, prevI, he0]
      have hpv : prevI (es.map k) (j + 1 + 1) = some (k e) := by simp [prevI, he]
      obtain ⟨bad, hbad⟩ : ∃ bad, bad = decide (k e ≤ k e0) := ⟨_, rfl⟩
      rw [← hbad]
      have hI2' : bad = false → risF none (es.map k) = risF (prevI (es.map k) (j + 1 + 1)) ((es.drop (j + 1 + 1)).map k) := fun h => by
        rw [hbad, decide_eq_false_iff_not] at h
        rw [hI, hq, hpv, decide_eq_true (by omega)]; rfl
      have hI3' : bad = true → risF none (es.map k) = false := fun h => by
        rw [hbad, decide_eq_true_eq] at h
        rw [hI, hq, decide_eq_false (by omega)]; rfl
      have hw : IntKind.i64.wrap ((j : Int) + 1 + 1) = (j : Int) + 1 + 1 := wrap_id (by omega) (by omega)
      refine J.condB rfl (fun hb => ?_) (fun hb => ?_)
      ·
        have hI2 := hI3' hb
        apply J.seq
        refine J.regE (by simp; rfl) ?_
        simp
        apply J.ret
        refine ⟨by simp, rfl, _, [], by simp [slRisesR]; rfl, ?_⟩
        simp [hI2]
      ·
        have hI2 := hI2' hb
        apply J.skip; simp
        refine J.regE (by simp [hw]; rfl) ?_
        simp
        refine ⟨_, by omega, _, ?_, j + 1 + 1, by omega, rfl, hI2, rfl⟩
        apply le_sub <;> simp [hcap]
  ·
    have hie : i = es.length := by omega
    subst hie
    apply J.exit; simp
    apply J.seq
    refine J.regE (by simp; rfl) ?_
    simp
    apply J.ret
    refine ⟨by simp, rfl, _, [], by simp [slRisesR]; rfl, ?_⟩
    simp [hI, risF]
theorem dWith {f1 f2 f3 i4 i25 : Nat} (hch : chkFn P f 32 3 (slWith sz ty f1 f2 f3 i4 i25) slWithR = true) {es : List (List AV)} {e : List AV} {n : Int} {gk p b1 id : Nat} {is : Bool} (hs : 0 < sz) (hR : Rows sz es) (hel : e.length = sz) (htr : e.all isTree = true) (hp : p ≤ es.length) (hpi : is = true → p < es.length) (h01 : id ≠ b1) (h02 : id ≠ i25) (h12 : b1 ≠ i25) (h14 : b1 ≠ i4) (h15 : i25 ≠ i4) (hi4 : id ≠ i4) (hk : DoesP P gk [.agg e] (iv n)) (hf : DoesP P f1 [.ro sz es, iv n, .fn gk []] (.tup [iv (p : Nat), bv is]))
    (hcl : Does P f2 [.ro sz es] [] [] (fun r m => r = .own b1 sz 0 es.length ∧ m = [(b1, .arr ty sz es)]))
    (hin : Does P f3 [.own b1 sz 0 es.length, iv p, .own i25 sz 0 1] [(b1, .arr ty sz es), (i25, .arr ty sz [e])] [] (fun r m => ∃ b, (b = b1 ∨ b = id) ∧ r = .own b sz 0 (es.length + 1) ∧ m = [(b, .arr ty sz (es.take p ++ [e] ++ es.drop p))])) : DoesP P f [.ro sz es, .agg e, .fn gk []] (.ro sz (if is = true then es.set p e else es.take p ++ [e] ++ es.drop p)) := by
  have hre : refsInL (fun _ => False) e := refs_tree htr
  have hcell := cells_tree htr
  rw [List.all_eq_true] at hcell
  have htk : e.take sz = e := List.take_of_length_le (by omega)
  refine Does.of (nt := 32) (ac := (slWith sz ty f1 f2 f3 i4 i25)) (rds := slWithR) hch (fun c hc => ?_)
  unfold slWith
  apply J.seq
  apply J.reg
  refine runL_step rfl (by simp [hel]; exact ⟨hcell, rfl⟩) ?_
  refine runL_step rfl (by simp; rfl) ?_
  simp [runL]
  apply J.seq
  apply J.reg
  iterate 3 refine runL_step rfl (by simp [hel, htk]; rfl) ?_
  refine runL_fun rfl rfl hk (by simp [hre]) rfl ?_
  refine runL_step rfl (by simp; rfl) ?_
  refine runL_fun rfl rfl hf (by simp) rfl ?_
  iterate 5 refine runL_step rfl (by simp; rfl) ?_
  simp [runL]
  apply J.seq
  apply J.reg
  refine runL_step rfl (by simp; rfl) ?_
  refine runL_call [] [] rfl rfl (by simpa using hcl) (by simp) (by simp) (by simp) hc ?_
  rintro _ _ ⟨rfl, rfl⟩
  refine ⟨by simp [h14, Ne.symm h14], ?_⟩
  refine runL_step rfl (by simp; rfl) ?_
  simp [runL]
  apply J.seq
  apply J.seq
  refine J.regE (by simp; rfl) ?_
  simp
  refine J.condB rfl (fun hb => ?_) (fun hb => ?_)
  ·
    simp at hb; subst hb
    apply J.seq
    rw [List.all_eq_true] at htr
    apply J.reg
    iterate 3 refine runL_step rfl (by simp [hel, htk, h14, Ne.symm h14, h12, Ne.symm h12, h15, Ne.symm h15, hi4, Ne.symm hi4]; rfl) ?_
    refine runL_step rfl (by simp [hel, htk, h14, Ne.symm h14, h12, Ne.symm h12, h15, Ne.symm h15, hi4, Ne.symm hi4]; exact ⟨htr, rfl⟩) ?_
    refine runL_call [b1, i25] [] rfl rfl (by simpa [h14, Ne.symm h14, h12, Ne.symm h12, h15, Ne.symm h15, hi4, Ne.symm hi4] using hin) (by simp) (by
      intro b hb blk
      simp only [List.mem_cons, List.not_mem_nil, or_false] at hb
      rcases hb with rfl | rfl
      · simp [h14, Ne.symm h14, h12, Ne.symm h12, h15, Ne.symm h15, hi4, Ne.symm hi4]; rintro rfl; trivial
      · simp [h14, Ne.symm h14, h12, Ne.symm h12, h15, Ne.symm h15, hi4, Ne.symm hi4]; rintro rfl; trivial) (by simp) hc ?_
    have hW : (es.take p ++ e :: es.drop p).take (es.length + 1) = es.take p ++ e :: es.drop p := List.take_of_length_le (by simp; omega)
    rintro _ _ (⟨rfl, rfl⟩ | ⟨rfl, rfl⟩)
    · refine ⟨by simp [h14, Ne.symm h14, h12, Ne.symm h12, h15, Ne.symm h15, hi4, Ne.symm hi4, h01, h02, Ne.symm h01, Ne.symm h02], ?_⟩
      refine runL_step rfl (by simp [h14, Ne.symm h14, h12, Ne.symm h12, h15, Ne.symm h15, hi4, Ne.symm hi4]; rfl) ?_
      simp [runL, h14, Ne.symm h14, h12, Ne.symm h12, h15, Ne.symm h15, hi4, Ne.symm hi4]
      refine J.freeze hc b1 rfl ?_
      simp [h14, Ne.symm h14, h12, Ne.symm h12, h15, Ne.symm h15, hi4, Ne.symm hi4, hs]
      apply J.ret
      refine ⟨by simp, rfl, _, [], by simp [slWithR]; rfl, ?_⟩
      simp [hW, show es.length + 1 ≤ min p es.length + (es.length - p + 1) from by omega]
    · refine ⟨by simp [h14, Ne.symm h14, h12, Ne.symm h12, h15, Ne.symm h15, hi4, Ne.symm hi4, h01, h02, Ne.symm h01, Ne.symm h02], ?_⟩
      refine runL_step rfl (by simp [h14, Ne.symm h14, h12, Ne.symm h12, h15, Ne.symm h15, hi4, Ne.symm hi4]; rfl) ?_
      simp [runL, h14, Ne.symm h14, h12, Ne.symm h12, h15, Ne.symm h15, hi4, Ne.symm hi4]
      refine J.freeze hc id rfl ?_
      simp [h14, Ne.symm h14, h12, Ne.symm h12, h15, Ne.symm h15, hi4, Ne.symm hi4, hs]
      apply J.ret
      refine ⟨by simp, rfl, _, [], by simp [slWithR]; rfl, ?_⟩
      simp [hW, show es.length + 1 ≤ min p es.length + (es.length - p + 1) from by omega]
  ·
    simp at hb; subst hb
    apply J.skip; simp
    apply J.seq
    have hpl := hpi rfl
    obtain ⟨e0, he0, hmem0, hge0, htk0, hel0, hre0, hdr0⟩ := hR.get hpl
    rw [List.all_eq_true] at htr
    have hpl2 : (p : Int) < (es.length : Int) := by omega
    apply J.reg
    iterate 4 refine runL_step rfl (by simp [hel, htk, hpl, hpl2, h14, Ne.symm h14, h12, Ne.symm h12, h15, Ne.symm h15, hi4, Ne.symm hi4]; rfl) ?_
    refine runL_step rfl (by simp [hel, htk, hpl, hpl2, he0, hge0, htk0, hel0, h14, Ne.symm h14, h12, Ne.symm h12, h15, Ne.symm h15, hi4, Ne.symm hi4, List.drop_of_length_le (show e0.length ≤ sz by omega)]; exact ⟨htr, rfl⟩) ?_
    simp [runL, h14, Ne.symm h14, h12, Ne.symm h12, h15, Ne.symm h15, hi4, Ne.symm hi4]
    apply J.seq
    refine J.regE (by simp; rfl) ?_
    simp
    refine J.freeze hc b1 rfl ?_
    simp [h14, Ne.symm h14, h12, Ne.symm h12, h15, Ne.symm h15, hi4, Ne.symm hi4, hs]
    apply J.ret
    refine ⟨by simp, rfl, _, [], by simp [slWithR]; rfl, ?_⟩
    simp [List.take_of_length_le (show (es.set p e).length ≤ es.length by simp)]
theorem dDel {b1 : Nat} (hch : chkFn P f 33 3 (slDel b1 sz ty bz) slDelR = true) {es : List (List AV)} {i : Nat} (hs : 0 < sz) (hi : i < es.length) (hn : es.length < 1000000) :
    Does P f [.own b1 sz 0 es.length, iv i, iv ((i : Int) + 1)] [(b1, .arr ty sz es)] [] (fun r m => r = .own b1 sz 0 (es.length - 1) ∧ m = [(b1, .arr ty sz (es.take i ++ es.drop (i + 1)))]) := by
  refine Does.of (nt := 33) (ac := slDel b1 sz ty bz) (rds := slDelR) hch (fun c hc => ?_)
  unfold slDel
  apply J.seq; refine J.regE (by simp; rfl) ?_
  simp
  refine J.reveal (s := 0) rfl (by omega) (fun cap hcap => ?_)
  apply J.seq; refine J.regC (by simp; exact ⟨rfl, rfl⟩) ?_
  refine runL_ext (extK_slice3 (L := i) (H := i + 1) (M := es.length) rfl rfl (by omega) rfl rfl rfl (by omega) (by omega) (by omega) ?_)
  refine runL_end (by simp; rfl) ?_
  simp
  apply J.seq; apply J.seq; refine J.regE (by simp; rfl) ?_
  simp
  apply J.cond; simp
  refine ⟨fun h => by omega, fun _ => ?_⟩
  apply J.skip; simp
  apply J.seq; refine J.regE (by simp; rfl) ?_
  simp
  apply J.seq
  have hdl : (es.drop (i + 1)).length = es.length - (i + 1) := by simp
  have hrow : ∀ (s : St), SX.look s.mem b1 = some (.arr ty sz es) → rowOf s (.own b1 sz (i + 1) (es.length - (i + 1))) = some (es.drop (i + 1)) := by
    rintro s hm
    simp only [rowOf, hm]
    rw [if_pos ⟨trivial, by omega⟩, List.take_of_length_le (by omega)]
  have hrow0 : ∀ (s : St), SX.look s.mem b1 = some (.arr ty sz es) → rowOf s (.own b1 sz (i + 1) 0) = some [] := by
    rintro s hm
    simp only [rowOf, hm]
    rw [if_pos ⟨trivial, by omega⟩, List.take_zero]
  have hend : J P 33 c ((slDelr6 sz ty bz).seq (slDelr7.seq AC.ret)) ⟨[(0, .ownc b1 sz 0 (es.length - 1) cap), (7, iv es.length)], [(b1, .arr ty sz (es.take i ++ (es.drop (i + 1) ++ es.drop (es.length - 1))))], []⟩ (doneQ [] slDelR fun r m => r = .own b1 sz 0 (es.length - 1) ∧ m = [(b1, .arr ty sz (es.take i ++ es.drop (i + 1)))]) := by
    apply J.seq; refine J.regC (by simp [show (es.length - 1 : Nat) < cap from by omega, show es.length - 1 ≤ es.length from by omega, show (es.length : Int) ≤ (cap : Int) from by omega]; exact ⟨rfl, rfl⟩) ?_
    refine runL_ext (extK_clear rfl rfl (by omega) (by simp; first | exact ⟨rfl, rfl⟩ | rfl) trivial ?_)
    refine runL_end (by simp; rfl) ?_
    simp
    apply J.seq; refine J.regE (by simp; rfl) ?_
    simp
    refine J.le hc (le_own (st := ⟨[], _, _⟩) 6 b1 sz 0 (es.length - 1) cap) ?_
    apply J.ret
    refine ⟨by simp, rfl, _, [(b1, .arr ty sz (es.take i ++ es.drop (i + 1)))], by simp [slDelR]; rfl, ?_⟩
    simp
    rw [← List.append_assoc, List.take_append_of_le_length (by simp; omega), List.take_of_length_le (by simp; omega)]
  by_cases hj : i + 1 < cap
  · refine J.drawC (by simp [hj, show (0 : Int) ≤ (i : Int) + 1 from by omega, show (i : Int) + 1 ≤ (es.length : Int) from by omega, show (i : Int) ≤ (cap : Int) from by omega, show 0 < cap from by omega]; exact ⟨rfl, rfl⟩) (fun c' _ => ?_)
    refine runP_ext (extK_appendRoom (ys := es.drop (i + 1)) rfl rfl (hrow _ (by simp)) (.inr rfl) (by simp; first | exact ⟨rfl, rfl⟩ | rfl) (by rw [hdl]; omega) (by omega) (by simp) ?_)
    refine runP_end (by simp; rfl) ?_
    simp [show i + (es.length - (i + 1)) = es.length - 1 from by omega]
    exact hend
  · refine J.drawC (by simp [hj, show (0 : Int) ≤ (i : Int) + 1 from by omega, show (i : Int) + 1 ≤ (es.length : Int) from by omega, show (i : Int) ≤ (cap : Int) from by omega, show 0 < cap from by omega]; exact ⟨rfl, rfl⟩) (fun c' _ => ?_)
    refine runP_ext (extK_appendRoom (ys := []) rfl rfl (hrow0 _ (by simp)) (.inl rfl) (by simp; first | exact ⟨rfl, rfl⟩ | rfl) (by simp; omega) (by omega) (by simp) ?_)
    refine runP_end (by simp; rfl) ?_
    have g1 : es.drop (i + 1) = [] := List.drop_of_length_le (by omega)
    have g2 : es.length - 1 = i := by omega
    rw [g1, g2] at hend
    simp at hend
    simp [g1, g2]
    exact hend
end
end Go.SX
namespace Go.SX
open Go
def allP {α : Type} (P : α → Prop) : List α → Prop
  | [] => True
  | x :: r => P x ∧ allP P r
theorem allP_mem {α : Type} {P : α → Prop} : ∀ {l : List α}, allP P l → ∀ x ∈ l, P x
  | [], _, x, hx => by cases hx
  | y :: r, h, x, hx => by
    rcases List.mem_cons.1 hx with rfl | hx
    · exact h.1
    · exact allP_mem h.2 x hx
theorem le_subF {st st' : St} (h1 : allP (fun p => look st.slots p.1 = some p.2) st'.slots) (h2 : allP (fun p => look st.mem p.1 = some p.2) st'.mem) (h3 : allP (fun p => refsIn (fun b => (look st'.mem b).isSome) p.2) st'.slots) (h4 : allP (fun p => p.2.refs (fun b => (look st'.mem b).isSome)) st'.mem)
    (h5 : st'.fixed = st.fixed) (h6 : allP (fun b => (look st'.mem b).isSome) st.fixed) : st.le st' := le_sub (allP_mem h1) (allP_mem h2) (allP_mem h3) (allP_mem h4) h5 (allP_mem h6)
end Go.SX
namespace Go.SX
open Go
def keyA : Nat → List Nat → AV → AV → Option Bool
  | 1, ks, .agg xs, .agg ys => eqA ks xs ys
  | 0, ks, .lit a, .lit b => eqA ks [.lit a] [.lit b]
  | _, _, _, _ => none
def findA (s : Nat) (ks : List Nat) (x : AV) : List (AV × AV) → Nat → Option (Option (Nat × AV))
  | [], _ => some none
  | p :: r, i => match keyA s ks x p.1 with
    | some true => some (some (i, p.2))
    | some false => findA s ks x r (i + 1)
    | none => none
def putA (x y : AV) (es : List (AV × AV)) : Option (Nat × AV) → List (AV × AV)
  | some (i, _) => es.set i (x, y)
  | none => es ++ [(x, y)]
def isTree1 : AV → Bool
  | .agg cs => cs.all isTree
  | x => isTree x
section
variable {P : Program} {c : Ctx} {nt : Nat} {st : St}
theorem VRel.toTree1 {w : World} {Own : Nat → Prop} {ρ : Map} {x : AV} {v : Value} (ht : isTree1 x = true) (h : VRel w Own ρ x v) : TRel w Own x v := by
  cases x with
  | agg cs =>
    cases h with
    | tree h => exact h
    | agg hl h => exact .agg hl (fun i x hx => (h i x hx).toTree (List.all_eq_true.1 ht x (List.mem_of_getElem? hx)))
  | _ => exact h.toTree ht
theorem keyT_spec {t kt s : Nat} {ks : List Nat} (h : keyT P t kt s ks = true) : (∃ e, P.underlying t = some (.map kt e)) ∧ flatT P 6 kt = some ks ∧ (s = 1 ∧ (∃ fs, P.underlying kt = some (.struct fs)) ∨ s = 0 ∧ ∀ fs, P.underlying kt ≠ some (.struct fs)) := by
  unfold keyT at h
  simp only [Bool.and_eq_true, beq_iff_eq] at h
  obtain ⟨⟨h1, h2⟩, h3⟩ := h
  refine ⟨?_, h2, ?_⟩
  · split at h1 <;> try (cases h1; done)
    rename_i q e hu
    simp only [beq_iff_eq] at h1
    subst h1; exact ⟨e, hu⟩
  · split at h3
    · rename_i fs hu; exact .inl ⟨h3, fs, hu⟩
    · rename_i hu; exact .inr ⟨h3, hu⟩
theorem run_checkFields {em : Bool} {D d : Nat} (ih : ∀ t ks, flatT P d t = some ks → ∀ v vs, isV P t v vs → vs.length = ks.length → ∀ w', (Instr.checkKey em D t v).run P w' = .ok () w') {xs : Array Value} (w' : World) :
    ∀ {fs : List Field} {off : Nat} {ks : List Nat}, flatF P (flatT P d) fs off = some ks → xs.size = off + ks.length →
      (forIn fs PUnit.unit fun f _ => do
        if f.name ≠ "_" then Instr.checkKey em D f.type (← _root_.Go.part f.type xs f.offset)
        pure (ForInStep.yield PUnit.unit) : Sem PUnit).run P w' = .ok PUnit.unit w'
  | [], off, ks, hf, hk => by simp
  | f :: r, off, ks, hf, hk => by
    simp only [flatF] at hf
    split at hf <;> try (cases hf; done)
    rename_i k1 hm
    split at hf <;> try (cases hf; done)
    rename_i hn
    obtain ⟨hn, rfl, hc, hnz⟩ := hn
    obtain ⟨k2, hf2, rfl⟩ := Option.map_eq_some_iff.1 hf
    simp only [List.length_append] at hk
    obtain ⟨v, hv, hvV⟩ := run_part_isV hm hc (xs := xs) (off := f.offset) (by omega) w'
    have h3 := ih f.type k1 hm v _ hvV (by simp; omega) w'
    have h4 := run_checkFields ih (xs := xs) w' (fs := r) (off := f.offset + k1.length) hf2 (by omega)
    simp only [List.forIn_cons, hn, ne_eq, not_false_eq_true, if_true, Sem.run_bind, hv, h3, Result.andThen_ok, Sem.run_pure]
    exact h4
theorem run_checkKey_flat {em : Bool} : ∀ (d D : Nat), d ≤ D → ∀ t ks, flatT P d t = some ks → ∀ v vs, isV P t v vs → vs.length = ks.length → ∀ w', (Instr.checkKey em D t v).run P w' = .ok () w'
  | 0, _, _, t, ks, ht => by simp [flatT] at ht
  | d + 1, 0, h, _, _, _ => by omega
  | d + 1, D + 1, hD, t, ks, ht => by
    intro v vs hv hl w'
    simp only [flatT] at ht
    split at ht <;> try (cases ht; done)
    · rename_i h; simp [Instr.checkKey, run_underlying h]
    · rename_i k h; simp [Instr.checkKey, run_underlying h]
    · rename_i h; simp [Instr.checkKey, run_underlying h]
    · rename_i fs h
      split at ht <;> try (cases ht; done)
      simp only [isV, h] at hv
      subst hv
      simp only [Instr.checkKey, Sem.run_bind, run_underlying h, Result.andThen_ok]
      rw [← Array.forIn_toList]
      have := run_checkFields (em := em) (D := D) (fun t' ks' ht' v' vs' a1 a2 w2 => run_checkKey_flat d D (by omega) t' ks' ht' v' vs' a1 a2 w2) (xs := vs.toArray) w' ht (by simpa using hl)
      simp at this ⊢
      rw [this]; rfl
theorem lit_inv {w : World} {Own : Nat → Prop} {v u : Value} (h : TRel w Own (.lit v) u) : u = v := by cases h; rfl
theorem agg_lits {w : World} {Own : Nat → Prop} {vs : List Value} {u : Value} (h : TRel w Own (.agg (vs.map AV.lit)) u) : u = .agg vs.toArray := by
  cases h with
  | agg hl h =>
    rename_i us
    congr 1
    apply Array.ext
    · simpa using hl.symm
    · intro i h1 h2
      have h3 : i < vs.length := by simpa using h2
      have e := lit_inv (h i (.lit vs[i]) (by simp [h3]))
      simp [Array.getD, h1] at e
      simpa using e
theorem keyA_spec {s : Nat} {ks : List Nat} {x y : AV} {b : Bool} (h : keyA s ks x y = some b) {w : World} {Own : Nat → Prop} {v u : Value} (hv : TRel w Own x v) (hu : TRel w Own y u) :
    ∃ vs us : List Value, eqVs vs us = some b ∧ vs.map kindV = ks ∧ (s = 1 ∧ v = .agg vs.toArray ∧ u = .agg us.toArray ∨ s = 0 ∧ vs = [v] ∧ us = [u]) := by
  unfold keyA at h
  split at h <;> try (cases h; done)
  · obtain ⟨vs, us, rfl, rfl, h1, h2⟩ := eqA_spec h
    exact ⟨vs, us, h1, h2, .inl ⟨rfl, agg_lits hv, agg_lits hu⟩⟩
  · obtain ⟨vs, us, e1, e2, h1, h2⟩ := eqA_spec h
    have hv := lit_inv hv
    have hu := lit_inv hu
    subst hv; subst hu
    refine ⟨[_], [_], ?_, ?_, .inr ⟨rfl, rfl, rfl⟩⟩
    · have f1 : vs = [v] := by
        rcases vs with _ | ⟨a, _ | ⟨_, _⟩⟩ <;> simp_all
      have f2 : us = [u] := by
        rcases us with _ | ⟨a, _ | ⟨_, _⟩⟩ <;> simp_all
      rw [← f1, ← f2]; exact h1
    · have f1 : vs = [v] := by
        rcases vs with _ | ⟨a, _ | ⟨_, _⟩⟩ <;> simp_all
      rw [← f1]; exact h2
theorem now_bool {a b : Value} {r : Bool} (h : eqv a b = some r) (hk : kindV a = 0) : Instr.sameNow .bool a b = some r := by
  unfold eqv at h; split at h
  · cases hk
  · exact h
  · cases hk
  · cases h
theorem now_int {q : IntKind} {a b : Value} {r : Bool} (h : eqv a b = some r) (hk : kindV a = 1) : Instr.sameNow (.int q) a b = some r := by
  unfold eqv at h; split at h
  · exact h
  · cases hk
  · cases hk
  · cases h
theorem now_string {a b : Value} {r : Bool} (h : eqv a b = some r) (hk : kindV a = 2) : Instr.sameNow .string a b = some r := by
  unfold eqv at h; split at h
  · cases hk
  · cases hk
  · simpa [Instr.sameNow, beq_toListBytes] using h
  · cases h
theorem sameBits_of {n : Nat} {a b : Value} (h : eqv a b = some true) : Instr.sameBits n b a = true := by
  cases a <;> cases b <;> simp only [eqv] at h <;> try (cases h; done)
  · simp only [Option.some.injEq, beq_iff_eq] at h; subst h; cases n <;> simp [Instr.sameBits]
  · split at h <;> try (cases h; done)
    rename_i e; subst e
    simp only [Option.some.injEq, beq_iff_eq] at h; subst h; cases n <;> simp [Instr.sameBits]
  · rename_i x y
    have e : (y == x) = true := by
      rw [beq_toListBytes]
      simp only [Option.some.injEq, beq_iff_eq] at h
      simp [h]
    cases n <;> simpa [Instr.sameBits] using e
theorem sameBits_list {n : Nat} : ∀ {vs us : List Value}, eqVs vs us = some true → ((us.zip vs).all fun (x, y) => Instr.sameBits n x y) = true
  | [], [], _ => rfl
  | [], _ :: _, h => by simp [eqVs] at h
  | _ :: _, [], h => by simp [eqVs] at h
  | a :: r, b :: q, h => by
    simp only [eqVs] at h
    split at h <;> try (cases h; done)
    rename_i x y h1 h2
    simp only [Option.some.injEq, Bool.and_eq_true] at h
    obtain ⟨rfl, rfl⟩ := h
    simp [sameBits_of h1, sameBits_list h2]
theorem run_keyStays {s : Nat} {ks : List Nat} {x y : AV} (h : keyA s ks x y = some true) {w : World} {Own : Nat → Prop} {v u : Value} (hv : TRel w Own x v) (hu : TRel w Own y u) (w' : World) : (Instr.keyThatStays u v).run P w' = .ok v w' := by
  obtain ⟨vs, us, h1, h2, h3⟩ := keyA_spec h hv hu
  have hb : Instr.sameBits 10000 u v = true := by
    rcases h3 with ⟨_, rfl, rfl⟩ | ⟨_, rfl, rfl⟩
    · have := sameBits_list (n := 9999) h1
      have hl := eqVs_len h1
      unfold Instr.sameBits
      simp [hl]
      simpa using this
    · simp only [eqVs] at h1
      split at h1 <;> try (cases h1; done)
      rename_i a b h4 h5
      injection h5 with h5; subst h5
      simp only [Bool.and_true, Option.some.injEq] at h1
      subst h1
      exact sameBits_of h4
  simp [Instr.keyThatStays, hb]
theorem find_run {t kt s : Nat} {ks : List Nat} (hk : keyT P t kt s ks = true) {w : World} {Own : Nat → Prop} {x : AV} {v : Value} (hv : TRel w Own x v) (w' : World) :
    ∀ {es : List (AV × AV)} {l : List MapEntry} {i : Nat} {r : Option (Nat × AV)}, l.length = es.length → (∀ (j : Nat) p, es[j]? = some p → ∃ e, l[j]? = some e ∧ TRel w Own p.1 e.key ∧ TRel w Own p.2 e.val) → findA s ks x es i = some r →
      ∃ q : Option (Nat × Value), ((s = 1 → (Instr.findAsking kt v l i).run P w' = .ok q w') ∧ (s = 0 → ∀ d, P.underlying kt = some d → Instr.findNow d v l i = some q)) ∧
        ((r = none ∧ q = none) ∨ ∃ j y u p, r = some (i + j, y) ∧ q = some (i + j, u) ∧ TRel w Own y u ∧ es[j]? = some (p, y) ∧ keyA s ks x p = some true)
  | [], [], i, r, _, _, hf => by
    simp only [findA, Option.some.injEq] at hf
    exact ⟨none, ⟨fun _ => by simp [Instr.findAsking], fun _ d _ => by simp [Instr.findNow]⟩, .inl ⟨hf.symm, rfl⟩⟩
  | [], _ :: _, _, _, hl, _, _ => by simp at hl
  | _ :: _, [], _, _, hl, _, _ => by simp at hl
  | p :: es, e :: l, i, r, hl, hrel, hf => by
    obtain ⟨e0, he0, hk0, hv0⟩ := hrel 0 p rfl
    simp only [List.getElem?_cons_zero, Option.some.injEq] at he0
    subst he0
    obtain ⟨⟨et, hmt⟩, hfl, hst⟩ := keyT_spec hk
    simp only [findA] at hf
    have hone : ∀ b, keyA s ks x p.1 = some b → (s = 1 → (Op.equal kt v e.key).run P w' = .ok b w') ∧ (s = 0 → ∀ d, P.underlying kt = some d → Instr.sameNow d v e.key = some b) := by
      intro b hb
      obtain ⟨vs, us, h1, h2, h3⟩ := keyA_spec hb hv hk0
      refine ⟨fun hs => ?_, fun hs d hd => ?_⟩
      · rcases h3 with ⟨_, e1, e2⟩ | ⟨h0, _⟩
        · rcases hst with ⟨_, fs, hfs⟩ | ⟨h0, _⟩
          · exact run_equalIn_flat 6 _ (by unfold Op.maxDepth; omega) kt ks hfl _ _ vs us b (by simp [isV, hfs, e1]) (by simp [isV, hfs, e2]) h2 h1 w'
          · omega
        · omega
      · rcases h3 with ⟨h0, _⟩ | ⟨_, rfl, rfl⟩
        · omega
        · rcases hst with ⟨h0, _⟩ | ⟨_, hns⟩
          · omega
          · simp only [eqVs] at h1
            split at h1 <;> try (cases h1; done)
            rename_i a b' h4 h5
            injection h5 with h5; subst h5
            simp only [Bool.and_true] at h1
            rw [h1] at h4
            simp only [flatT, hd] at hfl
            simp only [List.map_cons, List.map_nil] at h2
            split at hfl <;> (try (cases hfl; done))
            · rename_i hq; injection hq with hq; subst hq; injection hfl with hfl; subst hfl; injection h2 with h2 _; exact now_bool h4 h2
            · rename_i hq; injection hq with hq; subst hq; injection hfl with hfl; subst hfl; injection h2 with h2 _; exact now_int h4 h2
            · rename_i hq; injection hq with hq; subst hq; injection hfl with hfl; subst hfl; injection h2 with h2 _; exact now_string h4 h2
            · rename_i hq; injection hq with hq; subst hq; exact absurd hd (hns _)
    split at hf <;> try (cases hf; done)
    · rename_i hkk
      injection hf with hf
      obtain ⟨g1, g2⟩ := hone true hkk
      refine ⟨some (i, e.val), ⟨fun hs => ?_, fun hs d hd => ?_⟩, .inr ⟨0, p.2, e.val, p.1, hf.symm, rfl, hv0, rfl, hkk⟩⟩
      · simp [Instr.findAsking, g1 hs]
      · simp [Instr.findNow, g2 hs d hd]
    · rename_i hkk
      obtain ⟨g1, g2⟩ := hone false hkk
      obtain ⟨q, ⟨h1, h2⟩, h3⟩ := find_run hk hv w' (es := es) (l := l) (i := i + 1) (by simpa using hl) (fun j p' hp' => hrel (j + 1) p' (by simpa using hp')) hf
      refine ⟨q, ⟨fun hs => ?_, fun hs d hd => ?_⟩, ?_⟩
      · simp [Instr.findAsking, g1 hs, h1 hs]
      · simp [Instr.findNow, g2 hs d hd, h2 hs d hd]
      · rcases h3 with h3 | ⟨j, y, u, p', e1, e2, e3, e4, e5⟩
        · exact .inl h3
        · exact .inr ⟨j + 1, y, u, p', by rw [e1]; congr 2; omega, by rw [e2]; congr 2; omega, e3, by simpa using e4, e5⟩
theorem find_key {t kt s : Nat} {ks : List Nat} (hk : keyT P t kt s ks = true) {w : World} {Own : Nat → Prop} {x : AV} {v : Value} (hv : TRel w Own x v) (w' : World) {es : List (AV × AV)} {l : Array MapEntry} {r : Option (Nat × AV)} (hl : l.size = es.length)
    (hrel : ∀ (j : Nat) p, es[j]? = some p → ∃ e, l[j]? = some e ∧ TRel w Own p.1 e.key ∧ TRel w Own p.2 e.val) (hf : findA s ks x es 0 = some r) :
    ∃ q : Option (Nat × Value), (Instr.findKey kt v l.toList).run P w' = .ok q w' ∧ ((r = none ∧ q = none) ∨ ∃ j y u p, r = some (j, y) ∧ q = some (j, u) ∧ TRel w Own y u ∧ es[j]? = some (p, y) ∧ keyA s ks x p = some true) := by
  obtain ⟨q, ⟨h1, h2⟩, h3⟩ := find_run hk hv w' (by rw [Array.length_toList]; exact hl) (fun j p hp => by simpa using hrel j p hp) hf
  refine ⟨q, ?_, by simpa using h3⟩
  obtain ⟨⟨et, hmt⟩, hfl, hst⟩ := keyT_spec hk
  rcases hst with ⟨hs, fs, hfs⟩ | ⟨hs, hns⟩
  · rw [run_findKey_eq w' (by simp [hfs])]
    exact h1 hs
  · have hd : ∃ d, P.underlying kt = some d := by
      simp only [flatT] at hfl
      split at hfl <;> (first | exact ⟨_, by assumption⟩ | (cases hfl; done))
    obtain ⟨d, hd⟩ := hd
    exact MapKept.run_findKey hd (h2 hs d hd)
theorem checkKey_of {kt t s : Nat} {ks : List Nat} (hk : keyT P t kt s ks = true) {x : AV} (hx : keyA s ks x x = some true) {w : World} {Own : Nat → Prop} {v : Value} (hv : TRel w Own x v) (em : Bool) (w' : World) : (Instr.checkKey em 10000 kt v).run P w' = .ok () w' := by
  obtain ⟨vs, us, h1, h2, h3⟩ := keyA_spec hx hv hv
  obtain ⟨_, hfl, hst⟩ := keyT_spec hk
  refine run_checkKey_flat 6 10000 (by omega) kt ks hfl v vs ?_ (by rw [← h2]; simp) w'
  rcases hst with ⟨hs, fs, hfs⟩ | ⟨hs, hns⟩
  · rcases h3 with ⟨_, e, _⟩ | ⟨h0, _⟩
    · simp [isV, hfs, e]
    · omega
  · rcases h3 with ⟨h0, _⟩ | ⟨_, e, _⟩
    · omega
    · unfold isV; split
      · rename_i fs h; exact absurd h (hns _)
      · exact e
theorem map_inv {w : World} {Own : Nat → Prop} {ρ : Map} {b k : Nat} {v : Value} (h : VRel w Own ρ (.mapr b) v) (hρ : ρ b = some (k, 0)) : v = .map (some k) := by
  cases h with
  | tree h => cases h
  | mapr h => rw [hρ] at h; injection h with h; injection h with h _; subst h; rfl
theorem extK_mkmap {X : Nat → Prop} {id d : Nat} {k : St → Prop} (hX : X id) (hf : st.fixed.contains id = false) (hk : k (St.put { st.fresh id with mem := upd (st.fresh id).mem id (.map []) } d (.mapr id))) : ExtK P c nt X 10 [id] [] (some d) st k := by
  intro o ρ a w h _ hc hd hlt
  simp only [chkExt] at hc
  split at hc <;> try (cases hc; done)
  rename_i t ho _
  obtain ⟨ρ0, h0, h1, h2, h3⟩ := h.fresh id hf
  have hf0 : (st.fresh id).fixed.contains id = false := by unfold St.fresh; split <;> simpa [St.kill] using hf
  obtain ⟨r, w', ρ', v, e1, e2, e3, e4, e5⟩ : StepOK P c o (St.put { st.fresh id with mem := upd (st.fresh id).mem id (.map []) } d (.mapr id)) [id] ρ0 a w := by
    refine new_ok (w' := w.alloc (.map #[] 0)) (v := .map (some w.heap.size)) h0 hf0 hd (hlt d rfl) h1 h2 ?_ rfl rfl rfl rfl (fun ρ' hρ' hk => ?_) (fun Own' ρ' hρ' => ?_)
    · simp only [execOp, ho, Option.map_none, Sem.run_bind, run_makeMap_plain, Result.andThen_ok, Sem.run_pure]
    · exact ⟨w.heap.size, #[], 0, hρ', push_get w rfl, by simp, fun i p hp => by simp at hp⟩
    · exact .mapr hρ'
  have hsz : w.heap.size ≤ w'.heap.size := by
    obtain ⟨r2, w2, f1, f2⟩ : ∃ r2 w2, (execOp a.eval o).run P w = .ok r2 w2 ∧ w.heap.size ≤ w2.heap.size :=
      ⟨.value (.map (some w.heap.size)), w.alloc (.map #[] 0), by simp only [execOp, ho, Option.map_none, Sem.run_bind, run_makeMap_plain, Result.andThen_ok, Sem.run_pure], by show w.heap.size ≤ (w.heap.push _).size; simp⟩
    rw [f1] at e1; injection e1 with e1 e1'; subst e1'; exact f2
  refine ⟨_, r, w', ρ', v, e1, e2, e3, hk, hsz, fun q hq hno => e4 q hq (fun b o' hb => by simp at hb; subst hb; rw [h1]; simp), fun b q o' hb => ?_⟩
  rcases e5 b q o' hb with h | ⟨h, h' | ⟨b0, hb0, o2, hz⟩⟩
  · exact .inl (h3 _ _ _ h)
  · exact .inr ⟨by simp at h; subst h; exact hX, .inl h'⟩
  · simp at hb0; subst hb0; rw [h1] at hz; cases hz
theorem extK_mapget {X : Nat → Prop} {t kt q s b : Nat} {ks : List Nat} {m i : Src} {d : Option Nat} {k : St → Prop} {es : List (AV × AV)} {x : AV} {r : Option (Nat × AV)} (hm : st.src m = some (.mapr b)) (hb : look st.mem b = some (.map es)) (hi : st.src i = some x) (hx : isTree1 x = true) (hxx : keyA s ks x x = some true)
    (hf : findA s ks x es 0 = some r) (hq : q = 1 ∨ r ≠ none) (hk : k (st.put? d (if q = 2 then .tup [(r.map (·.2)).getD (bv false), bv r.isSome] else (r.map (·.2)).getD (bv false)))) : ExtK P c nt X 12 (t :: kt :: q :: s :: ks) [m, i] d st k := by
  intro o ρ a w h _ hc hd hlt
  simp only [chkExt] at hc
  split at hc <;> try (cases hc; done)
  rename_i t' m' k' ok a' b' ho heq
  injection heq with e1 heq; injection heq with e2 heq; subst e1; subst e2
  simp only [Bool.and_eq_true, beq_iff_eq, Bool.or_eq_true, bne_iff_ne] at hc
  obtain ⟨⟨⟨⟨⟨rfl, hok⟩, hkt⟩, hz⟩, g1⟩, g2⟩ := hc
  have hv := VRel.toTree1 hx (h.srcs _ _ _ g2 hi)
  obtain ⟨k0, l, clock, hρ, hh, hl, hrel⟩ := h.mem b _ hb
  have hmv2 := map_inv (h.srcs _ _ _ g1 hm) hρ
  obtain ⟨⟨et, hu⟩, hfl, hst⟩ := keyT_spec hkt
  obtain ⟨r', hr', hres⟩ := find_key hkt hv w hl hrel hf
  have hck := checkKey_of hkt hxx hv l.isEmpty w
  have hrun : ∃ y : Value, TRel w (OwnBy c.A ρ) ((r.map (·.2)).getD (bv false)) y ∧ (Instr.lookup t' (a.eval m') (a.eval k') ok).run P w = .ok (if ok then .tuple #[y, .bool r.isSome] else y) w := by
    rcases hres with ⟨rfl, rfl⟩ | ⟨j, y, u, p, rfl, rfl, hyu, _, _⟩
    · have hq1 : q = 1 := by
        rcases hq with hq | hq
        · exact hq
        · exact absurd rfl hq
      rcases hz with hz | hz
      · exact absurd hq1 hz
      unfold zeroF at hz
      simp only [hu] at hz
      split at hz <;> try (cases hz; done)
      rename_i i hi
      split at hz <;> try (cases hz; done)
      rename_i hzz
      refine ⟨.bool false, .lit rfl, ?_⟩
      have hzv : (zeroValue et).run P w = .ok (.bool false) w := by
        simp [zeroValue, run_typeInfo w hi, hzz]
      simp [Instr.lookup, run_underlying hu, hmv2, MapKept.run_getObj_map hh, hck, hr', hzv]
    · refine ⟨u, hyu, ?_⟩
      simp [Instr.lookup, run_underlying hu, hmv2, MapKept.run_getObj_map hh, hck, hr']
  obtain ⟨y, hy, hrun⟩ := hrun
  refine ⟨_, .value (if ok then .tuple #[y, .bool r.isSome] else y), w, ρ, (if ok then .tuple #[y, .bool r.isSome] else y), ?_, .inl rfl, h.put? (d := o.dst) (fun q hq => hlt q (by rw [← hd]; exact hq)) (x := if q = 2 then .tup [(r.map (·.2)).getD (bv false), bv r.isSome] else (r.map (·.2)).getD (bv false)) ?_, by rw [hd]; exact hk, Nat.le_refl _, fun _ _ _ => rfl, fun b' q o' hb' => .inl hb'⟩
  · simp only [execOp, ho, Sem.run_bind, hrun, Result.andThen_ok, Sem.run_pure]
  · subst hok
    by_cases e : q = 2
    · subst e
      simp only [if_true, beq_self_eq_true]
      refine .tup rfl (fun i x hx => ?_)
      rcases i with _ | _ | i
      · simp at hx; subst hx; exact .tree hy
      · simp at hx; subst hx; exact .tree (.lit rfl)
      · simp at hx
    · have e' : (q == 2) = false := by simpa using e
      simp only [e, if_false, e', Bool.false_eq_true]
      exact .tree hy
theorem extK_aidx {X : Nat → Prop} {t e m sz n : Nat} {x i : Src} {d : Option Nat} {k : St → Prop} {cs : List AV} (hx : st.src x = some (.agg cs)) (hi : st.src i = some (iv n)) (hn : n < m) (hl : n * sz + sz ≤ cs.length) (hk : k (st.put? d (.agg ((cs.drop (n * sz)).take sz)))) : ExtK P c nt X 13 [t, e, m, sz] [x, i] d st k := by
  intro o ρ a w h _ hc hd hlt
  simp only [chkExt] at hc
  split at hc <;> try (cases hc; done)
  rename_i t' x' i' a' b' ho heq
  injection heq with e1 heq; injection heq with e2 heq; subst e1; subst e2
  simp only [Bool.and_eq_true, beq_iff_eq] at hc
  obtain ⟨⟨⟨⟨rfl, hu⟩, hsh⟩, g1⟩, g2⟩ := hc
  split at hu <;> try (cases hu; done)
  rename_i m' e' hue
  simp only [Bool.and_eq_true, beq_iff_eq] at hu
  obtain ⟨rfl, rfl⟩ := hu
  obtain ⟨dd, ii, hdd, hi2, hsz, hag⟩ := shape1_spec hsh
  obtain ⟨vs, hv, hvl, hvs⟩ := (h.srcs _ _ _ g1 hx).agg_inv
  obtain ⟨hiv, _⟩ := (h.srcs _ _ _ g2 hi).lit_inv
  refine ⟨_, .value (.agg (vs.extract (n * sz) (n * sz + sz))), w, ρ, _, ?_, .inl rfl, h.put? (d := o.dst) (fun q hq => hlt q (by rw [← hd]; exact hq)) (x := .agg ((cs.drop (n * sz)).take sz)) ?_, by rw [hd]; exact hk, Nat.le_refl _, fun _ _ _ => rfl, fun b' q o' hb' => .inl hb'⟩
  · simp [execOp, ho, hv, hiv, Instr.index, asIntOf, und hue, hn, part, _root_.Go.part, hag, szOf hi2, hsz]
  · refine .agg (by simp; omega) (fun j y hy => ?_)
    rw [List.getElem?_take] at hy
    split at hy
    · rename_i hj
      rw [List.getElem?_drop] at hy
      have := hvs _ _ hy
      have e2 : (vs.extract (n * sz) (n * sz + sz)).getD j undef = vs.getD (n * sz + j) undef := by
        simp only [Array.getD_eq_getD_getElem?, Array.getElem?_extract]; rw [if_pos (by omega)]
      rw [e2]; exact this
    · cases hy
attribute [simp] keyA findA putA isTree1
theorem extK_mapset {X : Nat → Prop} {t kt s b : Nat} {ks : List Nat} {m i j : Src} {d : Option Nat} {k : St → Prop} {es : List (AV × AV)} {x y : AV} {r : Option (Nat × AV)} (hm : st.src m = some (.mapr b)) (hb : look st.mem b = some (.map es)) (hi : st.src i = some x) (hx : isTree1 x = true) (hxx : keyA s ks x x = some true) (hj : st.src j = some y) (hy : isTree1 y = true) (hX : X b)
    (hf : findA s ks x es 0 = some r) (hk : k (St.put? { st with mem := upd st.mem b (.map (putA x y es r)) } d (.tup []))) : ExtK P c nt X 11 (t :: kt :: s :: ks) [m, i, j] d st k := by
  intro o ρ a w h _ hc hd hlt
  have hop : ∃ m' k' v', (o.op = .mapUpdate t m' k' v' ∨ o.op = .insert t m' k' v') ∧ keyT P t kt s ks = true ∧ srcOK m' m = true ∧ srcOK k' i = true ∧ srcOK v' j = true := by
    simp only [chkExt] at hc
    split at hc <;> try (cases hc; done)
    all_goals
      rename_i t' m' k' v' a' b' d' ho heq
      injection heq with e1 heq; injection heq with e2 heq; injection heq with e3 heq; subst e1; subst e2; subst e3
      simp only [Bool.and_eq_true, beq_iff_eq] at hc
      obtain ⟨⟨⟨⟨rfl, hkt⟩, g1⟩, g2⟩, g3⟩ := hc
    · exact ⟨m', k', v', .inl ho, hkt, g1, g2, g3⟩
    · exact ⟨m', k', v', .inr ho, hkt, g1, g2, g3⟩
  obtain ⟨m', k', v', ho, hkt, g1, g2, g3⟩ := hop
  have hv := VRel.toTree1 hx (h.srcs _ _ _ g2 hi)
  have hw := VRel.toTree1 hy (h.srcs _ _ _ g3 hj)
  obtain ⟨k0, l, clock, hρ, hh, hl, hrel⟩ := h.mem b _ hb
  have hmv2 := map_inv (h.srcs _ _ _ g1 hm) hρ
  obtain ⟨⟨et, hu⟩, hfl, hst⟩ := keyT_spec hkt
  obtain ⟨r', hr', hres⟩ := find_key hkt hv w hl hrel hf
  have hck := checkKey_of hkt hxx hv false w
  have hklt : k0 < w.heap.size := h.lt _ _ _ hρ
  have hrun : ∃ l' clock', (Instr.mapUpdate t (a.eval m') (a.eval k') (a.eval v')).run P w = .ok () { w with heap := w.heap.setIfInBounds k0 (.map l' clock') } ∧ l'.size = (putA x y es r).length ∧ ∀ (i : Nat) p, (putA x y es r)[i]? = some p → ∃ e, l'[i]? = some e ∧ TRel w (OwnBy c.A ρ) p.1 e.key ∧ TRel w (OwnBy c.A ρ) p.2 e.val := by
    rcases hres with ⟨rfl, rfl⟩ | ⟨q, z, u, p, rfl, rfl, hyu, hp, hpk⟩
    · refine ⟨l.push { key := a.eval k', val := a.eval v', born := clock }, clock + 1, ?_, by simp [putA, hl], fun i p hp => ?_⟩
      · simp [Instr.mapUpdate, run_underlying hu, hmv2, MapKept.run_getObj_map hh, hck, hr', MapKept.run_setObj_map _ hh]
      · simp only [putA, List.getElem?_append] at hp
        split at hp
        · rename_i hlt
          obtain ⟨e, he, h1, h2⟩ := hrel i p hp
          exact ⟨e, by rw [Array.getElem?_push, if_neg (by omega)]; exact he, h1, h2⟩
        · rename_i hlt
          have : i = es.length := by
            rcases Nat.lt_or_ge (i - es.length) 1 with h | h
            · omega
            · rw [List.getElem?_eq_none (by simpa using h)] at hp; cases hp
          subst this
          simp at hp
          subst hp
          exact ⟨_, by rw [Array.getElem?_push, if_pos hl.symm], hv, hw⟩
    · obtain ⟨e0, he0, hke0, hve0⟩ := hrel q _ hp
      have hst := run_keyStays (P := P) hpk hv hke0 w
      refine ⟨l.modify q fun e => { e with key := a.eval k', val := a.eval v' }, clock, ?_, by simp [putA, hl], fun i p2 hp2 => ?_⟩
      · simp [Instr.mapUpdate, run_underlying hu, hmv2, MapKept.run_getObj_map hh, hck, hr', he0, hst, MapKept.run_setObj_map _ hh]
      · simp only [putA, List.getElem?_set] at hp2
        rw [Array.getElem?_modify]
        split at hp2
        · rename_i e; subst e
          split at hp2 <;> try (cases hp2; done)
          injection hp2 with hp2; subst hp2
          exact ⟨_, by simp [he0]; rfl, hv, hw⟩
        · rename_i hne
          obtain ⟨e, he, h1, h2⟩ := hrel i p2 hp2
          exact ⟨e, by simp [hne, he], h1, h2⟩
  obtain ⟨l', clock', hrun, hl', hrel'⟩ := hrun
  obtain ⟨hset, hfar⟩ := MapKept.heap_set (o' := .map l' clock') hh
  have hnew := h.writeO (w' := { w with heap := w.heap.setIfInBounds k0 (.map l' clock') }) (blk := .map (putA x y es r)) hb hρ (fun cur1 ty1 fr1 hc => by rw [hset] at hc; cases hc) hfar (by simp) rfl rfl rfl (fun hk => ⟨k0, l', clock', hρ, hset, hl', fun i p hp => by
    obtain ⟨e, he, h1, h2⟩ := hrel' i p hp
    exact ⟨e, he, h1.keep hk.toKeeps, h2.keep hk.toKeeps⟩⟩)
  refine ⟨_, .skip, _, ρ, undef, ?_, .inr ⟨rfl, rfl⟩, hnew.put? (d := o.dst) (fun q hq => hlt q (by rw [← hd]; exact hq)) undef_rel, by rw [hd]; exact hk, by simp, fun q hq hno => hfar q (fun e => by subst e; exact hno b _ hX hρ), fun b' q o' hb' => .inl hb'⟩
  rcases ho with ho | ho <;> simp only [execOp, ho, Sem.run_bind, hrun, Result.andThen_ok, Sem.run_pure]
end
end Go.SX
