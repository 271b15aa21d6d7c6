/- SX, part S: yield. -/
import Derived.Test.YtifpfpiljionmaaDoorSxR
import Derived.RangeFuncSeq
set_option linter.unusedVariables false
set_option linter.unusedSimpArgs false
namespace Go.SX
open Go

section
variable {P : Program} {F : Fence} {n : Nat} {ops : Array Oper} {R Q : Exit → Act → World → Prop}

theorem Oper.wpIn_then {o : Oper} {a : Act} {w : World} {K K' : Act → World → Prop} (hK : ∀ a w, K a w → K' a w) (hR : ¬ LetsOut R) (hp : ∀ ch a w, R (.panic ch) a w → Q (.panic ch) a w)
    (hh : o.wpIn F n P a w K R) : o.wpIn F n P a w K' Q := by
  unfold Oper.wpIn at *
  refine ⟨hh.1, ?_⟩
  have hh := hh.2
  generalize (o.semAt F.round a.eval).run P w = r at *
  cases r with
  | ok x w' =>
    cases x <;> simp only [Oper.uponIn] at hh ⊢
    case value v => exact hK _ _ hh
    case skip => exact hK _ _ hh
    case defer d => exact hK _ _ hh
    case enter f args => exact ⟨hh.1, CallsIn.mono hh.2 (fun e w'' he => by cases e <;> first | exact hK _ _ he | exact hp _ _ _ he | exact absurd he hR)⟩
    case row row args => exact ⟨hh.1, RowsIn.mono hh.2 (fun _ _ he => hK _ _ he)⟩
    case round l f tmps asg bd => exact ⟨hh.1, RoundIn.mono hh.2 (fun e w'' he => by cases e <;> first | exact hK _ _ he | exact hp _ _ _ he | exact absurd he hR)⟩
  | halt x w' => cases x <;> simp only [Oper.uponIn] at hh ⊢; exact hp _ _ _ hh

theorem wpOpsIn_then (hR : ¬ LetsOut R) (hp : ∀ ch a w, R (.panic ch) a w → Q (.panic ch) a w) {l2 : List Nat} (hn : ∀ a w, R .normal a w → wpOpsIn F n P ops Q l2 a w) : ∀ (l1 : List Nat) (a : Act) (w : World), wpOpsIn F n P ops R l1 a w → wpOpsIn F n P ops Q (l1 ++ l2) a w
  | [], a, w, h => hn a w h
  | i :: q, a, w, h => by
    rw [List.cons_append, wpOpsIn_cons]
    rw [wpOpsIn_cons] at h
    unfold wpOpIn at h ⊢
    split at h
    · exact wpOpsIn_then hR hp hn q _ _ h
    · split at h
      · rename_i hw
        simp only [hw, if_true]
        exact Oper.wpIn_then (fun a w h => wpOpsIn_then hR hp hn q a w h) hR hp h
      · rename_i hw
        simp only [hw, if_false, Bool.false_eq_true]
        exact ⟨h.1, wpOpsIn_then hR hp hn q _ _ h.2⟩
end

section
variable {P : Program} {nt : Nat} {c : Ctx}

/-- A part of a region, in its order. -/
theorem run_part {ops : Array Oper} {its : List It} (hch : chkIts P nt ops ops.toList its = true) {k : St → Prop} : ∀ (n i : Nat) (st : St) (ρ : Map) (a : Act) (w : World), i + n ≤ its.length → Conc c st ρ a w → a.tmps.size = nt → runL P c nt ((its.drop i).take n) st k → wpOps P ops (postR nt c k) (List.range' i n) a w
  | 0, i, st, ρ, a, w, hi, h, hs, hr => ⟨hs, st, ρ, by simpa [runL] using hr, h⟩
  | n + 1, i, st, ρ, a, w, hi, h, hs, hr => by
    rw [List.range'_succ, wpOps_cons]
    have hlt : i < its.length := by omega
    rw [List.drop_eq_getElem_cons hlt, List.take_succ_cons] at hr
    exact step_run (chkIts_at hch (List.getElem?_eq_getElem hlt)) h hs hr (fun a' w' st' ρ' hc' hs' hk _ _ _ => run_part hch n (i + 1) st' ρ' a' w' (by omega) hc' hs' hk)

theorem run_yieldv {o : Oper} {a : Act} {l : Nat} {cl : Call} {y : Operand} (ho : o.op = .call cl) (hy : cl.callee = .value y) (hv : a.eval y = .func (.yield l) #[] #[]) :
    execOp a.eval o = Instr.yield l (cl.args.map a.eval) := by
  unfold execOp
  rw [ho]
  simp only [resolve, hy, hv]
  show Instr.yield l _ = _
  congr 1
  simp

/-- What a round comes to, begun in such a memory. -/
def Rounds (P : Program) (c : Ctx) (l : Nat) (E : Ex) (m : Mem) (fixed : List Nat) (xs : List AV) (K : Bool → Mem → Ex → Prop) : Prop :=
  ∀ (st : St) (ρ : Map) (a : Act) (w : World) (vs : Array Value), st.mem = m → st.fixed = fixed → ConcH c st E ρ a w → xs.length = vs.size → (∀ (i : Nat) x, xs[i]? = some x → VRel w (OwnBy c.A ρ) ρ x (vs.getD i undef)) →
    YieldAt (fw none) 0 P l vs w fun e w' => ∃ b m' E' ρ', e = .returned (.bool b) ∧ K b m' E' ∧ ConcH c ⟨[], m', fixed⟩ E' ρ' a w' ∧ ∀ x v, VRel w (OwnBy c.A ρ) ρ x v → refsIn (fun b => b ∈ fixed) x → VRel w' (OwnBy c.A ρ') ρ' x v

theorem Act.put_defers' (a : Act) (d : Option Nat) (v : Value) (ds : List Deferred) : ({ a.put d v with defers := ds } : Act) = ({ a with defers := ds } : Act).put d v := by cases d <;> rfl

theorem ConcH.put {st : St} {E : Ex} {ρ : Map} {a : Act} {w : World} (h : ConcH c st E ρ a w) {d : Nat} (hd : d < a.tmps.size) {x : AV} {v : Value} (hx : VRel w (OwnBy c.A ρ) ρ x v) : ConcH c (st.put d x) E ρ (a.put (some d) v) w :=
  ⟨by rw [Act.put_defers']; exact h.conc.put hd hx, h.hid⟩

/-- A region in which yield is called, or not. -/
theorem JH.regY {its : List It} {ks : List Nat} {st : St} {E : Ex} {Q : Exit → St → Ex → Prop} (hstd : c.A = c.B) (n : Nat) {d : Nat} {g : Option (Nat × Bool)} {fs : Src} {xs : List Src} (hy : its[n]? = some ⟨some d, g, .callv fs xs⟩) (K1 : St → Prop)
    (h1 : ∀ c', c'.A = c'.B → runL P c' nt (its.take n) st K1)
    (h2 : ∀ s1, K1 s1 →
      (∃ s want b, g = some (s, want) ∧ gval s1 s = some b ∧ b ≠ some want ∧ ∀ c', c'.A = c'.B → runL P c' nt (its.drop (n + 1)) (s1.put d (.tup [])) fun s' => Q .normal (s'.keep ks) E) ∨
      ((∀ s want, g = some (s, want) → gval s1 s = some (some want)) ∧ ∃ l args K2 s2, St.le s1 s2 ∧ s2.src fs = some (.lit (.func (.yield l) #[] #[])) ∧ srcsOf s2.src xs = some args ∧ Rounds P c l E s2.mem s2.fixed args K2 ∧
        ∃ ds, (∀ p ∈ keepS ds s2.slots, look s2.slots p.1 = some p.2 ∧ refsIn (fun b => b ∈ s2.fixed) p.2) ∧ ∀ b m' E', K2 b m' E' → ∀ c', c'.A = c'.B → runL P c' nt (its.drop (n + 1)) (St.put ⟨keepS ds s2.slots, m', s2.fixed⟩ d (.lit (.bool b))) fun s' => Q .normal (s'.keep ks) E')) :
    JH P nt c (.reg its ks) st E Q := by
  intro code hc ρ a w hcc hs
  cases code <;> try (simp [chkC] at hc; done)
  rename_i id ops draw
  cases draw <;> simp only [chkC] at hc
  case true => cases hc
  have hl := (chkIts_get hc).1
  have hl' : ops.size = its.length := by rw [← Array.length_toList, hl]
  have hnl : n < its.length := by
    rcases Nat.lt_or_ge n its.length with h | h
    · exact h
    · rw [List.getElem?_eq_none h] at hy; cases hy
  have hRR : ¬ LetsOut (postH nt c Q) := fun ⟨_, _, h⟩ => h
  refine wpIn_region ?_
  have hsplit : List.range ops.size = List.range' 0 n ++ (n :: List.range' (n + 1) (its.length - (n + 1))) := by
    rw [List.range_eq_range', hl']
    have : its.length = n + (1 + (its.length - (n + 1))) := by omega
    conv => lhs; rw [this, ← List.range'_append_1]
    rw [Nat.add_comm 1, List.range'_succ]; simp
  rw [hsplit]
  -- the rest
  have rest : ∀ (s : St) (E' : Ex) (ρ' : Map) (a' : Act) (w' : World), ConcH c s E' ρ' a' w' → a'.tmps.size = nt → (∀ c', c'.A = c'.B → runL P c' nt (its.drop (n + 1)) s fun s' => Q .normal (s'.keep ks) E') →
      wpOpsIn (fw none) 0 P ops (postH nt c Q) (List.range' (n + 1) (its.length - (n + 1))) a' w' := by
    intro s E' ρ' a' w' hh hs' hr
    have h0 := run_part (c := ctxD c ρ' w' E'.ds hh.conc.tabOK) hc (its.length - (n + 1)) (n + 1) s ρ' a' w' (by omega) hh.begin hs' (by
      rw [List.take_of_length_le (by simp)]; exact hr _ hstd)
    have h3 := wpOps_in (r := none) (.inl rfl) postR_in _ _ _ h0
    have h4 := wpOpsIn_then (Q := postH nt c Q) (l2 := []) postR_in (fun _ _ _ h => h.elim) (fun a2 w2 h5 => (by
      obtain ⟨hs2, st2, ρ2, hk2, hc2⟩ := h5
      exact ⟨hs2, _, E', ρ2, hk2, ⟨keep_conc (hh.conc.back hc2) ks, (hh.back hc2).hid⟩⟩ : wpOpsIn (fw none) 0 P ops (postH nt c Q) [] a2 w2)) _ _ _ h3
    rw [List.append_nil] at h4; exact h4
  have h0 := run_part (c := ctxD c ρ w E.ds hcc.conc.tabOK) (k := K1) hc n 0 st ρ a w (by omega) hcc.begin hs (by rw [List.drop_zero]; exact h1 (ctxD c ρ w E.ds hcc.conc.tabOK) hstd)
  refine wpOpsIn_then postR_in (fun _ _ _ h => h.elim) (fun a1 w1 h5 => ?_) _ _ _ (wpOps_in (r := none) (.inl rfl) postR_in _ _ _ h0)
  obtain ⟨hs1, s1, ρ1, hk1, hc1⟩ := h5
  have hh := hcc.back hc1
  have hch := chkIts_at hc hy
  obtain ⟨o, ho, hck⟩ := chkAt_spec hch
  obtain ⟨hd, hdl, hop, hg⟩ := chkIt_spec hck
  have hdlt : d < nt := hdl d rfl
  rw [wpOpsIn_cons]
  unfold wpOpIn
  rw [ho]
  dsimp only
  rcases h2 s1 hk1 with ⟨s, want, b, rfl, hb, hne, hrest⟩ | ⟨hgw, l, args, K2, s2, hle, hfs, hxs, hround, ds, hds, hrest⟩
  · have hwant : Region.wanted o (yielded ops a1.tmps) = false := by
      rcases hg with ⟨_, h⟩ | ⟨j, want', s', oj, e1, e2, e3, e4, e5⟩
      · cases h
      · injection e2 with e2; injection e2 with e2 e6; subst e2; subst e6
        rw [wanted_of hc1 hs1 e1 e3 e4 hb e5]; simpa using hne
    rw [if_neg (by simp [hwant])]
    refine ⟨fun _ _ => trivial, rest _ E ρ1 _ w1 ?_ (by rw [put_size]; exact hs1) hrest⟩
    rw [hd]
    exact hh.put (by omega) undef_rel
  · have hwant : Region.wanted o (yielded ops a1.tmps) = true := by
      rcases hg with ⟨e1, _⟩ | ⟨j, want', s', oj, e1, e2, e3, e4, e5⟩
      · simp [Region.wanted, e1]
      · rw [wanted_of hc1 hs1 e1 e3 e4 (hgw _ _ e2) e5]; simp
    rw [if_pos hwant]
    obtain ⟨ρ1', hh', _⟩ := hle c ρ1 _ w1 hstd hh.conc
    have hh2 : ConcH c s2 E ρ1' a1 w1 := ⟨hh', hh.hid⟩
    clear hc1 hh
    have hc1 := hh'
    have hcall : chkCall o fs xs = true := hop
    unfold chkCall at hcall
    split at hcall <;> try (cases hcall; done)
    rename_i cl hocl
    simp only [Bool.and_eq_true] at hcall
    obtain ⟨hcl1, hcl2⟩ := hcall
    split at hcl1 <;> try (cases hcl1; done)
    rename_i y hcy
    have hyv : a1.eval y = .func (.yield l) #[] #[] := (hc1.srcs _ _ _ hcl1 hfs).lit_inv.1
    obtain ⟨hal, har⟩ := srcs_list hc1.srcs hcl2 hxs
    obtain ⟨fn, tmps, asg, bd, hyl, hro⟩ := hround s2 ρ1' a1 w1 (cl.args.map a1.eval) rfl rfl hh2 (by rw [hal]; simp) (fun i x hx => by
      have : VRel w1 (OwnBy c.A ρ1') ρ1' x ((List.map a1.eval cl.args.toList).toArray.getD i undef) := har i x hx
      have e1 : ((cl.args.toList.map a1.eval).toArray.getD i undef) = (cl.args.map a1.eval).getD i undef := by
        congr 1
        apply Array.ext'
        simp
      rw [e1] at this; exact this)
    refine ⟨fun _ _ => trivial, ?_⟩
    have hsem : o.semAt (fw none).round a1.eval = execOp a1.eval o := rfl
    rw [hsem, run_yieldv hocl hcy hyv, hyl]
    refine ⟨fun hd => (by simp [fw, Fence.wide] at hd), hro.mono ?_⟩
    rintro e w2 ⟨b, m', E', ρ2, rfl, hK2, hc2, htr⟩
    have hc3 : ConcH c ⟨keepS ds s2.slots, m', s2.fixed⟩ E' ρ2 a1 w2 :=
      ⟨{ hc2.conc with slots := fun q x hx => htr _ _ (hc1.slots _ _ (hds _ (look_mem hx)).1) (hds _ (look_mem hx)).2 }, hc2.hid⟩
    refine rest _ E' ρ2 _ w2 ?_ (by rw [put_size]; exact hs1) (hrest b m' E' hK2)
    rw [hd]
    exact hc3.put (by omega) (.tree (.lit rfl))
end
end Go.SX
