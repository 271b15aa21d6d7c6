/- SX, part H: what a function comes to, from its code. -/
import Derived.Test.YtifpfpiljionmaaDoorSxG
set_option linter.unusedVariables false
set_option linter.unusedSimpArgs false
namespace Go.SX
open Go

inductive RD where
  | tmp (t : Nat)
  | cell (t n : Nat) (g : Bool)

def chkRes (P : Program) : List ResultVar → List RD → Bool
  | [], [] => true
  | .tmp t :: r, .tmp t' :: q => t == t' && chkRes P r q
  | .cell t ty :: r, .cell t' n g :: q => t == t' && shape1 P ty n g && n != 0 && chkRes P r q
  | _, _ => false

def resV (st : St) : RD → Option AV
  | .tmp t => look st.slots t
  | .cell t n g => match look st.slots t with
    | some p => match lv st.mem n p with
      | some cs => mkv g cs
      | none => none
    | none => none

def resL (st : St) : List RD → Option (List AV)
  | [] => some []
  | r :: q => match resV st r, resL st q with
    | some x, some xs => some (x :: xs)
    | _, _ => none

def resT : List AV → AV
  | [x] => x
  | xs => .tup xs

def number : Nat → List AV → Slots
  | _, [] => []
  | n, x :: r => (n, x) :: number (n + 1) r

def entry (args : List AV) (m : Mem) (fixed : List Nat) : St := ⟨number 0 args, m, fixed⟩

def chkFn (P : Program) (f : FuncId) (nt nargs : Nat) (ac : AC) (rds : List RD) : Bool :=
  match P.funcs[f]? with
  | some fn => (match fn.body with
    | some code => chkC P nt code ac
    | none => false) && fn.ntmps == nt && decide (nargs ≤ nt) && chkRes P fn.results.toList rds && fn.name != "runtime.NumGoroutine"
  | none => false

theorem look_number : ∀ (l : List AV) (n d : Nat), look (number n l) d = if n ≤ d then l[d - n]? else none
  | [], n, d => by simp [number, look]
  | x :: r, n, d => by
    simp only [number, look]
    by_cases e : n = d
    · subst e; simp
    · rw [if_neg e, look_number r (n + 1) d]
      by_cases h : n ≤ d
      · rw [if_pos h, if_pos (by omega), show d - n = (d - (n + 1)) + 1 from by omega]; simp
      · rw [if_neg h, if_neg (by omega)]

def resRead (tmps : Array Value) : ResultVar → Sem Value
  | .tmp t => pure (tmps.getD t undef)
  | .cell q t => do loadVar t (← asAddr (tmps.getD q undef))

theorem results_eq (fn : Func) (tmps : Array Value) : results fn tmps = (do let vs ← fn.results.mapM (resRead tmps); pure (if h : vs.size = 1 then vs[0] else .tuple vs)) := by
  unfold results
  congr 2

section
variable {P : Program} {nt : Nat} {c : Ctx}

theorem res_ok {st : St} {ρ : Map} {a : Act} {w : World} (h : Conc c st ρ a w) : ∀ {rvs : List ResultVar} {rds : List RD} {xs : List AV}, chkRes P rvs rds = true → resL st rds = some xs →
    ∃ vs : List Value, (rvs.mapM (resRead a.tmps)).run P w = .ok vs w ∧ xs.length = vs.length ∧ ∀ (i : Nat) x, xs[i]? = some x → VRel w (OwnBy c.A ρ) ρ x (vs.getD i undef)
  | [], [], xs, _, hr => by
    simp only [resL, Option.some.injEq] at hr; subst hr
    exact ⟨[], by simp, rfl, fun i x hx => by simp at hx⟩
  | .tmp t :: r, .tmp t' :: q, xs, hc, hr => by
    simp only [chkRes, Bool.and_eq_true, beq_iff_eq] at hc
    obtain ⟨rfl, hc⟩ := hc
    simp only [resL] at hr
    split at hr <;> try (cases hr; done)
    rename_i x xs0 h1 h2
    injection hr with hr; subst hr
    obtain ⟨vs, h3, h4, h5⟩ := res_ok h hc h2
    refine ⟨a.tmps.getD t undef :: vs, ?_, by simp [h4], fun i y hy => ?_⟩
    · have h0 : (resRead a.tmps (.tmp t)).run P w = .ok (a.tmps.getD t undef) w := rfl
      rw [List.mapM_cons, Sem.run_bind, h0, Result.andThen_ok, Sem.run_bind, h3, Result.andThen_ok, Sem.run_pure]
    · cases i with
      | zero => simp at hy; subst hy; exact h.slots _ _ h1
      | succ i => simpa using h5 i y (by simpa using hy)
  | .cell t ty :: r, .cell t' n g :: q, xs, hc, hr => by
    simp only [chkRes, Bool.and_eq_true, beq_iff_eq, bne_iff_ne] at hc
    obtain ⟨⟨⟨rfl, hsh⟩, hn⟩, hc⟩ := hc
    simp only [resL] at hr
    split at hr <;> try (cases hr; done)
    rename_i x xs0 h1 h2
    injection hr with hr; subst hr
    obtain ⟨vs, h3, h4, h5⟩ := res_ok h hc h2
    simp only [resV] at h1
    split at h1 <;> try (cases h1; done)
    rename_i p hp
    split at h1 <;> try (cases h1; done)
    rename_i cs hl
    obtain ⟨d, i, hd, hi, hsz, hag⟩ := shape1_spec hsh
    obtain ⟨ad, us, hpv, hlt, hcl, hul, hcell, hrel, _⟩ := lv_rel h (h.slots _ _ hp) hl hn
    have hR := mkv_rel (R := VRel w (OwnBy c.A ρ) ρ) (fun _ _ h1 h2 => .agg h1 h2) (vs := us.toArray) h1 (by simp; omega) (fun i x hx => by have := hrel i x hx; simpa [List.getD] using this)
    have hload : (loadVar ty ad).run P w = .ok (if g then .agg us.toArray else us.toArray.getD 0 undef) w := by
      cases g
      · have hn1 : n = 1 := by
          unfold mkv at h1; simp only [Bool.false_eq_true, if_false] at h1
          split at h1
          · simpa using hcl.symm
          · cases h1
        subst hn1
        obtain ⟨v, rfl⟩ : ∃ v, us = [v] := List.length_eq_one_iff.1 hul
        have h0 := hcell 0 v rfl
        have e0 : ad.add 0 = ad := by simp [Addr.add]
        rw [e0] at h0
        simp [loadVar, hag, h0]
      · have := run_loadCells_list (P := P) w ad us hcell
        rw [hul] at this
        simp [loadVar, hag, szOf hi, hsz, this]
    refine ⟨(if g then .agg us.toArray else us.toArray.getD 0 undef) :: vs, ?_, by simp [h4], fun i y hy => ?_⟩
    · have h0 : (resRead a.tmps (.cell t ty)).run P w = .ok (if g then .agg us.toArray else us.toArray.getD 0 undef) w := by
        unfold resRead
        rw [Sem.run_bind, hpv]
        exact hload
      rw [List.mapM_cons, Sem.run_bind, h0, Result.andThen_ok, Sem.run_bind, h3, Result.andThen_ok, Sem.run_pure]
    · cases i with
      | zero => simp at hy; subst hy; simpa using hR
      | succ i => simpa using h5 i y (by simpa using hy)
  | [], _ :: _, _, hc, _ => by simp [chkRes] at hc
  | .tmp _ :: _, [], _, hc, _ => by simp [chkRes] at hc
  | .cell _ _ :: _, [], _, hc, _ => by simp [chkRes] at hc
  | .tmp _ :: _, .cell .. :: _, _, hc, _ => by simp [chkRes] at hc
  | .cell _ _ :: _, .tmp _ :: _, _, hc, _ => by simp [chkRes] at hc

theorem results_ok {st : St} {ρ : Map} {a : Act} {w : World} (h : Conc c st ρ a w) {fn : Func} {rds : List RD} {xs : List AV} (hc : chkRes P fn.results.toList rds = true) (hr : resL st rds = some xs) :
    ∃ v, (results fn a.tmps).run P w = .ok v w ∧ VRel w (OwnBy c.A ρ) ρ (resT xs) v := by
  obtain ⟨vs, h1, h2, h3⟩ := res_ok h hc hr
  have hm : (fn.results.mapM (resRead a.tmps)).run P w = .ok vs.toArray w := by
    rw [Array.mapM_eq_mapM_toList, Sem.run_map]
    rw [h1]
    rfl
  refine ⟨if h : vs.toArray.size = 1 then vs.toArray[0] else .tuple vs.toArray, ?_, ?_⟩
  · rw [results_eq, Sem.run_bind, hm]
    rfl
  · by_cases h1 : vs.length = 1
    · obtain ⟨v, rfl⟩ := List.length_eq_one_iff.1 h1
      obtain ⟨x, rfl⟩ := List.length_eq_one_iff.1 (h2.trans h1)
      have := h3 0 x rfl
      simpa [resT] using this
    · rw [dif_neg (by simpa using h1)]
      have : resT xs = .tup xs := by
        unfold resT
        split
        · simp at h2; omega
        · rfl
      rw [this]
      exact .tup (by simpa using h2) (fun i x hx => by have := h3 i x hx; simpa [List.getD] using this)

/-- How a function ends: what is told of memory is a part of it to which alone the rest leads. -/
def doneQ (fixed : List Nat) (rds : List RD) (postF : AV → Mem → Prop) (e : Exit) (st : St) : Prop :=
  (e = .normal ∨ e = .ret) ∧ st.fixed = fixed ∧ ∃ xs m, resL st rds = some xs ∧ (∀ p ∈ m, look st.mem p.1 = some p.2) ∧ refsIn (fun b => (look m b).isSome) (resT xs) ∧ (∀ p ∈ m, p.2.refs (fun b => (look m b).isSome)) ∧ (∀ b ∈ fixed, (look m b).isSome) ∧ postF (resT xs) m

theorem Does.of {f : FuncId} {args : List AV} {m : Mem} {fixed : List Nat} {ac : AC} {rds : List RD} {postF : AV → Mem → Prop} (hc : chkFn P f nt args.length ac rds = true)
    (hJ : ∀ c, c.A = c.B → J P nt c ac (entry args m fixed) (doneQ fixed rds postF)) : Does P f args m fixed postF := by
  unfold chkFn at hc
  split at hc <;> try (cases hc; done)
  rename_i fn hfn
  simp only [Bool.and_eq_true, beq_iff_eq, decide_eq_true_eq, bne_iff_ne] at hc
  obtain ⟨⟨⟨⟨hb, hnt⟩, hna⟩, hres⟩, hname⟩ := hc
  split at hb <;> try (cases hb; done)
  rename_i code hbody
  refine ⟨by simp [fnOK, hfn, hbody, hname], fun A ρ w vs ht1 ht2 hM hlen hv => ?_⟩
  let c : Ctx := ⟨w, A, A, ρ, fun k => ∃ b o, ρ b = some (k, o), fun _ h => h, ht1, fun q hq ⟨b, o, hb⟩ => ht2 q hq b o hb, []⟩
  have hcc : Conc c (entry args m fixed) ρ { tmps := vs ++ Array.replicate (fn.ntmps - vs.size) undef, defers := [] } w := {
    slots := fun d x hx => by
      simp only [entry, look_number, Nat.zero_le, if_true, Nat.sub_zero] at hx
      have hd : d < vs.size := by
        rcases Nat.lt_or_ge d args.length with h' | h'
        · omega
        · rw [List.getElem?_eq_none h'] at hx; cases hx
      have := hv d x hx
      have e : (vs ++ Array.replicate (fn.ntmps - vs.size) undef).getD d undef = vs.getD d undef := by
        simp only [Array.getD_eq_getD_getElem?]
        rw [Array.getElem?_append_left hd]
      simp only [e]
      exact this
    defers := rfl, mem := hM.mem, dom := hM.dom, lt := hM.lt, inj := hM.inj, mine := fun b k o hb => .inl ⟨b, o, hb⟩, far := hM.far, fix := fun _ _ => rfl, alt := hM.alt, os := rfl, tape := rfl, output := rfl, size := Nat.le_refl _, frame := fun _ _ _ => rfl, rows := fun k cur ty fr _ hh => ⟨cur, ty, fr, hh, rfl⟩ }
  have hsz : (vs ++ Array.replicate (fn.ntmps - vs.size) undef).size = nt := by simp; omega
  have hw := (wpIn_wide (n := 0)).1 (hJ c rfl code hb none rfl ρ _ w hcc hsz)
  refine calls_of_wp hfn hbody (wp_mono hw (fun e a' w' h' => ?_))
  have fin : ∀ e : Exit, (a'.tmps.size = nt ∧ ∃ st ρ', doneQ fixed rds postF e st ∧ Conc c st ρ' a' w') → (e = .normal ∨ e = .ret) ∧ a'.defers = [] ∧ ∃ v, (results fn a'.tmps).run P w' = .ok v w' ∧
      ∃ v_1 r m' ρ', Ending.returned v = .returned v_1 ∧ postF r m' ∧ MemOK A m' ρ' w' ∧ VRel w' (OwnBy A ρ') ρ' r v_1 ∧ After w w' ρ ρ' fixed := by
    rintro e ⟨_, st, ρ', ⟨he, hfx, xs, m2, hxs, hm2, hr1, hr2, hfm, hp⟩, hc'⟩
    obtain ⟨v, hrun, hrel⟩ := results_ok hc' hres hxs
    have hc2 := hc'.sub (st' := { st with slots := [], mem := m2 }) (fun p hp => by simp at hp) hm2 (fun p hp => by simp at hp) hr2 rfl (fun b hb => hfm b (hfx ▸ hb))
    have hsub : ∀ b k o, (fun x => if (look m2 x).isSome then ρ' x else none) b = some (k, o) → ρ' b = some (k, o) := fun b k o hb => by
      replace hb : (if (look m2 b).isSome then ρ' b else none) = some (k, o) := hb
      split at hb
      · exact hb
      · cases hb
    have hk : KeepsV w' w' (OwnBy A ρ') (OwnBy A (fun x => if (look m2 x).isSome then ρ' x else none)) ρ' (fun x => if (look m2 x).isSome then ρ' x else none) (fun b => (look m2 b).isSome) := {
      size := Nat.le_refl _, same := fun _ _ _ => rfl
      own := fun k _ hk => hk.imp id (fun ⟨b, o, hb⟩ => ⟨b, o, hsub _ _ _ hb⟩)
      map := fun b hb k o hρ => by simp only [hb, if_true]; exact hρ
      rows := fun k cur ty fr _ hh => ⟨cur, ty, fr, hh, rfl⟩, lt := hc'.lt }
    exact ⟨he, hc'.defers, v, hrun, v, _, m2, _, rfl, hp, { mem := hc2.mem, dom := hc2.dom, lt := hc2.lt, inj := hc2.inj, far := hc2.far, alt := fun k hk => Nat.lt_of_lt_of_le (hc'.alt k hk) hc'.size }, hrel.keep hk hr1,
      { os := hc'.os, tape := hc'.tape, output := hc'.output, size := hc'.size, frame := fun k hk hno => hc'.frame k hk (fun ⟨b, o, hb⟩ => hno b o hb), mine := fun b k o hb => hc'.mine b k o (hsub _ _ _ hb), fix := fun b hb => hc2.fix b (hfx ▸ hb), rows := hc'.rows }⟩
  cases e with
  | normal => exact (fin _ h').2
  | ret => exact (fin _ h').2
  | exit id => have := (fin _ h').1; simp at this
  | goto l => have := (fin _ h').1; simp at this
  | panic ch => exact h'.elim
  | outgrown => exact h'.elim
end
end Go.SX
