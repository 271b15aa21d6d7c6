/- Parts of a symbolic execution and of walks by it, for the statements of this seat: SxMp, Bs, W1, VCode, PD1, PTarjan, PReach. -/
import Derived.Test.YtdekelhmneeniaaQb4
import Derived.WideKeyRuns
import Derived.WideMake
import Derived.Test.YtdekelhmneeniaaProg
import Derived.KernelRfl
set_option linter.unusedVariables false
set_option linter.unusedSimpArgs false
namespace Go.SX
open Go
def keyA : Nat → List Nat → AV → AV → Option Bool
  | 1, ks, .agg xs, .agg ys => eqA ks xs ys
  | 0, ks, .lit a, .lit b => eqA ks [.lit a] [.lit b]
  | _, _, _, _ => none
def findA (s : Nat) (ks : List Nat) (x : AV) : List (AV × AV) → Nat → Option (Option (Nat × AV))
  | [], _ => some none
  | p :: r, i => match keyA s ks x p.1 with
    | some true => some (some (i, p.2))
    | some false => findA s ks x r (i + 1)
    | none => none
def putA (x y : AV) (es : List (AV × AV)) : Option (Nat × AV) → List (AV × AV)
  | some (i, _) => es.set i (x, y)
  | none => es ++ [(x, y)]
def isTree1 : AV → Bool
  | .agg cs => cs.all isTree
  | x => isTree x
section
variable {P : Program} {c : Ctx} {nt : Nat} {st : St}
theorem VRel.toTree1 {w : World} {Own : Nat → Prop} {ρ : Map} {x : AV} {v : Value} (ht : isTree1 x = true) (h : VRel w Own ρ x v) : TRel w Own x v := by
  cases x with
  | agg cs =>
    cases h with
    | tree h => exact h
    | agg hl h => exact .agg hl (fun i x hx => (h i x hx).toTree (List.all_eq_true.1 ht x (List.mem_of_getElem? hx)))
  | _ => exact h.toTree ht
theorem keyT_spec {t kt s : Nat} {ks : List Nat} (h : keyT P t kt s ks = true) : (∃ e, P.underlying t = some (.map kt e)) ∧ flatT P 6 kt = some ks ∧ (s = 1 ∧ (∃ fs, P.underlying kt = some (.struct fs)) ∨ s = 0 ∧ ∀ fs, P.underlying kt ≠ some (.struct fs)) := by
  unfold keyT at h
  simp only [Bool.and_eq_true, beq_iff_eq] at h
  obtain ⟨⟨h1, h2⟩, h3⟩ := h
  refine ⟨?_, h2, ?_⟩
  · split at h1 <;> try (cases h1; done)
    rename_i q e hu
    simp only [beq_iff_eq] at h1
    subst h1; exact ⟨e, hu⟩
  · split at h3
    · rename_i fs hu; exact .inl ⟨h3, fs, hu⟩
    · rename_i hu; exact .inr ⟨h3, hu⟩
theorem run_checkFields {em : Bool} {D d : Nat} (ih : ∀ t ks, flatT P d t = some ks → ∀ v vs, isV P t v vs → vs.length = ks.length → ∀ w', (Instr.checkKey em D t v).run P w' = .ok () w') {xs : Array Value} (w' : World) :
    ∀ {fs : List Field} {off : Nat} {ks : List Nat}, flatF P (flatT P d) fs off = some ks → xs.size = off + ks.length →
      (forIn fs PUnit.unit fun f _ => do
        if f.name ≠ "_" then Instr.checkKey em D f.type (← _root_.Go.part f.type xs f.offset)
        pure (ForInStep.yield PUnit.unit) : Sem PUnit).run P w' = .ok PUnit.unit w'
  | [], off, ks, hf, hk => by simp
  | f :: r, off, ks, hf, hk => by
    simp only [flatF] at hf
    split at hf <;> try (cases hf; done)
    rename_i k1 hm
    split at hf <;> try (cases hf; done)
    rename_i hn
    obtain ⟨hn, rfl, hc, hnz⟩ := hn
    obtain ⟨k2, hf2, rfl⟩ := Option.map_eq_some_iff.1 hf
    simp only [List.length_append] at hk
    obtain ⟨v, hv, hvV⟩ := run_part_isV hm hc (xs := xs) (off := f.offset) (by omega) w'
    have h3 := ih f.type k1 hm v _ hvV (by simp; omega) w'
    have h4 := run_checkFields ih (xs := xs) w' (fs := r) (off := f.offset + k1.length) hf2 (by omega)
    simp only [List.forIn_cons, hn, ne_eq, not_false_eq_true, if_true, Sem.run_bind, hv, h3, Result.andThen_ok, Sem.run_pure]
    exact h4
theorem run_checkKey_flat {em : Bool} : ∀ (d D : Nat), d ≤ D → ∀ t ks, flatT P d t = some ks → ∀ v vs, isV P t v vs → vs.length = ks.length → ∀ w', (Instr.checkKey em D t v).run P w' = .ok () w'
  | 0, _, _, t, ks, ht => by simp [flatT] at ht
  | d + 1, 0, h, _, _, _ => by omega
  | d + 1, D + 1, hD, t, ks, ht => by
    intro v vs hv hl w'
    simp only [flatT] at ht
    split at ht <;> try (cases ht; done)
    · rename_i h; simp [Instr.checkKey, run_underlying h]
    · rename_i k h; simp [Instr.checkKey, run_underlying h]
    · rename_i h; simp [Instr.checkKey, run_underlying h]
    · rename_i fs h
      split at ht <;> try (cases ht; done)
      simp only [isV, h] at hv
      subst hv
      simp only [Instr.checkKey, Sem.run_bind, run_underlying h, Result.andThen_ok]
      rw [← Array.forIn_toList]
      have := run_checkFields (em := em) (D := D) (fun t' ks' ht' v' vs' a1 a2 w2 => run_checkKey_flat d D (by omega) t' ks' ht' v' vs' a1 a2 w2) (xs := vs.toArray) w' ht (by simpa using hl)
      simp at this ⊢
      rw [this]; rfl
theorem lit_inv {w : World} {Own : Nat → Prop} {v u : Value} (h : TRel w Own (.lit v) u) : u = v := by cases h; rfl
theorem agg_lits {w : World} {Own : Nat → Prop} {vs : List Value} {u : Value} (h : TRel w Own (.agg (vs.map AV.lit)) u) : u = .agg vs.toArray := by
  cases h with
  | agg hl h =>
    rename_i us
    congr 1
    apply Array.ext
    · simpa using hl.symm
    · intro i h1 h2
      have h3 : i < vs.length := by simpa using h2
      have e := lit_inv (h i (.lit vs[i]) (by simp [h3]))
      simp [Array.getD, h1] at e
      simpa using e
theorem keyA_spec {s : Nat} {ks : List Nat} {x y : AV} {b : Bool} (h : keyA s ks x y = some b) {w : World} {Own : Nat → Prop} {v u : Value} (hv : TRel w Own x v) (hu : TRel w Own y u) :
    ∃ vs us : List Value, eqVs vs us = some b ∧ vs.map kindV = ks ∧ (s = 1 ∧ v = .agg vs.toArray ∧ u = .agg us.toArray ∨ s = 0 ∧ vs = [v] ∧ us = [u]) := by
  unfold keyA at h
  split at h <;> try (cases h; done)
  · obtain ⟨vs, us, rfl, rfl, h1, h2⟩ := eqA_spec h
    exact ⟨vs, us, h1, h2, .inl ⟨rfl, agg_lits hv, agg_lits hu⟩⟩
  · obtain ⟨vs, us, e1, e2, h1, h2⟩ := eqA_spec h
    have hv := lit_inv hv
    have hu := lit_inv hu
    subst hv; subst hu
    refine ⟨[_], [_], ?_, ?_, .inr ⟨rfl, rfl, rfl⟩⟩
    · have f1 : vs = [v] := by
        rcases vs with _ | ⟨a, _ | ⟨_, _⟩⟩ <;> simp_all
      have f2 : us = [u] := by
        rcases us with _ | ⟨a, _ | ⟨_, _⟩⟩ <;> simp_all
      rw [← f1, ← f2]; exact h1
    · have f1 : vs = [v] := by
        rcases vs with _ | ⟨a, _ | ⟨_, _⟩⟩ <;> simp_all
      rw [← f1]; exact h2
theorem now_bool {a b : Value} {r : Bool} (h : eqv a b = some r) (hk : kindV a = 0) : Instr.sameNow .bool a b = some r := by
  unfold eqv at h; split at h
  · cases hk
  · exact h
  · cases hk
  · cases h
theorem now_int {q : IntKind} {a b : Value} {r : Bool} (h : eqv a b = some r) (hk : kindV a = 1) : Instr.sameNow (.int q) a b = some r := by
  unfold eqv at h; split at h
  · exact h
  · cases hk
  · cases hk
  · cases h
theorem now_string {a b : Value} {r : Bool} (h : eqv a b = some r) (hk : kindV a = 2) : Instr.sameNow .string a b = some r := by
  unfold eqv at h; split at h
  · cases hk
  · cases hk
  · simpa [Instr.sameNow, beq_toListBytes] using h
  · cases h
theorem sameBits_of {n : Nat} {a b : Value} (h : eqv a b = some true) : Instr.sameBits n b a = true := by
  cases a <;> cases b <;> simp only [eqv] at h <;> try (cases h; done)
  · simp only [Option.some.injEq, beq_iff_eq] at h; subst h; cases n <;> simp [Instr.sameBits]
  · split at h <;> try (cases h; done)
    rename_i e; subst e
    simp only [Option.some.injEq, beq_iff_eq] at h; subst h; cases n <;> simp [Instr.sameBits]
  · rename_i x y
    have e : (y == x) = true := by
      rw [beq_toListBytes]
      simp only [Option.some.injEq, beq_iff_eq] at h
      simp [h]
    cases n <;> simpa [Instr.sameBits] using e
theorem sameBits_list {n : Nat} : ∀ {vs us : List Value}, eqVs vs us = some true → ((us.zip vs).all fun (x, y) => Instr.sameBits n x y) = true
  | [], [], _ => rfl
  | [], _ :: _, h => by simp [eqVs] at h
  | _ :: _, [], h => by simp [eqVs] at h
  | a :: r, b :: q, h => by
    simp only [eqVs] at h
    split at h <;> try (cases h; done)
    rename_i x y h1 h2
    simp only [Option.some.injEq, Bool.and_eq_true] at h
    obtain ⟨rfl, rfl⟩ := h
    simp [sameBits_of h1, sameBits_list h2]
theorem run_keyStays {s : Nat} {ks : List Nat} {x y : AV} (h : keyA s ks x y = some true) {w : World} {Own : Nat → Prop} {v u : Value} (hv : TRel w Own x v) (hu : TRel w Own y u) (w' : World) : (Instr.keyThatStays u v).run P w' = .ok v w' := by
  obtain ⟨vs, us, h1, h2, h3⟩ := keyA_spec h hv hu
  have hb : Instr.sameBits 10000 u v = true := by
    rcases h3 with ⟨_, rfl, rfl⟩ | ⟨_, rfl, rfl⟩
    · have := sameBits_list (n := 9999) h1
      have hl := eqVs_len h1
      unfold Instr.sameBits
      simp [hl]
      simpa using this
    · simp only [eqVs] at h1
      split at h1 <;> try (cases h1; done)
      rename_i a b h4 h5
      injection h5 with h5; subst h5
      simp only [Bool.and_true, Option.some.injEq] at h1
      subst h1
      exact sameBits_of h4
  simp [Instr.keyThatStays, hb]
theorem find_run {t kt s : Nat} {ks : List Nat} (hk : keyT P t kt s ks = true) {w : World} {Own : Nat → Prop} {x : AV} {v : Value} (hv : TRel w Own x v) (w' : World) :
    ∀ {es : List (AV × AV)} {l : List MapEntry} {i : Nat} {r : Option (Nat × AV)}, l.length = es.length → (∀ (j : Nat) p, es[j]? = some p → ∃ e, l[j]? = some e ∧ TRel w Own p.1 e.key ∧ TRel w Own p.2 e.val) → findA s ks x es i = some r →
      ∃ q : Option (Nat × Value), ((s = 1 → (Instr.findAsking kt v l i).run P w' = .ok q w') ∧ (s = 0 → ∀ d, P.underlying kt = some d → Instr.findNow d v l i = some q)) ∧
        ((r = none ∧ q = none) ∨ ∃ j y u p, r = some (i + j, y) ∧ q = some (i + j, u) ∧ TRel w Own y u ∧ es[j]? = some (p, y) ∧ keyA s ks x p = some true)
  | [], [], i, r, _, _, hf => by
    simp only [findA, Option.some.injEq] at hf
    exact ⟨none, ⟨fun _ => by simp [Instr.findAsking], fun _ d _ => by simp [Instr.findNow]⟩, .inl ⟨hf.symm, rfl⟩⟩
  | [], _ :: _, _, _, hl, _, _ => by simp at hl
  | _ :: _, [], _, _, hl, _, _ => by simp at hl
  | p :: es, e :: l, i, r, hl, hrel, hf => by
    obtain ⟨e0, he0, hk0, hv0⟩ := hrel 0 p rfl
    simp only [List.getElem?_cons_zero, Option.some.injEq] at he0
    subst he0
    obtain ⟨⟨et, hmt⟩, hfl, hst⟩ := keyT_spec hk
    simp only [findA] at hf
    have hone : ∀ b, keyA s ks x p.1 = some b → (s = 1 → (Op.equal kt v e.key).run P w' = .ok b w') ∧ (s = 0 → ∀ d, P.underlying kt = some d → Instr.sameNow d v e.key = some b) := by
      intro b hb
      obtain ⟨vs, us, h1, h2, h3⟩ := keyA_spec hb hv hk0
      refine ⟨fun hs => ?_, fun hs d hd => ?_⟩
      · rcases h3 with ⟨_, e1, e2⟩ | ⟨h0, _⟩
        · rcases hst with ⟨_, fs, hfs⟩ | ⟨h0, _⟩
          · exact run_equalIn_flat 6 _ (by unfold Op.maxDepth; omega) kt ks hfl _ _ vs us b (by simp [isV, hfs, e1]) (by simp [isV, hfs, e2]) h2 h1 w'
          · omega
        · omega
      · rcases h3 with ⟨h0, _⟩ | ⟨_, rfl, rfl⟩
        · omega
        · rcases hst with ⟨h0, _⟩ | ⟨_, hns⟩
          · omega
          · simp only [eqVs] at h1
            split at h1 <;> try (cases h1; done)
            rename_i a b' h4 h5
            injection h5 with h5; subst h5
            simp only [Bool.and_true] at h1
            rw [h1] at h4
            simp only [flatT, hd] at hfl
            simp only [List.map_cons, List.map_nil] at h2
            split at hfl <;> (try (cases hfl; done))
            · rename_i hq; injection hq with hq; subst hq; injection hfl with hfl; subst hfl; injection h2 with h2 _; exact now_bool h4 h2
            · rename_i hq; injection hq with hq; subst hq; injection hfl with hfl; subst hfl; injection h2 with h2 _; exact now_int h4 h2
            · rename_i hq; injection hq with hq; subst hq; injection hfl with hfl; subst hfl; injection h2 with h2 _; exact now_string h4 h2
            · rename_i hq; injection hq with hq; subst hq; exact absurd hd (hns _)
    split at hf <;> try (cases hf; done)
    · rename_i hkk
      injection hf with hf
      obtain ⟨g1, g2⟩ := hone true hkk
      refine ⟨some (i, e.val), ⟨fun hs => ?_, fun hs d hd => ?_⟩, .inr ⟨0, p.2, e.val, p.1, hf.symm, rfl, hv0, rfl, hkk⟩⟩
      · simp [Instr.findAsking, g1 hs]
      · simp [Instr.findNow, g2 hs d hd]
    · rename_i hkk
      obtain ⟨g1, g2⟩ := hone false hkk
      obtain ⟨q, ⟨h1, h2⟩, h3⟩ := find_run hk hv w' (es := es) (l := l) (i := i + 1) (by simpa using hl) (fun j p' hp' => hrel (j + 1) p' (by simpa using hp')) hf
      refine ⟨q, ⟨fun hs => ?_, fun hs d hd => ?_⟩, ?_⟩
      · simp [Instr.findAsking, g1 hs, h1 hs]
      · simp [Instr.findNow, g2 hs d hd, h2 hs d hd]
      · rcases h3 with h3 | ⟨j, y, u, p', e1, e2, e3, e4, e5⟩
        · exact .inl h3
        · exact .inr ⟨j + 1, y, u, p', by rw [e1]; congr 2; omega, by rw [e2]; congr 2; omega, e3, by simpa using e4, e5⟩
theorem find_key {t kt s : Nat} {ks : List Nat} (hk : keyT P t kt s ks = true) {w : World} {Own : Nat → Prop} {x : AV} {v : Value} (hv : TRel w Own x v) (w' : World) {es : List (AV × AV)} {l : Array MapEntry} {r : Option (Nat × AV)} (hl : l.size = es.length)
    (hrel : ∀ (j : Nat) p, es[j]? = some p → ∃ e, l[j]? = some e ∧ TRel w Own p.1 e.key ∧ TRel w Own p.2 e.val) (hf : findA s ks x es 0 = some r) :
    ∃ q : Option (Nat × Value), (Instr.findKey kt v l.toList).run P w' = .ok q w' ∧ ((r = none ∧ q = none) ∨ ∃ j y u p, r = some (j, y) ∧ q = some (j, u) ∧ TRel w Own y u ∧ es[j]? = some (p, y) ∧ keyA s ks x p = some true) := by
  obtain ⟨q, ⟨h1, h2⟩, h3⟩ := find_run hk hv w' (by rw [Array.length_toList]; exact hl) (fun j p hp => by simpa using hrel j p hp) hf
  refine ⟨q, ?_, by simpa using h3⟩
  obtain ⟨⟨et, hmt⟩, hfl, hst⟩ := keyT_spec hk
  rcases hst with ⟨hs, fs, hfs⟩ | ⟨hs, hns⟩
  · rw [run_findKey_eq w' (by simp [hfs])]
    exact h1 hs
  · have hd : ∃ d, P.underlying kt = some d := by
      simp only [flatT] at hfl
      split at hfl <;> (first | exact ⟨_, by assumption⟩ | (cases hfl; done))
    obtain ⟨d, hd⟩ := hd
    exact MapKept.run_findKey hd (h2 hs d hd)
theorem checkKey_of {kt t s : Nat} {ks : List Nat} (hk : keyT P t kt s ks = true) {x : AV} (hx : keyA s ks x x = some true) {w : World} {Own : Nat → Prop} {v : Value} (hv : TRel w Own x v) (em : Bool) (w' : World) : (Instr.checkKey em 10000 kt v).run P w' = .ok () w' := by
  obtain ⟨vs, us, h1, h2, h3⟩ := keyA_spec hx hv hv
  obtain ⟨_, hfl, hst⟩ := keyT_spec hk
  refine run_checkKey_flat 6 10000 (by omega) kt ks hfl v vs ?_ (by rw [← h2]; simp) w'
  rcases hst with ⟨hs, fs, hfs⟩ | ⟨hs, hns⟩
  · rcases h3 with ⟨_, e, _⟩ | ⟨h0, _⟩
    · simp [isV, hfs, e]
    · omega
  · rcases h3 with ⟨h0, _⟩ | ⟨_, e, _⟩
    · omega
    · unfold isV; split
      · rename_i fs h; exact absurd h (hns _)
      · exact e
theorem map_inv {w : World} {Own : Nat → Prop} {ρ : Map} {b k : Nat} {v : Value} (h : VRel w Own ρ (.mapr b) v) (hρ : ρ b = some (k, 0)) : v = .map (some k) := by
  cases h with
  | tree h => cases h
  | mapr h => rw [hρ] at h; injection h with h; injection h with h _; subst h; rfl
theorem extK_mkmap {X : Nat → Prop} {id d : Nat} {k : St → Prop} (hX : X id) (hf : st.fixed.contains id = false) (hk : k (St.put { st.fresh id with mem := upd (st.fresh id).mem id (.map []) } d (.mapr id))) : ExtK P c nt X 10 [id] [] (some d) st k := by
  intro o ρ a w h _ hc hd hlt
  simp only [chkExt] at hc
  split at hc <;> try (cases hc; done)
  rename_i t ho _
  obtain ⟨ρ0, h0, h1, h2, h3⟩ := h.fresh id hf
  have hf0 : (st.fresh id).fixed.contains id = false := by unfold St.fresh; split <;> simpa [St.kill] using hf
  obtain ⟨r, w', ρ', v, e1, e2, e3, e4, e5⟩ : StepOK P c o (St.put { st.fresh id with mem := upd (st.fresh id).mem id (.map []) } d (.mapr id)) [id] ρ0 a w := by
    refine new_ok (w' := w.alloc (.map #[] 0)) (v := .map (some w.heap.size)) h0 hf0 hd (hlt d rfl) h1 h2 ?_ rfl rfl rfl ⟨rfl, by first | exact Nat.le_refl _ | exact Nat.le_succ _⟩ (fun ρ' hρ' hk => ?_) (fun Own' ρ' hρ' => ?_)
    · simp only [execOp, ho, Option.map_none, Sem.run_bind, run_makeMap_plain, Result.andThen_ok, Sem.run_pure]
    · exact ⟨w.heap.size, #[], 0, hρ', push_get w rfl, by simp, fun i p hp => by simp at hp⟩
    · exact .mapr hρ'
  have hsz : w.heap.size ≤ w'.heap.size := by
    obtain ⟨r2, w2, f1, f2⟩ : ∃ r2 w2, (execOp a.eval o).run P w = .ok r2 w2 ∧ w.heap.size ≤ w2.heap.size :=
      ⟨.value (.map (some w.heap.size)), w.alloc (.map #[] 0), by simp only [execOp, ho, Option.map_none, Sem.run_bind, run_makeMap_plain, Result.andThen_ok, Sem.run_pure], by show w.heap.size ≤ (w.heap.push _).size; simp⟩
    rw [f1] at e1; injection e1 with e1 e1'; subst e1'; exact f2
  refine ⟨_, r, w', ρ', v, e1, e2, e3, hk, hsz, fun q hq hno => e4 q hq (fun b o' hb => by simp at hb; subst hb; rw [h1]; simp), fun b q o' hb => ?_⟩
  rcases e5 b q o' hb with h | ⟨h, h' | ⟨b0, hb0, o2, hz⟩⟩
  · exact .inl (h3 _ _ _ h)
  · exact .inr ⟨by simp at h; subst h; exact hX, .inl h'⟩
  · simp at hb0; subst hb0; rw [h1] at hz; cases hz
theorem extK_mapget {X : Nat → Prop} {t kt q s b : Nat} {ks : List Nat} {m i : Src} {d : Option Nat} {k : St → Prop} {es : List (AV × AV)} {x : AV} {r : Option (Nat × AV)} (hm : st.src m = some (.mapr b)) (hb : look st.mem b = some (.map es)) (hi : st.src i = some x) (hx : isTree1 x = true) (hxx : keyA s ks x x = some true)
    (hf : findA s ks x es 0 = some r) (hq : q = 1 ∨ r ≠ none) (hk : k (st.put? d (if q = 2 then .tup [(r.map (·.2)).getD (bv false), bv r.isSome] else (r.map (·.2)).getD (bv false)))) : ExtK P c nt X 12 (t :: kt :: q :: s :: ks) [m, i] d st k := by
  intro o ρ a w h _ hc hd hlt
  simp only [chkExt] at hc
  split at hc <;> try (cases hc; done)
  rename_i t' m' k' ok a' b' ho heq
  injection heq with e1 heq; injection heq with e2 heq; subst e1; subst e2
  simp only [Bool.and_eq_true, beq_iff_eq, Bool.or_eq_true, bne_iff_ne] at hc
  obtain ⟨⟨⟨⟨⟨rfl, hok⟩, hkt⟩, hz⟩, g1⟩, g2⟩ := hc
  have hv := VRel.toTree1 hx (h.srcs _ _ _ g2 hi)
  obtain ⟨k0, l, clock, hρ, hh, hl, hrel⟩ := h.mem b _ hb
  have hmv2 := map_inv (h.srcs _ _ _ g1 hm) hρ
  obtain ⟨⟨et, hu⟩, hfl, hst⟩ := keyT_spec hkt
  obtain ⟨r', hr', hres⟩ := find_key hkt hv w hl hrel hf
  have hck := checkKey_of hkt hxx hv l.isEmpty w
  have hrun : ∃ y : Value, TRel w (OwnBy c.A ρ) ((r.map (·.2)).getD (bv false)) y ∧ (Instr.lookup t' (a.eval m') (a.eval k') ok).run P w = .ok (if ok then .tuple #[y, .bool r.isSome] else y) w := by
    rcases hres with ⟨rfl, rfl⟩ | ⟨j, y, u, p, rfl, rfl, hyu, _, _⟩
    · have hq1 : q = 1 := by
        rcases hq with hq | hq
        · exact hq
        · exact absurd rfl hq
      rcases hz with hz | hz
      · exact absurd hq1 hz
      unfold zeroF at hz
      simp only [hu] at hz
      split at hz <;> try (cases hz; done)
      rename_i i hi
      split at hz <;> try (cases hz; done)
      rename_i hzz
      refine ⟨.bool false, .lit rfl, ?_⟩
      have hzv : (zeroValue et).run P w = .ok (.bool false) w := by
        simp [zeroValue, run_typeInfo w hi, hzz]
      simp [Instr.lookup, run_underlying hu, hmv2, MapKept.run_getObj_map hh, hck, hr', hzv]
    · refine ⟨u, hyu, ?_⟩
      simp [Instr.lookup, run_underlying hu, hmv2, MapKept.run_getObj_map hh, hck, hr']
  obtain ⟨y, hy, hrun⟩ := hrun
  refine ⟨_, .value (if ok then .tuple #[y, .bool r.isSome] else y), w, ρ, (if ok then .tuple #[y, .bool r.isSome] else y), ?_, .inl rfl, h.put? (d := o.dst) (fun q hq => hlt q (by rw [← hd]; exact hq)) (x := if q = 2 then .tup [(r.map (·.2)).getD (bv false), bv r.isSome] else (r.map (·.2)).getD (bv false)) ?_, by rw [hd]; exact hk, Nat.le_refl _, fun _ _ _ => rfl, fun b' q o' hb' => .inl hb'⟩
  · simp only [execOp, ho, Sem.run_bind, hrun, Result.andThen_ok, Sem.run_pure]
  · subst hok
    by_cases e : q = 2
    · subst e
      simp only [if_true, beq_self_eq_true]
      refine .tup rfl (fun i x hx => ?_)
      rcases i with _ | _ | i
      · simp at hx; subst hx; exact .tree hy
      · simp at hx; subst hx; exact .tree (.lit rfl)
      · simp at hx
    · have e' : (q == 2) = false := by simpa using e
      simp only [e, if_false, e', Bool.false_eq_true]
      exact .tree hy
theorem extK_aidx {X : Nat → Prop} {t e m sz n : Nat} {x i : Src} {d : Option Nat} {k : St → Prop} {cs : List AV} (hx : st.src x = some (.agg cs)) (hi : st.src i = some (iv n)) (hn : n < m) (hl : n * sz + sz ≤ cs.length) (hk : k (st.put? d (.agg ((cs.drop (n * sz)).take sz)))) : ExtK P c nt X 13 [t, e, m, sz] [x, i] d st k := by
  intro o ρ a w h _ hc hd hlt
  simp only [chkExt] at hc
  split at hc <;> try (cases hc; done)
  rename_i t' x' i' a' b' ho heq
  injection heq with e1 heq; injection heq with e2 heq; subst e1; subst e2
  simp only [Bool.and_eq_true, beq_iff_eq] at hc
  obtain ⟨⟨⟨⟨rfl, hu⟩, hsh⟩, g1⟩, g2⟩ := hc
  split at hu <;> try (cases hu; done)
  rename_i m' e' hue
  simp only [Bool.and_eq_true, beq_iff_eq] at hu
  obtain ⟨rfl, rfl⟩ := hu
  obtain ⟨dd, ii, hdd, hi2, hsz, hag⟩ := shape1_spec hsh
  obtain ⟨vs, hv, hvl, hvs⟩ := (h.srcs _ _ _ g1 hx).agg_inv
  obtain ⟨hiv, _⟩ := (h.srcs _ _ _ g2 hi).lit_inv
  refine ⟨_, .value (.agg (vs.extract (n * sz) (n * sz + sz))), w, ρ, _, ?_, .inl rfl, h.put? (d := o.dst) (fun q hq => hlt q (by rw [← hd]; exact hq)) (x := .agg ((cs.drop (n * sz)).take sz)) ?_, by rw [hd]; exact hk, Nat.le_refl _, fun _ _ _ => rfl, fun b' q o' hb' => .inl hb'⟩
  · simp [execOp, ho, hv, hiv, Instr.index, asIntOf, und hue, hn, part, _root_.Go.part, hag, szOf hi2, hsz]
  · refine .agg (by simp; omega) (fun j y hy => ?_)
    rw [List.getElem?_take] at hy
    split at hy
    · rename_i hj
      rw [List.getElem?_drop] at hy
      have := hvs _ _ hy
      have e2 : (vs.extract (n * sz) (n * sz + sz)).getD j undef = vs.getD (n * sz + j) undef := by
        simp only [Array.getD_eq_getD_getElem?, Array.getElem?_extract]; rw [if_pos (by omega)]
      rw [e2]; exact this
    · cases hy
attribute [simp] keyA findA putA isTree1
theorem extK_mapset {X : Nat → Prop} {t kt s b : Nat} {ks : List Nat} {m i j : Src} {d : Option Nat} {k : St → Prop} {es : List (AV × AV)} {x y : AV} {r : Option (Nat × AV)} (hm : st.src m = some (.mapr b)) (hb : look st.mem b = some (.map es)) (hi : st.src i = some x) (hx : isTree1 x = true) (hxx : keyA s ks x x = some true) (hj : st.src j = some y) (hy : isTree1 y = true) (hX : X b)
    (hf : findA s ks x es 0 = some r) (hk : k (St.put? { st with mem := upd st.mem b (.map (putA x y es r)) } d (.tup []))) : ExtK P c nt X 11 (t :: kt :: s :: ks) [m, i, j] d st k := by
  intro o ρ a w h _ hc hd hlt
  have hop : ∃ m' k' v', (o.op = .mapUpdate t m' k' v' ∨ o.op = .insert t m' k' v') ∧ keyT P t kt s ks = true ∧ srcOK m' m = true ∧ srcOK k' i = true ∧ srcOK v' j = true := by
    simp only [chkExt] at hc
    split at hc <;> try (cases hc; done)
    all_goals
      rename_i t' m' k' v' a' b' d' ho heq
      injection heq with e1 heq; injection heq with e2 heq; injection heq with e3 heq; subst e1; subst e2; subst e3
      simp only [Bool.and_eq_true, beq_iff_eq] at hc
      obtain ⟨⟨⟨⟨rfl, hkt⟩, g1⟩, g2⟩, g3⟩ := hc
    · exact ⟨m', k', v', .inl ho, hkt, g1, g2, g3⟩
    · exact ⟨m', k', v', .inr ho, hkt, g1, g2, g3⟩
  obtain ⟨m', k', v', ho, hkt, g1, g2, g3⟩ := hop
  have hv := VRel.toTree1 hx (h.srcs _ _ _ g2 hi)
  have hw := VRel.toTree1 hy (h.srcs _ _ _ g3 hj)
  obtain ⟨k0, l, clock, hρ, hh, hl, hrel⟩ := h.mem b _ hb
  have hmv2 := map_inv (h.srcs _ _ _ g1 hm) hρ
  obtain ⟨⟨et, hu⟩, hfl, hst⟩ := keyT_spec hkt
  obtain ⟨r', hr', hres⟩ := find_key hkt hv w hl hrel hf
  have hck := checkKey_of hkt hxx hv false w
  have hklt : k0 < w.heap.size := h.lt _ _ _ hρ
  have hrun : ∃ l' clock', (Instr.mapUpdate t (a.eval m') (a.eval k') (a.eval v')).run P w = .ok () { w with heap := w.heap.setIfInBounds k0 (.map l' clock') } ∧ l'.size = (putA x y es r).length ∧ ∀ (i : Nat) p, (putA x y es r)[i]? = some p → ∃ e, l'[i]? = some e ∧ TRel w (OwnBy c.A ρ) p.1 e.key ∧ TRel w (OwnBy c.A ρ) p.2 e.val := by
    rcases hres with ⟨rfl, rfl⟩ | ⟨q, z, u, p, rfl, rfl, hyu, hp, hpk⟩
    · refine ⟨l.push { key := a.eval k', val := a.eval v', born := clock }, clock + 1, ?_, by simp [putA, hl], fun i p hp => ?_⟩
      · simp [Instr.mapUpdate, run_underlying hu, hmv2, MapKept.run_getObj_map hh, hck, hr', MapKept.run_setObj_map _ hh]
      · simp only [putA, List.getElem?_append] at hp
        split at hp
        · rename_i hlt
          obtain ⟨e, he, h1, h2⟩ := hrel i p hp
          exact ⟨e, by rw [Array.getElem?_push, if_neg (by omega)]; exact he, h1, h2⟩
        · rename_i hlt
          have : i = es.length := by
            rcases Nat.lt_or_ge (i - es.length) 1 with h | h
            · omega
            · rw [List.getElem?_eq_none (by simpa using h)] at hp; cases hp
          subst this
          simp at hp
          subst hp
          exact ⟨_, by rw [Array.getElem?_push, if_pos hl.symm], hv, hw⟩
    · obtain ⟨e0, he0, hke0, hve0⟩ := hrel q _ hp
      have hst := run_keyStays (P := P) hpk hv hke0 w
      refine ⟨l.modify q fun e => { e with key := a.eval k', val := a.eval v' }, clock, ?_, by simp [putA, hl], fun i p2 hp2 => ?_⟩
      · simp [Instr.mapUpdate, run_underlying hu, hmv2, MapKept.run_getObj_map hh, hck, hr', he0, hst, MapKept.run_setObj_map _ hh]
      · simp only [putA, List.getElem?_set] at hp2
        rw [Array.getElem?_modify]
        split at hp2
        · rename_i e; subst e
          split at hp2 <;> try (cases hp2; done)
          injection hp2 with hp2; subst hp2
          exact ⟨_, by simp [he0]; rfl, hv, hw⟩
        · rename_i hne
          obtain ⟨e, he, h1, h2⟩ := hrel i p2 hp2
          exact ⟨e, by simp [hne, he], h1, h2⟩
  obtain ⟨l', clock', hrun, hl', hrel'⟩ := hrun
  obtain ⟨hset, hfar⟩ := MapKept.heap_set (o' := .map l' clock') hh
  have hnew := h.writeO (w' := { w with heap := w.heap.setIfInBounds k0 (.map l' clock') }) (blk := .map (putA x y es r)) hb hρ (fun cur1 ty1 fr1 hc => by rw [hset] at hc; cases hc) hfar (by simp) rfl rfl ⟨rfl, by first | exact Nat.le_refl _ | exact Nat.le_succ _⟩ (fun hk => ⟨k0, l', clock', hρ, hset, hl', fun i p hp => by
    obtain ⟨e, he, h1, h2⟩ := hrel' i p hp
    exact ⟨e, he, h1.keep hk.toKeeps, h2.keep hk.toKeeps⟩⟩)
  refine ⟨_, .skip, _, ρ, undef, ?_, .inr ⟨rfl, rfl⟩, hnew.put? (d := o.dst) (fun q hq => hlt q (by rw [← hd]; exact hq)) undef_rel, by rw [hd]; exact hk, by simp, fun q hq hno => hfar q (fun e => by subst e; exact hno b _ hX hρ), fun b' q o' hb' => .inl hb'⟩
  rcases ho with ho | ho <;> simp only [execOp, ho, Sem.run_bind, hrun, Result.andThen_ok, Sem.run_pure]
end
end Go.SX
namespace Go.Proofs.Ytdekelhmneeniaa.F
open Go Go.SX
abbrev DoesT (f : Nat) (args : List AV) (r : AV) : Prop := Does Try.prog f args [] [] (fun r' m => m = [] ∧ r' = r)
structure Node where
  b : Int
  s : Int
  q : Int
  d : List Int
def Node.i (n : Node) : Int × Int := (n.b, n.s)
def eI (x : Int × Int) : List AV := [iv x.1, iv x.2]
def eN (n : Node) : List AV := [iv n.b, iv n.s, iv n.q, .ro 1 (ints n.d)]
def eNs (l : List Node) : List (List AV) := l.map eN
theorem eNs_length (l : List Node) : (eNs l).length = l.length := by simp [eNs]
theorem eNs_snoc (l : List Node) (n : Node) : eNs l ++ [eN n] = eNs (l ++ [n]) := by simp [eNs]
def dep (d : List Int) (y : Int) : Int := if y < 1 ∨ (d.length : Int) < y then 0 else d.getD (y - 1).toNat 0
def waits (d : List Int) (x : Int × Int) : Bool := decide (1 ≤ x.2) && decide (x.2 ≤ dep d x.1)
def near (n : Node) : Bool := decide (1 ≤ n.b) && decide (n.b ≤ 7) && decide (1 ≤ n.s) && decide (n.s ≤ 60) && !n.d.any (fun x => decide (60 < x))
def cmpI (a b : Int) : Int := if a < b then -1 else if b < a then 1 else 0
def orI : List Int → Int
  | [] => 0
  | x :: r => if x = 0 then orI r else x
def places (x y : Int × Int) : Int := orI [cmpI x.1 y.1, cmpI x.2 y.2]
def compN (a b : Node) : Int := orI [cmpI a.q b.q, places a.i b.i]
def lessN (a b : Node) : Bool := decide (a.q < b.q) || (decide (a.q = b.q) && (decide (a.b < b.b) || (decide (a.b = b.b) && decide (a.s < b.s))))
theorem cmpI_neg (a b : Int) : cmpI a b < 0 ↔ a < b := by unfold cmpI; split; simp; omega; split <;> simp <;> omega
theorem cmpI_zero (a b : Int) : cmpI a b = 0 ↔ a = b := by unfold cmpI; split; simp; omega; split <;> simp <;> omega
theorem orI_neg (x y : Int) : orI [x, y] < 0 ↔ x < 0 ∨ (x = 0 ∧ y < 0) := by
  unfold orI; split
  · rename_i h; subst h; unfold orI; split <;> simp_all [orI]
  · rename_i h; simp [h]
theorem orI_zero (x y : Int) : orI [x, y] = 0 ↔ x = 0 ∧ y = 0 := by
  unfold orI; split
  · rename_i h; subst h; unfold orI; split <;> simp_all [orI]
  · rename_i h; simp [h]
theorem places_neg (x y : Int × Int) : places x y < 0 ↔ x.1 < y.1 ∨ (x.1 = y.1 ∧ x.2 < y.2) := by unfold places; rw [orI_neg, cmpI_neg, cmpI_zero, cmpI_neg]
theorem places_zero (x y : Int × Int) : places x y = 0 ↔ x = y := by unfold places; rw [orI_zero, cmpI_zero, cmpI_zero]; exact ⟨fun h => Prod.ext h.1 h.2, fun h => by subst h; exact ⟨rfl, rfl⟩⟩
theorem compN_neg (a b : Node) : compN a b < 0 ↔ a.q < b.q ∨ (a.q = b.q ∧ (a.b < b.b ∨ (a.b = b.b ∧ a.s < b.s))) := by unfold compN; rw [orI_neg, cmpI_neg, cmpI_zero, places_neg]; rfl
theorem compN_zero (a b : Node) : compN a b = 0 ↔ a.q = b.q ∧ a.i = b.i := by unfold compN; rw [orI_zero, cmpI_zero, places_zero]
theorem compN_less (a b : Node) : decide (compN a b < 0) = lessN a b := by
  unfold lessN
  rw [Bool.eq_iff_iff]
  simp [compN_neg]
theorem getL {α : Type} {l : List α} {i : Nat} (f : α → List AV) (h : i < l.length) (hf : l.length < 4611686018427387904) : ∃ x, l[i]? = some x ∧ (∀ h, l[i]'h = x) ∧ (l.map f)[i]? = some (f x) ∧ (∀ h, (l.map f)[i]'h = f x) ∧ l.drop i = x :: l.drop (i + 1) ∧ IntKind.i64.wrap ((i : Int) + 1) = (i : Int) + 1 ∧ (i : Int) < (l.length : Int) ∧ l.take (i + 1) = l.take i ++ [x] :=
  ⟨l[i], List.getElem?_eq_getElem h, fun _ => rfl, by simp [h], fun _ => by simp, List.drop_eq_getElem_cons h, wrap_id (by omega) (by omega), by omega, by rw [List.take_add_one, List.getElem?_eq_getElem h]; rfl⟩
def setM (l : List (Int × Int)) : List (AV × AV) := l.map fun e => (.agg (eI e), bv true)
def ins (l : List (Int × Int)) (x : Int × Int) : List (Int × Int) := if x ∈ l then l else l ++ [x]
theorem findA_set (x : Int × Int) : ∀ (l : List (Int × Int)) (n : Nat), findA 1 [1, 1] (.agg (eI x)) (setM l) n = some (if x ∈ l then some (n + l.idxOf x, bv true) else none)
  | [], n => by simp [setM, findA]
  | e :: r, n => by
    have ih := findA_set x r (n + 1)
    simp only [setM, List.map_cons, findA] at ih ⊢
    have hk : keyA 1 [1, 1] (.agg (eI x)) (.agg (eI e)) = some (decide (x = e)) := by
      obtain ⟨a, b⟩ := x
      obtain ⟨a', b'⟩ := e
      simp only [keyA, eqA, eqv, eI, kindV, if_true, Prod.mk.injEq, Bool.decide_and, Bool.and_true]
      refine congrArg some ?_
      rw [Bool.eq_iff_iff]; simp
    rw [hk]
    by_cases h : x = e
    · subst h; simp
    · simp only [h, decide_false]
      rw [ih]
      by_cases hm : x ∈ r
      · simp [hm, List.idxOf_cons, Ne.symm h, beq_eq_false_iff_ne.2 (Ne.symm h)]; omega
      · simp [hm, h]
theorem getA_set (x : Int × Int) (l : List (Int × Int)) : ∃ r, findA 1 [1, 1] (.agg (eI x)) (setM l) 0 = some r ∧ (r.map (·.2)).getD (bv false) = bv (decide (x ∈ l)) :=
  ⟨_, findA_set x l 0, by by_cases h : x ∈ l <;> simp [h]⟩
theorem putA_set (x : Int × Int) (l : List (Int × Int)) : ∃ r, findA 1 [1, 1] (.agg (eI x)) (setM l) 0 = some r ∧ putA (.agg (eI x)) (bv true) (setM l) r = setM (ins l x) :=
  ⟨_, findA_set x l 0, by
    unfold ins
    by_cases h : x ∈ l
    · simp only [h, if_true, putA]
      have hi : l.idxOf x < l.length := List.idxOf_lt_length_iff.2 h
      apply List.ext_getElem
      · simp
      · intro i h1 h2
        simp only [List.getElem_set, Nat.zero_add]
        split
        · rename_i e; subst e; simp [setM]
        · rfl
    · simp [h, putA, setM]⟩
def I54 (l : List Int) (m : Nat) (st : St) : Prop := ∃ i : Nat, i ≤ l.length ∧ m = l.length - i ∧ orI l = orI (l.drop i) ∧ st = ⟨[(3, iv 0), (6, .ro 1 (ints l)), (7, iv l.length), (8, iv i)], [], []⟩
theorem c78 : chkFn Try.prog 78 6 1 a78 a78R = true := by kernel_rfl
theorem d78 (x : Int) : DoesT 78 [iv x] (bv false) := by
 refine Does.of (nt := 6) (ac := a78) (rds := a78R) c78 (fun c hc => ?_)
 unfold a78
 apply J.seq
 refine J.regE (by simp; rfl) ?_
 simp
 apply J.seq
 refine J.regE (by simp; rfl) ?_
 simp
 apply J.ret
 refine ⟨by simp, rfl, _, [], by simp [a78R]; rfl, ?_⟩
 simp
theorem c55 : chkFn Try.prog 55 20 2 a55 a55R = true := by kernel_rfl
theorem d55 (a b : Int) : DoesT 55 [iv a, iv b] (iv (cmpI a b)) := by
 refine Does.of (nt := 20) (ac := a55) (rds := a55R) c55 (fun c hc => ?_)
 unfold a55
 apply J.seq
 refine J.regE (by simp; rfl) ?_
 simp
 apply J.seq
 apply J.reg
 refine runL_step rfl (by simp; rfl) ?_
 refine runL_tree rfl (d78 a) (by simp) hc ?_
 simp
 refine runL_step rfl (by simp; rfl) ?_
 simp [runL]
 apply J.seq
 apply J.reg
 refine runL_step rfl (by simp; rfl) ?_
 refine runL_tree rfl (d78 b) (by simp) hc ?_
 simp
 refine runL_step rfl (by simp; rfl) ?_
 simp [runL]
 apply J.seq
 apply J.seq
 refine J.regE (by simp; rfl) ?_
 simp
 apply J.cond; simp
 apply J.skip; simp
 apply J.seq
 apply J.seq
 refine J.regE (by simp; rfl) ?_
 simp
 apply J.cond; simp
 apply J.skip; simp
 apply J.seq
 apply J.seq
 refine J.regE (by simp; rfl) ?_
 simp
 refine J.condB rfl (fun h16 => ?_) (fun h16 => ?_)
 ·
  try simp only [h16]
  try simp at h16
  apply J.seq
  refine J.regE (by simp; rfl) ?_
  simp
  apply J.ret
  refine ⟨by simp, rfl, _, [], by simp [a55R]; rfl, ?_⟩
  first | (simp [cmpI, *]; done) | (simp [cmpI]; (repeat' split) <;> omega)
 ·
  try simp only [h16]
  try simp at h16
  apply J.skip; simp
  apply J.seq
  apply J.seq
  refine J.regE (by simp; rfl) ?_
  simp
  refine J.condB rfl (fun h19 => ?_) (fun h19 => ?_)
  ·
   try simp only [h19]
   try simp at h19
   apply J.seq
   refine J.regE (by simp; rfl) ?_
   simp
   apply J.ret
   refine ⟨by simp, rfl, _, [], by simp [a55R]; rfl, ?_⟩
   first | (simp [cmpI, *]; done) | (simp [cmpI]; (repeat' split) <;> omega)
  ·
   try simp only [h19]
   try simp at h19
   apply J.skip; simp
   apply J.seq
   refine J.regE (by simp; rfl) ?_
   simp
   apply J.ret
   refine ⟨by simp, rfl, _, [], by simp [a55R]; rfl, ?_⟩
   first | (simp [cmpI, *]; done) | (simp [cmpI]; (repeat' split) <;> omega)
theorem c54 : chkFn Try.prog 54 18 1 a54 a54R = true := by kernel_rfl
theorem d54 (l : List Int) (hl : l.length < 1000000) : DoesT 54 [.ro 1 (ints l)] (iv (orI l)) := by
 refine Does.of (nt := 18) (ac := a54) (rds := a54R) c54 (fun c hc => ?_)
 unfold a54
 apply J.seq
 refine J.regE (by simp; rfl) ?_
 simp
 apply J.seq
 refine J.regE (by simp; rfl) ?_
 simp
 apply J.seq
 apply J.seq
 refine J.regE (by simp; rfl) ?_
 simp
 apply J.block
 refine J.loop hc (I54 l) ?_ ?_
 ·exact ⟨_, _, St.le_refl _, 0, by omega, rfl, rfl, rfl⟩
 rintro n st ⟨i, hi, rfl, hI, rfl⟩
 apply J.seq
 refine J.regE (by simp; rfl) ?_
 simp
 apply J.seq
 apply J.cond; simp
 refine ⟨fun hlt => ?_, fun hlt => ?_⟩
 ·
  obtain ⟨y, hx, hgx, hg, hge, hdr, hw, hlt2, -⟩ := getL (fun x => [iv x]) (show i < l.length by omega) (by omega)
  rw [hdr] at hI
  apply J.skip; simp
  apply J.seq
  apply J.block
  apply J.seq
  refine J.regE (by simp [hlt, hgx]; rfl) ?_
  simp
  apply J.seq
  refine J.regE (by simp; rfl) ?_
  simp
  apply J.cond; simp
  refine ⟨fun h14 => ?_, fun h14 => ?_⟩
  ·
   have hI2 : orI l = y := by rw [hI]; simp [orI, h14]
   apply J.seq
   refine J.regE (by simp; rfl) ?_
   simp
   apply J.ret
   refine ⟨by simp, rfl, _, [], by simp [a54R]; rfl, ?_⟩
   simp [hI2]
  ·
   have hI2 : orI l = orI (l.drop (i + 1)) := by rw [hI]; simp [orI]; omega
   apply J.skip; simp
   refine J.regE (by simp [hw]; rfl) ?_
   simp
   exact ⟨_, by omega, _, St.le_refl _, i + 1, by omega, rfl, hI2, rfl⟩
 ·
  have : i = l.length := by omega
  subst this
  rw [List.drop_length] at hI
  apply J.exit; simp
  apply J.seq
  refine J.regE (by simp; rfl) ?_
  simp
  apply J.ret
  refine ⟨by simp, rfl, _, [], by simp [a54R]; rfl, ?_⟩
  simp [hI, orI]
theorem c43 : chkFn Try.prog 43 17 2 a43 a43R = true := by kernel_rfl
theorem d43 (x y : Int × Int) : DoesT 43 [.agg (eI x), .agg (eI y)] (iv (places x y)) := by
 refine Does.of (nt := 17) (ac := a43) (rds := a43R) c43 (fun c hc => ?_)
 unfold a43
 apply J.seq
 refine J.regE (by simp [eI]; rfl) ?_
 simp
 apply J.seq
 apply J.draw; intro c' hc'
 iterate 8 refine runP_stepQ (by simp [eI]; rfl) ?_
 refine runP_tree rfl (d55 x.1 y.1) (by simp) rfl ?_
 simp
 refine runP_tree rfl (d55 x.2 y.2) (by simp) rfl ?_
 simp
 refine runP_one rfl (by simp) (by simp [eI]; rfl) ?_
 refine runP_view (le_freeze _ 43015 rfl) rfl (by simp [St.freeze, ints]) (d54 [cmpI x.1 y.1, cmpI x.2 y.2] (by simp)) (by simp) ?_
 rintro rv m1 ⟨rfl, rfl⟩
 refine ⟨rfl, rfl, ?_⟩
 simp
 refine runP_stepQ (by simp [eI]; rfl) ?_
 simp [runP]
 apply J.ret
 refine ⟨by simp, rfl, _, [], by simp [a43R]; rfl, ?_⟩
 simp [places]
theorem c42 : chkFn Try.prog 42 10 2 a42 a42R = true := by kernel_rfl
theorem d42 (a b : Node) : DoesT 42 [.agg (eN a), .agg (eN b)] (iv (places a.i b.i)) := by
 refine Does.of (nt := 10) (ac := a42) (rds := a42R) c42 (fun c hc => ?_)
 unfold a42
 apply J.seq
 refine J.regE (by simp [eN]; rfl) ?_
 simp
 apply J.seq
 apply J.reg
 iterate 4 refine runL_step rfl (by simp [eN]; rfl) ?_
 refine runL_tree rfl (d43 a.i b.i) (by simp) hc ?_
 simp
 refine runL_step rfl (by simp [eN]; rfl) ?_
 simp [runL]
 apply J.ret
 refine ⟨by simp, rfl, _, [], by simp [a42R]; rfl, ?_⟩
 simp
theorem c29 : chkFn Try.prog 29 19 2 a29 a29R = true := by kernel_rfl
theorem d29 (a b : Node) : DoesT 29 [.agg (eN a), .agg (eN b)] (iv (compN a b)) := by
 refine Does.of (nt := 19) (ac := a29) (rds := a29R) c29 (fun c hc => ?_)
 unfold a29
 apply J.seq
 refine J.regE (by simp [eN]; rfl) ?_
 simp
 apply J.seq
 apply J.draw; intro c' hc'
 iterate 10 refine runP_stepQ (by simp [eN]; rfl) ?_
 refine runP_tree rfl (d55 a.q b.q) (by simp) rfl ?_
 simp
 refine runP_tree rfl (d43 a.i b.i) (by simp) rfl ?_
 simp
 refine runP_one rfl (by simp) (by simp [eN]; rfl) ?_
 refine runP_view (le_freeze _ 29017 rfl) rfl (by simp [St.freeze, ints]) (d54 [cmpI a.q b.q, places a.i b.i] (by simp)) (by simp) ?_
 rintro rv m1 ⟨rfl, rfl⟩
 refine ⟨rfl, rfl, ?_⟩
 simp
 refine runP_stepQ (by simp [eN]; rfl) ?_
 simp [runP]
 apply J.ret
 refine ⟨by simp, rfl, _, [], by simp [a29R]; rfl, ?_⟩
 simp [compN]
theorem c16 : chkFn Try.prog 16 9 2 a16 a16R = true := by kernel_rfl
theorem d16 (a b : Node) : DoesT 16 [.agg (eN a), .agg (eN b)] (bv (lessN a b)) := by
 refine Does.of (nt := 9) (ac := a16) (rds := a16R) c16 (fun c hc => ?_)
 unfold a16
 apply J.seq
 refine J.regE (by simp [eN]; rfl) ?_
 simp
 apply J.seq
 apply J.reg
 iterate 2 refine runL_step rfl (by simp [eN]; rfl) ?_
 refine runL_tree rfl (d29 a b) (by simp) hc ?_
 simp
 iterate 2 refine runL_step rfl (by simp [eN]; rfl) ?_
 simp [runL]
 apply J.ret
 refine ⟨by simp, rfl, _, [], by simp [a16R]; rfl, ?_⟩
 simp [← compN_less]
theorem c17 : chkFn Try.prog 17 44 2 a17 a17R = true := by kernel_rfl
theorem d17 (a b : Node) : DoesT 17 [.agg (eN a), .agg (eN b)] (bv (lessN a b)) := by
 refine Does.of (nt := 44) (ac := a17) (rds := a17R) c17 (fun c hc => ?_)
 unfold a17
 apply J.seq
 refine J.regE (by simp [eN]; rfl) ?_
 simp
 apply J.seq
 apply J.seq
 refine J.regE (by simp [eN]; rfl) ?_
 simp
 refine J.condB rfl (fun h11 => ?_) (fun h11 => ?_)
 ·
  try simp only [h11]
  try simp at h11
  apply J.seq
  refine J.regE (by simp [eN]; rfl) ?_
  simp
  apply J.ret
  refine ⟨by simp, rfl, _, [], by simp [a17R]; rfl, ?_⟩
  simp [lessN, *]
 ·
  try simp only [h11]
  try simp at h11
  apply J.skip; simp
  apply J.seq
  apply J.reg
  iterate 8 refine runL_step rfl (by simp [eN]; rfl) ?_
  refine runL_if rfl (fun g26 => ?_) (fun g26 => ?_)
  ·
   try simp only [g26]
   try simp at g26
   iterate 8 refine runL_step rfl (by simp [eN]; rfl) ?_
   refine runL_if rfl (fun g34 => ?_) (fun g34 => ?_)
   ·
    try simp only [g34]
    try simp at g34
    iterate 10 refine runL_step rfl (by simp [eN]; rfl) ?_
    simp [runL]
    apply J.ret
    refine ⟨by simp, rfl, _, [], by simp [a17R]; rfl, ?_⟩
    simp [lessN, *]
   ·
    try simp only [g34]
    try simp at g34
    iterate 9 refine runL_step rfl (by simp [eN]; rfl) ?_
    simp [runL]
    apply J.ret
    refine ⟨by simp, rfl, _, [], by simp [a17R]; rfl, ?_⟩
    simp [lessN, *]
  ·
   try simp only [g26]
   try simp at g26
   iterate 17 refine runL_step rfl (by simp [eN]; rfl) ?_
   simp [runL]
   apply J.ret
   refine ⟨by simp, rfl, _, [], by simp [a17R]; rfl, ?_⟩
   simp [lessN, *]
end Go.Proofs.Ytdekelhmneeniaa.F
namespace Go.Proofs.Ytdekelhmneeniaa.P11
open Go Go.SX
def a28r0 : AC := .reg [oI 4 (.mov (.c (.lit (.int .i64 0))))] [0, 1]
def a28r1 : AC := .reg [oI 6 (.mov (.s 0)), oI 7 (.len (.s 6)), oI 8 (.mov (.c (.lit (.int .i64 0))))] [0, 1, 7, 8]
def a28r2 : AC := .reg [oI 9 (.iop .lss (.s 8) (.s 7))] [0, 1, 7, 8, 9]
def a28r3 : AC := .reg [oI 10 (.mov (.s 8)), oI 5 (.mov (.s 10))] [0, 1, 5, 7, 8]
def a28r4 : AC := .reg [oI 11 (.mov (.s 1)), oI 12 (.mov (.s 0)), oI 13 (.mov (.s 5)), oI 14 (.iaddr 1 (.s 12) (.s 13)), oI 15 (.load 1 false (.s 14)), oI 16 (.iop .eql (.s 11) (.s 15))] [0, 1, 5, 7, 8, 16]
def a28r5 : AC := .reg [oI 17 (.mov (.s 5)), oI 4 (.mov (.s 17))] [4]
def a28r6 : AC := .reg [oI 18 (.iop .add (.s 8) (.c (.lit (.int .i64 1)))), oI 8 (.mov (.s 18))] [0, 1, 7, 8]
def a28L2 : AC := .seq a28r2 (.seq (.cond (.s 9) (.skip) (.exit 0)) (.seq (.block 1 (.seq a28r3 (.seq a28r4 (.cond (.s 16) (.seq a28r5 (.ret)) (.skip))))) a28r6))
def a28r7 : AC := .reg [oI 4 (.mov (.c (.lit (.int .i64 (-1)))))] [4]
def a28 : AC := .seq a28r0 (.seq (.seq a28r1 (.block 0 (.loop a28L2))) (.seq a28r7 (.ret)))
def a28R : List RD := [.tmp 4]
def a29r0 : AC := .reg [oI 4 (.alloc 29004 105 [(.lit (.int .i64 0)), (.lit (.int .i64 0))])] [0, 1, 4]
def a29r1 : AC := .reg [oI 5 (.mov (.s 0)), oI 6 (.nilck (.s 5)), oI 7 (.faddr 6 (.s 6)), oI 8 (.load 1 false (.s 7)), oI 9 (.iop .add (.s 8) (.c (.lit (.int .i64 1)))), oI 10 (.nilck (.s 5)), oI 11 (.faddr 6 (.s 10)), oN (.store 1 (.s 11) (.s 9))] [0, 1, 4]
def a29r2 : AC := .draw [2, 3] (.take 0 (oI 12 (.mov (.s 0))) <| .take 1 (oI 13 (.nilck (.s 12))) <| .take 2 (oI 14 (.faddr 1 (.s 13))) <| .take 3 (oI 15 (.load 1 false (.s 14))) <| .take 4 (oI 16 (.mov (.s 1))) <| .take 5 (oI 17 (.mov (.s 0))) <| .take 6 (oI 18 (.nilck (.s 17))) <| .take 7 (oI 19 (.faddr 2 (.s 18))) <| .take 8 (oI 20 (.load 1 false (.s 19))) <| .take 9 (oI 21 (.mov (.s 1))) <| .take 10 (oI 22 (.mov (.s 0))) <| .take 11 (oI 23 (.nilck (.s 22))) <| .take 12 (oI 24 (.faddr 6 (.s 23))) <| .take 13 (oI 25 (.load 1 false (.s 24))) <| .take 14 (oI 26 (.mov (.s 0))) <| .take 15 (oI 27 (.nilck (.s 26))) <| .take 16 (oI 28 (.faddr 6 (.s 27))) <| .take 17 (oI 29 (.load 1 false (.s 28))) <| .take 18 (oI 30 (.iaddr 1 (.s 15) (.s 16))) <| .alt 19 (oN (.store 1 (.s 30) (.s 25))) ( .take 20 (oI 31 (.iaddr 1 (.s 20) (.s 21))) <| .alt 21 (oN (.store 1 (.s 31) (.s 29))) ( .done) .done) .done) [0, 1, 4]
def a29r3 : AC := .reg [oI 32 (.mov (.s 0)), oI 33 (.mov (.s 0)), oI 34 (.nilck (.s 33)), oI 35 (.faddr 3 (.s 34)), oI 36 (.load 1 false (.s 35)), oI 37 (.mov (.s 1)), oI 38 (.bslice 29038 3 1 [(.s 37)]), oI 39 (.append 29039 3 1 8 (.s 36) (.s 38)), oI 40 (.nilck (.s 32)), oI 41 (.faddr 3 (.s 40)), oN (.store 1 (.s 41) (.s 39))] [1, 4]
def a29r4 : AC := .reg [oI 42 (.mov (.s 1)), oI 43 (.build [(.lit (.int .i64 0)), (.lit (.int .i64 0))] [(0, 1, (.s 42))]), oN (.store 2 (.s 4) (.s 43))] [4]
def a29 : AC := .seq a29r0 (.seq a29r1 (.seq a29r2 (.seq a29r3 (.seq a29r4 (.ret)))))
def a29R : List RD := [.cell 4 2 true]
def a30r0 : AC := .draw [] (.take 0 (oI 7 (.mov (.s 0))) <| .take 1 (oI 8 (.nilck (.s 7))) <| .take 2 (oI 9 (.faddr 2 (.s 8))) <| .take 3 (oI 10 (.load 1 false (.s 9))) <| .take 4 (oI 11 (.mov (.s 1))) <| .take 5 (oI 12 (.iaddr 1 (.s 10) (.s 11))) <| .take 6 (oI 13 (.load 1 false (.s 12))) <| .take 7 (oI 14 (.mov (.s 0))) <| .take 8 (oI 15 (.nilck (.s 14))) <| .take 9 (oI 16 (.faddr 1 (.s 15))) <| .take 10 (oI 17 (.load 1 false (.s 16))) <| .take 11 (oI 18 (.mov (.s 1))) <| .take 12 (oI 19 (.iaddr 1 (.s 17) (.s 18))) <| .take 13 (oI 20 (.load 1 false (.s 19))) <| .take 14 (oI 21 (.iop .lss (.s 13) (.s 20))) <| .done) [0, 1, 21]
def a30r1 : AC := .reg [oI 22 (.mov (.s 0)), oI 23 (.nilck (.s 22)), oI 24 (.faddr 5 (.s 23)), oI 25 (.load 1 false (.s 24)), oI 26 (.iop .add (.s 25) (.c (.lit (.int .i64 1)))), oI 27 (.nilck (.s 22)), oI 28 (.faddr 5 (.s 27)), oN (.store 1 (.s 28) (.s 26))] [0, 1]
def a30r2 : AC := .reg [oI 29 (.mov (.s 0)), oI 30 (.nilck (.s 29)), oI 31 (.faddr 3 (.s 30)), oI 32 (.load 1 false (.s 31)), oI 33 (.mov (.s 1)), oI 34 (.callv (.c (.fn 61 [])) [(.s 32), (.s 33)]), oI 4 (.mov (.s 34))] [0, 4]
def a30r3 : AC := .reg [oI 35 (.mov (.s 0)), oI 36 (.nilck (.s 35)), oI 37 (.faddr 3 (.s 36)), oI 38 (.load 1 false (.s 37)), oI 39 (.mov (.s 4)), oI 40 (.slice 1 (.s 38) (some (.s 39)) none), oI 41 (.len (.s 40)), oI 42 (.mov (.c (.lit (.int .i64 0))))] [0, 4, 40, 41, 42]
def a30r4 : AC := .reg [oI 43 (.iop .lss (.s 42) (.s 41))] [0, 4, 40, 41, 42, 43]
def a30r5 : AC := .reg [oI 44 (.iaddr 1 (.s 40) (.s 42)), oI 45 (.load 1 false (.s 44)), oI 6 (.mov (.s 45))] [0, 4, 6, 40, 41, 42]
def a30r6 : AC := .draw [5] (.take 0 (oI 46 (.mov (.s 0))) <| .take 1 (oI 47 (.nilck (.s 46))) <| .take 2 (oI 48 (.faddr 4 (.s 47))) <| .take 3 (oI 49 (.load 1 false (.s 48))) <| .take 4 (oI 50 (.mov (.s 6))) <| .take 5 (oI 51 (.mov (.s 0))) <| .take 6 (oI 52 (.nilck (.s 51))) <| .take 7 (oI 53 (.faddr 5 (.s 52))) <| .take 8 (oI 54 (.load 1 false (.s 53))) <| .take 9 (oI 55 (.iaddr 1 (.s 49) (.s 50))) <| .alt 10 (oN (.store 1 (.s 55) (.s 54))) ( .done) .done) [0, 4, 40, 41, 42]
def a30r7 : AC := .reg [oI 56 (.iop .add (.s 42) (.c (.lit (.int .i64 1)))), oI 42 (.mov (.s 56))] [0, 4, 40, 41, 42]
def a30L4 : AC := .seq a30r4 (.seq (.cond (.s 43) (.skip) (.exit 0)) (.seq (.block 1 (.seq a30r5 a30r6)) a30r7))
def a30r8 : AC := .reg [oI 57 (.mov (.s 0)), oI 58 (.mov (.s 0)), oI 59 (.nilck (.s 58)), oI 60 (.faddr 3 (.s 59)), oI 61 (.load 1 false (.s 60)), oI 62 (.mov (.s 4)), oI 63 (.slice 1 (.s 61) none (some (.s 62))), oI 64 (.nilck (.s 57)), oI 65 (.faddr 3 (.s 64)), oN (.store 1 (.s 65) (.s 63))] []
def a30 : AC := .seq (.seq a30r0 (.cond (.s 21) (.ret) (.skip))) (.seq a30r1 (.seq a30r2 (.seq (.seq a30r3 (.block 0 (.loop a30L4))) a30r8)))
def a30R : List RD := []
def a27r0 : AC := .reg [oI 9 (.mov (.s 0)), oI 10 (.mov (.s 1)), oI 11 (.callv (.c (.fn 89 [])) [(.s 9), (.s 10)]), oI 12 (.bslice 27012 105 2 [(.s 11)]), oI 4 (.mov (.s 12))] [0, 4]
def a27r1 : AC := .reg [oI 13 (.mov (.s 4)), oI 14 (.len (.s 13)), oI 15 (.iop .gtr (.s 14) (.c (.lit (.int .i64 0))))] [0, 4, 15]
def a27r2 : AC := .reg [oI 16 (.mov (.s 4)), oI 17 (.mov (.s 4)), oI 18 (.len (.s 17)), oI 19 (.iop .sub (.s 18) (.c (.lit (.int .i64 1)))), oI 20 (.iaddr 2 (.s 16) (.s 19)), oI 5 (.mov (.s 20))] [0, 4, 5]
def a27r3 : AC := .draw [] (.take 0 (oI 21 (.mov (.s 5))) <| .take 1 (oI 22 (.nilck (.s 21))) <| .take 2 (oI 23 (.faddr 1 (.s 22))) <| .take 3 (oI 24 (.load 1 false (.s 23))) <| .take 4 (oI 25 (.mov (.s 0))) <| .take 5 (oI 26 (.nilck (.s 25))) <| .take 6 (oI 27 (.faddr 0 (.s 26))) <| .take 7 (oI 28 (.load 1 false (.s 27))) <| .take 8 (oI 29 (.mov (.s 5))) <| .take 9 (oI 30 (.nilck (.s 29))) <| .take 10 (oI 31 (.faddr 0 (.s 30))) <| .take 11 (oI 32 (.load 1 false (.s 31))) <| .take 12 (oI 33 (.iaddr 1 (.s 28) (.s 32))) <| .take 13 (oI 34 (.load 1 false (.s 33))) <| .take 14 (oI 35 (.len (.s 34))) <| .take 15 (oI 36 (.iop .lss (.s 24) (.s 35))) <| .done) [0, 4, 5, 36]
def a27r4 : AC := .draw [] (.take 0 (oI 37 (.mov (.s 0))) <| .take 1 (oI 38 (.nilck (.s 37))) <| .take 2 (oI 39 (.faddr 0 (.s 38))) <| .take 3 (oI 40 (.load 1 false (.s 39))) <| .take 4 (oI 41 (.mov (.s 5))) <| .take 5 (oI 42 (.nilck (.s 41))) <| .take 6 (oI 43 (.faddr 0 (.s 42))) <| .take 7 (oI 44 (.load 1 false (.s 43))) <| .take 8 (oI 45 (.iaddr 1 (.s 40) (.s 44))) <| .take 9 (oI 46 (.load 1 false (.s 45))) <| .take 10 (oI 47 (.mov (.s 5))) <| .take 11 (oI 48 (.nilck (.s 47))) <| .take 12 (oI 49 (.faddr 1 (.s 48))) <| .take 13 (oI 50 (.load 1 false (.s 49))) <| .take 14 (oI 51 (.iaddr 1 (.s 46) (.s 50))) <| .take 15 (oI 52 (.load 1 false (.s 51))) <| .take 16 (oI 6 (.mov (.s 52))) <| .done) [0, 4, 5, 6]
def a27r5 : AC := .reg [oI 53 (.mov (.s 5)), oI 54 (.nilck (.s 53)), oI 55 (.faddr 1 (.s 54)), oI 56 (.load 1 false (.s 55)), oI 57 (.iop .add (.s 56) (.c (.lit (.int .i64 1)))), oI 58 (.nilck (.s 53)), oI 59 (.faddr 1 (.s 58)), oN (.store 1 (.s 59) (.s 57))] [0, 4, 5, 6]
def a27r6 : AC := .reg [oI 61 (.mov (.s 0)), oI 62 (.nilck (.s 61)), oI 63 (.faddr 1 (.s 62)), oI 64 (.load 1 false (.s 63)), oI 65 (.mov (.s 6)), oI 66 (.iaddr 1 (.s 64) (.s 65)), oI 67 (.load 1 false (.s 66)), oI 68 (.iop .eql (.s 67) (.c (.lit (.int .i64 0)))), oI 60 (.mov (.s 68))] [0, 4, 5, 6, 60]
def a27r7 : AC := .reg [oI 69 (.mov (.s 4)), oI 70 (.mov (.s 0)), oI 71 (.mov (.s 6)), oI 72 (.callv (.c (.fn 89 [])) [(.s 70), (.s 71)]), oI 73 (.bslice 27073 105 2 [(.s 72)]), oI 74 (.append 27074 105 2 16 (.s 69) (.s 73)), oI 4 (.mov (.s 74))] [0, 4]
def a27r8 : AC := .reg [oI 76 (.mov (.s 0)), oI 77 (.nilck (.s 76)), oI 78 (.faddr 4 (.s 77)), oI 79 (.load 1 false (.s 78)), oI 80 (.mov (.s 6)), oI 81 (.iaddr 1 (.s 79) (.s 80)), oI 82 (.load 1 false (.s 81)), oI 83 (.iop .eql (.s 82) (.c (.lit (.int .i64 0)))), oI 75 (.mov (.s 83))] [0, 4, 5, 6, 75]
def a27r9 : AC := .draw [3] (.take 0 (oI 84 (.mov (.s 0))) <| .take 1 (oI 85 (.nilck (.s 84))) <| .take 2 (oI 86 (.faddr 2 (.s 85))) <| .take 3 (oI 87 (.load 1 false (.s 86))) <| .take 4 (oI 88 (.mov (.s 5))) <| .take 5 (oI 89 (.nilck (.s 88))) <| .take 6 (oI 90 (.faddr 0 (.s 89))) <| .take 7 (oI 91 (.load 1 false (.s 90))) <| .take 8 (oI 92 (.mov (.s 0))) <| .take 9 (oI 93 (.nilck (.s 92))) <| .take 10 (oI 94 (.faddr 2 (.s 93))) <| .take 11 (oI 95 (.load 1 false (.s 94))) <| .take 12 (oI 96 (.mov (.s 5))) <| .take 13 (oI 97 (.nilck (.s 96))) <| .take 14 (oI 98 (.faddr 0 (.s 97))) <| .take 15 (oI 99 (.load 1 false (.s 98))) <| .take 16 (oI 100 (.iaddr 1 (.s 95) (.s 99))) <| .take 18 (oI 102 (.mov (.s 0))) <| .take 19 (oI 103 (.nilck (.s 102))) <| .take 20 (oI 104 (.faddr 1 (.s 103))) <| .take 21 (oI 105 (.load 1 false (.s 104))) <| .take 22 (oI 106 (.mov (.s 6))) <| .take 23 (oI 107 (.iaddr 1 (.s 105) (.s 106))) <| .take 24 (oI 108 (.load 1 false (.s 107))) <| .alt 17 (oI 101 (.load 1 false (.s 100))) ( .take 25 (oI 109 (.minmax false (.s 101) (.s 108))) <| .take 26 (oI 110 (.iaddr 1 (.s 87) (.s 91))) <| .alt 27 (oN (.store 1 (.s 110) (.s 109))) ( .done) .done) .done) [0, 4, 5]
def a27L3 : AC := .seq (.seq a27r3 (.cond (.s 36) (.skip) (.exit 2))) (.block 3 (.seq a27r4 (.seq a27r5 (.block 4 (.seq a27r6 (.cond (.s 60) (.seq a27r7 (.exit 1)) (.seq a27r8 (.cond (.s 75) a27r9 (.skip)))))))))
def a27r10 : AC := .reg [oI 111 (.mov (.s 0)), oI 112 (.mov (.s 5)), oI 113 (.nilck (.s 112)), oI 114 (.faddr 0 (.s 113)), oI 115 (.load 1 false (.s 114)), oI 116 (.callv (.c (.fn 90 [])) [(.s 111), (.s 115)])] [0, 4, 5]
def a27r11 : AC := .reg [oI 117 (.mov (.s 5)), oI 118 (.nilck (.s 117)), oI 119 (.faddr 0 (.s 118)), oI 120 (.load 1 false (.s 119)), oI 7 (.mov (.s 120))] [0, 4, 7]
def a27r12 : AC := .reg [oI 121 (.mov (.s 4)), oI 122 (.mov (.s 4)), oI 123 (.len (.s 122)), oI 124 (.iop .sub (.s 123) (.c (.lit (.int .i64 1)))), oI 125 (.slice 2 (.s 121) none (some (.s 124))), oI 4 (.mov (.s 125))] [0, 4, 7]
def a27r13 : AC := .reg [oI 126 (.mov (.s 4)), oI 127 (.len (.s 126)), oI 128 (.iop .gtr (.s 127) (.c (.lit (.int .i64 0))))] [0, 4, 7, 128]
def a27r14 : AC := .reg [oI 129 (.mov (.s 4)), oI 130 (.mov (.s 4)), oI 131 (.len (.s 130)), oI 132 (.iop .sub (.s 131) (.c (.lit (.int .i64 1)))), oI 133 (.iaddr 2 (.s 129) (.s 132)), oI 134 (.faddr 0 (.s 133)), oI 135 (.load 1 false (.s 134)), oI 8 (.mov (.s 135))] [0, 4, 7, 8]
def a27r15 : AC := .draw [3] (.take 0 (oI 136 (.mov (.s 0))) <| .take 1 (oI 137 (.nilck (.s 136))) <| .take 2 (oI 138 (.faddr 2 (.s 137))) <| .take 3 (oI 139 (.load 1 false (.s 138))) <| .take 4 (oI 140 (.mov (.s 8))) <| .take 5 (oI 141 (.mov (.s 0))) <| .take 6 (oI 142 (.nilck (.s 141))) <| .take 7 (oI 143 (.faddr 2 (.s 142))) <| .take 8 (oI 144 (.load 1 false (.s 143))) <| .take 9 (oI 145 (.mov (.s 8))) <| .take 10 (oI 146 (.iaddr 1 (.s 144) (.s 145))) <| .take 12 (oI 148 (.mov (.s 0))) <| .take 13 (oI 149 (.nilck (.s 148))) <| .take 14 (oI 150 (.faddr 2 (.s 149))) <| .take 15 (oI 151 (.load 1 false (.s 150))) <| .take 16 (oI 152 (.mov (.s 7))) <| .take 17 (oI 153 (.iaddr 1 (.s 151) (.s 152))) <| .alt 11 (oI 147 (.load 1 false (.s 146))) (.alt 18 (oI 154 (.load 1 false (.s 153))) ( .take 19 (oI 155 (.minmax false (.s 147) (.s 154))) <| .take 20 (oI 156 (.iaddr 1 (.s 139) (.s 140))) <| .alt 21 (oN (.store 1 (.s 156) (.s 155))) ( .done) .done) .done) (.alt 18 (oI 154 (.load 1 false (.s 153))) (.alt 11 (oI 147 (.load 1 false (.s 146))) ( .take 19 (oI 155 (.minmax false (.s 147) (.s 154))) <| .take 20 (oI 156 (.iaddr 1 (.s 139) (.s 140))) <| .alt 21 (oN (.store 1 (.s 156) (.s 155))) ( .done) .done) .done) (.done))) [0, 4]
def a27L1 : AC := .seq (.seq a27r1 (.cond (.s 15) (.skip) (.exit 0))) (.block 1 (.seq a27r2 (.seq (.block 2 (.loop a27L3)) (.seq a27r10 (.seq a27r11 (.seq a27r12 (.seq a27r13 (.cond (.s 128) (.seq a27r14 a27r15) (.skip)))))))))
def a27 : AC := .scope (.seq a27r0 (.seq (.label) (.block 0 (.loop a27L1))))
def a27R : List RD := []
def a21r0 : AC := .reg [oI 2 (.mov (.c (.nils 1))), oI 3 (.mov (.c (.nils 1)))] [0]
def a21r1 : AC := .reg [oI 10 (.mov (.s 0)), oI 11 (.len (.s 10)), oI 4 (.mov (.s 11))] [0, 4]
def a21r2 : AC := .draw [1, 2, 3, 5] (.take 0 (oI 12 (.mov (.s 0))) <| .take 1 (oI 13 (.mov (.s 4))) <| .take 3 (oI 15 (.mov (.s 4))) <| .take 5 (oI 17 (.mov (.s 4))) <| .alt 2 (oI 14 (.mkslice 2 3 1 8 [(.lit (.int .i64 0))] (.s 13))) (.alt 4 (oI 16 (.mkslice 3 3 1 8 [(.lit (.int .i64 0))] (.s 15))) (.alt 6 (oI 18 (.mkslice 5 3 1 8 [(.lit (.int .i64 0))] (.s 17))) ( .take 7 (oI 19 (.build [(.nils 1), (.nils 1), (.nils 1), (.nils 1), (.nils 1), (.lit (.int .i64 0)), (.lit (.int .i64 0))] [(0, 1, (.s 12)), (1, 1, (.s 14)), (2, 1, (.s 16)), (4, 1, (.s 18))])) <| .alt 8 (oI 20 (.box 1 83 7 (.s 19))) ( .take 9 (oI 5 (.mov (.s 20))) <| .done) .done) .done) (.alt 6 (oI 18 (.mkslice 5 3 1 8 [(.lit (.int .i64 0))] (.s 17))) (.alt 4 (oI 16 (.mkslice 3 3 1 8 [(.lit (.int .i64 0))] (.s 15))) ( .take 7 (oI 19 (.build [(.nils 1), (.nils 1), (.nils 1), (.nils 1), (.nils 1), (.lit (.int .i64 0)), (.lit (.int .i64 0))] [(0, 1, (.s 12)), (1, 1, (.s 14)), (2, 1, (.s 16)), (4, 1, (.s 18))])) <| .alt 8 (oI 20 (.box 1 83 7 (.s 19))) ( .take 9 (oI 5 (.mov (.s 20))) <| .done) .done) .done) (.done))) (.alt 4 (oI 16 (.mkslice 3 3 1 8 [(.lit (.int .i64 0))] (.s 15))) (.alt 2 (oI 14 (.mkslice 2 3 1 8 [(.lit (.int .i64 0))] (.s 13))) (.alt 6 (oI 18 (.mkslice 5 3 1 8 [(.lit (.int .i64 0))] (.s 17))) ( .take 7 (oI 19 (.build [(.nils 1), (.nils 1), (.nils 1), (.nils 1), (.nils 1), (.lit (.int .i64 0)), (.lit (.int .i64 0))] [(0, 1, (.s 12)), (1, 1, (.s 14)), (2, 1, (.s 16)), (4, 1, (.s 18))])) <| .alt 8 (oI 20 (.box 1 83 7 (.s 19))) ( .take 9 (oI 5 (.mov (.s 20))) <| .done) .done) .done) (.alt 6 (oI 18 (.mkslice 5 3 1 8 [(.lit (.int .i64 0))] (.s 17))) (.alt 2 (oI 14 (.mkslice 2 3 1 8 [(.lit (.int .i64 0))] (.s 13))) ( .take 7 (oI 19 (.build [(.nils 1), (.nils 1), (.nils 1), (.nils 1), (.nils 1), (.lit (.int .i64 0)), (.lit (.int .i64 0))] [(0, 1, (.s 12)), (1, 1, (.s 14)), (2, 1, (.s 16)), (4, 1, (.s 18))])) <| .alt 8 (oI 20 (.box 1 83 7 (.s 19))) ( .take 9 (oI 5 (.mov (.s 20))) <| .done) .done) .done) (.done))) (.alt 6 (oI 18 (.mkslice 5 3 1 8 [(.lit (.int .i64 0))] (.s 17))) (.alt 2 (oI 14 (.mkslice 2 3 1 8 [(.lit (.int .i64 0))] (.s 13))) (.alt 4 (oI 16 (.mkslice 3 3 1 8 [(.lit (.int .i64 0))] (.s 15))) ( .take 7 (oI 19 (.build [(.nils 1), (.nils 1), (.nils 1), (.nils 1), (.nils 1), (.lit (.int .i64 0)), (.lit (.int .i64 0))] [(0, 1, (.s 12)), (1, 1, (.s 14)), (2, 1, (.s 16)), (4, 1, (.s 18))])) <| .alt 8 (oI 20 (.box 1 83 7 (.s 19))) ( .take 9 (oI 5 (.mov (.s 20))) <| .done) .done) .done) (.alt 4 (oI 16 (.mkslice 3 3 1 8 [(.lit (.int .i64 0))] (.s 15))) (.alt 2 (oI 14 (.mkslice 2 3 1 8 [(.lit (.int .i64 0))] (.s 13))) ( .take 7 (oI 19 (.build [(.nils 1), (.nils 1), (.nils 1), (.nils 1), (.nils 1), (.lit (.int .i64 0)), (.lit (.int .i64 0))] [(0, 1, (.s 12)), (1, 1, (.s 14)), (2, 1, (.s 16)), (4, 1, (.s 18))])) <| .alt 8 (oI 20 (.box 1 83 7 (.s 19))) ( .take 9 (oI 5 (.mov (.s 20))) <| .done) .done) .done) (.done))) (.done)))) [4, 5]
def a21r3 : AC := .reg [oI 21 (.mov (.s 4)), oI 22 (.mov (.c (.lit (.int .i64 0))))] [5, 21, 22]
def a21r4 : AC := .reg [oI 23 (.iop .lss (.s 22) (.s 21))] [5, 21, 22, 23]
def a21r5 : AC := .reg [oI 24 (.mov (.s 22)), oI 6 (.mov (.s 24))] [5, 6, 21, 22]
def a21r6 : AC := .reg [oI 25 (.mov (.s 5)), oI 26 (.nilck (.s 25)), oI 27 (.faddr 1 (.s 26)), oI 28 (.load 1 false (.s 27)), oI 29 (.mov (.s 6)), oI 30 (.iaddr 1 (.s 28) (.s 29)), oI 31 (.load 1 false (.s 30)), oI 32 (.iop .eql (.s 31) (.c (.lit (.int .i64 0))))] [5, 6, 21, 22, 32]
def a21r7 : AC := .reg [oI 33 (.mov (.s 5)), oI 34 (.mov (.s 6)), oI 35 (.callv (.c (.fn 67 [])) [(.s 33), (.s 34)])] [5, 21, 22]
def a21r8 : AC := .reg [oI 36 (.iop .add (.s 22) (.c (.lit (.int .i64 1)))), oI 22 (.mov (.s 36))] [5, 21, 22]
def a21L4 : AC := .seq a21r4 (.seq (.cond (.s 23) (.skip) (.exit 0)) (.seq (.block 1 (.seq a21r5 (.seq a21r6 (.cond (.s 32) a21r7 (.skip))))) a21r8))
def a21r9 : AC := .reg [oI 37 (.mov (.s 5)), oI 38 (.nilck (.s 37)), oI 39 (.faddr 5 (.s 38)), oI 40 (.load 1 false (.s 39)), oI 41 (.mkrow 21041 26 1 24 [(.nils 1)] (.s 40)), oI 7 (.mov (.s 41))] [5, 7]
def a21r10 : AC := .reg [oI 42 (.mov (.s 5)), oI 43 (.nilck (.s 42)), oI 44 (.faddr 4 (.s 43)), oI 45 (.load 1 false (.s 44)), oI 46 (.len (.s 45)), oI 47 (.mov (.c (.lit (.int .i64 0))))] [5, 7, 45, 46, 47]
def a21r11 : AC := .reg [oI 48 (.iop .lss (.s 47) (.s 46))] [5, 7, 45, 46, 47, 48]
def a21r12 : AC := .reg [oI 49 (.mov (.s 47)), oI 50 (.iaddr 1 (.s 45) (.s 47)), oI 51 (.load 1 false (.s 50)), oI 8 (.mov (.s 49)), oI 9 (.mov (.s 51))] [5, 7, 8, 9, 45, 46, 47]
def a21r13 : AC := .reg [oI 52 (.mov (.s 7)), oI 53 (.mov (.s 9)), oI 54 (.iop .sub (.s 53) (.c (.lit (.int .i64 1)))), oI 55 (.mov (.s 7)), oI 56 (.mov (.s 9)), oI 57 (.iop .sub (.s 56) (.c (.lit (.int .i64 1)))), oI 58 (.iaddr 1 (.s 55) (.s 57)), oI 59 (.load 1 false (.s 58)), oI 60 (.mov (.s 8)), oI 61 (.bslice 21061 3 1 [(.s 60)]), oI 62 (.append 21062 3 1 8 (.s 59) (.s 61)), oI 63 (.iaddr 1 (.s 52) (.s 54)), oN (.store 1 (.s 63) (.s 62))] [5, 7, 45, 46, 47]
def a21r14 : AC := .reg [oI 64 (.iop .add (.s 47) (.c (.lit (.int .i64 1)))), oI 47 (.mov (.s 64))] [5, 7, 45, 46, 47]
def a21L11 : AC := .seq a21r11 (.seq (.cond (.s 48) (.skip) (.exit 2)) (.seq (.block 3 (.seq a21r12 a21r13)) a21r14))
def a21r15 : AC := .draw [] (.take 0 (oI 65 (.mov (.s 7))) <| .take 1 (oI 66 (.mov (.s 5))) <| .take 2 (oI 67 (.nilck (.s 66))) <| .take 3 (oI 68 (.faddr 4 (.s 67))) <| .take 4 (oI 69 (.load 1 false (.s 68))) <| .take 5 (oI 2 (.mov (.s 65))) <| .take 6 (oI 3 (.mov (.s 69))) <| .done) [2, 3]
def a21 : AC := .seq a21r0 (.seq a21r1 (.seq a21r2 (.seq (.seq a21r3 (.block 0 (.loop a21L4))) (.seq a21r9 (.seq (.seq a21r10 (.block 2 (.loop a21L11))) (.seq a21r15 (.ret)))))))
def a21R : List RD := [.tmp 2, .tmp 3]
def a20r0 : AC := .reg [oI 4 (.mov (.c (.nils 1)))] [0, 1]
def a20r1 : AC := .reg [oI 8 (.mov (.s 0)), oI 9 (.minmax true (.s 8) (.c (.lit (.int .i64 0)))), oI 10 (.minmax false (.s 9) (.c (.lit (.int .i64 100)))), oI 0 (.mov (.s 10))] [0, 1]
def a20r2 : AC := .reg [oI 11 (.mov (.s 0)), oI 12 (.mkrow 20012 26 1 24 [(.nils 1)] (.s 11)), oI 5 (.mov (.s 12))] [0, 1, 5]
def a20r3 : AC := .reg [oI 13 (.mov (.s 1)), oI 14 (.len (.s 13)), oI 15 (.mov (.c (.lit (.int .i64 0))))] [0, 5, 13, 14, 15]
def a20r4 : AC := .reg [oI 16 (.iop .lss (.s 15) (.s 14))] [0, 5, 13, 14, 15, 16]
def a20r5 : AC := .reg [oI 17 (.iaddr 2 (.s 13) (.s 15)), oI 18 (.load 2 true (.s 17)), oI 7 (.alloc 20007 46 [(.lit (.int .i64 0)), (.lit (.int .i64 0))]), oN (.store 2 (.s 7) (.s 18))] [0, 5, 7, 13, 14, 15]
def a20r6 : AC := .reg [oI 19 (.faddr 0 (.s 7)), oI 20 (.load 1 false (.s 19)), oI 21 (.faddr 1 (.s 7)), oI 22 (.load 1 false (.s 21)), oI 23 (.minmax false (.s 20) (.s 22)), oI 24 (.iop .geq (.s 23) (.c (.lit (.int .i64 0)))), oI 25 (.mov (.s 24)), oG 26 25 true (.faddr 0 (.s 7)), oG 27 25 true (.load 1 false (.s 26)), oG 28 25 true (.faddr 1 (.s 7)), oG 29 25 true (.load 1 false (.s 28)), oG 30 25 true (.minmax true (.s 27) (.s 29)), oG 31 25 true (.mov (.s 0)), oG 32 25 true (.iop .lss (.s 30) (.s 31)), oI 33 (.pick (.s 25) (.s 32) (.c (.lit (.bool false))))] [0, 5, 7, 13, 14, 15, 33]
def a20r7 : AC := .draw (20012 :: 20044 :: 20045 :: List.range' 30000 100) (.take 0 (oI 34 (.mov (.s 5))) <| .take 1 (oI 35 (.faddr 0 (.s 7))) <| .take 2 (oI 36 (.load 1 false (.s 35))) <| .take 3 (oI 37 (.mov (.s 5))) <| .take 4 (oI 38 (.faddr 0 (.s 7))) <| .take 5 (oI 39 (.load 1 false (.s 38))) <| .take 6 (oI 40 (.iaddr 1 (.s 37) (.s 39))) <| .take 8 (oI 42 (.faddr 1 (.s 7))) <| .take 9 (oI 43 (.load 1 false (.s 42))) <| .alt 7 (oI 41 (.load 1 false (.s 40))) (.alt 10 (oI 44 (.bslice 20044 3 1 [(.s 43)])) ( .alt 11 (oI 45 (.append 20045 3 1 8 (.s 41) (.s 44))) ( .take 12 (oI 46 (.iaddr 1 (.s 34) (.s 36))) <| .alt 13 (oN (.store 1 (.s 46) (.s 45))) ( .done) .done) .done) .done) (.alt 10 (oI 44 (.bslice 20044 3 1 [(.s 43)])) (.alt 7 (oI 41 (.load 1 false (.s 40))) ( .alt 11 (oI 45 (.append 20045 3 1 8 (.s 41) (.s 44))) ( .take 12 (oI 46 (.iaddr 1 (.s 34) (.s 36))) <| .alt 13 (oN (.store 1 (.s 46) (.s 45))) ( .done) .done) .done) .done) (.done))) [0, 5, 13, 14, 15]
def a20r8 : AC := .reg [oI 47 (.iop .add (.s 15) (.c (.lit (.int .i64 1)))), oI 15 (.mov (.s 47))] [0, 5, 13, 14, 15]
def a20L4 : AC := .seq a20r4 (.seq (.cond (.s 16) (.skip) (.exit 0)) (.seq (.block 1 (.seq a20r5 (.seq a20r6 (.cond (.s 33) a20r7 (.skip))))) a20r8))
def a20r9 : AC := .reg [oI 48 (.mov (.s 5)), oI 4 (.mov (.s 48))] [4]
def a20 : AC := .seq a20r0 (.seq a20r1 (.seq a20r2 (.seq (.seq a20r3 (.block 0 (.loop a20L4))) (.seq a20r9 (.ret)))))
def a20R : List RD := [.tmp 4]
def a22r0 : AC := .reg [oI 6 (.mov (.c (.lit (.bool false))))] [0, 1, 2, 3, 4]
def a22r1 : AC := .reg [oI 11 (.load 1 false (.s 1)), oI 12 (.mov (.s 0)), oI 13 (.iaddr 1 (.s 11) (.s 12)), oI 14 (.load 1 false (.s 13)), oI 15 (.len (.s 14)), oI 16 (.mov (.c (.lit (.int .i64 0))))] [0, 2, 3, 4, 14, 15, 16]
def a22r2 : AC := .reg [oI 17 (.iop .lss (.s 16) (.s 15))] [0, 2, 3, 4, 14, 15, 16, 17]
def a22r3 : AC := .reg [oI 18 (.iaddr 1 (.s 14) (.s 16)), oI 19 (.load 1 false (.s 18)), oI 8 (.mov (.s 19))] [0, 2, 3, 4, 8, 14, 15, 16]
def a22r4 : AC := .reg [oI 20 (.load 1 false (.s 2)), oI 21 (.mov (.s 8)), oI 22 (.iaddr 1 (.s 20) (.s 21)), oI 23 (.load 1 false (.s 22)), oI 24 (.len (.s 23)), oI 25 (.mov (.c (.lit (.int .i64 0))))] [0, 2, 3, 4, 14, 15, 16, 23, 24, 25]
def a22r5 : AC := .reg [oI 26 (.iop .lss (.s 25) (.s 24))] [0, 2, 3, 4, 14, 15, 16, 23, 24, 25, 26]
def a22r6 : AC := .reg [oI 27 (.iaddr 1 (.s 23) (.s 25)), oI 28 (.load 1 false (.s 27)), oI 10 (.mov (.s 28))] [0, 2, 3, 4, 10, 14, 15, 16, 23, 24, 25]
def a22r7 : AC := .draw [] (.take 0 (oI 29 (.load 1 false (.s 3))) <| .take 1 (oI 30 (.mov (.s 10))) <| .take 2 (oI 31 (.iaddr 1 (.s 29) (.s 30))) <| .take 3 (oI 32 (.load 1 false (.s 31))) <| .take 4 (oI 33 (.iop .sub (.s 32) (.c (.lit (.int .i64 1))))) <| .take 5 (oI 34 (.mov (.s 0))) <| .take 6 (oI 35 (.iop .neq (.s 33) (.s 34))) <| .take 7 (oI 36 (.mov (.s 35))) <| .take 8 (oG 37 36 true (.load 1 false (.s 4))) <| .take 9 (oG 38 36 true (.load 1 false (.s 3))) <| .take 10 (oG 39 36 true (.mov (.s 10))) <| .take 11 (oG 40 36 true (.iaddr 1 (.s 38) (.s 39))) <| .take 12 (oG 41 36 true (.load 1 false (.s 40))) <| .take 13 (oG 42 36 true (.iop .sub (.s 41) (.c (.lit (.int .i64 1))))) <| .take 14 (oG 43 36 true (.iaddr 1 (.s 37) (.s 42))) <| .take 15 (oG 44 36 true (.load 1 false (.s 43))) <| .take 16 (oG 45 36 true (.not (.s 44))) <| .take 17 (oI 46 (.pick (.s 36) (.s 45) (.c (.lit (.bool false))))) <| .done) [0, 2, 3, 4, 14, 15, 16, 23, 24, 25, 46]
def a22r8 : AC := .reg [oI 6 (.mov (.c (.lit (.bool false))))] [6]
def a22r9 : AC := .reg [oI 47 (.iop .add (.s 25) (.c (.lit (.int .i64 1)))), oI 25 (.mov (.s 47))] [0, 2, 3, 4, 14, 15, 16, 23, 24, 25]
def a22L5 : AC := .seq a22r5 (.seq (.cond (.s 26) (.skip) (.exit 2)) (.seq (.block 3 (.seq a22r6 (.seq a22r7 (.cond (.s 46) (.seq a22r8 (.ret)) (.skip))))) a22r9))
def a22r10 : AC := .reg [oI 48 (.iop .add (.s 16) (.c (.lit (.int .i64 1)))), oI 16 (.mov (.s 48))] [0, 2, 3, 4, 14, 15, 16]
def a22L2 : AC := .seq a22r2 (.seq (.cond (.s 17) (.skip) (.exit 0)) (.seq (.block 1 (.seq a22r3 (.seq a22r4 (.block 2 (.loop a22L5))))) a22r10))
def a22r11 : AC := .reg [oI 6 (.mov (.c (.lit (.bool true))))] [6]
def a22 : AC := .seq a22r0 (.seq (.seq a22r1 (.block 0 (.loop a22L2))) (.seq a22r11 (.ret)))
def a22R : List RD := [.tmp 6]
def a12r0 : AC := .reg [oI 4 (.mov (.c (.nils 1)))] [0, 1]
def a12r1 : AC := .reg [oI 13 (.mov (.s 0)), oI 14 (.mov (.s 1)), oI 15 (.callv (.c (.fn 49 [])) [(.s 13), (.s 14)]), oI 5 (.alloc 12005 48 [(.nils 1)]), oN (.store 1 (.s 5) (.s 15))] [5]
def a12r2 : AC := .reg [oI 17 (.load 1 false (.s 5)), oI 18 (.callv (.c (.fn 50 [])) [(.s 17)]), oI 16 (.mov (.s 18)), oI 19 (.extract 0 (.s 16)), oI 20 (.extract 1 (.s 16)), oI 6 (.alloc 12006 48 [(.nils 1)]), oI 7 (.alloc 12007 26 [(.nils 1)]), oN (.store 1 (.s 6) (.s 19)), oN (.store 1 (.s 7) (.s 20))] [5, 6, 7]
def a12r3 : AC := .reg [oI 21 (.load 1 false (.s 6)), oI 22 (.len (.s 21)), oI 23 (.mkslice 12023 4 1 1 [(.lit (.bool false))] (.s 22)), oI 8 (.alloc 12008 41 [(.nils 1)]), oN (.store 1 (.s 8) (.s 23))] [5, 6, 7, 8]
def a12r4 : AC := .reg [oI 24 (.mkfn 51 [(.s 6), (.s 5), (.s 7), (.s 8)]), oI 9 (.mov (.s 24))] [6, 8, 9]
def a12r5 : AC := .reg [oI 10 (.mov (.c (.nils 1)))] [6, 8, 9, 10]
def a12r6 : AC := .reg [oI 25 (.load 1 false (.s 6)), oI 26 (.len (.s 25)), oI 27 (.mov (.c (.lit (.int .i64 0))))] [6, 8, 9, 10, 26, 27]
def a12r7 : AC := .reg [oI 28 (.iop .lss (.s 27) (.s 26))] [6, 8, 9, 10, 26, 27, 28]
def a12r8 : AC := .reg [oI 11 (.mov (.c (.lit (.int .i64 (-1)))))] [6, 8, 9, 10, 11, 26, 27]
def a12r9 : AC := .reg [oI 29 (.load 1 false (.s 6)), oI 30 (.len (.s 29)), oI 31 (.mov (.c (.lit (.int .i64 0))))] [6, 8, 9, 10, 11, 26, 27, 30, 31]
def a12r10 : AC := .reg [oI 32 (.iop .lss (.s 31) (.s 30))] [6, 8, 9, 10, 11, 26, 27, 30, 31, 32]
def a12r11 : AC := .reg [oI 33 (.mov (.s 31)), oI 12 (.mov (.s 33))] [6, 8, 9, 10, 11, 12, 26, 27, 30, 31]
def a12r12 : AC := .draw [] (.take 0 (oI 34 (.load 1 false (.s 8))) <| .take 1 (oI 35 (.mov (.s 12))) <| .take 2 (oI 36 (.iaddr 1 (.s 34) (.s 35))) <| .take 3 (oI 37 (.load 1 false (.s 36))) <| .take 4 (oI 38 (.not (.s 37))) <| .take 5 (oI 39 (.mov (.s 38))) <| .take 6 (oG 40 39 true (.mov (.s 9))) <| .take 7 (oG 41 39 true (.mov (.s 12))) <| .alt 8 (oG 42 39 true (.callv (.s 40) [(.s 41)])) ( .take 9 (oI 43 (.pick (.s 39) (.s 42) (.c (.lit (.bool false))))) <| .take 10 (oI 44 (.mov (.s 43))) <| .take 11 (oG 45 44 true (.mov (.s 11))) <| .take 12 (oG 46 44 true (.iop .lss (.s 45) (.c (.lit (.int .i64 0))))) <| .take 13 (oG 47 44 true (.mov (.s 46))) <| .take 14 (oG 48 47 false (.load 1 false (.s 6))) <| .take 15 (oG 49 47 false (.mov (.s 12))) <| .take 16 (oG 50 47 false (.iaddr 1 (.s 48) (.s 49))) <| .take 17 (oG 51 47 false (.load 1 false (.s 50))) <| .take 18 (oG 52 47 false (.iaddr 1 (.s 51) (.c (.lit (.int .i64 0))))) <| .take 19 (oG 53 47 false (.load 1 false (.s 52))) <| .take 20 (oG 54 47 false (.load 1 false (.s 6))) <| .take 21 (oG 55 47 false (.mov (.s 11))) <| .take 22 (oG 56 47 false (.iaddr 1 (.s 54) (.s 55))) <| .take 23 (oG 57 47 false (.load 1 false (.s 56))) <| .take 24 (oG 58 47 false (.iaddr 1 (.s 57) (.c (.lit (.int .i64 0))))) <| .take 25 (oG 59 47 false (.load 1 false (.s 58))) <| .take 26 (oG 60 47 false (.iop .lss (.s 53) (.s 59))) <| .take 27 (oG 61 44 true (.pick (.s 47) (.c (.lit (.bool true))) (.s 60))) <| .take 28 (oI 62 (.pick (.s 44) (.s 61) (.c (.lit (.bool false))))) <| .done) .done) [6, 8, 9, 10, 11, 12, 26, 27, 30, 31, 62]
def a12r13 : AC := .reg [oI 63 (.mov (.s 12)), oI 11 (.mov (.s 63))] [6, 8, 9, 10, 11, 26, 27, 30, 31]
def a12r14 : AC := .reg [oI 64 (.iop .add (.s 31) (.c (.lit (.int .i64 1)))), oI 31 (.mov (.s 64))] [6, 8, 9, 10, 11, 26, 27, 30, 31]
def a12L10 : AC := .seq a12r10 (.seq (.cond (.s 32) (.skip) (.exit 2)) (.seq (.block 3 (.seq a12r11 (.seq a12r12 (.cond (.s 62) a12r13 (.skip))))) a12r14))
def a12r15 : AC := .reg [oI 65 (.load 1 false (.s 8)), oI 66 (.mov (.s 11)), oI 67 (.iaddr 1 (.s 65) (.s 66)), oN (.store 1 (.s 67) (.c (.lit (.bool true))))] [6, 8, 9, 10, 11, 26, 27]
def a12r16 : AC := .reg [oI 68 (.mov (.s 10)), oI 69 (.load 1 false (.s 6)), oI 70 (.mov (.s 11)), oI 71 (.iaddr 1 (.s 69) (.s 70)), oI 72 (.load 1 false (.s 71)), oI 73 (.bslice 12073 26 1 [(.s 72)]), oI 74 (.append 12074 26 1 24 (.s 68) (.s 73)), oI 10 (.mov (.s 74))] [6, 8, 9, 10, 26, 27]
def a12r17 : AC := .reg [oI 75 (.iop .add (.s 27) (.c (.lit (.int .i64 1)))), oI 27 (.mov (.s 75))] [6, 8, 9, 10, 26, 27]
def a12L7 : AC := .seq a12r7 (.seq (.cond (.s 28) (.skip) (.exit 0)) (.seq (.block 1 (.seq a12r8 (.seq (.seq a12r9 (.block 2 (.loop a12L10))) (.seq a12r15 a12r16)))) a12r17))
def a12r18 : AC := .reg [oI 76 (.mov (.s 10)), oI 4 (.mov (.s 76))] [4]
def a12 : AC := .seq a12r0 (.seq a12r1 (.seq a12r2 (.seq a12r3 (.seq a12r4 (.seq a12r5 (.seq (.seq a12r6 (.block 0 (.loop a12L7))) (.seq a12r18 (.ret))))))))
def a12R : List RD := [.tmp 4]
def a15r0 : AC := .reg [oI 6 (.mov (.c (.nils 1)))] [0, 1, 2]
def a15r1 : AC := .reg [oI 16 (.mov (.s 0)), oI 17 (.mov (.s 1)), oI 18 (.callv (.c (.fn 49 [])) [(.s 16), (.s 17)]), oI 7 (.mov (.s 18))] [2, 7]
def a15r2 : AC := .reg [oI 19 (.mov (.s 2)), oI 20 (.iop .lss (.s 19) (.c (.lit (.int .i64 0)))), oI 21 (.mov (.s 20)), oG 22 21 false (.mov (.s 2)), oG 23 21 false (.mov (.s 7)), oG 24 21 false (.len (.s 23)), oG 25 21 false (.iop .geq (.s 22) (.s 24)), oI 26 (.pick (.s 21) (.c (.lit (.bool true))) (.s 25))] [2, 7, 26]
def a15r3 : AC := .reg [oI 6 (.mov (.c (.nils 1)))] [6]
def a15r4 : AC := .reg [oI 27 (.mov (.s 7)), oI 28 (.len (.s 27)), oI 29 (.mkslice 15029 4 1 1 [(.lit (.bool false))] (.s 28)), oI 8 (.mov (.s 29))] [2, 7, 8]
def a15r5 : AC := .reg [oI 30 (.mov (.s 8)), oI 31 (.mov (.s 2)), oI 32 (.iaddr 1 (.s 30) (.s 31)), oN (.store 1 (.s 32) (.c (.lit (.bool true))))] [2, 7, 8]
def a15r6 : AC := .reg [oI 33 (.mov (.s 2)), oI 34 (.bslice 15034 3 1 [(.s 33)]), oI 9 (.mov (.s 34))] [7, 8, 9]
def a15r7 : AC := .reg [oI 35 (.mov (.s 9)), oI 36 (.len (.s 35)), oI 37 (.iop .gtr (.s 36) (.c (.lit (.int .i64 0))))] [7, 8, 9, 37]
def a15r8 : AC := .reg [oI 38 (.mov (.s 9)), oI 39 (.mov (.s 9)), oI 40 (.len (.s 39)), oI 41 (.iop .sub (.s 40) (.c (.lit (.int .i64 1)))), oI 42 (.iaddr 1 (.s 38) (.s 41)), oI 43 (.load 1 false (.s 42)), oI 10 (.mov (.s 43))] [7, 8, 9, 10]
def a15r9 : AC := .reg [oI 44 (.mov (.s 9)), oI 45 (.mov (.s 9)), oI 46 (.len (.s 45)), oI 47 (.iop .sub (.s 46) (.c (.lit (.int .i64 1)))), oI 48 (.slice 1 (.s 44) none (some (.s 47))), oI 9 (.mov (.s 48))] [7, 8, 9, 10]
def a15r10 : AC := .reg [oI 49 (.mov (.s 7)), oI 50 (.mov (.s 10)), oI 51 (.iaddr 1 (.s 49) (.s 50)), oI 52 (.load 1 false (.s 51)), oI 53 (.len (.s 52)), oI 54 (.mov (.c (.lit (.int .i64 0))))] [7, 8, 9, 52, 53, 54]
def a15r11 : AC := .reg [oI 55 (.iop .lss (.s 54) (.s 53))] [7, 8, 9, 52, 53, 54, 55]
def a15r12 : AC := .reg [oI 56 (.iaddr 1 (.s 52) (.s 54)), oI 57 (.load 1 false (.s 56)), oI 12 (.mov (.s 57))] [7, 8, 9, 12, 52, 53, 54]
def a15r13 : AC := .reg [oI 58 (.mov (.s 8)), oI 59 (.mov (.s 12)), oI 60 (.iaddr 1 (.s 58) (.s 59)), oI 61 (.load 1 false (.s 60)), oI 62 (.not (.s 61))] [7, 8, 9, 12, 52, 53, 54, 62]
def a15r14 : AC := .reg [oI 63 (.mov (.s 8)), oI 64 (.mov (.s 12)), oI 65 (.iaddr 1 (.s 63) (.s 64)), oN (.store 1 (.s 65) (.c (.lit (.bool true))))] [7, 8, 9, 12, 52, 53, 54]
def a15r15 : AC := .reg [oI 66 (.mov (.s 9)), oI 67 (.mov (.s 12)), oI 68 (.bslice 15068 3 1 [(.s 67)]), oI 69 (.append 15069 3 1 8 (.s 66) (.s 68)), oI 9 (.mov (.s 69))] [7, 8, 9, 52, 53, 54]
def a15r16 : AC := .reg [oI 70 (.iop .add (.s 54) (.c (.lit (.int .i64 1)))), oI 54 (.mov (.s 70))] [7, 8, 9, 52, 53, 54]
def a15L11 : AC := .seq a15r11 (.seq (.cond (.s 55) (.skip) (.exit 2)) (.seq (.block 3 (.seq a15r12 (.seq a15r13 (.cond (.s 62) (.seq a15r14 a15r15) (.skip))))) a15r16))
def a15L7 : AC := .seq (.seq a15r7 (.cond (.s 37) (.skip) (.exit 0))) (.block 1 (.seq a15r8 (.seq a15r9 (.seq a15r10 (.block 2 (.loop a15L11))))))
def a15r17 : AC := .reg [oI 13 (.mov (.c (.nils 1)))] [8, 13]
def a15r18 : AC := .reg [oI 71 (.mov (.s 8)), oI 72 (.len (.s 71)), oI 73 (.mov (.c (.lit (.int .i64 0))))] [13, 71, 72, 73]
def a15r19 : AC := .reg [oI 74 (.iop .lss (.s 73) (.s 72))] [13, 71, 72, 73, 74]
def a15r20 : AC := .reg [oI 75 (.mov (.s 73)), oI 76 (.iaddr 1 (.s 71) (.s 73)), oI 77 (.load 1 false (.s 76)), oI 14 (.mov (.s 75)), oI 15 (.mov (.s 77))] [13, 14, 15, 71, 72, 73]
def a15r21 : AC := .reg [oI 78 (.mov (.s 15))] [13, 14, 71, 72, 73, 78]
def a15r22 : AC := .reg [oI 79 (.mov (.s 13)), oI 80 (.mov (.s 14)), oI 81 (.bslice 15081 3 1 [(.s 80)]), oI 82 (.append 15082 3 1 8 (.s 79) (.s 81)), oI 13 (.mov (.s 82))] [13, 71, 72, 73]
def a15r23 : AC := .reg [oI 83 (.iop .add (.s 73) (.c (.lit (.int .i64 1)))), oI 73 (.mov (.s 83))] [13, 71, 72, 73]
def a15L19 : AC := .seq a15r19 (.seq (.cond (.s 74) (.skip) (.exit 4)) (.seq (.block 5 (.seq a15r20 (.seq a15r21 (.cond (.s 78) a15r22 (.skip))))) a15r23))
def a15r24 : AC := .reg [oI 84 (.mov (.s 13)), oI 6 (.mov (.s 84))] [6]
def a15 : AC := .seq a15r0 (.seq a15r1 (.seq (.seq a15r2 (.cond (.s 26) (.seq a15r3 (.ret)) (.skip))) (.seq a15r4 (.seq a15r5 (.seq (.seq a15r6 (.block 0 (.loop a15L7))) (.seq a15r17 (.seq (.seq a15r18 (.block 4 (.loop a15L19))) (.seq a15r24 (.ret)))))))))
def a15R : List RD := [.tmp 6]
def a25r0 : AC := .reg [oI 4 (.mov (.c (.lit (.bool false))))] [0, 1]
def a25r1 : AC := .reg [oI 5 (.mov (.s 0)), oI 6 (.mov (.s 1)), oI 7 (.callv (.c (.fn 61 [])) [(.s 5), (.s 6)]), oI 8 (.iop .geq (.s 7) (.c (.lit (.int .i64 0)))), oI 4 (.mov (.s 8))] [4]
def a25 : AC := .seq a25r0 (.seq a25r1 (.ret))
def a25R : List RD := [.tmp 4]
def a17r0 : AC := .reg [oI 8 (.mov (.c (.lit (.bool false))))] [0, 1, 2, 3]
def a17r1 : AC := .reg [oI 9 (.mov (.s 0)), oI 10 (.mov (.s 1)), oI 11 (.mov (.s 2)), oI 12 (.callv (.c (.fn 39 [])) [(.s 9), (.s 10), (.s 11)]), oI 13 (.mov (.s 3)), oI 14 (.callv (.c (.fn 38 [])) [(.s 12), (.s 13)]), oI 8 (.mov (.s 14))] [8]
def a17 : AC := .seq a17r0 (.seq a17r1 (.ret))
def a17R : List RD := [.tmp 8]
def a23r0 : AC := .reg [oI 2 (.mov (.c (.lit (.int .i64 0))))] [0]
def a23r1 : AC := .reg [oI 3 (.mov (.s 0)), oI 4 (.iop .lss (.s 3) (.c (.lit (.int .i64 0))))] [0, 4]
def a23r2 : AC := .reg [oI 2 (.mov (.c (.lit (.int .i64 0))))] [2]
def a23r3 : AC := .reg [oI 5 (.mov (.s 0)), oI 6 (.iop .gtr (.s 5) (.c (.lit (.int .i64 100))))] [0, 6]
def a23r4 : AC := .reg [oI 2 (.mov (.c (.lit (.int .i64 100))))] [2]
def a23r5 : AC := .reg [oI 7 (.mov (.s 0)), oI 2 (.mov (.s 7))] [2]
def a23 : AC := .seq a23r0 (.seq (.seq a23r1 (.cond (.s 4) (.seq a23r2 (.ret)) (.skip))) (.seq (.seq a23r3 (.cond (.s 6) (.seq a23r4 (.ret)) (.skip))) (.seq a23r5 (.ret))))
def a23R : List RD := [.tmp 2]
def a26r0 : AC := .reg [oI 4 (.mov (.c (.lit (.bool false))))] [0, 1]
def a26r1 : AC := .reg [oI 5 (.mov (.s 1)), oI 6 (.iop .geq (.s 5) (.c (.lit (.int .i64 0)))), oI 7 (.mov (.s 6)), oG 8 7 true (.mov (.s 1)), oG 9 7 true (.mov (.s 0)), oG 10 7 true (.callv (.c (.fn 59 [])) [(.s 9)]), oG 11 7 true (.iop .lss (.s 8) (.s 10)), oI 12 (.pick (.s 7) (.s 11) (.c (.lit (.bool false)))), oI 4 (.mov (.s 12))] [4]
def a26 : AC := .seq a26r0 (.seq a26r1 (.ret))
def a26R : List RD := [.tmp 4]
def a24r0 : AC := .reg [oI 6 (.mov (.c (.nils 1)))] [0, 1, 2]
def a24r1 : AC := .reg [oI 13 (.mov (.s 0)), oI 14 (.callv (.c (.fn 59 [])) [(.s 13)]), oI 15 (.mkslice 24015 4 1 1 [(.lit (.bool false))] (.s 14)), oI 7 (.mov (.s 15))] [0, 1, 2, 7]
def a24r2 : AC := .reg [oI 16 (.mov (.s 0)), oI 17 (.mov (.s 2)), oI 18 (.callv (.c (.fn 80 [])) [(.s 16), (.s 17)]), oI 8 (.mov (.s 18))] [0, 1, 2, 7, 8]
def a24r3 : AC := .reg [oI 19 (.mov (.s 8)), oI 20 (.not (.s 19))] [0, 1, 2, 7, 20]
def a24r4 : AC := .reg [oI 21 (.mov (.s 7)), oI 6 (.mov (.s 21))] [6]
def a24r5 : AC := .reg [oI 22 (.mov (.s 7)), oI 23 (.mov (.s 2)), oI 24 (.iaddr 1 (.s 22) (.s 23)), oN (.store 1 (.s 24) (.c (.lit (.bool true))))] [0, 1, 7]
def a24r6 : AC := .reg [oI 9 (.mov (.c (.lit (.bool true))))] [0, 1, 7, 9]
def a24r7 : AC := .reg [oI 25 (.mov (.s 9))] [0, 1, 7, 25]
def a24r8 : AC := .reg [oI 9 (.mov (.c (.lit (.bool false))))] [0, 1, 7, 9]
def a24r9 : AC := .reg [oI 10 (.mov (.c (.lit (.int .i64 0))))] [0, 1, 7, 9, 10]
def a24r10 : AC := .reg [oI 26 (.mov (.s 10)), oI 27 (.mov (.s 1)), oI 28 (.len (.s 27)), oI 29 (.iop .lss (.s 26) (.s 28))] [0, 1, 7, 9, 10, 29]
def a24r12 : AC := .reg [oI 32 (.mov (.s 0)), oI 33 (.mov (.s 1)), oI 34 (.mov (.s 10)), oI 35 (.iaddr 2 (.s 33) (.s 34)), oI 36 (.faddr 0 (.s 35)), oI 37 (.load 1 false (.s 36)), oI 38 (.callv (.c (.fn 80 [])) [(.s 32), (.s 37)]), oI 11 (.mov (.s 38))] [0, 1, 7, 9, 10, 11]
def a24r13 : AC := .reg [oI 39 (.mov (.s 0)), oI 40 (.mov (.s 1)), oI 41 (.mov (.s 10)), oI 42 (.iaddr 2 (.s 40) (.s 41)), oI 43 (.faddr 1 (.s 42)), oI 44 (.load 1 false (.s 43)), oI 45 (.callv (.c (.fn 80 [])) [(.s 39), (.s 44)]), oI 12 (.mov (.s 45))] [0, 1, 7, 9, 10, 11, 12]
def a24r14 : AC := .reg [oI 46 (.mov (.s 11)), oI 47 (.mov (.s 46)), oG 48 47 true (.mov (.s 12)), oI 49 (.pick (.s 47) (.s 48) (.c (.lit (.bool false)))), oI 50 (.mov (.s 49)), oG 51 50 true (.mov (.s 7)), oG 52 50 true (.mov (.s 1)), oG 53 50 true (.mov (.s 10)), oG 54 50 true (.iaddr 2 (.s 52) (.s 53)), oG 55 50 true (.faddr 0 (.s 54)), oG 56 50 true (.load 1 false (.s 55)), oG 57 50 true (.iaddr 1 (.s 51) (.s 56)), oG 58 50 true (.load 1 false (.s 57)), oI 59 (.pick (.s 50) (.s 58) (.c (.lit (.bool false)))), oI 60 (.mov (.s 59)), oG 61 60 true (.mov (.s 7)), oG 62 60 true (.mov (.s 1)), oG 63 60 true (.mov (.s 10)), oG 64 60 true (.iaddr 2 (.s 62) (.s 63)), oG 65 60 true (.faddr 1 (.s 64)), oG 66 60 true (.load 1 false (.s 65)), oG 67 60 true (.iaddr 1 (.s 61) (.s 66)), oG 68 60 true (.load 1 false (.s 67)), oG 69 60 true (.not (.s 68)), oI 70 (.pick (.s 60) (.s 69) (.c (.lit (.bool false))))] [0, 1, 7, 9, 10, 70]
def a24r15 : AC := .reg [oI 71 (.mov (.s 7)), oI 72 (.mov (.s 1)), oI 73 (.mov (.s 10)), oI 74 (.iaddr 2 (.s 72) (.s 73)), oI 75 (.faddr 1 (.s 74)), oI 76 (.load 1 false (.s 75)), oI 77 (.iaddr 1 (.s 71) (.s 76)), oN (.store 1 (.s 77) (.c (.lit (.bool true))))] [0, 1, 7, 10]
def a24r16 : AC := .reg [oI 9 (.mov (.c (.lit (.bool true))))] [0, 1, 7, 9, 10]
def a24r11 : AC := .reg [oI 30 (.mov (.s 10)), oI 31 (.iop .add (.s 30) (.c (.lit (.int .i64 1)))), oI 10 (.mov (.s 31))] [0, 1, 7, 9, 10]
def a24L10 : AC := .seq (.seq a24r10 (.cond (.s 29) (.skip) (.exit 2))) (.seq (.block 3 (.seq a24r12 (.seq a24r13 (.seq a24r14 (.cond (.s 70) (.seq a24r15 a24r16) (.skip)))))) a24r11)
def a24L7 : AC := .seq (.seq a24r7 (.cond (.s 25) (.skip) (.exit 0))) (.block 1 (.seq a24r8 (.seq a24r9 (.block 2 (.loop a24L10)))))
def a24r17 : AC := .reg [oI 78 (.mov (.s 7)), oI 6 (.mov (.s 78))] [6]
def a24 : AC := .seq a24r0 (.seq a24r1 (.seq a24r2 (.seq (.seq a24r3 (.cond (.s 20) (.seq a24r4 (.ret)) (.skip))) (.seq a24r5 (.seq (.seq a24r6 (.block 0 (.loop a24L7))) (.seq a24r17 (.ret)))))))
def a24R : List RD := [.tmp 6]
def a16r0 : AC := .reg [oI 6 (.mov (.c (.nils 1)))] [0, 1, 2]
def a16r1 : AC := .reg [oI 10 (.mov (.s 0)), oI 11 (.mov (.s 1)), oI 12 (.mov (.s 2)), oI 13 (.callv (.c (.fn 60 [])) [(.s 10), (.s 11), (.s 12)]), oI 7 (.mov (.s 13))] [7]
def a16r2 : AC := .reg [oI 8 (.mov (.c (.nils 1)))] [7, 8]
def a16r3 : AC := .reg [oI 9 (.mov (.c (.lit (.int .i64 0))))] [7, 8, 9]
def a16r4 : AC := .reg [oI 14 (.mov (.s 9)), oI 15 (.mov (.s 7)), oI 16 (.len (.s 15)), oI 17 (.iop .lss (.s 14) (.s 16))] [7, 8, 9, 17]
def a16r6 : AC := .reg [oI 20 (.mov (.s 7)), oI 21 (.mov (.s 9)), oI 22 (.iaddr 1 (.s 20) (.s 21)), oI 23 (.load 1 false (.s 22))] [7, 8, 9, 23]
def a16r7 : AC := .reg [oI 24 (.mov (.s 8)), oI 25 (.mov (.s 9)), oI 26 (.bslice 16026 3 1 [(.s 25)]), oI 27 (.append 16027 3 1 8 (.s 24) (.s 26)), oI 8 (.mov (.s 27))] [7, 8, 9]
def a16r5 : AC := .reg [oI 18 (.mov (.s 9)), oI 19 (.iop .add (.s 18) (.c (.lit (.int .i64 1)))), oI 9 (.mov (.s 19))] [7, 8, 9]
def a16L4 : AC := .seq (.seq a16r4 (.cond (.s 17) (.skip) (.exit 0))) (.seq (.block 1 (.seq a16r6 (.cond (.s 23) a16r7 (.skip)))) a16r5)
def a16r8 : AC := .reg [oI 28 (.mov (.s 8)), oI 6 (.mov (.s 28))] [6]
def a16 : AC := .seq a16r0 (.seq a16r1 (.seq a16r2 (.seq (.seq a16r3 (.block 0 (.loop a16L4))) (.seq a16r8 (.ret)))))
def a16R : List RD := [.tmp 6]
def a13r0 : AC := .reg [oI 4 (.mov (.c (.nils 1)))] [0, 1]
def a13r1 : AC := .reg [oI 17 (.mov (.s 0)), oI 18 (.callv (.c (.fn 59 [])) [(.s 17)]), oI 5 (.mov (.s 18))] [0, 1, 5]
def a13r2 : AC := .reg [oI 6 (.mov (.c (.nils 1)))] [0, 1, 5, 6]
def a13r3 : AC := .reg [oI 7 (.mov (.c (.lit (.int .i64 0))))] [0, 1, 5, 6, 7]
def a13r4 : AC := .reg [oI 19 (.mov (.s 7)), oI 20 (.mov (.s 5)), oI 21 (.iop .lss (.s 19) (.s 20))] [0, 1, 5, 6, 7, 21]
def a13r6 : AC := .reg [oI 24 (.mov (.s 6)), oI 25 (.mov (.s 0)), oI 26 (.mov (.s 1)), oI 27 (.mov (.s 7)), oI 28 (.callv (.c (.fn 60 [])) [(.s 25), (.s 26), (.s 27)]), oI 29 (.bslice 13029 41 1 [(.s 28)]), oI 30 (.append 13030 41 1 24 (.s 24) (.s 29)), oI 6 (.mov (.s 30))] [0, 1, 5, 6, 7]
def a13r5 : AC := .reg [oI 22 (.mov (.s 7)), oI 23 (.iop .add (.s 22) (.c (.lit (.int .i64 1)))), oI 7 (.mov (.s 23))] [0, 1, 5, 6, 7]
def a13L4 : AC := .seq (.seq a13r4 (.cond (.s 21) (.skip) (.exit 0))) (.seq (.block 1 a13r6) a13r5)
def a13r7 : AC := .reg [oI 31 (.mov (.s 5)), oI 32 (.mkslice 13032 4 1 1 [(.lit (.bool false))] (.s 31)), oI 8 (.mov (.s 32))] [5, 6, 8]
def a13r8 : AC := .reg [oI 9 (.mov (.c (.nils 1)))] [5, 6, 8, 9]
def a13r9 : AC := .reg [oI 10 (.mov (.c (.lit (.int .i64 0))))] [5, 6, 8, 9, 10]
def a13r10 : AC := .reg [oI 33 (.mov (.s 10)), oI 34 (.mov (.s 5)), oI 35 (.iop .lss (.s 33) (.s 34))] [5, 6, 8, 9, 10, 35]
def a13r11 : AC := .reg [oI 36 (.mov (.s 8)), oI 37 (.mov (.s 10)), oI 38 (.iaddr 1 (.s 36) (.s 37)), oI 39 (.load 1 false (.s 38))] [5, 6, 8, 9, 10, 39]
def a13r12 : AC := .reg [oI 40 (.mov (.s 10)), oI 41 (.iop .add (.s 40) (.c (.lit (.int .i64 1)))), oI 10 (.mov (.s 41))] [5, 6, 8, 9, 10]
def a13r13 : AC := .reg [oI 11 (.mov (.c (.lit (.int .i64 (-1)))))] [5, 6, 8, 9, 10, 11]
def a13r14 : AC := .reg [oI 12 (.mov (.c (.lit (.int .i64 0))))] [5, 6, 8, 9, 10, 11, 12]
def a13r15 : AC := .reg [oI 42 (.mov (.s 12)), oI 43 (.mov (.s 5)), oI 44 (.iop .lss (.s 42) (.s 43)), oI 45 (.mov (.s 44)), oG 46 45 true (.mov (.s 11)), oG 47 45 true (.iop .lss (.s 46) (.c (.lit (.int .i64 0)))), oI 48 (.pick (.s 45) (.s 47) (.c (.lit (.bool false))))] [5, 6, 8, 9, 10, 11, 12, 48]
def a13r17 : AC := .reg [oI 51 (.mov (.s 8)), oI 52 (.mov (.s 12)), oI 53 (.iaddr 1 (.s 51) (.s 52)), oI 54 (.load 1 false (.s 53)), oI 55 (.not (.s 54)), oI 13 (.mov (.s 55))] [5, 6, 8, 9, 10, 11, 12, 13]
def a13r18 : AC := .reg [oI 14 (.mov (.c (.lit (.int .i64 0))))] [5, 6, 8, 9, 10, 11, 12, 13, 14]
def a13r19 : AC := .reg [oI 56 (.mov (.s 14)), oI 57 (.mov (.s 5)), oI 58 (.iop .lss (.s 56) (.s 57))] [5, 6, 8, 9, 10, 11, 12, 13, 14, 58]
def a13r21 : AC := .reg [oI 61 (.mov (.s 6)), oI 62 (.mov (.s 12)), oI 63 (.iaddr 1 (.s 61) (.s 62)), oI 64 (.load 1 false (.s 63)), oI 65 (.mov (.s 14)), oI 66 (.iaddr 1 (.s 64) (.s 65)), oI 67 (.load 1 false (.s 66)), oI 68 (.mov (.s 67)), oG 69 68 true (.mov (.s 6)), oG 70 68 true (.mov (.s 14)), oG 71 68 true (.iaddr 1 (.s 69) (.s 70)), oG 72 68 true (.load 1 false (.s 71)), oG 73 68 true (.mov (.s 12)), oG 74 68 true (.iaddr 1 (.s 72) (.s 73)), oG 75 68 true (.load 1 false (.s 74)), oG 76 68 true (.not (.s 75)), oI 77 (.pick (.s 68) (.s 76) (.c (.lit (.bool false)))), oI 78 (.mov (.s 77)), oG 79 78 true (.mov (.s 8)), oG 80 78 true (.mov (.s 14)), oG 81 78 true (.iaddr 1 (.s 79) (.s 80)), oG 82 78 true (.load 1 false (.s 81)), oG 83 78 true (.not (.s 82)), oI 84 (.pick (.s 78) (.s 83) (.c (.lit (.bool false))))] [5, 6, 8, 9, 10, 11, 12, 13, 14, 84]
def a13r22 : AC := .reg [oI 13 (.mov (.c (.lit (.bool false))))] [5, 6, 8, 9, 10, 11, 12, 13, 14]
def a13r20 : AC := .reg [oI 59 (.mov (.s 14)), oI 60 (.iop .add (.s 59) (.c (.lit (.int .i64 1)))), oI 14 (.mov (.s 60))] [5, 6, 8, 9, 10, 11, 12, 13, 14]
def a13L19 : AC := .seq (.seq a13r19 (.cond (.s 58) (.skip) (.exit 6))) (.seq (.block 7 (.seq a13r21 (.cond (.s 84) a13r22 (.skip)))) a13r20)
def a13r23 : AC := .reg [oI 85 (.mov (.s 13))] [5, 6, 8, 9, 10, 11, 12, 85]
def a13r24 : AC := .reg [oI 86 (.mov (.s 12)), oI 11 (.mov (.s 86))] [5, 6, 8, 9, 10, 11, 12]
def a13r16 : AC := .reg [oI 49 (.mov (.s 12)), oI 50 (.iop .add (.s 49) (.c (.lit (.int .i64 1)))), oI 12 (.mov (.s 50))] [5, 6, 8, 9, 10, 11, 12]
def a13L15 : AC := .seq (.seq a13r15 (.cond (.s 48) (.skip) (.exit 4))) (.seq (.block 5 (.seq a13r17 (.seq (.seq a13r18 (.block 6 (.loop a13L19))) (.seq a13r23 (.cond (.s 85) a13r24 (.skip)))))) a13r16)
def a13r25 : AC := .reg [oI 87 (.mov (.s 11)), oI 88 (.iop .lss (.s 87) (.c (.lit (.int .i64 0))))] [5, 6, 8, 9, 10, 11, 88]
def a13r26 : AC := .reg [oI 89 (.mov (.s 9)), oI 4 (.mov (.s 89))] [4]
def a13r27 : AC := .reg [oI 15 (.mov (.c (.nils 1)))] [5, 6, 8, 9, 10, 11, 15]
def a13r28 : AC := .reg [oI 16 (.mov (.c (.lit (.int .i64 0))))] [5, 6, 8, 9, 10, 11, 15, 16]
def a13r29 : AC := .reg [oI 90 (.mov (.s 16)), oI 91 (.mov (.s 5)), oI 92 (.iop .lss (.s 90) (.s 91))] [5, 6, 8, 9, 10, 11, 15, 16, 92]
def a13r31 : AC := .reg [oI 95 (.mov (.s 6)), oI 96 (.mov (.s 11)), oI 97 (.iaddr 1 (.s 95) (.s 96)), oI 98 (.load 1 false (.s 97)), oI 99 (.mov (.s 16)), oI 100 (.iaddr 1 (.s 98) (.s 99)), oI 101 (.load 1 false (.s 100)), oI 102 (.mov (.s 101)), oG 103 102 true (.mov (.s 6)), oG 104 102 true (.mov (.s 16)), oG 105 102 true (.iaddr 1 (.s 103) (.s 104)), oG 106 102 true (.load 1 false (.s 105)), oG 107 102 true (.mov (.s 11)), oG 108 102 true (.iaddr 1 (.s 106) (.s 107)), oG 109 102 true (.load 1 false (.s 108)), oI 110 (.pick (.s 102) (.s 109) (.c (.lit (.bool false))))] [5, 6, 8, 9, 10, 11, 15, 16, 110]
def a13r32 : AC := .reg [oI 111 (.mov (.s 15)), oI 112 (.mov (.s 16)), oI 113 (.bslice 13113 3 1 [(.s 112)]), oI 114 (.append 13114 3 1 8 (.s 111) (.s 113)), oI 15 (.mov (.s 114))] [5, 6, 8, 9, 10, 11, 15, 16]
def a13r33 : AC := .reg [oI 115 (.mov (.s 8)), oI 116 (.mov (.s 16)), oI 117 (.iaddr 1 (.s 115) (.s 116)), oN (.store 1 (.s 117) (.c (.lit (.bool true))))] [5, 6, 8, 9, 10, 11, 15, 16]
def a13r30 : AC := .reg [oI 93 (.mov (.s 16)), oI 94 (.iop .add (.s 93) (.c (.lit (.int .i64 1)))), oI 16 (.mov (.s 94))] [5, 6, 8, 9, 10, 11, 15, 16]
def a13L29 : AC := .seq (.seq a13r29 (.cond (.s 92) (.skip) (.exit 8))) (.seq (.block 9 (.seq a13r31 (.cond (.s 110) (.seq a13r32 a13r33) (.skip)))) a13r30)
def a13r34 : AC := .reg [oI 118 (.mov (.s 9)), oI 119 (.mov (.s 15)), oI 120 (.bslice 13120 26 1 [(.s 119)]), oI 121 (.append 13121 26 1 24 (.s 118) (.s 120)), oI 9 (.mov (.s 121))] [5, 6, 8, 9, 10]
def a13L10 : AC := .seq (.seq a13r10 (.cond (.s 35) (.skip) (.exit 2))) (.block 3 (.seq (.seq a13r11 (.cond (.s 39) (.seq a13r12 (.exit 3)) (.skip))) (.seq a13r13 (.seq (.seq a13r14 (.block 4 (.loop a13L15))) (.seq (.seq a13r25 (.cond (.s 88) (.seq a13r26 (.ret)) (.skip))) (.seq a13r27 (.seq (.seq a13r28 (.block 8 (.loop a13L29))) a13r34)))))))
def a13r35 : AC := .reg [oI 122 (.mov (.s 9)), oI 4 (.mov (.s 122))] [4]
def a13 : AC := .seq a13r0 (.seq a13r1 (.seq a13r2 (.seq (.seq a13r3 (.block 0 (.loop a13L4))) (.seq a13r7 (.seq a13r8 (.seq (.seq a13r9 (.block 2 (.loop a13L10))) (.seq a13r35 (.ret))))))))
def a13R : List RD := [.tmp 4]
abbrev DoesT (f : Nat) (args : List AV) (r : AV) : Prop := Does Try.prog f args [] [] (fun r' m => m = [] ∧ r' = r)
def bN (n : Int) : Nat := if n < 0 then 0 else if 100 < n then 100 else n.toNat
theorem bN_le (n : Int) : bN n ≤ 100 := by unfold bN; split; omega; split <;> omega
def isT (n i : Int) : Bool := decide (0 ≤ i) && decide (i < (bN n : Int))
theorem isT_iff (n i : Int) : isT n i = true ↔ 0 ≤ i ∧ i < (bN n : Int) := by simp [isT]
theorem c23 : chkFn Try.prog 59 8 1 a23 a23R = true := by kernel_rfl
theorem d23 (n : Int) : DoesT 59 [iv n] (iv (bN n : Nat)) := by
  refine Does.of (nt := 8) (ac := a23) (rds := a23R) c23 (fun c hc => ?_)
  unfold a23
  apply J.seq
  refine J.regE (by simp; rfl) ?_
  simp
  apply J.seq
  apply J.seq
  refine J.regE (by simp; rfl) ?_
  simp
  apply J.cond; simp
  refine ⟨fun h4 => ?_, fun h4 => ?_⟩
  ·
    apply J.seq
    refine J.regE (by simp; rfl) ?_
    simp
    apply J.ret
    refine ⟨by simp, rfl, _, [], by simp [a23R]; rfl, ?_⟩
    simp [bN, h4]
  ·
    apply J.skip; simp
    apply J.seq
    apply J.seq
    refine J.regE (by simp; rfl) ?_
    simp
    apply J.cond; simp
    refine ⟨fun h6 => ?_, fun h6 => ?_⟩
    ·
      apply J.seq
      refine J.regE (by simp; rfl) ?_
      simp
      apply J.ret
      refine ⟨by simp, rfl, _, [], by simp [a23R]; rfl, ?_⟩
      simp [bN, Int.not_lt.2 h4, h6]
    ·
      apply J.skip; simp
      apply J.seq
      refine J.regE (by simp; rfl) ?_
      simp
      apply J.ret
      refine ⟨by simp, rfl, _, [], by simp [a23R]; rfl, ?_⟩
      simp [bN, Int.not_lt.2 h4, Int.not_lt.2 h6]
      omega
theorem c26 : chkFn Try.prog 80 13 2 a26 a26R = true := by kernel_rfl
theorem d26 (n i : Int) : DoesT 80 [iv n, iv i] (bv (isT n i)) := by
  refine Does.of (nt := 13) (ac := a26) (rds := a26R) c26 (fun c hc => ?_)
  unfold a26
  apply J.seq
  refine J.regE (by simp; rfl) ?_
  simp
  apply J.seq
  apply J.reg
  iterate 3 refine runL_step rfl (by simp; rfl) ?_
  by_cases h : 0 ≤ i
  · iterate 2 refine runL_step rfl (by simp [h]; rfl) ?_
    refine runL_do (by simp [h]) ?_
    refine runL_tree rfl (d23 n) (by simp) hc ?_
    simp
    iterate 3 refine runL_step rfl (by simp [h]; rfl) ?_
    simp [runL]
    apply J.ret
    refine ⟨by simp, rfl, _, [], by simp [a26R]; rfl, ?_⟩
    simp [isT, h]
  iterate 2 refine runL_step rfl (by simp [h]; rfl) ?_
  refine runL_skip (by simp [h]; rfl) (by simp) ?_
  iterate 3 refine runL_step rfl (by simp [h]; rfl) ?_
  simp [runL]
  apply J.ret
  refine ⟨by simp, rfl, _, [], by simp [a26R]; rfl, ?_⟩
  simp [isT, h]
end Go.Proofs.Ytdekelhmneeniaa.P11
namespace Go.Proofs.Ytdekelhmneeniaa.T
inductive Reach (E : Nat → Nat → Prop) : Nat → Nat → Prop
  | refl (v : Nat) : Reach E v v
  | step {u v w : Nat} (h : Reach E u v) (e : E v w) : Reach E u w
theorem Reach.trans {E : Nat → Nat → Prop} {u v w : Nat} (h : Reach E u v) (k : Reach E v w) : Reach E u w := by
  induction k with
  | refl => exact h
  | step _ e ih => exact .step ih e
theorem Reach.one {E : Nat → Nat → Prop} {u v : Nat} (e : E u v) : Reach E u v := .step (.refl u) e
def upd (f : Nat → Nat) (k x : Nat) : Nat → Nat := fun v => if v = k then x else f v
theorem upd_same (f : Nat → Nat) (k x : Nat) : upd f k x k = x := if_pos rfl
theorem upd_ne (f : Nat → Nat) {k v : Nat} (x : Nat) (h : v ≠ k) : upd f k x v = f v := if_neg h
def Proc (to : Nat → List Nat) (K : List (Nat × Nat)) (y z : Nat) : Prop :=
  ((∀ p ∈ K, p.1 ≠ y) ∧ z ∈ to y) ∨ ∃ d, (y, d) ∈ K ∧ z ∈ (to y).take d
structure Inv (n : Nat) (to : Nat → List Nat) (o lo f : Nat → Nat) (opn : List Nat) (many at_ : Nat) (K : List (Nat × Nat)) : Prop where
  ole : ∀ v, o v ≤ at_
  inj : ∀ u v, o u ≠ 0 → o u = o v → u = v
  opn_iff : ∀ v, v ∈ opn ↔ o v ≠ 0 ∧ f v = 0
  sorted : opn.Pairwise (fun a b => o a < o b)
  fle : ∀ v, f v ≤ many
  fo : ∀ v, f v ≠ 0 → o v ≠ 0
  dom : ∀ v, o v ≠ 0 → v < n
  succ : ∀ v z, z ∈ to v → z < n
  kopn : ∀ p ∈ K, p.1 ∈ opn ∧ p.2 ≤ (to p.1).length
  kdec : K.Pairwise (fun a b => o b.1 < o a.1)
  gray : ∀ p ∈ K, ∀ y ∈ opn, o p.1 ≤ o y → Reach (fun a b => b ∈ to a) p.1 y
  back : ∀ y ∈ opn, ∃ p ∈ K, o p.1 ≤ o y ∧ Reach (fun a b => b ∈ to a) y p.1
  lowle : ∀ v ∈ opn, lo v ≤ o v
  low : ∀ v ∈ opn, ∃ z ∈ opn, o z = lo v ∧ Reach (fun a b => b ∈ to a) v z
  resp : ∀ p ∈ K, ∀ y ∈ opn, ∀ z ∈ opn, o p.1 ≤ o y → Proc to K y z → ∃ q ∈ K, o p.1 ≤ o q.1 ∧ o q.1 ≤ o y ∧ lo q.1 ≤ o z
  seen : ∀ y ∈ opn, ∀ z, Proc to K y z → o z ≠ 0
  shut : ∀ y, f y ≠ 0 → ∀ z ∈ to y, f z ≠ 0
  same : ∀ x y, f x ≠ 0 → f y ≠ 0 → (f x = f y ↔ Reach (fun a b => b ∈ to a) x y ∧ Reach (fun a b => b ∈ to a) y x)
  each : ∀ k, 1 ≤ k → k ≤ many → ∃ v, f v = k
  many_le : many + opn.length ≤ at_
section
variable {n : Nat} {to : Nat → List Nat} {o lo f : Nat → Nat} {opn : List Nat} {many at_ : Nat} {K : List (Nat × Nat)}
theorem Inv.start (hs : ∀ v z, z ∈ to v → z < n) : Inv n to (fun _ => 0) (fun _ => 0) (fun _ => 0) [] 0 0 [] where
  ole _ := Nat.le_refl _
  inj _ _ h _ := absurd rfl h
  opn_iff v := by simp
  sorted := .nil
  fle _ := Nat.le_refl _
  fo _ h := absurd rfl h
  dom _ h := absurd rfl h
  succ := hs
  kopn _ h := by simp at h
  kdec := .nil
  gray _ h := by simp at h
  back _ h := by simp at h
  lowle _ h := by simp at h
  low _ h := by simp at h
  resp _ h := by simp at h
  seen _ h := by simp at h
  shut _ h := absurd rfl h
  same _ _ h := absurd rfl h
  each k h1 h2 := by omega
  many_le := Nat.le_refl _
theorem proc_cons {y z v d : Nat} (h : Proc to ((v, d + 1) :: K) y z) (hd : d < (to v).length) (hK : ∀ p ∈ K, p.1 ≠ v) : Proc to ((v, d) :: K) y z ∨ (y = v ∧ z = (to v)[d]) := by
  rcases h with ⟨h1, h2⟩ | ⟨e, h1, h2⟩
  · exact .inl (.inl ⟨fun p hp => by
      rcases List.mem_cons.1 hp with rfl | hp
      · exact h1 (v, d + 1) List.mem_cons_self
      · exact h1 p (List.mem_cons_of_mem _ hp), h2⟩)
  · rcases List.mem_cons.1 h1 with h3 | h3
    · injection h3 with h3 h4
      subst h3; subst h4
      rw [List.take_add_one, List.getElem?_eq_getElem hd] at h2
      rcases List.mem_append.1 h2 with h5 | h5
      · exact .inl (.inr ⟨d, List.mem_cons_self, h5⟩)
      · simp at h5; exact .inr ⟨rfl, h5⟩
    · exact .inl (.inr ⟨e, List.mem_cons_of_mem _ h3, h2⟩)
theorem Inv.top_ne (h : Inv n to o lo f opn many at_ K) {v d : Nat} {K' : List (Nat × Nat)} (hK : K = (v, d) :: K') : ∀ p ∈ K', p.1 ≠ v := by
  subst hK
  intro p hp e
  have := (List.pairwise_cons.1 h.kdec).1 p hp
  rw [e] at this
  exact Nat.lt_irrefl _ this
theorem mem_frames {v d e : Nat} {p : Nat × Nat} (hp : p ∈ (v, e) :: K) : ∃ q ∈ (v, d) :: K, q.1 = p.1 := by
  rcases List.mem_cons.1 hp with rfl | hp
  · exact ⟨(v, d), List.mem_cons_self, rfl⟩
  · exact ⟨p, List.mem_cons_of_mem _ hp, rfl⟩
theorem Inv.edge {v d : Nat} (h : Inv n to o lo f opn many at_ ((v, d) :: K)) (hd : d < (to v).length) (hv : o (to v)[d] ≠ 0) :
    Inv n to o (if f (to v)[d] = 0 then upd lo v (min (lo v) (o (to v)[d])) else lo) f opn many at_ ((v, d + 1) :: K) := by
  have hne := h.top_ne rfl
  have hvo : v ∈ opn := (h.kopn (v, d) List.mem_cons_self).1
  have hlo : ∀ y, (if f (to v)[d] = 0 then upd lo v (min (lo v) (o (to v)[d])) else lo) y ≤ lo y := by
    intro y
    split
    · unfold upd; split
      · rename_i e; subst e; exact Nat.min_le_left _ _
      · exact Nat.le_refl _
    · exact Nat.le_refl _
  refine { h with kopn := ?_, kdec := ?_, gray := ?_, back := ?_, lowle := fun y hy => Nat.le_trans (hlo y) (h.lowle y hy), low := ?_, resp := ?_, seen := ?_ }
  · intro p hp
    rcases List.mem_cons.1 hp with rfl | hp
    · exact ⟨hvo, hd⟩
    · exact h.kopn p (List.mem_cons_of_mem _ hp)
  · exact List.pairwise_cons.2 ⟨(List.pairwise_cons.1 h.kdec).1, (List.pairwise_cons.1 h.kdec).2⟩
  · intro p hp y hy hle
    obtain ⟨q, hq, e⟩ := mem_frames (d := d) hp
    rw [← e] at hle ⊢
    exact h.gray q hq y hy hle
  · intro y hy
    obtain ⟨p, hp, h1, h2⟩ := h.back y hy
    obtain ⟨q, hq, e⟩ := mem_frames (d := d + 1) hp
    exact ⟨q, hq, by rw [e]; exact h1, by rw [e]; exact h2⟩
  · intro y hy
    obtain ⟨z, hz, h1, h2⟩ := h.low y hy
    split
    · rename_i hf0
      by_cases e : y = v
      · subst e
        rw [upd_same]
        by_cases hm : lo y ≤ o (to y)[d]
        · exact ⟨z, hz, by rw [h1, Nat.min_eq_left hm], h2⟩
        · exact ⟨(to y)[d], (h.opn_iff _).2 ⟨hv, hf0⟩, by rw [Nat.min_eq_right (by omega)], .one (List.getElem_mem hd)⟩
      · rw [upd_ne _ _ e]; exact ⟨z, hz, h1, h2⟩
    · exact ⟨z, hz, h1, h2⟩
  · intro p hp y hy z hz hle hpr
    obtain ⟨q, hq, e⟩ := mem_frames (d := d) hp
    rcases proc_cons hpr hd hne with h1 | ⟨rfl, rfl⟩
    · obtain ⟨r, hr, g1, g2, g3⟩ := h.resp q hq y hy z hz (by rw [e]; exact hle) h1
      obtain ⟨s, hs, e2⟩ := mem_frames (d := d + 1) hr
      exact ⟨s, hs, by rw [e2, ← e]; exact g1, by rw [e2]; exact g2, Nat.le_trans (hlo _) (by rw [e2]; exact g3)⟩
    · have hf0 : f (to y)[d] = 0 := ((h.opn_iff _).1 hz).2
      exact ⟨(y, d + 1), List.mem_cons_self, hle, Nat.le_refl _, by simp only [hf0, if_true, upd_same]; exact Nat.min_le_right _ _⟩
  · intro y hy z hpr
    rcases proc_cons hpr hd hne with h1 | ⟨rfl, rfl⟩
    · exact h.seen y hy z h1
    · exact hv
theorem Inv.push {K1 : List (Nat × Nat)} (h : Inv n to o lo f opn many at_ K) {k : Nat} (hk : k < n) (hok : o k = 0) (h01 : ∀ p ∈ K, ∃ q ∈ K1, q.1 = p.1) (h10 : ∀ p ∈ K1, ∃ q ∈ K, q.1 = p.1) (hdec : K1.Pairwise (fun a b => o b.1 < o a.1)) (hlen : ∀ p ∈ K1, p.2 ≤ (to p.1).length)
    (hpr : ∀ y z, Proc to K1 y z → Proc to K y z ∨ (z = k ∧ ∃ p ∈ K1, p.1 = y)) (hre : ∀ p ∈ K1, Reach (fun a b => b ∈ to a) p.1 k) :
    Inv n to (upd o k (at_ + 1)) (upd lo k (at_ + 1)) f (opn ++ [k]) many (at_ + 1) ((k, 0) :: K1) := by
  have hfk : f k = 0 := by
    by_cases e : f k = 0
    · exact e
    · exact absurd hok (h.fo k e)
  have hko : k ∉ opn := fun hm => ((h.opn_iff k).1 hm).1 hok
  have hnk : ∀ y ∈ opn, y ≠ k := fun y hy e => hko (e ▸ hy)
  have hK1 : ∀ p ∈ K1, p.1 ∈ opn := fun p hp => by obtain ⟨q, hq, e⟩ := h10 p hp; rw [← e]; exact (h.kopn q hq).1
  have ho : ∀ y ∈ opn, upd o k (at_ + 1) y = o y := fun y hy => upd_ne _ _ (hnk y hy)
  have hl : ∀ y ∈ opn, upd lo k (at_ + 1) y = lo y := fun y hy => upd_ne _ _ (hnk y hy)
  have hproc : ∀ y z, Proc to ((k, 0) :: K1) y z → y ≠ k ∧ Proc to K1 y z := by
    rintro y z (⟨h1, h2⟩ | ⟨e, h1, h2⟩)
    · exact ⟨fun e => h1 (k, 0) List.mem_cons_self e.symm, .inl ⟨fun p hp => h1 p (List.mem_cons_of_mem _ hp), h2⟩⟩
    · rcases List.mem_cons.1 h1 with h3 | h3
      · injection h3 with h3 h4; subst h4; simp at h2
      · exact ⟨fun e' => hko (e' ▸ hK1 _ h3), .inr ⟨e, h3, h2⟩⟩
  have hmem : ∀ y, y ∈ opn ++ [k] → y ∈ opn ∨ y = k := fun y hy => by simpa using hy
  refine { ole := ?_, inj := ?_, opn_iff := ?_, sorted := ?_, fle := h.fle, fo := ?_, dom := ?_, succ := h.succ, kopn := ?_, kdec := ?_, gray := ?_, back := ?_, lowle := ?_, low := ?_, resp := ?_, seen := ?_, shut := h.shut, same := h.same, each := h.each, many_le := ?_ }
  · intro v
    unfold upd; split
    · exact Nat.le_refl _
    · exact Nat.le_succ_of_le (h.ole v)
  · intro u v hu he
    unfold upd at hu he
    split at he <;> split at he
    · rename_i e1 e2; rw [e1, e2]
    · have := h.ole v; omega
    · have := h.ole u; omega
    · rename_i e1 e2; rw [if_neg e1] at hu; exact h.inj u v hu he
  · intro v
    by_cases e : v = k
    · subst e; simp [upd_same, hfk]
    · rw [upd_ne _ _ e, ← h.opn_iff v]; simp [e]
  · refine List.pairwise_append.2 ⟨?_, List.pairwise_singleton _ _, ?_⟩
    · refine h.sorted.imp_of_mem (fun {a b} ha hb hab => ?_)
      rw [ho a ha, ho b hb]; exact hab
    · intro a ha b hb
      simp at hb; subst hb
      rw [ho a ha, upd_same]
      exact Nat.lt_succ_of_le (h.ole a)
  · intro v hv
    unfold upd; split
    · omega
    · exact h.fo v hv
  · intro v hv
    unfold upd at hv
    split at hv
    · rename_i e; subst e; exact hk
    · exact h.dom v hv
  · intro p hp
    rcases List.mem_cons.1 hp with rfl | hp
    · exact ⟨by simp, Nat.zero_le _⟩
    · exact ⟨List.mem_append_left _ (hK1 p hp), hlen p hp⟩
  · refine List.pairwise_cons.2 ⟨fun p hp => ?_, ?_⟩
    · rw [ho _ (hK1 p hp), upd_same]; exact Nat.lt_succ_of_le (h.ole _)
    · refine hdec.imp_of_mem (fun {a b} ha hb hab => ?_)
      rw [ho _ (hK1 a ha), ho _ (hK1 b hb)]; exact hab
  · intro p hp0 y hy hle
    rcases List.mem_cons.1 hp0 with rfl | hp
    · rcases hmem y hy with hy | rfl
      · rw [ho y hy, upd_same] at hle
        have := h.ole y; omega
      · exact .refl _
    · rcases hmem y hy with hy | e
      · rw [ho y hy, ho _ (hK1 p hp)] at hle
        obtain ⟨q, hq, e⟩ := h10 p hp
        rw [← e] at hle ⊢
        exact h.gray q hq y hy hle
      · rw [e]; exact hre p hp
  · intro y hy
    rcases hmem y hy with hy | rfl
    · obtain ⟨p, hp, h1, h2⟩ := h.back y hy
      obtain ⟨q, hq, e⟩ := h01 p hp
      refine ⟨q, List.mem_cons_of_mem _ hq, ?_, by rw [e]; exact h2⟩
      rw [ho y hy, ho _ (hK1 q hq), e]; exact h1
    · exact ⟨(y, 0), List.mem_cons_self, Nat.le_refl _, .refl _⟩
  · intro y hy
    rcases hmem y hy with hy | rfl
    · rw [ho y hy, hl y hy]; exact h.lowle y hy
    · rw [upd_same, upd_same]; exact Nat.le_refl _
  · intro y hy
    rcases hmem y hy with hy | rfl
    · obtain ⟨z, hz, h1, h2⟩ := h.low y hy
      exact ⟨z, List.mem_append_left _ hz, by rw [ho z hz, hl y hy]; exact h1, h2⟩
    · exact ⟨y, hy, by rw [upd_same, upd_same], .refl _⟩
  · intro p hp y hy z hz hle hp2
    obtain ⟨hyk, hp3⟩ := hproc y z hp2
    have hyo : y ∈ opn := (hmem y hy).resolve_right hyk
    rw [ho y hyo] at hle
    rcases List.mem_cons.1 hp with rfl | hp
    · rw [upd_same] at hle
      have := h.ole y; omega
    · rw [ho _ (hK1 p hp)] at hle ⊢
      rcases hpr y z hp3 with h1 | ⟨rfl, q, hq, rfl⟩
      · have hzk : z ≠ k := fun e => h.seen y hyo z h1 (e ▸ hok)
        have hzo : z ∈ opn := (hmem z hz).resolve_right hzk
        obtain ⟨p0, hp0, e0⟩ := h10 p hp
        obtain ⟨r, hr, g1, g2, g3⟩ := h.resp p0 hp0 y hyo z hzo (by rw [e0]; exact hle) h1
        obtain ⟨s, hs, e⟩ := h01 r hr
        have hso := hK1 s hs
        refine ⟨s, List.mem_cons_of_mem _ hs, ?_, ?_, ?_⟩
        · rw [ho _ hso, e, ← e0]; exact g1
        · rw [ho _ hso, ho _ hyo, e]; exact g2
        · rw [hl _ hso, ho _ hzo, e]; exact g3
      · refine ⟨q, List.mem_cons_of_mem _ hq, ?_, Nat.le_refl _, ?_⟩
        · rw [ho _ hyo]; exact hle
        · rw [hl _ hyo, upd_same]
          have := h.lowle _ hyo; have := h.ole q.1; omega
  · intro y hy z hp2
    obtain ⟨hyk, hp3⟩ := hproc y z hp2
    have hyo : y ∈ opn := (hmem y hy).resolve_right hyk
    rcases hpr y z hp3 with h1 | ⟨rfl, _⟩
    · have := h.seen y hyo z h1
      unfold upd; split
      · omega
      · exact this
    · rw [upd_same]; omega
  · have := h.many_le
    simp; omega
theorem Inv.push_edge {v d : Nat} (h : Inv n to o lo f opn many at_ ((v, d) :: K)) (hd : d < (to v).length) (hv : o (to v)[d] = 0) :
    Inv n to (upd o (to v)[d] (at_ + 1)) (upd lo (to v)[d] (at_ + 1)) f (opn ++ [(to v)[d]]) many (at_ + 1) (((to v)[d], 0) :: (v, d + 1) :: K) := by
  refine h.push (h.succ _ _ (List.getElem_mem hd)) hv (fun p hp => mem_frames hp) (fun p hp => mem_frames hp) ?_ ?_ ?_ ?_
  · exact List.pairwise_cons.2 ⟨(List.pairwise_cons.1 h.kdec).1, (List.pairwise_cons.1 h.kdec).2⟩
  · intro p hp
    rcases List.mem_cons.1 hp with rfl | hp
    · exact hd
    · exact (h.kopn p (List.mem_cons_of_mem _ hp)).2
  · intro y z hp
    rcases proc_cons hp hd (h.top_ne rfl) with h1 | ⟨rfl, rfl⟩
    · exact .inl h1
    · exact .inr ⟨rfl, (y, d + 1), List.mem_cons_self, rfl⟩
  · intro p hp
    obtain ⟨q, hq, e⟩ := mem_frames (d := d) hp
    have hvo : v ∈ opn := (h.kopn (v, d) List.mem_cons_self).1
    have hle : o q.1 ≤ o v := by
      rcases List.mem_cons.1 hq with rfl | hq
      · exact Nat.le_refl _
      · exact Nat.le_of_lt ((List.pairwise_cons.1 h.kdec).1 q hq)
    rw [← e]
    exact .step (h.gray q hq v hvo hle) (List.getElem_mem hd)
theorem Inv.push_first (h : Inv n to o lo f opn many at_ []) {k : Nat} (hk : k < n) (hok : o k = 0) : Inv n to (upd o k (at_ + 1)) (upd lo k (at_ + 1)) f (opn ++ [k]) many (at_ + 1) [(k, 0)] :=
  h.push hk hok (fun p hp => by simp at hp) (fun p hp => by simp at hp) .nil (fun p hp => by simp at hp) (fun y z hp => .inl hp) (fun p hp => by simp at hp)
def popLow (lo : Nat → Nat) (v : Nat) : List (Nat × Nat) → Nat → Nat
  | [] => lo
  | (u, _) :: _ => upd lo u (min (lo u) (lo v))
theorem popLow_le (lo : Nat → Nat) (v : Nat) (K : List (Nat × Nat)) (y : Nat) : popLow lo v K y ≤ lo y := by
  unfold popLow
  split
  · exact Nat.le_refl _
  · unfold upd; split
    · rename_i e; subst e; exact Nat.min_le_left _ _
    · exact Nat.le_refl _
theorem proc_pop {y z v d : Nat} (hd : d = (to v).length) (h : Proc to K y z) : Proc to ((v, d) :: K) y z := by
  rcases h with ⟨h1, h2⟩ | ⟨e, h1, h2⟩
  · by_cases e : y = v
    · subst e; exact .inr ⟨d, List.mem_cons_self, by rw [hd, List.take_length]; exact h2⟩
    · refine .inl ⟨fun p hp => ?_, h2⟩
      rcases List.mem_cons.1 hp with rfl | hp
      · exact fun e' => e e'.symm
      · exact h1 p hp
  · exact .inr ⟨e, List.mem_cons_of_mem _ h1, h2⟩
theorem Inv.lt_top {v d : Nat} (h : Inv n to o lo f opn many at_ ((v, d) :: K)) : ∀ p ∈ K, o p.1 < o v := (List.pairwise_cons.1 h.kdec).1
theorem Inv.pop_more {v d : Nat} (h : Inv n to o lo f opn many at_ ((v, d) :: K)) (hd : d = (to v).length) (hlt : lo v < o v) : Inv n to o (popLow lo v K) f opn many at_ K := by
  have hvo : v ∈ opn := (h.kopn (v, d) List.mem_cons_self).1
  obtain ⟨z0, hz0, hz1, hz2⟩ := h.low v hvo
  have hback : ∀ y ∈ opn, ∃ p ∈ K, o p.1 ≤ o y ∧ Reach (fun a b => b ∈ to a) y p.1 := by
    intro y hy
    obtain ⟨p, hp, h1, h2⟩ := h.back y hy
    rcases List.mem_cons.1 hp with e | hp
    · subst e
      obtain ⟨q, hq, g1, g2⟩ := h.back z0 hz0
      rcases List.mem_cons.1 hq with e | hq
      · subst e; simp only at g1; omega
      · exact ⟨q, hq, by simp only at h1; omega, h2.trans (hz2.trans g2)⟩
    · exact ⟨p, hp, h1, h2⟩
  refine { h with kopn := fun p hp => h.kopn p (List.mem_cons_of_mem _ hp), kdec := (List.pairwise_cons.1 h.kdec).2, gray := fun p hp => h.gray p (List.mem_cons_of_mem _ hp), back := hback, lowle := fun y hy => Nat.le_trans (popLow_le _ _ _ _) (h.lowle y hy), low := ?_, resp := ?_, seen := fun y hy z hp => h.seen y hy z (proc_pop hd hp) }
  · intro y hy
    obtain ⟨z, hz, h1, h2⟩ := h.low y hy
    cases K with
    | nil => exact ⟨z, hz, h1, h2⟩
    | cons p K =>
      obtain ⟨u, e⟩ := p
      simp only [popLow]
      by_cases e1 : y = u
      · subst e1
        rw [upd_same]
        by_cases hm : lo y ≤ lo v
        · exact ⟨z, hz, by rw [h1, Nat.min_eq_left hm], h2⟩
        · refine ⟨z0, hz0, by rw [hz1, Nat.min_eq_right (by omega)], .trans (h.gray (y, e) (by simp) v hvo (Nat.le_of_lt (h.lt_top (y, e) List.mem_cons_self))) hz2⟩
      · rw [upd_ne _ _ e1]; exact ⟨z, hz, h1, h2⟩
  · intro p hp y hy z hz hle hpr
    obtain ⟨q, hq, g1, g2, g3⟩ := h.resp p (List.mem_cons_of_mem _ hp) y hy z hz hle (proc_pop hd hpr)
    rcases List.mem_cons.1 hq with e | hq
    · subst e
      cases K with
      | nil => simp at hp
      | cons r K =>
        obtain ⟨u, e⟩ := r
        have hu := h.lt_top (u, e) List.mem_cons_self
        have hpu : o p.1 ≤ o u := by
          rcases List.mem_cons.1 hp with e' | hp
          · subst e'; exact Nat.le_refl _
          · exact Nat.le_of_lt ((List.pairwise_cons.1 (List.pairwise_cons.1 h.kdec).2).1 p hp)
        refine ⟨(u, e), List.mem_cons_self, hpu, by simp only at g2 hu ⊢; omega, ?_⟩
        simp only [popLow, upd_same]
        simp only at g3
        exact Nat.le_trans (Nat.min_le_right _ _) g3
    · exact ⟨q, hq, g1, g2, Nat.le_trans (popLow_le _ _ _ _) g3⟩
theorem Inv.shut_reach (h : Inv n to o lo f opn many at_ K) {x y : Nat} (hx : f x ≠ 0) (hr : Reach (fun a b => b ∈ to a) x y) : f y ≠ 0 := by
  induction hr with
  | refl => exact hx
  | step _ e ih => exact h.shut _ ih _ e
theorem cut (h : Inv n to o lo f opn many at_ K) {v : Nat} (hv : v ∈ opn) : (∀ y, y ∈ opn.drop (opn.idxOf v) ↔ y ∈ opn ∧ o v ≤ o y) ∧ (∀ y, y ∈ opn.take (opn.idxOf v) ↔ y ∈ opn ∧ o y < o v) := by
  have hlt := List.idxOf_lt_length_of_mem hv
  have hs := h.sorted
  have hcut : opn = opn.take (opn.idxOf v) ++ opn.drop (opn.idxOf v) := (List.take_append_drop _ _).symm
  have hdrop : opn.drop (opn.idxOf v) = v :: opn.drop (opn.idxOf v + 1) := by
    rw [List.drop_eq_getElem_cons hlt, List.getElem_idxOf hlt]
  generalize opn.take (opn.idxOf v) = A at *
  generalize opn.drop (opn.idxOf v) = B at *
  rw [hcut] at hs
  obtain ⟨hA, hB, hAB⟩ := List.pairwise_append.1 hs
  have h1 : ∀ y ∈ B, o v ≤ o y := by
    intro y hy
    rw [hdrop] at hy hB
    rcases List.mem_cons.1 hy with rfl | hy
    · exact Nat.le_refl _
    · exact Nat.le_of_lt ((List.pairwise_cons.1 hB).1 y hy)
  have h2 : ∀ y ∈ A, o y < o v := fun y hy => hAB y hy v (by rw [hdrop]; exact List.mem_cons_self)
  have hm : ∀ y, y ∈ opn ↔ y ∈ A ∨ y ∈ B := fun y => by rw [hcut]; exact List.mem_append
  refine ⟨fun y => ⟨fun hy => ⟨(hm y).2 (.inr hy), h1 y hy⟩, fun ⟨hy, hle⟩ => ?_⟩, fun y => ⟨fun hy => ⟨(hm y).2 (.inl hy), h2 y hy⟩, fun ⟨hy, hle⟩ => ?_⟩⟩
  · rcases (hm y).1 hy with h3 | h3
    · have := h2 y h3; omega
    · exact h3
  · rcases (hm y).1 hy with h3 | h3
    · exact h3
    · have := h1 y h3; omega
theorem Inv.pop_root {v d : Nat} (h : Inv n to o lo f opn many at_ ((v, d) :: K)) (hd : d = (to v).length) (hlt : ¬ lo v < o v) :
    Inv n to o (popLow lo v K) (fun y => if y ∈ opn.drop (opn.idxOf v) then many + 1 else f y) (opn.take (opn.idxOf v)) (many + 1) at_ K := by
  have hvo : v ∈ opn := (h.kopn (v, d) List.mem_cons_self).1
  obtain ⟨hC, hT⟩ := cut h hvo
  have hf0 : ∀ y ∈ opn, f y = 0 := fun y hy => ((h.opn_iff y).1 hy).2
  have hCo : ∀ y, y ∈ opn.drop (opn.idxOf v) → y ∈ opn ∧ o v ≤ o y := fun y hy => (hC y).1 hy
  have hvr : ∀ y, y ∈ opn.drop (opn.idxOf v) → Reach (fun a b => b ∈ to a) v y ∧ Reach (fun a b => b ∈ to a) y v := by
    intro y hy
    obtain ⟨hy1, hy2⟩ := hCo y hy
    refine ⟨h.gray (v, d) List.mem_cons_self y hy1 hy2, ?_⟩
    obtain ⟨p, hp, h1, h2⟩ := h.back y hy1
    rcases List.mem_cons.1 hp with e | hp
    · subst e; exact h2
    · exact h2.trans (h.gray p (List.mem_cons_of_mem _ hp) v hvo (Nat.le_of_lt (h.lt_top p hp)))
  have hsucc : ∀ y, y ∈ opn.drop (opn.idxOf v) → ∀ z ∈ to y, z ∈ opn.drop (opn.idxOf v) ∨ f z ≠ 0 := by
    intro y hy z hz
    obtain ⟨hy1, hy2⟩ := hCo y hy
    have hp : Proc to ((v, d) :: K) y z := by
      refine proc_pop hd (.inl ⟨fun p hp e => ?_, hz⟩)
      have := h.lt_top p hp
      rw [e] at this; omega
    have hzo := h.seen y hy1 z hp
    by_cases hfz : f z = 0
    · have hzopn := (h.opn_iff z).2 ⟨hzo, hfz⟩
      obtain ⟨q, hq, g1, g2, g3⟩ := h.resp (v, d) List.mem_cons_self y hy1 z hzopn hy2 hp
      rcases List.mem_cons.1 hq with e | hq
      · subst e
        exact .inl ((hC z).2 ⟨hzopn, by simp only at g3; omega⟩)
      · have := h.lt_top q hq
        simp only at g1; omega
    · exact .inr hfz
  have hkeep : ∀ y, popLow lo v K y ≤ lo y := popLow_le _ _ _
  refine { ole := h.ole, inj := h.inj, opn_iff := ?_, sorted := h.sorted.sublist (List.take_sublist _ _), fle := ?_, fo := ?_, dom := h.dom, succ := h.succ, kopn := ?_, kdec := (List.pairwise_cons.1 h.kdec).2, gray := ?_, back := ?_, lowle := ?_, low := ?_, resp := ?_, seen := ?_, shut := ?_, same := ?_, each := ?_, many_le := ?_ }
  · intro y
    rw [hT y, h.opn_iff y]
    by_cases hy : y ∈ opn.drop (opn.idxOf v)
    · rw [if_pos hy]
      have := hCo y hy
      constructor
      · intro h1; omega
      · intro h1; omega
    · rw [if_neg hy]
      constructor
      · exact fun h1 => h1.1
      · intro h1
        refine ⟨h1, ?_⟩
        have : ¬ (y ∈ opn ∧ o v ≤ o y) := fun h2 => hy ((hC y).2 h2)
        have h3 := (h.opn_iff y).2 h1
        rcases Nat.lt_or_ge (o y) (o v) with h4 | h4
        · exact h4
        · exact absurd ⟨h3, h4⟩ this
  · intro y
    split
    · exact Nat.le_refl _
    · exact Nat.le_succ_of_le (h.fle y)
  · intro y hy
    split at hy
    · rename_i hm; exact ((h.opn_iff y).1 (hCo y hm).1).1
    · exact h.fo y hy
  · intro p hp
    exact ⟨(hT _).2 ⟨(h.kopn p (List.mem_cons_of_mem _ hp)).1, h.lt_top p hp⟩, (h.kopn p (List.mem_cons_of_mem _ hp)).2⟩
  · intro p hp y hy hle
    exact h.gray p (List.mem_cons_of_mem _ hp) y ((hT y).1 hy).1 hle
  · intro y hy
    obtain ⟨hy1, hy2⟩ := (hT y).1 hy
    obtain ⟨p, hp, g1, g2⟩ := h.back y hy1
    rcases List.mem_cons.1 hp with e | hp
    · subst e; simp only at g1; omega
    · exact ⟨p, hp, g1, g2⟩
  · intro y hy
    exact Nat.le_trans (hkeep y) (h.lowle y ((hT y).1 hy).1)
  · intro y hy
    obtain ⟨hy1, hy2⟩ := (hT y).1 hy
    have hsame : popLow lo v K y = lo y := by
      cases K with
      | nil => rfl
      | cons p K =>
        obtain ⟨u, e⟩ := p
        simp only [popLow]
        by_cases e1 : y = u
        · subst e1; rw [upd_same, Nat.min_eq_left]; have := h.lowle y hy1; omega
        · rw [upd_ne _ _ e1]
    obtain ⟨z, hz, g1, g2⟩ := h.low y hy1
    refine ⟨z, (hT z).2 ⟨hz, ?_⟩, by rw [hsame]; exact g1, g2⟩
    have := h.lowle y hy1
    omega
  · intro p hp y hy z hz hle hpr
    obtain ⟨hy1, hy2⟩ := (hT y).1 hy
    obtain ⟨q, hq, g1, g2, g3⟩ := h.resp p (List.mem_cons_of_mem _ hp) y hy1 z ((hT z).1 hz).1 hle (proc_pop hd hpr)
    rcases List.mem_cons.1 hq with e | hq
    · subst e; simp only at g2; omega
    · exact ⟨q, hq, g1, g2, Nat.le_trans (hkeep _) g3⟩
  · intro y hy z hp
    exact h.seen y ((hT y).1 hy).1 z (proc_pop hd hp)
  · intro y hy z hz
    split at hy
    · rename_i hm
      rcases hsucc y hm z hz with h1 | h1
      · rw [if_pos h1]; omega
      · split
        · omega
        · exact h1
    · have := h.shut y hy z hz
      split
      · omega
      · exact this
  · have mixed : ∀ x y, x ∈ opn.drop (opn.idxOf v) → f y ≠ 0 → ¬ Reach (fun a b => b ∈ to a) y x := fun x y hx hy hr => h.shut_reach hy hr (hf0 x (hCo x hx).1)
    intro x y hx hy
    split at hx <;> split at hy
    · rename_i h1 h2
      rw [if_pos h1, if_pos h2]
      exact ⟨fun _ => ⟨(hvr x h1).2.trans (hvr y h2).1, (hvr y h2).2.trans (hvr x h1).1⟩, fun _ => rfl⟩
    · rename_i h1 h2
      rw [if_pos h1, if_neg h2]
      constructor
      · intro e; have := h.fle y; omega
      · intro hr; exact absurd hr.2 (mixed x y h1 hy)
    · rename_i h1 h2
      rw [if_neg h1, if_pos h2]
      constructor
      · intro e; have := h.fle x; omega
      · intro hr; exact absurd hr.1 (mixed y x h2 hx)
    · rename_i h1 h2
      rw [if_neg h1, if_neg h2]
      exact h.same x y hx hy
  · intro k h1 h2
    by_cases e : k = many + 1
    · subst e
      exact ⟨v, by rw [if_pos ((hC v).2 ⟨hvo, Nat.le_refl _⟩)]⟩
    · obtain ⟨w, hw⟩ := h.each k h1 (by omega)
      refine ⟨w, ?_⟩
      rw [if_neg (fun hm => ?_)]
      · exact hw
      · have := hf0 w (hCo w hm).1
        omega
  · have := h.many_le
    have hlt2 := List.idxOf_lt_length_of_mem hvo
    rw [List.length_take]
    omega
end
end Go.Proofs.Ytdekelhmneeniaa.T
namespace Go.Proofs.Ytdekelhmneeniaa.P11
open Go Go.SX
def eN (n : Int) (l : List (Int × Int)) (a b : Nat) : Prop := a < bN n ∧ b < bN n ∧ ((a : Int), (b : Int)) ∈ l
abbrev RR (n : Int) (l : List (Int × Int)) := T.Reach (eN n l)
open Classical in
noncomputable def rB (n : Int) (l : List (Int × Int)) (a b : Nat) : Bool := decide (RR n l a b)
theorem rB_iff {n : Int} {l : List (Int × Int)} {a b : Nat} : rB n l a b = true ↔ RR n l a b := by simp [rB]
noncomputable def fromL (n : Int) (l : List (Int × Int)) (a : Int) : List Bool := if isT n a then (List.range (bN n)).map (rB n l a.toNat) else List.replicate (bN n) false
structure Part (n : Int) (l : List (Int × Int)) (a : Nat) (out : List Bool) : Prop where
  len : out.length = bN n
  lt : a < bN n
  own : out.getD a false = true
  only : ∀ v : Nat, out.getD v false = true → RR n l a v
theorem reach_closed {n : Int} {l : List (Int × Int)} {S : Nat → Prop} (hc : ∀ u v, eN n l u v → S u → S v) {a v : Nat} (h : RR n l a v) (ha : S a) : S v := by
  induction h with
  | refl => exact ha
  | step _ e ih => exact hc _ _ e ih
theorem Part.eq {n : Int} {l : List (Int × Int)} {a : Nat} {out : List Bool} (h : Part n l a out) (hc : ∀ u v : Nat, eN n l u v → out.getD u false = true → out.getD v false = true) : out = fromL n l a := by
  have hT : isT n a = true := (isT_iff _ _).2 ⟨by omega, by have := h.lt; omega⟩
  unfold fromL
  rw [if_pos hT]
  apply List.ext_getElem
  · simp [h.len]
  · intro i h1 h2
    have e : out.getD i false = out[i] := by simp [h1]
    rw [← e]
    simp only [List.getElem_map, List.getElem_range]
    rw [Bool.eq_iff_iff, rB_iff]
    exact ⟨h.only i, fun hr => reach_closed (S := fun v => out.getD v false = true) hc hr h.own⟩
theorem Part.start {n : Int} {l : List (Int × Int)} {a : Nat} (h : a < bN n) : Part n l a ((List.replicate (bN n) false).set a true) where
  len := by simp
  lt := h
  own := by simp [h]
  only v hv := by
    by_cases e : v = a
    · subst e; exact .refl _
    · simp [List.getD_eq_getElem?_getD, List.getElem?_set_ne (Ne.symm e), List.getElem?_replicate] at hv
      split at hv <;> simp at hv
theorem Part.more {n : Int} {l : List (Int × Int)} {a : Nat} {out : List Bool} (h : Part n l a out) {u v : Nat} (hu : out.getD u false = true) (e : eN n l u v) : Part n l a (out.set v true) where
  len := by simp [h.len]
  lt := h.lt
  own := by
    by_cases e2 : v = a
    · subst e2; simp [h.len, h.lt]
    · simp only [List.getD_eq_getElem?_getD, List.getElem?_set_ne e2]; simpa [List.getD_eq_getElem?_getD] using h.own
  only w hw := by
    by_cases e2 : w = v
    · subst e2; exact .step (h.only u hu) e
    · exact h.only w (by simp only [List.getD_eq_getElem?_getD, List.getElem?_set_ne (Ne.symm e2)] at hw ⊢; exact hw)
def unset (out : List Bool) : Nat := out.count false
theorem unset_set {out : List Bool} {v : Nat} (hv : v < out.length) (h : out[v] = false) : unset (out.set v true) + 1 = unset out := by
  have h1 : 0 < out.count false := List.count_pos_iff.2 (h ▸ List.getElem_mem hv)
  unfold unset
  rw [List.count_set hv]
  simp [h]
  omega
end Go.Proofs.Ytdekelhmneeniaa.P11
