/- Parts of a symbolic execution and of walks by it, for the statements of this seat: SxO, SxN, SxP, SxRx, SxY. -/
import Derived.Test.YtdekelhmneeniaaQb2
import Derived.Lib.Overlaps
import Derived.Lib.SliceRun
import Derived.Laws.StructEq
import Derived.ChangeShapes
import Derived.OpenShut
import Derived.ChangeArms
import Derived.ChangeSame
import Derived.Lib.SmallJoins
set_option linter.unusedVariables false
set_option linter.unusedSimpArgs false
namespace Go.SX
open Go
def ownAt : AV → Option (Nat × Nat × Nat × Nat)
  | .own b sz lo n => some (b, sz, lo, n)
  | .ownc b sz lo n _ => some (b, sz, lo, n)
  | _ => none
def asOwn : AV → AV
  | .ownc b sz lo n _ => .own b sz lo n
  | x => x
section
variable {P : Program} {c : Ctx} {nt : Nat} {st : St} {ρ : Map} {a : Act} {w : World} {o : Oper}
theorem VRel.asOwn {Own : Nat → Prop} {x : AV} {v : Value} (h : VRel w Own ρ x v) : VRel w Own ρ (asOwn x) v := by
  cases x <;> first | exact h | skip
  obtain ⟨k, o, h1, rfl, h2, h3⟩ := h.ownc_inv
  exact .own h1 h2 h3
theorem VRel.at_ {Own : Nat → Prop} {x : AV} {v : Value} {b sz lo n : Nat} (h : VRel w Own ρ x v) (hx : ownAt x = some (b, sz, lo, n)) (hn : 0 < n) :
    ∃ k o cap, ρ b = some (k, o) ∧ v = .slice (some ⟨k, o + lo * sz, none⟩) n cap ∧ n ≤ cap ∧ ∀ cur ty fr, w.heap[k]? = some (.cells cur ty fr) → o + (lo + cap) * sz ≤ cur.size := by
  cases x <;> simp only [ownAt] at hx <;> try (cases hx; done)
  · injection hx with hx; injection hx with h1 hx; injection hx with h2 hx; injection hx with h3 h4
    subst h1; subst h2; subst h3; subst h4
    rcases h.own_inv with ⟨_, _, h0⟩ | ⟨_, _, h0, _⟩ | ⟨k, o, cap, hρ, hv, hn, hr⟩
    · omega
    · omega
    · exact ⟨k, o, cap, hρ, hv, hn, hr⟩
  · injection hx with hx; injection hx with h1 hx; injection hx with h2 hx; injection hx with h3 h4
    subst h1; subst h2; subst h3; subst h4
    obtain ⟨k, o, h1, h2, h3, h4⟩ := h.ownc_inv
    exact ⟨k, o, _, h1, h2, h3, h4⟩
theorem isB_spec {b : Builtin} {xs : List Src} (h : isB b o xs = true) : ∃ cl, o.op = .call cl ∧ cl.callee = .builtin b ∧ okL cl.args.toList xs = true ∧ ∀ i, argT o i = cl.argTypes[i]? := by
  unfold isB at h
  split at h <;> try (cases h; done)
  rename_i cl ho
  simp only [Bool.and_eq_true] at h
  obtain ⟨h1, h2⟩ := h
  split at h1 <;> try (cases h1; done)
  rename_i b' hb
  simp only [beq_iff_eq] at h1
  subst h1
  exact ⟨cl, ho, hb, h2, fun i => by unfold argT; rw [ho]⟩
theorem okL1 {l : List Operand} {x : Src} (h : okL l [x] = true) : ∃ y, l = [y] ∧ srcOK y x = true := by
  match l, h with
  | [p], h => simp only [okL, Bool.and_eq_true] at h; exact ⟨p, rfl, h.1⟩
  | [], h => simp [okL] at h
  | p :: q :: r, h => simp [okL] at h
theorem okL2 {l : List Operand} {x y : Src} (h : okL l [x, y] = true) : ∃ p q, l = [p, q] ∧ srcOK p x = true ∧ srcOK q y = true := by
  match l, h with
  | [p, q], h => simp only [okL, Bool.and_eq_true] at h; exact ⟨p, q, rfl, h.1, h.2.1⟩
  | [], h => simp [okL] at h
  | [p], h => simp [okL] at h
  | p :: q :: r :: s, h => simp [okL] at h
theorem isSliceOf_spec {t : Option TypeId} {ty : TypeId} (h : isSliceOf P t ty = true) : ∃ t', t = some t' ∧ P.underlying t' = some (.slice ty) := by
  unfold isSliceOf at h
  split at h <;> try (cases h; done)
  rename_i t'
  split at h <;> try (cases h; done)
  rename_i e he
  simp only [beq_iff_eq] at h
  subst h
  exact ⟨t', rfl, he⟩
theorem sized_spec {ty : TypeId} {sz bytes : Nat} {zero : Bool} (h : sized P ty sz bytes zero = true) : ∃ i, P.info? ty = some i ∧ i.size = sz ∧ i.bytes = bytes ∧ 0 < sz ∧ 0 < bytes ∧ (zero = true → ∃ z, i.zero = some z ∧ z.cells.size = sz ∧ ∀ u ∈ z.cells.toList, one u = true) := by
  unfold sized at h
  split at h <;> try (cases h; done)
  rename_i i hi
  simp only [Bool.and_eq_true, beq_iff_eq, bne_iff_ne, Bool.or_eq_true, Bool.not_eq_true'] at h
  obtain ⟨⟨⟨⟨h1, h2⟩, h3⟩, h4⟩, h5⟩ := h
  refine ⟨i, hi, h1, h2, by omega, by omega, fun hz => ?_⟩
  rcases h5 with h5 | h5
  · rw [hz] at h5; cases h5
  · split at h5 <;> try (cases h5; done)
    rename_i z hzz
    simp only [Bool.and_eq_true, beq_iff_eq] at h5
    exact ⟨z, hzz, h5.1, List.all_eq_true.1 h5.2⟩
theorem own_cells (h : Conc c st ρ a w) {b ty sz lo m k o' : Nat} {es : List (List AV)} (hb : look st.mem b = some (.arr ty sz es)) (hρ : ρ b = some (k, o')) (hlo : lo + m ≤ es.length) (hs : 0 < sz) :
    ∃ news : List Value, news.length = m * sz ∧ (∀ w' : World, w'.heap = w.heap → (loadCells ⟨k, o' + lo * sz, none⟩ (m * sz)).run P w' = .ok news.toArray w') ∧
      (∀ u ∈ news, one u = true) ∧ (∀ e ∈ (es.drop lo).take m, e.length = sz) ∧ ∀ i j x, cellAt ((es.drop lo).take m) i j = some x → ∃ u, news[i * sz + j]? = some u ∧ TRel w (OwnBy c.A ρ) x u := by
  have hB := h.mem b _ hb
  simp only [BRel, hρ] at hB
  obtain ⟨cur, hh, hlen, hsz, hcell⟩ := hB
  have hmul : (lo + m) * sz ≤ es.length * sz := Nat.mul_le_mul_right sz hlo
  rw [Nat.add_mul] at hmul
  have hnl : ((cur.toList.drop (o' + lo * sz)).take (m * sz)).length = m * sz := by simp; omega
  have hat : ∀ p, p < m * sz → ((cur.toList.drop (o' + lo * sz)).take (m * sz))[p]? = cur[o' + lo * sz + p]? := fun p hp => by
    rw [List.getElem?_take_of_lt hp, List.getElem?_drop]; simp
  have hpart : ∀ i j x, cellAt ((es.drop lo).take m) i j = some x → i < m ∧ j < sz ∧ cellAt es (lo + i) j = some x := by
    intro i j x hx
    simp only [cellAt] at hx ⊢
    obtain ⟨e, he, hj⟩ := Option.bind_eq_some_iff.1 hx
    have hin : i < m := by
      rcases Nat.lt_or_ge i m with h1 | h1
      · exact h1
      · rw [List.getElem?_eq_none (by simp; omega)] at he; cases he
    rw [List.getElem?_take_of_lt hin, List.getElem?_drop] at he
    have hl := hlen e (List.mem_of_getElem? he)
    refine ⟨hin, ?_, by rw [he]; exact hj⟩
    rcases Nat.lt_or_ge j e.length with h1 | h1
    · omega
    · rw [List.getElem?_eq_none h1] at hj; cases hj
  refine ⟨(cur.toList.drop (o' + lo * sz)).take (m * sz), hnl, fun w' hw' => ?_, fun u hu => ?_, fun e he => hlen e (List.mem_of_mem_drop (List.mem_of_mem_take he)), fun i j x hx => ?_⟩
  · have := run_loadCells_list (P := P) w' ⟨k, o' + lo * sz, none⟩ ((cur.toList.drop (o' + lo * sz)).take (m * sz)) (fun j v hv => by
      have hj : j < m * sz := by
        rcases Nat.lt_or_ge j (m * sz) with h1 | h1
        · exact h1
        · rw [List.getElem?_eq_none (by omega)] at hv; cases hv
      rw [hat j hj] at hv
      rw [add_none]
      simp only [World.cell?, hw', hh]
      rw [if_neg (by simp), hv])
    rw [hnl] at this
    exact this
  · obtain ⟨p, hp, rfl⟩ := List.mem_iff_getElem.1 hu
    rw [hnl] at hp
    have hdiv : p / sz < m := Nat.div_lt_of_lt_mul (by rwa [Nat.mul_comm])
    have hmod : p % sz < sz := Nat.mod_lt _ hs
    have hi : lo + p / sz < es.length := by omega
    have hl := hlen _ (List.getElem_mem hi)
    obtain ⟨v, hv, h1, _⟩ := hcell (lo + p / sz) (p % sz) _ (show cellAt es (lo + p / sz) (p % sz) = some ((es[lo + p / sz])[p % sz]'(by omega)) by simp only [cellAt, List.getElem?_eq_getElem hi, Option.bind_some]; exact List.getElem?_eq_getElem (by omega))
    have h2 := hat p hp
    have hpp : p / sz * sz + p % sz = p := by rw [Nat.mul_comm]; exact Nat.div_add_mod p sz
    rw [show o' + ((lo + p / sz) * sz + p % sz) = o' + lo * sz + p from by rw [Nat.add_mul]; omega, ← h2, List.getElem?_eq_getElem (by omega)] at hv
    injection hv with hv
    rw [hv]; exact h1
  · obtain ⟨hi, hj, hx'⟩ := hpart i j x hx
    obtain ⟨u, hu, _, ht⟩ := hcell _ _ _ hx'
    have hle : (i + 1) * sz ≤ m * sz := Nat.mul_le_mul_right sz hi
    rw [Nat.add_mul, Nat.one_mul] at hle
    exact ⟨u, by rw [hat _ (by omega), ← hu]; congr 1; rw [Nat.add_mul]; omega, ht⟩
theorem Conc.over (h : Conc c st ρ a w) {b ty sz lo k o' : Nat} {es ys : List (List AV)} (hb : look st.mem b = some (.arr ty sz es)) (hρ : ρ b = some (k, o')) (hs : 0 < sz) (hlo : lo ≤ es.length) (hys : ∀ e ∈ ys, e.length = sz)
    {cur : Array Value} {tyb : TypeId} (hh : w.heap[k]? = some (.cells cur tyb (0, 0))) (hfit : o' + (lo + ys.length) * sz ≤ cur.size) {news : List Value} (hnl : news.length = ys.length * sz) (h1 : ∀ u ∈ news, one u = true)
    (hcell : ∀ i j x, cellAt ys i j = some x → ∃ u, news[i * sz + j]? = some u ∧ TRel w (OwnBy c.A ρ) x u) :
    Conc c { st with mem := upd st.mem b (.arr ty sz (es.take lo ++ ys ++ es.drop (lo + ys.length))) } ρ a (w.setRow k (cur.toList.take (o' + lo * sz) ++ news ++ cur.toList.drop (o' + lo * sz + news.length)).toArray) := by
  have hB := h.mem b _ hb
  simp only [BRel, hρ] at hB
  obtain ⟨cur2, hh2, hlen, hsz, hcell0⟩ := hB
  have hc2 : cur2 = cur ∧ tyb = ty := by rw [hh] at hh2; injection hh2 with hh2; injection hh2 with h1 h2 _; exact ⟨h1.symm, h2⟩
  obtain ⟨rfl, rfl⟩ := hc2
  rw [Nat.add_mul] at hfit
  have hsplice := splice_get cur2.toList (o' + lo * sz) news (by simp; omega)
  have hget : ∀ p, ((cur2.toList.take (o' + lo * sz) ++ news ++ cur2.toList.drop (o' + lo * sz + news.length)).toArray)[p]? = if o' + lo * sz ≤ p ∧ p < o' + lo * sz + news.length then news[p - (o' + lo * sz)]? else cur2[p]? := by
    intro p; have := hsplice p; simpa using this
  have hszc : ((cur2.toList.take (o' + lo * sz) ++ news ++ cur2.toList.drop (o' + lo * sz + news.length)).toArray).size = cur2.size := by simp; omega
  generalize (cur2.toList.take (o' + lo * sz) ++ news ++ cur2.toList.drop (o' + lo * sz + news.length)).toArray = cur' at hget hszc
  have hset := setRow_get w k cur2 cur' tyb _ hh
  refine h.write hb hρ hh hset hszc (fun k' hk' => setRow_far w k cur' k' hk') (setRow_size w k cur') rfl rfl ⟨rfl, by first | exact Nat.le_refl _ | exact Nat.le_succ _⟩ (fun hk => ?_)
  simp only [BRel, hρ]
  have hlt : (es.take lo ++ ys ++ es.drop (lo + ys.length)).length = max es.length (lo + ys.length) := by simp; omega
  refine ⟨cur', hset, fun e he => ?_, ?_, fun i j x hx => ?_⟩
  · rcases List.mem_append.1 he with he | he
    · rcases List.mem_append.1 he with he | he
      · exact hlen e (List.mem_of_mem_take he)
      · exact hys e he
    · exact hlen e (List.mem_of_mem_drop he)
  · rw [hlt, hszc]
    rcases Nat.le_total es.length (lo + ys.length) with h2 | h2
    · rw [Nat.max_eq_right h2, Nat.add_mul]; omega
    · rw [Nat.max_eq_left h2]; exact hsz
  · obtain ⟨e, he, hj⟩ := Option.bind_eq_some_iff.1 hx
    have hel : e.length = sz := by
      have := List.mem_of_getElem? he
      rcases List.mem_append.1 this with h2 | h2
      · rcases List.mem_append.1 h2 with h2 | h2
        · exact hlen e (List.mem_of_mem_take h2)
        · exact hys e h2
      · exact hlen e (List.mem_of_mem_drop h2)
    have hjs : j < sz := by
      rcases Nat.lt_or_ge j e.length with h2 | h2
      · omega
      · rw [List.getElem?_eq_none h2] at hj; cases hj
    have htl : (es.take lo).length = lo := by simp; omega
    by_cases hi1 : i < lo
    · rw [List.append_assoc, List.getElem?_append_left (by omega), List.getElem?_take_of_lt hi1] at he
      obtain ⟨u, hu, h1u, htu⟩ := hcell0 i j x (by simp [cellAt, he, hj])
      have hle : (i + 1) * sz ≤ lo * sz := Nat.mul_le_mul_right sz hi1
      rw [Nat.add_mul, Nat.one_mul] at hle
      exact ⟨u, by rw [hget, if_neg (by omega)]; exact hu, h1u, htu.keep hk.toKeeps⟩
    · by_cases hi2 : i < lo + ys.length
      · rw [List.append_assoc, List.getElem?_append_right (by omega), htl, List.getElem?_append_left (by omega)] at he
        obtain ⟨u, hu, htu⟩ := hcell (i - lo) j x (by simp [cellAt, he, hj])
        have hle : (i - lo + 1) * sz ≤ ys.length * sz := Nat.mul_le_mul_right sz (by omega)
        rw [Nat.add_mul, Nat.one_mul] at hle
        have hil : i * sz = lo * sz + (i - lo) * sz := by rw [← Nat.add_mul]; congr 1; omega
        refine ⟨u, ?_, h1 u (List.mem_of_getElem? hu), htu.keep hk.toKeeps⟩
        rw [hget, if_pos (by omega), ← hu]
        congr 1; omega
      · rw [List.getElem?_append_right (by simp; omega)] at he
        simp only [List.length_append, htl, List.getElem?_drop] at he
        rw [show lo + ys.length + (i - (lo + ys.length)) = i from by omega] at he
        obtain ⟨u, hu, h1u, htu⟩ := hcell0 i j x (by simp [cellAt, he, hj])
        have hle : (lo + ys.length) * sz ≤ i * sz := Nat.mul_le_mul_right sz (by omega)
        rw [Nat.add_mul] at hle
        exact ⟨u, by rw [hget, if_neg (by omega)]; exact hu, h1u, htu.keep hk.toKeeps⟩
theorem extK_copy {X : Nat → Prop} {ty sz bytes : Nat} {x y : Src} {d : Option Nat} {k : St → Prop} {p q : AV} {b lo n b2 lo2 n2 m tya tyb : Nat} {es es2 : List (List AV)} (hx : st.src x = some p) (hp : ownAt p = some (b, sz, lo, n)) (hy : st.src y = some q) (hq : ownAt q = some (b2, sz, lo2, n2))
    (hb : look st.mem b = some (.arr tya sz es)) (hb2 : look st.mem b2 = some (.arr tyb sz es2)) (hm : m = min n2 n) (hm0 : 0 < m) (hlo : lo ≤ es.length) (hlo2 : lo2 + m ≤ es2.length) (hX : X b)
    (hk : k (St.put? { st with mem := upd st.mem b (.arr tya sz (es.take lo ++ (es2.drop lo2).take m ++ es.drop (lo + m))) } d (iv m))) : ExtK P c nt X 1 [ty, sz, bytes] [x, y] d st k := by
  intro o ρ a w h _ hc hd hlt
  simp only [chkExt, Bool.and_eq_true] at hc
  obtain ⟨⟨h1, h2⟩, h3⟩ := hc
  obtain ⟨cl, ho, hcal, hargs, hat⟩ := isB_spec h1
  rw [hat] at h2
  obtain ⟨t, ht, hu⟩ := isSliceOf_spec h2
  obtain ⟨i, hi, hisz, _, hs0, _, _⟩ := sized_spec h3
  obtain ⟨p', q', hl, hp', hq'⟩ := okL2 hargs
  have hargs' : cl.args = #[p', q'] := by rw [← Array.toList_inj]; exact hl
  obtain ⟨k1, o1, c1, hρ1, hv1, hn1, hr1⟩ := (h.srcs _ _ _ hp' hx).at_ hp (by omega)
  obtain ⟨k2, o2, c2, hρ2, hv2, hn2, hr2⟩ := (h.srcs _ _ _ hq' hy).at_ hq (by omega)
  obtain ⟨news, hnl, hload, hone, hel, hcell⟩ := own_cells (P := P) h hb2 hρ2 hlo2 hs0
  have hB := h.mem b _ hb
  simp only [BRel, hρ1] at hB
  obtain ⟨cur, hh, _, hsc, _⟩ := hB
  have hfit0 := hr1 _ _ _ hh
  have hys : ((es2.drop lo2).take m).length = m := by simp; omega
  have hcapm : (lo + m) * sz ≤ (lo + c1) * sz := Nat.mul_le_mul_right sz (by omega)
  have hfx : o1 + lo * sz + m * sz ≤ cur.size := by simp only [Nat.add_mul] at hcapm hfit0; omega
  have hst := run_storeCells_at (P := P) k1 (o1 + lo * sz) tya news 0 cur w hh (by omega) (fun v hv => oneCell_of (hone v hv))
  simp only [Nat.add_zero] at hst
  have hov := h.over hb hρ1 hs0 hlo hel hh (by rw [hys, Nat.add_mul]; omega) (by rw [hys]; exact hnl) hone hcell
  rw [hys] at hov
  have hlw := hload w rfl
  refine ⟨_, .value (.int .i64 m), _, ρ, .int .i64 m, ?_, .inl rfl, hov.put? (d := o.dst) (fun q hq => hlt q (by rw [← hd]; exact hq)) (.tree (.lit rfl)), by rw [hd]; exact hk, by rw [setRow_size]; exact Nat.le_refl _, fun q hq hno => setRow_far w k1 _ q (by rintro rfl; exact hno b o1 hX hρ1), fun b' q o' hb' => .inl hb'⟩
  have hmin : Nat.min n2 n = m := hm.symm
  simp [execOp, ho, resolve, hcal, hargs', invoke, builtin, hv1, hv2, Builtin.copy_, ht, und hu, Builtin.lenOf, Builtin.firstCells, szOf hi, hisz, hmin, hlw, hst, goInt]
theorem extK_clear {X : Nat → Prop} {ty sz bytes : Nat} {x : Src} {d : Option Nat} {k : St → Prop} {p : AV} {b lo n tya : Nat} {es : List (List AV)} (hx : st.src x = some p) (hp : ownAt p = some (b, sz, lo, n)) (hn0 : 0 < n)
    (hb : look st.mem b = some (.arr tya sz es)) (hX : X b) (hk : k (St.put? { st with mem := upd st.mem b (.arr tya sz (es.take lo)) } d (.tup []))) : ExtK P c nt X 2 [ty, sz, bytes] [x] d st k := by
  intro o ρ a w h _ hc hd hlt
  simp only [chkExt, Bool.and_eq_true] at hc
  obtain ⟨⟨h1, h2⟩, h3⟩ := hc
  obtain ⟨cl, ho, hcal, hargs, hat⟩ := isB_spec h1
  rw [hat] at h2
  obtain ⟨t, ht, hu⟩ := isSliceOf_spec h2
  obtain ⟨i, hi, hisz, _, hs0, _, hz⟩ := sized_spec h3
  obtain ⟨z, hz, hzs, hz1⟩ := hz rfl
  obtain ⟨p', hl, hp'⟩ := okL1 hargs
  have hargs' : cl.args = #[p'] := by rw [← Array.toList_inj]; exact hl
  obtain ⟨k1, o1, c1, hρ1, hv1, hn1, hr1⟩ := (h.srcs _ _ _ hp' hx).at_ hp hn0
  have hB := h.mem b _ hb
  simp only [BRel, hρ1] at hB
  obtain ⟨cur, hh, hlen, hsc, hcell⟩ := hB
  have hfit0 := hr1 _ _ _ hh
  have hcapm : (lo + n) * sz ≤ (lo + c1) * sz := Nat.mul_le_mul_right sz (by omega)
  have hzl : (Builtin.zeroCells z.cells n).toList.length = n * sz := by rw [Array.length_toList, size_zeroCells, hzs]
  have hfx : o1 + lo * sz + n * sz ≤ cur.size := by simp only [Nat.add_mul] at hcapm hfit0; omega
  have hst := run_storeCells_at (P := P) k1 (o1 + lo * sz) tya (Builtin.zeroCells z.cells n).toList 0 cur w hh (by omega) (fun v hv => oneCell_of (by
    simp only [Builtin.zeroCells, Array.toList_map, List.mem_map] at hv
    obtain ⟨q, hq, rfl⟩ := hv
    refine hz1 _ ?_
    have hlt : q % z.cells.size < z.cells.size := Nat.mod_lt _ (by omega)
    rw [getElem!_pos z.cells (q % z.cells.size) hlt]
    exact Array.getElem_mem_toList hlt))
  simp only [Nat.add_zero] at hst
  generalize hnews : (Builtin.zeroCells z.cells n).toList = news at hst hzl
  have hsplice := splice_get cur.toList (o1 + lo * sz) news (by simp; omega)
  have hget : ∀ p, ((cur.toList.take (o1 + lo * sz) ++ news ++ cur.toList.drop (o1 + lo * sz + news.length)).toArray)[p]? = if o1 + lo * sz ≤ p ∧ p < o1 + lo * sz + news.length then news[p - (o1 + lo * sz)]? else cur[p]? := by
    intro p; have := hsplice p; simpa using this
  have hszc : ((cur.toList.take (o1 + lo * sz) ++ news ++ cur.toList.drop (o1 + lo * sz + news.length)).toArray).size = cur.size := by simp; omega
  generalize (cur.toList.take (o1 + lo * sz) ++ news ++ cur.toList.drop (o1 + lo * sz + news.length)).toArray = cur' at hget hszc hst
  have hset := setRow_get w k1 cur cur' tya _ hh
  have hw := h.write (blk := .arr tya sz (es.take lo)) hb hρ1 hh hset hszc (fun k' hk' => setRow_far w k1 cur' k' hk') (setRow_size w k1 cur') rfl rfl ⟨rfl, by first | exact Nat.le_refl _ | exact Nat.le_succ _⟩ (fun hk => by
    simp only [BRel, hρ1]
    refine ⟨cur', hset, fun e he => hlen e (List.mem_of_mem_take he), ?_, fun i j x hx => ?_⟩
    · rw [hszc]
      have : (es.take lo).length * sz ≤ es.length * sz := Nat.mul_le_mul_right _ (by simp; omega)
      omega
    · obtain ⟨e, he, hj⟩ := Option.bind_eq_some_iff.1 hx
      have hil : i < lo := by
        rcases Nat.lt_or_ge i lo with h1 | h1
        · exact h1
        · rw [List.getElem?_eq_none (by simp; omega)] at he; cases he
      rw [List.getElem?_take_of_lt hil] at he
      have hel := hlen e (List.mem_of_getElem? he)
      have hjs : j < sz := by
        rcases Nat.lt_or_ge j e.length with h2 | h2
        · omega
        · rw [List.getElem?_eq_none h2] at hj; cases hj
      obtain ⟨u, hu, h1u, htu⟩ := hcell i j x (by simp [cellAt, he, hj])
      have hle : (i + 1) * sz ≤ lo * sz := Nat.mul_le_mul_right sz hil
      rw [Nat.add_mul, Nat.one_mul] at hle
      exact ⟨u, by rw [hget, if_neg (by omega)]; exact hu, h1u, htu.keep hk.toKeeps⟩)
  refine ⟨_, .value (.tuple #[]), _, ρ, .tuple #[], ?_, .inl rfl, hw.put? (d := o.dst) (fun q hq => hlt q (by rw [← hd]; exact hq)) undef_rel, by rw [hd]; exact hk, by rw [setRow_size]; exact Nat.le_refl _, fun q hq hno => setRow_far w k1 _ q (by rintro rfl; exact hno b o1 hX hρ1), fun b' q o' hb' => .inl hb'⟩
  have hnz : ¬ n = 0 := by omega
  obtain ⟨n', rfl⟩ : ∃ n', n = n' + 1 := ⟨n - 1, by omega⟩
  simp [execOp, ho, resolve, hcal, hargs', invoke, builtin, hv1, Builtin.clear_, ht, und hu, zeroValue, typeInfo, hi, hz, hnews, hst]
theorem extK_appendRoom {X : Nat → Prop} {ty sz bytes : Nat} {x y : Src} {d : Option Nat} {k : St → Prop} {q : AV} {b lo n cap tya : Nat} {es ys : List (List AV)} (hx : st.src x = some (.ownc b sz lo n cap)) (hy : st.src y = some q) (hq : rowOf st (asOwn q) = some ys) (hqs : ys = [] ∨ rowSz (asOwn q) = some sz)
    (hb : look st.mem b = some (.arr tya sz es)) (hroom : n + ys.length ≤ cap) (hlo : lo + n ≤ es.length) (hX : X b)
    (hk : k (St.put? { st with mem := upd st.mem b (.arr tya sz (es.take (lo + n) ++ ys ++ es.drop (lo + n + ys.length))) } d (.ownc b sz lo (n + ys.length) cap))) : ExtK P c nt X 4 [ty, sz, bytes] [x, y] d st k := by
  intro o ρ a w h _ hc hd hlt
  simp only [chkExt, Bool.and_eq_true] at hc
  obtain ⟨⟨⟨h1, h2⟩, h3⟩, h4⟩ := hc
  obtain ⟨cl, ho, hcal, hargs, hat⟩ := isB_spec h1
  rw [hat] at h2 h4
  obtain ⟨t, ht, hu⟩ := isSliceOf_spec h2
  obtain ⟨t', ht', hu'⟩ := isSliceOf_spec h4
  obtain ⟨i, hi, hisz, _, hs0, _, _⟩ := sized_spec h3
  obtain ⟨p', q', hl, hp', hq'⟩ := okL2 hargs
  have hargs' : cl.args = #[p', q'] := by rw [← Array.toList_inj]; exact hl
  obtain ⟨k1, o1, hρ1, hv1, hn1, hr1⟩ := (h.srcs _ _ _ hp' hx).ownc_inv
  obtain ⟨A2, c2, hv2, hylen, news, hnl, hnrun, hncell⟩ := row_cells (P := P) h hs0 (h.srcs _ _ _ hq' hy).asOwn hq hqs
  have hone : ∀ u ∈ news, one u = true := by
    intro u hu
    obtain ⟨p, hp, rfl⟩ := List.mem_iff_getElem.1 hu
    have hdiv : p / sz < ys.length := Nat.div_lt_of_lt_mul (by rw [Nat.mul_comm]; omega)
    have hmod : p % sz < sz := Nat.mod_lt _ hs0
    have hlen := hylen _ (List.getElem_mem hdiv)
    obtain ⟨u, hu, h1, _⟩ := hncell (p / sz) (p % sz) _ (show cellAt ys (p / sz) (p % sz) = some ((ys[p / sz])[p % sz]'(by omega)) by simp only [cellAt, List.getElem?_eq_getElem hdiv, Option.bind_some]; exact List.getElem?_eq_getElem (by omega))
    rw [show p / sz * sz + p % sz = p from by rw [Nat.mul_comm]; exact Nat.div_add_mod p sz, List.getElem?_eq_getElem hp] at hu
    injection hu with hu; rw [hu]; exact h1
  have hB := h.mem b _ hb
  simp only [BRel, hρ1] at hB
  obtain ⟨cur, hh, _, hsc, _⟩ := hB
  have hfit0 := hr1 _ _ _ hh
  have hcapm : (lo + (n + ys.length)) * sz ≤ (lo + cap) * sz := Nat.mul_le_mul_right sz (by omega)
  have hfit : o1 + (lo + n + ys.length) * sz ≤ cur.size := by rw [show lo + n + ys.length = lo + (n + ys.length) from by omega]; omega
  have hr := run_append_room (P := P) (ty := o.type) (off := o1 + lo * sz) (n := n) (cap := cap) hu hu' hi hv2 (news := news) (by rw [hisz]; exact hnl) (by rw [hisz]; exact hnrun w rfl) hone hroom hh (by rw [hisz]; simp only [Nat.add_mul] at hfit; omega) cl.argTypes ht ht'
  rw [hisz, show o1 + lo * sz + n * sz = o1 + (lo + n) * sz from by rw [Nat.add_mul]; omega] at hr
  have hov := h.over hb hρ1 hs0 hlo hylen hh hfit hnl hone (fun i j x hx => by obtain ⟨u, hu, _, ht⟩ := hncell i j x hx; exact ⟨u, hu, ht⟩)
  refine ⟨_, .value _, _, ρ, _, ?_, .inl rfl, hov.put? (d := o.dst) (fun q hq => hlt q (by rw [← hd]; exact hq)) (x := .ownc b sz lo (n + ys.length) cap) (.ownc hρ1 hroom (fun cur1 ty1 fr1 hh1 => ?_)), by rw [hd]; exact hk, by rw [setRow_size]; exact Nat.le_refl _, fun q hq hno => setRow_far w k1 _ q (by rintro rfl; exact hno b o1 hX hρ1), fun b' q o' hb' => .inl hb'⟩
  · simp [execOp, ho, resolve, hcal, hargs', invoke, builtin, hv1, hr]
  · rw [setRow_get w k1 cur _ _ _ hh] at hh1
    injection hh1 with hh1; injection hh1 with h1 _ _
    rw [← h1]
    simp only [Nat.add_mul] at hfit0 hfit ⊢
    simp; omega
theorem extK_cap {X : Nat → Prop} {x : Src} {d : Option Nat} {k : St → Prop} {b sz lo n cap : Nat} (hx : st.src x = some (.ownc b sz lo n cap)) (hk : k (st.put? d (iv cap))) : ExtK P c nt X 0 [] [x] d st k := by
  intro o ρ a w h _ hc hd hlt
  simp only [chkExt, Bool.and_eq_true] at hc
  obtain ⟨h1, h2⟩ := hc
  obtain ⟨cl, ho, hcal, hargs, hat⟩ := isB_spec h1
  rw [hat] at h2
  split at h2 <;> try (cases h2; done)
  rename_i t ht
  split at h2 <;> try (cases h2; done)
  rename_i e hu
  obtain ⟨p', hl, hp'⟩ := okL1 hargs
  have hargs' : cl.args = #[p'] := by rw [← Array.toList_inj]; exact hl
  obtain ⟨k1, o1, hρ1, hv1, hn1, hr1⟩ := (h.srcs _ _ _ hp' hx).ownc_inv
  refine ⟨_, .value (.int .i64 cap), w, ρ, .int .i64 cap, ?_, .inl rfl, h.put? (d := o.dst) (fun q hq => hlt q (by rw [← hd]; exact hq)) (.tree (.lit rfl)), by rw [hd]; exact hk, Nat.le_refl _, fun _ _ _ => rfl, fun b' q o' hb' => .inl hb'⟩
  simp [execOp, ho, resolve, hcal, hargs', invoke, builtin, hv1, Builtin.cap_, ht, und hu, goInt]
theorem extK_slice3 {X : Nat → Prop} {x l h m : Src} {d : Option Nat} {k : St → Prop} {p : AV} {b sz lo n L H M : Nat} (hx : st.src x = some p) (hp : ownAt p = some (b, sz, lo, n)) (hn : 0 < n) (hl : st.src l = some (iv L)) (hh : st.src h = some (iv H)) (hm : st.src m = some (iv M)) (h1 : L ≤ H) (h2 : H ≤ M) (h3 : M ≤ n) (hk : k (st.put? d .dead)) : ExtK P c nt X 5 [] [x, l, h, m] d st k := by
  intro o ρ a w hC _ hc hd hlt
  simp only [chkExt] at hc
  split at hc <;> try (cases hc; done)
  rename_i t y l' h' m' a' b' c' d' ho heq
  injection heq with e1 heq; injection heq with e2 heq; injection heq with e3 heq; injection heq with e4 heq
  subst e1; subst e2; subst e3; subst e4
  simp only [Bool.and_eq_true] at hc
  obtain ⟨⟨⟨⟨g1, g2⟩, g3⟩, g4⟩, g5⟩ := hc
  split at g1 <;> try (cases g1; done)
  rename_i e hu
  obtain ⟨i, hi⟩ := Option.isSome_iff_exists.1 g1
  obtain ⟨k1, o1, c1, hρ1, hv1, hn1, hr1⟩ := (hC.srcs _ _ _ g2 hx).at_ hp hn
  obtain ⟨hL, _⟩ := (hC.srcs _ _ _ g3 hl).lit_inv
  obtain ⟨hH, _⟩ := (hC.srcs _ _ _ g4 hh).lit_inv
  obtain ⟨hM, _⟩ := (hC.srcs _ _ _ g5 hm).lit_inv
  let v : Value := .slice (if M = L then some ⟨k1, o1 + lo * sz, none⟩ else (some (⟨k1, o1 + lo * sz, none⟩ : Addr)).map (·.add (L * i.size))) (H - L) (M - L)
  refine ⟨_, .value v, w, ρ, v, ?_, .inl rfl, hC.put? (d := o.dst) (fun q hq => hlt q (by rw [← hd]; exact hq)) .dead, by rw [hd]; exact hk, Nat.le_refl _, fun _ _ _ => rfl, fun b' q o' hb' => .inl hb'⟩
  · simp [v, execOp, ho, hv1, hL, hH, hM, Instr.sliceAt, Instr.slice, und hu, Instr.sliceBounds, Instr.sliceBound, asIntOf, szOf hi, h1, h2, show M ≤ c1 from by omega]
theorem extK_isnil {X : Nat → Prop} {x : Src} {d : Option Nat} {k : St → Prop} {sz : Nat} {es : List (List AV)} (hx : st.src x = some (.ro sz es)) (hk : ∀ t, (t = true → es = []) → k (st.put? d (bv t))) : ExtK P c nt X 6 [] [x] d st k := by
  intro o ρ a w h _ hc hd hlt
  simp only [chkExt] at hc
  split at hc <;> try (cases hc; done)
  rename_i t y ty2 a' ho heq
  injection heq with e1 heq; subst e1
  simp only [Bool.and_eq_true] at hc
  obtain ⟨g1, g2⟩ := hc
  split at g1 <;> try (cases g1; done)
  rename_i e hu
  obtain ⟨A, cap, hv, _, hrow⟩ := (h.srcs _ _ _ g2 hx).ro_inv
  have hA : A.isNone = true → es = [] := fun hA => by
    by_cases he : es = []
    · exact he
    · obtain ⟨ad, rfl, _⟩ := hrow he
      simp at hA
  have hrun : (binOp .eql t (.slice A es.length cap) (.slice none 0 0)).run P w = .ok (.bool A.isNone) w := Lib.run_eql_slice_nil w t e A es.length cap 0 0 hu
  have hg : ∀ q, (eqGuard .eql t y q (.slice A es.length cap) (.slice none 0 0)).run P w = .ok () w := fun q => rfl
  refine ⟨st.put? d (bv A.isNone), .value (.bool A.isNone), w, ρ, .bool A.isNone, ?_, .inl rfl, ?_, hk _ hA, Nat.le_refl _, fun _ _ _ => rfl, fun b' q o' hb' => .inl hb'⟩
  · unfold execOp
    rw [ho]
    have hc0 : a.eval (.const (.slice none 0 0)) = .slice none 0 0 := rfl
    simp only [hv, hc0, Sem.run_bind, hg, Result.andThen_ok, hrun, Sem.run_pure]
  · rw [← hd]; exact h.put? (d := o.dst) (fun q hq => hlt q (by rw [← hd]; exact hq)) (x := bv A.isNone) (.tree (.lit rfl))
theorem extK_same {X : Nat → Prop} {x y : Src} {d : Option Nat} {k : St → Prop} {t : TypeId} {vs : List Value} (hx : st.src x = some (.agg (vs.map AV.lit))) (hy : st.src y = some (.agg (vs.map AV.lit)))
    (hg : P.eqGuardType P.depth t = false) (hrun : ∀ w : World, (binOp .eql t (.agg vs.toArray) (.agg vs.toArray)).run P w = .ok (.bool true) w) (hk : k (st.put? d (bv true))) : ExtK P c nt X 8 [t] [x, y] d st k := by
  intro o ρ a w h _ hc hd hlt
  simp only [chkExt] at hc
  split at hc <;> try (cases hc; done)
  rename_i t' y' z' p' a' b' ho heq
  injection heq with e1 heq; injection heq with e2 heq; subst e1; subst e2
  simp only [Bool.and_eq_true, beq_iff_eq] at hc
  obtain ⟨⟨rfl, g1⟩, g2⟩ := hc
  have key : ∀ {u : Value}, VRel w (OwnBy c.A ρ) ρ (.agg (vs.map AV.lit)) u → u = .agg vs.toArray := fun {u} hv => by
    obtain ⟨us, hu, hul, hus⟩ := hv.agg_inv
    rw [hu]; congr 1
    apply Array.ext
    · simpa using hul.symm
    · intro i h1 h2
      have h3 : i < vs.length := by simpa using h2
      obtain ⟨e, _⟩ := (hus i (.lit vs[i]) (by simp [h3])).lit_inv
      simp [Array.getD, h1] at e
      simpa using e
  have hv1 := key (h.srcs _ _ _ g1 hx)
  have hv2 := key (h.srcs _ _ _ g2 hy)
  refine ⟨st.put? d (bv true), .value (.bool true), w, ρ, .bool true, ?_, .inl rfl, ?_, hk, Nat.le_refl _, fun _ _ _ => rfl, fun b' q o' hb' => .inl hb'⟩
  · unfold execOp
    rw [ho]
    simp only [hv1, hv2, Sem.run_bind, run_eqGuard_agg _ _ _ _ _ _ _ hg, Result.andThen_ok, hrun, Sem.run_pure]
  · rw [← hd]; exact h.put? (d := o.dst) (fun q hq => hlt q (by rw [← hd]; exact hq)) (x := bv true) (.tree (.lit rfl))
theorem run_append_zeros {t t' ty el : TypeId} {kk : IntKind} {i : TypeInfo} {z : Value} (ht : P.underlying t = some (.slice el)) (ht' : P.underlying t' = some (.int kk)) (hi : P.info? el = some i) (hz : i.zero = some z) {n cap m : Nat} {B : Option Addr}
    {olds : List Value} (holds : ∀ w' : World, w'.heap = w.heap → (Builtin.firstCells i.size n (.slice B n cap)).run P w' = .ok olds.toArray w')
    (hroom : cap < n + m) (hb : (n + m) * i.bytes ≤ 140737488355328) (hb0 : i.bytes ≠ 0) (hs0 : i.size ≠ 0) (hm : 0 < m) (ats : Array TypeId) (h0 : ats[0]? = some t) (h2 : ats[1]? = some t') :
    (Builtin.append_ ats ty #[.slice B n cap, .int .i64 m]).run P w = .ok (.slice (some ⟨w.heap.size, 0, none⟩) (n + m) (grownCap w (n + m) cap el)) (w.drew.alloc (.cells (olds.toArray ++ Builtin.zeroCells z.cells m ++ Builtin.zeroCells z.cells (grownCap w (n + m) cap el - (n + m))) el)) := by
  have hnr : ¬ (n + m ≤ cap) := by omega
  have hfit := growslice_fits hroom hb
  have hle : n + m ≤ 140737488355328 := Nat.le_trans (Nat.le_mul_of_pos_right _ (by omega)) hb
  have h63' : ¬ (9223372036854775807 < ((n : Int) + (m : Int))) := by omega
  have h48' : ¬ (281474976710656 < Builtin.nextslicecap (n + m) cap * i.bytes) := by omega
  have hw : IntKind.i64.wrap (m : Int) = m := wrap_id (by omega) (by omega)
  have hmb : m * i.bytes ≤ 140737488355328 := by have := Nat.mul_le_mul_right i.bytes (show m ≤ n + m by omega); omega
  have hm48 : ¬ ((281474976710656 : Int) < (m : Int) * (i.bytes : Int)) := by
    have h1 : ((m * i.bytes : Nat) : Int) = (m : Int) * (i.bytes : Int) := Int.natCast_mul _ _
    omega
  have hm0 : ¬ ((m : Int) < 0) := by omega
  have hfo := holds w.drew rfl
  have hms : ¬ (m * i.size = 0) := by have := Nat.mul_pos hm (Nat.pos_of_ne_zero hs0); omega
  simp [Builtin.append_, h0, h2, und ht, und ht', sizeOf, typeInfo, zeroValue, hi, hz, Builtin.lenOf, hnr, h63', h48', Question.forced, hfo, newRow, grownCap, asInt, asIntOf, hw, hm48, hm0]
  intro h; exact absurd h hms
theorem extK_appendZeros {X : Nat → Prop} {ty sz bytes id : Nat} {x y : Src} {d : Option Nat} {k : St → Prop} {b lo n cap m tya : Nat} {es : List (List AV)} (hx : st.src x = some (.ownc b sz lo n cap)) (hy : st.src y = some (iv m))
    (hb : look st.mem b = some (.arr tya sz es)) (hroom : cap < n + m) (hm : 0 < m) (hlo : lo + n ≤ es.length) (hbound : (n + m) * bytes ≤ 140737488355328) (hid : look st.mem id = none) (hfx : st.fixed.contains id = false) (hX : X id)
    (hk : k (St.put? { st with mem := upd st.mem id (.arr ty sz ((es.drop lo).take n)) } d (.own id sz 0 (n + m)))) : ExtK P c nt X 3 [ty, sz, bytes] [x, y] d st k := by
  intro o ρ a w h _ hc hd hlt
  simp only [chkExt, Bool.and_eq_true] at hc
  obtain ⟨⟨⟨h1, h2⟩, h3⟩, h4⟩ := hc
  obtain ⟨cl, ho, hcal, hargs, hat⟩ := isB_spec h1
  rw [hat] at h2 h4
  obtain ⟨t, ht, hu⟩ := isSliceOf_spec h2
  split at h4 <;> try (cases h4; done)
  rename_i t' ht'
  split at h4 <;> try (cases h4; done)
  rename_i kk hu'
  obtain ⟨i, hi, hisz, hib, hs0, hb0, hz⟩ := sized_spec h3
  obtain ⟨z, hz, hzs, hz1⟩ := hz rfl
  obtain ⟨p', q', hl, hp', hq'⟩ := okL2 hargs
  have hargs' : cl.args = #[p', q'] := by rw [← Array.toList_inj]; exact hl
  obtain ⟨k1, o1, hρ1, hv1, hn1, hr1⟩ := (h.srcs _ _ _ hp' hx).ownc_inv
  obtain ⟨hv2, _⟩ := (h.srcs _ _ _ hq' hy).lit_inv
  obtain ⟨olds, hol, hload, hone, hel, hcell⟩ := own_cells (P := P) h hb hρ1 hlo hs0
  have hρid : ρ id = none := by
    cases e : ρ id with
    | none => rfl
    | some p => obtain ⟨q, o'⟩ := p; obtain ⟨blk, hl⟩ := h.dom id q o' e; rw [hid] at hl; cases hl
  have hr := run_append_zeros (P := P) (w := w) (ty := o.type) (n := n) (cap := cap) (m := m) (B := some ⟨k1, o1 + lo * sz, none⟩) hu hu' hi hz (olds := olds) (fun w' hw' => by rw [hisz]; simpa [Builtin.firstCells] using hload w' hw') hroom (by rw [hib]; exact hbound) (by omega) (by omega) hm cl.argTypes ht ht'
  have hge := grown_ge w (n + m) cap ty
  have hys : ((es.drop lo).take n).length = n := by simp; omega
  generalize hcells : olds.toArray ++ Builtin.zeroCells z.cells m ++ Builtin.zeroCells z.cells (grownCap w (n + m) cap ty - (n + m)) = cells at hr
  have hcs : cells.size = grownCap w (n + m) cap ty * sz := by
    rw [← hcells]
    simp only [Array.size_append, List.size_toArray, size_zeroCells, hzs, hol]
    rw [← Nat.add_mul, ← Nat.add_mul]; congr 1; omega
  have hcl : ∀ p, p < n * sz → cells[p]? = olds[p]? := fun p hp => by
    rw [← hcells, Array.append_assoc, Array.getElem?_append_left (by simp; omega)]; simp
  have hnew := h.new (b := id) hfx hρid hid (blk := .arr ty sz ((es.drop lo).take n)) (w' := w.drew.alloc (.cells cells ty)) rfl rfl rfl ⟨rfl, by first | exact Nat.le_refl _ | exact Nat.le_succ _⟩ (fun hk => by
    simp only [BRel, if_true]
    refine ⟨cells, push_get w rfl, hel, ?_, fun p j x hx => ?_⟩
    · rw [hys, hcs]
      have : n * sz ≤ grownCap w (n + m) cap ty * sz := Nat.mul_le_mul_right sz (by omega)
      omega
    · obtain ⟨u, hu, htu⟩ := hcell p j x hx
      refine ⟨u, ?_, hone u (List.mem_of_getElem? hu), htu.keep hk.toKeeps⟩
      rw [Nat.zero_add, hcl, hu]
      rcases Nat.lt_or_ge (p * sz + j) (n * sz) with h' | h'
      · exact h'
      · rw [List.getElem?_eq_none (by omega)] at hu; cases hu)
  refine ⟨_, .value _, _, _, _, ?_, .inl rfl, hnew.put? (d := o.dst) (fun q hq => hlt q (by rw [← hd]; exact hq)) (x := .own id sz 0 (n + m)) (v := .slice (some ⟨w.heap.size, 0, none⟩) (n + m) (grownCap w (n + m) cap ty)) ?_, by rw [hd]; exact hk, by show w.heap.size ≤ (w.heap.push _).size; rw [Array.size_push]; omega, fun q hq hno => ?_, fun b' q o' hb' => ?_⟩
  · simp [execOp, ho, resolve, hcal, hargs', invoke, builtin, hv1, hv2, hr]
  · have := VRel.own (w := w.drew.alloc (.cells cells ty)) (Own := OwnBy c.A (fun x => if x = id then some (w.heap.size, 0) else ρ x)) (ρ := fun x => if x = id then some (w.heap.size, 0) else ρ x) (b := id) (sz := sz) (lo := 0) (n := n + m) (k := w.heap.size) (o := 0) (cap := grownCap w (n + m) cap ty) (by simp) hge (fun cur tyq fr hh => by
      rw [push_get w rfl] at hh
      injection hh with hh; injection hh with hh _ _
      rw [← hh, hcs]; simp)
    simpa using this
  · show (w.heap.push _)[q]? = _
    rw [Array.getElem?_push, if_neg (by omega)]
  · replace hb' : (if b' = id then some (w.heap.size, 0) else ρ b') = some (q, o') := hb'
    split at hb'
    · rename_i e; injection hb' with hb'; injection hb' with h1 h2; exact .inr ⟨by rw [e]; exact hX, .inl (by omega)⟩
    · exact .inl hb'
theorem extK_overlaps {X : Nat → Prop} {f : Nat} {x y : Src} {d : Option Nat} {k : St → Prop} {p q : AV} {b sz lo n b2 sz2 lo2 n2 tya tyb : Nat} {es es2 : List (List AV)} {fn : Func} {tS tR e : TypeId} (hf : P.funcs[f]? = some fn) (hname : (fn.name == "runtime.NumGoroutine") = false)
    (hbody : fn.body.isNone = true) (hnext : Extern.findNext fn = none) (he : Extern.find fn = some (Extern.SlicesOverlaps.overlaps #[tS, tS] #[tR])) (htS : P.underlying tS = some (.slice e)) (hi : (P.info? e).isSome = true)
    (hx : st.src x = some p) (hp : ownAt p = some (b, sz, lo, n)) (hy : st.src y = some q) (hq : ownAt q = some (b2, sz2, lo2, n2)) (hn : 0 < n) (hn2 : 0 < n2) (hne : b ≠ b2) (hb : look st.mem b = some (.arr tya sz es)) (hb2 : look st.mem b2 = some (.arr tyb sz2 es2)) (hs2 : 0 < sz2)
    (hk : k (st.put? d (bv false))) : ExtK P c nt X 7 [f] [x, y] d st k := by
  obtain ⟨i, hi⟩ := Option.isSome_iff_exists.1 hi
  intro o ρ a w h _ hc hd hlt
  simp only [chkExt] at hc
  split at hc <;> try (cases hc; done)
  rename_i cl ho
  simp only [Bool.and_eq_true] at hc
  obtain ⟨hc1, hargs⟩ := hc
  split at hc1 <;> try (cases hc1; done)
  rename_i f' hcal
  simp only [beq_iff_eq] at hc1
  subst hc1
  obtain ⟨p', q', hl, hp', hq'⟩ := okL2 hargs
  have hargs' : cl.args = #[p', q'] := by rw [← Array.toList_inj]; exact hl
  obtain ⟨k1, o1, c1, hρ1, hv1, hn1, hr1⟩ := (h.srcs _ _ _ hp' hx).at_ hp hn
  obtain ⟨k2, o2, c2, hρ2, hv2, hn2', hr2⟩ := (h.srcs _ _ _ hq' hy).at_ hq hn2
  have hkk : k1 ≠ k2 := by rintro rfl; exact hne (h.inj _ _ _ _ _ hρ1 hρ2)
  have hB := h.mem b _ hb
  simp only [BRel, hρ1] at hB
  obtain ⟨cur, hh, _, _, _⟩ := hB
  have hB2 := h.mem b2 _ hb2
  simp only [BRel, hρ2] at hB2
  obtain ⟨cur2, hh2, _, _, _⟩ := hB2
  have hr2' := hr2 _ _ _ hh2
  have hsz2 : cur2.size ≠ 0 := by
    have : 1 * sz2 ≤ (lo2 + c2) * sz2 := Nat.mul_le_mul_right sz2 (by omega)
    omega
  have hcallF : (callFunc f #[a.eval p', a.eval q']).run P w = .ok (.value (.bool false)) w := by
    rw [run_callFunc_extern hf hname hbody hnext he, hv1, hv2,
      Lib.run_overlaps_apart w tS tR e htS i.size (fun w' => szOf hi w') ⟨k1, o1 + lo * sz, none⟩ ⟨k2, o2 + lo2 * sz2, none⟩ n c1 n2 c2 hkk tya tyb cur.size cur2.size (by simp [World.shape?, hh]) (by simp [World.shape?, hh2]) hsz2 (by simp [World.frozen?, hh]) (by simp [World.frozen?, hh])]
    rfl
  refine ⟨_, .value (.bool false), w, ρ, .bool false, ?_, .inl rfl, h.put? (d := o.dst) (fun q hq => hlt q (by rw [← hd]; exact hq)) (.tree (.lit rfl)), by rw [hd]; exact hk, Nat.le_refl _, fun _ _ _ => rfl, fun b' q o' hb' => .inl hb'⟩
  have hev : a.eval (.func f) = .func (.func f) #[] #[] := rfl
  have : execOp a.eval o = callFunc f (#[] ++ cl.args.map a.eval ++ #[]) := by
    unfold execOp
    rw [ho]
    simp only [resolve, hcal, hev]
    rfl
  rw [this, hargs']
  simpa using hcallF
theorem runL_ext {t : Nat} {ns : List Nat} {xs : List Src} {d : Option Nat} {r : List It} {k : St → Prop} (h : ExtK P c nt (fun _ => True) t ns xs d st fun st' => runL P c nt r st' k) : runL P c nt (⟨d, none, .ext t ns xs⟩ :: r) st k := h
theorem runP_ext {X : List Nat} {i : Nat} {p : Plan} {t : Nat} {ns : List Nat} {xs : List Src} {d : Option Nat} {k : St → Prop} (h : ExtK P c nt (fun b => b ∈ X) t ns xs d st fun st' => runP P c nt X p st' k) : runP P c nt X (.alt i ⟨d, none, .ext t ns xs⟩ p .done) st k := ⟨h, trivial⟩
theorem runL_do {d : Option Nat} {ao : AOp} {r : List It} {k : St → Prop} {s : Nat} {want : Bool} (hb : look st.slots s = some (.lit (.bool want))) (h : runL P c nt (⟨d, none, ao⟩ :: r) st k) : runL P c nt (⟨d, some (s, want), ao⟩ :: r) st k := ⟨some want, by simp [gval, hb], fun _ => h, fun hne => absurd rfl hne⟩
theorem runL_skip {d : Option Nat} {ao : AOp} {r : List It} {k : St → Prop} {s : Nat} {b want : Bool} (hb : look st.slots s = some (.lit (.bool b))) (hne : b ≠ want) (h : runL P c nt r (st.put? d (.tup [])) k) : runL P c nt (⟨d, some (s, want), ao⟩ :: r) st k := ⟨some b, by simp [gval, hb], fun he => absurd (by simpa using he) hne, fun _ => h⟩
theorem runL_step {it : It} {r : List It} {st' : St} {k : St → Prop} (hc : isCall it.ao = false) (h : stepI it st = some st') (hk : runL P c nt r st' k) : runL P c nt (it :: r) st k := runI_of_step hc h (fun _ _ => trivial) hk
theorem le_own (s : Nat) (b sz lo n cap : Nat) : St.le (St.put st s (.ownc b sz lo n cap)) (St.put st s (.own b sz lo n)) := by
  intro c ρ a w _ h
  refine ⟨ρ, { h with slots := fun d x hx => ?_ }, fun _ _ _ h => h⟩
  simp only [St.put, look_upd] at hx
  split at hx
  · rename_i e; subst e
    injection hx with hx; subst hx
    have := h.slots d (.ownc b sz lo n cap) (by simp [St.put, look_upd])
    exact this.asOwn
  · exact h.slots d x (by simp only [St.put, look_upd]; rw [if_neg (by assumption)]; exact hx)
theorem J.reveal {ac : AC} {Q : Exit → St → Prop} {s b sz lo n : Nat} (hs : look st.slots s = some (.own b sz lo n)) (hn : 0 < n) (h : ∀ cap, n ≤ cap → J P nt c ac (st.put s (.ownc b sz lo n cap)) Q) : J P nt c ac st Q := by
  intro code hc r hr ρ a w hcc hsz
  rcases (hcc.slots _ _ hs).own_inv with ⟨_, _, h0⟩ | ⟨_, _, h0, _⟩ | ⟨k, o, cap, hρ, hv, hcap, hroom⟩
  · omega
  · omega
  refine h cap hcap code hc r hr ρ a w { hcc with slots := fun d x hx => ?_ } hsz
  simp only [St.put, look_upd] at hx
  split at hx
  · rename_i e; subst e
    injection hx with hx; subst hx
    rw [hv]; exact .ownc hρ hcap hroom
  · exact hcc.slots d x hx
end
end Go.SX
namespace Go.SX
open Go
def fam (base ty sz : Nat) (f : Nat → List (List AV)) (n : Nat) : Mem := (List.range n).map fun c => (base + c, .arr ty sz (f c))
theorem look_map {α : Type} (g : Nat → Nat × α) (hg : ∀ i j, (g i).1 = (g j).1 → i = j) : ∀ (l : List Nat) (c : Nat), c ∈ l → look (l.map g) (g c).1 = some (g c).2
  | x :: r, c, h => by
    rcases hgc : g x with ⟨k, v⟩
    simp only [List.map_cons, hgc, look]
    by_cases e : x = c
    · subst e; rw [hgc, if_pos rfl]
    · have hk : k ≠ (g c).1 := fun e2 => e (hg x c (by rw [hgc]; exact e2))
      rw [if_neg hk]
      rcases List.mem_cons.1 h with h | h
      · exact absurd h.symm e
      · exact look_map g hg r c h
theorem look_map_none {α : Type} (g : Nat → Nat × α) (d : Nat) : ∀ (l : List Nat), (∀ c ∈ l, (g c).1 ≠ d) → look (l.map g) d = none
  | [], _ => rfl
  | x :: r, h => by
    rcases hgc : g x with ⟨k, v⟩
    simp only [List.map_cons, hgc, look]
    rw [if_neg (by have := h x (by simp); rw [hgc] at this; exact this)]
    exact look_map_none g d r (fun c hc => h c (by simp [hc]))
theorem look_fam {base ty sz : Nat} {f : Nat → List (List AV)} {n c : Nat} (h : c < n) : look (fam base ty sz f n) (base + c) = some (.arr ty sz (f c)) :=
  look_map (fun c => (base + c, Blk.arr ty sz (f c))) (fun i j e => by simpa using e) (List.range n) c (by simpa using h)
theorem look_fam_lt {base ty sz : Nat} {f : Nat → List (List AV)} {n d : Nat} (h : d < base) : look (fam base ty sz f n) d = none :=
  look_map_none (fun c => (base + c, Blk.arr ty sz (f c))) d _ (fun c _ => by simp; omega)
theorem look_fam_ge {base ty sz : Nat} {f : Nat → List (List AV)} {n d : Nat} (h : base + n ≤ d) : look (fam base ty sz f n) d = none :=
  look_map_none (fun c => (base + c, Blk.arr ty sz (f c))) d _ (fun c hc => by simp at hc ⊢; omega)
theorem mem_fam {base ty sz : Nat} {f : Nat → List (List AV)} {n : Nat} {p : Nat × Blk} (h : p ∈ fam base ty sz f n) : ∃ c, c < n ∧ p = (base + c, .arr ty sz (f c)) := by
  obtain ⟨c, hc, rfl⟩ := List.mem_map.1 h
  exact ⟨c, by simpa using hc, rfl⟩
def famCells (base sz : Nat) (len : Nat → Nat) (n : Nat) : List AV := (List.range n).map fun c => .own (base + c) sz 0 (len c)
@[simp] theorem famCells_length (base sz : Nat) (len : Nat → Nat) (n : Nat) : (famCells base sz len n).length = n := by simp [famCells]
theorem famCells_get {base sz : Nat} {len : Nat → Nat} {n c : Nat} (h : c < n) : (famCells base sz len n)[c]? = some (.own (base + c) sz 0 (len c)) := by simp [famCells, h]
end Go.SX
namespace Go.SX
open Go Go.RowKit
section
variable {P : Program} {nt : Nat} {c : Ctx} {st : St} {Q : Exit → St → Prop}
theorem J.regJ {its : List It} {ks : List Nat} (S : St) (h : ∃ st', evalL its st = some ([], st') ∧ st'.keep ks = S) (hk : Q .normal S) : J P nt c (.reg its ks) st Q := by
  obtain ⟨st', h1, rfl⟩ := h
  exact J.regE h1 hk
theorem J.drawJ {X ks : List Nat} {p : Plan} (S : St) (h : ∃ st', evalP X p st = some (.done, st') ∧ st'.keep ks = S) (hk : Q .normal S) : J P nt c (.draw X p ks) st Q := by
  obtain ⟨st', h1, rfl⟩ := h
  exact J.drawE h1 hk
theorem le_nilrow {st : St} (d b ty : Nat) {sz : Nat} (hd : look st.slots d = some (.nils sz)) (hb : look st.mem b = none) (hf : st.fixed.contains b = false) : st.le ⟨upd st.slots d (.own b sz 0 0), upd st.mem b (.arr ty sz []), st.fixed⟩ := by
  refine St.le_trans (le_virt ty sz hb hf) (le_tell (fun d' x hx => ?_) (fun b' => .inl rfl) rfl)
  simp only [look_upd] at hx
  by_cases e : d' = d
  · subst e
    rw [if_pos rfl] at hx; injection hx with hx
    exact ⟨_, hd, .inr ⟨_, _, rfl, hx.symm⟩⟩
  · rw [if_neg e] at hx; exact ⟨x, hx, .inl rfl⟩
theorem J.nilrow {ac : AC} (hstd : c.A = c.B) (d b ty : Nat) {sz : Nat} (hd : look st.slots d = some (.nils sz)) (hb : look st.mem b = none) (hf : st.fixed.contains b = false) (h : J P nt c ac ⟨upd st.slots d (.own b sz 0 0), upd st.mem b (.arr ty sz []), st.fixed⟩ Q) : J P nt c ac st Q :=
  J.le hstd (le_nilrow d b ty hd hb hf) h
theorem J.freeze {ac : AC} (hstd : c.A = c.B) (b : Nat) (hf : st.fixed.contains b = false) (h : J P nt c ac (st.freeze b) Q) : J P nt c ac st Q := J.le hstd (le_freeze st b hf) h
end
theorem after_drawn {w w' : World} {ρ : Map} {A : Nat → Prop} (h : Below w.heap.size w w') (hM : MemOK A [] ρ w) (hdr : w.drawn ≤ w'.drawn) (hrows : ∀ k cur ty fr, k < w.heap.size → w'.heap[k]? = some (.cells cur ty fr) → ∃ cur0 ty0 fr0, w.heap[k]? = some (.cells cur0 ty0 fr0) ∧ cur0.size = cur.size) :
    MemOK A [] ρ w' ∧ After w w' ρ ρ [] := by
  have hρ : ∀ b, ρ b = none := fun b => by
    cases e : ρ b with
    | none => rfl
    | some p => obtain ⟨k, o⟩ := p; obtain ⟨blk, hl⟩ := hM.dom b k o e; simp [look] at hl
  refine ⟨{ mem := fun b blk hl => (by simp [look] at hl), dom := hM.dom, lt := fun b k o h => (by rw [hρ] at h; cases h), inj := hM.inj, far := hM.far, alt := fun k hk => Nat.lt_of_lt_of_le (hM.alt k hk) h.size }, { os := h.os, tape := h.tape, output := ⟨h.output, hdr⟩, size := h.size, frame := fun k hk _ => h.block k hk, mine := fun b k o h => (by rw [hρ] at h; cases h), fix := fun b hb => (by simp at hb), rows := hrows }⟩
theorem Does.of_ret {P : Program} {f : FuncId} {args : List AV} {r : AV} (hfn : fnOK P f = true)
    (h : ∀ (w : World) (Own : Nat → Prop) (vs : Array Value), args.length = vs.size → (∀ (i : Nat) x, args[i]? = some x → VRel w Own (fun _ => none) x (vs.getD i undef)) → Calls P f vs w fun e w' => ∃ v, e = .returned v ∧ Below w.heap.size w w' ∧ w.drawn ≤ w'.drawn ∧ ∀ Own', (∀ k, Own' k → k < w.heap.size) → VRel w' Own' (fun _ => none) r v) : Does P f args [] [] (fun r' m => m = [] ∧ r' = r) := by
  refine ⟨hfn, fun A ρ w vs ht1 ht2 hM hlen hv => ?_⟩
  have hρ : ρ = fun _ => none := by
    funext b
    cases e : ρ b with
    | none => rfl
    | some p => obtain ⟨k, o⟩ := p; obtain ⟨blk, hl⟩ := hM.dom b k o e; simp [look] at hl
  subst hρ
  refine (h w _ vs hlen hv).mono ?_
  rintro e w' ⟨v, rfl, hb, hdr, hr⟩
  obtain ⟨h1, h2⟩ := after_drawn hb hM hdr (fun k cur ty fr hk hh => by rw [hb.block k hk] at hh; exact ⟨cur, ty, fr, hh, rfl⟩)
  exact ⟨v, r, [], _, rfl, ⟨rfl, rfl⟩, h1, hr _ (fun k hk => by rcases hk with hk | ⟨_, _, hk⟩; exact hM.alt k hk; cases hk), h2⟩
theorem Does.of_plain {P : Program} {f : FuncId} {args : List AV} {r : AV} {v : Value} (hfn : fnOK P f = true) (hr : ∀ w Own ρ, VRel w Own ρ r v)
    (h : ∀ (w : World) (Own : Nat → Prop) (vs : Array Value), args.length = vs.size → (∀ (i : Nat) x, args[i]? = some x → VRel w Own (fun _ => none) x (vs.getD i undef)) → Calls P f vs w fun e w' => e = .returned v ∧ Below w.heap.size w w' ∧ w.drawn ≤ w'.drawn) : Does P f args [] [] (fun r' m => m = [] ∧ r' = r) :=
  Does.of_ret hfn (fun w Own vs h1 h2 => (h w Own vs h1 h2).mono fun _ _ ⟨he, hb, hdr⟩ => ⟨v, he, hb, hdr, fun _ _ => hr _ _ _⟩)
theorem Does.calls {P : Program} {f : FuncId} {args : List AV} {post : AV → Mem → Prop} (h : Does P f args [] [] post) {w : World} {vs : Array Value} (ht : theTab.p w) (hlen : args.length = vs.size) (hv : ∀ (i : Nat) x, args[i]? = some x → VRel w (OwnBy (fun _ => False) fun _ => none) (fun _ => none) x (vs.getD i undef)) :
    Calls P f vs w fun e w' => ∃ v r m ρ', e = .returned v ∧ post r m ∧ MemOK (fun _ => False) m ρ' w' ∧ VRel w' (OwnBy (fun _ => False) ρ') ρ' r v ∧ After w w' (fun _ => none) ρ' [] :=
  h.2 (fun _ => False) (fun _ => none) w vs ht (fun _ _ _ _ h => by cases h) ⟨fun b blk hl => (by simp [look] at hl), fun _ _ _ h => (by cases h), fun _ _ _ h => (by cases h), fun _ _ _ _ _ h => (by cases h), fun _ _ _ h => (by cases h), fun _ h => h.elim⟩ hlen hv
theorem own_tree {A : Nat → Prop} {m : Mem} {ρ' : Map} {w' : World} {b ty sz n : Nat} {es : List (List AV)} {v : Value} (hs : 0 < sz) (hM : MemOK A m ρ' w') (hb : look m b = some (.arr ty sz es)) (hv : VRel w' (OwnBy A ρ') ρ' (.own b sz 0 n) v) (hn : n = es.length) : TRel w' (OwnBy A fun _ => none) (.ro sz es) v := by
  subst hn
  rcases hv.own_inv with ⟨rfl, _, h0⟩ | ⟨ad, rfl, h0, _⟩ | ⟨k, o, cap, hρ, rfl, hcap, hroom⟩
  · rw [List.eq_nil_of_length_eq_zero h0]; exact .ronil
  · rw [List.eq_nil_of_length_eq_zero h0]; exact .ronil
  · have hB := hM.mem b _ hb
    simp only [BRel, hρ] at hB
    obtain ⟨cur, hh, hlen, hsz, hcell⟩ := hB
    refine TRel.row ⟨hs, hlen, ?_, fun i j x hx => ?_⟩ hcap
    · rintro (hO | ⟨_, _, hO⟩)
      · exact hM.far _ _ _ hρ hO
      · cases hO
    · obtain ⟨u, hu, h1, ht⟩ := hcell i j x hx
      refine ⟨u, ?_, h1, ht.sub (fun k hk => by rcases hk with hk | ⟨_, _, hk⟩; exact .inl hk; cases hk)⟩
      rw [add_none]
      simp only [World.cell?, hh]
      rw [if_neg (by simp), ← hu]
      congr 1; omega
theorem nils_tree {w : World} {Own Own' : Nat → Prop} {ρ : Map} {s sz : Nat} {v : Value} (h : VRel w Own ρ (.nils s) v) : TRel w Own' (.ro sz []) v := by
  cases h with
  | tree h => cases h; exact .ronil
theorem Does.tree {P : Program} {f : FuncId} {args : List AV} {post : AV → Mem → Prop} (h : Does P f args [] [] post) (r' : AV) (hp : ∀ r m, post r m → ∀ A ρ' w' v, MemOK A m ρ' w' → VRel w' (OwnBy A ρ') ρ' r v → VRel w' (OwnBy A fun _ => none) (fun _ => none) r' v) : Does P f args [] [] (fun r m => m = [] ∧ r = r') := by
  refine ⟨h.1, fun A ρ w vs ht1 ht2 hM hlen hv => (h.2 A ρ w vs ht1 ht2 hM hlen hv).mono ?_⟩
  rintro e w' ⟨v, r, m, ρ', rfl, hpost, hM', hv', hA⟩
  have hρ : ∀ b, ρ b = none := fun b => by
    cases e : ρ b with
    | none => rfl
    | some p => obtain ⟨k, o⟩ := p; obtain ⟨blk, hl⟩ := hM.dom b k o e; simp [look] at hl
  exact ⟨v, r', [], fun _ => none, rfl, ⟨rfl, rfl⟩, ⟨fun b blk hl => (by simp [look] at hl), fun _ _ _ h => (by cases h), fun _ _ _ h => (by cases h), fun _ _ _ _ _ h => (by cases h), fun _ _ _ h => (by cases h), hM'.alt⟩, hp r m hpost A ρ' w' v hM' hv',
    { os := hA.os, tape := hA.tape, output := hA.output, size := hA.size, frame := hA.frame, mine := fun _ _ _ h => (by cases h), fix := fun b hb => (by simp at hb), rows := hA.rows }⟩
theorem srcs_no {g : Src → Option AV} {xs : List Src} {args : List AV} (h : srcsOf g xs = some args) : (srcsOf g xs).map (· ++ ([] : List AV)) = some args := by rw [h]; simp
section
variable {P : Program} {nt : Nat} {c : Ctx} {st : St}
theorem runL_tree {f : FuncId} {xs : List Src} {d : Option Nat} {args : List AV} {v : AV} {k : St → Prop} {r : List It} (hx : srcsOf st.src xs = some args) (hD : Does P f args [] [] (fun r m => m = [] ∧ r = v)) (hr : refsInL (fun _ => False) args) (hstd : c.A = c.B)
    (hk : runL P c nt r ((callSt st [] [] []).put? d v) k) : runL P c nt (⟨d, none, .callv (.c (.fn f [])) xs⟩ :: r) st k :=
by
  have hkk : keepS [] st.mem = ([] : Mem) := by simp [keepS]
  refine runL_call (post := fun r m => m = [] ∧ r = v) [] [] rfl (srcs_no hx) (by rw [hkk]; exact hD) (refs_impL (fun _ h => h.elim) _ hr) (fun b hb => by simp at hb) (fun b _ hb => by simp at hb) hstd (fun rv m hp => ?_)
  obtain ⟨hm, he⟩ := hp
  subst hm; subst he
  exact ⟨fun p hp => by simp at hp, hk⟩
theorem runP_tree {X : List Nat} {i : Nat} {p : Plan} {f : FuncId} {xs : List Src} {d : Option Nat} {args : List AV} {v : AV} {k : St → Prop} (hx : srcsOf st.src xs = some args) (hD : Does P f args [] [] (fun r m => m = [] ∧ r = v)) (hr : refsInL (fun _ => False) args) (hn : noTree v = true)
    (hk : runP P c nt X p (st.put? d v) k) : runP P c nt X (.alt i ⟨d, none, .callv (.c (.fn f [])) xs⟩ p .done) st k :=
  ⟨callK_view (stF := { st with fixed := [] }) (St.le_refl _) rfl (srcs_no (show srcsOf st.src xs = some args from hx)) hD hr (fun rv m ⟨hm, he⟩ => by subst hm; subst he; exact ⟨rfl, hn, hk⟩), trivial⟩
theorem runP_treeT {X : List Nat} {i : Nat} {p : Plan} {f : FuncId} {xs : List Src} {d : Option Nat} {args : List AV} {v : AV} {k : St → Prop} (hx : srcsOf st.src xs = some args) (hD : Does P f args [] [] (fun r m => m = [] ∧ r = v)) (hr : refsInL (fun _ => False) args) (hstd : c.A = c.B)
    (hk : runP P c nt X p ((callSt st [] [] []).put? d v) k) : runP P c nt X (.alt i ⟨d, none, .callv (.c (.fn f [])) xs⟩ p .done) st k := by
  have hkk : keepS [] st.mem = ([] : Mem) := by simp [keepS]
  refine ⟨callK_call (X := fun b => b ∈ X) (bs := []) (fixed := []) (post := fun r m => m = [] ∧ r = v) rfl (srcs_no hx) (by rw [hkk]; exact hD) (refs_impL (fun _ h => h.elim) _ hr) (fun b hb => by simp at hb) (fun b _ hb => by simp at hb) (fun b hb => by simp at hb) (fun rv m hp => ?_), trivial⟩
  obtain ⟨hm, he⟩ := hp
  subst hm; subst he
  exact ⟨fun b blk hb => by simp [look] at hb, .inl hstd, hk⟩
theorem runP_do {X : List Nat} {i : Nat} {p : Plan} {d : Option Nat} {ao : AOp} {k : St → Prop} {s : Nat} {want : Bool} (hb : look st.slots s = some (.lit (.bool want))) (h : runP P c nt X (.alt i ⟨d, none, ao⟩ p .done) st k) : runP P c nt X (.alt i ⟨d, some (s, want), ao⟩ p .done) st k :=
  ⟨⟨some want, by simp [gval, hb], fun _ => h.1, fun hne => absurd rfl hne⟩, trivial⟩
theorem runP_skip {X : List Nat} {i : Nat} {p : Plan} {d : Option Nat} {ao : AOp} {k : St → Prop} {s : Nat} {b want : Bool} (hb : look st.slots s = some (.lit (.bool b))) (hne : b ≠ want) (h : runP P c nt X p (st.put? d (.tup [])) k) : runP P c nt X (.alt i ⟨d, some (s, want), ao⟩ p .done) st k :=
  ⟨⟨some b, by simp [gval, hb], fun he => absurd (by simpa using he) hne, fun _ => h⟩, trivial⟩
theorem runP_step {X : List Nat} {i : Nat} {it : It} {p : Plan} {st' : St} {k : St → Prop} (hq : quiet X st it.ao = true) (h : stepI it st = some st') (hk : runP P c nt X p st' k) : runP P c nt X (.take i it p) st k := runQ_of_step hq h hk
end
theorem After.below {w w' : World} {ρ' : Map} {fx : List Nat} (h : After w w' (fun _ => none) ρ' fx) : Below w.heap.size w w' :=
  ⟨h.os, h.tape, h.output.eq, h.size, fun k hk => h.frame k hk (fun _ _ h => by cases h)⟩
theorem killL_fam {base sz q n : Nat} {f : Nat → Nat} (hq : q < n) : killL (base + q) (famCells base sz f n) = (famCells base sz f n).set q .dead := by
  apply List.ext_getElem?
  intro i
  rw [killL_get]
  by_cases hi : i < n
  · rw [famCells_get hi]
    by_cases e : i = q
    · subst e; simp [hi]
    · simp [List.getElem?_set_ne (Ne.symm e), famCells_get hi, e]
  · rw [List.getElem?_eq_none (by simpa using hi), List.getElem?_eq_none (by simpa using hi)]; rfl
theorem killL_fam_ne {base sz b n : Nat} {f : Nat → Nat} (hb : b < base) : killL b (famCells base sz f n) = famCells base sz f n := by
  apply List.ext_getElem?
  intro i
  rw [killL_get]
  by_cases hi : i < n
  · rw [famCells_get hi]; simp; omega
  · rw [List.getElem?_eq_none (by simpa using hi)]; rfl
theorem famCells_put {base sz q n v : Nat} {len len' : Nat → Nat} (hq : q < n) (h : ∀ c, len' c = if c = q then v else len c) : List.take q ((famCells base sz len n).set q AV.dead) ++ AV.own (base + q) sz 0 v :: List.drop (q + 1) ((famCells base sz len n).set q AV.dead) = famCells base sz len' n := by
  rw [List.take_set, List.drop_set_of_lt (by omega), List.set_eq_of_length_le (by simp; omega)]
  apply List.ext_getElem?
  intro i
  rcases Nat.lt_trichotomy i q with h1 | h1 | h1
  · rw [List.getElem?_append_left (by simp; omega), List.getElem?_take_of_lt h1, famCells_get (by omega), famCells_get (by omega)]
    simp [h, Nat.ne_of_lt h1]
  · subst h1
    rw [List.getElem?_append_right (by simp; omega), famCells_get hq]
    simp [h, show min i n = i from by omega]
  · rw [List.getElem?_append_right (by simp; omega)]
    have h2 : i - (List.take q (famCells base sz len n)).length = (i - q - 1) + 1 := by simp; omega
    rw [h2, List.getElem?_cons_succ, List.getElem?_drop, show q + 1 + (i - q - 1) = i from by omega]
    by_cases h3 : i < n
    · rw [famCells_get h3, famCells_get h3]; simp [h, show ¬ i = q from by omega]
    · rw [List.getElem?_eq_none (by simp; omega), List.getElem?_eq_none (by simp; omega)]
theorem famCells_one {base sz q n : Nat} {len : Nat → Nat} (hq : q < n) : ((famCells base sz len n).drop q).take 1 = [.own (base + q) sz 0 (len q)] := by
  rw [List.drop_eq_getElem_cons (by simpa using hq)]
  simp [famCells]
theorem look_killB (l : Mem) (b d : Nat) : look (l.map fun p => (p.1, killB b p.2)) d = (look l d).map (killB b) := look_mapv _ _ _
theorem upd_app {α : Type} : ∀ {l r : List (Nat × α)} {d : Nat} {x : α}, look l d = none → upd (l ++ r) d x = l ++ upd r d x
  | [], _, _, _, _ => rfl
  | (k, v) :: q, r, d, x, h => by
    simp only [look] at h
    split at h
    · cases h
    · rename_i e
      show upd ((k, v) :: (q ++ r)) d x = (k, v) :: (q ++ upd r d x)
      simp only [upd]
      rw [if_neg e, upd_app h]
theorem drop_app {α : Type} : ∀ {l r : List (Nat × α)} {d : Nat}, look l d = none → drop (l ++ r) d = l ++ drop r d
  | [], _, _, _ => rfl
  | (k, v) :: q, r, d, h => by
    simp only [look] at h
    split at h
    · cases h
    · rename_i e
      show drop ((k, v) :: (q ++ r)) d = (k, v) :: (q ++ drop r d)
      simp only [drop]
      rw [if_neg e, drop_app h]
section
variable {base ty sz n d : Nat} {f : Nat → List (List AV)} {r : Mem}
@[simp] theorem look_famA (h : d < base) : look (fam base ty sz f n ++ r) d = look r d := by rw [look_append, look_fam_lt h]
@[simp] theorem upd_famA {x : Blk} (h : d < base) : upd (fam base ty sz f n ++ r) d x = fam base ty sz f n ++ upd r d x := upd_app (look_fam_lt h)
@[simp] theorem drop_famA (h : d < base) : drop (fam base ty sz f n ++ r) d = fam base ty sz f n ++ drop r d := drop_app (look_fam_lt h)
@[simp] theorem map_killB_fam {b : Nat} : ((fam base ty sz f n).map fun p => (p.1, killB b p.2)) = fam base ty sz f n := by
  simp [fam]
theorem look_famA_at {c : Nat} (h : c < n) : look (fam base ty sz f n ++ r) (base + c) = some (.arr ty sz (f c)) := by rw [look_append, look_fam h]
end
theorem evalL_step {it : It} {r : List It} {st st1 : St} {x : List It × St} (hc : isCall it.ao = false) (h : stepI it st = some st1) (h2 : evalL r st1 = some x) : evalL (it :: r) st = some x := by
  simp only [evalL, hc, h]; simpa using h2
theorem evalP_step {X : List Nat} {i : Nat} {it : It} {p : Plan} {st st1 : St} {x : Plan × St} (hq : quiet X st it.ao = true) (h : stepI it st = some st1) (h2 : evalP X p st1 = some x) : evalP X (.take i it p) st = some x := by
  simp only [evalP, hq, h]; simpa using h2
def stepQ (X : List Nat) (it : It) (st : St) : Option St := match it.g with
  | none => if quiet X st it.ao = true then exec it.d it.ao st else none
  | some (s, want) => match gval st s with
    | some b => if b = some want then (if quiet X st it.ao = true then exec it.d it.ao st else none) else some (st.put? it.d (.tup []))
    | none => none
attribute [simp] stepQ
theorem runP_stepQ {P : Program} {nt : Nat} {c : Ctx} {st : St} {X : List Nat} {i : Nat} {it : It} {p : Plan} {st' : St} {k : St → Prop} (h : stepQ X it st = some st') (hk : runP P c nt X p st' k) : runP P c nt X (.take i it p) st k := by
  show runQ X it st _
  obtain ⟨d, g, ao⟩ := it
  cases g with
  | none =>
    simp only [stepQ] at h
    split at h
    · rename_i hq; exact ⟨hq, _, h, hk⟩
    · cases h
  | some g =>
    obtain ⟨s, want⟩ := g
    simp only [stepQ] at h
    split at h
    · rename_i b hb
      refine ⟨b, hb, fun e => ?_, fun e => ?_⟩
      · rw [if_pos e] at h
        split at h
        · rename_i hq; exact ⟨hq, _, h, hk⟩
        · cases h
      · rw [if_neg e] at h
        injection h with h; show runP P c nt X p (st.put? d (.tup [])) k; rw [h]; exact hk
    · cases h
theorem runP_pass {P : Program} {nt : Nat} {c : Ctx} {st : St} {X : List Nat} {i : Nat} {p : Plan} {d : Option Nat} {ao : AOp} {k : St → Prop} {s : Nat} {b : Option Bool} {want : Bool} (hb : gval st s = some b) (hne : b ≠ some want) (h : runP P c nt X p (st.put? d (.tup [])) k) : runP P c nt X (.take i ⟨d, some (s, want), ao⟩ p) st k :=
  ⟨b, hb, fun he => absurd he hne, fun _ => h⟩
theorem runL_pass {P : Program} {nt : Nat} {c : Ctx} {st : St} {r : List It} {d : Option Nat} {ao : AOp} {k : St → Prop} {s : Nat} {b : Option Bool} {want : Bool} (hb : gval st s = some b) (hne : b ≠ some want) (h : runL P c nt r (st.put? d (.tup [])) k) : runL P c nt (⟨d, some (s, want), ao⟩ :: r) st k :=
  ⟨b, hb, fun he => absurd he hne, fun _ => h⟩
theorem runL_le {P : Program} {nt : Nat} {c : Ctx} {st st' : St} {fs : Src} {xs : List Src} {d : Option Nat} {r : List It} {k : St → Prop} (hstd : c.A = c.B) (hle : St.le st st') (h : runL P c nt (⟨d, none, .callv fs xs⟩ :: r) st' k) : runL P c nt (⟨d, none, .callv fs xs⟩ :: r) st k := by
  intro o ρ a w hc hs hch hd hlt
  obtain ⟨ρ', hc', hsub⟩ := hle c ρ a w hstd hc
  obtain ⟨f, vs, hrun, hcalls⟩ := h o ρ' a w hc' hs hch hd hlt
  refine ⟨f, vs, hrun, hcalls.mono ?_⟩
  rintro e w' ⟨v, st2, ρ2, he, hk, hc2, hf, hm, hsz⟩
  refine ⟨v, st2, ρ2, he, hk, hc2, fun q hq hno => hf q hq (fun b o' hX hb => hno b o' hX (hsub _ _ _ hb)), fun b q o' hb => ?_, hsz⟩
  rcases hm b q o' hb with h1 | ⟨hX, h1⟩
  · exact .inl (hsub _ _ _ h1)
  · refine .inr ⟨hX, h1.imp id ?_⟩
    rintro ⟨b0, hX0, o2, h2⟩
    exact ⟨b0, hX0, o2, hsub _ _ _ h2⟩
theorem runL_freeze {P : Program} {nt : Nat} {c : Ctx} {st : St} {fs : Src} {xs : List Src} {d : Option Nat} {r : List It} {k : St → Prop} (hstd : c.A = c.B) (b : Nat) (hf : st.fixed.contains b = false) (h : runL P c nt (⟨d, none, .callv fs xs⟩ :: r) (st.freeze b) k) : runL P c nt (⟨d, none, .callv fs xs⟩ :: r) st k := runL_le hstd (le_freeze st b hf) h
theorem runP_one {P : Program} {nt : Nat} {c : Ctx} {st : St} {X : List Nat} {i : Nat} {it : It} {p : Plan} {st1 : St} {k : St → Prop} (hc : isCall it.ao = false) (hw : wrOK X st it.ao = true) (h : stepI it st = some st1) (h1 : runP P c nt X p st1 k) : runP P c nt X (.alt i it p .done) st k := runP_alt hc hw h h1 (.inl rfl)
theorem b2 (a b : Bool) : a = false ∨ (a = true ∧ b = false) ∨ (a = true ∧ b = true) := by cases a <;> cases b <;> simp
theorem b3 (a b c : Bool) : a = false ∨ (a = true ∧ b = false) ∨ (a = true ∧ b = true ∧ c = false) ∨ (a = true ∧ b = true ∧ c = true) := by cases a <;> cases b <;> cases c <;> simp
attribute [simp] St.freeze frz frzL frzB
def eds (l : List (Int × Int)) : List (List AV) := l.map fun e => [iv e.1, iv e.2]
def rws (l : List (List Nat)) : List (List AV) := l.map fun r => [.ro 1 (nats r)]
def bws (l : List (List Bool)) : List (List AV) := l.map fun r => [.ro 1 (bools r)]
section
variable (l m : List (Int × Int)) (i : Nat)
@[simp] theorem eds_length : (eds l).length = l.length := by simp [eds]
@[simp] theorem eds_getElem (h : i < (eds l).length) : (eds l)[i] = [iv (l[i]'(by simpa using h)).1, iv (l[i]'(by simpa using h)).2] := by simp [eds]
@[simp] theorem eds_append : eds l ++ eds m = eds (l ++ m) := by simp [eds]
@[simp] theorem eds_snoc (a b : Int) : eds l ++ [[iv a, iv b]] = eds (l ++ [(a, b)]) := by simp [eds]
@[simp] theorem eds_take : (eds l).take i = eds (l.take i) := by simp [eds, List.map_take]
@[simp] theorem eds_drop : (eds l).drop i = eds (l.drop i) := by simp [eds, List.map_drop]
@[simp] theorem eds_nil : eds [] = [] := rfl
end
section
variable (l m : List (List Nat)) (i : Nat)
@[simp] theorem rws_length : (rws l).length = l.length := by simp [rws]
@[simp] theorem rws_getElem (h : i < (rws l).length) : (rws l)[i] = [.ro 1 (nats (l[i]'(by simpa using h)))] := by simp [rws]
@[simp] theorem rws_append : rws l ++ rws m = rws (l ++ m) := by simp [rws]
@[simp] theorem rws_snoc (x : List Nat) : rws l ++ [[.ro 1 (nats x)]] = rws (l ++ [x]) := by simp [rws]
@[simp] theorem rws_take : (rws l).take i = rws (l.take i) := by simp [rws, List.map_take]
@[simp] theorem rws_nil : rws [] = [] := rfl
end
section
variable (l m : List (List Bool)) (i : Nat)
@[simp] theorem bws_length : (bws l).length = l.length := by simp [bws]
@[simp] theorem bws_getElem (h : i < (bws l).length) : (bws l)[i] = [.ro 1 (bools (l[i]'(by simpa using h)))] := by simp [bws]
@[simp] theorem bws_snoc (x : List Bool) : bws l ++ [[.ro 1 (bools x)]] = bws (l ++ [x]) := by simp [bws]
@[simp] theorem bws_take : (bws l).take i = bws (l.take i) := by simp [bws, List.map_take]
@[simp] theorem bws_nil : bws [] = [] := rfl
end
section
variable (l m : List Bool) (i : Nat)
@[simp] theorem bools_take : (bools l).take i = bools (l.take i) := by simp [bools, List.map_take]
@[simp] theorem bools_drop : (bools l).drop i = bools (l.drop i) := by simp [bools, List.map_drop]
@[simp] theorem bools_append : bools l ++ bools m = bools (l ++ m) := by simp [bools]
@[simp] theorem bools_snoc (x : Bool) : bools l ++ [[bv x]] = bools (l ++ [x]) := by simp [bools]
theorem bools_zero : List.replicate i [bv false] = bools (List.replicate i false) := by simp [bools]
end
end Go.SX
namespace Go.SX
open Go
section
variable {H : Type} {enc : TypeId × Value → H} {P : Program} {w : World} {base : Nat} {spare : Nat → Bool} {held : Bool}
theorem cells_get {a : Addr} {n : Nat} {cs : List Value} (h : w.cells? base a n = some cs) : cs.length = n ∧ ∀ i u, cs[i]? = some u → w.cell? (a.add i) = some u := by
  unfold World.cells? at h
  split at h
  · have key : ∀ (l : List Nat) (cs : List Value), l.mapM (fun i => w.cell? (a.add i)) = some cs → cs.length = l.length ∧ ∀ (i : Nat) (u : Value), cs[i]? = some u → ∃ q, l[i]? = some q ∧ w.cell? (a.add q) = some u := by
      intro l
      induction l with
      | nil => intro cs h; simp at h; subst h; simp
      | cons x r ih =>
        intro cs h
        simp only [List.mapM_cons, Option.bind_eq_bind, Option.bind_eq_some_iff, Option.pure_def, Option.some.injEq] at h
        obtain ⟨c, hc, cs', hr, rfl⟩ := h
        obtain ⟨h1, h2⟩ := ih _ hr
        refine ⟨by simp [h1], fun i u hu => ?_⟩
        cases i with
        | zero => simp at hu; subst hu; exact ⟨x, rfl, hc⟩
        | succ i => simpa using h2 i u (by simpa using hu)
    obtain ⟨h1, h2⟩ := key _ _ h
    refine ⟨by simpa using h1, fun i u hu => ?_⟩
    obtain ⟨q, hq, hc⟩ := h2 i u hu
    rw [List.getElem?_range (by have := (List.getElem?_eq_some_iff.1 hq).1; simpa using this)] at hq
    injection hq with hq; subst hq; exact hc
  · cases h
theorem add_add' (a : Addr) (i j : Nat) : (a.add i).add j = a.add (i + j) := by
  unfold Addr.add
  repeat' split
  all_goals first | rfl | simp_all [Nat.add_assoc] | omega
theorem rows_open {α : Type} {t e : TypeId} {fuel sz : Nat} {v : Value} {y : DataW H × List MemPlace} (ht : P.underlying t = some (.slice e)) (hsz : P.cellsOf e = sz) (cells : α → List Value)
    (hel : ∀ n cs y, DataW.trod enc P w base spare held n e cs = some y → cs.length = sz → ∃ z : α, cs = cells z) (h : DataW.trod enc P w base spare held fuel t [v] = some y) :
    ∃ A cap, ∃ l : List α, v = .slice A l.length cap ∧ l.length ≤ cap ∧ l.length ≤ maxLen ∧ (0 < l.length → ∃ ad, A = some ad ∧ ∀ j p, l[j]? = some p → ∀ i u, (cells p)[i]? = some u → w.cell? (ad.add (j * sz + i)) = some u) := by
  rcases DataW.trod_slice ht h with ⟨hcs, _⟩ | ⟨a, len, cap, elems, rest, n, _, hcs, _, _, hl, hm, hlen, hE, _⟩
  · simp at hcs; exact ⟨none, 0, [], by simpa using hcs, Nat.le_refl _, by simp, by simp⟩
  · simp at hcs
    have hz : ∀ i, i < len → ∃ z : α, ∀ j u, (cells z)[j]? = some u → w.cell? (a.add (i * sz + j)) = some u := fun i hi => by
      have h1 := hE i hi
      have h2 : ∃ x, elems[i]? = some x := ⟨elems[i], List.getElem?_eq_getElem (by omega)⟩
      obtain ⟨x, hx⟩ := h2
      rw [hx, hsz] at h1
      obtain ⟨cs, hcs', hx'⟩ := Option.bind_eq_some_iff.1 h1
      obtain ⟨hl1, hl2⟩ := cells_get hcs'
      obtain ⟨z, rfl⟩ := hel _ _ _ hx' hl1
      exact ⟨z, fun j u hu => by rw [← add_add']; exact hl2 j u hu⟩
    classical
    refine ⟨some a, cap, List.ofFn (fun i : Fin len => (hz i.1 i.2).choose), by simpa using hcs, by simpa using hl, by simp; omega, fun _ => ⟨a, rfl, fun j p hj i u hu => ?_⟩⟩
    rw [List.getElem?_ofFn] at hj
    split at hj
    · rename_i hlt
      injection hj with hj; subst hj
      exact (hz j hlt).choose_spec i u hu
    · cases hj
end
theorem tree_open {α : Type} {w : World} {A : Option Addr} {cap sz : Nat} {l : List α} {cells : α → List Value} (hs : 0 < sz) (hl : ∀ p, (cells p).length = sz) (hf : ∀ p, ∀ u ∈ cells p, flat u = true) (hc : l.length ≤ cap)
    (h : 0 < l.length → ∃ ad, A = some ad ∧ ∀ j p, l[j]? = some p → ∀ i u, (cells p)[i]? = some u → w.cell? (ad.add (j * sz + i)) = some u) {Own : Nat → Prop} (ho : ∀ k, ¬ Own k) : TRel w Own (.ro sz (l.map fun p => (cells p).map AV.lit)) (.slice A l.length cap) := by
  have hlen : (l.map fun p => (cells p).map AV.lit).length = l.length := by simp
  by_cases hne : l = []
  · subst hne; exact .ronil
  · obtain ⟨ad, rfl, hcell⟩ := h (List.length_pos_iff.2 hne)
    rw [← hlen]
    refine TRel.row ⟨hs, fun e he => ?_, ho _, fun i j x hx => ?_⟩ (by omega)
    · obtain ⟨p, _, rfl⟩ := List.mem_map.1 he
      simp [hl p]
    · obtain ⟨e, he, hj⟩ := Option.bind_eq_some_iff.1 hx
      rw [List.getElem?_map] at he
      obtain ⟨p, hp, rfl⟩ := Option.map_eq_some_iff.1 he
      rw [List.getElem?_map] at hj
      obtain ⟨u, hu, rfl⟩ := Option.map_eq_some_iff.1 hj
      have hfu := hf p u (List.mem_of_getElem? hu)
      exact ⟨u, hcell i p hp j u hu, by cases u <;> first | rfl | (simp [flat] at hfu), .lit hfu⟩
end Go.SX
namespace Go.SX
open Go
section
variable {P : Program} {c : Ctx} {nt : Nat} {st : St} {Q : Exit → St → Prop}
theorem J.condB {t : Nat} {x y : AC} {b : Bool} (hb : look st.slots t = some (.lit (.bool b))) (h1 : b = true → J P nt c x st Q) (h2 : b = false → J P nt c y st Q) : J P nt c (.cond (.s t) x y) st Q :=
  J.cond ⟨b, hb, h1, h2⟩
theorem runL_if {d : Option Nat} {ao : AOp} {r : List It} {k : St → Prop} {s : Nat} {b want : Bool} (hb : look st.slots s = some (.lit (.bool b))) (h1 : b = want → runL P c nt (⟨d, none, ao⟩ :: r) st k) (h2 : b = !want → runL P c nt r (st.put? d (.tup [])) k) : runL P c nt (⟨d, some (s, want), ao⟩ :: r) st k :=
  ⟨some b, by simp [gval, hb], fun h => h1 (by simpa using h), fun h => h2 (by cases b <;> cases want <;> simp_all)⟩
theorem runP_if {X : List Nat} {i : Nat} {p : Plan} {d : Option Nat} {ao : AOp} {k : St → Prop} {s : Nat} {b want : Bool} (hb : look st.slots s = some (.lit (.bool b))) (h1 : b = want → runP P c nt X (.take i ⟨d, none, ao⟩ p) st k) (h2 : b = !want → runP P c nt X p (st.put? d (.tup [])) k) : runP P c nt X (.take i ⟨d, some (s, want), ao⟩ p) st k :=
  ⟨some b, by simp [gval, hb], fun h => h1 (by simpa using h), fun h => h2 (by cases b <;> cases want <;> simp_all)⟩
theorem runP_ifA {X : List Nat} {i : Nat} {p : Plan} {d : Option Nat} {ao : AOp} {k : St → Prop} {s : Nat} {b want : Bool} (hb : look st.slots s = some (.lit (.bool b))) (h1 : b = want → runP P c nt X (.alt i ⟨d, none, ao⟩ p .done) st k) (h2 : b = !want → runP P c nt X p (st.put? d (.tup [])) k) : runP P c nt X (.alt i ⟨d, some (s, want), ao⟩ p .done) st k :=
  ⟨⟨some b, by simp [gval, hb], fun h => (h1 (by simpa using h)).1, fun h => h2 (by cases b <;> cases want <;> simp_all)⟩, trivial⟩
theorem J.regB {its : List It} {ks : List Nat} (d : Nat) (e : Bool) (h : ∃ st', evalL its st = some ([], st') ∧ st'.keep ks = (st.put d (.lit (.bool e))).keep ks) (hk : Q .normal ((st.put d (.lit (.bool e))).keep ks)) : J P nt c (.reg its ks) st Q := J.regJ _ h hk
theorem Does.sub {f : FuncId} {args args' : List AV} {m : Mem} {fx : List Nat} {post : AV → Mem → Prop} (h : Does P f args m fx post) (hl : args.length = args'.length)
    (hs : ∀ (i : Nat) x, args[i]? = some x → ∃ x', args'[i]? = some x' ∧ ∀ w Own ρ v, VRel w Own ρ x' v → VRel w Own ρ x v) : Does P f args' m fx post :=
  ⟨h.1, fun A ρ w vs t1 t2 hM hlen hv => h.2 A ρ w vs t1 t2 hM (by omega) (fun i x hx => by
    obtain ⟨x', hx', hr⟩ := hs i x hx
    exact hr _ _ _ _ (hv i x' hx'))⟩
theorem nils_ro {s sz : Nat} {w : World} {Own : Nat → Prop} {ρ : Map} {v : Value} (h : VRel w Own ρ (.nils s) v) : VRel w Own ρ (.ro sz []) v := by
  cases h with
  | tree h => cases h; exact .tree .ronil
theorem Does.nil0 {f : FuncId} {s sz : Nat} {r : List AV} {m : Mem} {fx : List Nat} {post : AV → Mem → Prop} (h : Does P f (.ro sz [] :: r) m fx post) : Does P f (.nils s :: r) m fx post :=
  h.sub (by simp) (fun i x hx => by
    cases i with
    | zero => simp at hx; subst hx; exact ⟨_, rfl, fun _ _ _ _ => nils_ro⟩
    | succ i => exact ⟨x, by simpa using hx, fun _ _ _ _ h => h⟩)
theorem J.weak {ac : AC} (hstd : c.A = c.B) (h : J P nt c ac st (fun e s => ∃ s', s.le s' ∧ Q e s')) : J P nt c ac st Q := by
  intro code hc r hr ρ a w hcc hs
  refine wpIn_mono (h code hc r hr ρ a w hcc hs) (fun e a' w' h' => ?_)
  cases e <;> first | exact h'.elim | skip
  all_goals
    obtain ⟨hs', st', ρ', ⟨s', hle, hq⟩, hc'⟩ := h'
    obtain ⟨ρ2, hc2, _⟩ := hle _ _ _ _ hstd hc'
    exact ⟨hs', s', ρ2, hq, hc2⟩
theorem runP_call {X : List Nat} {i : Nat} {p : Plan} {fs : Src} {xs : List Src} {d : Option Nat} {f : FuncId} {caps all : List AV} (bs fixed : List Nat) {post : AV → Mem → Prop} {k : St → Prop} (hf : st.src fs = some (.fn f caps)) (hx : (srcsOf st.src xs).map (· ++ caps) = some all)
    (hD : Does P f all (keepS bs st.mem) fixed post) (hr : refsInL (fun b => b ∈ bs) all) (hm : ∀ b ∈ bs, ∀ blk, look st.mem b = some blk → blk.refs (fun b => b ∈ bs)) (hfx : ∀ b ∈ st.fixed, b ∈ bs → b ∈ fixed) (hbw : ∀ b ∈ bs, b ∈ X)
    (hk : ∀ rv m1, post rv m1 → (∀ p ∈ m1, p.1 ∈ X ∧ (p.1 ∈ bs ∨ look st.mem p.1 = none ∧ p.1 ∉ st.fixed)) ∧ (noTree rv = true ∧ ∀ p ∈ m1, noTreeB p.2 = true) ∧ runP P c nt X p ((callSt st bs fixed m1).put? d rv) k) : runP P c nt X (.alt i ⟨d, none, .callv fs xs⟩ p .done) st k :=
  ⟨callK_call hf hx hD hr hm hfx hbw (fun rv m1 hp => by
    obtain ⟨h1, ⟨h2, h3⟩, h4⟩ := hk rv m1 hp
    exact ⟨fun b blk hb => h1 _ (look_mem hb), .inr ⟨h2, fun b blk hb => h3 _ (look_mem hb)⟩, h4⟩), trivial⟩
theorem runP_callT {X : List Nat} {i : Nat} {p : Plan} {fs : Src} {xs : List Src} {d : Option Nat} {f : FuncId} {caps all : List AV} (bs fixed : List Nat) {post : AV → Mem → Prop} {k : St → Prop} (hf : st.src fs = some (.fn f caps)) (hx : (srcsOf st.src xs).map (· ++ caps) = some all)
    (hD : Does P f all (keepS bs st.mem) fixed post) (hr : refsInL (fun b => b ∈ bs) all) (hm : ∀ b ∈ bs, ∀ blk, look st.mem b = some blk → blk.refs (fun b => b ∈ bs)) (hfx : ∀ b ∈ st.fixed, b ∈ bs → b ∈ fixed) (hbw : ∀ b ∈ bs, b ∈ X) (hstd : c.A = c.B)
    (hk : ∀ rv m1, post rv m1 → (∀ p ∈ m1, p.1 ∈ X ∧ (p.1 ∈ bs ∨ look st.mem p.1 = none ∧ p.1 ∉ st.fixed)) ∧ runP P c nt X p ((callSt st bs fixed m1).put? d rv) k) : runP P c nt X (.alt i ⟨d, none, .callv fs xs⟩ p .done) st k :=
  ⟨callK_call hf hx hD hr hm hfx hbw (fun rv m1 hp => ⟨fun b blk hb => (hk rv m1 hp).1 _ (look_mem hb), .inl hstd, (hk rv m1 hp).2⟩), trivial⟩
end
attribute [simp] ownAt asOwn boundc
mutual
def nz : AV → AV
  | .nils s => .ro s []
  | .agg cs => .agg (nzL cs)
  | .tup cs => .tup (nzL cs)
  | x => x
def nzL : List AV → List AV
  | [] => []
  | x :: r => nz x :: nzL r
end
theorem nzL_get : ∀ {cs : List AV} (i : Nat), (nzL cs)[i]? = (cs[i]?).map nz
  | [], i => by simp [nzL]
  | y :: r, 0 => by simp [nzL]
  | y :: r, i + 1 => by simpa [nzL] using nzL_get (cs := r) i
theorem nzL_length : ∀ (cs : List AV), (nzL cs).length = cs.length
  | [] => rfl
  | _ :: r => by simp [nzL, nzL_length r]
theorem TRel.nz {w : World} {Own : Nat → Prop} {x : AV} {v : Value} (h : TRel w Own x v) : TRel w Own (nz x) v := by
  induction h with
  | nils => exact .ronil
  | lit h => exact .lit h
  | ronil => exact .ronil
  | ro val hc hs hlen hblk hne hcell hone hrel _ => exact .ro val hc hs hlen hblk hne hcell hone hrel
  | agg hl _ ih => exact .agg (by rw [nzL_length]; exact hl) (fun i x hx => by rw [nzL_get] at hx; obtain ⟨y, hy, rfl⟩ := Option.map_eq_some_iff.1 hx; exact ih i y hy)
  | tup hl _ ih => exact .tup (by rw [nzL_length]; exact hl) (fun i x hx => by rw [nzL_get] at hx; obtain ⟨y, hy, rfl⟩ := Option.map_eq_some_iff.1 hx; exact ih i y hy)
  | fn hl h _ => exact .fn hl h
theorem VRel.nz {w : World} {Own : Nat → Prop} {ρ : Map} {x : AV} {v : Value} (h : VRel w Own ρ x v) : VRel w Own ρ (nz x) v := by
  induction h with
  | tree h => exact .tree h.nz
  | agg hl _ ih => exact .agg (by rw [nzL_length]; exact hl) (fun i x hx => by rw [nzL_get] at hx; obtain ⟨y, hy, rfl⟩ := Option.map_eq_some_iff.1 hx; exact ih i y hy)
  | tup hl _ ih => exact .tup (by rw [nzL_length]; exact hl) (fun i x hx => by rw [nzL_get] at hx; obtain ⟨y, hy, rfl⟩ := Option.map_eq_some_iff.1 hx; exact ih i y hy)
  | fn hl h _ => exact .fn hl h
  | rop val hs hlen hblk hi hj hcell hone hrel => exact .rop val hs hlen hblk hi hj hcell hone hrel
  | ownnil => exact .ownnil
  | ownz h => exact .ownz h
  | own h h1 h2 => exact .own h h1 h2
  | ownc h h1 h2 => exact .ownc h h1 h2
  | ptr h => exact .ptr h
  | mapr h => exact .mapr h
  | dead => exact .dead
def nzB : Blk → Blk
  | .obj ty cs => .obj ty (nzL cs)
  | b => b
def St.nz (st : St) : St := ⟨st.slots.map fun p => (p.1, SX.nz p.2), st.mem.map fun p => (p.1, nzB p.2), st.fixed⟩
theorem le_nz (st : St) : st.le st.nz := fun c ρ a w _ h =>
  ⟨ρ, { h with
    slots := fun d x hx => by
      simp only [St.nz, look_mapv] at hx
      obtain ⟨y, hy, rfl⟩ := Option.map_eq_some_iff.1 hx
      exact (h.slots d y hy).nz
    mem := fun b blk hl => by
      simp only [St.nz, look_mapv] at hl
      obtain ⟨y, hy, rfl⟩ := Option.map_eq_some_iff.1 hl
      have hB := h.mem b y hy
      cases y with
      | arr ty sz es => exact hB
      | map es => exact hB
      | obj ty cs =>
        obtain ⟨k, cur, h0, h1, h2, h3⟩ := hB
        refine ⟨k, cur, h0, h1, by rw [nzL_length]; exact h2, fun j x hx => ?_⟩
        rw [nzL_get] at hx
        obtain ⟨y, hy, rfl⟩ := Option.map_eq_some_iff.1 hx
        obtain ⟨v, hv, h1v, ht⟩ := h3 j y hy
        exact ⟨v, hv, h1v, ht.nz⟩
    dom := fun b k o hb => by
      obtain ⟨blk, hl⟩ := h.dom b k o hb
      exact ⟨nzB blk, by simp only [St.nz, look_mapv, hl, Option.map_some]⟩ }, fun _ _ _ h => h⟩
theorem J.nz {P : Program} {nt : Nat} {c : Ctx} {ac : AC} {st : St} {Q : Exit → St → Prop} (hstd : c.A = c.B) (h : J P nt c ac st.nz Q) : J P nt c ac st Q := J.le hstd (le_nz st) h
attribute [simp] SX.nz nzL nzB St.nz
theorem runP_or {P : Program} {nt : Nat} {c : Ctx} {st : St} {X : List Nat} {i : Nat} {it : It} {p q : Plan} {k : St → Prop} (h1 : runP P c nt X (.alt i it p .done) st k) (h2 : runP P c nt X q st k) : runP P c nt X (.alt i it p q) st k := by
  refine ⟨h1.1, ?_⟩
  cases q <;> first | trivial | exact h2
theorem J.to {P : Program} {nt : Nat} {c : Ctx} {st : St} {Q : Exit → St → Prop} {ac : AC} (hstd : c.A = c.B) (S : St) (h : J P nt c ac st (fun e s => e = .normal ∧ s.le S)) (hk : Q .normal S) : J P nt c ac st Q :=
  J.weak hstd (fun code hc r hr ρ a w hcc hs => wpIn_mono (h code hc r hr ρ a w hcc hs) (fun e a' w' h' => by
    cases e <;> first | exact h'.elim | skip
    all_goals
      obtain ⟨hs', st', ρ', ⟨he, hle⟩, hc'⟩ := h'
      first | cases he | skip
    exact ⟨hs', st', ρ', ⟨S, hle, hk⟩, hc'⟩))
@[simp] abbrev oI (d : Nat) (o : AOp) : It := ⟨some d, none, o⟩
@[simp] abbrev oG (d s : Nat) (b : Bool) (o : AOp) : It := ⟨some d, some (s, b), o⟩
@[simp] abbrev oN (o : AOp) : It := ⟨none, none, o⟩
@[simp] abbrev oH (s : Nat) (b : Bool) (o : AOp) : It := ⟨none, some (s, b), o⟩
section
variable {P : Program} {f sz ty bz : Nat}
abbrev DoesP (P : Program) (f : Nat) (args : List AV) (r : AV) : Prop := Does P f args [] [] (fun r' m => m = [] ∧ r' = r)
theorem runL_fun {nt : Nat} {c : Ctx} {st : St} {g : Nat} {fs : Src} {xs : List Src} {d : Option Nat} {caps args : List AV} {v : AV} {k : St → Prop} {r : List It} (hf : st.src fs = some (.fn g caps)) (hx : srcsOf st.src xs = some args)
    (hD : DoesP P g (args ++ caps) v) (hr : refsInL (fun _ => False) (args ++ caps)) (hn : noTree v = true) (hk : runL P c nt r (st.put? d v) k) : runL P c nt (⟨d, none, .callv fs xs⟩ :: r) st k :=
  runL_view (stF := { st with fixed := [] }) (St.le_refl _) hf (show (srcsOf st.src xs).map (· ++ caps) = some (args ++ caps) by rw [hx]; rfl) hD hr (fun rv m1 ⟨hm, he⟩ => by subst hm; subst he; exact ⟨rfl, hn, hk⟩)
theorem runP_fun {nt : Nat} {c : Ctx} {st : St} {X : List Nat} {i : Nat} {p : Plan} {g : Nat} {fs : Src} {xs : List Src} {d : Option Nat} {caps args : List AV} {v : AV} {k : St → Prop} (hf : st.src fs = some (.fn g caps)) (hx : srcsOf st.src xs = some args)
    (hD : DoesP P g (args ++ caps) v) (hr : refsInL (fun _ => False) (args ++ caps)) (hn : noTree v = true) (hk : runP P c nt X p (st.put? d v) k) : runP P c nt X (.alt i ⟨d, none, .callv fs xs⟩ p .done) st k :=
  runP_view (stF := { st with fixed := [] }) (St.le_refl _) hf (show (srcsOf st.src xs).map (· ++ caps) = some (args ++ caps) by rw [hx]; rfl) hD hr (fun rv m1 ⟨hm, he⟩ => by subst hm; subst he; exact ⟨rfl, hn, hk⟩)
end
theorem runP_le {P : Program} {nt : Nat} {c : Ctx} {st st' : St} {X : List Nat} {i : Nat} {p : Plan} {fs : Src} {xs : List Src} {d : Option Nat} {k : St → Prop} (hstd : c.A = c.B) (hle : St.le st st') (h : runP P c nt X (.alt i ⟨d, none, .callv fs xs⟩ p .done) st' k) : runP P c nt X (.alt i ⟨d, none, .callv fs xs⟩ p .done) st k := by
  refine ⟨?_, trivial⟩
  intro o ρ a w hc hs hch hd hlt
  obtain ⟨ρ', hc', hsub⟩ := hle c ρ a w hstd hc
  obtain ⟨f, vs, hrun, hcalls⟩ := h.1 o ρ' a w hc' hs hch hd hlt
  refine ⟨f, vs, hrun, hcalls.mono ?_⟩
  rintro e w' ⟨v, st2, ρ2, he, hk, hc2, hf, hm, hsz⟩
  refine ⟨v, st2, ρ2, he, hk, hc2, fun q hq hno => hf q hq (fun b o' hX hb => hno b o' hX (hsub _ _ _ hb)), fun b q o' hb => ?_, hsz⟩
  rcases hm b q o' hb with h1 | ⟨hX, h1⟩
  · exact .inl (hsub _ _ _ h1)
  · refine .inr ⟨hX, h1.imp id ?_⟩
    rintro ⟨b0, hX0, o2, h2⟩
    exact ⟨b0, hX0, o2, hsub _ _ _ h2⟩
end Go.SX
