/- SX, part O: rows whose capacity is told: copy, clear, append in place, append of zeros. -/
import Derived.Test.YtifpfpiljionmaaDoorSxI
import Derived.Test.YtifpfpiljionmaaDoorSxM
import Derived.Lib.Overlaps
import Derived.Lib.SliceRun
import Derived.Laws.StructEq
set_option linter.unusedVariables false
set_option linter.unusedSimpArgs false
namespace Go.SX
open Go

/-- A row of one's own, its capacity told or not. -/
def ownAt : AV → Option (Nat × Nat × Nat × Nat)
  | .own b sz lo n => some (b, sz, lo, n)
  | .ownc b sz lo n _ => some (b, sz, lo, n)
  | _ => none

def asOwn : AV → AV
  | .ownc b sz lo n _ => .own b sz lo n
  | x => x

section
variable {P : Program} {c : Ctx} {nt : Nat} {st : St} {ρ : Map} {a : Act} {w : World} {o : Oper}

theorem VRel.asOwn {Own : Nat → Prop} {x : AV} {v : Value} (h : VRel w Own ρ x v) : VRel w Own ρ (asOwn x) v := by
  cases x <;> first | exact h | skip
  obtain ⟨k, o, h1, rfl, h2, h3⟩ := h.ownc_inv
  exact .own h1 h2 h3

theorem VRel.at_ {Own : Nat → Prop} {x : AV} {v : Value} {b sz lo n : Nat} (h : VRel w Own ρ x v) (hx : ownAt x = some (b, sz, lo, n)) (hn : 0 < n) :
    ∃ k o cap, ρ b = some (k, o) ∧ v = .slice (some ⟨k, o + lo * sz, none⟩) n cap ∧ n ≤ cap ∧ ∀ cur ty fr, w.heap[k]? = some (.cells cur ty fr) → o + (lo + cap) * sz ≤ cur.size := by
  cases x <;> simp only [ownAt] at hx <;> try (cases hx; done)
  · injection hx with hx; injection hx with h1 hx; injection hx with h2 hx; injection hx with h3 h4
    subst h1; subst h2; subst h3; subst h4
    rcases h.own_inv with ⟨_, _, h0⟩ | ⟨_, _, h0, _⟩ | ⟨k, o, cap, hρ, hv, hn, hr⟩
    · omega
    · omega
    · exact ⟨k, o, cap, hρ, hv, hn, hr⟩
  · injection hx with hx; injection hx with h1 hx; injection hx with h2 hx; injection hx with h3 h4
    subst h1; subst h2; subst h3; subst h4
    obtain ⟨k, o, h1, h2, h3, h4⟩ := h.ownc_inv
    exact ⟨k, o, _, h1, h2, h3, h4⟩

theorem isB_spec {b : Builtin} {xs : List Src} (h : isB b o xs = true) : ∃ cl, o.op = .call cl ∧ cl.callee = .builtin b ∧ okL cl.args.toList xs = true ∧ ∀ i, argT o i = cl.argTypes[i]? := by
  unfold isB at h
  split at h <;> try (cases h; done)
  rename_i cl ho
  simp only [Bool.and_eq_true] at h
  obtain ⟨h1, h2⟩ := h
  split at h1 <;> try (cases h1; done)
  rename_i b' hb
  simp only [beq_iff_eq] at h1
  subst h1
  exact ⟨cl, ho, hb, h2, fun i => by unfold argT; rw [ho]⟩

theorem okL1 {l : List Operand} {x : Src} (h : okL l [x] = true) : ∃ y, l = [y] ∧ srcOK y x = true := by
  match l, h with
  | [p], h => simp only [okL, Bool.and_eq_true] at h; exact ⟨p, rfl, h.1⟩
  | [], h => simp [okL] at h
  | p :: q :: r, h => simp [okL] at h

theorem okL2 {l : List Operand} {x y : Src} (h : okL l [x, y] = true) : ∃ p q, l = [p, q] ∧ srcOK p x = true ∧ srcOK q y = true := by
  match l, h with
  | [p, q], h => simp only [okL, Bool.and_eq_true] at h; exact ⟨p, q, rfl, h.1, h.2.1⟩
  | [], h => simp [okL] at h
  | [p], h => simp [okL] at h
  | p :: q :: r :: s, h => simp [okL] at h

theorem isSliceOf_spec {t : Option TypeId} {ty : TypeId} (h : isSliceOf P t ty = true) : ∃ t', t = some t' ∧ P.underlying t' = some (.slice ty) := by
  unfold isSliceOf at h
  split at h <;> try (cases h; done)
  rename_i t'
  split at h <;> try (cases h; done)
  rename_i e he
  simp only [beq_iff_eq] at h
  subst h
  exact ⟨t', rfl, he⟩

theorem sized_spec {ty : TypeId} {sz bytes : Nat} {zero : Bool} (h : sized P ty sz bytes zero = true) : ∃ i, P.info? ty = some i ∧ i.size = sz ∧ i.bytes = bytes ∧ 0 < sz ∧ 0 < bytes ∧ (zero = true → ∃ z, i.zero = some z ∧ z.cells.size = sz ∧ ∀ u ∈ z.cells.toList, one u = true) := by
  unfold sized at h
  split at h <;> try (cases h; done)
  rename_i i hi
  simp only [Bool.and_eq_true, beq_iff_eq, bne_iff_ne, Bool.or_eq_true, Bool.not_eq_true'] at h
  obtain ⟨⟨⟨⟨h1, h2⟩, h3⟩, h4⟩, h5⟩ := h
  refine ⟨i, hi, h1, h2, by omega, by omega, fun hz => ?_⟩
  rcases h5 with h5 | h5
  · rw [hz] at h5; cases h5
  · split at h5 <;> try (cases h5; done)
    rename_i z hzz
    simp only [Bool.and_eq_true, beq_iff_eq] at h5
    exact ⟨z, hzz, h5.1, List.all_eq_true.1 h5.2⟩

/-- The cells of a part of a row of one's own. -/
theorem own_cells (h : Conc c st ρ a w) {b ty sz lo m k o' : Nat} {es : List (List AV)} (hb : look st.mem b = some (.arr ty sz es)) (hρ : ρ b = some (k, o')) (hlo : lo + m ≤ es.length) (hs : 0 < sz) :
    ∃ news : List Value, news.length = m * sz ∧ (∀ w' : World, w'.heap = w.heap → (loadCells ⟨k, o' + lo * sz, none⟩ (m * sz)).run P w' = .ok news.toArray w') ∧
      (∀ u ∈ news, one u = true) ∧ (∀ e ∈ (es.drop lo).take m, e.length = sz) ∧ ∀ i j x, cellAt ((es.drop lo).take m) i j = some x → ∃ u, news[i * sz + j]? = some u ∧ TRel w (OwnBy c.A ρ) x u := by
  have hB := h.mem b _ hb
  simp only [BRel, hρ] at hB
  obtain ⟨cur, hh, hlen, hsz, hcell⟩ := hB
  have hmul : (lo + m) * sz ≤ es.length * sz := Nat.mul_le_mul_right sz hlo
  rw [Nat.add_mul] at hmul
  have hnl : ((cur.toList.drop (o' + lo * sz)).take (m * sz)).length = m * sz := by simp; omega
  have hat : ∀ p, p < m * sz → ((cur.toList.drop (o' + lo * sz)).take (m * sz))[p]? = cur[o' + lo * sz + p]? := fun p hp => by
    rw [List.getElem?_take_of_lt hp, List.getElem?_drop]; simp
  have hpart : ∀ i j x, cellAt ((es.drop lo).take m) i j = some x → i < m ∧ j < sz ∧ cellAt es (lo + i) j = some x := by
    intro i j x hx
    simp only [cellAt] at hx ⊢
    obtain ⟨e, he, hj⟩ := Option.bind_eq_some_iff.1 hx
    have hin : i < m := by
      rcases Nat.lt_or_ge i m with h1 | h1
      · exact h1
      · rw [List.getElem?_eq_none (by simp; omega)] at he; cases he
    rw [List.getElem?_take_of_lt hin, List.getElem?_drop] at he
    have hl := hlen e (List.mem_of_getElem? he)
    refine ⟨hin, ?_, by rw [he]; exact hj⟩
    rcases Nat.lt_or_ge j e.length with h1 | h1
    · omega
    · rw [List.getElem?_eq_none h1] at hj; cases hj
  refine ⟨(cur.toList.drop (o' + lo * sz)).take (m * sz), hnl, fun w' hw' => ?_, fun u hu => ?_, fun e he => hlen e (List.mem_of_mem_drop (List.mem_of_mem_take he)), fun i j x hx => ?_⟩
  · have := run_loadCells_list (P := P) w' ⟨k, o' + lo * sz, none⟩ ((cur.toList.drop (o' + lo * sz)).take (m * sz)) (fun j v hv => by
      have hj : j < m * sz := by
        rcases Nat.lt_or_ge j (m * sz) with h1 | h1
        · exact h1
        · rw [List.getElem?_eq_none (by omega)] at hv; cases hv
      rw [hat j hj] at hv
      rw [add_none]
      simp only [World.cell?, hw', hh]
      rw [if_neg (by simp), hv])
    rw [hnl] at this
    exact this
  · obtain ⟨p, hp, rfl⟩ := List.mem_iff_getElem.1 hu
    rw [hnl] at hp
    have hdiv : p / sz < m := Nat.div_lt_of_lt_mul (by rwa [Nat.mul_comm])
    have hmod : p % sz < sz := Nat.mod_lt _ hs
    have hi : lo + p / sz < es.length := by omega
    have hl := hlen _ (List.getElem_mem hi)
    obtain ⟨v, hv, h1, _⟩ := hcell (lo + p / sz) (p % sz) _ (show cellAt es (lo + p / sz) (p % sz) = some ((es[lo + p / sz])[p % sz]'(by omega)) by simp only [cellAt, List.getElem?_eq_getElem hi, Option.bind_some]; exact List.getElem?_eq_getElem (by omega))
    have h2 := hat p hp
    have hpp : p / sz * sz + p % sz = p := by rw [Nat.mul_comm]; exact Nat.div_add_mod p sz
    rw [show o' + ((lo + p / sz) * sz + p % sz) = o' + lo * sz + p from by rw [Nat.add_mul]; omega, ← h2, List.getElem?_eq_getElem (by omega)] at hv
    injection hv with hv
    rw [hv]; exact h1
  · obtain ⟨hi, hj, hx'⟩ := hpart i j x hx
    obtain ⟨u, hu, _, ht⟩ := hcell _ _ _ hx'
    have hle : (i + 1) * sz ≤ m * sz := Nat.mul_le_mul_right sz hi
    rw [Nat.add_mul, Nat.one_mul] at hle
    exact ⟨u, by rw [hat _ (by omega), ← hu]; congr 1; rw [Nat.add_mul]; omega, ht⟩

/-- A part of a row of one's own is written over (or behind its end). -/
theorem Conc.over (h : Conc c st ρ a w) {b ty sz lo k o' : Nat} {es ys : List (List AV)} (hb : look st.mem b = some (.arr ty sz es)) (hρ : ρ b = some (k, o')) (hs : 0 < sz) (hlo : lo ≤ es.length) (hys : ∀ e ∈ ys, e.length = sz)
    {cur : Array Value} {tyb : TypeId} (hh : w.heap[k]? = some (.cells cur tyb (0, 0))) (hfit : o' + (lo + ys.length) * sz ≤ cur.size) {news : List Value} (hnl : news.length = ys.length * sz) (h1 : ∀ u ∈ news, one u = true)
    (hcell : ∀ i j x, cellAt ys i j = some x → ∃ u, news[i * sz + j]? = some u ∧ TRel w (OwnBy c.A ρ) x u) :
    Conc c { st with mem := upd st.mem b (.arr ty sz (es.take lo ++ ys ++ es.drop (lo + ys.length))) } ρ a (w.setRow k (cur.toList.take (o' + lo * sz) ++ news ++ cur.toList.drop (o' + lo * sz + news.length)).toArray) := by
  have hB := h.mem b _ hb
  simp only [BRel, hρ] at hB
  obtain ⟨cur2, hh2, hlen, hsz, hcell0⟩ := hB
  have hc2 : cur2 = cur ∧ tyb = ty := by rw [hh] at hh2; injection hh2 with hh2; injection hh2 with h1 h2 _; exact ⟨h1.symm, h2⟩
  obtain ⟨rfl, rfl⟩ := hc2
  rw [Nat.add_mul] at hfit
  have hsplice := splice_get cur2.toList (o' + lo * sz) news (by simp; omega)
  have hget : ∀ p, ((cur2.toList.take (o' + lo * sz) ++ news ++ cur2.toList.drop (o' + lo * sz + news.length)).toArray)[p]? = if o' + lo * sz ≤ p ∧ p < o' + lo * sz + news.length then news[p - (o' + lo * sz)]? else cur2[p]? := by
    intro p; have := hsplice p; simpa using this
  have hszc : ((cur2.toList.take (o' + lo * sz) ++ news ++ cur2.toList.drop (o' + lo * sz + news.length)).toArray).size = cur2.size := by simp; omega
  generalize (cur2.toList.take (o' + lo * sz) ++ news ++ cur2.toList.drop (o' + lo * sz + news.length)).toArray = cur' at hget hszc
  have hset := setRow_get w k cur2 cur' tyb _ hh
  refine h.write hb hρ hh hset hszc (fun k' hk' => setRow_far w k cur' k' hk') (setRow_size w k cur') rfl rfl rfl (fun hk => ?_)
  simp only [BRel, hρ]
  have hlt : (es.take lo ++ ys ++ es.drop (lo + ys.length)).length = max es.length (lo + ys.length) := by simp; omega
  refine ⟨cur', hset, fun e he => ?_, ?_, fun i j x hx => ?_⟩
  · rcases List.mem_append.1 he with he | he
    · rcases List.mem_append.1 he with he | he
      · exact hlen e (List.mem_of_mem_take he)
      · exact hys e he
    · exact hlen e (List.mem_of_mem_drop he)
  · rw [hlt, hszc]
    rcases Nat.le_total es.length (lo + ys.length) with h2 | h2
    · rw [Nat.max_eq_right h2, Nat.add_mul]; omega
    · rw [Nat.max_eq_left h2]; exact hsz
  · obtain ⟨e, he, hj⟩ := Option.bind_eq_some_iff.1 hx
    have hel : e.length = sz := by
      have := List.mem_of_getElem? he
      rcases List.mem_append.1 this with h2 | h2
      · rcases List.mem_append.1 h2 with h2 | h2
        · exact hlen e (List.mem_of_mem_take h2)
        · exact hys e h2
      · exact hlen e (List.mem_of_mem_drop h2)
    have hjs : j < sz := by
      rcases Nat.lt_or_ge j e.length with h2 | h2
      · omega
      · rw [List.getElem?_eq_none h2] at hj; cases hj
    have htl : (es.take lo).length = lo := by simp; omega
    by_cases hi1 : i < lo
    · rw [List.append_assoc, List.getElem?_append_left (by omega), List.getElem?_take_of_lt hi1] at he
      obtain ⟨u, hu, h1u, htu⟩ := hcell0 i j x (by simp [cellAt, he, hj])
      have hle : (i + 1) * sz ≤ lo * sz := Nat.mul_le_mul_right sz hi1
      rw [Nat.add_mul, Nat.one_mul] at hle
      exact ⟨u, by rw [hget, if_neg (by omega)]; exact hu, h1u, htu.keep hk.toKeeps⟩
    · by_cases hi2 : i < lo + ys.length
      · rw [List.append_assoc, List.getElem?_append_right (by omega), htl, List.getElem?_append_left (by omega)] at he
        obtain ⟨u, hu, htu⟩ := hcell (i - lo) j x (by simp [cellAt, he, hj])
        have hle : (i - lo + 1) * sz ≤ ys.length * sz := Nat.mul_le_mul_right sz (by omega)
        rw [Nat.add_mul, Nat.one_mul] at hle
        have hil : i * sz = lo * sz + (i - lo) * sz := by rw [← Nat.add_mul]; congr 1; omega
        refine ⟨u, ?_, h1 u (List.mem_of_getElem? hu), htu.keep hk.toKeeps⟩
        rw [hget, if_pos (by omega), ← hu]
        congr 1; omega
      · rw [List.getElem?_append_right (by simp; omega)] at he
        simp only [List.length_append, htl, List.getElem?_drop] at he
        rw [show lo + ys.length + (i - (lo + ys.length)) = i from by omega] at he
        obtain ⟨u, hu, h1u, htu⟩ := hcell0 i j x (by simp [cellAt, he, hj])
        have hle : (lo + ys.length) * sz ≤ i * sz := Nat.mul_le_mul_right sz (by omega)
        rw [Nat.add_mul] at hle
        exact ⟨u, by rw [hget, if_neg (by omega)]; exact hu, h1u, htu.keep hk.toKeeps⟩

/-- copy(x, y): the first 'm' elements of y go over x's first ones. -/
theorem extK_copy {X : Nat → Prop} {ty sz bytes : Nat} {x y : Src} {d : Option Nat} {k : St → Prop} {p q : AV} {b lo n b2 lo2 n2 m tya tyb : Nat} {es es2 : List (List AV)} (hx : st.src x = some p) (hp : ownAt p = some (b, sz, lo, n)) (hy : st.src y = some q) (hq : ownAt q = some (b2, sz, lo2, n2))
    (hb : look st.mem b = some (.arr tya sz es)) (hb2 : look st.mem b2 = some (.arr tyb sz es2)) (hm : m = min n2 n) (hm0 : 0 < m) (hlo : lo ≤ es.length) (hlo2 : lo2 + m ≤ es2.length) (hX : X b)
    (hk : k (St.put? { st with mem := upd st.mem b (.arr tya sz (es.take lo ++ (es2.drop lo2).take m ++ es.drop (lo + m))) } d (iv m))) : ExtK P c nt X 1 [ty, sz, bytes] [x, y] d st k := by
  intro o ρ a w h _ hc hd hlt
  simp only [chkExt, Bool.and_eq_true] at hc
  obtain ⟨⟨h1, h2⟩, h3⟩ := hc
  obtain ⟨cl, ho, hcal, hargs, hat⟩ := isB_spec h1
  rw [hat] at h2
  obtain ⟨t, ht, hu⟩ := isSliceOf_spec h2
  obtain ⟨i, hi, hisz, _, hs0, _, _⟩ := sized_spec h3
  obtain ⟨p', q', hl, hp', hq'⟩ := okL2 hargs
  have hargs' : cl.args = #[p', q'] := by rw [← Array.toList_inj]; exact hl
  obtain ⟨k1, o1, c1, hρ1, hv1, hn1, hr1⟩ := (h.srcs _ _ _ hp' hx).at_ hp (by omega)
  obtain ⟨k2, o2, c2, hρ2, hv2, hn2, hr2⟩ := (h.srcs _ _ _ hq' hy).at_ hq (by omega)
  obtain ⟨news, hnl, hload, hone, hel, hcell⟩ := own_cells (P := P) h hb2 hρ2 hlo2 hs0
  have hB := h.mem b _ hb
  simp only [BRel, hρ1] at hB
  obtain ⟨cur, hh, _, hsc, _⟩ := hB
  have hfit0 := hr1 _ _ _ hh
  have hys : ((es2.drop lo2).take m).length = m := by simp; omega
  have hcapm : (lo + m) * sz ≤ (lo + c1) * sz := Nat.mul_le_mul_right sz (by omega)
  have hfx : o1 + lo * sz + m * sz ≤ cur.size := by simp only [Nat.add_mul] at hcapm hfit0; omega
  have hst := run_storeCells_at (P := P) k1 (o1 + lo * sz) tya news 0 cur w hh (by omega) (fun v hv => oneCell_of (hone v hv))
  simp only [Nat.add_zero] at hst
  have hov := h.over hb hρ1 hs0 hlo hel hh (by rw [hys, Nat.add_mul]; omega) (by rw [hys]; exact hnl) hone hcell
  rw [hys] at hov
  have hlw := hload w rfl
  refine ⟨_, .value (.int .i64 m), _, ρ, .int .i64 m, ?_, .inl rfl, hov.put? (d := o.dst) (fun q hq => hlt q (by rw [← hd]; exact hq)) (.tree (.lit rfl)), by rw [hd]; exact hk, by rw [setRow_size]; exact Nat.le_refl _, fun q hq hno => setRow_far w k1 _ q (by rintro rfl; exact hno b o1 hX hρ1), fun b' q o' hb' => .inl hb'⟩
  have hmin : Nat.min n2 n = m := hm.symm
  simp [execOp, ho, resolve, hcal, hargs', invoke, builtin, hv1, hv2, Builtin.copy_, ht, und hu, Builtin.lenOf, Builtin.firstCells, szOf hi, hisz, hmin, hlw, hst, goInt]

/-- clear(x): what lies there (and behind it) is told no more. -/
theorem extK_clear {X : Nat → Prop} {ty sz bytes : Nat} {x : Src} {d : Option Nat} {k : St → Prop} {p : AV} {b lo n tya : Nat} {es : List (List AV)} (hx : st.src x = some p) (hp : ownAt p = some (b, sz, lo, n)) (hn0 : 0 < n)
    (hb : look st.mem b = some (.arr tya sz es)) (hX : X b) (hk : k (St.put? { st with mem := upd st.mem b (.arr tya sz (es.take lo)) } d (.tup []))) : ExtK P c nt X 2 [ty, sz, bytes] [x] d st k := by
  intro o ρ a w h _ hc hd hlt
  simp only [chkExt, Bool.and_eq_true] at hc
  obtain ⟨⟨h1, h2⟩, h3⟩ := hc
  obtain ⟨cl, ho, hcal, hargs, hat⟩ := isB_spec h1
  rw [hat] at h2
  obtain ⟨t, ht, hu⟩ := isSliceOf_spec h2
  obtain ⟨i, hi, hisz, _, hs0, _, hz⟩ := sized_spec h3
  obtain ⟨z, hz, hzs, hz1⟩ := hz rfl
  obtain ⟨p', hl, hp'⟩ := okL1 hargs
  have hargs' : cl.args = #[p'] := by rw [← Array.toList_inj]; exact hl
  obtain ⟨k1, o1, c1, hρ1, hv1, hn1, hr1⟩ := (h.srcs _ _ _ hp' hx).at_ hp hn0
  have hB := h.mem b _ hb
  simp only [BRel, hρ1] at hB
  obtain ⟨cur, hh, hlen, hsc, hcell⟩ := hB
  have hfit0 := hr1 _ _ _ hh
  have hcapm : (lo + n) * sz ≤ (lo + c1) * sz := Nat.mul_le_mul_right sz (by omega)
  have hzl : (Builtin.zeroCells z.cells n).toList.length = n * sz := by rw [Array.length_toList, size_zeroCells, hzs]
  have hfx : o1 + lo * sz + n * sz ≤ cur.size := by simp only [Nat.add_mul] at hcapm hfit0; omega
  have hst := run_storeCells_at (P := P) k1 (o1 + lo * sz) tya (Builtin.zeroCells z.cells n).toList 0 cur w hh (by omega) (fun v hv => oneCell_of (by
    simp only [Builtin.zeroCells, Array.toList_map, List.mem_map] at hv
    obtain ⟨q, hq, rfl⟩ := hv
    refine hz1 _ ?_
    have hlt : q % z.cells.size < z.cells.size := Nat.mod_lt _ (by omega)
    rw [getElem!_pos z.cells (q % z.cells.size) hlt]
    exact Array.getElem_mem_toList hlt))
  simp only [Nat.add_zero] at hst
  generalize hnews : (Builtin.zeroCells z.cells n).toList = news at hst hzl
  have hsplice := splice_get cur.toList (o1 + lo * sz) news (by simp; omega)
  have hget : ∀ p, ((cur.toList.take (o1 + lo * sz) ++ news ++ cur.toList.drop (o1 + lo * sz + news.length)).toArray)[p]? = if o1 + lo * sz ≤ p ∧ p < o1 + lo * sz + news.length then news[p - (o1 + lo * sz)]? else cur[p]? := by
    intro p; have := hsplice p; simpa using this
  have hszc : ((cur.toList.take (o1 + lo * sz) ++ news ++ cur.toList.drop (o1 + lo * sz + news.length)).toArray).size = cur.size := by simp; omega
  generalize (cur.toList.take (o1 + lo * sz) ++ news ++ cur.toList.drop (o1 + lo * sz + news.length)).toArray = cur' at hget hszc hst
  have hset := setRow_get w k1 cur cur' tya _ hh
  have hw := h.write (blk := .arr tya sz (es.take lo)) hb hρ1 hh hset hszc (fun k' hk' => setRow_far w k1 cur' k' hk') (setRow_size w k1 cur') rfl rfl rfl (fun hk => by
    simp only [BRel, hρ1]
    refine ⟨cur', hset, fun e he => hlen e (List.mem_of_mem_take he), ?_, fun i j x hx => ?_⟩
    · rw [hszc]
      have : (es.take lo).length * sz ≤ es.length * sz := Nat.mul_le_mul_right _ (by simp; omega)
      omega
    · obtain ⟨e, he, hj⟩ := Option.bind_eq_some_iff.1 hx
      have hil : i < lo := by
        rcases Nat.lt_or_ge i lo with h1 | h1
        · exact h1
        · rw [List.getElem?_eq_none (by simp; omega)] at he; cases he
      rw [List.getElem?_take_of_lt hil] at he
      have hel := hlen e (List.mem_of_getElem? he)
      have hjs : j < sz := by
        rcases Nat.lt_or_ge j e.length with h2 | h2
        · omega
        · rw [List.getElem?_eq_none h2] at hj; cases hj
      obtain ⟨u, hu, h1u, htu⟩ := hcell i j x (by simp [cellAt, he, hj])
      have hle : (i + 1) * sz ≤ lo * sz := Nat.mul_le_mul_right sz hil
      rw [Nat.add_mul, Nat.one_mul] at hle
      exact ⟨u, by rw [hget, if_neg (by omega)]; exact hu, h1u, htu.keep hk.toKeeps⟩)
  refine ⟨_, .value (.tuple #[]), _, ρ, .tuple #[], ?_, .inl rfl, hw.put? (d := o.dst) (fun q hq => hlt q (by rw [← hd]; exact hq)) undef_rel, by rw [hd]; exact hk, by rw [setRow_size]; exact Nat.le_refl _, fun q hq hno => setRow_far w k1 _ q (by rintro rfl; exact hno b o1 hX hρ1), fun b' q o' hb' => .inl hb'⟩
  have hnz : ¬ n = 0 := by omega
  obtain ⟨n', rfl⟩ : ∃ n', n = n' + 1 := ⟨n - 1, by omega⟩
  simp [execOp, ho, resolve, hcal, hargs', invoke, builtin, hv1, Builtin.clear_, ht, und hu, zeroValue, typeInfo, hi, hz, hnews, hst]

/-- append(x, y..) where there is room. -/
theorem extK_appendRoom {X : Nat → Prop} {ty sz bytes : Nat} {x y : Src} {d : Option Nat} {k : St → Prop} {q : AV} {b lo n cap tya : Nat} {es ys : List (List AV)} (hx : st.src x = some (.ownc b sz lo n cap)) (hy : st.src y = some q) (hq : rowOf st (asOwn q) = some ys) (hqs : ys = [] ∨ rowSz (asOwn q) = some sz)
    (hb : look st.mem b = some (.arr tya sz es)) (hroom : n + ys.length ≤ cap) (hlo : lo + n ≤ es.length) (hX : X b)
    (hk : k (St.put? { st with mem := upd st.mem b (.arr tya sz (es.take (lo + n) ++ ys ++ es.drop (lo + n + ys.length))) } d (.ownc b sz lo (n + ys.length) cap))) : ExtK P c nt X 4 [ty, sz, bytes] [x, y] d st k := by
  intro o ρ a w h _ hc hd hlt
  simp only [chkExt, Bool.and_eq_true] at hc
  obtain ⟨⟨⟨h1, h2⟩, h3⟩, h4⟩ := hc
  obtain ⟨cl, ho, hcal, hargs, hat⟩ := isB_spec h1
  rw [hat] at h2 h4
  obtain ⟨t, ht, hu⟩ := isSliceOf_spec h2
  obtain ⟨t', ht', hu'⟩ := isSliceOf_spec h4
  obtain ⟨i, hi, hisz, _, hs0, _, _⟩ := sized_spec h3
  obtain ⟨p', q', hl, hp', hq'⟩ := okL2 hargs
  have hargs' : cl.args = #[p', q'] := by rw [← Array.toList_inj]; exact hl
  obtain ⟨k1, o1, hρ1, hv1, hn1, hr1⟩ := (h.srcs _ _ _ hp' hx).ownc_inv
  obtain ⟨A2, c2, hv2, hylen, news, hnl, hnrun, hncell⟩ := row_cells (P := P) h hs0 (h.srcs _ _ _ hq' hy).asOwn hq hqs
  have hone : ∀ u ∈ news, one u = true := by
    intro u hu
    obtain ⟨p, hp, rfl⟩ := List.mem_iff_getElem.1 hu
    have hdiv : p / sz < ys.length := Nat.div_lt_of_lt_mul (by rw [Nat.mul_comm]; omega)
    have hmod : p % sz < sz := Nat.mod_lt _ hs0
    have hlen := hylen _ (List.getElem_mem hdiv)
    obtain ⟨u, hu, h1, _⟩ := hncell (p / sz) (p % sz) _ (show cellAt ys (p / sz) (p % sz) = some ((ys[p / sz])[p % sz]'(by omega)) by simp only [cellAt, List.getElem?_eq_getElem hdiv, Option.bind_some]; exact List.getElem?_eq_getElem (by omega))
    rw [show p / sz * sz + p % sz = p from by rw [Nat.mul_comm]; exact Nat.div_add_mod p sz, List.getElem?_eq_getElem hp] at hu
    injection hu with hu; rw [hu]; exact h1
  have hB := h.mem b _ hb
  simp only [BRel, hρ1] at hB
  obtain ⟨cur, hh, _, hsc, _⟩ := hB
  have hfit0 := hr1 _ _ _ hh
  have hcapm : (lo + (n + ys.length)) * sz ≤ (lo + cap) * sz := Nat.mul_le_mul_right sz (by omega)
  have hfit : o1 + (lo + n + ys.length) * sz ≤ cur.size := by rw [show lo + n + ys.length = lo + (n + ys.length) from by omega]; omega
  have hr := run_append_room (P := P) (ty := o.type) (off := o1 + lo * sz) (n := n) (cap := cap) hu hu' hi hv2 (news := news) (by rw [hisz]; exact hnl) (by rw [hisz]; exact hnrun w rfl) hone hroom hh (by rw [hisz]; simp only [Nat.add_mul] at hfit; omega) cl.argTypes ht ht'
  rw [hisz, show o1 + lo * sz + n * sz = o1 + (lo + n) * sz from by rw [Nat.add_mul]; omega] at hr
  have hov := h.over hb hρ1 hs0 hlo hylen hh hfit hnl hone (fun i j x hx => by obtain ⟨u, hu, _, ht⟩ := hncell i j x hx; exact ⟨u, hu, ht⟩)
  refine ⟨_, .value _, _, ρ, _, ?_, .inl rfl, hov.put? (d := o.dst) (fun q hq => hlt q (by rw [← hd]; exact hq)) (x := .ownc b sz lo (n + ys.length) cap) (.ownc hρ1 hroom (fun cur1 ty1 fr1 hh1 => ?_)), by rw [hd]; exact hk, by rw [setRow_size]; exact Nat.le_refl _, fun q hq hno => setRow_far w k1 _ q (by rintro rfl; exact hno b o1 hX hρ1), fun b' q o' hb' => .inl hb'⟩
  · simp [execOp, ho, resolve, hcal, hargs', invoke, builtin, hv1, hr]
  · rw [setRow_get w k1 cur _ _ _ hh] at hh1
    injection hh1 with hh1; injection hh1 with h1 _ _
    rw [← h1]
    simp only [Nat.add_mul] at hfit0 hfit ⊢
    simp; omega

/-- cap(x). -/
theorem extK_cap {X : Nat → Prop} {x : Src} {d : Option Nat} {k : St → Prop} {b sz lo n cap : Nat} (hx : st.src x = some (.ownc b sz lo n cap)) (hk : k (st.put? d (iv cap))) : ExtK P c nt X 0 [] [x] d st k := by
  intro o ρ a w h _ hc hd hlt
  simp only [chkExt, Bool.and_eq_true] at hc
  obtain ⟨h1, h2⟩ := hc
  obtain ⟨cl, ho, hcal, hargs, hat⟩ := isB_spec h1
  rw [hat] at h2
  split at h2 <;> try (cases h2; done)
  rename_i t ht
  split at h2 <;> try (cases h2; done)
  rename_i e hu
  obtain ⟨p', hl, hp'⟩ := okL1 hargs
  have hargs' : cl.args = #[p'] := by rw [← Array.toList_inj]; exact hl
  obtain ⟨k1, o1, hρ1, hv1, hn1, hr1⟩ := (h.srcs _ _ _ hp' hx).ownc_inv
  refine ⟨_, .value (.int .i64 cap), w, ρ, .int .i64 cap, ?_, .inl rfl, h.put? (d := o.dst) (fun q hq => hlt q (by rw [← hd]; exact hq)) (.tree (.lit rfl)), by rw [hd]; exact hk, Nat.le_refl _, fun _ _ _ => rfl, fun b' q o' hb' => .inl hb'⟩
  simp [execOp, ho, resolve, hcal, hargs', invoke, builtin, hv1, Builtin.cap_, ht, und hu, goInt]

/-- x[l:h:m], for its bounds alone. -/
theorem extK_slice3 {X : Nat → Prop} {x l h m : Src} {d : Option Nat} {k : St → Prop} {p : AV} {b sz lo n L H M : Nat} (hx : st.src x = some p) (hp : ownAt p = some (b, sz, lo, n)) (hn : 0 < n) (hl : st.src l = some (iv L)) (hh : st.src h = some (iv H)) (hm : st.src m = some (iv M)) (h1 : L ≤ H) (h2 : H ≤ M) (h3 : M ≤ n) (hk : k (st.put? d .dead)) : ExtK P c nt X 5 [] [x, l, h, m] d st k := by
  intro o ρ a w hC _ hc hd hlt
  simp only [chkExt] at hc
  split at hc <;> try (cases hc; done)
  rename_i t y l' h' m' a' b' c' d' ho heq
  injection heq with e1 heq; injection heq with e2 heq; injection heq with e3 heq; injection heq with e4 heq
  subst e1; subst e2; subst e3; subst e4
  simp only [Bool.and_eq_true] at hc
  obtain ⟨⟨⟨⟨g1, g2⟩, g3⟩, g4⟩, g5⟩ := hc
  split at g1 <;> try (cases g1; done)
  rename_i e hu
  obtain ⟨i, hi⟩ := Option.isSome_iff_exists.1 g1
  obtain ⟨k1, o1, c1, hρ1, hv1, hn1, hr1⟩ := (hC.srcs _ _ _ g2 hx).at_ hp hn
  obtain ⟨hL, _⟩ := (hC.srcs _ _ _ g3 hl).lit_inv
  obtain ⟨hH, _⟩ := (hC.srcs _ _ _ g4 hh).lit_inv
  obtain ⟨hM, _⟩ := (hC.srcs _ _ _ g5 hm).lit_inv
  let v : Value := .slice (if M = L then some ⟨k1, o1 + lo * sz, none⟩ else (some (⟨k1, o1 + lo * sz, none⟩ : Addr)).map (·.add (L * i.size))) (H - L) (M - L)
  refine ⟨_, .value v, w, ρ, v, ?_, .inl rfl, hC.put? (d := o.dst) (fun q hq => hlt q (by rw [← hd]; exact hq)) .dead, by rw [hd]; exact hk, Nat.le_refl _, fun _ _ _ => rfl, fun b' q o' hb' => .inl hb'⟩
  · simp [v, execOp, ho, hv1, hL, hH, hM, Instr.sliceAt, Instr.slice, und hu, Instr.sliceBounds, Instr.sliceBound, asIntOf, szOf hi, h1, h2, show M ≤ c1 from by omega]

/-- Is a slice nil? -/
theorem extK_isnil {X : Nat → Prop} {x : Src} {d : Option Nat} {k : St → Prop} {sz : Nat} {es : List (List AV)} (hx : st.src x = some (.ro sz es)) (hk : ∀ t, (t = true → es = []) → k (st.put? d (bv t))) : ExtK P c nt X 6 [] [x] d st k := by
  intro o ρ a w h _ hc hd hlt
  simp only [chkExt] at hc
  split at hc <;> try (cases hc; done)
  rename_i t y ty2 a' ho heq
  injection heq with e1 heq; subst e1
  simp only [Bool.and_eq_true] at hc
  obtain ⟨g1, g2⟩ := hc
  split at g1 <;> try (cases g1; done)
  rename_i e hu
  obtain ⟨A, cap, hv, _, hrow⟩ := (h.srcs _ _ _ g2 hx).ro_inv
  have hA : A.isNone = true → es = [] := fun hA => by
    by_cases he : es = []
    · exact he
    · obtain ⟨ad, rfl, _⟩ := hrow he
      simp at hA
  have hrun : (binOp .eql t (.slice A es.length cap) (.slice none 0 0)).run P w = .ok (.bool A.isNone) w := Lib.run_eql_slice_nil w t e A es.length cap 0 0 hu
  have hg : ∀ q, (eqGuard .eql t y q (.slice A es.length cap) (.slice none 0 0)).run P w = .ok () w := fun q => rfl
  refine ⟨st.put? d (bv A.isNone), .value (.bool A.isNone), w, ρ, .bool A.isNone, ?_, .inl rfl, ?_, hk _ hA, Nat.le_refl _, fun _ _ _ => rfl, fun b' q o' hb' => .inl hb'⟩
  · unfold execOp
    rw [ho]
    have hc0 : a.eval (.const (.slice none 0 0)) = .slice none 0 0 := rfl
    simp only [hv, hc0, Sem.run_bind, hg, Result.andThen_ok, hrun, Sem.run_pure]
  · rw [← hd]; exact h.put? (d := o.dst) (fun q hq => hlt q (by rw [← hd]; exact hq)) (x := bv A.isNone) (.tree (.lit rfl))

/-- Structs that are the same, of cells that lead nowhere. -/
theorem extK_same {X : Nat → Prop} {x y : Src} {d : Option Nat} {k : St → Prop} {t : TypeId} {vs : List Value} (hx : st.src x = some (.agg (vs.map AV.lit))) (hy : st.src y = some (.agg (vs.map AV.lit)))
    (hg : P.eqGuardType P.depth t = false) (hrun : ∀ w : World, (binOp .eql t (.agg vs.toArray) (.agg vs.toArray)).run P w = .ok (.bool true) w) (hk : k (st.put? d (bv true))) : ExtK P c nt X 8 [t] [x, y] d st k := by
  intro o ρ a w h _ hc hd hlt
  simp only [chkExt] at hc
  split at hc <;> try (cases hc; done)
  rename_i t' y' z' p' a' b' ho heq
  injection heq with e1 heq; injection heq with e2 heq; subst e1; subst e2
  simp only [Bool.and_eq_true, beq_iff_eq] at hc
  obtain ⟨⟨rfl, g1⟩, g2⟩ := hc
  have key : ∀ {u : Value}, VRel w (OwnBy c.A ρ) ρ (.agg (vs.map AV.lit)) u → u = .agg vs.toArray := fun {u} hv => by
    obtain ⟨us, hu, hul, hus⟩ := hv.agg_inv
    rw [hu]; congr 1
    apply Array.ext
    · simpa using hul.symm
    · intro i h1 h2
      have h3 : i < vs.length := by simpa using h2
      obtain ⟨e, _⟩ := (hus i (.lit vs[i]) (by simp [h3])).lit_inv
      simp [Array.getD, h1] at e
      simpa using e
  have hv1 := key (h.srcs _ _ _ g1 hx)
  have hv2 := key (h.srcs _ _ _ g2 hy)
  refine ⟨st.put? d (bv true), .value (.bool true), w, ρ, .bool true, ?_, .inl rfl, ?_, hk, Nat.le_refl _, fun _ _ _ => rfl, fun b' q o' hb' => .inl hb'⟩
  · unfold execOp
    rw [ho]
    simp only [hv1, hv2, Sem.run_bind, run_eqGuard_agg _ _ _ _ _ _ _ hg, Result.andThen_ok, hrun, Sem.run_pure]
  · rw [← hd]; exact h.put? (d := o.dst) (fun q hq => hlt q (by rw [← hd]; exact hq)) (x := bv true) (.tree (.lit rfl))

theorem run_append_zeros {t t' ty el : TypeId} {kk : IntKind} {i : TypeInfo} {z : Value} (ht : P.underlying t = some (.slice el)) (ht' : P.underlying t' = some (.int kk)) (hi : P.info? el = some i) (hz : i.zero = some z) {n cap m : Nat} {B : Option Addr}
    {olds : List Value} (holds : ∀ w' : World, w'.heap = w.heap → (Builtin.firstCells i.size n (.slice B n cap)).run P w' = .ok olds.toArray w')
    (hroom : cap < n + m) (hb : (n + m) * i.bytes ≤ 140737488355328) (hb0 : i.bytes ≠ 0) (hs0 : i.size ≠ 0) (hm : 0 < m) (ats : Array TypeId) (h0 : ats[0]? = some t) (h2 : ats[1]? = some t') :
    (Builtin.append_ ats ty #[.slice B n cap, .int .i64 m]).run P w = .ok (.slice (some ⟨w.heap.size, 0, none⟩) (n + m) (grownCap w (n + m) cap el)) (w.drew.alloc (.cells (olds.toArray ++ Builtin.zeroCells z.cells m ++ Builtin.zeroCells z.cells (grownCap w (n + m) cap el - (n + m))) el)) := by
  have hnr : ¬ (n + m ≤ cap) := by omega
  have hfit := growslice_fits hroom hb
  have hle : n + m ≤ 140737488355328 := Nat.le_trans (Nat.le_mul_of_pos_right _ (by omega)) hb
  have h63' : ¬ (9223372036854775807 < ((n : Int) + (m : Int))) := by omega
  have h48' : ¬ (281474976710656 < Builtin.nextslicecap (n + m) cap * i.bytes) := by omega
  have hw : IntKind.i64.wrap (m : Int) = m := wrap_id (by omega) (by omega)
  have hmb : m * i.bytes ≤ 140737488355328 := by have := Nat.mul_le_mul_right i.bytes (show m ≤ n + m by omega); omega
  have hm48 : ¬ ((281474976710656 : Int) < (m : Int) * (i.bytes : Int)) := by
    have h1 : ((m * i.bytes : Nat) : Int) = (m : Int) * (i.bytes : Int) := Int.natCast_mul _ _
    omega
  have hm0 : ¬ ((m : Int) < 0) := by omega
  have hfo := holds w.drew rfl
  have hms : ¬ (m * i.size = 0) := by have := Nat.mul_pos hm (Nat.pos_of_ne_zero hs0); omega
  simp [Builtin.append_, h0, h2, und ht, und ht', sizeOf, typeInfo, zeroValue, hi, hz, Builtin.lenOf, hnr, h63', h48', Question.forced, hfo, newRow, grownCap, asInt, asIntOf, hw, hm48, hm0]
  intro h; exact absurd h hms

/-- append(x, make([]T, m)...) where there is no room: the elements that were there; what lies behind them is not told. -/
theorem extK_appendZeros {X : Nat → Prop} {ty sz bytes id : Nat} {x y : Src} {d : Option Nat} {k : St → Prop} {b lo n cap m tya : Nat} {es : List (List AV)} (hx : st.src x = some (.ownc b sz lo n cap)) (hy : st.src y = some (iv m))
    (hb : look st.mem b = some (.arr tya sz es)) (hroom : cap < n + m) (hm : 0 < m) (hlo : lo + n ≤ es.length) (hbound : (n + m) * bytes ≤ 140737488355328) (hid : look st.mem id = none) (hfx : st.fixed.contains id = false) (hX : X id)
    (hk : k (St.put? { st with mem := upd st.mem id (.arr ty sz ((es.drop lo).take n)) } d (.own id sz 0 (n + m)))) : ExtK P c nt X 3 [ty, sz, bytes] [x, y] d st k := by
  intro o ρ a w h _ hc hd hlt
  simp only [chkExt, Bool.and_eq_true] at hc
  obtain ⟨⟨⟨h1, h2⟩, h3⟩, h4⟩ := hc
  obtain ⟨cl, ho, hcal, hargs, hat⟩ := isB_spec h1
  rw [hat] at h2 h4
  obtain ⟨t, ht, hu⟩ := isSliceOf_spec h2
  split at h4 <;> try (cases h4; done)
  rename_i t' ht'
  split at h4 <;> try (cases h4; done)
  rename_i kk hu'
  obtain ⟨i, hi, hisz, hib, hs0, hb0, hz⟩ := sized_spec h3
  obtain ⟨z, hz, hzs, hz1⟩ := hz rfl
  obtain ⟨p', q', hl, hp', hq'⟩ := okL2 hargs
  have hargs' : cl.args = #[p', q'] := by rw [← Array.toList_inj]; exact hl
  obtain ⟨k1, o1, hρ1, hv1, hn1, hr1⟩ := (h.srcs _ _ _ hp' hx).ownc_inv
  obtain ⟨hv2, _⟩ := (h.srcs _ _ _ hq' hy).lit_inv
  obtain ⟨olds, hol, hload, hone, hel, hcell⟩ := own_cells (P := P) h hb hρ1 hlo hs0
  have hρid : ρ id = none := by
    cases e : ρ id with
    | none => rfl
    | some p => obtain ⟨q, o'⟩ := p; obtain ⟨blk, hl⟩ := h.dom id q o' e; rw [hid] at hl; cases hl
  have hr := run_append_zeros (P := P) (w := w) (ty := o.type) (n := n) (cap := cap) (m := m) (B := some ⟨k1, o1 + lo * sz, none⟩) hu hu' hi hz (olds := olds) (fun w' hw' => by rw [hisz]; simpa [Builtin.firstCells] using hload w' hw') hroom (by rw [hib]; exact hbound) (by omega) (by omega) hm cl.argTypes ht ht'
  have hge := grown_ge w (n + m) cap ty
  have hys : ((es.drop lo).take n).length = n := by simp; omega
  generalize hcells : olds.toArray ++ Builtin.zeroCells z.cells m ++ Builtin.zeroCells z.cells (grownCap w (n + m) cap ty - (n + m)) = cells at hr
  have hcs : cells.size = grownCap w (n + m) cap ty * sz := by
    rw [← hcells]
    simp only [Array.size_append, List.size_toArray, size_zeroCells, hzs, hol]
    rw [← Nat.add_mul, ← Nat.add_mul]; congr 1; omega
  have hcl : ∀ p, p < n * sz → cells[p]? = olds[p]? := fun p hp => by
    rw [← hcells, Array.append_assoc, Array.getElem?_append_left (by simp; omega)]; simp
  have hnew := h.new (b := id) hfx hρid hid (blk := .arr ty sz ((es.drop lo).take n)) (w' := w.drew.alloc (.cells cells ty)) rfl rfl rfl rfl (fun hk => by
    simp only [BRel, if_true]
    refine ⟨cells, push_get w rfl, hel, ?_, fun p j x hx => ?_⟩
    · rw [hys, hcs]
      have : n * sz ≤ grownCap w (n + m) cap ty * sz := Nat.mul_le_mul_right sz (by omega)
      omega
    · obtain ⟨u, hu, htu⟩ := hcell p j x hx
      refine ⟨u, ?_, hone u (List.mem_of_getElem? hu), htu.keep hk.toKeeps⟩
      rw [Nat.zero_add, hcl, hu]
      rcases Nat.lt_or_ge (p * sz + j) (n * sz) with h' | h'
      · exact h'
      · rw [List.getElem?_eq_none (by omega)] at hu; cases hu)
  refine ⟨_, .value _, _, _, _, ?_, .inl rfl, hnew.put? (d := o.dst) (fun q hq => hlt q (by rw [← hd]; exact hq)) (x := .own id sz 0 (n + m)) (v := .slice (some ⟨w.heap.size, 0, none⟩) (n + m) (grownCap w (n + m) cap ty)) ?_, by rw [hd]; exact hk, by show w.heap.size ≤ (w.heap.push _).size; rw [Array.size_push]; omega, fun q hq hno => ?_, fun b' q o' hb' => ?_⟩
  · simp [execOp, ho, resolve, hcal, hargs', invoke, builtin, hv1, hv2, hr]
  · have := VRel.own (w := w.drew.alloc (.cells cells ty)) (Own := OwnBy c.A (fun x => if x = id then some (w.heap.size, 0) else ρ x)) (ρ := fun x => if x = id then some (w.heap.size, 0) else ρ x) (b := id) (sz := sz) (lo := 0) (n := n + m) (k := w.heap.size) (o := 0) (cap := grownCap w (n + m) cap ty) (by simp) hge (fun cur tyq fr hh => by
      rw [push_get w rfl] at hh
      injection hh with hh; injection hh with hh _ _
      rw [← hh, hcs]; simp)
    simpa using this
  · show (w.heap.push _)[q]? = _
    rw [Array.getElem?_push, if_neg (by omega)]
  · replace hb' : (if b' = id then some (w.heap.size, 0) else ρ b') = some (q, o') := hb'
    split at hb'
    · rename_i e; injection hb' with hb'; injection hb' with h1 h2; exact .inr ⟨by rw [e]; exact hX, .inl (by omega)⟩
    · exact .inl hb'

/-- slices.overlaps of two rows in two blocks. -/
theorem extK_overlaps {X : Nat → Prop} {f : Nat} {x y : Src} {d : Option Nat} {k : St → Prop} {p q : AV} {b sz lo n b2 sz2 lo2 n2 tya tyb : Nat} {es es2 : List (List AV)} {fn : Func} {tS tR e : TypeId} (hf : P.funcs[f]? = some fn) (hname : (fn.name == "runtime.NumGoroutine") = false)
    (hbody : fn.body.isNone = true) (hnext : Extern.findNext fn = none) (he : Extern.find fn = some (Extern.SlicesOverlaps.overlaps #[tS, tS] #[tR])) (htS : P.underlying tS = some (.slice e)) (hi : (P.info? e).isSome = true)
    (hx : st.src x = some p) (hp : ownAt p = some (b, sz, lo, n)) (hy : st.src y = some q) (hq : ownAt q = some (b2, sz2, lo2, n2)) (hn : 0 < n) (hn2 : 0 < n2) (hne : b ≠ b2) (hb : look st.mem b = some (.arr tya sz es)) (hb2 : look st.mem b2 = some (.arr tyb sz2 es2)) (hs2 : 0 < sz2)
    (hk : k (st.put? d (bv false))) : ExtK P c nt X 7 [f] [x, y] d st k := by
  obtain ⟨i, hi⟩ := Option.isSome_iff_exists.1 hi
  intro o ρ a w h _ hc hd hlt
  simp only [chkExt] at hc
  split at hc <;> try (cases hc; done)
  rename_i cl ho
  simp only [Bool.and_eq_true] at hc
  obtain ⟨hc1, hargs⟩ := hc
  split at hc1 <;> try (cases hc1; done)
  rename_i f' hcal
  simp only [beq_iff_eq] at hc1
  subst hc1
  obtain ⟨p', q', hl, hp', hq'⟩ := okL2 hargs
  have hargs' : cl.args = #[p', q'] := by rw [← Array.toList_inj]; exact hl
  obtain ⟨k1, o1, c1, hρ1, hv1, hn1, hr1⟩ := (h.srcs _ _ _ hp' hx).at_ hp hn
  obtain ⟨k2, o2, c2, hρ2, hv2, hn2', hr2⟩ := (h.srcs _ _ _ hq' hy).at_ hq hn2
  have hkk : k1 ≠ k2 := by rintro rfl; exact hne (h.inj _ _ _ _ _ hρ1 hρ2)
  have hB := h.mem b _ hb
  simp only [BRel, hρ1] at hB
  obtain ⟨cur, hh, _, _, _⟩ := hB
  have hB2 := h.mem b2 _ hb2
  simp only [BRel, hρ2] at hB2
  obtain ⟨cur2, hh2, _, _, _⟩ := hB2
  have hr2' := hr2 _ _ _ hh2
  have hsz2 : cur2.size ≠ 0 := by
    have : 1 * sz2 ≤ (lo2 + c2) * sz2 := Nat.mul_le_mul_right sz2 (by omega)
    omega
  have hcallF : (callFunc f #[a.eval p', a.eval q']).run P w = .ok (.value (.bool false)) w := by
    rw [run_callFunc_extern hf hname hbody hnext he, hv1, hv2,
      Lib.run_overlaps_apart w tS tR e htS i.size (fun w' => szOf hi w') ⟨k1, o1 + lo * sz, none⟩ ⟨k2, o2 + lo2 * sz2, none⟩ n c1 n2 c2 hkk tya tyb cur.size cur2.size (by simp [World.shape?, hh]) (by simp [World.shape?, hh2]) hsz2 (by simp [World.frozen?, hh]) (by simp [World.frozen?, hh])]
    rfl
  refine ⟨_, .value (.bool false), w, ρ, .bool false, ?_, .inl rfl, h.put? (d := o.dst) (fun q hq => hlt q (by rw [← hd]; exact hq)) (.tree (.lit rfl)), by rw [hd]; exact hk, Nat.le_refl _, fun _ _ _ => rfl, fun b' q o' hb' => .inl hb'⟩
  have hev : a.eval (.func f) = .func (.func f) #[] #[] := rfl
  have : execOp a.eval o = callFunc f (#[] ++ cl.args.map a.eval ++ #[]) := by
    unfold execOp
    rw [ho]
    simp only [resolve, hcal, hev]
    rfl
  rw [this, hargs']
  simpa using hcallF

theorem runL_ext {t : Nat} {ns : List Nat} {xs : List Src} {d : Option Nat} {r : List It} {k : St → Prop} (h : ExtK P c nt (fun _ => True) t ns xs d st fun st' => runL P c nt r st' k) : runL P c nt (⟨d, none, .ext t ns xs⟩ :: r) st k := h
theorem runP_ext {X : List Nat} {i : Nat} {p : Plan} {t : Nat} {ns : List Nat} {xs : List Src} {d : Option Nat} {k : St → Prop} (h : ExtK P c nt (fun b => b ∈ X) t ns xs d st fun st' => runP P c nt X p st' k) : runP P c nt X (.alt i ⟨d, none, .ext t ns xs⟩ p .done) st k := ⟨h, trivial⟩

theorem runL_do {d : Option Nat} {ao : AOp} {r : List It} {k : St → Prop} {s : Nat} {want : Bool} (hb : look st.slots s = some (.lit (.bool want))) (h : runL P c nt (⟨d, none, ao⟩ :: r) st k) : runL P c nt (⟨d, some (s, want), ao⟩ :: r) st k := ⟨some want, by simp [gval, hb], fun _ => h, fun hne => absurd rfl hne⟩
theorem runL_skip {d : Option Nat} {ao : AOp} {r : List It} {k : St → Prop} {s : Nat} {b want : Bool} (hb : look st.slots s = some (.lit (.bool b))) (hne : b ≠ want) (h : runL P c nt r (st.put? d (.tup [])) k) : runL P c nt (⟨d, some (s, want), ao⟩ :: r) st k := ⟨some b, by simp [gval, hb], fun he => absurd (by simpa using he) hne, fun _ => h⟩

/-- One operation. -/
theorem runL_step {it : It} {r : List It} {st' : St} {k : St → Prop} (hc : isCall it.ao = false) (h : stepI it st = some st') (hk : runL P c nt r st' k) : runL P c nt (it :: r) st k := runI_of_step hc h (fun _ _ => trivial) hk

/-- The capacity of a row of one's own gets a name. -/
theorem le_own (s : Nat) (b sz lo n cap : Nat) : St.le (St.put st s (.ownc b sz lo n cap)) (St.put st s (.own b sz lo n)) := by
  intro c ρ a w _ h
  refine ⟨ρ, { h with slots := fun d x hx => ?_ }, fun _ _ _ h => h⟩
  simp only [St.put, look_upd] at hx
  split at hx
  · rename_i e; subst e
    injection hx with hx; subst hx
    have := h.slots d (.ownc b sz lo n cap) (by simp [St.put, look_upd])
    exact this.asOwn
  · exact h.slots d x (by simp only [St.put, look_upd]; rw [if_neg (by assumption)]; exact hx)

theorem J.reveal {ac : AC} {Q : Exit → St → Prop} {s b sz lo n : Nat} (hs : look st.slots s = some (.own b sz lo n)) (hn : 0 < n) (h : ∀ cap, n ≤ cap → J P nt c ac (st.put s (.ownc b sz lo n cap)) Q) : J P nt c ac st Q := by
  intro code hc r hr ρ a w hcc hsz
  rcases (hcc.slots _ _ hs).own_inv with ⟨_, _, h0⟩ | ⟨_, _, h0, _⟩ | ⟨k, o, cap, hρ, hv, hcap, hroom⟩
  · omega
  · omega
  refine h cap hcap code hc r hr ρ a w { hcc with slots := fun d x hx => ?_ } hsz
  simp only [St.put, look_upd] at hx
  split at hx
  · rename_i e; subst e
    injection hx with hx; subst hx
    rw [hv]; exact .ownc hρ hcap hroom
  · exact hcc.slots d x hx

end
end Go.SX
