/- Parts of a symbolic execution and of walks by it, for the statements of this seat: SxO, SxN, SxP, SxR, SxS, SxU, SxV, SxRx. -/
import Derived.Test.YtadbdchbdjkcdaaGreatDoorQb2
import Derived.Lib.Overlaps
import Derived.Lib.SliceRun
import Derived.Laws.StructEq
import Derived.RangeFuncRecord
import Derived.RangeFuncSeq
import Derived.RangeFuncLeaves
import Derived.ChangeShapes
import Derived.OpenShut
import Derived.ChangeArms
import Derived.ChangeSame
import Derived.Lib.SmallJoins
set_option linter.unusedVariables false
set_option linter.unusedSimpArgs false
namespace Go.SX
open Go
def ownAt : AV → Option (Nat × Nat × Nat × Nat)
  | .own b sz lo n => some (b, sz, lo, n)
  | .ownc b sz lo n _ => some (b, sz, lo, n)
  | _ => none
def asOwn : AV → AV
  | .ownc b sz lo n _ => .own b sz lo n
  | x => x
section
variable {P : Program} {c : Ctx} {nt : Nat} {st : St} {ρ : Map} {a : Act} {w : World} {o : Oper}
theorem VRel.asOwn {Own : Nat → Prop} {x : AV} {v : Value} (h : VRel w Own ρ x v) : VRel w Own ρ (asOwn x) v := by
  cases x <;> first | exact h | skip
  obtain ⟨k, o, h1, rfl, h2, h3⟩ := h.ownc_inv
  exact .own h1 h2 h3
theorem VRel.at_ {Own : Nat → Prop} {x : AV} {v : Value} {b sz lo n : Nat} (h : VRel w Own ρ x v) (hx : ownAt x = some (b, sz, lo, n)) (hn : 0 < n) :
    ∃ k o cap, ρ b = some (k, o) ∧ v = .slice (some ⟨k, o + lo * sz, none⟩) n cap ∧ n ≤ cap ∧ ∀ cur ty fr, w.heap[k]? = some (.cells cur ty fr) → o + (lo + cap) * sz ≤ cur.size := by
  cases x <;> simp only [ownAt] at hx <;> try (cases hx; done)
  · injection hx with hx; injection hx with h1 hx; injection hx with h2 hx; injection hx with h3 h4
    subst h1; subst h2; subst h3; subst h4
    rcases h.own_inv with ⟨_, _, h0⟩ | ⟨_, _, h0, _⟩ | ⟨k, o, cap, hρ, hv, hn, hr⟩
    · omega
    · omega
    · exact ⟨k, o, cap, hρ, hv, hn, hr⟩
  · injection hx with hx; injection hx with h1 hx; injection hx with h2 hx; injection hx with h3 h4
    subst h1; subst h2; subst h3; subst h4
    obtain ⟨k, o, h1, h2, h3, h4⟩ := h.ownc_inv
    exact ⟨k, o, _, h1, h2, h3, h4⟩
theorem isB_spec {b : Builtin} {xs : List Src} (h : isB b o xs = true) : ∃ cl, o.op = .call cl ∧ cl.callee = .builtin b ∧ okL cl.args.toList xs = true ∧ ∀ i, argT o i = cl.argTypes[i]? := by
  unfold isB at h
  split at h <;> try (cases h; done)
  rename_i cl ho
  simp only [Bool.and_eq_true] at h
  obtain ⟨h1, h2⟩ := h
  split at h1 <;> try (cases h1; done)
  rename_i b' hb
  simp only [beq_iff_eq] at h1
  subst h1
  exact ⟨cl, ho, hb, h2, fun i => by unfold argT; rw [ho]⟩
theorem okL1 {l : List Operand} {x : Src} (h : okL l [x] = true) : ∃ y, l = [y] ∧ srcOK y x = true := by
  match l, h with
  | [p], h => simp only [okL, Bool.and_eq_true] at h; exact ⟨p, rfl, h.1⟩
  | [], h => simp [okL] at h
  | p :: q :: r, h => simp [okL] at h
theorem okL2 {l : List Operand} {x y : Src} (h : okL l [x, y] = true) : ∃ p q, l = [p, q] ∧ srcOK p x = true ∧ srcOK q y = true := by
  match l, h with
  | [p, q], h => simp only [okL, Bool.and_eq_true] at h; exact ⟨p, q, rfl, h.1, h.2.1⟩
  | [], h => simp [okL] at h
  | [p], h => simp [okL] at h
  | p :: q :: r :: s, h => simp [okL] at h
theorem isSliceOf_spec {t : Option TypeId} {ty : TypeId} (h : isSliceOf P t ty = true) : ∃ t', t = some t' ∧ P.underlying t' = some (.slice ty) := by
  unfold isSliceOf at h
  split at h <;> try (cases h; done)
  rename_i t'
  split at h <;> try (cases h; done)
  rename_i e he
  simp only [beq_iff_eq] at h
  subst h
  exact ⟨t', rfl, he⟩
theorem sized_spec {ty : TypeId} {sz bytes : Nat} {zero : Bool} (h : sized P ty sz bytes zero = true) : ∃ i, P.info? ty = some i ∧ i.size = sz ∧ i.bytes = bytes ∧ 0 < sz ∧ 0 < bytes ∧ (zero = true → ∃ z, i.zero = some z ∧ z.cells.size = sz ∧ ∀ u ∈ z.cells.toList, one u = true) := by
  unfold sized at h
  split at h <;> try (cases h; done)
  rename_i i hi
  simp only [Bool.and_eq_true, beq_iff_eq, bne_iff_ne, Bool.or_eq_true, Bool.not_eq_true'] at h
  obtain ⟨⟨⟨⟨h1, h2⟩, h3⟩, h4⟩, h5⟩ := h
  refine ⟨i, hi, h1, h2, by omega, by omega, fun hz => ?_⟩
  rcases h5 with h5 | h5
  · rw [hz] at h5; cases h5
  · split at h5 <;> try (cases h5; done)
    rename_i z hzz
    simp only [Bool.and_eq_true, beq_iff_eq] at h5
    exact ⟨z, hzz, h5.1, List.all_eq_true.1 h5.2⟩
theorem own_cells (h : Conc c st ρ a w) {b ty sz lo m k o' : Nat} {es : List (List AV)} (hb : look st.mem b = some (.arr ty sz es)) (hρ : ρ b = some (k, o')) (hlo : lo + m ≤ es.length) (hs : 0 < sz) :
    ∃ news : List Value, news.length = m * sz ∧ (∀ w' : World, w'.heap = w.heap → (loadCells ⟨k, o' + lo * sz, none⟩ (m * sz)).run P w' = .ok news.toArray w') ∧
      (∀ u ∈ news, one u = true) ∧ (∀ e ∈ (es.drop lo).take m, e.length = sz) ∧ ∀ i j x, cellAt ((es.drop lo).take m) i j = some x → ∃ u, news[i * sz + j]? = some u ∧ TRel w (OwnBy c.A ρ) x u := by
  have hB := h.mem b _ hb
  simp only [BRel, hρ] at hB
  obtain ⟨cur, hh, hlen, hsz, hcell⟩ := hB
  have hmul : (lo + m) * sz ≤ es.length * sz := Nat.mul_le_mul_right sz hlo
  rw [Nat.add_mul] at hmul
  have hnl : ((cur.toList.drop (o' + lo * sz)).take (m * sz)).length = m * sz := by simp; omega
  have hat : ∀ p, p < m * sz → ((cur.toList.drop (o' + lo * sz)).take (m * sz))[p]? = cur[o' + lo * sz + p]? := fun p hp => by
    rw [List.getElem?_take_of_lt hp, List.getElem?_drop]; simp
  have hpart : ∀ i j x, cellAt ((es.drop lo).take m) i j = some x → i < m ∧ j < sz ∧ cellAt es (lo + i) j = some x := by
    intro i j x hx
    simp only [cellAt] at hx ⊢
    obtain ⟨e, he, hj⟩ := Option.bind_eq_some_iff.1 hx
    have hin : i < m := by
      rcases Nat.lt_or_ge i m with h1 | h1
      · exact h1
      · rw [List.getElem?_eq_none (by simp; omega)] at he; cases he
    rw [List.getElem?_take_of_lt hin, List.getElem?_drop] at he
    have hl := hlen e (List.mem_of_getElem? he)
    refine ⟨hin, ?_, by rw [he]; exact hj⟩
    rcases Nat.lt_or_ge j e.length with h1 | h1
    · omega
    · rw [List.getElem?_eq_none h1] at hj; cases hj
  refine ⟨(cur.toList.drop (o' + lo * sz)).take (m * sz), hnl, fun w' hw' => ?_, fun u hu => ?_, fun e he => hlen e (List.mem_of_mem_drop (List.mem_of_mem_take he)), fun i j x hx => ?_⟩
  · have := run_loadCells_list (P := P) w' ⟨k, o' + lo * sz, none⟩ ((cur.toList.drop (o' + lo * sz)).take (m * sz)) (fun j v hv => by
      have hj : j < m * sz := by
        rcases Nat.lt_or_ge j (m * sz) with h1 | h1
        · exact h1
        · rw [List.getElem?_eq_none (by omega)] at hv; cases hv
      rw [hat j hj] at hv
      rw [add_none]
      simp only [World.cell?, hw', hh]
      rw [if_neg (by simp), hv])
    rw [hnl] at this
    exact this
  · obtain ⟨p, hp, rfl⟩ := List.mem_iff_getElem.1 hu
    rw [hnl] at hp
    have hdiv : p / sz < m := Nat.div_lt_of_lt_mul (by rwa [Nat.mul_comm])
    have hmod : p % sz < sz := Nat.mod_lt _ hs
    have hi : lo + p / sz < es.length := by omega
    have hl := hlen _ (List.getElem_mem hi)
    obtain ⟨v, hv, h1, _⟩ := hcell (lo + p / sz) (p % sz) _ (show cellAt es (lo + p / sz) (p % sz) = some ((es[lo + p / sz])[p % sz]'(by omega)) by simp only [cellAt, List.getElem?_eq_getElem hi, Option.bind_some]; exact List.getElem?_eq_getElem (by omega))
    have h2 := hat p hp
    have hpp : p / sz * sz + p % sz = p := by rw [Nat.mul_comm]; exact Nat.div_add_mod p sz
    rw [show o' + ((lo + p / sz) * sz + p % sz) = o' + lo * sz + p from by rw [Nat.add_mul]; omega, ← h2, List.getElem?_eq_getElem (by omega)] at hv
    injection hv with hv
    rw [hv]; exact h1
  · obtain ⟨hi, hj, hx'⟩ := hpart i j x hx
    obtain ⟨u, hu, _, ht⟩ := hcell _ _ _ hx'
    have hle : (i + 1) * sz ≤ m * sz := Nat.mul_le_mul_right sz hi
    rw [Nat.add_mul, Nat.one_mul] at hle
    exact ⟨u, by rw [hat _ (by omega), ← hu]; congr 1; rw [Nat.add_mul]; omega, ht⟩
theorem Conc.over (h : Conc c st ρ a w) {b ty sz lo k o' : Nat} {es ys : List (List AV)} (hb : look st.mem b = some (.arr ty sz es)) (hρ : ρ b = some (k, o')) (hs : 0 < sz) (hlo : lo ≤ es.length) (hys : ∀ e ∈ ys, e.length = sz)
    {cur : Array Value} {tyb : TypeId} (hh : w.heap[k]? = some (.cells cur tyb (0, 0))) (hfit : o' + (lo + ys.length) * sz ≤ cur.size) {news : List Value} (hnl : news.length = ys.length * sz) (h1 : ∀ u ∈ news, one u = true)
    (hcell : ∀ i j x, cellAt ys i j = some x → ∃ u, news[i * sz + j]? = some u ∧ TRel w (OwnBy c.A ρ) x u) :
    Conc c { st with mem := upd st.mem b (.arr ty sz (es.take lo ++ ys ++ es.drop (lo + ys.length))) } ρ a (w.setRow k (cur.toList.take (o' + lo * sz) ++ news ++ cur.toList.drop (o' + lo * sz + news.length)).toArray) := by
  have hB := h.mem b _ hb
  simp only [BRel, hρ] at hB
  obtain ⟨cur2, hh2, hlen, hsz, hcell0⟩ := hB
  have hc2 : cur2 = cur ∧ tyb = ty := by rw [hh] at hh2; injection hh2 with hh2; injection hh2 with h1 h2 _; exact ⟨h1.symm, h2⟩
  obtain ⟨rfl, rfl⟩ := hc2
  rw [Nat.add_mul] at hfit
  have hsplice := splice_get cur2.toList (o' + lo * sz) news (by simp; omega)
  have hget : ∀ p, ((cur2.toList.take (o' + lo * sz) ++ news ++ cur2.toList.drop (o' + lo * sz + news.length)).toArray)[p]? = if o' + lo * sz ≤ p ∧ p < o' + lo * sz + news.length then news[p - (o' + lo * sz)]? else cur2[p]? := by
    intro p; have := hsplice p; simpa using this
  have hszc : ((cur2.toList.take (o' + lo * sz) ++ news ++ cur2.toList.drop (o' + lo * sz + news.length)).toArray).size = cur2.size := by simp; omega
  generalize (cur2.toList.take (o' + lo * sz) ++ news ++ cur2.toList.drop (o' + lo * sz + news.length)).toArray = cur' at hget hszc
  have hset := setRow_get w k cur2 cur' tyb _ hh
  refine h.write hb hρ hh hset hszc (fun k' hk' => setRow_far w k cur' k' hk') (setRow_size w k cur') rfl rfl rfl (fun hk => ?_)
  simp only [BRel, hρ]
  have hlt : (es.take lo ++ ys ++ es.drop (lo + ys.length)).length = max es.length (lo + ys.length) := by simp; omega
  refine ⟨cur', hset, fun e he => ?_, ?_, fun i j x hx => ?_⟩
  · rcases List.mem_append.1 he with he | he
    · rcases List.mem_append.1 he with he | he
      · exact hlen e (List.mem_of_mem_take he)
      · exact hys e he
    · exact hlen e (List.mem_of_mem_drop he)
  · rw [hlt, hszc]
    rcases Nat.le_total es.length (lo + ys.length) with h2 | h2
    · rw [Nat.max_eq_right h2, Nat.add_mul]; omega
    · rw [Nat.max_eq_left h2]; exact hsz
  · obtain ⟨e, he, hj⟩ := Option.bind_eq_some_iff.1 hx
    have hel : e.length = sz := by
      have := List.mem_of_getElem? he
      rcases List.mem_append.1 this with h2 | h2
      · rcases List.mem_append.1 h2 with h2 | h2
        · exact hlen e (List.mem_of_mem_take h2)
        · exact hys e h2
      · exact hlen e (List.mem_of_mem_drop h2)
    have hjs : j < sz := by
      rcases Nat.lt_or_ge j e.length with h2 | h2
      · omega
      · rw [List.getElem?_eq_none h2] at hj; cases hj
    have htl : (es.take lo).length = lo := by simp; omega
    by_cases hi1 : i < lo
    · rw [List.append_assoc, List.getElem?_append_left (by omega), List.getElem?_take_of_lt hi1] at he
      obtain ⟨u, hu, h1u, htu⟩ := hcell0 i j x (by simp [cellAt, he, hj])
      have hle : (i + 1) * sz ≤ lo * sz := Nat.mul_le_mul_right sz hi1
      rw [Nat.add_mul, Nat.one_mul] at hle
      exact ⟨u, by rw [hget, if_neg (by omega)]; exact hu, h1u, htu.keep hk.toKeeps⟩
    · by_cases hi2 : i < lo + ys.length
      · rw [List.append_assoc, List.getElem?_append_right (by omega), htl, List.getElem?_append_left (by omega)] at he
        obtain ⟨u, hu, htu⟩ := hcell (i - lo) j x (by simp [cellAt, he, hj])
        have hle : (i - lo + 1) * sz ≤ ys.length * sz := Nat.mul_le_mul_right sz (by omega)
        rw [Nat.add_mul, Nat.one_mul] at hle
        have hil : i * sz = lo * sz + (i - lo) * sz := by rw [← Nat.add_mul]; congr 1; omega
        refine ⟨u, ?_, h1 u (List.mem_of_getElem? hu), htu.keep hk.toKeeps⟩
        rw [hget, if_pos (by omega), ← hu]
        congr 1; omega
      · rw [List.getElem?_append_right (by simp; omega)] at he
        simp only [List.length_append, htl, List.getElem?_drop] at he
        rw [show lo + ys.length + (i - (lo + ys.length)) = i from by omega] at he
        obtain ⟨u, hu, h1u, htu⟩ := hcell0 i j x (by simp [cellAt, he, hj])
        have hle : (lo + ys.length) * sz ≤ i * sz := Nat.mul_le_mul_right sz (by omega)
        rw [Nat.add_mul] at hle
        exact ⟨u, by rw [hget, if_neg (by omega)]; exact hu, h1u, htu.keep hk.toKeeps⟩
theorem extK_copy {X : Nat → Prop} {ty sz bytes : Nat} {x y : Src} {d : Option Nat} {k : St → Prop} {p q : AV} {b lo n b2 lo2 n2 m tya tyb : Nat} {es es2 : List (List AV)} (hx : st.src x = some p) (hp : ownAt p = some (b, sz, lo, n)) (hy : st.src y = some q) (hq : ownAt q = some (b2, sz, lo2, n2))
    (hb : look st.mem b = some (.arr tya sz es)) (hb2 : look st.mem b2 = some (.arr tyb sz es2)) (hm : m = min n2 n) (hm0 : 0 < m) (hlo : lo ≤ es.length) (hlo2 : lo2 + m ≤ es2.length) (hX : X b)
    (hk : k (St.put? { st with mem := upd st.mem b (.arr tya sz (es.take lo ++ (es2.drop lo2).take m ++ es.drop (lo + m))) } d (iv m))) : ExtK P c nt X 1 [ty, sz, bytes] [x, y] d st k := by
  intro o ρ a w h _ hc hd hlt
  simp only [chkExt, Bool.and_eq_true] at hc
  obtain ⟨⟨h1, h2⟩, h3⟩ := hc
  obtain ⟨cl, ho, hcal, hargs, hat⟩ := isB_spec h1
  rw [hat] at h2
  obtain ⟨t, ht, hu⟩ := isSliceOf_spec h2
  obtain ⟨i, hi, hisz, _, hs0, _, _⟩ := sized_spec h3
  obtain ⟨p', q', hl, hp', hq'⟩ := okL2 hargs
  have hargs' : cl.args = #[p', q'] := by rw [← Array.toList_inj]; exact hl
  obtain ⟨k1, o1, c1, hρ1, hv1, hn1, hr1⟩ := (h.srcs _ _ _ hp' hx).at_ hp (by omega)
  obtain ⟨k2, o2, c2, hρ2, hv2, hn2, hr2⟩ := (h.srcs _ _ _ hq' hy).at_ hq (by omega)
  obtain ⟨news, hnl, hload, hone, hel, hcell⟩ := own_cells (P := P) h hb2 hρ2 hlo2 hs0
  have hB := h.mem b _ hb
  simp only [BRel, hρ1] at hB
  obtain ⟨cur, hh, _, hsc, _⟩ := hB
  have hfit0 := hr1 _ _ _ hh
  have hys : ((es2.drop lo2).take m).length = m := by simp; omega
  have hcapm : (lo + m) * sz ≤ (lo + c1) * sz := Nat.mul_le_mul_right sz (by omega)
  have hfx : o1 + lo * sz + m * sz ≤ cur.size := by simp only [Nat.add_mul] at hcapm hfit0; omega
  have hst := run_storeCells_at (P := P) k1 (o1 + lo * sz) tya news 0 cur w hh (by omega) (fun v hv => oneCell_of (hone v hv))
  simp only [Nat.add_zero] at hst
  have hov := h.over hb hρ1 hs0 hlo hel hh (by rw [hys, Nat.add_mul]; omega) (by rw [hys]; exact hnl) hone hcell
  rw [hys] at hov
  have hlw := hload w rfl
  refine ⟨_, .value (.int .i64 m), _, ρ, .int .i64 m, ?_, .inl rfl, hov.put? (d := o.dst) (fun q hq => hlt q (by rw [← hd]; exact hq)) (.tree (.lit rfl)), by rw [hd]; exact hk, by rw [setRow_size]; exact Nat.le_refl _, fun q hq hno => setRow_far w k1 _ q (by rintro rfl; exact hno b o1 hX hρ1), fun b' q o' hb' => .inl hb'⟩
  have hmin : Nat.min n2 n = m := hm.symm
  simp [execOp, ho, resolve, hcal, hargs', invoke, builtin, hv1, hv2, Builtin.copy_, ht, und hu, Builtin.lenOf, Builtin.firstCells, szOf hi, hisz, hmin, hlw, hst, goInt]
theorem extK_clear {X : Nat → Prop} {ty sz bytes : Nat} {x : Src} {d : Option Nat} {k : St → Prop} {p : AV} {b lo n tya : Nat} {es : List (List AV)} (hx : st.src x = some p) (hp : ownAt p = some (b, sz, lo, n)) (hn0 : 0 < n)
    (hb : look st.mem b = some (.arr tya sz es)) (hX : X b) (hk : k (St.put? { st with mem := upd st.mem b (.arr tya sz (es.take lo)) } d (.tup []))) : ExtK P c nt X 2 [ty, sz, bytes] [x] d st k := by
  intro o ρ a w h _ hc hd hlt
  simp only [chkExt, Bool.and_eq_true] at hc
  obtain ⟨⟨h1, h2⟩, h3⟩ := hc
  obtain ⟨cl, ho, hcal, hargs, hat⟩ := isB_spec h1
  rw [hat] at h2
  obtain ⟨t, ht, hu⟩ := isSliceOf_spec h2
  obtain ⟨i, hi, hisz, _, hs0, _, hz⟩ := sized_spec h3
  obtain ⟨z, hz, hzs, hz1⟩ := hz rfl
  obtain ⟨p', hl, hp'⟩ := okL1 hargs
  have hargs' : cl.args = #[p'] := by rw [← Array.toList_inj]; exact hl
  obtain ⟨k1, o1, c1, hρ1, hv1, hn1, hr1⟩ := (h.srcs _ _ _ hp' hx).at_ hp hn0
  have hB := h.mem b _ hb
  simp only [BRel, hρ1] at hB
  obtain ⟨cur, hh, hlen, hsc, hcell⟩ := hB
  have hfit0 := hr1 _ _ _ hh
  have hcapm : (lo + n) * sz ≤ (lo + c1) * sz := Nat.mul_le_mul_right sz (by omega)
  have hzl : (Builtin.zeroCells z.cells n).toList.length = n * sz := by rw [Array.length_toList, size_zeroCells, hzs]
  have hfx : o1 + lo * sz + n * sz ≤ cur.size := by simp only [Nat.add_mul] at hcapm hfit0; omega
  have hst := run_storeCells_at (P := P) k1 (o1 + lo * sz) tya (Builtin.zeroCells z.cells n).toList 0 cur w hh (by omega) (fun v hv => oneCell_of (by
    simp only [Builtin.zeroCells, Array.toList_map, List.mem_map] at hv
    obtain ⟨q, hq, rfl⟩ := hv
    refine hz1 _ ?_
    have hlt : q % z.cells.size < z.cells.size := Nat.mod_lt _ (by omega)
    rw [getElem!_pos z.cells (q % z.cells.size) hlt]
    exact Array.getElem_mem_toList hlt))
  simp only [Nat.add_zero] at hst
  generalize hnews : (Builtin.zeroCells z.cells n).toList = news at hst hzl
  have hsplice := splice_get cur.toList (o1 + lo * sz) news (by simp; omega)
  have hget : ∀ p, ((cur.toList.take (o1 + lo * sz) ++ news ++ cur.toList.drop (o1 + lo * sz + news.length)).toArray)[p]? = if o1 + lo * sz ≤ p ∧ p < o1 + lo * sz + news.length then news[p - (o1 + lo * sz)]? else cur[p]? := by
    intro p; have := hsplice p; simpa using this
  have hszc : ((cur.toList.take (o1 + lo * sz) ++ news ++ cur.toList.drop (o1 + lo * sz + news.length)).toArray).size = cur.size := by simp; omega
  generalize (cur.toList.take (o1 + lo * sz) ++ news ++ cur.toList.drop (o1 + lo * sz + news.length)).toArray = cur' at hget hszc hst
  have hset := setRow_get w k1 cur cur' tya _ hh
  have hw := h.write (blk := .arr tya sz (es.take lo)) hb hρ1 hh hset hszc (fun k' hk' => setRow_far w k1 cur' k' hk') (setRow_size w k1 cur') rfl rfl rfl (fun hk => by
    simp only [BRel, hρ1]
    refine ⟨cur', hset, fun e he => hlen e (List.mem_of_mem_take he), ?_, fun i j x hx => ?_⟩
    · rw [hszc]
      have : (es.take lo).length * sz ≤ es.length * sz := Nat.mul_le_mul_right _ (by simp; omega)
      omega
    · obtain ⟨e, he, hj⟩ := Option.bind_eq_some_iff.1 hx
      have hil : i < lo := by
        rcases Nat.lt_or_ge i lo with h1 | h1
        · exact h1
        · rw [List.getElem?_eq_none (by simp; omega)] at he; cases he
      rw [List.getElem?_take_of_lt hil] at he
      have hel := hlen e (List.mem_of_getElem? he)
      have hjs : j < sz := by
        rcases Nat.lt_or_ge j e.length with h2 | h2
        · omega
        · rw [List.getElem?_eq_none h2] at hj; cases hj
      obtain ⟨u, hu, h1u, htu⟩ := hcell i j x (by simp [cellAt, he, hj])
      have hle : (i + 1) * sz ≤ lo * sz := Nat.mul_le_mul_right sz hil
      rw [Nat.add_mul, Nat.one_mul] at hle
      exact ⟨u, by rw [hget, if_neg (by omega)]; exact hu, h1u, htu.keep hk.toKeeps⟩)
  refine ⟨_, .value (.tuple #[]), _, ρ, .tuple #[], ?_, .inl rfl, hw.put? (d := o.dst) (fun q hq => hlt q (by rw [← hd]; exact hq)) undef_rel, by rw [hd]; exact hk, by rw [setRow_size]; exact Nat.le_refl _, fun q hq hno => setRow_far w k1 _ q (by rintro rfl; exact hno b o1 hX hρ1), fun b' q o' hb' => .inl hb'⟩
  have hnz : ¬ n = 0 := by omega
  obtain ⟨n', rfl⟩ : ∃ n', n = n' + 1 := ⟨n - 1, by omega⟩
  simp [execOp, ho, resolve, hcal, hargs', invoke, builtin, hv1, Builtin.clear_, ht, und hu, zeroValue, typeInfo, hi, hz, hnews, hst]
theorem extK_appendRoom {X : Nat → Prop} {ty sz bytes : Nat} {x y : Src} {d : Option Nat} {k : St → Prop} {q : AV} {b lo n cap tya : Nat} {es ys : List (List AV)} (hx : st.src x = some (.ownc b sz lo n cap)) (hy : st.src y = some q) (hq : rowOf st (asOwn q) = some ys) (hqs : ys = [] ∨ rowSz (asOwn q) = some sz)
    (hb : look st.mem b = some (.arr tya sz es)) (hroom : n + ys.length ≤ cap) (hlo : lo + n ≤ es.length) (hX : X b)
    (hk : k (St.put? { st with mem := upd st.mem b (.arr tya sz (es.take (lo + n) ++ ys ++ es.drop (lo + n + ys.length))) } d (.ownc b sz lo (n + ys.length) cap))) : ExtK P c nt X 4 [ty, sz, bytes] [x, y] d st k := by
  intro o ρ a w h _ hc hd hlt
  simp only [chkExt, Bool.and_eq_true] at hc
  obtain ⟨⟨⟨h1, h2⟩, h3⟩, h4⟩ := hc
  obtain ⟨cl, ho, hcal, hargs, hat⟩ := isB_spec h1
  rw [hat] at h2 h4
  obtain ⟨t, ht, hu⟩ := isSliceOf_spec h2
  obtain ⟨t', ht', hu'⟩ := isSliceOf_spec h4
  obtain ⟨i, hi, hisz, _, hs0, _, _⟩ := sized_spec h3
  obtain ⟨p', q', hl, hp', hq'⟩ := okL2 hargs
  have hargs' : cl.args = #[p', q'] := by rw [← Array.toList_inj]; exact hl
  obtain ⟨k1, o1, hρ1, hv1, hn1, hr1⟩ := (h.srcs _ _ _ hp' hx).ownc_inv
  obtain ⟨A2, c2, hv2, hylen, news, hnl, hnrun, hncell⟩ := row_cells (P := P) h hs0 (h.srcs _ _ _ hq' hy).asOwn hq hqs
  have hone : ∀ u ∈ news, one u = true := by
    intro u hu
    obtain ⟨p, hp, rfl⟩ := List.mem_iff_getElem.1 hu
    have hdiv : p / sz < ys.length := Nat.div_lt_of_lt_mul (by rw [Nat.mul_comm]; omega)
    have hmod : p % sz < sz := Nat.mod_lt _ hs0
    have hlen := hylen _ (List.getElem_mem hdiv)
    obtain ⟨u, hu, h1, _⟩ := hncell (p / sz) (p % sz) _ (show cellAt ys (p / sz) (p % sz) = some ((ys[p / sz])[p % sz]'(by omega)) by simp only [cellAt, List.getElem?_eq_getElem hdiv, Option.bind_some]; exact List.getElem?_eq_getElem (by omega))
    rw [show p / sz * sz + p % sz = p from by rw [Nat.mul_comm]; exact Nat.div_add_mod p sz, List.getElem?_eq_getElem hp] at hu
    injection hu with hu; rw [hu]; exact h1
  have hB := h.mem b _ hb
  simp only [BRel, hρ1] at hB
  obtain ⟨cur, hh, _, hsc, _⟩ := hB
  have hfit0 := hr1 _ _ _ hh
  have hcapm : (lo + (n + ys.length)) * sz ≤ (lo + cap) * sz := Nat.mul_le_mul_right sz (by omega)
  have hfit : o1 + (lo + n + ys.length) * sz ≤ cur.size := by rw [show lo + n + ys.length = lo + (n + ys.length) from by omega]; omega
  have hr := run_append_room (P := P) (ty := o.type) (off := o1 + lo * sz) (n := n) (cap := cap) hu hu' hi hv2 (news := news) (by rw [hisz]; exact hnl) (by rw [hisz]; exact hnrun w rfl) hone hroom hh (by rw [hisz]; simp only [Nat.add_mul] at hfit; omega) cl.argTypes ht ht'
  rw [hisz, show o1 + lo * sz + n * sz = o1 + (lo + n) * sz from by rw [Nat.add_mul]; omega] at hr
  have hov := h.over hb hρ1 hs0 hlo hylen hh hfit hnl hone (fun i j x hx => by obtain ⟨u, hu, _, ht⟩ := hncell i j x hx; exact ⟨u, hu, ht⟩)
  refine ⟨_, .value _, _, ρ, _, ?_, .inl rfl, hov.put? (d := o.dst) (fun q hq => hlt q (by rw [← hd]; exact hq)) (x := .ownc b sz lo (n + ys.length) cap) (.ownc hρ1 hroom (fun cur1 ty1 fr1 hh1 => ?_)), by rw [hd]; exact hk, by rw [setRow_size]; exact Nat.le_refl _, fun q hq hno => setRow_far w k1 _ q (by rintro rfl; exact hno b o1 hX hρ1), fun b' q o' hb' => .inl hb'⟩
  · simp [execOp, ho, resolve, hcal, hargs', invoke, builtin, hv1, hr]
  · rw [setRow_get w k1 cur _ _ _ hh] at hh1
    injection hh1 with hh1; injection hh1 with h1 _ _
    rw [← h1]
    simp only [Nat.add_mul] at hfit0 hfit ⊢
    simp; omega
theorem extK_cap {X : Nat → Prop} {x : Src} {d : Option Nat} {k : St → Prop} {b sz lo n cap : Nat} (hx : st.src x = some (.ownc b sz lo n cap)) (hk : k (st.put? d (iv cap))) : ExtK P c nt X 0 [] [x] d st k := by
  intro o ρ a w h _ hc hd hlt
  simp only [chkExt, Bool.and_eq_true] at hc
  obtain ⟨h1, h2⟩ := hc
  obtain ⟨cl, ho, hcal, hargs, hat⟩ := isB_spec h1
  rw [hat] at h2
  split at h2 <;> try (cases h2; done)
  rename_i t ht
  split at h2 <;> try (cases h2; done)
  rename_i e hu
  obtain ⟨p', hl, hp'⟩ := okL1 hargs
  have hargs' : cl.args = #[p'] := by rw [← Array.toList_inj]; exact hl
  obtain ⟨k1, o1, hρ1, hv1, hn1, hr1⟩ := (h.srcs _ _ _ hp' hx).ownc_inv
  refine ⟨_, .value (.int .i64 cap), w, ρ, .int .i64 cap, ?_, .inl rfl, h.put? (d := o.dst) (fun q hq => hlt q (by rw [← hd]; exact hq)) (.tree (.lit rfl)), by rw [hd]; exact hk, Nat.le_refl _, fun _ _ _ => rfl, fun b' q o' hb' => .inl hb'⟩
  simp [execOp, ho, resolve, hcal, hargs', invoke, builtin, hv1, Builtin.cap_, ht, und hu, goInt]
theorem extK_slice3 {X : Nat → Prop} {x l h m : Src} {d : Option Nat} {k : St → Prop} {p : AV} {b sz lo n L H M : Nat} (hx : st.src x = some p) (hp : ownAt p = some (b, sz, lo, n)) (hn : 0 < n) (hl : st.src l = some (iv L)) (hh : st.src h = some (iv H)) (hm : st.src m = some (iv M)) (h1 : L ≤ H) (h2 : H ≤ M) (h3 : M ≤ n) (hk : k (st.put? d .dead)) : ExtK P c nt X 5 [] [x, l, h, m] d st k := by
  intro o ρ a w hC _ hc hd hlt
  simp only [chkExt] at hc
  split at hc <;> try (cases hc; done)
  rename_i t y l' h' m' a' b' c' d' ho heq
  injection heq with e1 heq; injection heq with e2 heq; injection heq with e3 heq; injection heq with e4 heq
  subst e1; subst e2; subst e3; subst e4
  simp only [Bool.and_eq_true] at hc
  obtain ⟨⟨⟨⟨g1, g2⟩, g3⟩, g4⟩, g5⟩ := hc
  split at g1 <;> try (cases g1; done)
  rename_i e hu
  obtain ⟨i, hi⟩ := Option.isSome_iff_exists.1 g1
  obtain ⟨k1, o1, c1, hρ1, hv1, hn1, hr1⟩ := (hC.srcs _ _ _ g2 hx).at_ hp hn
  obtain ⟨hL, _⟩ := (hC.srcs _ _ _ g3 hl).lit_inv
  obtain ⟨hH, _⟩ := (hC.srcs _ _ _ g4 hh).lit_inv
  obtain ⟨hM, _⟩ := (hC.srcs _ _ _ g5 hm).lit_inv
  let v : Value := .slice (if M = L then some ⟨k1, o1 + lo * sz, none⟩ else (some (⟨k1, o1 + lo * sz, none⟩ : Addr)).map (·.add (L * i.size))) (H - L) (M - L)
  refine ⟨_, .value v, w, ρ, v, ?_, .inl rfl, hC.put? (d := o.dst) (fun q hq => hlt q (by rw [← hd]; exact hq)) .dead, by rw [hd]; exact hk, Nat.le_refl _, fun _ _ _ => rfl, fun b' q o' hb' => .inl hb'⟩
  · simp [v, execOp, ho, hv1, hL, hH, hM, Instr.sliceAt, Instr.slice, und hu, Instr.sliceBounds, Instr.sliceBound, asIntOf, szOf hi, h1, h2, show M ≤ c1 from by omega]
theorem extK_isnil {X : Nat → Prop} {x : Src} {d : Option Nat} {k : St → Prop} {sz : Nat} {es : List (List AV)} (hx : st.src x = some (.ro sz es)) (hk : ∀ t, (t = true → es = []) → k (st.put? d (bv t))) : ExtK P c nt X 6 [] [x] d st k := by
  intro o ρ a w h _ hc hd hlt
  simp only [chkExt] at hc
  split at hc <;> try (cases hc; done)
  rename_i t y ty2 a' ho heq
  injection heq with e1 heq; subst e1
  simp only [Bool.and_eq_true] at hc
  obtain ⟨g1, g2⟩ := hc
  split at g1 <;> try (cases g1; done)
  rename_i e hu
  obtain ⟨A, cap, hv, _, hrow⟩ := (h.srcs _ _ _ g2 hx).ro_inv
  have hA : A.isNone = true → es = [] := fun hA => by
    by_cases he : es = []
    · exact he
    · obtain ⟨ad, rfl, _⟩ := hrow he
      simp at hA
  have hrun : (binOp .eql t (.slice A es.length cap) (.slice none 0 0)).run P w = .ok (.bool A.isNone) w := Lib.run_eql_slice_nil w t e A es.length cap 0 0 hu
  have hg : ∀ q, (eqGuard .eql t y q (.slice A es.length cap) (.slice none 0 0)).run P w = .ok () w := fun q => rfl
  refine ⟨st.put? d (bv A.isNone), .value (.bool A.isNone), w, ρ, .bool A.isNone, ?_, .inl rfl, ?_, hk _ hA, Nat.le_refl _, fun _ _ _ => rfl, fun b' q o' hb' => .inl hb'⟩
  · unfold execOp
    rw [ho]
    have hc0 : a.eval (.const (.slice none 0 0)) = .slice none 0 0 := rfl
    simp only [hv, hc0, Sem.run_bind, hg, Result.andThen_ok, hrun, Sem.run_pure]
  · rw [← hd]; exact h.put? (d := o.dst) (fun q hq => hlt q (by rw [← hd]; exact hq)) (x := bv A.isNone) (.tree (.lit rfl))
theorem extK_same {X : Nat → Prop} {x y : Src} {d : Option Nat} {k : St → Prop} {t : TypeId} {vs : List Value} (hx : st.src x = some (.agg (vs.map AV.lit))) (hy : st.src y = some (.agg (vs.map AV.lit)))
    (hg : P.eqGuardType P.depth t = false) (hrun : ∀ w : World, (binOp .eql t (.agg vs.toArray) (.agg vs.toArray)).run P w = .ok (.bool true) w) (hk : k (st.put? d (bv true))) : ExtK P c nt X 8 [t] [x, y] d st k := by
  intro o ρ a w h _ hc hd hlt
  simp only [chkExt] at hc
  split at hc <;> try (cases hc; done)
  rename_i t' y' z' p' a' b' ho heq
  injection heq with e1 heq; injection heq with e2 heq; subst e1; subst e2
  simp only [Bool.and_eq_true, beq_iff_eq] at hc
  obtain ⟨⟨rfl, g1⟩, g2⟩ := hc
  have key : ∀ {u : Value}, VRel w (OwnBy c.A ρ) ρ (.agg (vs.map AV.lit)) u → u = .agg vs.toArray := fun {u} hv => by
    obtain ⟨us, hu, hul, hus⟩ := hv.agg_inv
    rw [hu]; congr 1
    apply Array.ext
    · simpa using hul.symm
    · intro i h1 h2
      have h3 : i < vs.length := by simpa using h2
      obtain ⟨e, _⟩ := (hus i (.lit vs[i]) (by simp [h3])).lit_inv
      simp [Array.getD, h1] at e
      simpa using e
  have hv1 := key (h.srcs _ _ _ g1 hx)
  have hv2 := key (h.srcs _ _ _ g2 hy)
  refine ⟨st.put? d (bv true), .value (.bool true), w, ρ, .bool true, ?_, .inl rfl, ?_, hk, Nat.le_refl _, fun _ _ _ => rfl, fun b' q o' hb' => .inl hb'⟩
  · unfold execOp
    rw [ho]
    simp only [hv1, hv2, Sem.run_bind, run_eqGuard_agg _ _ _ _ _ _ _ hg, Result.andThen_ok, hrun, Sem.run_pure]
  · rw [← hd]; exact h.put? (d := o.dst) (fun q hq => hlt q (by rw [← hd]; exact hq)) (x := bv true) (.tree (.lit rfl))
theorem run_append_zeros {t t' ty el : TypeId} {kk : IntKind} {i : TypeInfo} {z : Value} (ht : P.underlying t = some (.slice el)) (ht' : P.underlying t' = some (.int kk)) (hi : P.info? el = some i) (hz : i.zero = some z) {n cap m : Nat} {B : Option Addr}
    {olds : List Value} (holds : ∀ w' : World, w'.heap = w.heap → (Builtin.firstCells i.size n (.slice B n cap)).run P w' = .ok olds.toArray w')
    (hroom : cap < n + m) (hb : (n + m) * i.bytes ≤ 140737488355328) (hb0 : i.bytes ≠ 0) (hs0 : i.size ≠ 0) (hm : 0 < m) (ats : Array TypeId) (h0 : ats[0]? = some t) (h2 : ats[1]? = some t') :
    (Builtin.append_ ats ty #[.slice B n cap, .int .i64 m]).run P w = .ok (.slice (some ⟨w.heap.size, 0, none⟩) (n + m) (grownCap w (n + m) cap el)) (w.drew.alloc (.cells (olds.toArray ++ Builtin.zeroCells z.cells m ++ Builtin.zeroCells z.cells (grownCap w (n + m) cap el - (n + m))) el)) := by
  have hnr : ¬ (n + m ≤ cap) := by omega
  have hfit := growslice_fits hroom hb
  have hle : n + m ≤ 140737488355328 := Nat.le_trans (Nat.le_mul_of_pos_right _ (by omega)) hb
  have h63' : ¬ (9223372036854775807 < ((n : Int) + (m : Int))) := by omega
  have h48' : ¬ (281474976710656 < Builtin.nextslicecap (n + m) cap * i.bytes) := by omega
  have hw : IntKind.i64.wrap (m : Int) = m := wrap_id (by omega) (by omega)
  have hmb : m * i.bytes ≤ 140737488355328 := by have := Nat.mul_le_mul_right i.bytes (show m ≤ n + m by omega); omega
  have hm48 : ¬ ((281474976710656 : Int) < (m : Int) * (i.bytes : Int)) := by
    have h1 : ((m * i.bytes : Nat) : Int) = (m : Int) * (i.bytes : Int) := Int.natCast_mul _ _
    omega
  have hm0 : ¬ ((m : Int) < 0) := by omega
  have hfo := holds w.drew rfl
  have hms : ¬ (m * i.size = 0) := by have := Nat.mul_pos hm (Nat.pos_of_ne_zero hs0); omega
  simp [Builtin.append_, h0, h2, und ht, und ht', sizeOf, typeInfo, zeroValue, hi, hz, Builtin.lenOf, hnr, h63', h48', Question.forced, hfo, newRow, grownCap, asInt, asIntOf, hw, hm48, hm0]
  intro h; exact absurd h hms
theorem extK_appendZeros {X : Nat → Prop} {ty sz bytes id : Nat} {x y : Src} {d : Option Nat} {k : St → Prop} {b lo n cap m tya : Nat} {es : List (List AV)} (hx : st.src x = some (.ownc b sz lo n cap)) (hy : st.src y = some (iv m))
    (hb : look st.mem b = some (.arr tya sz es)) (hroom : cap < n + m) (hm : 0 < m) (hlo : lo + n ≤ es.length) (hbound : (n + m) * bytes ≤ 140737488355328) (hid : look st.mem id = none) (hfx : st.fixed.contains id = false) (hX : X id)
    (hk : k (St.put? { st with mem := upd st.mem id (.arr ty sz ((es.drop lo).take n)) } d (.own id sz 0 (n + m)))) : ExtK P c nt X 3 [ty, sz, bytes] [x, y] d st k := by
  intro o ρ a w h _ hc hd hlt
  simp only [chkExt, Bool.and_eq_true] at hc
  obtain ⟨⟨⟨h1, h2⟩, h3⟩, h4⟩ := hc
  obtain ⟨cl, ho, hcal, hargs, hat⟩ := isB_spec h1
  rw [hat] at h2 h4
  obtain ⟨t, ht, hu⟩ := isSliceOf_spec h2
  split at h4 <;> try (cases h4; done)
  rename_i t' ht'
  split at h4 <;> try (cases h4; done)
  rename_i kk hu'
  obtain ⟨i, hi, hisz, hib, hs0, hb0, hz⟩ := sized_spec h3
  obtain ⟨z, hz, hzs, hz1⟩ := hz rfl
  obtain ⟨p', q', hl, hp', hq'⟩ := okL2 hargs
  have hargs' : cl.args = #[p', q'] := by rw [← Array.toList_inj]; exact hl
  obtain ⟨k1, o1, hρ1, hv1, hn1, hr1⟩ := (h.srcs _ _ _ hp' hx).ownc_inv
  obtain ⟨hv2, _⟩ := (h.srcs _ _ _ hq' hy).lit_inv
  obtain ⟨olds, hol, hload, hone, hel, hcell⟩ := own_cells (P := P) h hb hρ1 hlo hs0
  have hρid : ρ id = none := by
    cases e : ρ id with
    | none => rfl
    | some p => obtain ⟨q, o'⟩ := p; obtain ⟨blk, hl⟩ := h.dom id q o' e; rw [hid] at hl; cases hl
  have hr := run_append_zeros (P := P) (w := w) (ty := o.type) (n := n) (cap := cap) (m := m) (B := some ⟨k1, o1 + lo * sz, none⟩) hu hu' hi hz (olds := olds) (fun w' hw' => by rw [hisz]; simpa [Builtin.firstCells] using hload w' hw') hroom (by rw [hib]; exact hbound) (by omega) (by omega) hm cl.argTypes ht ht'
  have hge := grown_ge w (n + m) cap ty
  have hys : ((es.drop lo).take n).length = n := by simp; omega
  generalize hcells : olds.toArray ++ Builtin.zeroCells z.cells m ++ Builtin.zeroCells z.cells (grownCap w (n + m) cap ty - (n + m)) = cells at hr
  have hcs : cells.size = grownCap w (n + m) cap ty * sz := by
    rw [← hcells]
    simp only [Array.size_append, List.size_toArray, size_zeroCells, hzs, hol]
    rw [← Nat.add_mul, ← Nat.add_mul]; congr 1; omega
  have hcl : ∀ p, p < n * sz → cells[p]? = olds[p]? := fun p hp => by
    rw [← hcells, Array.append_assoc, Array.getElem?_append_left (by simp; omega)]; simp
  have hnew := h.new (b := id) hfx hρid hid (blk := .arr ty sz ((es.drop lo).take n)) (w' := w.drew.alloc (.cells cells ty)) rfl rfl rfl rfl (fun hk => by
    simp only [BRel, if_true]
    refine ⟨cells, push_get w rfl, hel, ?_, fun p j x hx => ?_⟩
    · rw [hys, hcs]
      have : n * sz ≤ grownCap w (n + m) cap ty * sz := Nat.mul_le_mul_right sz (by omega)
      omega
    · obtain ⟨u, hu, htu⟩ := hcell p j x hx
      refine ⟨u, ?_, hone u (List.mem_of_getElem? hu), htu.keep hk.toKeeps⟩
      rw [Nat.zero_add, hcl, hu]
      rcases Nat.lt_or_ge (p * sz + j) (n * sz) with h' | h'
      · exact h'
      · rw [List.getElem?_eq_none (by omega)] at hu; cases hu)
  refine ⟨_, .value _, _, _, _, ?_, .inl rfl, hnew.put? (d := o.dst) (fun q hq => hlt q (by rw [← hd]; exact hq)) (x := .own id sz 0 (n + m)) (v := .slice (some ⟨w.heap.size, 0, none⟩) (n + m) (grownCap w (n + m) cap ty)) ?_, by rw [hd]; exact hk, by show w.heap.size ≤ (w.heap.push _).size; rw [Array.size_push]; omega, fun q hq hno => ?_, fun b' q o' hb' => ?_⟩
  · simp [execOp, ho, resolve, hcal, hargs', invoke, builtin, hv1, hv2, hr]
  · have := VRel.own (w := w.drew.alloc (.cells cells ty)) (Own := OwnBy c.A (fun x => if x = id then some (w.heap.size, 0) else ρ x)) (ρ := fun x => if x = id then some (w.heap.size, 0) else ρ x) (b := id) (sz := sz) (lo := 0) (n := n + m) (k := w.heap.size) (o := 0) (cap := grownCap w (n + m) cap ty) (by simp) hge (fun cur tyq fr hh => by
      rw [push_get w rfl] at hh
      injection hh with hh; injection hh with hh _ _
      rw [← hh, hcs]; simp)
    simpa using this
  · show (w.heap.push _)[q]? = _
    rw [Array.getElem?_push, if_neg (by omega)]
  · replace hb' : (if b' = id then some (w.heap.size, 0) else ρ b') = some (q, o') := hb'
    split at hb'
    · rename_i e; injection hb' with hb'; injection hb' with h1 h2; exact .inr ⟨by rw [e]; exact hX, .inl (by omega)⟩
    · exact .inl hb'
theorem extK_overlaps {X : Nat → Prop} {f : Nat} {x y : Src} {d : Option Nat} {k : St → Prop} {p q : AV} {b sz lo n b2 sz2 lo2 n2 tya tyb : Nat} {es es2 : List (List AV)} {fn : Func} {tS tR e : TypeId} (hf : P.funcs[f]? = some fn) (hname : (fn.name == "runtime.NumGoroutine") = false)
    (hbody : fn.body.isNone = true) (hnext : Extern.findNext fn = none) (he : Extern.find fn = some (Extern.SlicesOverlaps.overlaps #[tS, tS] #[tR])) (htS : P.underlying tS = some (.slice e)) (hi : (P.info? e).isSome = true)
    (hx : st.src x = some p) (hp : ownAt p = some (b, sz, lo, n)) (hy : st.src y = some q) (hq : ownAt q = some (b2, sz2, lo2, n2)) (hn : 0 < n) (hn2 : 0 < n2) (hne : b ≠ b2) (hb : look st.mem b = some (.arr tya sz es)) (hb2 : look st.mem b2 = some (.arr tyb sz2 es2)) (hs2 : 0 < sz2)
    (hk : k (st.put? d (bv false))) : ExtK P c nt X 7 [f] [x, y] d st k := by
  obtain ⟨i, hi⟩ := Option.isSome_iff_exists.1 hi
  intro o ρ a w h _ hc hd hlt
  simp only [chkExt] at hc
  split at hc <;> try (cases hc; done)
  rename_i cl ho
  simp only [Bool.and_eq_true] at hc
  obtain ⟨hc1, hargs⟩ := hc
  split at hc1 <;> try (cases hc1; done)
  rename_i f' hcal
  simp only [beq_iff_eq] at hc1
  subst hc1
  obtain ⟨p', q', hl, hp', hq'⟩ := okL2 hargs
  have hargs' : cl.args = #[p', q'] := by rw [← Array.toList_inj]; exact hl
  obtain ⟨k1, o1, c1, hρ1, hv1, hn1, hr1⟩ := (h.srcs _ _ _ hp' hx).at_ hp hn
  obtain ⟨k2, o2, c2, hρ2, hv2, hn2', hr2⟩ := (h.srcs _ _ _ hq' hy).at_ hq hn2
  have hkk : k1 ≠ k2 := by rintro rfl; exact hne (h.inj _ _ _ _ _ hρ1 hρ2)
  have hB := h.mem b _ hb
  simp only [BRel, hρ1] at hB
  obtain ⟨cur, hh, _, _, _⟩ := hB
  have hB2 := h.mem b2 _ hb2
  simp only [BRel, hρ2] at hB2
  obtain ⟨cur2, hh2, _, _, _⟩ := hB2
  have hr2' := hr2 _ _ _ hh2
  have hsz2 : cur2.size ≠ 0 := by
    have : 1 * sz2 ≤ (lo2 + c2) * sz2 := Nat.mul_le_mul_right sz2 (by omega)
    omega
  have hcallF : (callFunc f #[a.eval p', a.eval q']).run P w = .ok (.value (.bool false)) w := by
    rw [run_callFunc_extern hf hname hbody hnext he, hv1, hv2,
      Lib.run_overlaps_apart w tS tR e htS i.size (fun w' => szOf hi w') ⟨k1, o1 + lo * sz, none⟩ ⟨k2, o2 + lo2 * sz2, none⟩ n c1 n2 c2 hkk tya tyb cur.size cur2.size (by simp [World.shape?, hh]) (by simp [World.shape?, hh2]) hsz2 (by simp [World.frozen?, hh]) (by simp [World.frozen?, hh])]
    rfl
  refine ⟨_, .value (.bool false), w, ρ, .bool false, ?_, .inl rfl, h.put? (d := o.dst) (fun q hq => hlt q (by rw [← hd]; exact hq)) (.tree (.lit rfl)), by rw [hd]; exact hk, Nat.le_refl _, fun _ _ _ => rfl, fun b' q o' hb' => .inl hb'⟩
  have hev : a.eval (.func f) = .func (.func f) #[] #[] := rfl
  have : execOp a.eval o = callFunc f (#[] ++ cl.args.map a.eval ++ #[]) := by
    unfold execOp
    rw [ho]
    simp only [resolve, hcal, hev]
    rfl
  rw [this, hargs']
  simpa using hcallF
theorem runL_ext {t : Nat} {ns : List Nat} {xs : List Src} {d : Option Nat} {r : List It} {k : St → Prop} (h : ExtK P c nt (fun _ => True) t ns xs d st fun st' => runL P c nt r st' k) : runL P c nt (⟨d, none, .ext t ns xs⟩ :: r) st k := h
theorem runP_ext {X : List Nat} {i : Nat} {p : Plan} {t : Nat} {ns : List Nat} {xs : List Src} {d : Option Nat} {k : St → Prop} (h : ExtK P c nt (fun b => b ∈ X) t ns xs d st fun st' => runP P c nt X p st' k) : runP P c nt X (.alt i ⟨d, none, .ext t ns xs⟩ p .done) st k := ⟨h, trivial⟩
theorem runL_do {d : Option Nat} {ao : AOp} {r : List It} {k : St → Prop} {s : Nat} {want : Bool} (hb : look st.slots s = some (.lit (.bool want))) (h : runL P c nt (⟨d, none, ao⟩ :: r) st k) : runL P c nt (⟨d, some (s, want), ao⟩ :: r) st k := ⟨some want, by simp [gval, hb], fun _ => h, fun hne => absurd rfl hne⟩
theorem runL_skip {d : Option Nat} {ao : AOp} {r : List It} {k : St → Prop} {s : Nat} {b want : Bool} (hb : look st.slots s = some (.lit (.bool b))) (hne : b ≠ want) (h : runL P c nt r (st.put? d (.tup [])) k) : runL P c nt (⟨d, some (s, want), ao⟩ :: r) st k := ⟨some b, by simp [gval, hb], fun he => absurd (by simpa using he) hne, fun _ => h⟩
theorem runL_step {it : It} {r : List It} {st' : St} {k : St → Prop} (hc : isCall it.ao = false) (h : stepI it st = some st') (hk : runL P c nt r st' k) : runL P c nt (it :: r) st k := runI_of_step hc h (fun _ _ => trivial) hk
theorem le_own (s : Nat) (b sz lo n cap : Nat) : St.le (St.put st s (.ownc b sz lo n cap)) (St.put st s (.own b sz lo n)) := by
  intro c ρ a w _ h
  refine ⟨ρ, { h with slots := fun d x hx => ?_ }, fun _ _ _ h => h⟩
  simp only [St.put, look_upd] at hx
  split at hx
  · rename_i e; subst e
    injection hx with hx; subst hx
    have := h.slots d (.ownc b sz lo n cap) (by simp [St.put, look_upd])
    exact this.asOwn
  · exact h.slots d x (by simp only [St.put, look_upd]; rw [if_neg (by assumption)]; exact hx)
theorem J.reveal {ac : AC} {Q : Exit → St → Prop} {s b sz lo n : Nat} (hs : look st.slots s = some (.own b sz lo n)) (hn : 0 < n) (h : ∀ cap, n ≤ cap → J P nt c ac (st.put s (.ownc b sz lo n cap)) Q) : J P nt c ac st Q := by
  intro code hc r hr ρ a w hcc hsz
  rcases (hcc.slots _ _ hs).own_inv with ⟨_, _, h0⟩ | ⟨_, _, h0, _⟩ | ⟨k, o, cap, hρ, hv, hcap, hroom⟩
  · omega
  · omega
  refine h cap hcap code hc r hr ρ a w { hcc with slots := fun d x hx => ?_ } hsz
  simp only [St.put, look_upd] at hx
  split at hx
  · rename_i e; subst e
    injection hx with hx; subst hx
    rw [hv]; exact .ownc hρ hcap hroom
  · exact hcc.slots d x hx
end
end Go.SX
namespace Go.SX
open Go
def fam (base ty sz : Nat) (f : Nat → List (List AV)) (n : Nat) : Mem := (List.range n).map fun c => (base + c, .arr ty sz (f c))
theorem look_map {α : Type} (g : Nat → Nat × α) (hg : ∀ i j, (g i).1 = (g j).1 → i = j) : ∀ (l : List Nat) (c : Nat), c ∈ l → look (l.map g) (g c).1 = some (g c).2
  | x :: r, c, h => by
    rcases hgc : g x with ⟨k, v⟩
    simp only [List.map_cons, hgc, look]
    by_cases e : x = c
    · subst e; rw [hgc, if_pos rfl]
    · have hk : k ≠ (g c).1 := fun e2 => e (hg x c (by rw [hgc]; exact e2))
      rw [if_neg hk]
      rcases List.mem_cons.1 h with h | h
      · exact absurd h.symm e
      · exact look_map g hg r c h
theorem look_map_none {α : Type} (g : Nat → Nat × α) (d : Nat) : ∀ (l : List Nat), (∀ c ∈ l, (g c).1 ≠ d) → look (l.map g) d = none
  | [], _ => rfl
  | x :: r, h => by
    rcases hgc : g x with ⟨k, v⟩
    simp only [List.map_cons, hgc, look]
    rw [if_neg (by have := h x (by simp); rw [hgc] at this; exact this)]
    exact look_map_none g d r (fun c hc => h c (by simp [hc]))
theorem look_fam {base ty sz : Nat} {f : Nat → List (List AV)} {n c : Nat} (h : c < n) : look (fam base ty sz f n) (base + c) = some (.arr ty sz (f c)) :=
  look_map (fun c => (base + c, Blk.arr ty sz (f c))) (fun i j e => by simpa using e) (List.range n) c (by simpa using h)
theorem look_fam_lt {base ty sz : Nat} {f : Nat → List (List AV)} {n d : Nat} (h : d < base) : look (fam base ty sz f n) d = none :=
  look_map_none (fun c => (base + c, Blk.arr ty sz (f c))) d _ (fun c _ => by simp; omega)
theorem look_fam_ge {base ty sz : Nat} {f : Nat → List (List AV)} {n d : Nat} (h : base + n ≤ d) : look (fam base ty sz f n) d = none :=
  look_map_none (fun c => (base + c, Blk.arr ty sz (f c))) d _ (fun c hc => by simp at hc ⊢; omega)
theorem mem_fam {base ty sz : Nat} {f : Nat → List (List AV)} {n : Nat} {p : Nat × Blk} (h : p ∈ fam base ty sz f n) : ∃ c, c < n ∧ p = (base + c, .arr ty sz (f c)) := by
  obtain ⟨c, hc, rfl⟩ := List.mem_map.1 h
  exact ⟨c, by simpa using hc, rfl⟩
def famCells (base sz : Nat) (len : Nat → Nat) (n : Nat) : List AV := (List.range n).map fun c => .own (base + c) sz 0 (len c)
@[simp] theorem famCells_length (base sz : Nat) (len : Nat → Nat) (n : Nat) : (famCells base sz len n).length = n := by simp [famCells]
theorem famCells_get {base sz : Nat} {len : Nat → Nat} {n c : Nat} (h : c < n) : (famCells base sz len n)[c]? = some (.own (base + c) sz 0 (len c)) := by simp [famCells, h]
end Go.SX
namespace Go.SX
open Go Go.RowKit
section
variable {P : Program} {nt : Nat} {c : Ctx} {st : St} {Q : Exit → St → Prop}
theorem J.regJ {its : List It} {ks : List Nat} (S : St) (h : ∃ st', evalL its st = some ([], st') ∧ st'.keep ks = S) (hk : Q .normal S) : J P nt c (.reg its ks) st Q := by
  obtain ⟨st', h1, rfl⟩ := h
  exact J.regE h1 hk
theorem J.drawJ {X ks : List Nat} {p : Plan} (S : St) (h : ∃ st', evalP X p st = some (.done, st') ∧ st'.keep ks = S) (hk : Q .normal S) : J P nt c (.draw X p ks) st Q := by
  obtain ⟨st', h1, rfl⟩ := h
  exact J.drawE h1 hk
theorem le_nilrow {st : St} (d b ty : Nat) {sz : Nat} (hd : look st.slots d = some (.nils sz)) (hb : look st.mem b = none) (hf : st.fixed.contains b = false) : st.le ⟨upd st.slots d (.own b sz 0 0), upd st.mem b (.arr ty sz []), st.fixed⟩ := by
  refine St.le_trans (le_virt ty sz hb hf) (le_tell (fun d' x hx => ?_) (fun b' => .inl rfl) rfl)
  simp only [look_upd] at hx
  by_cases e : d' = d
  · subst e
    rw [if_pos rfl] at hx; injection hx with hx
    exact ⟨_, hd, .inr ⟨_, _, rfl, hx.symm⟩⟩
  · rw [if_neg e] at hx; exact ⟨x, hx, .inl rfl⟩
theorem J.nilrow {ac : AC} (hstd : c.A = c.B) (d b ty : Nat) {sz : Nat} (hd : look st.slots d = some (.nils sz)) (hb : look st.mem b = none) (hf : st.fixed.contains b = false) (h : J P nt c ac ⟨upd st.slots d (.own b sz 0 0), upd st.mem b (.arr ty sz []), st.fixed⟩ Q) : J P nt c ac st Q :=
  J.le hstd (le_nilrow d b ty hd hb hf) h
theorem J.freeze {ac : AC} (hstd : c.A = c.B) (b : Nat) (hf : st.fixed.contains b = false) (h : J P nt c ac (st.freeze b) Q) : J P nt c ac st Q := J.le hstd (le_freeze st b hf) h
end
theorem after_drawn {w w' : World} {ρ : Map} {A : Nat → Prop} (h : Below w.heap.size w w') (hM : MemOK A [] ρ w) (hrows : ∀ k cur ty fr, k < w.heap.size → w'.heap[k]? = some (.cells cur ty fr) → ∃ cur0 ty0 fr0, w.heap[k]? = some (.cells cur0 ty0 fr0) ∧ cur0.size = cur.size) :
    MemOK A [] ρ w' ∧ After w w' ρ ρ [] := by
  have hρ : ∀ b, ρ b = none := fun b => by
    cases e : ρ b with
    | none => rfl
    | some p => obtain ⟨k, o⟩ := p; obtain ⟨blk, hl⟩ := hM.dom b k o e; simp [look] at hl
  refine ⟨{ mem := fun b blk hl => (by simp [look] at hl), dom := hM.dom, lt := fun b k o h => (by rw [hρ] at h; cases h), inj := hM.inj, far := hM.far, alt := fun k hk => Nat.lt_of_lt_of_le (hM.alt k hk) h.size }, { os := h.os, tape := h.tape, output := h.output, size := h.size, frame := fun k hk _ => h.block k hk, mine := fun b k o h => (by rw [hρ] at h; cases h), fix := fun b hb => (by simp at hb), rows := hrows }⟩
theorem Does.of_ret {P : Program} {f : FuncId} {args : List AV} {r : AV} (hfn : fnOK P f = true)
    (h : ∀ (w : World) (Own : Nat → Prop) (vs : Array Value), args.length = vs.size → (∀ (i : Nat) x, args[i]? = some x → VRel w Own (fun _ => none) x (vs.getD i undef)) → Calls P f vs w fun e w' => ∃ v, e = .returned v ∧ Below w.heap.size w w' ∧ ∀ Own', (∀ k, Own' k → k < w.heap.size) → VRel w' Own' (fun _ => none) r v) : Does P f args [] [] (fun r' m => m = [] ∧ r' = r) := by
  refine ⟨hfn, fun A ρ w vs ht1 ht2 hM hlen hv => ?_⟩
  have hρ : ρ = fun _ => none := by
    funext b
    cases e : ρ b with
    | none => rfl
    | some p => obtain ⟨k, o⟩ := p; obtain ⟨blk, hl⟩ := hM.dom b k o e; simp [look] at hl
  subst hρ
  refine (h w _ vs hlen hv).mono ?_
  rintro e w' ⟨v, rfl, hb, hr⟩
  obtain ⟨h1, h2⟩ := after_drawn hb hM (fun k cur ty fr hk hh => by rw [hb.block k hk] at hh; exact ⟨cur, ty, fr, hh, rfl⟩)
  exact ⟨v, r, [], _, rfl, ⟨rfl, rfl⟩, h1, hr _ (fun k hk => by rcases hk with hk | ⟨_, _, hk⟩; exact hM.alt k hk; cases hk), h2⟩
theorem Does.of_plain {P : Program} {f : FuncId} {args : List AV} {r : AV} {v : Value} (hfn : fnOK P f = true) (hr : ∀ w Own ρ, VRel w Own ρ r v)
    (h : ∀ (w : World) (Own : Nat → Prop) (vs : Array Value), args.length = vs.size → (∀ (i : Nat) x, args[i]? = some x → VRel w Own (fun _ => none) x (vs.getD i undef)) → Calls P f vs w fun e w' => e = .returned v ∧ Below w.heap.size w w') : Does P f args [] [] (fun r' m => m = [] ∧ r' = r) :=
  Does.of_ret hfn (fun w Own vs h1 h2 => (h w Own vs h1 h2).mono fun _ _ ⟨he, hb⟩ => ⟨v, he, hb, fun _ _ => hr _ _ _⟩)
theorem Does.calls {P : Program} {f : FuncId} {args : List AV} {post : AV → Mem → Prop} (h : Does P f args [] [] post) {w : World} {vs : Array Value} (ht : theTab.p w) (hlen : args.length = vs.size) (hv : ∀ (i : Nat) x, args[i]? = some x → VRel w (OwnBy (fun _ => False) fun _ => none) (fun _ => none) x (vs.getD i undef)) :
    Calls P f vs w fun e w' => ∃ v r m ρ', e = .returned v ∧ post r m ∧ MemOK (fun _ => False) m ρ' w' ∧ VRel w' (OwnBy (fun _ => False) ρ') ρ' r v ∧ After w w' (fun _ => none) ρ' [] :=
  h.2 (fun _ => False) (fun _ => none) w vs ht (fun _ _ _ _ h => by cases h) ⟨fun b blk hl => (by simp [look] at hl), fun _ _ _ h => (by cases h), fun _ _ _ h => (by cases h), fun _ _ _ _ _ h => (by cases h), fun _ _ _ h => (by cases h), fun _ h => h.elim⟩ hlen hv
theorem own_tree {A : Nat → Prop} {m : Mem} {ρ' : Map} {w' : World} {b ty sz n : Nat} {es : List (List AV)} {v : Value} (hs : 0 < sz) (hM : MemOK A m ρ' w') (hb : look m b = some (.arr ty sz es)) (hv : VRel w' (OwnBy A ρ') ρ' (.own b sz 0 n) v) (hn : n = es.length) : TRel w' (OwnBy A fun _ => none) (.ro sz es) v := by
  subst hn
  rcases hv.own_inv with ⟨rfl, _, h0⟩ | ⟨ad, rfl, h0, _⟩ | ⟨k, o, cap, hρ, rfl, hcap, hroom⟩
  · rw [List.eq_nil_of_length_eq_zero h0]; exact .ronil
  · rw [List.eq_nil_of_length_eq_zero h0]; exact .ronil
  · have hB := hM.mem b _ hb
    simp only [BRel, hρ] at hB
    obtain ⟨cur, hh, hlen, hsz, hcell⟩ := hB
    refine TRel.row ⟨hs, hlen, ?_, fun i j x hx => ?_⟩ hcap
    · rintro (hO | ⟨_, _, hO⟩)
      · exact hM.far _ _ _ hρ hO
      · cases hO
    · obtain ⟨u, hu, h1, ht⟩ := hcell i j x hx
      refine ⟨u, ?_, h1, ht.sub (fun k hk => by rcases hk with hk | ⟨_, _, hk⟩; exact .inl hk; cases hk)⟩
      rw [add_none]
      simp only [World.cell?, hh]
      rw [if_neg (by simp), ← hu]
      congr 1; omega
theorem nils_tree {w : World} {Own Own' : Nat → Prop} {ρ : Map} {s sz : Nat} {v : Value} (h : VRel w Own ρ (.nils s) v) : TRel w Own' (.ro sz []) v := by
  cases h with
  | tree h => cases h; exact .ronil
theorem Does.tree {P : Program} {f : FuncId} {args : List AV} {post : AV → Mem → Prop} (h : Does P f args [] [] post) (r' : AV) (hp : ∀ r m, post r m → ∀ A ρ' w' v, MemOK A m ρ' w' → VRel w' (OwnBy A ρ') ρ' r v → VRel w' (OwnBy A fun _ => none) (fun _ => none) r' v) : Does P f args [] [] (fun r m => m = [] ∧ r = r') := by
  refine ⟨h.1, fun A ρ w vs ht1 ht2 hM hlen hv => (h.2 A ρ w vs ht1 ht2 hM hlen hv).mono ?_⟩
  rintro e w' ⟨v, r, m, ρ', rfl, hpost, hM', hv', hA⟩
  have hρ : ∀ b, ρ b = none := fun b => by
    cases e : ρ b with
    | none => rfl
    | some p => obtain ⟨k, o⟩ := p; obtain ⟨blk, hl⟩ := hM.dom b k o e; simp [look] at hl
  exact ⟨v, r', [], fun _ => none, rfl, ⟨rfl, rfl⟩, ⟨fun b blk hl => (by simp [look] at hl), fun _ _ _ h => (by cases h), fun _ _ _ h => (by cases h), fun _ _ _ _ _ h => (by cases h), fun _ _ _ h => (by cases h), hM'.alt⟩, hp r m hpost A ρ' w' v hM' hv',
    { os := hA.os, tape := hA.tape, output := hA.output, size := hA.size, frame := hA.frame, mine := fun _ _ _ h => (by cases h), fix := fun b hb => (by simp at hb), rows := hA.rows }⟩
theorem srcs_no {g : Src → Option AV} {xs : List Src} {args : List AV} (h : srcsOf g xs = some args) : (srcsOf g xs).map (· ++ ([] : List AV)) = some args := by rw [h]; simp
section
variable {P : Program} {nt : Nat} {c : Ctx} {st : St}
theorem runL_tree {f : FuncId} {xs : List Src} {d : Option Nat} {args : List AV} {v : AV} {k : St → Prop} {r : List It} (hx : srcsOf st.src xs = some args) (hD : Does P f args [] [] (fun r m => m = [] ∧ r = v)) (hr : refsInL (fun _ => False) args) (hstd : c.A = c.B)
    (hk : runL P c nt r ((callSt st [] [] []).put? d v) k) : runL P c nt (⟨d, none, .callv (.c (.fn f [])) xs⟩ :: r) st k :=
by
  have hkk : keepS [] st.mem = ([] : Mem) := by simp [keepS]
  refine runL_call (post := fun r m => m = [] ∧ r = v) [] [] rfl (srcs_no hx) (by rw [hkk]; exact hD) (refs_impL (fun _ h => h.elim) _ hr) (fun b hb => by simp at hb) (fun b _ hb => by simp at hb) hstd (fun rv m hp => ?_)
  obtain ⟨hm, he⟩ := hp
  subst hm; subst he
  exact ⟨fun p hp => by simp at hp, hk⟩
theorem runP_tree {X : List Nat} {i : Nat} {p : Plan} {f : FuncId} {xs : List Src} {d : Option Nat} {args : List AV} {v : AV} {k : St → Prop} (hx : srcsOf st.src xs = some args) (hD : Does P f args [] [] (fun r m => m = [] ∧ r = v)) (hr : refsInL (fun _ => False) args) (hn : noTree v = true)
    (hk : runP P c nt X p (st.put? d v) k) : runP P c nt X (.alt i ⟨d, none, .callv (.c (.fn f [])) xs⟩ p .done) st k :=
  ⟨callK_view (stF := { st with fixed := [] }) (St.le_refl _) rfl (srcs_no (show srcsOf st.src xs = some args from hx)) hD hr (fun rv m ⟨hm, he⟩ => by subst hm; subst he; exact ⟨rfl, hn, hk⟩), trivial⟩
theorem runP_treeT {X : List Nat} {i : Nat} {p : Plan} {f : FuncId} {xs : List Src} {d : Option Nat} {args : List AV} {v : AV} {k : St → Prop} (hx : srcsOf st.src xs = some args) (hD : Does P f args [] [] (fun r m => m = [] ∧ r = v)) (hr : refsInL (fun _ => False) args) (hstd : c.A = c.B)
    (hk : runP P c nt X p ((callSt st [] [] []).put? d v) k) : runP P c nt X (.alt i ⟨d, none, .callv (.c (.fn f [])) xs⟩ p .done) st k := by
  have hkk : keepS [] st.mem = ([] : Mem) := by simp [keepS]
  refine ⟨callK_call (X := fun b => b ∈ X) (bs := []) (fixed := []) (post := fun r m => m = [] ∧ r = v) rfl (srcs_no hx) (by rw [hkk]; exact hD) (refs_impL (fun _ h => h.elim) _ hr) (fun b hb => by simp at hb) (fun b _ hb => by simp at hb) (fun b hb => by simp at hb) (fun rv m hp => ?_), trivial⟩
  obtain ⟨hm, he⟩ := hp
  subst hm; subst he
  exact ⟨fun b blk hb => by simp [look] at hb, .inl hstd, hk⟩
theorem runP_do {X : List Nat} {i : Nat} {p : Plan} {d : Option Nat} {ao : AOp} {k : St → Prop} {s : Nat} {want : Bool} (hb : look st.slots s = some (.lit (.bool want))) (h : runP P c nt X (.alt i ⟨d, none, ao⟩ p .done) st k) : runP P c nt X (.alt i ⟨d, some (s, want), ao⟩ p .done) st k :=
  ⟨⟨some want, by simp [gval, hb], fun _ => h.1, fun hne => absurd rfl hne⟩, trivial⟩
theorem runP_skip {X : List Nat} {i : Nat} {p : Plan} {d : Option Nat} {ao : AOp} {k : St → Prop} {s : Nat} {b want : Bool} (hb : look st.slots s = some (.lit (.bool b))) (hne : b ≠ want) (h : runP P c nt X p (st.put? d (.tup [])) k) : runP P c nt X (.alt i ⟨d, some (s, want), ao⟩ p .done) st k :=
  ⟨⟨some b, by simp [gval, hb], fun he => absurd (by simpa using he) hne, fun _ => h⟩, trivial⟩
theorem runP_step {X : List Nat} {i : Nat} {it : It} {p : Plan} {st' : St} {k : St → Prop} (hq : quiet X st it.ao = true) (h : stepI it st = some st') (hk : runP P c nt X p st' k) : runP P c nt X (.take i it p) st k := runQ_of_step hq h hk
end
theorem After.below {w w' : World} {ρ' : Map} {fx : List Nat} (h : After w w' (fun _ => none) ρ' fx) : Below w.heap.size w w' :=
  ⟨h.os, h.tape, h.output, h.size, fun k hk => h.frame k hk (fun _ _ h => by cases h)⟩
theorem killL_fam {base sz q n : Nat} {f : Nat → Nat} (hq : q < n) : killL (base + q) (famCells base sz f n) = (famCells base sz f n).set q .dead := by
  apply List.ext_getElem?
  intro i
  rw [killL_get]
  by_cases hi : i < n
  · rw [famCells_get hi]
    by_cases e : i = q
    · subst e; simp [hi]
    · simp [List.getElem?_set_ne (Ne.symm e), famCells_get hi, e]
  · rw [List.getElem?_eq_none (by simpa using hi), List.getElem?_eq_none (by simpa using hi)]; rfl
theorem killL_fam_ne {base sz b n : Nat} {f : Nat → Nat} (hb : b < base) : killL b (famCells base sz f n) = famCells base sz f n := by
  apply List.ext_getElem?
  intro i
  rw [killL_get]
  by_cases hi : i < n
  · rw [famCells_get hi]; simp; omega
  · rw [List.getElem?_eq_none (by simpa using hi)]; rfl
theorem famCells_put {base sz q n v : Nat} {len len' : Nat → Nat} (hq : q < n) (h : ∀ c, len' c = if c = q then v else len c) : List.take q ((famCells base sz len n).set q AV.dead) ++ AV.own (base + q) sz 0 v :: List.drop (q + 1) ((famCells base sz len n).set q AV.dead) = famCells base sz len' n := by
  rw [List.take_set, List.drop_set_of_lt (by omega), List.set_eq_of_length_le (by simp; omega)]
  apply List.ext_getElem?
  intro i
  rcases Nat.lt_trichotomy i q with h1 | h1 | h1
  · rw [List.getElem?_append_left (by simp; omega), List.getElem?_take_of_lt h1, famCells_get (by omega), famCells_get (by omega)]
    simp [h, Nat.ne_of_lt h1]
  · subst h1
    rw [List.getElem?_append_right (by simp; omega), famCells_get hq]
    simp [h, show min i n = i from by omega]
  · rw [List.getElem?_append_right (by simp; omega)]
    have h2 : i - (List.take q (famCells base sz len n)).length = (i - q - 1) + 1 := by simp; omega
    rw [h2, List.getElem?_cons_succ, List.getElem?_drop, show q + 1 + (i - q - 1) = i from by omega]
    by_cases h3 : i < n
    · rw [famCells_get h3, famCells_get h3]; simp [h, show ¬ i = q from by omega]
    · rw [List.getElem?_eq_none (by simp; omega), List.getElem?_eq_none (by simp; omega)]
theorem famCells_one {base sz q n : Nat} {len : Nat → Nat} (hq : q < n) : ((famCells base sz len n).drop q).take 1 = [.own (base + q) sz 0 (len q)] := by
  rw [List.drop_eq_getElem_cons (by simpa using hq)]
  simp [famCells]
theorem look_killB (l : Mem) (b d : Nat) : look (l.map fun p => (p.1, killB b p.2)) d = (look l d).map (killB b) := look_mapv _ _ _
theorem upd_app {α : Type} : ∀ {l r : List (Nat × α)} {d : Nat} {x : α}, look l d = none → upd (l ++ r) d x = l ++ upd r d x
  | [], _, _, _, _ => rfl
  | (k, v) :: q, r, d, x, h => by
    simp only [look] at h
    split at h
    · cases h
    · rename_i e
      show upd ((k, v) :: (q ++ r)) d x = (k, v) :: (q ++ upd r d x)
      simp only [upd]
      rw [if_neg e, upd_app h]
theorem drop_app {α : Type} : ∀ {l r : List (Nat × α)} {d : Nat}, look l d = none → drop (l ++ r) d = l ++ drop r d
  | [], _, _, _ => rfl
  | (k, v) :: q, r, d, h => by
    simp only [look] at h
    split at h
    · cases h
    · rename_i e
      show drop ((k, v) :: (q ++ r)) d = (k, v) :: (q ++ drop r d)
      simp only [drop]
      rw [if_neg e, drop_app h]
section
variable {base ty sz n d : Nat} {f : Nat → List (List AV)} {r : Mem}
@[simp] theorem look_famA (h : d < base) : look (fam base ty sz f n ++ r) d = look r d := by rw [look_append, look_fam_lt h]
@[simp] theorem upd_famA {x : Blk} (h : d < base) : upd (fam base ty sz f n ++ r) d x = fam base ty sz f n ++ upd r d x := upd_app (look_fam_lt h)
@[simp] theorem drop_famA (h : d < base) : drop (fam base ty sz f n ++ r) d = fam base ty sz f n ++ drop r d := drop_app (look_fam_lt h)
@[simp] theorem map_killB_fam {b : Nat} : ((fam base ty sz f n).map fun p => (p.1, killB b p.2)) = fam base ty sz f n := by
  simp [fam]
theorem look_famA_at {c : Nat} (h : c < n) : look (fam base ty sz f n ++ r) (base + c) = some (.arr ty sz (f c)) := by rw [look_append, look_fam h]
end
theorem evalL_step {it : It} {r : List It} {st st1 : St} {x : List It × St} (hc : isCall it.ao = false) (h : stepI it st = some st1) (h2 : evalL r st1 = some x) : evalL (it :: r) st = some x := by
  simp only [evalL, hc, h]; simpa using h2
theorem evalP_step {X : List Nat} {i : Nat} {it : It} {p : Plan} {st st1 : St} {x : Plan × St} (hq : quiet X st it.ao = true) (h : stepI it st = some st1) (h2 : evalP X p st1 = some x) : evalP X (.take i it p) st = some x := by
  simp only [evalP, hq, h]; simpa using h2
def stepQ (X : List Nat) (it : It) (st : St) : Option St := match it.g with
  | none => if quiet X st it.ao = true then exec it.d it.ao st else none
  | some (s, want) => match gval st s with
    | some b => if b = some want then (if quiet X st it.ao = true then exec it.d it.ao st else none) else some (st.put? it.d (.tup []))
    | none => none
attribute [simp] stepQ
theorem runP_stepQ {P : Program} {nt : Nat} {c : Ctx} {st : St} {X : List Nat} {i : Nat} {it : It} {p : Plan} {st' : St} {k : St → Prop} (h : stepQ X it st = some st') (hk : runP P c nt X p st' k) : runP P c nt X (.take i it p) st k := by
  show runQ X it st _
  obtain ⟨d, g, ao⟩ := it
  cases g with
  | none =>
    simp only [stepQ] at h
    split at h
    · rename_i hq; exact ⟨hq, _, h, hk⟩
    · cases h
  | some g =>
    obtain ⟨s, want⟩ := g
    simp only [stepQ] at h
    split at h
    · rename_i b hb
      refine ⟨b, hb, fun e => ?_, fun e => ?_⟩
      · rw [if_pos e] at h
        split at h
        · rename_i hq; exact ⟨hq, _, h, hk⟩
        · cases h
      · rw [if_neg e] at h
        injection h with h; show runP P c nt X p (st.put? d (.tup [])) k; rw [h]; exact hk
    · cases h
theorem runP_pass {P : Program} {nt : Nat} {c : Ctx} {st : St} {X : List Nat} {i : Nat} {p : Plan} {d : Option Nat} {ao : AOp} {k : St → Prop} {s : Nat} {b : Option Bool} {want : Bool} (hb : gval st s = some b) (hne : b ≠ some want) (h : runP P c nt X p (st.put? d (.tup [])) k) : runP P c nt X (.take i ⟨d, some (s, want), ao⟩ p) st k :=
  ⟨b, hb, fun he => absurd he hne, fun _ => h⟩
theorem runL_pass {P : Program} {nt : Nat} {c : Ctx} {st : St} {r : List It} {d : Option Nat} {ao : AOp} {k : St → Prop} {s : Nat} {b : Option Bool} {want : Bool} (hb : gval st s = some b) (hne : b ≠ some want) (h : runL P c nt r (st.put? d (.tup [])) k) : runL P c nt (⟨d, some (s, want), ao⟩ :: r) st k :=
  ⟨b, hb, fun he => absurd he hne, fun _ => h⟩
theorem runL_le {P : Program} {nt : Nat} {c : Ctx} {st st' : St} {fs : Src} {xs : List Src} {d : Option Nat} {r : List It} {k : St → Prop} (hstd : c.A = c.B) (hle : St.le st st') (h : runL P c nt (⟨d, none, .callv fs xs⟩ :: r) st' k) : runL P c nt (⟨d, none, .callv fs xs⟩ :: r) st k := by
  intro o ρ a w hc hs hch hd hlt
  obtain ⟨ρ', hc', hsub⟩ := hle c ρ a w hstd hc
  obtain ⟨f, vs, hrun, hcalls⟩ := h o ρ' a w hc' hs hch hd hlt
  refine ⟨f, vs, hrun, hcalls.mono ?_⟩
  rintro e w' ⟨v, st2, ρ2, he, hk, hc2, hf, hm, hsz⟩
  refine ⟨v, st2, ρ2, he, hk, hc2, fun q hq hno => hf q hq (fun b o' hX hb => hno b o' hX (hsub _ _ _ hb)), fun b q o' hb => ?_, hsz⟩
  rcases hm b q o' hb with h1 | ⟨hX, h1⟩
  · exact .inl (hsub _ _ _ h1)
  · refine .inr ⟨hX, h1.imp id ?_⟩
    rintro ⟨b0, hX0, o2, h2⟩
    exact ⟨b0, hX0, o2, hsub _ _ _ h2⟩
theorem runL_freeze {P : Program} {nt : Nat} {c : Ctx} {st : St} {fs : Src} {xs : List Src} {d : Option Nat} {r : List It} {k : St → Prop} (hstd : c.A = c.B) (b : Nat) (hf : st.fixed.contains b = false) (h : runL P c nt (⟨d, none, .callv fs xs⟩ :: r) (st.freeze b) k) : runL P c nt (⟨d, none, .callv fs xs⟩ :: r) st k := runL_le hstd (le_freeze st b hf) h
theorem runP_one {P : Program} {nt : Nat} {c : Ctx} {st : St} {X : List Nat} {i : Nat} {it : It} {p : Plan} {st1 : St} {k : St → Prop} (hc : isCall it.ao = false) (hw : wrOK X st it.ao = true) (h : stepI it st = some st1) (h1 : runP P c nt X p st1 k) : runP P c nt X (.alt i it p .done) st k := runP_alt hc hw h h1 (.inl rfl)
theorem b2 (a b : Bool) : a = false ∨ (a = true ∧ b = false) ∨ (a = true ∧ b = true) := by cases a <;> cases b <;> simp
theorem b3 (a b c : Bool) : a = false ∨ (a = true ∧ b = false) ∨ (a = true ∧ b = true ∧ c = false) ∨ (a = true ∧ b = true ∧ c = true) := by cases a <;> cases b <;> cases c <;> simp
attribute [simp] St.freeze frz frzL frzB
def eds (l : List (Int × Int)) : List (List AV) := l.map fun e => [iv e.1, iv e.2]
def rws (l : List (List Nat)) : List (List AV) := l.map fun r => [.ro 1 (nats r)]
def bws (l : List (List Bool)) : List (List AV) := l.map fun r => [.ro 1 (bools r)]
section
variable (l m : List (Int × Int)) (i : Nat)
@[simp] theorem eds_length : (eds l).length = l.length := by simp [eds]
@[simp] theorem eds_getElem (h : i < (eds l).length) : (eds l)[i] = [iv (l[i]'(by simpa using h)).1, iv (l[i]'(by simpa using h)).2] := by simp [eds]
@[simp] theorem eds_append : eds l ++ eds m = eds (l ++ m) := by simp [eds]
@[simp] theorem eds_snoc (a b : Int) : eds l ++ [[iv a, iv b]] = eds (l ++ [(a, b)]) := by simp [eds]
@[simp] theorem eds_take : (eds l).take i = eds (l.take i) := by simp [eds, List.map_take]
@[simp] theorem eds_drop : (eds l).drop i = eds (l.drop i) := by simp [eds, List.map_drop]
@[simp] theorem eds_nil : eds [] = [] := rfl
end
section
variable (l m : List (List Nat)) (i : Nat)
@[simp] theorem rws_length : (rws l).length = l.length := by simp [rws]
@[simp] theorem rws_getElem (h : i < (rws l).length) : (rws l)[i] = [.ro 1 (nats (l[i]'(by simpa using h)))] := by simp [rws]
@[simp] theorem rws_append : rws l ++ rws m = rws (l ++ m) := by simp [rws]
@[simp] theorem rws_snoc (x : List Nat) : rws l ++ [[.ro 1 (nats x)]] = rws (l ++ [x]) := by simp [rws]
@[simp] theorem rws_take : (rws l).take i = rws (l.take i) := by simp [rws, List.map_take]
@[simp] theorem rws_nil : rws [] = [] := rfl
end
section
variable (l m : List (List Bool)) (i : Nat)
@[simp] theorem bws_length : (bws l).length = l.length := by simp [bws]
@[simp] theorem bws_getElem (h : i < (bws l).length) : (bws l)[i] = [.ro 1 (bools (l[i]'(by simpa using h)))] := by simp [bws]
@[simp] theorem bws_snoc (x : List Bool) : bws l ++ [[.ro 1 (bools x)]] = bws (l ++ [x]) := by simp [bws]
@[simp] theorem bws_take : (bws l).take i = bws (l.take i) := by simp [bws, List.map_take]
@[simp] theorem bws_nil : bws [] = [] := rfl
end
section
variable (l m : List Bool) (i : Nat)
@[simp] theorem bools_take : (bools l).take i = bools (l.take i) := by simp [bools, List.map_take]
@[simp] theorem bools_drop : (bools l).drop i = bools (l.drop i) := by simp [bools, List.map_drop]
@[simp] theorem bools_append : bools l ++ bools m = bools (l ++ m) := by simp [bools]
@[simp] theorem bools_snoc (x : Bool) : bools l ++ [[bv x]] = bools (l ++ [x]) := by simp [bools]
theorem bools_zero : List.replicate i [bv false] = bools (List.replicate i false) := by simp [bools]
end
end Go.SX
namespace Go.SX
open Go
def isC : Obj → Bool
  | .cells .. => true
  | .map .. => true
  | _ => false
theorem cell_isC {w : World} {a : Addr} {v : Value} (h : w.cell? a = some v) : ∃ o, w.heap[a.block]? = some o ∧ isC o = true := by
  unfold World.cell? at h
  cases ho : w.heap[a.block]? with
  | none => simp [ho] at h
  | some o => exact ⟨o, rfl, by cases o <;> simp_all [isC]⟩
theorem TRel.bar {w : World} {Own : Nat → Prop} {l : Nat} {o : Obj} (hl : w.heap[l]? = some o) (ho : isC o = false) {x : AV} {v : Value} (h : TRel w Own x v) : TRel w (fun k => Own k ∨ k = l) x v := by
  induction h with
  | lit h => exact .lit h
  | nils => exact .nils
  | ronil => exact .ronil
  | ro val hc hs hlen hblk hne hcell hone hrel ih =>
    refine .ro val hc hs hlen (fun h => ?_) hne hcell hone ih
    rcases h with h | h
    · exact hblk h
    · obtain ⟨x0, h0⟩ := exists_cell hs hlen hne
      obtain ⟨o', h1, h2⟩ := cell_isC (hcell 0 0 x0 h0)
      rw [add_blk, h, hl] at h1
      injection h1 with h1
      rw [h1, h2] at ho; cases ho
  | agg hl _ ih => exact .agg hl ih
  | tup hl _ ih => exact .tup hl ih
  | fn hl _ ih => exact .fn hl ih
theorem VRel.bar {w : World} {Own : Nat → Prop} {ρ : Map} {l : Nat} {o : Obj} (hl : w.heap[l]? = some o) (ho : isC o = false) {x : AV} {v : Value} (h : VRel w Own ρ x v) : VRel w (fun k => Own k ∨ k = l) ρ x v := by
  induction h with
  | tree h => exact .tree (h.bar hl ho)
  | agg hl _ ih => exact .agg hl ih
  | tup hl _ ih => exact .tup hl ih
  | fn hl _ ih => exact .fn hl ih
  | rop val hs hlen hblk hi hj hcell hone hrel =>
    refine .rop val hs hlen (fun h => ?_) hi hj hcell hone (fun i j x hx => (hrel i j x hx).bar hl ho)
    rcases h with h | h
    · exact hblk h
    · obtain ⟨x0, h0⟩ := exists_cell hs hlen (by intro h; subst h; simp at hi)
      obtain ⟨o', h1, h2⟩ := cell_isC (hcell 0 0 x0 h0)
      rw [add_blk, h, hl] at h1
      injection h1 with h1
      rw [h1, h2] at ho; cases ho
  | ownnil => exact .ownnil
  | ownz h => exact .ownz h
  | own h hn hroom => exact .own h hn hroom
  | ownc h hn hroom => exact .ownc h hn hroom
  | ptr h => exact .ptr h
  | mapr h => exact .mapr h
  | dead => exact .dead
theorem BRel.bar {w : World} {Own : Nat → Prop} {ρ : Map} {l : Nat} {o : Obj} (hl : w.heap[l]? = some o) (ho : isC o = false) {b : Nat} {blk : Blk} (h : BRel w Own ρ b blk) : BRel w (fun k => Own k ∨ k = l) ρ b blk := by
  cases blk with
  | arr ty sz es =>
    simp only [BRel] at h ⊢
    cases hb : ρ b with
    | none => rw [hb] at h; exact h
    | some p =>
      obtain ⟨k, o'⟩ := p
      rw [hb] at h
      obtain ⟨cur, h1, h2, h3, h4⟩ := h
      exact ⟨cur, h1, h2, h3, fun i j x hx => by
        obtain ⟨v, hv, h1v, ht⟩ := h4 i j x hx
        exact ⟨v, hv, h1v, ht.bar hl ho⟩⟩
  | obj ty cs =>
    obtain ⟨k, cur, h0, h1, h2, h3⟩ := h
    exact ⟨k, cur, h0, h1, h2, fun j x hx => by
      obtain ⟨v, hv, h1v, ht⟩ := h3 j x hx
      exact ⟨v, hv, h1v, ht.bar hl ho⟩⟩
  | map es =>
    obtain ⟨k, es', clock, h0, h1, h2, h3⟩ := h
    exact ⟨k, es', clock, h0, h1, h2, fun i p hp => by
      obtain ⟨e, he, hk1, ht⟩ := h3 i p hp
      exact ⟨e, he, hk1.bar hl ho, ht.bar hl ho⟩⟩
section
variable {c : Ctx} {st : St} {ρ : Map} {a : Act} {w : World}
theorem Conc.cells (h : Conc c st ρ a w) {b k o : Nat} (hb : ρ b = some (k, o)) : ∃ q, w.heap[k]? = some q ∧ isC q = true := by
  obtain ⟨blk, hl⟩ := h.dom b k o hb
  have hB := h.mem b blk hl
  cases blk with
  | arr ty sz es => simp only [BRel, hb] at hB; obtain ⟨cur, h1, _⟩ := hB; exact ⟨_, h1, rfl⟩
  | obj ty cs => obtain ⟨k', cur, h0, h1, _⟩ := hB; rw [hb] at h0; injection h0 with h0; injection h0 with h0 _; subst h0; exact ⟨_, h1, rfl⟩
  | map es => obtain ⟨k', es', clock, h0, h1, _⟩ := hB; rw [hb] at h0; injection h0 with h0; injection h0 with h0 _; subst h0; exact ⟨_, h1, rfl⟩
theorem Conc.notIn (h : Conc c st ρ a w) {l : Nat} {o : Obj} (hl : w.heap[l]? = some o) (ho : isC o = false) (b o' : Nat) : ρ b ≠ some (l, o') := fun hb => by
  obtain ⟨q, hc, hq⟩ := h.cells hb
  rw [hl] at hc; injection hc with hc; subst hc; rw [ho] at hq; cases hq
theorem Conc.putObj (h : Conc c st ρ a w) {l : Nat} {o o' : Obj} (hl : w.heap[l]? = some o) (ho : isC o = false) (ho' : isC o' = false) (hw : c.w0.heap.size ≤ l) : Conc c st ρ a (w.putObj l o') := by
  have hlt : l < w.heap.size := (Array.getElem?_eq_some_iff.1 hl).1
  have hk : KeepsV w (w.putObj l o') (fun k => OwnBy c.A ρ k ∨ k = l) (OwnBy c.A ρ) ρ ρ (fun _ => True) := {
    size := by simp
    same := fun k _ hno => World.putObj_heap_other (fun e => hno (.inr e))
    own := fun k _ hk => .inl hk
    map := fun _ _ _ _ h => h
    rows := fun k cur ty fr hk hh => by
      by_cases e : k = l
      · subst e; rw [World.putObj_heap_same hk] at hh; injection hh with hh; subst hh; cases ho'
      · rw [World.putObj_heap_other e] at hh; exact ⟨cur, ty, fr, hh, rfl⟩
    lt := h.lt }
  exact { slots := fun d x hx => ((h.slots d x hx).bar hl ho).keep hk (refs_all x), defers := h.defers
          mem := fun b blk hb => ((h.mem b blk hb).bar hl ho).keep hk rfl (fun k o'' hρ => World.putObj_heap_other (fun e => h.notIn hl ho b o'' (e ▸ hρ))) (fun _ cs _ => refs_allL cs)
          dom := h.dom, lt := fun b k o'' hb => by rw [World.putObj_size]; exact h.lt _ _ _ hb, inj := h.inj, mine := h.mine, far := h.far, fix := h.fix, alt := h.alt, os := h.os, tape := h.tape, output := h.output
          size := by rw [World.putObj_size]; exact h.size
          frame := fun k hk hF => by rw [World.putObj_heap_other (by omega)]; exact h.frame k hk hF
          rows := h.rows' hk }
theorem alloc_old (w : World) (o : Obj) {k : Nat} (hk : k < w.heap.size) : (w.alloc o).heap[k]? = w.heap[k]? := by
  show (w.heap.push o)[k]? = w.heap[k]?
  rw [Array.getElem?_push_lt hk, Array.getElem?_eq_getElem hk]
theorem Conc.alloc' (h : Conc c st ρ a w) (o : Obj) : Conc c st ρ a (w.alloc o) := by
  have hk : KeepsV w (w.alloc o) (OwnBy c.A ρ) (OwnBy c.A ρ) ρ ρ (fun _ => True) := {
    size := by simp
    same := fun k hk _ => alloc_old w o hk
    own := fun k _ hk => hk
    map := fun _ _ _ _ h => h
    rows := fun k cur ty fr hk hh => by rw [alloc_old w o hk] at hh; exact ⟨cur, ty, fr, hh, rfl⟩
    lt := h.lt }
  exact { slots := fun d x hx => (h.slots d x hx).keep hk (refs_all x), defers := h.defers
          mem := fun b blk hb => (h.mem b blk hb).keep hk rfl (fun k o'' hρ => alloc_old w o (h.lt _ _ _ hρ)) (fun _ cs _ => refs_allL cs)
          dom := h.dom, lt := fun b k o'' hb => by have := h.lt _ _ _ hb; simp; omega, inj := h.inj, mine := h.mine, far := h.far, fix := h.fix, alt := h.alt, os := h.os, tape := h.tape, output := h.output
          size := by have := h.size; simp; omega
          frame := fun k hk hF => by rw [alloc_old w o (by have := h.size; omega)]; exact h.frame k hk hF
          rows := h.rows' hk }
def ctxD (c : Ctx) (ρ : Map) (w : World) (ds : List Deferred) (hT : TabOK ρ w) : Ctx :=
  ⟨w, c.A, c.B, c.ρ0, fun k => ∃ b o, ρ b = some (k, o), c.sub, hT.1, fun q hq ⟨b, o, hb⟩ => hT.2 q hq b o hb, ds⟩
theorem Conc.begin (h : Conc c st ρ a w) (ds : List Deferred) : Conc (ctxD c ρ w ds h.tabOK) st ρ { a with defers := ds } w :=
  { slots := h.slots, defers := rfl, mem := h.mem, dom := h.dom, lt := h.lt, inj := h.inj, mine := fun b k o hb => .inl ⟨b, o, hb⟩, far := h.far, fix := h.fix, alt := fun k hk => Nat.lt_of_lt_of_le (h.alt k hk) h.size, os := rfl, tape := rfl, output := rfl, size := Nat.le_refl _, frame := fun _ _ _ => rfl, rows := fun k cur ty fr _ hh => ⟨cur, ty, fr, hh, rfl⟩ }
theorem Conc.back {st1 : St} {ρ1 : Map} {a1 : Act} {w1 : World} (h1 : Conc c st1 ρ1 a1 w1) {ds : List Deferred} {hT : TabOK ρ1 w1} (h : Conc (ctxD c ρ1 w1 ds hT) st ρ a w) : Conc c st ρ { a with defers := c.defs } w := by
  refine { slots := h.slots, defers := rfl, mem := h.mem, dom := h.dom, lt := h.lt, inj := h.inj, mine := ?_, far := h.far, fix := h.fix, alt := h1.alt, os := h.os.trans h1.os, tape := h.tape.trans h1.tape, output := h.output.trans h1.output, size := Nat.le_trans h1.size h.size, frame := ?_, rows := ?_ }
  · intro b k o hb
    rcases h.mine _ _ _ hb with ⟨b0, o0, h0⟩ | h0
    · exact h1.mine _ _ _ h0
    · exact .inr (Nat.le_trans h1.size h0)
  · intro k hk hF
    have hk1 : k < w1.heap.size := Nat.lt_of_lt_of_le hk h1.size
    rw [h.frame k hk1 (fun ⟨b, o, hb⟩ => ?_)]
    · exact h1.frame k hk hF
    · rcases h1.mine _ _ _ hb with h0 | h0
      · exact hF h0
      · omega
  · intro k cur ty fr hk hh
    have hk1 : k < w1.heap.size := Nat.lt_of_lt_of_le hk h1.size
    obtain ⟨c2, t2, f2, h2, e2⟩ := h.rows k cur ty fr hk1 hh
    obtain ⟨c3, t3, f3, h3, e3⟩ := h1.rows k c2 t2 f2 hk h2
    exact ⟨c3, t3, f3, h3, e3.trans e2⟩
theorem Conc.hold {st1 : St} {ρ1 : Map} {a1 : Act} {w1 : World} (h1 : Conc c st1 ρ1 a1 w1) {ds : List Deferred} {hT : TabOK ρ1 w1} (h : Conc (ctxD c ρ1 w1 ds hT) st ρ a w) {x : AV} {v : Value} (hx : VRel w1 (OwnBy c.A ρ1) ρ1 x v) (hr : refsIn (fun b => b ∈ st1.fixed ∧ b ∈ st.fixed) x) : VRel w (OwnBy c.A ρ) ρ x v := by
  have hk : KeepsV w1 w (OwnBy c.A ρ1) (OwnBy c.A ρ) ρ1 ρ (fun b => b ∈ st1.fixed ∧ b ∈ st.fixed) := {
    size := h.size
    same := fun k hk hno => h.frame k hk (fun ⟨b, o, hb⟩ => hno (.inr ⟨b, o, hb⟩))
    own := fun k hk hO => by
      rcases hO with hO | ⟨b, o, hO⟩
      · exact .inl hO
      · rcases h.mine _ _ _ hO with ⟨b0, o0, h0⟩ | h0
        · exact .inr ⟨b0, o0, h0⟩
        · exact absurd hk (by have : w1.heap.size ≤ k := h0; omega)
    map := fun b hb k o hρ => by rw [h.fix b hb.2]; exact (h1.fix b hb.1).symm.trans hρ
    rows := h.rows
    lt := h1.lt }
  exact hx.keep hk hr
end
structure Ex where
  hid : List (Nat × Obj)
  ds : List Deferred
def Hid (E : Ex) (a : Act) (w : World) : Prop := a.defers = E.ds ∧ ∀ p ∈ E.hid, w.heap[p.1]? = some p.2 ∧ isC p.2 = false
structure ConcH (c : Ctx) (st : St) (E : Ex) (ρ : Map) (a : Act) (w : World) : Prop where
  conc : Conc c st ρ { a with defers := c.defs } w
  hid : Hid E a w
def postH (nt : Nat) (c : Ctx) (Q : Exit → St → Ex → Prop) : Exit → Act → World → Prop
  | .panic _, _, _ => False
  | .outgrown, _, _ => False
  | e, a, w => a.tmps.size = nt ∧ ∃ st E ρ, Q e st E ∧ ConcH c st E ρ a w
def JH (P : Program) (nt : Nat) (c : Ctx) (ac : AC) (st : St) (E : Ex) (Q : Exit → St → Ex → Prop) : Prop :=
  ∀ code, chkC P nt code ac = true → ∀ ρ a w, ConcH c st E ρ a w → a.tmps.size = nt → code.wpIn (fw none) 0 P (postH nt c Q) a w
section
variable {P : Program} {nt : Nat} {c : Ctx} {st : St} {E : Ex} {Q : Exit → St → Ex → Prop}
theorem ConcH.back {st1 : St} {ρ1 ρ : Map} {a1 a : Act} {w1 w : World} (h1 : ConcH c st1 E ρ1 a1 w1) {hT : TabOK ρ1 w1} (h : Conc (ctxD c ρ1 w1 E.ds hT) st ρ a w) : ConcH c st E ρ a w :=
  ⟨h1.conc.back h, h.defers, fun p hp => by
    obtain ⟨h2, h3⟩ := h1.hid.2 p hp
    refine ⟨(h.frame p.1 (Array.getElem?_eq_some_iff.1 h2).1 (fun ⟨b, o, hb⟩ => h1.conc.notIn h2 h3 b o hb)).trans h2, h3⟩⟩
theorem ConcH.begin {ρ : Map} {a : Act} {w : World} (h : ConcH c st E ρ a w) : Conc (ctxD c ρ w E.ds h.conc.tabOK) st ρ a w := by
  have := h.conc.begin E.ds
  have e : ({ ({ a with defers := c.defs } : Act) with defers := E.ds } : Act) = a := by
    obtain ⟨t, d⟩ := a
    have := h.hid.1
    simp only at this; subst this; rfl
  rw [e] at this; exact this
theorem JH.of {ac : AC} (hstd : c.A = c.B) (h : ∀ c', c'.A = c'.B → J P nt c' ac st (fun e s => Q e s E)) : JH P nt c ac st E Q := by
  intro code hc ρ a w hcc hs
  refine wpIn_mono (h (ctxD c ρ w E.ds hcc.conc.tabOK) hstd code hc none rfl ρ a w hcc.begin hs) (fun e a' w' h' => ?_)
  cases e <;> first | exact h'.elim | skip
  all_goals
    obtain ⟨hs', st', ρ', hq, hc'⟩ := h'
    exact ⟨hs', st', E, ρ', hq, hcc.back hc'⟩
def thenH (P : Program) (nt : Nat) (c : Ctx) (y : AC) (Q : Exit → St → Ex → Prop) : Exit → St → Ex → Prop
  | .normal, st, E => JH P nt c y st E Q
  | e, st, E => Q e st E
theorem JH.seq {x y : AC} (h : JH P nt c x st E (thenH P nt c y Q)) : JH P nt c (.seq x y) st E Q := by
  intro code hc ρ a w hcc hs
  cases code <;> try (simp [chkC] at hc; done)
  simp only [chkC, Bool.and_eq_true] at hc
  refine wpIn_seq (wpIn_mono (h _ hc.1 ρ a w hcc hs) (fun e a' w' h' => ?_))
  cases e <;> first | exact h'.elim | skip
  · obtain ⟨hs', st', E', ρ', hq, hc'⟩ := h'
    exact hq _ hc.2 ρ' a' w' hc' hs'
  all_goals exact h'
theorem JH.cond {t : Nat} {x y : AC} (h : ∃ b, look st.slots t = some (.lit (.bool b)) ∧ (b = true → JH P nt c x st E Q) ∧ (b = false → JH P nt c y st E Q)) : JH P nt c (.cond (.s t) x y) st E Q := by
  obtain ⟨b, hb, h1, h2⟩ := h
  intro code hc ρ a w hcc hs
  cases code <;> try (simp [chkC] at hc; done)
  rename_i s x' y'
  cases s <;> try (simp [chkC] at hc; done)
  rename_i t'
  simp only [chkC, Bool.and_eq_true, beq_iff_eq] at hc
  obtain ⟨⟨rfl, hx⟩, hy⟩ := hc
  have he := (hcc.conc.slots _ _ hb).lit_inv.1
  exact wpIn_cond_split (t := b) he (fun e => h1 e _ hx ρ a w hcc hs) (fun e => h2 e _ hy ρ a w hcc hs)
def blockH (id : Nat) (Q : Exit → St → Ex → Prop) : Exit → St → Ex → Prop
  | .exit id', st, E => if id' = id then Q .normal st E else Q (.exit id') st E
  | e, st, E => Q e st E
theorem JH.block {id : Nat} {x : AC} (h : JH P nt c x st E (blockH id Q)) : JH P nt c (.block id x) st E Q := by
  intro code hc ρ a w hcc hs
  cases code <;> try (simp [chkC] at hc; done)
  simp only [chkC, Bool.and_eq_true, beq_iff_eq] at hc
  obtain ⟨rfl, hx⟩ := hc
  refine wpIn_block (wpIn_mono (h _ hx ρ a w hcc hs) (fun e a' w' h' => ?_))
  cases e <;> first | exact h'.elim | exact h' | skip
  rename_i id' _
  obtain ⟨hs', st', E', ρ', hq, hc'⟩ := h'
  simp only [blockH] at hq
  simp only [Exit.inBlock]
  split
  · rename_i e; rw [if_pos e] at hq; exact ⟨hs', st', E', ρ', hq, hc'⟩
  · rename_i e; rw [if_neg e] at hq; exact ⟨hs', st', E', ρ', hq, hc'⟩
theorem JH.mono {ac : AC} {Q' : Exit → St → Ex → Prop} (h : JH P nt c ac st E Q') (hq : ∀ e s E, Q' e s E → Q e s E) : JH P nt c ac st E Q := by
  intro code hc ρ a w hcc hs
  refine wpIn_mono (h code hc ρ a w hcc hs) (fun e a' w' h' => ?_)
  cases e <;> first | exact h'.elim | (obtain ⟨hs', st', E', ρ', hQ, hc'⟩ := h'; exact ⟨hs', st', E', ρ', hq _ _ _ hQ, hc'⟩)
theorem JH.le {ac : AC} {st' : St} (hstd : c.A = c.B) (hl : st.le st') (h : JH P nt c ac st' E Q) : JH P nt c ac st E Q := by
  intro code hc ρ a w hcc hs
  obtain ⟨ρ', h', _⟩ := hl c ρ _ w hstd hcc.conc
  exact h code hc ρ' a w ⟨h', hcc.hid⟩ hs
def loopH (I : Nat → St → Prop) (n : Nat) (E : Ex) (Q : Exit → St → Ex → Prop) : Exit → St → Ex → Prop
  | .normal, st, E' => E' = E ∧ ∃ m s', m < n ∧ st.le s' ∧ I m s'
  | e, st, E => Q e st E
theorem JH.loop {x : AC} (hstd : c.A = c.B) (I : Nat → St → Prop) (h0 : ∃ n s', st.le s' ∧ I n s') (h : ∀ n st, I n st → JH P nt c x st E (loopH I n E Q)) : JH P nt c (.loop x) st E Q := by
  intro code hc ρ a w hcc hs
  cases code <;> try (simp [chkC] at hc; done)
  rename_i x'
  simp only [chkC] at hc
  classical
  let R : Nat → Act → World → Prop := fun n a w => a.tmps.size = nt ∧ ∃ st ρ, I n st ∧ ConcH c st E ρ a w
  have hmin : ∀ a w, (∃ n, R n a w) → ∃ n, R n a w ∧ ∀ m, R m a w → n ≤ m := by
    intro a w ⟨n, hn⟩
    induction n using Nat.strongRecOn with
    | _ n ih =>
      by_cases hlt : ∃ m, m < n ∧ R m a w
      · obtain ⟨m, hm, hR⟩ := hlt; exact ih m hm hR
      · exact ⟨n, hn, fun m hm => Nat.le_of_not_lt (fun h' => hlt ⟨m, h', hm⟩)⟩
  let μ : Act → World → Nat := fun a w => if h : ∃ n, R n a w then (hmin a w h).choose else 0
  have hμ : ∀ a w, (∃ n, R n a w) → R (μ a w) a w ∧ ∀ m, R m a w → μ a w ≤ m := by
    intro a w hex
    simp only [μ, hex, dif_pos]
    exact (hmin a w hex).choose_spec
  obtain ⟨n0, s0, hle0, hn0⟩ := h0
  obtain ⟨ρ0, hcc0, _⟩ := hle0 c ρ _ w hstd hcc.conc
  refine wpIn_loop (fun a w => ∃ n, R n a w) μ ⟨n0, hs, s0, ρ0, hn0, hcc0, hcc.hid⟩ (fun a w hex => ?_)
  obtain ⟨⟨hs1, st1, ρ1, hI, hc1⟩, _⟩ := hμ a w hex
  refine wpIn_mono (h _ st1 hI _ hc ρ1 a w hc1 hs1) (fun e a' w' h' => ?_)
  cases e <;> first | exact h'.elim | exact h' | skip
  obtain ⟨hs', st0, E0, ρ0, ⟨rfl, m, st', hm, hle, hI'⟩, hc0⟩ := h'
  obtain ⟨ρ', hc', _⟩ := hle c ρ0 _ w' hstd hc0.conc
  have hex' : ∃ n, R n a' w' := ⟨m, hs', st', ρ', hI', hc', hc0.hid⟩
  exact ⟨hex', Nat.lt_of_le_of_lt ((hμ a' w' hex').2 m ⟨hs', st', ρ', hI', hc', hc0.hid⟩) hm⟩
end
end Go.SX
namespace Go.SX
open Go
section
variable {P : Program} {F : Fence} {n : Nat} {ops : Array Oper} {R Q : Exit → Act → World → Prop}
theorem Oper.wpIn_then {o : Oper} {a : Act} {w : World} {K K' : Act → World → Prop} (hK : ∀ a w, K a w → K' a w) (hR : ¬ LetsOut R) (hp : ∀ ch a w, R (.panic ch) a w → Q (.panic ch) a w)
    (hh : o.wpIn F n P a w K R) : o.wpIn F n P a w K' Q := by
  unfold Oper.wpIn at *
  refine ⟨hh.1, ?_⟩
  have hh := hh.2
  generalize (o.semAt F.round a.eval).run P w = r at *
  cases r with
  | ok x w' =>
    cases x <;> simp only [Oper.uponIn] at hh ⊢
    case value v => exact hK _ _ hh
    case skip => exact hK _ _ hh
    case defer d => exact hK _ _ hh
    case enter f args => exact ⟨hh.1, CallsIn.mono hh.2 (fun e w'' he => by cases e <;> first | exact hK _ _ he | exact hp _ _ _ he | exact absurd he hR)⟩
    case row row args => exact ⟨hh.1, RowsIn.mono hh.2 (fun _ _ he => hK _ _ he)⟩
    case round l f tmps asg bd => exact ⟨hh.1, RoundIn.mono hh.2 (fun e w'' he => by cases e <;> first | exact hK _ _ he | exact hp _ _ _ he | exact absurd he hR)⟩
  | halt x w' => cases x <;> simp only [Oper.uponIn] at hh ⊢; exact hp _ _ _ hh
theorem wpOpsIn_then (hR : ¬ LetsOut R) (hp : ∀ ch a w, R (.panic ch) a w → Q (.panic ch) a w) {l2 : List Nat} (hn : ∀ a w, R .normal a w → wpOpsIn F n P ops Q l2 a w) : ∀ (l1 : List Nat) (a : Act) (w : World), wpOpsIn F n P ops R l1 a w → wpOpsIn F n P ops Q (l1 ++ l2) a w
  | [], a, w, h => hn a w h
  | i :: q, a, w, h => by
    rw [List.cons_append, wpOpsIn_cons]
    rw [wpOpsIn_cons] at h
    unfold wpOpIn at h ⊢
    split at h
    · exact wpOpsIn_then hR hp hn q _ _ h
    · split at h
      · rename_i hw
        simp only [hw, if_true]
        exact Oper.wpIn_then (fun a w h => wpOpsIn_then hR hp hn q a w h) hR hp h
      · rename_i hw
        simp only [hw, if_false, Bool.false_eq_true]
        exact ⟨h.1, wpOpsIn_then hR hp hn q _ _ h.2⟩
end
section
variable {P : Program} {nt : Nat} {c : Ctx}
theorem run_part {ops : Array Oper} {its : List It} (hch : chkIts P nt ops ops.toList its = true) {k : St → Prop} : ∀ (n i : Nat) (st : St) (ρ : Map) (a : Act) (w : World), i + n ≤ its.length → Conc c st ρ a w → a.tmps.size = nt → runL P c nt ((its.drop i).take n) st k → wpOps P ops (postR nt c k) (List.range' i n) a w
  | 0, i, st, ρ, a, w, hi, h, hs, hr => ⟨hs, st, ρ, by simpa [runL] using hr, h⟩
  | n + 1, i, st, ρ, a, w, hi, h, hs, hr => by
    rw [List.range'_succ, wpOps_cons]
    have hlt : i < its.length := by omega
    rw [List.drop_eq_getElem_cons hlt, List.take_succ_cons] at hr
    exact step_run (chkIts_at hch (List.getElem?_eq_getElem hlt)) h hs hr (fun a' w' st' ρ' hc' hs' hk _ _ _ => run_part hch n (i + 1) st' ρ' a' w' (by omega) hc' hs' hk)
theorem run_yieldv {o : Oper} {a : Act} {l : Nat} {cl : Call} {y : Operand} (ho : o.op = .call cl) (hy : cl.callee = .value y) (hv : a.eval y = .func (.yield l) #[] #[]) :
    execOp a.eval o = Instr.yield l (cl.args.map a.eval) := by
  unfold execOp
  rw [ho]
  simp only [resolve, hy, hv]
  show Instr.yield l _ = _
  congr 1
  simp
def Rounds (P : Program) (c : Ctx) (l : Nat) (E : Ex) (m : Mem) (fixed : List Nat) (xs : List AV) (K : Bool → Mem → Ex → Prop) : Prop :=
  ∀ (st : St) (ρ : Map) (a : Act) (w : World) (vs : Array Value), st.mem = m → st.fixed = fixed → ConcH c st E ρ a w → xs.length = vs.size → (∀ (i : Nat) x, xs[i]? = some x → VRel w (OwnBy c.A ρ) ρ x (vs.getD i undef)) →
    YieldAt (fw none) 0 P l vs w fun e w' => ∃ b m' E' ρ', e = .returned (.bool b) ∧ K b m' E' ∧ ConcH c ⟨[], m', fixed⟩ E' ρ' a w' ∧ ∀ x v, VRel w (OwnBy c.A ρ) ρ x v → refsIn (fun b => b ∈ fixed) x → VRel w' (OwnBy c.A ρ') ρ' x v
theorem Act.put_defers' (a : Act) (d : Option Nat) (v : Value) (ds : List Deferred) : ({ a.put d v with defers := ds } : Act) = ({ a with defers := ds } : Act).put d v := by cases d <;> rfl
theorem ConcH.put {st : St} {E : Ex} {ρ : Map} {a : Act} {w : World} (h : ConcH c st E ρ a w) {d : Nat} (hd : d < a.tmps.size) {x : AV} {v : Value} (hx : VRel w (OwnBy c.A ρ) ρ x v) : ConcH c (st.put d x) E ρ (a.put (some d) v) w :=
  ⟨by rw [Act.put_defers']; exact h.conc.put hd hx, h.hid⟩
theorem JH.regY {its : List It} {ks : List Nat} {st : St} {E : Ex} {Q : Exit → St → Ex → Prop} (hstd : c.A = c.B) (n : Nat) {d : Nat} {g : Option (Nat × Bool)} {fs : Src} {xs : List Src} (hy : its[n]? = some ⟨some d, g, .callv fs xs⟩) (K1 : St → Prop)
    (h1 : ∀ c', c'.A = c'.B → runL P c' nt (its.take n) st K1)
    (h2 : ∀ s1, K1 s1 →
      (∃ s want b, g = some (s, want) ∧ gval s1 s = some b ∧ b ≠ some want ∧ ∀ c', c'.A = c'.B → runL P c' nt (its.drop (n + 1)) (s1.put d (.tup [])) fun s' => Q .normal (s'.keep ks) E) ∨
      ((∀ s want, g = some (s, want) → gval s1 s = some (some want)) ∧ ∃ l args K2 s2, St.le s1 s2 ∧ s2.src fs = some (.lit (.func (.yield l) #[] #[])) ∧ srcsOf s2.src xs = some args ∧ Rounds P c l E s2.mem s2.fixed args K2 ∧
        ∃ ds, (∀ p ∈ keepS ds s2.slots, look s2.slots p.1 = some p.2 ∧ refsIn (fun b => b ∈ s2.fixed) p.2) ∧ ∀ b m' E', K2 b m' E' → ∀ c', c'.A = c'.B → runL P c' nt (its.drop (n + 1)) (St.put ⟨keepS ds s2.slots, m', s2.fixed⟩ d (.lit (.bool b))) fun s' => Q .normal (s'.keep ks) E')) :
    JH P nt c (.reg its ks) st E Q := by
  intro code hc ρ a w hcc hs
  cases code <;> try (simp [chkC] at hc; done)
  rename_i id ops draw
  cases draw <;> simp only [chkC] at hc
  case true => cases hc
  have hl := (chkIts_get hc).1
  have hl' : ops.size = its.length := by rw [← Array.length_toList, hl]
  have hnl : n < its.length := by
    rcases Nat.lt_or_ge n its.length with h | h
    · exact h
    · rw [List.getElem?_eq_none h] at hy; cases hy
  have hRR : ¬ LetsOut (postH nt c Q) := fun ⟨_, _, h⟩ => h
  refine wpIn_region ?_
  have hsplit : List.range ops.size = List.range' 0 n ++ (n :: List.range' (n + 1) (its.length - (n + 1))) := by
    rw [List.range_eq_range', hl']
    have : its.length = n + (1 + (its.length - (n + 1))) := by omega
    conv => lhs; rw [this, ← List.range'_append_1]
    rw [Nat.add_comm 1, List.range'_succ]; simp
  rw [hsplit]
  -- the rest
  have rest : ∀ (s : St) (E' : Ex) (ρ' : Map) (a' : Act) (w' : World), ConcH c s E' ρ' a' w' → a'.tmps.size = nt → (∀ c', c'.A = c'.B → runL P c' nt (its.drop (n + 1)) s fun s' => Q .normal (s'.keep ks) E') →
      wpOpsIn (fw none) 0 P ops (postH nt c Q) (List.range' (n + 1) (its.length - (n + 1))) a' w' := by
    intro s E' ρ' a' w' hh hs' hr
    have h0 := run_part (c := ctxD c ρ' w' E'.ds hh.conc.tabOK) hc (its.length - (n + 1)) (n + 1) s ρ' a' w' (by omega) hh.begin hs' (by
      rw [List.take_of_length_le (by simp)]; exact hr _ hstd)
    have h3 := wpOps_in (r := none) (.inl rfl) postR_in _ _ _ h0
    have h4 := wpOpsIn_then (Q := postH nt c Q) (l2 := []) postR_in (fun _ _ _ h => h.elim) (fun a2 w2 h5 => (by
      obtain ⟨hs2, st2, ρ2, hk2, hc2⟩ := h5
      exact ⟨hs2, _, E', ρ2, hk2, ⟨keep_conc (hh.conc.back hc2) ks, (hh.back hc2).hid⟩⟩ : wpOpsIn (fw none) 0 P ops (postH nt c Q) [] a2 w2)) _ _ _ h3
    rw [List.append_nil] at h4; exact h4
  have h0 := run_part (c := ctxD c ρ w E.ds hcc.conc.tabOK) (k := K1) hc n 0 st ρ a w (by omega) hcc.begin hs (by rw [List.drop_zero]; exact h1 (ctxD c ρ w E.ds hcc.conc.tabOK) hstd)
  refine wpOpsIn_then postR_in (fun _ _ _ h => h.elim) (fun a1 w1 h5 => ?_) _ _ _ (wpOps_in (r := none) (.inl rfl) postR_in _ _ _ h0)
  obtain ⟨hs1, s1, ρ1, hk1, hc1⟩ := h5
  have hh := hcc.back hc1
  have hch := chkIts_at hc hy
  obtain ⟨o, ho, hck⟩ := chkAt_spec hch
  obtain ⟨hd, hdl, hop, hg⟩ := chkIt_spec hck
  have hdlt : d < nt := hdl d rfl
  rw [wpOpsIn_cons]
  unfold wpOpIn
  rw [ho]
  dsimp only
  rcases h2 s1 hk1 with ⟨s, want, b, rfl, hb, hne, hrest⟩ | ⟨hgw, l, args, K2, s2, hle, hfs, hxs, hround, ds, hds, hrest⟩
  · have hwant : Region.wanted o (yielded ops a1.tmps) = false := by
      rcases hg with ⟨_, h⟩ | ⟨j, want', s', oj, e1, e2, e3, e4, e5⟩
      · cases h
      · injection e2 with e2; injection e2 with e2 e6; subst e2; subst e6
        rw [wanted_of hc1 hs1 e1 e3 e4 hb e5]; simpa using hne
    rw [if_neg (by simp [hwant])]
    refine ⟨fun _ _ => trivial, rest _ E ρ1 _ w1 ?_ (by rw [put_size]; exact hs1) hrest⟩
    rw [hd]
    exact hh.put (by omega) undef_rel
  · have hwant : Region.wanted o (yielded ops a1.tmps) = true := by
      rcases hg with ⟨e1, _⟩ | ⟨j, want', s', oj, e1, e2, e3, e4, e5⟩
      · simp [Region.wanted, e1]
      · rw [wanted_of hc1 hs1 e1 e3 e4 (hgw _ _ e2) e5]; simp
    rw [if_pos hwant]
    obtain ⟨ρ1', hh', _⟩ := hle c ρ1 _ w1 hstd hh.conc
    have hh2 : ConcH c s2 E ρ1' a1 w1 := ⟨hh', hh.hid⟩
    clear hc1 hh
    have hc1 := hh'
    have hcall : chkCall o fs xs = true := hop
    unfold chkCall at hcall
    split at hcall <;> try (cases hcall; done)
    rename_i cl hocl
    simp only [Bool.and_eq_true] at hcall
    obtain ⟨hcl1, hcl2⟩ := hcall
    split at hcl1 <;> try (cases hcl1; done)
    rename_i y hcy
    have hyv : a1.eval y = .func (.yield l) #[] #[] := (hc1.srcs _ _ _ hcl1 hfs).lit_inv.1
    obtain ⟨hal, har⟩ := srcs_list hc1.srcs hcl2 hxs
    obtain ⟨fn, tmps, asg, bd, hyl, hro⟩ := hround s2 ρ1' a1 w1 (cl.args.map a1.eval) rfl rfl hh2 (by rw [hal]; simp) (fun i x hx => by
      have : VRel w1 (OwnBy c.A ρ1') ρ1' x ((List.map a1.eval cl.args.toList).toArray.getD i undef) := har i x hx
      have e1 : ((cl.args.toList.map a1.eval).toArray.getD i undef) = (cl.args.map a1.eval).getD i undef := by
        congr 1
        apply Array.ext'
        simp
      rw [e1] at this; exact this)
    refine ⟨fun _ _ => trivial, ?_⟩
    have hsem : o.semAt (fw none).round a1.eval = execOp a1.eval o := rfl
    rw [hsem, run_yieldv hocl hcy hyv, hyl]
    refine ⟨fun hd => (by simp [fw, Fence.wide] at hd), hro.mono ?_⟩
    rintro e w2 ⟨b, m', E', ρ2, rfl, hK2, hc2, htr⟩
    have hc3 : ConcH c ⟨keepS ds s2.slots, m', s2.fixed⟩ E' ρ2 a1 w2 :=
      ⟨{ hc2.conc with slots := fun q x hx => htr _ _ (hc1.slots _ _ (hds _ (look_mem hx)).1) (hds _ (look_mem hx)).2 }, hc2.hid⟩
    refine rest _ E' ρ2 _ w2 ?_ (by rw [put_size]; exact hs1) (hrest b m' E' hK2)
    rw [hd]
    exact hc3.put (by omega) (.tree (.lit rfl))
end
end Go.SX
namespace Go.SX
open Go
def markOf (D : Nat) : Deferred := { target := .collected D, args := #[] }
def jumpOf : Exit → Option (Option Code)
  | .normal => some none
  | .ret => some (some .ret)
  | .exit id => some (some (.exit id))
  | _ => none
def putL : List Nat → List AV → St → St
  | p :: ps, x :: xs, st => putL ps xs (st.put p x)
  | _, _, st => st
section
variable {P : Program} {c : Ctx} {st : St} {E : Ex} {ρ : Map} {a : Act} {w : World}
theorem VRel.putObj {Own : Nat → Prop} {l : Nat} {o o' : Obj} (hl : w.heap[l]? = some o) (ho : isC o = false) (ho' : isC o' = false) (lt : ∀ b k o, ρ b = some (k, o) → k < w.heap.size) {x : AV} {v : Value} (h : VRel w Own ρ x v) : VRel (w.putObj l o') Own ρ x v := by
  have hk : KeepsV w (w.putObj l o') (fun k => Own k ∨ k = l) Own ρ ρ (fun _ => True) := {
    size := by simp
    same := fun k _ hno => World.putObj_heap_other (fun e => hno (.inr e))
    own := fun k _ hk => .inl hk
    map := fun _ _ _ _ h => h
    rows := fun k cur ty fr hk hh => by
      by_cases e : k = l
      · subst e; rw [World.putObj_heap_same hk] at hh; injection hh with hh; subst hh; cases ho'
      · rw [World.putObj_heap_other e] at hh; exact ⟨cur, ty, fr, hh, rfl⟩
    lt := lt }
  exact (h.bar hl ho).keep hk (refs_all x)
theorem ConcH.turn (h : ConcH c st E ρ a w) {l : Nat} {o o' : Obj} (hl : w.heap[l]? = some o) (ho : isC o = false) (ho' : isC o' = false) (hw : c.w0.heap.size ≤ l) {E' : Ex} (hd : E'.ds = E.ds) (hE : ∀ p ∈ E'.hid, (p.1 = l ∧ p.2 = o') ∨ (p.1 ≠ l ∧ p ∈ E.hid)) : ConcH c st E' ρ a (w.putObj l o') :=
  ⟨h.conc.putObj hl ho ho' hw, h.hid.1.trans hd.symm, fun p hp => by
    rcases hE p hp with ⟨e1, e2⟩ | ⟨e1, e2⟩
    · rw [e1, e2]; exact ⟨World.putObj_heap_same (Array.getElem?_eq_some_iff.1 hl).1, ho'⟩
    · obtain ⟨h1, h2⟩ := h.hid.2 p e2
      exact ⟨(World.putObj_heap_other e1).trans h1, h2⟩⟩
theorem Conc.putL : ∀ {ps : List Nat} {xs : List AV} {vs : List Value} {st : St} {a : Act}, Conc c st ρ a w → (∀ p ∈ ps, p < a.tmps.size) → xs.length = vs.length → ps.length = vs.length → (∀ (i : Nat) x, xs[i]? = some x → VRel w (OwnBy c.A ρ) ρ x (vs.getD i undef)) →
    Conc c (putL ps xs st) ρ { a with tmps := (ps.zip vs).foldl (fun t p => t.setIfInBounds p.1 p.2) a.tmps } w
  | [], [], [], st, a, h, _, _, _, _ => h
  | p :: ps, x :: xs, v :: vs, st, a, h, hp, h1, h2, h3 => by
    have h4 := h.put (d := p) (hp p List.mem_cons_self) (x := x) (v := v) (by simpa using h3 0 x rfl)
    have h5 := Conc.putL (ps := ps) (xs := xs) (vs := vs) h4 (fun q hq => by rw [put_size]; exact hp q (List.mem_cons_of_mem _ hq)) (by simpa using h1) (by simpa using h2) (fun i y hy => by simpa using h3 (i + 1) y (by simpa using hy))
    exact h5
  | [], [], _ :: _, _, _, _, _, h1, _, _ => by simp at h1
  | [], _ :: _, [], _, _, _, _, h1, _, _ => by simp at h1
  | [], _ :: _, _ :: _, _, _, _, _, _, h2, _ => by simp at h2
  | _ :: _, [], [], _, _, _, _, _, h2, _ => by simp at h2
  | _ :: _, [], _ :: _, _, _, _, _, h1, _, _ => by simp at h1
  | _ :: _, _ :: _, [], _, _, _, _, h1, _, _ => by simp at h1
theorem putL_mem : ∀ (ps : List Nat) (xs : List AV) (st : St), (putL ps xs st).mem = st.mem ∧ (putL ps xs st).fixed = st.fixed
  | [], _, _ => ⟨rfl, rfl⟩
  | _ :: _, [], _ => ⟨rfl, rfl⟩
  | p :: ps, x :: xs, st => putL_mem ps xs (st.put p x)
theorem foldl_size (l : List (Nat × Value)) (t : Array Value) : (l.foldl (fun t p => t.setIfInBounds p.1 p.2) t).size = t.size := by
  induction l generalizing t with
  | nil => rfl
  | cons p r ih => simp [ih]
end
def BodyOK (P : Program) (nt : Nat) (ps : List Nat) (asg bd : AC) (slots : Slots) (fixed : List Nat) (m : Mem) (xs : List AV) (KB : Exit → Mem → Prop) : Prop :=
  ps.length = xs.length ∧ ∃ KA : St → Prop, (∀ c', c'.A = c'.B → J P nt c' asg (putL ps xs ⟨slots, m, fixed⟩) (fun e s => e = .normal ∧ s.fixed = fixed ∧ KA s)) ∧
    ∀ s, s.fixed = fixed → KA s → ∀ c', c'.A = c'.B → J P nt c' bd s (fun e s' => (jumpOf e).isSome = true ∧ s'.fixed = fixed ∧ KB e s'.mem)
def exOf (l D : Nat) (r : LoopState → Option Code → Loop) (E : Ex) (j : Option Code) : Ex :=
  ⟨(l, .loop (r (if j.isNone then .ready else .done) j)) :: (D, .deferred (some [])) :: E.hid, []⟩
section
variable {P : Program} {c : Ctx} {nt : Nat}
theorem rounds_of (hstd : c.A = c.B) {stO : St} {EO : Ex} {ρO : Map} {aO : Act} {W : World} (hO : ConcH c stO EO ρO aO W) (hsO : aO.tmps.size = nt) {ps : Array Tmp} {ps' : List Nat} {asg bd : AC} {asC bdC : Code}
    (hps : ps.toList = ps') (hlt : ∀ p ∈ ps', p < nt) (hpa : plainC asC = true) (hpb : plainC bdC = true) (hca : chkC P nt asC asg = true) (hcb : chkC P nt bdC bd = true) {ds : List Nat}
    (hds : ∀ p ∈ keepS ds stO.slots, look stO.slots p.1 = some p.2 ∧ refsIn (fun b => b ∈ stO.fixed) p.2) (fn : FuncId) {m : Mem} {xs : List AV} {KB : Exit → Mem → Prop} (hB : BodyOK P nt ps' asg bd (keepS ds stO.slots) stO.fixed m xs KB)
    {r : LoopState → Option Code → Loop} (hr : r = fun st pe => { state := st, pending := pe, fn, tmps := aO.tmps, params := ps, assign := asC, body := bdC, defers := W.heap.size }) :
    Rounds P (ctxD c ρO W [] hO.conc.tabOK) (W.heap.size + 1) (exOf (W.heap.size + 1) W.heap.size r EO none) m stO.fixed xs (fun b m' E' => ∃ e j, jumpOf e = some j ∧ b = j.isNone ∧ KB e m' ∧ E' = exOf (W.heap.size + 1) W.heap.size r EO j) := by
  intro st ρ a w vs hm hfx hcc hlen hv
  obtain ⟨hpl, KA, hA, hB⟩ := hB
  have hl : w.heap[W.heap.size + 1]? = some (.loop (r .ready none)) := (hcc.hid.2 (_, _) List.mem_cons_self).1
  have hplen : ps.size = ps'.length := by rw [← hps]; simp
  have hyl := run_yield (P := P) (args := vs) hl (by rw [hr]; show vs.size = ps.size; omega)
  have hout : ∀ p ∈ EO.hid, p.1 < W.heap.size := fun p hp => (Array.getElem?_eq_some_iff.1 (hO.hid.2 p hp).1).1
  refine ⟨fn, (ps.zip vs).foldl (fun t (p, v) => t.setIfInBounds p v) aO.tmps, asC, bdC, by rw [hr] at hyl; exact hyl, ?_⟩
  -- the round's beginning
  have e1 : (ps.zip vs).foldl (fun t (p, v) => t.setIfInBounds p v) aO.tmps = (ps'.zip vs.toList).foldl (fun t p => t.setIfInBounds p.1 p.2) aO.tmps := by
    rw [← Array.foldl_toList, Array.toList_zip, hps]
  rw [e1]
  let aR : Act := { tmps := (ps'.zip vs.toList).foldl (fun t p => t.setIfInBounds p.1 p.2) aO.tmps, defers := [] }
  have hsR : aR.tmps.size = nt := (foldl_size _ _).trans hsO
  have h0 : Conc (ctxD c ρO W [] hO.conc.tabOK) ⟨keepS ds stO.slots, m, stO.fixed⟩ ρ { tmps := aO.tmps, defers := [] } w :=
    { hcc.conc with
      slots := fun d x hx => by
        obtain ⟨h6, h7⟩ := hds _ (look_mem hx)
        have h8 := hO.conc.slots _ _ h6
        exact hO.conc.hold (ds := []) (hT := hO.conc.tabOK) hcc.conc h8 (refs_imp (fun b hb => ⟨hb, by rw [hfx]; exact hb⟩) _ h7)
      mem := by rw [← hm]; exact hcc.conc.mem
      dom := by rw [← hm]; exact hcc.conc.dom
      fix := by rw [← hfx]; exact hcc.conc.fix
      defers := rfl }
  have h1 : Conc (ctxD c ρO W [] hO.conc.tabOK) (putL ps' xs ⟨keepS ds stO.slots, m, stO.fixed⟩) ρ aR w :=
    Conc.putL h0 (fun p hp => by show p < aO.tmps.size; rw [hsO]; exact hlt p hp) (by simpa using hlen) (by rw [hpl]; simpa using hlen) (fun i x hx => by
      have := hv i x hx
      have e2 : vs.toList.getD i undef = vs.getD i undef := by simp [List.getD]
      rw [e2]; exact this)
  have hh1 : ConcH (ctxD c ρO W [] hO.conc.tabOK) (putL ps' xs ⟨keepS ds stO.slots, m, stO.fixed⟩) (exOf (W.heap.size + 1) W.heap.size r EO none) ρ aR w := ⟨h1, rfl, hcc.hid.2⟩
  refine roundIn_of_wpIn (F := fw none) trivial ?_
  refine wpIn_mono (hA (ctxD (ctxD c ρO W [] hO.conc.tabOK) ρ w [] h1.tabOK) hstd asC hca (some (W.heap.size + 1)) (by simp [rOK, hpa]) ρ aR w hh1.begin hsR) (fun e a1 w1 h2 => ?_)
  have hnorm : e = .normal ∧ a1.tmps.size = nt ∧ ∃ s1 ρ1, (s1.fixed = stO.fixed ∧ KA s1) ∧ Conc (ctxD (ctxD c ρO W [] hO.conc.tabOK) ρ w [] h1.tabOK) s1 ρ1 a1 w1 := by
    cases e <;> first | exact h2.elim | skip
    all_goals
      obtain ⟨hs1, s1, ρ1, ⟨he, hq⟩, hc1⟩ := h2
      first | exact ⟨rfl, hs1, s1, ρ1, hq, hc1⟩ | (cases he)
  obtain ⟨rfl, hs1, s1, ρ1, ⟨hf1, hk1⟩, hc1⟩ := hnorm
  have hh2 := hh1.back hc1
  have hl1 : w1.heap[W.heap.size + 1]? = some (.loop (r .ready none)) := (hh2.hid.2 (_, _) List.mem_cons_self).1
  refine ⟨_, run_beginRound hl1 (by rw [hr]), ?_⟩
  obtain ⟨rb, hrb⟩ : ∃ rb : Loop, rb = { r .ready none with state := .busy } := ⟨_, rfl⟩
  rw [← hrb]
  have hh3 : ConcH (ctxD c ρO W [] hO.conc.tabOK) s1 ⟨(W.heap.size + 1, .loop rb) :: (W.heap.size, .deferred (some [])) :: EO.hid, []⟩ ρ1 a1 (w1.putObj (W.heap.size + 1) (.loop rb)) :=
    hh2.turn hl1 rfl rfl (Nat.le_succ _) rfl (fun p hp => by
      rcases List.mem_cons.1 hp with rfl | hp
      · exact .inl ⟨rfl, rfl⟩
      · refine .inr ⟨?_, List.mem_cons_of_mem _ hp⟩
        rcases List.mem_cons.1 hp with rfl | hp
        · show W.heap.size ≠ W.heap.size + 1; omega
        · have := hout p hp; omega)
  refine wpIn_mono (hB s1 hf1 hk1 (ctxD (ctxD c ρO W [] hO.conc.tabOK) ρ1 (w1.putObj (W.heap.size + 1) (.loop rb)) [] hh3.conc.tabOK) hstd bdC hcb (some (W.heap.size + 1)) (by simp [rOK, hpb]) ρ1 a1 _ hh3.begin hs1) (fun e a2 w2 h4 => ?_)
  have fin : ∀ e (j : Option Code), jumpOf e = some j → (a2.tmps.size = nt ∧ ∃ st ρ', ((jumpOf e).isSome = true ∧ st.fixed = stO.fixed ∧ KB e st.mem) ∧ Conc (ctxD (ctxD c ρO W [] hO.conc.tabOK) ρ1 (w1.putObj (W.heap.size + 1) (.loop rb)) [] hh3.conc.tabOK) st ρ' a2 w2) →
      ∃ v w', (Instr.endRound (W.heap.size + 1) j).run P w2 = .ok v w' ∧ ∃ b m' E' ρ', Ending.returned v = .returned (.bool b) ∧ (∃ e j, jumpOf e = some j ∧ b = j.isNone ∧ KB e m' ∧ E' = exOf (W.heap.size + 1) W.heap.size r EO j) ∧ ConcH (ctxD c ρO W [] hO.conc.tabOK) ⟨[], m', stO.fixed⟩ E' ρ' a w' ∧
        ∀ x v, VRel w (OwnBy c.A ρ) ρ x v → refsIn (fun b => b ∈ stO.fixed) x → VRel w' (OwnBy c.A ρ') ρ' x v := by
    rintro e j hj ⟨hs2, s2, ρ2, ⟨_, hf2, hk2⟩, hc2⟩
    have hh4 := hh3.back hc2
    have hl2 : w2.heap[W.heap.size + 1]? = some (.loop rb) := (hh4.hid.2 (_, _) List.mem_cons_self).1
    have hrun := run_endRound (P := P) j hl2
    have erb : ({ rb with state := if j.isNone then .ready else .done, pending := j } : Loop) = r (if j.isNone then .ready else .done) j := by rw [hrb, hr]
    rw [erb] at hrun
    have hh5 : ConcH (ctxD c ρO W [] hO.conc.tabOK) s2 (exOf (W.heap.size + 1) W.heap.size r EO j) ρ2 a2 (w2.putObj (W.heap.size + 1) (.loop (r (if j.isNone then .ready else .done) j))) :=
      hh4.turn hl2 rfl rfl (Nat.le_succ _) rfl (fun p hp => by
        rcases List.mem_cons.1 hp with rfl | hp
        · exact .inl ⟨rfl, rfl⟩
        · refine .inr ⟨?_, List.mem_cons_of_mem _ hp⟩
          rcases List.mem_cons.1 hp with rfl | hp
          · show W.heap.size ≠ W.heap.size + 1; omega
          · have := hout p hp; omega)
    refine ⟨_, _, hrun, j.isNone, s2.mem, _, ρ2, rfl, ⟨e, j, hj, rfl, hk2, rfl⟩, ⟨{ hh5.conc with slots := fun d x hx => (by cases hx), fix := (by rw [← hf2]; exact hh5.conc.fix), defers := rfl }, hcc.hid.1, hh5.hid.2⟩, fun x v hx hrx => ?_⟩
    have t1 := h1.hold (ds := []) (hT := h1.tabOK) hc1 hx (refs_imp (fun b hb => ⟨by rw [(putL_mem _ _ _).2]; exact hb, by rw [hf1]; exact hb⟩) _ hrx)
    have t2 := VRel.putObj (o' := .loop rb) hl1 rfl rfl hh2.conc.lt t1
    have t3 := hh3.conc.hold (ds := []) (hT := hh3.conc.tabOK) hc2 t2 (refs_imp (fun b hb => ⟨by rw [hf1]; exact hb, by rw [hf2]; exact hb⟩) _ hrx)
    exact VRel.putObj hl2 rfl rfl hh4.conc.lt t3
  cases e with
  | normal => exact fin .normal none rfl h4
  | ret => exact fin .ret (some .ret) rfl h4
  | exit id => exact fin (.exit id) (some (.exit id)) rfl h4
  | goto l => obtain ⟨_, _, _, ⟨h5, _⟩, _⟩ := h4; cases h5
  | panic ch => exact h4.elim
  | outgrown => exact h4.elim
end
end Go.SX
namespace Go.SX
open Go
section
variable {P : Program} {c : Ctx} {nt : Nat}
def IterOK (P : Program) (f : FuncId) (caps : List AV) (fixed : List Nat) (m : Mem) (body : Mem → List AV → (Exit → Mem → Prop) → Prop) (K : Exit → Mem → Prop) : Prop :=
  ∃ nt ac, chkFn P f nt (1 + caps.length) ac [] = true ∧ ∀ (c : Ctx) (l : Nat) (Ej : Option Code → Ex), c.A = c.B → (∀ j, (Ej j).ds = []) →
    (∀ m xs KB, body m xs KB → Rounds P c l (Ej none) m fixed xs (fun b m' E' => ∃ e j, jumpOf e = some j ∧ b = j.isNone ∧ KB e m' ∧ E' = Ej j)) →
    JH P nt c ac (entry (.lit (.func (.yield l) #[] #[]) :: caps) m fixed) (Ej none) (fun e s E => (e = .normal ∨ e = .ret) ∧ s.fixed = fixed ∧ ∃ e' j, jumpOf e' = some j ∧ E = Ej j ∧ K e' s.mem)
theorem JH.rangef (hstd : c.A = c.B) {g : Src} {ps : List Nat} {asg bd : AC} {stO : St} {EO : Ex} {Q : Exit → St → Ex → Prop} {f : FuncId} {caps : List AV} (hg : stO.src g = some (.fn f caps)) (ds : List Nat)
    (hds : ∀ p ∈ keepS ds stO.slots, look stO.slots p.1 = some p.2 ∧ refsIn (fun b => b ∈ stO.fixed) p.2) {K : Exit → Mem → Prop}
    (hI : IterOK P f caps stO.fixed stO.mem (BodyOK P nt ps asg bd (keepS ds stO.slots) stO.fixed) K)
    (hq : ∀ e j m', jumpOf e = some j → K e m' → ∀ D, c.w0.heap.size ≤ D → Q e ⟨keepS ds stO.slots, m', stO.fixed⟩ ⟨(D, .deferred (some [])) :: EO.hid, markOf D :: EO.ds⟩) : JH P nt c (.rangef g ps asg bd) stO EO Q := by
  intro code hc ρO aO W hO hsO
  cases code <;> try (simp [chkC] at hc; done)
  rename_i gC psC asC bdC
  simp only [chkC, Bool.and_eq_true, beq_iff_eq, List.all_eq_true, decide_eq_true_eq] at hc
  obtain ⟨⟨⟨⟨⟨⟨hgo, hps⟩, hlt⟩, hpa⟩, hpb⟩, hca⟩, hcb⟩ := hc
  obtain ⟨ntI, acI, hfn, hI⟩ := hI
  unfold chkFn at hfn
  split at hfn <;> try (cases hfn; done)
  rename_i fn hfun
  simp only [Bool.and_eq_true, beq_iff_eq, decide_eq_true_eq, bne_iff_ne] at hfn
  obtain ⟨⟨⟨⟨hb, hnt⟩, hna⟩, hres⟩, hname⟩ := hfn
  split at hb <;> try (cases hb; done)
  rename_i codeI hbody
  have hOK : fnOK P f = true := by simp [fnOK, hfun, hbody, hname]
  obtain ⟨cv, hgv, hcl, hcr⟩ := fn_inv (hO.conc.srcs _ _ _ hgo hg)
  refine wpIn_rangeFunc (fun fnr _ => ?_)
  obtain ⟨r, hr⟩ : ∃ r : LoopState → Option Code → Loop, r = fun st pe => { state := st, pending := pe, fn := fnr, tmps := aO.tmps, params := psC, assign := asC, body := bdC, defers := W.heap.size } := ⟨_, rfl⟩
  obtain ⟨W1, hW1⟩ : ∃ W1, W1 = (W.alloc (.deferred (some []))).alloc (.loop (r .ready none)) := ⟨_, rfl⟩
  have hgv' : aO.eval gC = .func (.func f) #[] cv := hgv
  refine ⟨W.heap.size + 1, [markOf W.heap.size], W1, { target := .fn (.func f) cv, args := #[.func (.yield (W.heap.size + 1)) #[] #[]] }, W1, f, #[.func (.yield (W.heap.size + 1)) #[] #[]] ++ cv, W1, ?_, ?_, fun _ _ => trivial, ?_, fun hd => (by simp [fw, Fence.wide] at hd), ?_⟩
  · rw [hW1, hr]; exact run_enterLoop_outer _ _ _ _ _
  · simp only [resolve, hgv']
    simp [go_sem]
  · have hp : (program).run P W1 = .ok P W1 := rfl
    have h4 : (fn.name == "runtime.NumGoroutine") = false := by simpa using hname
    show (callFunc f (#[.func (.yield (W.heap.size + 1)) #[] #[]] ++ cv)).run P W1 = _
    rw [callFunc, Sem.run_bind, hp, Result.andThen_ok]
    simp only [hfun, h4, hbody, Option.isNone_some, Bool.false_eq_true, if_false, Sem.run_pure]
  · -- the function's own run
    have hl1 : W1.heap[W.heap.size + 1]? = some (.loop (r .ready none)) := by
      rw [hW1]; have := World.alloc_heap_new (W.alloc (.deferred (some []))) (.loop (r .ready none)); rwa [World.size_alloc] at this
    have hD1 : W1.heap[W.heap.size]? = some (.deferred (some [])) := by
      rw [hW1, alloc_old _ _ (by simp)]; exact World.alloc_heap_new W _
    let aI : Act := { tmps := (#[Value.func (.yield (W.heap.size + 1)) #[] #[]] ++ cv) ++ Array.replicate (fn.ntmps - (#[Value.func (.yield (W.heap.size + 1)) #[] #[]] ++ cv).size) undef, defers := [] }
    have hb0 := (hO.conc.begin []).alloc' (.deferred (some []))
    have hb1 := hb0.alloc' (.loop (r .ready none))
    rw [← hW1] at hb1
    have hkO : ∀ x v, VRel W (OwnBy c.A ρO) ρO x v → VRel W1 (OwnBy c.A ρO) ρO x v := fun x v hx => by
      have hk : KeepsV W W1 (OwnBy c.A ρO) (OwnBy c.A ρO) ρO ρO (fun _ => True) := {
        size := by rw [hW1]; simp; omega
        same := fun k hk _ => by rw [hW1, alloc_old _ _ (by simp; omega), alloc_old _ _ hk]
        own := fun k _ hk => hk
        map := fun _ _ _ _ h => h
        rows := fun k cur ty fr hk hh => by rw [hW1, alloc_old _ _ (by simp; omega), alloc_old _ _ hk] at hh; exact ⟨cur, ty, fr, hh, rfl⟩
        lt := hO.conc.lt }
      exact hx.keep hk (refs_all x)
    have hcI : ConcH (ctxD c ρO W [] hO.conc.tabOK) (entry (.lit (.func (.yield (W.heap.size + 1)) #[] #[]) :: caps) stO.mem stO.fixed) (exOf (W.heap.size + 1) W.heap.size r EO none) ρO aI W1 := by
      refine ⟨{ hb1 with slots := fun d x hx => ?_, defers := rfl }, rfl, fun p hp => ?_⟩
      · simp only [entry, look_number, Nat.zero_le, if_true, Nat.sub_zero] at hx
        cases d with
        | zero =>
          simp only [List.getElem?_cons_zero, Option.some.injEq] at hx
          subst hx
          have : aI.tmps.getD 0 undef = .func (.yield (W.heap.size + 1)) #[] #[] := by
            simp only [aI, Array.getD_eq_getD_getElem?]
            rw [Array.getElem?_append_left (by simp; omega), Array.getElem?_append_left (by simp)]
            rfl
          show VRel _ _ _ _ (aI.tmps.getD 0 undef)
          rw [this]; exact .tree (.lit rfl)
        | succ d =>
          simp only [List.getElem?_cons_succ] at hx
          have hd : d < cv.size := by
            rcases Nat.lt_or_ge d caps.length with h' | h'
            · omega
            · rw [List.getElem?_eq_none h'] at hx; cases hx
          have h1 := hkO _ _ (hcr d x hx)
          have e : aI.tmps.getD (d + 1) undef = cv.getD d undef := by
            simp only [aI, Array.getD_eq_getD_getElem?]
            rw [Array.getElem?_append_left (by simp; omega), Array.getElem?_append_right (by simp)]
            simp
          show VRel _ _ _ _ (aI.tmps.getD (d + 1) undef)
          rw [e]; exact h1
      · rcases List.mem_cons.1 hp with rfl | hp
        · exact ⟨hl1, rfl⟩
        rcases List.mem_cons.1 hp with rfl | hp
        · exact ⟨hD1, rfl⟩
        · obtain ⟨h1, h2⟩ := hO.hid.2 p hp
          have hlt := (Array.getElem?_eq_some_iff.1 h1).1
          exact ⟨by rw [hW1, alloc_old _ _ (by simp; omega), alloc_old _ _ hlt]; exact h1, h2⟩
    have hsI : aI.tmps.size = ntI := by
      simp only [aI, Array.size_append, Array.size_replicate, List.size_toArray, List.length_cons, List.length_nil]
      omega
    have hJ := hI (ctxD c ρO W [] hO.conc.tabOK) (W.heap.size + 1) (fun j => exOf (W.heap.size + 1) W.heap.size r EO j) hstd (fun _ => rfl)
      (fun m xs KB hB => rounds_of hstd hO hsO hps hlt hpa hpb hca hcb hds fnr hB hr) codeI hb ρO aI W1 hcI hsI
    refine callsIn_of_wp (F := fw none) hfun hbody trivial (wpIn_mono hJ (fun e a' w' h' => ?_))
    have fin : ∀ e : Exit, (a'.tmps.size = ntI ∧ ∃ st E ρ, ((e = .normal ∨ e = .ret) ∧ st.fixed = stO.fixed ∧ ∃ e' j, jumpOf e' = some j ∧ E = exOf (W.heap.size + 1) W.heap.size r EO j ∧ K e' st.mem) ∧ ConcH (ctxD c ρO W [] hO.conc.tabOK) st E ρ a' w') → (e = .normal ∨ e = .ret) ∧ a'.defers = [] ∧ ∃ v, (results fn a'.tmps).run P w' = .ok v w' ∧
        rangePost (fw none) 0 P (W.heap.size + 1) (postH nt c Q) { aO with defers := [markOf W.heap.size] ++ aO.defers } (.returned v) w' := by
      rintro e ⟨_, s', E', ρ', ⟨he, hfx, e', j, hj, rfl, hK⟩, hh⟩
      obtain ⟨v, hrun, _⟩ := results_ok (rds := []) (xs := []) hh.conc hres rfl
      refine ⟨he, hh.hid.1, v, hrun, ?_⟩
      have hl2 : w'.heap[W.heap.size + 1]? = some (.loop (r (if j.isNone then .ready else .done) j)) := (hh.hid.2 (_, _) List.mem_cons_self).1
      obtain ⟨rx, hend⟩ : ∃ rx : Loop, (Instr.endLoop (W.heap.size + 1)).run P w' = .ok j (w'.putObj (W.heap.size + 1) (.loop rx)) := by
        have hend := run_endLoop (P := P) hl2 (by rw [hr]; dsimp only; cases j <;> simp)
        have epe : (r (if j.isNone then .ready else .done) j).pending = j := by rw [hr]
        rw [epe] at hend
        exact ⟨_, hend⟩
      refine ⟨j, _, hend, ?_⟩
      have hslots : ∀ d x, look (keepS ds stO.slots) d = some x → VRel w' (OwnBy c.A ρ') ρ' x (aO.tmps.getD d undef) := fun d x hx => by
        obtain ⟨h6, h7⟩ := hds _ (look_mem hx)
        exact hO.conc.hold (ds := []) (hT := hO.conc.tabOK) hh.conc (hO.conc.slots _ _ h6) (refs_imp (fun b hb => ⟨hb, by rw [hfx]; exact hb⟩) _ h7)
      have hback : Conc c ⟨keepS ds stO.slots, s'.mem, stO.fixed⟩ ρ' { aO with defers := c.defs } w' :=
        { hO.conc.back hh.conc with slots := hslots, defers := rfl, fix := (by rw [← hfx]; exact (hO.conc.back hh.conc).fix) }
      have hH : ConcH c ⟨keepS ds stO.slots, s'.mem, stO.fixed⟩ ⟨(W.heap.size + 1, .loop (r (if j.isNone then .ready else .done) j)) :: (W.heap.size, .deferred (some [])) :: EO.hid, markOf W.heap.size :: EO.ds⟩ ρ' { aO with defers := [markOf W.heap.size] ++ aO.defers } w' :=
        ⟨hback, by show [markOf W.heap.size] ++ aO.defers = _; rw [hO.hid.1]; rfl, hh.hid.2⟩
      have hH2 := hH.turn (o' := .loop rx) hl2 rfl rfl (by have := hO.conc.size; omega) (E' := ⟨(W.heap.size, .deferred (some [])) :: EO.hid, markOf W.heap.size :: EO.ds⟩) rfl (fun p hp => by
        refine .inr ⟨?_, List.mem_cons_of_mem _ hp⟩
        rcases List.mem_cons.1 hp with rfl | hp
        · show W.heap.size ≠ W.heap.size + 1; omega
        · have := (Array.getElem?_eq_some_iff.1 (hO.hid.2 p hp).1).1; omega)
      have hQ := hq e' j s'.mem hj hK W.heap.size hO.conc.size
      have hsz : ({ aO with defers := [markOf W.heap.size] ++ aO.defers } : Act).tmps.size = nt := hsO
      cases e' with
      | normal => injection hj with hj; subst hj; exact ⟨hsz, _, _, ρ', hQ, hH2⟩
      | ret => injection hj with hj; subst hj; exact wpIn_ret ⟨hsz, _, _, ρ', hQ, hH2⟩
      | exit id => injection hj with hj; subst hj; exact wpIn_exit ⟨hsz, _, _, ρ', hQ, hH2⟩
      | goto l => cases hj
      | panic ch => cases hj
      | outgrown => cases hj
    cases e with
    | normal => exact (fin _ h').2
    | ret => exact (fin _ h').2
    | exit id => have := (fin _ h').1; simp at this
    | goto l => have := (fin _ h').1; simp at this
    | panic ch => exact h'.elim
    | outgrown => exact h'.elim
def doneH (lo : Nat) (fixed : List Nat) (rds : List RD) (postF : AV → Mem → Prop) (e : Exit) (st : St) (E : Ex) : Prop :=
  doneQ fixed rds postF e st ∧ (E.ds = [] ∨ ∃ D, E.ds = [markOf D] ∧ (D, .deferred (some [])) ∈ E.hid ∧ lo ≤ D)
theorem Does.ofH {f : FuncId} {args : List AV} {m : Mem} {fixed : List Nat} {ac : AC} {rds : List RD} {postF : AV → Mem → Prop} (hc : chkFn P f nt args.length ac rds = true)
    (hJ : ∀ c, c.A = c.B → JH P nt c ac (entry args m fixed) ⟨[], []⟩ (doneH c.w0.heap.size fixed rds postF)) : Does P f args m fixed postF := by
  unfold chkFn at hc
  split at hc <;> try (cases hc; done)
  rename_i fn hfn
  simp only [Bool.and_eq_true, beq_iff_eq, decide_eq_true_eq, bne_iff_ne] at hc
  obtain ⟨⟨⟨⟨hb, hnt⟩, hna⟩, hres⟩, hname⟩ := hc
  split at hb <;> try (cases hb; done)
  rename_i code hbody
  refine ⟨by simp [fnOK, hfn, hbody, hname], fun A ρ w vs ht1 ht2 hM hlen hv => ?_⟩
  let c : Ctx := ⟨w, A, A, ρ, fun k => ∃ b o, ρ b = some (k, o), fun _ h => h, ht1, fun q hq ⟨b, o, hb⟩ => ht2 q hq b o hb, []⟩
  have hcc : Conc c (entry args m fixed) ρ { tmps := vs ++ Array.replicate (fn.ntmps - vs.size) undef, defers := [] } w := {
    slots := fun d x hx => by
      simp only [entry, look_number, Nat.zero_le, if_true, Nat.sub_zero] at hx
      have hd : d < vs.size := by
        rcases Nat.lt_or_ge d args.length with h' | h'
        · omega
        · rw [List.getElem?_eq_none h'] at hx; cases hx
      have := hv d x hx
      have e : (vs ++ Array.replicate (fn.ntmps - vs.size) undef).getD d undef = vs.getD d undef := by
        simp only [Array.getD_eq_getD_getElem?]
        rw [Array.getElem?_append_left hd]
      simp only [e]
      exact this
    defers := rfl, mem := hM.mem, dom := hM.dom, lt := hM.lt, inj := hM.inj, mine := fun b k o hb => .inl ⟨b, o, hb⟩, far := hM.far, fix := fun _ _ => rfl, alt := hM.alt, os := rfl, tape := rfl, output := rfl, size := Nat.le_refl _, frame := fun _ _ _ => rfl, rows := fun k cur ty fr _ hh => ⟨cur, ty, fr, hh, rfl⟩ }
  have hsz : (vs ++ Array.replicate (fn.ntmps - vs.size) undef).size = nt := by simp; omega
  have hw := hJ c rfl code hb ρ { tmps := vs ++ Array.replicate (fn.ntmps - vs.size) undef, defers := [] } w ⟨hcc, rfl, fun p hp => by cases hp⟩ hsz
  refine callsIn_wide.1 (show CallsIn Fence.wide 0 P f vs w _ from callsIn_of_wp_marks (F := Fence.wide) hfn hbody trivial (wpIn_mono hw (fun e a' w' h' => ?_)))
  have fin0 : ∀ (st : St) (ρ' : Map) (a' : Act) (w' : World), doneQ fixed rds postF .normal st → Conc c st ρ' a' w' → ∃ v, (results fn a'.tmps).run P w' = .ok v w' ∧
      ∃ v_1 r m' ρ', Ending.returned v = .returned v_1 ∧ postF r m' ∧ MemOK A m' ρ' w' ∧ VRel w' (OwnBy A ρ') ρ' r v_1 ∧ After w w' ρ ρ' fixed := by
    rintro st ρ' a' w' ⟨_, hfx, xs, m2, hxs, hm2, hr1, hr2, hfm, hp⟩ hc'
    obtain ⟨v, hrun, hrel⟩ := results_ok hc' hres hxs
    have hc2 := hc'.sub (st' := { st with slots := [], mem := m2 }) (fun p hp => by simp at hp) hm2 (fun p hp => by simp at hp) hr2 rfl (fun b hb => hfm b (hfx ▸ hb))
    have hsub : ∀ b k o, (fun x => if (look m2 x).isSome then ρ' x else none) b = some (k, o) → ρ' b = some (k, o) := fun b k o hb => by
      replace hb : (if (look m2 b).isSome then ρ' b else none) = some (k, o) := hb
      split at hb
      · exact hb
      · cases hb
    have hk : KeepsV w' w' (OwnBy A ρ') (OwnBy A (fun x => if (look m2 x).isSome then ρ' x else none)) ρ' (fun x => if (look m2 x).isSome then ρ' x else none) (fun b => (look m2 b).isSome) := {
      size := Nat.le_refl _, same := fun _ _ _ => rfl
      own := fun k _ hk => hk.imp id (fun ⟨b, o, hb⟩ => ⟨b, o, hsub _ _ _ hb⟩)
      map := fun b hb k o hρ => by simp only [hb, if_true]; exact hρ
      rows := fun k cur ty fr _ hh => ⟨cur, ty, fr, hh, rfl⟩, lt := hc'.lt }
    exact ⟨v, hrun, v, _, m2, _, rfl, hp, { mem := hc2.mem, dom := hc2.dom, lt := hc2.lt, inj := hc2.inj, far := hc2.far, alt := fun k hk => Nat.lt_of_lt_of_le (hc'.alt k hk) hc'.size }, hrel.keep hk hr1,
      { os := hc'.os, tape := hc'.tape, output := hc'.output, size := hc'.size, frame := fun k hk hno => hc'.frame k hk (fun ⟨b, o, hb⟩ => hno b o hb), mine := fun b k o hb => hc'.mine b k o (hsub _ _ _ hb), fix := fun b hb => hc2.fix b (hfx ▸ hb), rows := hc'.rows }⟩
  have fin : ∀ e : Exit, (a'.tmps.size = nt ∧ ∃ st E ρ', doneH w.heap.size fixed rds postF e st E ∧ ConcH c st E ρ' a' w') → (e = .normal ∨ e = .ret) ∧ LeavesInM Fence.wide 0 P fn a'.tmps (fun e w' => ∃ v r m' ρ', e = .returned v ∧ postF r m' ∧ MemOK A m' ρ' w' ∧ VRel w' (OwnBy A ρ') ρ' r v ∧ After w w' ρ ρ' fixed) a'.defers .returning w' := by
    rintro e ⟨_, st, E, ρ', ⟨hq, hE⟩, hh⟩
    refine ⟨hq.1, ?_⟩
    have hq' : doneQ fixed rds postF .normal st := ⟨.inl rfl, hq.2⟩
    rcases hE with hE | ⟨D, hE, hD, hnew⟩
    · rw [hh.hid.1, hE]
      obtain ⟨v, hrun, hR⟩ := fin0 st ρ' _ w' hq' hh.conc
      exact ⟨v, hrun, hR⟩
    · rw [hh.hid.1, hE]
      obtain ⟨hD1, hD2⟩ := hh.hid.2 _ hD
      refine ⟨by simp, .inl ⟨D, _, rfl, run_takeDeferred hD1, ?_⟩⟩
      obtain ⟨v, hrun, hR⟩ := fin0 st ρ' _ _ hq' (hh.conc.putObj (o' := .deferred none) hD1 hD2 rfl hnew)
      exact ⟨v, hrun, hR⟩
  cases e with
  | normal => exact (fin _ h').2
  | ret => exact (fin _ h').2
  | exit id => have := (fin _ h').1; simp at this
  | goto l => have := (fin _ h').1; simp at this
  | panic ch => exact h'.elim
  | outgrown => exact h'.elim
end
end Go.SX
namespace Go.SX
open Go
section
variable {H : Type} {enc : TypeId × Value → H} {P : Program} {w : World} {base : Nat} {spare : Nat → Bool} {held : Bool}
theorem cells_get {a : Addr} {n : Nat} {cs : List Value} (h : w.cells? base a n = some cs) : cs.length = n ∧ ∀ i u, cs[i]? = some u → w.cell? (a.add i) = some u := by
  unfold World.cells? at h
  split at h
  · have key : ∀ (l : List Nat) (cs : List Value), l.mapM (fun i => w.cell? (a.add i)) = some cs → cs.length = l.length ∧ ∀ (i : Nat) (u : Value), cs[i]? = some u → ∃ q, l[i]? = some q ∧ w.cell? (a.add q) = some u := by
      intro l
      induction l with
      | nil => intro cs h; simp at h; subst h; simp
      | cons x r ih =>
        intro cs h
        simp only [List.mapM_cons, Option.bind_eq_bind, Option.bind_eq_some_iff, Option.pure_def, Option.some.injEq] at h
        obtain ⟨c, hc, cs', hr, rfl⟩ := h
        obtain ⟨h1, h2⟩ := ih _ hr
        refine ⟨by simp [h1], fun i u hu => ?_⟩
        cases i with
        | zero => simp at hu; subst hu; exact ⟨x, rfl, hc⟩
        | succ i => simpa using h2 i u (by simpa using hu)
    obtain ⟨h1, h2⟩ := key _ _ h
    refine ⟨by simpa using h1, fun i u hu => ?_⟩
    obtain ⟨q, hq, hc⟩ := h2 i u hu
    rw [List.getElem?_range (by have := (List.getElem?_eq_some_iff.1 hq).1; simpa using this)] at hq
    injection hq with hq; subst hq; exact hc
  · cases h
theorem add_add' (a : Addr) (i j : Nat) : (a.add i).add j = a.add (i + j) := by
  unfold Addr.add
  repeat' split
  all_goals first | rfl | simp_all [Nat.add_assoc] | omega
theorem rows_open {α : Type} {t e : TypeId} {fuel sz : Nat} {v : Value} {y : DataW H × List MemPlace} (ht : P.underlying t = some (.slice e)) (hsz : P.cellsOf e = sz) (cells : α → List Value)
    (hel : ∀ n cs y, DataW.trod enc P w base spare held n e cs = some y → cs.length = sz → ∃ z : α, cs = cells z) (h : DataW.trod enc P w base spare held fuel t [v] = some y) :
    ∃ A cap, ∃ l : List α, v = .slice A l.length cap ∧ l.length ≤ cap ∧ l.length ≤ maxLen ∧ (0 < l.length → ∃ ad, A = some ad ∧ ∀ j p, l[j]? = some p → ∀ i u, (cells p)[i]? = some u → w.cell? (ad.add (j * sz + i)) = some u) := by
  rcases DataW.trod_slice ht h with ⟨hcs, _⟩ | ⟨a, len, cap, elems, rest, n, _, hcs, _, _, hl, hm, hlen, hE, _⟩
  · simp at hcs; exact ⟨none, 0, [], by simpa using hcs, Nat.le_refl _, by simp, by simp⟩
  · simp at hcs
    have hz : ∀ i, i < len → ∃ z : α, ∀ j u, (cells z)[j]? = some u → w.cell? (a.add (i * sz + j)) = some u := fun i hi => by
      have h1 := hE i hi
      have h2 : ∃ x, elems[i]? = some x := ⟨elems[i], List.getElem?_eq_getElem (by omega)⟩
      obtain ⟨x, hx⟩ := h2
      rw [hx, hsz] at h1
      obtain ⟨cs, hcs', hx'⟩ := Option.bind_eq_some_iff.1 h1
      obtain ⟨hl1, hl2⟩ := cells_get hcs'
      obtain ⟨z, rfl⟩ := hel _ _ _ hx' hl1
      exact ⟨z, fun j u hu => by rw [← add_add']; exact hl2 j u hu⟩
    classical
    refine ⟨some a, cap, List.ofFn (fun i : Fin len => (hz i.1 i.2).choose), by simpa using hcs, by simpa using hl, by simp; omega, fun _ => ⟨a, rfl, fun j p hj i u hu => ?_⟩⟩
    rw [List.getElem?_ofFn] at hj
    split at hj
    · rename_i hlt
      injection hj with hj; subst hj
      exact (hz j hlt).choose_spec i u hu
    · cases hj
end
theorem tree_open {α : Type} {w : World} {A : Option Addr} {cap sz : Nat} {l : List α} {cells : α → List Value} (hs : 0 < sz) (hl : ∀ p, (cells p).length = sz) (hf : ∀ p, ∀ u ∈ cells p, flat u = true) (hc : l.length ≤ cap)
    (h : 0 < l.length → ∃ ad, A = some ad ∧ ∀ j p, l[j]? = some p → ∀ i u, (cells p)[i]? = some u → w.cell? (ad.add (j * sz + i)) = some u) {Own : Nat → Prop} (ho : ∀ k, ¬ Own k) : TRel w Own (.ro sz (l.map fun p => (cells p).map AV.lit)) (.slice A l.length cap) := by
  have hlen : (l.map fun p => (cells p).map AV.lit).length = l.length := by simp
  by_cases hne : l = []
  · subst hne; exact .ronil
  · obtain ⟨ad, rfl, hcell⟩ := h (List.length_pos_iff.2 hne)
    rw [← hlen]
    refine TRel.row ⟨hs, fun e he => ?_, ho _, fun i j x hx => ?_⟩ (by omega)
    · obtain ⟨p, _, rfl⟩ := List.mem_map.1 he
      simp [hl p]
    · obtain ⟨e, he, hj⟩ := Option.bind_eq_some_iff.1 hx
      rw [List.getElem?_map] at he
      obtain ⟨p, hp, rfl⟩ := Option.map_eq_some_iff.1 he
      rw [List.getElem?_map] at hj
      obtain ⟨u, hu, rfl⟩ := Option.map_eq_some_iff.1 hj
      have hfu := hf p u (List.mem_of_getElem? hu)
      exact ⟨u, hcell i p hp j u hu, by cases u <;> first | rfl | (simp [flat] at hfu), .lit hfu⟩
end Go.SX
