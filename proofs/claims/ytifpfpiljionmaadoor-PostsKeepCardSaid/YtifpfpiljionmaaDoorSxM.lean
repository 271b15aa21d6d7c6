/- SX, part M: states told otherwise, in one step: rows become trees, blocks are let go, rows that are nil get names. -/
import Derived.Test.YtifpfpiljionmaaDoorSxI
set_option linter.unusedVariables false
set_option linter.unusedSimpArgs false
namespace Go.SX
open Go

/-- What 'y' says, 'x' says otherwise. 'm': the memory ahead; 'm'': behind. -/
inductive Re (m m' : Mem) : AV → AV → Prop
  | same {x : AV} (h : refsIn (fun b => (look m' b).isSome) x) : Re m m' x x
  | dead {y : AV} : Re m m' y .dead
  | nil {sz s b : Nat} : Re m m' (.nils s) (.own b sz 0 0)
  | row {b sz lo n ty : Nat} {es : List (List AV)} (hb : look m b = some (.arr ty sz es)) (hb' : look m' b = none) (hs : 0 < sz) (hn : lo + n ≤ es.length) : Re m m' (.own b sz lo n) (.ro sz ((es.drop lo).take n))
  | rows {b lo n ty : Nat} {cs : List AV} {xs : List AV} (hb : look m b = some (.obj ty cs)) (hb' : look m' b = none) (hl : xs.length = n) (hn : lo + n ≤ cs.length) (ht : ∀ x ∈ xs, isTree x = true)
      (h : ∀ (i : Nat) x, xs[i]? = some x → Re m m' (cs.getD (lo + i) .dead) x) : Re m m' (.own b 1 lo n) (.ro 1 (xs.map fun x => [x]))
  | rop {b s ty : Nat} {cs xs : List AV} (hb : look m b = some (.obj ty cs)) (hb' : look m' b = none) (hl : xs.length = cs.length) (hp : 0 < xs.length) (ht : ∀ x ∈ xs, isTree x = true)
      (h : ∀ (i : Nat) x, xs[i]? = some x → Re m m' (cs.getD i .dead) x) : Re m m' (.ptr b s 0 0) (.rop xs.length [xs] 0 0)
  | agg {ys xs : List AV} (hl : ys.length = xs.length) (h : ∀ (i : Nat) x, xs[i]? = some x → Re m m' (ys.getD i .dead) x) : Re m m' (.agg ys) (.agg xs)
  | tup {ys xs : List AV} (hl : ys.length = xs.length) (h : ∀ (i : Nat) x, xs[i]? = some x → Re m m' (ys.getD i .dead) x) : Re m m' (.tup ys) (.tup xs)
  | fn {f : FuncId} {ys xs : List AV} (hl : ys.length = xs.length) (h : ∀ (i : Nat) x, xs[i]? = some x → Re m m' (ys.getD i .dead) x) : Re m m' (.fn f ys) (.fn f xs)

inductive ReB (m m' : Mem) : Option Blk → Blk → Prop
  | same {b : Blk} (h : b.refs (fun b => (look m' b).isSome)) : ReB m m' (some b) b
  | take {ty sz k : Nat} {es : List (List AV)} : ReB m m' (some (.arr ty sz es)) (.arr ty sz (es.take k))
  | new {ty sz : Nat} : ReB m m' none (.arr ty sz [])
  | obj {ty : Nat} {ys xs : List AV} (hl : ys.length = xs.length) (h : ∀ (i : Nat) x, xs[i]? = some x → Re m m' (ys.getD i .dead) x) : ReB m m' (some (.obj ty ys)) (.obj ty xs)

section
variable {c : Ctx} {st : St} {ρ : Map} {a : Act} {w : World} {m' : Mem}

def part (m' : Mem) (ρ : Map) : Map := fun b => if (look m' b).isSome then ρ b else none

theorem part_some {b k o : Nat} (h : part m' ρ b = some (k, o)) : (look m' b).isSome ∧ ρ b = some (k, o) := by
  unfold part at h
  split at h
  · rename_i hs; exact ⟨hs, h⟩
  · cases h

theorem part_keeps (h : Conc c st ρ a w) : KeepsV w w (OwnBy c.A ρ) (OwnBy c.A (part m' ρ)) ρ (part m' ρ) (fun b => (look m' b).isSome) where
  size := Nat.le_refl _
  same := fun _ _ _ => rfl
  own := fun k _ hk => by
    rcases hk with hk | ⟨b', o', hk⟩
    · exact .inl hk
    · exact .inr ⟨b', o', (part_some hk).2⟩
  map := fun b' hb' k o' hρ => by unfold part; rw [if_pos hb']; exact hρ
  rows := fun k cur ty fr _ hh => ⟨cur, ty, fr, hh, rfl⟩
  lt := h.lt

/-- A block that is let go is nobody's. -/
theorem part_free (h : Conc c st ρ a w) (hstd : c.A = c.B) {b k o : Nat} (hρ : ρ b = some (k, o)) (hb : look m' b = none) : ¬ OwnBy c.A (part m' ρ) k := by
  rintro (hO | ⟨b2, o2, hO⟩)
  · exact h.far _ _ _ hρ (hstd ▸ hO)
  · obtain ⟨hs, h2⟩ := part_some hO
    have := h.inj _ _ _ _ _ hρ h2
    subst this
    rw [hb] at hs; cases hs

theorem Re.rel (h : Conc c st ρ a w) (hstd : c.A = c.B) {y x : AV} (hr : Re st.mem m' y x) : ∀ v, VRel w (OwnBy c.A ρ) ρ y v → VRel w (OwnBy c.A (part m' ρ)) (part m' ρ) x v := by
  induction hr with
  | same hx => exact fun v hv => hv.keep (part_keeps h) hx
  | dead => exact fun v _ => .dead
  | nil =>
    intro v hv
    cases hv with
    | tree hv => cases hv; exact .ownnil
  | @row b sz lo n ty es hb hb' hs hn =>
    intro v hv
    have hlen2 : ((es.drop lo).take n).length = n := by simp; omega
    have hnil : n = 0 → ∀ A cap, VRel w (OwnBy c.A (part m' ρ)) (part m' ρ) (.ro sz ((es.drop lo).take n)) (.slice A 0 cap) := by
      rintro rfl A cap; rw [List.take_zero]; exact .tree .ronil
    rcases hv.own_inv with ⟨rfl, _, h0⟩ | ⟨ad, rfl, h0, _⟩ | ⟨k, o, cap, hρ, rfl, hcap, _⟩
    · exact hnil h0 _ _
    · exact hnil h0 _ _
    · have hB := h.mem b _ hb
      simp only [BRel, hρ] at hB
      obtain ⟨cur, hh, hlen, hsz, hcell⟩ := hB
      have := TRel.row (w := w) (Own := OwnBy c.A (part m' ρ)) (sz := sz) (c := cap) (es := (es.drop lo).take n) (ad := ⟨k, o + lo * sz, none⟩)
        ⟨hs, fun e he => hlen e (List.mem_of_mem_drop (List.mem_of_mem_take he)), part_free h hstd hρ hb', fun i j x hx => by
          have hx' : cellAt es (lo + i) j = some x := by
            simp only [cellAt] at hx ⊢
            obtain ⟨e, he, hj⟩ := Option.bind_eq_some_iff.1 hx
            have hin : i < n := by
              rcases Nat.lt_or_ge i n with h1 | h1
              · exact h1
              · rw [List.getElem?_eq_none (by omega)] at he; cases he
            rw [List.getElem?_take_of_lt hin, List.getElem?_drop] at he
            rw [he]; exact hj
          obtain ⟨u, hu, h1, ht⟩ := hcell _ _ _ hx'
          refine ⟨u, ?_, h1, ht.keep (part_keeps h).toKeeps⟩
          rw [add_none]
          simp only [World.cell?, hh]
          rw [if_neg (by simp), ← hu]
          congr 1; rw [Nat.add_mul]; omega⟩ (by omega)
      rw [hlen2] at this
      exact .tree this
  | @rows b lo n ty cs xs hb hb' hl hn ht _ ih =>
    intro v hv
    have hnil : n = 0 → ∀ A cap, VRel w (OwnBy c.A (part m' ρ)) (part m' ρ) (.ro 1 (xs.map fun x => [x])) (.slice A 0 cap) := by
      rintro rfl A cap
      rw [List.eq_nil_of_length_eq_zero hl]; exact .tree .ronil
    rcases hv.own_inv with ⟨rfl, _, h0⟩ | ⟨ad, rfl, h0, _⟩ | ⟨k, o, cap, hρ, rfl, hcap, _⟩
    · exact hnil h0 _ _
    · exact hnil h0 _ _
    · obtain ⟨k2, cur, g0, g1, g2, g3⟩ := h.mem b _ hb
      rw [hρ] at g0; injection g0 with g0; injection g0 with g0 g0'; subst g0; subst g0'
      have hcellx : ∀ i, ∀ x, xs[i]? = some x → ∃ u, cur[lo + i]? = some u ∧ one u = true ∧ TRel w (OwnBy c.A (part m' ρ)) x u := by
        intro i x hx
        have hi : i < n := by
          rcases Nat.lt_or_ge i xs.length with h1 | h1
          · omega
          · rw [List.getElem?_eq_none h1] at hx; cases hx
        have hlo : lo + i < cs.length := by omega
        obtain ⟨u, hu, h1, hv⟩ := g3 (lo + i) cs[lo + i] (List.getElem?_eq_getElem hlo)
        have e1 : cs.getD (lo + i) .dead = cs[lo + i] := by simp [hlo]
        exact ⟨u, hu, h1, (ih i x hx u (by rw [e1]; exact hv)).toTree (ht x (List.mem_of_getElem? hx))⟩
      have := TRel.row (w := w) (Own := OwnBy c.A (part m' ρ)) (sz := 1) (c := cap) (es := xs.map fun x => [x]) (ad := ⟨k, 0 + lo * 1, none⟩)
        ⟨by omega, fun e he => by obtain ⟨x, _, rfl⟩ := List.mem_map.1 he; rfl, part_free h hstd hρ hb', fun i j x hx => by
          obtain ⟨e, he, hj⟩ := Option.bind_eq_some_iff.1 hx
          rw [List.getElem?_map] at he
          obtain ⟨x2, hx2, rfl⟩ := Option.map_eq_some_iff.1 he
          have hj0 : j = 0 ∧ x2 = x := by
            cases j with
            | zero => simp at hj; exact ⟨rfl, hj⟩
            | succ j => simp at hj
          obtain ⟨rfl, rfl⟩ := hj0
          obtain ⟨u, hu, h1, htr⟩ := hcellx i x2 hx2
          refine ⟨u, ?_, h1, htr⟩
          rw [add_none]
          simp only [World.cell?, g1]
          rw [if_neg (by simp), ← hu]
          congr 1; omega⟩ (by simp; omega)
      rw [List.length_map, hl] at this
      exact .tree this
  | @rop b s ty cs xs hb hb' hl hp ht _ ih =>
    intro v hv
    cases hv with
    | tree hv => cases hv
    | @ptr _ _ _ _ k o hρ =>
    obtain ⟨k2, cur, g0, g1, g2, g3⟩ := h.mem b _ hb
    rw [hρ] at g0; injection g0 with g0; injection g0 with g0 g0'; subst g0; subst g0'
    have hc : ∀ i j x, cellAt [xs] i j = some x → ∃ u, w.cell? ((⟨k, 0, none⟩ : Addr).add (i * xs.length + j)) = some u ∧ one u = true ∧ TRel w (OwnBy c.A (part m' ρ)) x u := by
      intro i j x hx
      obtain ⟨e, he, hj⟩ := Option.bind_eq_some_iff.1 hx
      have hi : i = 0 ∧ e = xs := by
        cases i with
        | zero => simp at he; exact ⟨rfl, he.symm⟩
        | succ i => simp at he
      obtain ⟨rfl, rfl⟩ := hi
      have hjl : j < cs.length := by have := (List.getElem?_eq_some_iff.1 hj).1; omega
      obtain ⟨u, hu, h1, hv⟩ := g3 j cs[j] (List.getElem?_eq_getElem hjl)
      have e1 : cs.getD j .dead = cs[j] := by simp [hjl]
      refine ⟨u, ?_, h1, (ih j x hj u (by rw [e1]; exact hv)).toTree (ht x (List.mem_of_getElem? hj))⟩
      rw [add_none]
      simp only [World.cell?, g1]
      rw [if_neg (by simp), ← hu]
      congr 1; omega
    have := VRel.rop (w := w) (Own := OwnBy c.A (part m' ρ)) (ρ := part m' ρ) (sz := xs.length) (es := [xs]) (i0 := 0) (j0 := 0) (ad := ⟨k, 0, none⟩) (fun i j => (w.cell? ((⟨k, 0, none⟩ : Addr).add (i * xs.length + j))).getD undef) hp (fun e he => by simp at he; rw [he]) (part_free h hstd hρ hb') (by simp) hp
      (fun i j x hx => by obtain ⟨u, hu, _⟩ := hc i j x hx; rw [hu]; rfl) (fun i j x hx => by obtain ⟨u, hu, h1, _⟩ := hc i j x hx; rw [hu]; exact h1) (fun i j x hx => by obtain ⟨u, hu, _, ht⟩ := hc i j x hx; rw [hu]; exact ht)
    rw [add_none] at this
    simpa using this
  | agg hl _ ih =>
    intro v hv
    obtain ⟨vs, rfl, h1, h2⟩ := hv.agg_inv
    refine .agg (by omega) (fun i x hx => ih i x hx _ ?_)
    have hi : i < _ := (List.getElem?_eq_some_iff.1 hx).1
    rename_i ys xs _
    have hiy : i < ys.length := by omega
    have e1 : ys.getD i .dead = ys[i] := by simp [hiy]
    rw [e1]; exact h2 i _ (List.getElem?_eq_getElem hiy)
  | tup hl _ ih =>
    intro v hv
    obtain ⟨vs, rfl, h1, h2⟩ := hv.tup_inv
    refine .tup (by omega) (fun i x hx => ih i x hx _ ?_)
    have hi : i < _ := (List.getElem?_eq_some_iff.1 hx).1
    rename_i ys xs _
    have hiy : i < ys.length := by omega
    have e1 : ys.getD i .dead = ys[i] := by simp [hiy]
    rw [e1]; exact h2 i _ (List.getElem?_eq_getElem hiy)
  | fn hl _ ih =>
    intro v hv
    obtain ⟨vs, rfl, h1, h2⟩ := fn_inv hv
    refine .fn (by omega) (fun i x hx => ih i x hx _ ?_)
    have hi : i < _ := (List.getElem?_eq_some_iff.1 hx).1
    rename_i ys xs _
    have hiy : i < ys.length := by omega
    have e1 : ys.getD i .dead = ys[i] := by simp [hiy]
    rw [e1]; exact h2 i _ (List.getElem?_eq_getElem hiy)

end

theorem le_retell {st st' : St} (hs : ∀ p ∈ st'.slots, ∃ y, look st.slots p.1 = some y ∧ Re st.mem st'.mem y p.2) (hm : ∀ p ∈ st'.mem, ReB st.mem st'.mem (look st.mem p.1) p.2) (hf : st'.fixed = st.fixed) (hf2 : ∀ b ∈ st.fixed, (look st'.mem b).isSome) : st.le st' := by
  intro c ρ a w hstd h
  refine ⟨part st'.mem ρ, { slots := ?_, defers := h.defers, mem := ?_, dom := ?_, lt := ?_, inj := ?_, mine := ?_, far := ?_, fix := ?_, alt := h.alt, os := h.os, tape := h.tape, output := h.output, size := h.size, frame := h.frame, rows := h.rows }, fun b k o hb => (part_some hb).2⟩
  · intro d x hx
    obtain ⟨y, hy, hr⟩ := hs _ (look_mem hx)
    exact hr.rel h hstd _ (h.slots d y hy)
  · intro b blk hl
    have hpb : part st'.mem ρ b = ρ b := by unfold part; rw [if_pos (by simp [hl])]
    have hr := hm _ (look_mem hl)
    simp only at hr
    cases hlb : look st.mem b with
    | none =>
      rw [hlb] at hr
      cases hr
      have hρ : ρ b = none := by
        cases e : ρ b with
        | none => rfl
        | some p => obtain ⟨k, o⟩ := p; obtain ⟨blk, hl2⟩ := h.dom b k o e; rw [hlb] at hl2; cases hl2
      simp [BRel, hpb, hρ]
    | some blk0 =>
      rw [hlb] at hr
      have hB := h.mem b _ hlb
      cases hr with
      | same hx => exact hB.keep (part_keeps h) hpb (fun _ _ _ => rfl) (fun ty cs e => by subst e; exact hx)
      | @take ty sz k es =>
        simp only [BRel] at hB ⊢
        rw [hpb]
        split
        · rename_i e; rw [e] at hB; simp at hB; simp [hB]
        · rename_i q o e
          rw [e] at hB
          obtain ⟨cur, g1, g2, g3, g4⟩ := hB
          refine ⟨cur, g1, fun e he => g2 e (List.mem_of_mem_take he), ?_, fun i j x hx => ?_⟩
          · have : (es.take k).length * sz ≤ es.length * sz := Nat.mul_le_mul_right _ (by simp; omega)
            omega
          · obtain ⟨e, he, hj⟩ := Option.bind_eq_some_iff.1 hx
            have hik : i < k := by
              rcases Nat.lt_or_ge i k with h' | h'
              · exact h'
              · rw [List.getElem?_eq_none (by simp; omega)] at he; cases he
            rw [List.getElem?_take_of_lt hik] at he
            obtain ⟨v, hv1, hv2, hv3⟩ := g4 i j x (by simp [cellAt, he, hj])
            exact ⟨v, hv1, hv2, hv3.keep (part_keeps h).toKeeps⟩
      | @obj ty ys xs hl2 hx =>
        obtain ⟨k, cur, g0, g1, g2, g3⟩ := hB
        refine ⟨k, cur, hpb.trans g0, g1, by omega, fun j x hj => ?_⟩
        have hjl : j < ys.length := by
          rcases Nat.lt_or_ge j xs.length with h1 | h1
          · omega
          · rw [List.getElem?_eq_none h1] at hj; cases hj
        obtain ⟨v, hv1, hv2, hv3⟩ := g3 j ys[j] (List.getElem?_eq_getElem hjl)
        have e1 : ys.getD j .dead = ys[j] := by simp [hjl]
        exact ⟨v, hv1, hv2, (hx j x hj).rel h hstd _ (by rw [e1]; exact hv3)⟩
  · intro b k o hb
    obtain ⟨hs, _⟩ := part_some hb
    exact Option.isSome_iff_exists.1 hs
  · exact fun b k o hb => h.lt _ _ _ (part_some hb).2
  · exact fun b1 b2 k o1 o2 h1 h2 => h.inj _ _ _ _ _ (part_some h1).2 (part_some h2).2
  · exact fun b k o hb => h.mine _ _ _ (part_some hb).2
  · exact fun b k o hb => h.far _ _ _ (part_some hb).2
  · intro b hb
    rw [hf] at hb
    unfold part
    rw [if_pos (hf2 b hb)]
    exact h.fix b hb
end Go.SX
