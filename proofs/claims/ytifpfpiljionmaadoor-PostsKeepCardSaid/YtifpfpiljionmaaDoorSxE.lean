/- SX, part E: a step of any operation; states that say less; what a function comes to; calls. -/
import Derived.Test.YtifpfpiljionmaaDoorSxD
set_option linter.unusedVariables false
set_option linter.unusedSimpArgs false
namespace Go.SX
open Go
section
variable {P : Program} {c : Ctx} {o : Oper} {st : St} {ρ : Map} {a : Act} {w : World}

theorem pure_ok (h : Conc c st ρ a w) {ao : AOp} {d : Nat} {r : AV} (hc : chk P o ao = true) (hd : o.dst = some d) (hlt : d < a.tmps.size) (hp : pv st.src ao = some r) (ws : List Nat) : StepOK P c o (st.put d r) ws ρ a w := by
  obtain ⟨v, hrun, hv⟩ := pv_ok h.srcs hc hp
  refine ⟨.value v, w, ρ, v, hrun w, .inl rfl, ?_, fun _ _ _ => rfl, fun _ _ _ h => .inl h⟩
  rw [hd]
  exact h.put hlt hv

theorem loadStep_ok (h : Conc c st ρ a w) {n : Nat} {g : Bool} {x : Src} {d : Nat} {st' : St} (hc : chkM P o (.load n g x) = true) (hd : o.dst = some d) (hlt : d < a.tmps.size) (he : exec (some d) (.load n g x) st = some st') (ws : List Nat) : StepOK P c o st' ws ρ a w := by
  simp only [exec] at he
  split at he <;> try (cases he; done)
  rename_i d' p hd' hx
  injection hd' with hd'; subst hd'
  split at he <;> try (cases he; done)
  rename_i cs hl
  split at he <;> try (cases he; done)
  rename_i r hr
  injection he with he; subst he
  obtain ⟨v, blk, hrun, hv, _, _⟩ := load_ok h hc hx hl hr
  refine ⟨.value v, w, ρ, v, hrun w rfl, .inl rfl, ?_, fun _ _ _ => rfl, fun _ _ _ h => .inl h⟩
  rw [hd]
  exact h.put hlt hv

theorem StepOK.mono {st' : St} {ws ws' : List Nat} (h : StepOK P c o st' ws ρ a w) (hs : ∀ b ∈ ws, b ∈ ws') : StepOK P c o st' ws' ρ a w := by
  obtain ⟨r, w', ρ', v, e1, e2, e3, e4, e5⟩ := h
  exact ⟨r, w', ρ', v, e1, e2, e3, fun k hk hb => e4 k hk (fun b o' hb' => hb b o' (hs b hb')), fun b k o' hρ => (e5 b k o' hρ).imp id (fun ⟨h1, h2⟩ => ⟨hs b h1, h2.imp id (fun ⟨b0, h3, h4⟩ => ⟨b0, hs b0 h3, h4⟩)⟩)⟩

/-- A step of any operation but a call. -/
theorem exec_ok (h : Conc c st ρ a w) {ao : AOp} {st' : St} (hc : chkM P o ao = true) (hlt : ∀ d, o.dst = some d → d < a.tmps.size) (he : exec o.dst ao st = some st') : StepOK P c o st' (wrs st ao) ρ a w := by
  have hpure : ∀ (ao : AOp), chk P o ao = true → (match o.dst, pv st.src ao with | some d, some r => some (st.put d r) | _, _ => none) = some st' → StepOK P c o st' [] ρ a w := by
    intro ao hc he
    split at he <;> try (cases he; done)
    rename_i d r hd hp
    injection he with he; subst he
    exact pure_ok h hc hd (hlt d hd) hp []
  cases ao with
  | load n g x =>
    cases hd : o.dst with
    | none => rw [hd] at he; simp [exec] at he
    | some d => rw [hd] at he; exact loadStep_ok h hc hd (hlt d hd) he _
  | store n x v =>
    cases hd : o.dst with
    | none => rw [hd] at he; exact store_ok h hc hd he
    | some d => rw [hd] at he; simp [exec] at he
  | alloc id ty zero =>
    cases hd : o.dst with
    | none => rw [hd] at he; simp [exec] at he
    | some d => rw [hd] at he; exact alloc_ok h hc hd (hlt d hd) he
  | box id ty n x =>
    cases hd : o.dst with
    | none => rw [hd] at he; simp [exec] at he
    | some d => rw [hd] at he; exact box_ok h hc hd (hlt d hd) he
  | bslice id ty sz xs =>
    cases hd : o.dst with
    | none => rw [hd] at he; simp [exec] at he
    | some d => rw [hd] at he; exact bslice_ok h hc hd (hlt d hd) he
  | mkslice id ty sz bytes zero n =>
    cases hd : o.dst with
    | none => rw [hd] at he; simp [exec] at he
    | some d => rw [hd] at he; exact mkslice_ok h hc hd (hlt d hd) he
  | mkrow id ty sz bytes zero n =>
    cases hd : o.dst with
    | none => rw [hd] at he; simp [exec] at he
    | some d => rw [hd] at he; exact mkrow_ok h hc hd (hlt d hd) he
  | append id ty sz bytes x y =>
    cases hd : o.dst with
    | none => rw [hd] at he; simp [exec] at he
    | some d => rw [hd] at he; exact append_ok h hc hd (hlt d hd) he
  | call f xs => simp [exec, pv] at he
  | callv f xs => simp [exec, pv] at he
  | ext t ns xs => simp [exec, pv] at he
  | mov x => exact hpure (.mov x) hc he
  | nilck x => exact hpure (.nilck x) hc he
  | pick a b c => exact hpure (.pick a b c) hc he
  | not x => exact hpure (.not x) hc he
  | iop op x y => exact hpure (.iop op x y) hc he
  | conv k x => exact hpure (.conv k x) hc he
  | beq neg x y => exact hpure (.beq neg x y) hc he
  | seql neg n x y => exact hpure (.seql neg n x y) hc he
  | faddr j x => exact hpure (.faddr j x) hc he
  | iaddr sz x i => exact hpure (.iaddr sz x i) hc he
  | field off n g x => exact hpure (.field off n g x) hc he
  | build zero parts => exact hpure (.build zero parts) hc he
  | extract i x => exact hpure (.extract i x) hc he
  | len x => exact hpure (.len x) hc he
  | slen x => exact hpure (.slen x) hc he
  | slice sz x lo hi => exact hpure (.slice sz x lo hi) hc he
  | sslice x lo hi => exact hpure (.sslice x lo hi) hc he
  | sidx x i => exact hpure (.sidx x i) hc he
  | mkfn f caps => exact hpure (.mkfn f caps) hc he
  | minmax mx x y => exact hpure (.minmax mx x y) hc he
end

/-! ### States that say less -/

/-- Whatever 's' says, 't' says something of it. -/
def St.le (s t : St) : Prop := ∀ c ρ a w, c.A = c.B → Conc c s ρ a w → ∃ ρ', Conc c t ρ' a w ∧ ∀ b k o, ρ' b = some (k, o) → ρ b = some (k, o)

theorem St.le_refl (s : St) : s.le s := fun _ ρ _ _ _ h => ⟨ρ, h, fun _ _ _ h => h⟩
theorem St.le_trans {s t u : St} (h : s.le t) (k : t.le u) : s.le u := fun c ρ a w hs hc => by
  obtain ⟨ρ1, h1, g1⟩ := h c ρ a w hs hc
  obtain ⟨ρ2, h2, g2⟩ := k c ρ1 a w hs h1
  exact ⟨ρ2, h2, fun b q o hb => g1 _ _ _ (g2 _ _ _ hb)⟩

def keepS {α : Type} (ds : List Nat) (l : List (Nat × α)) : List (Nat × α) := l.filter fun p => ds.contains p.1

theorem look_keep {α : Type} (ds : List Nat) : ∀ (l : List (Nat × α)) (d : Nat), look (keepS ds l) d = if ds.contains d then look l d else none
  | [], d => by simp [keepS, look]
  | (k, v) :: r, d => by
    have ih := look_keep ds r d
    simp only [keepS] at ih ⊢
    by_cases hk : ds.contains k = true
    · rw [List.filter_cons_of_pos (by simpa using hk)]
      simp only [look]
      by_cases e : k = d
      · subst e; rw [if_pos rfl, if_pos rfl, if_pos hk]
      · simp only [e, if_false]; exact ih
    · rw [List.filter_cons_of_neg (by simpa using hk)]
      rw [ih]
      by_cases e : k = d
      · subst e; rw [if_neg hk, if_neg hk]
      · simp only [look, e, if_false]

/-- Only the slots in 'ds' are wanted. -/
theorem le_keep (st : St) (ds : List Nat) : st.le { st with slots := keepS ds st.slots } := fun c ρ a w _ h =>
  ⟨ρ, h.less _ (fun d x hx => by rw [look_keep] at hx; split at hx; exact hx; cases hx), fun _ _ _ h => h⟩

theorem le_slots {st : St} {s : Slots} (hs : ∀ d x, look s d = some x → look st.slots d = some x) : st.le { st with slots := s } := fun _ ρ _ _ _ h => ⟨ρ, h.less s hs, fun _ _ _ h => h⟩

/-- Block 'b' is let go. -/
theorem le_kill (st : St) (b : Nat) (hf : st.fixed.contains b = false) : st.le (st.kill b) := fun c ρ a w _ h =>
  ⟨_, h.kill b hf, fun b' k o hb => by
    replace hb : (if b' = b then none else ρ b') = some (k, o) := hb
    split at hb
    · cases hb
    · exact hb⟩

mutual
/-- What leads to the row 'b' is told as a tree. -/
def frz (b sz : Nat) (es : List (List AV)) : AV → AV
  | .agg cs => .agg (frzL b sz es cs)
  | .tup cs => .tup (frzL b sz es cs)
  | .fn f cs => .fn f (frzL b sz es cs)
  | .own b' s lo n => if b' = b then (if s = sz ∧ 0 < sz ∧ lo + n ≤ es.length then .ro sz ((es.drop lo).take n) else .dead) else .own b' s lo n
  | .ownc b' s lo n cap => if b' = b then .dead else .ownc b' s lo n cap
  | .ptr b' s i j => if b' = b then .dead else .ptr b' s i j
  | .mapr b' => if b' = b then .dead else .mapr b'
  | x => x
def frzL (b sz : Nat) (es : List (List AV)) : List AV → List AV
  | [] => []
  | x :: r => frz b sz es x :: frzL b sz es r
end
theorem frzL_get {b sz : Nat} {es : List (List AV)} : ∀ {cs : List AV} (i : Nat), (frzL b sz es cs)[i]? = (cs[i]?).map (frz b sz es)
  | [], i => by simp [frzL]
  | y :: r, 0 => by simp [frzL]
  | y :: r, i + 1 => by simpa [frzL] using frzL_get (cs := r) i
theorem frzL_length {b sz : Nat} {es : List (List AV)} : ∀ (cs : List AV), (frzL b sz es cs).length = cs.length
  | [] => rfl
  | _ :: r => by simp [frzL, frzL_length r]
mutual
theorem refs_frz (b sz : Nat) (es : List (List AV)) : ∀ x, refsIn (fun k => k ≠ b) (frz b sz es x)
  | .agg cs => by simp only [frz, refsIn]; exact refs_frzL b sz es cs
  | .tup cs => by simp only [frz, refsIn]; exact refs_frzL b sz es cs
  | .fn f cs => by simp only [frz, refsIn]; exact refs_frzL b sz es cs
  | .own b' s lo n => by
    simp only [frz]; split
    · split <;> trivial
    · simpa [refsIn]
  | .ownc b' s lo n cap => by simp only [frz]; split; trivial; simpa [refsIn]
  | .ptr b' s i j => by simp only [frz]; split; trivial; simpa [refsIn]
  | .mapr b' => by simp only [frz]; split; trivial; simpa [refsIn]
  | .lit _ => trivial
  | .nils _ => trivial
  | .ro _ _ => trivial
  | .rop _ _ _ _ => trivial
  | .dead => trivial
theorem refs_frzL (b sz : Nat) (es : List (List AV)) : ∀ cs, refsInL (fun k => k ≠ b) (frzL b sz es cs)
  | [] => trivial
  | x :: r => ⟨refs_frz b sz es x, refs_frzL b sz es r⟩
end

theorem TRel.frz {w : World} {Own : Nat → Prop} {x : AV} {v : Value} (b sz : Nat) (es : List (List AV)) (h : TRel w Own x v) : TRel w Own (frz b sz es x) v := by
  induction h with
  | lit h => simpa [SX.frz] using .lit h
  | nils => simpa [SX.frz] using .nils
  | ronil => simpa [SX.frz] using .ronil
  | ro val hc hs hlen hblk hne hcell hone hrel _ => simpa [SX.frz] using .ro val hc hs hlen hblk hne hcell hone hrel
  | agg hl _ ih => simp only [SX.frz]; exact .agg (by rw [frzL_length]; exact hl) (fun i x hx => by rw [frzL_get] at hx; obtain ⟨y, hy, rfl⟩ := Option.map_eq_some_iff.1 hx; exact ih i y hy)
  | tup hl _ ih => simp only [SX.frz]; exact .tup (by rw [frzL_length]; exact hl) (fun i x hx => by rw [frzL_get] at hx; obtain ⟨y, hy, rfl⟩ := Option.map_eq_some_iff.1 hx; exact ih i y hy)
  | fn hl _ ih => simp only [SX.frz]; exact .fn (by rw [frzL_length]; exact hl) (fun i x hx => by rw [frzL_get] at hx; obtain ⟨y, hy, rfl⟩ := Option.map_eq_some_iff.1 hx; exact ih i y hy)

def frzB (b sz : Nat) (es : List (List AV)) : Blk → Blk
  | .arr ty s e => .arr ty s e
  | .obj ty cs => .obj ty (frzL b sz es cs)

def St.freeze (st : St) (b : Nat) : St :=
  match look st.mem b with
  | some (.arr _ sz es) => ⟨st.slots.map fun p => (p.1, frz b sz es p.2), (SX.drop st.mem b).map fun p => (p.1, frzB b sz es p.2), st.fixed⟩
  | _ => st

/-- A row of one's own is written no more. -/
theorem le_freeze (st : St) (b : Nat) (hf : st.fixed.contains b = false) : st.le (st.freeze b) := by
  intro c ρ a w hstd h
  unfold St.freeze
  split
  case h_2 => exact ⟨ρ, h, fun _ _ _ h => h⟩
  rename_i ty sz es hm
  have hk : KeepsV w w (OwnBy c.A ρ) (OwnBy c.A (fun x => if x = b then none else ρ x)) ρ (fun x => if x = b then none else ρ x) (fun k => k ≠ b) := {
    size := Nat.le_refl _
    same := fun _ _ _ => rfl
    own := fun k _ hk => by
      rcases hk with hk | ⟨b', o', hk⟩
      · exact .inl hk
      · replace hk : (if b' = b then none else ρ b') = some (k, o') := hk
        split at hk
        · cases hk
        · exact .inr ⟨b', o', hk⟩
    map := fun b' hb' k o' hρ => by simp only [hb', if_false]; exact hρ
    rows := fun k cur ty fr _ hh => ⟨cur, ty, fr, hh, rfl⟩
    lt := h.lt }
  have hB := h.mem b _ hm
  -- a value in the new state
  have hval : ∀ x v, VRel w (OwnBy c.A ρ) ρ x v → VRel w (OwnBy c.A (fun x => if x = b then none else ρ x)) (fun x => if x = b then none else ρ x) (frz b sz es x) v := by
    intro x v hx
    induction hx with
    | tree h => exact .tree ((h.frz b sz es).keep hk.toKeeps)
    | agg hl _ ih => simp only [SX.frz]; exact .agg (by rw [frzL_length]; exact hl) (fun i x hx => by rw [frzL_get] at hx; obtain ⟨y, hy, rfl⟩ := Option.map_eq_some_iff.1 hx; exact ih i y hy)
    | tup hl _ ih => simp only [SX.frz]; exact .tup (by rw [frzL_length]; exact hl) (fun i x hx => by rw [frzL_get] at hx; obtain ⟨y, hy, rfl⟩ := Option.map_eq_some_iff.1 hx; exact ih i y hy)
    | fn hl _ ih => simp only [SX.frz]; exact .fn (by rw [frzL_length]; exact hl) (fun i x hx => by rw [frzL_get] at hx; obtain ⟨y, hy, rfl⟩ := Option.map_eq_some_iff.1 hx; exact ih i y hy)
    | rop val hs hlen hblk hi hj hcell hone hrel =>
      have := VRel.keep hk (.rop val hs hlen hblk hi hj hcell hone hrel) trivial
      simpa [SX.frz] using this
    | @ownnil b' s =>
      simp only [SX.frz]
      split
      · split
        · simp only [List.take_zero]; exact .tree .ronil
        · exact .dead
      · exact .ownnil
    | @ownz b' s lo o' ad hρ =>
      simp only [SX.frz]
      split
      · split
        · simp only [List.take_zero]; exact .tree .ronil
        · exact .dead
      · rename_i hne
        exact .ownz (by simp only [hne, if_false]; exact hρ)
    | @own b' s lo n k o' cap hρ hn hroom =>
      simp only [SX.frz]
      split
      · rename_i e; subst e
        split
        · rename_i hc
          obtain ⟨rfl, hs0, hle⟩ := hc
          simp only [BRel, hρ] at hB
          obtain ⟨cur, hh, hlen, hsz, hcell⟩ := hB
          have hlen2 : ((es.drop lo).take n).length = n := by simp; omega
          by_cases hne : (es.drop lo).take n = []
          · rw [hne]
            have : n = 0 := by rw [← hlen2, hne]; rfl
            subst this
            exact .tree .ronil
          · · have := TRel.row (w := w) (Own := OwnBy c.A (fun x => if x = b' then none else ρ x)) (sz := s) (c := cap) (es := (es.drop lo).take n) (ad := ⟨k, o' + lo * s, none⟩)
                ⟨hs0, fun e he => hlen e (List.mem_of_mem_drop (List.mem_of_mem_take he)), fun hO => by
                  rcases hO with hO | ⟨b2, o2, hO⟩
                  · exact h.far _ _ _ hρ (hstd ▸ hO)
                  · replace hO : (if b2 = b' then none else ρ b2) = some (k, o2) := hO
                    split at hO
                    · cases hO
                    · rename_i hne2; exact hne2 (h.inj _ _ _ _ _ hO hρ), fun i j x hx => by
                  have hx' : cellAt es (lo + i) j = some x := by
                    simp only [cellAt] at hx ⊢
                    obtain ⟨e, he, hj⟩ := Option.bind_eq_some_iff.1 hx
                    have hin : i < n := by
                      rcases Nat.lt_or_ge i n with h1 | h1
                      · exact h1
                      · rw [List.getElem?_eq_none (by omega)] at he; cases he
                    rw [List.getElem?_take_of_lt hin, List.getElem?_drop] at he
                    rw [he]; exact hj
                  obtain ⟨u, hu, h1, ht⟩ := hcell _ _ _ hx'
                  refine ⟨u, ?_, h1, ht.keep hk.toKeeps⟩
                  rw [add_none]
                  simp only [World.cell?, hh]
                  rw [if_neg (by simp), ← hu]
                  congr 1; rw [Nat.add_mul]; omega⟩ (by omega)
              rw [hlen2] at this
              exact .tree this
        · exact .dead
      · rename_i hne
        exact .own (by simp only [hne, if_false]; exact hρ) hn hroom
    | @ownc b' s lo n k o' cap hρ hn hroom =>
      simp only [SX.frz]
      split
      · exact .dead
      · rename_i hne
        exact .ownc (by simp only [hne, if_false]; exact hρ) hn hroom
    | @ptr b' s i j k o' hρ =>
      simp only [SX.frz]
      split
      · exact .dead
      · rename_i hne
        exact .ptr (by simp only [hne, if_false]; exact hρ)
    | dead => simpa [SX.frz] using .dead
  have hm2 : ∀ b' blk', look ((SX.drop st.mem b).map fun p => (p.1, frzB b sz es p.2)) b' = some blk' → b' ≠ b ∧ ∃ blk, look st.mem b' = some blk ∧ blk' = frzB b sz es blk := by
    intro b' blk' hl
    simp only [look_mapv, look_drop] at hl
    split at hl
    · simp at hl
    · rename_i hne
      obtain ⟨blk, h1, h2⟩ := Option.map_eq_some_iff.1 hl
      exact ⟨hne, blk, h1, h2.symm⟩
  refine ⟨fun x => if x = b then none else ρ x, { slots := ?_, defers := h.defers, mem := ?_, dom := ?_, lt := ?_, inj := ?_, mine := ?_, far := ?_, fix := fun b' hb' => by rw [if_neg (by rintro rfl; simp at hf; exact hf hb')]; exact h.fix b' hb', alt := h.alt, os := h.os, tape := h.tape, output := h.output, size := h.size, frame := h.frame, rows := h.rows }, fun b' k o hb => by
    replace hb : (if b' = b then none else ρ b') = some (k, o) := hb
    split at hb
    · cases hb
    · exact hb⟩
  · intro d x hx
    simp only [look_mapv] at hx
    obtain ⟨y, hy, rfl⟩ := Option.map_eq_some_iff.1 hx
    exact hval _ _ (h.slots d y hy)
  · intro b' blk' hl
    obtain ⟨hne, blk, hl', rfl⟩ := hm2 b' blk' hl
    have hB := h.mem b' blk hl'
    cases blk with
    | arr ty sz es => exact hB.keep hk (by simp [hne]) (fun _ _ _ => rfl) (fun _ _ h => by cases h)
    | obj ty cs =>
      obtain ⟨k, cur, h0, h1, h2, h3⟩ := hB
      refine ⟨k, cur, by simp only [hne, if_false]; exact h0, h1, by rw [frzL_length]; exact h2, fun j x hx => ?_⟩
      rw [frzL_get] at hx
      obtain ⟨y, hy, rfl⟩ := Option.map_eq_some_iff.1 hx
      obtain ⟨v, hv, h1v, ht⟩ := h3 j y hy
      exact ⟨v, hv, h1v, hval _ _ ht⟩
  · intro b' k o' hρ
    split at hρ
    · cases hρ
    · rename_i hne
      obtain ⟨blk, hl⟩ := h.dom b' k o' hρ
      exact ⟨frzB b sz es blk, by simp [look_mapv, look_drop, hne, hl]⟩
  · intro b' k o' hρ
    split at hρ
    · cases hρ
    · exact h.lt _ _ _ hρ
  · intro b1 b2 k o1 o2 h1 h2
    split at h1 <;> split at h2 <;> first | (cases h1; done) | (cases h2; done) | exact h.inj _ _ _ _ _ h1 h2
  · intro b' k o' hρ
    split at hρ
    · cases hρ
    · exact h.mine _ _ _ hρ
  · intro b' k o' hρ
    split at hρ
    · cases hρ
    · exact h.far _ _ _ hρ

theorem look_mem {α : Type} : ∀ {l : List (Nat × α)} {d : Nat} {x : α}, look l d = some x → (d, x) ∈ l
  | [], _, _, h => by simp [look] at h
  | (k, v) :: r, d, x, h => by
    simp only [look] at h
    split at h
    · rename_i e; subst e; injection h with h; subst h; exact List.mem_cons_self
    · exact List.mem_cons_of_mem _ (look_mem h)

def Blk.refs (S : Nat → Prop) : Blk → Prop
  | .arr .. => True
  | .obj _ cs => refsInL S cs

/-- Fewer slots and blocks are wanted; nothing that is wanted leads elsewhere. -/
theorem Conc.sub {c : Ctx} {ρ : Map} {a : Act} {w : World} {st st' : St} (h : Conc c st ρ a w) (h1 : ∀ p ∈ st'.slots, look st.slots p.1 = some p.2) (h2 : ∀ p ∈ st'.mem, look st.mem p.1 = some p.2) (h3 : ∀ p ∈ st'.slots, refsIn (fun b => (look st'.mem b).isSome) p.2) (h4 : ∀ p ∈ st'.mem, p.2.refs (fun b => (look st'.mem b).isSome))
    (h5 : st'.fixed = st.fixed) (h6 : ∀ b ∈ st.fixed, (look st'.mem b).isSome) : Conc c st' (fun x => if (look st'.mem x).isSome then ρ x else none) a w := by
  have hk : KeepsV w w (OwnBy c.A ρ) (OwnBy c.A (fun x => if (look st'.mem x).isSome then ρ x else none)) ρ (fun x => if (look st'.mem x).isSome then ρ x else none) (fun b => (look st'.mem b).isSome) := {
    size := Nat.le_refl _
    same := fun _ _ _ => rfl
    own := fun k _ hk => by
      rcases hk with hk | ⟨b', o', hk⟩
      · exact .inl hk
      · replace hk : (if (look st'.mem b').isSome then ρ b' else none) = some (k, o') := hk
        split at hk
        · exact .inr ⟨b', o', hk⟩
        · cases hk
    map := fun b' hb' k o' hρ => by simp only [hb', if_true]; exact hρ
    rows := fun k cur ty fr _ hh => ⟨cur, ty, fr, hh, rfl⟩
    lt := h.lt }
  refine { slots := ?_, defers := h.defers, mem := ?_, dom := ?_, lt := ?_, inj := ?_, mine := ?_, far := ?_, fix := ?_, alt := h.alt, os := h.os, tape := h.tape, output := h.output, size := h.size, frame := h.frame, rows := h.rows }
  · intro d x hx
    have hm := look_mem hx
    exact (h.slots d x (h1 _ hm)).keep hk (h3 _ hm)
  · intro b blk hl
    have hm := look_mem hl
    refine (h.mem b blk (h2 _ hm)).keep hk (by simp [hl]) (fun _ _ _ => rfl) (fun ty cs e => ?_)
    have := h4 _ hm
    subst e
    exact this
  · intro b k o hb
    split at hb
    · rename_i hs; exact Option.isSome_iff_exists.1 hs
    · cases hb
  · intro b k o hb
    split at hb
    · exact h.lt _ _ _ hb
    · cases hb
  · intro b1 b2 k o1 o2 h1 h2
    split at h1 <;> split at h2 <;> first | (cases h1; done) | (cases h2; done) | exact h.inj _ _ _ _ _ h1 h2
  · intro b k o hb
    split at hb
    · exact h.mine _ _ _ hb
    · cases hb
  · intro b k o hb
    split at hb
    · exact h.far _ _ _ hb
    · cases hb
  · intro b hb
    rw [h5] at hb
    rw [if_pos (h6 b hb)]
    exact h.fix b hb

theorem le_sub {st st' : St} (h1 : ∀ p ∈ st'.slots, look st.slots p.1 = some p.2) (h2 : ∀ p ∈ st'.mem, look st.mem p.1 = some p.2) (h3 : ∀ p ∈ st'.slots, refsIn (fun b => (look st'.mem b).isSome) p.2) (h4 : ∀ p ∈ st'.mem, p.2.refs (fun b => (look st'.mem b).isSome))
    (h5 : st'.fixed = st.fixed) (h6 : ∀ b ∈ st.fixed, (look st'.mem b).isSome) : st.le st' := fun _ _ _ _ _ h =>
  ⟨_, h.sub h1 h2 h3 h4 h5 h6, fun b k o hb => by
    split at hb
    · exact hb
    · cases hb⟩

/-- A row is told as far as 'k'. -/
theorem le_trunc {st : St} {b ty sz k : Nat} {es : List (List AV)} (hb : look st.mem b = some (.arr ty sz es)) : st.le { st with mem := upd st.mem b (.arr ty sz (es.take k)) } := by
  intro c ρ a w _ h
  refine ⟨ρ, { slots := h.slots, defers := h.defers, mem := ?_, dom := ?_, lt := h.lt, inj := h.inj, mine := h.mine, far := h.far, fix := h.fix, alt := h.alt, os := h.os, tape := h.tape, output := h.output, size := h.size, frame := h.frame, rows := h.rows }, fun _ _ _ h => h⟩
  · intro b' blk hl
    simp only [look_upd] at hl
    split at hl
    · rename_i e; subst e
      injection hl with hl; subst hl
      have hB := h.mem _ _ hb
      simp only [BRel] at hB ⊢
      split
      · rename_i e; rw [e] at hB; simp at hB; simp [hB]
      · rename_i q o e
        rw [e] at hB
        obtain ⟨cur, g1, g2, g3, g4⟩ := hB
        refine ⟨cur, g1, fun e he => g2 e (List.mem_of_mem_take he), ?_, fun i j x hx => g4 i j x ?_⟩
        · have : (es.take k).length * sz ≤ es.length * sz := Nat.mul_le_mul_right _ (by simp; omega)
          omega
        · obtain ⟨e, he, hj⟩ := Option.bind_eq_some_iff.1 hx
          have hik : i < k := by
            rcases Nat.lt_or_ge i k with h' | h'
            · exact h'
            · rw [List.getElem?_eq_none (by simp; omega)] at he; cases he
          rw [List.getElem?_take_of_lt hik] at he
          simp [cellAt, he, hj]
    · exact h.mem _ _ hl
  · intro b' q o hρ
    simp only [look_upd]
    split
    · exact ⟨_, rfl⟩
    · exact h.dom _ _ _ hρ

/-- A new name for a row that is nil yet. -/
theorem le_virt {st : St} {b : Nat} (ty sz : Nat) (hb : look st.mem b = none) (hf : st.fixed.contains b = false) : st.le { st with mem := upd st.mem b (.arr ty sz []) } := by
  intro c ρ a w _ h
  have hρ : ρ b = none := by
    cases e : ρ b with
    | none => rfl
    | some p => obtain ⟨k, o⟩ := p; obtain ⟨blk, hl⟩ := h.dom b k o e; rw [hb] at hl; cases hl
  exact ⟨ρ, h.virt hρ ty sz, fun _ _ _ h => h⟩

/-- Slots and cells told otherwise, where the values may be told so, too. -/
theorem le_tell {st st' : St} (hs : ∀ d x, look st'.slots d = some x → ∃ y, look st.slots d = some y ∧ (y = x ∨ ∃ sz b, y = .nils sz ∧ x = .own b sz 0 0)) (hm : ∀ b, look st'.mem b = look st.mem b ∨ ∃ ty cs cs', look st.mem b = some (.obj ty cs) ∧ look st'.mem b = some (.obj ty cs') ∧ cs'.length = cs.length ∧
    ∀ (j : Nat) x, cs'[j]? = some x → ∃ y, cs[j]? = some y ∧ (y = x ∨ ∃ sz b, y = .nils sz ∧ x = .own b sz 0 0)) (hf : st'.fixed = st.fixed) : st.le st' := by
  intro c ρ a w _ h
  have hv : ∀ x y v, VRel w (OwnBy c.A ρ) ρ y v → (y = x ∨ ∃ sz b, y = .nils sz ∧ x = .own b sz 0 0) → VRel w (OwnBy c.A ρ) ρ x v := by
    rintro x y v hy (rfl | ⟨sz, b, rfl, rfl⟩)
    · exact hy
    · cases hy with
      | tree h => cases h; exact .ownnil
  refine ⟨ρ, { slots := ?_, defers := h.defers, mem := ?_, dom := ?_, lt := h.lt, inj := h.inj, mine := h.mine, far := h.far, fix := fun b hb => h.fix b (hf ▸ hb), alt := h.alt, os := h.os, tape := h.tape, output := h.output, size := h.size, frame := h.frame, rows := h.rows }, fun _ _ _ h => h⟩
  · intro d x hx
    obtain ⟨y, hy, he⟩ := hs d x hx
    exact hv _ _ _ (h.slots d y hy) he
  · intro b blk hl
    rcases hm b with he | ⟨ty, cs, cs', h1, h2, h3, h4⟩
    · exact h.mem b blk (he ▸ hl)
    · rw [h2] at hl; injection hl with hl; subst hl
      obtain ⟨k, cur, g0, g1, g2, g3⟩ := h.mem b _ h1
      refine ⟨k, cur, g0, g1, g2.trans h3.symm, fun j x hx => ?_⟩
      obtain ⟨y, hy, he⟩ := h4 j x hx
      obtain ⟨v, hv1, hv2, hv3⟩ := g3 j y hy
      exact ⟨v, hv1, hv2, hv _ _ _ hv3 he⟩
  · intro b k o hb
    obtain ⟨blk, hl⟩ := h.dom b k o hb
    rcases hm b with he | ⟨ty, cs, cs', h1, h2, _⟩
    · exact ⟨blk, he.trans hl⟩
    · exact ⟨_, h2⟩
end Go.SX
