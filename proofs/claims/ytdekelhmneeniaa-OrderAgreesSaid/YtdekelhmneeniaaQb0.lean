/- Parts of a symbolic execution and of walks by it, for the statements of this seat: SxT, SxA, SxB. -/
import Derived.Below
import Derived.OrdersHeld
import Derived.Laws.Entries
import Derived.Laws.Cells
import Derived.ChangeKeysEq
import Derived.Laws.Tables
import Derived.Great.FillDense
set_option linter.unusedVariables false
set_option linter.unusedSimpArgs false
namespace Go.SX
open Go
structure Tab where
  p : World → Prop
  k : Nat → Prop
  lt : ∀ w, p w → ∀ q, k q → q < w.heap.size
  stab : ∀ w w' : World, (∀ q, k q → w'.heap[q]? = w.heap[q]?) → p w → p w'
def theTab : Tab := ⟨fun _ => True, fun _ => False, fun _ _ _ h => h.elim, fun _ _ _ _ => trivial⟩
end Go.SX
namespace Go.SX
open Go
inductive AV where
  | lit (v : Value)
  | agg (cs : List AV)
  | tup (vs : List AV)
  | nils (sz : Nat)
  | ro (sz : Nat) (es : List (List AV))
  | rop (sz : Nat) (es : List (List AV)) (i j : Nat)
  | own (b sz lo n : Nat)
  | ownc (b sz lo n cap : Nat)
  | ptr (b sz i j : Nat)
  | fn (f : FuncId) (caps : List AV)
  | mapr (b : Nat)
  | dead
def flat : Value → Bool
  | .bool _ | .int _ _ | .string _ | .nilFunc | .nilIface | .pointer none | .map none | .func (.yield _) _ _ => true
  | _ => false
def one : Value → Bool
  | .agg _ | .tuple _ => false
  | _ => true
def cellAt (es : List (List AV)) (i j : Nat) : Option AV := (es[i]?).bind (·[j]?)
inductive TRel (w : World) (Own : Nat → Prop) : AV → Value → Prop
  | lit {v : Value} (h : flat v = true) : TRel w Own (.lit v) v
  | nils {sz : Nat} : TRel w Own (.nils sz) (.slice none 0 0)
  | ronil {sz c : Nat} {A : Option Addr} : TRel w Own (.ro sz []) (.slice A 0 c)
  | ro {sz c : Nat} {es : List (List AV)} {ad : Addr} (val : Nat → Nat → Value) (hc : es.length ≤ c) (hs : 0 < sz) (hlen : ∀ e ∈ es, e.length = sz) (hblk : ¬ Own ad.block) (hne : es ≠ [])
      (hcell : ∀ i j x, cellAt es i j = some x → w.cell? (ad.add (i * sz + j)) = some (val i j)) (hone : ∀ i j x, cellAt es i j = some x → one (val i j) = true) (hrel : ∀ i j x, cellAt es i j = some x → TRel w Own x (val i j)) : TRel w Own (.ro sz es) (.slice (some ad) es.length c)
  | agg {cs : List AV} {vs : Array Value} (hl : cs.length = vs.size) (h : ∀ i x, cs[i]? = some x → TRel w Own x (vs.getD i undef)) : TRel w Own (.agg cs) (.agg vs)
  | tup {cs : List AV} {vs : Array Value} (hl : cs.length = vs.size) (h : ∀ i x, cs[i]? = some x → TRel w Own x (vs.getD i undef)) : TRel w Own (.tup cs) (.tuple vs)
  | fn {f : FuncId} {cs : List AV} {vs : Array Value} (hl : cs.length = vs.size) (h : ∀ i x, cs[i]? = some x → TRel w Own x (vs.getD i undef)) : TRel w Own (.fn f cs) (.func (.func f) #[] vs)
theorem cell_lt {w : World} {a : Addr} {v : Value} (h : w.cell? a = some v) : a.block < w.heap.size := World.block_lt_of_cell? w a h
theorem add_blk (a : Addr) (i : Nat) : (a.add i).block = a.block := by unfold Addr.add; split <;> rfl
structure Keeps (w w' : World) (Own Own' : Nat → Prop) : Prop where
  size : w.heap.size ≤ w'.heap.size
  same : ∀ k, k < w.heap.size → ¬ Own k → w'.heap[k]? = w.heap[k]?
  own : ∀ k, k < w.heap.size → Own' k → Own k
theorem Keeps.cell {w w' : World} {Own Own' : Nat → Prop} (h : Keeps w w' Own Own') {a : Addr} {v : Value} (hc : w.cell? a = some v) (ho : ¬ Own a.block) : w'.cell? a = some v :=
  (World.cell?_of_block (w := w) (h.same a.block (cell_lt hc) ho)).trans hc
theorem exists_cell {sz : Nat} {es : List (List AV)} (hs : 0 < sz) (hlen : ∀ e ∈ es, e.length = sz) (hne : es ≠ []) : ∃ x, cellAt es 0 0 = some x := by
  cases es with
  | nil => exact absurd rfl hne
  | cons e r =>
    have h1 := hlen e List.mem_cons_self
    cases e with
    | nil => simp at h1; omega
    | cons x _ => exact ⟨x, rfl⟩
theorem TRel.keep {w w' : World} {Own Own' : Nat → Prop} (hk : Keeps w w' Own Own') {x : AV} {v : Value} (h : TRel w Own x v) : TRel w' Own' x v := by
  induction h with
  | lit h => exact .lit h
  | nils => exact .nils
  | ronil => exact .ronil
  | ro val hc hs hlen hblk hne hcell hone hrel ih =>
    obtain ⟨x0, h0⟩ := exists_cell hs hlen hne
    have hlt := cell_lt (hcell 0 0 x0 h0)
    rw [add_blk] at hlt
    exact .ro val hc hs hlen (fun ho => hblk (hk.own _ hlt ho)) hne (fun i j x hx => hk.cell (hcell i j x hx) (by rw [add_blk]; exact hblk)) hone ih
  | agg hl _ ih => exact .agg hl ih
  | tup hl _ ih => exact .tup hl ih
  | fn hl _ ih => exact .fn hl ih
inductive Blk where
  | arr (ty sz : Nat) (es : List (List AV))
  | obj (ty : Nat) (cs : List AV)
  | map (es : List (AV × AV))   -- nothing in it leads to blocks of the call's own
abbrev Mem := List (Nat × Blk)
abbrev Slots := List (Nat × AV)
structure St where
  slots : Slots
  mem : Mem
  fixed : List Nat := []   -- blocks that stay where they are
def look {α : Type} : List (Nat × α) → Nat → Option α
  | [], _ => none
  | (k, v) :: r, d => if k = d then some v else look r d
def drop {α : Type} : List (Nat × α) → Nat → List (Nat × α)
  | [], _ => []
  | (k, v) :: r, d => if k = d then drop r d else (k, v) :: drop r d
def upd {α : Type} : List (Nat × α) → Nat → α → List (Nat × α)
  | [], d, x => [(d, x)]
  | (k, v) :: r, d, x => if k = d then (k, x) :: drop r d else (k, v) :: upd r d x
theorem look_drop {α : Type} (l : List (Nat × α)) (d k : Nat) : look (drop l d) k = if k = d then none else look l k := by
  induction l with
  | nil => simp [drop, look]
  | cons p r ih =>
    obtain ⟨q, v⟩ := p
    simp only [drop]
    by_cases hq : q = d
    · subst hq
      rw [if_pos rfl, ih]
      by_cases hk : k = q
      · simp [hk]
      · rw [if_neg hk, if_neg hk]; simp [look, Ne.symm hk]
    · rw [if_neg hq]
      by_cases hk : k = d
      · subst hk; simp [look, hq, ih]
      · simp only [look]; by_cases hqk : q = k
        · simp [hqk, hk]
        · simp [hqk, ih, hk]
theorem look_upd {α : Type} (l : List (Nat × α)) (d k : Nat) (x : α) : look (upd l d x) k = if k = d then some x else look l k := by
  induction l with
  | nil => simp [upd, look, eq_comm]
  | cons p r ih =>
    obtain ⟨q, v⟩ := p
    simp only [upd]
    by_cases hq : q = d
    · subst hq
      rw [if_pos rfl]
      by_cases hk : k = q
      · simp [hk, look]
      · rw [if_neg hk]; simp [look, Ne.symm hk, look_drop, hk]
    · rw [if_neg hq]
      by_cases hk : k = d
      · subst hk; simp [look, hq, ih]
      · simp only [look]; by_cases hqk : q = k
        · simp [hqk]; exact fun h => absurd h hk
        · simp [hqk, ih, hk]
abbrev Map := Nat → Option (Nat × Nat)
def OwnBy (A : Nat → Prop) (ρ : Map) (k : Nat) : Prop := A k ∨ ∃ b o, ρ b = some (k, o)
inductive VRel (w : World) (Own : Nat → Prop) (ρ : Map) : AV → Value → Prop
  | tree {x : AV} {v : Value} (h : TRel w Own x v) : VRel w Own ρ x v
  | agg {cs : List AV} {vs : Array Value} (hl : cs.length = vs.size) (h : ∀ i x, cs[i]? = some x → VRel w Own ρ x (vs.getD i undef)) : VRel w Own ρ (.agg cs) (.agg vs)
  | tup {cs : List AV} {vs : Array Value} (hl : cs.length = vs.size) (h : ∀ i x, cs[i]? = some x → VRel w Own ρ x (vs.getD i undef)) : VRel w Own ρ (.tup cs) (.tuple vs)
  | fn {f : FuncId} {cs : List AV} {vs : Array Value} (hl : cs.length = vs.size) (h : ∀ i x, cs[i]? = some x → VRel w Own ρ x (vs.getD i undef)) : VRel w Own ρ (.fn f cs) (.func (.func f) #[] vs)
  | rop {sz : Nat} {es : List (List AV)} {i0 j0 : Nat} {ad : Addr} (val : Nat → Nat → Value) (hs : 0 < sz) (hlen : ∀ e ∈ es, e.length = sz) (hblk : ¬ Own ad.block) (hi : i0 < es.length) (hj : j0 < sz)
      (hcell : ∀ i j x, cellAt es i j = some x → w.cell? (ad.add (i * sz + j)) = some (val i j)) (hone : ∀ i j x, cellAt es i j = some x → one (val i j) = true) (hrel : ∀ i j x, cellAt es i j = some x → TRel w Own x (val i j)) : VRel w Own ρ (.rop sz es i0 j0) (.pointer (some (ad.add (i0 * sz + j0))))
  | ownnil {b sz : Nat} : VRel w Own ρ (.own b sz 0 0) (.slice none 0 0)
  | ownz {b sz lo o : Nat} {ad : Addr} (h : ρ b = some (ad.block, o)) : VRel w Own ρ (.own b sz lo 0) (.slice (some ad) 0 0)
  | own {b sz lo n k o cap : Nat} (h : ρ b = some (k, o)) (hn : n ≤ cap) (hroom : ∀ cur ty fr, w.heap[k]? = some (.cells cur ty fr) → o + (lo + cap) * sz ≤ cur.size) : VRel w Own ρ (.own b sz lo n) (.slice (some ⟨k, o + lo * sz, none⟩) n cap)
  | ownc {b sz lo n k o cap : Nat} (h : ρ b = some (k, o)) (hn : n ≤ cap) (hroom : ∀ cur ty fr, w.heap[k]? = some (.cells cur ty fr) → o + (lo + cap) * sz ≤ cur.size) : VRel w Own ρ (.ownc b sz lo n cap) (.slice (some ⟨k, o + lo * sz, none⟩) n cap)
  | ptr {b sz i j k o : Nat} (h : ρ b = some (k, o)) : VRel w Own ρ (.ptr b sz i j) (.pointer (some ⟨k, o + (i * sz + j), none⟩))
  | mapr {b k : Nat} (h : ρ b = some (k, 0)) : VRel w Own ρ (.mapr b) (.map (some k))
  | dead {v : Value} : VRel w Own ρ .dead v
mutual
def refsIn (S : Nat → Prop) : AV → Prop
  | .agg cs => refsInL S cs
  | .tup cs => refsInL S cs
  | .fn _ cs => refsInL S cs
  | .own b _ _ _ => S b
  | .ownc b _ _ _ _ => S b
  | .ptr b _ _ _ => S b
  | .mapr b => S b
  | _ => True
def refsInL (S : Nat → Prop) : List AV → Prop
  | [] => True
  | x :: r => refsIn S x ∧ refsInL S r
end
mutual
def kill (b : Nat) : AV → AV
  | .agg cs => .agg (killL b cs)
  | .tup cs => .tup (killL b cs)
  | .fn f cs => .fn f (killL b cs)
  | .own b' sz lo n => if b' = b then .dead else .own b' sz lo n
  | .ownc b' sz lo n cap => if b' = b then .dead else .ownc b' sz lo n cap
  | .ptr b' sz i j => if b' = b then .dead else .ptr b' sz i j
  | .mapr b' => if b' = b then .dead else .mapr b'
  | x => x
def killL (b : Nat) : List AV → List AV
  | [] => []
  | x :: r => kill b x :: killL b r
end
theorem refsInL_get {S : Nat → Prop} : ∀ {cs : List AV}, refsInL S cs → ∀ (i : Nat) x, cs[i]? = some x → refsIn S x
  | [], _, i, x, h => by simp at h
  | y :: r, hr, 0, x, h => by simp at h; subst h; exact hr.1
  | y :: r, hr, i + 1, x, h => refsInL_get hr.2 i x (by simpa using h)
theorem killL_get {b : Nat} : ∀ {cs : List AV} (i : Nat), (killL b cs)[i]? = (cs[i]?).map (kill b)
  | [], i => by simp [killL]
  | y :: r, 0 => by simp [killL]
  | y :: r, i + 1 => by simpa [killL] using killL_get (cs := r) i
theorem killL_length {b : Nat} : ∀ (cs : List AV), (killL b cs).length = cs.length
  | [] => rfl
  | _ :: r => by simp [killL, killL_length r]
mutual
theorem refs_kill (b : Nat) : ∀ x, refsIn (fun k => k ≠ b) (kill b x)
  | .agg cs => by simp only [kill, refsIn]; exact refs_killL b cs
  | .tup cs => by simp only [kill, refsIn]; exact refs_killL b cs
  | .fn f cs => by simp only [kill, refsIn]; exact refs_killL b cs
  | .own b' sz lo n => by
    by_cases h : b' = b <;> simp [kill, h, refsIn]
  | .ownc b' sz lo n cap => by
    by_cases h : b' = b <;> simp [kill, h, refsIn]
  | .ptr b' sz i j => by
    by_cases h : b' = b <;> simp [kill, h, refsIn]
  | .mapr b' => by
    by_cases h : b' = b <;> simp [kill, h, refsIn]
  | .lit _ => trivial
  | .nils _ => trivial
  | .ro _ _ => trivial
  | .rop _ _ _ _ => trivial
  | .dead => trivial
theorem refs_killL (b : Nat) : ∀ cs, refsInL (fun k => k ≠ b) (killL b cs)
  | [] => trivial
  | x :: r => ⟨refs_kill b x, refs_killL b r⟩
end
structure KeepsV (w w' : World) (Own Own' : Nat → Prop) (ρ ρ' : Map) (S : Nat → Prop) : Prop extends Keeps w w' Own Own' where
  map : ∀ b, S b → ∀ k o, ρ b = some (k, o) → ρ' b = some (k, o)
  rows : ∀ k cur ty fr, k < w.heap.size → w'.heap[k]? = some (.cells cur ty fr) → ∃ cur0 ty0 fr0, w.heap[k]? = some (.cells cur0 ty0 fr0) ∧ cur0.size = cur.size
  lt : ∀ b k o, ρ b = some (k, o) → k < w.heap.size
theorem VRel.keep {w w' : World} {Own Own' : Nat → Prop} {ρ ρ' : Map} {S : Nat → Prop} (hk : KeepsV w w' Own Own' ρ ρ' S) {x : AV} {v : Value} (h : VRel w Own ρ x v) (hr : refsIn S x) : VRel w' Own' ρ' x v := by
  induction h with
  | tree h => exact .tree (h.keep hk.toKeeps)
  | agg hl _ ih => exact .agg hl (fun i x hx => ih i x hx (refsInL_get (by simpa [refsIn] using hr) i x hx))
  | tup hl _ ih => exact .tup hl (fun i x hx => ih i x hx (refsInL_get (by simpa [refsIn] using hr) i x hx))
  | fn hl _ ih => exact .fn hl (fun i x hx => ih i x hx (refsInL_get (by simpa [refsIn] using hr) i x hx))
  | @rop sz es i0 j0 ad val hs hlen hblk hi hj hcell hone hrel =>
    have hne : es ≠ [] := by intro h; subst h; simp at hi
    obtain ⟨x0, h0⟩ := exists_cell hs hlen hne
    have hlt := cell_lt (hcell 0 0 x0 h0)
    rw [add_blk] at hlt
    exact .rop val hs hlen (fun ho => hblk (hk.own _ hlt ho)) hi hj (fun i j x hx => hk.toKeeps.cell (hcell i j x hx) (by rw [add_blk]; exact hblk)) hone (fun i j x hx => (hrel i j x hx).keep hk.toKeeps)
  | ownnil => exact .ownnil
  | ownz h => exact .ownz (hk.map _ (by simpa [refsIn] using hr) _ _ h)
  | own h hn hroom =>
    refine .own (hk.map _ (by simpa [refsIn] using hr) _ _ h) hn (fun cur ty fr hh => ?_)
    obtain ⟨cur0, ty0, fr0, h0, hsz⟩ := hk.rows _ cur ty fr (hk.lt _ _ _ h) hh
    rw [← hsz]
    exact hroom _ _ _ h0
  | ownc h hn hroom =>
    refine .ownc (hk.map _ (by simpa [refsIn] using hr) _ _ h) hn (fun cur ty fr hh => ?_)
    obtain ⟨cur0, ty0, fr0, h0, hsz⟩ := hk.rows _ cur ty fr (hk.lt _ _ _ h) hh
    rw [← hsz]
    exact hroom _ _ _ h0
  | ptr h => exact .ptr (hk.map _ (by simpa [refsIn] using hr) _ _ h)
  | mapr h => exact .mapr (hk.map _ (by simpa [refsIn] using hr) _ _ h)
  | dead => exact .dead
theorem TRel.kill {w : World} {Own : Nat → Prop} {x : AV} {v : Value} (b : Nat) (h : TRel w Own x v) : TRel w Own (kill b x) v := by
  induction h with
  | lit h => simpa [SX.kill] using .lit h
  | nils => simpa [SX.kill] using .nils
  | ronil => simpa [SX.kill] using .ronil
  | ro val hc hs hlen hblk hne hcell hone hrel _ => simpa [SX.kill] using .ro val hc hs hlen hblk hne hcell hone hrel
  | agg hl _ ih => simp only [SX.kill]; exact .agg (by rw [killL_length]; exact hl) (fun i x hx => by rw [killL_get] at hx; obtain ⟨y, hy, rfl⟩ := Option.map_eq_some_iff.1 hx; exact ih i y hy)
  | tup hl _ ih => simp only [SX.kill]; exact .tup (by rw [killL_length]; exact hl) (fun i x hx => by rw [killL_get] at hx; obtain ⟨y, hy, rfl⟩ := Option.map_eq_some_iff.1 hx; exact ih i y hy)
  | fn hl _ ih => simp only [SX.kill]; exact .fn (by rw [killL_length]; exact hl) (fun i x hx => by rw [killL_get] at hx; obtain ⟨y, hy, rfl⟩ := Option.map_eq_some_iff.1 hx; exact ih i y hy)
theorem VRel.kill {w : World} {Own : Nat → Prop} {ρ : Map} {x : AV} {v : Value} (b : Nat) (h : VRel w Own ρ x v) : VRel w Own ρ (kill b x) v := by
  induction h with
  | tree h => exact .tree (h.kill b)
  | agg hl _ ih => simp only [SX.kill]; exact .agg (by rw [killL_length]; exact hl) (fun i x hx => by rw [killL_get] at hx; obtain ⟨y, hy, rfl⟩ := Option.map_eq_some_iff.1 hx; exact ih i y hy)
  | tup hl _ ih => simp only [SX.kill]; exact .tup (by rw [killL_length]; exact hl) (fun i x hx => by rw [killL_get] at hx; obtain ⟨y, hy, rfl⟩ := Option.map_eq_some_iff.1 hx; exact ih i y hy)
  | fn hl _ ih => simp only [SX.kill]; exact .fn (by rw [killL_length]; exact hl) (fun i x hx => by rw [killL_get] at hx; obtain ⟨y, hy, rfl⟩ := Option.map_eq_some_iff.1 hx; exact ih i y hy)
  | rop val hs hlen hblk hi hj hcell hone hrel => simpa [SX.kill] using .rop val hs hlen hblk hi hj hcell hone hrel
  | ownnil => simp only [SX.kill]; split; exact .dead; exact .ownnil
  | ownz h => simp only [SX.kill]; split; exact .dead; exact .ownz h
  | @own b' sz lo n k o cap h hn hroom => simp only [SX.kill]; split; exact .dead; exact .own h hn hroom
  | @ownc b' sz lo n k o cap h hn hroom => simp only [SX.kill]; split; exact .dead; exact .ownc h hn hroom
  | @ptr b' sz i j k o h => simp only [SX.kill]; split; exact .dead; exact .ptr h
  | @mapr b' k h => simp only [SX.kill]; split; exact .dead; exact .mapr h
  | dead => simpa [SX.kill] using .dead
def BRel (w : World) (Own : Nat → Prop) (ρ : Map) (b : Nat) : Blk → Prop
  | .arr ty sz es => match ρ b with
    | none => es = []
    | some (k, o) => ∃ cur, w.heap[k]? = some (.cells cur ty (0, 0)) ∧ (∀ e ∈ es, e.length = sz) ∧ o + es.length * sz ≤ cur.size ∧
        ∀ i j x, cellAt es i j = some x → ∃ v, cur[o + (i * sz + j)]? = some v ∧ one v = true ∧ TRel w Own x v
  | .obj ty cs => ∃ k cur, ρ b = some (k, 0) ∧ w.heap[k]? = some (.cells cur ty (0, 0)) ∧ cur.size = cs.length ∧ ∀ (j : Nat) x, cs[j]? = some x → ∃ v, cur[j]? = some v ∧ one v = true ∧ VRel w Own ρ x v
  | .map es => ∃ k es' clock, ρ b = some (k, 0) ∧ w.heap[k]? = some (.map es' clock) ∧ es'.size = es.length ∧ ∀ (i : Nat) p, es[i]? = some p → ∃ e, es'[i]? = some e ∧ TRel w Own p.1 e.key ∧ TRel w Own p.2 e.val
structure OutLe (w' w : World) : Prop where
  eq : w'.output = w.output
  drawn : w.drawn ≤ w'.drawn
theorem OutLe.refl (w : World) : OutLe w w := ⟨rfl, Nat.le_refl _⟩
theorem OutLe.trans {a b d : World} (h : OutLe a b) (h' : OutLe b d) : OutLe a d := ⟨h.eq.trans h'.eq, Nat.le_trans h'.drawn h.drawn⟩
structure Ctx where
  w0 : World
  A : Nat → Prop     -- blocks that no tree leads to
  B : Nat → Prop     -- blocks that callers may write
  ρ0 : Map           -- where it found the blocks that it was handed
  F : Nat → Prop     -- blocks that this activation was handed to write
  sub : ∀ k, B k → A k
  tab : theTab.p w0
  tabF : ∀ q, theTab.k q → ¬ F q
  defs : List Deferred
structure Conc (c : Ctx) (st : St) (ρ : Map) (a : Act) (w : World) : Prop where
  slots : ∀ d x, look st.slots d = some x → VRel w (OwnBy c.A ρ) ρ x (a.tmps.getD d undef)
  defers : a.defers = c.defs
  mem : ∀ b blk, look st.mem b = some blk → BRel w (OwnBy c.A ρ) ρ b blk
  dom : ∀ b k o, ρ b = some (k, o) → ∃ blk, look st.mem b = some blk
  lt : ∀ b k o, ρ b = some (k, o) → k < w.heap.size
  inj : ∀ b b' k o o', ρ b = some (k, o) → ρ b' = some (k, o') → b = b'
  mine : ∀ b k o, ρ b = some (k, o) → c.F k ∨ c.w0.heap.size ≤ k
  far : ∀ b k o, ρ b = some (k, o) → ¬ c.B k
  fix : ∀ b ∈ st.fixed, ρ b = c.ρ0 b
  alt : ∀ k, c.B k → k < c.w0.heap.size
  os : w.os = c.w0.os
  tape : w.tape = c.w0.tape
  output : OutLe w c.w0
  size : c.w0.heap.size ≤ w.heap.size
  frame : ∀ k, k < c.w0.heap.size → ¬ c.F k → w.heap[k]? = c.w0.heap[k]?
  rows : ∀ k cur ty fr, k < c.w0.heap.size → w.heap[k]? = some (.cells cur ty fr) → ∃ cur0 ty0 fr0, c.w0.heap[k]? = some (.cells cur0 ty0 fr0) ∧ cur0.size = cur.size
theorem Conc.tab {c : Ctx} {st : St} {ρ : Map} {a : Act} {w : World} (h : Conc c st ρ a w) : theTab.p w :=
  theTab.stab c.w0 w (fun q hq => h.frame q (theTab.lt _ c.tab q hq) (c.tabF q hq)) c.tab
theorem Conc.tabρ {c : Ctx} {st : St} {ρ : Map} {a : Act} {w : World} (h : Conc c st ρ a w) (q : Nat) (hq : theTab.k q) (b o : Nat) : ρ b ≠ some (q, o) := fun hb => by
  rcases h.mine _ _ _ hb with h0 | h0
  · exact c.tabF q hq h0
  · have := theTab.lt _ c.tab q hq; omega
def TabOK (ρ : Map) (w : World) : Prop := theTab.p w ∧ ∀ q, theTab.k q → ∀ b o, ρ b ≠ some (q, o)
theorem Conc.tabOK {c : Ctx} {st : St} {ρ : Map} {a : Act} {w : World} (h : Conc c st ρ a w) : TabOK ρ w := ⟨h.tab, h.tabρ⟩
theorem Conc.rows' {c : Ctx} {st : St} {ρ : Map} {a : Act} {w w' : World} (h : Conc c st ρ a w) {Own Own' : Nat → Prop} {ρ1 ρ2 : Map} {S : Nat → Prop} (hk : KeepsV w w' Own Own' ρ1 ρ2 S) :
    ∀ k cur ty fr, k < c.w0.heap.size → w'.heap[k]? = some (.cells cur ty fr) → ∃ cur0 ty0 fr0, c.w0.heap[k]? = some (.cells cur0 ty0 fr0) ∧ cur0.size = cur.size := by
  intro k cur ty fr hlt hh
  obtain ⟨c2, t2, f2, h2, e2⟩ := hk.rows k cur ty fr (Nat.lt_of_lt_of_le hlt h.size) hh
  obtain ⟨c3, t3, f3, h3, e3⟩ := h.rows k c2 t2 f2 hlt h2
  exact ⟨c3, t3, f3, h3, e3.trans e2⟩
mutual
theorem refs_all : ∀ x, refsIn (fun _ => True) x
  | .agg cs => by simp only [refsIn]; exact refs_allL cs
  | .tup cs => by simp only [refsIn]; exact refs_allL cs
  | .fn f cs => by simp only [refsIn]; exact refs_allL cs
  | .own b' sz lo n => by simp [refsIn]
  | .ownc b' sz lo n cap => by simp [refsIn]
  | .ptr b' sz i j => by simp [refsIn]
  | .mapr b' => by simp [refsIn]
  | .lit _ => trivial
  | .nils _ => trivial
  | .ro _ _ => trivial
  | .rop _ _ _ _ => trivial
  | .dead => trivial
theorem refs_allL : ∀ cs, refsInL (fun _ => True) cs
  | [] => trivial
  | x :: r => ⟨refs_all x, refs_allL r⟩
end
theorem VRel.lit_inv {w : World} {Own : Nat → Prop} {ρ : Map} {x v : Value} (h : VRel w Own ρ (.lit v) x) : x = v ∧ flat v = true := by
  cases h with
  | tree h => cases h with
    | lit h => exact ⟨rfl, h⟩
theorem KeepsV.eq {w w' : World} {Own : Nat → Prop} {ρ : Map} (h : w'.heap = w.heap) (lt : ∀ b k o, ρ b = some (k, o) → k < w.heap.size) : KeepsV w w' Own Own ρ ρ (fun _ => True) where
  size := by rw [h]; exact Nat.le_refl _
  same k _ _ := by rw [h]
  own k _ hk := hk
  map b _ k o hb := hb
  rows k cur ty fr _ hh := ⟨cur, ty, fr, by rwa [h] at hh, rfl⟩
  lt := lt
theorem BRel.keep {w w' : World} {Own Own' : Nat → Prop} {ρ ρ' : Map} {S : Nat → Prop} (hk : KeepsV w w' Own Own' ρ ρ' S) {b : Nat} {blk : Blk} (h : BRel w Own ρ b blk) (hρ : ρ' b = ρ b)
    (hb : ∀ k o, ρ b = some (k, o) → w'.heap[k]? = w.heap[k]?) (hr : ∀ ty cs, blk = .obj ty cs → refsInL S cs) : BRel w' Own' ρ' b blk := by
  cases blk with
  | arr ty sz es =>
    simp only [BRel] at h ⊢
    rw [hρ]
    cases hb' : ρ b with
    | none => rw [hb'] at h; exact h
    | some p =>
      obtain ⟨k, o⟩ := p
      rw [hb'] at h
      obtain ⟨cur, h1, h2, h3, h4⟩ := h
      exact ⟨cur, (hb k o hb').trans h1, h2, h3, fun i j x hx => by
        obtain ⟨v, hv, h1v, ht⟩ := h4 i j x hx
        exact ⟨v, hv, h1v, ht.keep hk.toKeeps⟩⟩
  | obj ty cs =>
    obtain ⟨k, cur, h0, h1, h2, h3⟩ := h
    refine ⟨k, cur, hρ.trans h0, (hb k 0 h0).trans h1, h2, fun j x hx => ?_⟩
    obtain ⟨v, hv, h1v, ht⟩ := h3 j x hx
    exact ⟨v, hv, h1v, ht.keep hk (refsInL_get (hr ty cs rfl) j x hx)⟩
  | map es =>
    obtain ⟨k, es', clock, h0, h1, h2, h3⟩ := h
    refine ⟨k, es', clock, hρ.trans h0, (hb k 0 h0).trans h1, h2, fun i p hp => ?_⟩
    obtain ⟨e, he, hk1, ht⟩ := h3 i p hp
    exact ⟨e, he, hk1.keep hk.toKeeps, ht.keep hk.toKeeps⟩
def St.put (st : St) (d : Nat) (x : AV) : St := { st with slots := upd st.slots d x }
theorem tmps_put (a : Act) (d : Nat) (v : Value) : (a.put (some d) v).tmps = a.tmps.setIfInBounds d v := rfl
theorem Conc.put {c : Ctx} {st : St} {ρ : Map} {a : Act} {w : World} (h : Conc c st ρ a w) {d : Nat} (hd : d < a.tmps.size) {x : AV} {v : Value} (hx : VRel w (OwnBy c.A ρ) ρ x v) : Conc c (st.put d x) ρ (a.put (some d) v) w where
  slots d' x' h' := by
    simp only [St.put, look_upd] at h'
    rw [tmps_put]
    by_cases e : d' = d
    · subst e
      rw [if_pos rfl] at h'
      injection h' with h'
      subst h'
      have e2 : (a.tmps.setIfInBounds d' v).getD d' undef = v := by simp [hd]
      rw [e2]; exact hx
    · rw [if_neg e] at h'
      have := h.slots d' x' h'
      have e2 : (a.tmps.setIfInBounds d v).getD d' undef = a.tmps.getD d' undef := by
        simp [Array.getD_eq_getD_getElem?, Ne.symm e]
      rwa [e2]
  defers := h.defers
  mem := h.mem
  dom := h.dom
  lt := h.lt
  inj := h.inj
  mine := h.mine
  far := h.far
  fix := h.fix
  alt := h.alt
  os := h.os
  tape := h.tape
  output := h.output
  size := h.size
  frame := h.frame
  rows := h.rows
theorem Conc.world {c : Ctx} {st : St} {ρ : Map} {a : Act} {w w' : World} (h : Conc c st ρ a w) (e : w'.heap = w.heap) (e1 : w'.os = w.os) (e2 : w'.tape = w.tape) (e3 : OutLe w' w) : Conc c st ρ a w' := by
  have hk : KeepsV w w' (OwnBy c.A ρ) (OwnBy c.A ρ) ρ ρ (fun _ => True) := .eq e h.lt
  exact { slots := fun d x hx => (h.slots d x hx).keep hk (refs_all x), defers := h.defers, mem := fun b blk hb => (h.mem b blk hb).keep hk rfl (fun k o _ => by rw [e]) (fun _ cs _ => refs_allL cs), dom := h.dom, lt := fun b k o hb => by rw [e]; exact h.lt b k o hb, inj := h.inj, mine := h.mine, far := h.far, fix := h.fix, alt := h.alt, os := e1.trans h.os, tape := e2.trans h.tape, output := e3.trans h.output, size := by rw [e]; exact h.size, frame := fun k hk hf => by rw [e]; exact h.frame k hk hf, rows := fun k cur ty fr hk hh => h.rows k cur ty fr hk (by rwa [e] at hh) }
theorem Conc.less {c : Ctx} {st : St} {ρ : Map} {a : Act} {w : World} (h : Conc c st ρ a w) (s : Slots) (hs : ∀ d x, look s d = some x → look st.slots d = some x) : Conc c { st with slots := s } ρ a w :=
  { slots := fun d x hx => h.slots d x (hs d x hx), defers := h.defers, mem := h.mem, dom := h.dom, lt := h.lt, inj := h.inj, mine := h.mine, far := h.far, fix := h.fix, alt := h.alt, os := h.os, tape := h.tape, output := h.output, size := h.size, frame := h.frame, rows := h.rows }
end Go.SX
namespace Go.SX
open Go
inductive Src where
  | s (n : Nat)
  | c (x : AV)
inductive AOp where
  | mov (x : Src)
  | nilck (x : Src)
  | pick (c a b : Src)
  | not (x : Src)
  | iop (op : BinOp) (x y : Src)
  | conv (k : IntKind) (x : Src)
  | faddr (j : Nat) (x : Src)
  | iaddr (sz : Nat) (x i : Src)
  | field (off n : Nat) (g : Bool) (x : Src)
  | build (zero : List AV) (parts : List (Nat × Nat × Src))
  | extract (i : Nat) (x : Src)
  | len (x : Src)
  | slen (x : Src)
  | slice (sz : Nat) (x : Src) (lo hi : Option Src)
  | sslice (x : Src) (lo hi : Option Src)
  | sidx (x i : Src)
  | mkfn (f : FuncId) (caps : List Src)
  | minmax (mx : Bool) (x y : Src)
  | load (n : Nat) (g : Bool) (x : Src)
  | store (n : Nat) (x v : Src)
  | alloc (id ty : Nat) (zero : List AV)
  | box (id ty n : Nat) (x : Src)
  | bslice (id ty sz : Nat) (xs : List Src)
  | mkslice (id ty sz bytes : Nat) (zero : List AV) (n : Src)
  | mkrow (id ty sz bytes : Nat) (zero : List AV) (n : Src)
  | append (id ty sz bytes : Nat) (x y : Src)
  | call (f : FuncId) (xs : List Src)
  | callv (f : Src) (xs : List Src)
  | ext (t : Nat) (ns : List Nat) (xs : List Src)
  | beq (neg : Bool) (x y : Src)
  | seql (neg : Bool) (ks : List Nat) (x y : Src)
def konst : Value → AV → Bool
  | .int k n, .lit (.int k' n') => k == k' && n == n'
  | .bool a, .lit (.bool b) => a == b
  | .string a, .lit (.string b) => a.data == b.data
  | .nilIface, .lit .nilIface => true
  | .nilFunc, .lit .nilFunc => true
  | .pointer none, .lit (.pointer none) => true
  | .map none, .lit (.map none) => true
  | .slice none 0 0, .nils _ => true
  | _, _ => false
theorem konst_ok {w : World} {Own : Nat → Prop} {v : Value} {x : AV} (h : konst v x = true) : TRel w Own x v := by
  unfold konst at h
  split at h <;> first
    | (cases h; done)
    | (simp only [Bool.and_eq_true, beq_iff_eq] at h; obtain ⟨rfl, rfl⟩ := h; exact .lit rfl)
    | (simp only [beq_iff_eq] at h; subst h; exact .lit rfl)
    | (rename_i a b; have h' : a.data = b.data := by simpa using h
       have h2 : a = b := by cases a; cases b; simp only at h'; rw [h']
       subst h2; exact .lit rfl)
    | exact .lit rfl
    | exact .nils
def srcOK : Operand → Src → Bool
  | .tmp t, .s n => t == n
  | .const v, .c x => konst v x
  | .func f, .c (.fn g []) => f == g
  | _, _ => false
def St.src (st : St) : Src → Option AV
  | .s n => look st.slots n
  | .c x => some x
def Srcs (w : World) (Own : Nat → Prop) (ρ : Map) (g : Src → Option AV) (e : Operand → Value) : Prop := ∀ y s x, srcOK y s = true → g s = some x → VRel w Own ρ x (e y)
theorem Conc.srcs {c : Ctx} {st : St} {ρ : Map} {a : Act} {w : World} (h : Conc c st ρ a w) : Srcs w (OwnBy c.A ρ) ρ st.src a.eval := by
  intro y s x hs hx
  cases y <;> cases s <;> simp only [srcOK] at hs <;> first | (cases hs; done) | skip
  · simp only [beq_iff_eq] at hs; subst hs
    exact h.slots _ _ hx
  · simp only [St.src, Option.some.injEq] at hx; subst hx
    exact .tree (konst_ok hs)
  · rename_i f x'
    simp only [St.src, Option.some.injEq] at hx; subst hx
    split at hs
    · rename_i heq; cases heq
    · rename_i heq1 heq2; cases heq1
    · rename_i heq1 heq2; cases heq1; cases heq2
      simp only [beq_iff_eq] at hs; subst hs
      exact .tree (.fn rfl (fun i x hx => by simp at hx))
    · cases hs
def mkv (g : Bool) (cs : List AV) : Option AV := if g then some (.agg cs) else match cs with | [x] => some x | _ => none
def ibin (op : BinOp) (k : IntKind) (a b : Int) : Option AV :=
  match op with
  | .add => some (.lit (.int k (k.wrap (a + b))))
  | .sub => some (.lit (.int k (k.wrap (a - b))))
  | .mul => some (.lit (.int k (k.wrap (a * b))))
  | .quo => if b = 0 then none else some (.lit (.int k (k.wrap (a.tdiv b))))
  | .rem => if b = 0 then none else some (.lit (.int k (a.tmod b)))
  | .and => some (.lit (.int k (k.wrap (BitVec.ofInt k.bits a &&& BitVec.ofInt k.bits b).toNat)))
  | .or => some (.lit (.int k (k.wrap (BitVec.ofInt k.bits a ||| BitVec.ofInt k.bits b).toNat)))
  | .xor => some (.lit (.int k (k.wrap (BitVec.ofInt k.bits a ^^^ BitVec.ofInt k.bits b).toNat)))
  | .andNot => some (.lit (.int k (k.wrap (BitVec.ofInt k.bits a &&& ~~~BitVec.ofInt k.bits b).toNat)))
  | .eql => some (.lit (.bool (a == b)))
  | .neq => some (.lit (.bool (a != b)))
  | .lss => some (.lit (.bool (decide (a < b))))
  | .leq => some (.lit (.bool (decide (a ≤ b))))
  | .gtr => some (.lit (.bool (decide (a > b))))
  | .geq => some (.lit (.bool (decide (a ≥ b))))
  | _ => none
def sbin (op : BinOp) (a b : ByteArray) : Option AV :=
  match op with
  | .add => if a.size + b.size ≤ 9223372036854775807 then some (.lit (.string (a ++ b))) else none
  | .eql => some (.lit (.bool (a.toList == b.toList)))
  | .neq => some (.lit (.bool !(a.toList == b.toList)))
  | .lss => some (.lit (.bool (Op.bytesLess a.toList b.toList)))
  | _ => none
def bop (op : BinOp) : AV → AV → Option AV
  | .lit (.int k a), .lit (.int k' b) =>
    if op = .shl then (if b < 0 then none else some (.lit (.int k (k.wrap (a * 2 ^ min b.toNat k.bits)))))
    else if op = .shr then (if b < 0 then none else some (.lit (.int k (a.fdiv (2 ^ min b.toNat k.bits)))))
    else if k = k' then ibin op k a b else none
  | .lit (.string a), .lit (.string b) => sbin op a b
  | _, _ => none
def cellsA : AV → Option (List AV)
  | .agg ys => some ys
  | .dead => none
  | y => some [y]
def fillA : List AV → List (Nat × Nat × AV) → Option (List AV)
  | cs, [] => some cs
  | cs, (off, n, x) :: r => match cellsA x with
    | some xs => if xs.length = n ∧ off + n ≤ cs.length then fillA (cs.take off ++ xs ++ cs.drop (off + n)) r else none
    | none => none
def srcsOf (g : Src → Option AV) : List Src → Option (List AV)
  | [] => some []
  | s :: r => match g s, srcsOf g r with
    | some x, some xs => some (x :: xs)
    | _, _ => none
def bound (g : Src → Option AV) (n : Nat) : Option Src → Option Nat
  | none => some n
  | some s => match g s with
    | some (.lit (.int _ i)) => if 0 ≤ i ∧ i ≤ n then some i.toNat else none
    | _ => none
def lowb (g : Src → Option AV) (h : Nat) : Option Src → Option Nat
  | none => some 0
  | some s => bound g h (some s)
def boundc (g : Src → Option AV) (n cap : Nat) : Option Src → Option Nat
  | none => some n
  | some s => bound g cap (some s)
def eqv : Value → Value → Option Bool
  | .int k a, .int k' b => if k = k' then some (a == b) else none
  | .bool a, .bool b => some (a == b)
  | .string a, .string b => some (a.toList == b.toList)
  | _, _ => none
def kindV : Value → Nat
  | .bool _ => 0
  | .int _ _ => 1
  | .string _ => 2
  | _ => 3
def eqA : List Nat → List AV → List AV → Option Bool
  | [], [], [] => some true
  | k :: ks, .lit a :: r, .lit b :: q => if kindV a = k then (match eqv a b, eqA ks r q with
    | some x, some y => some (x && y)
    | _, _ => none) else none
  | _, _, _ => none
def flatF (P : Program) (g : TypeId → Option (List Nat)) : List Field → Nat → Option (List Nat)
  | [], _ => some []
  | f :: r, off => match g f.type with
    | some ks => if f.name ≠ "_" ∧ f.offset = off ∧ P.cellsOf f.type = ks.length ∧ ks.length ≠ 0 then (flatF P g r (off + ks.length)).map (ks ++ ·) else none
    | none => none
def flatT (P : Program) : Nat → TypeId → Option (List Nat)
  | 0, _ => none
  | d + 1, t => match P.underlying t with
    | some .bool => some [0]
    | some (.int _) => some [1]
    | some .string => some [2]
    | some (.struct fs) => if P.stoodInHeld t then none else flatF P (flatT P d) fs.toList 0
    | _ => none
def pv (g : Src → Option AV) : AOp → Option AV
  | .mov x => g x
  | .nilck x => match g x with
    | some (.ptr b sz i j) => some (.ptr b sz i j)
    | some (.rop sz es i j) => some (.rop sz es i j)
    | some (.fn f cs) => some (.fn f cs)
    | _ => none
  | .pick c a b => match g c with
    | some (.lit (.bool t)) => if t = true then g a else g b
    | _ => none
  | .not x => match g x with
    | some (.lit (.bool t)) => some (.lit (.bool !t))
    | _ => none
  | .iop op x y => match g x, g y with
    | some a, some b => bop op a b
    | _, _ => none
  | .beq neg x y => match g x, g y with
    | some (.lit (.bool a)), some (.lit (.bool b)) => some (.lit (.bool ((a == b) != neg)))
    | _, _ => none
  | .seql neg ks x y => match g x, g y with
    | some (.agg xs), some (.agg ys) => (eqA ks xs ys).map fun b => .lit (.bool (b != neg))
    | _, _ => none
  | .conv k x => match g x with
    | some (.lit (.int _ n)) => some (.lit (.int k (k.wrap n)))
    | _ => none
  | .faddr j x => match g x with
    | some (.ptr b sz i j0) => some (.ptr b sz i (j0 + j))
    | some (.rop sz es i j0) => if j0 + j < sz then some (.rop sz es i (j0 + j)) else none
    | _ => none
  | .iaddr sz x i => match g x, g i with
    | some (.ro sz' es), some (.lit (.int _ n)) => if sz = sz' ∧ 0 ≤ n ∧ n < es.length then some (.rop sz es n.toNat 0) else none
    | some (.own b sz' lo m), some (.lit (.int _ n)) => if sz = sz' ∧ 0 ≤ n ∧ n < m then some (.ptr b sz (lo + n.toNat) 0) else none
    | _, _ => none
  | .field off n gg x => match g x with
    | some (.agg cs) => if off + n ≤ cs.length then mkv gg ((cs.drop off).take n) else none
    | _ => none
  | .extract i x => match g x with
    | some (.tup vs) => vs[i]?
    | _ => none
  | .len x => match g x with
    | some (.ro _ es) => some (.lit (.int .i64 es.length))
    | some (.own _ _ _ n) => some (.lit (.int .i64 n))
    | some (.ownc _ _ _ n _) => some (.lit (.int .i64 n))
    | some (.nils _) => some (.lit (.int .i64 0))
    | _ => none
  | .slen x => match g x with
    | some (.lit (.string s)) => some (.lit (.int .i64 s.size))
    | _ => none
  | .sidx x i => match g x, g i with
    | some (.lit (.string s)), some (.lit (.int _ n)) => if h : 0 ≤ n ∧ n.toNat < s.size then some (.lit (.int .u8 (s[n.toNat]'h.2).toNat)) else none
    | _, _ => none
  | .slice sz x lo hi => match g x with
    | some (.ro sz' es) => match bound g es.length hi with
      | some h => match lowb g h lo with
        | some l => if sz = sz' then some (.ro sz ((es.take h).drop l)) else none
        | none => none
      | none => none
    | some (.own b sz' lo0 n) => match bound g n hi with
      | some h => match lowb g h lo with
        | some l => if sz = sz' then some (.own b sz (lo0 + l) (h - l)) else none
        | none => none
      | none => none
    | some (.ownc b sz' lo0 n cap) => match boundc g n cap hi with
      | some h => match lowb g h lo with
        | some l => if sz = sz' then (if l < cap then some (.ownc b sz (lo0 + l) (h - l) (cap - l)) else some (.own b sz (lo0 + l) 0)) else none
        | none => none
      | none => none
    | some (.nils sz') => match bound g 0 hi with
      | some h => match lowb g h lo with
        | some _ => if sz = sz' then some (.nils sz) else none
        | none => none
      | none => none
    | _ => none
  | .sslice x lo hi => match g x with
    | some (.lit (.string s)) => match bound g s.size hi with
      | some h => match lowb g h lo with
        | some l => some (.lit (.string (s.extract l h)))
        | none => none
      | none => none
    | _ => none
  | .mkfn f caps => (srcsOf g caps).map (AV.fn f)
  | .minmax mx x y => match g x, g y with
    | some (.lit (.int k a)), some (.lit (.int k' b)) => if k = k' then some (.lit (.int k (if mx then (if a < b then b else a) else (if b < a then b else a)))) else none
    | _, _ => none
  | .build zero parts => match srcsOf g (parts.map (·.2.2)) with
    | some xs => (fillA zero (List.zipWith (fun p x => (p.1, p.2.1, x)) parts xs)).map AV.agg
    | none => none
  | _ => none
def shape1 (P : Program) (t : TypeId) (n : Nat) (g : Bool) : Bool :=
  match P.underlying t, P.info? t with
  | some d, some i => i.size == n && ((match d with | .struct _ | .array _ _ => true | _ => false) == g)
  | _, _ => false
def fieldAtOK (P : Program) (s : TypeId) (f off : Nat) : Bool :=
  match P.underlying s with
  | some (.struct fs) => match fs[f]? with
    | some fd => fd.offset == off && (match P.info? fd.type with | some i => i.size != 0 | none => false)
    | none => false
  | _ => false
def fieldOK (P : Program) (s : TypeId) (f off n : Nat) (g : Bool) : Bool :=
  match P.underlying s with
  | some (.struct fs) => match fs[f]? with
    | some fd => fd.offset == off && shape1 P fd.type n g
    | none => false
  | _ => false
def sliceOK (P : Program) (t : TypeId) (sz : Nat) : Bool :=
  match P.underlying t with
  | some (.slice e) => (match P.info? e with | some i => i.size == sz && sz != 0 | none => false)
  | _ => false
def isStr (P : Program) (t : TypeId) : Bool := match P.underlying t with | some .string => true | _ => false
def isInt (P : Program) (t : TypeId) (k : IntKind) : Bool := match P.underlying t with | some (.int k') => k == k' | _ => false
def konsts : List Value → List AV → Bool
  | [], [] => true
  | v :: r, x :: q => konst v x && konsts r q
  | _, _ => false
def zeroOK (P : Program) (t : TypeId) (zero : List AV) : Bool :=
  match P.info? t with
  | some i => (match i.zero with | some z => konsts z.cells.toList zero | none => false)
  | none => false
def placesOf (P : Program) (t : TypeId) : Option (Nat → Option (Nat × Nat)) :=
  match P.underlying t with
  | some (.struct fs) => (fs.toList.mapM (fun f => (P.info? f.type).map fun i => (f.offset, i.size))).map fun l => fun i => l.toArray[i]?
  | some (.array _ e) => (P.info? e).map fun i => fun j => some (j * i.size, i.size)
  | _ => none
def partsOK (pl : Nat → Option (Nat × Nat)) : List (Nat × Operand) → List (Nat × Nat × Src) → Bool
  | [], [] => true
  | (i, y) :: r, (off, n, s) :: q => (match pl i with | some (o', n') => o' == off && n' == n | none => false) && srcOK y s && partsOK pl r q
  | _, _ => false
def okOpt : Option Operand → Option Src → Bool
  | none, none => true
  | some y, some s => srcOK y s
  | _, _ => false
def okL : List Operand → List Src → Bool
  | [], [] => true
  | y :: r, s :: q => srcOK y s && okL r q
  | _, _ => false
def chk (P : Program) (o : Oper) : AOp → Bool
  | .mov x => match o.op with
    | .move y => srcOK y x
    | .assign y => srcOK y x
    | _ => false
  | .nilck x => match o.op with | .nilCheck y => srcOK y x | _ => false
  | .pick c a b => match o.op with | .pick c' a' b' => srcOK c' c && srcOK a' a && srcOK b' b | _ => false
  | .not x => match o.op with | .unOp .not _ y => srcOK y x | _ => false
  | .iop op x y => match o.op with | .binOp op' _ x' y' _ => op == op' && srcOK x' x && srcOK y' y | _ => false
  | .beq neg x y => match o.op with | .binOp op' t x' y' _ => op' == (if neg then .neq else .eql) && (match P.underlying t with | some .bool => true | _ => false) && srcOK x' x && srcOK y' y | _ => false
  | .seql neg ks x y => match o.op with | .binOp op' t x' y' _ => op' == (if neg then .neq else .eql) && flatT P 6 t == some ks && (match P.underlying t with | some (.struct _) => true | _ => false) && !(P.eqGuardType P.depth t) && srcOK x' x && srcOK y' y | _ => false
  | .conv k x => match o.op with | .convert s t y => (P.underlying s).isSome && isInt P t k && srcOK y x | _ => false
  | .faddr j x => match o.op with | .fieldAddr s y f => fieldAtOK P s f j && srcOK y x | _ => false
  | .iaddr sz x i => match o.op with | .indexAddr t x' i' => sliceOK P t sz && srcOK x' x && srcOK i' i | _ => false
  | .field off n g x => match o.op with | .field t y f => fieldOK P t f off n g && srcOK y x | _ => false
  | .extract i x => match o.op with | .extract y j => i == j && srcOK y x | _ => false
  | .len x => match o.op with
    | .call c => match c.callee with
      | .builtin .len => (match c.argTypes[0]?, c.args.toList with
        | some t, [y] => (match P.underlying t with | some (.slice _) => true | _ => false) && srcOK y x
        | _, _ => false)
      | _ => false
    | _ => false
  | .slen x => match o.op with
    | .call c => match c.callee with
      | .builtin .len => (match c.argTypes[0]?, c.args.toList with
        | some t, [y] => isStr P t && srcOK y x
        | _, _ => false)
      | _ => false
    | _ => false
  | .slice sz x lo hi => match o.op with | .slice t y l h none => sliceOK P t sz && srcOK y x && okOpt l lo && okOpt h hi | _ => false
  | .sslice x lo hi => match o.op with | .slice t y l h none => isStr P t && srcOK y x && okOpt l lo && okOpt h hi | _ => false
  | .sidx x i => match o.op with | .index t y j => isStr P t && srcOK y x && srcOK j i | _ => false
  | .build zero parts => match o.op with
    | .build t ps => zeroOK P t zero && (match placesOf P t with | some pl => partsOK pl ps.toList parts | none => false)
    | _ => false
  | .mkfn f caps => match o.op with | .makeFunc (.func f') fst cs => fst.toList.isEmpty && f == f' && okL cs.toList caps | _ => false
  | .minmax mx x y => match o.op with
    | .call c => match c.callee with
      | .builtin b => b == (if mx then .max else .min) && (match c.args.toList with | [x', y'] => srcOK x' x && srcOK y' y | _ => false)
      | _ => false
    | _ => false
  | _ => false
def PureOK (P : Program) (o : Oper) (e : Operand → Value) (w : World) (Own : Nat → Prop) (ρ : Map) (x : AV) : Prop := ∃ v, (∀ w', (execOp e o).run P w' = .ok (.value v) w') ∧ VRel w Own ρ x v
def RowAt (w : World) (Own : Nat → Prop) (sz : Nat) (es : List (List AV)) (ad : Addr) : Prop :=
  0 < sz ∧ (∀ e ∈ es, e.length = sz) ∧ ¬ Own ad.block ∧ ∀ i j x, cellAt es i j = some x → ∃ v, w.cell? (ad.add (i * sz + j)) = some v ∧ one v = true ∧ TRel w Own x v
theorem TRel.row {w : World} {Own : Nat → Prop} {sz c : Nat} {es : List (List AV)} {ad : Addr} (h : RowAt w Own sz es ad) (hc : es.length ≤ c) : TRel w Own (.ro sz es) (.slice (some ad) es.length c) := by
  by_cases hne : es = []
  · subst hne; exact .ronil
  · obtain ⟨h1, h2, h3, h4⟩ := h
    refine .ro (fun i j => (w.cell? (ad.add (i * sz + j))).getD undef) hc h1 h2 h3 hne (fun i j x hx => ?_) (fun i j x hx => ?_) (fun i j x hx => ?_)
    · obtain ⟨v, hv, _⟩ := h4 i j x hx
      rw [hv]; rfl
    · obtain ⟨v, hv, ht, _⟩ := h4 i j x hx
      simp only [hv, Option.getD_some]; exact ht
    · obtain ⟨v, hv, _, ht⟩ := h4 i j x hx
      simp only [hv, Option.getD_some]; exact ht
theorem VRel.ro_inv {w : World} {Own : Nat → Prop} {ρ : Map} {sz : Nat} {es : List (List AV)} {v : Value} (h : VRel w Own ρ (.ro sz es) v) :
    ∃ A c, v = .slice A es.length c ∧ es.length ≤ c ∧ (es ≠ [] → ∃ ad, A = some ad ∧ RowAt w Own sz es ad) := by
  cases h with
  | tree h =>
    cases h with
    | ronil => exact ⟨_, _, rfl, Nat.zero_le _, fun h => absurd rfl h⟩
    | ro val hc hs hlen hblk hne hcell hone hrel => exact ⟨_, _, rfl, hc, fun _ => ⟨_, rfl, hs, hlen, hblk, fun i j x hx => ⟨_, hcell i j x hx, hone i j x hx, hrel i j x hx⟩⟩⟩
theorem VRel.agg_inv {w : World} {Own : Nat → Prop} {ρ : Map} {cs : List AV} {v : Value} (h : VRel w Own ρ (.agg cs) v) :
    ∃ vs, v = .agg vs ∧ cs.length = vs.size ∧ ∀ (i : Nat) x, cs[i]? = some x → VRel w Own ρ x (vs.getD i undef) := by
  cases h with
  | tree h => cases h with
    | agg hl h => exact ⟨_, rfl, hl, fun i x hx => .tree (h i x hx)⟩
  | agg hl h => exact ⟨_, rfl, hl, h⟩
theorem VRel.tup_inv {w : World} {Own : Nat → Prop} {ρ : Map} {cs : List AV} {v : Value} (h : VRel w Own ρ (.tup cs) v) :
    ∃ vs, v = .tuple vs ∧ cs.length = vs.size ∧ ∀ (i : Nat) x, cs[i]? = some x → VRel w Own ρ x (vs.getD i undef) := by
  cases h with
  | tree h => cases h with
    | tup hl h => exact ⟨_, rfl, hl, fun i x hx => .tree (h i x hx)⟩
  | tup hl h => exact ⟨_, rfl, hl, h⟩
theorem VRel.own_inv {w : World} {Own : Nat → Prop} {ρ : Map} {b sz lo n : Nat} {v : Value} (h : VRel w Own ρ (.own b sz lo n) v) :
    (v = .slice none 0 0 ∧ lo = 0 ∧ n = 0) ∨ (∃ ad, v = .slice (some ad) 0 0 ∧ n = 0 ∧ ∃ k o, ρ b = some (k, o) ∧ ad.block = k) ∨
    ∃ k o cap, ρ b = some (k, o) ∧ v = .slice (some ⟨k, o + lo * sz, none⟩) n cap ∧ n ≤ cap ∧ (∀ cur ty fr, w.heap[k]? = some (.cells cur ty fr) → o + (lo + cap) * sz ≤ cur.size) := by
  cases h with
  | tree h => cases h
  | ownnil => exact .inl ⟨rfl, rfl, rfl⟩
  | ownz h => exact .inr (.inl ⟨_, rfl, rfl, _, _, h, rfl⟩)
  | own h hn hr => exact .inr (.inr ⟨_, _, _, h, rfl, hn, hr⟩)
theorem VRel.ownc_inv {w : World} {Own : Nat → Prop} {ρ : Map} {b sz lo n cap : Nat} {v : Value} (h : VRel w Own ρ (.ownc b sz lo n cap) v) :
    ∃ k o, ρ b = some (k, o) ∧ v = .slice (some ⟨k, o + lo * sz, none⟩) n cap ∧ n ≤ cap ∧ ∀ cur ty fr, w.heap[k]? = some (.cells cur ty fr) → o + (lo + cap) * sz ≤ cur.size := by
  cases h with
  | tree h => cases h
  | ownc h hn hr => exact ⟨_, _, h, rfl, hn, hr⟩
theorem VRel.own_slice {w : World} {Own : Nat → Prop} {ρ : Map} {b sz lo n : Nat} {v : Value} (h : VRel w Own ρ (.own b sz lo n) v) : ∃ A c, v = .slice A n c ∧ n ≤ c := by
  rcases h.own_inv with ⟨rfl, _, rfl⟩ | ⟨ad, rfl, rfl, _⟩ | ⟨k, o, cap, _, rfl, h, _⟩
  · exact ⟨_, _, rfl, Nat.le_refl _⟩
  · exact ⟨_, _, rfl, Nat.le_refl _⟩
  · exact ⟨_, _, rfl, h⟩
theorem und {P : Program} {t : TypeId} {d : TypeDesc} (h : P.underlying t = some d) (w : World) : (underlying t).run P w = .ok d w := run_underlying h w
theorem Addr.add_add (a : Addr) (i j : Nat) : (a.add i).add j = a.add (i + j) := by
  unfold Addr.add
  by_cases hi : i = 0
  · simp [hi]
  · by_cases hj : j = 0
    · simp [hj]
    · simp [hi, hj, Nat.add_assoc]
theorem add_none (k o n : Nat) : (⟨k, o, none⟩ : Addr).add n = ⟨k, o + n, none⟩ := by unfold Addr.add; split <;> simp_all
section
variable {P : Program} {o : Oper} {e : Operand → Value} {w : World} {Own : Nat → Prop} {ρ : Map} {g : Src → Option AV}
theorem pv_mov (hS : Srcs w Own ρ g e) {x : Src} {r : AV} (hc : chk P o (.mov x) = true) (hp : pv g (.mov x) = some r) : PureOK P o e w Own ρ r := by
  simp only [chk] at hc
  simp only [pv] at hp
  split at hc
  · rename_i y ho
    exact ⟨e y, fun w' => by simp [execOp, ho], hS _ _ _ hc hp⟩
  · rename_i y ho
    exact ⟨e y, fun w' => by simp [execOp, ho], hS _ _ _ hc hp⟩
  · cases hc
theorem pv_nilck (hS : Srcs w Own ρ g e) {x : Src} {r : AV} (hc : chk P o (.nilck x) = true) (hp : pv g (.nilck x) = some r) : PureOK P o e w Own ρ r := by
  simp only [chk] at hc
  simp only [pv] at hp
  split at hc
  · rename_i y ho
    split at hp <;> first | (injection hp with hp; subst hp) | cases hp
    all_goals
      rename_i h
      have := hS _ _ _ hc h
      refine ⟨e y, fun w' => ?_, this⟩
      generalize hv : e y = v at this
    · cases this with
      | tree h => cases h
      | ptr h => simp [execOp, ho, hv]
    · cases this with
      | tree h => cases h
      | rop _ _ _ _ _ _ _ _ _ => simp [execOp, ho, hv]
    · cases this with
      | tree h => cases h with
        | fn _ _ => simp [execOp, ho, hv]
      | fn _ _ => simp [execOp, ho, hv]
  · cases hc
theorem pv_pick (hS : Srcs w Own ρ g e) {c a b : Src} {r : AV} (hc : chk P o (.pick c a b) = true) (hp : pv g (.pick c a b) = some r) : PureOK P o e w Own ρ r := by
  simp only [chk] at hc
  simp only [pv] at hp
  split at hc
  · rename_i c' a' b' ho
    simp only [Bool.and_eq_true] at hc
    split at hp
    · rename_i t h
      obtain ⟨hv, _⟩ := (hS _ _ _ hc.1.1 h).lit_inv
      refine ⟨if t then e a' else e b', fun w' => by simp [execOp, ho, hv, asBool], ?_⟩
      cases t
      · exact hS _ _ _ hc.2 (by simpa using hp)
      · exact hS _ _ _ hc.1.2 (by simpa using hp)
    · cases hp
  · cases hc
theorem pv_not (hS : Srcs w Own ρ g e) {x : Src} {r : AV} (hc : chk P o (.not x) = true) (hp : pv g (.not x) = some r) : PureOK P o e w Own ρ r := by
  simp only [chk] at hc
  simp only [pv] at hp
  split at hc
  · rename_i t y ho
    split at hp
    · rename_i b h
      injection hp with hp; subst hp
      obtain ⟨hv, _⟩ := (hS _ _ _ hc h).lit_inv
      exact ⟨.bool !b, fun w' => by simp [execOp, ho, hv, Op.unary], .tree (.lit rfl)⟩
    · cases hp
  · cases hc
theorem pv_conv (hS : Srcs w Own ρ g e) {k : IntKind} {x : Src} {r : AV} (hc : chk P o (.conv k x) = true) (hp : pv g (.conv k x) = some r) : PureOK P o e w Own ρ r := by
  simp only [chk] at hc
  simp only [pv] at hp
  split at hc
  · rename_i s t y ho
    simp only [Bool.and_eq_true, isInt] at hc
    obtain ⟨⟨h0, h1⟩, h2⟩ := hc
    obtain ⟨d, hd⟩ := Option.isSome_iff_exists.1 h0
    split at h1
    · rename_i k' hu
      simp only [beq_iff_eq] at h1; subst h1
      split at hp
      · rename_i k2 n h
        injection hp with hp; subst hp
        obtain ⟨hv, _⟩ := (hS _ _ _ h2 h).lit_inv
        exact ⟨.int k (k.wrap n), fun w' => by simp [execOp, ho, hv, convert, und hd, und hu, Conv.intToInt], .tree (.lit rfl)⟩
      · cases hp
    · cases h1
  · cases hc
theorem pv_iop (hS : Srcs w Own ρ g e) {op : BinOp} {x y : Src} {r : AV} (hc : chk P o (.iop op x y) = true) (hp : pv g (.iop op x y) = some r) : PureOK P o e w Own ρ r := by
  simp only [chk] at hc
  simp only [pv] at hp
  split at hc
  · rename_i op' t x' y' t' ho
    simp only [Bool.and_eq_true, beq_iff_eq] at hc
    obtain ⟨⟨rfl, hx⟩, hy⟩ := hc
    split at hp
    · rename_i p q hp1 hq1
      have V1 := hS _ _ _ hx hp1
      have V2 := hS _ _ _ hy hq1
      unfold bop at hp
      split at hp
      · rename_i k a k' b
        have e1 := V1.lit_inv.1
        have e2 := V2.lit_inv.1
        have hg : ∀ w', (eqGuard op t x' y' (.int k a) (.int k' b)).run P w' = .ok () w' := by
          intro w'; cases op <;> simp [eqGuard]
        split at hp
        · rename_i hop; subst hop
          split at hp
          · cases hp
          · rename_i hb
            injection hp with hp; subst hp
            exact ⟨_, fun w' => by simp [execOp, ho, e1, e2, hg, binOp, Op.shift, hb] <;> rfl, .tree (.lit rfl)⟩
        · split at hp
          · rename_i _ hop; subst hop
            split at hp
            · cases hp
            · rename_i hb
              injection hp with hp; subst hp
              exact ⟨_, fun w' => by simp [execOp, ho, e1, e2, hg, binOp, Op.shift, hb] <;> rfl, .tree (.lit rfl)⟩
          · rename_i hn1 hn2
            split at hp
            · rename_i hk; subst hk
              cases op <;> simp only [ibin] at hp <;> first
                | (exact absurd rfl hn1)
                | (exact absurd rfl hn2)
                | (split at hp
                   · cases hp
                   · rename_i hb
                     injection hp with hp; subst hp
                     exact ⟨_, fun w' => by simp [execOp, ho, e1, e2, hg, binOp, Op.intDiv, hb] <;> rfl, .tree (.lit rfl)⟩)
                | (injection hp with hp; subst hp
                   exact ⟨_, fun w' => by simp [execOp, ho, e1, e2, hg, binOp, Op.intArith, Op.intBits, Op.intCmp] <;> rfl, .tree (.lit rfl)⟩)
            · cases hp
      · rename_i a b
        have e1 := V1.lit_inv.1
        have e2 := V2.lit_inv.1
        have hg : ∀ w', (eqGuard op t x' y' (.string a) (.string b)).run P w' = .ok () w' := by
          intro w'; cases op <;> simp [eqGuard]
        cases op <;> simp only [sbin] at hp <;> first
          | (cases hp; done)
          | (split at hp
             · rename_i hb
               injection hp with hp; subst hp
               have hb' : ¬ (((a.size + b.size : Nat) : Int) > IntKind.i64.max) := by rw [show IntKind.i64.max = 9223372036854775807 from rfl]; omega
               exact ⟨_, fun w' => by simp only [execOp, ho, e1, e2, hg, binOp, Op.stringOp, hb', if_false, Sem.run_bind, Sem.run_pure, Result.andThen_ok] <;> rfl, .tree (.lit rfl)⟩
             · cases hp)
          | (injection hp with hp; subst hp
             exact ⟨_, fun w' => by simp [execOp, ho, e1, e2, hg, binOp, Op.stringOp] <;> rfl, .tree (.lit rfl)⟩)
      · cases hp
    · cases hp
  · cases hc
theorem pv_beq (hS : Srcs w Own ρ g e) {neg : Bool} {x y : Src} {r : AV} (hc : chk P o (.beq neg x y) = true) (hp : pv g (.beq neg x y) = some r) : PureOK P o e w Own ρ r := by
  simp only [chk] at hc
  simp only [pv] at hp
  split at hc <;> try (cases hc; done)
  rename_i op' t x' y' t' ho
  simp only [Bool.and_eq_true, beq_iff_eq] at hc
  obtain ⟨⟨⟨rfl, ht⟩, hx⟩, hy⟩ := hc
  split at ht <;> try (cases ht; done)
  rename_i hu
  split at hp <;> try (cases hp; done)
  rename_i a b h1 h2
  injection hp with hp; subst hp
  have e1 := (hS _ _ _ hx h1).lit_inv.1
  have e2 := (hS _ _ _ hy h2).lit_inv.1
  refine ⟨_, fun w' => ?_, .tree (.lit rfl)⟩
  have hE : (Op.equal t (.bool a) (.bool b)).run P w' = .ok (a == b) w' := run_equal_bool (P := P) w' t a b hu
  cases neg
  · have hg : (eqGuard .eql t x' y' (.bool a) (.bool b)).run P w' = .ok () w' := rfl
    unfold execOp
    simp [ho, e1, e2, hg, binOp, hE]
  · have hg : (eqGuard .neq t x' y' (.bool a) (.bool b)).run P w' = .ok () w' := rfl
    unfold execOp
    simp [ho, e1, e2, hg, binOp, hE]
theorem pv_extract (hS : Srcs w Own ρ g e) {i : Nat} {x : Src} {r : AV} (hc : chk P o (.extract i x) = true) (hp : pv g (.extract i x) = some r) : PureOK P o e w Own ρ r := by
  simp only [chk] at hc
  simp only [pv] at hp
  split at hc
  · rename_i y j ho
    simp only [Bool.and_eq_true, beq_iff_eq] at hc
    obtain ⟨rfl, hx⟩ := hc
    split at hp
    · rename_i vs h
      obtain ⟨us, hv, hl, hu⟩ := (hS _ _ _ hx h).tup_inv
      have hr := hu _ _ hp
      have hlt : i < us.size := by
        rcases Nat.lt_or_ge i vs.length with h' | h'
        · omega
        · rw [List.getElem?_eq_none h'] at hp; cases hp
      refine ⟨us.getD i undef, fun w' => ?_, hr⟩
      simp [execOp, ho, hv, Instr.extract, hlt]
    · cases hp
  · cases hc
theorem pv_len (hS : Srcs w Own ρ g e) {x : Src} {r : AV} (hc : chk P o (.len x) = true) (hp : pv g (.len x) = some r) : PureOK P o e w Own ρ r := by
  simp only [chk] at hc
  simp only [pv] at hp
  split at hc <;> try (cases hc; done)
  rename_i c ho
  split at hc <;> try (cases hc; done)
  rename_i hcal
  split at hc <;> try (cases hc; done)
  rename_i t y ht hargs
  simp only [Bool.and_eq_true] at hc
  obtain ⟨hty, hy⟩ := hc
  have hargs' : c.args = #[y] := by rw [← Array.toList_inj]; exact hargs
  have hsl : ∀ A n cc, e y = .slice A n cc → (∀ w', (execOp e o).run P w' = .ok (.value (.int .i64 n)) w') := by
    intro A n cc hv w'
    split at hty
    · rename_i el hu
      simp [execOp, ho, resolve, hcal, hargs', hv, invoke, builtin, Builtin.len_, ht, und hu, goInt]
    · cases hty
  split at hp <;> first | (cases hp; done) | (injection hp with hp; subst hp)
  · rename_i h
    obtain ⟨A, c', hv, _⟩ := (hS _ _ _ hy h).ro_inv
    exact ⟨_, hsl _ _ _ hv, .tree (.lit rfl)⟩
  · rename_i h
    obtain ⟨A, c', hv, _⟩ := (hS _ _ _ hy h).own_slice
    exact ⟨_, hsl _ _ _ hv, .tree (.lit rfl)⟩
  · rename_i h
    obtain ⟨k, o', hρ, hv, _⟩ := (hS _ _ _ hy h).ownc_inv
    exact ⟨_, hsl _ _ _ hv, .tree (.lit rfl)⟩
  · rename_i h
    have hv : e y = .slice none 0 0 := by
      have := hS _ _ _ hy h
      generalize e y = v at this
      cases this with
      | tree h => cases h; rfl
    exact ⟨_, hsl _ _ _ hv, .tree (.lit rfl)⟩
theorem isStr_spec {t : TypeId} (h : isStr P t = true) : P.underlying t = some .string := by
  unfold isStr at h
  split at h
  · assumption
  · cases h
theorem sliceOK_spec {t : TypeId} {sz : Nat} (h : sliceOK P t sz = true) : ∃ el i, P.underlying t = some (.slice el) ∧ P.info? el = some i ∧ i.size = sz ∧ 0 < sz := by
  unfold sliceOK at h
  split at h
  · rename_i el hu
    split at h
    · rename_i i hi
      simp only [Bool.and_eq_true, beq_iff_eq, bne_iff_ne] at h
      exact ⟨el, i, hu, hi, h.1, by omega⟩
    · cases h
  · cases h
theorem szOf {el : TypeId} {i : TypeInfo} (h : P.info? el = some i) (w' : World) : (sizeOf el).run P w' = .ok i.size w' := by
  simp [sizeOf, run_typeInfo w' h]
theorem pv_slen (hS : Srcs w Own ρ g e) {x : Src} {r : AV} (hc : chk P o (.slen x) = true) (hp : pv g (.slen x) = some r) : PureOK P o e w Own ρ r := by
  simp only [chk] at hc
  simp only [pv] at hp
  split at hc <;> try (cases hc; done)
  rename_i c ho
  split at hc <;> try (cases hc; done)
  rename_i hcal
  split at hc <;> try (cases hc; done)
  rename_i t y ht hargs
  simp only [Bool.and_eq_true] at hc
  obtain ⟨hty, hy⟩ := hc
  have hargs' : c.args = #[y] := by rw [← Array.toList_inj]; exact hargs
  split at hp <;> first | (cases hp; done) | (injection hp with hp; subst hp)
  rename_i s h
  obtain ⟨hv, _⟩ := (hS _ _ _ hy h).lit_inv
  exact ⟨_, fun w' => by simp [execOp, ho, resolve, hcal, hargs', hv, invoke, builtin, Builtin.len_, ht, und (isStr_spec hty), goInt] <;> rfl, .tree (.lit rfl)⟩
theorem pv_sidx (hS : Srcs w Own ρ g e) {x i : Src} {r : AV} (hc : chk P o (.sidx x i) = true) (hp : pv g (.sidx x i) = some r) : PureOK P o e w Own ρ r := by
  simp only [chk] at hc
  simp only [pv] at hp
  split at hc <;> try (cases hc; done)
  rename_i t y j ho
  simp only [Bool.and_eq_true] at hc
  split at hp <;> try (cases hp; done)
  rename_i s k n h1 h2
  split at hp <;> try (cases hp; done)
  rename_i hb
  injection hp with hp; subst hp
  obtain ⟨hv, _⟩ := (hS _ _ _ hc.1.2 h1).lit_inv
  obtain ⟨hv2, _⟩ := (hS _ _ _ hc.2 h2).lit_inv
  refine ⟨_, fun w' => ?_, .tree (.lit rfl)⟩
  have hget : s[n.toNat]? = some (s[n.toNat]'hb.2) := by simp [hb.2]
  simp [execOp, ho, hv, hv2, Instr.index, asIntOf, und (isStr_spec hc.1.1), hb.1, hget]
theorem bound_run (hS : Srcs w Own ρ g e) {n m : Nat} {y : Operand} {s : Src} {code : BoundsCode} (hy : srcOK y s = true) (hb : bound g n (some s) = some m) (w' : World) : (Instr.sliceBound (e y) n code).run P w' = .ok m w' ∧ m ≤ n := by
  simp only [bound] at hb
  split at hb <;> try (cases hb; done)
  rename_i k i h
  split at hb <;> try (cases hb; done)
  rename_i hi
  injection hb with hb; subst hb
  obtain ⟨hv, _⟩ := (hS _ _ _ hy h).lit_inv
  exact ⟨by simp [Instr.sliceBound, hv, asIntOf, hi], by omega⟩
theorem bounds_run (hS : Srcs w Own ρ g e) {n cap : Nat} (hn : n ≤ cap) {lo hi : Option Src} {l h : Option Operand} (hl : okOpt l lo = true) (hh : okOpt h hi = true) {H L : Nat} (hH : bound g n hi = some H)
    (hL : lowb g H lo = some L) (b : Bool) (w' : World) : (Instr.sliceBounds b n cap (l.map e) (h.map e) none).run P w' = .ok (L, H, cap) w' ∧ L ≤ H ∧ H ≤ n := by
  have h2 : ∀ code : BoundsCode, ((match h.map e with | some v => Instr.sliceBound v cap code | none => pure n : Sem Nat)).run P w' = .ok H w' ∧ H ≤ n := by
    intro code
    cases h with
    | none =>
      cases hi with
      | none => simp only [bound, Option.some.injEq] at hH; subst hH; exact ⟨by simp, Nat.le_refl _⟩
      | some s => simp [okOpt] at hh
    | some y =>
      cases hi with
      | none => simp [okOpt] at hh
      | some s =>
        simp only [okOpt] at hh
        have hH' := hH
        simp only [bound] at hH
        split at hH <;> try (cases hH; done)
        rename_i k i hgi
        split at hH <;> try (cases hH; done)
        rename_i hb
        injection hH with hH; subst hH
        obtain ⟨hv, _⟩ := (hS _ _ _ hh hgi).lit_inv
        have hb2 : 0 ≤ i ∧ i ≤ (cap : Int) := ⟨hb.1, by omega⟩
        exact ⟨by simp [Instr.sliceBound, hv, asIntOf, hb2], by omega⟩
  have h1 : ∀ code : BoundsCode, ((match l.map e with | some v => Instr.sliceBound v H code | none => pure 0 : Sem Nat)).run P w' = .ok L w' ∧ L ≤ H := by
    intro code
    cases l with
    | none =>
      cases lo with
      | none => simp only [lowb, Option.some.injEq] at hL; subst hL; exact ⟨by simp, Nat.zero_le _⟩
      | some s => simp [okOpt] at hl
    | some y =>
      cases lo with
      | none => simp [okOpt] at hl
      | some s =>
        simp only [okOpt] at hl
        simpa using bound_run (P := P) (code := code) hS hl hL w'
  refine ⟨?_, (h1 .sliceB).2, (h2 .sliceAcap).2⟩
  have e2 := (h2 (if b = true then .sliceAcap else .sliceAlen)).1
  have e1 := (h1 .sliceB).1
  cases h <;> cases l <;> simp only [Option.map_none, Option.map_some] at e1 e2
  · simp only [Sem.run_pure, Result.ok.injEq, and_true] at e1 e2; subst e1; subst e2; simp [Instr.sliceBounds]
  · simp only [Sem.run_pure, Result.ok.injEq, and_true] at e2; subst e2; simp [Instr.sliceBounds, e1]
  · simp only [Sem.run_pure, Result.ok.injEq, and_true] at e1; subst e1; simp [Instr.sliceBounds, e2]
  · simp [Instr.sliceBounds, e1, e2]
theorem boundsc_run (hS : Srcs w Own ρ g e) {n cap : Nat} (hn : n ≤ cap) {lo hi : Option Src} {l h : Option Operand} (hl : okOpt l lo = true) (hh : okOpt h hi = true) {H L : Nat} (hH : boundc g n cap hi = some H)
    (hL : lowb g H lo = some L) (w' : World) : (Instr.sliceBounds true n cap (l.map e) (h.map e) none).run P w' = .ok (L, H, cap) w' ∧ L ≤ H ∧ H ≤ cap := by
  have h2 : ∀ code : BoundsCode, ((match h.map e with | some v => Instr.sliceBound v cap code | none => pure n : Sem Nat)).run P w' = .ok H w' ∧ H ≤ cap := by
    intro code
    cases h with
    | none =>
      cases hi with
      | none => simp only [boundc, Option.some.injEq] at hH; subst hH; exact ⟨by simp, hn⟩
      | some s => simp [okOpt] at hh
    | some y =>
      cases hi with
      | none => simp [okOpt] at hh
      | some s =>
        simp only [okOpt] at hh
        simp only [boundc] at hH
        simpa using bound_run (P := P) (code := code) hS hh hH w'
  have h1 : ∀ code : BoundsCode, ((match l.map e with | some v => Instr.sliceBound v H code | none => pure 0 : Sem Nat)).run P w' = .ok L w' ∧ L ≤ H := by
    intro code
    cases l with
    | none =>
      cases lo with
      | none => simp only [lowb, Option.some.injEq] at hL; subst hL; exact ⟨by simp, Nat.zero_le _⟩
      | some s => simp [okOpt] at hl
    | some y =>
      cases lo with
      | none => simp [okOpt] at hl
      | some s =>
        simp only [okOpt] at hl
        simpa using bound_run (P := P) (code := code) hS hl hL w'
  refine ⟨?_, (h1 .sliceB).2, (h2 .sliceAcap).2⟩
  have e2 := (h2 .sliceAcap).1
  have e1 := (h1 .sliceB).1
  cases h <;> cases l <;> simp only [Option.map_none, Option.map_some] at e1 e2
  · simp only [Sem.run_pure, Result.ok.injEq, and_true] at e1 e2; subst e1; subst e2; simp [Instr.sliceBounds]
  · simp only [Sem.run_pure, Result.ok.injEq, and_true] at e2; subst e2; simp [Instr.sliceBounds, e1]
  · simp only [Sem.run_pure, Result.ok.injEq, and_true] at e1; subst e1; simp [Instr.sliceBounds, e2]
  · simp [Instr.sliceBounds, e1, e2]
theorem pv_sslice (hS : Srcs w Own ρ g e) {x : Src} {lo hi : Option Src} {r : AV} (hc : chk P o (.sslice x lo hi) = true) (hp : pv g (.sslice x lo hi) = some r) : PureOK P o e w Own ρ r := by
  simp only [chk] at hc
  simp only [pv] at hp
  split at hc <;> try (cases hc; done)
  rename_i t y l h ho
  simp only [Bool.and_eq_true] at hc
  obtain ⟨⟨⟨h1, h2⟩, h3⟩, h4⟩ := hc
  split at hp <;> try (cases hp; done)
  rename_i s hx
  split at hp <;> try (cases hp; done)
  rename_i H hH
  split at hp <;> try (cases hp; done)
  rename_i L hL
  injection hp with hp; subst hp
  obtain ⟨hv, _⟩ := (hS _ _ _ h2 hx).lit_inv
  refine ⟨_, fun w' => ?_, .tree (.lit rfl)⟩
  obtain ⟨hb, _, _⟩ := bounds_run (P := P) hS (Nat.le_refl s.size) h3 h4 hH hL false w'
  simp [execOp, ho, hv, Instr.sliceAt, Instr.slice, und (isStr_spec h1), hb]
theorem cellAt_cut {es : List (List AV)} {l h i j : Nat} {x : AV} (hx : cellAt ((es.take h).drop l) i j = some x) : cellAt es (l + i) j = some x := by
  unfold cellAt at hx ⊢
  rw [List.getElem?_drop] at hx
  rcases Nat.lt_or_ge (l + i) h with h1 | h1
  · rwa [List.getElem?_take_of_lt h1] at hx
  · rw [List.getElem?_eq_none (by rw [List.length_take]; omega)] at hx; simp at hx
theorem RowAt.cut {sz : Nat} {es : List (List AV)} {ad : Addr} (h : RowAt w Own sz es ad) (l hh : Nat) : RowAt w Own sz ((es.take hh).drop l) (ad.add (l * sz)) := by
  obtain ⟨h1, h2, h3, h4⟩ := h
  refine ⟨h1, fun e he => h2 e (List.mem_of_mem_take (List.mem_of_mem_drop he)), by rw [add_blk]; exact h3, fun i j x hx => ?_⟩
  obtain ⟨v, hv, ht⟩ := h4 _ _ _ (cellAt_cut hx)
  exact ⟨v, by rw [Addr.add_add, ← hv]; congr 2; rw [Nat.add_mul]; omega, ht⟩
theorem pv_slice (hS : Srcs w Own ρ g e) {sz : Nat} {x : Src} {lo hi : Option Src} {r : AV} (hc : chk P o (.slice sz x lo hi) = true) (hp : pv g (.slice sz x lo hi) = some r) : PureOK P o e w Own ρ r := by
  simp only [chk] at hc
  simp only [pv] at hp
  split at hc <;> try (cases hc; done)
  rename_i t y l h ho
  simp only [Bool.and_eq_true] at hc
  obtain ⟨⟨⟨h1, h2⟩, h3⟩, h4⟩ := hc
  obtain ⟨el, ti, hu, hi', hsz, hs0⟩ := sliceOK_spec h1
  have hrun : ∀ A n cap H L, e y = .slice A n cap → n ≤ cap → bound g n hi = some H → lowb g H lo = some L →
      (∀ w', (execOp e o).run P w' = .ok (.value (.slice (if cap = L then A else A.map (·.add (L * sz))) (H - L) (cap - L))) w') ∧ L ≤ H ∧ H ≤ n := by
    intro A n cap H L hv hn hH hL
    refine ⟨fun w' => ?_, (bounds_run (P := P) hS hn h3 h4 hH hL true w).2⟩
    obtain ⟨hb, _, _⟩ := bounds_run (P := P) hS hn h3 h4 hH hL true w'
    simp [execOp, ho, hv, Instr.sliceAt, Instr.slice, und hu, hb, szOf hi', hsz]
  split at hp <;> try (cases hp; done)
  · rename_i sz' es hx
    split at hp <;> try (cases hp; done)
    rename_i H hH
    split at hp <;> try (cases hp; done)
    rename_i L hL
    split at hp <;> try (cases hp; done)
    rename_i hss; subst hss
    injection hp with hp; subst hp
    obtain ⟨A, cap, hv, hcap, hrow⟩ := (hS _ _ _ h2 hx).ro_inv
    obtain ⟨hr, h5, h6⟩ := hrun _ _ _ _ _ hv hcap hH hL
    refine ⟨_, hr, .tree ?_⟩
    have hlen : ((es.take H).drop L).length = H - L := by simp; omega
    by_cases hz : (es.take H).drop L = []
    · rw [hz] at hlen ⊢
      simp only [List.length_nil] at hlen
      rw [← hlen]
      exact .ronil
    · have hpos : 0 < H - L := by
        rcases Nat.eq_zero_or_pos (H - L) with h0 | h0
        · exact absurd (List.eq_nil_of_length_eq_zero (by omega)) hz
        · exact h0
      obtain ⟨ad, rfl, hR⟩ := hrow (by rintro rfl; simp at hz)
      rw [if_neg (by omega), ← hlen]
      exact .row (hR.cut L H) (by omega)
  · rename_i b sz' lo0 n hx
    split at hp <;> try (cases hp; done)
    rename_i H hH
    split at hp <;> try (cases hp; done)
    rename_i L hL
    split at hp <;> try (cases hp; done)
    rename_i hss; subst hss
    injection hp with hp; subst hp
    rcases (hS _ _ _ h2 hx).own_inv with ⟨hv, rfl, rfl⟩ | ⟨ad, hv, rfl, k, o', hρ, hk⟩ | ⟨k, o', cap, hρ, hv, hn, hroom⟩
    · obtain ⟨hr, h5, h6⟩ := hrun _ _ _ _ _ hv (Nat.le_refl _) hH hL
      obtain rfl : H = 0 := by omega
      obtain rfl : L = 0 := by omega
      exact ⟨_, hr, by simpa using VRel.ownnil⟩
    · obtain ⟨hr, h5, h6⟩ := hrun _ _ _ _ _ hv (Nat.le_refl _) hH hL
      obtain rfl : H = 0 := by omega
      obtain rfl : L = 0 := by omega
      exact ⟨_, hr, by simpa using VRel.ownz (by rw [hk]; exact hρ)⟩
    · obtain ⟨hr, h5, h6⟩ := hrun _ _ _ _ _ hv hn hH hL
      refine ⟨_, hr, ?_⟩
      by_cases hcl : cap = L
      · subst hcl
        obtain rfl : H = cap := by omega
        rw [if_pos rfl, Nat.sub_self]
        exact .ownz (ad := ⟨k, o' + lo0 * sz, none⟩) hρ
      · rw [if_neg hcl]
        simp only [Option.map_some, add_none]
        rw [show o' + lo0 * sz + L * sz = o' + (lo0 + L) * sz from by rw [Nat.add_mul]; omega]
        exact .own hρ (by omega) (fun cur ty fr hh => by have := hroom cur ty fr hh; rw [show lo0 + L + (cap - L) = lo0 + cap from by omega]; exact this)
  · rename_i b sz' lo0 n cap hx
    split at hp <;> try (cases hp; done)
    rename_i H hH
    split at hp <;> try (cases hp; done)
    rename_i L hL
    split at hp <;> try (cases hp; done)
    rename_i hss; subst hss
    obtain ⟨k, o', hρ, hv, hn, hroom⟩ := (hS _ _ _ h2 hx).ownc_inv
    obtain ⟨_, h5, h6⟩ := boundsc_run (P := P) hS hn h3 h4 hH hL w
    have hrun2 : ∀ w', (execOp e o).run P w' = .ok (.value (.slice (if cap = L then some ⟨k, o' + lo0 * sz, none⟩ else some ⟨k, o' + (lo0 + L) * sz, none⟩) (H - L) (cap - L))) w' := fun w' => by
      obtain ⟨hb, _, _⟩ := boundsc_run (P := P) hS hn h3 h4 hH hL w'
      simp [execOp, ho, hv, Instr.sliceAt, Instr.slice, und hu, hb, szOf hi', hsz, add_none]
      split
      · rfl
      · simp [Nat.add_mul, Nat.add_assoc]
    split at hp
    · rename_i hlc
      injection hp with hp; subst hp
      refine ⟨_, hrun2, ?_⟩
      rw [if_neg (by omega)]
      exact .ownc hρ (by omega) (fun cur ty fr hh => by have := hroom cur ty fr hh; rw [show lo0 + L + (cap - L) = lo0 + cap from by omega]; exact this)
    · rename_i hlc
      injection hp with hp; subst hp
      obtain rfl : L = cap := by omega
      refine ⟨_, hrun2, ?_⟩
      rw [if_pos rfl, show H - L = 0 from by omega, Nat.sub_self]
      exact .ownz (ad := ⟨k, o' + lo0 * sz, none⟩) hρ
  · rename_i sz' hx
    split at hp <;> try (cases hp; done)
    rename_i H hH
    split at hp <;> try (cases hp; done)
    rename_i L hL
    split at hp <;> try (cases hp; done)
    rename_i hss; subst hss
    injection hp with hp; subst hp
    have hv : e y = .slice none 0 0 := by
      have := hS _ _ _ h2 hx
      generalize e y = v at this
      cases this with
      | tree h => cases h; rfl
    obtain ⟨hr, h5, h6⟩ := hrun _ _ _ _ _ hv (Nat.le_refl _) hH hL
    obtain rfl : H = 0 := by omega
    obtain rfl : L = 0 := by omega
    exact ⟨_, hr, .tree (by simpa using TRel.nils)⟩
theorem fieldAtOK_spec {s : TypeId} {f off : Nat} (h : fieldAtOK P s f off = true) : ∃ fs fd i, P.underlying s = some (.struct fs) ∧ fs[f]? = some fd ∧ fd.offset = off ∧ P.info? fd.type = some i ∧ i.size ≠ 0 := by
  unfold fieldAtOK at h
  split at h <;> try (cases h; done)
  rename_i fs hu
  split at h <;> try (cases h; done)
  rename_i fd hf
  simp only [Bool.and_eq_true, beq_iff_eq] at h
  obtain ⟨h1, h2⟩ := h
  split at h2 <;> try (cases h2; done)
  rename_i i hi
  exact ⟨fs, fd, i, hu, hf, h1, hi, by simpa using h2⟩
theorem pv_faddr (hS : Srcs w Own ρ g e) {j : Nat} {x : Src} {r : AV} (hc : chk P o (.faddr j x) = true) (hp : pv g (.faddr j x) = some r) : PureOK P o e w Own ρ r := by
  simp only [chk] at hc
  simp only [pv] at hp
  split at hc <;> try (cases hc; done)
  rename_i s y f ho
  simp only [Bool.and_eq_true] at hc
  obtain ⟨fs, fd, i, hu, hf, hoff, hi, hsz⟩ := fieldAtOK_spec hc.1
  have hrun : ∀ ad, e y = .pointer (some ad) → ∀ w', (execOp e o).run P w' = .ok (.value (.pointer (some (ad.add j)))) w' := by
    intro ad hv w'
    simp [execOp, ho, hv, Instr.fieldAt, und hu, hf, Instr.sureAddr, fieldPlace, szOf hi, hsz, hoff]
  split at hp <;> try (cases hp; done)
  · rename_i b sz i0 j0 hx
    injection hp with hp; subst hp
    have := hS _ _ _ hc.2 hx
    generalize hv : e y = v at this
    cases this with
    | tree h => cases h
    | ptr h =>
      refine ⟨_, hrun _ hv, ?_⟩
      rw [add_none, Nat.add_assoc, Nat.add_assoc]
      exact .ptr h
  · rename_i sz es i0 j0 hx
    split at hp <;> try (cases hp; done)
    rename_i hlt
    injection hp with hp; subst hp
    have := hS _ _ _ hc.2 hx
    generalize hv : e y = v at this
    cases this with
    | tree h => cases h
    | rop val hs hlen hblk hi2 hj hcell hone hrel =>
      refine ⟨_, hrun _ hv, ?_⟩
      rw [Addr.add_add, Nat.add_assoc]
      exact .rop val hs hlen hblk hi2 hlt hcell hone hrel
theorem pv_iaddr (hS : Srcs w Own ρ g e) {sz : Nat} {x i : Src} {r : AV} (hc : chk P o (.iaddr sz x i) = true) (hp : pv g (.iaddr sz x i) = some r) : PureOK P o e w Own ρ r := by
  simp only [chk] at hc
  simp only [pv] at hp
  split at hc <;> try (cases hc; done)
  rename_i t y z ho
  simp only [Bool.and_eq_true] at hc
  obtain ⟨⟨h1, h2⟩, h3⟩ := hc
  obtain ⟨el, ti, hu, hi', hsz, hs0⟩ := sliceOK_spec h1
  have hrun : ∀ ad (n cap : Nat) k (q : Int), e y = .slice (some ad) n cap → e z = .int k q → 0 ≤ q → q < n → ∀ w', (execOp e o).run P w' = .ok (.value (.pointer (some (ad.add (q.toNat * sz))))) w' := by
    intro ad n cap k q hv hv2 hq0 hq1 w'
    simp [execOp, ho, hv, hv2, Instr.indexAt, und hu, asIntOf, hq0, hq1, szOf hi', hsz]
  split at hp <;> try (cases hp; done)
  · rename_i sz' es k q hx hz
    split at hp <;> try (cases hp; done)
    rename_i hb
    obtain ⟨rfl, hb0, hb1⟩ := hb
    injection hp with hp; subst hp
    obtain ⟨hz', _⟩ := (hS _ _ _ h3 hz).lit_inv
    obtain ⟨A, cap, hv, hcap, hrow⟩ := (hS _ _ _ h2 hx).ro_inv
    obtain ⟨ad, rfl, hR⟩ := hrow (by rintro rfl; simp at hb1; omega)
    refine ⟨_, hrun _ _ _ _ _ hv hz' hb0 hb1, ?_⟩
    obtain ⟨g1, g2, g3, g4⟩ := hR
    rw [show q.toNat * sz = q.toNat * sz + 0 from rfl]
    refine .rop (fun i j => (w.cell? (ad.add (i * sz + j))).getD undef) g1 g2 g3 (by omega) g1 (fun i j x hx => ?_) (fun i j x hx => ?_) (fun i j x hx => ?_)
    · obtain ⟨v, hv, _⟩ := g4 i j x hx
      rw [hv]; rfl
    · obtain ⟨v, hv, ht, _⟩ := g4 i j x hx
      simp only [hv, Option.getD_some]; exact ht
    · obtain ⟨v, hv, _, ht⟩ := g4 i j x hx
      simp only [hv, Option.getD_some]; exact ht
  · rename_i b sz' lo m k q hx hz
    split at hp <;> try (cases hp; done)
    rename_i hb
    obtain ⟨rfl, hb0, hb1⟩ := hb
    injection hp with hp; subst hp
    obtain ⟨hz', _⟩ := (hS _ _ _ h3 hz).lit_inv
    rcases (hS _ _ _ h2 hx).own_inv with ⟨hv, rfl, rfl⟩ | ⟨ad, hv, rfl, k, o', hρ, hk⟩ | ⟨k, o', cap, hρ, hv, hn, hroom⟩
    · omega
    · omega
    · refine ⟨_, hrun _ _ _ _ _ hv hz' hb0 hb1, ?_⟩
      rw [add_none, show o' + lo * sz + q.toNat * sz = o' + ((lo + q.toNat) * sz + 0) from by rw [Nat.add_mul]; omega]
      exact .ptr hρ
theorem shape1_spec {t : TypeId} {n : Nat} {gg : Bool} (h : shape1 P t n gg = true) : ∃ d i, P.underlying t = some d ∧ P.info? t = some i ∧ i.size = n ∧ ∀ w', (isAgg t).run P w' = .ok gg w' := by
  unfold shape1 at h
  split at h
  · rename_i d i hu hi
    simp only [Bool.and_eq_true, beq_iff_eq] at h
    refine ⟨d, i, hu, hi, h.1, fun w' => ?_⟩
    rw [← h.2]
    cases d <;> simp [isAgg, und hu]
  · cases h
theorem mkv_rel {R : AV → Value → Prop} (hR : ∀ cs vs, cs.length = Array.size vs → (∀ (i : Nat) x, cs[i]? = some x → R x (vs.getD i undef)) → R (.agg cs) (.agg vs)) {gg : Bool} {cs : List AV} {vs : Array Value} {r : AV} (h : mkv gg cs = some r) (hl : cs.length = vs.size) (hx : ∀ (i : Nat) x, cs[i]? = some x → R x (vs.getD i undef)) :
    R r (if gg then .agg vs else vs.getD 0 undef) := by
  unfold mkv at h
  split at h
  · rename_i hg
    injection h with h; subst h
    rw [if_pos hg]
    exact hR _ _ hl hx
  · rename_i hg
    rw [if_neg hg]
    split at h
    · injection h with h; subst h
      exact hx 0 _ rfl
    · cases h
theorem pv_field (hS : Srcs w Own ρ g e) {off n : Nat} {gg : Bool} {x : Src} {r : AV} (hc : chk P o (.field off n gg x) = true) (hp : pv g (.field off n gg x) = some r) : PureOK P o e w Own ρ r := by
  simp only [chk] at hc
  simp only [pv] at hp
  split at hc <;> try (cases hc; done)
  rename_i t y f ho
  simp only [Bool.and_eq_true] at hc
  obtain ⟨hf, hy⟩ := hc
  unfold fieldOK at hf
  split at hf <;> try (cases hf; done)
  rename_i fs hu
  split at hf <;> try (cases hf; done)
  rename_i fd hfd
  simp only [Bool.and_eq_true, beq_iff_eq] at hf
  obtain ⟨hoff, hsh⟩ := hf
  obtain ⟨d, i, hd, hi, hsz, hag⟩ := shape1_spec hsh
  split at hp <;> try (cases hp; done)
  rename_i cs hx
  split at hp <;> try (cases hp; done)
  rename_i hle
  obtain ⟨vs, hv, hl, hvs⟩ := (hS _ _ _ hy hx).agg_inv
  have hR := mkv_rel (R := VRel w Own ρ) (fun _ _ h1 h2 => .agg h1 h2) (vs := vs.extract off (off + n)) hp (by simp; omega) (fun k x hk => by
    rw [List.getElem?_take] at hk
    split at hk
    · rename_i hkn
      rw [List.getElem?_drop] at hk
      have := hvs _ _ hk
      have e2 : (vs.extract off (off + n)).getD k undef = vs.getD (off + k) undef := by
        simp only [Array.getD_eq_getD_getElem?, Array.getElem?_extract]; rw [if_pos (by omega)]
      rw [e2]; exact this
    · cases hk)
  cases gg
  · have hn : n = 1 := by
      unfold mkv at hp
      simp only [Bool.false_eq_true, if_false] at hp
      split at hp
      · rename_i z hz
        have := congrArg List.length hz
        simp at this; omega
      · cases hp
    subst hn
    have hlt : off < vs.size := by omega
    have e0 : (vs.extract off (off + 1)).getD 0 undef = vs[off] := by
      simp only [Array.getD_eq_getD_getElem?, Array.getElem?_extract]; rw [if_pos (by omega)]; simp [hlt]
    simp only [Bool.false_eq_true, if_false, e0] at hR
    exact ⟨_, fun w' => by simp [execOp, ho, hv, Instr.field, und hu, hfd, asAgg, part, hag, hoff, hlt], hR⟩
  · refine ⟨_, fun w' => ?_, hR⟩
    simp [execOp, ho, hv, Instr.field, und hu, hfd, asAgg, part, hag, hoff, szOf hi, hsz]
theorem srcs_list (hS : Srcs w Own ρ g e) : ∀ {ys : List Operand} {ss : List Src} {xs : List AV}, okL ys ss = true → srcsOf g ss = some xs → xs.length = ys.length ∧ ∀ (i : Nat) x, xs[i]? = some x → VRel w Own ρ x ((ys.map e).toArray.getD i undef)
  | [], [], xs, _, h => by
    simp only [srcsOf, Option.some.injEq] at h; subst h; exact ⟨rfl, fun i x hx => by simp at hx⟩
  | [], _ :: _, _, h, _ => by simp [okL] at h
  | _ :: _, [], _, h, _ => by simp [okL] at h
  | y :: r, s :: q, xs, h, hx => by
    simp only [okL, Bool.and_eq_true] at h
    simp only [srcsOf] at hx
    split at hx
    · rename_i x' xs' h1 h2
      injection hx with hx; subst hx
      obtain ⟨hl, ih⟩ := srcs_list hS h.2 h2
      refine ⟨by simp [hl], fun i x hx => ?_⟩
      cases i with
      | zero => simp at hx; subst hx; simpa using hS _ _ _ h.1 h1
      | succ i => simpa using ih i x (by simpa using hx)
    · cases hx
theorem pv_mkfn (hS : Srcs w Own ρ g e) {f : FuncId} {caps : List Src} {r : AV} (hc : chk P o (.mkfn f caps) = true) (hp : pv g (.mkfn f caps) = some r) : PureOK P o e w Own ρ r := by
  simp only [chk] at hc
  simp only [pv] at hp
  split at hc <;> try (cases hc; done)
  rename_i f' fst cs ho
  simp only [Bool.and_eq_true, beq_iff_eq, List.isEmpty_iff] at hc
  obtain ⟨⟨hfst, rfl⟩, hcs⟩ := hc
  obtain rfl : fst = #[] := by rw [← Array.toList_inj]; exact hfst
  obtain ⟨xs, hxs, rfl⟩ := Option.map_eq_some_iff.1 hp
  obtain ⟨hl, h⟩ := srcs_list hS hcs hxs
  have hrun : ∀ w', (execOp e o).run P w' = .ok (.value (.func (.func f) #[] (cs.map e))) w' := by
    intro w'
    simp [execOp, ho, Instr.makeFunc]
  have e2 : (cs.toList.map e).toArray = cs.map e := by rw [← Array.toList_inj]; rw [Array.toList_map]
  have hl2 : xs.length = (cs.map e).size := by rw [hl]; simp
  refine ⟨.func (.func f) #[] (cs.map e), hrun, .fn hl2 (fun i x hx => ?_)⟩
  have := h i x hx
  rwa [e2] at this
theorem pv_minmax (hS : Srcs w Own ρ g e) {mx : Bool} {x y : Src} {r : AV} (hc : chk P o (.minmax mx x y) = true) (hp : pv g (.minmax mx x y) = some r) : PureOK P o e w Own ρ r := by
  simp only [chk] at hc
  simp only [pv] at hp
  split at hc <;> try (cases hc; done)
  rename_i c ho
  split at hc <;> try (cases hc; done)
  rename_i b hcal
  simp only [Bool.and_eq_true, beq_iff_eq] at hc
  obtain ⟨hb, hc⟩ := hc
  split at hc <;> try (cases hc; done)
  rename_i x' y' hargs
  simp only [Bool.and_eq_true] at hc
  have hargs' : c.args = #[x', y'] := by rw [← Array.toList_inj]; exact hargs
  split at hp <;> try (cases hp; done)
  rename_i k p k' q h1 h2
  split at hp <;> try (cases hp; done)
  rename_i hk; subst hk
  injection hp with hp; subst hp
  obtain ⟨hv1, _⟩ := (hS _ _ _ hc.1 h1).lit_inv
  obtain ⟨hv2, _⟩ := (hS _ _ _ hc.2 h2).lit_inv
  cases mx
  · simp only [Bool.false_eq_true, if_false] at hb; subst hb
    exact ⟨_, fun w' => by simp [execOp, ho, resolve, hcal, hargs', hv1, hv2, invoke, builtin, Builtin.min_, Builtin.min2] <;> rfl, .tree (.lit rfl)⟩
  · simp only [if_true] at hb; subst hb
    exact ⟨_, fun w' => by simp [execOp, ho, resolve, hcal, hargs', hv1, hv2, invoke, builtin, Builtin.max_, Builtin.max2] <;> rfl, .tree (.lit rfl)⟩
theorem cellsA_rel {x : AV} {xs : List AV} {v : Value} (hx : cellsA x = some xs) (h : VRel w Own ρ x v) : xs.length = v.cells.size ∧ ∀ (i : Nat) z, xs[i]? = some z → VRel w Own ρ z (v.cells.getD i undef) := by
  have h1 : ∀ {y : AV} {u : Value}, u.cells = #[u] → VRel w Own ρ y u → [y].length = u.cells.size ∧ ∀ (i : Nat) z, [y][i]? = some z → VRel w Own ρ z (u.cells.getD i undef) := by
    intro y u hu hy
    rw [hu]
    refine ⟨rfl, fun i z hz => ?_⟩
    cases i with
    | zero => simp at hz; subst hz; simpa using hy
    | succ i => simp at hz
  cases x <;> simp only [cellsA, Option.some.injEq] at hx <;> first | (cases hx; done) | subst hx
  case agg ys =>
    obtain ⟨vs, rfl, hl, hvs⟩ := h.agg_inv
    exact ⟨hl, hvs⟩
  all_goals
    refine h1 ?_ h
    clear h1
  case lit =>
    obtain ⟨rfl, hf⟩ := h.lit_inv
    cases v <;> first | rfl | (simp [flat] at hf)
  case tup =>
    obtain ⟨vs, rfl, _⟩ := h.tup_inv
    rfl
  case ro =>
    obtain ⟨A, c, rfl, _⟩ := h.ro_inv
    rfl
  case own =>
    obtain ⟨A, c, rfl, _⟩ := h.own_slice
    rfl
  all_goals
    cases h <;> first | rfl | (rename_i h; cases h <;> rfl)
theorem fill_rel (pl : Nat → Option (Nat × Nat)) : ∀ {ps : List (Nat × Operand)} {parts : List (Nat × Nat × Src)} {xs cs rs : List AV} {cells : Array Value}, Srcs w Own ρ g e → partsOK pl ps parts = true → srcsOf g (parts.map (·.2.2)) = some xs →
    fillA cs (List.zipWith (fun p x => (p.1, p.2.1, x)) parts xs) = some rs → cs.length = cells.size → (∀ (i : Nat) x, cs[i]? = some x → VRel w Own ρ x (cells.getD i undef)) →
    ∃ r, Instr.fill pl cells (ps.map fun p => (p.1, e p.2)) = some r ∧ rs.length = r.size ∧ ∀ (i : Nat) x, rs[i]? = some x → VRel w Own ρ x (r.getD i undef)
  | [], [], xs, cs, rs, cells, _, _, hx, hf, hl, hR => by
    simp only [List.map_nil, srcsOf, Option.some.injEq] at hx; subst hx
    simp only [List.zipWith_nil_left, fillA, Option.some.injEq] at hf; subst hf
    exact ⟨cells, rfl, hl, hR⟩
  | [], _ :: _, _, _, _, _, _, h, _, _, _, _ => by simp [partsOK] at h
  | _ :: _, [], _, _, _, _, _, h, _, _, _, _ => by simp [partsOK] at h
  | (i, y) :: ps, (off, n, s) :: parts, xs, cs, rs, cells, hS, hp, hx, hf, hl, hR => by
    simp only [partsOK, Bool.and_eq_true] at hp
    obtain ⟨⟨hpl, hy⟩, hps⟩ := hp
    split at hpl <;> try (cases hpl; done)
    rename_i o' n' hpl'
    simp only [Bool.and_eq_true, beq_iff_eq] at hpl
    obtain ⟨rfl, rfl⟩ := hpl
    simp only [List.map_cons, srcsOf] at hx
    split at hx <;> try (cases hx; done)
    rename_i x xs' h1 h2
    injection hx with hx; subst hx
    simp only [List.zipWith_cons_cons, fillA] at hf
    split at hf <;> try (cases hf; done)
    rename_i zs hzs
    split at hf <;> try (cases hf; done)
    rename_i hb
    obtain ⟨hzl, hzr⟩ := cellsA_rel hzs (hS _ _ _ hy h1)
    obtain ⟨g1, g2⟩ := Great.foldl_set o' (e y).cells.toList 0 cells
    have hcell : ∀ k, ((((e y).cells.toList.zipIdx 0).foldl (fun cs (x : Value × Nat) => cs.setIfInBounds (o' + x.2) x.1) cells))[k]? = if o' ≤ k ∧ k < o' + n' then (e y).cells[k - o']? else cells[k]? := by
      intro k
      rw [g2 k]
      simp only [Nat.add_zero, Array.length_toList]
      by_cases hk : o' ≤ k ∧ k < o' + n'
      · rw [if_pos hk, if_pos ⟨hk.1, by omega, by omega⟩]; simp
      · rw [if_neg hk, if_neg (by omega)]
    obtain ⟨r, hr, hrl, hrr⟩ := fill_rel pl (cells := ((e y).cells.toList.zipIdx 0).foldl (fun cs (x : Value × Nat) => cs.setIfInBounds (o' + x.2) x.1) cells) hS hps h2 hf (by rw [g1]; simp; omega) (fun k z hz => by
      rw [Array.getD_eq_getD_getElem?, hcell k]
      by_cases hk1 : k < o'
      · rw [if_neg (by omega), ← Array.getD_eq_getD_getElem?]
        rw [List.append_assoc, List.getElem?_append_left (by simp; omega), List.getElem?_take_of_lt hk1] at hz
        exact hR _ _ hz
      · by_cases hk2 : k < o' + n'
        · rw [if_pos ⟨by omega, hk2⟩, ← Array.getD_eq_getD_getElem?]
          rw [List.append_assoc, List.getElem?_append_right (by simp; omega), List.length_take, Nat.min_eq_left (by omega), List.getElem?_append_left (by omega)] at hz
          exact hzr _ _ hz
        · rw [if_neg (by omega), ← Array.getD_eq_getD_getElem?]
          rw [List.getElem?_append_right (by simp; omega), List.getElem?_drop] at hz
          have e3 : o' + n' + (k - (List.take o' cs ++ zs).length) = k := by simp; omega
          rw [e3] at hz
          exact hR _ _ hz)
    refine ⟨r, ?_, hrl, hrr⟩
    simp only [List.map_cons, Instr.fill, hpl']
    rw [if_neg (by simp; omega), ← hr]
    congr 1
    rw [← Array.foldl_toList, Array.toList_zipIdx]
theorem konsts_rel (w : World) (Own : Nat → Prop) : ∀ {vs : List Value} {cs : List AV}, konsts vs cs = true → cs.length = vs.length ∧ ∀ (i : Nat) x, cs[i]? = some x → TRel w Own x (vs.toArray.getD i undef)
  | [], [], _ => ⟨rfl, fun i x hx => by simp at hx⟩
  | [], _ :: _, h => by simp [konsts] at h
  | _ :: _, [], h => by simp [konsts] at h
  | v :: r, x :: q, h => by
    simp only [konsts, Bool.and_eq_true] at h
    obtain ⟨hl, ih⟩ := konsts_rel w Own h.2
    refine ⟨by simp [hl], fun i z hz => ?_⟩
    cases i with
    | zero => simp at hz; subst hz; simpa using konst_ok h.1
    | succ i => simpa using ih i z (by simpa using hz)
theorem zeroOK_spec {t : TypeId} {zero : List AV} (h : zeroOK P t zero = true) : ∃ i z, P.info? t = some i ∧ i.zero = some z ∧ zero.length = z.cells.size ∧ ∀ w Own (i : Nat) x, zero[i]? = some x → TRel w Own x (z.cells.getD i undef) := by
  unfold zeroOK at h
  split at h <;> try (cases h; done)
  rename_i i hi
  split at h <;> try (cases h; done)
  rename_i z hz
  refine ⟨i, z, hi, hz, ?_, fun w Own => ?_⟩
  · have := (konsts_rel default (fun _ => False) h).1
    simpa using this
  · have := (konsts_rel w Own h).2
    simpa using this
theorem pv_build (hS : Srcs w Own ρ g e) {zero : List AV} {parts : List (Nat × Nat × Src)} {r : AV} (hc : chk P o (.build zero parts) = true) (hp : pv g (.build zero parts) = some r) : PureOK P o e w Own ρ r := by
  simp only [chk] at hc
  simp only [pv] at hp
  split at hc <;> try (cases hc; done)
  rename_i t ps ho
  simp only [Bool.and_eq_true] at hc
  obtain ⟨hz, hpl⟩ := hc
  split at hpl <;> try (cases hpl; done)
  rename_i pl hplaces
  split at hp <;> try (cases hp; done)
  rename_i xs hxs
  obtain ⟨rs, hrs, rfl⟩ := Option.map_eq_some_iff.1 hp
  obtain ⟨it, z, hi, hzz, hzl, hzr⟩ := zeroOK_spec hz
  obtain ⟨r, hr, hl, hR⟩ := fill_rel pl hS hpl hxs hrs hzl (fun i x hx => .tree (hzr w Own i x hx))
  refine ⟨.agg r, fun w' => ?_, .agg hl hR⟩
  have hb : P.built t (ps.map fun p => (p.1, e p.2)).toList = some r := by
    unfold Program.built
    unfold placesOf at hplaces
    split at hplaces <;> try (cases hplaces; done)
    · rename_i fs hu
      obtain ⟨l, hl', rfl⟩ := Option.map_eq_some_iff.1 hplaces
      simp only [hi, hu, hzz, hl', Array.toList_map]
      exact hr
    · rename_i n el hu
      obtain ⟨l, hl', rfl⟩ := Option.map_eq_some_iff.1 hplaces
      simp only [hi, hu, hzz, hl', Array.toList_map]
      exact hr
  have := run_build w' t _ _ hb
  simp only [execOp, ho, Sem.run_bind, this, Result.andThen_ok, Sem.run_pure]
def eqVs : List Value → List Value → Option Bool
  | [], [] => some true
  | a :: r, b :: q => match eqv a b, eqVs r q with
    | some x, some y => some (x && y)
    | _, _ => none
  | _, _ => none
theorem eqVs_split : ∀ {m : Nat} {xs ys : List Value} {b : Bool}, eqVs xs ys = some b → m ≤ xs.length → ∃ b1 b2, eqVs (xs.take m) (ys.take m) = some b1 ∧ eqVs (xs.drop m) (ys.drop m) = some b2 ∧ b = (b1 && b2)
  | 0, xs, ys, b, h, _ => ⟨true, b, by simp [eqVs], by simpa using h, by simp⟩
  | m + 1, [], ys, b, h, hm => by simp at hm
  | m + 1, x :: r, [], b, h, hm => by simp [eqVs] at h
  | m + 1, x :: r, y :: q, b, h, hm => by
    simp only [eqVs] at h
    split at h <;> try (cases h; done)
    rename_i u v h1 h2
    injection h with h; subst h
    obtain ⟨b1, b2, e1, e2, rfl⟩ := eqVs_split (m := m) h2 (by simpa using hm)
    exact ⟨u && b1, b2, by simp [eqVs, h1, e1], by simpa using e2, by simp [Bool.and_assoc]⟩
theorem eqVs_len : ∀ {xs ys : List Value} {b : Bool}, eqVs xs ys = some b → ys.length = xs.length
  | [], [], _, _ => rfl
  | [], y :: q, b, h => by simp [eqVs] at h
  | x :: r, [], b, h => by simp [eqVs] at h
  | x :: r, y :: q, b, h => by
    simp only [eqVs] at h
    split at h <;> try (cases h; done)
    rename_i h2; simp [eqVs_len h2]
def isV (P : Program) (t : TypeId) (v : Value) (cs : List Value) : Prop := match P.underlying t with
  | some (.struct _) => v = .agg cs.toArray
  | _ => cs = [v]
theorem run_part_isV {t : TypeId} {off : Nat} {ks : List Nat} {d : Nat} (ht : flatT P d t = some ks) (hm : P.cellsOf t = ks.length) {xs : Array Value} (hb : off + ks.length ≤ xs.size) (w' : World) : ∃ v, (part t xs off).run P w' = .ok v w' ∧ isV P t v ((xs.toList.drop off).take ks.length) := by
  cases d with
  | zero => simp [flatT] at ht
  | succ d =>
  simp only [flatT] at ht
  have plain : (P.plainKey t = true) → ks.length = 1 → (∀ fs, P.underlying t ≠ some (.struct fs)) → ∃ v, (part t xs off).run P w' = .ok v w' ∧ isV P t v ((xs.toList.drop off).take ks.length) := by
    intro hp h1 hns
    rw [h1] at hb ⊢
    have hx : xs[off]? = some xs[off] := by simp
    refine ⟨xs[off], run_part_plain w' hp hx, ?_⟩
    have e : (xs.toList.drop off).take 1 = [xs[off]] := by
      rw [List.drop_eq_getElem_cons (by simp; omega)]; simp
    unfold isV
    split
    · rename_i fs h; exact absurd h (hns fs)
    · exact e
  split at ht <;> try (cases ht; done)
  · rename_i h; injection ht with ht; subst ht; exact plain (by simp [Program.plainKey, h]) rfl (by simp [h])
  · rename_i h; injection ht with ht; subst ht; exact plain (by simp [Program.plainKey, h]) rfl (by simp [h])
  · rename_i h; injection ht with ht; subst ht; exact plain (by simp [Program.plainKey, h]) rfl (by simp [h])
  · rename_i fs h
    obtain ⟨i, hi⟩ := info_of_underlying h
    refine ⟨.agg (xs.extract off (off + ks.length)), ?_, ?_⟩
    · have hs := run_sizeOf w' hi
      rw [hm] at hs
      simp [part, isAgg, run_underlying h, hs]
    · simp only [isV, h]
      congr 1
      rw [← Array.toList_inj]
      simp [Array.toList_extract, List.extract_eq_take_drop]
theorem run_eqFields_flat {d D : Nat} (ih : ∀ t ks, flatT P d t = some ks → ∀ (v u : Value) (vs us : List Value) b, isV P t v vs → isV P t u us → vs.map kindV = ks → eqVs vs us = some b → ∀ w', (Op.equalIn D t v u).run P w' = .ok b w') {xs ys : Array Value} (hsz : ys.size = xs.size) (w' : World) :
    ∀ {fs : List Field} {off : Nat} {ks : List Nat} {b : Bool}, flatF P (flatT P d) fs off = some ks → (xs.toList.drop off).map kindV = ks → eqVs (xs.toList.drop off) (ys.toList.drop off) = some b → (Op.eqFields D xs ys fs).run P w' = .ok b w'
  | [], off, ks, b, hf, hk, hb => by
    simp only [flatF, Option.some.injEq] at hf
    subst hf
    have e1 : xs.toList.drop off = [] := by simpa using hk
    have e2 : ys.toList.drop off = [] := by rw [List.drop_eq_nil_iff] at e1 ⊢; simp at e1 ⊢; omega
    rw [e1, e2] at hb
    simp only [eqVs, Option.some.injEq] at hb
    subst hb
    simp [Op.eqFields]
  | f :: r, off, ks, b, hf, hk, hb => by
    simp only [flatF] at hf
    split at hf <;> try (cases hf; done)
    rename_i k1 hm
    split at hf <;> try (cases hf; done)
    rename_i hn
    obtain ⟨hn, rfl, hc, hnz⟩ := hn
    obtain ⟨k2, hf2, rfl⟩ := Option.map_eq_some_iff.1 hf
    have hlen := congrArg List.length hk
    simp only [List.length_map, List.length_drop, Array.length_toList, List.length_append] at hlen
    have hk1 : ((xs.toList.drop f.offset).take k1.length).map kindV = k1 := by rw [List.map_take, hk]; simp
    have hk2 : (xs.toList.drop (f.offset + k1.length)).map kindV = k2 := by rw [← List.drop_drop, List.map_drop, hk]; simp
    have hle : f.offset + k1.length ≤ xs.size := by omega
    obtain ⟨b1, b2, e1, e2, rfl⟩ := eqVs_split (m := k1.length) hb (by simp; omega)
    obtain ⟨v, hv, hvV⟩ := run_part_isV hm hc (xs := xs) (off := f.offset) hle w'
    obtain ⟨u, hu, huV⟩ := run_part_isV hm hc (xs := ys) (off := f.offset) (by omega) w'
    have h3 := ih f.type k1 hm v u _ _ b1 hvV huV hk1 e1 w'
    rw [List.drop_drop, List.drop_drop] at e2
    have h4 := run_eqFields_flat ih hsz w' (fs := r) (off := f.offset + k1.length) (b := b2) hf2 hk2 e2
    simp only [Op.eqFields, hn, ne_eq, not_false_eq_true, if_true, Sem.run_bind, hv, hu, h3, Result.andThen_ok]
    cases b1
    · simp
    · simpa using h4
theorem run_equalIn_flat : ∀ (d D : Nat), d ≤ D → ∀ t ks, flatT P d t = some ks → ∀ (v u : Value) (vs us : List Value) b, isV P t v vs → isV P t u us → vs.map kindV = ks → eqVs vs us = some b → ∀ w', (Op.equalIn D t v u).run P w' = .ok b w'
  | 0, _, _, t, ks, ht => by simp [flatT] at ht
  | d + 1, 0, h, _, _, _ => by omega
  | d + 1, D + 1, hD, t, ks, ht => by
    intro v u vs us b hv hu hk hb w'
    simp only [flatT] at ht
    have plain : (∀ fs, P.underlying t ≠ some (.struct fs)) → vs = [v] ∧ us = [u] := fun hns => by
      unfold isV at hv hu
      split at hv
      · rename_i fs h; exact absurd h (hns fs)
      · split at hu
        · rename_i fs h; exact absurd h (hns fs)
        · exact ⟨hv, hu⟩
    have one : eqVs [v] [u] = some b → eqv v u = some b := fun h => by
      simp only [eqVs] at h
      split at h <;> try (cases h; done)
      rename_i x y h1 h2
      injection h2 with h2; subst h2
      simpa [h1] using h
    split at ht <;> try (cases ht; done)
    · rename_i h
      obtain ⟨rfl, rfl⟩ := plain (by simp [h])
      have h1 := one hb
      injection ht with ht; subst ht
      simp only [List.map_cons, List.map_nil, List.cons.injEq, and_true] at hk
      cases v <;> simp [kindV] at hk
      cases u <;> simp [eqv] at h1
      subst h1
      exact run_equalIn_bool w' D t _ _ h
    · rename_i k h
      obtain ⟨rfl, rfl⟩ := plain (by simp [h])
      have h1 := one hb
      injection ht with ht; subst ht
      simp only [List.map_cons, List.map_nil, List.cons.injEq, and_true] at hk
      cases v <;> simp [kindV] at hk
      cases u <;> simp [eqv] at h1
      obtain ⟨rfl, rfl⟩ := h1
      exact run_equalIn_int w' D t _ k _ _ h
    · rename_i h
      obtain ⟨rfl, rfl⟩ := plain (by simp [h])
      have h1 := one hb
      injection ht with ht; subst ht
      simp only [List.map_cons, List.map_nil, List.cons.injEq, and_true] at hk
      cases v <;> simp [kindV] at hk
      cases u <;> simp [eqv] at h1
      subst h1
      exact run_equalIn_string w' D t _ _ h
    · rename_i fs h
      split at ht <;> try (cases ht; done)
      rename_i hs
      simp only [isV, h] at hv hu
      subst hv; subst hu
      have hfo : P.fieldsOf t = fs := by simp [Program.fieldsOf, h]
      rw [run_equalIn_struct w' D t vs.toArray us.toArray (by rw [hfo]; exact h) (by simpa using hs), hfo]
      refine run_eqFields_flat (d := d) (D := D) (fun t' n' ht' v' u' vs' us' b' a1 a2 a3 a4 w2 => run_equalIn_flat d D (by omega) t' n' ht' v' u' vs' us' b' a1 a2 a3 a4 w2) (by simpa using eqVs_len hb) w' (off := 0) ht (by simpa using hk) (by simpa using hb)
theorem eqA_spec : ∀ {ks : List Nat} {xs ys : List AV} {b : Bool}, eqA ks xs ys = some b → ∃ vs us : List Value, xs = vs.map AV.lit ∧ ys = us.map AV.lit ∧ eqVs vs us = some b ∧ vs.map kindV = ks := by
  intro ks xs
  induction xs generalizing ks with
  | nil =>
    intro ys b h
    cases ks <;> cases ys <;> simp [eqA] at h
    exact ⟨[], [], rfl, rfl, by simp [eqVs, h], rfl⟩
  | cons x r ih =>
    intro ys b h
    rcases ks with _ | ⟨k, ks⟩
    · cases ys <;> simp [eqA] at h
    rcases ys with _ | ⟨y, q⟩
    · cases x <;> simp [eqA] at h
    cases x <;> try (simp [eqA] at h; done)
    cases y <;> try (simp [eqA] at h; done)
    rename_i a c
    simp only [eqA] at h
    split at h <;> try (cases h; done)
    rename_i hk
    split at h <;> try (cases h; done)
    rename_i x y g1 g2
    obtain ⟨vs, us, rfl, rfl, h3, h4⟩ := ih g2
    exact ⟨a :: vs, c :: us, rfl, rfl, by simp only [eqVs, g1, h3]; exact h, by simp [hk, h4]⟩
theorem pv_seql (hS : Srcs w Own ρ g e) {neg : Bool} {ks : List Nat} {x y : Src} {r : AV} (hc : chk P o (.seql neg ks x y) = true) (hp : pv g (.seql neg ks x y) = some r) : PureOK P o e w Own ρ r := by
  simp only [chk] at hc
  simp only [pv] at hp
  split at hc <;> try (cases hc; done)
  rename_i op' t x' y' p' ho
  simp only [Bool.and_eq_true, beq_iff_eq, Bool.not_eq_true'] at hc
  obtain ⟨⟨⟨⟨⟨hop, hfl⟩, hst⟩, hg⟩, g1⟩, g2⟩ := hc
  split at hp <;> try (cases hp; done)
  rename_i xs ys h1 h2
  obtain ⟨b, hb, rfl⟩ := Option.map_eq_some_iff.1 hp
  obtain ⟨vs, us, rfl, rfl, hv, hk⟩ := eqA_spec hb
  have key : ∀ {vs : List Value} {u : Value}, VRel w Own ρ (.agg (vs.map AV.lit)) u → u = .agg vs.toArray := fun {vs u} hv => by
    obtain ⟨us, hu, hul, hus⟩ := hv.agg_inv
    rw [hu]; congr 1
    apply Array.ext
    · simpa using hul.symm
    · intro i h1 h2
      have h3 : i < vs.length := by simpa using h2
      obtain ⟨e, _⟩ := (hus i (.lit vs[i]) (by simp [h3])).lit_inv
      simp [Array.getD, h1] at e
      simpa using e
  have e1 := key (hS _ _ _ g1 h1)
  have e2 := key (hS _ _ _ g2 h2)
  obtain ⟨fs, hfs⟩ : ∃ fs, P.underlying t = some (.struct fs) := by
    split at hst
    · exact ⟨_, by assumption⟩
    · cases hst
  have hrun := run_equalIn_flat 6 10000 (by omega) t ks hfl (.agg vs.toArray) (.agg us.toArray) vs us b (by simp [isV, hfs]) (by simp [isV, hfs]) hk hv
  refine ⟨.bool (b != neg), fun w' => ?_, .tree (.lit rfl)⟩
  cases neg
  · simp only [Bool.false_eq_true, if_false] at hop
    subst hop
    simp only [execOp, ho, e1, e2, Sem.run_bind, run_eqGuard_agg _ _ _ _ _ _ _ hg, Result.andThen_ok, run_eql_struct, hrun, Sem.run_pure]
    simp
  · simp only [if_true] at hop
    subst hop
    simp only [execOp, ho, e1, e2, Sem.run_bind, run_eqGuard_agg _ _ _ _ _ _ _ hg, Result.andThen_ok, run_neq_struct, hrun, Sem.run_pure]
    simp
theorem pv_ok (hS : Srcs w Own ρ g e) : ∀ {ao : AOp} {r : AV}, chk P o ao = true → pv g ao = some r → PureOK P o e w Own ρ r
  | .mov _, _, hc, hp => pv_mov hS hc hp
  | .nilck _, _, hc, hp => pv_nilck hS hc hp
  | .pick _ _ _, _, hc, hp => pv_pick hS hc hp
  | .not _, _, hc, hp => pv_not hS hc hp
  | .beq _ _ _, _, hc, hp => pv_beq hS hc hp
  | .iop _ _ _, _, hc, hp => pv_iop hS hc hp
  | .seql _ _ _ _, _, hc, hp => pv_seql hS hc hp
  | .conv _ _, _, hc, hp => pv_conv hS hc hp
  | .faddr _ _, _, hc, hp => pv_faddr hS hc hp
  | .iaddr _ _ _, _, hc, hp => pv_iaddr hS hc hp
  | .field _ _ _ _, _, hc, hp => pv_field hS hc hp
  | .build _ _, _, hc, hp => pv_build hS hc hp
  | .extract _ _, _, hc, hp => pv_extract hS hc hp
  | .len _, _, hc, hp => pv_len hS hc hp
  | .slen _, _, hc, hp => pv_slen hS hc hp
  | .slice _ _ _ _, _, hc, hp => pv_slice hS hc hp
  | .sslice _ _ _, _, hc, hp => pv_sslice hS hc hp
  | .sidx _ _, _, hc, hp => pv_sidx hS hc hp
  | .mkfn _ _, _, hc, hp => pv_mkfn hS hc hp
  | .minmax _ _ _, _, hc, hp => pv_minmax hS hc hp
  | .load _ _ _, _, _, hp => by simp [pv] at hp
  | .store _ _ _, _, _, hp => by simp [pv] at hp
  | .alloc _ _ _, _, _, hp => by simp [pv] at hp
  | .box _ _ _ _, _, _, hp => by simp [pv] at hp
  | .bslice _ _ _ _, _, _, hp => by simp [pv] at hp
  | .mkslice _ _ _ _ _ _, _, _, hp => by simp [pv] at hp
  | .append _ _ _ _ _ _, _, _, hp => by simp [pv] at hp
  | .call _ _, _, _, hp => by simp [pv] at hp
  | .callv _ _, _, _, hp => by simp [pv] at hp
  | .ext _ _ _, _, _, hp => by simp [pv] at hp
end
end Go.SX
