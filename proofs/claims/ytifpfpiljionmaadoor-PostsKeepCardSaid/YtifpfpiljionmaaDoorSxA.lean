/- SX, part A: values as trees and references, what they say of the machine's memory, and what keeps them true. No program in sight. -/
import Derived.OrdersHeld
import Derived.Below
import Derived.Test.YtifpfpiljionmaaDoorSxT
set_option linter.unusedVariables false
set_option linter.unusedSimpArgs false
namespace Go.SX
open Go

/-- What a slot or a cell holds, told without memory: 'ro' is a slice that nobody writes any more, as a tree; 'own', 'ptr' lead to a block of the call's own. -/
inductive AV where
  | lit (v : Value)
  | agg (cs : List AV)
  | tup (vs : List AV)
  | nils (sz : Nat)
  | ro (sz : Nat) (es : List (List AV))
  | rop (sz : Nat) (es : List (List AV)) (i j : Nat)
  | own (b sz lo n : Nat)
  | ownc (b sz lo n cap : Nat)
  | ptr (b sz i j : Nat)
  | fn (f : FuncId) (caps : List AV)
  | mapr (b : Nat)
  | dead

def flat : Value → Bool
  | .bool _ | .int _ _ | .string _ | .nilFunc | .nilIface | .pointer none | .map none | .func (.yield _) _ _ => true
  | _ => false

/-- A value of one cell. -/
def one : Value → Bool
  | .agg _ | .tuple _ => false
  | _ => true

def cellAt (es : List (List AV)) (i j : Nat) : Option AV := (es[i]?).bind (·[j]?)

/-- A tree that lies in the memory of 'w', in blocks that are nobody's ('Own': the blocks that somebody may write). -/
inductive TRel (w : World) (Own : Nat → Prop) : AV → Value → Prop
  | lit {v : Value} (h : flat v = true) : TRel w Own (.lit v) v
  | nils {sz : Nat} : TRel w Own (.nils sz) (.slice none 0 0)
  | ronil {sz c : Nat} {A : Option Addr} : TRel w Own (.ro sz []) (.slice A 0 c)
  | ro {sz c : Nat} {es : List (List AV)} {ad : Addr} (val : Nat → Nat → Value) (hc : es.length ≤ c) (hs : 0 < sz) (hlen : ∀ e ∈ es, e.length = sz) (hblk : ¬ Own ad.block) (hne : es ≠ [])
      (hcell : ∀ i j x, cellAt es i j = some x → w.cell? (ad.add (i * sz + j)) = some (val i j)) (hone : ∀ i j x, cellAt es i j = some x → one (val i j) = true) (hrel : ∀ i j x, cellAt es i j = some x → TRel w Own x (val i j)) : TRel w Own (.ro sz es) (.slice (some ad) es.length c)
  | agg {cs : List AV} {vs : Array Value} (hl : cs.length = vs.size) (h : ∀ i x, cs[i]? = some x → TRel w Own x (vs.getD i undef)) : TRel w Own (.agg cs) (.agg vs)
  | tup {cs : List AV} {vs : Array Value} (hl : cs.length = vs.size) (h : ∀ i x, cs[i]? = some x → TRel w Own x (vs.getD i undef)) : TRel w Own (.tup cs) (.tuple vs)
  | fn {f : FuncId} {cs : List AV} {vs : Array Value} (hl : cs.length = vs.size) (h : ∀ i x, cs[i]? = some x → TRel w Own x (vs.getD i undef)) : TRel w Own (.fn f cs) (.func (.func f) #[] vs)

theorem cell_lt {w : World} {a : Addr} {v : Value} (h : w.cell? a = some v) : a.block < w.heap.size := World.block_lt_of_cell? w a h

theorem add_blk (a : Addr) (i : Nat) : (a.add i).block = a.block := by unfold Addr.add; split <;> rfl

/-- What is nobody's stays as it is. -/
structure Keeps (w w' : World) (Own Own' : Nat → Prop) : Prop where
  size : w.heap.size ≤ w'.heap.size
  same : ∀ k, k < w.heap.size → ¬ Own k → w'.heap[k]? = w.heap[k]?
  own : ∀ k, k < w.heap.size → Own' k → Own k

theorem Keeps.cell {w w' : World} {Own Own' : Nat → Prop} (h : Keeps w w' Own Own') {a : Addr} {v : Value} (hc : w.cell? a = some v) (ho : ¬ Own a.block) : w'.cell? a = some v :=
  (World.cell?_of_block (w := w) (h.same a.block (cell_lt hc) ho)).trans hc

theorem exists_cell {sz : Nat} {es : List (List AV)} (hs : 0 < sz) (hlen : ∀ e ∈ es, e.length = sz) (hne : es ≠ []) : ∃ x, cellAt es 0 0 = some x := by
  cases es with
  | nil => exact absurd rfl hne
  | cons e r =>
    have h1 := hlen e List.mem_cons_self
    cases e with
    | nil => simp at h1; omega
    | cons x _ => exact ⟨x, rfl⟩

theorem TRel.keep {w w' : World} {Own Own' : Nat → Prop} (hk : Keeps w w' Own Own') {x : AV} {v : Value} (h : TRel w Own x v) : TRel w' Own' x v := by
  induction h with
  | lit h => exact .lit h
  | nils => exact .nils
  | ronil => exact .ronil
  | ro val hc hs hlen hblk hne hcell hone hrel ih =>
    obtain ⟨x0, h0⟩ := exists_cell hs hlen hne
    have hlt := cell_lt (hcell 0 0 x0 h0)
    rw [add_blk] at hlt
    exact .ro val hc hs hlen (fun ho => hblk (hk.own _ hlt ho)) hne (fun i j x hx => hk.cell (hcell i j x hx) (by rw [add_blk]; exact hblk)) hone ih
  | agg hl _ ih => exact .agg hl ih
  | tup hl _ ih => exact .tup hl ih
  | fn hl _ ih => exact .fn hl ih

/-- A block of the call's own: a row of elements, or a variable whose cells may lead to other blocks of the call's own. -/
inductive Blk where
  | arr (ty sz : Nat) (es : List (List AV))
  | obj (ty : Nat) (cs : List AV)

abbrev Mem := List (Nat × Blk)
abbrev Slots := List (Nat × AV)
structure St where
  slots : Slots
  mem : Mem
  fixed : List Nat := []   -- blocks that stay where they are

def look {α : Type} : List (Nat × α) → Nat → Option α
  | [], _ => none
  | (k, v) :: r, d => if k = d then some v else look r d
def drop {α : Type} : List (Nat × α) → Nat → List (Nat × α)
  | [], _ => []
  | (k, v) :: r, d => if k = d then drop r d else (k, v) :: drop r d
def upd {α : Type} : List (Nat × α) → Nat → α → List (Nat × α)
  | [], d, x => [(d, x)]
  | (k, v) :: r, d, x => if k = d then (k, x) :: drop r d else (k, v) :: upd r d x

theorem look_drop {α : Type} (l : List (Nat × α)) (d k : Nat) : look (drop l d) k = if k = d then none else look l k := by
  induction l with
  | nil => simp [drop, look]
  | cons p r ih =>
    obtain ⟨q, v⟩ := p
    simp only [drop]
    by_cases hq : q = d
    · subst hq
      rw [if_pos rfl, ih]
      by_cases hk : k = q
      · simp [hk]
      · rw [if_neg hk, if_neg hk]; simp [look, Ne.symm hk]
    · rw [if_neg hq]
      by_cases hk : k = d
      · subst hk; simp [look, hq, ih]
      · simp only [look]; by_cases hqk : q = k
        · simp [hqk, hk]
        · simp [hqk, ih, hk]
theorem look_upd {α : Type} (l : List (Nat × α)) (d k : Nat) (x : α) : look (upd l d x) k = if k = d then some x else look l k := by
  induction l with
  | nil => simp [upd, look, eq_comm]
  | cons p r ih =>
    obtain ⟨q, v⟩ := p
    simp only [upd]
    by_cases hq : q = d
    · subst hq
      rw [if_pos rfl]
      by_cases hk : k = q
      · simp [hk, look]
      · rw [if_neg hk]; simp [look, Ne.symm hk, look_drop, hk]
    · rw [if_neg hq]
      by_cases hk : k = d
      · subst hk; simp [look, hq, ih]
      · simp only [look]; by_cases hqk : q = k
        · simp [hqk]; exact fun h => absurd h hk
        · simp [hqk, ih, hk]

/-- Where the call's own blocks lie: block and first cell; 'none': a row that is nil yet. -/
abbrev Map := Nat → Option (Nat × Nat)

def OwnBy (A : Nat → Prop) (ρ : Map) (k : Nat) : Prop := A k ∨ ∃ b o, ρ b = some (k, o)

/-- A value with references. -/
inductive VRel (w : World) (Own : Nat → Prop) (ρ : Map) : AV → Value → Prop
  | tree {x : AV} {v : Value} (h : TRel w Own x v) : VRel w Own ρ x v
  | agg {cs : List AV} {vs : Array Value} (hl : cs.length = vs.size) (h : ∀ i x, cs[i]? = some x → VRel w Own ρ x (vs.getD i undef)) : VRel w Own ρ (.agg cs) (.agg vs)
  | tup {cs : List AV} {vs : Array Value} (hl : cs.length = vs.size) (h : ∀ i x, cs[i]? = some x → VRel w Own ρ x (vs.getD i undef)) : VRel w Own ρ (.tup cs) (.tuple vs)
  | fn {f : FuncId} {cs : List AV} {vs : Array Value} (hl : cs.length = vs.size) (h : ∀ i x, cs[i]? = some x → VRel w Own ρ x (vs.getD i undef)) : VRel w Own ρ (.fn f cs) (.func (.func f) #[] vs)
  | rop {sz : Nat} {es : List (List AV)} {i0 j0 : Nat} {ad : Addr} (val : Nat → Nat → Value) (hs : 0 < sz) (hlen : ∀ e ∈ es, e.length = sz) (hblk : ¬ Own ad.block) (hi : i0 < es.length) (hj : j0 < sz)
      (hcell : ∀ i j x, cellAt es i j = some x → w.cell? (ad.add (i * sz + j)) = some (val i j)) (hone : ∀ i j x, cellAt es i j = some x → one (val i j) = true) (hrel : ∀ i j x, cellAt es i j = some x → TRel w Own x (val i j)) : VRel w Own ρ (.rop sz es i0 j0) (.pointer (some (ad.add (i0 * sz + j0))))
  | ownnil {b sz : Nat} : VRel w Own ρ (.own b sz 0 0) (.slice none 0 0)
  | ownz {b sz lo o : Nat} {ad : Addr} (h : ρ b = some (ad.block, o)) : VRel w Own ρ (.own b sz lo 0) (.slice (some ad) 0 0)
  | own {b sz lo n k o cap : Nat} (h : ρ b = some (k, o)) (hn : n ≤ cap) (hroom : ∀ cur ty fr, w.heap[k]? = some (.cells cur ty fr) → o + (lo + cap) * sz ≤ cur.size) : VRel w Own ρ (.own b sz lo n) (.slice (some ⟨k, o + lo * sz, none⟩) n cap)
  | ownc {b sz lo n k o cap : Nat} (h : ρ b = some (k, o)) (hn : n ≤ cap) (hroom : ∀ cur ty fr, w.heap[k]? = some (.cells cur ty fr) → o + (lo + cap) * sz ≤ cur.size) : VRel w Own ρ (.ownc b sz lo n cap) (.slice (some ⟨k, o + lo * sz, none⟩) n cap)
  | ptr {b sz i j k o : Nat} (h : ρ b = some (k, o)) : VRel w Own ρ (.ptr b sz i j) (.pointer (some ⟨k, o + (i * sz + j), none⟩))
  | dead {v : Value} : VRel w Own ρ .dead v

mutual
/-- All references lead to blocks in 'S'. -/
def refsIn (S : Nat → Prop) : AV → Prop
  | .agg cs => refsInL S cs
  | .tup cs => refsInL S cs
  | .fn _ cs => refsInL S cs
  | .own b _ _ _ => S b
  | .ownc b _ _ _ _ => S b
  | .ptr b _ _ _ => S b
  | .mapr b => S b
  | _ => True
def refsInL (S : Nat → Prop) : List AV → Prop
  | [] => True
  | x :: r => refsIn S x ∧ refsInL S r
end
mutual
/-- References to block 'b' die. -/
def kill (b : Nat) : AV → AV
  | .agg cs => .agg (killL b cs)
  | .tup cs => .tup (killL b cs)
  | .fn f cs => .fn f (killL b cs)
  | .own b' sz lo n => if b' = b then .dead else .own b' sz lo n
  | .ownc b' sz lo n cap => if b' = b then .dead else .ownc b' sz lo n cap
  | .ptr b' sz i j => if b' = b then .dead else .ptr b' sz i j
  | .mapr b' => if b' = b then .dead else .mapr b'
  | x => x
def killL (b : Nat) : List AV → List AV
  | [] => []
  | x :: r => kill b x :: killL b r
end
theorem refsInL_get {S : Nat → Prop} : ∀ {cs : List AV}, refsInL S cs → ∀ (i : Nat) x, cs[i]? = some x → refsIn S x
  | [], _, i, x, h => by simp at h
  | y :: r, hr, 0, x, h => by simp at h; subst h; exact hr.1
  | y :: r, hr, i + 1, x, h => refsInL_get hr.2 i x (by simpa using h)
theorem killL_get {b : Nat} : ∀ {cs : List AV} (i : Nat), (killL b cs)[i]? = (cs[i]?).map (kill b)
  | [], i => by simp [killL]
  | y :: r, 0 => by simp [killL]
  | y :: r, i + 1 => by simpa [killL] using killL_get (cs := r) i
theorem killL_length {b : Nat} : ∀ (cs : List AV), (killL b cs).length = cs.length
  | [] => rfl
  | _ :: r => by simp [killL, killL_length r]
mutual
theorem refs_kill (b : Nat) : ∀ x, refsIn (fun k => k ≠ b) (kill b x)
  | .agg cs => by simp only [kill, refsIn]; exact refs_killL b cs
  | .tup cs => by simp only [kill, refsIn]; exact refs_killL b cs
  | .fn f cs => by simp only [kill, refsIn]; exact refs_killL b cs
  | .own b' sz lo n => by
    by_cases h : b' = b <;> simp [kill, h, refsIn]
  | .ownc b' sz lo n cap => by
    by_cases h : b' = b <;> simp [kill, h, refsIn]
  | .ptr b' sz i j => by
    by_cases h : b' = b <;> simp [kill, h, refsIn]
  | .mapr b' => by
    by_cases h : b' = b <;> simp [kill, h, refsIn]
  | .lit _ => trivial
  | .nils _ => trivial
  | .ro _ _ => trivial
  | .rop _ _ _ _ => trivial
  | .dead => trivial
theorem refs_killL (b : Nat) : ∀ cs, refsInL (fun k => k ≠ b) (killL b cs)
  | [] => trivial
  | x :: r => ⟨refs_kill b x, refs_killL b r⟩
end

/-- A step of memory under which references to blocks in 'S' stay, too: rows keep their sizes. -/
structure KeepsV (w w' : World) (Own Own' : Nat → Prop) (ρ ρ' : Map) (S : Nat → Prop) : Prop extends Keeps w w' Own Own' where
  map : ∀ b, S b → ∀ k o, ρ b = some (k, o) → ρ' b = some (k, o)
  rows : ∀ k cur ty fr, k < w.heap.size → w'.heap[k]? = some (.cells cur ty fr) → ∃ cur0 ty0 fr0, w.heap[k]? = some (.cells cur0 ty0 fr0) ∧ cur0.size = cur.size
  lt : ∀ b k o, ρ b = some (k, o) → k < w.heap.size

theorem VRel.keep {w w' : World} {Own Own' : Nat → Prop} {ρ ρ' : Map} {S : Nat → Prop} (hk : KeepsV w w' Own Own' ρ ρ' S) {x : AV} {v : Value} (h : VRel w Own ρ x v) (hr : refsIn S x) : VRel w' Own' ρ' x v := by
  induction h with
  | tree h => exact .tree (h.keep hk.toKeeps)
  | agg hl _ ih => exact .agg hl (fun i x hx => ih i x hx (refsInL_get (by simpa [refsIn] using hr) i x hx))
  | tup hl _ ih => exact .tup hl (fun i x hx => ih i x hx (refsInL_get (by simpa [refsIn] using hr) i x hx))
  | fn hl _ ih => exact .fn hl (fun i x hx => ih i x hx (refsInL_get (by simpa [refsIn] using hr) i x hx))
  | @rop sz es i0 j0 ad val hs hlen hblk hi hj hcell hone hrel =>
    have hne : es ≠ [] := by intro h; subst h; simp at hi
    obtain ⟨x0, h0⟩ := exists_cell hs hlen hne
    have hlt := cell_lt (hcell 0 0 x0 h0)
    rw [add_blk] at hlt
    exact .rop val hs hlen (fun ho => hblk (hk.own _ hlt ho)) hi hj (fun i j x hx => hk.toKeeps.cell (hcell i j x hx) (by rw [add_blk]; exact hblk)) hone (fun i j x hx => (hrel i j x hx).keep hk.toKeeps)
  | ownnil => exact .ownnil
  | ownz h => exact .ownz (hk.map _ (by simpa [refsIn] using hr) _ _ h)
  | own h hn hroom =>
    refine .own (hk.map _ (by simpa [refsIn] using hr) _ _ h) hn (fun cur ty fr hh => ?_)
    obtain ⟨cur0, ty0, fr0, h0, hsz⟩ := hk.rows _ cur ty fr (hk.lt _ _ _ h) hh
    rw [← hsz]
    exact hroom _ _ _ h0
  | ownc h hn hroom =>
    refine .ownc (hk.map _ (by simpa [refsIn] using hr) _ _ h) hn (fun cur ty fr hh => ?_)
    obtain ⟨cur0, ty0, fr0, h0, hsz⟩ := hk.rows _ cur ty fr (hk.lt _ _ _ h) hh
    rw [← hsz]
    exact hroom _ _ _ h0
  | ptr h => exact .ptr (hk.map _ (by simpa [refsIn] using hr) _ _ h)
  | dead => exact .dead

theorem TRel.kill {w : World} {Own : Nat → Prop} {x : AV} {v : Value} (b : Nat) (h : TRel w Own x v) : TRel w Own (kill b x) v := by
  induction h with
  | lit h => simpa [SX.kill] using .lit h
  | nils => simpa [SX.kill] using .nils
  | ronil => simpa [SX.kill] using .ronil
  | ro val hc hs hlen hblk hne hcell hone hrel _ => simpa [SX.kill] using .ro val hc hs hlen hblk hne hcell hone hrel
  | agg hl _ ih => simp only [SX.kill]; exact .agg (by rw [killL_length]; exact hl) (fun i x hx => by rw [killL_get] at hx; obtain ⟨y, hy, rfl⟩ := Option.map_eq_some_iff.1 hx; exact ih i y hy)
  | tup hl _ ih => simp only [SX.kill]; exact .tup (by rw [killL_length]; exact hl) (fun i x hx => by rw [killL_get] at hx; obtain ⟨y, hy, rfl⟩ := Option.map_eq_some_iff.1 hx; exact ih i y hy)
  | fn hl _ ih => simp only [SX.kill]; exact .fn (by rw [killL_length]; exact hl) (fun i x hx => by rw [killL_get] at hx; obtain ⟨y, hy, rfl⟩ := Option.map_eq_some_iff.1 hx; exact ih i y hy)
theorem VRel.kill {w : World} {Own : Nat → Prop} {ρ : Map} {x : AV} {v : Value} (b : Nat) (h : VRel w Own ρ x v) : VRel w Own ρ (kill b x) v := by
  induction h with
  | tree h => exact .tree (h.kill b)
  | agg hl _ ih => simp only [SX.kill]; exact .agg (by rw [killL_length]; exact hl) (fun i x hx => by rw [killL_get] at hx; obtain ⟨y, hy, rfl⟩ := Option.map_eq_some_iff.1 hx; exact ih i y hy)
  | tup hl _ ih => simp only [SX.kill]; exact .tup (by rw [killL_length]; exact hl) (fun i x hx => by rw [killL_get] at hx; obtain ⟨y, hy, rfl⟩ := Option.map_eq_some_iff.1 hx; exact ih i y hy)
  | fn hl _ ih => simp only [SX.kill]; exact .fn (by rw [killL_length]; exact hl) (fun i x hx => by rw [killL_get] at hx; obtain ⟨y, hy, rfl⟩ := Option.map_eq_some_iff.1 hx; exact ih i y hy)
  | rop val hs hlen hblk hi hj hcell hone hrel => simpa [SX.kill] using .rop val hs hlen hblk hi hj hcell hone hrel
  | ownnil => simp only [SX.kill]; split; exact .dead; exact .ownnil
  | ownz h => simp only [SX.kill]; split; exact .dead; exact .ownz h
  | @own b' sz lo n k o cap h hn hroom => simp only [SX.kill]; split; exact .dead; exact .own h hn hroom
  | @ownc b' sz lo n k o cap h hn hroom => simp only [SX.kill]; split; exact .dead; exact .ownc h hn hroom
  | @ptr b' sz i j k o h => simp only [SX.kill]; split; exact .dead; exact .ptr h
  | dead => simpa [SX.kill] using .dead

/-- What lies in a block. -/
def BRel (w : World) (Own : Nat → Prop) (ρ : Map) (b : Nat) : Blk → Prop
  | .arr ty sz es => match ρ b with
    | none => es = []
    | some (k, o) => ∃ cur, w.heap[k]? = some (.cells cur ty (0, 0)) ∧ (∀ e ∈ es, e.length = sz) ∧ o + es.length * sz ≤ cur.size ∧
        ∀ i j x, cellAt es i j = some x → ∃ v, cur[o + (i * sz + j)]? = some v ∧ one v = true ∧ TRel w Own x v
  | .obj ty cs => ∃ k cur, ρ b = some (k, 0) ∧ w.heap[k]? = some (.cells cur ty (0, 0)) ∧ cur.size = cs.length ∧ ∀ (j : Nat) x, cs[j]? = some x → ∃ v, cur[j]? = some v ∧ one v = true ∧ VRel w Own ρ x v

/-- What an activation began with. -/
structure Ctx where
  w0 : World
  A : Nat → Prop     -- blocks that no tree leads to
  B : Nat → Prop     -- blocks that callers may write
  ρ0 : Map           -- where it found the blocks that it was handed
  F : Nat → Prop     -- blocks that this activation was handed to write
  sub : ∀ k, B k → A k
  tab : theTab.p w0
  tabF : ∀ q, theTab.k q → ¬ F q
  defs : List Deferred

structure Conc (c : Ctx) (st : St) (ρ : Map) (a : Act) (w : World) : Prop where
  slots : ∀ d x, look st.slots d = some x → VRel w (OwnBy c.A ρ) ρ x (a.tmps.getD d undef)
  defers : a.defers = c.defs
  mem : ∀ b blk, look st.mem b = some blk → BRel w (OwnBy c.A ρ) ρ b blk
  dom : ∀ b k o, ρ b = some (k, o) → ∃ blk, look st.mem b = some blk
  lt : ∀ b k o, ρ b = some (k, o) → k < w.heap.size
  inj : ∀ b b' k o o', ρ b = some (k, o) → ρ b' = some (k, o') → b = b'
  mine : ∀ b k o, ρ b = some (k, o) → c.F k ∨ c.w0.heap.size ≤ k
  far : ∀ b k o, ρ b = some (k, o) → ¬ c.B k
  fix : ∀ b ∈ st.fixed, ρ b = c.ρ0 b
  alt : ∀ k, c.B k → k < c.w0.heap.size
  os : w.os = c.w0.os
  tape : w.tape = c.w0.tape
  output : w.output = c.w0.output
  size : c.w0.heap.size ≤ w.heap.size
  frame : ∀ k, k < c.w0.heap.size → ¬ c.F k → w.heap[k]? = c.w0.heap[k]?
  rows : ∀ k cur ty fr, k < c.w0.heap.size → w.heap[k]? = some (.cells cur ty fr) → ∃ cur0 ty0 fr0, c.w0.heap[k]? = some (.cells cur0 ty0 fr0) ∧ cur0.size = cur.size

/-- What lies for good lies still, and is nobody's. -/
theorem Conc.tab {c : Ctx} {st : St} {ρ : Map} {a : Act} {w : World} (h : Conc c st ρ a w) : theTab.p w :=
  theTab.stab c.w0 w (fun q hq => h.frame q (theTab.lt _ c.tab q hq) (c.tabF q hq)) c.tab
theorem Conc.tabρ {c : Ctx} {st : St} {ρ : Map} {a : Act} {w : World} (h : Conc c st ρ a w) (q : Nat) (hq : theTab.k q) (b o : Nat) : ρ b ≠ some (q, o) := fun hb => by
  rcases h.mine _ _ _ hb with h0 | h0
  · exact c.tabF q hq h0
  · have := theTab.lt _ c.tab q hq; omega

/-- That lies in nobody's blocks. -/
def TabOK (ρ : Map) (w : World) : Prop := theTab.p w ∧ ∀ q, theTab.k q → ∀ b o, ρ b ≠ some (q, o)
theorem Conc.tabOK {c : Ctx} {st : St} {ρ : Map} {a : Act} {w : World} (h : Conc c st ρ a w) : TabOK ρ w := ⟨h.tab, h.tabρ⟩

theorem Conc.rows' {c : Ctx} {st : St} {ρ : Map} {a : Act} {w w' : World} (h : Conc c st ρ a w) {Own Own' : Nat → Prop} {ρ1 ρ2 : Map} {S : Nat → Prop} (hk : KeepsV w w' Own Own' ρ1 ρ2 S) :
    ∀ k cur ty fr, k < c.w0.heap.size → w'.heap[k]? = some (.cells cur ty fr) → ∃ cur0 ty0 fr0, c.w0.heap[k]? = some (.cells cur0 ty0 fr0) ∧ cur0.size = cur.size := by
  intro k cur ty fr hlt hh
  obtain ⟨c2, t2, f2, h2, e2⟩ := hk.rows k cur ty fr (Nat.lt_of_lt_of_le hlt h.size) hh
  obtain ⟨c3, t3, f3, h3, e3⟩ := h.rows k c2 t2 f2 hlt h2
  exact ⟨c3, t3, f3, h3, e3.trans e2⟩

mutual
theorem refs_all : ∀ x, refsIn (fun _ => True) x
  | .agg cs => by simp only [refsIn]; exact refs_allL cs
  | .tup cs => by simp only [refsIn]; exact refs_allL cs
  | .fn f cs => by simp only [refsIn]; exact refs_allL cs
  | .own b' sz lo n => by simp [refsIn]
  | .ownc b' sz lo n cap => by simp [refsIn]
  | .ptr b' sz i j => by simp [refsIn]
  | .mapr b' => by simp [refsIn]
  | .lit _ => trivial
  | .nils _ => trivial
  | .ro _ _ => trivial
  | .rop _ _ _ _ => trivial
  | .dead => trivial
theorem refs_allL : ∀ cs, refsInL (fun _ => True) cs
  | [] => trivial
  | x :: r => ⟨refs_all x, refs_allL r⟩
end

theorem VRel.lit_inv {w : World} {Own : Nat → Prop} {ρ : Map} {x v : Value} (h : VRel w Own ρ (.lit v) x) : x = v ∧ flat v = true := by
  cases h with
  | tree h => cases h with
    | lit h => exact ⟨rfl, h⟩

/-- The heap alone counts. -/
theorem KeepsV.eq {w w' : World} {Own : Nat → Prop} {ρ : Map} (h : w'.heap = w.heap) (lt : ∀ b k o, ρ b = some (k, o) → k < w.heap.size) : KeepsV w w' Own Own ρ ρ (fun _ => True) where
  size := by rw [h]; exact Nat.le_refl _
  same k _ _ := by rw [h]
  own k _ hk := hk
  map b _ k o hb := hb
  rows k cur ty fr _ hh := ⟨cur, ty, fr, by rwa [h] at hh, rfl⟩
  lt := lt

/-- What holds of a block holds of it behind a step that leaves it alone. -/
theorem BRel.keep {w w' : World} {Own Own' : Nat → Prop} {ρ ρ' : Map} {S : Nat → Prop} (hk : KeepsV w w' Own Own' ρ ρ' S) {b : Nat} {blk : Blk} (h : BRel w Own ρ b blk) (hρ : ρ' b = ρ b)
    (hb : ∀ k o, ρ b = some (k, o) → w'.heap[k]? = w.heap[k]?) (hr : ∀ ty cs, blk = .obj ty cs → refsInL S cs) : BRel w' Own' ρ' b blk := by
  cases blk with
  | arr ty sz es =>
    simp only [BRel] at h ⊢
    rw [hρ]
    cases hb' : ρ b with
    | none => rw [hb'] at h; exact h
    | some p =>
      obtain ⟨k, o⟩ := p
      rw [hb'] at h
      obtain ⟨cur, h1, h2, h3, h4⟩ := h
      exact ⟨cur, (hb k o hb').trans h1, h2, h3, fun i j x hx => by
        obtain ⟨v, hv, h1v, ht⟩ := h4 i j x hx
        exact ⟨v, hv, h1v, ht.keep hk.toKeeps⟩⟩
  | obj ty cs =>
    obtain ⟨k, cur, h0, h1, h2, h3⟩ := h
    refine ⟨k, cur, hρ.trans h0, (hb k 0 h0).trans h1, h2, fun j x hx => ?_⟩
    obtain ⟨v, hv, h1v, ht⟩ := h3 j x hx
    exact ⟨v, hv, h1v, ht.keep hk (refsInL_get (hr ty cs rfl) j x hx)⟩

def St.put (st : St) (d : Nat) (x : AV) : St := { st with slots := upd st.slots d x }

theorem tmps_put (a : Act) (d : Nat) (v : Value) : (a.put (some d) v).tmps = a.tmps.setIfInBounds d v := rfl

theorem Conc.put {c : Ctx} {st : St} {ρ : Map} {a : Act} {w : World} (h : Conc c st ρ a w) {d : Nat} (hd : d < a.tmps.size) {x : AV} {v : Value} (hx : VRel w (OwnBy c.A ρ) ρ x v) : Conc c (st.put d x) ρ (a.put (some d) v) w where
  slots d' x' h' := by
    simp only [St.put, look_upd] at h'
    rw [tmps_put]
    by_cases e : d' = d
    · subst e
      rw [if_pos rfl] at h'
      injection h' with h'
      subst h'
      have e2 : (a.tmps.setIfInBounds d' v).getD d' undef = v := by simp [hd]
      rw [e2]; exact hx
    · rw [if_neg e] at h'
      have := h.slots d' x' h'
      have e2 : (a.tmps.setIfInBounds d v).getD d' undef = a.tmps.getD d' undef := by
        simp [Array.getD_eq_getD_getElem?, Ne.symm e]
      rwa [e2]
  defers := h.defers
  mem := h.mem
  dom := h.dom
  lt := h.lt
  inj := h.inj
  mine := h.mine
  far := h.far
  fix := h.fix
  alt := h.alt
  os := h.os
  tape := h.tape
  output := h.output
  size := h.size
  frame := h.frame
  rows := h.rows

/-- A draw. -/
theorem Conc.world {c : Ctx} {st : St} {ρ : Map} {a : Act} {w w' : World} (h : Conc c st ρ a w) (e : w'.heap = w.heap) (e1 : w'.os = w.os) (e2 : w'.tape = w.tape) (e3 : w'.output = w.output) : Conc c st ρ a w' := by
  have hk : KeepsV w w' (OwnBy c.A ρ) (OwnBy c.A ρ) ρ ρ (fun _ => True) := .eq e h.lt
  exact { slots := fun d x hx => (h.slots d x hx).keep hk (refs_all x), defers := h.defers, mem := fun b blk hb => (h.mem b blk hb).keep hk rfl (fun k o _ => by rw [e]) (fun _ cs _ => refs_allL cs), dom := h.dom, lt := fun b k o hb => by rw [e]; exact h.lt b k o hb, inj := h.inj, mine := h.mine, far := h.far, fix := h.fix, alt := h.alt, os := e1.trans h.os, tape := e2.trans h.tape, output := e3.trans h.output, size := by rw [e]; exact h.size, frame := fun k hk hf => by rw [e]; exact h.frame k hk hf, rows := fun k cur ty fr hk hh => h.rows k cur ty fr hk (by rwa [e] at hh) }

/-- Fewer slots are known. -/
theorem Conc.less {c : Ctx} {st : St} {ρ : Map} {a : Act} {w : World} (h : Conc c st ρ a w) (s : Slots) (hs : ∀ d x, look s d = some x → look st.slots d = some x) : Conc c { st with slots := s } ρ a w :=
  { slots := fun d x hx => h.slots d x (hs d x hx), defers := h.defers, mem := h.mem, dom := h.dom, lt := h.lt, inj := h.inj, mine := h.mine, far := h.far, fix := h.fix, alt := h.alt, os := h.os, tape := h.tape, output := h.output, size := h.size, frame := h.frame, rows := h.rows }

end Go.SX
