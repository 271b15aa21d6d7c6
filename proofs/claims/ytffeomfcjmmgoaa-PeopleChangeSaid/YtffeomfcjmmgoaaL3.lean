/- Chapter 15: a channel that is handed back, as the print tells it. -/
import Derived.Test.YtffeomfcjmmgoaaL2
import Derived.Test.YtffeomfcjmmgoaaSxBr
set_option linter.unusedVariables false
set_option linter.unusedSimpArgs false
namespace Go.SX
open Go
theorem arr1 {a : Array Value} {x : Value} (h : a.size = 1) (h0 : a.getD 0 undef = x) : a = #[x] := by
  apply Array.ext
  · simpa using h
  · intro i hi _; have : i = 0 := by omega
    subst this; simp [hi] at h0; simpa using h0
theorem arr2 {a : Array Value} {x y : Value} (h : a.size = 2) (h0 : a.getD 0 undef = x) (h1 : a.getD 1 undef = y) : a = #[x, y] := by
  apply Array.ext
  · simpa using h
  · intro i hi _
    match i, hi with
    | 0, hi => simp [hi] at h0; simpa using h0
    | 1, hi => simp [hi] at h1; simpa using h1
    | (i + 2), hi => omega
theorem arr3 {a : Array Value} {x y z : Value} (h : a.size = 3) (h0 : a.getD 0 undef = x) (h1 : a.getD 1 undef = y) (h2 : a.getD 2 undef = z) : a = #[x, y, z] := by
  apply Array.ext
  · simpa using h
  · intro i hi _
    match i, hi with
    | 0, hi => simp [hi] at h0; simpa using h0
    | 1, hi => simp [hi] at h1; simpa using h1
    | 2, hi => simp [hi] at h2; simpa using h2
    | (i + 3), hi => omega
theorem tup2 {w : World} {Own : Nat → Prop} {x y : Value} (h0 : flat x = true) (h1 : flat y = true) : TRel w Own (.tup [.lit x, .lit y]) (.tuple #[x, y]) :=
  .tup rfl (fun i z hz => by
    match i, hz with
    | 0, hz => injection hz with hz; subst hz; exact .lit h0
    | 1, hz => injection hz with hz; subst hz; exact .lit h1
    | (i + 2), hz => simp at hz)
end Go.SX
namespace Go.Proofs.Ytffeomfcjmmgoaa.F
open Go Go.SX Go.RowKit Go.Proofs.YtffeomfcjmmgoaaW.PrintWords

theorem backCh {w w' : World} {v : Value} {r : AV} {m : Mem} {ρ' : Map} {r1 r2 r4 : Int} {r3 : List Int} (hM : MemOK (fun _ => False) m ρ' w') (hA : After w w' (fun _ => none) ρ' []) (hv : VRel w' (OwnBy (fun _ => False) ρ') ρ' r v)
    (h : (r = noCh r4 ∧ r1 = 0 ∧ r2 = 0 ∧ r3 = []) ∨ ∃ q, r = .tup [.agg [iv r1, iv r2, .own q 1 0 r3.length], iv r4] ∧ m = [(q, .arr 3 1 (ints r3))] ∧ r3.length ≤ 9223372036854775807) :
    ∃ v2_ : Value, Ending.returned v = .returned (.tuple #[.agg #[.int .i64 r1, .int .i64 r2, v2_], .int .i64 r4]) ∧ Kd.V (Kd.int .i64) 3 w' w.heap.size (fun k_ => w.heap.size ≤ k_) v2_ r3 ∧ Below w.heap.size w w' := by
  have hsh : ∀ x, r = .tup [.agg [iv r1, iv r2, x], iv r4] → ∃ v2, v = .tuple #[.agg #[.int .i64 r1, .int .i64 r2, v2], .int .i64 r4] ∧ VRel w' (OwnBy (fun _ => False) ρ') ρ' x v2 := by
    rintro x rfl
    obtain ⟨us, rfl, hul, hus⟩ := hv.tup_inv
    obtain ⟨cs, hc, hcl, hcs⟩ := (hus 0 _ rfl).agg_inv
    obtain ⟨e1, _⟩ := (hus 1 _ rfl).lit_inv
    obtain ⟨g0, _⟩ := (hcs 0 _ rfl).lit_inv
    obtain ⟨g1, _⟩ := (hcs 1 _ rfl).lit_inv
    refine ⟨cs.getD 2 undef, ?_, hcs 2 _ rfl⟩
    have h1 := arr2 (by simpa using hul.symm) hc e1
    have h2 : cs = #[.int .i64 r1, .int .i64 r2, cs.getD 2 undef] := arr3 (by simpa using hcl.symm) g0 g1 rfl
    rw [h1]
    exact congrArg (fun z => Value.tuple #[Value.agg z, .int .i64 r4]) h2
  rcases h with ⟨rfl, rfl, rfl, rfl⟩ | ⟨q, hr, rfl, hlen⟩
  · obtain ⟨v2, rfl, h2⟩ := hsh _ rfl
    have : v2 = .slice none 0 0 := by
      cases h2 with
      | tree h => cases h; rfl
    subst this
    exact ⟨_, rfl, ⟨none, 0, rfl, Nat.le_refl _, fun W' _ => ⟨rfl, by simp, fun h => by simp at h⟩⟩, hA.below⟩
  · obtain ⟨v2, rfl, h2⟩ := hsh _ hr
    refine ⟨_, rfl, (Flat.int .i64).back (b := q) (lo := 0) (n := r3.length) (es := ints r3) hM hA h2 (show SX.look [(q, Blk.arr 3 1 (ints r3))] q = some (.arr 3 (Kd.int .i64).sz (ints r3)) by simp [SX.look]; rfl) rfl (by simp) ?_ hlen, hA.below⟩
    rw [List.drop_zero, List.take_of_length_le (by simp)]
    rfl
end Go.Proofs.Ytffeomfcjmmgoaa.F
