/- SX, part T: what lies for good in chapter 16's program (and its kin): Go's two tables of unicode/utf8, blocks 0 and 1. -/
import Derived.Below
import Derived.Shelf.Unicode.DecodeSlow
namespace Go.SX
open Go

structure Tab where
  p : World → Prop
  k : Nat → Prop
  lt : ∀ w, p w → ∀ q, k q → q < w.heap.size
  stab : ∀ w w' : World, (∀ q, k q → w'.heap[q]? = w.heap[q]?) → p w → p w'

def theTab : Tab := ⟨Lib.Utf8Tabs 0 1, fun q => q = 0 ∨ q = 1,
  fun w h q hq => by
    rcases hq with rfl | rfl
    · exact World.block_lt_of_cell? w _ (h.1 0 (by omega))
    · exact World.block_lt_of_cell? w _ (h.2 0 (by omega)).1,
  fun w w' hs h => ⟨fun c hc => (World.cell?_of_block (a := ⟨0, c, none⟩) (hs 0 (.inl rfl))).trans (h.1 c hc),
    fun i hi => ⟨(World.cell?_of_block (a := ⟨1, 2 * i, none⟩) (hs 1 (.inr rfl))).trans (h.2 i hi).1, (World.cell?_of_block (a := ⟨1, 2 * i + 1, none⟩) (hs 1 (.inr rfl))).trans (h.2 i hi).2⟩⟩⟩
end Go.SX
