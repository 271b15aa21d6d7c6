/- Chapter 16: text.May (36): a range over a string, by the kit's walk. -/
import Derived.Test.YtifpfpiljionmaaDoorU8
import Derived.WalkKit
import Derived.BigCall
import Derived.Lib.OthersKept
namespace Go.Proofs
open Go.RowKit Go.Lib

/-- Are the runes from a place on none below a space, and no rubout? -/
def Tryd.runes (s : ByteArray) : Nat → Nat → Bool
  | 0, _ => true
  | fuel + 1, pos => if pos < s.size then (if (Utf8.decode s pos).1 < 32 ∨ (Utf8.decode s pos).1 = 127 then false else Tryd.runes s fuel (pos + (Utf8.decode s pos).2)) else true
def Tryd.mayR (s : ByteArray) : Bool := decide (1 ≤ s.size) && decide (s.size ≤ 64) && Lib.validD s.data.toList && Tryd.runes s s.size 0

theorem Tryd.width_pos (s : ByteArray) (pos : Nat) (h : pos < s.size) : 1 ≤ (Utf8.decode s pos).2 := by
  by_cases ha : (s[pos]'h).toNat < 128
  · rw [decode_ascii s pos h ha]
    exact Nat.le_refl _
  · exact (decode_high s pos h (by omega)).2

theorem Tryd.runes_end (s : ByteArray) (fuel pos : Nat) (h : ¬ pos < s.size) : Tryd.runes s fuel pos = true := by
  cases fuel with
  | zero => rfl
  | succ f => simp [Tryd.runes, h]

set_option maxHeartbeats 4000000 in
set_option maxRecDepth 1000000 in
theorem Tryd.may_walk (s : ByteArray) (w : World) (hs : s.size ≤ 9223372036854775807) (hT : Lib.Utf8Tabs 0 1 w) :
    Calls Tryd.prog 36 #[.string s] w fun e w' => e = .returned (.bool (Tryd.mayR s)) ∧ Below w.heap.size w w' := by
  have cV : Calls Tryd.prog 43 #[.string s] w _ := Any.utf8_ValidString Tryd.laysValid s w hs hT
  obtain ⟨V, hV⟩ : ∃ V, Lib.validD s.data.toList = V := ⟨_, rfl⟩
  obtain ⟨A, hA⟩ : ∃ A, Tryd.mayR s = A := ⟨_, rfl⟩
  rw [hA]
  rw [hV] at cV
  by_cases h1 : s.size < 1
  · have hAf : A = false := by rw [← hA]; unfold Tryd.mayR; rw [decide_eq_false (by omega)]; rfl
    subst hAf
    have h1z : (s.size : Int) < 1 := by omega
    clear cV
    go_enter Tryd.func36, Tryd.ntmps36
    go_wp2
    go_ret
    exact ⟨rfl, by first | assumption | exact Below.refl _ _⟩
  · have h1z : ¬ ((s.size : Int) < 1) := by omega
    by_cases h2 : 64 < s.size
    · have hAf : A = false := by rw [← hA]; unfold Tryd.mayR; rw [decide_eq_false (p := s.size ≤ 64) (by omega)]; simp
      subst hAf
      have h2z : (64 : Int) < (s.size : Int) := by omega
      clear cV
      go_enter Tryd.func36, Tryd.ntmps36
      go_wp2
      go_ret
      exact ⟨rfl, by first | assumption | exact Below.refl _ _⟩
    · have h2z : ¬ ((64 : Int) < (s.size : Int)) := by omega
      cases hVb : V
      · subst hVb
        have hAf : A = false := by rw [← hA]; unfold Tryd.mayR; rw [hV]; simp
        subst hAf
        go_enter Tryd.func36, Tryd.ntmps36
        go_wp2_with (go_at_call 43; refine cV.mono ?_; rintro e w' ⟨rfl, hb⟩)
        go_ret
        exact ⟨rfl, hb⟩
      · subst hVb
        have hAr : Tryd.runes s s.size 0 = A := by rw [← hA]; unfold Tryd.mayR; rw [hV, decide_eq_true (p := 1 ≤ s.size) (by omega), decide_eq_true (p := s.size ≤ 64) (by omega)]; rfl
        clear hA hV
        go_enter Tryd.func36, Tryd.ntmps36
        go_wp2_with (go_at_call 43; refine cV.mono ?_; rintro e w1 ⟨rfl, hb⟩)
        have hsz1 := hb.size
        go_loopw [] (fun wr => ∃ (pos fuel : Nat), wr.heap[w1.heap.size]? = some (.stringIter s pos) ∧ Below w.heap.size w wr ∧ Tryd.runes s fuel pos = A ∧ s.size ≤ pos + fuel) (fun wr => s.size - wr.iterPos w1.heap.size)
        case atStart =>
          refine ⟨0, s.size, ?_, hb.alloc (by omega) _, hAr, by omega⟩
          have := World.iter_heap w1 s 0
          simpa using this
        case round =>
          obtain ⟨pos, fuel, hit, hbw, hacc, hfu⟩ := hrel
          have hsz : w1.heap.size < wr.heap.size := (Array.getElem?_eq_some_iff.1 hit).1
          by_cases hp : pos < s.size
          · have hnx : ∀ ty, (Instr.next (.pointer (some ⟨w1.heap.size, 0, none⟩)) true ty).run Tryd.prog wr = _ := fun ty => Lib.run_next_any_at wr w1.heap.size s pos ty hit hp
            have hwd := Tryd.width_pos s pos hp
            have hit2 := Lib.iterAt_heap wr w1.heap.size s pos (pos + (Utf8.decode s pos).2) hit
            have hbw2 := Lib.below_iterAt hbw (k := w1.heap.size) (by omega) s (pos + (Utf8.decode s pos).2)
            obtain ⟨f, rfl⟩ : ∃ f, fuel = f + 1 := ⟨fuel - 1, by omega⟩
            simp only [Tryd.runes, hp, if_true] at hacc
            by_cases h32 : (Utf8.decode s pos).1 < 32
            · have h32z : ((Utf8.decode s pos).1 : Int) < 32 := by omega
              rw [if_pos (.inl h32)] at hacc
              subst hacc
              go_wp2
              go_ret
              exact ⟨rfl, hbw2⟩
            · have h32z : ¬ (((Utf8.decode s pos).1 : Int) < 32) := by omega
              by_cases h127 : (Utf8.decode s pos).1 = 127
              · have h127z : ((Utf8.decode s pos).1 : Int) = 127 := by omega
                rw [if_pos (.inr h127)] at hacc
                subst hacc
                go_wp2
                go_ret
                exact ⟨rfl, hbw2⟩
              · have h127z : ¬ (((Utf8.decode s pos).1 : Int) = 127) := by omega
                rw [if_neg (by omega)] at hacc
                go_wp2
                go_roundw
                case rel => exact ⟨_, f, hit2, hbw2, hacc, by omega⟩
                case measure =>
                  simp only [World.iterPos, hit2, hit]
                  omega
          · have hnx : ∀ ty, (Instr.next (.pointer (some ⟨w1.heap.size, 0, none⟩)) true ty).run Tryd.prog wr = _ := fun ty => Lib.run_next_end_at wr w1.heap.size s pos ty hit hp
            rw [Tryd.runes_end s fuel pos hp] at hacc
            subst hacc
            go_wp2
            go_ret
            exact ⟨rfl, hbw⟩
end Go.Proofs
namespace Go.Proofs.YtifpfpiljionmaaDoor.F
open Go Go.SX
/-- colloquy/text.May -/
theorem d36 (s : ByteArray) (hs : s.size ≤ 9223372036854775807) : Does Tryd.prog 36 [sv s] [] [] (fun r m => m = [] ∧ r = bv (Tryd.mayR s)) := by
  refine Does.of_plainT (v := .bool (Tryd.mayR s)) (by kernel_rfl) (fun _ _ _ => .tree (.lit rfl)) (fun w Own vs ht hlen hv => ?_)
  have h0 := (hv 0 _ rfl).lit_inv.1
  have hvs : vs = #[.string s] := by
    apply Array.ext
    · simpa using hlen.symm
    · intro i h1 h2
      have : i = 0 := by simp at h2; omega
      subst this
      simpa [Array.getD_eq_getD_getElem?, h1] using h0
  subst hvs
  exact Tryd.may_walk s w hs ht
end Go.Proofs.YtifpfpiljionmaaDoor.F
