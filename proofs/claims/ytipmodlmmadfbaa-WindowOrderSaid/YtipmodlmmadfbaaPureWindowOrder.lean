/- Up to eight numbers make the same, in whatever order they are put: of all lists (of more than 8 numbers, or of two that are the same, the law says nothing). -/
import Derived.Test.YtipmodlmmadfbaaQWindowOrder
namespace Go.Proofs.Ytipmodlmmadfbaa.Pure
open Go.RowKit Go.Proofs.Ytipmodlmmadfbaa.PWindowOrder Go.Proofs.YtipmodlmmadfbaaW.PrintWords Go.Proofs.YtipmodlmmadfbaaW.PrintLast

def mk (y : Int) : S42 := ⟨y, ⟨0, y, noA⟩⟩
def ok (y : Int) : Prop := 1 ≤ y ∧ y ≤ 1073741824
/-- What the numbers 'm' make. -/
structure Of (l : List S42) (m : List Int) : Prop where
  wf : Wf 0 l
  std : l = (ks l).map mk
  mem : ∀ x, x ∈ ks l ↔ x ∈ m ∧ ok x

theorem std_put {l : List S42} (h : l = (ks l).map mk) (y : Int) : putL l y 0 y noA = (ks (putL l y 0 y noA)).map mk := by
  rw [ks_putL]
  unfold putL
  simp only [List.map_append, List.map_cons]
  have e : ∀ p : Int → Bool, l.filter (fun x => p x.f0) = ((ks l).filter p).map mk := fun p => by
    conv => lhs; rw [h]
    rw [List.filter_map]; rfl
  rw [e (fun x => decide (x < y)), e (fun x => decide (y < x))]; rfl

theorem Of.put {l : List S42} {m z : List Int} (h : Of l m) (hm : ∀ x ∈ m, x ∈ z) (hz : z.length ≤ 8) {y : Int} (hy : y ∈ z) :
    (putW 0 l y 0 y noA).2.2 = 0 ∧ (putW 0 l y 0 y noA).1 = 0 ∧ Of (putW 0 l y 0 y noA).2.1 (y :: m) ∨ (putW 0 l y 0 y noA).2.2 ≠ 0 ∧ Of l (y :: m) := by
  by_cases h0 : (putW 0 l y 0 y noA).2.2 = 0
  · obtain ⟨hw, a1, a2, a3, a4, a5, _, _, a7⟩ := put_ok h0
    have hlen : (y :: ks l).length ≤ z.length := nodup_le (List.nodup_cons.2 ⟨a4, up_nodup hw.up⟩) (fun x hx => by
      rcases List.mem_cons.1 hx with rfl | hx
      · exact hy
      · exact hm x ((h.mem x).1 hx).1)
    simp only [List.length_cons, ks, List.length_map] at hlen
    rcases a7 with ⟨e1, e2, e3⟩ | ⟨e1, e2, e3, e4⟩
    · left
      rw [e1] at a5
      refine ⟨h0, e1, a5, ?_, fun x => ?_⟩
      · rw [e3]; exact std_put h.std y
      · rw [e3, mem_putL, h.mem x, List.mem_cons]
        constructor
        · rintro (rfl | ⟨hx, ho⟩)
          · exact ⟨.inl rfl, a1, a2⟩
          · exact ⟨.inr hx, ho⟩
        · rintro ⟨rfl | hx, ho⟩
          · exact .inl rfl
          · exact .inr ⟨hx, ho⟩
    · omega
  · right
    refine ⟨h0, h.wf, h.std, fun x => ?_⟩
    rw [h.mem x, List.mem_cons]
    constructor
    · rintro ⟨hx, ho⟩; exact ⟨.inr hx, ho⟩
    · rintro ⟨rfl | hx, ho⟩
      · by_cases hin : x ∈ ks l
        · exact ⟨((h.mem x).1 hin).1, ho⟩
        · exact absurd (put_no h.wf ho.1 ho.2 (by have := ho.1; omega) hin) h0
      · exact ⟨hx, ho⟩

theorem up_eq : ∀ {a b : List Int}, a.Pairwise (· < ·) → b.Pairwise (· < ·) → (∀ x, x ∈ a ↔ x ∈ b) → a = b
  | [], [], _, _, _ => rfl
  | [], y :: r, _, _, h => by have := (h y).2 List.mem_cons_self; simp at this
  | x :: r, [], _, _, h => by have := (h x).1 List.mem_cons_self; simp at this
  | x :: r, y :: s, ha, hb, h => by
    obtain ⟨a1, a2⟩ := List.pairwise_cons.1 ha
    obtain ⟨b1, b2⟩ := List.pairwise_cons.1 hb
    have hxy : x = y := by
      rcases List.mem_cons.1 ((h x).1 List.mem_cons_self) with h1 | h1
      · exact h1
      · rcases List.mem_cons.1 ((h y).2 List.mem_cons_self) with h2 | h2
        · exact h2.symm
        · have := b1 x h1; have := a1 y h2; omega
    subst hxy
    rw [up_eq a2 b2 (fun z => ?_)]
    constructor
    · intro hz
      rcases List.mem_cons.1 ((h z).1 (List.mem_cons_of_mem _ hz)) with h1 | h1
      · have := a1 z hz; omega
      · exact h1
    · intro hz
      rcases List.mem_cons.1 ((h z).2 (List.mem_cons_of_mem _ hz)) with h1 | h1
      · have := b1 z hz; omega
      · exact h1

theorem Of.eq {a b : List S42} {m p : List Int} (ha : Of a m) (hb : Of b p) (h : ∀ x, x ∈ m ↔ x ∈ p) : a = b := by
  rw [ha.std, hb.std, up_eq ha.wf.up hb.wf.up (fun x => by rw [ha.mem, hb.mem, h])]

theorem of_congr {l : List S42} {m p : List Int} (h : Of l m) (e : ∀ x, x ∈ p ↔ x ∈ m) : Of l p := ⟨h.wf, h.std, fun x => by rw [h.mem, e]⟩

/-- Behind the look for one that is the same. -/
theorem turn_ev (z : List Int) (hz : z.length ≤ 8) (i : Nat) (hi : i < z.length) (a b : List S42) (m p : List Int) (ha : Of a m) (hb : Of b p) (hm : ∀ x ∈ m, x ∈ z) (hp : ∀ x ∈ p, x ∈ z)
    (hr : ∀ a' b', Of a' (z[i] :: m) → Of b' (z[z.length - 1 - i] :: p) → Ev (fun k => colloquylaw17_WindowOrder.l0 k z ((i + 1 : Nat) : Int) 0 a' 0 b') true) : ∀ (d j : Nat), j + d = i → Ev (fun k => colloquylaw17_WindowOrder.l1 k z (i : Int) (j : Int) 0 a 0 b) true
  | 0, j, h => by
    have hw := wrap_up hi (by omega)
    have hq : z.length - 1 - i < z.length := by omega
    have hwn : wrap64 (wrap64 ((z.length : Int) - 1) - (i : Int)) = ((z.length - 1 - i : Nat) : Int) := by
      rw [wrap_in (x := (z.length : Int) - 1) (by omega) (by omega), wrap_in (by omega) (by omega)]; omega
    have p1 := put_is 0 a z[i] 0 z[i] noA (by have := ha.wf.2.2.1; omega)
    have p2 := put_is 0 b z[z.length - 1 - i] 0 z[z.length - 1 - i] noA (by have := hb.wf.2.2.1; omega)
    refine Ev.step (f := fun k => (window_Put.f k 0 a z[i] 0 z[i] noA).bind fun bt147 => (if bt147.2.2 = 0 then ((window_Put.f k 0 b z[z.length - 1 - i] 0 z[z.length - 1 - i] noA).bind fun bt154 => (if bt154.2.2 = 0 then (colloquylaw17_WindowOrder.l0 k z ((i + 1 : Nat) : Int) bt147.1 bt147.2.1 bt154.1 bt154.2.1) else (colloquylaw17_WindowOrder.l0 k z ((i + 1 : Nat) : Int) bt147.1 bt147.2.1 0 b))) else ((window_Put.f k 0 b z[z.length - 1 - i] 0 z[z.length - 1 - i] noA).bind fun bt161 => (if bt161.2.2 = 0 then (colloquylaw17_WindowOrder.l0 k z ((i + 1 : Nat) : Int) 0 a bt161.1 bt161.2.1) else (colloquylaw17_WindowOrder.l0 k z ((i + 1 : Nat) : Int) 0 a 0 b))))) (fun k => ?_) (Ev.bind p1 ?_)
    · simp only [colloquylaw17_WindowOrder.l1]
      rw [if_neg (by omega), if_pos (by omega), if_pos (by omega), rd_at hi, hw, hwn, rd_at hq]
      simp only [show (0 : Int) ≤ ((z.length - 1 - i : Nat) : Int) from by omega, show ((z.length - 1 - i : Nat) : Int) < (z.length : Int) from by omega, if_true]
    · have ca := ha.put hm hz (List.getElem_mem hi)
      have cb := hb.put hp hz (List.getElem_mem hq)
      rcases ca with ⟨e1, e2, e3⟩ | ⟨e1, e3⟩ <;> rcases cb with ⟨f1, f2, f3⟩ | ⟨f1, f3⟩
      · simp only [e1, if_true]
        refine Ev.bind p2 ?_
        simp only [f1, if_true, e2, f2]; exact hr _ _ e3 f3
      · simp only [e1, if_true]
        refine Ev.bind p2 ?_
        simp only [f1, if_false, e2]; exact hr _ _ e3 f3
      · simp only [e1, if_false]
        refine Ev.bind p2 ?_
        simp only [f1, if_true, f2]; exact hr _ _ e3 f3
      · simp only [e1, if_false]
        refine Ev.bind p2 ?_
        simp only [f1, if_false]; exact hr _ _ e3 f3
  | d + 1, j, h => by
    have hj : j < z.length := by omega
    have hw := wrap_up hj (by omega)
    by_cases he : z[i] = z[j]
    · refine Ev.step (f := fun _ => some true) (fun k => ?_) (Ev.now _)
      simp only [colloquylaw17_WindowOrder.l1]; rw [if_pos (by omega), if_pos (by omega), if_pos (by omega), if_pos (by omega), if_pos (by omega), rd_at hi, rd_at hj, if_pos he]
    · refine Ev.step (f := fun k => colloquylaw17_WindowOrder.l1 k z (i : Int) ((j + 1 : Nat) : Int) 0 a 0 b) (fun k => ?_) (turn_ev z hz i hi a b m p ha hb hm hp hr d (j + 1) (by omega))
      simp only [colloquylaw17_WindowOrder.l1]; rw [if_pos (by omega), if_pos (by omega), if_pos (by omega), if_pos (by omega), if_pos (by omega), rd_at hi, rd_at hj, if_neg he, hw]

theorem run_ev (z : List Int) (hz : z.length ≤ 8) : ∀ (d i : Nat) (a b : List S42), i + d = z.length → Of a (z.take i) → Of b (z.drop (z.length - i)) → Ev (fun k => colloquylaw17_WindowOrder.l0 k z (i : Int) 0 a 0 b) true
  | 0, i, a, b, e, ha, hb => by
    have hab : a = b := ha.eq hb (fun x => by rw [List.take_of_length_le (by omega), show z.length - i = 0 from by omega, List.drop_zero])
    subst hab
    refine Ev.step (f := fun k => (colloquyref17_Same.f k 0 a 0 a).bind fun t142 => (some t142)) (fun k => by simp only [colloquylaw17_WindowOrder.l0]; rw [if_neg (by omega)]) (Ev.bind (same_is 0 a (by have := ha.wf.2.2.1; omega)) (Ev.now _))
  | d + 1, i, a, b, e, ha, hb => by
    have hi : i < z.length := by omega
    have hq : z.length - 1 - i < z.length := by omega
    refine Ev.step (f := fun k => colloquylaw17_WindowOrder.l1 k z (i : Int) 0 0 a 0 b) (fun k => by simp only [colloquylaw17_WindowOrder.l0]; rw [if_pos (by omega)]) ?_
    refine turn_ev z hz i hi a b _ _ ha hb (fun x hx => List.mem_of_mem_take hx) (fun x hx => List.mem_of_mem_drop hx) (fun a' b' ha' hb' => ?_) i 0 (by omega)
    refine run_ev z hz d (i + 1) a' b' (by omega) (of_congr ha' (fun x => ?_)) (of_congr hb' (fun x => ?_))
    · rw [List.take_succ_eq_append_getElem hi, List.mem_append, List.mem_cons]; simp [or_comm]
    · rw [show z.length - (i + 1) = z.length - 1 - i from by omega, List.drop_eq_getElem_cons hq, show z.length - 1 - i + 1 = z.length - i from by omega]

theorem WindowOrder : colloquylaw17_WindowOrder.Pure := by
  intro z h1 h2 h3
  refine Ev.rounds (g := fun k => colloquylaw17_WindowOrder.f k z) ?_
  unfold colloquylaw17_WindowOrder.f
  refine Ev.bind awake_is ?_
  simp only [if_true]
  by_cases hz : (z.length : Int) > 8
  · refine Ev.congr (fun k => ?_) (Ev.step (g := fun k => colloquylaw17_WindowOrder.j0 k z true true) (f := fun _ => some true) (fun k => by simp only [colloquylaw17_WindowOrder.j0, if_true]) (Ev.now _))
    rw [decide_eq_true hz]
  · refine Ev.congr (fun k => ?_) (Ev.step (g := fun k => colloquylaw17_WindowOrder.j0 k z true false) (f := fun k => colloquylaw17_WindowOrder.l0 k z 0 0 [] 0 []) (fun k => by simp only [colloquylaw17_WindowOrder.j0]; rw [if_neg (by simp)]) ?_)
    · rw [decide_eq_false hz]
    · exact run_ev z (by omega) z.length 0 [] [] (by omega) ⟨wf0, rfl, by simp [ks]⟩ ⟨wf0, rfl, by simp [ks]⟩
end Go.Proofs.Ytipmodlmmadfbaa.Pure
