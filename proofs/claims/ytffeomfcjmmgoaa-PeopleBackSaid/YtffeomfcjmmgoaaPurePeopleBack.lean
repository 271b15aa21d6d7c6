/- Who joined a channel is in it, and can't join once more; who joins and leaves leaves it as it was; others stay in it, or out of it. The law holds of all channels and users (of more than 100 members it says nothing). -/
import Derived.Test.YtffeomfcjmmgoaaQPeopleBack
import Derived.Test.YtffeomfcjmmgoaaL5
namespace Go.Proofs.Ytffeomfcjmmgoaa.Pure
open Go.RowKit Go.Proofs.Ytffeomfcjmmgoaa.PPeopleBack Go.Proofs.YtffeomfcjmmgoaaW.PrintWords Go.Proofs.YtffeomfcjmmgoaaW.PrintLast

theorem del_ins {l : List Int} {u : Int} (h : up 0 l = true) (hu : u ∉ l) : del (ins l u) u = l := by
  have hp := (List.pairwise_cons.1 (up_iff.1 h).1).2
  have : ∀ l : List Int, l.Pairwise (· < ·) → u ∉ l → l.filter (fun x => decide (x < u)) ++ l.filter (fun x => decide (u < x)) = l := by
    intro l hp hu
    induction l with
    | nil => rfl
    | cons y r ih =>
      simp only [List.mem_cons, not_or] at hu
      obtain ⟨h1, h2⟩ := List.pairwise_cons.1 hp
      have ih := ih h2 hu.2
      by_cases hy : y < u
      · rw [List.filter_cons_of_pos (by simpa using hy), List.filter_cons_of_neg (by simp; omega), List.cons_append, ih]
      · have hall : ∀ x ∈ y :: r, u < x := fun x hx => by
          rcases List.mem_cons.1 hx with rfl | hx
          · omega
          · have := h1 x hx; omega
        rw [List.filter_eq_nil_iff.2 (fun x hx => by have := hall x hx; simp; omega), List.nil_append, List.filter_eq_self.2 (fun x hx => by simpa using hall x hx)]
  have hA : (l.filter (fun x => decide (x < u))).filter (fun x => decide (x ≠ u)) = l.filter (fun x => decide (x < u)) := List.filter_eq_self.2 (fun x hx => by have := (List.mem_filter.1 hx).2; simp at this ⊢; omega)
  have hB : (l.filter (fun x => decide (u < x))).filter (fun x => decide (x ≠ u)) = l.filter (fun x => decide (u < x)) := List.filter_eq_self.2 (fun x hx => by have := (List.mem_filter.1 hx).2; simp at this ⊢; omega)
  unfold del ins
  rw [List.filter_append, List.filter_cons_of_neg (by simp), hA, hB]
  exact this l hp hu

theorem PeopleBack (a b u o : Int) (l : List Int) : F.DoesT 5 [F.chA a b l, Go.SX.iv u, Go.SX.iv o] (Go.SX.bv true) := by
  refine F.d5 a b u o l (ins l u) (joinS a b l u) awake_does (fun h => join_does a b u l (by omega)) (fun h => ?_) (fun hl h0 => ?_)
  · unfold joinS at h ⊢
    split
    · rfl
    split
    · rfl
    split
    · rfl
    rename_i h1 h2 h3
    rw [if_neg h1, if_neg h2, if_neg h3] at h
    exact absurd rfl h
  · obtain ⟨he, hmi, hm, hu⟩ := join_may h0
    obtain ⟨m1, m2, m3, m4, m5, m6⟩ := may_up hm
    have hbu : b ≠ u := fun h => hu (h ▸ m6)
    have hil := ins_length hu
    have hru : up 0 [u] = true := by
      cases hq : up 0 [u]
      · unfold joinS at h0; rw [if_pos (.inr hq)] at h0; simp at h0
      · rfl
    have e1 : joinS a b (ins l u) u = (0, 0, [], 6) := by unfold joinS; rw [if_neg (by rw [hmi, hru]; simp), if_pos (mem_ins.2 (.inl rfl))]
    have e2 : leaveS a b (ins l u) u = (a, b, l, 0) := by unfold leaveS; rw [if_neg (by rw [hmi]; simp), if_neg (by simpa using mem_ins.2 (.inl rfl)), if_neg hbu, del_ins m5 hu]
    have e3 : leaveS a b l u = (0, 0, [], 5) := by unfold leaveS; rw [if_neg (by rw [hm]; simp), if_pos hu]
    refine ⟨he, ?_, ?_, ?_, same_does a b l (by omega), ?_, fun hou => ⟨inS a b l o, ?_, in_does a b o l (by omega)⟩⟩
    · have := join_does a b u (ins l u) (by omega); rwa [e1] at this
    · have := leave_does a b u (ins l u) (by omega); rwa [e2] at this
    · have := leave_does a b u l (by omega); rwa [e3] at this
    · have := in_does a b u (ins l u) (by omega)
      have e4 : inS a b (ins l u) u = true := by unfold inS; rw [hmi, Bool.true_and]; exact decide_eq_true (mem_ins.2 (.inl rfl))
      rwa [e4] at this
    · have := in_does a b o (ins l u) (by omega)
      have e5 : inS a b (ins l u) o = inS a b l o := by
        unfold inS; rw [hmi, hm, Bool.true_and, Bool.true_and]
        have : o ∈ ins l u ↔ o ∈ l := by rw [mem_ins]; exact ⟨fun h => h.resolve_left hou, .inr⟩
        simp [this]
      rwa [e5] at this

end Go.Proofs.Ytffeomfcjmmgoaa.Pure
