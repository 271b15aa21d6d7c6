/- Chapter 11: what the search for components keeps true. Plain: no program in sight. -/
namespace Go.Proofs.Ythccfgkklimebaa.T

/-- What is reached: over the rows 'to'. -/
inductive Reach (E : Nat → Nat → Prop) : Nat → Nat → Prop
  | refl (v : Nat) : Reach E v v
  | step {u v w : Nat} (h : Reach E u v) (e : E v w) : Reach E u w

theorem Reach.trans {E : Nat → Nat → Prop} {u v w : Nat} (h : Reach E u v) (k : Reach E v w) : Reach E u w := by
  induction k with
  | refl => exact h
  | step _ e ih => exact .step ih e

theorem Reach.one {E : Nat → Nat → Prop} {u v : Nat} (e : E u v) : Reach E u v := .step (.refl u) e

def upd (f : Nat → Nat) (k x : Nat) : Nat → Nat := fun v => if v = k then x else f v
theorem upd_same (f : Nat → Nat) (k x : Nat) : upd f k x k = x := if_pos rfl
theorem upd_ne (f : Nat → Nat) {k v : Nat} (x : Nat) (h : v ≠ k) : upd f k x v = f v := if_neg h

/-- Which of a thing's successors were looked at. -/
def Proc (to : Nat → List Nat) (K : List (Nat × Nat)) (y z : Nat) : Prop :=
  ((∀ p ∈ K, p.1 ≠ y) ∧ z ∈ to y) ∨ ∃ d, (y, d) ∈ K ∧ z ∈ (to y).take d

structure Inv (n : Nat) (to : Nat → List Nat) (o lo f : Nat → Nat) (opn : List Nat) (many at_ : Nat) (K : List (Nat × Nat)) : Prop where
  ole : ∀ v, o v ≤ at_
  inj : ∀ u v, o u ≠ 0 → o u = o v → u = v
  opn_iff : ∀ v, v ∈ opn ↔ o v ≠ 0 ∧ f v = 0
  sorted : opn.Pairwise (fun a b => o a < o b)
  fle : ∀ v, f v ≤ many
  fo : ∀ v, f v ≠ 0 → o v ≠ 0
  dom : ∀ v, o v ≠ 0 → v < n
  succ : ∀ v z, z ∈ to v → z < n
  kopn : ∀ p ∈ K, p.1 ∈ opn ∧ p.2 ≤ (to p.1).length
  kdec : K.Pairwise (fun a b => o b.1 < o a.1)
  gray : ∀ p ∈ K, ∀ y ∈ opn, o p.1 ≤ o y → Reach (fun a b => b ∈ to a) p.1 y
  back : ∀ y ∈ opn, ∃ p ∈ K, o p.1 ≤ o y ∧ Reach (fun a b => b ∈ to a) y p.1
  lowle : ∀ v ∈ opn, lo v ≤ o v
  low : ∀ v ∈ opn, ∃ z ∈ opn, o z = lo v ∧ Reach (fun a b => b ∈ to a) v z
  resp : ∀ p ∈ K, ∀ y ∈ opn, ∀ z ∈ opn, o p.1 ≤ o y → Proc to K y z → ∃ q ∈ K, o p.1 ≤ o q.1 ∧ o q.1 ≤ o y ∧ lo q.1 ≤ o z
  seen : ∀ y ∈ opn, ∀ z, Proc to K y z → o z ≠ 0
  shut : ∀ y, f y ≠ 0 → ∀ z ∈ to y, f z ≠ 0
  same : ∀ x y, f x ≠ 0 → f y ≠ 0 → (f x = f y ↔ Reach (fun a b => b ∈ to a) x y ∧ Reach (fun a b => b ∈ to a) y x)
  each : ∀ k, 1 ≤ k → k ≤ many → ∃ v, f v = k
  many_le : many + opn.length ≤ at_

section
variable {n : Nat} {to : Nat → List Nat} {o lo f : Nat → Nat} {opn : List Nat} {many at_ : Nat} {K : List (Nat × Nat)}

theorem Inv.start (hs : ∀ v z, z ∈ to v → z < n) : Inv n to (fun _ => 0) (fun _ => 0) (fun _ => 0) [] 0 0 [] where
  ole _ := Nat.le_refl _
  inj _ _ h _ := absurd rfl h
  opn_iff v := by simp
  sorted := .nil
  fle _ := Nat.le_refl _
  fo _ h := absurd rfl h
  dom _ h := absurd rfl h
  succ := hs
  kopn _ h := by simp at h
  kdec := .nil
  gray _ h := by simp at h
  back _ h := by simp at h
  lowle _ h := by simp at h
  low _ h := by simp at h
  resp _ h := by simp at h
  seen _ h := by simp at h
  shut _ h := absurd rfl h
  same _ _ h := absurd rfl h
  each k h1 h2 := by omega
  many_le := Nat.le_refl _

/-- The top frame's 'done' grows; nothing else. (For a successor that is closed.) -/
theorem proc_cons {y z v d : Nat} (h : Proc to ((v, d + 1) :: K) y z) (hd : d < (to v).length) (hK : ∀ p ∈ K, p.1 ≠ v) : Proc to ((v, d) :: K) y z ∨ (y = v ∧ z = (to v)[d]) := by
  rcases h with ⟨h1, h2⟩ | ⟨e, h1, h2⟩
  · exact .inl (.inl ⟨fun p hp => by
      rcases List.mem_cons.1 hp with rfl | hp
      · exact h1 (v, d + 1) List.mem_cons_self
      · exact h1 p (List.mem_cons_of_mem _ hp), h2⟩)
  · rcases List.mem_cons.1 h1 with h3 | h3
    · injection h3 with h3 h4
      subst h3; subst h4
      rw [List.take_add_one, List.getElem?_eq_getElem hd] at h2
      rcases List.mem_append.1 h2 with h5 | h5
      · exact .inl (.inr ⟨d, List.mem_cons_self, h5⟩)
      · simp at h5; exact .inr ⟨rfl, h5⟩
    · exact .inl (.inr ⟨e, List.mem_cons_of_mem _ h3, h2⟩)

theorem Inv.top_ne (h : Inv n to o lo f opn many at_ K) {v d : Nat} {K' : List (Nat × Nat)} (hK : K = (v, d) :: K') : ∀ p ∈ K', p.1 ≠ v := by
  subst hK
  intro p hp e
  have := (List.pairwise_cons.1 h.kdec).1 p hp
  rw [e] at this
  exact Nat.lt_irrefl _ this

theorem mem_frames {v d e : Nat} {p : Nat × Nat} (hp : p ∈ (v, e) :: K) : ∃ q ∈ (v, d) :: K, q.1 = p.1 := by
  rcases List.mem_cons.1 hp with rfl | hp
  · exact ⟨(v, d), List.mem_cons_self, rfl⟩
  · exact ⟨p, List.mem_cons_of_mem _ hp, rfl⟩

/-- Behind an edge to what was seen: 'lo' of the top falls to 'x', if it leads to what is open; else stays. -/
theorem Inv.edge {v d : Nat} (h : Inv n to o lo f opn many at_ ((v, d) :: K)) (hd : d < (to v).length) (hv : o (to v)[d] ≠ 0) :
    Inv n to o (if f (to v)[d] = 0 then upd lo v (min (lo v) (o (to v)[d])) else lo) f opn many at_ ((v, d + 1) :: K) := by
  have hne := h.top_ne rfl
  have hvo : v ∈ opn := (h.kopn (v, d) List.mem_cons_self).1
  have hlo : ∀ y, (if f (to v)[d] = 0 then upd lo v (min (lo v) (o (to v)[d])) else lo) y ≤ lo y := by
    intro y
    split
    · unfold upd; split
      · rename_i e; subst e; exact Nat.min_le_left _ _
      · exact Nat.le_refl _
    · exact Nat.le_refl _
  refine { h with kopn := ?_, kdec := ?_, gray := ?_, back := ?_, lowle := fun y hy => Nat.le_trans (hlo y) (h.lowle y hy), low := ?_, resp := ?_, seen := ?_ }
  · intro p hp
    rcases List.mem_cons.1 hp with rfl | hp
    · exact ⟨hvo, hd⟩
    · exact h.kopn p (List.mem_cons_of_mem _ hp)
  · exact List.pairwise_cons.2 ⟨(List.pairwise_cons.1 h.kdec).1, (List.pairwise_cons.1 h.kdec).2⟩
  · intro p hp y hy hle
    obtain ⟨q, hq, e⟩ := mem_frames (d := d) hp
    rw [← e] at hle ⊢
    exact h.gray q hq y hy hle
  · intro y hy
    obtain ⟨p, hp, h1, h2⟩ := h.back y hy
    obtain ⟨q, hq, e⟩ := mem_frames (d := d + 1) hp
    exact ⟨q, hq, by rw [e]; exact h1, by rw [e]; exact h2⟩
  · intro y hy
    obtain ⟨z, hz, h1, h2⟩ := h.low y hy
    split
    · rename_i hf0
      by_cases e : y = v
      · subst e
        rw [upd_same]
        by_cases hm : lo y ≤ o (to y)[d]
        · exact ⟨z, hz, by rw [h1, Nat.min_eq_left hm], h2⟩
        · exact ⟨(to y)[d], (h.opn_iff _).2 ⟨hv, hf0⟩, by rw [Nat.min_eq_right (by omega)], .one (List.getElem_mem hd)⟩
      · rw [upd_ne _ _ e]; exact ⟨z, hz, h1, h2⟩
    · exact ⟨z, hz, h1, h2⟩
  · intro p hp y hy z hz hle hpr
    obtain ⟨q, hq, e⟩ := mem_frames (d := d) hp
    rcases proc_cons hpr hd hne with h1 | ⟨rfl, rfl⟩
    · obtain ⟨r, hr, g1, g2, g3⟩ := h.resp q hq y hy z hz (by rw [e]; exact hle) h1
      obtain ⟨s, hs, e2⟩ := mem_frames (d := d + 1) hr
      exact ⟨s, hs, by rw [e2, ← e]; exact g1, by rw [e2]; exact g2, Nat.le_trans (hlo _) (by rw [e2]; exact g3)⟩
    · have hf0 : f (to y)[d] = 0 := ((h.opn_iff _).1 hz).2
      exact ⟨(y, d + 1), List.mem_cons_self, hle, Nat.le_refl _, by simp only [hf0, if_true, upd_same]; exact Nat.min_le_right _ _⟩
  · intro y hy z hpr
    rcases proc_cons hpr hd hne with h1 | ⟨rfl, rfl⟩
    · exact h.seen y hy z h1
    · exact hv

/-- A thing that was not seen begins to be looked at. -/
theorem Inv.push {K1 : List (Nat × Nat)} (h : Inv n to o lo f opn many at_ K) {k : Nat} (hk : k < n) (hok : o k = 0) (h01 : ∀ p ∈ K, ∃ q ∈ K1, q.1 = p.1) (h10 : ∀ p ∈ K1, ∃ q ∈ K, q.1 = p.1) (hdec : K1.Pairwise (fun a b => o b.1 < o a.1)) (hlen : ∀ p ∈ K1, p.2 ≤ (to p.1).length)
    (hpr : ∀ y z, Proc to K1 y z → Proc to K y z ∨ (z = k ∧ ∃ p ∈ K1, p.1 = y)) (hre : ∀ p ∈ K1, Reach (fun a b => b ∈ to a) p.1 k) :
    Inv n to (upd o k (at_ + 1)) (upd lo k (at_ + 1)) f (opn ++ [k]) many (at_ + 1) ((k, 0) :: K1) := by
  have hfk : f k = 0 := by
    by_cases e : f k = 0
    · exact e
    · exact absurd hok (h.fo k e)
  have hko : k ∉ opn := fun hm => ((h.opn_iff k).1 hm).1 hok
  have hnk : ∀ y ∈ opn, y ≠ k := fun y hy e => hko (e ▸ hy)
  have hK1 : ∀ p ∈ K1, p.1 ∈ opn := fun p hp => by obtain ⟨q, hq, e⟩ := h10 p hp; rw [← e]; exact (h.kopn q hq).1
  have ho : ∀ y ∈ opn, upd o k (at_ + 1) y = o y := fun y hy => upd_ne _ _ (hnk y hy)
  have hl : ∀ y ∈ opn, upd lo k (at_ + 1) y = lo y := fun y hy => upd_ne _ _ (hnk y hy)
  have hproc : ∀ y z, Proc to ((k, 0) :: K1) y z → y ≠ k ∧ Proc to K1 y z := by
    rintro y z (⟨h1, h2⟩ | ⟨e, h1, h2⟩)
    · exact ⟨fun e => h1 (k, 0) List.mem_cons_self e.symm, .inl ⟨fun p hp => h1 p (List.mem_cons_of_mem _ hp), h2⟩⟩
    · rcases List.mem_cons.1 h1 with h3 | h3
      · injection h3 with h3 h4; subst h4; simp at h2
      · exact ⟨fun e' => hko (e' ▸ hK1 _ h3), .inr ⟨e, h3, h2⟩⟩
  have hmem : ∀ y, y ∈ opn ++ [k] → y ∈ opn ∨ y = k := fun y hy => by simpa using hy
  refine { ole := ?_, inj := ?_, opn_iff := ?_, sorted := ?_, fle := h.fle, fo := ?_, dom := ?_, succ := h.succ, kopn := ?_, kdec := ?_, gray := ?_, back := ?_, lowle := ?_, low := ?_, resp := ?_, seen := ?_, shut := h.shut, same := h.same, each := h.each, many_le := ?_ }
  · intro v
    unfold upd; split
    · exact Nat.le_refl _
    · exact Nat.le_succ_of_le (h.ole v)
  · intro u v hu he
    unfold upd at hu he
    split at he <;> split at he
    · rename_i e1 e2; rw [e1, e2]
    · have := h.ole v; omega
    · have := h.ole u; omega
    · rename_i e1 e2; rw [if_neg e1] at hu; exact h.inj u v hu he
  · intro v
    by_cases e : v = k
    · subst e; simp [upd_same, hfk]
    · rw [upd_ne _ _ e, ← h.opn_iff v]; simp [e]
  · refine List.pairwise_append.2 ⟨?_, List.pairwise_singleton _ _, ?_⟩
    · refine h.sorted.imp_of_mem (fun {a b} ha hb hab => ?_)
      rw [ho a ha, ho b hb]; exact hab
    · intro a ha b hb
      simp at hb; subst hb
      rw [ho a ha, upd_same]
      exact Nat.lt_succ_of_le (h.ole a)
  · intro v hv
    unfold upd; split
    · omega
    · exact h.fo v hv
  · intro v hv
    unfold upd at hv
    split at hv
    · rename_i e; subst e; exact hk
    · exact h.dom v hv
  · intro p hp
    rcases List.mem_cons.1 hp with rfl | hp
    · exact ⟨by simp, Nat.zero_le _⟩
    · exact ⟨List.mem_append_left _ (hK1 p hp), hlen p hp⟩
  · refine List.pairwise_cons.2 ⟨fun p hp => ?_, ?_⟩
    · rw [ho _ (hK1 p hp), upd_same]; exact Nat.lt_succ_of_le (h.ole _)
    · refine hdec.imp_of_mem (fun {a b} ha hb hab => ?_)
      rw [ho _ (hK1 a ha), ho _ (hK1 b hb)]; exact hab
  · intro p hp0 y hy hle
    rcases List.mem_cons.1 hp0 with rfl | hp
    · rcases hmem y hy with hy | rfl
      · rw [ho y hy, upd_same] at hle
        have := h.ole y; omega
      · exact .refl _
    · rcases hmem y hy with hy | e
      · rw [ho y hy, ho _ (hK1 p hp)] at hle
        obtain ⟨q, hq, e⟩ := h10 p hp
        rw [← e] at hle ⊢
        exact h.gray q hq y hy hle
      · rw [e]; exact hre p hp
  · intro y hy
    rcases hmem y hy with hy | rfl
    · obtain ⟨p, hp, h1, h2⟩ := h.back y hy
      obtain ⟨q, hq, e⟩ := h01 p hp
      refine ⟨q, List.mem_cons_of_mem _ hq, ?_, by rw [e]; exact h2⟩
      rw [ho y hy, ho _ (hK1 q hq), e]; exact h1
    · exact ⟨(y, 0), List.mem_cons_self, Nat.le_refl _, .refl _⟩
  · intro y hy
    rcases hmem y hy with hy | rfl
    · rw [ho y hy, hl y hy]; exact h.lowle y hy
    · rw [upd_same, upd_same]; exact Nat.le_refl _
  · intro y hy
    rcases hmem y hy with hy | rfl
    · obtain ⟨z, hz, h1, h2⟩ := h.low y hy
      exact ⟨z, List.mem_append_left _ hz, by rw [ho z hz, hl y hy]; exact h1, h2⟩
    · exact ⟨y, hy, by rw [upd_same, upd_same], .refl _⟩
  · intro p hp y hy z hz hle hp2
    obtain ⟨hyk, hp3⟩ := hproc y z hp2
    have hyo : y ∈ opn := (hmem y hy).resolve_right hyk
    rw [ho y hyo] at hle
    rcases List.mem_cons.1 hp with rfl | hp
    · rw [upd_same] at hle
      have := h.ole y; omega
    · rw [ho _ (hK1 p hp)] at hle ⊢
      rcases hpr y z hp3 with h1 | ⟨rfl, q, hq, rfl⟩
      · have hzk : z ≠ k := fun e => h.seen y hyo z h1 (e ▸ hok)
        have hzo : z ∈ opn := (hmem z hz).resolve_right hzk
        obtain ⟨p0, hp0, e0⟩ := h10 p hp
        obtain ⟨r, hr, g1, g2, g3⟩ := h.resp p0 hp0 y hyo z hzo (by rw [e0]; exact hle) h1
        obtain ⟨s, hs, e⟩ := h01 r hr
        have hso := hK1 s hs
        refine ⟨s, List.mem_cons_of_mem _ hs, ?_, ?_, ?_⟩
        · rw [ho _ hso, e, ← e0]; exact g1
        · rw [ho _ hso, ho _ hyo, e]; exact g2
        · rw [hl _ hso, ho _ hzo, e]; exact g3
      · refine ⟨q, List.mem_cons_of_mem _ hq, ?_, Nat.le_refl _, ?_⟩
        · rw [ho _ hyo]; exact hle
        · rw [hl _ hyo, upd_same]
          have := h.lowle _ hyo; have := h.ole q.1; omega
  · intro y hy z hp2
    obtain ⟨hyk, hp3⟩ := hproc y z hp2
    have hyo : y ∈ opn := (hmem y hy).resolve_right hyk
    rcases hpr y z hp3 with h1 | ⟨rfl, _⟩
    · have := h.seen y hyo z h1
      unfold upd; split
      · omega
      · exact this
    · rw [upd_same]; omega
  · have := h.many_le
    simp; omega

theorem Inv.push_edge {v d : Nat} (h : Inv n to o lo f opn many at_ ((v, d) :: K)) (hd : d < (to v).length) (hv : o (to v)[d] = 0) :
    Inv n to (upd o (to v)[d] (at_ + 1)) (upd lo (to v)[d] (at_ + 1)) f (opn ++ [(to v)[d]]) many (at_ + 1) (((to v)[d], 0) :: (v, d + 1) :: K) := by
  refine h.push (h.succ _ _ (List.getElem_mem hd)) hv (fun p hp => mem_frames hp) (fun p hp => mem_frames hp) ?_ ?_ ?_ ?_
  · exact List.pairwise_cons.2 ⟨(List.pairwise_cons.1 h.kdec).1, (List.pairwise_cons.1 h.kdec).2⟩
  · intro p hp
    rcases List.mem_cons.1 hp with rfl | hp
    · exact hd
    · exact (h.kopn p (List.mem_cons_of_mem _ hp)).2
  · intro y z hp
    rcases proc_cons hp hd (h.top_ne rfl) with h1 | ⟨rfl, rfl⟩
    · exact .inl h1
    · exact .inr ⟨rfl, (y, d + 1), List.mem_cons_self, rfl⟩
  · intro p hp
    obtain ⟨q, hq, e⟩ := mem_frames (d := d) hp
    have hvo : v ∈ opn := (h.kopn (v, d) List.mem_cons_self).1
    have hle : o q.1 ≤ o v := by
      rcases List.mem_cons.1 hq with rfl | hq
      · exact Nat.le_refl _
      · exact Nat.le_of_lt ((List.pairwise_cons.1 h.kdec).1 q hq)
    rw [← e]
    exact .step (h.gray q hq v hvo hle) (List.getElem_mem hd)

theorem Inv.push_first (h : Inv n to o lo f opn many at_ []) {k : Nat} (hk : k < n) (hok : o k = 0) : Inv n to (upd o k (at_ + 1)) (upd lo k (at_ + 1)) f (opn ++ [k]) many (at_ + 1) [(k, 0)] :=
  h.push hk hok (fun p hp => by simp at hp) (fun p hp => by simp at hp) .nil (fun p hp => by simp at hp) (fun y z hp => .inl hp) (fun p hp => by simp at hp)


/-- Whom a frame that ends tells what it reached. -/
def popLow (lo : Nat → Nat) (v : Nat) : List (Nat × Nat) → Nat → Nat
  | [] => lo
  | (u, _) :: _ => upd lo u (min (lo u) (lo v))

theorem popLow_le (lo : Nat → Nat) (v : Nat) (K : List (Nat × Nat)) (y : Nat) : popLow lo v K y ≤ lo y := by
  unfold popLow
  split
  · exact Nat.le_refl _
  · unfold upd; split
    · rename_i e; subst e; exact Nat.min_le_left _ _
    · exact Nat.le_refl _

theorem proc_pop {y z v d : Nat} (hd : d = (to v).length) (h : Proc to K y z) : Proc to ((v, d) :: K) y z := by
  rcases h with ⟨h1, h2⟩ | ⟨e, h1, h2⟩
  · by_cases e : y = v
    · subst e; exact .inr ⟨d, List.mem_cons_self, by rw [hd, List.take_length]; exact h2⟩
    · refine .inl ⟨fun p hp => ?_, h2⟩
      rcases List.mem_cons.1 hp with rfl | hp
      · exact fun e' => e e'.symm
      · exact h1 p hp
  · exact .inr ⟨e, List.mem_cons_of_mem _ h1, h2⟩

theorem Inv.lt_top {v d : Nat} (h : Inv n to o lo f opn many at_ ((v, d) :: K)) : ∀ p ∈ K, o p.1 < o v := (List.pairwise_cons.1 h.kdec).1

/-- A frame ends that reaches one further out. -/
theorem Inv.pop_more {v d : Nat} (h : Inv n to o lo f opn many at_ ((v, d) :: K)) (hd : d = (to v).length) (hlt : lo v < o v) : Inv n to o (popLow lo v K) f opn many at_ K := by
  have hvo : v ∈ opn := (h.kopn (v, d) List.mem_cons_self).1
  obtain ⟨z0, hz0, hz1, hz2⟩ := h.low v hvo
  have hback : ∀ y ∈ opn, ∃ p ∈ K, o p.1 ≤ o y ∧ Reach (fun a b => b ∈ to a) y p.1 := by
    intro y hy
    obtain ⟨p, hp, h1, h2⟩ := h.back y hy
    rcases List.mem_cons.1 hp with e | hp
    · subst e
      obtain ⟨q, hq, g1, g2⟩ := h.back z0 hz0
      rcases List.mem_cons.1 hq with e | hq
      · subst e; simp only at g1; omega
      · exact ⟨q, hq, by simp only at h1; omega, h2.trans (hz2.trans g2)⟩
    · exact ⟨p, hp, h1, h2⟩
  refine { h with kopn := fun p hp => h.kopn p (List.mem_cons_of_mem _ hp), kdec := (List.pairwise_cons.1 h.kdec).2, gray := fun p hp => h.gray p (List.mem_cons_of_mem _ hp), back := hback, lowle := fun y hy => Nat.le_trans (popLow_le _ _ _ _) (h.lowle y hy), low := ?_, resp := ?_, seen := fun y hy z hp => h.seen y hy z (proc_pop hd hp) }
  · intro y hy
    obtain ⟨z, hz, h1, h2⟩ := h.low y hy
    cases K with
    | nil => exact ⟨z, hz, h1, h2⟩
    | cons p K =>
      obtain ⟨u, e⟩ := p
      simp only [popLow]
      by_cases e1 : y = u
      · subst e1
        rw [upd_same]
        by_cases hm : lo y ≤ lo v
        · exact ⟨z, hz, by rw [h1, Nat.min_eq_left hm], h2⟩
        · refine ⟨z0, hz0, by rw [hz1, Nat.min_eq_right (by omega)], .trans (h.gray (y, e) (by simp) v hvo (Nat.le_of_lt (h.lt_top (y, e) List.mem_cons_self))) hz2⟩
      · rw [upd_ne _ _ e1]; exact ⟨z, hz, h1, h2⟩
  · intro p hp y hy z hz hle hpr
    obtain ⟨q, hq, g1, g2, g3⟩ := h.resp p (List.mem_cons_of_mem _ hp) y hy z hz hle (proc_pop hd hpr)
    rcases List.mem_cons.1 hq with e | hq
    · subst e
      cases K with
      | nil => simp at hp
      | cons r K =>
        obtain ⟨u, e⟩ := r
        have hu := h.lt_top (u, e) List.mem_cons_self
        have hpu : o p.1 ≤ o u := by
          rcases List.mem_cons.1 hp with e' | hp
          · subst e'; exact Nat.le_refl _
          · exact Nat.le_of_lt ((List.pairwise_cons.1 (List.pairwise_cons.1 h.kdec).2).1 p hp)
        refine ⟨(u, e), List.mem_cons_self, hpu, by simp only at g2 hu ⊢; omega, ?_⟩
        simp only [popLow, upd_same]
        simp only at g3
        exact Nat.le_trans (Nat.min_le_right _ _) g3
    · exact ⟨q, hq, g1, g2, Nat.le_trans (popLow_le _ _ _ _) g3⟩

theorem Inv.shut_reach (h : Inv n to o lo f opn many at_ K) {x y : Nat} (hx : f x ≠ 0) (hr : Reach (fun a b => b ∈ to a) x y) : f y ≠ 0 := by
  induction hr with
  | refl => exact hx
  | step _ e ih => exact h.shut _ ih _ e

theorem cut (h : Inv n to o lo f opn many at_ K) {v : Nat} (hv : v ∈ opn) : (∀ y, y ∈ opn.drop (opn.idxOf v) ↔ y ∈ opn ∧ o v ≤ o y) ∧ (∀ y, y ∈ opn.take (opn.idxOf v) ↔ y ∈ opn ∧ o y < o v) := by
  have hlt := List.idxOf_lt_length_of_mem hv
  have hs := h.sorted
  have hcut : opn = opn.take (opn.idxOf v) ++ opn.drop (opn.idxOf v) := (List.take_append_drop _ _).symm
  have hdrop : opn.drop (opn.idxOf v) = v :: opn.drop (opn.idxOf v + 1) := by
    rw [List.drop_eq_getElem_cons hlt, List.getElem_idxOf hlt]
  generalize opn.take (opn.idxOf v) = A at *
  generalize opn.drop (opn.idxOf v) = B at *
  rw [hcut] at hs
  obtain ⟨hA, hB, hAB⟩ := List.pairwise_append.1 hs
  have h1 : ∀ y ∈ B, o v ≤ o y := by
    intro y hy
    rw [hdrop] at hy hB
    rcases List.mem_cons.1 hy with rfl | hy
    · exact Nat.le_refl _
    · exact Nat.le_of_lt ((List.pairwise_cons.1 hB).1 y hy)
  have h2 : ∀ y ∈ A, o y < o v := fun y hy => hAB y hy v (by rw [hdrop]; exact List.mem_cons_self)
  have hm : ∀ y, y ∈ opn ↔ y ∈ A ∨ y ∈ B := fun y => by rw [hcut]; exact List.mem_append
  refine ⟨fun y => ⟨fun hy => ⟨(hm y).2 (.inr hy), h1 y hy⟩, fun ⟨hy, hle⟩ => ?_⟩, fun y => ⟨fun hy => ⟨(hm y).2 (.inl hy), h2 y hy⟩, fun ⟨hy, hle⟩ => ?_⟩⟩
  · rcases (hm y).1 hy with h3 | h3
    · have := h2 y h3; omega
    · exact h3
  · rcases (hm y).1 hy with h3 | h3
    · exact h3
    · have := h1 y h3; omega

/-- A frame ends that reaches nothing further out: a component is whole. -/
theorem Inv.pop_root {v d : Nat} (h : Inv n to o lo f opn many at_ ((v, d) :: K)) (hd : d = (to v).length) (hlt : ¬ lo v < o v) :
    Inv n to o (popLow lo v K) (fun y => if y ∈ opn.drop (opn.idxOf v) then many + 1 else f y) (opn.take (opn.idxOf v)) (many + 1) at_ K := by
  have hvo : v ∈ opn := (h.kopn (v, d) List.mem_cons_self).1
  obtain ⟨hC, hT⟩ := cut h hvo
  have hf0 : ∀ y ∈ opn, f y = 0 := fun y hy => ((h.opn_iff y).1 hy).2
  have hCo : ∀ y, y ∈ opn.drop (opn.idxOf v) → y ∈ opn ∧ o v ≤ o y := fun y hy => (hC y).1 hy
  have hvr : ∀ y, y ∈ opn.drop (opn.idxOf v) → Reach (fun a b => b ∈ to a) v y ∧ Reach (fun a b => b ∈ to a) y v := by
    intro y hy
    obtain ⟨hy1, hy2⟩ := hCo y hy
    refine ⟨h.gray (v, d) List.mem_cons_self y hy1 hy2, ?_⟩
    obtain ⟨p, hp, h1, h2⟩ := h.back y hy1
    rcases List.mem_cons.1 hp with e | hp
    · subst e; exact h2
    · exact h2.trans (h.gray p (List.mem_cons_of_mem _ hp) v hvo (Nat.le_of_lt (h.lt_top p hp)))
  have hsucc : ∀ y, y ∈ opn.drop (opn.idxOf v) → ∀ z ∈ to y, z ∈ opn.drop (opn.idxOf v) ∨ f z ≠ 0 := by
    intro y hy z hz
    obtain ⟨hy1, hy2⟩ := hCo y hy
    have hp : Proc to ((v, d) :: K) y z := by
      refine proc_pop hd (.inl ⟨fun p hp e => ?_, hz⟩)
      have := h.lt_top p hp
      rw [e] at this; omega
    have hzo := h.seen y hy1 z hp
    by_cases hfz : f z = 0
    · have hzopn := (h.opn_iff z).2 ⟨hzo, hfz⟩
      obtain ⟨q, hq, g1, g2, g3⟩ := h.resp (v, d) List.mem_cons_self y hy1 z hzopn hy2 hp
      rcases List.mem_cons.1 hq with e | hq
      · subst e
        exact .inl ((hC z).2 ⟨hzopn, by simp only at g3; omega⟩)
      · have := h.lt_top q hq
        simp only at g1; omega
    · exact .inr hfz
  have hkeep : ∀ y, popLow lo v K y ≤ lo y := popLow_le _ _ _
  refine { ole := h.ole, inj := h.inj, opn_iff := ?_, sorted := h.sorted.sublist (List.take_sublist _ _), fle := ?_, fo := ?_, dom := h.dom, succ := h.succ, kopn := ?_, kdec := (List.pairwise_cons.1 h.kdec).2, gray := ?_, back := ?_, lowle := ?_, low := ?_, resp := ?_, seen := ?_, shut := ?_, same := ?_, each := ?_, many_le := ?_ }
  · intro y
    rw [hT y, h.opn_iff y]
    by_cases hy : y ∈ opn.drop (opn.idxOf v)
    · rw [if_pos hy]
      have := hCo y hy
      constructor
      · intro h1; omega
      · intro h1; omega
    · rw [if_neg hy]
      constructor
      · exact fun h1 => h1.1
      · intro h1
        refine ⟨h1, ?_⟩
        have : ¬ (y ∈ opn ∧ o v ≤ o y) := fun h2 => hy ((hC y).2 h2)
        have h3 := (h.opn_iff y).2 h1
        rcases Nat.lt_or_ge (o y) (o v) with h4 | h4
        · exact h4
        · exact absurd ⟨h3, h4⟩ this
  · intro y
    split
    · exact Nat.le_refl _
    · exact Nat.le_succ_of_le (h.fle y)
  · intro y hy
    split at hy
    · rename_i hm; exact ((h.opn_iff y).1 (hCo y hm).1).1
    · exact h.fo y hy
  · intro p hp
    exact ⟨(hT _).2 ⟨(h.kopn p (List.mem_cons_of_mem _ hp)).1, h.lt_top p hp⟩, (h.kopn p (List.mem_cons_of_mem _ hp)).2⟩
  · intro p hp y hy hle
    exact h.gray p (List.mem_cons_of_mem _ hp) y ((hT y).1 hy).1 hle
  · intro y hy
    obtain ⟨hy1, hy2⟩ := (hT y).1 hy
    obtain ⟨p, hp, g1, g2⟩ := h.back y hy1
    rcases List.mem_cons.1 hp with e | hp
    · subst e; simp only at g1; omega
    · exact ⟨p, hp, g1, g2⟩
  · intro y hy
    exact Nat.le_trans (hkeep y) (h.lowle y ((hT y).1 hy).1)
  · intro y hy
    obtain ⟨hy1, hy2⟩ := (hT y).1 hy
    have hsame : popLow lo v K y = lo y := by
      cases K with
      | nil => rfl
      | cons p K =>
        obtain ⟨u, e⟩ := p
        simp only [popLow]
        by_cases e1 : y = u
        · subst e1; rw [upd_same, Nat.min_eq_left]; have := h.lowle y hy1; omega
        · rw [upd_ne _ _ e1]
    obtain ⟨z, hz, g1, g2⟩ := h.low y hy1
    refine ⟨z, (hT z).2 ⟨hz, ?_⟩, by rw [hsame]; exact g1, g2⟩
    have := h.lowle y hy1
    omega
  · intro p hp y hy z hz hle hpr
    obtain ⟨hy1, hy2⟩ := (hT y).1 hy
    obtain ⟨q, hq, g1, g2, g3⟩ := h.resp p (List.mem_cons_of_mem _ hp) y hy1 z ((hT z).1 hz).1 hle (proc_pop hd hpr)
    rcases List.mem_cons.1 hq with e | hq
    · subst e; simp only at g2; omega
    · exact ⟨q, hq, g1, g2, Nat.le_trans (hkeep _) g3⟩
  · intro y hy z hp
    exact h.seen y ((hT y).1 hy).1 z (proc_pop hd hp)
  · intro y hy z hz
    split at hy
    · rename_i hm
      rcases hsucc y hm z hz with h1 | h1
      · rw [if_pos h1]; omega
      · split
        · omega
        · exact h1
    · have := h.shut y hy z hz
      split
      · omega
      · exact this
  · have mixed : ∀ x y, x ∈ opn.drop (opn.idxOf v) → f y ≠ 0 → ¬ Reach (fun a b => b ∈ to a) y x := fun x y hx hy hr => h.shut_reach hy hr (hf0 x (hCo x hx).1)
    intro x y hx hy
    split at hx <;> split at hy
    · rename_i h1 h2
      rw [if_pos h1, if_pos h2]
      exact ⟨fun _ => ⟨(hvr x h1).2.trans (hvr y h2).1, (hvr y h2).2.trans (hvr x h1).1⟩, fun _ => rfl⟩
    · rename_i h1 h2
      rw [if_pos h1, if_neg h2]
      constructor
      · intro e; have := h.fle y; omega
      · intro hr; exact absurd hr.2 (mixed x y h1 hy)
    · rename_i h1 h2
      rw [if_neg h1, if_pos h2]
      constructor
      · intro e; have := h.fle x; omega
      · intro hr; exact absurd hr.1 (mixed y x h2 hx)
    · rename_i h1 h2
      rw [if_neg h1, if_neg h2]
      exact h.same x y hx hy
  · intro k h1 h2
    by_cases e : k = many + 1
    · subst e
      exact ⟨v, by rw [if_pos ((hC v).2 ⟨hvo, Nat.le_refl _⟩)]⟩
    · obtain ⟨w, hw⟩ := h.each k h1 (by omega)
      refine ⟨w, ?_⟩
      rw [if_neg (fun hm => ?_)]
      · exact hw
      · have := hf0 w (hCo w hm).1
        omega
  · have := h.many_le
    have hlt2 := List.idxOf_lt_length_of_mem hvo
    rw [List.length_take]
    omega

end
end Go.Proofs.Ythccfgkklimebaa.T
