/- Chapter 11: (*search).from. -/
import Derived.Test.YthccfgkklimebaaW1
import Derived.Test.YthccfgkklimebaaTarjan
set_option linter.unusedVariables false
set_option linter.unusedSimpArgs false
namespace Go.Proofs.Ythccfgkklimebaa.F
open Go Go.SX

theorem c27 : chkFn Try.prog 27 157 2 a27 a27R = true := by kernel_rfl

def ix (l : List Nat) (v : Nat) : Nat := l.getD v 0
theorem ix_get {l : List Nat} {v : Nat} (h : v < l.length) : ix l v = l[v] := by simp [ix, h]
theorem ix_set {l : List Nat} {k : Nat} (x : Nat) (h : k < l.length) : ix (l.set k x) = T.upd (ix l) k x := by
  funext v
  unfold ix T.upd
  by_cases e : v = k
  · subst e; simp [h]
  · rw [if_neg e]; simp [List.getD, List.getElem?_set_ne (Ne.symm e)]
theorem ix_tell (x : Nat) : ∀ (C of : List Nat), (∀ y ∈ C, y < of.length) → ix (tell of C x) = fun y => if y ∈ C then x else ix of y
  | [], of, _ => by funext y; simp [tell]
  | k :: C, of, h => by
    have h1 := ix_tell x C (of.set k x) (fun y hy => by simpa using h y (by simp [hy]))
    have h2 : tell of (k :: C) x = tell (of.set k x) C x := rfl
    rw [h2, h1, ix_set x (h k (by simp))]
    funext y
    by_cases e : y ∈ C
    · simp [e]
    · by_cases e2 : y = k
      · subst e2; simp [T.upd]
      · simp [e, e2, T.upd]

def prs (l : List (Nat × Nat)) : List (List AV) := l.map fun p => [iv (p.1 : Int), iv (p.2 : Int)]
@[simp] theorem prs_length (l : List (Nat × Nat)) : (prs l).length = l.length := by simp [prs]
@[simp] theorem prs_getElem (l : List (Nat × Nat)) (i : Nat) (h : i < (prs l).length) : (prs l)[i] = [iv ((l[i]'(by simpa using h)).1 : Int), iv ((l[i]'(by simpa using h)).2 : Int)] := by simp [prs]

theorem prs_last (K : List (Nat × Nat)) (v e : Nat) : (prs (K.reverse ++ [(v, e)])).set K.length [iv (v : Int), iv ((e : Int) + 1)] = prs (K.reverse ++ [(v, e + 1)]) := by
  simp [prs, List.set_append]

def rw_ (to : List (List Nat)) (v : Nat) : List Nat := to.getD v []

structure Good (to : List (List Nat)) (order low opn of : List Nat) (many at_ : Nat) (K : List (Nat × Nat)) : Prop where
  inv : T.Inv to.length (rw_ to) (ix order) (ix low) (ix of) opn many at_ K
  lo : order.length = to.length
  ll : low.length = to.length
  lf : of.length = to.length
  cnt : order.count 0 + at_ = to.length
  small : to.length ≤ 100
  deg : ∀ r ∈ to, r.length < 1000000
  kl : K.length ≤ at_

theorem Good.at_le {to : List (List Nat)} {order low opn of : List Nat} {many at_ : Nat} {K : List (Nat × Nat)} (h : Good to order low opn of many at_ K) : at_ ≤ 100 := by
  have := h.cnt; have := h.small; omega
theorem Good.bounds {to : List (List Nat)} {order low opn of : List Nat} {many at_ : Nat} {K : List (Nat × Nat)} (h : Good to order low opn of many at_ K) : many + opn.length ≤ 100 := by
  have := h.inv.many_le; have := h.at_le; omega
theorem Good.opn_lt {to : List (List Nat)} {order low opn of : List Nat} {many at_ : Nat} {K : List (Nat × Nat)} (h : Good to order low opn of many at_ K) : ∀ x ∈ opn, x < to.length :=
  fun x hx => h.inv.dom x ((h.inv.opn_iff x).1 hx).1

/-- What is left to do. -/
def left_ (to : List (List Nat)) (at_ : Nat) (K : List (Nat × Nat)) : Nat :=
  (to.length - at_) * ((to.map List.length).sum + 2) + (K.map fun p => (rw_ to p.1).length - p.2).sum + K.length

theorem le_sum : ∀ {l : List Nat} {x : Nat}, x ∈ l → x ≤ l.sum
  | y :: r, x, h => by
    rw [List.sum_cons]
    rcases List.mem_cons.1 h with rfl | h
    · omega
    · have := le_sum h; omega

theorem deg_le (to : List (List Nat)) (v : Nat) : (rw_ to v).length ≤ (to.map List.length).sum := by
  unfold rw_
  rcases Nat.lt_or_ge v to.length with h | h
  · simp only [List.getD_eq_getElem?_getD, List.getElem?_eq_getElem h, Option.getD_some]
    exact le_sum (List.mem_map_of_mem (List.getElem_mem h))
  · simp [List.getElem?_eq_none h]

def stO (to : List (List Nat)) (order low opn of : List Nat) (many at_ : Nat) (K : List (Nat × Nat)) : St :=
  ⟨[(0, .ptr 1 0 0 0), (4, .own 27012 2 0 K.length)], memS to order low opn of many at_ ++ [(27012, .arr 52 2 (prs K.reverse))], [1, 2, 3, 5]⟩

/-- The search from one thing, told by what it keeps. -/
def Done (to : List (List Nat)) (order : List Nat) (i : Nat) (r : AV) (m : Mem) : Prop :=
  r = .tup [] ∧ ∃ order' low' of' many' at', Good to order' low' [] of' many' at' [] ∧ m = memS to order' low' [] of' many' at' ∧ ix order' i ≠ 0 ∧ ∀ v, ix order v ≠ 0 → ix order' v ≠ 0

theorem count_set (l : List Nat) (k x : Nat) (hk : k < l.length) (h0 : l[k] = 0) (hx : x ≠ 0) : (l.set k x).count 0 + 1 = l.count 0 := by
  have h1 : 0 < l.count 0 := List.count_pos_iff.2 (h0 ▸ List.getElem_mem hk)
  rw [List.count_set hk]
  simp [h0, hx]
  omega

theorem Good.begin {to : List (List Nat)} {order low opn of : List Nat} {many at_ : Nat} {K K' : List (Nat × Nat)} (h : Good to order low opn of many at_ K) {k : Nat} (hk : k < to.length) (h0 : ix order k = 0)
    (hi : T.Inv to.length (rw_ to) (T.upd (ix order) k (at_ + 1)) (T.upd (ix low) k (at_ + 1)) (ix of) (opn ++ [k]) many (at_ + 1) K') (hkl : K'.length ≤ at_ + 1) : Good to (order.set k (at_ + 1)) (low.set k (at_ + 1)) (opn ++ [k]) of many (at_ + 1) K' where
  inv := by rw [ix_set _ (by rw [h.lo]; exact hk), ix_set _ (by rw [h.ll]; exact hk)]; exact hi
  lo := by simp [h.lo]
  ll := by simp [h.ll]
  lf := h.lf
  cnt := by
    have hko : k < order.length := by rw [h.lo]; exact hk
    have := count_set order k (at_ + 1) hko (by rw [← ix_get hko]; exact h0) (by omega)
    have := h.cnt
    omega
  small := h.small
  deg := h.deg
  kl := hkl

theorem ite_min (a b : Nat) : (if a < b then (a : Int) else (b : Int)) = ((min b a : Nat) : Int) := by
  split
  · rw [Nat.min_eq_right (by omega)]
  · rw [Nat.min_eq_left (by omega)]

theorem Good.edge {to : List (List Nat)} {order low opn of : List Nat} {many at_ v e : Nat} {K : List (Nat × Nat)} (h : Good to order low opn of many at_ ((v, e) :: K)) (hv : v < to.length) (he : e < to[v].length) (hk : to[v][e] < to.length) (hz : order[to[v][e]]'(by rw [h.lo]; exact hk) ≠ 0) :
    Good to order (if of[to[v][e]]'(by rw [h.lf]; exact hk) = 0 then low.set v (min (low[v]'(by rw [h.ll]; exact hv)) (order[to[v][e]]'(by rw [h.lo]; exact hk))) else low) opn of many at_ ((v, e + 1) :: K) := by
  have hrw : rw_ to v = to[v] := by simp [rw_, hv]
  have hvl : v < low.length := by rw [h.ll]; exact hv
  have hko : to[v][e] < order.length := by rw [h.lo]; exact hk
  have hkf : to[v][e] < of.length := by rw [h.lf]; exact hk
  have h1 : (rw_ to v)[e]'(by rw [hrw]; exact he) = to[v][e] := by simp [hrw]
  have := h.inv.edge (by rw [hrw]; exact he) (by rw [h1, ix_get hko]; exact hz)
  rw [h1, ix_get hkf, ix_get hko, ix_get hvl] at this
  refine { h with inv := ?_, ll := ?_, kl := h.kl }
  · split
    · rename_i hf; rw [if_pos hf] at this; rw [ix_set _ hvl]; exact this
    · rename_i hf; rw [if_neg hf] at this; exact this
  · split <;> simp [h.ll]

theorem prs_snoc (l : List (Nat × Nat)) (k : Nat) : prs l ++ [[iv (k : Int), iv 0]] = prs (l ++ [(k, 0)]) := by simp [prs]

theorem left_push {to : List (List Nat)} {at_ k v d e : Nat} {K : List (Nat × Nat)} (h : at_ < to.length) (hd : d ≤ e) (he : e < (rw_ to v).length) : left_ to (at_ + 1) ((k, 0) :: (v, e + 1) :: K) < left_ to at_ ((v, d) :: K) := by
  unfold left_
  have h1 := deg_le to k
  obtain ⟨q, hq⟩ : ∃ q, to.length - at_ = q + 1 := ⟨to.length - at_ - 1, by omega⟩
  have hq2 : to.length - (at_ + 1) = q := by omega
  rw [hq, hq2, Nat.add_mul]
  simp only [List.map_cons, List.sum_cons, List.length_cons, Nat.one_mul]
  omega

theorem Good.at_lt {to : List (List Nat)} {order low opn of : List Nat} {many at_ : Nat} {K : List (Nat × Nat)} (h : Good to order low opn of many at_ K) {k : Nat} (hk : k < order.length) (h0 : order[k] = 0) : at_ < to.length := by
  have h1 : 0 < order.count 0 := List.count_pos_iff.2 (h0 ▸ List.getElem_mem hk)
  have := h.cnt
  omega

theorem left_pop {to : List (List Nat)} {at_ v d : Nat} {K : List (Nat × Nat)} : left_ to at_ K < left_ to at_ ((v, d) :: K) := by
  unfold left_
  simp only [List.map_cons, List.sum_cons, List.length_cons]
  omega

/-- What 'end' makes, in one form. -/
theorem Good.pop {to : List (List Nat)} {order low opn of : List Nat} {many at_ v e : Nat} {K : List (Nat × Nat)} (h : Good to order low opn of many at_ ((v, e) :: K)) (hv : v < to.length) (he : e = (rw_ to v).length) :
    ∃ opn2 of2 many2, (if low[v]'(by rw [h.ll]; exact hv) < order[v]'(by rw [h.lo]; exact hv) then memS to order low opn of many at_ else memS to order low (opn.take (opn.idxOf v)) (tell of (opn.drop (opn.idxOf v)) (many + 1)) (many + 1) at_) = memS to order low opn2 of2 many2 at_ ∧
      of2.length = of.length ∧ T.Inv to.length (rw_ to) (ix order) (T.popLow (ix low) v K) (ix of2) opn2 many2 at_ K := by
  have hvl : v < low.length := by rw [h.ll]; exact hv
  have hvo : v < order.length := by rw [h.lo]; exact hv
  split
  · rename_i hlt
    exact ⟨_, _, _, rfl, rfl, h.inv.pop_more he (by rw [ix_get hvl, ix_get hvo]; exact hlt)⟩
  · rename_i hlt
    refine ⟨_, _, _, rfl, by simp, ?_⟩
    rw [ix_tell _ _ _ (fun y hy => by rw [h.lf]; exact h.opn_lt y (List.mem_of_mem_drop hy))]
    exact h.inv.pop_root he (by rw [ix_get hvl, ix_get hvo]; exact hlt)

theorem prs_take (K : List (Nat × Nat)) (p : Nat × Nat) : (prs (K.reverse ++ [p])).take K.length = prs K.reverse := by simp [prs]

def IOut (to : List (List Nat)) (order : List Nat) (i n : Nat) (st : St) : Prop :=
  ∃ order' low' opn' of' many' at' K, Good to order' low' opn' of' many' at' K ∧ ix order' i ≠ 0 ∧ (∀ v, ix order v ≠ 0 → ix order' v ≠ 0) ∧ n = left_ to at' K ∧ st = stO to order' low' opn' of' many' at' K

/-- Within: the top frame's pointer, too. -/
def stI (to : List (List Nat)) (order low opn of : List Nat) (many at_ v d : Nat) (K : List (Nat × Nat)) : St :=
  ⟨[(0, .ptr 1 0 0 0), (4, .own 27012 2 0 (K.length + 1)), (5, .ptr 27012 2 K.length 0)], memS to order low opn of many at_ ++ [(27012, .arr 52 2 (prs (K.reverse ++ [(v, d)])))], [1, 2, 3, 5]⟩

def IIn (to : List (List Nat)) (order opn of : List Nat) (many at_ v d0 : Nat) (K : List (Nat × Nat)) (n : Nat) (st : St) : Prop :=
  ∃ low d, Good to order low opn of many at_ ((v, d) :: K) ∧ d0 ≤ d ∧ n = (rw_ to v).length - d ∧ st = stI to order low opn of many at_ v d K

set_option maxHeartbeats 2000000 in
theorem d27 (to : List (List Nat)) (order low of : List Nat) (many at_ i : Nat) (hg : Good to order low [] of many at_ []) (hi : i < to.length) (h0 : ix order i = 0) :
    Does Try.prog 27 [.ptr 1 0 0 0, iv i] (memS to order low [] of many at_) [1, 2, 3, 5] (Done to order i) := by
  refine Does.of (nt := 157) (ac := a27) (rds := a27R) c27 (fun c hc => ?_)
  have hio : i < order.length := by rw [hg.lo]; exact hi
  have hil : i < low.length := by rw [hg.ll]; exact hi
  have hat := hg.at_le
  unfold a27
  apply J.scope
  apply J.seq; refine J.regC (by simp; exact ⟨rfl, rfl⟩) ?_
  refine runL_call [1, 2, 3, 4, 5] [1, 2, 3, 5] rfl ?_ (d29 to order low [] of many at_ i hio hil (by omega) (by simp)) ?_ ?_ ?_ hc ?_
  · simp [memS]
  · simp
  · simp [memS]
  · simp
  rintro rv m ⟨rfl, rfl⟩
  refine ⟨?_, ?_⟩
  · simp [memS]
  refine runL_end (by simp [memS]; rfl) ?_
  simp
  apply J.seq; apply J.label; simp
  apply J.block
  refine J.loop hc (IOut to order i) ?_ ?_
  · refine ⟨_, _, ?_, order.set i (at_ + 1), low.set i (at_ + 1), [i], of, many, at_ + 1, [(i, 0)], hg.begin hi h0 (hg.inv.push_first hi h0) (by simp), ?_, ?_, rfl, rfl⟩
    · apply le_sub <;> simp [stO, memS, prs]
    · rw [ix_set _ hio]; simp [T.upd]
    · intro v hv
      rw [ix_set _ hio]; unfold T.upd; split
      · omega
      · exact hv
  rintro n st ⟨order', low', opn', of', many', at', K, hG, hvis, hmono, rfl, rfl⟩
  have hvis2 : ix order' i ≠ 0 := hvis
  unfold stO memS
  apply J.seq; apply J.seq; refine J.regE (by simp; rfl) ?_
  simp
  apply J.cond; simp
  refine ⟨fun hpos => ?_, fun hnil => ?_⟩
  case refine_2 =>
    subst hnil
    apply J.exit
    have hopn : opn' = [] := by
      cases opn' with
      | nil => rfl
      | cons y r => obtain ⟨p, hp, _⟩ := hG.inv.back y (by simp); simp at hp
    subst hopn
    refine ⟨by simp, rfl, _, memS to order' low' [] of' many' at', by simp [a27R]; rfl, ?_⟩
    refine ⟨by simp [memS], by simp, by simp [memS], by simp [memS], rfl, order', low', of', many', at', hG, rfl, hvis, hmono⟩
  apply J.skip; simp
  obtain ⟨⟨v, d⟩, K, rfl⟩ : ∃ p K', K = p :: K' := by cases K with | nil => simp at hpos | cons p K' => exact ⟨p, K', rfl⟩
  have hkl : K.length + 1 ≤ 100 := Nat.le_trans hG.kl hG.at_le
  have hw1 : IntKind.i64.wrap (K.length : Int) = K.length := wrap_id (by omega) (by omega)
  simp only [List.length_cons, List.reverse_cons]
  apply J.block
  apply J.seq; refine J.regE (by simp [hw1, show ((K.length : Nat) : Int) < (K.length : Int) + 1 from by omega]; rfl) ?_
  simp
  apply J.seq; apply J.block
  have hv : v < to.length := hG.opn_lt v (hG.inv.kopn (v, d) (by simp)).1
  have hrw : rw_ to v = to[v] := by simp [rw_, hv]
  refine J.loop hc (IIn to order' opn' of' many' at' v d K) ⟨_, _, St.le_refl _, low', d, hG, Nat.le_refl _, rfl, rfl⟩ ?_
  rintro n st ⟨low2, e, hG2, hde, rfl, rfl⟩
  unfold stI memS
  apply J.seq; apply J.seq; refine J.drawE (by simp [hv]; rfl) ?_
  simp
  apply J.cond; simp
  refine ⟨fun hlt => ?_, fun hge => ?_⟩
  · have hk : to[v][e] < to.length := hG2.inv.succ v _ (by rw [hrw]; exact List.getElem_mem hlt)
    have hdeg : to[v].length < 1000000 := hG.deg _ (List.getElem_mem hv)
    have hw2 : IntKind.i64.wrap ((e : Int) + 1) = e + 1 := wrap_id (by omega) (by omega)
    have hko : to[v][e] < order'.length := by rw [hG.lo]; exact hk
    have hkl2 : to[v][e] < low2.length := by rw [hG2.ll]; exact hk
    have hkf : to[v][e] < of'.length := by rw [hG.lf]; exact hk
    have hvl : v < low2.length := by rw [hG2.ll]; exact hv
    apply J.skip; simp
    apply J.block
    apply J.seq; refine J.drawE (by simp [hv, hlt]; rfl) ?_
    simp
    apply J.seq; refine J.regE (by simp [hw2, prs_last]; rfl) ?_
    simp
    apply J.block
    apply J.seq; refine J.regE (by simp [hko]; rfl) ?_
    simp
    apply J.cond; simp
    refine ⟨fun hz => ?_, fun hz => ?_⟩
    · apply J.seq; refine J.regC (by simp; exact ⟨rfl, rfl⟩) ?_
      refine runL_call [1, 2, 3, 4, 5] [1, 2, 3, 5] rfl ?_ (d29 to order' low2 opn' of' many' at' to[v][e] hko hkl2 (by have := hG.at_le; omega) (by have := hG.bounds; omega)) ?_ ?_ ?_ hc ?_
      · simp [memS]
      · simp
      · simp
      · simp
      rintro rv m ⟨rfl, rfl⟩
      refine ⟨by simp [memS], ?_⟩
      refine runL_end (by simp [memS, List.take_of_length_le, show (K.length + 1 + 1) * 16 ≤ 140737488355328 from by omega]; rfl) ?_
      simp
      have hG3 := hG2.begin hk (by rw [ix_get hko]; exact hz) (K' := (to[v][e], 0) :: (v, e + 1) :: K) (by
        have h1 : (rw_ to v)[e]'(by rw [hrw]; exact hlt) = to[v][e] := by simp [hrw]
        have := hG2.inv.push_edge (by rw [hrw]; exact hlt) (by rw [h1, ix_get hko]; exact hz)
        rw [h1] at this; exact this) (by have := hG2.kl; simp at this ⊢; omega)
      apply J.exit; simp
      refine ⟨_, left_push (hG.at_lt hko hz) hde (by rw [hrw]; exact hlt), stO to (order'.set to[v][e] (at' + 1)) (low2.set to[v][e] (at' + 1)) (opn' ++ [to[v][e]]) of' many' (at' + 1) ((to[v][e], 0) :: (v, e + 1) :: K), ?_, _, _, _, _, _, _, _, hG3, ?_, ?_, rfl, rfl⟩
      · apply le_sub <;> simp [stO, memS, prs_snoc]
      · rw [ix_set _ hko]; unfold T.upd; split
        · omega
        · exact hvis
      · intro w hw
        rw [ix_set _ hko]; unfold T.upd; split
        · omega
        · exact hmono w hw
    · apply J.seq; refine J.regE (by simp [hkf]; rfl) ?_
      simp
      apply J.cond; simp
      refine ⟨fun hz2 => ?_, fun hz2 => ?_⟩
      · have hG3 := hG2.edge hv hlt hk hz
        rw [if_pos hz2] at hG3
        refine J.drawE (by simp [hv, hvl, hko]; rfl) ?_
        simp [ite_min]
        refine ⟨_, ?_, _, St.le_refl _, _, e + 1, hG3, by omega, rfl, ?_⟩
        · rw [hrw]; omega
        · simp [stI, memS]
      · have hG3 := hG2.edge hv hlt hk hz
        rw [if_neg hz2] at hG3
        apply J.skip; simp
        refine ⟨_, ?_, stI to order' low2 opn' of' many' at' v (e + 1) K, ?_, _, e + 1, hG3, by omega, rfl, rfl⟩
        · rw [hrw]; omega
        · apply le_sub <;> simp [stI, memS]
  · apply J.exit; simp
    have he : e = (rw_ to v).length := by have := (hG2.inv.kopn (v, e) (by simp)).2; simp only at this; rw [hrw] at this ⊢; omega
    have hvo : v < order'.length := by rw [hG.lo]; exact hv
    have hvl : v < low2.length := by rw [hG2.ll]; exact hv
    have hvf : v < of'.length := by rw [hG2.lf]; exact hv
    have hb := hG2.bounds
    obtain ⟨opn2, of2, many2, hm2, hf2, hinv⟩ := hG2.pop hv he
    apply J.seq; refine J.regC (by simp; exact ⟨rfl, rfl⟩) ?_
    refine runL_call [1, 2, 3, 4, 5] [1, 2, 3, 4, 5] rfl ?_ (d30 to order' low2 opn' of' many' at' v hvo hvl hvf (by omega) (by omega) (hG2.inv.kopn (v, e) (by simp)).1 (fun x hx => by rw [hG2.lf]; exact hG2.opn_lt x hx)) ?_ ?_ ?_ hc ?_
    · simp [memS]
    · simp
    · simp
    · simp
    rintro rv m ⟨rfl, hm⟩
    rw [hm2] at hm
    subst hm
    refine ⟨by simp [memS], ?_⟩
    refine runL_end (by simp [memS]; rfl) ?_
    simp
    apply J.seq; refine J.regE (by simp; rfl) ?_
    simp
    have hle1 : (K.length : Int) ≤ (K.length : Int) + 1 := by omega
    apply J.seq; refine J.regE (by simp [hw1, hle1]; rfl) ?_
    simp
    apply J.seq; refine J.regE (by simp; rfl) ?_
    simp
    refine J.le hc (le_trunc (b := 27012) (k := K.length) (by simp [memS, look]; exact ⟨rfl, rfl, rfl⟩)) ?_
    simp [memS, prs_take]
    apply J.cond; simp
    cases K with
    | nil =>
      refine ⟨fun h => by simp at h, fun _ => ?_⟩
      apply J.skip
      have hG3 : Good to order' low2 opn2 of2 many2 at' [] := { hG2 with inv := hinv, lf := hf2.trans hG2.lf, kl := Nat.zero_le _ }
      refine ⟨_, stO to order' low2 opn2 of2 many2 at' [], left_pop, ?_, _, _, _, _, _, _, _, hG3, hvis, hmono, rfl, rfl⟩
      apply le_sub <;> simp [stO, memS]
    | cons p K' =>
      obtain ⟨u, du⟩ := p
      refine ⟨fun _ => ?_, fun h => by simp at h⟩
      have hu : u < to.length := hG2.opn_lt u (hG2.inv.kopn (u, du) (by simp)).1
      have hul : u < low2.length := by rw [hG2.ll]; exact hu
      have hkl3 : K'.length + 1 + 1 ≤ 100 := by simpa using hkl
      have hw3 : IntKind.i64.wrap (K'.length : Int) = K'.length := wrap_id (by omega) (by omega)
      have hle2 : (K'.length : Int) < (K'.length : Int) + 1 := by omega
      simp only [List.length_cons, List.reverse_cons]
      apply J.seq; refine J.regE (by simp [hw3, hle2]; rfl) ?_
      simp
      have hG3 : Good to order' (low2.set u (min low2[u] low2[v])) opn2 of2 many2 at' ((u, du) :: K') := { hG2 with
        inv := by
          rw [ix_set _ hul, ← ix_get hul, ← ix_get hvl]; exact hinv
        ll := by simp [hG2.ll], lf := hf2.trans hG2.lf, kl := by have := hG2.kl; simp at this ⊢; omega }
      refine J.drawC (by simp [hul, hvl]; exact ⟨rfl, rfl⟩) (fun c' _ => ?_)
      have hfin : ∃ m s', m < left_ to at' ((v, d) :: (u, du) :: K') ∧ St.le (stO to order' (low2.set u (min low2[u] low2[v])) opn2 of2 many2 at' ((u, du) :: K')) s' ∧ IOut to order i m s' :=
        ⟨_, _, left_pop, St.le_refl _, _, _, _, _, _, _, _, hG3, hvis, hmono, rfl, rfl⟩
      refine runP_alt rfl rfl (by simp [hul]; rfl) ?_ (.inr ?_)
      · refine runP_end (by simp [hul, hvl]; rfl) ?_
        simp [ite_min]
        simpa [stO, memS, Nat.min_comm] using hfin
      · refine runP_end (by simp [hul, hvl]; rfl) ?_
        simp [ite_min]
        simpa [stO, memS, Nat.min_comm] using hfin
end Go.Proofs.Ythccfgkklimebaa.F
