/- Chapter 11: slices.Index, (*search).begin, (*search).end. -/
import Derived.Test.YthccfgkklimebaaSxI
import Derived.Test.YthccfgkklimebaaCode
import Derived.Test.YthccfgkklimebaaProg
import Derived.KernelRfl
set_option linter.unusedVariables false
set_option linter.unusedSimpArgs false
namespace Go.Proofs.Ythccfgkklimebaa.F
open Go Go.SX

theorem c28 : chkFn Try.prog 28 19 2 a28 a28R = true := by kernel_rfl
theorem c29 : chkFn Try.prog 29 44 2 a29 a29R = true := by kernel_rfl
theorem c30 : chkFn Try.prog 30 66 2 a30 a30R = true := by kernel_rfl

abbrev rows (l : List (List Nat)) : List (List AV) := l.map fun r => [.ro 1 (nats r)]

def memS (to : List (List Nat)) (order low opn of : List Nat) (many at_ : Nat) : Mem :=
  [(1, .obj 48 [.ro 1 (rows to), .own 2 1 0 order.length, .own 3 1 0 low.length, .own 4 1 0 opn.length, .own 5 1 0 of.length, iv many, iv at_]),
    (2, .arr 3 1 (nats order)), (3, .arr 3 1 (nats low)), (4, .arr 3 1 (nats opn)), (5, .arr 3 1 (nats of))]

def index : List Nat → Nat → Nat → Option Nat
  | [], _, _ => none
  | y :: r, x, n => if x = y then some n else index r x (n + 1)

theorem d28 (l : List Nat) (x : Nat) (h : l.length < 1000000) : Does Try.prog 28 [.ro 1 (nats l), iv x] [] [] (fun r m => m = [] ∧ r = iv (match index l x 0 with | some i => i | none => -1)) := by
  refine Does.of (nt := 19) (ac := a28) (rds := a28R) c28 (fun c hc => ?_)
  unfold a28
  apply J.seq; refine J.regE (by simp; rfl) ?_
  simp
  apply J.seq; apply J.seq; refine J.regE (by simp; rfl) ?_
  simp
  apply J.block
  refine J.loop hc (fun n st => ∃ i : Nat, i ≤ l.length ∧ n = l.length - i ∧ index l x 0 = index (l.drop i) x i ∧ st = ⟨[(0, .ro 1 (nats l)), (1, iv x), (7, iv l.length), (8, iv i)], [], []⟩) ?_ ?_
  · exact ⟨_, _, St.le_refl _, 0, by simp, rfl, by simp, by simp⟩
  · rintro n st ⟨i, hi, rfl, hx, rfl⟩
    apply J.seq; refine J.regE (by simp; rfl) ?_
    simp
    apply J.seq
    apply J.cond; simp
    refine ⟨fun hb => ?_, fun hb => ?_⟩
    · have hw : IntKind.i64.wrap ((i : Int) + 1) = i + 1 := wrap_id (by omega) (by omega)
      apply J.skip
      apply J.seq; apply J.block
      apply J.seq; refine J.regE (by simp; rfl) ?_
      simp
      apply J.seq; refine J.regE (by simp [hb]; rfl) ?_
      simp
      apply J.cond; simp
      refine ⟨fun he => ?_, fun he => ?_⟩
      · have hf : index l x 0 = some i := by rw [hx, List.drop_eq_getElem_cons hb]; simp [index]; omega
        apply J.seq; refine J.regE (by simp; rfl) ?_
        simp
        apply J.ret
        refine ⟨by simp, rfl, _, [], by simp [a28R]; rfl, ?_⟩
        simp [hf]
      · have hf : index l x 0 = index (l.drop (i + 1)) x (i + 1) := by rw [hx, List.drop_eq_getElem_cons hb]; simp [index]; omega
        apply J.skip; simp
        refine J.regE (by simp [hw]; rfl) ?_
        simp
        exact ⟨_, by omega, _, St.le_refl _, i + 1, by omega, rfl, hf, by simp⟩
    · have : i = l.length := by omega
      subst this
      apply J.exit; simp
      apply J.seq; refine J.regE (by simp; rfl) ?_
      simp
      apply J.ret
      refine ⟨by simp, rfl, _, [], by simp [a28R]; rfl, ?_⟩
      simp [hx, index]

theorem d29 (to : List (List Nat)) (order low opn of : List Nat) (many at_ i : Nat) (hi : i < order.length) (hl : i < low.length) (h1 : at_ < 1000) (h2 : opn.length < 1000) :
    Does Try.prog 29 [.ptr 1 0 0 0, iv i] (memS to order low opn of many at_) [1, 2, 3, 5] (fun r m => r = .agg [iv i, iv 0] ∧ m = memS to (order.set i (at_ + 1)) (low.set i (at_ + 1)) (opn ++ [i]) of many (at_ + 1)) := by
  refine Does.of (nt := 44) (ac := a29) (rds := a29R) c29 (fun c hc => ?_)
  unfold a29 memS
  have hw : IntKind.i64.wrap ((at_ : Int) + 1) = at_ + 1 := wrap_id (by omega) (by omega)
  have hb : (opn.length + 1) * 8 ≤ 140737488355328 := by omega
  apply J.seq; refine J.regE (by simp; rfl) ?_
  simp
  apply J.seq; refine J.regE (by simp [hw]; rfl) ?_
  simp
  apply J.seq; refine J.drawE (by simp [hi, hl]; rfl) ?_
  simp
  apply J.seq; refine J.regE (by simp [hb, List.take_of_length_le]; rfl) ?_
  simp
  apply J.seq; refine J.regE (by simp; rfl) ?_
  simp
  apply J.ret
  refine ⟨by simp, rfl, _, memS to (order.set i (at_ + 1)) (low.set i (at_ + 1)) (opn ++ [i]) of many (at_ + 1), by simp [a29R]; rfl, ?_⟩
  simp [memS]

theorem index_eq : ∀ (l : List Nat) (x n : Nat), x ∈ l → index l x n = some (n + l.idxOf x)
  | y :: r, x, n, h => by
    simp only [index]
    by_cases e : x = y
    · subst e; simp
    · have e2 : (y == x) = false := by simpa using Ne.symm e
      rw [if_neg e, index_eq r x (n + 1) (by simpa [e] using h), List.idxOf_cons, e2]
      simp; omega

/-- The component's number is told to all of it. -/
def tell (of l : List Nat) (v : Nat) : List Nat := l.foldl (fun o j => o.set j v) of
@[simp] theorem tell_length (v : Nat) : ∀ (l of : List Nat), (tell of l v).length = of.length
  | [], _ => rfl
  | j :: r, of => by simp only [tell, List.foldl_cons]; exact (tell_length v r _).trans (by simp)
theorem tell_snoc (of l : List Nat) (j v : Nat) : tell of (l ++ [j]) v = (tell of l v).set j v := by simp [tell]

theorem d30 (to : List (List Nat)) (order low opn of : List Nat) (many at_ i : Nat) (hi : i < order.length) (hl : i < low.length) (hio : i < of.length) (h1 : many < 1000) (h2 : opn.length < 1000) (hin : i ∈ opn) (hop : ∀ x ∈ opn, x < of.length) :
    Does Try.prog 30 [.ptr 1 0 0 0, iv i] (memS to order low opn of many at_) [1, 2, 3, 4, 5] (fun r m => r = .tup [] ∧ m = if low[i] < order[i] then memS to order low opn of many at_ else
      memS to order low (opn.take (opn.idxOf i)) (tell of (opn.drop (opn.idxOf i)) (many + 1)) (many + 1) at_) := by
  refine Does.of (nt := 66) (ac := a30) (rds := a30R) c30 (fun c hc => ?_)
  unfold a30 memS
  have hw : IntKind.i64.wrap ((many : Int) + 1) = many + 1 := wrap_id (by omega) (by omega)
  apply J.seq; apply J.seq; refine J.drawE (by simp [hi, hl]; rfl) ?_
  simp
  apply J.cond; simp
  refine ⟨fun hlt => ?_, fun hlt => ?_⟩
  · apply J.ret
    refine ⟨by simp, rfl, _, memS to order low opn of many at_, by simp [a30R]; rfl, ?_⟩
    simp [memS, hlt]
  apply J.skip; simp
  apply J.seq; refine J.regE (by simp [hw]; rfl) ?_
  simp
  apply J.seq; refine J.regC (by simp; exact ⟨rfl, rfl⟩) ?_
  refine runL_view (le_freeze _ 4 rfl) (stF := St.freeze _ 4) rfl ?_ (d28 opn i (by omega)) ?_ ?_
  · simp [St.freeze, frz]
  · simp
  rintro rv m ⟨rfl, rfl⟩
  refine ⟨rfl, rfl, ?_⟩
  refine runL_end (by simp; rfl) ?_
  have hk : opn.idxOf i < opn.length := List.idxOf_lt_length_of_mem hin
  generalize hkk : opn.idxOf i = k at hk
  simp only [index_eq opn i 0 hin, hkk, Nat.zero_add]
  apply J.seq; apply J.seq; refine J.regE (by simp [show ((k : Nat) : Int) ≤ (opn.length : Int) from by omega]; rfl) ?_
  simp
  apply J.block
  refine J.loop hc (fun n st => ∃ j : Nat, j ≤ opn.length - k ∧ n = opn.length - k - j ∧ st = ⟨[(0, .ptr 1 0 0 0), (4, iv k), (40, .own 4 1 k (opn.length - k)), (41, iv (opn.length - k : Nat)), (42, iv j)],
    memS to order low opn (tell of ((opn.drop k).take j) (many + 1)) (many + 1) at_, [1, 2, 3, 4, 5]⟩) ?_ ?_
  · refine ⟨_, _, St.le_refl _, 0, by simp, rfl, ?_⟩
    simp [memS, tell]
  · rintro n st ⟨j, hj, rfl, rfl⟩
    have hel : (tell of ((opn.drop k).take j) (many + 1)).length = of.length := tell_length _ _ _
    unfold memS
    apply J.seq; refine J.regE (by simp; rfl) ?_
    simp
    apply J.seq; apply J.cond; simp
    refine ⟨fun hb => ?_, fun hb => ?_⟩
    · have hwj : IntKind.i64.wrap ((j : Int) + 1) = j + 1 := wrap_id (by omega) (by omega)
      have hkj : k + j < opn.length := by omega
      have hx : opn[k + j] < of.length := hop _ (List.getElem_mem _)
      apply J.skip; simp
      apply J.seq; apply J.block
      apply J.seq; refine J.regE (by simp [hb, hkj]; rfl) ?_
      simp
      refine J.drawE (by simp [hx, hel]; rfl) ?_
      simp
      refine J.regE (by simp [hwj]; rfl) ?_
      simp
      refine ⟨_, ?_, _, St.le_refl _, j + 1, by omega, rfl, ?_⟩
      · omega
      · have : (opn.drop k).take (j + 1) = (opn.drop k).take j ++ [opn[k + j]] := by
          rw [List.take_add_one, List.getElem?_drop, List.getElem?_eq_getElem hkj]; rfl
        simp [this, tell_snoc]
    · have : j = opn.length - k := by omega
      subst this
      have ht : (opn.drop k).take (opn.length - k) = opn.drop k := List.take_of_length_le (by simp)
      apply J.exit; simp
      refine J.le hc (le_trunc (b := 4) (k := k) rfl) ?_
      simp
      refine J.regE (by simp [show ((k : Nat) : Int) ≤ (opn.length : Int) from by omega]; rfl) ?_
      refine ⟨by simp, rfl, _, memS to order low (opn.take k) (tell of (opn.drop k) (many + 1)) (many + 1) at_, by simp [a30R]; rfl, ?_⟩
      simp [memS, ht, show min k opn.length = k from by omega, Nat.not_lt.2 hlt]
end Go.Proofs.Ythccfgkklimebaa.F
