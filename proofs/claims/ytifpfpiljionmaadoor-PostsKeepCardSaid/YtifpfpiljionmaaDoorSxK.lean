/- SX, part K: numbers, rows of numbers; what simp is to unfold. -/
import Derived.Test.YtifpfpiljionmaaDoorSxH
set_option linter.unusedVariables false
set_option linter.unusedSimpArgs false
namespace Go.SX
open Go

attribute [simp] gval entry number thenQ blockQ loopQ scopeQ evalL evalP stepI isCall wrOK quiet exec pv St.src look upd St.put St.put? mkv lv wrs keepS St.keep resL resV resT bop ibin St.kill St.fresh drop kill killL killS srcsOf cellsA mapCells isTree isCell rowOf rowSz notOn bound lowb fillA refsIn refsInL Blk.refs noTree noTreeL noTreeB callSt killAll killAllB dropAll doneQ eqA eqv kindV

@[simp] theorem killB_arr (b ty sz : Nat) (es : List (List AV)) : killB b (.arr ty sz es) = .arr ty sz es := rfl
@[simp] theorem killB_obj (b ty : Nat) (cs : List AV) : killB b (.obj ty cs) = .obj ty (killL b cs) := rfl

/-- A whole number as a value. -/
abbrev iv (x : Int) : AV := .lit (.int .i64 x)
abbrev bv (b : Bool) : AV := .lit (.bool b)

def ints (l : List Int) : List (List AV) := l.map fun x => [iv x]
def nats (l : List Nat) : List (List AV) := l.map fun (x : Nat) => [iv (x : Int)]
def bools (l : List Bool) : List (List AV) := l.map fun x => [bv x]

section
variable (l m : List Nat) (i : Nat)
@[simp] theorem nats_length : (nats l).length = l.length := by simp [nats]
@[simp] theorem nats_getElem (h : i < (nats l).length) : (nats l)[i] = [iv ((l[i]'(by simpa using h) : Nat) : Int)] := by simp [nats]
@[simp] theorem nats_set (x : Nat) : (nats l).set i [iv (x : Int)] = nats (l.set i x) := by simp [nats, List.map_set]
@[simp] theorem nats_set1 (x : Nat) : (nats l).set i [iv ((x : Int) + 1)] = nats (l.set i (x + 1)) := by simp [nats, List.map_set]
@[simp] theorem nats_append : nats l ++ nats m = nats (l ++ m) := by simp [nats]
@[simp] theorem nats_snoc (x : Nat) : nats l ++ [[iv (x : Int)]] = nats (l ++ [x]) := by simp [nats]
@[simp] theorem nats_take : (nats l).take i = nats (l.take i) := by simp [nats, List.map_take]
@[simp] theorem nats_drop : (nats l).drop i = nats (l.drop i) := by simp [nats, List.map_drop]
@[simp] theorem nats_nil : nats [] = [] := rfl
theorem nats_zero : List.replicate i [iv 0] = nats (List.replicate i 0) := by simp [nats]
end
section
variable (l m : List Int) (i : Nat)
@[simp] theorem ints_length : (ints l).length = l.length := by simp [ints]
@[simp] theorem ints_getElem (h : i < (ints l).length) : (ints l)[i] = [iv (l[i]'(by simpa using h))] := by simp [ints]
@[simp] theorem ints_set (x : Int) : (ints l).set i [iv x] = ints (l.set i x) := by simp [ints, List.map_set]
@[simp] theorem ints_append : ints l ++ ints m = ints (l ++ m) := by simp [ints]
@[simp] theorem ints_snoc (x : Int) : ints l ++ [[iv x]] = ints (l ++ [x]) := by simp [ints]
@[simp] theorem ints_take : (ints l).take i = ints (l.take i) := by simp [ints, List.map_take]
@[simp] theorem ints_drop : (ints l).drop i = ints (l.drop i) := by simp [ints, List.map_drop]
@[simp] theorem ints_nil : ints [] = [] := rfl
end
section
variable (l m : List Bool) (i : Nat)
@[simp] theorem bools_length : (bools l).length = l.length := by simp [bools]
@[simp] theorem bools_getElem (h : i < (bools l).length) : (bools l)[i] = [bv (l[i]'(by simpa using h))] := by simp [bools]
@[simp] theorem bools_set (x : Bool) : (bools l).set i [bv x] = bools (l.set i x) := by simp [bools, List.map_set]
@[simp] theorem bools_nil : bools [] = [] := rfl
end
end Go.SX
