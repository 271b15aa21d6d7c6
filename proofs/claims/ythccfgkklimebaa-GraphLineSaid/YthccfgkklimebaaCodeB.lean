/- The code of chapter 11's other functions, as data. Printed by Gen.lean. -/
import Derived.Test.YthccfgkklimebaaSxK
namespace Go.Proofs.Ythccfgkklimebaa.F
open Go Go.SX

/-! colloquy/graph.Components$1: slots 49, parameters 1 -/
def a22r0 : AC := .reg [⟨(some 6), none, .mov (.c (.lit (.bool false)))⟩] [0, 1, 2, 3, 4]
def a22r1 : AC := .reg [⟨(some 11), none, .load 1 false (.s 1)⟩,
    ⟨(some 12), none, .mov (.s 0)⟩,
    ⟨(some 13), none, .iaddr 1 (.s 11) (.s 12)⟩,
    ⟨(some 14), none, .load 1 false (.s 13)⟩,
    ⟨(some 15), none, .len (.s 14)⟩,
    ⟨(some 16), none, .mov (.c (.lit (.int .i64 0)))⟩] [0, 2, 3, 4, 14, 15, 16]
def a22r2 : AC := .reg [⟨(some 17), none, .iop .lss (.s 16) (.s 15)⟩] [0, 2, 3, 4, 14, 15, 16, 17]
def a22r3 : AC := .reg [⟨(some 18), none, .iaddr 1 (.s 14) (.s 16)⟩,
    ⟨(some 19), none, .load 1 false (.s 18)⟩,
    ⟨(some 8), none, .mov (.s 19)⟩] [0, 2, 3, 4, 8, 14, 15, 16]
def a22r4 : AC := .reg [⟨(some 20), none, .load 1 false (.s 2)⟩,
    ⟨(some 21), none, .mov (.s 8)⟩,
    ⟨(some 22), none, .iaddr 1 (.s 20) (.s 21)⟩,
    ⟨(some 23), none, .load 1 false (.s 22)⟩,
    ⟨(some 24), none, .len (.s 23)⟩,
    ⟨(some 25), none, .mov (.c (.lit (.int .i64 0)))⟩] [0, 2, 3, 4, 14, 15, 16, 23, 24, 25]
def a22r5 : AC := .reg [⟨(some 26), none, .iop .lss (.s 25) (.s 24)⟩] [0, 2, 3, 4, 14, 15, 16, 23, 24, 25, 26]
def a22r6 : AC := .reg [⟨(some 27), none, .iaddr 1 (.s 23) (.s 25)⟩,
    ⟨(some 28), none, .load 1 false (.s 27)⟩,
    ⟨(some 10), none, .mov (.s 28)⟩] [0, 2, 3, 4, 10, 14, 15, 16, 23, 24, 25]
def a22r7 : AC := .draw [] (.take 0 ⟨(some 29), none, .load 1 false (.s 3)⟩ <|
    .take 1 ⟨(some 30), none, .mov (.s 10)⟩ <|
    .take 2 ⟨(some 31), none, .iaddr 1 (.s 29) (.s 30)⟩ <|
    .take 3 ⟨(some 32), none, .load 1 false (.s 31)⟩ <|
    .take 4 ⟨(some 33), none, .iop .sub (.s 32) (.c (.lit (.int .i64 1)))⟩ <|
    .take 5 ⟨(some 34), none, .mov (.s 0)⟩ <|
    .take 6 ⟨(some 35), none, .iop .neq (.s 33) (.s 34)⟩ <|
    .take 7 ⟨(some 36), none, .mov (.s 35)⟩ <|
    .take 8 ⟨(some 37), (some (36, true)), .load 1 false (.s 4)⟩ <|
    .take 9 ⟨(some 38), (some (36, true)), .load 1 false (.s 3)⟩ <|
    .take 10 ⟨(some 39), (some (36, true)), .mov (.s 10)⟩ <|
    .take 11 ⟨(some 40), (some (36, true)), .iaddr 1 (.s 38) (.s 39)⟩ <|
    .take 12 ⟨(some 41), (some (36, true)), .load 1 false (.s 40)⟩ <|
    .take 13 ⟨(some 42), (some (36, true)), .iop .sub (.s 41) (.c (.lit (.int .i64 1)))⟩ <|
    .take 14 ⟨(some 43), (some (36, true)), .iaddr 1 (.s 37) (.s 42)⟩ <|
    .take 15 ⟨(some 44), (some (36, true)), .load 1 false (.s 43)⟩ <|
    .take 16 ⟨(some 45), (some (36, true)), .not (.s 44)⟩ <|
    .take 17 ⟨(some 46), none, .pick (.s 36) (.s 45) (.c (.lit (.bool false)))⟩ <|
    .done) [0, 2, 3, 4, 14, 15, 16, 23, 24, 25, 46]
def a22r8 : AC := .reg [⟨(some 6), none, .mov (.c (.lit (.bool false)))⟩] [6]
def a22r9 : AC := .reg [⟨(some 47), none, .iop .add (.s 25) (.c (.lit (.int .i64 1)))⟩,
    ⟨(some 25), none, .mov (.s 47)⟩] [0, 2, 3, 4, 14, 15, 16, 23, 24, 25]
def a22L5 : AC := .seq (a22r5) (.seq (.cond (.s 26) (.skip) (.exit 2)) (.seq (.block 3 (.seq (a22r6) (.seq (a22r7) (.cond (.s 46) (.seq (a22r8) (.ret)) (.skip))))) (a22r9)))
def a22r10 : AC := .reg [⟨(some 48), none, .iop .add (.s 16) (.c (.lit (.int .i64 1)))⟩,
    ⟨(some 16), none, .mov (.s 48)⟩] [0, 2, 3, 4, 14, 15, 16]
def a22L2 : AC := .seq (a22r2) (.seq (.cond (.s 17) (.skip) (.exit 0)) (.seq (.block 1 (.seq (a22r3) (.seq (a22r4) (.block 2 (.loop a22L5))))) (a22r10)))
def a22r11 : AC := .reg [⟨(some 6), none, .mov (.c (.lit (.bool true)))⟩] [6]
def a22 : AC := .seq (a22r0) (.seq (.seq (a22r1) (.block 0 (.loop a22L2))) (.seq (a22r11) (.ret)))
def a22R : List RD := [.tmp 6]

/-! colloquy/graph.Components: slots 77, parameters 2 -/
def a12r0 : AC := .reg [⟨(some 4), none, .mov (.c (.nils 1))⟩] [0, 1]
def a12r1 : AC := .reg [⟨(some 13), none, .mov (.s 0)⟩,
    ⟨(some 14), none, .mov (.s 1)⟩,
    ⟨(some 15), none, .callv (.c (.fn 20 [])) [(.s 13), (.s 14)]⟩,
    ⟨(some 5), none, .alloc 12005 25 [(.nils 1)]⟩,
    ⟨none, none, .store 1 (.s 5) (.s 15)⟩] [5]
def a12r2 : AC := .reg [⟨(some 17), none, .load 1 false (.s 5)⟩,
    ⟨(some 18), none, .callv (.c (.fn 21 [])) [(.s 17)]⟩,
    ⟨(some 16), none, .mov (.s 18)⟩,
    ⟨(some 19), none, .extract 0 (.s 16)⟩,
    ⟨(some 20), none, .extract 1 (.s 16)⟩,
    ⟨(some 6), none, .alloc 12006 25 [(.nils 1)]⟩,
    ⟨(some 7), none, .alloc 12007 29 [(.nils 1)]⟩,
    ⟨none, none, .store 1 (.s 6) (.s 19)⟩,
    ⟨none, none, .store 1 (.s 7) (.s 20)⟩] [5, 6, 7]
def a12r3 : AC := .reg [⟨(some 21), none, .load 1 false (.s 6)⟩,
    ⟨(some 22), none, .len (.s 21)⟩,
    ⟨(some 23), none, .mkslice 12023 4 1 1 [(.lit (.bool false))] (.s 22)⟩,
    ⟨(some 8), none, .alloc 12008 38 [(.nils 1)]⟩,
    ⟨none, none, .store 1 (.s 8) (.s 23)⟩] [5, 6, 7, 8]
def a12r4 : AC := .reg [⟨(some 24), none, .mkfn 22 [(.s 6), (.s 5), (.s 7), (.s 8)]⟩,
    ⟨(some 9), none, .mov (.s 24)⟩] [6, 8, 9]
def a12r5 : AC := .reg [⟨(some 10), none, .mov (.c (.nils 1))⟩] [6, 8, 9, 10]
def a12r6 : AC := .reg [⟨(some 25), none, .load 1 false (.s 6)⟩,
    ⟨(some 26), none, .len (.s 25)⟩,
    ⟨(some 27), none, .mov (.c (.lit (.int .i64 0)))⟩] [6, 8, 9, 10, 26, 27]
def a12r7 : AC := .reg [⟨(some 28), none, .iop .lss (.s 27) (.s 26)⟩] [6, 8, 9, 10, 26, 27, 28]
def a12r8 : AC := .reg [⟨(some 11), none, .mov (.c (.lit (.int .i64 (-1))))⟩] [6, 8, 9, 10, 11, 26, 27]
def a12r9 : AC := .reg [⟨(some 29), none, .load 1 false (.s 6)⟩,
    ⟨(some 30), none, .len (.s 29)⟩,
    ⟨(some 31), none, .mov (.c (.lit (.int .i64 0)))⟩] [6, 8, 9, 10, 11, 26, 27, 30, 31]
def a12r10 : AC := .reg [⟨(some 32), none, .iop .lss (.s 31) (.s 30)⟩] [6, 8, 9, 10, 11, 26, 27, 30, 31, 32]
def a12r11 : AC := .reg [⟨(some 33), none, .mov (.s 31)⟩,
    ⟨(some 12), none, .mov (.s 33)⟩] [6, 8, 9, 10, 11, 12, 26, 27, 30, 31]
def a12r12 : AC := .draw [] (.take 0 ⟨(some 34), none, .load 1 false (.s 8)⟩ <|
    .take 1 ⟨(some 35), none, .mov (.s 12)⟩ <|
    .take 2 ⟨(some 36), none, .iaddr 1 (.s 34) (.s 35)⟩ <|
    .take 3 ⟨(some 37), none, .load 1 false (.s 36)⟩ <|
    .take 4 ⟨(some 38), none, .not (.s 37)⟩ <|
    .take 5 ⟨(some 39), none, .mov (.s 38)⟩ <|
    .take 6 ⟨(some 40), (some (39, true)), .mov (.s 9)⟩ <|
    .take 7 ⟨(some 41), (some (39, true)), .mov (.s 12)⟩ <|
    .alt 8 ⟨(some 42), (some (39, true)), .callv (.s 40) [(.s 41)]⟩ (
    .take 9 ⟨(some 43), none, .pick (.s 39) (.s 42) (.c (.lit (.bool false)))⟩ <|
    .take 10 ⟨(some 44), none, .mov (.s 43)⟩ <|
    .take 11 ⟨(some 45), (some (44, true)), .mov (.s 11)⟩ <|
    .take 12 ⟨(some 46), (some (44, true)), .iop .lss (.s 45) (.c (.lit (.int .i64 0)))⟩ <|
    .take 13 ⟨(some 47), (some (44, true)), .mov (.s 46)⟩ <|
    .take 14 ⟨(some 48), (some (47, false)), .load 1 false (.s 6)⟩ <|
    .take 15 ⟨(some 49), (some (47, false)), .mov (.s 12)⟩ <|
    .take 16 ⟨(some 50), (some (47, false)), .iaddr 1 (.s 48) (.s 49)⟩ <|
    .take 17 ⟨(some 51), (some (47, false)), .load 1 false (.s 50)⟩ <|
    .take 18 ⟨(some 52), (some (47, false)), .iaddr 1 (.s 51) (.c (.lit (.int .i64 0)))⟩ <|
    .take 19 ⟨(some 53), (some (47, false)), .load 1 false (.s 52)⟩ <|
    .take 20 ⟨(some 54), (some (47, false)), .load 1 false (.s 6)⟩ <|
    .take 21 ⟨(some 55), (some (47, false)), .mov (.s 11)⟩ <|
    .take 22 ⟨(some 56), (some (47, false)), .iaddr 1 (.s 54) (.s 55)⟩ <|
    .take 23 ⟨(some 57), (some (47, false)), .load 1 false (.s 56)⟩ <|
    .take 24 ⟨(some 58), (some (47, false)), .iaddr 1 (.s 57) (.c (.lit (.int .i64 0)))⟩ <|
    .take 25 ⟨(some 59), (some (47, false)), .load 1 false (.s 58)⟩ <|
    .take 26 ⟨(some 60), (some (47, false)), .iop .lss (.s 53) (.s 59)⟩ <|
    .take 27 ⟨(some 61), (some (44, true)), .pick (.s 47) (.c (.lit (.bool true))) (.s 60)⟩ <|
    .take 28 ⟨(some 62), none, .pick (.s 44) (.s 61) (.c (.lit (.bool false)))⟩ <|
    .done) .done) [6, 8, 9, 10, 11, 12, 26, 27, 30, 31, 62]
def a12r13 : AC := .reg [⟨(some 63), none, .mov (.s 12)⟩,
    ⟨(some 11), none, .mov (.s 63)⟩] [6, 8, 9, 10, 11, 26, 27, 30, 31]
def a12r14 : AC := .reg [⟨(some 64), none, .iop .add (.s 31) (.c (.lit (.int .i64 1)))⟩,
    ⟨(some 31), none, .mov (.s 64)⟩] [6, 8, 9, 10, 11, 26, 27, 30, 31]
def a12L10 : AC := .seq (a12r10) (.seq (.cond (.s 32) (.skip) (.exit 2)) (.seq (.block 3 (.seq (a12r11) (.seq (a12r12) (.cond (.s 62) (a12r13) (.skip))))) (a12r14)))
def a12r15 : AC := .reg [⟨(some 65), none, .load 1 false (.s 8)⟩,
    ⟨(some 66), none, .mov (.s 11)⟩,
    ⟨(some 67), none, .iaddr 1 (.s 65) (.s 66)⟩,
    ⟨none, none, .store 1 (.s 67) (.c (.lit (.bool true)))⟩] [6, 8, 9, 10, 11, 26, 27]
def a12r16 : AC := .reg [⟨(some 68), none, .mov (.s 10)⟩,
    ⟨(some 69), none, .load 1 false (.s 6)⟩,
    ⟨(some 70), none, .mov (.s 11)⟩,
    ⟨(some 71), none, .iaddr 1 (.s 69) (.s 70)⟩,
    ⟨(some 72), none, .load 1 false (.s 71)⟩,
    ⟨(some 73), none, .bslice 12073 29 1 [(.s 72)]⟩,
    ⟨(some 74), none, .append 12074 29 1 24 (.s 68) (.s 73)⟩,
    ⟨(some 10), none, .mov (.s 74)⟩] [6, 8, 9, 10, 26, 27]
def a12r17 : AC := .reg [⟨(some 75), none, .iop .add (.s 27) (.c (.lit (.int .i64 1)))⟩,
    ⟨(some 27), none, .mov (.s 75)⟩] [6, 8, 9, 10, 26, 27]
def a12L7 : AC := .seq (a12r7) (.seq (.cond (.s 28) (.skip) (.exit 0)) (.seq (.block 1 (.seq (a12r8) (.seq (.seq (a12r9) (.block 2 (.loop a12L10))) (.seq (a12r15) (a12r16))))) (a12r17)))
def a12r18 : AC := .reg [⟨(some 76), none, .mov (.s 10)⟩,
    ⟨(some 4), none, .mov (.s 76)⟩] [4]
def a12 : AC := .seq (a12r0) (.seq (a12r1) (.seq (a12r2) (.seq (a12r3) (.seq (a12r4) (.seq (a12r5) (.seq (.seq (a12r6) (.block 0 (.loop a12L7))) (.seq (a12r18) (.ret))))))))
def a12R : List RD := [.tmp 4]

/-! colloquy/graph.Closure: slots 85, parameters 3 -/
def a15r0 : AC := .reg [⟨(some 6), none, .mov (.c (.nils 1))⟩] [0, 1, 2]
def a15r1 : AC := .reg [⟨(some 16), none, .mov (.s 0)⟩,
    ⟨(some 17), none, .mov (.s 1)⟩,
    ⟨(some 18), none, .callv (.c (.fn 20 [])) [(.s 16), (.s 17)]⟩,
    ⟨(some 7), none, .mov (.s 18)⟩] [2, 7]
def a15r2 : AC := .reg [⟨(some 19), none, .mov (.s 2)⟩,
    ⟨(some 20), none, .iop .lss (.s 19) (.c (.lit (.int .i64 0)))⟩,
    ⟨(some 21), none, .mov (.s 20)⟩,
    ⟨(some 22), (some (21, false)), .mov (.s 2)⟩,
    ⟨(some 23), (some (21, false)), .mov (.s 7)⟩,
    ⟨(some 24), (some (21, false)), .len (.s 23)⟩,
    ⟨(some 25), (some (21, false)), .iop .geq (.s 22) (.s 24)⟩,
    ⟨(some 26), none, .pick (.s 21) (.c (.lit (.bool true))) (.s 25)⟩] [2, 7, 26]
def a15r3 : AC := .reg [⟨(some 6), none, .mov (.c (.nils 1))⟩] [6]
def a15r4 : AC := .reg [⟨(some 27), none, .mov (.s 7)⟩,
    ⟨(some 28), none, .len (.s 27)⟩,
    ⟨(some 29), none, .mkslice 15029 4 1 1 [(.lit (.bool false))] (.s 28)⟩,
    ⟨(some 8), none, .mov (.s 29)⟩] [2, 7, 8]
def a15r5 : AC := .reg [⟨(some 30), none, .mov (.s 8)⟩,
    ⟨(some 31), none, .mov (.s 2)⟩,
    ⟨(some 32), none, .iaddr 1 (.s 30) (.s 31)⟩,
    ⟨none, none, .store 1 (.s 32) (.c (.lit (.bool true)))⟩] [2, 7, 8]
def a15r6 : AC := .reg [⟨(some 33), none, .mov (.s 2)⟩,
    ⟨(some 34), none, .bslice 15034 3 1 [(.s 33)]⟩,
    ⟨(some 9), none, .mov (.s 34)⟩] [7, 8, 9]
def a15r7 : AC := .reg [⟨(some 35), none, .mov (.s 9)⟩,
    ⟨(some 36), none, .len (.s 35)⟩,
    ⟨(some 37), none, .iop .gtr (.s 36) (.c (.lit (.int .i64 0)))⟩] [7, 8, 9, 37]
def a15r8 : AC := .reg [⟨(some 38), none, .mov (.s 9)⟩,
    ⟨(some 39), none, .mov (.s 9)⟩,
    ⟨(some 40), none, .len (.s 39)⟩,
    ⟨(some 41), none, .iop .sub (.s 40) (.c (.lit (.int .i64 1)))⟩,
    ⟨(some 42), none, .iaddr 1 (.s 38) (.s 41)⟩,
    ⟨(some 43), none, .load 1 false (.s 42)⟩,
    ⟨(some 10), none, .mov (.s 43)⟩] [7, 8, 9, 10]
def a15r9 : AC := .reg [⟨(some 44), none, .mov (.s 9)⟩,
    ⟨(some 45), none, .mov (.s 9)⟩,
    ⟨(some 46), none, .len (.s 45)⟩,
    ⟨(some 47), none, .iop .sub (.s 46) (.c (.lit (.int .i64 1)))⟩,
    ⟨(some 48), none, .slice 1 (.s 44) none (some (.s 47))⟩,
    ⟨(some 9), none, .mov (.s 48)⟩] [7, 8, 9, 10]
def a15r10 : AC := .reg [⟨(some 49), none, .mov (.s 7)⟩,
    ⟨(some 50), none, .mov (.s 10)⟩,
    ⟨(some 51), none, .iaddr 1 (.s 49) (.s 50)⟩,
    ⟨(some 52), none, .load 1 false (.s 51)⟩,
    ⟨(some 53), none, .len (.s 52)⟩,
    ⟨(some 54), none, .mov (.c (.lit (.int .i64 0)))⟩] [7, 8, 9, 52, 53, 54]
def a15r11 : AC := .reg [⟨(some 55), none, .iop .lss (.s 54) (.s 53)⟩] [7, 8, 9, 52, 53, 54, 55]
def a15r12 : AC := .reg [⟨(some 56), none, .iaddr 1 (.s 52) (.s 54)⟩,
    ⟨(some 57), none, .load 1 false (.s 56)⟩,
    ⟨(some 12), none, .mov (.s 57)⟩] [7, 8, 9, 12, 52, 53, 54]
def a15r13 : AC := .reg [⟨(some 58), none, .mov (.s 8)⟩,
    ⟨(some 59), none, .mov (.s 12)⟩,
    ⟨(some 60), none, .iaddr 1 (.s 58) (.s 59)⟩,
    ⟨(some 61), none, .load 1 false (.s 60)⟩,
    ⟨(some 62), none, .not (.s 61)⟩] [7, 8, 9, 12, 52, 53, 54, 62]
def a15r14 : AC := .reg [⟨(some 63), none, .mov (.s 8)⟩,
    ⟨(some 64), none, .mov (.s 12)⟩,
    ⟨(some 65), none, .iaddr 1 (.s 63) (.s 64)⟩,
    ⟨none, none, .store 1 (.s 65) (.c (.lit (.bool true)))⟩] [7, 8, 9, 12, 52, 53, 54]
def a15r15 : AC := .reg [⟨(some 66), none, .mov (.s 9)⟩,
    ⟨(some 67), none, .mov (.s 12)⟩,
    ⟨(some 68), none, .bslice 15068 3 1 [(.s 67)]⟩,
    ⟨(some 69), none, .append 15069 3 1 8 (.s 66) (.s 68)⟩,
    ⟨(some 9), none, .mov (.s 69)⟩] [7, 8, 9, 52, 53, 54]
def a15r16 : AC := .reg [⟨(some 70), none, .iop .add (.s 54) (.c (.lit (.int .i64 1)))⟩,
    ⟨(some 54), none, .mov (.s 70)⟩] [7, 8, 9, 52, 53, 54]
def a15L11 : AC := .seq (a15r11) (.seq (.cond (.s 55) (.skip) (.exit 2)) (.seq (.block 3 (.seq (a15r12) (.seq (a15r13) (.cond (.s 62) (.seq (a15r14) (a15r15)) (.skip))))) (a15r16)))
def a15L7 : AC := .seq (.seq (a15r7) (.cond (.s 37) (.skip) (.exit 0))) (.block 1 (.seq (a15r8) (.seq (a15r9) (.seq (a15r10) (.block 2 (.loop a15L11))))))
def a15r17 : AC := .reg [⟨(some 13), none, .mov (.c (.nils 1))⟩] [8, 13]
def a15r18 : AC := .reg [⟨(some 71), none, .mov (.s 8)⟩,
    ⟨(some 72), none, .len (.s 71)⟩,
    ⟨(some 73), none, .mov (.c (.lit (.int .i64 0)))⟩] [13, 71, 72, 73]
def a15r19 : AC := .reg [⟨(some 74), none, .iop .lss (.s 73) (.s 72)⟩] [13, 71, 72, 73, 74]
def a15r20 : AC := .reg [⟨(some 75), none, .mov (.s 73)⟩,
    ⟨(some 76), none, .iaddr 1 (.s 71) (.s 73)⟩,
    ⟨(some 77), none, .load 1 false (.s 76)⟩,
    ⟨(some 14), none, .mov (.s 75)⟩,
    ⟨(some 15), none, .mov (.s 77)⟩] [13, 14, 15, 71, 72, 73]
def a15r21 : AC := .reg [⟨(some 78), none, .mov (.s 15)⟩] [13, 14, 71, 72, 73, 78]
def a15r22 : AC := .reg [⟨(some 79), none, .mov (.s 13)⟩,
    ⟨(some 80), none, .mov (.s 14)⟩,
    ⟨(some 81), none, .bslice 15081 3 1 [(.s 80)]⟩,
    ⟨(some 82), none, .append 15082 3 1 8 (.s 79) (.s 81)⟩,
    ⟨(some 13), none, .mov (.s 82)⟩] [13, 71, 72, 73]
def a15r23 : AC := .reg [⟨(some 83), none, .iop .add (.s 73) (.c (.lit (.int .i64 1)))⟩,
    ⟨(some 73), none, .mov (.s 83)⟩] [13, 71, 72, 73]
def a15L19 : AC := .seq (a15r19) (.seq (.cond (.s 74) (.skip) (.exit 4)) (.seq (.block 5 (.seq (a15r20) (.seq (a15r21) (.cond (.s 78) (a15r22) (.skip))))) (a15r23)))
def a15r24 : AC := .reg [⟨(some 84), none, .mov (.s 13)⟩,
    ⟨(some 6), none, .mov (.s 84)⟩] [6]
def a15 : AC := .seq (a15r0) (.seq (a15r1) (.seq (.seq (a15r2) (.cond (.s 26) (.seq (a15r3) (.ret)) (.skip))) (.seq (a15r4) (.seq (a15r5) (.seq (.seq (a15r6) (.block 0 (.loop a15L7))) (.seq (a15r17) (.seq (.seq (a15r18) (.block 4 (.loop a15L19))) (.seq (a15r24) (.ret)))))))))
def a15R : List RD := [.tmp 6]

/-! slices.Contains[[]int,int]: slots 9, parameters 2 -/
def a25r0 : AC := .reg [⟨(some 4), none, .mov (.c (.lit (.bool false)))⟩] [0, 1]
def a25r1 : AC := .reg [⟨(some 5), none, .mov (.s 0)⟩,
    ⟨(some 6), none, .mov (.s 1)⟩,
    ⟨(some 7), none, .callv (.c (.fn 28 [])) [(.s 5), (.s 6)]⟩,
    ⟨(some 8), none, .iop .geq (.s 7) (.c (.lit (.int .i64 0)))⟩,
    ⟨(some 4), none, .mov (.s 8)⟩] [4]
def a25 : AC := .seq (a25r0) (.seq (a25r1) (.ret))
def a25R : List RD := [.tmp 4]

/-! colloquy/graph.Reaches: slots 15, parameters 4 -/
def a17r0 : AC := .reg [⟨(some 8), none, .mov (.c (.lit (.bool false)))⟩] [0, 1, 2, 3]
def a17r1 : AC := .reg [⟨(some 9), none, .mov (.s 0)⟩,
    ⟨(some 10), none, .mov (.s 1)⟩,
    ⟨(some 11), none, .mov (.s 2)⟩,
    ⟨(some 12), none, .callv (.c (.fn 15 [])) [(.s 9), (.s 10), (.s 11)]⟩,
    ⟨(some 13), none, .mov (.s 3)⟩,
    ⟨(some 14), none, .callv (.c (.fn 25 [])) [(.s 12), (.s 13)]⟩,
    ⟨(some 8), none, .mov (.s 14)⟩] [8]
def a17 : AC := .seq (a17r0) (.seq (a17r1) (.ret))
def a17R : List RD := [.tmp 8]

/-! colloquy/colloquyref11.Bound: slots 8, parameters 1 -/
def a23r0 : AC := .reg [⟨(some 2), none, .mov (.c (.lit (.int .i64 0)))⟩] [0]
def a23r1 : AC := .reg [⟨(some 3), none, .mov (.s 0)⟩,
    ⟨(some 4), none, .iop .lss (.s 3) (.c (.lit (.int .i64 0)))⟩] [0, 4]
def a23r2 : AC := .reg [⟨(some 2), none, .mov (.c (.lit (.int .i64 0)))⟩] [2]
def a23r3 : AC := .reg [⟨(some 5), none, .mov (.s 0)⟩,
    ⟨(some 6), none, .iop .gtr (.s 5) (.c (.lit (.int .i64 100)))⟩] [0, 6]
def a23r4 : AC := .reg [⟨(some 2), none, .mov (.c (.lit (.int .i64 100)))⟩] [2]
def a23r5 : AC := .reg [⟨(some 7), none, .mov (.s 0)⟩,
    ⟨(some 2), none, .mov (.s 7)⟩] [2]
def a23 : AC := .seq (a23r0) (.seq (.seq (a23r1) (.cond (.s 4) (.seq (a23r2) (.ret)) (.skip))) (.seq (.seq (a23r3) (.cond (.s 6) (.seq (a23r4) (.ret)) (.skip))) (.seq (a23r5) (.ret))))
def a23R : List RD := [.tmp 2]

/-! colloquy/colloquyref11.thing: slots 13, parameters 2 -/
def a26r0 : AC := .reg [⟨(some 4), none, .mov (.c (.lit (.bool false)))⟩] [0, 1]
def a26r1 : AC := .reg [⟨(some 5), none, .mov (.s 1)⟩,
    ⟨(some 6), none, .iop .geq (.s 5) (.c (.lit (.int .i64 0)))⟩,
    ⟨(some 7), none, .mov (.s 6)⟩,
    ⟨(some 8), (some (7, true)), .mov (.s 1)⟩,
    ⟨(some 9), (some (7, true)), .mov (.s 0)⟩,
    ⟨(some 10), (some (7, true)), .callv (.c (.fn 23 [])) [(.s 9)]⟩,
    ⟨(some 11), (some (7, true)), .iop .lss (.s 8) (.s 10)⟩,
    ⟨(some 12), none, .pick (.s 7) (.s 11) (.c (.lit (.bool false)))⟩,
    ⟨(some 4), none, .mov (.s 12)⟩] [4]
def a26 : AC := .seq (a26r0) (.seq (a26r1) (.ret))
def a26R : List RD := [.tmp 4]

/-! colloquy/colloquyref11.From: slots 79, parameters 3 -/
def a24r0 : AC := .reg [⟨(some 6), none, .mov (.c (.nils 1))⟩] [0, 1, 2]
def a24r1 : AC := .reg [⟨(some 13), none, .mov (.s 0)⟩,
    ⟨(some 14), none, .callv (.c (.fn 23 [])) [(.s 13)]⟩,
    ⟨(some 15), none, .mkslice 24015 4 1 1 [(.lit (.bool false))] (.s 14)⟩,
    ⟨(some 7), none, .mov (.s 15)⟩] [0, 1, 2, 7]
def a24r2 : AC := .reg [⟨(some 16), none, .mov (.s 0)⟩,
    ⟨(some 17), none, .mov (.s 2)⟩,
    ⟨(some 18), none, .callv (.c (.fn 26 [])) [(.s 16), (.s 17)]⟩,
    ⟨(some 8), none, .mov (.s 18)⟩] [0, 1, 2, 7, 8]
def a24r3 : AC := .reg [⟨(some 19), none, .mov (.s 8)⟩,
    ⟨(some 20), none, .not (.s 19)⟩] [0, 1, 2, 7, 20]
def a24r4 : AC := .reg [⟨(some 21), none, .mov (.s 7)⟩,
    ⟨(some 6), none, .mov (.s 21)⟩] [6]
def a24r5 : AC := .reg [⟨(some 22), none, .mov (.s 7)⟩,
    ⟨(some 23), none, .mov (.s 2)⟩,
    ⟨(some 24), none, .iaddr 1 (.s 22) (.s 23)⟩,
    ⟨none, none, .store 1 (.s 24) (.c (.lit (.bool true)))⟩] [0, 1, 7]
def a24r6 : AC := .reg [⟨(some 9), none, .mov (.c (.lit (.bool true)))⟩] [0, 1, 7, 9]
def a24r7 : AC := .reg [⟨(some 25), none, .mov (.s 9)⟩] [0, 1, 7, 25]
def a24r8 : AC := .reg [⟨(some 9), none, .mov (.c (.lit (.bool false)))⟩] [0, 1, 7, 9]
def a24r9 : AC := .reg [⟨(some 10), none, .mov (.c (.lit (.int .i64 0)))⟩] [0, 1, 7, 9, 10]
def a24r10 : AC := .reg [⟨(some 26), none, .mov (.s 10)⟩,
    ⟨(some 27), none, .mov (.s 1)⟩,
    ⟨(some 28), none, .len (.s 27)⟩,
    ⟨(some 29), none, .iop .lss (.s 26) (.s 28)⟩] [0, 1, 7, 9, 10, 29]
def a24r12 : AC := .reg [⟨(some 32), none, .mov (.s 0)⟩,
    ⟨(some 33), none, .mov (.s 1)⟩,
    ⟨(some 34), none, .mov (.s 10)⟩,
    ⟨(some 35), none, .iaddr 2 (.s 33) (.s 34)⟩,
    ⟨(some 36), none, .faddr 0 (.s 35)⟩,
    ⟨(some 37), none, .load 1 false (.s 36)⟩,
    ⟨(some 38), none, .callv (.c (.fn 26 [])) [(.s 32), (.s 37)]⟩,
    ⟨(some 11), none, .mov (.s 38)⟩] [0, 1, 7, 9, 10, 11]
def a24r13 : AC := .reg [⟨(some 39), none, .mov (.s 0)⟩,
    ⟨(some 40), none, .mov (.s 1)⟩,
    ⟨(some 41), none, .mov (.s 10)⟩,
    ⟨(some 42), none, .iaddr 2 (.s 40) (.s 41)⟩,
    ⟨(some 43), none, .faddr 1 (.s 42)⟩,
    ⟨(some 44), none, .load 1 false (.s 43)⟩,
    ⟨(some 45), none, .callv (.c (.fn 26 [])) [(.s 39), (.s 44)]⟩,
    ⟨(some 12), none, .mov (.s 45)⟩] [0, 1, 7, 9, 10, 11, 12]
def a24r14 : AC := .reg [⟨(some 46), none, .mov (.s 11)⟩,
    ⟨(some 47), none, .mov (.s 46)⟩,
    ⟨(some 48), (some (47, true)), .mov (.s 12)⟩,
    ⟨(some 49), none, .pick (.s 47) (.s 48) (.c (.lit (.bool false)))⟩,
    ⟨(some 50), none, .mov (.s 49)⟩,
    ⟨(some 51), (some (50, true)), .mov (.s 7)⟩,
    ⟨(some 52), (some (50, true)), .mov (.s 1)⟩,
    ⟨(some 53), (some (50, true)), .mov (.s 10)⟩,
    ⟨(some 54), (some (50, true)), .iaddr 2 (.s 52) (.s 53)⟩,
    ⟨(some 55), (some (50, true)), .faddr 0 (.s 54)⟩,
    ⟨(some 56), (some (50, true)), .load 1 false (.s 55)⟩,
    ⟨(some 57), (some (50, true)), .iaddr 1 (.s 51) (.s 56)⟩,
    ⟨(some 58), (some (50, true)), .load 1 false (.s 57)⟩,
    ⟨(some 59), none, .pick (.s 50) (.s 58) (.c (.lit (.bool false)))⟩,
    ⟨(some 60), none, .mov (.s 59)⟩,
    ⟨(some 61), (some (60, true)), .mov (.s 7)⟩,
    ⟨(some 62), (some (60, true)), .mov (.s 1)⟩,
    ⟨(some 63), (some (60, true)), .mov (.s 10)⟩,
    ⟨(some 64), (some (60, true)), .iaddr 2 (.s 62) (.s 63)⟩,
    ⟨(some 65), (some (60, true)), .faddr 1 (.s 64)⟩,
    ⟨(some 66), (some (60, true)), .load 1 false (.s 65)⟩,
    ⟨(some 67), (some (60, true)), .iaddr 1 (.s 61) (.s 66)⟩,
    ⟨(some 68), (some (60, true)), .load 1 false (.s 67)⟩,
    ⟨(some 69), (some (60, true)), .not (.s 68)⟩,
    ⟨(some 70), none, .pick (.s 60) (.s 69) (.c (.lit (.bool false)))⟩] [0, 1, 7, 9, 10, 70]
def a24r15 : AC := .reg [⟨(some 71), none, .mov (.s 7)⟩,
    ⟨(some 72), none, .mov (.s 1)⟩,
    ⟨(some 73), none, .mov (.s 10)⟩,
    ⟨(some 74), none, .iaddr 2 (.s 72) (.s 73)⟩,
    ⟨(some 75), none, .faddr 1 (.s 74)⟩,
    ⟨(some 76), none, .load 1 false (.s 75)⟩,
    ⟨(some 77), none, .iaddr 1 (.s 71) (.s 76)⟩,
    ⟨none, none, .store 1 (.s 77) (.c (.lit (.bool true)))⟩] [0, 1, 7, 10]
def a24r16 : AC := .reg [⟨(some 9), none, .mov (.c (.lit (.bool true)))⟩] [0, 1, 7, 9, 10]
def a24r11 : AC := .reg [⟨(some 30), none, .mov (.s 10)⟩,
    ⟨(some 31), none, .iop .add (.s 30) (.c (.lit (.int .i64 1)))⟩,
    ⟨(some 10), none, .mov (.s 31)⟩] [0, 1, 7, 9, 10]
def a24L10 : AC := .seq (.seq (a24r10) (.cond (.s 29) (.skip) (.exit 2))) (.seq (.block 3 (.seq (a24r12) (.seq (a24r13) (.seq (a24r14) (.cond (.s 70) (.seq (a24r15) (a24r16)) (.skip)))))) (a24r11))
def a24L7 : AC := .seq (.seq (a24r7) (.cond (.s 25) (.skip) (.exit 0))) (.block 1 (.seq (a24r8) (.seq (a24r9) (.block 2 (.loop a24L10)))))
def a24r17 : AC := .reg [⟨(some 78), none, .mov (.s 7)⟩,
    ⟨(some 6), none, .mov (.s 78)⟩] [6]
def a24 : AC := .seq (a24r0) (.seq (a24r1) (.seq (a24r2) (.seq (.seq (a24r3) (.cond (.s 20) (.seq (a24r4) (.ret)) (.skip))) (.seq (a24r5) (.seq (.seq (a24r6) (.block 0 (.loop a24L7))) (.seq (a24r17) (.ret)))))))
def a24R : List RD := [.tmp 6]

/-! colloquy/colloquyref11.Reaches: slots 32, parameters 4 -/
def a18r0 : AC := .reg [⟨(some 8), none, .mov (.c (.lit (.bool false)))⟩] [0, 1, 2, 3]
def a18r1 : AC := .reg [⟨(some 12), none, .mov (.s 0)⟩,
    ⟨(some 13), none, .mov (.s 2)⟩,
    ⟨(some 14), none, .callv (.c (.fn 26 [])) [(.s 12), (.s 13)]⟩,
    ⟨(some 9), none, .mov (.s 14)⟩] [0, 1, 2, 3, 9]
def a18r2 : AC := .reg [⟨(some 15), none, .mov (.s 0)⟩,
    ⟨(some 16), none, .mov (.s 3)⟩,
    ⟨(some 17), none, .callv (.c (.fn 26 [])) [(.s 15), (.s 16)]⟩,
    ⟨(some 10), none, .mov (.s 17)⟩] [0, 1, 2, 3, 9, 10]
def a18r3 : AC := .reg [⟨(some 18), none, .mov (.s 9)⟩,
    ⟨(some 19), none, .not (.s 18)⟩,
    ⟨(some 20), none, .mov (.s 19)⟩,
    ⟨(some 21), (some (20, false)), .mov (.s 10)⟩,
    ⟨(some 22), (some (20, false)), .not (.s 21)⟩,
    ⟨(some 23), none, .pick (.s 20) (.c (.lit (.bool true))) (.s 22)⟩] [0, 1, 2, 3, 23]
def a18r4 : AC := .reg [⟨(some 8), none, .mov (.c (.lit (.bool false)))⟩] [8]
def a18r5 : AC := .reg [⟨(some 24), none, .mov (.s 0)⟩,
    ⟨(some 25), none, .mov (.s 1)⟩,
    ⟨(some 26), none, .mov (.s 2)⟩,
    ⟨(some 27), none, .callv (.c (.fn 24 [])) [(.s 24), (.s 25), (.s 26)]⟩,
    ⟨(some 11), none, .mov (.s 27)⟩] [3, 11]
def a18r6 : AC := .reg [⟨(some 28), none, .mov (.s 11)⟩,
    ⟨(some 29), none, .mov (.s 3)⟩,
    ⟨(some 30), none, .iaddr 1 (.s 28) (.s 29)⟩,
    ⟨(some 31), none, .load 1 false (.s 30)⟩,
    ⟨(some 8), none, .mov (.s 31)⟩] [8]
def a18 : AC := .seq (a18r0) (.seq (a18r1) (.seq (a18r2) (.seq (.seq (a18r3) (.cond (.s 23) (.seq (a18r4) (.ret)) (.skip))) (.seq (a18r5) (.seq (a18r6) (.ret))))))
def a18R : List RD := [.tmp 8]

/-! colloquy/colloquyref11.Closure: slots 29, parameters 3 -/
def a16r0 : AC := .reg [⟨(some 6), none, .mov (.c (.nils 1))⟩] [0, 1, 2]
def a16r1 : AC := .reg [⟨(some 10), none, .mov (.s 0)⟩,
    ⟨(some 11), none, .mov (.s 1)⟩,
    ⟨(some 12), none, .mov (.s 2)⟩,
    ⟨(some 13), none, .callv (.c (.fn 24 [])) [(.s 10), (.s 11), (.s 12)]⟩,
    ⟨(some 7), none, .mov (.s 13)⟩] [7]
def a16r2 : AC := .reg [⟨(some 8), none, .mov (.c (.nils 1))⟩] [7, 8]
def a16r3 : AC := .reg [⟨(some 9), none, .mov (.c (.lit (.int .i64 0)))⟩] [7, 8, 9]
def a16r4 : AC := .reg [⟨(some 14), none, .mov (.s 9)⟩,
    ⟨(some 15), none, .mov (.s 7)⟩,
    ⟨(some 16), none, .len (.s 15)⟩,
    ⟨(some 17), none, .iop .lss (.s 14) (.s 16)⟩] [7, 8, 9, 17]
def a16r6 : AC := .reg [⟨(some 20), none, .mov (.s 7)⟩,
    ⟨(some 21), none, .mov (.s 9)⟩,
    ⟨(some 22), none, .iaddr 1 (.s 20) (.s 21)⟩,
    ⟨(some 23), none, .load 1 false (.s 22)⟩] [7, 8, 9, 23]
def a16r7 : AC := .reg [⟨(some 24), none, .mov (.s 8)⟩,
    ⟨(some 25), none, .mov (.s 9)⟩,
    ⟨(some 26), none, .bslice 16026 3 1 [(.s 25)]⟩,
    ⟨(some 27), none, .append 16027 3 1 8 (.s 24) (.s 26)⟩,
    ⟨(some 8), none, .mov (.s 27)⟩] [7, 8, 9]
def a16r5 : AC := .reg [⟨(some 18), none, .mov (.s 9)⟩,
    ⟨(some 19), none, .iop .add (.s 18) (.c (.lit (.int .i64 1)))⟩,
    ⟨(some 9), none, .mov (.s 19)⟩] [7, 8, 9]
def a16L4 : AC := .seq (.seq (a16r4) (.cond (.s 17) (.skip) (.exit 0))) (.seq (.block 1 (.seq (a16r6) (.cond (.s 23) (a16r7) (.skip)))) (a16r5))
def a16r8 : AC := .reg [⟨(some 28), none, .mov (.s 8)⟩,
    ⟨(some 6), none, .mov (.s 28)⟩] [6]
def a16 : AC := .seq (a16r0) (.seq (a16r1) (.seq (a16r2) (.seq (.seq (a16r3) (.block 0 (.loop a16L4))) (.seq (a16r8) (.ret)))))
def a16R : List RD := [.tmp 6]

/-! colloquy/colloquyref11.Components: slots 123, parameters 2 -/
def a13r0 : AC := .reg [⟨(some 4), none, .mov (.c (.nils 1))⟩] [0, 1]
def a13r1 : AC := .reg [⟨(some 17), none, .mov (.s 0)⟩,
    ⟨(some 18), none, .callv (.c (.fn 23 [])) [(.s 17)]⟩,
    ⟨(some 5), none, .mov (.s 18)⟩] [0, 1, 5]
def a13r2 : AC := .reg [⟨(some 6), none, .mov (.c (.nils 1))⟩] [0, 1, 5, 6]
def a13r3 : AC := .reg [⟨(some 7), none, .mov (.c (.lit (.int .i64 0)))⟩] [0, 1, 5, 6, 7]
def a13r4 : AC := .reg [⟨(some 19), none, .mov (.s 7)⟩,
    ⟨(some 20), none, .mov (.s 5)⟩,
    ⟨(some 21), none, .iop .lss (.s 19) (.s 20)⟩] [0, 1, 5, 6, 7, 21]
def a13r6 : AC := .reg [⟨(some 24), none, .mov (.s 6)⟩,
    ⟨(some 25), none, .mov (.s 0)⟩,
    ⟨(some 26), none, .mov (.s 1)⟩,
    ⟨(some 27), none, .mov (.s 7)⟩,
    ⟨(some 28), none, .callv (.c (.fn 24 [])) [(.s 25), (.s 26), (.s 27)]⟩,
    ⟨(some 29), none, .bslice 13029 38 1 [(.s 28)]⟩,
    ⟨(some 30), none, .append 13030 38 1 24 (.s 24) (.s 29)⟩,
    ⟨(some 6), none, .mov (.s 30)⟩] [0, 1, 5, 6, 7]
def a13r5 : AC := .reg [⟨(some 22), none, .mov (.s 7)⟩,
    ⟨(some 23), none, .iop .add (.s 22) (.c (.lit (.int .i64 1)))⟩,
    ⟨(some 7), none, .mov (.s 23)⟩] [0, 1, 5, 6, 7]
def a13L4 : AC := .seq (.seq (a13r4) (.cond (.s 21) (.skip) (.exit 0))) (.seq (.block 1 (a13r6)) (a13r5))
def a13r7 : AC := .reg [⟨(some 31), none, .mov (.s 5)⟩,
    ⟨(some 32), none, .mkslice 13032 4 1 1 [(.lit (.bool false))] (.s 31)⟩,
    ⟨(some 8), none, .mov (.s 32)⟩] [5, 6, 8]
def a13r8 : AC := .reg [⟨(some 9), none, .mov (.c (.nils 1))⟩] [5, 6, 8, 9]
def a13r9 : AC := .reg [⟨(some 10), none, .mov (.c (.lit (.int .i64 0)))⟩] [5, 6, 8, 9, 10]
def a13r10 : AC := .reg [⟨(some 33), none, .mov (.s 10)⟩,
    ⟨(some 34), none, .mov (.s 5)⟩,
    ⟨(some 35), none, .iop .lss (.s 33) (.s 34)⟩] [5, 6, 8, 9, 10, 35]
def a13r11 : AC := .reg [⟨(some 36), none, .mov (.s 8)⟩,
    ⟨(some 37), none, .mov (.s 10)⟩,
    ⟨(some 38), none, .iaddr 1 (.s 36) (.s 37)⟩,
    ⟨(some 39), none, .load 1 false (.s 38)⟩] [5, 6, 8, 9, 10, 39]
def a13r12 : AC := .reg [⟨(some 40), none, .mov (.s 10)⟩,
    ⟨(some 41), none, .iop .add (.s 40) (.c (.lit (.int .i64 1)))⟩,
    ⟨(some 10), none, .mov (.s 41)⟩] [5, 6, 8, 9, 10]
def a13r13 : AC := .reg [⟨(some 11), none, .mov (.c (.lit (.int .i64 (-1))))⟩] [5, 6, 8, 9, 10, 11]
def a13r14 : AC := .reg [⟨(some 12), none, .mov (.c (.lit (.int .i64 0)))⟩] [5, 6, 8, 9, 10, 11, 12]
def a13r15 : AC := .reg [⟨(some 42), none, .mov (.s 12)⟩,
    ⟨(some 43), none, .mov (.s 5)⟩,
    ⟨(some 44), none, .iop .lss (.s 42) (.s 43)⟩,
    ⟨(some 45), none, .mov (.s 44)⟩,
    ⟨(some 46), (some (45, true)), .mov (.s 11)⟩,
    ⟨(some 47), (some (45, true)), .iop .lss (.s 46) (.c (.lit (.int .i64 0)))⟩,
    ⟨(some 48), none, .pick (.s 45) (.s 47) (.c (.lit (.bool false)))⟩] [5, 6, 8, 9, 10, 11, 12, 48]
def a13r17 : AC := .reg [⟨(some 51), none, .mov (.s 8)⟩,
    ⟨(some 52), none, .mov (.s 12)⟩,
    ⟨(some 53), none, .iaddr 1 (.s 51) (.s 52)⟩,
    ⟨(some 54), none, .load 1 false (.s 53)⟩,
    ⟨(some 55), none, .not (.s 54)⟩,
    ⟨(some 13), none, .mov (.s 55)⟩] [5, 6, 8, 9, 10, 11, 12, 13]
def a13r18 : AC := .reg [⟨(some 14), none, .mov (.c (.lit (.int .i64 0)))⟩] [5, 6, 8, 9, 10, 11, 12, 13, 14]
def a13r19 : AC := .reg [⟨(some 56), none, .mov (.s 14)⟩,
    ⟨(some 57), none, .mov (.s 5)⟩,
    ⟨(some 58), none, .iop .lss (.s 56) (.s 57)⟩] [5, 6, 8, 9, 10, 11, 12, 13, 14, 58]
def a13r21 : AC := .reg [⟨(some 61), none, .mov (.s 6)⟩,
    ⟨(some 62), none, .mov (.s 12)⟩,
    ⟨(some 63), none, .iaddr 1 (.s 61) (.s 62)⟩,
    ⟨(some 64), none, .load 1 false (.s 63)⟩,
    ⟨(some 65), none, .mov (.s 14)⟩,
    ⟨(some 66), none, .iaddr 1 (.s 64) (.s 65)⟩,
    ⟨(some 67), none, .load 1 false (.s 66)⟩,
    ⟨(some 68), none, .mov (.s 67)⟩,
    ⟨(some 69), (some (68, true)), .mov (.s 6)⟩,
    ⟨(some 70), (some (68, true)), .mov (.s 14)⟩,
    ⟨(some 71), (some (68, true)), .iaddr 1 (.s 69) (.s 70)⟩,
    ⟨(some 72), (some (68, true)), .load 1 false (.s 71)⟩,
    ⟨(some 73), (some (68, true)), .mov (.s 12)⟩,
    ⟨(some 74), (some (68, true)), .iaddr 1 (.s 72) (.s 73)⟩,
    ⟨(some 75), (some (68, true)), .load 1 false (.s 74)⟩,
    ⟨(some 76), (some (68, true)), .not (.s 75)⟩,
    ⟨(some 77), none, .pick (.s 68) (.s 76) (.c (.lit (.bool false)))⟩,
    ⟨(some 78), none, .mov (.s 77)⟩,
    ⟨(some 79), (some (78, true)), .mov (.s 8)⟩,
    ⟨(some 80), (some (78, true)), .mov (.s 14)⟩,
    ⟨(some 81), (some (78, true)), .iaddr 1 (.s 79) (.s 80)⟩,
    ⟨(some 82), (some (78, true)), .load 1 false (.s 81)⟩,
    ⟨(some 83), (some (78, true)), .not (.s 82)⟩,
    ⟨(some 84), none, .pick (.s 78) (.s 83) (.c (.lit (.bool false)))⟩] [5, 6, 8, 9, 10, 11, 12, 13, 14, 84]
def a13r22 : AC := .reg [⟨(some 13), none, .mov (.c (.lit (.bool false)))⟩] [5, 6, 8, 9, 10, 11, 12, 13, 14]
def a13r20 : AC := .reg [⟨(some 59), none, .mov (.s 14)⟩,
    ⟨(some 60), none, .iop .add (.s 59) (.c (.lit (.int .i64 1)))⟩,
    ⟨(some 14), none, .mov (.s 60)⟩] [5, 6, 8, 9, 10, 11, 12, 13, 14]
def a13L19 : AC := .seq (.seq (a13r19) (.cond (.s 58) (.skip) (.exit 6))) (.seq (.block 7 (.seq (a13r21) (.cond (.s 84) (a13r22) (.skip)))) (a13r20))
def a13r23 : AC := .reg [⟨(some 85), none, .mov (.s 13)⟩] [5, 6, 8, 9, 10, 11, 12, 85]
def a13r24 : AC := .reg [⟨(some 86), none, .mov (.s 12)⟩,
    ⟨(some 11), none, .mov (.s 86)⟩] [5, 6, 8, 9, 10, 11, 12]
def a13r16 : AC := .reg [⟨(some 49), none, .mov (.s 12)⟩,
    ⟨(some 50), none, .iop .add (.s 49) (.c (.lit (.int .i64 1)))⟩,
    ⟨(some 12), none, .mov (.s 50)⟩] [5, 6, 8, 9, 10, 11, 12]
def a13L15 : AC := .seq (.seq (a13r15) (.cond (.s 48) (.skip) (.exit 4))) (.seq (.block 5 (.seq (a13r17) (.seq (.seq (a13r18) (.block 6 (.loop a13L19))) (.seq (a13r23) (.cond (.s 85) (a13r24) (.skip)))))) (a13r16))
def a13r25 : AC := .reg [⟨(some 87), none, .mov (.s 11)⟩,
    ⟨(some 88), none, .iop .lss (.s 87) (.c (.lit (.int .i64 0)))⟩] [5, 6, 8, 9, 10, 11, 88]
def a13r26 : AC := .reg [⟨(some 89), none, .mov (.s 9)⟩,
    ⟨(some 4), none, .mov (.s 89)⟩] [4]
def a13r27 : AC := .reg [⟨(some 15), none, .mov (.c (.nils 1))⟩] [5, 6, 8, 9, 10, 11, 15]
def a13r28 : AC := .reg [⟨(some 16), none, .mov (.c (.lit (.int .i64 0)))⟩] [5, 6, 8, 9, 10, 11, 15, 16]
def a13r29 : AC := .reg [⟨(some 90), none, .mov (.s 16)⟩,
    ⟨(some 91), none, .mov (.s 5)⟩,
    ⟨(some 92), none, .iop .lss (.s 90) (.s 91)⟩] [5, 6, 8, 9, 10, 11, 15, 16, 92]
def a13r31 : AC := .reg [⟨(some 95), none, .mov (.s 6)⟩,
    ⟨(some 96), none, .mov (.s 11)⟩,
    ⟨(some 97), none, .iaddr 1 (.s 95) (.s 96)⟩,
    ⟨(some 98), none, .load 1 false (.s 97)⟩,
    ⟨(some 99), none, .mov (.s 16)⟩,
    ⟨(some 100), none, .iaddr 1 (.s 98) (.s 99)⟩,
    ⟨(some 101), none, .load 1 false (.s 100)⟩,
    ⟨(some 102), none, .mov (.s 101)⟩,
    ⟨(some 103), (some (102, true)), .mov (.s 6)⟩,
    ⟨(some 104), (some (102, true)), .mov (.s 16)⟩,
    ⟨(some 105), (some (102, true)), .iaddr 1 (.s 103) (.s 104)⟩,
    ⟨(some 106), (some (102, true)), .load 1 false (.s 105)⟩,
    ⟨(some 107), (some (102, true)), .mov (.s 11)⟩,
    ⟨(some 108), (some (102, true)), .iaddr 1 (.s 106) (.s 107)⟩,
    ⟨(some 109), (some (102, true)), .load 1 false (.s 108)⟩,
    ⟨(some 110), none, .pick (.s 102) (.s 109) (.c (.lit (.bool false)))⟩] [5, 6, 8, 9, 10, 11, 15, 16, 110]
def a13r32 : AC := .reg [⟨(some 111), none, .mov (.s 15)⟩,
    ⟨(some 112), none, .mov (.s 16)⟩,
    ⟨(some 113), none, .bslice 13113 3 1 [(.s 112)]⟩,
    ⟨(some 114), none, .append 13114 3 1 8 (.s 111) (.s 113)⟩,
    ⟨(some 15), none, .mov (.s 114)⟩] [5, 6, 8, 9, 10, 11, 15, 16]
def a13r33 : AC := .reg [⟨(some 115), none, .mov (.s 8)⟩,
    ⟨(some 116), none, .mov (.s 16)⟩,
    ⟨(some 117), none, .iaddr 1 (.s 115) (.s 116)⟩,
    ⟨none, none, .store 1 (.s 117) (.c (.lit (.bool true)))⟩] [5, 6, 8, 9, 10, 11, 15, 16]
def a13r30 : AC := .reg [⟨(some 93), none, .mov (.s 16)⟩,
    ⟨(some 94), none, .iop .add (.s 93) (.c (.lit (.int .i64 1)))⟩,
    ⟨(some 16), none, .mov (.s 94)⟩] [5, 6, 8, 9, 10, 11, 15, 16]
def a13L29 : AC := .seq (.seq (a13r29) (.cond (.s 92) (.skip) (.exit 8))) (.seq (.block 9 (.seq (a13r31) (.cond (.s 110) (.seq (a13r32) (a13r33)) (.skip)))) (a13r30))
def a13r34 : AC := .reg [⟨(some 118), none, .mov (.s 9)⟩,
    ⟨(some 119), none, .mov (.s 15)⟩,
    ⟨(some 120), none, .bslice 13120 29 1 [(.s 119)]⟩,
    ⟨(some 121), none, .append 13121 29 1 24 (.s 118) (.s 120)⟩,
    ⟨(some 9), none, .mov (.s 121)⟩] [5, 6, 8, 9, 10]
def a13L10 : AC := .seq (.seq (a13r10) (.cond (.s 35) (.skip) (.exit 2))) (.block 3 (.seq (.seq (a13r11) (.cond (.s 39) (.seq (a13r12) (.exit 3)) (.skip))) (.seq (a13r13) (.seq (.seq (a13r14) (.block 4 (.loop a13L15))) (.seq (.seq (a13r25) (.cond (.s 88) (.seq (a13r26) (.ret)) (.skip))) (.seq (a13r27) (.seq (.seq (a13r28) (.block 8 (.loop a13L29))) (a13r34))))))))
def a13r35 : AC := .reg [⟨(some 122), none, .mov (.s 9)⟩,
    ⟨(some 4), none, .mov (.s 122)⟩] [4]
def a13 : AC := .seq (a13r0) (.seq (a13r1) (.seq (a13r2) (.seq (.seq (a13r3) (.block 0 (.loop a13L4))) (.seq (a13r7) (.seq (a13r8) (.seq (.seq (a13r9) (.block 2 (.loop a13L10))) (.seq (a13r35) (.ret))))))))
def a13R : List RD := [.tmp 4]

/-! colloquy/colloquyref11.Same: slots 53, parameters 2 -/
def a11r0 : AC := .reg [⟨(some 4), none, .mov (.c (.lit (.bool false)))⟩] [0, 1]
def a11r1 : AC := .reg [⟨(some 7), none, .mov (.s 0)⟩,
    ⟨(some 8), none, .len (.s 7)⟩,
    ⟨(some 9), none, .mov (.s 1)⟩,
    ⟨(some 10), none, .len (.s 9)⟩,
    ⟨(some 11), none, .iop .neq (.s 8) (.s 10)⟩] [0, 1, 11]
def a11r2 : AC := .reg [⟨(some 4), none, .mov (.c (.lit (.bool false)))⟩] [4]
def a11r3 : AC := .reg [⟨(some 5), none, .mov (.c (.lit (.int .i64 0)))⟩] [0, 1, 5]
def a11r4 : AC := .reg [⟨(some 12), none, .mov (.s 5)⟩,
    ⟨(some 13), none, .mov (.s 0)⟩,
    ⟨(some 14), none, .len (.s 13)⟩,
    ⟨(some 15), none, .iop .lss (.s 12) (.s 14)⟩] [0, 1, 5, 15]
def a11r6 : AC := .draw [] (.take 0 ⟨(some 18), none, .mov (.s 0)⟩ <|
    .take 1 ⟨(some 19), none, .mov (.s 5)⟩ <|
    .take 2 ⟨(some 20), none, .iaddr 1 (.s 18) (.s 19)⟩ <|
    .take 3 ⟨(some 21), none, .load 1 false (.s 20)⟩ <|
    .take 4 ⟨(some 22), none, .len (.s 21)⟩ <|
    .take 5 ⟨(some 23), none, .mov (.s 1)⟩ <|
    .take 6 ⟨(some 24), none, .mov (.s 5)⟩ <|
    .take 7 ⟨(some 25), none, .iaddr 1 (.s 23) (.s 24)⟩ <|
    .take 8 ⟨(some 26), none, .load 1 false (.s 25)⟩ <|
    .take 9 ⟨(some 27), none, .len (.s 26)⟩ <|
    .take 10 ⟨(some 28), none, .iop .neq (.s 22) (.s 27)⟩ <|
    .done) [0, 1, 5, 28]
def a11r7 : AC := .reg [⟨(some 4), none, .mov (.c (.lit (.bool false)))⟩] [4]
def a11r8 : AC := .reg [⟨(some 6), none, .mov (.c (.lit (.int .i64 0)))⟩] [0, 1, 5, 6]
def a11r9 : AC := .reg [⟨(some 29), none, .mov (.s 6)⟩,
    ⟨(some 30), none, .mov (.s 0)⟩,
    ⟨(some 31), none, .mov (.s 5)⟩,
    ⟨(some 32), none, .iaddr 1 (.s 30) (.s 31)⟩,
    ⟨(some 33), none, .load 1 false (.s 32)⟩,
    ⟨(some 34), none, .len (.s 33)⟩,
    ⟨(some 35), none, .iop .lss (.s 29) (.s 34)⟩] [0, 1, 5, 6, 35]
def a11r11 : AC := .draw [] (.take 0 ⟨(some 38), none, .mov (.s 0)⟩ <|
    .take 1 ⟨(some 39), none, .mov (.s 5)⟩ <|
    .take 2 ⟨(some 40), none, .iaddr 1 (.s 38) (.s 39)⟩ <|
    .take 3 ⟨(some 41), none, .load 1 false (.s 40)⟩ <|
    .take 4 ⟨(some 42), none, .mov (.s 6)⟩ <|
    .take 5 ⟨(some 43), none, .iaddr 1 (.s 41) (.s 42)⟩ <|
    .take 6 ⟨(some 44), none, .load 1 false (.s 43)⟩ <|
    .take 7 ⟨(some 45), none, .mov (.s 1)⟩ <|
    .take 8 ⟨(some 46), none, .mov (.s 5)⟩ <|
    .take 9 ⟨(some 47), none, .iaddr 1 (.s 45) (.s 46)⟩ <|
    .take 10 ⟨(some 48), none, .load 1 false (.s 47)⟩ <|
    .take 11 ⟨(some 49), none, .mov (.s 6)⟩ <|
    .take 12 ⟨(some 50), none, .iaddr 1 (.s 48) (.s 49)⟩ <|
    .take 13 ⟨(some 51), none, .load 1 false (.s 50)⟩ <|
    .take 14 ⟨(some 52), none, .iop .neq (.s 44) (.s 51)⟩ <|
    .done) [0, 1, 5, 6, 52]
def a11r12 : AC := .reg [⟨(some 4), none, .mov (.c (.lit (.bool false)))⟩] [4]
def a11r10 : AC := .reg [⟨(some 36), none, .mov (.s 6)⟩,
    ⟨(some 37), none, .iop .add (.s 36) (.c (.lit (.int .i64 1)))⟩,
    ⟨(some 6), none, .mov (.s 37)⟩] [0, 1, 5, 6]
def a11L9 : AC := .seq (.seq (a11r9) (.cond (.s 35) (.skip) (.exit 2))) (.seq (.block 3 (.seq (a11r11) (.cond (.s 52) (.seq (a11r12) (.ret)) (.skip)))) (a11r10))
def a11r5 : AC := .reg [⟨(some 16), none, .mov (.s 5)⟩,
    ⟨(some 17), none, .iop .add (.s 16) (.c (.lit (.int .i64 1)))⟩,
    ⟨(some 5), none, .mov (.s 17)⟩] [0, 1, 5]
def a11L4 : AC := .seq (.seq (a11r4) (.cond (.s 15) (.skip) (.exit 0))) (.seq (.block 1 (.seq (.seq (a11r6) (.cond (.s 28) (.seq (a11r7) (.ret)) (.skip))) (.seq (a11r8) (.block 2 (.loop a11L9))))) (a11r5))
def a11r13 : AC := .reg [⟨(some 4), none, .mov (.c (.lit (.bool true)))⟩] [4]
def a11 : AC := .seq (a11r0) (.seq (.seq (a11r1) (.cond (.s 11) (.seq (a11r2) (.ret)) (.skip))) (.seq (.seq (a11r3) (.block 0 (.loop a11L4))) (.seq (a11r13) (.ret))))
def a11R : List RD := [.tmp 4]

/-! colloquy/colloquyref01.Same: slots 26, parameters 2 -/
def a14r0 : AC := .reg [⟨(some 4), none, .mov (.c (.lit (.bool false)))⟩] [0, 1]
def a14r1 : AC := .reg [⟨(some 6), none, .mov (.s 0)⟩,
    ⟨(some 7), none, .len (.s 6)⟩,
    ⟨(some 8), none, .mov (.s 1)⟩,
    ⟨(some 9), none, .len (.s 8)⟩,
    ⟨(some 10), none, .iop .neq (.s 7) (.s 9)⟩] [0, 1, 10]
def a14r2 : AC := .reg [⟨(some 4), none, .mov (.c (.lit (.bool false)))⟩] [4]
def a14r3 : AC := .reg [⟨(some 5), none, .mov (.c (.lit (.int .i64 0)))⟩] [0, 1, 5]
def a14r4 : AC := .reg [⟨(some 11), none, .mov (.s 5)⟩,
    ⟨(some 12), none, .mov (.s 0)⟩,
    ⟨(some 13), none, .len (.s 12)⟩,
    ⟨(some 14), none, .iop .lss (.s 11) (.s 13)⟩] [0, 1, 5, 14]
def a14r6 : AC := .draw [] (.take 0 ⟨(some 17), none, .mov (.s 0)⟩ <|
    .take 1 ⟨(some 18), none, .mov (.s 5)⟩ <|
    .take 2 ⟨(some 19), none, .iaddr 1 (.s 17) (.s 18)⟩ <|
    .take 3 ⟨(some 20), none, .load 1 false (.s 19)⟩ <|
    .take 4 ⟨(some 21), none, .mov (.s 1)⟩ <|
    .take 5 ⟨(some 22), none, .mov (.s 5)⟩ <|
    .take 6 ⟨(some 23), none, .iaddr 1 (.s 21) (.s 22)⟩ <|
    .take 7 ⟨(some 24), none, .load 1 false (.s 23)⟩ <|
    .take 8 ⟨(some 25), none, .iop .neq (.s 20) (.s 24)⟩ <|
    .done) [0, 1, 5, 25]
def a14r7 : AC := .reg [⟨(some 4), none, .mov (.c (.lit (.bool false)))⟩] [4]
def a14r5 : AC := .reg [⟨(some 15), none, .mov (.s 5)⟩,
    ⟨(some 16), none, .iop .add (.s 15) (.c (.lit (.int .i64 1)))⟩,
    ⟨(some 5), none, .mov (.s 16)⟩] [0, 1, 5]
def a14L4 : AC := .seq (.seq (a14r4) (.cond (.s 14) (.skip) (.exit 0))) (.seq (.block 1 (.seq (a14r6) (.cond (.s 25) (.seq (a14r7) (.ret)) (.skip)))) (a14r5))
def a14r8 : AC := .reg [⟨(some 4), none, .mov (.c (.lit (.bool true)))⟩] [4]
def a14 : AC := .seq (a14r0) (.seq (.seq (a14r1) (.cond (.s 10) (.seq (a14r2) (.ret)) (.skip))) (.seq (.seq (a14r3) (.block 0 (.loop a14L4))) (.seq (a14r8) (.ret))))
def a14R : List RD := [.tmp 4]

/-! colloquy/colloquylaw11.place: slots 36, parameters 2 -/
def a19r0 : AC := .reg [⟨(some 4), none, .mov (.c (.lit (.int .i64 0)))⟩] [0, 1]
def a19r1 : AC := .reg [⟨(some 5), none, .mov (.c (.lit (.int .i64 (-1))))⟩] [0, 1, 5]
def a19r2 : AC := .reg [⟨(some 6), none, .mov (.c (.lit (.int .i64 0)))⟩] [0, 1, 5, 6]
def a19r3 : AC := .reg [⟨(some 8), none, .mov (.s 6)⟩,
    ⟨(some 9), none, .mov (.s 0)⟩,
    ⟨(some 10), none, .len (.s 9)⟩,
    ⟨(some 11), none, .iop .lss (.s 8) (.s 10)⟩] [0, 1, 5, 6, 11]
def a19r5 : AC := .reg [⟨(some 7), none, .mov (.c (.lit (.int .i64 0)))⟩] [0, 1, 5, 6, 7]
def a19r6 : AC := .reg [⟨(some 14), none, .mov (.s 7)⟩,
    ⟨(some 15), none, .mov (.s 0)⟩,
    ⟨(some 16), none, .mov (.s 6)⟩,
    ⟨(some 17), none, .iaddr 1 (.s 15) (.s 16)⟩,
    ⟨(some 18), none, .load 1 false (.s 17)⟩,
    ⟨(some 19), none, .len (.s 18)⟩,
    ⟨(some 20), none, .iop .lss (.s 14) (.s 19)⟩] [0, 1, 5, 6, 7, 20]
def a19r8 : AC := .reg [⟨(some 23), none, .mov (.s 0)⟩,
    ⟨(some 24), none, .mov (.s 6)⟩,
    ⟨(some 25), none, .iaddr 1 (.s 23) (.s 24)⟩,
    ⟨(some 26), none, .load 1 false (.s 25)⟩,
    ⟨(some 27), none, .mov (.s 7)⟩,
    ⟨(some 28), none, .iaddr 1 (.s 26) (.s 27)⟩,
    ⟨(some 29), none, .load 1 false (.s 28)⟩,
    ⟨(some 30), none, .mov (.s 1)⟩,
    ⟨(some 31), none, .iop .eql (.s 29) (.s 30)⟩] [0, 1, 5, 6, 7, 31]
def a19r9 : AC := .reg [⟨(some 32), none, .mov (.s 5)⟩,
    ⟨(some 33), none, .iop .geq (.s 32) (.c (.lit (.int .i64 0)))⟩] [0, 1, 6, 7, 33]
def a19r10 : AC := .reg [⟨(some 4), none, .mov (.c (.lit (.int .i64 (-1))))⟩] [4]
def a19r11 : AC := .reg [⟨(some 34), none, .mov (.s 6)⟩,
    ⟨(some 5), none, .mov (.s 34)⟩] [0, 1, 5, 6, 7]
def a19r7 : AC := .reg [⟨(some 21), none, .mov (.s 7)⟩,
    ⟨(some 22), none, .iop .add (.s 21) (.c (.lit (.int .i64 1)))⟩,
    ⟨(some 7), none, .mov (.s 22)⟩] [0, 1, 5, 6, 7]
def a19L6 : AC := .seq (.seq (a19r6) (.cond (.s 20) (.skip) (.exit 2))) (.seq (.block 3 (.seq (a19r8) (.cond (.s 31) (.seq (.seq (a19r9) (.cond (.s 33) (.seq (a19r10) (.ret)) (.skip))) (a19r11)) (.skip)))) (a19r7))
def a19r4 : AC := .reg [⟨(some 12), none, .mov (.s 6)⟩,
    ⟨(some 13), none, .iop .add (.s 12) (.c (.lit (.int .i64 1)))⟩,
    ⟨(some 6), none, .mov (.s 13)⟩] [0, 1, 5, 6]
def a19L3 : AC := .seq (.seq (a19r3) (.cond (.s 11) (.skip) (.exit 0))) (.seq (.block 1 (.seq (a19r5) (.block 2 (.loop a19L6)))) (a19r4))
def a19r12 : AC := .reg [⟨(some 35), none, .mov (.s 5)⟩,
    ⟨(some 4), none, .mov (.s 35)⟩] [4]
def a19 : AC := .seq (a19r0) (.seq (a19r1) (.seq (.seq (a19r2) (.block 0 (.loop a19L3))) (.seq (a19r12) (.ret))))
def a19R : List RD := [.tmp 4]

/-! colloquy/colloquylaw11.awake: slots 47, parameters 0 -/
def a10r0 : AC := .reg [⟨(some 0), none, .mov (.c (.lit (.bool false)))⟩] []
def a10r1 : AC := .reg [⟨(some 3), none, .build [(.lit (.int .i64 0)), (.lit (.int .i64 0))] [(0, 1, (.c (.lit (.int .i64 0)))), (1, 1, (.c (.lit (.int .i64 1))))]⟩,
    ⟨(some 4), none, .build [(.lit (.int .i64 0)), (.lit (.int .i64 0))] [(0, 1, (.c (.lit (.int .i64 1)))), (1, 1, (.c (.lit (.int .i64 0))))]⟩,
    ⟨(some 5), none, .build [(.lit (.int .i64 0)), (.lit (.int .i64 0))] [(0, 1, (.c (.lit (.int .i64 2)))), (1, 1, (.c (.lit (.int .i64 1))))]⟩,
    ⟨(some 6), none, .bslice 10006 33 2 [(.s 3), (.s 4), (.s 5)]⟩,
    ⟨(some 7), none, .callv (.c (.fn 12 [])) [(.c (.lit (.int .i64 3))), (.s 6)]⟩,
    ⟨(some 1), none, .mov (.s 7)⟩] [1]
def a10r2 : AC := .reg [⟨(some 8), none, .build [(.lit (.int .i64 0)), (.lit (.int .i64 0))] [(0, 1, (.c (.lit (.int .i64 0)))), (1, 1, (.c (.lit (.int .i64 2))))]⟩,
    ⟨(some 9), none, .bslice 10009 33 2 [(.s 8)]⟩,
    ⟨(some 10), none, .callv (.c (.fn 12 [])) [(.c (.lit (.int .i64 3))), (.s 9)]⟩,
    ⟨(some 2), none, .mov (.s 10)⟩] [1, 2]
def a10r3 : AC := .reg [⟨(some 11), none, .mov (.s 1)⟩,
    ⟨(some 12), none, .len (.s 11)⟩,
    ⟨(some 13), none, .iop .eql (.s 12) (.c (.lit (.int .i64 2)))⟩,
    ⟨(some 14), none, .mov (.s 13)⟩,
    ⟨(some 15), (some (14, true)), .mov (.s 2)⟩,
    ⟨(some 16), (some (14, true)), .len (.s 15)⟩,
    ⟨(some 17), (some (14, true)), .iop .eql (.s 16) (.c (.lit (.int .i64 3)))⟩,
    ⟨(some 18), none, .pick (.s 14) (.s 17) (.c (.lit (.bool false)))⟩,
    ⟨(some 19), none, .mov (.s 18)⟩,
    ⟨(some 20), (some (19, true)), .mov (.s 1)⟩,
    ⟨(some 21), (some (19, true)), .iaddr 1 (.s 20) (.c (.lit (.int .i64 0)))⟩,
    ⟨(some 22), (some (19, true)), .load 1 false (.s 21)⟩,
    ⟨(some 23), (some (19, true)), .len (.s 22)⟩,
    ⟨(some 24), (some (19, true)), .iop .eql (.s 23) (.c (.lit (.int .i64 2)))⟩,
    ⟨(some 25), none, .pick (.s 19) (.s 24) (.c (.lit (.bool false)))⟩,
    ⟨(some 26), none, .mov (.s 25)⟩,
    ⟨(some 27), (some (26, true)), .mov (.s 2)⟩,
    ⟨(some 28), (some (26, true)), .iaddr 1 (.s 27) (.c (.lit (.int .i64 0)))⟩,
    ⟨(some 29), (some (26, true)), .load 1 false (.s 28)⟩,
    ⟨(some 30), (some (26, true)), .iaddr 1 (.s 29) (.c (.lit (.int .i64 0)))⟩,
    ⟨(some 31), (some (26, true)), .load 1 false (.s 30)⟩,
    ⟨(some 32), (some (26, true)), .iop .eql (.s 31) (.c (.lit (.int .i64 1)))⟩,
    ⟨(some 33), none, .pick (.s 26) (.s 32) (.c (.lit (.bool false)))⟩,
    ⟨(some 34), none, .mov (.s 33)⟩,
    ⟨(some 35), (some (34, true)), .mov (.s 2)⟩,
    ⟨(some 36), (some (34, true)), .iaddr 1 (.s 35) (.c (.lit (.int .i64 1)))⟩,
    ⟨(some 37), (some (34, true)), .load 1 false (.s 36)⟩,
    ⟨(some 38), (some (34, true)), .iaddr 1 (.s 37) (.c (.lit (.int .i64 0)))⟩,
    ⟨(some 39), (some (34, true)), .load 1 false (.s 38)⟩,
    ⟨(some 40), (some (34, true)), .iop .eql (.s 39) (.c (.lit (.int .i64 2)))⟩,
    ⟨(some 41), none, .pick (.s 34) (.s 40) (.c (.lit (.bool false)))⟩,
    ⟨(some 42), none, .mov (.s 41)⟩,
    ⟨(some 43), (some (42, true)), .build [(.lit (.int .i64 0)), (.lit (.int .i64 0))] [(0, 1, (.c (.lit (.int .i64 0)))), (1, 1, (.c (.lit (.int .i64 2))))]⟩,
    ⟨(some 44), (some (42, true)), .bslice 10044 33 2 [(.s 43)]⟩,
    ⟨(some 45), (some (42, true)), .callv (.c (.fn 17 [])) [(.c (.lit (.int .i64 3))), (.s 44), (.c (.lit (.int .i64 0))), (.c (.lit (.int .i64 2)))]⟩,
    ⟨(some 46), none, .pick (.s 42) (.s 45) (.c (.lit (.bool false)))⟩,
    ⟨(some 0), none, .mov (.s 46)⟩] [0]
def a10 : AC := .seq (a10r0) (.seq (a10r1) (.seq (a10r2) (.seq (a10r3) (.ret))))
def a10R : List RD := [.tmp 0]

/-! colloquy/colloquylaw11.GraphParts: slots 28, parameters 2 -/
def a3r0 : AC := .reg [⟨(some 4), none, .mov (.c (.lit (.bool false)))⟩] [0, 1]
def a3r1 : AC := .reg [⟨(some 7), none, .callv (.c (.fn 10 [])) []⟩,
    ⟨(some 5), none, .mov (.s 7)⟩] [0, 1, 5]
def a3r2 : AC := .reg [⟨(some 8), none, .mov (.s 5)⟩,
    ⟨(some 9), none, .not (.s 8)⟩,
    ⟨(some 10), none, .mov (.s 9)⟩,
    ⟨(some 11), (some (10, false)), .mov (.s 0)⟩,
    ⟨(some 12), (some (10, false)), .iop .gtr (.s 11) (.c (.lit (.int .i64 30)))⟩,
    ⟨(some 13), none, .pick (.s 10) (.c (.lit (.bool true))) (.s 12)⟩,
    ⟨(some 14), none, .mov (.s 13)⟩,
    ⟨(some 15), (some (14, false)), .mov (.s 1)⟩,
    ⟨(some 16), (some (14, false)), .len (.s 15)⟩,
    ⟨(some 17), (some (14, false)), .iop .gtr (.s 16) (.c (.lit (.int .i64 300)))⟩,
    ⟨(some 18), none, .pick (.s 14) (.c (.lit (.bool true))) (.s 17)⟩] [0, 1, 5, 18]
def a3r3 : AC := .reg [⟨(some 19), none, .mov (.s 5)⟩,
    ⟨(some 4), none, .mov (.s 19)⟩] [4]
def a3r4 : AC := .reg [⟨(some 20), none, .mov (.s 0)⟩,
    ⟨(some 21), none, .mov (.s 1)⟩,
    ⟨(some 22), none, .callv (.c (.fn 12 [])) [(.s 20), (.s 21)]⟩,
    ⟨(some 23), none, .mov (.s 0)⟩,
    ⟨(some 24), none, .mov (.s 1)⟩,
    ⟨(some 25), none, .callv (.c (.fn 13 [])) [(.s 23), (.s 24)]⟩,
    ⟨(some 26), none, .callv (.c (.fn 11 [])) [(.s 22), (.s 25)]⟩,
    ⟨(some 6), none, .mov (.s 26)⟩] [6]
def a3r5 : AC := .reg [⟨(some 27), none, .mov (.s 6)⟩,
    ⟨(some 4), none, .mov (.s 27)⟩] [4]
def a3 : AC := .seq (a3r0) (.seq (a3r1) (.seq (.seq (a3r2) (.cond (.s 18) (.seq (a3r3) (.ret)) (.skip))) (.seq (a3r4) (.seq (a3r5) (.ret)))))
def a3R : List RD := [.tmp 4]

/-! colloquy/colloquylaw11.GraphReaches: slots 43, parameters 4 -/
def a4r0 : AC := .reg [⟨(some 8), none, .mov (.c (.lit (.bool false)))⟩] [0, 1, 2, 3]
def a4r1 : AC := .reg [⟨(some 11), none, .callv (.c (.fn 10 [])) []⟩,
    ⟨(some 9), none, .mov (.s 11)⟩] [0, 1, 2, 3, 9]
def a4r2 : AC := .reg [⟨(some 12), none, .mov (.s 9)⟩,
    ⟨(some 13), none, .not (.s 12)⟩,
    ⟨(some 14), none, .mov (.s 13)⟩,
    ⟨(some 15), (some (14, false)), .mov (.s 1)⟩,
    ⟨(some 16), (some (14, false)), .len (.s 15)⟩,
    ⟨(some 17), (some (14, false)), .iop .gtr (.s 16) (.c (.lit (.int .i64 300)))⟩,
    ⟨(some 18), none, .pick (.s 14) (.c (.lit (.bool true))) (.s 17)⟩] [0, 1, 2, 3, 9, 18]
def a4r3 : AC := .reg [⟨(some 19), none, .mov (.s 9)⟩,
    ⟨(some 8), none, .mov (.s 19)⟩] [8]
def a4r4 : AC := .reg [⟨(some 20), none, .mov (.s 0)⟩,
    ⟨(some 21), none, .mov (.s 1)⟩,
    ⟨(some 22), none, .mov (.s 2)⟩,
    ⟨(some 23), none, .callv (.c (.fn 15 [])) [(.s 20), (.s 21), (.s 22)]⟩,
    ⟨(some 24), none, .mov (.s 0)⟩,
    ⟨(some 25), none, .mov (.s 1)⟩,
    ⟨(some 26), none, .mov (.s 2)⟩,
    ⟨(some 27), none, .callv (.c (.fn 16 [])) [(.s 24), (.s 25), (.s 26)]⟩,
    ⟨(some 28), none, .callv (.c (.fn 14 [])) [(.s 23), (.s 27)]⟩,
    ⟨(some 10), none, .mov (.s 28)⟩] [0, 1, 2, 3, 10]
def a4r5 : AC := .reg [⟨(some 29), none, .mov (.s 10)⟩,
    ⟨(some 30), none, .mov (.s 29)⟩,
    ⟨(some 31), (some (30, true)), .mov (.s 0)⟩,
    ⟨(some 32), (some (30, true)), .mov (.s 1)⟩,
    ⟨(some 33), (some (30, true)), .mov (.s 2)⟩,
    ⟨(some 34), (some (30, true)), .mov (.s 3)⟩,
    ⟨(some 35), (some (30, true)), .callv (.c (.fn 17 [])) [(.s 31), (.s 32), (.s 33), (.s 34)]⟩,
    ⟨(some 36), (some (30, true)), .mov (.s 0)⟩,
    ⟨(some 37), (some (30, true)), .mov (.s 1)⟩,
    ⟨(some 38), (some (30, true)), .mov (.s 2)⟩,
    ⟨(some 39), (some (30, true)), .mov (.s 3)⟩,
    ⟨(some 40), (some (30, true)), .callv (.c (.fn 18 [])) [(.s 36), (.s 37), (.s 38), (.s 39)]⟩,
    ⟨(some 41), (some (30, true)), .beq false (.s 35) (.s 40)⟩,
    ⟨(some 42), none, .pick (.s 30) (.s 41) (.c (.lit (.bool false)))⟩,
    ⟨(some 8), none, .mov (.s 42)⟩] [8]
def a4 : AC := .seq (a4r0) (.seq (a4r1) (.seq (.seq (a4r2) (.cond (.s 18) (.seq (a4r3) (.ret)) (.skip))) (.seq (a4r4) (.seq (a4r5) (.ret)))))
def a4R : List RD := [.tmp 8]

/-! colloquy/colloquylaw11.GraphOrder: slots 195, parameters 2 -/
def a5r0 : AC := .reg [⟨(some 4), none, .mov (.c (.lit (.bool false)))⟩] [0, 1]
def a5r1 : AC := .reg [⟨(some 13), none, .callv (.c (.fn 10 [])) []⟩,
    ⟨(some 5), none, .mov (.s 13)⟩] [0, 1, 5]
def a5r2 : AC := .reg [⟨(some 14), none, .mov (.s 5)⟩,
    ⟨(some 15), none, .not (.s 14)⟩,
    ⟨(some 16), none, .mov (.s 15)⟩,
    ⟨(some 17), (some (16, false)), .mov (.s 0)⟩,
    ⟨(some 18), (some (16, false)), .iop .lss (.s 17) (.c (.lit (.int .i64 0)))⟩,
    ⟨(some 19), none, .pick (.s 16) (.c (.lit (.bool true))) (.s 18)⟩,
    ⟨(some 20), none, .mov (.s 19)⟩,
    ⟨(some 21), (some (20, false)), .mov (.s 0)⟩,
    ⟨(some 22), (some (20, false)), .iop .gtr (.s 21) (.c (.lit (.int .i64 30)))⟩,
    ⟨(some 23), none, .pick (.s 20) (.c (.lit (.bool true))) (.s 22)⟩,
    ⟨(some 24), none, .mov (.s 23)⟩,
    ⟨(some 25), (some (24, false)), .mov (.s 1)⟩,
    ⟨(some 26), (some (24, false)), .len (.s 25)⟩,
    ⟨(some 27), (some (24, false)), .iop .gtr (.s 26) (.c (.lit (.int .i64 300)))⟩,
    ⟨(some 28), none, .pick (.s 24) (.c (.lit (.bool true))) (.s 27)⟩] [0, 1, 5, 28]
def a5r3 : AC := .reg [⟨(some 29), none, .mov (.s 5)⟩,
    ⟨(some 4), none, .mov (.s 29)⟩] [4]
def a5r4 : AC := .reg [⟨(some 30), none, .mov (.s 0)⟩,
    ⟨(some 31), none, .mov (.s 1)⟩,
    ⟨(some 32), none, .callv (.c (.fn 12 [])) [(.s 30), (.s 31)]⟩,
    ⟨(some 6), none, .mov (.s 32)⟩] [0, 1, 6]
def a5r5 : AC := .reg [⟨(some 7), none, .mov (.c (.lit (.int .i64 0)))⟩] [0, 1, 6, 7]
def a5r6 : AC := .reg [⟨(some 8), none, .mov (.c (.lit (.int .i64 0)))⟩] [0, 1, 6, 7, 8]
def a5r7 : AC := .reg [⟨(some 33), none, .mov (.s 8)⟩,
    ⟨(some 34), none, .mov (.s 6)⟩,
    ⟨(some 35), none, .len (.s 34)⟩,
    ⟨(some 36), none, .iop .lss (.s 33) (.s 35)⟩] [0, 1, 6, 7, 8, 36]
def a5r9 : AC := .reg [⟨(some 39), none, .mov (.s 7)⟩,
    ⟨(some 40), none, .mov (.s 6)⟩,
    ⟨(some 41), none, .mov (.s 8)⟩,
    ⟨(some 42), none, .iaddr 1 (.s 40) (.s 41)⟩,
    ⟨(some 43), none, .load 1 false (.s 42)⟩,
    ⟨(some 44), none, .len (.s 43)⟩,
    ⟨(some 45), none, .iop .add (.s 39) (.s 44)⟩,
    ⟨(some 7), none, .mov (.s 45)⟩] [0, 1, 6, 7, 8]
def a5r10 : AC := .reg [⟨(some 9), none, .mov (.c (.lit (.int .i64 1)))⟩] [0, 1, 6, 7, 8, 9]
def a5r11 : AC := .reg [⟨(some 46), none, .mov (.s 9)⟩,
    ⟨(some 47), none, .mov (.s 6)⟩,
    ⟨(some 48), none, .mov (.s 8)⟩,
    ⟨(some 49), none, .iaddr 1 (.s 47) (.s 48)⟩,
    ⟨(some 50), none, .load 1 false (.s 49)⟩,
    ⟨(some 51), none, .len (.s 50)⟩,
    ⟨(some 52), none, .iop .lss (.s 46) (.s 51)⟩] [0, 1, 6, 7, 8, 9, 52]
def a5r13 : AC := .draw [] (.take 0 ⟨(some 55), none, .mov (.s 6)⟩ <|
    .take 1 ⟨(some 56), none, .mov (.s 8)⟩ <|
    .take 2 ⟨(some 57), none, .iaddr 1 (.s 55) (.s 56)⟩ <|
    .take 3 ⟨(some 58), none, .load 1 false (.s 57)⟩ <|
    .take 4 ⟨(some 59), none, .mov (.s 9)⟩ <|
    .take 5 ⟨(some 60), none, .iaddr 1 (.s 58) (.s 59)⟩ <|
    .take 6 ⟨(some 61), none, .load 1 false (.s 60)⟩ <|
    .take 7 ⟨(some 62), none, .mov (.s 6)⟩ <|
    .take 8 ⟨(some 63), none, .mov (.s 8)⟩ <|
    .take 9 ⟨(some 64), none, .iaddr 1 (.s 62) (.s 63)⟩ <|
    .take 10 ⟨(some 65), none, .load 1 false (.s 64)⟩ <|
    .take 11 ⟨(some 66), none, .mov (.s 9)⟩ <|
    .take 12 ⟨(some 67), none, .iop .sub (.s 66) (.c (.lit (.int .i64 1)))⟩ <|
    .take 13 ⟨(some 68), none, .iaddr 1 (.s 65) (.s 67)⟩ <|
    .take 14 ⟨(some 69), none, .load 1 false (.s 68)⟩ <|
    .take 15 ⟨(some 70), none, .iop .leq (.s 61) (.s 69)⟩ <|
    .take 16 ⟨(some 71), none, .mov (.s 70)⟩ <|
    .take 17 ⟨(some 72), (some (71, false)), .mov (.s 0)⟩ <|
    .take 18 ⟨(some 73), (some (71, false)), .mov (.s 1)⟩ <|
    .take 19 ⟨(some 74), (some (71, false)), .mov (.s 6)⟩ <|
    .take 20 ⟨(some 75), (some (71, false)), .mov (.s 8)⟩ <|
    .take 21 ⟨(some 76), (some (71, false)), .iaddr 1 (.s 74) (.s 75)⟩ <|
    .take 22 ⟨(some 77), (some (71, false)), .load 1 false (.s 76)⟩ <|
    .take 23 ⟨(some 78), (some (71, false)), .iaddr 1 (.s 77) (.c (.lit (.int .i64 0)))⟩ <|
    .take 24 ⟨(some 79), (some (71, false)), .load 1 false (.s 78)⟩ <|
    .take 25 ⟨(some 80), (some (71, false)), .mov (.s 6)⟩ <|
    .take 26 ⟨(some 81), (some (71, false)), .mov (.s 8)⟩ <|
    .take 27 ⟨(some 82), (some (71, false)), .iaddr 1 (.s 80) (.s 81)⟩ <|
    .take 28 ⟨(some 83), (some (71, false)), .load 1 false (.s 82)⟩ <|
    .take 29 ⟨(some 84), (some (71, false)), .mov (.s 9)⟩ <|
    .take 30 ⟨(some 85), (some (71, false)), .iaddr 1 (.s 83) (.s 84)⟩ <|
    .take 31 ⟨(some 86), (some (71, false)), .load 1 false (.s 85)⟩ <|
    .alt 32 ⟨(some 87), (some (71, false)), .callv (.c (.fn 17 [])) [(.s 72), (.s 73), (.s 79), (.s 86)]⟩ (
    .take 33 ⟨(some 88), (some (71, false)), .not (.s 87)⟩ <|
    .take 34 ⟨(some 89), none, .pick (.s 71) (.c (.lit (.bool true))) (.s 88)⟩ <|
    .take 35 ⟨(some 90), none, .mov (.s 89)⟩ <|
    .take 36 ⟨(some 91), (some (90, false)), .mov (.s 0)⟩ <|
    .take 37 ⟨(some 92), (some (90, false)), .mov (.s 1)⟩ <|
    .take 38 ⟨(some 93), (some (90, false)), .mov (.s 6)⟩ <|
    .take 39 ⟨(some 94), (some (90, false)), .mov (.s 8)⟩ <|
    .take 40 ⟨(some 95), (some (90, false)), .iaddr 1 (.s 93) (.s 94)⟩ <|
    .take 41 ⟨(some 96), (some (90, false)), .load 1 false (.s 95)⟩ <|
    .take 42 ⟨(some 97), (some (90, false)), .mov (.s 9)⟩ <|
    .take 43 ⟨(some 98), (some (90, false)), .iaddr 1 (.s 96) (.s 97)⟩ <|
    .take 44 ⟨(some 99), (some (90, false)), .load 1 false (.s 98)⟩ <|
    .take 45 ⟨(some 100), (some (90, false)), .mov (.s 6)⟩ <|
    .take 46 ⟨(some 101), (some (90, false)), .mov (.s 8)⟩ <|
    .take 47 ⟨(some 102), (some (90, false)), .iaddr 1 (.s 100) (.s 101)⟩ <|
    .take 48 ⟨(some 103), (some (90, false)), .load 1 false (.s 102)⟩ <|
    .take 49 ⟨(some 104), (some (90, false)), .iaddr 1 (.s 103) (.c (.lit (.int .i64 0)))⟩ <|
    .take 50 ⟨(some 105), (some (90, false)), .load 1 false (.s 104)⟩ <|
    .alt 51 ⟨(some 106), (some (90, false)), .callv (.c (.fn 17 [])) [(.s 91), (.s 92), (.s 99), (.s 105)]⟩ (
    .take 52 ⟨(some 107), (some (90, false)), .not (.s 106)⟩ <|
    .take 53 ⟨(some 108), none, .pick (.s 90) (.c (.lit (.bool true))) (.s 107)⟩ <|
    .done) .done) .done) [0, 1, 6, 7, 8, 9, 108]
def a5r14 : AC := .reg [⟨(some 4), none, .mov (.c (.lit (.bool false)))⟩] [4]
def a5r12 : AC := .reg [⟨(some 53), none, .mov (.s 9)⟩,
    ⟨(some 54), none, .iop .add (.s 53) (.c (.lit (.int .i64 1)))⟩,
    ⟨(some 9), none, .mov (.s 54)⟩] [0, 1, 6, 7, 8, 9]
def a5L11 : AC := .seq (.seq (a5r11) (.cond (.s 52) (.skip) (.exit 2))) (.seq (.block 3 (.seq (a5r13) (.cond (.s 108) (.seq (a5r14) (.ret)) (.skip)))) (a5r12))
def a5r8 : AC := .reg [⟨(some 37), none, .mov (.s 8)⟩,
    ⟨(some 38), none, .iop .add (.s 37) (.c (.lit (.int .i64 1)))⟩,
    ⟨(some 8), none, .mov (.s 38)⟩] [0, 1, 6, 7, 8]
def a5L7 : AC := .seq (.seq (a5r7) (.cond (.s 36) (.skip) (.exit 0))) (.seq (.block 1 (.seq (a5r9) (.seq (a5r10) (.block 2 (.loop a5L11))))) (a5r8))
def a5r15 : AC := .reg [⟨(some 10), none, .mov (.c (.lit (.int .i64 0)))⟩] [0, 1, 6, 7, 10]
def a5r16 : AC := .reg [⟨(some 109), none, .mov (.s 10)⟩,
    ⟨(some 110), none, .mov (.s 1)⟩,
    ⟨(some 111), none, .len (.s 110)⟩,
    ⟨(some 112), none, .iop .lss (.s 109) (.s 111)⟩] [0, 1, 6, 7, 10, 112]
def a5r18 : AC := .reg [⟨(some 115), none, .mov (.s 1)⟩,
    ⟨(some 116), none, .mov (.s 10)⟩,
    ⟨(some 117), none, .iaddr 2 (.s 115) (.s 116)⟩,
    ⟨(some 118), none, .faddr 0 (.s 117)⟩,
    ⟨(some 119), none, .load 1 false (.s 118)⟩,
    ⟨(some 120), none, .iop .lss (.s 119) (.c (.lit (.int .i64 0)))⟩,
    ⟨(some 121), none, .mov (.s 120)⟩,
    ⟨(some 122), (some (121, false)), .mov (.s 1)⟩,
    ⟨(some 123), (some (121, false)), .mov (.s 10)⟩,
    ⟨(some 124), (some (121, false)), .iaddr 2 (.s 122) (.s 123)⟩,
    ⟨(some 125), (some (121, false)), .faddr 0 (.s 124)⟩,
    ⟨(some 126), (some (121, false)), .load 1 false (.s 125)⟩,
    ⟨(some 127), (some (121, false)), .mov (.s 0)⟩,
    ⟨(some 128), (some (121, false)), .iop .geq (.s 126) (.s 127)⟩,
    ⟨(some 129), none, .pick (.s 121) (.c (.lit (.bool true))) (.s 128)⟩,
    ⟨(some 130), none, .mov (.s 129)⟩,
    ⟨(some 131), (some (130, false)), .mov (.s 1)⟩,
    ⟨(some 132), (some (130, false)), .mov (.s 10)⟩,
    ⟨(some 133), (some (130, false)), .iaddr 2 (.s 131) (.s 132)⟩,
    ⟨(some 134), (some (130, false)), .faddr 1 (.s 133)⟩,
    ⟨(some 135), (some (130, false)), .load 1 false (.s 134)⟩,
    ⟨(some 136), (some (130, false)), .iop .lss (.s 135) (.c (.lit (.int .i64 0)))⟩,
    ⟨(some 137), none, .pick (.s 130) (.c (.lit (.bool true))) (.s 136)⟩,
    ⟨(some 138), none, .mov (.s 137)⟩,
    ⟨(some 139), (some (138, false)), .mov (.s 1)⟩,
    ⟨(some 140), (some (138, false)), .mov (.s 10)⟩,
    ⟨(some 141), (some (138, false)), .iaddr 2 (.s 139) (.s 140)⟩,
    ⟨(some 142), (some (138, false)), .faddr 1 (.s 141)⟩,
    ⟨(some 143), (some (138, false)), .load 1 false (.s 142)⟩,
    ⟨(some 144), (some (138, false)), .mov (.s 0)⟩,
    ⟨(some 145), (some (138, false)), .iop .geq (.s 143) (.s 144)⟩,
    ⟨(some 146), none, .pick (.s 138) (.c (.lit (.bool true))) (.s 145)⟩] [0, 1, 6, 7, 10, 146]
def a5r19 : AC := .reg [⟨(some 147), none, .mov (.s 6)⟩,
    ⟨(some 148), none, .mov (.s 1)⟩,
    ⟨(some 149), none, .mov (.s 10)⟩,
    ⟨(some 150), none, .iaddr 2 (.s 148) (.s 149)⟩,
    ⟨(some 151), none, .faddr 0 (.s 150)⟩,
    ⟨(some 152), none, .load 1 false (.s 151)⟩,
    ⟨(some 153), none, .callv (.c (.fn 19 [])) [(.s 147), (.s 152)]⟩,
    ⟨(some 11), none, .mov (.s 153)⟩] [0, 1, 6, 7, 10, 11]
def a5r20 : AC := .reg [⟨(some 154), none, .mov (.s 6)⟩,
    ⟨(some 155), none, .mov (.s 1)⟩,
    ⟨(some 156), none, .mov (.s 10)⟩,
    ⟨(some 157), none, .iaddr 2 (.s 155) (.s 156)⟩,
    ⟨(some 158), none, .faddr 1 (.s 157)⟩,
    ⟨(some 159), none, .load 1 false (.s 158)⟩,
    ⟨(some 160), none, .callv (.c (.fn 19 [])) [(.s 154), (.s 159)]⟩,
    ⟨(some 12), none, .mov (.s 160)⟩] [0, 1, 6, 7, 10, 11, 12]
def a5r21 : AC := .draw [] (.take 0 ⟨(some 161), none, .mov (.s 11)⟩ <|
    .take 1 ⟨(some 162), none, .iop .lss (.s 161) (.c (.lit (.int .i64 0)))⟩ <|
    .take 2 ⟨(some 163), none, .mov (.s 162)⟩ <|
    .take 3 ⟨(some 164), (some (163, false)), .mov (.s 12)⟩ <|
    .take 4 ⟨(some 165), (some (163, false)), .iop .lss (.s 164) (.c (.lit (.int .i64 0)))⟩ <|
    .take 5 ⟨(some 166), none, .pick (.s 163) (.c (.lit (.bool true))) (.s 165)⟩ <|
    .take 6 ⟨(some 167), none, .mov (.s 166)⟩ <|
    .take 7 ⟨(some 168), (some (167, false)), .mov (.s 12)⟩ <|
    .take 8 ⟨(some 169), (some (167, false)), .mov (.s 11)⟩ <|
    .take 9 ⟨(some 170), (some (167, false)), .iop .gtr (.s 168) (.s 169)⟩ <|
    .take 10 ⟨(some 171), none, .pick (.s 167) (.c (.lit (.bool true))) (.s 170)⟩ <|
    .take 11 ⟨(some 172), none, .mov (.s 171)⟩ <|
    .take 12 ⟨(some 173), (some (172, false)), .mov (.s 11)⟩ <|
    .take 13 ⟨(some 174), (some (172, false)), .mov (.s 12)⟩ <|
    .take 14 ⟨(some 175), (some (172, false)), .iop .neq (.s 173) (.s 174)⟩ <|
    .take 15 ⟨(some 176), (some (172, false)), .mov (.s 175)⟩ <|
    .take 16 ⟨(some 177), (some (176, true)), .mov (.s 0)⟩ <|
    .take 17 ⟨(some 178), (some (176, true)), .mov (.s 1)⟩ <|
    .take 18 ⟨(some 179), (some (176, true)), .mov (.s 1)⟩ <|
    .take 19 ⟨(some 180), (some (176, true)), .mov (.s 10)⟩ <|
    .take 20 ⟨(some 181), (some (176, true)), .iaddr 2 (.s 179) (.s 180)⟩ <|
    .take 21 ⟨(some 182), (some (176, true)), .faddr 1 (.s 181)⟩ <|
    .take 22 ⟨(some 183), (some (176, true)), .load 1 false (.s 182)⟩ <|
    .take 23 ⟨(some 184), (some (176, true)), .mov (.s 1)⟩ <|
    .take 24 ⟨(some 185), (some (176, true)), .mov (.s 10)⟩ <|
    .take 25 ⟨(some 186), (some (176, true)), .iaddr 2 (.s 184) (.s 185)⟩ <|
    .take 26 ⟨(some 187), (some (176, true)), .faddr 0 (.s 186)⟩ <|
    .take 27 ⟨(some 188), (some (176, true)), .load 1 false (.s 187)⟩ <|
    .alt 28 ⟨(some 189), (some (176, true)), .callv (.c (.fn 17 [])) [(.s 177), (.s 178), (.s 183), (.s 188)]⟩ (
    .take 29 ⟨(some 190), (some (172, false)), .pick (.s 176) (.s 189) (.c (.lit (.bool false)))⟩ <|
    .take 30 ⟨(some 191), none, .pick (.s 172) (.c (.lit (.bool true))) (.s 190)⟩ <|
    .done) .done) [0, 1, 6, 7, 10, 191]
def a5r22 : AC := .reg [⟨(some 4), none, .mov (.c (.lit (.bool false)))⟩] [4]
def a5r17 : AC := .reg [⟨(some 113), none, .mov (.s 10)⟩,
    ⟨(some 114), none, .iop .add (.s 113) (.c (.lit (.int .i64 1)))⟩,
    ⟨(some 10), none, .mov (.s 114)⟩] [0, 1, 6, 7, 10]
def a5L16 : AC := .seq (.seq (a5r16) (.cond (.s 112) (.skip) (.exit 4))) (.seq (.block 5 (.seq (.seq (a5r18) (.cond (.s 146) (.exit 5) (.skip))) (.seq (a5r19) (.seq (a5r20) (.seq (a5r21) (.cond (.s 191) (.seq (a5r22) (.ret)) (.skip))))))) (a5r17))
def a5r23 : AC := .reg [⟨(some 192), none, .mov (.s 7)⟩,
    ⟨(some 193), none, .mov (.s 0)⟩,
    ⟨(some 194), none, .iop .eql (.s 192) (.s 193)⟩,
    ⟨(some 4), none, .mov (.s 194)⟩] [4]
def a5 : AC := .seq (a5r0) (.seq (a5r1) (.seq (.seq (a5r2) (.cond (.s 28) (.seq (a5r3) (.ret)) (.skip))) (.seq (a5r4) (.seq (a5r5) (.seq (.seq (a5r6) (.block 0 (.loop a5L7))) (.seq (.seq (a5r15) (.block 4 (.loop a5L16))) (.seq (a5r23) (.ret))))))))
def a5R : List RD := [.tmp 4]

/-! colloquy/colloquylaw11.GraphReach: slots 90, parameters 6 -/
def a6r0 : AC := .reg [⟨(some 11), none, .box 6011 33 2 (.s 5)⟩,
    ⟨(some 12), none, .mov (.c (.lit (.bool false)))⟩] [0, 1, 2, 3, 4, 11]
def a6r1 : AC := .reg [⟨(some 18), none, .callv (.c (.fn 10 [])) []⟩,
    ⟨(some 13), none, .mov (.s 18)⟩] [0, 1, 2, 3, 4, 11, 13]
def a6r2 : AC := .reg [⟨(some 19), none, .mov (.s 13)⟩,
    ⟨(some 20), none, .not (.s 19)⟩,
    ⟨(some 21), none, .mov (.s 20)⟩,
    ⟨(some 22), (some (21, false)), .mov (.s 0)⟩,
    ⟨(some 23), (some (21, false)), .iop .lss (.s 22) (.c (.lit (.int .i64 0)))⟩,
    ⟨(some 24), none, .pick (.s 21) (.c (.lit (.bool true))) (.s 23)⟩,
    ⟨(some 25), none, .mov (.s 24)⟩,
    ⟨(some 26), (some (25, false)), .mov (.s 0)⟩,
    ⟨(some 27), (some (25, false)), .iop .gtr (.s 26) (.c (.lit (.int .i64 100)))⟩,
    ⟨(some 28), none, .pick (.s 25) (.c (.lit (.bool true))) (.s 27)⟩,
    ⟨(some 29), none, .mov (.s 28)⟩,
    ⟨(some 30), (some (29, false)), .mov (.s 1)⟩,
    ⟨(some 31), (some (29, false)), .len (.s 30)⟩,
    ⟨(some 32), (some (29, false)), .iop .gtr (.s 31) (.c (.lit (.int .i64 300)))⟩,
    ⟨(some 33), none, .pick (.s 29) (.c (.lit (.bool true))) (.s 32)⟩] [0, 1, 2, 3, 4, 11, 13, 33]
def a6r3 : AC := .reg [⟨(some 34), none, .mov (.s 13)⟩,
    ⟨(some 12), none, .mov (.s 34)⟩] [12]
def a6r4 : AC := .reg [⟨(some 35), none, .mov (.s 0)⟩,
    ⟨(some 36), none, .mov (.s 1)⟩,
    ⟨(some 37), none, .mov (.s 2)⟩,
    ⟨(some 38), none, .mov (.s 3)⟩,
    ⟨(some 39), none, .callv (.c (.fn 17 [])) [(.s 35), (.s 36), (.s 37), (.s 38)]⟩,
    ⟨(some 14), none, .mov (.s 39)⟩] [0, 1, 2, 3, 4, 11, 14]
def a6r5 : AC := .reg [⟨(some 40), none, .mov (.s 0)⟩,
    ⟨(some 41), none, .mov (.s 1)⟩,
    ⟨(some 42), none, .mov (.s 3)⟩,
    ⟨(some 43), none, .mov (.s 4)⟩,
    ⟨(some 44), none, .callv (.c (.fn 17 [])) [(.s 40), (.s 41), (.s 42), (.s 43)]⟩,
    ⟨(some 15), none, .mov (.s 44)⟩] [0, 1, 2, 3, 4, 11, 14, 15]
def a6r6 : AC := .reg [⟨(some 45), none, .mov (.s 2)⟩,
    ⟨(some 46), none, .iop .geq (.s 45) (.c (.lit (.int .i64 0)))⟩,
    ⟨(some 47), none, .mov (.s 46)⟩,
    ⟨(some 48), (some (47, true)), .mov (.s 2)⟩,
    ⟨(some 49), (some (47, true)), .mov (.s 0)⟩,
    ⟨(some 50), (some (47, true)), .iop .lss (.s 48) (.s 49)⟩,
    ⟨(some 51), none, .pick (.s 47) (.s 50) (.c (.lit (.bool false)))⟩,
    ⟨(some 16), none, .mov (.s 51)⟩] [0, 1, 2, 3, 4, 11, 14, 15, 16]
def a6r7 : AC := .draw [6053, 6055] (.take 0 ⟨(some 52), none, .mov (.s 1)⟩ <|
    .take 2 ⟨(some 54), none, .load 2 true (.s 11)⟩ <|
    .alt 1 ⟨(some 53), none, .append 6053 33 2 16 (.c (.nils 2)) (.s 52)⟩ (.alt 3 ⟨(some 55), none, .bslice 6055 33 2 [(.s 54)]⟩ (
    .alt 4 ⟨(some 56), none, .append 6056 33 2 16 (.s 53) (.s 55)⟩ (
    .take 5 ⟨(some 17), none, .mov (.s 56)⟩ <|
    .done) .done) .done) (.alt 3 ⟨(some 55), none, .bslice 6055 33 2 [(.s 54)]⟩ (.alt 1 ⟨(some 53), none, .append 6053 33 2 16 (.c (.nils 2)) (.s 52)⟩ (
    .alt 4 ⟨(some 56), none, .append 6056 33 2 16 (.s 53) (.s 55)⟩ (
    .take 5 ⟨(some 17), none, .mov (.s 56)⟩ <|
    .done) .done) .done) (.done))) [0, 1, 2, 3, 4, 14, 15, 16, 17]
def a6r8 : AC := .reg [⟨(some 57), none, .mov (.s 14)⟩,
    ⟨(some 58), none, .not (.s 57)⟩,
    ⟨(some 59), none, .mov (.s 58)⟩,
    ⟨(some 60), (some (59, false)), .mov (.s 15)⟩,
    ⟨(some 61), (some (59, false)), .not (.s 60)⟩,
    ⟨(some 62), none, .pick (.s 59) (.c (.lit (.bool true))) (.s 61)⟩,
    ⟨(some 63), none, .mov (.s 62)⟩,
    ⟨(some 64), (some (63, false)), .mov (.s 0)⟩,
    ⟨(some 65), (some (63, false)), .mov (.s 1)⟩,
    ⟨(some 66), (some (63, false)), .mov (.s 2)⟩,
    ⟨(some 67), (some (63, false)), .mov (.s 4)⟩,
    ⟨(some 68), (some (63, false)), .callv (.c (.fn 17 [])) [(.s 64), (.s 65), (.s 66), (.s 67)]⟩,
    ⟨(some 69), none, .pick (.s 63) (.c (.lit (.bool true))) (.s 68)⟩,
    ⟨(some 70), none, .mov (.s 69)⟩,
    ⟨(some 71), (some (70, true)), .mov (.s 0)⟩,
    ⟨(some 72), (some (70, true)), .mov (.s 1)⟩,
    ⟨(some 73), (some (70, true)), .mov (.s 2)⟩,
    ⟨(some 74), (some (70, true)), .mov (.s 2)⟩,
    ⟨(some 75), (some (70, true)), .callv (.c (.fn 17 [])) [(.s 71), (.s 72), (.s 73), (.s 74)]⟩,
    ⟨(some 76), (some (70, true)), .mov (.s 16)⟩,
    ⟨(some 77), (some (70, true)), .beq false (.s 75) (.s 76)⟩,
    ⟨(some 78), none, .pick (.s 70) (.s 77) (.c (.lit (.bool false)))⟩,
    ⟨(some 79), none, .mov (.s 78)⟩,
    ⟨(some 80), (some (79, true)), .mov (.s 14)⟩,
    ⟨(some 81), (some (79, true)), .not (.s 80)⟩,
    ⟨(some 82), (some (79, true)), .mov (.s 81)⟩,
    ⟨(some 83), (some (82, false)), .mov (.s 0)⟩,
    ⟨(some 84), (some (82, false)), .mov (.s 17)⟩,
    ⟨(some 85), (some (82, false)), .mov (.s 2)⟩,
    ⟨(some 86), (some (82, false)), .mov (.s 3)⟩,
    ⟨(some 87), (some (82, false)), .callv (.c (.fn 17 [])) [(.s 83), (.s 84), (.s 85), (.s 86)]⟩,
    ⟨(some 88), (some (79, true)), .pick (.s 82) (.c (.lit (.bool true))) (.s 87)⟩,
    ⟨(some 89), none, .pick (.s 79) (.s 88) (.c (.lit (.bool false)))⟩,
    ⟨(some 12), none, .mov (.s 89)⟩] [12]
def a6 : AC := .seq (a6r0) (.seq (a6r1) (.seq (.seq (a6r2) (.cond (.s 33) (.seq (a6r3) (.ret)) (.skip))) (.seq (a6r4) (.seq (a6r5) (.seq (a6r6) (.seq (a6r7) (.seq (a6r8) (.ret))))))))
def a6R : List RD := [.tmp 12]

/-! colloquy/colloquylaw11.GraphTwice: slots 68, parameters 3 -/
def a7r0 : AC := .reg [⟨(some 6), none, .mov (.c (.lit (.bool false)))⟩] [0, 1, 2]
def a7r1 : AC := .reg [⟨(some 11), none, .callv (.c (.fn 10 [])) []⟩,
    ⟨(some 7), none, .mov (.s 11)⟩] [0, 1, 2, 7]
def a7r2 : AC := .reg [⟨(some 12), none, .mov (.s 7)⟩,
    ⟨(some 13), none, .not (.s 12)⟩,
    ⟨(some 14), none, .mov (.s 13)⟩,
    ⟨(some 15), (some (14, false)), .mov (.s 0)⟩,
    ⟨(some 16), (some (14, false)), .iop .lss (.s 15) (.c (.lit (.int .i64 0)))⟩,
    ⟨(some 17), none, .pick (.s 14) (.c (.lit (.bool true))) (.s 16)⟩,
    ⟨(some 18), none, .mov (.s 17)⟩,
    ⟨(some 19), (some (18, false)), .mov (.s 0)⟩,
    ⟨(some 20), (some (18, false)), .iop .gtr (.s 19) (.c (.lit (.int .i64 30)))⟩,
    ⟨(some 21), none, .pick (.s 18) (.c (.lit (.bool true))) (.s 20)⟩,
    ⟨(some 22), none, .mov (.s 21)⟩,
    ⟨(some 23), (some (22, false)), .mov (.s 1)⟩,
    ⟨(some 24), (some (22, false)), .len (.s 23)⟩,
    ⟨(some 25), (some (22, false)), .iop .gtr (.s 24) (.c (.lit (.int .i64 100)))⟩,
    ⟨(some 26), none, .pick (.s 22) (.c (.lit (.bool true))) (.s 25)⟩,
    ⟨(some 27), none, .mov (.s 26)⟩,
    ⟨(some 28), (some (27, false)), .mov (.s 2)⟩,
    ⟨(some 29), (some (27, false)), .mov (.s 0)⟩,
    ⟨(some 30), (some (27, false)), .iop .lss (.s 28) (.s 29)⟩,
    ⟨(some 31), none, .pick (.s 27) (.c (.lit (.bool true))) (.s 30)⟩] [0, 1, 2, 7, 31]
def a7r3 : AC := .reg [⟨(some 32), none, .mov (.s 7)⟩,
    ⟨(some 6), none, .mov (.s 32)⟩] [6]
def a7r4 : AC := .reg [⟨(some 33), none, .mov (.s 2)⟩,
    ⟨(some 34), none, .build [(.lit (.int .i64 0)), (.lit (.int .i64 0))] [(0, 1, (.s 33)), (1, 1, (.c (.lit (.int .i64 0))))]⟩,
    ⟨(some 35), none, .mov (.s 2)⟩,
    ⟨(some 36), none, .build [(.lit (.int .i64 0)), (.lit (.int .i64 0))] [(0, 1, (.c (.lit (.int .i64 0)))), (1, 1, (.s 35))]⟩,
    ⟨(some 37), none, .build [(.lit (.int .i64 0)), (.lit (.int .i64 0))] [(0, 1, (.c (.lit (.int .i64 (-1))))), (1, 1, (.c (.lit (.int .i64 0))))]⟩,
    ⟨(some 38), none, .bslice 7038 33 2 [(.s 34), (.s 36), (.s 37)]⟩,
    ⟨(some 8), none, .mov (.s 38)⟩] [0, 1, 8]
def a7r5 : AC := .reg [⟨(some 9), none, .mov (.c (.lit (.int .i64 0)))⟩] [0, 1, 8, 9]
def a7r6 : AC := .reg [⟨(some 39), none, .mov (.s 9)⟩,
    ⟨(some 40), none, .mov (.s 1)⟩,
    ⟨(some 41), none, .len (.s 40)⟩,
    ⟨(some 42), none, .iop .lss (.s 39) (.s 41)⟩] [0, 1, 8, 9, 42]
def a7r8 : AC := .draw [7038, 7058] (.take 0 ⟨(some 45), none, .mov (.s 8)⟩ <|
    .take 1 ⟨(some 46), none, .mov (.s 1)⟩ <|
    .take 2 ⟨(some 47), none, .mov (.s 1)⟩ <|
    .take 3 ⟨(some 48), none, .len (.s 47)⟩ <|
    .take 4 ⟨(some 49), none, .iop .sub (.s 48) (.c (.lit (.int .i64 1)))⟩ <|
    .take 5 ⟨(some 50), none, .mov (.s 9)⟩ <|
    .take 6 ⟨(some 51), none, .iop .sub (.s 49) (.s 50)⟩ <|
    .take 7 ⟨(some 52), none, .iaddr 2 (.s 46) (.s 51)⟩ <|
    .take 8 ⟨(some 53), none, .load 2 true (.s 52)⟩ <|
    .take 9 ⟨(some 54), none, .mov (.s 1)⟩ <|
    .take 10 ⟨(some 55), none, .mov (.s 9)⟩ <|
    .take 11 ⟨(some 56), none, .iaddr 2 (.s 54) (.s 55)⟩ <|
    .take 12 ⟨(some 57), none, .load 2 true (.s 56)⟩ <|
    .alt 13 ⟨(some 58), none, .bslice 7058 33 2 [(.s 53), (.s 57)]⟩ (
    .alt 14 ⟨(some 59), none, .append 7059 33 2 16 (.s 45) (.s 58)⟩ (
    .take 15 ⟨(some 8), none, .mov (.s 59)⟩ <|
    .done) .done) .done) [0, 1, 8, 9]
def a7r7 : AC := .reg [⟨(some 43), none, .mov (.s 9)⟩,
    ⟨(some 44), none, .iop .add (.s 43) (.c (.lit (.int .i64 1)))⟩,
    ⟨(some 9), none, .mov (.s 44)⟩] [0, 1, 8, 9]
def a7L6 : AC := .seq (.seq (a7r6) (.cond (.s 42) (.skip) (.exit 0))) (.seq (.block 1 (a7r8)) (a7r7))
def a7r9 : AC := .reg [⟨(some 60), none, .mov (.s 0)⟩,
    ⟨(some 61), none, .mov (.s 1)⟩,
    ⟨(some 62), none, .callv (.c (.fn 12 [])) [(.s 60), (.s 61)]⟩,
    ⟨(some 63), none, .mov (.s 0)⟩,
    ⟨(some 64), none, .mov (.s 8)⟩,
    ⟨(some 65), none, .callv (.c (.fn 12 [])) [(.s 63), (.s 64)]⟩,
    ⟨(some 66), none, .callv (.c (.fn 11 [])) [(.s 62), (.s 65)]⟩,
    ⟨(some 10), none, .mov (.s 66)⟩] [10]
def a7r10 : AC := .reg [⟨(some 67), none, .mov (.s 10)⟩,
    ⟨(some 6), none, .mov (.s 67)⟩] [6]
def a7 : AC := .seq (a7r0) (.seq (a7r1) (.seq (.seq (a7r2) (.cond (.s 31) (.seq (a7r3) (.ret)) (.skip))) (.seq (a7r4) (.seq (.seq (a7r5) (.block 0 (.loop a7L6))) (.seq (a7r9) (.seq (a7r10) (.ret)))))))
def a7R : List RD := [.tmp 6]

/-! colloquy/colloquylaw11.GraphLine: slots 97, parameters 1 -/
def a8r0 : AC := .reg [⟨(some 2), none, .mov (.c (.lit (.bool false)))⟩] [0]
def a8r1 : AC := .reg [⟨(some 9), none, .callv (.c (.fn 10 [])) []⟩,
    ⟨(some 3), none, .mov (.s 9)⟩] [0, 3]
def a8r2 : AC := .reg [⟨(some 10), none, .mov (.s 3)⟩,
    ⟨(some 11), none, .not (.s 10)⟩,
    ⟨(some 12), none, .mov (.s 11)⟩,
    ⟨(some 13), (some (12, false)), .mov (.s 0)⟩,
    ⟨(some 14), (some (12, false)), .iop .lss (.s 13) (.c (.lit (.int .i64 1)))⟩,
    ⟨(some 15), none, .pick (.s 12) (.c (.lit (.bool true))) (.s 14)⟩,
    ⟨(some 16), none, .mov (.s 15)⟩,
    ⟨(some 17), (some (16, false)), .mov (.s 0)⟩,
    ⟨(some 18), (some (16, false)), .iop .gtr (.s 17) (.c (.lit (.int .i64 30)))⟩,
    ⟨(some 19), none, .pick (.s 16) (.c (.lit (.bool true))) (.s 18)⟩] [0, 3, 19]
def a8r3 : AC := .reg [⟨(some 20), none, .mov (.s 3)⟩,
    ⟨(some 2), none, .mov (.s 20)⟩] [2]
def a8r4 : AC := .reg [⟨(some 4), none, .mov (.c (.nils 2))⟩] [0, 4]
def a8r5 : AC := .reg [⟨(some 5), none, .mov (.c (.lit (.int .i64 0)))⟩] [0, 4, 5]
def a8r6 : AC := .reg [⟨(some 21), none, .mov (.s 5)⟩,
    ⟨(some 22), none, .iop .add (.s 21) (.c (.lit (.int .i64 1)))⟩,
    ⟨(some 23), none, .mov (.s 0)⟩,
    ⟨(some 24), none, .iop .lss (.s 22) (.s 23)⟩] [0, 4, 5, 24]
def a8r8 : AC := .reg [⟨(some 27), none, .mov (.s 4)⟩,
    ⟨(some 28), none, .mov (.s 5)⟩,
    ⟨(some 29), none, .mov (.s 5)⟩,
    ⟨(some 30), none, .iop .add (.s 29) (.c (.lit (.int .i64 1)))⟩,
    ⟨(some 31), none, .build [(.lit (.int .i64 0)), (.lit (.int .i64 0))] [(0, 1, (.s 28)), (1, 1, (.s 30))]⟩,
    ⟨(some 32), none, .bslice 8032 33 2 [(.s 31)]⟩,
    ⟨(some 33), none, .append 8033 33 2 16 (.s 27) (.s 32)⟩,
    ⟨(some 4), none, .mov (.s 33)⟩] [0, 4, 5]
def a8r7 : AC := .reg [⟨(some 25), none, .mov (.s 5)⟩,
    ⟨(some 26), none, .iop .add (.s 25) (.c (.lit (.int .i64 1)))⟩,
    ⟨(some 5), none, .mov (.s 26)⟩] [0, 4, 5]
def a8L6 : AC := .seq (.seq (a8r6) (.cond (.s 24) (.skip) (.exit 0))) (.seq (.block 1 (a8r8)) (a8r7))
def a8r9 : AC := .reg [⟨(some 34), none, .mov (.s 0)⟩,
    ⟨(some 35), none, .mov (.s 4)⟩,
    ⟨(some 36), none, .callv (.c (.fn 12 [])) [(.s 34), (.s 35)]⟩,
    ⟨(some 6), none, .mov (.s 36)⟩] [0, 4, 6]
def a8r10 : AC := .reg [⟨(some 37), none, .mov (.s 4)⟩,
    ⟨(some 38), none, .mov (.s 0)⟩,
    ⟨(some 39), none, .iop .sub (.s 38) (.c (.lit (.int .i64 1)))⟩,
    ⟨(some 40), none, .build [(.lit (.int .i64 0)), (.lit (.int .i64 0))] [(0, 1, (.s 39)), (1, 1, (.c (.lit (.int .i64 0))))]⟩,
    ⟨(some 41), none, .bslice 8041 33 2 [(.s 40)]⟩,
    ⟨(some 42), none, .append 8042 33 2 16 (.s 37) (.s 41)⟩,
    ⟨(some 4), none, .mov (.s 42)⟩] [0, 4, 6]
def a8r11 : AC := .reg [⟨(some 43), none, .mov (.s 0)⟩,
    ⟨(some 44), none, .mov (.s 4)⟩,
    ⟨(some 45), none, .callv (.c (.fn 12 [])) [(.s 43), (.s 44)]⟩,
    ⟨(some 7), none, .mov (.s 45)⟩] [0, 6, 7]
def a8r12 : AC := .reg [⟨(some 46), none, .mov (.s 6)⟩,
    ⟨(some 47), none, .len (.s 46)⟩,
    ⟨(some 48), none, .mov (.s 0)⟩,
    ⟨(some 49), none, .iop .neq (.s 47) (.s 48)⟩,
    ⟨(some 50), none, .mov (.s 49)⟩,
    ⟨(some 51), (some (50, false)), .mov (.s 7)⟩,
    ⟨(some 52), (some (50, false)), .len (.s 51)⟩,
    ⟨(some 53), (some (50, false)), .iop .neq (.s 52) (.c (.lit (.int .i64 1)))⟩,
    ⟨(some 54), none, .pick (.s 50) (.c (.lit (.bool true))) (.s 53)⟩,
    ⟨(some 55), none, .mov (.s 54)⟩,
    ⟨(some 56), (some (55, false)), .mov (.s 7)⟩,
    ⟨(some 57), (some (55, false)), .iaddr 1 (.s 56) (.c (.lit (.int .i64 0)))⟩,
    ⟨(some 58), (some (55, false)), .load 1 false (.s 57)⟩,
    ⟨(some 59), (some (55, false)), .len (.s 58)⟩,
    ⟨(some 60), (some (55, false)), .mov (.s 0)⟩,
    ⟨(some 61), (some (55, false)), .iop .neq (.s 59) (.s 60)⟩,
    ⟨(some 62), none, .pick (.s 55) (.c (.lit (.bool true))) (.s 61)⟩] [0, 6, 7, 62]
def a8r13 : AC := .reg [⟨(some 2), none, .mov (.c (.lit (.bool false)))⟩] [2]
def a8r14 : AC := .reg [⟨(some 8), none, .mov (.c (.lit (.int .i64 0)))⟩] [0, 6, 7, 8]
def a8r15 : AC := .reg [⟨(some 63), none, .mov (.s 8)⟩,
    ⟨(some 64), none, .mov (.s 0)⟩,
    ⟨(some 65), none, .iop .lss (.s 63) (.s 64)⟩] [0, 6, 7, 8, 65]
def a8r17 : AC := .reg [⟨(some 68), none, .mov (.s 6)⟩,
    ⟨(some 69), none, .mov (.s 8)⟩,
    ⟨(some 70), none, .iaddr 1 (.s 68) (.s 69)⟩,
    ⟨(some 71), none, .load 1 false (.s 70)⟩,
    ⟨(some 72), none, .len (.s 71)⟩,
    ⟨(some 73), none, .iop .neq (.s 72) (.c (.lit (.int .i64 1)))⟩,
    ⟨(some 74), none, .mov (.s 73)⟩,
    ⟨(some 75), (some (74, false)), .mov (.s 6)⟩,
    ⟨(some 76), (some (74, false)), .mov (.s 8)⟩,
    ⟨(some 77), (some (74, false)), .iaddr 1 (.s 75) (.s 76)⟩,
    ⟨(some 78), (some (74, false)), .load 1 false (.s 77)⟩,
    ⟨(some 79), (some (74, false)), .iaddr 1 (.s 78) (.c (.lit (.int .i64 0)))⟩,
    ⟨(some 80), (some (74, false)), .load 1 false (.s 79)⟩,
    ⟨(some 81), (some (74, false)), .mov (.s 0)⟩,
    ⟨(some 82), (some (74, false)), .iop .sub (.s 81) (.c (.lit (.int .i64 1)))⟩,
    ⟨(some 83), (some (74, false)), .mov (.s 8)⟩,
    ⟨(some 84), (some (74, false)), .iop .sub (.s 82) (.s 83)⟩,
    ⟨(some 85), (some (74, false)), .iop .neq (.s 80) (.s 84)⟩,
    ⟨(some 86), none, .pick (.s 74) (.c (.lit (.bool true))) (.s 85)⟩,
    ⟨(some 87), none, .mov (.s 86)⟩,
    ⟨(some 88), (some (87, false)), .mov (.s 7)⟩,
    ⟨(some 89), (some (87, false)), .iaddr 1 (.s 88) (.c (.lit (.int .i64 0)))⟩,
    ⟨(some 90), (some (87, false)), .load 1 false (.s 89)⟩,
    ⟨(some 91), (some (87, false)), .mov (.s 8)⟩,
    ⟨(some 92), (some (87, false)), .iaddr 1 (.s 90) (.s 91)⟩,
    ⟨(some 93), (some (87, false)), .load 1 false (.s 92)⟩,
    ⟨(some 94), (some (87, false)), .mov (.s 8)⟩,
    ⟨(some 95), (some (87, false)), .iop .neq (.s 93) (.s 94)⟩,
    ⟨(some 96), none, .pick (.s 87) (.c (.lit (.bool true))) (.s 95)⟩] [0, 6, 7, 8, 96]
def a8r18 : AC := .reg [⟨(some 2), none, .mov (.c (.lit (.bool false)))⟩] [2]
def a8r16 : AC := .reg [⟨(some 66), none, .mov (.s 8)⟩,
    ⟨(some 67), none, .iop .add (.s 66) (.c (.lit (.int .i64 1)))⟩,
    ⟨(some 8), none, .mov (.s 67)⟩] [0, 6, 7, 8]
def a8L15 : AC := .seq (.seq (a8r15) (.cond (.s 65) (.skip) (.exit 2))) (.seq (.block 3 (.seq (a8r17) (.cond (.s 96) (.seq (a8r18) (.ret)) (.skip)))) (a8r16))
def a8r19 : AC := .reg [⟨(some 2), none, .mov (.c (.lit (.bool true)))⟩] [2]
def a8 : AC := .seq (a8r0) (.seq (a8r1) (.seq (.seq (a8r2) (.cond (.s 19) (.seq (a8r3) (.ret)) (.skip))) (.seq (a8r4) (.seq (.seq (a8r5) (.block 0 (.loop a8L6))) (.seq (a8r9) (.seq (a8r10) (.seq (a8r11) (.seq (.seq (a8r12) (.cond (.s 62) (.seq (a8r13) (.ret)) (.skip))) (.seq (.seq (a8r14) (.block 2 (.loop a8L15))) (.seq (a8r19) (.ret)))))))))))
def a8R : List RD := [.tmp 2]

/-! colloquy/colloquylaw11.GraphClosure: slots 172, parameters 3 -/
def a9r0 : AC := .reg [⟨(some 6), none, .mov (.c (.lit (.bool false)))⟩] [0, 1, 2]
def a9r1 : AC := .reg [⟨(some 17), none, .callv (.c (.fn 10 [])) []⟩,
    ⟨(some 7), none, .mov (.s 17)⟩] [0, 1, 2, 7]
def a9r2 : AC := .reg [⟨(some 18), none, .mov (.s 7)⟩,
    ⟨(some 19), none, .not (.s 18)⟩,
    ⟨(some 20), none, .mov (.s 19)⟩,
    ⟨(some 21), (some (20, false)), .mov (.s 0)⟩,
    ⟨(some 22), (some (20, false)), .iop .lss (.s 21) (.c (.lit (.int .i64 0)))⟩,
    ⟨(some 23), none, .pick (.s 20) (.c (.lit (.bool true))) (.s 22)⟩,
    ⟨(some 24), none, .mov (.s 23)⟩,
    ⟨(some 25), (some (24, false)), .mov (.s 0)⟩,
    ⟨(some 26), (some (24, false)), .iop .gtr (.s 25) (.c (.lit (.int .i64 100)))⟩,
    ⟨(some 27), none, .pick (.s 24) (.c (.lit (.bool true))) (.s 26)⟩,
    ⟨(some 28), none, .mov (.s 27)⟩,
    ⟨(some 29), (some (28, false)), .mov (.s 1)⟩,
    ⟨(some 30), (some (28, false)), .len (.s 29)⟩,
    ⟨(some 31), (some (28, false)), .iop .gtr (.s 30) (.c (.lit (.int .i64 300)))⟩,
    ⟨(some 32), none, .pick (.s 28) (.c (.lit (.bool true))) (.s 31)⟩,
    ⟨(some 33), none, .mov (.s 32)⟩,
    ⟨(some 34), (some (33, false)), .mov (.s 2)⟩,
    ⟨(some 35), (some (33, false)), .iop .lss (.s 34) (.c (.lit (.int .i64 0)))⟩,
    ⟨(some 36), none, .pick (.s 33) (.c (.lit (.bool true))) (.s 35)⟩,
    ⟨(some 37), none, .mov (.s 36)⟩,
    ⟨(some 38), (some (37, false)), .mov (.s 2)⟩,
    ⟨(some 39), (some (37, false)), .mov (.s 0)⟩,
    ⟨(some 40), (some (37, false)), .iop .geq (.s 38) (.s 39)⟩,
    ⟨(some 41), none, .pick (.s 37) (.c (.lit (.bool true))) (.s 40)⟩] [0, 1, 2, 7, 41]
def a9r3 : AC := .reg [⟨(some 42), none, .mov (.s 7)⟩,
    ⟨(some 6), none, .mov (.s 42)⟩] [6]
def a9r4 : AC := .reg [⟨(some 43), none, .mov (.s 0)⟩,
    ⟨(some 44), none, .mov (.s 1)⟩,
    ⟨(some 45), none, .mov (.s 2)⟩,
    ⟨(some 46), none, .callv (.c (.fn 15 [])) [(.s 43), (.s 44), (.s 45)]⟩,
    ⟨(some 8), none, .mov (.s 46)⟩] [0, 1, 2, 8]
def a9r5 : AC := .reg [⟨(some 47), none, .mov (.s 0)⟩,
    ⟨(some 48), none, .mkslice 9048 4 1 1 [(.lit (.bool false))] (.s 47)⟩,
    ⟨(some 9), none, .mov (.s 48)⟩] [0, 1, 2, 8, 9]
def a9r6 : AC := .reg [⟨(some 10), none, .mov (.c (.lit (.int .i64 0)))⟩] [0, 1, 2, 8, 9, 10]
def a9r7 : AC := .reg [⟨(some 49), none, .mov (.s 10)⟩,
    ⟨(some 50), none, .mov (.s 8)⟩,
    ⟨(some 51), none, .len (.s 50)⟩,
    ⟨(some 52), none, .iop .lss (.s 49) (.s 51)⟩] [0, 1, 2, 8, 9, 10, 52]
def a9r9 : AC := .draw [] (.take 0 ⟨(some 55), none, .mov (.s 8)⟩ <|
    .take 1 ⟨(some 56), none, .mov (.s 10)⟩ <|
    .take 2 ⟨(some 57), none, .iaddr 1 (.s 55) (.s 56)⟩ <|
    .take 3 ⟨(some 58), none, .load 1 false (.s 57)⟩ <|
    .take 4 ⟨(some 59), none, .iop .lss (.s 58) (.c (.lit (.int .i64 0)))⟩ <|
    .take 5 ⟨(some 60), none, .mov (.s 59)⟩ <|
    .take 6 ⟨(some 61), (some (60, false)), .mov (.s 8)⟩ <|
    .take 7 ⟨(some 62), (some (60, false)), .mov (.s 10)⟩ <|
    .take 8 ⟨(some 63), (some (60, false)), .iaddr 1 (.s 61) (.s 62)⟩ <|
    .take 9 ⟨(some 64), (some (60, false)), .load 1 false (.s 63)⟩ <|
    .take 10 ⟨(some 65), (some (60, false)), .mov (.s 0)⟩ <|
    .take 11 ⟨(some 66), (some (60, false)), .iop .geq (.s 64) (.s 65)⟩ <|
    .take 12 ⟨(some 67), none, .pick (.s 60) (.c (.lit (.bool true))) (.s 66)⟩ <|
    .take 13 ⟨(some 68), none, .mov (.s 67)⟩ <|
    .take 14 ⟨(some 69), (some (68, false)), .mov (.s 10)⟩ <|
    .take 15 ⟨(some 70), (some (68, false)), .iop .gtr (.s 69) (.c (.lit (.int .i64 0)))⟩ <|
    .take 16 ⟨(some 71), (some (68, false)), .mov (.s 70)⟩ <|
    .take 17 ⟨(some 72), (some (71, true)), .mov (.s 8)⟩ <|
    .take 18 ⟨(some 73), (some (71, true)), .mov (.s 10)⟩ <|
    .take 19 ⟨(some 74), (some (71, true)), .iaddr 1 (.s 72) (.s 73)⟩ <|
    .take 20 ⟨(some 75), (some (71, true)), .load 1 false (.s 74)⟩ <|
    .take 21 ⟨(some 76), (some (71, true)), .mov (.s 8)⟩ <|
    .take 22 ⟨(some 77), (some (71, true)), .mov (.s 10)⟩ <|
    .take 23 ⟨(some 78), (some (71, true)), .iop .sub (.s 77) (.c (.lit (.int .i64 1)))⟩ <|
    .take 24 ⟨(some 79), (some (71, true)), .iaddr 1 (.s 76) (.s 78)⟩ <|
    .take 25 ⟨(some 80), (some (71, true)), .load 1 false (.s 79)⟩ <|
    .take 26 ⟨(some 81), (some (71, true)), .iop .leq (.s 75) (.s 80)⟩ <|
    .take 27 ⟨(some 82), (some (68, false)), .pick (.s 71) (.s 81) (.c (.lit (.bool false)))⟩ <|
    .take 28 ⟨(some 83), none, .pick (.s 68) (.c (.lit (.bool true))) (.s 82)⟩ <|
    .done) [0, 1, 2, 8, 9, 10, 83]
def a9r10 : AC := .reg [⟨(some 6), none, .mov (.c (.lit (.bool false)))⟩] [6]
def a9r11 : AC := .reg [⟨(some 84), none, .mov (.s 9)⟩,
    ⟨(some 85), none, .mov (.s 8)⟩,
    ⟨(some 86), none, .mov (.s 10)⟩,
    ⟨(some 87), none, .iaddr 1 (.s 85) (.s 86)⟩,
    ⟨(some 88), none, .load 1 false (.s 87)⟩,
    ⟨(some 89), none, .iaddr 1 (.s 84) (.s 88)⟩,
    ⟨none, none, .store 1 (.s 89) (.c (.lit (.bool true)))⟩] [0, 1, 2, 8, 9, 10]
def a9r8 : AC := .reg [⟨(some 53), none, .mov (.s 10)⟩,
    ⟨(some 54), none, .iop .add (.s 53) (.c (.lit (.int .i64 1)))⟩,
    ⟨(some 10), none, .mov (.s 54)⟩] [0, 1, 2, 8, 9, 10]
def a9L7 : AC := .seq (.seq (a9r7) (.cond (.s 52) (.skip) (.exit 0))) (.seq (.block 1 (.seq (.seq (a9r9) (.cond (.s 83) (.seq (a9r10) (.ret)) (.skip))) (a9r11))) (a9r8))
def a9r12 : AC := .reg [⟨(some 11), none, .mov (.c (.lit (.int .i64 0)))⟩] [0, 1, 2, 8, 9, 11]
def a9r13 : AC := .reg [⟨(some 90), none, .mov (.s 11)⟩,
    ⟨(some 91), none, .mov (.s 1)⟩,
    ⟨(some 92), none, .len (.s 91)⟩,
    ⟨(some 93), none, .iop .lss (.s 90) (.s 92)⟩] [0, 1, 2, 8, 9, 11, 93]
def a9r15 : AC := .reg [⟨(some 96), none, .mov (.s 1)⟩,
    ⟨(some 97), none, .mov (.s 11)⟩,
    ⟨(some 98), none, .iaddr 2 (.s 96) (.s 97)⟩,
    ⟨(some 99), none, .faddr 0 (.s 98)⟩,
    ⟨(some 100), none, .load 1 false (.s 99)⟩,
    ⟨(some 12), none, .mov (.s 100)⟩] [0, 1, 2, 8, 9, 11, 12]
def a9r16 : AC := .reg [⟨(some 101), none, .mov (.s 1)⟩,
    ⟨(some 102), none, .mov (.s 11)⟩,
    ⟨(some 103), none, .iaddr 2 (.s 101) (.s 102)⟩,
    ⟨(some 104), none, .faddr 1 (.s 103)⟩,
    ⟨(some 105), none, .load 1 false (.s 104)⟩,
    ⟨(some 13), none, .mov (.s 105)⟩] [0, 1, 2, 8, 9, 11, 12, 13]
def a9r17 : AC := .reg [⟨(some 106), none, .mov (.s 12)⟩,
    ⟨(some 107), none, .iop .geq (.s 106) (.c (.lit (.int .i64 0)))⟩,
    ⟨(some 108), none, .mov (.s 107)⟩,
    ⟨(some 109), (some (108, true)), .mov (.s 12)⟩,
    ⟨(some 110), (some (108, true)), .mov (.s 0)⟩,
    ⟨(some 111), (some (108, true)), .iop .lss (.s 109) (.s 110)⟩,
    ⟨(some 112), none, .pick (.s 108) (.s 111) (.c (.lit (.bool false)))⟩,
    ⟨(some 113), none, .mov (.s 112)⟩,
    ⟨(some 114), (some (113, true)), .mov (.s 13)⟩,
    ⟨(some 115), (some (113, true)), .iop .geq (.s 114) (.c (.lit (.int .i64 0)))⟩,
    ⟨(some 116), none, .pick (.s 113) (.s 115) (.c (.lit (.bool false)))⟩,
    ⟨(some 117), none, .mov (.s 116)⟩,
    ⟨(some 118), (some (117, true)), .mov (.s 13)⟩,
    ⟨(some 119), (some (117, true)), .mov (.s 0)⟩,
    ⟨(some 120), (some (117, true)), .iop .lss (.s 118) (.s 119)⟩,
    ⟨(some 121), none, .pick (.s 117) (.s 120) (.c (.lit (.bool false)))⟩,
    ⟨(some 122), none, .mov (.s 121)⟩,
    ⟨(some 123), (some (122, true)), .mov (.s 9)⟩,
    ⟨(some 124), (some (122, true)), .mov (.s 12)⟩,
    ⟨(some 125), (some (122, true)), .iaddr 1 (.s 123) (.s 124)⟩,
    ⟨(some 126), (some (122, true)), .load 1 false (.s 125)⟩,
    ⟨(some 127), none, .pick (.s 122) (.s 126) (.c (.lit (.bool false)))⟩,
    ⟨(some 128), none, .mov (.s 127)⟩,
    ⟨(some 129), (some (128, true)), .mov (.s 9)⟩,
    ⟨(some 130), (some (128, true)), .mov (.s 13)⟩,
    ⟨(some 131), (some (128, true)), .iaddr 1 (.s 129) (.s 130)⟩,
    ⟨(some 132), (some (128, true)), .load 1 false (.s 131)⟩,
    ⟨(some 133), (some (128, true)), .not (.s 132)⟩,
    ⟨(some 134), none, .pick (.s 128) (.s 133) (.c (.lit (.bool false)))⟩] [0, 1, 2, 8, 9, 11, 134]
def a9r18 : AC := .reg [⟨(some 6), none, .mov (.c (.lit (.bool false)))⟩] [6]
def a9r14 : AC := .reg [⟨(some 94), none, .mov (.s 11)⟩,
    ⟨(some 95), none, .iop .add (.s 94) (.c (.lit (.int .i64 1)))⟩,
    ⟨(some 11), none, .mov (.s 95)⟩] [0, 1, 2, 8, 9, 11]
def a9L13 : AC := .seq (.seq (a9r13) (.cond (.s 93) (.skip) (.exit 2))) (.seq (.block 3 (.seq (a9r15) (.seq (a9r16) (.seq (a9r17) (.cond (.s 134) (.seq (a9r18) (.ret)) (.skip)))))) (a9r14))
def a9r19 : AC := .reg [⟨(some 14), none, .mov (.c (.lit (.int .i64 0)))⟩] [0, 1, 2, 8, 9, 14]
def a9r20 : AC := .reg [⟨(some 135), none, .mov (.s 14)⟩,
    ⟨(some 136), none, .mov (.s 8)⟩,
    ⟨(some 137), none, .len (.s 136)⟩,
    ⟨(some 138), none, .iop .lss (.s 135) (.s 137)⟩] [0, 1, 2, 8, 9, 14, 138]
def a9r22 : AC := .reg [⟨(some 141), none, .mov (.s 0)⟩,
    ⟨(some 142), none, .mov (.s 1)⟩,
    ⟨(some 143), none, .mov (.s 8)⟩,
    ⟨(some 144), none, .mov (.s 14)⟩,
    ⟨(some 145), none, .iaddr 1 (.s 143) (.s 144)⟩,
    ⟨(some 146), none, .load 1 false (.s 145)⟩,
    ⟨(some 147), none, .callv (.c (.fn 15 [])) [(.s 141), (.s 142), (.s 146)]⟩,
    ⟨(some 15), none, .mov (.s 147)⟩] [0, 1, 2, 8, 9, 14, 15]
def a9r23 : AC := .reg [⟨(some 148), none, .mov (.s 8)⟩,
    ⟨(some 149), none, .mov (.s 15)⟩,
    ⟨(some 150), none, .callv (.c (.fn 14 [])) [(.s 148), (.s 149)]⟩,
    ⟨(some 16), none, .mov (.s 150)⟩] [0, 1, 2, 8, 9, 14, 15, 16]
def a9r24 : AC := .reg [⟨(some 151), none, .mov (.s 8)⟩,
    ⟨(some 152), none, .mov (.s 14)⟩,
    ⟨(some 153), none, .iaddr 1 (.s 151) (.s 152)⟩,
    ⟨(some 154), none, .load 1 false (.s 153)⟩,
    ⟨(some 155), none, .mov (.s 2)⟩,
    ⟨(some 156), none, .iop .eql (.s 154) (.s 155)⟩,
    ⟨(some 157), none, .mov (.s 156)⟩,
    ⟨(some 158), (some (157, true)), .mov (.s 16)⟩,
    ⟨(some 159), (some (157, true)), .not (.s 158)⟩,
    ⟨(some 160), none, .pick (.s 157) (.s 159) (.c (.lit (.bool false)))⟩,
    ⟨(some 161), none, .mov (.s 160)⟩,
    ⟨(some 162), (some (161, false)), .mov (.s 15)⟩,
    ⟨(some 163), (some (161, false)), .len (.s 162)⟩,
    ⟨(some 164), (some (161, false)), .mov (.s 8)⟩,
    ⟨(some 165), (some (161, false)), .len (.s 164)⟩,
    ⟨(some 166), (some (161, false)), .iop .gtr (.s 163) (.s 165)⟩,
    ⟨(some 167), none, .pick (.s 161) (.c (.lit (.bool true))) (.s 166)⟩] [0, 1, 2, 8, 9, 14, 167]
def a9r25 : AC := .reg [⟨(some 6), none, .mov (.c (.lit (.bool false)))⟩] [6]
def a9r21 : AC := .reg [⟨(some 139), none, .mov (.s 14)⟩,
    ⟨(some 140), none, .iop .add (.s 139) (.c (.lit (.int .i64 1)))⟩,
    ⟨(some 14), none, .mov (.s 140)⟩] [0, 1, 2, 8, 9, 14]
def a9L20 : AC := .seq (.seq (a9r20) (.cond (.s 138) (.skip) (.exit 4))) (.seq (.block 5 (.seq (a9r22) (.seq (a9r23) (.seq (a9r24) (.cond (.s 167) (.seq (a9r25) (.ret)) (.skip)))))) (a9r21))
def a9r26 : AC := .reg [⟨(some 168), none, .mov (.s 9)⟩,
    ⟨(some 169), none, .mov (.s 2)⟩,
    ⟨(some 170), none, .iaddr 1 (.s 168) (.s 169)⟩,
    ⟨(some 171), none, .load 1 false (.s 170)⟩,
    ⟨(some 6), none, .mov (.s 171)⟩] [6]
def a9 : AC := .seq (a9r0) (.seq (a9r1) (.seq (.seq (a9r2) (.cond (.s 41) (.seq (a9r3) (.ret)) (.skip))) (.seq (a9r4) (.seq (a9r5) (.seq (.seq (a9r6) (.block 0 (.loop a9L7))) (.seq (.seq (a9r12) (.block 2 (.loop a9L13))) (.seq (.seq (a9r19) (.block 4 (.loop a9L20))) (.seq (a9r26) (.ret)))))))))
def a9R : List RD := [.tmp 6]

end Go.Proofs.Ythccfgkklimebaa.F
