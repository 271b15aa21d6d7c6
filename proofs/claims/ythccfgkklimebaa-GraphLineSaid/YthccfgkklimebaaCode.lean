/- The code of chapter 11's functions, as data. Printed by Gen.lean. -/
import Derived.Test.YthccfgkklimebaaSxK
namespace Go.Proofs.Ythccfgkklimebaa.F
open Go Go.SX

/-! slices.Index[[]int,int]: slots 19, parameters 2 -/
def a28r0 : AC := .reg [⟨(some 4), none, .mov (.c (.lit (.int .i64 0)))⟩] [0, 1]
def a28r1 : AC := .reg [⟨(some 6), none, .mov (.s 0)⟩,
    ⟨(some 7), none, .len (.s 6)⟩,
    ⟨(some 8), none, .mov (.c (.lit (.int .i64 0)))⟩] [0, 1, 7, 8]
def a28r2 : AC := .reg [⟨(some 9), none, .iop .lss (.s 8) (.s 7)⟩] [0, 1, 7, 8, 9]
def a28r3 : AC := .reg [⟨(some 10), none, .mov (.s 8)⟩,
    ⟨(some 5), none, .mov (.s 10)⟩] [0, 1, 5, 7, 8]
def a28r4 : AC := .reg [⟨(some 11), none, .mov (.s 1)⟩,
    ⟨(some 12), none, .mov (.s 0)⟩,
    ⟨(some 13), none, .mov (.s 5)⟩,
    ⟨(some 14), none, .iaddr 1 (.s 12) (.s 13)⟩,
    ⟨(some 15), none, .load 1 false (.s 14)⟩,
    ⟨(some 16), none, .iop .eql (.s 11) (.s 15)⟩] [0, 1, 5, 7, 8, 16]
def a28r5 : AC := .reg [⟨(some 17), none, .mov (.s 5)⟩,
    ⟨(some 4), none, .mov (.s 17)⟩] [4]
def a28r6 : AC := .reg [⟨(some 18), none, .iop .add (.s 8) (.c (.lit (.int .i64 1)))⟩,
    ⟨(some 8), none, .mov (.s 18)⟩] [0, 1, 7, 8]
def a28L2 : AC := .seq (a28r2) (.seq (.cond (.s 9) (.skip) (.exit 0)) (.seq (.block 1 (.seq (a28r3) (.seq (a28r4) (.cond (.s 16) (.seq (a28r5) (.ret)) (.skip))))) (a28r6)))
def a28r7 : AC := .reg [⟨(some 4), none, .mov (.c (.lit (.int .i64 (-1))))⟩] [4]
def a28 : AC := .seq (a28r0) (.seq (.seq (a28r1) (.block 0 (.loop a28L2))) (.seq (a28r7) (.ret)))
def a28R : List RD := [.tmp 4]

/-! (*colloquy/graph.search).begin: slots 44, parameters 2 -/
def a29r0 : AC := .reg [⟨(some 4), none, .alloc 29004 52 [(.lit (.int .i64 0)), (.lit (.int .i64 0))]⟩] [0, 1, 4]
def a29r1 : AC := .reg [⟨(some 5), none, .mov (.s 0)⟩,
    ⟨(some 6), none, .nilck (.s 5)⟩,
    ⟨(some 7), none, .faddr 6 (.s 6)⟩,
    ⟨(some 8), none, .load 1 false (.s 7)⟩,
    ⟨(some 9), none, .iop .add (.s 8) (.c (.lit (.int .i64 1)))⟩,
    ⟨(some 10), none, .nilck (.s 5)⟩,
    ⟨(some 11), none, .faddr 6 (.s 10)⟩,
    ⟨none, none, .store 1 (.s 11) (.s 9)⟩] [0, 1, 4]
def a29r2 : AC := .draw [2, 3] (.take 0 ⟨(some 12), none, .mov (.s 0)⟩ <|
    .take 1 ⟨(some 13), none, .nilck (.s 12)⟩ <|
    .take 2 ⟨(some 14), none, .faddr 1 (.s 13)⟩ <|
    .take 3 ⟨(some 15), none, .load 1 false (.s 14)⟩ <|
    .take 4 ⟨(some 16), none, .mov (.s 1)⟩ <|
    .take 5 ⟨(some 17), none, .mov (.s 0)⟩ <|
    .take 6 ⟨(some 18), none, .nilck (.s 17)⟩ <|
    .take 7 ⟨(some 19), none, .faddr 2 (.s 18)⟩ <|
    .take 8 ⟨(some 20), none, .load 1 false (.s 19)⟩ <|
    .take 9 ⟨(some 21), none, .mov (.s 1)⟩ <|
    .take 10 ⟨(some 22), none, .mov (.s 0)⟩ <|
    .take 11 ⟨(some 23), none, .nilck (.s 22)⟩ <|
    .take 12 ⟨(some 24), none, .faddr 6 (.s 23)⟩ <|
    .take 13 ⟨(some 25), none, .load 1 false (.s 24)⟩ <|
    .take 14 ⟨(some 26), none, .mov (.s 0)⟩ <|
    .take 15 ⟨(some 27), none, .nilck (.s 26)⟩ <|
    .take 16 ⟨(some 28), none, .faddr 6 (.s 27)⟩ <|
    .take 17 ⟨(some 29), none, .load 1 false (.s 28)⟩ <|
    .take 18 ⟨(some 30), none, .iaddr 1 (.s 15) (.s 16)⟩ <|
    .alt 19 ⟨none, none, .store 1 (.s 30) (.s 25)⟩ (
    .take 20 ⟨(some 31), none, .iaddr 1 (.s 20) (.s 21)⟩ <|
    .alt 21 ⟨none, none, .store 1 (.s 31) (.s 29)⟩ (
    .done) .done) .done) [0, 1, 4]
def a29r3 : AC := .reg [⟨(some 32), none, .mov (.s 0)⟩,
    ⟨(some 33), none, .mov (.s 0)⟩,
    ⟨(some 34), none, .nilck (.s 33)⟩,
    ⟨(some 35), none, .faddr 3 (.s 34)⟩,
    ⟨(some 36), none, .load 1 false (.s 35)⟩,
    ⟨(some 37), none, .mov (.s 1)⟩,
    ⟨(some 38), none, .bslice 29038 3 1 [(.s 37)]⟩,
    ⟨(some 39), none, .append 29039 3 1 8 (.s 36) (.s 38)⟩,
    ⟨(some 40), none, .nilck (.s 32)⟩,
    ⟨(some 41), none, .faddr 3 (.s 40)⟩,
    ⟨none, none, .store 1 (.s 41) (.s 39)⟩] [1, 4]
def a29r4 : AC := .reg [⟨(some 42), none, .mov (.s 1)⟩,
    ⟨(some 43), none, .build [(.lit (.int .i64 0)), (.lit (.int .i64 0))] [(0, 1, (.s 42))]⟩,
    ⟨none, none, .store 2 (.s 4) (.s 43)⟩] [4]
def a29 : AC := .seq (a29r0) (.seq (a29r1) (.seq (a29r2) (.seq (a29r3) (.seq (a29r4) (.ret)))))
def a29R : List RD := [.cell 4 2 true]

/-! (*colloquy/graph.search).end: slots 66, parameters 2 -/
def a30r0 : AC := .draw [] (.take 0 ⟨(some 7), none, .mov (.s 0)⟩ <|
    .take 1 ⟨(some 8), none, .nilck (.s 7)⟩ <|
    .take 2 ⟨(some 9), none, .faddr 2 (.s 8)⟩ <|
    .take 3 ⟨(some 10), none, .load 1 false (.s 9)⟩ <|
    .take 4 ⟨(some 11), none, .mov (.s 1)⟩ <|
    .take 5 ⟨(some 12), none, .iaddr 1 (.s 10) (.s 11)⟩ <|
    .take 6 ⟨(some 13), none, .load 1 false (.s 12)⟩ <|
    .take 7 ⟨(some 14), none, .mov (.s 0)⟩ <|
    .take 8 ⟨(some 15), none, .nilck (.s 14)⟩ <|
    .take 9 ⟨(some 16), none, .faddr 1 (.s 15)⟩ <|
    .take 10 ⟨(some 17), none, .load 1 false (.s 16)⟩ <|
    .take 11 ⟨(some 18), none, .mov (.s 1)⟩ <|
    .take 12 ⟨(some 19), none, .iaddr 1 (.s 17) (.s 18)⟩ <|
    .take 13 ⟨(some 20), none, .load 1 false (.s 19)⟩ <|
    .take 14 ⟨(some 21), none, .iop .lss (.s 13) (.s 20)⟩ <|
    .done) [0, 1, 21]
def a30r1 : AC := .reg [⟨(some 22), none, .mov (.s 0)⟩,
    ⟨(some 23), none, .nilck (.s 22)⟩,
    ⟨(some 24), none, .faddr 5 (.s 23)⟩,
    ⟨(some 25), none, .load 1 false (.s 24)⟩,
    ⟨(some 26), none, .iop .add (.s 25) (.c (.lit (.int .i64 1)))⟩,
    ⟨(some 27), none, .nilck (.s 22)⟩,
    ⟨(some 28), none, .faddr 5 (.s 27)⟩,
    ⟨none, none, .store 1 (.s 28) (.s 26)⟩] [0, 1]
def a30r2 : AC := .reg [⟨(some 29), none, .mov (.s 0)⟩,
    ⟨(some 30), none, .nilck (.s 29)⟩,
    ⟨(some 31), none, .faddr 3 (.s 30)⟩,
    ⟨(some 32), none, .load 1 false (.s 31)⟩,
    ⟨(some 33), none, .mov (.s 1)⟩,
    ⟨(some 34), none, .callv (.c (.fn 28 [])) [(.s 32), (.s 33)]⟩,
    ⟨(some 4), none, .mov (.s 34)⟩] [0, 4]
def a30r3 : AC := .reg [⟨(some 35), none, .mov (.s 0)⟩,
    ⟨(some 36), none, .nilck (.s 35)⟩,
    ⟨(some 37), none, .faddr 3 (.s 36)⟩,
    ⟨(some 38), none, .load 1 false (.s 37)⟩,
    ⟨(some 39), none, .mov (.s 4)⟩,
    ⟨(some 40), none, .slice 1 (.s 38) (some (.s 39)) none⟩,
    ⟨(some 41), none, .len (.s 40)⟩,
    ⟨(some 42), none, .mov (.c (.lit (.int .i64 0)))⟩] [0, 4, 40, 41, 42]
def a30r4 : AC := .reg [⟨(some 43), none, .iop .lss (.s 42) (.s 41)⟩] [0, 4, 40, 41, 42, 43]
def a30r5 : AC := .reg [⟨(some 44), none, .iaddr 1 (.s 40) (.s 42)⟩,
    ⟨(some 45), none, .load 1 false (.s 44)⟩,
    ⟨(some 6), none, .mov (.s 45)⟩] [0, 4, 6, 40, 41, 42]
def a30r6 : AC := .draw [5] (.take 0 ⟨(some 46), none, .mov (.s 0)⟩ <|
    .take 1 ⟨(some 47), none, .nilck (.s 46)⟩ <|
    .take 2 ⟨(some 48), none, .faddr 4 (.s 47)⟩ <|
    .take 3 ⟨(some 49), none, .load 1 false (.s 48)⟩ <|
    .take 4 ⟨(some 50), none, .mov (.s 6)⟩ <|
    .take 5 ⟨(some 51), none, .mov (.s 0)⟩ <|
    .take 6 ⟨(some 52), none, .nilck (.s 51)⟩ <|
    .take 7 ⟨(some 53), none, .faddr 5 (.s 52)⟩ <|
    .take 8 ⟨(some 54), none, .load 1 false (.s 53)⟩ <|
    .take 9 ⟨(some 55), none, .iaddr 1 (.s 49) (.s 50)⟩ <|
    .alt 10 ⟨none, none, .store 1 (.s 55) (.s 54)⟩ (
    .done) .done) [0, 4, 40, 41, 42]
def a30r7 : AC := .reg [⟨(some 56), none, .iop .add (.s 42) (.c (.lit (.int .i64 1)))⟩,
    ⟨(some 42), none, .mov (.s 56)⟩] [0, 4, 40, 41, 42]
def a30L4 : AC := .seq (a30r4) (.seq (.cond (.s 43) (.skip) (.exit 0)) (.seq (.block 1 (.seq (a30r5) (a30r6))) (a30r7)))
def a30r8 : AC := .reg [⟨(some 57), none, .mov (.s 0)⟩,
    ⟨(some 58), none, .mov (.s 0)⟩,
    ⟨(some 59), none, .nilck (.s 58)⟩,
    ⟨(some 60), none, .faddr 3 (.s 59)⟩,
    ⟨(some 61), none, .load 1 false (.s 60)⟩,
    ⟨(some 62), none, .mov (.s 4)⟩,
    ⟨(some 63), none, .slice 1 (.s 61) none (some (.s 62))⟩,
    ⟨(some 64), none, .nilck (.s 57)⟩,
    ⟨(some 65), none, .faddr 3 (.s 64)⟩,
    ⟨none, none, .store 1 (.s 65) (.s 63)⟩] []
def a30 : AC := .seq (.seq (a30r0) (.cond (.s 21) (.ret) (.skip))) (.seq (a30r1) (.seq (a30r2) (.seq (.seq (a30r3) (.block 0 (.loop a30L4))) (a30r8))))
def a30R : List RD := []

/-! (*colloquy/graph.search).from: slots 157, parameters 2 -/
def a27r0 : AC := .reg [⟨(some 9), none, .mov (.s 0)⟩,
    ⟨(some 10), none, .mov (.s 1)⟩,
    ⟨(some 11), none, .callv (.c (.fn 29 [])) [(.s 9), (.s 10)]⟩,
    ⟨(some 12), none, .bslice 27012 52 2 [(.s 11)]⟩,
    ⟨(some 4), none, .mov (.s 12)⟩] [0, 4]
def a27r1 : AC := .reg [⟨(some 13), none, .mov (.s 4)⟩,
    ⟨(some 14), none, .len (.s 13)⟩,
    ⟨(some 15), none, .iop .gtr (.s 14) (.c (.lit (.int .i64 0)))⟩] [0, 4, 15]
def a27r2 : AC := .reg [⟨(some 16), none, .mov (.s 4)⟩,
    ⟨(some 17), none, .mov (.s 4)⟩,
    ⟨(some 18), none, .len (.s 17)⟩,
    ⟨(some 19), none, .iop .sub (.s 18) (.c (.lit (.int .i64 1)))⟩,
    ⟨(some 20), none, .iaddr 2 (.s 16) (.s 19)⟩,
    ⟨(some 5), none, .mov (.s 20)⟩] [0, 4, 5]
def a27r3 : AC := .draw [] (.take 0 ⟨(some 21), none, .mov (.s 5)⟩ <|
    .take 1 ⟨(some 22), none, .nilck (.s 21)⟩ <|
    .take 2 ⟨(some 23), none, .faddr 1 (.s 22)⟩ <|
    .take 3 ⟨(some 24), none, .load 1 false (.s 23)⟩ <|
    .take 4 ⟨(some 25), none, .mov (.s 0)⟩ <|
    .take 5 ⟨(some 26), none, .nilck (.s 25)⟩ <|
    .take 6 ⟨(some 27), none, .faddr 0 (.s 26)⟩ <|
    .take 7 ⟨(some 28), none, .load 1 false (.s 27)⟩ <|
    .take 8 ⟨(some 29), none, .mov (.s 5)⟩ <|
    .take 9 ⟨(some 30), none, .nilck (.s 29)⟩ <|
    .take 10 ⟨(some 31), none, .faddr 0 (.s 30)⟩ <|
    .take 11 ⟨(some 32), none, .load 1 false (.s 31)⟩ <|
    .take 12 ⟨(some 33), none, .iaddr 1 (.s 28) (.s 32)⟩ <|
    .take 13 ⟨(some 34), none, .load 1 false (.s 33)⟩ <|
    .take 14 ⟨(some 35), none, .len (.s 34)⟩ <|
    .take 15 ⟨(some 36), none, .iop .lss (.s 24) (.s 35)⟩ <|
    .done) [0, 4, 5, 36]
def a27r4 : AC := .draw [] (.take 0 ⟨(some 37), none, .mov (.s 0)⟩ <|
    .take 1 ⟨(some 38), none, .nilck (.s 37)⟩ <|
    .take 2 ⟨(some 39), none, .faddr 0 (.s 38)⟩ <|
    .take 3 ⟨(some 40), none, .load 1 false (.s 39)⟩ <|
    .take 4 ⟨(some 41), none, .mov (.s 5)⟩ <|
    .take 5 ⟨(some 42), none, .nilck (.s 41)⟩ <|
    .take 6 ⟨(some 43), none, .faddr 0 (.s 42)⟩ <|
    .take 7 ⟨(some 44), none, .load 1 false (.s 43)⟩ <|
    .take 8 ⟨(some 45), none, .iaddr 1 (.s 40) (.s 44)⟩ <|
    .take 9 ⟨(some 46), none, .load 1 false (.s 45)⟩ <|
    .take 10 ⟨(some 47), none, .mov (.s 5)⟩ <|
    .take 11 ⟨(some 48), none, .nilck (.s 47)⟩ <|
    .take 12 ⟨(some 49), none, .faddr 1 (.s 48)⟩ <|
    .take 13 ⟨(some 50), none, .load 1 false (.s 49)⟩ <|
    .take 14 ⟨(some 51), none, .iaddr 1 (.s 46) (.s 50)⟩ <|
    .take 15 ⟨(some 52), none, .load 1 false (.s 51)⟩ <|
    .take 16 ⟨(some 6), none, .mov (.s 52)⟩ <|
    .done) [0, 4, 5, 6]
def a27r5 : AC := .reg [⟨(some 53), none, .mov (.s 5)⟩,
    ⟨(some 54), none, .nilck (.s 53)⟩,
    ⟨(some 55), none, .faddr 1 (.s 54)⟩,
    ⟨(some 56), none, .load 1 false (.s 55)⟩,
    ⟨(some 57), none, .iop .add (.s 56) (.c (.lit (.int .i64 1)))⟩,
    ⟨(some 58), none, .nilck (.s 53)⟩,
    ⟨(some 59), none, .faddr 1 (.s 58)⟩,
    ⟨none, none, .store 1 (.s 59) (.s 57)⟩] [0, 4, 5, 6]
def a27r6 : AC := .reg [⟨(some 61), none, .mov (.s 0)⟩,
    ⟨(some 62), none, .nilck (.s 61)⟩,
    ⟨(some 63), none, .faddr 1 (.s 62)⟩,
    ⟨(some 64), none, .load 1 false (.s 63)⟩,
    ⟨(some 65), none, .mov (.s 6)⟩,
    ⟨(some 66), none, .iaddr 1 (.s 64) (.s 65)⟩,
    ⟨(some 67), none, .load 1 false (.s 66)⟩,
    ⟨(some 68), none, .iop .eql (.s 67) (.c (.lit (.int .i64 0)))⟩,
    ⟨(some 60), none, .mov (.s 68)⟩] [0, 4, 5, 6, 60]
def a27r7 : AC := .reg [⟨(some 69), none, .mov (.s 4)⟩,
    ⟨(some 70), none, .mov (.s 0)⟩,
    ⟨(some 71), none, .mov (.s 6)⟩,
    ⟨(some 72), none, .callv (.c (.fn 29 [])) [(.s 70), (.s 71)]⟩,
    ⟨(some 73), none, .bslice 27073 52 2 [(.s 72)]⟩,
    ⟨(some 74), none, .append 27074 52 2 16 (.s 69) (.s 73)⟩,
    ⟨(some 4), none, .mov (.s 74)⟩] [0, 4]
def a27r8 : AC := .reg [⟨(some 76), none, .mov (.s 0)⟩,
    ⟨(some 77), none, .nilck (.s 76)⟩,
    ⟨(some 78), none, .faddr 4 (.s 77)⟩,
    ⟨(some 79), none, .load 1 false (.s 78)⟩,
    ⟨(some 80), none, .mov (.s 6)⟩,
    ⟨(some 81), none, .iaddr 1 (.s 79) (.s 80)⟩,
    ⟨(some 82), none, .load 1 false (.s 81)⟩,
    ⟨(some 83), none, .iop .eql (.s 82) (.c (.lit (.int .i64 0)))⟩,
    ⟨(some 75), none, .mov (.s 83)⟩] [0, 4, 5, 6, 75]
def a27r9 : AC := .draw [3] (.take 0 ⟨(some 84), none, .mov (.s 0)⟩ <|
    .take 1 ⟨(some 85), none, .nilck (.s 84)⟩ <|
    .take 2 ⟨(some 86), none, .faddr 2 (.s 85)⟩ <|
    .take 3 ⟨(some 87), none, .load 1 false (.s 86)⟩ <|
    .take 4 ⟨(some 88), none, .mov (.s 5)⟩ <|
    .take 5 ⟨(some 89), none, .nilck (.s 88)⟩ <|
    .take 6 ⟨(some 90), none, .faddr 0 (.s 89)⟩ <|
    .take 7 ⟨(some 91), none, .load 1 false (.s 90)⟩ <|
    .take 8 ⟨(some 92), none, .mov (.s 0)⟩ <|
    .take 9 ⟨(some 93), none, .nilck (.s 92)⟩ <|
    .take 10 ⟨(some 94), none, .faddr 2 (.s 93)⟩ <|
    .take 11 ⟨(some 95), none, .load 1 false (.s 94)⟩ <|
    .take 12 ⟨(some 96), none, .mov (.s 5)⟩ <|
    .take 13 ⟨(some 97), none, .nilck (.s 96)⟩ <|
    .take 14 ⟨(some 98), none, .faddr 0 (.s 97)⟩ <|
    .take 15 ⟨(some 99), none, .load 1 false (.s 98)⟩ <|
    .take 16 ⟨(some 100), none, .iaddr 1 (.s 95) (.s 99)⟩ <|
    .take 18 ⟨(some 102), none, .mov (.s 0)⟩ <|
    .take 19 ⟨(some 103), none, .nilck (.s 102)⟩ <|
    .take 20 ⟨(some 104), none, .faddr 1 (.s 103)⟩ <|
    .take 21 ⟨(some 105), none, .load 1 false (.s 104)⟩ <|
    .take 22 ⟨(some 106), none, .mov (.s 6)⟩ <|
    .take 23 ⟨(some 107), none, .iaddr 1 (.s 105) (.s 106)⟩ <|
    .take 24 ⟨(some 108), none, .load 1 false (.s 107)⟩ <|
    .alt 17 ⟨(some 101), none, .load 1 false (.s 100)⟩ (
    .take 25 ⟨(some 109), none, .minmax false (.s 101) (.s 108)⟩ <|
    .take 26 ⟨(some 110), none, .iaddr 1 (.s 87) (.s 91)⟩ <|
    .alt 27 ⟨none, none, .store 1 (.s 110) (.s 109)⟩ (
    .done) .done) .done) [0, 4, 5]
def a27L3 : AC := .seq (.seq (a27r3) (.cond (.s 36) (.skip) (.exit 2))) (.block 3 (.seq (a27r4) (.seq (a27r5) (.block 4 (.seq (a27r6) (.cond (.s 60) (.seq (a27r7) (.exit 1)) (.seq (a27r8) (.cond (.s 75) (a27r9) (.skip)))))))))
def a27r10 : AC := .reg [⟨(some 111), none, .mov (.s 0)⟩,
    ⟨(some 112), none, .mov (.s 5)⟩,
    ⟨(some 113), none, .nilck (.s 112)⟩,
    ⟨(some 114), none, .faddr 0 (.s 113)⟩,
    ⟨(some 115), none, .load 1 false (.s 114)⟩,
    ⟨(some 116), none, .callv (.c (.fn 30 [])) [(.s 111), (.s 115)]⟩] [0, 4, 5]
def a27r11 : AC := .reg [⟨(some 117), none, .mov (.s 5)⟩,
    ⟨(some 118), none, .nilck (.s 117)⟩,
    ⟨(some 119), none, .faddr 0 (.s 118)⟩,
    ⟨(some 120), none, .load 1 false (.s 119)⟩,
    ⟨(some 7), none, .mov (.s 120)⟩] [0, 4, 7]
def a27r12 : AC := .reg [⟨(some 121), none, .mov (.s 4)⟩,
    ⟨(some 122), none, .mov (.s 4)⟩,
    ⟨(some 123), none, .len (.s 122)⟩,
    ⟨(some 124), none, .iop .sub (.s 123) (.c (.lit (.int .i64 1)))⟩,
    ⟨(some 125), none, .slice 2 (.s 121) none (some (.s 124))⟩,
    ⟨(some 4), none, .mov (.s 125)⟩] [0, 4, 7]
def a27r13 : AC := .reg [⟨(some 126), none, .mov (.s 4)⟩,
    ⟨(some 127), none, .len (.s 126)⟩,
    ⟨(some 128), none, .iop .gtr (.s 127) (.c (.lit (.int .i64 0)))⟩] [0, 4, 7, 128]
def a27r14 : AC := .reg [⟨(some 129), none, .mov (.s 4)⟩,
    ⟨(some 130), none, .mov (.s 4)⟩,
    ⟨(some 131), none, .len (.s 130)⟩,
    ⟨(some 132), none, .iop .sub (.s 131) (.c (.lit (.int .i64 1)))⟩,
    ⟨(some 133), none, .iaddr 2 (.s 129) (.s 132)⟩,
    ⟨(some 134), none, .faddr 0 (.s 133)⟩,
    ⟨(some 135), none, .load 1 false (.s 134)⟩,
    ⟨(some 8), none, .mov (.s 135)⟩] [0, 4, 7, 8]
def a27r15 : AC := .draw [3] (.take 0 ⟨(some 136), none, .mov (.s 0)⟩ <|
    .take 1 ⟨(some 137), none, .nilck (.s 136)⟩ <|
    .take 2 ⟨(some 138), none, .faddr 2 (.s 137)⟩ <|
    .take 3 ⟨(some 139), none, .load 1 false (.s 138)⟩ <|
    .take 4 ⟨(some 140), none, .mov (.s 8)⟩ <|
    .take 5 ⟨(some 141), none, .mov (.s 0)⟩ <|
    .take 6 ⟨(some 142), none, .nilck (.s 141)⟩ <|
    .take 7 ⟨(some 143), none, .faddr 2 (.s 142)⟩ <|
    .take 8 ⟨(some 144), none, .load 1 false (.s 143)⟩ <|
    .take 9 ⟨(some 145), none, .mov (.s 8)⟩ <|
    .take 10 ⟨(some 146), none, .iaddr 1 (.s 144) (.s 145)⟩ <|
    .take 12 ⟨(some 148), none, .mov (.s 0)⟩ <|
    .take 13 ⟨(some 149), none, .nilck (.s 148)⟩ <|
    .take 14 ⟨(some 150), none, .faddr 2 (.s 149)⟩ <|
    .take 15 ⟨(some 151), none, .load 1 false (.s 150)⟩ <|
    .take 16 ⟨(some 152), none, .mov (.s 7)⟩ <|
    .take 17 ⟨(some 153), none, .iaddr 1 (.s 151) (.s 152)⟩ <|
    .alt 11 ⟨(some 147), none, .load 1 false (.s 146)⟩ (.alt 18 ⟨(some 154), none, .load 1 false (.s 153)⟩ (
    .take 19 ⟨(some 155), none, .minmax false (.s 147) (.s 154)⟩ <|
    .take 20 ⟨(some 156), none, .iaddr 1 (.s 139) (.s 140)⟩ <|
    .alt 21 ⟨none, none, .store 1 (.s 156) (.s 155)⟩ (
    .done) .done) .done) (.alt 18 ⟨(some 154), none, .load 1 false (.s 153)⟩ (.alt 11 ⟨(some 147), none, .load 1 false (.s 146)⟩ (
    .take 19 ⟨(some 155), none, .minmax false (.s 147) (.s 154)⟩ <|
    .take 20 ⟨(some 156), none, .iaddr 1 (.s 139) (.s 140)⟩ <|
    .alt 21 ⟨none, none, .store 1 (.s 156) (.s 155)⟩ (
    .done) .done) .done) (.done))) [0, 4]
def a27L1 : AC := .seq (.seq (a27r1) (.cond (.s 15) (.skip) (.exit 0))) (.block 1 (.seq (a27r2) (.seq (.block 2 (.loop a27L3)) (.seq (a27r10) (.seq (a27r11) (.seq (a27r12) (.seq (a27r13) (.cond (.s 128) (.seq (a27r14) (a27r15)) (.skip)))))))))
def a27 : AC := .scope (.seq (a27r0) (.seq (.label) (.block 0 (.loop a27L1))))
def a27R : List RD := []

/-! colloquy/graph.components: slots 70, parameters 1 -/
def a21r0 : AC := .reg [⟨(some 2), none, .mov (.c (.nils 1))⟩,
    ⟨(some 3), none, .mov (.c (.nils 1))⟩] [0]
def a21r1 : AC := .reg [⟨(some 10), none, .mov (.s 0)⟩,
    ⟨(some 11), none, .len (.s 10)⟩,
    ⟨(some 4), none, .mov (.s 11)⟩] [0, 4]
def a21r2 : AC := .draw [1, 2, 3, 5] (.take 0 ⟨(some 12), none, .mov (.s 0)⟩ <|
    .take 1 ⟨(some 13), none, .mov (.s 4)⟩ <|
    .take 3 ⟨(some 15), none, .mov (.s 4)⟩ <|
    .take 5 ⟨(some 17), none, .mov (.s 4)⟩ <|
    .alt 2 ⟨(some 14), none, .mkslice 2 3 1 8 [(.lit (.int .i64 0))] (.s 13)⟩ (.alt 4 ⟨(some 16), none, .mkslice 3 3 1 8 [(.lit (.int .i64 0))] (.s 15)⟩ (.alt 6 ⟨(some 18), none, .mkslice 5 3 1 8 [(.lit (.int .i64 0))] (.s 17)⟩ (
    .take 7 ⟨(some 19), none, .build [(.nils 1), (.nils 1), (.nils 1), (.nils 1), (.nils 1), (.lit (.int .i64 0)), (.lit (.int .i64 0))] [(0, 1, (.s 12)), (1, 1, (.s 14)), (2, 1, (.s 16)), (4, 1, (.s 18))]⟩ <|
    .alt 8 ⟨(some 20), none, .box 1 48 7 (.s 19)⟩ (
    .take 9 ⟨(some 5), none, .mov (.s 20)⟩ <|
    .done) .done) .done) (.alt 6 ⟨(some 18), none, .mkslice 5 3 1 8 [(.lit (.int .i64 0))] (.s 17)⟩ (.alt 4 ⟨(some 16), none, .mkslice 3 3 1 8 [(.lit (.int .i64 0))] (.s 15)⟩ (
    .take 7 ⟨(some 19), none, .build [(.nils 1), (.nils 1), (.nils 1), (.nils 1), (.nils 1), (.lit (.int .i64 0)), (.lit (.int .i64 0))] [(0, 1, (.s 12)), (1, 1, (.s 14)), (2, 1, (.s 16)), (4, 1, (.s 18))]⟩ <|
    .alt 8 ⟨(some 20), none, .box 1 48 7 (.s 19)⟩ (
    .take 9 ⟨(some 5), none, .mov (.s 20)⟩ <|
    .done) .done) .done) (.done))) (.alt 4 ⟨(some 16), none, .mkslice 3 3 1 8 [(.lit (.int .i64 0))] (.s 15)⟩ (.alt 2 ⟨(some 14), none, .mkslice 2 3 1 8 [(.lit (.int .i64 0))] (.s 13)⟩ (.alt 6 ⟨(some 18), none, .mkslice 5 3 1 8 [(.lit (.int .i64 0))] (.s 17)⟩ (
    .take 7 ⟨(some 19), none, .build [(.nils 1), (.nils 1), (.nils 1), (.nils 1), (.nils 1), (.lit (.int .i64 0)), (.lit (.int .i64 0))] [(0, 1, (.s 12)), (1, 1, (.s 14)), (2, 1, (.s 16)), (4, 1, (.s 18))]⟩ <|
    .alt 8 ⟨(some 20), none, .box 1 48 7 (.s 19)⟩ (
    .take 9 ⟨(some 5), none, .mov (.s 20)⟩ <|
    .done) .done) .done) (.alt 6 ⟨(some 18), none, .mkslice 5 3 1 8 [(.lit (.int .i64 0))] (.s 17)⟩ (.alt 2 ⟨(some 14), none, .mkslice 2 3 1 8 [(.lit (.int .i64 0))] (.s 13)⟩ (
    .take 7 ⟨(some 19), none, .build [(.nils 1), (.nils 1), (.nils 1), (.nils 1), (.nils 1), (.lit (.int .i64 0)), (.lit (.int .i64 0))] [(0, 1, (.s 12)), (1, 1, (.s 14)), (2, 1, (.s 16)), (4, 1, (.s 18))]⟩ <|
    .alt 8 ⟨(some 20), none, .box 1 48 7 (.s 19)⟩ (
    .take 9 ⟨(some 5), none, .mov (.s 20)⟩ <|
    .done) .done) .done) (.done))) (.alt 6 ⟨(some 18), none, .mkslice 5 3 1 8 [(.lit (.int .i64 0))] (.s 17)⟩ (.alt 2 ⟨(some 14), none, .mkslice 2 3 1 8 [(.lit (.int .i64 0))] (.s 13)⟩ (.alt 4 ⟨(some 16), none, .mkslice 3 3 1 8 [(.lit (.int .i64 0))] (.s 15)⟩ (
    .take 7 ⟨(some 19), none, .build [(.nils 1), (.nils 1), (.nils 1), (.nils 1), (.nils 1), (.lit (.int .i64 0)), (.lit (.int .i64 0))] [(0, 1, (.s 12)), (1, 1, (.s 14)), (2, 1, (.s 16)), (4, 1, (.s 18))]⟩ <|
    .alt 8 ⟨(some 20), none, .box 1 48 7 (.s 19)⟩ (
    .take 9 ⟨(some 5), none, .mov (.s 20)⟩ <|
    .done) .done) .done) (.alt 4 ⟨(some 16), none, .mkslice 3 3 1 8 [(.lit (.int .i64 0))] (.s 15)⟩ (.alt 2 ⟨(some 14), none, .mkslice 2 3 1 8 [(.lit (.int .i64 0))] (.s 13)⟩ (
    .take 7 ⟨(some 19), none, .build [(.nils 1), (.nils 1), (.nils 1), (.nils 1), (.nils 1), (.lit (.int .i64 0)), (.lit (.int .i64 0))] [(0, 1, (.s 12)), (1, 1, (.s 14)), (2, 1, (.s 16)), (4, 1, (.s 18))]⟩ <|
    .alt 8 ⟨(some 20), none, .box 1 48 7 (.s 19)⟩ (
    .take 9 ⟨(some 5), none, .mov (.s 20)⟩ <|
    .done) .done) .done) (.done))) (.done)))) [4, 5]
def a21r3 : AC := .reg [⟨(some 21), none, .mov (.s 4)⟩,
    ⟨(some 22), none, .mov (.c (.lit (.int .i64 0)))⟩] [5, 21, 22]
def a21r4 : AC := .reg [⟨(some 23), none, .iop .lss (.s 22) (.s 21)⟩] [5, 21, 22, 23]
def a21r5 : AC := .reg [⟨(some 24), none, .mov (.s 22)⟩,
    ⟨(some 6), none, .mov (.s 24)⟩] [5, 6, 21, 22]
def a21r6 : AC := .reg [⟨(some 25), none, .mov (.s 5)⟩,
    ⟨(some 26), none, .nilck (.s 25)⟩,
    ⟨(some 27), none, .faddr 1 (.s 26)⟩,
    ⟨(some 28), none, .load 1 false (.s 27)⟩,
    ⟨(some 29), none, .mov (.s 6)⟩,
    ⟨(some 30), none, .iaddr 1 (.s 28) (.s 29)⟩,
    ⟨(some 31), none, .load 1 false (.s 30)⟩,
    ⟨(some 32), none, .iop .eql (.s 31) (.c (.lit (.int .i64 0)))⟩] [5, 6, 21, 22, 32]
def a21r7 : AC := .reg [⟨(some 33), none, .mov (.s 5)⟩,
    ⟨(some 34), none, .mov (.s 6)⟩,
    ⟨(some 35), none, .callv (.c (.fn 27 [])) [(.s 33), (.s 34)]⟩] [5, 21, 22]
def a21r8 : AC := .reg [⟨(some 36), none, .iop .add (.s 22) (.c (.lit (.int .i64 1)))⟩,
    ⟨(some 22), none, .mov (.s 36)⟩] [5, 21, 22]
def a21L4 : AC := .seq (a21r4) (.seq (.cond (.s 23) (.skip) (.exit 0)) (.seq (.block 1 (.seq (a21r5) (.seq (a21r6) (.cond (.s 32) (a21r7) (.skip))))) (a21r8)))
def a21r9 : AC := .reg [⟨(some 37), none, .mov (.s 5)⟩,
    ⟨(some 38), none, .nilck (.s 37)⟩,
    ⟨(some 39), none, .faddr 5 (.s 38)⟩,
    ⟨(some 40), none, .load 1 false (.s 39)⟩,
    ⟨(some 41), none, .mkrow 21041 29 1 24 [(.nils 1)] (.s 40)⟩,
    ⟨(some 7), none, .mov (.s 41)⟩] [5, 7]
def a21r10 : AC := .reg [⟨(some 42), none, .mov (.s 5)⟩,
    ⟨(some 43), none, .nilck (.s 42)⟩,
    ⟨(some 44), none, .faddr 4 (.s 43)⟩,
    ⟨(some 45), none, .load 1 false (.s 44)⟩,
    ⟨(some 46), none, .len (.s 45)⟩,
    ⟨(some 47), none, .mov (.c (.lit (.int .i64 0)))⟩] [5, 7, 45, 46, 47]
def a21r11 : AC := .reg [⟨(some 48), none, .iop .lss (.s 47) (.s 46)⟩] [5, 7, 45, 46, 47, 48]
def a21r12 : AC := .reg [⟨(some 49), none, .mov (.s 47)⟩,
    ⟨(some 50), none, .iaddr 1 (.s 45) (.s 47)⟩,
    ⟨(some 51), none, .load 1 false (.s 50)⟩,
    ⟨(some 8), none, .mov (.s 49)⟩,
    ⟨(some 9), none, .mov (.s 51)⟩] [5, 7, 8, 9, 45, 46, 47]
def a21r13 : AC := .reg [⟨(some 52), none, .mov (.s 7)⟩,
    ⟨(some 53), none, .mov (.s 9)⟩,
    ⟨(some 54), none, .iop .sub (.s 53) (.c (.lit (.int .i64 1)))⟩,
    ⟨(some 55), none, .mov (.s 7)⟩,
    ⟨(some 56), none, .mov (.s 9)⟩,
    ⟨(some 57), none, .iop .sub (.s 56) (.c (.lit (.int .i64 1)))⟩,
    ⟨(some 58), none, .iaddr 1 (.s 55) (.s 57)⟩,
    ⟨(some 59), none, .load 1 false (.s 58)⟩,
    ⟨(some 60), none, .mov (.s 8)⟩,
    ⟨(some 61), none, .bslice 21061 3 1 [(.s 60)]⟩,
    ⟨(some 62), none, .append 21062 3 1 8 (.s 59) (.s 61)⟩,
    ⟨(some 63), none, .iaddr 1 (.s 52) (.s 54)⟩,
    ⟨none, none, .store 1 (.s 63) (.s 62)⟩] [5, 7, 45, 46, 47]
def a21r14 : AC := .reg [⟨(some 64), none, .iop .add (.s 47) (.c (.lit (.int .i64 1)))⟩,
    ⟨(some 47), none, .mov (.s 64)⟩] [5, 7, 45, 46, 47]
def a21L11 : AC := .seq (a21r11) (.seq (.cond (.s 48) (.skip) (.exit 2)) (.seq (.block 3 (.seq (a21r12) (a21r13))) (a21r14)))
def a21r15 : AC := .draw [] (.take 0 ⟨(some 65), none, .mov (.s 7)⟩ <|
    .take 1 ⟨(some 66), none, .mov (.s 5)⟩ <|
    .take 2 ⟨(some 67), none, .nilck (.s 66)⟩ <|
    .take 3 ⟨(some 68), none, .faddr 4 (.s 67)⟩ <|
    .take 4 ⟨(some 69), none, .load 1 false (.s 68)⟩ <|
    .take 5 ⟨(some 2), none, .mov (.s 65)⟩ <|
    .take 6 ⟨(some 3), none, .mov (.s 69)⟩ <|
    .done) [2, 3]
def a21 : AC := .seq (a21r0) (.seq (a21r1) (.seq (a21r2) (.seq (.seq (a21r3) (.block 0 (.loop a21L4))) (.seq (a21r9) (.seq (.seq (a21r10) (.block 2 (.loop a21L11))) (.seq (a21r15) (.ret)))))))
def a21R : List RD := [.tmp 2, .tmp 3]

/-! colloquy/graph.next: slots 49, parameters 2 -/
def a20r0 : AC := .reg [⟨(some 4), none, .mov (.c (.nils 1))⟩] [0, 1]
def a20r1 : AC := .reg [⟨(some 8), none, .mov (.s 0)⟩,
    ⟨(some 9), none, .minmax true (.s 8) (.c (.lit (.int .i64 0)))⟩,
    ⟨(some 10), none, .minmax false (.s 9) (.c (.lit (.int .i64 100)))⟩,
    ⟨(some 0), none, .mov (.s 10)⟩] [0, 1]
def a20r2 : AC := .reg [⟨(some 11), none, .mov (.s 0)⟩,
    ⟨(some 12), none, .mkrow 20012 29 1 24 [(.nils 1)] (.s 11)⟩,
    ⟨(some 5), none, .mov (.s 12)⟩] [0, 1, 5]
def a20r3 : AC := .reg [⟨(some 13), none, .mov (.s 1)⟩,
    ⟨(some 14), none, .len (.s 13)⟩,
    ⟨(some 15), none, .mov (.c (.lit (.int .i64 0)))⟩] [0, 5, 13, 14, 15]
def a20r4 : AC := .reg [⟨(some 16), none, .iop .lss (.s 15) (.s 14)⟩] [0, 5, 13, 14, 15, 16]
def a20r5 : AC := .reg [⟨(some 17), none, .iaddr 2 (.s 13) (.s 15)⟩,
    ⟨(some 18), none, .load 2 true (.s 17)⟩,
    ⟨(some 7), none, .alloc 20007 33 [(.lit (.int .i64 0)), (.lit (.int .i64 0))]⟩,
    ⟨none, none, .store 2 (.s 7) (.s 18)⟩] [0, 5, 7, 13, 14, 15]
def a20r6 : AC := .reg [⟨(some 19), none, .faddr 0 (.s 7)⟩,
    ⟨(some 20), none, .load 1 false (.s 19)⟩,
    ⟨(some 21), none, .faddr 1 (.s 7)⟩,
    ⟨(some 22), none, .load 1 false (.s 21)⟩,
    ⟨(some 23), none, .minmax false (.s 20) (.s 22)⟩,
    ⟨(some 24), none, .iop .geq (.s 23) (.c (.lit (.int .i64 0)))⟩,
    ⟨(some 25), none, .mov (.s 24)⟩,
    ⟨(some 26), (some (25, true)), .faddr 0 (.s 7)⟩,
    ⟨(some 27), (some (25, true)), .load 1 false (.s 26)⟩,
    ⟨(some 28), (some (25, true)), .faddr 1 (.s 7)⟩,
    ⟨(some 29), (some (25, true)), .load 1 false (.s 28)⟩,
    ⟨(some 30), (some (25, true)), .minmax true (.s 27) (.s 29)⟩,
    ⟨(some 31), (some (25, true)), .mov (.s 0)⟩,
    ⟨(some 32), (some (25, true)), .iop .lss (.s 30) (.s 31)⟩,
    ⟨(some 33), none, .pick (.s 25) (.s 32) (.c (.lit (.bool false)))⟩] [0, 5, 7, 13, 14, 15, 33]
def a20r7 : AC := .draw (20012 :: 20044 :: 20045 :: List.range' 30000 100) (.take 0 ⟨(some 34), none, .mov (.s 5)⟩ <|
    .take 1 ⟨(some 35), none, .faddr 0 (.s 7)⟩ <|
    .take 2 ⟨(some 36), none, .load 1 false (.s 35)⟩ <|
    .take 3 ⟨(some 37), none, .mov (.s 5)⟩ <|
    .take 4 ⟨(some 38), none, .faddr 0 (.s 7)⟩ <|
    .take 5 ⟨(some 39), none, .load 1 false (.s 38)⟩ <|
    .take 6 ⟨(some 40), none, .iaddr 1 (.s 37) (.s 39)⟩ <|
    .take 8 ⟨(some 42), none, .faddr 1 (.s 7)⟩ <|
    .take 9 ⟨(some 43), none, .load 1 false (.s 42)⟩ <|
    .alt 7 ⟨(some 41), none, .load 1 false (.s 40)⟩ (.alt 10 ⟨(some 44), none, .bslice 20044 3 1 [(.s 43)]⟩ (
    .alt 11 ⟨(some 45), none, .append 20045 3 1 8 (.s 41) (.s 44)⟩ (
    .take 12 ⟨(some 46), none, .iaddr 1 (.s 34) (.s 36)⟩ <|
    .alt 13 ⟨none, none, .store 1 (.s 46) (.s 45)⟩ (
    .done) .done) .done) .done) (.alt 10 ⟨(some 44), none, .bslice 20044 3 1 [(.s 43)]⟩ (.alt 7 ⟨(some 41), none, .load 1 false (.s 40)⟩ (
    .alt 11 ⟨(some 45), none, .append 20045 3 1 8 (.s 41) (.s 44)⟩ (
    .take 12 ⟨(some 46), none, .iaddr 1 (.s 34) (.s 36)⟩ <|
    .alt 13 ⟨none, none, .store 1 (.s 46) (.s 45)⟩ (
    .done) .done) .done) .done) (.done))) [0, 5, 13, 14, 15]
def a20r8 : AC := .reg [⟨(some 47), none, .iop .add (.s 15) (.c (.lit (.int .i64 1)))⟩,
    ⟨(some 15), none, .mov (.s 47)⟩] [0, 5, 13, 14, 15]
def a20L4 : AC := .seq (a20r4) (.seq (.cond (.s 16) (.skip) (.exit 0)) (.seq (.block 1 (.seq (a20r5) (.seq (a20r6) (.cond (.s 33) (a20r7) (.skip))))) (a20r8)))
def a20r9 : AC := .reg [⟨(some 48), none, .mov (.s 5)⟩,
    ⟨(some 4), none, .mov (.s 48)⟩] [4]
def a20 : AC := .seq (a20r0) (.seq (a20r1) (.seq (a20r2) (.seq (.seq (a20r3) (.block 0 (.loop a20L4))) (.seq (a20r9) (.ret)))))
def a20R : List RD := [.tmp 4]

end Go.Proofs.Ythccfgkklimebaa.F
