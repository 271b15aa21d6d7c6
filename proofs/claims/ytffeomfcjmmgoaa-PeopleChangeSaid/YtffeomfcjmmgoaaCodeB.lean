/- The code of two of chapter 15's laws, as data. Printed by Gen.lean. -/
import Derived.Test.YtffeomfcjmmgoaaSxK
set_option linter.unusedVariables false
namespace Go.Proofs.Ytffeomfcjmmgoaa.F
open Go Go.SX

/-! colloquy/colloquylaw15.PeopleChange: slots 116, parameters 3 -/
def a3r0 : AC := .reg [⟨(some 3), none, .box 3003 24 3 (.s 0)⟩,
    ⟨(some 6), none, .mov (.c (.lit (.bool false)))⟩] [1, 2, 3]
def a3r1 : AC := .reg [⟨(some 23), none, .callv (.c (.fn 8 [])) []⟩,
    ⟨(some 7), none, .mov (.s 23)⟩] [1, 2, 3, 7]
def a3r2 : AC := .reg [⟨(some 24), none, .mov (.s 7)⟩,
    ⟨(some 25), none, .not (.s 24)⟩,
    ⟨(some 26), none, .mov (.s 25)⟩,
    ⟨(some 27), (some (26, false)), .faddr 2 (.s 3)⟩,
    ⟨(some 28), (some (26, false)), .load 1 false (.s 27)⟩,
    ⟨(some 29), (some (26, false)), .len (.s 28)⟩,
    ⟨(some 30), (some (26, false)), .iop .gtr (.s 29) (.c (.lit (.int .i64 100)))⟩,
    ⟨(some 31), none, .pick (.s 26) (.c (.lit (.bool true))) (.s 30)⟩] [1, 2, 3, 7, 31]
def a3r3 : AC := .reg [⟨(some 32), none, .mov (.s 7)⟩,
    ⟨(some 6), none, .mov (.s 32)⟩] [6]
def a3r4 : AC := .reg [⟨(some 34), none, .load 3 true (.s 3)⟩,
    ⟨(some 35), none, .mov (.s 1)⟩,
    ⟨(some 36), none, .callv (.c (.fn 9 [])) [(.s 34), (.s 35)]⟩,
    ⟨(some 33), none, .mov (.s 36)⟩,
    ⟨(some 37), none, .extract 0 (.s 33)⟩,
    ⟨(some 38), none, .extract 1 (.s 33)⟩,
    ⟨(some 8), none, .alloc 3008 24 [(.lit (.int .i64 0)), (.lit (.int .i64 0)), (.nils 1)]⟩,
    ⟨none, none, .store 3 (.s 8) (.s 37)⟩,
    ⟨(some 9), none, .mov (.s 38)⟩] [1, 2, 3, 8, 9]
def a3r5 : AC := .reg [⟨(some 40), none, .load 3 true (.s 3)⟩,
    ⟨(some 41), none, .mov (.s 1)⟩,
    ⟨(some 42), none, .callv (.c (.fn 10 [])) [(.s 40), (.s 41)]⟩,
    ⟨(some 39), none, .mov (.s 42)⟩,
    ⟨(some 43), none, .extract 0 (.s 39)⟩,
    ⟨(some 44), none, .extract 1 (.s 39)⟩,
    ⟨(some 10), none, .alloc 3010 24 [(.lit (.int .i64 0)), (.lit (.int .i64 0)), (.nils 1)]⟩,
    ⟨none, none, .store 3 (.s 10) (.s 43)⟩,
    ⟨(some 11), none, .mov (.s 44)⟩] [1, 2, 3, 8, 9, 10, 11]
def a3r6 : AC := .reg [⟨(some 46), none, .load 3 true (.s 3)⟩,
    ⟨(some 47), none, .mov (.s 1)⟩,
    ⟨(some 48), none, .callv (.c (.fn 11 [])) [(.s 46), (.s 47)]⟩,
    ⟨(some 45), none, .mov (.s 48)⟩,
    ⟨(some 49), none, .extract 0 (.s 45)⟩,
    ⟨(some 50), none, .extract 1 (.s 45)⟩,
    ⟨(some 12), none, .alloc 3012 24 [(.lit (.int .i64 0)), (.lit (.int .i64 0)), (.nils 1)]⟩,
    ⟨none, none, .store 3 (.s 12) (.s 49)⟩,
    ⟨(some 13), none, .mov (.s 50)⟩] [1, 2, 3, 8, 9, 10, 11, 12, 13]
def a3r7 : AC := .reg [⟨(some 52), none, .load 3 true (.s 3)⟩,
    ⟨(some 53), none, .mov (.s 1)⟩,
    ⟨(some 54), none, .callv (.c (.fn 12 [])) [(.s 52), (.s 53)]⟩,
    ⟨(some 51), none, .mov (.s 54)⟩,
    ⟨(some 55), none, .extract 0 (.s 51)⟩,
    ⟨(some 56), none, .extract 1 (.s 51)⟩,
    ⟨(some 14), none, .alloc 3014 24 [(.lit (.int .i64 0)), (.lit (.int .i64 0)), (.nils 1)]⟩,
    ⟨none, none, .store 3 (.s 14) (.s 55)⟩,
    ⟨(some 15), none, .mov (.s 56)⟩] [1, 2, 3, 8, 9, 10, 11, 12, 13, 14, 15]
def a3r8 : AC := .reg [⟨(some 58), none, .mov (.s 2)⟩,
    ⟨(some 59), none, .mov (.s 1)⟩,
    ⟨(some 60), none, .callv (.c (.fn 13 [])) [(.s 58), (.s 59)]⟩,
    ⟨(some 57), none, .mov (.s 60)⟩,
    ⟨(some 61), none, .extract 0 (.s 57)⟩,
    ⟨(some 62), none, .extract 1 (.s 57)⟩,
    ⟨(some 16), none, .alloc 3016 24 [(.lit (.int .i64 0)), (.lit (.int .i64 0)), (.nils 1)]⟩,
    ⟨none, none, .store 3 (.s 16) (.s 61)⟩,
    ⟨(some 17), none, .mov (.s 62)⟩] [1, 2, 3, 8, 9, 10, 11, 12, 13, 14, 15, 16, 17]
def a3r9 : AC := .reg [⟨(some 64), none, .mov (.s 2)⟩,
    ⟨(some 65), none, .mov (.s 1)⟩,
    ⟨(some 66), none, .callv (.c (.fn 14 [])) [(.s 64), (.s 65)]⟩,
    ⟨(some 63), none, .mov (.s 66)⟩,
    ⟨(some 67), none, .extract 0 (.s 63)⟩,
    ⟨(some 68), none, .extract 1 (.s 63)⟩,
    ⟨(some 18), none, .alloc 3018 24 [(.lit (.int .i64 0)), (.lit (.int .i64 0)), (.nils 1)]⟩,
    ⟨none, none, .store 3 (.s 18) (.s 67)⟩,
    ⟨(some 19), none, .mov (.s 68)⟩] [1, 3, 8, 9, 10, 11, 12, 13, 14, 15, 16, 17, 18, 19]
def a3r10 : AC := .reg [⟨(some 69), none, .load 3 true (.s 8)⟩,
    ⟨(some 70), none, .load 3 true (.s 10)⟩,
    ⟨(some 71), none, .callv (.c (.fn 15 [])) [(.s 69), (.s 70)]⟩,
    ⟨(some 20), none, .mov (.s 71)⟩] [1, 3, 9, 11, 12, 13, 14, 15, 16, 17, 18, 19, 20]
def a3r11 : AC := .reg [⟨(some 72), none, .load 3 true (.s 12)⟩,
    ⟨(some 73), none, .load 3 true (.s 14)⟩,
    ⟨(some 74), none, .callv (.c (.fn 15 [])) [(.s 72), (.s 73)]⟩,
    ⟨(some 21), none, .mov (.s 74)⟩] [1, 3, 9, 11, 13, 15, 16, 17, 18, 19, 20, 21]
def a3r12 : AC := .reg [⟨(some 75), none, .load 3 true (.s 16)⟩,
    ⟨(some 76), none, .load 3 true (.s 18)⟩,
    ⟨(some 77), none, .callv (.c (.fn 15 [])) [(.s 75), (.s 76)]⟩,
    ⟨(some 22), none, .mov (.s 77)⟩] [1, 3, 9, 11, 13, 15, 17, 19, 20, 21, 22]
def a3r13 : AC := .draw [] (.take 0 ⟨(some 78), none, .mov (.s 20)⟩ <|
    .take 1 ⟨(some 79), none, .mov (.s 78)⟩ <|
    .take 2 ⟨(some 80), (some (79, true)), .mov (.s 21)⟩ <|
    .take 3 ⟨(some 81), none, .pick (.s 79) (.s 80) (.c (.lit (.bool false)))⟩ <|
    .take 4 ⟨(some 82), none, .mov (.s 81)⟩ <|
    .take 5 ⟨(some 83), (some (82, true)), .mov (.s 22)⟩ <|
    .take 6 ⟨(some 84), none, .pick (.s 82) (.s 83) (.c (.lit (.bool false)))⟩ <|
    .take 7 ⟨(some 85), none, .mov (.s 84)⟩ <|
    .take 8 ⟨(some 86), (some (85, true)), .mov (.s 9)⟩ <|
    .take 9 ⟨(some 87), (some (85, true)), .mov (.s 11)⟩ <|
    .take 10 ⟨(some 88), (some (85, true)), .iop .eql (.s 86) (.s 87)⟩ <|
    .take 11 ⟨(some 89), none, .pick (.s 85) (.s 88) (.c (.lit (.bool false)))⟩ <|
    .take 12 ⟨(some 90), none, .mov (.s 89)⟩ <|
    .take 13 ⟨(some 91), (some (90, true)), .mov (.s 13)⟩ <|
    .take 14 ⟨(some 92), (some (90, true)), .mov (.s 15)⟩ <|
    .take 15 ⟨(some 93), (some (90, true)), .iop .eql (.s 91) (.s 92)⟩ <|
    .take 16 ⟨(some 94), none, .pick (.s 90) (.s 93) (.c (.lit (.bool false)))⟩ <|
    .take 17 ⟨(some 95), none, .mov (.s 94)⟩ <|
    .take 18 ⟨(some 96), (some (95, true)), .mov (.s 17)⟩ <|
    .take 19 ⟨(some 97), (some (95, true)), .mov (.s 19)⟩ <|
    .take 20 ⟨(some 98), (some (95, true)), .iop .eql (.s 96) (.s 97)⟩ <|
    .take 21 ⟨(some 99), none, .pick (.s 95) (.s 98) (.c (.lit (.bool false)))⟩ <|
    .take 22 ⟨(some 100), none, .mov (.s 99)⟩ <|
    .take 23 ⟨(some 101), (some (100, true)), .load 3 true (.s 3)⟩ <|
    .take 25 ⟨(some 103), (some (100, true)), .load 3 true (.s 3)⟩ <|
    .alt 24 ⟨(some 102), (some (100, true)), .callv (.c (.fn 16 [])) [(.s 101)]⟩ (
    .alt 26 ⟨(some 104), (some (100, true)), .callv (.c (.fn 17 [])) [(.s 103)]⟩ (
    .take 27 ⟨(some 105), (some (100, true)), .beq false (.s 102) (.s 104)⟩ <|
    .take 28 ⟨(some 106), none, .pick (.s 100) (.s 105) (.c (.lit (.bool false)))⟩ <|
    .take 29 ⟨(some 107), none, .mov (.s 106)⟩ <|
    .take 30 ⟨(some 108), (some (107, true)), .load 3 true (.s 3)⟩ <|
    .take 31 ⟨(some 109), (some (107, true)), .mov (.s 1)⟩ <|
    .take 33 ⟨(some 111), (some (107, true)), .load 3 true (.s 3)⟩ <|
    .take 34 ⟨(some 112), (some (107, true)), .mov (.s 1)⟩ <|
    .alt 32 ⟨(some 110), (some (107, true)), .callv (.c (.fn 18 [])) [(.s 108), (.s 109)]⟩ (
    .alt 35 ⟨(some 113), (some (107, true)), .callv (.c (.fn 19 [])) [(.s 111), (.s 112)]⟩ (
    .take 36 ⟨(some 114), (some (107, true)), .beq false (.s 110) (.s 113)⟩ <|
    .take 37 ⟨(some 115), none, .pick (.s 107) (.s 114) (.c (.lit (.bool false)))⟩ <|
    .take 38 ⟨(some 6), none, .mov (.s 115)⟩ <|
    .done) .done) .done) .done) .done) [6]
def a3 : AC := .seq (a3r0) (.seq (a3r1) (.seq (.seq (a3r2) (.cond (.s 31) (.seq (a3r3) (.ret)) (.skip))) (.seq (a3r4) (.seq (a3r5) (.seq (a3r6) (.seq (a3r7) (.seq (a3r8) (.seq (a3r9) (.seq (a3r10) (.seq (a3r11) (.seq (a3r12) (.seq (a3r13) (.ret)))))))))))))
def a3R : List RD := [.tmp 6]

/-! colloquy/colloquylaw15.PeopleBack: slots 92, parameters 3 -/
def a5r0 : AC := .reg [⟨(some 3), none, .box 5003 24 3 (.s 0)⟩,
    ⟨(some 6), none, .mov (.c (.lit (.bool false)))⟩] [1, 2, 3]
def a5r1 : AC := .reg [⟨(some 17), none, .callv (.c (.fn 8 [])) []⟩,
    ⟨(some 7), none, .mov (.s 17)⟩] [1, 2, 3, 7]
def a5r2 : AC := .reg [⟨(some 18), none, .mov (.s 7)⟩,
    ⟨(some 19), none, .not (.s 18)⟩,
    ⟨(some 20), none, .mov (.s 19)⟩,
    ⟨(some 21), (some (20, false)), .faddr 2 (.s 3)⟩,
    ⟨(some 22), (some (20, false)), .load 1 false (.s 21)⟩,
    ⟨(some 23), (some (20, false)), .len (.s 22)⟩,
    ⟨(some 24), (some (20, false)), .iop .gtr (.s 23) (.c (.lit (.int .i64 100)))⟩,
    ⟨(some 25), none, .pick (.s 20) (.c (.lit (.bool true))) (.s 24)⟩] [1, 2, 3, 7, 25]
def a5r3 : AC := .reg [⟨(some 26), none, .mov (.s 7)⟩,
    ⟨(some 6), none, .mov (.s 26)⟩] [6]
def a5r4 : AC := .reg [⟨(some 28), none, .load 3 true (.s 3)⟩,
    ⟨(some 29), none, .mov (.s 1)⟩,
    ⟨(some 30), none, .callv (.c (.fn 9 [])) [(.s 28), (.s 29)]⟩,
    ⟨(some 27), none, .mov (.s 30)⟩,
    ⟨(some 31), none, .extract 0 (.s 27)⟩,
    ⟨(some 32), none, .extract 1 (.s 27)⟩,
    ⟨(some 8), none, .alloc 5008 24 [(.lit (.int .i64 0)), (.lit (.int .i64 0)), (.nils 1)]⟩,
    ⟨none, none, .store 3 (.s 8) (.s 31)⟩,
    ⟨(some 9), none, .mov (.s 32)⟩] [1, 2, 3, 8, 9]
def a5r5 : AC := .reg [⟨(some 33), none, .mov (.s 9)⟩,
    ⟨(some 34), none, .iop .neq (.s 33) (.c (.lit (.int .i64 0)))⟩] [1, 2, 3, 8, 34]
def a5r6 : AC := .reg [⟨(some 35), none, .faddr 2 (.s 8)⟩,
    ⟨(some 36), none, .load 1 false (.s 35)⟩,
    ⟨(some 37), none, .len (.s 36)⟩,
    ⟨(some 38), none, .iop .eql (.s 37) (.c (.lit (.int .i64 0)))⟩,
    ⟨(some 6), none, .mov (.s 38)⟩] [6]
def a5r7 : AC := .reg [⟨(some 40), none, .load 3 true (.s 8)⟩,
    ⟨(some 41), none, .mov (.s 1)⟩,
    ⟨(some 42), none, .callv (.c (.fn 9 [])) [(.s 40), (.s 41)]⟩,
    ⟨(some 39), none, .mov (.s 42)⟩,
    ⟨(some 43), none, .extract 0 (.s 39)⟩,
    ⟨(some 44), none, .extract 1 (.s 39)⟩,
    ⟨(some 10), none, .alloc 5010 24 [(.lit (.int .i64 0)), (.lit (.int .i64 0)), (.nils 1)]⟩,
    ⟨none, none, .store 3 (.s 10) (.s 43)⟩,
    ⟨(some 11), none, .mov (.s 44)⟩] [1, 2, 3, 8, 11]
def a5r8 : AC := .reg [⟨(some 46), none, .load 3 true (.s 8)⟩,
    ⟨(some 47), none, .mov (.s 1)⟩,
    ⟨(some 48), none, .callv (.c (.fn 11 [])) [(.s 46), (.s 47)]⟩,
    ⟨(some 45), none, .mov (.s 48)⟩,
    ⟨(some 49), none, .extract 0 (.s 45)⟩,
    ⟨(some 50), none, .extract 1 (.s 45)⟩,
    ⟨(some 12), none, .alloc 5012 24 [(.lit (.int .i64 0)), (.lit (.int .i64 0)), (.nils 1)]⟩,
    ⟨none, none, .store 3 (.s 12) (.s 49)⟩,
    ⟨(some 13), none, .mov (.s 50)⟩] [1, 2, 3, 8, 11, 12, 13]
def a5r9 : AC := .reg [⟨(some 52), none, .load 3 true (.s 12)⟩,
    ⟨(some 53), none, .mov (.s 1)⟩,
    ⟨(some 54), none, .callv (.c (.fn 11 [])) [(.s 52), (.s 53)]⟩,
    ⟨(some 51), none, .mov (.s 54)⟩,
    ⟨(some 55), none, .extract 0 (.s 51)⟩,
    ⟨(some 56), none, .extract 1 (.s 51)⟩,
    ⟨(some 14), none, .alloc 5014 24 [(.lit (.int .i64 0)), (.lit (.int .i64 0)), (.nils 1)]⟩,
    ⟨none, none, .store 3 (.s 14) (.s 55)⟩,
    ⟨(some 15), none, .mov (.s 56)⟩] [1, 2, 3, 8, 11, 12, 13, 15]
def a5r10 : AC := .reg [⟨(some 57), none, .load 3 true (.s 12)⟩,
    ⟨(some 58), none, .load 3 true (.s 3)⟩,
    ⟨(some 59), none, .callv (.c (.fn 15 [])) [(.s 57), (.s 58)]⟩,
    ⟨(some 16), none, .mov (.s 59)⟩] [1, 2, 3, 8, 11, 13, 15, 16]
def a5r11 : AC := .draw [] (.take 0 ⟨(some 60), none, .mov (.s 11)⟩ <|
    .take 1 ⟨(some 61), none, .iop .eql (.s 60) (.c (.lit (.int .i64 6)))⟩ <|
    .take 2 ⟨(some 62), none, .mov (.s 61)⟩ <|
    .take 3 ⟨(some 63), (some (62, true)), .mov (.s 13)⟩ <|
    .take 4 ⟨(some 64), (some (62, true)), .iop .eql (.s 63) (.c (.lit (.int .i64 0)))⟩ <|
    .take 5 ⟨(some 65), none, .pick (.s 62) (.s 64) (.c (.lit (.bool false)))⟩ <|
    .take 6 ⟨(some 66), none, .mov (.s 65)⟩ <|
    .take 7 ⟨(some 67), (some (66, true)), .mov (.s 15)⟩ <|
    .take 8 ⟨(some 68), (some (66, true)), .iop .eql (.s 67) (.c (.lit (.int .i64 5)))⟩ <|
    .take 9 ⟨(some 69), none, .pick (.s 66) (.s 68) (.c (.lit (.bool false)))⟩ <|
    .take 10 ⟨(some 70), none, .mov (.s 69)⟩ <|
    .take 11 ⟨(some 71), (some (70, true)), .mov (.s 16)⟩ <|
    .take 12 ⟨(some 72), none, .pick (.s 70) (.s 71) (.c (.lit (.bool false)))⟩ <|
    .take 13 ⟨(some 73), none, .mov (.s 72)⟩ <|
    .take 14 ⟨(some 74), (some (73, true)), .load 3 true (.s 8)⟩ <|
    .take 15 ⟨(some 75), (some (73, true)), .mov (.s 1)⟩ <|
    .alt 16 ⟨(some 76), (some (73, true)), .callv (.c (.fn 18 [])) [(.s 74), (.s 75)]⟩ (
    .take 17 ⟨(some 77), none, .pick (.s 73) (.s 76) (.c (.lit (.bool false)))⟩ <|
    .take 18 ⟨(some 78), none, .mov (.s 77)⟩ <|
    .take 19 ⟨(some 79), (some (78, true)), .mov (.s 2)⟩ <|
    .take 20 ⟨(some 80), (some (78, true)), .mov (.s 1)⟩ <|
    .take 21 ⟨(some 81), (some (78, true)), .iop .eql (.s 79) (.s 80)⟩ <|
    .take 22 ⟨(some 82), (some (78, true)), .mov (.s 81)⟩ <|
    .take 23 ⟨(some 83), (some (82, false)), .load 3 true (.s 8)⟩ <|
    .take 24 ⟨(some 84), (some (82, false)), .mov (.s 2)⟩ <|
    .take 26 ⟨(some 86), (some (82, false)), .load 3 true (.s 3)⟩ <|
    .take 27 ⟨(some 87), (some (82, false)), .mov (.s 2)⟩ <|
    .alt 25 ⟨(some 85), (some (82, false)), .callv (.c (.fn 18 [])) [(.s 83), (.s 84)]⟩ (
    .alt 28 ⟨(some 88), (some (82, false)), .callv (.c (.fn 18 [])) [(.s 86), (.s 87)]⟩ (
    .take 29 ⟨(some 89), (some (82, false)), .beq false (.s 85) (.s 88)⟩ <|
    .take 30 ⟨(some 90), (some (78, true)), .pick (.s 82) (.c (.lit (.bool true))) (.s 89)⟩ <|
    .take 31 ⟨(some 91), none, .pick (.s 78) (.s 90) (.c (.lit (.bool false)))⟩ <|
    .take 32 ⟨(some 6), none, .mov (.s 91)⟩ <|
    .done) .done) .done) .done) [6]
def a5 : AC := .seq (a5r0) (.seq (a5r1) (.seq (.seq (a5r2) (.cond (.s 25) (.seq (a5r3) (.ret)) (.skip))) (.seq (a5r4) (.seq (.seq (a5r5) (.cond (.s 34) (.seq (a5r6) (.ret)) (.skip))) (.seq (a5r7) (.seq (a5r8) (.seq (a5r9) (.seq (a5r10) (.seq (a5r11) (.ret))))))))))
def a5R : List RD := [.tmp 6]

end Go.Proofs.Ytffeomfcjmmgoaa.F
