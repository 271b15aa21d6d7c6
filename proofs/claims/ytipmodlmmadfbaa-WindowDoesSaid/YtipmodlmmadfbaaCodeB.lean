/- The code of WindowDoes, as data. Printed by Gen.lean. -/
import Derived.Test.YtipmodlmmadfbaaSxK
set_option linter.unusedVariables false
namespace Go.Proofs.Ytipmodlmmadfbaa.F
open Go Go.SX

/-! colloquy/colloquylaw17.WindowDoes: slots 89, parameters 3 -/
def a3r0 : AC := .reg [⟨(some 3), none, .box 3003 24 2 (.s 0)⟩,
    ⟨(some 5), none, .box 3005 27 3 (.s 2)⟩,
    ⟨(some 6), none, .mov (.c (.lit (.bool false)))⟩] [1, 3, 5]
def a3r1 : AC := .reg [⟨(some 20), none, .callv (.c (.fn 8 [])) []⟩,
    ⟨(some 7), none, .mov (.s 20)⟩] [1, 3, 5, 7]
def a3r2 : AC := .reg [⟨(some 21), none, .load 2 true (.s 3)⟩,
    ⟨(some 22), none, .callv (.c (.fn 9 [])) [(.s 21)]⟩,
    ⟨(some 8), none, .mov (.s 22)⟩] [1, 3, 5, 7, 8]
def a3r3 : AC := .reg [⟨(some 23), none, .mov (.s 7)⟩,
    ⟨(some 24), none, .not (.s 23)⟩,
    ⟨(some 25), none, .mov (.s 24)⟩,
    ⟨(some 26), (some (25, false)), .mov (.s 8)⟩,
    ⟨(some 27), (some (25, false)), .not (.s 26)⟩,
    ⟨(some 28), none, .pick (.s 25) (.c (.lit (.bool true))) (.s 27)⟩] [1, 3, 5, 7, 28]
def a3r4 : AC := .reg [⟨(some 29), none, .mov (.s 7)⟩,
    ⟨(some 6), none, .mov (.s 29)⟩] [6]
def a3r5 : AC := .reg [⟨(some 31), none, .load 2 true (.s 3)⟩,
    ⟨(some 32), none, .mov (.s 1)⟩,
    ⟨(some 33), none, .callv (.c (.fn 10 [])) [(.s 31), (.s 32)]⟩,
    ⟨(some 30), none, .mov (.s 33)⟩,
    ⟨(some 34), none, .extract 0 (.s 30)⟩,
    ⟨(some 35), none, .extract 1 (.s 30)⟩,
    ⟨(some 36), none, .extract 2 (.s 30)⟩,
    ⟨(some 9), none, .alloc 3009 27 [(.lit (.int .i64 0)), (.lit (.int .i64 0)), (.lit (.string ⟨#[]⟩))]⟩,
    ⟨none, none, .store 3 (.s 9) (.s 34)⟩,
    ⟨(some 10), none, .mov (.s 35)⟩,
    ⟨(some 11), none, .mov (.s 36)⟩] [1, 3, 5, 9, 10, 11]
def a3r6 : AC := .reg [⟨(some 38), none, .load 2 true (.s 3)⟩,
    ⟨(some 39), none, .mov (.s 1)⟩,
    ⟨(some 40), none, .callv (.c (.fn 11 [])) [(.s 38), (.s 39)]⟩,
    ⟨(some 37), none, .mov (.s 40)⟩,
    ⟨(some 41), none, .extract 0 (.s 37)⟩,
    ⟨(some 42), none, .extract 1 (.s 37)⟩,
    ⟨(some 43), none, .extract 2 (.s 37)⟩,
    ⟨(some 12), none, .alloc 3012 27 [(.lit (.int .i64 0)), (.lit (.int .i64 0)), (.lit (.string ⟨#[]⟩))]⟩,
    ⟨none, none, .store 3 (.s 12) (.s 41)⟩,
    ⟨(some 13), none, .mov (.s 42)⟩,
    ⟨(some 14), none, .mov (.s 43)⟩] [1, 3, 5, 9, 10, 11, 12, 13, 14]
def a3r7 : AC := .reg [⟨(some 45), none, .load 2 true (.s 3)⟩,
    ⟨(some 46), none, .mov (.s 1)⟩,
    ⟨(some 47), none, .load 3 true (.s 5)⟩,
    ⟨(some 48), none, .callv (.c (.fn 12 [])) [(.s 45), (.s 46), (.s 47)]⟩,
    ⟨(some 44), none, .mov (.s 48)⟩,
    ⟨(some 49), none, .extract 0 (.s 44)⟩,
    ⟨(some 50), none, .extract 1 (.s 44)⟩,
    ⟨(some 15), none, .alloc 3015 24 [(.lit (.int .i64 0)), (.nils 4)]⟩,
    ⟨none, none, .store 2 (.s 15) (.s 49)⟩,
    ⟨(some 16), none, .mov (.s 50)⟩] [1, 3, 5, 9, 10, 11, 12, 13, 14, 15, 16]
def a3r8 : AC := .reg [⟨(some 52), none, .load 2 true (.s 3)⟩,
    ⟨(some 53), none, .mov (.s 1)⟩,
    ⟨(some 54), none, .load 3 true (.s 5)⟩,
    ⟨(some 55), none, .callv (.c (.fn 13 [])) [(.s 52), (.s 53), (.s 54)]⟩,
    ⟨(some 51), none, .mov (.s 55)⟩,
    ⟨(some 56), none, .extract 0 (.s 51)⟩,
    ⟨(some 57), none, .extract 1 (.s 51)⟩,
    ⟨(some 17), none, .alloc 3017 24 [(.lit (.int .i64 0)), (.nils 4)]⟩,
    ⟨none, none, .store 2 (.s 17) (.s 56)⟩,
    ⟨(some 18), none, .mov (.s 57)⟩] [3, 9, 10, 11, 12, 13, 14, 15, 16, 17, 18]
def a3r9 : AC := .reg [⟨(some 58), none, .load 2 true (.s 15)⟩,
    ⟨(some 59), none, .load 2 true (.s 17)⟩,
    ⟨(some 60), none, .callv (.c (.fn 14 [])) [(.s 58), (.s 59)]⟩,
    ⟨(some 19), none, .mov (.s 60)⟩] [3, 9, 10, 11, 12, 13, 14, 16, 18, 19]
def a3r10 : AC := .draw [] (.take 0 ⟨(some 61), none, .mov (.s 19)⟩ <|
    .take 1 ⟨(some 62), none, .mov (.s 61)⟩ <|
    .take 2 ⟨(some 63), (some (62, true)), .load 3 true (.s 9)⟩ <|
    .take 3 ⟨(some 64), (some (62, true)), .load 3 true (.s 12)⟩ <|
    .alt 4 ⟨(some 65), (some (62, true)), .ext 8 [27] [(.s 63), (.s 64)]⟩ (
    .take 5 ⟨(some 66), none, .pick (.s 62) (.s 65) (.c (.lit (.bool false)))⟩ <|
    .take 6 ⟨(some 67), none, .mov (.s 66)⟩ <|
    .take 7 ⟨(some 68), (some (67, true)), .mov (.s 10)⟩ <|
    .take 8 ⟨(some 69), (some (67, true)), .mov (.s 13)⟩ <|
    .take 9 ⟨(some 70), (some (67, true)), .beq false (.s 68) (.s 69)⟩ <|
    .take 10 ⟨(some 71), none, .pick (.s 67) (.s 70) (.c (.lit (.bool false)))⟩ <|
    .take 11 ⟨(some 72), none, .mov (.s 71)⟩ <|
    .take 12 ⟨(some 73), (some (72, true)), .mov (.s 11)⟩ <|
    .take 13 ⟨(some 74), (some (72, true)), .mov (.s 14)⟩ <|
    .take 14 ⟨(some 75), (some (72, true)), .iop .eql (.s 73) (.s 74)⟩ <|
    .take 15 ⟨(some 76), none, .pick (.s 72) (.s 75) (.c (.lit (.bool false)))⟩ <|
    .take 16 ⟨(some 77), none, .mov (.s 76)⟩ <|
    .take 17 ⟨(some 78), (some (77, true)), .mov (.s 16)⟩ <|
    .take 18 ⟨(some 79), (some (77, true)), .mov (.s 18)⟩ <|
    .take 19 ⟨(some 80), (some (77, true)), .iop .eql (.s 78) (.s 79)⟩ <|
    .take 20 ⟨(some 81), none, .pick (.s 77) (.s 80) (.c (.lit (.bool false)))⟩ <|
    .take 21 ⟨(some 82), none, .mov (.s 81)⟩ <|
    .take 22 ⟨(some 83), (some (82, true)), .load 2 true (.s 3)⟩ <|
    .take 24 ⟨(some 85), (some (82, true)), .load 2 true (.s 3)⟩ <|
    .alt 23 ⟨(some 84), (some (82, true)), .callv (.c (.fn 15 [])) [(.s 83)]⟩ (
    .alt 25 ⟨(some 86), (some (82, true)), .callv (.c (.fn 16 [])) [(.s 85)]⟩ (
    .take 26 ⟨(some 87), (some (82, true)), .beq false (.s 84) (.s 86)⟩ <|
    .take 27 ⟨(some 88), none, .pick (.s 82) (.s 87) (.c (.lit (.bool false)))⟩ <|
    .take 28 ⟨(some 6), none, .mov (.s 88)⟩ <|
    .done) .done) .done) .done) [6]
def a3 : AC := .seq (a3r0) (.seq (a3r1) (.seq (a3r2) (.seq (.seq (a3r3) (.cond (.s 28) (.seq (a3r4) (.ret)) (.skip))) (.seq (a3r5) (.seq (a3r6) (.seq (a3r7) (.seq (a3r8) (.seq (a3r9) (.seq (a3r10) (.ret))))))))))
def a3R : List RD := [.tmp 6]

end Go.Proofs.Ytipmodlmmadfbaa.F
