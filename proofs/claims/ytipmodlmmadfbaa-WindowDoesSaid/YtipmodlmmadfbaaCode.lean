/- The code of chapter 17's functions, as data. Printed by Gen.lean. -/
import Derived.Test.YtipmodlmmadfbaaSxK
set_option linter.unusedVariables false
namespace Go.Proofs.Ytipmodlmmadfbaa.F
open Go Go.SX

/-! colloquy/window.find: slots 11, parameters 2 -/
def a17r0 : AC := .reg [⟨(some 4), none, .mov (.c (.lit (.int .i64 0)))⟩,
    ⟨(some 5), none, .mov (.c (.lit (.bool false)))⟩] [0, 1]
def a17r1 : AC := .reg [⟨(some 6), none, .mov (.s 0)⟩,
    ⟨(some 7), none, .mov (.s 1)⟩,
    ⟨(some 8), none, .callv (.c (.fn 20 [])) [(.s 6), (.s 7), (.c (.fn 21 []))]⟩,
    ⟨(some 9), none, .extract 0 (.s 8)⟩,
    ⟨(some 10), none, .extract 1 (.s 8)⟩,
    ⟨(some 4), none, .mov (.s 9)⟩,
    ⟨(some 5), none, .mov (.s 10)⟩] [4, 5]
def a17 : AC := .seq (a17r0) (.seq (a17r1) (.ret))
def a17R : List RD := [.tmp 4, .tmp 5]

/-! slices.Clone[[]colloquy/api.Told,colloquy/api.Told]: slots 8, parameters 1 -/
def a19r0 : AC := .reg [⟨(some 2), none, .mov (.c (.nils 4))⟩] [0]
def a19r1 : AC := .reg [⟨(some 3), none, .mov (.s 0)⟩,
    ⟨(some 4), none, .ext 6 [] [(.s 3)]⟩] [0, 4]
def a19r2 : AC := .reg [⟨(some 2), none, .mov (.c (.nils 4))⟩] [2]
def a19r3 : AC := .reg [⟨(some 5), none, .bslice 19005 42 4 []⟩,
    ⟨(some 6), none, .mov (.s 0)⟩,
    ⟨(some 7), none, .append 19007 42 4 40 (.s 5) (.s 6)⟩,
    ⟨(some 2), none, .mov (.s 7)⟩] [2]
def a19 : AC := .seq (a19r0) (.seq (.seq (a19r1) (.cond (.s 4) (.seq (a19r2) (.ret)) (.skip))) (.seq (a19r3) (.ret)))
def a19R : List RD := [.tmp 2]

/-! slices.BinarySearchFunc[[]colloquy/api.Told,colloquy/api.Told,int]: slots 49, parameters 3 -/
def a20r0 : AC := .reg [⟨(some 6), none, .mov (.c (.lit (.int .i64 0)))⟩,
    ⟨(some 7), none, .mov (.c (.lit (.bool false)))⟩] [0, 1, 2]
def a20r1 : AC := .reg [⟨(some 12), none, .mov (.s 0)⟩,
    ⟨(some 13), none, .len (.s 12)⟩,
    ⟨(some 8), none, .mov (.s 13)⟩] [0, 1, 2, 8]
def a20r2 : AC := .reg [⟨(some 14), none, .mov (.s 8)⟩,
    ⟨(some 9), none, .mov (.c (.lit (.int .i64 0)))⟩,
    ⟨(some 10), none, .mov (.s 14)⟩] [0, 1, 2, 8, 9, 10]
def a20r3 : AC := .reg [⟨(some 15), none, .mov (.s 9)⟩,
    ⟨(some 16), none, .mov (.s 10)⟩,
    ⟨(some 17), none, .iop .lss (.s 15) (.s 16)⟩] [0, 1, 2, 8, 9, 10, 17]
def a20r4 : AC := .reg [⟨(some 18), none, .mov (.s 9)⟩,
    ⟨(some 19), none, .mov (.s 10)⟩,
    ⟨(some 20), none, .iop .add (.s 18) (.s 19)⟩,
    ⟨(some 21), none, .conv .u64 (.s 20)⟩,
    ⟨(some 22), none, .iop .shr (.s 21) (.c (.lit (.int .u64 1)))⟩,
    ⟨(some 23), none, .conv .i64 (.s 22)⟩,
    ⟨(some 11), none, .mov (.s 23)⟩] [0, 1, 2, 8, 9, 10, 11]
def a20r5 : AC := .reg [⟨(some 24), none, .mov (.s 2)⟩,
    ⟨(some 25), none, .mov (.s 0)⟩,
    ⟨(some 26), none, .mov (.s 11)⟩,
    ⟨(some 27), none, .iaddr 4 (.s 25) (.s 26)⟩,
    ⟨(some 28), none, .load 4 true (.s 27)⟩,
    ⟨(some 29), none, .mov (.s 1)⟩,
    ⟨(some 30), none, .callv (.s 24) [(.s 28), (.s 29)]⟩,
    ⟨(some 31), none, .iop .lss (.s 30) (.c (.lit (.int .i64 0)))⟩] [0, 1, 2, 8, 9, 10, 11, 31]
def a20r6 : AC := .reg [⟨(some 32), none, .mov (.s 11)⟩,
    ⟨(some 33), none, .iop .add (.s 32) (.c (.lit (.int .i64 1)))⟩,
    ⟨(some 9), none, .mov (.s 33)⟩] [0, 1, 2, 8, 9, 10]
def a20r7 : AC := .reg [⟨(some 34), none, .mov (.s 11)⟩,
    ⟨(some 10), none, .mov (.s 34)⟩] [0, 1, 2, 8, 9, 10]
def a20L3 : AC := .seq (.seq (a20r3) (.cond (.s 17) (.skip) (.exit 0))) (.block 1 (.seq (a20r4) (.seq (a20r5) (.cond (.s 31) (a20r6) (a20r7)))))
def a20r8 : AC := .reg [⟨(some 35), none, .mov (.s 9)⟩,
    ⟨(some 36), none, .mov (.s 9)⟩,
    ⟨(some 37), none, .mov (.s 8)⟩,
    ⟨(some 38), none, .iop .lss (.s 36) (.s 37)⟩,
    ⟨(some 39), none, .mov (.s 38)⟩,
    ⟨(some 40), (some (39, true)), .mov (.s 2)⟩,
    ⟨(some 41), (some (39, true)), .mov (.s 0)⟩,
    ⟨(some 42), (some (39, true)), .mov (.s 9)⟩,
    ⟨(some 43), (some (39, true)), .iaddr 4 (.s 41) (.s 42)⟩,
    ⟨(some 44), (some (39, true)), .load 4 true (.s 43)⟩,
    ⟨(some 45), (some (39, true)), .mov (.s 1)⟩,
    ⟨(some 46), (some (39, true)), .callv (.s 40) [(.s 44), (.s 45)]⟩,
    ⟨(some 47), (some (39, true)), .iop .eql (.s 46) (.c (.lit (.int .i64 0)))⟩,
    ⟨(some 48), none, .pick (.s 39) (.s 47) (.c (.lit (.bool false)))⟩,
    ⟨(some 6), none, .mov (.s 35)⟩,
    ⟨(some 7), none, .mov (.s 48)⟩] [6, 7]
def a20 : AC := .seq (a20r0) (.seq (a20r1) (.seq (a20r2) (.seq (.block 0 (.loop a20L3)) (.seq (a20r8) (.ret)))))
def a20R : List RD := [.tmp 6, .tmp 7]

/-! colloquy/window.find$1: slots 9, parameters 2 -/
def a21r0 : AC := .reg [⟨(some 2), none, .box 21002 42 4 (.s 0)⟩,
    ⟨(some 4), none, .mov (.c (.lit (.int .i64 0)))⟩] [1, 2]
def a21r1 : AC := .reg [⟨(some 5), none, .faddr 0 (.s 2)⟩,
    ⟨(some 6), none, .load 1 false (.s 5)⟩,
    ⟨(some 7), none, .mov (.s 1)⟩,
    ⟨(some 8), none, .callv (.c (.fn 22 [])) [(.s 6), (.s 7)]⟩,
    ⟨(some 4), none, .mov (.s 8)⟩] [4]
def a21 : AC := .seq (a21r0) (.seq (a21r1) (.ret))
def a21R : List RD := [.tmp 4]

/-! cmp.Compare[int]: slots 20, parameters 2 -/
def a22r0 : AC := .reg [⟨(some 4), none, .mov (.c (.lit (.int .i64 0)))⟩] [0, 1]
def a22r1 : AC := .reg [⟨(some 7), none, .mov (.s 0)⟩,
    ⟨(some 8), none, .callv (.c (.fn 25 [])) [(.s 7)]⟩,
    ⟨(some 5), none, .mov (.s 8)⟩] [0, 1, 5]
def a22r2 : AC := .reg [⟨(some 9), none, .mov (.s 1)⟩,
    ⟨(some 10), none, .callv (.c (.fn 25 [])) [(.s 9)]⟩,
    ⟨(some 6), none, .mov (.s 10)⟩] [0, 1, 5, 6]
def a22r3 : AC := .reg [⟨(some 11), none, .mov (.s 5)⟩] [0, 1, 6, 11]
def a22r4 : AC := .reg [⟨(some 12), none, .mov (.s 6)⟩] [12]
def a22r5 : AC := .reg [⟨(some 4), none, .mov (.c (.lit (.int .i64 0)))⟩] [4]
def a22r6 : AC := .reg [⟨(some 4), none, .mov (.c (.lit (.int .i64 (-1))))⟩] [4]
def a22r7 : AC := .reg [⟨(some 13), none, .mov (.s 6)⟩] [0, 1, 13]
def a22r8 : AC := .reg [⟨(some 4), none, .mov (.c (.lit (.int .i64 1)))⟩] [4]
def a22r9 : AC := .reg [⟨(some 14), none, .mov (.s 0)⟩,
    ⟨(some 15), none, .mov (.s 1)⟩,
    ⟨(some 16), none, .iop .lss (.s 14) (.s 15)⟩] [0, 1, 16]
def a22r10 : AC := .reg [⟨(some 4), none, .mov (.c (.lit (.int .i64 (-1))))⟩] [4]
def a22r11 : AC := .reg [⟨(some 17), none, .mov (.s 0)⟩,
    ⟨(some 18), none, .mov (.s 1)⟩,
    ⟨(some 19), none, .iop .gtr (.s 17) (.s 18)⟩] [19]
def a22r12 : AC := .reg [⟨(some 4), none, .mov (.c (.lit (.int .i64 1)))⟩] [4]
def a22r13 : AC := .reg [⟨(some 4), none, .mov (.c (.lit (.int .i64 0)))⟩] [4]
def a22 : AC := .seq (a22r0) (.seq (a22r1) (.seq (a22r2) (.seq (.seq (a22r3) (.cond (.s 11) (.seq (.seq (a22r4) (.cond (.s 12) (.seq (a22r5) (.ret)) (.skip))) (.seq (a22r6) (.ret))) (.skip))) (.seq (.seq (a22r7) (.cond (.s 13) (.seq (a22r8) (.ret)) (.skip))) (.seq (.seq (a22r9) (.cond (.s 16) (.seq (a22r10) (.ret)) (.skip))) (.seq (.seq (a22r11) (.cond (.s 19) (.seq (a22r12) (.ret)) (.skip))) (.seq (a22r13) (.ret))))))))
def a22R : List RD := [.tmp 4]

/-! cmp.isNaN[int]: slots 6, parameters 1 -/
def a25r0 : AC := .reg [⟨(some 2), none, .mov (.c (.lit (.bool false)))⟩] [0]
def a25r1 : AC := .reg [⟨(some 3), none, .mov (.s 0)⟩,
    ⟨(some 4), none, .mov (.s 0)⟩,
    ⟨(some 5), none, .iop .neq (.s 3) (.s 4)⟩,
    ⟨(some 2), none, .mov (.s 5)⟩] [2]
def a25 : AC := .seq (a25r0) (.seq (a25r1) (.ret))
def a25R : List RD := [.tmp 2]

/-! slices.Insert[[]colloquy/api.Told,colloquy/api.Told]: slots 95, parameters 3 -/
def a18r0 : AC := .reg [⟨(some 6), none, .mov (.c (.nils 4))⟩] [0, 1, 2]
def a18r1 : AC := .reg [⟨(some 10), none, .mov (.s 0)⟩,
    ⟨(some 11), none, .mov (.s 1)⟩,
    ⟨(some 12), none, .slice 4 (.s 10) (some (.s 11)) none⟩] [0, 1, 2]
def a18r2 : AC := .reg [⟨(some 13), none, .mov (.s 2)⟩,
    ⟨(some 14), none, .len (.s 13)⟩,
    ⟨(some 7), none, .mov (.s 14)⟩] [0, 1, 2, 7]
def a18r3 : AC := .reg [⟨(some 15), none, .mov (.s 7)⟩,
    ⟨(some 16), none, .iop .eql (.s 15) (.c (.lit (.int .i64 0)))⟩] [0, 1, 2, 7, 16]
def a18r4 : AC := .reg [⟨(some 17), none, .mov (.s 0)⟩,
    ⟨(some 6), none, .mov (.s 17)⟩] [6]
def a18r5 : AC := .reg [⟨(some 18), none, .mov (.s 0)⟩,
    ⟨(some 19), none, .len (.s 18)⟩,
    ⟨(some 8), none, .mov (.s 19)⟩] [0, 1, 2, 7, 8]
def a18r6 : AC := .reg [⟨(some 20), none, .mov (.s 1)⟩,
    ⟨(some 21), none, .mov (.s 8)⟩,
    ⟨(some 22), none, .iop .eql (.s 20) (.s 21)⟩] [0, 1, 2, 7, 8, 22]
def a18r7 : AC := .reg [⟨(some 23), none, .mov (.s 0)⟩,
    ⟨(some 24), none, .mov (.s 2)⟩,
    ⟨(some 25), none, .append 18025 42 4 40 (.s 23) (.s 24)⟩,
    ⟨(some 6), none, .mov (.s 25)⟩] [6]
def a18r8 : AC := .reg [⟨(some 26), none, .mov (.s 8)⟩,
    ⟨(some 27), none, .mov (.s 7)⟩,
    ⟨(some 28), none, .iop .add (.s 26) (.s 27)⟩,
    ⟨(some 29), none, .mov (.s 0)⟩,
    ⟨(some 30), none, .ext 0 [] [(.s 29)]⟩,
    ⟨(some 31), none, .iop .gtr (.s 28) (.s 30)⟩] [0, 1, 2, 7, 8, 31]
def a18r9 : AC := .reg [⟨(some 32), none, .mov (.s 0)⟩,
    ⟨(some 33), none, .mov (.s 1)⟩,
    ⟨(some 34), none, .slice 4 (.s 32) none (some (.s 33))⟩,
    ⟨(some 35), none, .mov (.s 8)⟩,
    ⟨(some 36), none, .mov (.s 7)⟩,
    ⟨(some 37), none, .iop .add (.s 35) (.s 36)⟩,
    ⟨(some 38), none, .mov (.s 1)⟩,
    ⟨(some 39), none, .iop .sub (.s 37) (.s 38)⟩,
    ⟨(some 40), none, .ext 3 [42, 4, 40] [(.s 34), (.s 39)]⟩,
    ⟨(some 9), none, .mov (.s 40)⟩] [0, 1, 2, 7, 9]
def a18r10 : AC := .reg [⟨(some 41), none, .mov (.s 9)⟩,
    ⟨(some 42), none, .mov (.s 1)⟩,
    ⟨(some 43), none, .slice 4 (.s 41) (some (.s 42)) none⟩,
    ⟨(some 44), none, .mov (.s 2)⟩,
    ⟨(some 45), none, .ext 1 [42, 4, 40] [(.s 43), (.s 44)]⟩] [0, 1, 7, 9]
def a18r11 : AC := .draw [18040] (.take 0 ⟨(some 46), none, .mov (.s 9)⟩ <|
    .take 1 ⟨(some 47), none, .mov (.s 1)⟩ <|
    .take 2 ⟨(some 48), none, .mov (.s 7)⟩ <|
    .take 3 ⟨(some 49), none, .iop .add (.s 47) (.s 48)⟩ <|
    .take 4 ⟨(some 50), none, .slice 4 (.s 46) (some (.s 49)) none⟩ <|
    .take 5 ⟨(some 51), none, .mov (.s 0)⟩ <|
    .take 6 ⟨(some 52), none, .mov (.s 1)⟩ <|
    .take 7 ⟨(some 53), none, .slice 4 (.s 51) (some (.s 52)) none⟩ <|
    .alt 8 ⟨(some 54), none, .ext 1 [42, 4, 40] [(.s 50), (.s 53)]⟩ (
    .done) .done) [9]
def a18r12 : AC := .reg [⟨(some 55), none, .mov (.s 9)⟩,
    ⟨(some 6), none, .mov (.s 55)⟩] [6]
def a18r13 : AC := .reg [⟨(some 56), none, .mov (.s 0)⟩,
    ⟨(some 57), none, .mov (.s 8)⟩,
    ⟨(some 58), none, .mov (.s 7)⟩,
    ⟨(some 59), none, .iop .add (.s 57) (.s 58)⟩,
    ⟨(some 60), none, .slice 4 (.s 56) none (some (.s 59))⟩,
    ⟨(some 0), none, .mov (.s 60)⟩] [0, 1, 2, 7, 8]
def a18r14 : AC := .reg [⟨(some 61), none, .mov (.s 2)⟩,
    ⟨(some 62), none, .mov (.s 0)⟩,
    ⟨(some 63), none, .mov (.s 1)⟩,
    ⟨(some 64), none, .mov (.s 7)⟩,
    ⟨(some 65), none, .iop .add (.s 63) (.s 64)⟩,
    ⟨(some 66), none, .slice 4 (.s 62) (some (.s 65)) none⟩,
    ⟨(some 67), none, .ext 7 [23] [(.s 61), (.s 66)]⟩,
    ⟨(some 68), none, .not (.s 67)⟩] [0, 1, 2, 7, 8, 68]
def a18r15 : AC := .draw [19005] (.take 0 ⟨(some 69), none, .mov (.s 0)⟩ <|
    .take 1 ⟨(some 70), none, .mov (.s 1)⟩ <|
    .take 2 ⟨(some 71), none, .mov (.s 7)⟩ <|
    .take 3 ⟨(some 72), none, .iop .add (.s 70) (.s 71)⟩ <|
    .take 4 ⟨(some 73), none, .slice 4 (.s 69) (some (.s 72)) none⟩ <|
    .take 5 ⟨(some 74), none, .mov (.s 0)⟩ <|
    .take 6 ⟨(some 75), none, .mov (.s 1)⟩ <|
    .take 7 ⟨(some 76), none, .slice 4 (.s 74) (some (.s 75)) none⟩ <|
    .alt 8 ⟨(some 77), none, .ext 1 [42, 4, 40] [(.s 73), (.s 76)]⟩ (
    .done) .done) [0, 1, 2]
def a18r16 : AC := .reg [⟨(some 78), none, .mov (.s 0)⟩,
    ⟨(some 79), none, .mov (.s 1)⟩,
    ⟨(some 80), none, .slice 4 (.s 78) (some (.s 79)) none⟩,
    ⟨(some 81), none, .mov (.s 2)⟩,
    ⟨(some 82), none, .ext 1 [42, 4, 40] [(.s 80), (.s 81)]⟩] [0]
def a18r17 : AC := .reg [⟨(some 83), none, .mov (.s 0)⟩,
    ⟨(some 6), none, .mov (.s 83)⟩] [6]
def a18r18 : AC := .reg [⟨(some 84), none, .mov (.s 0)⟩,
    ⟨(some 85), none, .mov (.s 8)⟩,
    ⟨(some 86), none, .slice 4 (.s 84) (some (.s 85)) none⟩,
    ⟨(some 87), none, .mov (.s 2)⟩,
    ⟨(some 88), none, .ext 1 [42, 4, 40] [(.s 86), (.s 87)]⟩] [0, 1, 7]
def a18r19 : AC := .reg [⟨(some 89), none, .mov (.s 0)⟩,
    ⟨(some 90), none, .mov (.s 1)⟩,
    ⟨(some 91), none, .slice 4 (.s 89) (some (.s 90)) none⟩,
    ⟨(some 92), none, .mov (.s 7)⟩,
    ⟨(some 93), none, .callv (.c (.fn 24 [])) [(.s 91), (.s 92)]⟩] [0]
def a18r20 : AC := .reg [⟨(some 94), none, .mov (.s 0)⟩,
    ⟨(some 6), none, .mov (.s 94)⟩] [6]
def a18 : AC := .seq (a18r0) (.seq (a18r1) (.seq (a18r2) (.seq (.seq (a18r3) (.cond (.s 16) (.seq (a18r4) (.ret)) (.skip))) (.seq (a18r5) (.seq (.seq (a18r6) (.cond (.s 22) (.seq (a18r7) (.ret)) (.skip))) (.seq (.seq (a18r8) (.cond (.s 31) (.seq (a18r9) (.seq (a18r10) (.seq (a18r11) (.seq (a18r12) (.ret))))) (.skip))) (.seq (a18r13) (.seq (.seq (a18r14) (.cond (.s 68) (.seq (a18r15) (.seq (a18r16) (.seq (a18r17) (.ret)))) (.skip))) (.seq (a18r18) (.seq (a18r19) (.seq (a18r20) (.ret))))))))))))
def a18R : List RD := [.tmp 6]

/-! colloquy/window.Put: slots 60, parameters 3 -/
def a12r0 : AC := .reg [⟨(some 3), none, .box 12003 24 2 (.s 0)⟩,
    ⟨(some 5), none, .box 12005 27 3 (.s 2)⟩,
    ⟨(some 6), none, .alloc 12006 24 [(.lit (.int .i64 0)), (.nils 4)]⟩,
    ⟨(some 7), none, .mov (.c (.lit (.int .i64 0)))⟩] [1, 3, 5, 6]
def a12r1 : AC := .reg [⟨(some 14), none, .load 2 true (.s 3)⟩,
    ⟨(some 15), none, .mov (.s 1)⟩,
    ⟨(some 16), none, .callv (.c (.fn 10 [])) [(.s 14), (.s 15)]⟩,
    ⟨(some 13), none, .mov (.s 16)⟩,
    ⟨(some 17), none, .extract 0 (.s 13)⟩,
    ⟨(some 18), none, .extract 1 (.s 13)⟩,
    ⟨(some 19), none, .extract 2 (.s 13)⟩,
    ⟨(some 8), none, .alloc 12008 27 [(.lit (.int .i64 0)), (.lit (.int .i64 0)), (.lit (.string ⟨#[]⟩))]⟩,
    ⟨none, none, .store 3 (.s 8) (.s 17)⟩,
    ⟨(some 9), none, .mov (.s 18)⟩,
    ⟨(some 10), none, .mov (.s 19)⟩] [1, 3, 5, 6, 9, 10]
def a12r2 : AC := .reg [⟨(some 21), none, .mov (.s 10)⟩,
    ⟨(some 22), none, .iop .neq (.s 21) (.c (.lit (.int .i64 0)))⟩,
    ⟨(some 20), none, .mov (.s 22)⟩] [1, 3, 5, 6, 9, 10, 20]
def a12r3 : AC := .reg [⟨(some 23), none, .build [(.lit (.int .i64 0)), (.nils 4)] []⟩,
    ⟨(some 24), none, .mov (.s 10)⟩,
    ⟨none, none, .store 2 (.s 6) (.s 23)⟩,
    ⟨(some 7), none, .mov (.s 24)⟩] [6, 7]
def a12r4 : AC := .reg [⟨(some 26), none, .mov (.s 9)⟩,
    ⟨(some 25), none, .mov (.s 26)⟩] [1, 3, 5, 6, 25]
def a12r5 : AC := .reg [⟨(some 27), none, .build [(.lit (.int .i64 0)), (.nils 4)] []⟩,
    ⟨none, none, .store 2 (.s 6) (.s 27)⟩,
    ⟨(some 7), none, .mov (.c (.lit (.int .i64 6)))⟩] [6, 7]
def a12r6 : AC := .reg [⟨(some 29), none, .faddr 1 (.s 3)⟩,
    ⟨(some 30), none, .load 1 false (.s 29)⟩,
    ⟨(some 31), none, .mov (.s 1)⟩,
    ⟨(some 32), none, .callv (.c (.fn 17 [])) [(.s 30), (.s 31)]⟩,
    ⟨(some 28), none, .mov (.s 32)⟩,
    ⟨(some 33), none, .extract 0 (.s 28)⟩,
    ⟨(some 34), none, .extract 1 (.s 28)⟩,
    ⟨(some 11), none, .mov (.s 33)⟩,
    ⟨(some 12), none, .mov (.s 34)⟩] [1, 3, 5, 6, 11]
def a12r7 : AC := .draw [12003, 12042, 19005, 18040, 18025] (.take 0 ⟨(some 35), none, .faddr 1 (.s 3)⟩ <|
    .take 3 ⟨(some 38), none, .mov (.s 11)⟩ <|
    .take 4 ⟨(some 39), none, .mov (.s 1)⟩ <|
    .take 5 ⟨(some 40), none, .load 3 true (.s 5)⟩ <|
    .take 6 ⟨(some 41), none, .build [(.lit (.int .i64 0)), (.lit (.int .i64 0)), (.lit (.int .i64 0)), (.lit (.string ⟨#[]⟩))] [(0, 1, (.s 39)), (1, 3, (.s 40))]⟩ <|
    .alt 1 ⟨(some 36), none, .load 1 false (.s 35)⟩ (.alt 2 ⟨(some 37), none, .callv (.c (.fn 19 [])) [(.s 36)]⟩ (.alt 7 ⟨(some 42), none, .bslice 12042 42 4 [(.s 41)]⟩ (
    .alt 8 ⟨(some 43), none, .callv (.c (.fn 18 [])) [(.s 37), (.s 38), (.s 42)]⟩ (
    .take 9 ⟨(some 44), none, .faddr 1 (.s 3)⟩ <|
    .alt 10 ⟨none, none, .store 1 (.s 44) (.s 43)⟩ (
    .done) .done) .done) .done) (.alt 7 ⟨(some 42), none, .bslice 12042 42 4 [(.s 41)]⟩ (.alt 2 ⟨(some 37), none, .callv (.c (.fn 19 [])) [(.s 36)]⟩ (
    .alt 8 ⟨(some 43), none, .callv (.c (.fn 18 [])) [(.s 37), (.s 38), (.s 42)]⟩ (
    .take 9 ⟨(some 44), none, .faddr 1 (.s 3)⟩ <|
    .alt 10 ⟨none, none, .store 1 (.s 44) (.s 43)⟩ (
    .done) .done) .done) .done) (.done))) (.alt 7 ⟨(some 42), none, .bslice 12042 42 4 [(.s 41)]⟩ (.alt 1 ⟨(some 36), none, .load 1 false (.s 35)⟩ (
    .alt 2 ⟨(some 37), none, .callv (.c (.fn 19 [])) [(.s 36)]⟩ (
    .alt 8 ⟨(some 43), none, .callv (.c (.fn 18 [])) [(.s 37), (.s 38), (.s 42)]⟩ (
    .take 9 ⟨(some 44), none, .faddr 1 (.s 3)⟩ <|
    .alt 10 ⟨none, none, .store 1 (.s 44) (.s 43)⟩ (
    .done) .done) .done) .done) .done) (.done))) [3, 6]
def a12r8 : AC := .reg [⟨(some 45), none, .faddr 1 (.s 3)⟩,
    ⟨(some 46), none, .load 1 false (.s 45)⟩,
    ⟨(some 47), none, .len (.s 46)⟩,
    ⟨(some 48), none, .iop .gtr (.s 47) (.c (.lit (.int .i64 8)))⟩] [3, 6, 48]
def a12r9 : AC := .draw [12003] (.take 0 ⟨(some 49), none, .faddr 1 (.s 3)⟩ <|
    .take 5 ⟨(some 54), none, .faddr 1 (.s 3)⟩ <|
    .alt 1 ⟨(some 50), none, .load 1 false (.s 49)⟩ (.take 2 ⟨(some 51), none, .iaddr 4 (.s 50) (.c (.lit (.int .i64 0)))⟩ <|
    .take 3 ⟨(some 52), none, .faddr 0 (.s 51)⟩ <|
    .take 4 ⟨(some 53), none, .load 1 false (.s 52)⟩ <|
    .alt 6 ⟨(some 55), none, .load 1 false (.s 54)⟩ (
    .take 7 ⟨(some 56), none, .slice 4 (.s 55) (some (.c (.lit (.int .i64 1)))) none⟩ <|
    .take 8 ⟨(some 57), none, .faddr 0 (.s 3)⟩ <|
    .alt 9 ⟨none, none, .store 1 (.s 57) (.s 53)⟩ (
    .take 10 ⟨(some 58), none, .faddr 1 (.s 3)⟩ <|
    .alt 11 ⟨none, none, .store 1 (.s 58) (.s 56)⟩ (
    .done) .done) .done) .done) (.alt 6 ⟨(some 55), none, .load 1 false (.s 54)⟩ (.take 7 ⟨(some 56), none, .slice 4 (.s 55) (some (.c (.lit (.int .i64 1)))) none⟩ <|
    .alt 1 ⟨(some 50), none, .load 1 false (.s 49)⟩ (
    .take 2 ⟨(some 51), none, .iaddr 4 (.s 50) (.c (.lit (.int .i64 0)))⟩ <|
    .take 3 ⟨(some 52), none, .faddr 0 (.s 51)⟩ <|
    .take 4 ⟨(some 53), none, .load 1 false (.s 52)⟩ <|
    .take 8 ⟨(some 57), none, .faddr 0 (.s 3)⟩ <|
    .alt 9 ⟨none, none, .store 1 (.s 57) (.s 53)⟩ (
    .take 10 ⟨(some 58), none, .faddr 1 (.s 3)⟩ <|
    .alt 11 ⟨none, none, .store 1 (.s 58) (.s 56)⟩ (
    .done) .done) .done) .done) (.done))) [3, 6]
def a12r10 : AC := .reg [⟨(some 59), none, .load 2 true (.s 3)⟩,
    ⟨none, none, .store 2 (.s 6) (.s 59)⟩,
    ⟨(some 7), none, .mov (.c (.lit (.int .i64 0)))⟩] [6, 7]
def a12 : AC := .seq (a12r0) (.seq (a12r1) (.seq (.block 0 (.seq (a12r2) (.cond (.s 20) (.seq (a12r3) (.ret)) (.seq (a12r4) (.cond (.s 25) (.seq (a12r5) (.ret)) (.skip)))))) (.seq (a12r6) (.seq (a12r7) (.seq (.seq (a12r8) (.cond (.s 48) (a12r9) (.skip))) (.seq (a12r10) (.ret)))))))
def a12R : List RD := [.cell 6 2 true, .tmp 7]

end Go.Proofs.Ytipmodlmmadfbaa.F
