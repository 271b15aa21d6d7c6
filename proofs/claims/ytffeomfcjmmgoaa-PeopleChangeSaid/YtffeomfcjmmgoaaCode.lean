/- The code of chapter 15's functions, as data. Printed by Gen.lean. -/
import Derived.Test.YtffeomfcjmmgoaaSxK
set_option linter.unusedVariables false
set_option linter.unusedSimpArgs false
namespace Go.Proofs.Ytffeomfcjmmgoaa.F
open Go Go.SX

/-! colloquy/colloquylaw15.Awake: slots 65, parameters 0 -/
def a8r0 : AC := .reg [⟨(some 0), none, .mov (.c (.lit (.bool false)))⟩] []
def a8r1 : AC := .reg [⟨(some 10), none, .callv (.c (.fn 13 [])) [(.c (.lit (.int .i64 3))), (.c (.lit (.int .i64 7)))]⟩,
    ⟨(some 9), none, .mov (.s 10)⟩,
    ⟨(some 11), none, .extract 0 (.s 9)⟩,
    ⟨(some 12), none, .extract 1 (.s 9)⟩,
    ⟨(some 1), none, .alloc 8001 24 [(.lit (.int .i64 0)), (.lit (.int .i64 0)), (.nils 1)]⟩,
    ⟨none, none, .store 3 (.s 1) (.s 11)⟩,
    ⟨(some 2), none, .mov (.s 12)⟩] [1, 2]
def a8r2 : AC := .reg [⟨(some 14), none, .load 3 true (.s 1)⟩,
    ⟨(some 15), none, .callv (.c (.fn 9 [])) [(.s 14), (.c (.lit (.int .i64 5)))]⟩,
    ⟨(some 13), none, .mov (.s 15)⟩,
    ⟨(some 16), none, .extract 0 (.s 13)⟩,
    ⟨(some 17), none, .extract 1 (.s 13)⟩,
    ⟨(some 3), none, .alloc 8003 24 [(.lit (.int .i64 0)), (.lit (.int .i64 0)), (.nils 1)]⟩,
    ⟨none, none, .store 3 (.s 3) (.s 16)⟩,
    ⟨(some 4), none, .mov (.s 17)⟩] [2, 3, 4]
def a8r3 : AC := .reg [⟨(some 19), none, .load 3 true (.s 3)⟩,
    ⟨(some 20), none, .callv (.c (.fn 11 [])) [(.s 19), (.c (.lit (.int .i64 7)))]⟩,
    ⟨(some 18), none, .mov (.s 20)⟩,
    ⟨(some 21), none, .extract 0 (.s 18)⟩,
    ⟨(some 22), none, .extract 1 (.s 18)⟩,
    ⟨(some 5), none, .alloc 8005 24 [(.lit (.int .i64 0)), (.lit (.int .i64 0)), (.nils 1)]⟩,
    ⟨none, none, .store 3 (.s 5) (.s 21)⟩,
    ⟨(some 6), none, .mov (.s 22)⟩] [2, 3, 4, 6]
def a8r4 : AC := .reg [⟨(some 24), none, .load 3 true (.s 3)⟩,
    ⟨(some 25), none, .callv (.c (.fn 11 [])) [(.s 24), (.c (.lit (.int .i64 5)))]⟩,
    ⟨(some 23), none, .mov (.s 25)⟩,
    ⟨(some 26), none, .extract 0 (.s 23)⟩,
    ⟨(some 27), none, .extract 1 (.s 23)⟩,
    ⟨(some 7), none, .alloc 8007 24 [(.lit (.int .i64 0)), (.lit (.int .i64 0)), (.nils 1)]⟩,
    ⟨none, none, .store 3 (.s 7) (.s 26)⟩,
    ⟨(some 8), none, .mov (.s 27)⟩] [2, 3, 4, 6, 7, 8]
def a8r5 : AC := .reg [⟨(some 28), none, .mov (.s 2)⟩,
    ⟨(some 29), none, .iop .eql (.s 28) (.c (.lit (.int .i64 0)))⟩,
    ⟨(some 30), none, .mov (.s 29)⟩,
    ⟨(some 31), (some (30, true)), .mov (.s 4)⟩,
    ⟨(some 32), (some (30, true)), .iop .eql (.s 31) (.c (.lit (.int .i64 0)))⟩,
    ⟨(some 33), none, .pick (.s 30) (.s 32) (.c (.lit (.bool false)))⟩,
    ⟨(some 34), none, .mov (.s 33)⟩,
    ⟨(some 35), (some (34, true)), .mov (.s 6)⟩,
    ⟨(some 36), (some (34, true)), .iop .eql (.s 35) (.c (.lit (.int .i64 8)))⟩,
    ⟨(some 37), none, .pick (.s 34) (.s 36) (.c (.lit (.bool false)))⟩,
    ⟨(some 38), none, .mov (.s 37)⟩,
    ⟨(some 39), (some (38, true)), .mov (.s 8)⟩,
    ⟨(some 40), (some (38, true)), .iop .eql (.s 39) (.c (.lit (.int .i64 0)))⟩,
    ⟨(some 41), none, .pick (.s 38) (.s 40) (.c (.lit (.bool false)))⟩,
    ⟨(some 42), none, .mov (.s 41)⟩,
    ⟨(some 43), (some (42, true)), .faddr 2 (.s 3)⟩,
    ⟨(some 44), (some (42, true)), .load 1 false (.s 43)⟩,
    ⟨(some 45), (some (42, true)), .len (.s 44)⟩,
    ⟨(some 46), (some (42, true)), .iop .eql (.s 45) (.c (.lit (.int .i64 2)))⟩,
    ⟨(some 47), none, .pick (.s 42) (.s 46) (.c (.lit (.bool false)))⟩,
    ⟨(some 48), none, .mov (.s 47)⟩,
    ⟨(some 49), (some (48, true)), .faddr 2 (.s 3)⟩,
    ⟨(some 50), (some (48, true)), .load 1 false (.s 49)⟩,
    ⟨(some 51), (some (48, true)), .iaddr 1 (.s 50) (.c (.lit (.int .i64 0)))⟩,
    ⟨(some 52), (some (48, true)), .load 1 false (.s 51)⟩,
    ⟨(some 53), (some (48, true)), .iop .eql (.s 52) (.c (.lit (.int .i64 5)))⟩,
    ⟨(some 54), none, .pick (.s 48) (.s 53) (.c (.lit (.bool false)))⟩,
    ⟨(some 55), none, .mov (.s 54)⟩,
    ⟨(some 56), (some (55, true)), .faddr 2 (.s 7)⟩,
    ⟨(some 57), (some (55, true)), .load 1 false (.s 56)⟩,
    ⟨(some 58), (some (55, true)), .len (.s 57)⟩,
    ⟨(some 59), (some (55, true)), .iop .eql (.s 58) (.c (.lit (.int .i64 1)))⟩,
    ⟨(some 60), none, .pick (.s 55) (.s 59) (.c (.lit (.bool false)))⟩,
    ⟨(some 61), none, .mov (.s 60)⟩,
    ⟨(some 62), (some (61, true)), .load 3 true (.s 3)⟩,
    ⟨(some 63), (some (61, true)), .callv (.c (.fn 18 [])) [(.s 62), (.c (.lit (.int .i64 7)))]⟩,
    ⟨(some 64), none, .pick (.s 61) (.s 63) (.c (.lit (.bool false)))⟩,
    ⟨(some 0), none, .mov (.s 64)⟩] [0]
def a8 : AC := .seq (a8r0) (.seq (a8r1) (.seq (a8r2) (.seq (a8r3) (.seq (a8r4) (.seq (a8r5) (.ret))))))
def a8R : List RD := [.tmp 0]

/-! colloquy/people.Join: slots 44, parameters 2 -/
def a9r0 : AC := .reg [⟨(some 2), none, .box 9002 24 3 (.s 0)⟩,
    ⟨(some 4), none, .alloc 9004 24 [(.lit (.int .i64 0)), (.lit (.int .i64 0)), (.nils 1)]⟩,
    ⟨(some 5), none, .mov (.c (.lit (.int .i64 0)))⟩] [1, 2, 4]
def a9r1 : AC := .reg [⟨(some 9), none, .faddr 2 (.s 2)⟩,
    ⟨(some 10), none, .load 1 false (.s 9)⟩,
    ⟨(some 11), none, .mov (.s 1)⟩,
    ⟨(some 12), none, .callv (.c (.fn 20 [])) [(.s 10), (.s 11)]⟩,
    ⟨(some 8), none, .mov (.s 12)⟩,
    ⟨(some 13), none, .extract 0 (.s 8)⟩,
    ⟨(some 14), none, .extract 1 (.s 8)⟩,
    ⟨(some 6), none, .mov (.s 13)⟩,
    ⟨(some 7), none, .mov (.s 14)⟩] [1, 2, 4, 6, 7]
def a9r2 : AC := .reg [⟨(some 16), none, .load 3 true (.s 2)⟩,
    ⟨(some 17), none, .callv (.c (.fn 16 [])) [(.s 16)]⟩,
    ⟨(some 18), none, .not (.s 17)⟩,
    ⟨(some 19), none, .mov (.s 18)⟩,
    ⟨(some 20), (some (19, false)), .mov (.s 1)⟩,
    ⟨(some 21), (some (19, false)), .bslice 9021 3 1 [(.s 20)]⟩,
    ⟨(some 22), (some (19, false)), .callv (.c (.fn 21 [])) [(.s 21)]⟩,
    ⟨(some 23), (some (19, false)), .not (.s 22)⟩,
    ⟨(some 24), none, .pick (.s 19) (.c (.lit (.bool true))) (.s 23)⟩,
    ⟨(some 15), none, .mov (.s 24)⟩] [1, 2, 4, 6, 7, 15]
def a9r3 : AC := .reg [⟨(some 25), none, .build [(.lit (.int .i64 0)), (.lit (.int .i64 0)), (.nils 1)] []⟩,
    ⟨none, none, .store 3 (.s 4) (.s 25)⟩,
    ⟨(some 5), none, .mov (.c (.lit (.int .i64 1)))⟩] [4, 5]
def a9r4 : AC := .reg [⟨(some 27), none, .mov (.s 7)⟩,
    ⟨(some 26), none, .mov (.s 27)⟩] [1, 2, 4, 6, 26]
def a9r5 : AC := .reg [⟨(some 28), none, .build [(.lit (.int .i64 0)), (.lit (.int .i64 0)), (.nils 1)] []⟩,
    ⟨none, none, .store 3 (.s 4) (.s 28)⟩,
    ⟨(some 5), none, .mov (.c (.lit (.int .i64 6)))⟩] [4, 5]
def a9r6 : AC := .reg [⟨(some 30), none, .faddr 2 (.s 2)⟩,
    ⟨(some 31), none, .load 1 false (.s 30)⟩,
    ⟨(some 32), none, .len (.s 31)⟩,
    ⟨(some 33), none, .iop .geq (.s 32) (.c (.lit (.int .i64 16)))⟩,
    ⟨(some 29), none, .mov (.s 33)⟩] [1, 2, 4, 6, 29]
def a9r7 : AC := .reg [⟨(some 34), none, .build [(.lit (.int .i64 0)), (.lit (.int .i64 0)), (.nils 1)] []⟩,
    ⟨none, none, .store 3 (.s 4) (.s 34)⟩,
    ⟨(some 5), none, .mov (.c (.lit (.int .i64 7)))⟩] [4, 5]
def a9r8 : AC := .reg [⟨(some 35), none, .faddr 2 (.s 2)⟩,
    ⟨(some 36), none, .load 1 false (.s 35)⟩,
    ⟨(some 37), none, .callv (.c (.fn 23 [])) [(.s 36)]⟩,
    ⟨(some 38), none, .mov (.s 6)⟩,
    ⟨(some 39), none, .mov (.s 1)⟩,
    ⟨(some 40), none, .bslice 9040 3 1 [(.s 39)]⟩,
    ⟨(some 41), none, .callv (.c (.fn 22 [])) [(.s 37), (.s 38), (.s 40)]⟩,
    ⟨(some 42), none, .faddr 2 (.s 2)⟩,
    ⟨none, none, .store 1 (.s 42) (.s 41)⟩] [2, 4]
def a9r9 : AC := .reg [⟨(some 43), none, .load 3 true (.s 2)⟩,
    ⟨none, none, .store 3 (.s 4) (.s 43)⟩,
    ⟨(some 5), none, .mov (.c (.lit (.int .i64 0)))⟩] [4, 5]
def a9 : AC := .seq (a9r0) (.seq (a9r1) (.seq (.block 0 (.seq (a9r2) (.cond (.s 15) (.seq (a9r3) (.ret)) (.seq (a9r4) (.cond (.s 26) (.seq (a9r5) (.ret)) (.seq (a9r6) (.cond (.s 29) (.seq (a9r7) (.ret)) (.skip)))))))) (.seq (a9r8) (.seq (a9r9) (.ret)))))
def a9R : List RD := [.cell 4 3 true, .tmp 5]

/-! colloquy/people.Leave: slots 39, parameters 2 -/
def a11r0 : AC := .reg [⟨(some 2), none, .box 11002 24 3 (.s 0)⟩,
    ⟨(some 4), none, .alloc 11004 24 [(.lit (.int .i64 0)), (.lit (.int .i64 0)), (.nils 1)]⟩,
    ⟨(some 5), none, .mov (.c (.lit (.int .i64 0)))⟩] [1, 2, 4]
def a11r1 : AC := .reg [⟨(some 9), none, .faddr 2 (.s 2)⟩,
    ⟨(some 10), none, .load 1 false (.s 9)⟩,
    ⟨(some 11), none, .mov (.s 1)⟩,
    ⟨(some 12), none, .callv (.c (.fn 20 [])) [(.s 10), (.s 11)]⟩,
    ⟨(some 8), none, .mov (.s 12)⟩,
    ⟨(some 13), none, .extract 0 (.s 8)⟩,
    ⟨(some 14), none, .extract 1 (.s 8)⟩,
    ⟨(some 6), none, .mov (.s 13)⟩,
    ⟨(some 7), none, .mov (.s 14)⟩] [1, 2, 4, 6, 7]
def a11r2 : AC := .reg [⟨(some 16), none, .load 3 true (.s 2)⟩,
    ⟨(some 17), none, .callv (.c (.fn 16 [])) [(.s 16)]⟩,
    ⟨(some 18), none, .not (.s 17)⟩,
    ⟨(some 15), none, .mov (.s 18)⟩] [1, 2, 4, 6, 7, 15]
def a11r3 : AC := .reg [⟨(some 19), none, .build [(.lit (.int .i64 0)), (.lit (.int .i64 0)), (.nils 1)] []⟩,
    ⟨none, none, .store 3 (.s 4) (.s 19)⟩,
    ⟨(some 5), none, .mov (.c (.lit (.int .i64 1)))⟩] [4, 5]
def a11r4 : AC := .reg [⟨(some 21), none, .mov (.s 7)⟩,
    ⟨(some 22), none, .not (.s 21)⟩,
    ⟨(some 20), none, .mov (.s 22)⟩] [1, 2, 4, 6, 20]
def a11r5 : AC := .reg [⟨(some 23), none, .build [(.lit (.int .i64 0)), (.lit (.int .i64 0)), (.nils 1)] []⟩,
    ⟨none, none, .store 3 (.s 4) (.s 23)⟩,
    ⟨(some 5), none, .mov (.c (.lit (.int .i64 5)))⟩] [4, 5]
def a11r6 : AC := .reg [⟨(some 25), none, .faddr 1 (.s 2)⟩,
    ⟨(some 26), none, .load 1 false (.s 25)⟩,
    ⟨(some 27), none, .mov (.s 1)⟩,
    ⟨(some 28), none, .iop .eql (.s 26) (.s 27)⟩,
    ⟨(some 24), none, .mov (.s 28)⟩] [2, 4, 6, 24]
def a11r7 : AC := .reg [⟨(some 29), none, .build [(.lit (.int .i64 0)), (.lit (.int .i64 0)), (.nils 1)] []⟩,
    ⟨none, none, .store 3 (.s 4) (.s 29)⟩,
    ⟨(some 5), none, .mov (.c (.lit (.int .i64 8)))⟩] [4, 5]
def a11r8 : AC := .reg [⟨(some 30), none, .faddr 2 (.s 2)⟩,
    ⟨(some 31), none, .load 1 false (.s 30)⟩,
    ⟨(some 32), none, .callv (.c (.fn 23 [])) [(.s 31)]⟩,
    ⟨(some 33), none, .mov (.s 6)⟩,
    ⟨(some 34), none, .mov (.s 6)⟩,
    ⟨(some 35), none, .iop .add (.s 34) (.c (.lit (.int .i64 1)))⟩,
    ⟨(some 36), none, .callv (.c (.fn 26 [])) [(.s 32), (.s 33), (.s 35)]⟩,
    ⟨(some 37), none, .faddr 2 (.s 2)⟩,
    ⟨none, none, .store 1 (.s 37) (.s 36)⟩] [2, 4]
def a11r9 : AC := .reg [⟨(some 38), none, .load 3 true (.s 2)⟩,
    ⟨none, none, .store 3 (.s 4) (.s 38)⟩,
    ⟨(some 5), none, .mov (.c (.lit (.int .i64 0)))⟩] [4, 5]
def a11 : AC := .seq (a11r0) (.seq (a11r1) (.seq (.block 0 (.seq (a11r2) (.cond (.s 15) (.seq (a11r3) (.ret)) (.seq (a11r4) (.cond (.s 20) (.seq (a11r5) (.ret)) (.seq (a11r6) (.cond (.s 24) (.seq (a11r7) (.ret)) (.skip)))))))) (.seq (a11r8) (.seq (a11r9) (.ret)))))
def a11R : List RD := [.cell 4 3 true, .tmp 5]

/-! colloquy/people.May: slots 32, parameters 1 -/
def a16r0 : AC := .reg [⟨(some 1), none, .box 16001 24 3 (.s 0)⟩,
    ⟨(some 2), none, .mov (.c (.lit (.bool false)))⟩] [1]
def a16r1 : AC := .reg [⟨(some 4), none, .faddr 2 (.s 1)⟩,
    ⟨(some 5), none, .load 1 false (.s 4)⟩,
    ⟨(some 6), none, .len (.s 5)⟩,
    ⟨(some 3), none, .mov (.s 6)⟩] [1, 3]
def a16r2 : AC := .reg [⟨(some 8), none, .faddr 0 (.s 1)⟩,
    ⟨(some 9), none, .load 1 false (.s 8)⟩,
    ⟨(some 10), none, .iop .lss (.s 9) (.c (.lit (.int .i64 1)))⟩,
    ⟨(some 11), none, .mov (.s 10)⟩,
    ⟨(some 12), (some (11, false)), .faddr 0 (.s 1)⟩,
    ⟨(some 13), (some (11, false)), .load 1 false (.s 12)⟩,
    ⟨(some 14), (some (11, false)), .iop .gtr (.s 13) (.c (.lit (.int .i64 1048576)))⟩,
    ⟨(some 15), none, .pick (.s 11) (.c (.lit (.bool true))) (.s 14)⟩,
    ⟨(some 7), none, .mov (.s 15)⟩] [1, 3, 7]
def a16r3 : AC := .reg [⟨(some 16), none, .mov (.s 3)⟩,
    ⟨(some 17), none, .iop .lss (.s 16) (.c (.lit (.int .i64 1)))⟩,
    ⟨(some 18), none, .mov (.s 17)⟩,
    ⟨(some 19), (some (18, false)), .mov (.s 3)⟩,
    ⟨(some 20), (some (18, false)), .iop .gtr (.s 19) (.c (.lit (.int .i64 16)))⟩,
    ⟨(some 21), none, .pick (.s 18) (.c (.lit (.bool true))) (.s 20)⟩,
    ⟨(some 7), none, .mov (.s 21)⟩] [1, 7]
def a16r4 : AC := .reg [⟨(some 2), none, .mov (.c (.lit (.bool false)))⟩] [2]
def a16r5 : AC := .reg [⟨(some 22), none, .faddr 2 (.s 1)⟩,
    ⟨(some 23), none, .load 1 false (.s 22)⟩,
    ⟨(some 24), none, .callv (.c (.fn 21 [])) [(.s 23)]⟩,
    ⟨(some 25), none, .mov (.s 24)⟩,
    ⟨(some 26), (some (25, true)), .faddr 2 (.s 1)⟩,
    ⟨(some 27), (some (25, true)), .load 1 false (.s 26)⟩,
    ⟨(some 28), (some (25, true)), .faddr 1 (.s 1)⟩,
    ⟨(some 29), (some (25, true)), .load 1 false (.s 28)⟩,
    ⟨(some 30), (some (25, true)), .callv (.c (.fn 27 [])) [(.s 27), (.s 29)]⟩,
    ⟨(some 31), none, .pick (.s 25) (.s 30) (.c (.lit (.bool false)))⟩,
    ⟨(some 2), none, .mov (.s 31)⟩] [2]
def a16 : AC := .seq (a16r0) (.seq (.seq (a16r1) (.block 0 (.seq (.seq (a16r2) (.cond (.s 7) (.skip) (a16r3))) (.cond (.s 7) (.seq (a16r4) (.ret)) (.skip))))) (.seq (a16r5) (.ret)))
def a16R : List RD := [.tmp 2]

/-! slices.BinarySearch[[]int,int]: slots 54, parameters 2 -/
def a20r0 : AC := .reg [⟨(some 4), none, .mov (.c (.lit (.int .i64 0)))⟩,
    ⟨(some 5), none, .mov (.c (.lit (.bool false)))⟩] [0, 1]
def a20r1 : AC := .reg [⟨(some 10), none, .mov (.s 0)⟩,
    ⟨(some 11), none, .len (.s 10)⟩,
    ⟨(some 6), none, .mov (.s 11)⟩] [0, 1, 6]
def a20r2 : AC := .reg [⟨(some 12), none, .mov (.s 6)⟩,
    ⟨(some 7), none, .mov (.c (.lit (.int .i64 0)))⟩,
    ⟨(some 8), none, .mov (.s 12)⟩] [0, 1, 6, 7, 8]
def a20r3 : AC := .reg [⟨(some 13), none, .mov (.s 7)⟩,
    ⟨(some 14), none, .mov (.s 8)⟩,
    ⟨(some 15), none, .iop .lss (.s 13) (.s 14)⟩] [0, 1, 6, 7, 8, 15]
def a20r4 : AC := .reg [⟨(some 16), none, .mov (.s 7)⟩,
    ⟨(some 17), none, .mov (.s 8)⟩,
    ⟨(some 18), none, .iop .add (.s 16) (.s 17)⟩,
    ⟨(some 19), none, .conv .u64 (.s 18)⟩,
    ⟨(some 20), none, .iop .shr (.s 19) (.c (.lit (.int .u64 1)))⟩,
    ⟨(some 21), none, .conv .i64 (.s 20)⟩,
    ⟨(some 9), none, .mov (.s 21)⟩] [0, 1, 6, 7, 8, 9]
def a20r5 : AC := .reg [⟨(some 22), none, .mov (.s 0)⟩,
    ⟨(some 23), none, .mov (.s 9)⟩,
    ⟨(some 24), none, .iaddr 1 (.s 22) (.s 23)⟩,
    ⟨(some 25), none, .load 1 false (.s 24)⟩,
    ⟨(some 26), none, .mov (.s 1)⟩,
    ⟨(some 27), none, .callv (.c (.fn 28 [])) [(.s 25), (.s 26)]⟩] [0, 1, 6, 7, 8, 9, 27]
def a20r6 : AC := .reg [⟨(some 28), none, .mov (.s 9)⟩,
    ⟨(some 29), none, .iop .add (.s 28) (.c (.lit (.int .i64 1)))⟩,
    ⟨(some 7), none, .mov (.s 29)⟩] [0, 1, 6, 7, 8]
def a20r7 : AC := .reg [⟨(some 30), none, .mov (.s 9)⟩,
    ⟨(some 8), none, .mov (.s 30)⟩] [0, 1, 6, 7, 8]
def a20L3 : AC := .seq (.seq (a20r3) (.cond (.s 15) (.skip) (.exit 0))) (.block 1 (.seq (a20r4) (.seq (a20r5) (.cond (.s 27) (a20r6) (a20r7)))))
def a20r8 : AC := .reg [⟨(some 31), none, .mov (.s 7)⟩,
    ⟨(some 32), none, .mov (.s 7)⟩,
    ⟨(some 33), none, .mov (.s 6)⟩,
    ⟨(some 34), none, .iop .lss (.s 32) (.s 33)⟩,
    ⟨(some 35), none, .mov (.s 34)⟩,
    ⟨(some 36), (some (35, true)), .mov (.s 0)⟩,
    ⟨(some 37), (some (35, true)), .mov (.s 7)⟩,
    ⟨(some 38), (some (35, true)), .iaddr 1 (.s 36) (.s 37)⟩,
    ⟨(some 39), (some (35, true)), .load 1 false (.s 38)⟩,
    ⟨(some 40), (some (35, true)), .mov (.s 1)⟩,
    ⟨(some 41), (some (35, true)), .iop .eql (.s 39) (.s 40)⟩,
    ⟨(some 42), (some (35, true)), .mov (.s 41)⟩,
    ⟨(some 43), (some (42, false)), .mov (.s 0)⟩,
    ⟨(some 44), (some (42, false)), .mov (.s 7)⟩,
    ⟨(some 45), (some (42, false)), .iaddr 1 (.s 43) (.s 44)⟩,
    ⟨(some 46), (some (42, false)), .load 1 false (.s 45)⟩,
    ⟨(some 47), (some (42, false)), .callv (.c (.fn 29 [])) [(.s 46)]⟩,
    ⟨(some 48), (some (42, false)), .mov (.s 47)⟩,
    ⟨(some 49), (some (48, true)), .mov (.s 1)⟩,
    ⟨(some 50), (some (48, true)), .callv (.c (.fn 29 [])) [(.s 49)]⟩,
    ⟨(some 51), (some (42, false)), .pick (.s 48) (.s 50) (.c (.lit (.bool false)))⟩,
    ⟨(some 52), (some (35, true)), .pick (.s 42) (.c (.lit (.bool true))) (.s 51)⟩,
    ⟨(some 53), none, .pick (.s 35) (.s 52) (.c (.lit (.bool false)))⟩,
    ⟨(some 4), none, .mov (.s 31)⟩,
    ⟨(some 5), none, .mov (.s 53)⟩] [4, 5]
def a20 : AC := .seq (a20r0) (.seq (a20r1) (.seq (a20r2) (.seq (.block 0 (.loop a20L3)) (.seq (a20r8) (.ret)))))
def a20R : List RD := [.tmp 4, .tmp 5]

/-! colloquy/people.rises: slots 21, parameters 1 -/
def a21r0 : AC := .reg [⟨(some 2), none, .mov (.c (.lit (.bool false)))⟩] [0]
def a21r1 : AC := .reg [⟨(some 3), none, .mov (.c (.lit (.int .i64 0)))⟩] [0, 3]
def a21r2 : AC := .reg [⟨(some 6), none, .mov (.s 0)⟩,
    ⟨(some 7), none, .len (.s 6)⟩,
    ⟨(some 8), none, .mov (.c (.lit (.int .i64 0)))⟩] [3, 6, 7, 8]
def a21r3 : AC := .reg [⟨(some 9), none, .iop .lss (.s 8) (.s 7)⟩] [3, 6, 7, 8, 9]
def a21r4 : AC := .reg [⟨(some 10), none, .iaddr 1 (.s 6) (.s 8)⟩,
    ⟨(some 11), none, .load 1 false (.s 10)⟩,
    ⟨(some 5), none, .mov (.s 11)⟩] [3, 5, 6, 7, 8]
def a21r5 : AC := .reg [⟨(some 12), none, .mov (.s 5)⟩,
    ⟨(some 13), none, .mov (.s 3)⟩,
    ⟨(some 14), none, .iop .leq (.s 12) (.s 13)⟩,
    ⟨(some 15), none, .mov (.s 14)⟩,
    ⟨(some 16), (some (15, false)), .mov (.s 5)⟩,
    ⟨(some 17), (some (15, false)), .iop .gtr (.s 16) (.c (.lit (.int .i64 1048576)))⟩,
    ⟨(some 18), none, .pick (.s 15) (.c (.lit (.bool true))) (.s 17)⟩] [5, 6, 7, 8, 18]
def a21r6 : AC := .reg [⟨(some 2), none, .mov (.c (.lit (.bool false)))⟩] [2]
def a21r7 : AC := .reg [⟨(some 19), none, .mov (.s 5)⟩,
    ⟨(some 3), none, .mov (.s 19)⟩] [3, 6, 7, 8]
def a21r8 : AC := .reg [⟨(some 20), none, .iop .add (.s 8) (.c (.lit (.int .i64 1)))⟩,
    ⟨(some 8), none, .mov (.s 20)⟩] [3, 6, 7, 8]
def a21L3 : AC := .seq (a21r3) (.seq (.cond (.s 9) (.skip) (.exit 0)) (.seq (.block 1 (.seq (a21r4) (.seq (.seq (a21r5) (.cond (.s 18) (.seq (a21r6) (.ret)) (.skip))) (a21r7)))) (a21r8)))
def a21r9 : AC := .reg [⟨(some 2), none, .mov (.c (.lit (.bool true)))⟩] [2]
def a21 : AC := .seq (a21r0) (.seq (a21r1) (.seq (.seq (a21r2) (.block 0 (.loop a21L3))) (.seq (a21r9) (.ret))))
def a21R : List RD := [.tmp 2]

/-! slices.Clone[[]int,int]: slots 8, parameters 1 -/
def a23r0 : AC := .reg [⟨(some 2), none, .mov (.c (.nils 1))⟩] [0]
def a23r1 : AC := .reg [⟨(some 3), none, .mov (.s 0)⟩,
    ⟨(some 4), none, .ext 6 [] [(.s 3)]⟩] [0, 4]
def a23r2 : AC := .reg [⟨(some 2), none, .mov (.c (.nils 1))⟩] [2]
def a23r3 : AC := .reg [⟨(some 5), none, .bslice 23005 3 1 []⟩,
    ⟨(some 6), none, .mov (.s 0)⟩,
    ⟨(some 7), none, .append 23007 3 1 8 (.s 5) (.s 6)⟩,
    ⟨(some 2), none, .mov (.s 7)⟩] [2]
def a23 : AC := .seq (a23r0) (.seq (.seq (a23r1) (.cond (.s 4) (.seq (a23r2) (.ret)) (.skip))) (.seq (a23r3) (.ret)))
def a23R : List RD := [.tmp 2]

/-! slices.Contains[[]int,int]: slots 9, parameters 2 -/
def a27r0 : AC := .reg [⟨(some 4), none, .mov (.c (.lit (.bool false)))⟩] [0, 1]
def a27r1 : AC := .reg [⟨(some 5), none, .mov (.s 0)⟩,
    ⟨(some 6), none, .mov (.s 1)⟩,
    ⟨(some 7), none, .callv (.c (.fn 32 [])) [(.s 5), (.s 6)]⟩,
    ⟨(some 8), none, .iop .geq (.s 7) (.c (.lit (.int .i64 0)))⟩,
    ⟨(some 4), none, .mov (.s 8)⟩] [4]
def a27 : AC := .seq (a27r0) (.seq (a27r1) (.ret))
def a27R : List RD := [.tmp 4]

/-! cmp.Less[int]: slots 17, parameters 2 -/
def a28r0 : AC := .reg [⟨(some 4), none, .mov (.c (.lit (.bool false)))⟩] [0, 1]
def a28r1 : AC := .reg [⟨(some 5), none, .mov (.s 0)⟩,
    ⟨(some 6), none, .callv (.c (.fn 33 [])) [(.s 5)]⟩,
    ⟨(some 7), none, .mov (.s 6)⟩,
    ⟨(some 8), (some (7, true)), .mov (.s 1)⟩,
    ⟨(some 9), (some (7, true)), .callv (.c (.fn 33 [])) [(.s 8)]⟩,
    ⟨(some 10), (some (7, true)), .not (.s 9)⟩,
    ⟨(some 11), none, .pick (.s 7) (.s 10) (.c (.lit (.bool false)))⟩,
    ⟨(some 12), none, .mov (.s 11)⟩,
    ⟨(some 13), (some (12, false)), .mov (.s 0)⟩,
    ⟨(some 14), (some (12, false)), .mov (.s 1)⟩,
    ⟨(some 15), (some (12, false)), .iop .lss (.s 13) (.s 14)⟩,
    ⟨(some 16), none, .pick (.s 12) (.c (.lit (.bool true))) (.s 15)⟩,
    ⟨(some 4), none, .mov (.s 16)⟩] [4]
def a28 : AC := .seq (a28r0) (.seq (a28r1) (.ret))
def a28R : List RD := [.tmp 4]

/-! slices.isNaN[int]: slots 6, parameters 1 -/
def a29r0 : AC := .reg [⟨(some 2), none, .mov (.c (.lit (.bool false)))⟩] [0]
def a29r1 : AC := .reg [⟨(some 3), none, .mov (.s 0)⟩,
    ⟨(some 4), none, .mov (.s 0)⟩,
    ⟨(some 5), none, .iop .neq (.s 3) (.s 4)⟩,
    ⟨(some 2), none, .mov (.s 5)⟩] [2]
def a29 : AC := .seq (a29r0) (.seq (a29r1) (.ret))
def a29R : List RD := [.tmp 2]

/-! slices.Index[[]int,int]: slots 19, parameters 2 -/
def a32r0 : AC := .reg [⟨(some 4), none, .mov (.c (.lit (.int .i64 0)))⟩] [0, 1]
def a32r1 : AC := .reg [⟨(some 6), none, .mov (.s 0)⟩,
    ⟨(some 7), none, .len (.s 6)⟩,
    ⟨(some 8), none, .mov (.c (.lit (.int .i64 0)))⟩] [0, 1, 7, 8]
def a32r2 : AC := .reg [⟨(some 9), none, .iop .lss (.s 8) (.s 7)⟩] [0, 1, 7, 8, 9]
def a32r3 : AC := .reg [⟨(some 10), none, .mov (.s 8)⟩,
    ⟨(some 5), none, .mov (.s 10)⟩] [0, 1, 5, 7, 8]
def a32r4 : AC := .reg [⟨(some 11), none, .mov (.s 1)⟩,
    ⟨(some 12), none, .mov (.s 0)⟩,
    ⟨(some 13), none, .mov (.s 5)⟩,
    ⟨(some 14), none, .iaddr 1 (.s 12) (.s 13)⟩,
    ⟨(some 15), none, .load 1 false (.s 14)⟩,
    ⟨(some 16), none, .iop .eql (.s 11) (.s 15)⟩] [0, 1, 5, 7, 8, 16]
def a32r5 : AC := .reg [⟨(some 17), none, .mov (.s 5)⟩,
    ⟨(some 4), none, .mov (.s 17)⟩] [4]
def a32r6 : AC := .reg [⟨(some 18), none, .iop .add (.s 8) (.c (.lit (.int .i64 1)))⟩,
    ⟨(some 8), none, .mov (.s 18)⟩] [0, 1, 7, 8]
def a32L2 : AC := .seq (a32r2) (.seq (.cond (.s 9) (.skip) (.exit 0)) (.seq (.block 1 (.seq (a32r3) (.seq (a32r4) (.cond (.s 16) (.seq (a32r5) (.ret)) (.skip))))) (a32r6)))
def a32r7 : AC := .reg [⟨(some 4), none, .mov (.c (.lit (.int .i64 (-1))))⟩] [4]
def a32 : AC := .seq (a32r0) (.seq (.seq (a32r1) (.block 0 (.loop a32L2))) (.seq (a32r7) (.ret)))
def a32R : List RD := [.tmp 4]

/-! cmp.isNaN[int]: slots 6, parameters 1 -/
def a33r0 : AC := .reg [⟨(some 2), none, .mov (.c (.lit (.bool false)))⟩] [0]
def a33r1 : AC := .reg [⟨(some 3), none, .mov (.s 0)⟩,
    ⟨(some 4), none, .mov (.s 0)⟩,
    ⟨(some 5), none, .iop .neq (.s 3) (.s 4)⟩,
    ⟨(some 2), none, .mov (.s 5)⟩] [2]
def a33 : AC := .seq (a33r0) (.seq (a33r1) (.ret))
def a33R : List RD := [.tmp 2]

/-! slices.Insert[[]int,int]: slots 95, parameters 3 -/
def a22r0 : AC := .reg [⟨(some 6), none, .mov (.c (.nils 1))⟩] [0, 1, 2]
def a22r1 : AC := .reg [⟨(some 10), none, .mov (.s 0)⟩,
    ⟨(some 11), none, .mov (.s 1)⟩,
    ⟨(some 12), none, .slice 1 (.s 10) (some (.s 11)) none⟩] [0, 1, 2]
def a22r2 : AC := .reg [⟨(some 13), none, .mov (.s 2)⟩,
    ⟨(some 14), none, .len (.s 13)⟩,
    ⟨(some 7), none, .mov (.s 14)⟩] [0, 1, 2, 7]
def a22r3 : AC := .reg [⟨(some 15), none, .mov (.s 7)⟩,
    ⟨(some 16), none, .iop .eql (.s 15) (.c (.lit (.int .i64 0)))⟩] [0, 1, 2, 7, 16]
def a22r4 : AC := .reg [⟨(some 17), none, .mov (.s 0)⟩,
    ⟨(some 6), none, .mov (.s 17)⟩] [6]
def a22r5 : AC := .reg [⟨(some 18), none, .mov (.s 0)⟩,
    ⟨(some 19), none, .len (.s 18)⟩,
    ⟨(some 8), none, .mov (.s 19)⟩] [0, 1, 2, 7, 8]
def a22r6 : AC := .reg [⟨(some 20), none, .mov (.s 1)⟩,
    ⟨(some 21), none, .mov (.s 8)⟩,
    ⟨(some 22), none, .iop .eql (.s 20) (.s 21)⟩] [0, 1, 2, 7, 8, 22]
def a22r7 : AC := .reg [⟨(some 23), none, .mov (.s 0)⟩,
    ⟨(some 24), none, .mov (.s 2)⟩,
    ⟨(some 25), none, .append 22025 3 1 8 (.s 23) (.s 24)⟩,
    ⟨(some 6), none, .mov (.s 25)⟩] [6]
def a22r8 : AC := .reg [⟨(some 26), none, .mov (.s 8)⟩,
    ⟨(some 27), none, .mov (.s 7)⟩,
    ⟨(some 28), none, .iop .add (.s 26) (.s 27)⟩,
    ⟨(some 29), none, .mov (.s 0)⟩,
    ⟨(some 30), none, .ext 0 [] [(.s 29)]⟩,
    ⟨(some 31), none, .iop .gtr (.s 28) (.s 30)⟩] [0, 1, 2, 7, 8, 31]
def a22r9 : AC := .reg [⟨(some 32), none, .mov (.s 0)⟩,
    ⟨(some 33), none, .mov (.s 1)⟩,
    ⟨(some 34), none, .slice 1 (.s 32) none (some (.s 33))⟩,
    ⟨(some 35), none, .mov (.s 8)⟩,
    ⟨(some 36), none, .mov (.s 7)⟩,
    ⟨(some 37), none, .iop .add (.s 35) (.s 36)⟩,
    ⟨(some 38), none, .mov (.s 1)⟩,
    ⟨(some 39), none, .iop .sub (.s 37) (.s 38)⟩,
    ⟨(some 40), none, .ext 3 [3, 1, 8] [(.s 34), (.s 39)]⟩,
    ⟨(some 9), none, .mov (.s 40)⟩] [0, 1, 2, 7, 9]
def a22r10 : AC := .reg [⟨(some 41), none, .mov (.s 9)⟩,
    ⟨(some 42), none, .mov (.s 1)⟩,
    ⟨(some 43), none, .slice 1 (.s 41) (some (.s 42)) none⟩,
    ⟨(some 44), none, .mov (.s 2)⟩,
    ⟨(some 45), none, .ext 1 [3, 1, 8] [(.s 43), (.s 44)]⟩] [0, 1, 7, 9]
def a22r11 : AC := .draw [22040] (.take 0 ⟨(some 46), none, .mov (.s 9)⟩ <|
    .take 1 ⟨(some 47), none, .mov (.s 1)⟩ <|
    .take 2 ⟨(some 48), none, .mov (.s 7)⟩ <|
    .take 3 ⟨(some 49), none, .iop .add (.s 47) (.s 48)⟩ <|
    .take 4 ⟨(some 50), none, .slice 1 (.s 46) (some (.s 49)) none⟩ <|
    .take 5 ⟨(some 51), none, .mov (.s 0)⟩ <|
    .take 6 ⟨(some 52), none, .mov (.s 1)⟩ <|
    .take 7 ⟨(some 53), none, .slice 1 (.s 51) (some (.s 52)) none⟩ <|
    .alt 8 ⟨(some 54), none, .ext 1 [3, 1, 8] [(.s 50), (.s 53)]⟩ (
    .done) .done) [9]
def a22r12 : AC := .reg [⟨(some 55), none, .mov (.s 9)⟩,
    ⟨(some 6), none, .mov (.s 55)⟩] [6]
def a22r13 : AC := .reg [⟨(some 56), none, .mov (.s 0)⟩,
    ⟨(some 57), none, .mov (.s 8)⟩,
    ⟨(some 58), none, .mov (.s 7)⟩,
    ⟨(some 59), none, .iop .add (.s 57) (.s 58)⟩,
    ⟨(some 60), none, .slice 1 (.s 56) none (some (.s 59))⟩,
    ⟨(some 0), none, .mov (.s 60)⟩] [0, 1, 2, 7, 8]
def a22r14 : AC := .reg [⟨(some 61), none, .mov (.s 2)⟩,
    ⟨(some 62), none, .mov (.s 0)⟩,
    ⟨(some 63), none, .mov (.s 1)⟩,
    ⟨(some 64), none, .mov (.s 7)⟩,
    ⟨(some 65), none, .iop .add (.s 63) (.s 64)⟩,
    ⟨(some 66), none, .slice 1 (.s 62) (some (.s 65)) none⟩,
    ⟨(some 67), none, .ext 7 [30] [(.s 61), (.s 66)]⟩,
    ⟨(some 68), none, .not (.s 67)⟩] [0, 1, 2, 7, 8, 68]
def a22r15 : AC := .draw [23005] (.take 0 ⟨(some 69), none, .mov (.s 0)⟩ <|
    .take 1 ⟨(some 70), none, .mov (.s 1)⟩ <|
    .take 2 ⟨(some 71), none, .mov (.s 7)⟩ <|
    .take 3 ⟨(some 72), none, .iop .add (.s 70) (.s 71)⟩ <|
    .take 4 ⟨(some 73), none, .slice 1 (.s 69) (some (.s 72)) none⟩ <|
    .take 5 ⟨(some 74), none, .mov (.s 0)⟩ <|
    .take 6 ⟨(some 75), none, .mov (.s 1)⟩ <|
    .take 7 ⟨(some 76), none, .slice 1 (.s 74) (some (.s 75)) none⟩ <|
    .alt 8 ⟨(some 77), none, .ext 1 [3, 1, 8] [(.s 73), (.s 76)]⟩ (
    .done) .done) [0, 1, 2]
def a22r16 : AC := .reg [⟨(some 78), none, .mov (.s 0)⟩,
    ⟨(some 79), none, .mov (.s 1)⟩,
    ⟨(some 80), none, .slice 1 (.s 78) (some (.s 79)) none⟩,
    ⟨(some 81), none, .mov (.s 2)⟩,
    ⟨(some 82), none, .ext 1 [3, 1, 8] [(.s 80), (.s 81)]⟩] [0]
def a22r17 : AC := .reg [⟨(some 83), none, .mov (.s 0)⟩,
    ⟨(some 6), none, .mov (.s 83)⟩] [6]
def a22r18 : AC := .reg [⟨(some 84), none, .mov (.s 0)⟩,
    ⟨(some 85), none, .mov (.s 8)⟩,
    ⟨(some 86), none, .slice 1 (.s 84) (some (.s 85)) none⟩,
    ⟨(some 87), none, .mov (.s 2)⟩,
    ⟨(some 88), none, .ext 1 [3, 1, 8] [(.s 86), (.s 87)]⟩] [0, 1, 7]
def a22r19 : AC := .reg [⟨(some 89), none, .mov (.s 0)⟩,
    ⟨(some 90), none, .mov (.s 1)⟩,
    ⟨(some 91), none, .slice 1 (.s 89) (some (.s 90)) none⟩,
    ⟨(some 92), none, .mov (.s 7)⟩,
    ⟨(some 93), none, .callv (.c (.fn 31 [])) [(.s 91), (.s 92)]⟩] [0]
def a22r20 : AC := .reg [⟨(some 94), none, .mov (.s 0)⟩,
    ⟨(some 6), none, .mov (.s 94)⟩] [6]
def a22 : AC := .seq (a22r0) (.seq (a22r1) (.seq (a22r2) (.seq (.seq (a22r3) (.cond (.s 16) (.seq (a22r4) (.ret)) (.skip))) (.seq (a22r5) (.seq (.seq (a22r6) (.cond (.s 22) (.seq (a22r7) (.ret)) (.skip))) (.seq (.seq (a22r8) (.cond (.s 31) (.seq (a22r9) (.seq (a22r10) (.seq (a22r11) (.seq (a22r12) (.ret))))) (.skip))) (.seq (a22r13) (.seq (.seq (a22r14) (.cond (.s 68) (.seq (a22r15) (.seq (a22r16) (.seq (a22r17) (.ret)))) (.skip))) (.seq (a22r18) (.seq (a22r19) (.seq (a22r20) (.ret))))))))))))
def a22R : List RD := [.tmp 6]

/-! slices.Delete[[]int,int]: slots 33, parameters 3 -/
def a26r0 : AC := .reg [⟨(some 6), none, .mov (.c (.nils 1))⟩] [0, 1, 2]
def a26r1 : AC := .reg [⟨(some 8), none, .mov (.s 0)⟩,
    ⟨(some 9), none, .mov (.s 1)⟩,
    ⟨(some 10), none, .mov (.s 2)⟩,
    ⟨(some 11), none, .mov (.s 0)⟩,
    ⟨(some 12), none, .len (.s 11)⟩,
    ⟨(some 13), none, .ext 5 [] [(.s 8), (.s 9), (.s 10), (.s 12)]⟩] [0, 1, 2]
def a26r2 : AC := .reg [⟨(some 14), none, .mov (.s 1)⟩,
    ⟨(some 15), none, .mov (.s 2)⟩,
    ⟨(some 16), none, .iop .eql (.s 14) (.s 15)⟩] [0, 1, 2, 16]
def a26r3 : AC := .reg [⟨(some 17), none, .mov (.s 0)⟩,
    ⟨(some 6), none, .mov (.s 17)⟩] [6]
def a26r4 : AC := .reg [⟨(some 18), none, .mov (.s 0)⟩,
    ⟨(some 19), none, .len (.s 18)⟩,
    ⟨(some 7), none, .mov (.s 19)⟩] [0, 1, 2, 7]
def a26r5 : AC := .draw [23005] (.take 0 ⟨(some 20), none, .mov (.s 0)⟩ <|
    .take 1 ⟨(some 21), none, .mov (.s 1)⟩ <|
    .take 2 ⟨(some 22), none, .slice 1 (.s 20) none (some (.s 21))⟩ <|
    .take 3 ⟨(some 23), none, .mov (.s 0)⟩ <|
    .take 4 ⟨(some 24), none, .mov (.s 2)⟩ <|
    .take 5 ⟨(some 25), none, .slice 1 (.s 23) (some (.s 24)) none⟩ <|
    .alt 6 ⟨(some 26), none, .ext 4 [3, 1, 8] [(.s 22), (.s 25)]⟩ (
    .take 7 ⟨(some 0), none, .mov (.s 26)⟩ <|
    .done) .done) [0, 7]
def a26r6 : AC := .reg [⟨(some 27), none, .mov (.s 0)⟩,
    ⟨(some 28), none, .mov (.s 0)⟩,
    ⟨(some 29), none, .len (.s 28)⟩,
    ⟨(some 30), none, .mov (.s 7)⟩,
    ⟨(some 31), none, .slice 1 (.s 27) (some (.s 29)) (some (.s 30))⟩,
    ⟨none, none, .ext 2 [3, 1, 8] [(.s 31)]⟩] [0]
def a26r7 : AC := .reg [⟨(some 32), none, .mov (.s 0)⟩,
    ⟨(some 6), none, .mov (.s 32)⟩] [6]
def a26 : AC := .seq (a26r0) (.seq (a26r1) (.seq (.seq (a26r2) (.cond (.s 16) (.seq (a26r3) (.ret)) (.skip))) (.seq (a26r4) (.seq (a26r5) (.seq (a26r6) (.seq (a26r7) (.ret)))))))
def a26R : List RD := [.tmp 6]

end Go.Proofs.Ytffeomfcjmmgoaa.F
