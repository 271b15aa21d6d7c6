/- The code of chapter 16's functions, as data. Printed by Gen.lean. -/
import Derived.Test.YtifpfpiljionmaaDoorSxK
namespace Go.Proofs.YtifpfpiljionmaaDoor.F
open Go Go.SX

/-! colloquy/colloquylaw16.PostsDo: slots 53, parameters 2 -/
def a3r0 : AC := .reg [⟨(some 3), none, .box 3003 24 5 (.s 1)⟩,
    ⟨(some 4), none, .mov (.c (.lit (.bool false)))⟩] [0, 3]
def a3r1 : AC := .reg [⟨(some 12), none, .callv (.c (.fn 9 [])) []⟩,
    ⟨(some 5), none, .mov (.s 12)⟩] [0, 3, 5]
def a3r2 : AC := .reg [⟨(some 13), none, .mov (.s 0)⟩,
    ⟨(some 14), none, .callv (.c (.fn 10 [])) [(.s 13)]⟩,
    ⟨(some 6), none, .mov (.s 14)⟩] [0, 3, 5, 6]
def a3r3 : AC := .reg [⟨(some 15), none, .mov (.s 5)⟩,
    ⟨(some 16), none, .not (.s 15)⟩,
    ⟨(some 17), none, .mov (.s 16)⟩,
    ⟨(some 18), (some (17, false)), .mov (.s 6)⟩,
    ⟨(some 19), (some (17, false)), .not (.s 18)⟩,
    ⟨(some 20), none, .pick (.s 17) (.c (.lit (.bool true))) (.s 19)⟩,
    ⟨(some 21), none, .mov (.s 20)⟩,
    ⟨(some 22), (some (21, false)), .faddr 4 (.s 3)⟩,
    ⟨(some 23), (some (21, false)), .load 1 false (.s 22)⟩,
    ⟨(some 24), (some (21, false)), .slen (.s 23)⟩,
    ⟨(some 25), (some (21, false)), .iop .gtr (.s 24) (.c (.lit (.int .i64 200)))⟩,
    ⟨(some 26), none, .pick (.s 21) (.c (.lit (.bool true))) (.s 25)⟩] [0, 3, 5, 26]
def a3r4 : AC := .reg [⟨(some 27), none, .mov (.s 5)⟩,
    ⟨(some 4), none, .mov (.s 27)⟩] [4]
def a3r5 : AC := .reg [⟨(some 29), none, .mov (.s 0)⟩,
    ⟨(some 30), none, .load 5 true (.s 3)⟩,
    ⟨(some 31), none, .callv (.c (.fn 11 [])) [(.s 29), (.s 30)]⟩,
    ⟨(some 28), none, .mov (.s 31)⟩,
    ⟨(some 32), none, .extract 0 (.s 28)⟩,
    ⟨(some 33), none, .extract 1 (.s 28)⟩,
    ⟨(some 7), none, .mov (.s 32)⟩,
    ⟨(some 8), none, .mov (.s 33)⟩] [0, 3, 7, 8]
def a3r6 : AC := .reg [⟨(some 35), none, .mov (.s 0)⟩,
    ⟨(some 36), none, .load 5 true (.s 3)⟩,
    ⟨(some 37), none, .callv (.c (.fn 12 [])) [(.s 35), (.s 36)]⟩,
    ⟨(some 34), none, .mov (.s 37)⟩,
    ⟨(some 38), none, .extract 0 (.s 34)⟩,
    ⟨(some 39), none, .extract 1 (.s 34)⟩,
    ⟨(some 9), none, .mov (.s 38)⟩,
    ⟨(some 10), none, .mov (.s 39)⟩] [7, 8, 9, 10]
def a3r7 : AC := .reg [⟨(some 40), none, .mov (.s 7)⟩,
    ⟨(some 41), none, .mov (.s 9)⟩,
    ⟨(some 42), none, .callv (.c (.fn 13 [])) [(.s 40), (.s 41)]⟩,
    ⟨(some 11), none, .mov (.s 42)⟩] [7, 8, 10, 11]
def a3r8 : AC := .reg [⟨(some 43), none, .mov (.s 11)⟩,
    ⟨(some 44), none, .mov (.s 43)⟩,
    ⟨(some 45), (some (44, true)), .mov (.s 8)⟩,
    ⟨(some 46), (some (44, true)), .mov (.s 10)⟩,
    ⟨(some 47), (some (44, true)), .iop .eql (.s 45) (.s 46)⟩,
    ⟨(some 48), none, .pick (.s 44) (.s 47) (.c (.lit (.bool false)))⟩,
    ⟨(some 49), none, .mov (.s 48)⟩,
    ⟨(some 50), (some (49, true)), .mov (.s 7)⟩,
    ⟨(some 51), (some (49, true)), .callv (.c (.fn 14 [])) [(.s 50)]⟩,
    ⟨(some 52), none, .pick (.s 49) (.s 51) (.c (.lit (.bool false)))⟩,
    ⟨(some 4), none, .mov (.s 52)⟩] [4]
def a3 : AC := .seq (a3r0) (.seq (a3r1) (.seq (a3r2) (.seq (.seq (a3r3) (.cond (.s 26) (.seq (a3r4) (.ret)) (.skip))) (.seq (a3r5) (.seq (a3r6) (.seq (a3r7) (.seq (a3r8) (.ret))))))))
def a3R : List RD := [.tmp 4]

/-! colloquy/colloquylaw16.PostsPage: slots 100, parameters 2 -/
def a4r0 : AC := .reg [⟨(some 4), none, .mov (.c (.lit (.bool false)))⟩] [0, 1]
def a4r1 : AC := .reg [⟨(some 15), none, .callv (.c (.fn 9 [])) []⟩,
    ⟨(some 5), none, .mov (.s 15)⟩] [0, 1, 5]
def a4r2 : AC := .reg [⟨(some 16), none, .mov (.s 0)⟩,
    ⟨(some 17), none, .callv (.c (.fn 10 [])) [(.s 16)]⟩,
    ⟨(some 6), none, .mov (.s 17)⟩] [0, 1, 5, 6]
def a4r3 : AC := .reg [⟨(some 18), none, .mov (.s 5)⟩,
    ⟨(some 19), none, .not (.s 18)⟩,
    ⟨(some 20), none, .mov (.s 19)⟩,
    ⟨(some 21), (some (20, false)), .mov (.s 6)⟩,
    ⟨(some 22), (some (20, false)), .not (.s 21)⟩,
    ⟨(some 23), none, .pick (.s 20) (.c (.lit (.bool true))) (.s 22)⟩,
    ⟨(some 24), none, .mov (.s 23)⟩,
    ⟨(some 25), (some (24, false)), .mov (.s 0)⟩,
    ⟨(some 26), (some (24, false)), .callv (.c (.fn 14 [])) [(.s 25)]⟩,
    ⟨(some 27), (some (24, false)), .not (.s 26)⟩,
    ⟨(some 28), none, .pick (.s 24) (.c (.lit (.bool true))) (.s 27)⟩,
    ⟨(some 29), none, .mov (.s 28)⟩,
    ⟨(some 30), (some (29, false)), .mov (.s 1)⟩,
    ⟨(some 31), (some (29, false)), .iop .lss (.s 30) (.c (.lit (.int .i64 1)))⟩,
    ⟨(some 32), none, .pick (.s 29) (.c (.lit (.bool true))) (.s 31)⟩,
    ⟨(some 33), none, .mov (.s 32)⟩,
    ⟨(some 34), (some (33, false)), .mov (.s 1)⟩,
    ⟨(some 35), (some (33, false)), .iop .gtr (.s 34) (.c (.lit (.int .i64 50)))⟩,
    ⟨(some 36), none, .pick (.s 33) (.c (.lit (.bool true))) (.s 35)⟩] [0, 1, 5, 36]
def a4r4 : AC := .reg [⟨(some 37), none, .mov (.s 5)⟩,
    ⟨(some 4), none, .mov (.s 37)⟩] [4]
def a4r5 : AC := .reg [⟨(some 7), none, .mov (.c (.nils 5))⟩] [0, 1, 7]
def a4r6 : AC := .reg [⟨(some 8), none, .mov (.c (.lit (.int .i64 0)))⟩] [0, 1, 7, 8]
def a4r7 : AC := .reg [⟨(some 38), none, .mov (.s 8)⟩,
    ⟨(some 39), none, .mov (.s 0)⟩,
    ⟨(some 40), none, .len (.s 39)⟩,
    ⟨(some 41), none, .iop .lss (.s 38) (.s 40)⟩] [0, 1, 7, 8, 41]
def a4r9 : AC := .reg [⟨(some 44), none, .mov (.s 0)⟩,
    ⟨(some 45), none, .mov (.s 8)⟩,
    ⟨(some 46), none, .iaddr 5 (.s 44) (.s 45)⟩,
    ⟨(some 47), none, .faddr 4 (.s 46)⟩,
    ⟨(some 48), none, .load 1 false (.s 47)⟩,
    ⟨(some 49), none, .not (.s 48)⟩] [0, 1, 7, 8, 49]
def a4r10 : AC := .reg [⟨(some 50), none, .mov (.s 7)⟩,
    ⟨(some 51), none, .mov (.s 0)⟩,
    ⟨(some 52), none, .mov (.s 8)⟩,
    ⟨(some 53), none, .iaddr 5 (.s 51) (.s 52)⟩,
    ⟨(some 54), none, .load 5 true (.s 53)⟩,
    ⟨(some 55), none, .bslice 4055 33 5 [(.s 54)]⟩,
    ⟨(some 56), none, .append 4056 33 5 48 (.s 50) (.s 55)⟩,
    ⟨(some 7), none, .mov (.s 56)⟩] [0, 1, 7, 8]
def a4r8 : AC := .reg [⟨(some 42), none, .mov (.s 8)⟩,
    ⟨(some 43), none, .iop .add (.s 42) (.c (.lit (.int .i64 1)))⟩,
    ⟨(some 8), none, .mov (.s 43)⟩] [0, 1, 7, 8]
def a4L7 : AC := .seq (.seq (a4r7) (.cond (.s 41) (.skip) (.exit 0))) (.seq (.block 1 (.seq (a4r9) (.cond (.s 49) (a4r10) (.skip)))) (a4r8))
def a4r11 : AC := .reg [⟨(some 9), none, .mov (.c (.nils 5))⟩] [0, 1, 7, 9]
def a4r12 : AC := .reg [⟨(some 10), none, .mov (.c (.lit (.int .i64 1)))⟩] [0, 1, 7, 9, 10]
def a4r13 : AC := .reg [⟨(some 11), none, .mov (.c (.lit (.int .i64 0)))⟩] [0, 1, 7, 9, 10, 11]
def a4r14 : AC := .reg [⟨(some 57), none, .mov (.s 11)⟩,
    ⟨(some 58), none, .mov (.s 0)⟩,
    ⟨(some 59), none, .len (.s 58)⟩,
    ⟨(some 60), none, .iop .leq (.s 57) (.s 59)⟩,
    ⟨(some 61), none, .mov (.s 60)⟩,
    ⟨(some 62), (some (61, true)), .mov (.s 10)⟩,
    ⟨(some 63), (some (61, true)), .iop .gtr (.s 62) (.c (.lit (.int .i64 0)))⟩,
    ⟨(some 64), none, .pick (.s 61) (.s 63) (.c (.lit (.bool false)))⟩] [0, 1, 7, 9, 10, 11, 64]
def a4r16 : AC := .reg [⟨(some 68), none, .mov (.s 0)⟩,
    ⟨(some 69), none, .mov (.s 10)⟩,
    ⟨(some 70), none, .mov (.s 1)⟩,
    ⟨(some 71), none, .callv (.c (.fn 15 [])) [(.s 68), (.s 69), (.s 70)]⟩,
    ⟨(some 67), none, .mov (.s 71)⟩,
    ⟨(some 72), none, .extract 0 (.s 67)⟩,
    ⟨(some 73), none, .extract 1 (.s 67)⟩,
    ⟨(some 12), none, .mov (.s 72)⟩,
    ⟨(some 13), none, .mov (.s 73)⟩] [0, 1, 7, 9, 11, 12, 13]
def a4r17 : AC := .reg [⟨(some 74), none, .mov (.s 12)⟩,
    ⟨(some 75), none, .len (.s 74)⟩,
    ⟨(some 76), none, .mov (.s 1)⟩,
    ⟨(some 77), none, .iop .gtr (.s 75) (.s 76)⟩,
    ⟨(some 78), none, .mov (.s 77)⟩,
    ⟨(some 79), (some (78, false)), .mov (.s 13)⟩,
    ⟨(some 80), (some (78, false)), .iop .gtr (.s 79) (.c (.lit (.int .i64 0)))⟩,
    ⟨(some 81), (some (78, false)), .mov (.s 80)⟩,
    ⟨(some 82), (some (81, true)), .mov (.s 12)⟩,
    ⟨(some 83), (some (81, true)), .len (.s 82)⟩,
    ⟨(some 84), (some (81, true)), .mov (.s 1)⟩,
    ⟨(some 85), (some (81, true)), .iop .neq (.s 83) (.s 84)⟩,
    ⟨(some 86), (some (78, false)), .pick (.s 81) (.s 85) (.c (.lit (.bool false)))⟩,
    ⟨(some 87), none, .pick (.s 78) (.c (.lit (.bool true))) (.s 86)⟩] [0, 1, 7, 9, 11, 12, 13, 87]
def a4r18 : AC := .reg [⟨(some 4), none, .mov (.c (.lit (.bool false)))⟩] [4]
def a4r19 : AC := .reg [⟨(some 88), none, .mov (.s 9)⟩,
    ⟨(some 89), none, .mov (.s 12)⟩,
    ⟨(some 90), none, .append 4090 33 5 48 (.s 88) (.s 89)⟩,
    ⟨(some 9), none, .mov (.s 90)⟩] [0, 1, 7, 9, 11, 13]
def a4r20 : AC := .reg [⟨(some 91), none, .mov (.s 13)⟩,
    ⟨(some 10), none, .mov (.s 91)⟩] [0, 1, 7, 9, 10, 11]
def a4r15 : AC := .reg [⟨(some 65), none, .mov (.s 11)⟩,
    ⟨(some 66), none, .iop .add (.s 65) (.c (.lit (.int .i64 1)))⟩,
    ⟨(some 11), none, .mov (.s 66)⟩] [0, 1, 7, 9, 10, 11]
def a4L14 : AC := .seq (.seq (a4r14) (.cond (.s 64) (.skip) (.exit 2))) (.seq (.block 3 (.seq (a4r16) (.seq (.seq (a4r17) (.cond (.s 87) (.seq (a4r18) (.ret)) (.skip))) (.seq (a4r19) (a4r20))))) (a4r15))
def a4r21 : AC := .reg [⟨(some 92), none, .mov (.s 9)⟩,
    ⟨(some 93), none, .mov (.s 7)⟩,
    ⟨(some 94), none, .callv (.c (.fn 13 [])) [(.s 92), (.s 93)]⟩,
    ⟨(some 14), none, .mov (.s 94)⟩] [10, 14]
def a4r22 : AC := .reg [⟨(some 95), none, .mov (.s 14)⟩,
    ⟨(some 96), none, .mov (.s 95)⟩,
    ⟨(some 97), (some (96, true)), .mov (.s 10)⟩,
    ⟨(some 98), (some (96, true)), .iop .eql (.s 97) (.c (.lit (.int .i64 0)))⟩,
    ⟨(some 99), none, .pick (.s 96) (.s 98) (.c (.lit (.bool false)))⟩,
    ⟨(some 4), none, .mov (.s 99)⟩] [4]
def a4 : AC := .seq (a4r0) (.seq (a4r1) (.seq (a4r2) (.seq (.seq (a4r3) (.cond (.s 36) (.seq (a4r4) (.ret)) (.skip))) (.seq (a4r5) (.seq (.seq (a4r6) (.block 0 (.loop a4L7))) (.seq (a4r11) (.seq (a4r12) (.seq (.seq (a4r13) (.block 2 (.loop a4L14))) (.seq (a4r21) (.seq (a4r22) (.ret)))))))))))
def a4R : List RD := [.tmp 4]

/-! colloquy/colloquylaw16.PostsNumbers: slots 118, parameters 1 -/
def a5r0 : AC := .reg [⟨(some 2), none, .mov (.c (.lit (.bool false)))⟩] [0]
def a5r1 : AC := .reg [⟨(some 13), none, .callv (.c (.fn 9 [])) []⟩,
    ⟨(some 3), none, .mov (.s 13)⟩] [0, 3]
def a5r2 : AC := .reg [⟨(some 14), none, .mov (.s 3)⟩,
    ⟨(some 15), none, .not (.s 14)⟩,
    ⟨(some 16), none, .mov (.s 15)⟩,
    ⟨(some 17), (some (16, false)), .mov (.s 0)⟩,
    ⟨(some 18), (some (16, false)), .len (.s 17)⟩,
    ⟨(some 19), (some (16, false)), .iop .gtr (.s 18) (.c (.lit (.int .i64 100)))⟩,
    ⟨(some 20), none, .pick (.s 16) (.c (.lit (.bool true))) (.s 19)⟩] [0, 3, 20]
def a5r3 : AC := .reg [⟨(some 21), none, .mov (.s 3)⟩,
    ⟨(some 2), none, .mov (.s 21)⟩] [2]
def a5r4 : AC := .reg [⟨(some 4), none, .mov (.c (.nils 5))⟩] [0, 4]
def a5r5 : AC := .reg [⟨(some 5), none, .mov (.c (.lit (.int .i64 0)))⟩] [0, 4, 5]
def a5r6 : AC := .reg [⟨(some 22), none, .mov (.s 5)⟩,
    ⟨(some 23), none, .mov (.s 0)⟩,
    ⟨(some 24), none, .len (.s 23)⟩,
    ⟨(some 25), none, .iop .lss (.s 22) (.s 24)⟩] [0, 4, 5, 25]
def a5r8 : AC := .reg [⟨(some 28), none, .mov (.s 0)⟩,
    ⟨(some 29), none, .mov (.s 5)⟩,
    ⟨(some 30), none, .iaddr 5 (.s 28) (.s 29)⟩,
    ⟨(some 31), none, .faddr 4 (.s 30)⟩,
    ⟨(some 32), none, .load 1 false (.s 31)⟩,
    ⟨(some 33), none, .slen (.s 32)⟩,
    ⟨(some 34), none, .iop .gtr (.s 33) (.c (.lit (.int .i64 200)))⟩] [0, 4, 5, 34]
def a5r9 : AC := .reg [⟨(some 2), none, .mov (.c (.lit (.bool true)))⟩] [2]
def a5r10 : AC := .reg [⟨(some 36), none, .mov (.s 4)⟩,
    ⟨(some 37), none, .mov (.s 0)⟩,
    ⟨(some 38), none, .mov (.s 5)⟩,
    ⟨(some 39), none, .iaddr 5 (.s 37) (.s 38)⟩,
    ⟨(some 40), none, .load 5 true (.s 39)⟩,
    ⟨(some 41), none, .callv (.c (.fn 11 [])) [(.s 36), (.s 40)]⟩,
    ⟨(some 35), none, .mov (.s 41)⟩,
    ⟨(some 42), none, .extract 0 (.s 35)⟩,
    ⟨(some 43), none, .extract 1 (.s 35)⟩,
    ⟨(some 6), none, .mov (.s 42)⟩,
    ⟨(some 7), none, .mov (.s 43)⟩] [0, 4, 5, 6, 7]
def a5r11 : AC := .reg [⟨(some 44), none, .mov (.s 7)⟩,
    ⟨(some 45), none, .iop .neq (.s 44) (.c (.lit (.int .i64 0)))⟩] [0, 4, 5, 6, 45]
def a5r12 : AC := .reg [⟨(some 46), none, .mov (.s 6)⟩,
    ⟨(some 47), none, .len (.s 46)⟩,
    ⟨(some 48), none, .iop .neq (.s 47) (.c (.lit (.int .i64 0)))⟩] [0, 4, 5, 48]
def a5r13 : AC := .reg [⟨(some 2), none, .mov (.c (.lit (.bool false)))⟩] [2]
def a5r14 : AC := .reg [⟨(some 8), none, .mov (.c (.lit (.int .i64 0)))⟩] [0, 4, 5, 6, 8]
def a5r15 : AC := .reg [⟨(some 49), none, .mov (.s 0)⟩,
    ⟨(some 50), none, .mov (.s 5)⟩,
    ⟨(some 51), none, .iaddr 5 (.s 49) (.s 50)⟩,
    ⟨(some 52), none, .faddr 0 (.s 51)⟩,
    ⟨(some 53), none, .load 1 false (.s 52)⟩,
    ⟨(some 54), none, .iop .eql (.s 53) (.c (.lit (.int .i64 0)))⟩] [0, 4, 5, 6, 8, 54]
def a5r16 : AC := .reg [⟨(some 8), none, .mov (.c (.lit (.int .i64 1)))⟩] [0, 4, 5, 6, 8]
def a5r17 : AC := .reg [⟨(some 55), none, .mov (.s 6)⟩,
    ⟨(some 56), none, .callv (.c (.fn 16 [])) [(.s 55)]⟩,
    ⟨(some 57), none, .mov (.s 4)⟩,
    ⟨(some 58), none, .callv (.c (.fn 16 [])) [(.s 57)]⟩,
    ⟨(some 59), none, .mov (.s 8)⟩,
    ⟨(some 60), none, .iop .add (.s 58) (.s 59)⟩,
    ⟨(some 61), none, .iop .neq (.s 56) (.s 60)⟩,
    ⟨(some 62), none, .mov (.s 61)⟩,
    ⟨(some 63), (some (62, false)), .mov (.s 6)⟩,
    ⟨(some 64), (some (62, false)), .len (.s 63)⟩,
    ⟨(some 65), (some (62, false)), .mov (.s 4)⟩,
    ⟨(some 66), (some (62, false)), .len (.s 65)⟩,
    ⟨(some 67), (some (62, false)), .iop .lss (.s 64) (.s 66)⟩,
    ⟨(some 68), none, .pick (.s 62) (.c (.lit (.bool true))) (.s 67)⟩] [0, 4, 5, 6, 68]
def a5r18 : AC := .reg [⟨(some 2), none, .mov (.c (.lit (.bool false)))⟩] [2]
def a5r19 : AC := .reg [⟨(some 9), none, .mov (.c (.lit (.int .i64 0)))⟩] [0, 4, 5, 6, 9]
def a5r20 : AC := .reg [⟨(some 69), none, .mov (.s 9)⟩,
    ⟨(some 70), none, .mov (.s 4)⟩,
    ⟨(some 71), none, .len (.s 70)⟩,
    ⟨(some 72), none, .iop .lss (.s 69) (.s 71)⟩] [0, 4, 5, 6, 9, 72]
def a5r22 : AC := .reg [⟨(some 10), none, .mov (.c (.lit (.int .i64 0)))⟩] [0, 4, 5, 6, 9, 10]
def a5r23 : AC := .reg [⟨(some 75), none, .mov (.s 10)⟩,
    ⟨(some 76), none, .mov (.s 6)⟩,
    ⟨(some 77), none, .len (.s 76)⟩,
    ⟨(some 78), none, .iop .lss (.s 75) (.s 77)⟩] [0, 4, 5, 6, 9, 10, 78]
def a5r25 : AC := .reg [⟨(some 81), none, .mov (.s 4)⟩,
    ⟨(some 82), none, .mov (.s 9)⟩,
    ⟨(some 83), none, .iaddr 5 (.s 81) (.s 82)⟩,
    ⟨(some 84), none, .load 5 true (.s 83)⟩,
    ⟨(some 11), none, .alloc 5011 33 [(.lit (.int .i64 0)), (.lit (.int .i64 0)), (.lit (.string ⟨#[]⟩)), (.lit (.int .i64 0)), (.lit (.bool false))]⟩,
    ⟨none, none, .store 5 (.s 11) (.s 84)⟩] [0, 4, 5, 6, 9, 10, 11]
def a5r26 : AC := .reg [⟨(some 85), none, .mov (.s 6)⟩,
    ⟨(some 86), none, .mov (.s 10)⟩,
    ⟨(some 87), none, .iaddr 5 (.s 85) (.s 86)⟩,
    ⟨(some 88), none, .load 5 true (.s 87)⟩,
    ⟨(some 12), none, .alloc 5012 33 [(.lit (.int .i64 0)), (.lit (.int .i64 0)), (.lit (.string ⟨#[]⟩)), (.lit (.int .i64 0)), (.lit (.bool false))]⟩,
    ⟨none, none, .store 5 (.s 12) (.s 88)⟩] [0, 4, 5, 6, 9, 10, 11, 12]
def a5r27 : AC := .reg [⟨(some 89), none, .faddr 0 (.s 11)⟩,
    ⟨(some 90), none, .load 1 false (.s 89)⟩,
    ⟨(some 91), none, .faddr 0 (.s 12)⟩,
    ⟨(some 92), none, .load 1 false (.s 91)⟩,
    ⟨(some 93), none, .iop .eql (.s 90) (.s 92)⟩,
    ⟨(some 94), none, .mov (.s 93)⟩,
    ⟨(some 95), (some (94, true)), .faddr 1 (.s 11)⟩,
    ⟨(some 96), (some (94, true)), .load 1 false (.s 95)⟩,
    ⟨(some 97), (some (94, true)), .faddr 1 (.s 12)⟩,
    ⟨(some 98), (some (94, true)), .load 1 false (.s 97)⟩,
    ⟨(some 99), (some (94, true)), .iop .neq (.s 96) (.s 98)⟩,
    ⟨(some 100), (some (94, true)), .mov (.s 99)⟩,
    ⟨(some 101), (some (100, false)), .faddr 4 (.s 11)⟩,
    ⟨(some 102), (some (100, false)), .load 1 false (.s 101)⟩,
    ⟨(some 103), (some (100, false)), .mov (.s 102)⟩,
    ⟨(some 104), (some (103, true)), .faddr 4 (.s 12)⟩,
    ⟨(some 105), (some (103, true)), .load 1 false (.s 104)⟩,
    ⟨(some 106), (some (103, true)), .not (.s 105)⟩,
    ⟨(some 107), (some (100, false)), .pick (.s 103) (.s 106) (.c (.lit (.bool false)))⟩,
    ⟨(some 108), (some (94, true)), .pick (.s 100) (.c (.lit (.bool true))) (.s 107)⟩,
    ⟨(some 109), (some (94, true)), .mov (.s 108)⟩,
    ⟨(some 110), (some (109, false)), .faddr 3 (.s 11)⟩,
    ⟨(some 111), (some (109, false)), .load 1 false (.s 110)⟩,
    ⟨(some 112), (some (109, false)), .faddr 3 (.s 12)⟩,
    ⟨(some 113), (some (109, false)), .load 1 false (.s 112)⟩,
    ⟨(some 114), (some (109, false)), .iop .gtr (.s 111) (.s 113)⟩,
    ⟨(some 115), (some (94, true)), .pick (.s 109) (.c (.lit (.bool true))) (.s 114)⟩,
    ⟨(some 116), none, .pick (.s 94) (.s 115) (.c (.lit (.bool false)))⟩] [0, 4, 5, 6, 9, 10, 116]
def a5r28 : AC := .reg [⟨(some 2), none, .mov (.c (.lit (.bool false)))⟩] [2]
def a5r24 : AC := .reg [⟨(some 79), none, .mov (.s 10)⟩,
    ⟨(some 80), none, .iop .add (.s 79) (.c (.lit (.int .i64 1)))⟩,
    ⟨(some 10), none, .mov (.s 80)⟩] [0, 4, 5, 6, 9, 10]
def a5L23 : AC := .seq (.seq (a5r23) (.cond (.s 78) (.skip) (.exit 4))) (.seq (.block 5 (.seq (a5r25) (.seq (a5r26) (.seq (a5r27) (.cond (.s 116) (.seq (a5r28) (.ret)) (.skip)))))) (a5r24))
def a5r21 : AC := .reg [⟨(some 73), none, .mov (.s 9)⟩,
    ⟨(some 74), none, .iop .add (.s 73) (.c (.lit (.int .i64 1)))⟩,
    ⟨(some 9), none, .mov (.s 74)⟩] [0, 4, 5, 6, 9]
def a5L20 : AC := .seq (.seq (a5r20) (.cond (.s 72) (.skip) (.exit 2))) (.seq (.block 3 (.seq (a5r22) (.block 4 (.loop a5L23)))) (a5r21))
def a5r29 : AC := .reg [⟨(some 117), none, .mov (.s 6)⟩,
    ⟨(some 4), none, .mov (.s 117)⟩] [0, 4, 5]
def a5r7 : AC := .reg [⟨(some 26), none, .mov (.s 5)⟩,
    ⟨(some 27), none, .iop .add (.s 26) (.c (.lit (.int .i64 1)))⟩,
    ⟨(some 5), none, .mov (.s 27)⟩] [0, 4, 5]
def a5L6 : AC := .seq (.seq (a5r6) (.cond (.s 25) (.skip) (.exit 0))) (.seq (.block 1 (.seq (.seq (a5r8) (.cond (.s 34) (.seq (a5r9) (.ret)) (.skip))) (.seq (a5r10) (.seq (.seq (a5r11) (.cond (.s 45) (.seq (.seq (a5r12) (.cond (.s 48) (.seq (a5r13) (.ret)) (.skip))) (.exit 1)) (.skip))) (.seq (a5r14) (.seq (.seq (a5r15) (.cond (.s 54) (a5r16) (.skip))) (.seq (.seq (a5r17) (.cond (.s 68) (.seq (a5r18) (.ret)) (.skip))) (.seq (.seq (a5r19) (.block 2 (.loop a5L20))) (a5r29))))))))) (a5r7))
def a5r30 : AC := .reg [⟨(some 2), none, .mov (.c (.lit (.bool true)))⟩] [2]
def a5 : AC := .seq (a5r0) (.seq (a5r1) (.seq (.seq (a5r2) (.cond (.s 20) (.seq (a5r3) (.ret)) (.skip))) (.seq (a5r4) (.seq (.seq (a5r5) (.block 0 (.loop a5L6))) (.seq (a5r30) (.ret))))))
def a5R : List RD := [.tmp 2]

/-! colloquy/colloquylaw16.PostsTell: slots 89, parameters 4 -/
def a6r0 : AC := .reg [⟨(some 8), none, .mov (.c (.lit (.bool false)))⟩] [0, 1, 2, 3]
def a6r1 : AC := .reg [⟨(some 20), none, .callv (.c (.fn 9 [])) []⟩,
    ⟨(some 9), none, .mov (.s 20)⟩] [0, 1, 2, 3, 9]
def a6r2 : AC := .reg [⟨(some 21), none, .mov (.s 0)⟩,
    ⟨(some 22), none, .callv (.c (.fn 10 [])) [(.s 21)]⟩,
    ⟨(some 10), none, .mov (.s 22)⟩] [0, 1, 2, 3, 9, 10]
def a6r3 : AC := .reg [⟨(some 23), none, .mov (.s 9)⟩,
    ⟨(some 24), none, .not (.s 23)⟩,
    ⟨(some 25), none, .mov (.s 24)⟩,
    ⟨(some 26), (some (25, false)), .mov (.s 10)⟩,
    ⟨(some 27), (some (25, false)), .not (.s 26)⟩,
    ⟨(some 28), none, .pick (.s 25) (.c (.lit (.bool true))) (.s 27)⟩] [0, 1, 2, 3, 9, 28]
def a6r4 : AC := .reg [⟨(some 29), none, .mov (.s 9)⟩,
    ⟨(some 8), none, .mov (.s 29)⟩] [8]
def a6r5 : AC := .reg [⟨(some 31), none, .mov (.s 0)⟩,
    ⟨(some 32), none, .mov (.s 1)⟩,
    ⟨(some 33), none, .callv (.c (.fn 17 [])) [(.s 31), (.s 32)]⟩,
    ⟨(some 30), none, .mov (.s 33)⟩,
    ⟨(some 34), none, .extract 0 (.s 30)⟩,
    ⟨(some 35), none, .extract 1 (.s 30)⟩,
    ⟨(some 11), none, .alloc 6011 33 [(.lit (.int .i64 0)), (.lit (.int .i64 0)), (.lit (.string ⟨#[]⟩)), (.lit (.int .i64 0)), (.lit (.bool false))]⟩,
    ⟨none, none, .store 5 (.s 11) (.s 34)⟩,
    ⟨(some 12), none, .mov (.s 35)⟩] [0, 1, 2, 3, 11, 12]
def a6r6 : AC := .reg [⟨(some 37), none, .mov (.s 0)⟩,
    ⟨(some 38), none, .mov (.s 1)⟩,
    ⟨(some 39), none, .callv (.c (.fn 18 [])) [(.s 37), (.s 38)]⟩,
    ⟨(some 36), none, .mov (.s 39)⟩,
    ⟨(some 40), none, .extract 0 (.s 36)⟩,
    ⟨(some 41), none, .extract 1 (.s 36)⟩,
    ⟨(some 13), none, .alloc 6013 33 [(.lit (.int .i64 0)), (.lit (.int .i64 0)), (.lit (.string ⟨#[]⟩)), (.lit (.int .i64 0)), (.lit (.bool false))]⟩,
    ⟨none, none, .store 5 (.s 13) (.s 40)⟩,
    ⟨(some 14), none, .mov (.s 41)⟩] [0, 2, 3, 11, 12, 13, 14]
def a6r7 : AC := .reg [⟨(some 43), none, .mov (.s 0)⟩,
    ⟨(some 44), none, .mov (.s 2)⟩,
    ⟨(some 45), none, .mov (.s 3)⟩,
    ⟨(some 46), none, .callv (.c (.fn 15 [])) [(.s 43), (.s 44), (.s 45)]⟩,
    ⟨(some 42), none, .mov (.s 46)⟩,
    ⟨(some 47), none, .extract 0 (.s 42)⟩,
    ⟨(some 48), none, .extract 1 (.s 42)⟩,
    ⟨(some 15), none, .mov (.s 47)⟩,
    ⟨(some 16), none, .mov (.s 48)⟩] [0, 2, 3, 11, 12, 13, 14, 15, 16]
def a6r8 : AC := .reg [⟨(some 50), none, .mov (.s 0)⟩,
    ⟨(some 51), none, .mov (.s 2)⟩,
    ⟨(some 52), none, .mov (.s 3)⟩,
    ⟨(some 53), none, .callv (.c (.fn 19 [])) [(.s 50), (.s 51), (.s 52)]⟩,
    ⟨(some 49), none, .mov (.s 53)⟩,
    ⟨(some 54), none, .extract 0 (.s 49)⟩,
    ⟨(some 55), none, .extract 1 (.s 49)⟩,
    ⟨(some 17), none, .mov (.s 54)⟩,
    ⟨(some 18), none, .mov (.s 55)⟩] [0, 11, 12, 13, 14, 15, 16, 17, 18]
def a6r9 : AC := .reg [⟨(some 56), none, .mov (.s 15)⟩,
    ⟨(some 57), none, .mov (.s 17)⟩,
    ⟨(some 58), none, .callv (.c (.fn 13 [])) [(.s 56), (.s 57)]⟩,
    ⟨(some 19), none, .mov (.s 58)⟩] [0, 11, 12, 13, 14, 16, 18, 19]
def a6r10 : AC := .reg [⟨(some 59), none, .mov (.s 19)⟩,
    ⟨(some 60), none, .mov (.s 59)⟩,
    ⟨(some 61), (some (60, true)), .load 5 true (.s 11)⟩,
    ⟨(some 62), (some (60, true)), .load 5 true (.s 13)⟩,
    ⟨(some 63), (some (60, true)), .seql false [1, 1, 2, 1, 0] (.s 61) (.s 62)⟩,
    ⟨(some 64), none, .pick (.s 60) (.s 63) (.c (.lit (.bool false)))⟩,
    ⟨(some 65), none, .mov (.s 64)⟩,
    ⟨(some 66), (some (65, true)), .mov (.s 12)⟩,
    ⟨(some 67), (some (65, true)), .mov (.s 14)⟩,
    ⟨(some 68), (some (65, true)), .iop .eql (.s 66) (.s 67)⟩,
    ⟨(some 69), none, .pick (.s 65) (.s 68) (.c (.lit (.bool false)))⟩,
    ⟨(some 70), none, .mov (.s 69)⟩,
    ⟨(some 71), (some (70, true)), .mov (.s 16)⟩,
    ⟨(some 72), (some (70, true)), .mov (.s 18)⟩,
    ⟨(some 73), (some (70, true)), .iop .eql (.s 71) (.s 72)⟩,
    ⟨(some 74), none, .pick (.s 70) (.s 73) (.c (.lit (.bool false)))⟩,
    ⟨(some 75), none, .mov (.s 74)⟩,
    ⟨(some 76), (some (75, true)), .mov (.s 0)⟩,
    ⟨(some 77), (some (75, true)), .callv (.c (.fn 14 [])) [(.s 76)]⟩,
    ⟨(some 78), (some (75, true)), .mov (.s 0)⟩,
    ⟨(some 79), (some (75, true)), .callv (.c (.fn 20 [])) [(.s 78)]⟩,
    ⟨(some 80), (some (75, true)), .beq false (.s 77) (.s 79)⟩,
    ⟨(some 81), none, .pick (.s 75) (.s 80) (.c (.lit (.bool false)))⟩,
    ⟨(some 82), none, .mov (.s 81)⟩,
    ⟨(some 83), (some (82, true)), .mov (.s 0)⟩,
    ⟨(some 84), (some (82, true)), .callv (.c (.fn 16 [])) [(.s 83)]⟩,
    ⟨(some 85), (some (82, true)), .mov (.s 0)⟩,
    ⟨(some 86), (some (82, true)), .callv (.c (.fn 21 [])) [(.s 85)]⟩,
    ⟨(some 87), (some (82, true)), .iop .eql (.s 84) (.s 86)⟩,
    ⟨(some 88), none, .pick (.s 82) (.s 87) (.c (.lit (.bool false)))⟩,
    ⟨(some 8), none, .mov (.s 88)⟩] [8]
def a6 : AC := .seq (a6r0) (.seq (a6r1) (.seq (a6r2) (.seq (.seq (a6r3) (.cond (.s 28) (.seq (a6r4) (.ret)) (.skip))) (.seq (a6r5) (.seq (a6r6) (.seq (a6r7) (.seq (a6r8) (.seq (a6r9) (.seq (a6r10) (.ret))))))))))
def a6R : List RD := [.tmp 8]

/-! colloquy/colloquylaw16.PostsOwn: slots 98, parameters 5 -/
def a7r0 : AC := .reg [⟨(some 10), none, .mov (.c (.lit (.bool false)))⟩] [0, 1, 2, 3, 4]
def a7r1 : AC := .reg [⟨(some 19), none, .callv (.c (.fn 9 [])) []⟩,
    ⟨(some 11), none, .mov (.s 19)⟩] [0, 1, 2, 3, 4, 11]
def a7r2 : AC := .reg [⟨(some 20), none, .mov (.s 0)⟩,
    ⟨(some 21), none, .callv (.c (.fn 10 [])) [(.s 20)]⟩,
    ⟨(some 12), none, .mov (.s 21)⟩] [0, 1, 2, 3, 4, 11, 12]
def a7r3 : AC := .reg [⟨(some 22), none, .mov (.s 11)⟩,
    ⟨(some 23), none, .not (.s 22)⟩,
    ⟨(some 24), none, .mov (.s 23)⟩,
    ⟨(some 25), (some (24, false)), .mov (.s 12)⟩,
    ⟨(some 26), (some (24, false)), .not (.s 25)⟩,
    ⟨(some 27), none, .pick (.s 24) (.c (.lit (.bool true))) (.s 26)⟩,
    ⟨(some 28), none, .mov (.s 27)⟩,
    ⟨(some 29), (some (28, false)), .mov (.s 4)⟩,
    ⟨(some 30), (some (28, false)), .slen (.s 29)⟩,
    ⟨(some 31), (some (28, false)), .iop .gtr (.s 30) (.c (.lit (.int .i64 200)))⟩,
    ⟨(some 32), none, .pick (.s 28) (.c (.lit (.bool true))) (.s 31)⟩,
    ⟨(some 33), none, .mov (.s 32)⟩,
    ⟨(some 34), (some (33, false)), .mov (.s 0)⟩,
    ⟨(some 35), (some (33, false)), .callv (.c (.fn 14 [])) [(.s 34)]⟩,
    ⟨(some 36), (some (33, false)), .not (.s 35)⟩,
    ⟨(some 37), none, .pick (.s 33) (.c (.lit (.bool true))) (.s 36)⟩] [0, 1, 2, 3, 4, 11, 37]
def a7r4 : AC := .reg [⟨(some 38), none, .mov (.s 11)⟩,
    ⟨(some 10), none, .mov (.s 38)⟩] [10]
def a7r5 : AC := .reg [⟨(some 40), none, .mov (.s 0)⟩,
    ⟨(some 41), none, .mov (.s 1)⟩,
    ⟨(some 42), none, .callv (.c (.fn 17 [])) [(.s 40), (.s 41)]⟩,
    ⟨(some 39), none, .mov (.s 42)⟩,
    ⟨(some 43), none, .extract 0 (.s 39)⟩,
    ⟨(some 44), none, .extract 1 (.s 39)⟩,
    ⟨(some 13), none, .alloc 7013 33 [(.lit (.int .i64 0)), (.lit (.int .i64 0)), (.lit (.string ⟨#[]⟩)), (.lit (.int .i64 0)), (.lit (.bool false))]⟩,
    ⟨none, none, .store 5 (.s 13) (.s 43)⟩,
    ⟨(some 14), none, .mov (.s 44)⟩] [0, 1, 2, 3, 4, 13, 14]
def a7r6 : AC := .reg [⟨(some 46), none, .mov (.s 0)⟩,
    ⟨(some 47), none, .mov (.s 1)⟩,
    ⟨(some 48), none, .mov (.s 2)⟩,
    ⟨(some 49), none, .mov (.s 4)⟩,
    ⟨(some 50), none, .callv (.c (.fn 22 [])) [(.s 46), (.s 47), (.s 48), (.s 49)]⟩,
    ⟨(some 45), none, .mov (.s 50)⟩,
    ⟨(some 51), none, .extract 0 (.s 45)⟩,
    ⟨(some 52), none, .extract 1 (.s 45)⟩,
    ⟨(some 15), none, .mov (.s 51)⟩,
    ⟨(some 16), none, .mov (.s 52)⟩] [0, 1, 2, 3, 13, 14, 16]
def a7r7 : AC := .reg [⟨(some 54), none, .mov (.s 0)⟩,
    ⟨(some 55), none, .mov (.s 1)⟩,
    ⟨(some 56), none, .mov (.s 2)⟩,
    ⟨(some 57), none, .mov (.s 3)⟩,
    ⟨(some 58), none, .callv (.c (.fn 23 [])) [(.s 54), (.s 55), (.s 56), (.s 57)]⟩,
    ⟨(some 53), none, .mov (.s 58)⟩,
    ⟨(some 59), none, .extract 0 (.s 53)⟩,
    ⟨(some 60), none, .extract 1 (.s 53)⟩,
    ⟨(some 17), none, .mov (.s 59)⟩,
    ⟨(some 18), none, .mov (.s 60)⟩] [2, 3, 13, 14, 16, 18]
def a7r8 : AC := .reg [⟨(some 61), none, .mov (.s 14)⟩,
    ⟨(some 62), none, .iop .neq (.s 61) (.c (.lit (.int .i64 0)))⟩] [2, 3, 13, 16, 18, 62]
def a7r9 : AC := .reg [⟨(some 63), none, .mov (.s 16)⟩,
    ⟨(some 64), none, .iop .neq (.s 63) (.c (.lit (.int .i64 0)))⟩,
    ⟨(some 65), none, .mov (.s 64)⟩,
    ⟨(some 66), (some (65, true)), .mov (.s 18)⟩,
    ⟨(some 67), (some (65, true)), .iop .eql (.s 66) (.c (.lit (.int .i64 5)))⟩,
    ⟨(some 68), none, .pick (.s 65) (.s 67) (.c (.lit (.bool false)))⟩,
    ⟨(some 10), none, .mov (.s 68)⟩] [10]
def a7r10 : AC := .reg [⟨(some 69), none, .mov (.s 2)⟩,
    ⟨(some 70), none, .faddr 1 (.s 13)⟩,
    ⟨(some 71), none, .load 1 false (.s 70)⟩,
    ⟨(some 72), none, .iop .neq (.s 69) (.s 71)⟩] [2, 3, 13, 16, 18, 72]
def a7r11 : AC := .reg [⟨(some 73), none, .mov (.s 16)⟩,
    ⟨(some 74), none, .iop .neq (.s 73) (.c (.lit (.int .i64 0)))⟩,
    ⟨(some 75), none, .mov (.s 74)⟩,
    ⟨(some 76), (some (75, true)), .mov (.s 18)⟩,
    ⟨(some 77), (some (75, true)), .iop .eql (.s 76) (.c (.lit (.int .i64 8)))⟩,
    ⟨(some 78), (some (75, true)), .mov (.s 2)⟩,
    ⟨(some 79), (some (75, true)), .mov (.s 3)⟩,
    ⟨(some 80), (some (75, true)), .iop .neq (.s 78) (.s 79)⟩,
    ⟨(some 81), (some (75, true)), .beq false (.s 77) (.s 80)⟩,
    ⟨(some 82), none, .pick (.s 75) (.s 81) (.c (.lit (.bool false)))⟩,
    ⟨(some 10), none, .mov (.s 82)⟩] [10]
def a7r12 : AC := .reg [⟨(some 83), none, .mov (.s 18)⟩,
    ⟨(some 84), none, .iop .eql (.s 83) (.c (.lit (.int .i64 0)))⟩,
    ⟨(some 85), none, .mov (.s 84)⟩,
    ⟨(some 86), (some (85, true)), .mov (.s 16)⟩,
    ⟨(some 87), (some (85, true)), .iop .eql (.s 86) (.c (.lit (.int .i64 0)))⟩,
    ⟨(some 88), (some (85, true)), .mov (.s 87)⟩,
    ⟨(some 89), (some (88, false)), .mov (.s 16)⟩,
    ⟨(some 90), (some (88, false)), .iop .eql (.s 89) (.c (.lit (.int .i64 1)))⟩,
    ⟨(some 91), (some (85, true)), .pick (.s 88) (.c (.lit (.bool true))) (.s 90)⟩,
    ⟨(some 92), (some (85, true)), .mov (.s 91)⟩,
    ⟨(some 93), (some (92, false)), .faddr 3 (.s 13)⟩,
    ⟨(some 94), (some (92, false)), .load 1 false (.s 93)⟩,
    ⟨(some 95), (some (92, false)), .iop .eql (.s 94) (.c (.lit (.int .i64 1073741824)))⟩,
    ⟨(some 96), (some (85, true)), .pick (.s 92) (.c (.lit (.bool true))) (.s 95)⟩,
    ⟨(some 97), none, .pick (.s 85) (.s 96) (.c (.lit (.bool false)))⟩,
    ⟨(some 10), none, .mov (.s 97)⟩] [10]
def a7 : AC := .seq (a7r0) (.seq (a7r1) (.seq (a7r2) (.seq (.seq (a7r3) (.cond (.s 37) (.seq (a7r4) (.ret)) (.skip))) (.seq (a7r5) (.seq (a7r6) (.seq (a7r7) (.seq (.seq (a7r8) (.cond (.s 62) (.seq (a7r9) (.ret)) (.skip))) (.seq (.seq (a7r10) (.cond (.s 72) (.seq (a7r11) (.ret)) (.skip))) (.seq (a7r12) (.ret))))))))))
def a7R : List RD := [.tmp 10]

/-! colloquy/colloquylaw16.PostsKeep: slots 113, parameters 3 -/
def a8r0 : AC := .reg [⟨(some 6), none, .mov (.c (.lit (.bool false)))⟩] [0, 1, 2]
def a8r1 : AC := .reg [⟨(some 16), none, .callv (.c (.fn 9 [])) []⟩,
    ⟨(some 7), none, .mov (.s 16)⟩] [0, 1, 2, 7]
def a8r2 : AC := .reg [⟨(some 17), none, .mov (.s 7)⟩,
    ⟨(some 18), none, .not (.s 17)⟩,
    ⟨(some 19), none, .mov (.s 18)⟩,
    ⟨(some 20), (some (19, false)), .mov (.s 0)⟩,
    ⟨(some 21), (some (19, false)), .iop .lss (.s 20) (.c (.lit (.int .i64 1)))⟩,
    ⟨(some 22), none, .pick (.s 19) (.c (.lit (.bool true))) (.s 21)⟩,
    ⟨(some 23), none, .mov (.s 22)⟩,
    ⟨(some 24), (some (23, false)), .mov (.s 0)⟩,
    ⟨(some 25), (some (23, false)), .iop .gtr (.s 24) (.c (.lit (.int .i64 80)))⟩,
    ⟨(some 26), none, .pick (.s 23) (.c (.lit (.bool true))) (.s 25)⟩,
    ⟨(some 27), none, .mov (.s 26)⟩,
    ⟨(some 28), (some (27, false)), .mov (.s 2)⟩,
    ⟨(some 29), (some (27, false)), .slen (.s 28)⟩,
    ⟨(some 30), (some (27, false)), .iop .gtr (.s 29) (.c (.lit (.int .i64 200)))⟩,
    ⟨(some 31), none, .pick (.s 27) (.c (.lit (.bool true))) (.s 30)⟩] [0, 1, 2, 7, 31]
def a8r3 : AC := .reg [⟨(some 32), none, .mov (.s 7)⟩,
    ⟨(some 6), none, .mov (.s 32)⟩] [6]
def a8r4 : AC := .reg [⟨(some 8), none, .mov (.c (.nils 5))⟩] [0, 1, 2, 8]
def a8r5 : AC := .reg [⟨(some 9), none, .mov (.c (.lit (.int .i64 1)))⟩] [0, 1, 2, 8, 9]
def a8r6 : AC := .reg [⟨(some 33), none, .mov (.s 9)⟩,
    ⟨(some 34), none, .mov (.s 0)⟩,
    ⟨(some 35), none, .iop .leq (.s 33) (.s 34)⟩] [0, 1, 2, 8, 9, 35]
def a8r8 : AC := .reg [⟨(some 39), none, .mov (.s 8)⟩,
    ⟨(some 40), none, .mov (.s 1)⟩,
    ⟨(some 41), none, .mov (.s 2)⟩,
    ⟨(some 42), none, .callv (.c (.fn 24 [])) [(.s 39), (.s 40), (.s 41)]⟩,
    ⟨(some 38), none, .mov (.s 42)⟩,
    ⟨(some 43), none, .extract 0 (.s 38)⟩,
    ⟨(some 44), none, .extract 1 (.s 38)⟩,
    ⟨(some 10), none, .mov (.s 43)⟩,
    ⟨(some 11), none, .mov (.s 44)⟩] [0, 1, 2, 9, 10, 11]
def a8r9 : AC := .reg [⟨(some 45), none, .mov (.s 11)⟩,
    ⟨(some 46), none, .iop .neq (.s 45) (.c (.lit (.int .i64 0)))⟩] [0, 1, 2, 9, 10, 11, 46]
def a8r10 : AC := .reg [⟨(some 47), none, .mov (.s 11)⟩,
    ⟨(some 48), none, .iop .eql (.s 47) (.c (.lit (.int .i64 1)))⟩,
    ⟨(some 49), none, .mov (.s 48)⟩,
    ⟨(some 50), (some (49, true)), .mov (.s 9)⟩,
    ⟨(some 51), (some (49, true)), .iop .eql (.s 50) (.c (.lit (.int .i64 1)))⟩,
    ⟨(some 52), none, .pick (.s 49) (.s 51) (.c (.lit (.bool false)))⟩,
    ⟨(some 6), none, .mov (.s 52)⟩] [6]
def a8r11 : AC := .reg [⟨(some 53), none, .mov (.s 10)⟩,
    ⟨(some 8), none, .mov (.s 53)⟩] [0, 1, 2, 8, 9]
def a8r12 : AC := .reg [⟨(some 55), none, .mov (.s 8)⟩,
    ⟨(some 56), none, .mov (.s 9)⟩,
    ⟨(some 57), none, .callv (.c (.fn 17 [])) [(.s 55), (.s 56)]⟩,
    ⟨(some 54), none, .mov (.s 57)⟩,
    ⟨(some 58), none, .extract 0 (.s 54)⟩,
    ⟨(some 59), none, .extract 1 (.s 54)⟩,
    ⟨(some 12), none, .alloc 8012 33 [(.lit (.int .i64 0)), (.lit (.int .i64 0)), (.lit (.string ⟨#[]⟩)), (.lit (.int .i64 0)), (.lit (.bool false))]⟩,
    ⟨none, none, .store 5 (.s 12) (.s 58)⟩,
    ⟨(some 13), none, .mov (.s 59)⟩] [0, 1, 2, 8, 9, 12, 13]
def a8r13 : AC := .reg [⟨(some 60), none, .mov (.s 13)⟩,
    ⟨(some 61), none, .iop .neq (.s 60) (.c (.lit (.int .i64 0)))⟩,
    ⟨(some 62), none, .mov (.s 61)⟩,
    ⟨(some 63), (some (62, false)), .load 5 true (.s 12)⟩,
    ⟨(some 64), (some (62, false)), .mov (.s 9)⟩,
    ⟨(some 65), (some (62, false)), .mov (.s 1)⟩,
    ⟨(some 66), (some (62, false)), .mov (.s 2)⟩,
    ⟨(some 67), (some (62, false)), .build [(.lit (.int .i64 0)), (.lit (.int .i64 0)), (.lit (.string ⟨#[]⟩)), (.lit (.int .i64 0)), (.lit (.bool false))] [(0, 1, (.s 64)), (1, 1, (.s 65)), (2, 1, (.s 66))]⟩,
    ⟨(some 68), (some (62, false)), .seql true [1, 1, 2, 1, 0] (.s 63) (.s 67)⟩,
    ⟨(some 69), none, .pick (.s 62) (.c (.lit (.bool true))) (.s 68)⟩] [0, 1, 2, 8, 9, 69]
def a8r14 : AC := .reg [⟨(some 6), none, .mov (.c (.lit (.bool false)))⟩] [6]
def a8r7 : AC := .reg [⟨(some 36), none, .mov (.s 9)⟩,
    ⟨(some 37), none, .iop .add (.s 36) (.c (.lit (.int .i64 1)))⟩,
    ⟨(some 9), none, .mov (.s 37)⟩] [0, 1, 2, 8, 9]
def a8L6 : AC := .seq (.seq (a8r6) (.cond (.s 35) (.skip) (.exit 0))) (.seq (.block 1 (.seq (a8r8) (.seq (.seq (a8r9) (.cond (.s 46) (.seq (a8r10) (.ret)) (.skip))) (.seq (a8r11) (.seq (a8r12) (.seq (a8r13) (.cond (.s 69) (.seq (a8r14) (.ret)) (.skip)))))))) (a8r7))
def a8r15 : AC := .reg [⟨(some 71), none, .mov (.s 8)⟩,
    ⟨(some 72), none, .mov (.s 0)⟩,
    ⟨(some 73), none, .iop .sub (.s 72) (.c (.lit (.int .i64 32)))⟩,
    ⟨(some 74), none, .callv (.c (.fn 17 [])) [(.s 71), (.s 73)]⟩,
    ⟨(some 70), none, .mov (.s 74)⟩,
    ⟨(some 75), none, .extract 0 (.s 70)⟩,
    ⟨(some 76), none, .extract 1 (.s 70)⟩,
    ⟨(some 14), none, .alloc 8014 33 [(.lit (.int .i64 0)), (.lit (.int .i64 0)), (.lit (.string ⟨#[]⟩)), (.lit (.int .i64 0)), (.lit (.bool false))]⟩,
    ⟨none, none, .store 5 (.s 14) (.s 75)⟩,
    ⟨(some 15), none, .mov (.s 76)⟩] [0, 8, 15]
def a8r16 : AC := .reg [⟨(some 77), none, .mov (.s 8)⟩,
    ⟨(some 78), none, .callv (.c (.fn 16 [])) [(.s 77)]⟩,
    ⟨(some 79), none, .mov (.s 0)⟩,
    ⟨(some 80), none, .iop .eql (.s 78) (.s 79)⟩,
    ⟨(some 81), none, .mov (.s 80)⟩,
    ⟨(some 82), (some (81, true)), .mov (.s 0)⟩,
    ⟨(some 83), (some (81, true)), .iop .leq (.s 82) (.c (.lit (.int .i64 32)))⟩,
    ⟨(some 84), (some (81, true)), .mov (.s 83)⟩,
    ⟨(some 85), (some (84, true)), .mov (.s 8)⟩,
    ⟨(some 86), (some (84, true)), .len (.s 85)⟩,
    ⟨(some 87), (some (84, true)), .mov (.s 0)⟩,
    ⟨(some 88), (some (84, true)), .iop .eql (.s 86) (.s 87)⟩,
    ⟨(some 89), (some (81, true)), .pick (.s 84) (.s 88) (.c (.lit (.bool false)))⟩,
    ⟨(some 90), (some (81, true)), .mov (.s 89)⟩,
    ⟨(some 91), (some (90, false)), .mov (.s 0)⟩,
    ⟨(some 92), (some (90, false)), .iop .gtr (.s 91) (.c (.lit (.int .i64 32)))⟩,
    ⟨(some 93), (some (90, false)), .mov (.s 92)⟩,
    ⟨(some 94), (some (93, true)), .mov (.s 8)⟩,
    ⟨(some 95), (some (93, true)), .len (.s 94)⟩,
    ⟨(some 96), (some (93, true)), .iop .eql (.s 95) (.c (.lit (.int .i64 32)))⟩,
    ⟨(some 97), (some (90, false)), .pick (.s 93) (.s 96) (.c (.lit (.bool false)))⟩,
    ⟨(some 98), (some (90, false)), .mov (.s 97)⟩,
    ⟨(some 99), (some (98, true)), .mov (.s 8)⟩,
    ⟨(some 100), (some (98, true)), .iaddr 5 (.s 99) (.c (.lit (.int .i64 0)))⟩,
    ⟨(some 101), (some (98, true)), .faddr 0 (.s 100)⟩,
    ⟨(some 102), (some (98, true)), .load 1 false (.s 101)⟩,
    ⟨(some 103), (some (98, true)), .mov (.s 0)⟩,
    ⟨(some 104), (some (98, true)), .iop .sub (.s 103) (.c (.lit (.int .i64 31)))⟩,
    ⟨(some 105), (some (98, true)), .iop .eql (.s 102) (.s 104)⟩,
    ⟨(some 106), (some (90, false)), .pick (.s 98) (.s 105) (.c (.lit (.bool false)))⟩,
    ⟨(some 107), (some (90, false)), .mov (.s 106)⟩,
    ⟨(some 108), (some (107, true)), .mov (.s 15)⟩,
    ⟨(some 109), (some (107, true)), .iop .eql (.s 108) (.c (.lit (.int .i64 5)))⟩,
    ⟨(some 110), (some (90, false)), .pick (.s 107) (.s 109) (.c (.lit (.bool false)))⟩,
    ⟨(some 111), (some (81, true)), .pick (.s 90) (.c (.lit (.bool true))) (.s 110)⟩,
    ⟨(some 112), none, .pick (.s 81) (.s 111) (.c (.lit (.bool false)))⟩,
    ⟨(some 6), none, .mov (.s 112)⟩] [6]
def a8 : AC := .seq (a8r0) (.seq (a8r1) (.seq (.seq (a8r2) (.cond (.s 31) (.seq (a8r3) (.ret)) (.skip))) (.seq (a8r4) (.seq (.seq (a8r5) (.block 0 (.loop a8L6))) (.seq (a8r15) (.seq (a8r16) (.ret)))))))
def a8R : List RD := [.tmp 6]

/-! colloquy/colloquylaw16.awake: slots 70, parameters 0 -/
def a9r0 : AC := .reg [⟨(some 0), none, .mov (.c (.lit (.bool false)))⟩] []
def a9r1 : AC := .reg [⟨(some 12), none, .callv (.c (.fn 24 [])) [(.c (.nils 5)), (.c (.lit (.int .i64 1))), (.c (.lit (.string ⟨#[120]⟩)))]⟩,
    ⟨(some 11), none, .mov (.s 12)⟩,
    ⟨(some 13), none, .extract 0 (.s 11)⟩,
    ⟨(some 14), none, .extract 1 (.s 11)⟩,
    ⟨(some 1), none, .mov (.s 13)⟩,
    ⟨(some 2), none, .mov (.s 14)⟩] [1, 2]
def a9r2 : AC := .reg [⟨(some 16), none, .mov (.s 1)⟩,
    ⟨(some 17), none, .callv (.c (.fn 24 [])) [(.s 16), (.c (.lit (.int .i64 2))), (.c (.lit (.string ⟨#[121]⟩)))]⟩,
    ⟨(some 15), none, .mov (.s 17)⟩,
    ⟨(some 18), none, .extract 0 (.s 15)⟩,
    ⟨(some 19), none, .extract 1 (.s 15)⟩,
    ⟨(some 3), none, .mov (.s 18)⟩,
    ⟨(some 4), none, .mov (.s 19)⟩] [2, 3, 4]
def a9r3 : AC := .reg [⟨(some 21), none, .mov (.s 3)⟩,
    ⟨(some 22), none, .callv (.c (.fn 23 [])) [(.s 21), (.c (.lit (.int .i64 1))), (.c (.lit (.int .i64 1))), (.c (.lit (.int .i64 9)))]⟩,
    ⟨(some 20), none, .mov (.s 22)⟩,
    ⟨(some 23), none, .extract 0 (.s 20)⟩,
    ⟨(some 24), none, .extract 1 (.s 20)⟩,
    ⟨(some 5), none, .mov (.s 23)⟩,
    ⟨(some 6), none, .mov (.s 24)⟩] [2, 3, 4, 5, 6]
def a9r4 : AC := .reg [⟨(some 26), none, .mov (.s 5)⟩,
    ⟨(some 27), none, .callv (.c (.fn 22 [])) [(.s 26), (.c (.lit (.int .i64 1))), (.c (.lit (.int .i64 1))), (.c (.lit (.string ⟨#[122]⟩)))]⟩,
    ⟨(some 25), none, .mov (.s 27)⟩,
    ⟨(some 28), none, .extract 0 (.s 25)⟩,
    ⟨(some 29), none, .extract 1 (.s 25)⟩,
    ⟨(some 7), none, .mov (.s 28)⟩,
    ⟨(some 8), none, .mov (.s 29)⟩] [2, 3, 4, 5, 6, 8]
def a9r5 : AC := .reg [⟨(some 31), none, .mov (.s 5)⟩,
    ⟨(some 32), none, .callv (.c (.fn 15 [])) [(.s 31), (.c (.lit (.int .i64 1))), (.c (.lit (.int .i64 5)))]⟩,
    ⟨(some 30), none, .mov (.s 32)⟩,
    ⟨(some 33), none, .extract 0 (.s 30)⟩,
    ⟨(some 34), none, .extract 1 (.s 30)⟩,
    ⟨(some 9), none, .mov (.s 33)⟩,
    ⟨(some 10), none, .mov (.s 34)⟩] [2, 3, 4, 6, 8, 9, 10]
def a9r6 : AC := .reg [⟨(some 35), none, .mov (.s 2)⟩,
    ⟨(some 36), none, .iop .eql (.s 35) (.c (.lit (.int .i64 0)))⟩,
    ⟨(some 37), none, .mov (.s 36)⟩,
    ⟨(some 38), (some (37, true)), .mov (.s 4)⟩,
    ⟨(some 39), (some (37, true)), .iop .eql (.s 38) (.c (.lit (.int .i64 0)))⟩,
    ⟨(some 40), none, .pick (.s 37) (.s 39) (.c (.lit (.bool false)))⟩,
    ⟨(some 41), none, .mov (.s 40)⟩,
    ⟨(some 42), (some (41, true)), .mov (.s 6)⟩,
    ⟨(some 43), (some (41, true)), .iop .eql (.s 42) (.c (.lit (.int .i64 0)))⟩,
    ⟨(some 44), none, .pick (.s 41) (.s 43) (.c (.lit (.bool false)))⟩,
    ⟨(some 45), none, .mov (.s 44)⟩,
    ⟨(some 46), (some (45, true)), .mov (.s 8)⟩,
    ⟨(some 47), (some (45, true)), .iop .eql (.s 46) (.c (.lit (.int .i64 5)))⟩,
    ⟨(some 48), none, .pick (.s 45) (.s 47) (.c (.lit (.bool false)))⟩,
    ⟨(some 49), none, .mov (.s 48)⟩,
    ⟨(some 50), (some (49, true)), .mov (.s 3)⟩,
    ⟨(some 51), (some (49, true)), .callv (.c (.fn 16 [])) [(.s 50)]⟩,
    ⟨(some 52), (some (49, true)), .iop .eql (.s 51) (.c (.lit (.int .i64 2)))⟩,
    ⟨(some 53), none, .pick (.s 49) (.s 52) (.c (.lit (.bool false)))⟩,
    ⟨(some 54), none, .mov (.s 53)⟩,
    ⟨(some 55), (some (54, true)), .mov (.s 9)⟩,
    ⟨(some 56), (some (54, true)), .len (.s 55)⟩,
    ⟨(some 57), (some (54, true)), .iop .eql (.s 56) (.c (.lit (.int .i64 1)))⟩,
    ⟨(some 58), none, .pick (.s 54) (.s 57) (.c (.lit (.bool false)))⟩,
    ⟨(some 59), none, .mov (.s 58)⟩,
    ⟨(some 60), (some (59, true)), .mov (.s 9)⟩,
    ⟨(some 61), (some (59, true)), .iaddr 5 (.s 60) (.c (.lit (.int .i64 0)))⟩,
    ⟨(some 62), (some (59, true)), .faddr 0 (.s 61)⟩,
    ⟨(some 63), (some (59, true)), .load 1 false (.s 62)⟩,
    ⟨(some 64), (some (59, true)), .iop .eql (.s 63) (.c (.lit (.int .i64 2)))⟩,
    ⟨(some 65), none, .pick (.s 59) (.s 64) (.c (.lit (.bool false)))⟩,
    ⟨(some 66), none, .mov (.s 65)⟩,
    ⟨(some 67), (some (66, true)), .mov (.s 10)⟩,
    ⟨(some 68), (some (66, true)), .iop .eql (.s 67) (.c (.lit (.int .i64 0)))⟩,
    ⟨(some 69), none, .pick (.s 66) (.s 68) (.c (.lit (.bool false)))⟩,
    ⟨(some 0), none, .mov (.s 69)⟩] [0]
def a9 : AC := .seq (a9r0) (.seq (a9r1) (.seq (a9r2) (.seq (a9r3) (.seq (a9r4) (.seq (a9r5) (.seq (a9r6) (.ret)))))))
def a9R : List RD := [.tmp 0]

/-! colloquy/colloquylaw16.Few: slots 20, parameters 1 -/
def a10r0 : AC := .reg [⟨(some 2), none, .mov (.c (.lit (.bool false)))⟩] [0]
def a10r1 : AC := .reg [⟨(some 4), none, .mov (.s 0)⟩,
    ⟨(some 5), none, .len (.s 4)⟩,
    ⟨(some 6), none, .iop .gtr (.s 5) (.c (.lit (.int .i64 50)))⟩] [0, 6]
def a10r2 : AC := .reg [⟨(some 2), none, .mov (.c (.lit (.bool false)))⟩] [2]
def a10r3 : AC := .reg [⟨(some 3), none, .mov (.c (.lit (.int .i64 0)))⟩] [0, 3]
def a10r4 : AC := .reg [⟨(some 7), none, .mov (.s 3)⟩,
    ⟨(some 8), none, .mov (.s 0)⟩,
    ⟨(some 9), none, .len (.s 8)⟩,
    ⟨(some 10), none, .iop .lss (.s 7) (.s 9)⟩] [0, 3, 10]
def a10r6 : AC := .reg [⟨(some 13), none, .mov (.s 0)⟩,
    ⟨(some 14), none, .mov (.s 3)⟩,
    ⟨(some 15), none, .iaddr 5 (.s 13) (.s 14)⟩,
    ⟨(some 16), none, .faddr 2 (.s 15)⟩,
    ⟨(some 17), none, .load 1 false (.s 16)⟩,
    ⟨(some 18), none, .slen (.s 17)⟩,
    ⟨(some 19), none, .iop .gtr (.s 18) (.c (.lit (.int .i64 200)))⟩] [0, 3, 19]
def a10r7 : AC := .reg [⟨(some 2), none, .mov (.c (.lit (.bool false)))⟩] [2]
def a10r5 : AC := .reg [⟨(some 11), none, .mov (.s 3)⟩,
    ⟨(some 12), none, .iop .add (.s 11) (.c (.lit (.int .i64 1)))⟩,
    ⟨(some 3), none, .mov (.s 12)⟩] [0, 3]
def a10L4 : AC := .seq (.seq (a10r4) (.cond (.s 10) (.skip) (.exit 0))) (.seq (.block 1 (.seq (a10r6) (.cond (.s 19) (.seq (a10r7) (.ret)) (.skip)))) (a10r5))
def a10r8 : AC := .reg [⟨(some 2), none, .mov (.c (.lit (.bool true)))⟩] [2]
def a10 : AC := .seq (a10r0) (.seq (.seq (a10r1) (.cond (.s 6) (.seq (a10r2) (.ret)) (.skip))) (.seq (.seq (a10r3) (.block 0 (.loop a10L4))) (.seq (a10r8) (.ret))))
def a10R : List RD := [.tmp 2]

/-! colloquy/colloquylaw16.does: slots 48, parameters 2 -/
def a11r0 : AC := .reg [⟨(some 3), none, .box 11003 24 5 (.s 1)⟩,
    ⟨(some 4), none, .mov (.c (.nils 5))⟩,
    ⟨(some 5), none, .mov (.c (.lit (.int .i64 0)))⟩] [0, 3]
def a11r1 : AC := .reg [⟨(some 8), none, .mov (.s 0)⟩,
    ⟨(some 6), none, .mov (.s 8)⟩] [0, 3]
def a11r2 : AC := .reg [⟨(some 7), none, .mov (.c (.lit (.int .i64 0)))⟩] [0, 3]
def a11r3 : AC := .reg [⟨(some 9), none, .faddr 0 (.s 3)⟩,
    ⟨(some 10), none, .load 1 false (.s 9)⟩] [0, 3, 10]
def a11r5 : AC := .reg [⟨(some 23), none, .iop .eql (.s 10) (.c (.lit (.int .i64 0)))⟩,
    ⟨(some 22), none, .mov (.s 23)⟩] [0, 3, 10, 22]
def a11r6 : AC := .reg [⟨(some 25), none, .mov (.s 0)⟩,
    ⟨(some 26), none, .faddr 2 (.s 3)⟩,
    ⟨(some 27), none, .load 1 false (.s 26)⟩,
    ⟨(some 28), none, .faddr 4 (.s 3)⟩,
    ⟨(some 29), none, .load 1 false (.s 28)⟩,
    ⟨(some 30), none, .callv (.c (.fn 24 [])) [(.s 25), (.s 27), (.s 29)]⟩,
    ⟨(some 24), none, .mov (.s 30)⟩,
    ⟨(some 31), none, .extract 0 (.s 24)⟩,
    ⟨(some 32), none, .extract 1 (.s 24)⟩,
    ⟨(some 6), none, .mov (.s 31)⟩,
    ⟨(some 7), none, .mov (.s 32)⟩] [6, 7]
def a11r7 : AC := .reg [⟨(some 34), none, .iop .eql (.s 10) (.c (.lit (.int .i64 1)))⟩,
    ⟨(some 33), none, .mov (.s 34)⟩] [0, 3, 33]
def a11r8 : AC := .reg [⟨(some 36), none, .mov (.s 0)⟩,
    ⟨(some 37), none, .faddr 1 (.s 3)⟩,
    ⟨(some 38), none, .load 1 false (.s 37)⟩,
    ⟨(some 39), none, .faddr 2 (.s 3)⟩,
    ⟨(some 40), none, .load 1 false (.s 39)⟩,
    ⟨(some 41), none, .faddr 4 (.s 3)⟩,
    ⟨(some 42), none, .load 1 false (.s 41)⟩,
    ⟨(some 43), none, .callv (.c (.fn 22 [])) [(.s 36), (.s 38), (.s 40), (.s 42)]⟩,
    ⟨(some 35), none, .mov (.s 43)⟩,
    ⟨(some 44), none, .extract 0 (.s 35)⟩,
    ⟨(some 45), none, .extract 1 (.s 35)⟩,
    ⟨(some 6), none, .mov (.s 44)⟩,
    ⟨(some 7), none, .mov (.s 45)⟩] [6, 7]
def a11r4 : AC := .reg [⟨(some 12), none, .mov (.s 0)⟩,
    ⟨(some 13), none, .faddr 1 (.s 3)⟩,
    ⟨(some 14), none, .load 1 false (.s 13)⟩,
    ⟨(some 15), none, .faddr 2 (.s 3)⟩,
    ⟨(some 16), none, .load 1 false (.s 15)⟩,
    ⟨(some 17), none, .faddr 3 (.s 3)⟩,
    ⟨(some 18), none, .load 1 false (.s 17)⟩,
    ⟨(some 19), none, .callv (.c (.fn 23 [])) [(.s 12), (.s 14), (.s 16), (.s 18)]⟩,
    ⟨(some 11), none, .mov (.s 19)⟩,
    ⟨(some 20), none, .extract 0 (.s 11)⟩,
    ⟨(some 21), none, .extract 1 (.s 11)⟩,
    ⟨(some 6), none, .mov (.s 20)⟩,
    ⟨(some 7), none, .mov (.s 21)⟩] [6, 7]
def a11r9 : AC := .reg [⟨(some 46), none, .mov (.s 6)⟩,
    ⟨(some 47), none, .mov (.s 7)⟩,
    ⟨(some 4), none, .mov (.s 46)⟩,
    ⟨(some 5), none, .mov (.s 47)⟩] [4, 5]
def a11 : AC := .seq (a11r0) (.seq (a11r1) (.seq (a11r2) (.seq (.seq (a11r3) (.block 0 (.seq (a11r5) (.cond (.s 22) (a11r6) (.seq (a11r7) (.cond (.s 33) (a11r8) (a11r4))))))) (.seq (a11r9) (.ret)))))
def a11R : List RD := [.tmp 4, .tmp 5]

/-! colloquy/colloquylaw16.did: slots 48, parameters 2 -/
def a12r0 : AC := .reg [⟨(some 3), none, .box 12003 24 5 (.s 1)⟩,
    ⟨(some 4), none, .mov (.c (.nils 5))⟩,
    ⟨(some 5), none, .mov (.c (.lit (.int .i64 0)))⟩] [0, 3]
def a12r1 : AC := .reg [⟨(some 8), none, .mov (.s 0)⟩,
    ⟨(some 6), none, .mov (.s 8)⟩] [0, 3]
def a12r2 : AC := .reg [⟨(some 7), none, .mov (.c (.lit (.int .i64 0)))⟩] [0, 3]
def a12r3 : AC := .reg [⟨(some 9), none, .faddr 0 (.s 3)⟩,
    ⟨(some 10), none, .load 1 false (.s 9)⟩] [0, 3, 10]
def a12r5 : AC := .reg [⟨(some 23), none, .iop .eql (.s 10) (.c (.lit (.int .i64 0)))⟩,
    ⟨(some 22), none, .mov (.s 23)⟩] [0, 3, 10, 22]
def a12r6 : AC := .reg [⟨(some 25), none, .mov (.s 0)⟩,
    ⟨(some 26), none, .faddr 2 (.s 3)⟩,
    ⟨(some 27), none, .load 1 false (.s 26)⟩,
    ⟨(some 28), none, .faddr 4 (.s 3)⟩,
    ⟨(some 29), none, .load 1 false (.s 28)⟩,
    ⟨(some 30), none, .callv (.c (.fn 25 [])) [(.s 25), (.s 27), (.s 29)]⟩,
    ⟨(some 24), none, .mov (.s 30)⟩,
    ⟨(some 31), none, .extract 0 (.s 24)⟩,
    ⟨(some 32), none, .extract 1 (.s 24)⟩,
    ⟨(some 6), none, .mov (.s 31)⟩,
    ⟨(some 7), none, .mov (.s 32)⟩] [6, 7]
def a12r7 : AC := .reg [⟨(some 34), none, .iop .eql (.s 10) (.c (.lit (.int .i64 1)))⟩,
    ⟨(some 33), none, .mov (.s 34)⟩] [0, 3, 33]
def a12r8 : AC := .reg [⟨(some 36), none, .mov (.s 0)⟩,
    ⟨(some 37), none, .faddr 1 (.s 3)⟩,
    ⟨(some 38), none, .load 1 false (.s 37)⟩,
    ⟨(some 39), none, .faddr 2 (.s 3)⟩,
    ⟨(some 40), none, .load 1 false (.s 39)⟩,
    ⟨(some 41), none, .faddr 4 (.s 3)⟩,
    ⟨(some 42), none, .load 1 false (.s 41)⟩,
    ⟨(some 43), none, .callv (.c (.fn 26 [])) [(.s 36), (.s 38), (.s 40), (.s 42)]⟩,
    ⟨(some 35), none, .mov (.s 43)⟩,
    ⟨(some 44), none, .extract 0 (.s 35)⟩,
    ⟨(some 45), none, .extract 1 (.s 35)⟩,
    ⟨(some 6), none, .mov (.s 44)⟩,
    ⟨(some 7), none, .mov (.s 45)⟩] [6, 7]
def a12r4 : AC := .reg [⟨(some 12), none, .mov (.s 0)⟩,
    ⟨(some 13), none, .faddr 1 (.s 3)⟩,
    ⟨(some 14), none, .load 1 false (.s 13)⟩,
    ⟨(some 15), none, .faddr 2 (.s 3)⟩,
    ⟨(some 16), none, .load 1 false (.s 15)⟩,
    ⟨(some 17), none, .faddr 3 (.s 3)⟩,
    ⟨(some 18), none, .load 1 false (.s 17)⟩,
    ⟨(some 19), none, .callv (.c (.fn 27 [])) [(.s 12), (.s 14), (.s 16), (.s 18)]⟩,
    ⟨(some 11), none, .mov (.s 19)⟩,
    ⟨(some 20), none, .extract 0 (.s 11)⟩,
    ⟨(some 21), none, .extract 1 (.s 11)⟩,
    ⟨(some 6), none, .mov (.s 20)⟩,
    ⟨(some 7), none, .mov (.s 21)⟩] [6, 7]
def a12r9 : AC := .reg [⟨(some 46), none, .mov (.s 6)⟩,
    ⟨(some 47), none, .mov (.s 7)⟩,
    ⟨(some 4), none, .mov (.s 46)⟩,
    ⟨(some 5), none, .mov (.s 47)⟩] [4, 5]
def a12 : AC := .seq (a12r0) (.seq (a12r1) (.seq (a12r2) (.seq (.seq (a12r3) (.block 0 (.seq (a12r5) (.cond (.s 22) (a12r6) (.seq (a12r7) (.cond (.s 33) (a12r8) (a12r4))))))) (.seq (a12r9) (.ret)))))
def a12R : List RD := [.tmp 4, .tmp 5]

/-! colloquy/colloquyref16.Same: slots 26, parameters 2 -/
def a13r0 : AC := .reg [⟨(some 4), none, .mov (.c (.lit (.bool false)))⟩] [0, 1]
def a13r1 : AC := .reg [⟨(some 6), none, .mov (.s 0)⟩,
    ⟨(some 7), none, .len (.s 6)⟩,
    ⟨(some 8), none, .mov (.s 1)⟩,
    ⟨(some 9), none, .len (.s 8)⟩,
    ⟨(some 10), none, .iop .neq (.s 7) (.s 9)⟩] [0, 1, 10]
def a13r2 : AC := .reg [⟨(some 4), none, .mov (.c (.lit (.bool false)))⟩] [4]
def a13r3 : AC := .reg [⟨(some 5), none, .mov (.c (.lit (.int .i64 0)))⟩] [0, 1, 5]
def a13r4 : AC := .reg [⟨(some 11), none, .mov (.s 5)⟩,
    ⟨(some 12), none, .mov (.s 0)⟩,
    ⟨(some 13), none, .len (.s 12)⟩,
    ⟨(some 14), none, .iop .lss (.s 11) (.s 13)⟩] [0, 1, 5, 14]
def a13r6 : AC := .draw [] (.take 0 ⟨(some 17), none, .mov (.s 0)⟩ <|
    .take 1 ⟨(some 18), none, .mov (.s 5)⟩ <|
    .take 2 ⟨(some 19), none, .iaddr 5 (.s 17) (.s 18)⟩ <|
    .take 3 ⟨(some 20), none, .load 5 true (.s 19)⟩ <|
    .take 4 ⟨(some 21), none, .mov (.s 1)⟩ <|
    .take 5 ⟨(some 22), none, .mov (.s 5)⟩ <|
    .take 6 ⟨(some 23), none, .iaddr 5 (.s 21) (.s 22)⟩ <|
    .take 7 ⟨(some 24), none, .load 5 true (.s 23)⟩ <|
    .take 8 ⟨(some 25), none, .seql true [1, 1, 2, 1, 0] (.s 20) (.s 24)⟩ <|
    .done) [0, 1, 5, 25]
def a13r7 : AC := .reg [⟨(some 4), none, .mov (.c (.lit (.bool false)))⟩] [4]
def a13r5 : AC := .reg [⟨(some 15), none, .mov (.s 5)⟩,
    ⟨(some 16), none, .iop .add (.s 15) (.c (.lit (.int .i64 1)))⟩,
    ⟨(some 5), none, .mov (.s 16)⟩] [0, 1, 5]
def a13L4 : AC := .seq (.seq (a13r4) (.cond (.s 14) (.skip) (.exit 0))) (.seq (.block 1 (.seq (a13r6) (.cond (.s 25) (.seq (a13r7) (.ret)) (.skip)))) (a13r5))
def a13r8 : AC := .reg [⟨(some 4), none, .mov (.c (.lit (.bool true)))⟩] [4]
def a13 : AC := .seq (a13r0) (.seq (.seq (a13r1) (.cond (.s 10) (.seq (a13r2) (.ret)) (.skip))) (.seq (.seq (a13r3) (.block 0 (.loop a13L4))) (.seq (a13r8) (.ret))))
def a13R : List RD := [.tmp 4]

/-! colloquy/posts.May: slots 35, parameters 1 -/
def a14r0 : AC := .reg [⟨(some 2), none, .mov (.c (.lit (.bool false)))⟩] [0]
def a14r1 : AC := .reg [⟨(some 5), none, .mov (.s 0)⟩,
    ⟨(some 6), none, .len (.s 5)⟩,
    ⟨(some 7), none, .mov (.c (.lit (.int .i64 0)))⟩] [0, 5, 6, 7]
def a14r2 : AC := .reg [⟨(some 8), none, .iop .lss (.s 7) (.s 6)⟩] [0, 5, 6, 7, 8]
def a14r3 : AC := .reg [⟨(some 9), none, .mov (.s 7)⟩,
    ⟨(some 10), none, .iaddr 5 (.s 5) (.s 7)⟩,
    ⟨(some 11), none, .load 5 true (.s 10)⟩,
    ⟨(some 4), none, .alloc 14004 33 [(.lit (.int .i64 0)), (.lit (.int .i64 0)), (.lit (.string ⟨#[]⟩)), (.lit (.int .i64 0)), (.lit (.bool false))]⟩,
    ⟨(some 3), none, .mov (.s 9)⟩,
    ⟨none, none, .store 5 (.s 4) (.s 11)⟩] [0, 3, 4, 5, 6, 7]
def a14r4 : AC := .draw [] (.take 0 ⟨(some 12), none, .load 5 true (.s 4)⟩ <|
    .alt 1 ⟨(some 13), none, .callv (.c (.fn 28 [])) [(.s 12)]⟩ (
    .take 2 ⟨(some 14), none, .not (.s 13)⟩ <|
    .take 3 ⟨(some 15), none, .mov (.s 14)⟩ <|
    .take 4 ⟨(some 16), (some (15, false)), .mov (.s 3)⟩ <|
    .take 5 ⟨(some 17), (some (15, false)), .iop .gtr (.s 16) (.c (.lit (.int .i64 0)))⟩ <|
    .take 6 ⟨(some 18), (some (15, false)), .mov (.s 17)⟩ <|
    .take 7 ⟨(some 19), (some (18, true)), .faddr 0 (.s 4)⟩ <|
    .take 8 ⟨(some 20), (some (18, true)), .load 1 false (.s 19)⟩ <|
    .take 9 ⟨(some 21), (some (18, true)), .mov (.s 0)⟩ <|
    .take 10 ⟨(some 22), (some (18, true)), .mov (.s 3)⟩ <|
    .take 11 ⟨(some 23), (some (18, true)), .iop .sub (.s 22) (.c (.lit (.int .i64 1)))⟩ <|
    .take 12 ⟨(some 24), (some (18, true)), .iaddr 5 (.s 21) (.s 23)⟩ <|
    .take 13 ⟨(some 25), (some (18, true)), .faddr 0 (.s 24)⟩ <|
    .take 14 ⟨(some 26), (some (18, true)), .load 1 false (.s 25)⟩ <|
    .take 15 ⟨(some 27), (some (18, true)), .iop .add (.s 26) (.c (.lit (.int .i64 1)))⟩ <|
    .take 16 ⟨(some 28), (some (18, true)), .iop .neq (.s 20) (.s 27)⟩ <|
    .take 17 ⟨(some 29), (some (15, false)), .pick (.s 18) (.s 28) (.c (.lit (.bool false)))⟩ <|
    .take 18 ⟨(some 30), none, .pick (.s 15) (.c (.lit (.bool true))) (.s 29)⟩ <|
    .done) .done) [0, 5, 6, 7, 30]
def a14r5 : AC := .reg [⟨(some 2), none, .mov (.c (.lit (.bool false)))⟩] [2]
def a14r6 : AC := .reg [⟨(some 31), none, .iop .add (.s 7) (.c (.lit (.int .i64 1)))⟩,
    ⟨(some 7), none, .mov (.s 31)⟩] [0, 5, 6, 7]
def a14L2 : AC := .seq (a14r2) (.seq (.cond (.s 8) (.skip) (.exit 0)) (.seq (.block 1 (.seq (a14r3) (.seq (a14r4) (.cond (.s 30) (.seq (a14r5) (.ret)) (.skip))))) (a14r6)))
def a14r7 : AC := .reg [⟨(some 32), none, .mov (.s 0)⟩,
    ⟨(some 33), none, .len (.s 32)⟩,
    ⟨(some 34), none, .iop .leq (.s 33) (.c (.lit (.int .i64 32)))⟩,
    ⟨(some 2), none, .mov (.s 34)⟩] [2]
def a14 : AC := .seq (a14r0) (.seq (.seq (a14r1) (.block 0 (.loop a14L2))) (.seq (a14r7) (.ret)))
def a14R : List RD := [.tmp 2]

/-! colloquy/posts.Page: slots 29, parameters 3 -/
def a15r0 : AC := .reg [⟨(some 5), none, .box 15005 3 1 (.s 2)⟩,
    ⟨(some 6), none, .alloc 15006 22 [(.nils 5)]⟩,
    ⟨(some 7), none, .alloc 15007 3 [(.lit (.int .i64 0))]⟩] [0, 1, 5, 6, 7]
def a15r1 : AC := .reg [⟨(some 8), none, .alloc 15008 22 [(.nils 5)]⟩] [0, 1, 5, 6, 7, 8]
def a15r2 : AC := .reg [⟨(some 11), none, .mov (.s 0)⟩,
    ⟨(some 12), none, .callv (.c (.fn 30 [])) [(.s 11)]⟩,
    ⟨(some 13), none, .mov (.s 1)⟩,
    ⟨(some 14), none, .callv (.c (.fn 29 [])) [(.s 12), (.s 13)]⟩] [5, 6, 7, 8, 14]
def a15r3 : AC := .reg [⟨(some 10), none, .alloc 15010 33 [(.lit (.int .i64 0)), (.lit (.int .i64 0)), (.lit (.string ⟨#[]⟩)), (.lit (.int .i64 0)), (.lit (.bool false))]⟩,
    ⟨none, none, .store 5 (.s 10) (.s 16)⟩] [5, 6, 7, 8, 10]
def a15r4 : AC := .reg [⟨(some 17), none, .load 1 false (.s 8)⟩,
    ⟨(some 18), none, .len (.s 17)⟩,
    ⟨(some 19), none, .load 1 false (.s 5)⟩,
    ⟨(some 20), none, .iop .geq (.s 18) (.s 19)⟩] [6, 7, 8, 10, 20]
def a15r5 : AC := .draw [] (.take 0 ⟨(some 21), none, .load 1 false (.s 8)⟩ <|
    .take 1 ⟨(some 22), none, .faddr 0 (.s 10)⟩ <|
    .take 2 ⟨(some 23), none, .load 1 false (.s 22)⟩ <|
    .alt 3 ⟨none, none, .store 1 (.s 6) (.s 21)⟩ (
    .alt 4 ⟨none, none, .store 1 (.s 7) (.s 23)⟩ (
    .done) .done) .done) []
def a15r6 : AC := .reg [⟨(some 24), none, .load 1 false (.s 8)⟩,
    ⟨(some 25), none, .load 5 true (.s 10)⟩,
    ⟨(some 26), none, .bslice 15026 33 5 [(.s 25)]⟩,
    ⟨(some 27), none, .append 15027 33 5 48 (.s 24) (.s 26)⟩,
    ⟨none, none, .store 1 (.s 8) (.s 27)⟩] []
def a15r7 : AC := .reg [⟨(some 28), none, .load 1 false (.s 8)⟩,
    ⟨none, none, .store 1 (.s 6) (.s 28)⟩,
    ⟨none, none, .store 1 (.s 7) (.c (.lit (.int .i64 0)))⟩] [6, 7]
def a15 : AC := .seq (a15r0) (.seq (a15r1) (.seq (.seq (a15r2) (.block 0 (.rangef (.s 14) [15, 16] (a15r3) (.block 1 (.seq (.seq (a15r4) (.cond (.s 20) (.seq (a15r5) (.ret)) (.skip))) (a15r6)))))) (.seq (a15r7) (.ret))))
def a15R : List RD := [.cell 6 1 false, .cell 7 1 false]

/-! colloquy/posts.Last: slots 15, parameters 1 -/
def a16r0 : AC := .reg [⟨(some 2), none, .mov (.c (.lit (.int .i64 0)))⟩] [0]
def a16r1 : AC := .reg [⟨(some 3), none, .mov (.s 0)⟩,
    ⟨(some 4), none, .callv (.c (.fn 30 [])) [(.s 3)]⟩,
    ⟨(some 0), none, .mov (.s 4)⟩] [0]
def a16r2 : AC := .reg [⟨(some 5), none, .mov (.s 0)⟩,
    ⟨(some 6), none, .len (.s 5)⟩,
    ⟨(some 7), none, .iop .gtr (.s 6) (.c (.lit (.int .i64 0)))⟩] [0, 7]
def a16r3 : AC := .reg [⟨(some 8), none, .mov (.s 0)⟩,
    ⟨(some 9), none, .mov (.s 0)⟩,
    ⟨(some 10), none, .len (.s 9)⟩,
    ⟨(some 11), none, .iop .sub (.s 10) (.c (.lit (.int .i64 1)))⟩,
    ⟨(some 12), none, .iaddr 5 (.s 8) (.s 11)⟩,
    ⟨(some 13), none, .faddr 0 (.s 12)⟩,
    ⟨(some 14), none, .load 1 false (.s 13)⟩,
    ⟨(some 2), none, .mov (.s 14)⟩] [2]
def a16r4 : AC := .reg [⟨(some 2), none, .mov (.c (.lit (.int .i64 0)))⟩] [2]
def a16 : AC := .seq (a16r0) (.seq (.seq (a16r1) (.seq (a16r2) (.cond (.s 7) (.seq (a16r3) (.ret)) (.skip)))) (.seq (a16r4) (.ret)))
def a16R : List RD := [.tmp 2]

/-! colloquy/posts.Find: slots 18, parameters 2 -/
def a17r0 : AC := .reg [⟨(some 4), none, .alloc 17004 33 [(.lit (.int .i64 0)), (.lit (.int .i64 0)), (.lit (.string ⟨#[]⟩)), (.lit (.int .i64 0)), (.lit (.bool false))]⟩,
    ⟨(some 5), none, .mov (.c (.lit (.int .i64 0)))⟩] [0, 1, 4]
def a17r1 : AC := .reg [⟨(some 6), none, .alloc 17006 33 [(.lit (.int .i64 0)), (.lit (.int .i64 0)), (.lit (.string ⟨#[]⟩)), (.lit (.int .i64 0)), (.lit (.bool false))]⟩] [0, 1, 4, 6]
def a17r2 : AC := .reg [⟨(some 10), none, .mov (.s 0)⟩,
    ⟨(some 11), none, .mov (.s 1)⟩,
    ⟨(some 12), none, .mkfn 32 [(.s 6)]⟩,
    ⟨(some 13), none, .callv (.c (.fn 31 [])) [(.s 10), (.s 11), (.s 12)]⟩,
    ⟨(some 9), none, .mov (.s 13)⟩,
    ⟨(some 14), none, .extract 0 (.s 9)⟩,
    ⟨(some 15), none, .extract 1 (.s 9)⟩,
    ⟨(some 7), none, .mov (.s 14)⟩,
    ⟨(some 8), none, .mov (.s 15)⟩] [4, 6, 8]
def a17r3 : AC := .reg [⟨(some 16), none, .load 5 true (.s 6)⟩,
    ⟨(some 17), none, .mov (.s 8)⟩,
    ⟨none, none, .store 5 (.s 4) (.s 16)⟩,
    ⟨(some 5), none, .mov (.s 17)⟩] [4, 5]
def a17 : AC := .seq (a17r0) (.seq (a17r1) (.seq (a17r2) (.seq (a17r3) (.ret))))
def a17R : List RD := [.cell 4 5 true, .tmp 5]

/-! colloquy/colloquyref16.Find: slots 20, parameters 2 -/
def a18r0 : AC := .reg [⟨(some 4), none, .alloc 18004 33 [(.lit (.int .i64 0)), (.lit (.int .i64 0)), (.lit (.string ⟨#[]⟩)), (.lit (.int .i64 0)), (.lit (.bool false))]⟩,
    ⟨(some 5), none, .mov (.c (.lit (.int .i64 0)))⟩] [0, 1, 4]
def a18r1 : AC := .reg [⟨(some 8), none, .mov (.s 0)⟩,
    ⟨(some 9), none, .callv (.c (.fn 33 [])) [(.s 8)]⟩,
    ⟨(some 6), none, .mov (.s 9)⟩] [1, 4, 6]
def a18r2 : AC := .reg [⟨(some 10), none, .mov (.s 6)⟩,
    ⟨(some 11), none, .mov (.s 1)⟩,
    ⟨(some 12), none, .callv (.c (.fn 34 [])) [(.s 10), (.s 11)]⟩,
    ⟨(some 7), none, .mov (.s 12)⟩] [4, 6, 7]
def a18r3 : AC := .reg [⟨(some 13), none, .mov (.s 7)⟩,
    ⟨(some 14), none, .iop .lss (.s 13) (.c (.lit (.int .i64 0)))⟩] [4, 6, 7, 14]
def a18r4 : AC := .reg [⟨(some 15), none, .build [(.lit (.int .i64 0)), (.lit (.int .i64 0)), (.lit (.string ⟨#[]⟩)), (.lit (.int .i64 0)), (.lit (.bool false))] []⟩,
    ⟨none, none, .store 5 (.s 4) (.s 15)⟩,
    ⟨(some 5), none, .mov (.c (.lit (.int .i64 5)))⟩] [4, 5]
def a18r5 : AC := .reg [⟨(some 16), none, .mov (.s 6)⟩,
    ⟨(some 17), none, .mov (.s 7)⟩,
    ⟨(some 18), none, .iaddr 5 (.s 16) (.s 17)⟩,
    ⟨(some 19), none, .load 5 true (.s 18)⟩,
    ⟨none, none, .store 5 (.s 4) (.s 19)⟩,
    ⟨(some 5), none, .mov (.c (.lit (.int .i64 0)))⟩] [4, 5]
def a18 : AC := .seq (a18r0) (.seq (a18r1) (.seq (a18r2) (.seq (.seq (a18r3) (.cond (.s 14) (.seq (a18r4) (.ret)) (.skip))) (.seq (a18r5) (.ret)))))
def a18R : List RD := [.cell 4 5 true, .tmp 5]

/-! colloquy/colloquyref16.Page: slots 51, parameters 3 -/
def a19r0 : AC := .reg [⟨(some 6), none, .mov (.c (.nils 5))⟩,
    ⟨(some 7), none, .mov (.c (.lit (.int .i64 0)))⟩] [0, 1, 2]
def a19r1 : AC := .reg [⟨(some 11), none, .mov (.s 0)⟩,
    ⟨(some 12), none, .callv (.c (.fn 33 [])) [(.s 11)]⟩,
    ⟨(some 8), none, .mov (.s 12)⟩] [1, 2, 8]
def a19r2 : AC := .reg [⟨(some 9), none, .mov (.c (.nils 5))⟩] [1, 2, 8, 9]
def a19r3 : AC := .reg [⟨(some 10), none, .mov (.c (.lit (.int .i64 0)))⟩] [1, 2, 8, 9, 10]
def a19r4 : AC := .reg [⟨(some 13), none, .mov (.s 10)⟩,
    ⟨(some 14), none, .mov (.s 8)⟩,
    ⟨(some 15), none, .len (.s 14)⟩,
    ⟨(some 16), none, .iop .lss (.s 13) (.s 15)⟩] [1, 2, 8, 9, 10, 16]
def a19r6 : AC := .reg [⟨(some 19), none, .mov (.s 8)⟩,
    ⟨(some 20), none, .mov (.s 10)⟩,
    ⟨(some 21), none, .iaddr 5 (.s 19) (.s 20)⟩,
    ⟨(some 22), none, .faddr 4 (.s 21)⟩,
    ⟨(some 23), none, .load 1 false (.s 22)⟩,
    ⟨(some 24), none, .mov (.s 23)⟩,
    ⟨(some 25), (some (24, false)), .mov (.s 8)⟩,
    ⟨(some 26), (some (24, false)), .mov (.s 10)⟩,
    ⟨(some 27), (some (24, false)), .iaddr 5 (.s 25) (.s 26)⟩,
    ⟨(some 28), (some (24, false)), .faddr 0 (.s 27)⟩,
    ⟨(some 29), (some (24, false)), .load 1 false (.s 28)⟩,
    ⟨(some 30), (some (24, false)), .mov (.s 1)⟩,
    ⟨(some 31), (some (24, false)), .iop .lss (.s 29) (.s 30)⟩,
    ⟨(some 32), none, .pick (.s 24) (.c (.lit (.bool true))) (.s 31)⟩] [1, 2, 8, 9, 10, 32]
def a19r7 : AC := .reg [⟨(some 33), none, .mov (.s 9)⟩,
    ⟨(some 34), none, .len (.s 33)⟩,
    ⟨(some 35), none, .mov (.s 2)⟩,
    ⟨(some 36), none, .iop .geq (.s 34) (.s 35)⟩] [1, 2, 8, 9, 10, 36]
def a19r8 : AC := .draw [] (.take 0 ⟨(some 37), none, .mov (.s 9)⟩ <|
    .take 1 ⟨(some 38), none, .mov (.s 8)⟩ <|
    .take 2 ⟨(some 39), none, .mov (.s 10)⟩ <|
    .take 3 ⟨(some 40), none, .iaddr 5 (.s 38) (.s 39)⟩ <|
    .take 4 ⟨(some 41), none, .faddr 0 (.s 40)⟩ <|
    .take 5 ⟨(some 42), none, .load 1 false (.s 41)⟩ <|
    .take 6 ⟨(some 6), none, .mov (.s 37)⟩ <|
    .take 7 ⟨(some 7), none, .mov (.s 42)⟩ <|
    .done) [6, 7]
def a19r9 : AC := .reg [⟨(some 43), none, .mov (.s 9)⟩,
    ⟨(some 44), none, .mov (.s 8)⟩,
    ⟨(some 45), none, .mov (.s 10)⟩,
    ⟨(some 46), none, .iaddr 5 (.s 44) (.s 45)⟩,
    ⟨(some 47), none, .load 5 true (.s 46)⟩,
    ⟨(some 48), none, .bslice 19048 33 5 [(.s 47)]⟩,
    ⟨(some 49), none, .append 19049 33 5 48 (.s 43) (.s 48)⟩,
    ⟨(some 9), none, .mov (.s 49)⟩] [1, 2, 8, 9, 10]
def a19r5 : AC := .reg [⟨(some 17), none, .mov (.s 10)⟩,
    ⟨(some 18), none, .iop .add (.s 17) (.c (.lit (.int .i64 1)))⟩,
    ⟨(some 10), none, .mov (.s 18)⟩] [1, 2, 8, 9, 10]
def a19L4 : AC := .seq (.seq (a19r4) (.cond (.s 16) (.skip) (.exit 0))) (.seq (.block 1 (.seq (.seq (a19r6) (.cond (.s 32) (.exit 1) (.skip))) (.seq (.seq (a19r7) (.cond (.s 36) (.seq (a19r8) (.ret)) (.skip))) (a19r9)))) (a19r5))
def a19r10 : AC := .reg [⟨(some 50), none, .mov (.s 9)⟩,
    ⟨(some 6), none, .mov (.s 50)⟩,
    ⟨(some 7), none, .mov (.c (.lit (.int .i64 0)))⟩] [6, 7]
def a19 : AC := .seq (a19r0) (.seq (a19r1) (.seq (a19r2) (.seq (.seq (a19r3) (.block 0 (.loop a19L4))) (.seq (a19r10) (.ret)))))
def a19R : List RD := [.tmp 6, .tmp 7]

/-! colloquy/colloquyref16.May: slots 40, parameters 1 -/
def a20r0 : AC := .reg [⟨(some 2), none, .mov (.c (.lit (.bool false)))⟩] [0]
def a20r1 : AC := .reg [⟨(some 5), none, .mov (.s 0)⟩,
    ⟨(some 6), none, .len (.s 5)⟩,
    ⟨(some 7), none, .iop .gtr (.s 6) (.c (.lit (.int .i64 32)))⟩] [0, 7]
def a20r2 : AC := .reg [⟨(some 2), none, .mov (.c (.lit (.bool false)))⟩] [2]
def a20r3 : AC := .reg [⟨(some 3), none, .mov (.c (.lit (.int .i64 0)))⟩] [0, 3]
def a20r4 : AC := .reg [⟨(some 8), none, .mov (.s 3)⟩,
    ⟨(some 9), none, .mov (.s 0)⟩,
    ⟨(some 10), none, .len (.s 9)⟩,
    ⟨(some 11), none, .iop .lss (.s 8) (.s 10)⟩] [0, 3, 11]
def a20r6 : AC := .reg [⟨(some 14), none, .mov (.s 0)⟩,
    ⟨(some 15), none, .mov (.s 3)⟩,
    ⟨(some 16), none, .iaddr 5 (.s 14) (.s 15)⟩,
    ⟨(some 17), none, .load 5 true (.s 16)⟩,
    ⟨(some 18), none, .callv (.c (.fn 35 [])) [(.s 17)]⟩,
    ⟨(some 4), none, .mov (.s 18)⟩] [0, 3, 4]
def a20r7 : AC := .draw [] (.take 0 ⟨(some 19), none, .mov (.s 4)⟩ <|
    .take 1 ⟨(some 20), none, .not (.s 19)⟩ <|
    .take 2 ⟨(some 21), none, .mov (.s 20)⟩ <|
    .take 3 ⟨(some 22), (some (21, false)), .mov (.s 3)⟩ <|
    .take 4 ⟨(some 23), (some (21, false)), .iop .gtr (.s 22) (.c (.lit (.int .i64 0)))⟩ <|
    .take 5 ⟨(some 24), (some (21, false)), .mov (.s 23)⟩ <|
    .take 6 ⟨(some 25), (some (24, true)), .mov (.s 0)⟩ <|
    .take 7 ⟨(some 26), (some (24, true)), .mov (.s 3)⟩ <|
    .take 8 ⟨(some 27), (some (24, true)), .iaddr 5 (.s 25) (.s 26)⟩ <|
    .take 9 ⟨(some 28), (some (24, true)), .faddr 0 (.s 27)⟩ <|
    .take 10 ⟨(some 29), (some (24, true)), .load 1 false (.s 28)⟩ <|
    .take 11 ⟨(some 30), (some (24, true)), .mov (.s 0)⟩ <|
    .take 12 ⟨(some 31), (some (24, true)), .mov (.s 3)⟩ <|
    .take 13 ⟨(some 32), (some (24, true)), .iop .sub (.s 31) (.c (.lit (.int .i64 1)))⟩ <|
    .take 14 ⟨(some 33), (some (24, true)), .iaddr 5 (.s 30) (.s 32)⟩ <|
    .take 15 ⟨(some 34), (some (24, true)), .faddr 0 (.s 33)⟩ <|
    .take 16 ⟨(some 35), (some (24, true)), .load 1 false (.s 34)⟩ <|
    .take 17 ⟨(some 36), (some (24, true)), .iop .add (.s 35) (.c (.lit (.int .i64 1)))⟩ <|
    .take 18 ⟨(some 37), (some (24, true)), .iop .neq (.s 29) (.s 36)⟩ <|
    .take 19 ⟨(some 38), (some (21, false)), .pick (.s 24) (.s 37) (.c (.lit (.bool false)))⟩ <|
    .take 20 ⟨(some 39), none, .pick (.s 21) (.c (.lit (.bool true))) (.s 38)⟩ <|
    .done) [0, 3, 39]
def a20r8 : AC := .reg [⟨(some 2), none, .mov (.c (.lit (.bool false)))⟩] [2]
def a20r5 : AC := .reg [⟨(some 12), none, .mov (.s 3)⟩,
    ⟨(some 13), none, .iop .add (.s 12) (.c (.lit (.int .i64 1)))⟩,
    ⟨(some 3), none, .mov (.s 13)⟩] [0, 3]
def a20L4 : AC := .seq (.seq (a20r4) (.cond (.s 11) (.skip) (.exit 0))) (.seq (.block 1 (.seq (a20r6) (.seq (a20r7) (.cond (.s 39) (.seq (a20r8) (.ret)) (.skip))))) (a20r5))
def a20r9 : AC := .reg [⟨(some 2), none, .mov (.c (.lit (.bool true)))⟩] [2]
def a20 : AC := .seq (a20r0) (.seq (.seq (a20r1) (.cond (.s 7) (.seq (a20r2) (.ret)) (.skip))) (.seq (.seq (a20r3) (.block 0 (.loop a20L4))) (.seq (a20r9) (.ret))))
def a20R : List RD := [.tmp 2]

/-! colloquy/colloquyref16.Last: slots 16, parameters 1 -/
def a21r0 : AC := .reg [⟨(some 2), none, .mov (.c (.lit (.int .i64 0)))⟩] [0]
def a21r1 : AC := .reg [⟨(some 4), none, .mov (.s 0)⟩,
    ⟨(some 5), none, .callv (.c (.fn 33 [])) [(.s 4)]⟩,
    ⟨(some 3), none, .mov (.s 5)⟩] [3]
def a21r2 : AC := .reg [⟨(some 6), none, .mov (.s 3)⟩,
    ⟨(some 7), none, .len (.s 6)⟩,
    ⟨(some 8), none, .iop .eql (.s 7) (.c (.lit (.int .i64 0)))⟩] [3, 8]
def a21r3 : AC := .reg [⟨(some 2), none, .mov (.c (.lit (.int .i64 0)))⟩] [2]
def a21r4 : AC := .reg [⟨(some 9), none, .mov (.s 3)⟩,
    ⟨(some 10), none, .mov (.s 3)⟩,
    ⟨(some 11), none, .len (.s 10)⟩,
    ⟨(some 12), none, .iop .sub (.s 11) (.c (.lit (.int .i64 1)))⟩,
    ⟨(some 13), none, .iaddr 5 (.s 9) (.s 12)⟩,
    ⟨(some 14), none, .faddr 0 (.s 13)⟩,
    ⟨(some 15), none, .load 1 false (.s 14)⟩,
    ⟨(some 2), none, .mov (.s 15)⟩] [2]
def a21 : AC := .seq (a21r0) (.seq (a21r1) (.seq (.seq (a21r2) (.cond (.s 8) (.seq (a21r3) (.ret)) (.skip))) (.seq (a21r4) (.ret))))
def a21R : List RD := [.tmp 2]

/-! colloquy/posts.Edit: slots 19, parameters 4 -/
def a22r0 : AC := .reg [⟨(some 6), none, .box 22006 3 1 (.s 2)⟩,
    ⟨(some 7), none, .box 22007 9 1 (.s 3)⟩,
    ⟨(some 8), none, .mov (.c (.nils 5))⟩,
    ⟨(some 9), none, .mov (.c (.lit (.int .i64 0)))⟩] [0, 1, 6, 7]
def a22r1 : AC := .reg [⟨(some 10), none, .load 1 false (.s 7)⟩,
    ⟨(some 11), none, .callv (.c (.fn 36 [])) [(.s 10)]⟩,
    ⟨(some 12), none, .not (.s 11)⟩] [0, 1, 6, 7, 12]
def a22r2 : AC := .reg [⟨(some 8), none, .mov (.c (.nils 5))⟩,
    ⟨(some 9), none, .mov (.c (.lit (.int .i64 1)))⟩] [8, 9]
def a22r3 : AC := .reg [⟨(some 13), none, .mov (.s 0)⟩,
    ⟨(some 14), none, .mov (.s 1)⟩,
    ⟨(some 15), none, .mkfn 37 [(.s 6), (.s 7)]⟩,
    ⟨(some 16), none, .callv (.c (.fn 31 [])) [(.s 13), (.s 14), (.s 15)]⟩,
    ⟨(some 17), none, .extract 0 (.s 16)⟩,
    ⟨(some 18), none, .extract 1 (.s 16)⟩,
    ⟨(some 8), none, .mov (.s 17)⟩,
    ⟨(some 9), none, .mov (.s 18)⟩] [8, 9]
def a22 : AC := .seq (a22r0) (.seq (.seq (a22r1) (.cond (.s 12) (.seq (a22r2) (.ret)) (.skip))) (.seq (a22r3) (.ret)))
def a22R : List RD := [.tmp 8, .tmp 9]

/-! colloquy/posts.Delete: slots 16, parameters 4 -/
def a23r0 : AC := .reg [⟨(some 6), none, .box 23006 3 1 (.s 2)⟩,
    ⟨(some 7), none, .box 23007 3 1 (.s 3)⟩,
    ⟨(some 8), none, .mov (.c (.nils 5))⟩,
    ⟨(some 9), none, .mov (.c (.lit (.int .i64 0)))⟩] [0, 1, 6, 7]
def a23r1 : AC := .reg [⟨(some 10), none, .mov (.s 0)⟩,
    ⟨(some 11), none, .mov (.s 1)⟩,
    ⟨(some 12), none, .mkfn 38 [(.s 6), (.s 7)]⟩,
    ⟨(some 13), none, .callv (.c (.fn 31 [])) [(.s 10), (.s 11), (.s 12)]⟩,
    ⟨(some 14), none, .extract 0 (.s 13)⟩,
    ⟨(some 15), none, .extract 1 (.s 13)⟩,
    ⟨(some 8), none, .mov (.s 14)⟩,
    ⟨(some 9), none, .mov (.s 15)⟩] [8, 9]
def a23 : AC := .seq (a23r0) (.seq (a23r1) (.ret))
def a23R : List RD := [.tmp 8, .tmp 9]

/-! colloquy/posts.Add: slots 39, parameters 3 -/
def a24r0 : AC := .reg [⟨(some 6), none, .mov (.c (.nils 5))⟩,
    ⟨(some 7), none, .mov (.c (.lit (.int .i64 0)))⟩] [0, 1, 2]
def a24r1 : AC := .reg [⟨(some 9), none, .mov (.s 0)⟩,
    ⟨(some 10), none, .callv (.c (.fn 30 [])) [(.s 9)]⟩,
    ⟨(some 0), none, .mov (.s 10)⟩] [0, 1, 2]
def a24r2 : AC := .reg [⟨(some 11), none, .mov (.s 0)⟩,
    ⟨(some 12), none, .callv (.c (.fn 16 [])) [(.s 11)]⟩,
    ⟨(some 8), none, .mov (.s 12)⟩] [0, 1, 2, 8]
def a24r3 : AC := .reg [⟨(some 14), none, .mov (.s 1)⟩,
    ⟨(some 15), none, .callv (.c (.fn 39 [])) [(.s 14), (.c (.lit (.int .i64 1))), (.c (.lit (.int .i64 1048576)))]⟩,
    ⟨(some 16), none, .not (.s 15)⟩,
    ⟨(some 17), none, .mov (.s 16)⟩,
    ⟨(some 18), (some (17, false)), .mov (.s 2)⟩,
    ⟨(some 19), (some (17, false)), .callv (.c (.fn 36 [])) [(.s 18)]⟩,
    ⟨(some 20), (some (17, false)), .not (.s 19)⟩,
    ⟨(some 21), none, .pick (.s 17) (.c (.lit (.bool true))) (.s 20)⟩,
    ⟨(some 13), none, .mov (.s 21)⟩] [0, 1, 2, 8, 13]
def a24r4 : AC := .reg [⟨(some 6), none, .mov (.c (.nils 5))⟩,
    ⟨(some 7), none, .mov (.c (.lit (.int .i64 1)))⟩] [6, 7]
def a24r5 : AC := .reg [⟨(some 23), none, .mov (.s 8)⟩,
    ⟨(some 24), none, .iop .geq (.s 23) (.c (.lit (.int .i64 1073741824)))⟩,
    ⟨(some 22), none, .mov (.s 24)⟩] [0, 1, 2, 8, 22]
def a24r6 : AC := .reg [⟨(some 6), none, .mov (.c (.nils 5))⟩,
    ⟨(some 7), none, .mov (.c (.lit (.int .i64 7)))⟩] [6, 7]
def a24r7 : AC := .reg [⟨(some 25), none, .mov (.s 0)⟩,
    ⟨(some 26), none, .mov (.s 8)⟩,
    ⟨(some 27), none, .iop .add (.s 26) (.c (.lit (.int .i64 1)))⟩,
    ⟨(some 28), none, .mov (.s 1)⟩,
    ⟨(some 29), none, .mov (.s 2)⟩,
    ⟨(some 30), none, .build [(.lit (.int .i64 0)), (.lit (.int .i64 0)), (.lit (.string ⟨#[]⟩)), (.lit (.int .i64 0)), (.lit (.bool false))] [(0, 1, (.s 27)), (1, 1, (.s 28)), (2, 1, (.s 29))]⟩,
    ⟨(some 31), none, .bslice 24031 33 5 [(.s 30)]⟩,
    ⟨(some 32), none, .append 24032 33 5 48 (.s 25) (.s 31)⟩,
    ⟨(some 0), none, .mov (.s 32)⟩] [0]
def a24r8 : AC := .reg [⟨(some 33), none, .mov (.s 0)⟩,
    ⟨(some 34), none, .mov (.s 0)⟩,
    ⟨(some 35), none, .len (.s 34)⟩,
    ⟨(some 36), none, .iop .sub (.s 35) (.c (.lit (.int .i64 32)))⟩,
    ⟨(some 37), none, .minmax true (.s 36) (.c (.lit (.int .i64 0)))⟩,
    ⟨(some 38), none, .slice 5 (.s 33) (some (.s 37)) none⟩,
    ⟨(some 6), none, .mov (.s 38)⟩,
    ⟨(some 7), none, .mov (.c (.lit (.int .i64 0)))⟩] [6, 7]
def a24 : AC := .seq (a24r0) (.seq (a24r1) (.seq (a24r2) (.seq (.block 0 (.seq (a24r3) (.cond (.s 13) (.seq (a24r4) (.ret)) (.seq (a24r5) (.cond (.s 22) (.seq (a24r6) (.ret)) (.skip)))))) (.seq (a24r7) (.seq (a24r8) (.ret))))))
def a24R : List RD := [.tmp 6, .tmp 7]

/-! colloquy/colloquyref16.Add: slots 42, parameters 3 -/
def a25r0 : AC := .reg [⟨(some 6), none, .mov (.c (.nils 5))⟩,
    ⟨(some 7), none, .mov (.c (.lit (.int .i64 0)))⟩] [0, 1, 2]
def a25r1 : AC := .reg [⟨(some 10), none, .mov (.s 0)⟩,
    ⟨(some 11), none, .callv (.c (.fn 33 [])) [(.s 10)]⟩,
    ⟨(some 8), none, .mov (.s 11)⟩] [1, 2, 8]
def a25r2 : AC := .reg [⟨(some 12), none, .mov (.s 2)⟩,
    ⟨(some 13), none, .callv (.c (.fn 40 [])) [(.s 12)]⟩,
    ⟨(some 9), none, .mov (.s 13)⟩] [1, 2, 8, 9]
def a25r3 : AC := .reg [⟨(some 14), none, .mov (.s 9)⟩,
    ⟨(some 15), none, .not (.s 14)⟩,
    ⟨(some 16), none, .mov (.s 15)⟩,
    ⟨(some 17), (some (16, false)), .mov (.s 1)⟩,
    ⟨(some 18), (some (16, false)), .iop .lss (.s 17) (.c (.lit (.int .i64 1)))⟩,
    ⟨(some 19), none, .pick (.s 16) (.c (.lit (.bool true))) (.s 18)⟩,
    ⟨(some 20), none, .mov (.s 19)⟩,
    ⟨(some 21), (some (20, false)), .mov (.s 1)⟩,
    ⟨(some 22), (some (20, false)), .iop .gtr (.s 21) (.c (.lit (.int .i64 1048576)))⟩,
    ⟨(some 23), none, .pick (.s 20) (.c (.lit (.bool true))) (.s 22)⟩] [1, 2, 8, 23]
def a25r4 : AC := .reg [⟨(some 6), none, .mov (.c (.nils 5))⟩,
    ⟨(some 7), none, .mov (.c (.lit (.int .i64 1)))⟩] [6, 7]
def a25r5 : AC := .reg [⟨(some 24), none, .mov (.s 8)⟩,
    ⟨(some 25), none, .callv (.c (.fn 21 [])) [(.s 24)]⟩,
    ⟨(some 26), none, .iop .geq (.s 25) (.c (.lit (.int .i64 1073741824)))⟩] [1, 2, 8, 26]
def a25r6 : AC := .reg [⟨(some 6), none, .mov (.c (.nils 5))⟩,
    ⟨(some 7), none, .mov (.c (.lit (.int .i64 7)))⟩] [6, 7]
def a25r7 : AC := .reg [⟨(some 27), none, .mov (.s 8)⟩,
    ⟨(some 28), none, .mov (.s 8)⟩,
    ⟨(some 29), none, .callv (.c (.fn 21 [])) [(.s 28)]⟩,
    ⟨(some 30), none, .iop .add (.s 29) (.c (.lit (.int .i64 1)))⟩,
    ⟨(some 31), none, .mov (.s 1)⟩,
    ⟨(some 32), none, .mov (.s 2)⟩,
    ⟨(some 33), none, .build [(.lit (.int .i64 0)), (.lit (.int .i64 0)), (.lit (.string ⟨#[]⟩)), (.lit (.int .i64 0)), (.lit (.bool false))] [(0, 1, (.s 30)), (1, 1, (.s 31)), (2, 1, (.s 32))]⟩,
    ⟨(some 34), none, .bslice 25034 33 5 [(.s 33)]⟩,
    ⟨(some 35), none, .append 25035 33 5 48 (.s 27) (.s 34)⟩,
    ⟨(some 8), none, .mov (.s 35)⟩] [8]
def a25r8 : AC := .reg [⟨(some 36), none, .mov (.s 8)⟩,
    ⟨(some 37), none, .len (.s 36)⟩,
    ⟨(some 38), none, .iop .gtr (.s 37) (.c (.lit (.int .i64 32)))⟩] [8, 38]
def a25r9 : AC := .reg [⟨(some 39), none, .mov (.s 8)⟩,
    ⟨(some 40), none, .slice 5 (.s 39) (some (.c (.lit (.int .i64 1)))) none⟩,
    ⟨(some 8), none, .mov (.s 40)⟩] [8]
def a25r10 : AC := .reg [⟨(some 41), none, .mov (.s 8)⟩,
    ⟨(some 6), none, .mov (.s 41)⟩,
    ⟨(some 7), none, .mov (.c (.lit (.int .i64 0)))⟩] [6, 7]
def a25 : AC := .seq (a25r0) (.seq (a25r1) (.seq (a25r2) (.seq (.seq (a25r3) (.cond (.s 23) (.seq (a25r4) (.ret)) (.skip))) (.seq (.seq (a25r5) (.cond (.s 26) (.seq (a25r6) (.ret)) (.skip))) (.seq (a25r7) (.seq (.seq (a25r8) (.cond (.s 38) (a25r9) (.skip))) (.seq (a25r10) (.ret))))))))
def a25R : List RD := [.tmp 6, .tmp 7]

/-! colloquy/colloquyref16.Edit: slots 53, parameters 4 -/
def a26r0 : AC := .reg [⟨(some 8), none, .mov (.c (.nils 5))⟩,
    ⟨(some 9), none, .mov (.c (.lit (.int .i64 0)))⟩] [0, 1, 2, 3]
def a26r1 : AC := .reg [⟨(some 13), none, .mov (.s 0)⟩,
    ⟨(some 14), none, .callv (.c (.fn 33 [])) [(.s 13)]⟩,
    ⟨(some 10), none, .mov (.s 14)⟩] [1, 2, 3, 10]
def a26r2 : AC := .reg [⟨(some 15), none, .mov (.s 3)⟩,
    ⟨(some 16), none, .callv (.c (.fn 40 [])) [(.s 15)]⟩,
    ⟨(some 11), none, .mov (.s 16)⟩] [1, 2, 3, 10, 11]
def a26r3 : AC := .reg [⟨(some 17), none, .mov (.s 11)⟩,
    ⟨(some 18), none, .not (.s 17)⟩] [1, 2, 3, 10, 18]
def a26r4 : AC := .reg [⟨(some 8), none, .mov (.c (.nils 5))⟩,
    ⟨(some 9), none, .mov (.c (.lit (.int .i64 1)))⟩] [8, 9]
def a26r5 : AC := .reg [⟨(some 19), none, .mov (.s 10)⟩,
    ⟨(some 20), none, .mov (.s 1)⟩,
    ⟨(some 21), none, .callv (.c (.fn 34 [])) [(.s 19), (.s 20)]⟩,
    ⟨(some 12), none, .mov (.s 21)⟩] [2, 3, 10, 12]
def a26r6 : AC := .reg [⟨(some 22), none, .mov (.s 12)⟩,
    ⟨(some 23), none, .iop .lss (.s 22) (.c (.lit (.int .i64 0)))⟩] [2, 3, 10, 12, 23]
def a26r7 : AC := .reg [⟨(some 8), none, .mov (.c (.nils 5))⟩,
    ⟨(some 9), none, .mov (.c (.lit (.int .i64 5)))⟩] [8, 9]
def a26r8 : AC := .reg [⟨(some 24), none, .mov (.s 10)⟩,
    ⟨(some 25), none, .mov (.s 12)⟩,
    ⟨(some 26), none, .iaddr 5 (.s 24) (.s 25)⟩,
    ⟨(some 27), none, .faddr 1 (.s 26)⟩,
    ⟨(some 28), none, .load 1 false (.s 27)⟩,
    ⟨(some 29), none, .mov (.s 2)⟩,
    ⟨(some 30), none, .iop .neq (.s 28) (.s 29)⟩] [3, 10, 12, 30]
def a26r9 : AC := .reg [⟨(some 8), none, .mov (.c (.nils 5))⟩,
    ⟨(some 9), none, .mov (.c (.lit (.int .i64 8)))⟩] [8, 9]
def a26r10 : AC := .reg [⟨(some 31), none, .mov (.s 10)⟩,
    ⟨(some 32), none, .mov (.s 12)⟩,
    ⟨(some 33), none, .iaddr 5 (.s 31) (.s 32)⟩,
    ⟨(some 34), none, .faddr 3 (.s 33)⟩,
    ⟨(some 35), none, .load 1 false (.s 34)⟩,
    ⟨(some 36), none, .iop .geq (.s 35) (.c (.lit (.int .i64 1073741824)))⟩] [3, 10, 12, 36]
def a26r11 : AC := .reg [⟨(some 8), none, .mov (.c (.nils 5))⟩,
    ⟨(some 9), none, .mov (.c (.lit (.int .i64 7)))⟩] [8, 9]
def a26r12 : AC := .reg [⟨(some 37), none, .mov (.s 10)⟩,
    ⟨(some 38), none, .mov (.s 12)⟩,
    ⟨(some 39), none, .mov (.s 3)⟩,
    ⟨(some 40), none, .iaddr 5 (.s 37) (.s 38)⟩,
    ⟨(some 41), none, .faddr 2 (.s 40)⟩,
    ⟨none, none, .store 1 (.s 41) (.s 39)⟩] [10, 12]
def a26r13 : AC := .reg [⟨(some 42), none, .mov (.s 10)⟩,
    ⟨(some 43), none, .mov (.s 12)⟩,
    ⟨(some 44), none, .mov (.s 10)⟩,
    ⟨(some 45), none, .mov (.s 12)⟩,
    ⟨(some 46), none, .iaddr 5 (.s 44) (.s 45)⟩,
    ⟨(some 47), none, .faddr 3 (.s 46)⟩,
    ⟨(some 48), none, .load 1 false (.s 47)⟩,
    ⟨(some 49), none, .iop .add (.s 48) (.c (.lit (.int .i64 1)))⟩,
    ⟨(some 50), none, .iaddr 5 (.s 42) (.s 43)⟩,
    ⟨(some 51), none, .faddr 3 (.s 50)⟩,
    ⟨none, none, .store 1 (.s 51) (.s 49)⟩] [10]
def a26r14 : AC := .reg [⟨(some 52), none, .mov (.s 10)⟩,
    ⟨(some 8), none, .mov (.s 52)⟩,
    ⟨(some 9), none, .mov (.c (.lit (.int .i64 0)))⟩] [8, 9]
def a26 : AC := .seq (a26r0) (.seq (a26r1) (.seq (a26r2) (.seq (.seq (a26r3) (.cond (.s 18) (.seq (a26r4) (.ret)) (.skip))) (.seq (a26r5) (.seq (.seq (a26r6) (.cond (.s 23) (.seq (a26r7) (.ret)) (.skip))) (.seq (.seq (a26r8) (.cond (.s 30) (.seq (a26r9) (.ret)) (.skip))) (.seq (.seq (a26r10) (.cond (.s 36) (.seq (a26r11) (.ret)) (.skip))) (.seq (a26r12) (.seq (a26r13) (.seq (a26r14) (.ret)))))))))))
def a26R : List RD := [.tmp 8, .tmp 9]

/-! colloquy/colloquyref16.Delete: slots 40, parameters 4 -/
def a27r0 : AC := .reg [⟨(some 8), none, .mov (.c (.nils 5))⟩,
    ⟨(some 9), none, .mov (.c (.lit (.int .i64 0)))⟩] [0, 1, 2, 3]
def a27r1 : AC := .reg [⟨(some 12), none, .mov (.s 0)⟩,
    ⟨(some 13), none, .callv (.c (.fn 33 [])) [(.s 12)]⟩,
    ⟨(some 10), none, .mov (.s 13)⟩] [1, 2, 3, 10]
def a27r2 : AC := .reg [⟨(some 14), none, .mov (.s 10)⟩,
    ⟨(some 15), none, .mov (.s 1)⟩,
    ⟨(some 16), none, .callv (.c (.fn 34 [])) [(.s 14), (.s 15)]⟩,
    ⟨(some 11), none, .mov (.s 16)⟩] [2, 3, 10, 11]
def a27r3 : AC := .reg [⟨(some 17), none, .mov (.s 11)⟩,
    ⟨(some 18), none, .iop .lss (.s 17) (.c (.lit (.int .i64 0)))⟩] [2, 3, 10, 11, 18]
def a27r4 : AC := .reg [⟨(some 8), none, .mov (.c (.nils 5))⟩,
    ⟨(some 9), none, .mov (.c (.lit (.int .i64 5)))⟩] [8, 9]
def a27r5 : AC := .reg [⟨(some 19), none, .mov (.s 10)⟩,
    ⟨(some 20), none, .mov (.s 11)⟩,
    ⟨(some 21), none, .iaddr 5 (.s 19) (.s 20)⟩,
    ⟨(some 22), none, .faddr 1 (.s 21)⟩,
    ⟨(some 23), none, .load 1 false (.s 22)⟩,
    ⟨(some 24), none, .mov (.s 2)⟩,
    ⟨(some 25), none, .iop .neq (.s 23) (.s 24)⟩,
    ⟨(some 26), none, .mov (.s 25)⟩,
    ⟨(some 27), (some (26, true)), .mov (.s 2)⟩,
    ⟨(some 28), (some (26, true)), .mov (.s 3)⟩,
    ⟨(some 29), (some (26, true)), .iop .neq (.s 27) (.s 28)⟩,
    ⟨(some 30), none, .pick (.s 26) (.s 29) (.c (.lit (.bool false)))⟩] [10, 11, 30]
def a27r6 : AC := .reg [⟨(some 8), none, .mov (.c (.nils 5))⟩,
    ⟨(some 9), none, .mov (.c (.lit (.int .i64 8)))⟩] [8, 9]
def a27r7 : AC := .reg [⟨(some 31), none, .mov (.s 10)⟩,
    ⟨(some 32), none, .mov (.s 11)⟩,
    ⟨(some 33), none, .iaddr 5 (.s 31) (.s 32)⟩,
    ⟨(some 34), none, .faddr 2 (.s 33)⟩,
    ⟨none, none, .store 1 (.s 34) (.c (.lit (.string ⟨#[]⟩)))⟩] [10, 11]
def a27r8 : AC := .reg [⟨(some 35), none, .mov (.s 10)⟩,
    ⟨(some 36), none, .mov (.s 11)⟩,
    ⟨(some 37), none, .iaddr 5 (.s 35) (.s 36)⟩,
    ⟨(some 38), none, .faddr 4 (.s 37)⟩,
    ⟨none, none, .store 1 (.s 38) (.c (.lit (.bool true)))⟩] [10]
def a27r9 : AC := .reg [⟨(some 39), none, .mov (.s 10)⟩,
    ⟨(some 8), none, .mov (.s 39)⟩,
    ⟨(some 9), none, .mov (.c (.lit (.int .i64 0)))⟩] [8, 9]
def a27 : AC := .seq (a27r0) (.seq (a27r1) (.seq (a27r2) (.seq (.seq (a27r3) (.cond (.s 18) (.seq (a27r4) (.ret)) (.skip))) (.seq (.seq (a27r5) (.cond (.s 30) (.seq (a27r6) (.ret)) (.skip))) (.seq (a27r7) (.seq (a27r8) (.seq (a27r9) (.ret))))))))
def a27R : List RD := [.tmp 8, .tmp 9]

/-! colloquy/posts.may: slots 33, parameters 1 -/
def a28r0 : AC := .reg [⟨(some 1), none, .box 28001 33 5 (.s 0)⟩,
    ⟨(some 2), none, .mov (.c (.lit (.bool false)))⟩] [1]
def a28r1 : AC := .reg [⟨(some 3), none, .faddr 4 (.s 1)⟩,
    ⟨(some 4), none, .load 1 false (.s 3)⟩,
    ⟨(some 5), none, .faddr 2 (.s 1)⟩,
    ⟨(some 6), none, .load 1 false (.s 5)⟩,
    ⟨(some 7), none, .iop .eql (.s 6) (.c (.lit (.string ⟨#[]⟩)))⟩,
    ⟨(some 8), none, .beq true (.s 4) (.s 7)⟩,
    ⟨(some 9), none, .mov (.s 8)⟩,
    ⟨(some 10), (some (9, false)), .faddr 4 (.s 1)⟩,
    ⟨(some 11), (some (9, false)), .load 1 false (.s 10)⟩,
    ⟨(some 12), (some (9, false)), .not (.s 11)⟩,
    ⟨(some 13), (some (9, false)), .mov (.s 12)⟩,
    ⟨(some 14), (some (13, true)), .faddr 2 (.s 1)⟩,
    ⟨(some 15), (some (13, true)), .load 1 false (.s 14)⟩,
    ⟨(some 16), (some (13, true)), .callv (.c (.fn 36 [])) [(.s 15)]⟩,
    ⟨(some 17), (some (13, true)), .not (.s 16)⟩,
    ⟨(some 18), (some (9, false)), .pick (.s 13) (.s 17) (.c (.lit (.bool false)))⟩,
    ⟨(some 19), none, .pick (.s 9) (.c (.lit (.bool true))) (.s 18)⟩] [1, 19]
def a28r2 : AC := .reg [⟨(some 2), none, .mov (.c (.lit (.bool false)))⟩] [2]
def a28r3 : AC := .reg [⟨(some 20), none, .faddr 0 (.s 1)⟩,
    ⟨(some 21), none, .load 1 false (.s 20)⟩,
    ⟨(some 22), none, .callv (.c (.fn 39 [])) [(.s 21), (.c (.lit (.int .i64 1))), (.c (.lit (.int .i64 1073741824)))]⟩,
    ⟨(some 23), none, .mov (.s 22)⟩,
    ⟨(some 24), (some (23, true)), .faddr 1 (.s 1)⟩,
    ⟨(some 25), (some (23, true)), .load 1 false (.s 24)⟩,
    ⟨(some 26), (some (23, true)), .callv (.c (.fn 39 [])) [(.s 25), (.c (.lit (.int .i64 1))), (.c (.lit (.int .i64 1048576)))]⟩,
    ⟨(some 27), none, .pick (.s 23) (.s 26) (.c (.lit (.bool false)))⟩,
    ⟨(some 28), none, .mov (.s 27)⟩,
    ⟨(some 29), (some (28, true)), .faddr 3 (.s 1)⟩,
    ⟨(some 30), (some (28, true)), .load 1 false (.s 29)⟩,
    ⟨(some 31), (some (28, true)), .callv (.c (.fn 39 [])) [(.s 30), (.c (.lit (.int .i64 0))), (.c (.lit (.int .i64 1073741824)))]⟩,
    ⟨(some 32), none, .pick (.s 28) (.s 31) (.c (.lit (.bool false)))⟩,
    ⟨(some 2), none, .mov (.s 32)⟩] [2]
def a28 : AC := .seq (a28r0) (.seq (.seq (a28r1) (.cond (.s 19) (.seq (a28r2) (.ret)) (.skip))) (.seq (a28r3) (.ret)))
def a28R : List RD := [.tmp 2]

/-! colloquy/posts.there: slots 6, parameters 2 -/
def a29r0 : AC := .reg [⟨(some 2), none, .box 29002 22 1 (.s 0)⟩,
    ⟨(some 3), none, .box 29003 3 1 (.s 1)⟩,
    ⟨(some 4), none, .mov (.c (.lit .nilFunc))⟩] [2, 3]
def a29r1 : AC := .reg [⟨(some 5), none, .mkfn 41 [(.s 2), (.s 3)]⟩,
    ⟨(some 4), none, .mov (.s 5)⟩] [4]
def a29 : AC := .seq (a29r0) (.seq (a29r1) (.ret))
def a29R : List RD := [.tmp 4]

/-! colloquy/posts.fair: slots 8, parameters 1 -/
def a30r0 : AC := .reg [⟨(some 2), none, .mov (.c (.nils 5))⟩] [0]
def a30r1 : AC := .reg [⟨(some 3), none, .mov (.s 0)⟩,
    ⟨(some 4), none, .callv (.c (.fn 14 [])) [(.s 3)]⟩,
    ⟨(some 5), none, .not (.s 4)⟩] [0, 5]
def a30r2 : AC := .reg [⟨(some 2), none, .mov (.c (.nils 5))⟩] [2]
def a30r3 : AC := .reg [⟨(some 6), none, .mov (.s 0)⟩,
    ⟨(some 7), none, .callv (.c (.fn 42 [])) [(.s 6)]⟩,
    ⟨(some 2), none, .mov (.s 7)⟩] [2]
def a30 : AC := .seq (a30r0) (.seq (.seq (a30r1) (.cond (.s 5) (.seq (a30r2) (.ret)) (.skip))) (.seq (a30r3) (.ret)))
def a30R : List RD := [.tmp 2]

/-! colloquy/posts.change: slots 31, parameters 3 -/
def a31r0 : AC := .reg [⟨(some 3), none, .box 31003 22 1 (.s 0)⟩,
    ⟨(some 4), none, .box 31004 3 1 (.s 1)⟩,
    ⟨(some 5), none, .box 31005 55 1 (.s 2)⟩,
    ⟨(some 6), none, .alloc 31006 22 [(.nils 5)]⟩,
    ⟨(some 7), none, .alloc 31007 27 [(.lit (.int .i64 0))]⟩] [3, 4, 5, 6, 7]
def a31r1 : AC := .reg [⟨(some 11), none, .load 1 false (.s 3)⟩,
    ⟨(some 12), none, .callv (.c (.fn 30 [])) [(.s 11)]⟩,
    ⟨none, none, .store 1 (.s 3) (.s 12)⟩] [3, 4, 5, 6, 7]
def a31r2 : AC := .reg [⟨(some 13), none, .load 1 false (.s 3)⟩,
    ⟨(some 14), none, .load 1 false (.s 4)⟩,
    ⟨(some 15), none, .callv (.c (.fn 29 [])) [(.s 13), (.s 14)]⟩] [3, 4, 5, 6, 7, 15]
def a31r3 : AC := .reg [⟨(some 8), none, .mov (.s 16)⟩] [3, 4, 5, 6, 7, 8, 17]
def a31r4 : AC := .reg [⟨(some 9), none, .alloc 31009 33 [(.lit (.int .i64 0)), (.lit (.int .i64 0)), (.lit (.string ⟨#[]⟩)), (.lit (.int .i64 0)), (.lit (.bool false))]⟩,
    ⟨none, none, .store 5 (.s 9) (.s 17)⟩] [3, 4, 5, 6, 7, 8, 9]
def a31r5 : AC := .reg [⟨(some 18), none, .faddr 0 (.s 9)⟩,
    ⟨(some 19), none, .load 1 false (.s 18)⟩,
    ⟨(some 20), none, .load 1 false (.s 4)⟩,
    ⟨(some 21), none, .iop .neq (.s 19) (.s 20)⟩] [3, 5, 6, 7, 8, 21]
def a31r6 : AC := .draw [] (.take 0 ⟨(some 22), none, .load 1 false (.s 5)⟩ <|
    .take 1 ⟨(some 23), none, .load 1 false (.s 3)⟩ <|
    .take 2 ⟨(some 24), none, .mov (.s 8)⟩ <|
    .take 3 ⟨(some 25), none, .iaddr 5 (.s 23) (.s 24)⟩ <|
    .alt 4 ⟨(some 26), none, .callv (.s 22) [(.s 25)]⟩ (
    .take 5 ⟨(some 10), none, .mov (.s 26)⟩ <|
    .done) .done) [3, 6, 7, 10]
def a31r7 : AC := .reg [⟨(some 27), none, .mov (.s 10)⟩,
    ⟨(some 28), none, .iop .neq (.s 27) (.c (.lit (.int .i64 0)))⟩] [3, 6, 7, 10, 28]
def a31r8 : AC := .reg [⟨(some 29), none, .mov (.s 10)⟩,
    ⟨none, none, .store 1 (.s 6) (.c (.nils 5))⟩,
    ⟨none, none, .store 1 (.s 7) (.s 29)⟩] []
def a31r9 : AC := .reg [⟨(some 30), none, .load 1 false (.s 3)⟩,
    ⟨none, none, .store 1 (.s 6) (.s 30)⟩,
    ⟨none, none, .store 1 (.s 7) (.c (.lit (.int .i64 0)))⟩] []
def a31r10 : AC := .reg [⟨none, none, .store 1 (.s 6) (.c (.nils 5))⟩,
    ⟨none, none, .store 1 (.s 7) (.c (.lit (.int .i64 5)))⟩] [6, 7]
def a31 : AC := .seq (a31r0) (.seq (a31r1) (.seq (.seq (a31r2) (.block 0 (.rangef (.s 15) [16, 17] (.seq (a31r3) (a31r4)) (.block 1 (.seq (.seq (a31r5) (.cond (.s 21) (.exit 0) (.skip))) (.seq (.seq (a31r6) (.seq (a31r7) (.cond (.s 28) (.seq (a31r8) (.ret)) (.skip)))) (.seq (a31r9) (.ret)))))))) (.seq (a31r10) (.ret))))
def a31R : List RD := [.cell 6 1 false, .cell 7 1 false]

/-! colloquy/posts.Find$1: slots 7, parameters 1 -/
def a32r0 : AC := .reg [⟨(some 3), none, .mov (.c (.lit (.int .i64 0)))⟩] [0, 1]
def a32r1 : AC := .reg [⟨(some 4), none, .mov (.s 0)⟩,
    ⟨(some 5), none, .nilck (.s 4)⟩,
    ⟨(some 6), none, .load 5 true (.s 5)⟩,
    ⟨none, none, .store 5 (.s 1) (.s 6)⟩] []
def a32r2 : AC := .reg [⟨(some 3), none, .mov (.c (.lit (.int .i64 0)))⟩] [3]
def a32 : AC := .seq (a32r0) (.seq (a32r1) (.seq (a32r2) (.ret)))
def a32R : List RD := [.tmp 3]

/-! colloquy/colloquyref16.Fair: slots 10, parameters 1 -/
def a33r0 : AC := .reg [⟨(some 2), none, .mov (.c (.nils 5))⟩] [0]
def a33r1 : AC := .reg [⟨(some 4), none, .mov (.s 0)⟩,
    ⟨(some 5), none, .callv (.c (.fn 20 [])) [(.s 4)]⟩,
    ⟨(some 3), none, .mov (.s 5)⟩] [0, 3]
def a33r2 : AC := .reg [⟨(some 6), none, .mov (.s 3)⟩,
    ⟨(some 7), none, .not (.s 6)⟩] [0, 7]
def a33r3 : AC := .reg [⟨(some 2), none, .mov (.c (.nils 5))⟩] [2]
def a33r4 : AC := .reg [⟨(some 8), none, .mov (.s 0)⟩,
    ⟨(some 9), none, .append 33009 33 5 48 (.c (.nils 5)) (.s 8)⟩,
    ⟨(some 2), none, .mov (.s 9)⟩] [2]
def a33 : AC := .seq (a33r0) (.seq (a33r1) (.seq (.seq (a33r2) (.cond (.s 7) (.seq (a33r3) (.ret)) (.skip))) (.seq (a33r4) (.ret))))
def a33R : List RD := [.tmp 2]

/-! colloquy/colloquyref16.at: slots 28, parameters 2 -/
def a34r0 : AC := .reg [⟨(some 4), none, .mov (.c (.lit (.int .i64 0)))⟩] [0, 1]
def a34r1 : AC := .reg [⟨(some 5), none, .mov (.c (.lit (.int .i64 0)))⟩] [0, 1, 5]
def a34r2 : AC := .reg [⟨(some 6), none, .mov (.s 5)⟩,
    ⟨(some 7), none, .mov (.s 0)⟩,
    ⟨(some 8), none, .len (.s 7)⟩,
    ⟨(some 9), none, .iop .lss (.s 6) (.s 8)⟩] [0, 1, 5, 9]
def a34r4 : AC := .reg [⟨(some 12), none, .mov (.s 0)⟩,
    ⟨(some 13), none, .mov (.s 5)⟩,
    ⟨(some 14), none, .iaddr 5 (.s 12) (.s 13)⟩,
    ⟨(some 15), none, .faddr 0 (.s 14)⟩,
    ⟨(some 16), none, .load 1 false (.s 15)⟩,
    ⟨(some 17), none, .mov (.s 1)⟩,
    ⟨(some 18), none, .iop .eql (.s 16) (.s 17)⟩,
    ⟨(some 19), none, .mov (.s 18)⟩,
    ⟨(some 20), (some (19, true)), .mov (.s 0)⟩,
    ⟨(some 21), (some (19, true)), .mov (.s 5)⟩,
    ⟨(some 22), (some (19, true)), .iaddr 5 (.s 20) (.s 21)⟩,
    ⟨(some 23), (some (19, true)), .faddr 4 (.s 22)⟩,
    ⟨(some 24), (some (19, true)), .load 1 false (.s 23)⟩,
    ⟨(some 25), (some (19, true)), .not (.s 24)⟩,
    ⟨(some 26), none, .pick (.s 19) (.s 25) (.c (.lit (.bool false)))⟩] [0, 1, 5, 26]
def a34r5 : AC := .reg [⟨(some 27), none, .mov (.s 5)⟩,
    ⟨(some 4), none, .mov (.s 27)⟩] [4]
def a34r3 : AC := .reg [⟨(some 10), none, .mov (.s 5)⟩,
    ⟨(some 11), none, .iop .add (.s 10) (.c (.lit (.int .i64 1)))⟩,
    ⟨(some 5), none, .mov (.s 11)⟩] [0, 1, 5]
def a34L2 : AC := .seq (.seq (a34r2) (.cond (.s 9) (.skip) (.exit 0))) (.seq (.block 1 (.seq (a34r4) (.cond (.s 26) (.seq (a34r5) (.ret)) (.skip)))) (a34r3))
def a34r6 : AC := .reg [⟨(some 4), none, .mov (.c (.lit (.int .i64 (-1))))⟩] [4]
def a34 : AC := .seq (a34r0) (.seq (.seq (a34r1) (.block 0 (.loop a34L2))) (.seq (a34r6) (.ret)))
def a34R : List RD := [.tmp 4]

/-! colloquy/colloquyref16.may: slots 50, parameters 1 -/
def a35r0 : AC := .reg [⟨(some 1), none, .box 35001 33 5 (.s 0)⟩,
    ⟨(some 2), none, .mov (.c (.lit (.bool false)))⟩] [1]
def a35r1 : AC := .reg [⟨(some 4), none, .faddr 2 (.s 1)⟩,
    ⟨(some 5), none, .load 1 false (.s 4)⟩,
    ⟨(some 6), none, .callv (.c (.fn 40 [])) [(.s 5)]⟩,
    ⟨(some 3), none, .mov (.s 6)⟩] [1, 3]
def a35r2 : AC := .reg [⟨(some 7), none, .faddr 0 (.s 1)⟩,
    ⟨(some 8), none, .load 1 false (.s 7)⟩,
    ⟨(some 9), none, .iop .lss (.s 8) (.c (.lit (.int .i64 1)))⟩,
    ⟨(some 10), none, .mov (.s 9)⟩,
    ⟨(some 11), (some (10, false)), .faddr 0 (.s 1)⟩,
    ⟨(some 12), (some (10, false)), .load 1 false (.s 11)⟩,
    ⟨(some 13), (some (10, false)), .iop .gtr (.s 12) (.c (.lit (.int .i64 1073741824)))⟩,
    ⟨(some 14), none, .pick (.s 10) (.c (.lit (.bool true))) (.s 13)⟩,
    ⟨(some 15), none, .mov (.s 14)⟩,
    ⟨(some 16), (some (15, false)), .faddr 1 (.s 1)⟩,
    ⟨(some 17), (some (15, false)), .load 1 false (.s 16)⟩,
    ⟨(some 18), (some (15, false)), .iop .lss (.s 17) (.c (.lit (.int .i64 1)))⟩,
    ⟨(some 19), none, .pick (.s 15) (.c (.lit (.bool true))) (.s 18)⟩,
    ⟨(some 20), none, .mov (.s 19)⟩,
    ⟨(some 21), (some (20, false)), .faddr 1 (.s 1)⟩,
    ⟨(some 22), (some (20, false)), .load 1 false (.s 21)⟩,
    ⟨(some 23), (some (20, false)), .iop .gtr (.s 22) (.c (.lit (.int .i64 1048576)))⟩,
    ⟨(some 24), none, .pick (.s 20) (.c (.lit (.bool true))) (.s 23)⟩,
    ⟨(some 25), none, .mov (.s 24)⟩,
    ⟨(some 26), (some (25, false)), .faddr 3 (.s 1)⟩,
    ⟨(some 27), (some (25, false)), .load 1 false (.s 26)⟩,
    ⟨(some 28), (some (25, false)), .iop .lss (.s 27) (.c (.lit (.int .i64 0)))⟩,
    ⟨(some 29), none, .pick (.s 25) (.c (.lit (.bool true))) (.s 28)⟩,
    ⟨(some 30), none, .mov (.s 29)⟩,
    ⟨(some 31), (some (30, false)), .faddr 3 (.s 1)⟩,
    ⟨(some 32), (some (30, false)), .load 1 false (.s 31)⟩,
    ⟨(some 33), (some (30, false)), .iop .gtr (.s 32) (.c (.lit (.int .i64 1073741824)))⟩,
    ⟨(some 34), none, .pick (.s 30) (.c (.lit (.bool true))) (.s 33)⟩] [1, 3, 34]
def a35r3 : AC := .reg [⟨(some 2), none, .mov (.c (.lit (.bool false)))⟩] [2]
def a35r4 : AC := .reg [⟨(some 35), none, .faddr 4 (.s 1)⟩,
    ⟨(some 36), none, .load 1 false (.s 35)⟩,
    ⟨(some 37), none, .not (.s 36)⟩,
    ⟨(some 38), none, .mov (.s 37)⟩,
    ⟨(some 39), (some (38, true)), .mov (.s 3)⟩,
    ⟨(some 40), none, .pick (.s 38) (.s 39) (.c (.lit (.bool false)))⟩,
    ⟨(some 41), none, .mov (.s 40)⟩,
    ⟨(some 42), (some (41, false)), .faddr 4 (.s 1)⟩,
    ⟨(some 43), (some (41, false)), .load 1 false (.s 42)⟩,
    ⟨(some 44), (some (41, false)), .mov (.s 43)⟩,
    ⟨(some 45), (some (44, true)), .faddr 2 (.s 1)⟩,
    ⟨(some 46), (some (44, true)), .load 1 false (.s 45)⟩,
    ⟨(some 47), (some (44, true)), .iop .eql (.s 46) (.c (.lit (.string ⟨#[]⟩)))⟩,
    ⟨(some 48), (some (41, false)), .pick (.s 44) (.s 47) (.c (.lit (.bool false)))⟩,
    ⟨(some 49), none, .pick (.s 41) (.c (.lit (.bool true))) (.s 48)⟩,
    ⟨(some 2), none, .mov (.s 49)⟩] [2]
def a35 : AC := .seq (a35r0) (.seq (a35r1) (.seq (.seq (a35r2) (.cond (.s 34) (.seq (a35r3) (.ret)) (.skip))) (.seq (a35r4) (.ret))))
def a35R : List RD := [.tmp 2]

/-! colloquy/posts.Edit$1: slots 29, parameters 1 -/
def a37r0 : AC := .reg [⟨(some 4), none, .mov (.c (.lit (.int .i64 0)))⟩] [0, 1, 2]
def a37r1 : AC := .draw [] (.take 0 ⟨(some 6), none, .mov (.s 0)⟩ <|
    .take 1 ⟨(some 7), none, .nilck (.s 6)⟩ <|
    .take 2 ⟨(some 8), none, .faddr 1 (.s 7)⟩ <|
    .take 3 ⟨(some 9), none, .load 1 false (.s 8)⟩ <|
    .take 4 ⟨(some 10), none, .load 1 false (.s 1)⟩ <|
    .take 5 ⟨(some 11), none, .iop .neq (.s 9) (.s 10)⟩ <|
    .take 6 ⟨(some 5), none, .mov (.s 11)⟩ <|
    .done) [0, 2, 5]
def a37r2 : AC := .reg [⟨(some 4), none, .mov (.c (.lit (.int .i64 8)))⟩] [4]
def a37r3 : AC := .reg [⟨(some 13), none, .mov (.s 0)⟩,
    ⟨(some 14), none, .nilck (.s 13)⟩,
    ⟨(some 15), none, .faddr 3 (.s 14)⟩,
    ⟨(some 16), none, .load 1 false (.s 15)⟩,
    ⟨(some 17), none, .iop .geq (.s 16) (.c (.lit (.int .i64 1073741824)))⟩,
    ⟨(some 12), none, .mov (.s 17)⟩] [0, 2, 12]
def a37r4 : AC := .reg [⟨(some 4), none, .mov (.c (.lit (.int .i64 7)))⟩] [4]
def a37r5 : AC := .reg [⟨(some 18), none, .mov (.s 0)⟩,
    ⟨(some 19), none, .load 1 false (.s 2)⟩,
    ⟨(some 20), none, .nilck (.s 18)⟩,
    ⟨(some 21), none, .faddr 2 (.s 20)⟩,
    ⟨none, none, .store 1 (.s 21) (.s 19)⟩] [0]
def a37r6 : AC := .reg [⟨(some 22), none, .mov (.s 0)⟩,
    ⟨(some 23), none, .nilck (.s 22)⟩,
    ⟨(some 24), none, .faddr 3 (.s 23)⟩,
    ⟨(some 25), none, .load 1 false (.s 24)⟩,
    ⟨(some 26), none, .iop .add (.s 25) (.c (.lit (.int .i64 1)))⟩,
    ⟨(some 27), none, .nilck (.s 22)⟩,
    ⟨(some 28), none, .faddr 3 (.s 27)⟩,
    ⟨none, none, .store 1 (.s 28) (.s 26)⟩] []
def a37r7 : AC := .reg [⟨(some 4), none, .mov (.c (.lit (.int .i64 0)))⟩] [4]
def a37 : AC := .seq (a37r0) (.seq (.block 0 (.seq (a37r1) (.cond (.s 5) (.seq (a37r2) (.ret)) (.seq (a37r3) (.cond (.s 12) (.seq (a37r4) (.ret)) (.skip)))))) (.seq (a37r5) (.seq (a37r6) (.seq (a37r7) (.ret)))))
def a37R : List RD := [.tmp 4]

/-! colloquy/posts.Delete$1: slots 22, parameters 1 -/
def a38r0 : AC := .reg [⟨(some 4), none, .mov (.c (.lit (.int .i64 0)))⟩] [0, 1, 2]
def a38r1 : AC := .draw [] (.take 0 ⟨(some 5), none, .load 1 false (.s 1)⟩ <|
    .take 1 ⟨(some 6), none, .mov (.s 0)⟩ <|
    .take 2 ⟨(some 7), none, .nilck (.s 6)⟩ <|
    .take 3 ⟨(some 8), none, .faddr 1 (.s 7)⟩ <|
    .take 4 ⟨(some 9), none, .load 1 false (.s 8)⟩ <|
    .take 5 ⟨(some 10), none, .iop .neq (.s 5) (.s 9)⟩ <|
    .take 6 ⟨(some 11), none, .mov (.s 10)⟩ <|
    .take 7 ⟨(some 12), (some (11, true)), .load 1 false (.s 1)⟩ <|
    .take 8 ⟨(some 13), (some (11, true)), .load 1 false (.s 2)⟩ <|
    .take 9 ⟨(some 14), (some (11, true)), .iop .neq (.s 12) (.s 13)⟩ <|
    .take 10 ⟨(some 15), none, .pick (.s 11) (.s 14) (.c (.lit (.bool false)))⟩ <|
    .done) [0, 15]
def a38r2 : AC := .reg [⟨(some 4), none, .mov (.c (.lit (.int .i64 8)))⟩] [4]
def a38r3 : AC := .reg [⟨(some 16), none, .mov (.s 0)⟩,
    ⟨(some 17), none, .mov (.s 0)⟩,
    ⟨(some 18), none, .nilck (.s 16)⟩,
    ⟨(some 19), none, .faddr 2 (.s 18)⟩,
    ⟨none, none, .store 1 (.s 19) (.c (.lit (.string ⟨#[]⟩)))⟩,
    ⟨(some 20), none, .nilck (.s 17)⟩,
    ⟨(some 21), none, .faddr 4 (.s 20)⟩,
    ⟨none, none, .store 1 (.s 21) (.c (.lit (.bool true)))⟩] []
def a38r4 : AC := .reg [⟨(some 4), none, .mov (.c (.lit (.int .i64 0)))⟩] [4]
def a38 : AC := .seq (a38r0) (.seq (.seq (a38r1) (.cond (.s 15) (.seq (a38r2) (.ret)) (.skip))) (.seq (a38r3) (.seq (a38r4) (.ret))))
def a38R : List RD := [.tmp 4]

/-! colloquy/posts.between: slots 15, parameters 3 -/
def a39r0 : AC := .reg [⟨(some 6), none, .mov (.c (.lit (.bool false)))⟩] [0, 1, 2]
def a39r1 : AC := .reg [⟨(some 7), none, .mov (.s 0)⟩,
    ⟨(some 8), none, .mov (.s 1)⟩,
    ⟨(some 9), none, .iop .geq (.s 7) (.s 8)⟩,
    ⟨(some 10), none, .mov (.s 9)⟩,
    ⟨(some 11), (some (10, true)), .mov (.s 0)⟩,
    ⟨(some 12), (some (10, true)), .mov (.s 2)⟩,
    ⟨(some 13), (some (10, true)), .iop .leq (.s 11) (.s 12)⟩,
    ⟨(some 14), none, .pick (.s 10) (.s 13) (.c (.lit (.bool false)))⟩,
    ⟨(some 6), none, .mov (.s 14)⟩] [6]
def a39 : AC := .seq (a39r0) (.seq (a39r1) (.ret))
def a39R : List RD := [.tmp 6]

/-! colloquy/colloquyref14.May: slots 37, parameters 1 -/
def a40r0 : AC := .reg [⟨(some 2), none, .mov (.c (.lit (.bool false)))⟩] [0]
def a40r1 : AC := .reg [⟨(some 5), none, .mov (.s 0)⟩,
    ⟨(some 6), none, .slen (.s 5)⟩,
    ⟨(some 7), none, .iop .lss (.s 6) (.c (.lit (.int .i64 1)))⟩,
    ⟨(some 8), none, .mov (.s 7)⟩,
    ⟨(some 9), (some (8, false)), .mov (.s 0)⟩,
    ⟨(some 10), (some (8, false)), .slen (.s 9)⟩,
    ⟨(some 11), (some (8, false)), .iop .gtr (.s 10) (.c (.lit (.int .i64 64)))⟩,
    ⟨(some 12), none, .pick (.s 8) (.c (.lit (.bool true))) (.s 11)⟩] [0, 12]
def a40r2 : AC := .reg [⟨(some 2), none, .mov (.c (.lit (.bool false)))⟩] [2]
def a40r3 : AC := .reg [⟨(some 3), none, .mov (.c (.lit (.int .i64 0)))⟩] [0, 3]
def a40r4 : AC := .reg [⟨(some 13), none, .mov (.s 3)⟩,
    ⟨(some 14), none, .mov (.s 0)⟩,
    ⟨(some 15), none, .slen (.s 14)⟩,
    ⟨(some 16), none, .iop .lss (.s 13) (.s 15)⟩] [0, 3, 16]
def a40r5 : AC := .reg [⟨(some 17), none, .mov (.s 0)⟩,
    ⟨(some 18), none, .mov (.s 3)⟩,
    ⟨(some 19), none, .callv (.c (.fn 44 [])) [(.s 17), (.s 18)]⟩,
    ⟨(some 4), none, .mov (.s 19)⟩] [0, 3, 4]
def a40r6 : AC := .reg [⟨(some 20), none, .mov (.s 4)⟩,
    ⟨(some 21), none, .iop .eql (.s 20) (.c (.lit (.int .i64 0)))⟩,
    ⟨(some 22), none, .mov (.s 21)⟩,
    ⟨(some 23), (some (22, false)), .mov (.s 0)⟩,
    ⟨(some 24), (some (22, false)), .mov (.s 3)⟩,
    ⟨(some 25), (some (22, false)), .sidx (.s 23) (.s 24)⟩,
    ⟨(some 26), (some (22, false)), .iop .lss (.s 25) (.c (.lit (.int .u8 32)))⟩,
    ⟨(some 27), none, .pick (.s 22) (.c (.lit (.bool true))) (.s 26)⟩,
    ⟨(some 28), none, .mov (.s 27)⟩,
    ⟨(some 29), (some (28, false)), .mov (.s 0)⟩,
    ⟨(some 30), (some (28, false)), .mov (.s 3)⟩,
    ⟨(some 31), (some (28, false)), .sidx (.s 29) (.s 30)⟩,
    ⟨(some 32), (some (28, false)), .iop .eql (.s 31) (.c (.lit (.int .u8 127)))⟩,
    ⟨(some 33), none, .pick (.s 28) (.c (.lit (.bool true))) (.s 32)⟩] [0, 3, 4, 33]
def a40r7 : AC := .reg [⟨(some 2), none, .mov (.c (.lit (.bool false)))⟩] [2]
def a40r8 : AC := .reg [⟨(some 34), none, .mov (.s 3)⟩,
    ⟨(some 35), none, .mov (.s 4)⟩,
    ⟨(some 36), none, .iop .add (.s 34) (.s 35)⟩,
    ⟨(some 3), none, .mov (.s 36)⟩] [0, 3]
def a40L4 : AC := .seq (.seq (a40r4) (.cond (.s 16) (.skip) (.exit 0))) (.block 1 (.seq (a40r5) (.seq (.seq (a40r6) (.cond (.s 33) (.seq (a40r7) (.ret)) (.skip))) (a40r8))))
def a40r9 : AC := .reg [⟨(some 2), none, .mov (.c (.lit (.bool true)))⟩] [2]
def a40 : AC := .seq (a40r0) (.seq (.seq (a40r1) (.cond (.s 12) (.seq (a40r2) (.ret)) (.skip))) (.seq (.seq (a40r3) (.block 0 (.loop a40L4))) (.seq (a40r9) (.ret))))
def a40R : List RD := [.tmp 2]

/-! colloquy/posts.there$1: slots 30, parameters 1 -/
def a41r0 : AC := .reg [⟨(some 6), none, .load 1 false (.s 1)⟩,
    ⟨(some 7), none, .len (.s 6)⟩,
    ⟨(some 8), none, .mov (.c (.lit (.int .i64 0)))⟩] [0, 2, 6, 7, 8]
def a41r1 : AC := .reg [⟨(some 9), none, .iop .lss (.s 8) (.s 7)⟩] [0, 2, 6, 7, 8, 9]
def a41r2 : AC := .reg [⟨(some 10), none, .mov (.s 8)⟩,
    ⟨(some 11), none, .iaddr 5 (.s 6) (.s 8)⟩,
    ⟨(some 12), none, .load 5 true (.s 11)⟩,
    ⟨(some 5), none, .alloc 41005 33 [(.lit (.int .i64 0)), (.lit (.int .i64 0)), (.lit (.string ⟨#[]⟩)), (.lit (.int .i64 0)), (.lit (.bool false))]⟩,
    ⟨(some 4), none, .mov (.s 10)⟩,
    ⟨none, none, .store 5 (.s 5) (.s 12)⟩] [0, 2, 4, 5, 6, 7, 8]
def a41r3 : AC := .reg [⟨(some 13), none, .faddr 4 (.s 5)⟩,
    ⟨(some 14), none, .load 1 false (.s 13)⟩,
    ⟨(some 15), none, .not (.s 14)⟩,
    ⟨(some 16), none, .mov (.s 15)⟩,
    ⟨(some 17), (some (16, true)), .faddr 0 (.s 5)⟩,
    ⟨(some 18), (some (16, true)), .load 1 false (.s 17)⟩,
    ⟨(some 19), (some (16, true)), .load 1 false (.s 2)⟩,
    ⟨(some 20), (some (16, true)), .iop .geq (.s 18) (.s 19)⟩,
    ⟨(some 21), none, .pick (.s 16) (.s 20) (.c (.lit (.bool false)))⟩,
    ⟨(some 22), none, .mov (.s 21)⟩,
    ⟨(some 23), (some (22, true)), .mov (.s 0)⟩,
    ⟨(some 24), (some (22, true)), .mov (.s 4)⟩,
    ⟨(some 25), (some (22, true)), .load 5 true (.s 5)⟩,
    ⟨(some 26), (some (22, true)), .callv (.s 23) [(.s 24), (.s 25)]⟩,
    ⟨(some 27), (some (22, true)), .not (.s 26)⟩,
    ⟨(some 28), none, .pick (.s 22) (.s 27) (.c (.lit (.bool false)))⟩] [0, 2, 6, 7, 8, 28]
def a41r4 : AC := .reg [⟨(some 29), none, .iop .add (.s 8) (.c (.lit (.int .i64 1)))⟩,
    ⟨(some 8), none, .mov (.s 29)⟩] [0, 2, 6, 7, 8]
def a41L1 : AC := .seq (a41r1) (.seq (.cond (.s 9) (.skip) (.exit 0)) (.seq (.block 1 (.seq (a41r2) (.seq (a41r3) (.cond (.s 28) (.ret) (.skip))))) (a41r4)))
def a41 : AC := .seq (a41r0) (.block 0 (.loop a41L1))
def a41R : List RD := []

/-! slices.Clone[[]colloquy/api.Entry,colloquy/api.Entry]: slots 8, parameters 1 -/
def a42r0 : AC := .reg [⟨(some 2), none, .mov (.c (.nils 5))⟩] [0]
def a42r1 : AC := .reg [⟨(some 3), none, .mov (.s 0)⟩,
    ⟨(some 4), none, .ext 6 [] [(.s 3)]⟩] [0, 4]
def a42r2 : AC := .reg [⟨(some 2), none, .mov (.c (.nils 5))⟩] [2]
def a42r3 : AC := .reg [⟨(some 5), none, .bslice 42005 33 5 []⟩,
    ⟨(some 6), none, .mov (.s 0)⟩,
    ⟨(some 7), none, .append 42007 33 5 48 (.s 5) (.s 6)⟩,
    ⟨(some 2), none, .mov (.s 7)⟩] [2]
def a42 : AC := .seq (a42r0) (.seq (.seq (a42r1) (.cond (.s 4) (.seq (a42r2) (.ret)) (.skip))) (.seq (a42r3) (.ret)))
def a42R : List RD := [.tmp 2]

/-! colloquy/colloquyref14.size: slots 91, parameters 2 -/
def a44r0 : AC := .reg [⟨(some 4), none, .mov (.c (.lit (.int .i64 0)))⟩] [0, 1]
def a44r1 : AC := .reg [⟨(some 11), none, .mov (.s 0)⟩,
    ⟨(some 12), none, .mov (.s 1)⟩,
    ⟨(some 13), none, .sidx (.s 11) (.s 12)⟩,
    ⟨(some 5), none, .mov (.s 13)⟩] [0, 1, 5]
def a44r2 : AC := .reg [⟨(some 14), none, .mov (.s 5)⟩,
    ⟨(some 15), none, .iop .lss (.s 14) (.c (.lit (.int .u8 128)))⟩] [0, 1, 5, 15]
def a44r3 : AC := .reg [⟨(some 4), none, .mov (.c (.lit (.int .i64 1)))⟩] [4]
def a44r4 : AC := .reg [⟨(some 16), none, .mov (.s 0)⟩,
    ⟨(some 17), none, .mov (.s 1)⟩,
    ⟨(some 18), none, .iop .add (.s 17) (.c (.lit (.int .i64 1)))⟩,
    ⟨(some 19), none, .callv (.c (.fn 46 [])) [(.s 16), (.s 18), (.c (.lit (.int .i64 1)))]⟩,
    ⟨(some 6), none, .mov (.s 19)⟩] [0, 1, 5, 6]
def a44r5 : AC := .reg [⟨(some 20), none, .mov (.s 0)⟩,
    ⟨(some 21), none, .mov (.s 1)⟩,
    ⟨(some 22), none, .iop .add (.s 21) (.c (.lit (.int .i64 1)))⟩,
    ⟨(some 23), none, .callv (.c (.fn 46 [])) [(.s 20), (.s 22), (.c (.lit (.int .i64 2)))]⟩,
    ⟨(some 7), none, .mov (.s 23)⟩] [0, 1, 5, 6, 7]
def a44r6 : AC := .reg [⟨(some 24), none, .mov (.s 0)⟩,
    ⟨(some 25), none, .mov (.s 1)⟩,
    ⟨(some 26), none, .iop .add (.s 25) (.c (.lit (.int .i64 1)))⟩,
    ⟨(some 27), none, .callv (.c (.fn 46 [])) [(.s 24), (.s 26), (.c (.lit (.int .i64 3)))]⟩,
    ⟨(some 8), none, .mov (.s 27)⟩] [0, 1, 5, 6, 7, 8]
def a44r7 : AC := .reg [⟨(some 28), none, .mov (.s 5)⟩,
    ⟨(some 29), none, .iop .geq (.s 28) (.c (.lit (.int .u8 194)))⟩,
    ⟨(some 30), none, .mov (.s 29)⟩,
    ⟨(some 31), (some (30, true)), .mov (.s 5)⟩,
    ⟨(some 32), (some (30, true)), .iop .leq (.s 31) (.c (.lit (.int .u8 223)))⟩,
    ⟨(some 33), none, .pick (.s 30) (.s 32) (.c (.lit (.bool false)))⟩,
    ⟨(some 34), none, .mov (.s 33)⟩,
    ⟨(some 35), (some (34, true)), .mov (.s 6)⟩,
    ⟨(some 36), none, .pick (.s 34) (.s 35) (.c (.lit (.bool false)))⟩] [0, 1, 5, 7, 8, 36]
def a44r8 : AC := .reg [⟨(some 4), none, .mov (.c (.lit (.int .i64 2)))⟩] [4]
def a44r9 : AC := .reg [⟨(some 37), none, .mov (.s 5)⟩,
    ⟨(some 38), none, .iop .geq (.s 37) (.c (.lit (.int .u8 224)))⟩,
    ⟨(some 39), none, .mov (.s 38)⟩,
    ⟨(some 40), (some (39, true)), .mov (.s 5)⟩,
    ⟨(some 41), (some (39, true)), .iop .leq (.s 40) (.c (.lit (.int .u8 239)))⟩,
    ⟨(some 42), none, .pick (.s 39) (.s 41) (.c (.lit (.bool false)))⟩,
    ⟨(some 43), none, .mov (.s 42)⟩,
    ⟨(some 44), (some (43, true)), .mov (.s 7)⟩,
    ⟨(some 45), none, .pick (.s 43) (.s 44) (.c (.lit (.bool false)))⟩] [0, 1, 5, 8, 45]
def a44r10 : AC := .reg [⟨(some 46), none, .mov (.s 0)⟩,
    ⟨(some 47), none, .mov (.s 1)⟩,
    ⟨(some 48), none, .iop .add (.s 47) (.c (.lit (.int .i64 1)))⟩,
    ⟨(some 49), none, .sidx (.s 46) (.s 48)⟩,
    ⟨(some 9), none, .mov (.s 49)⟩] [5, 9]
def a44r11 : AC := .reg [⟨(some 50), none, .mov (.s 5)⟩,
    ⟨(some 51), none, .iop .eql (.s 50) (.c (.lit (.int .u8 224)))⟩,
    ⟨(some 52), none, .mov (.s 51)⟩,
    ⟨(some 53), (some (52, true)), .mov (.s 9)⟩,
    ⟨(some 54), (some (52, true)), .iop .lss (.s 53) (.c (.lit (.int .u8 160)))⟩,
    ⟨(some 55), none, .pick (.s 52) (.s 54) (.c (.lit (.bool false)))⟩,
    ⟨(some 56), none, .mov (.s 55)⟩,
    ⟨(some 57), (some (56, false)), .mov (.s 5)⟩,
    ⟨(some 58), (some (56, false)), .iop .eql (.s 57) (.c (.lit (.int .u8 237)))⟩,
    ⟨(some 59), (some (56, false)), .mov (.s 58)⟩,
    ⟨(some 60), (some (59, true)), .mov (.s 9)⟩,
    ⟨(some 61), (some (59, true)), .iop .gtr (.s 60) (.c (.lit (.int .u8 159)))⟩,
    ⟨(some 62), (some (56, false)), .pick (.s 59) (.s 61) (.c (.lit (.bool false)))⟩,
    ⟨(some 63), none, .pick (.s 56) (.c (.lit (.bool true))) (.s 62)⟩] [63]
def a44r12 : AC := .reg [⟨(some 4), none, .mov (.c (.lit (.int .i64 0)))⟩] [4]
def a44r13 : AC := .reg [⟨(some 4), none, .mov (.c (.lit (.int .i64 3)))⟩] [4]
def a44r14 : AC := .reg [⟨(some 64), none, .mov (.s 5)⟩,
    ⟨(some 65), none, .iop .geq (.s 64) (.c (.lit (.int .u8 240)))⟩,
    ⟨(some 66), none, .mov (.s 65)⟩,
    ⟨(some 67), (some (66, true)), .mov (.s 5)⟩,
    ⟨(some 68), (some (66, true)), .iop .leq (.s 67) (.c (.lit (.int .u8 244)))⟩,
    ⟨(some 69), none, .pick (.s 66) (.s 68) (.c (.lit (.bool false)))⟩,
    ⟨(some 70), none, .mov (.s 69)⟩,
    ⟨(some 71), (some (70, true)), .mov (.s 8)⟩,
    ⟨(some 72), none, .pick (.s 70) (.s 71) (.c (.lit (.bool false)))⟩] [0, 1, 5, 72]
def a44r15 : AC := .reg [⟨(some 73), none, .mov (.s 0)⟩,
    ⟨(some 74), none, .mov (.s 1)⟩,
    ⟨(some 75), none, .iop .add (.s 74) (.c (.lit (.int .i64 1)))⟩,
    ⟨(some 76), none, .sidx (.s 73) (.s 75)⟩,
    ⟨(some 10), none, .mov (.s 76)⟩] [5, 10]
def a44r16 : AC := .reg [⟨(some 77), none, .mov (.s 5)⟩,
    ⟨(some 78), none, .iop .eql (.s 77) (.c (.lit (.int .u8 240)))⟩,
    ⟨(some 79), none, .mov (.s 78)⟩,
    ⟨(some 80), (some (79, true)), .mov (.s 10)⟩,
    ⟨(some 81), (some (79, true)), .iop .lss (.s 80) (.c (.lit (.int .u8 144)))⟩,
    ⟨(some 82), none, .pick (.s 79) (.s 81) (.c (.lit (.bool false)))⟩,
    ⟨(some 83), none, .mov (.s 82)⟩,
    ⟨(some 84), (some (83, false)), .mov (.s 5)⟩,
    ⟨(some 85), (some (83, false)), .iop .eql (.s 84) (.c (.lit (.int .u8 244)))⟩,
    ⟨(some 86), (some (83, false)), .mov (.s 85)⟩,
    ⟨(some 87), (some (86, true)), .mov (.s 10)⟩,
    ⟨(some 88), (some (86, true)), .iop .gtr (.s 87) (.c (.lit (.int .u8 143)))⟩,
    ⟨(some 89), (some (83, false)), .pick (.s 86) (.s 88) (.c (.lit (.bool false)))⟩,
    ⟨(some 90), none, .pick (.s 83) (.c (.lit (.bool true))) (.s 89)⟩] [90]
def a44r17 : AC := .reg [⟨(some 4), none, .mov (.c (.lit (.int .i64 0)))⟩] [4]
def a44r18 : AC := .reg [⟨(some 4), none, .mov (.c (.lit (.int .i64 4)))⟩] [4]
def a44r19 : AC := .reg [⟨(some 4), none, .mov (.c (.lit (.int .i64 0)))⟩] [4]
def a44 : AC := .seq (a44r0) (.seq (a44r1) (.seq (.seq (a44r2) (.cond (.s 15) (.seq (a44r3) (.ret)) (.skip))) (.seq (a44r4) (.seq (a44r5) (.seq (a44r6) (.seq (.seq (a44r7) (.cond (.s 36) (.seq (a44r8) (.ret)) (.skip))) (.seq (.seq (a44r9) (.cond (.s 45) (.seq (a44r10) (.seq (.seq (a44r11) (.cond (.s 63) (.seq (a44r12) (.ret)) (.skip))) (.seq (a44r13) (.ret)))) (.skip))) (.seq (.seq (a44r14) (.cond (.s 72) (.seq (a44r15) (.seq (.seq (a44r16) (.cond (.s 90) (.seq (a44r17) (.ret)) (.skip))) (.seq (a44r18) (.ret)))) (.skip))) (.seq (a44r19) (.ret))))))))))
def a44R : List RD := [.tmp 4]

/-! colloquy/colloquyref14.follows: slots 32, parameters 3 -/
def a46r0 : AC := .reg [⟨(some 6), none, .mov (.c (.lit (.bool false)))⟩] [0, 1, 2]
def a46r1 : AC := .reg [⟨(some 8), none, .mov (.s 1)⟩,
    ⟨(some 7), none, .mov (.s 8)⟩] [0, 1, 2, 7]
def a46r2 : AC := .reg [⟨(some 9), none, .mov (.s 7)⟩,
    ⟨(some 10), none, .mov (.s 1)⟩,
    ⟨(some 11), none, .mov (.s 2)⟩,
    ⟨(some 12), none, .iop .add (.s 10) (.s 11)⟩,
    ⟨(some 13), none, .iop .lss (.s 9) (.s 12)⟩] [0, 1, 2, 7, 13]
def a46r4 : AC := .reg [⟨(some 16), none, .mov (.s 7)⟩,
    ⟨(some 17), none, .mov (.s 0)⟩,
    ⟨(some 18), none, .slen (.s 17)⟩,
    ⟨(some 19), none, .iop .geq (.s 16) (.s 18)⟩,
    ⟨(some 20), none, .mov (.s 19)⟩,
    ⟨(some 21), (some (20, false)), .mov (.s 0)⟩,
    ⟨(some 22), (some (20, false)), .mov (.s 7)⟩,
    ⟨(some 23), (some (20, false)), .sidx (.s 21) (.s 22)⟩,
    ⟨(some 24), (some (20, false)), .iop .lss (.s 23) (.c (.lit (.int .u8 128)))⟩,
    ⟨(some 25), none, .pick (.s 20) (.c (.lit (.bool true))) (.s 24)⟩,
    ⟨(some 26), none, .mov (.s 25)⟩,
    ⟨(some 27), (some (26, false)), .mov (.s 0)⟩,
    ⟨(some 28), (some (26, false)), .mov (.s 7)⟩,
    ⟨(some 29), (some (26, false)), .sidx (.s 27) (.s 28)⟩,
    ⟨(some 30), (some (26, false)), .iop .gtr (.s 29) (.c (.lit (.int .u8 191)))⟩,
    ⟨(some 31), none, .pick (.s 26) (.c (.lit (.bool true))) (.s 30)⟩] [0, 1, 2, 7, 31]
def a46r5 : AC := .reg [⟨(some 6), none, .mov (.c (.lit (.bool false)))⟩] [6]
def a46r3 : AC := .reg [⟨(some 14), none, .mov (.s 7)⟩,
    ⟨(some 15), none, .iop .add (.s 14) (.c (.lit (.int .i64 1)))⟩,
    ⟨(some 7), none, .mov (.s 15)⟩] [0, 1, 2, 7]
def a46L2 : AC := .seq (.seq (a46r2) (.cond (.s 13) (.skip) (.exit 0))) (.seq (.block 1 (.seq (a46r4) (.cond (.s 31) (.seq (a46r5) (.ret)) (.skip)))) (a46r3))
def a46r6 : AC := .reg [⟨(some 6), none, .mov (.c (.lit (.bool true)))⟩] [6]
def a46 : AC := .seq (a46r0) (.seq (.seq (a46r1) (.block 0 (.loop a46L2))) (.seq (a46r6) (.ret)))
def a46R : List RD := [.tmp 6]

end Go.Proofs.YtifpfpiljionmaaDoor.F
