/- Parts of a symbolic execution and of walks by it, for the statements of this seat: CodeA, W1, Pl1, W2, W3, W4. -/
import Derived.Test.YtadbdchbdjkcdaaGreatDoorQb5
import Derived.Test.YtadbdchbdjkcdaaGreatDoorProg
import Derived.KernelRfl
set_option linter.unusedVariables false
set_option linter.unusedSimpArgs false
namespace Go.Proofs.YtadbdchbdjkcdaaGreatDoor.F
open Go Go.SX
def a110r0 : AC := .reg [oI 2 (.mov (.c (.lit (.bool false))))] [0]
def a110r1 : AC := .reg [oI 3 (.mov (.s 0)), oI 4 (.mov (.s 0)), oI 5 (.iop .neq (.s 3) (.s 4)), oI 2 (.mov (.s 5))] [2]
def a110 : AC := .seq a110r0 (.seq a110r1 (.ret))
def a110R : List RD := [.tmp 2]
def a86r0 : AC := .reg [oI 4 (.mov (.c (.lit (.int .i64 0))))] [0, 1]
def a86r1 : AC := .reg [oI 7 (.mov (.s 0)), oI 8 (.callv (.c (.fn 110 [])) [(.s 7)]), oI 5 (.mov (.s 8))] [0, 1, 5]
def a86r2 : AC := .reg [oI 9 (.mov (.s 1)), oI 10 (.callv (.c (.fn 110 [])) [(.s 9)]), oI 6 (.mov (.s 10))] [0, 1, 5, 6]
def a86r3 : AC := .reg [oI 11 (.mov (.s 5))] [0, 1, 6, 11]
def a86r4 : AC := .reg [oI 12 (.mov (.s 6))] [12]
def a86r5 : AC := .reg [oI 4 (.mov (.c (.lit (.int .i64 0))))] [4]
def a86r6 : AC := .reg [oI 4 (.mov (.c (.lit (.int .i64 (-1)))))] [4]
def a86r7 : AC := .reg [oI 13 (.mov (.s 6))] [0, 1, 13]
def a86r8 : AC := .reg [oI 4 (.mov (.c (.lit (.int .i64 1))))] [4]
def a86r9 : AC := .reg [oI 14 (.mov (.s 0)), oI 15 (.mov (.s 1)), oI 16 (.iop .lss (.s 14) (.s 15))] [0, 1, 16]
def a86r10 : AC := .reg [oI 4 (.mov (.c (.lit (.int .i64 (-1)))))] [4]
def a86r11 : AC := .reg [oI 17 (.mov (.s 0)), oI 18 (.mov (.s 1)), oI 19 (.iop .gtr (.s 17) (.s 18))] [19]
def a86r12 : AC := .reg [oI 4 (.mov (.c (.lit (.int .i64 1))))] [4]
def a86r13 : AC := .reg [oI 4 (.mov (.c (.lit (.int .i64 0))))] [4]
def a86 : AC := .seq a86r0 (.seq a86r1 (.seq a86r2 (.seq (.seq a86r3 (.cond (.s 11) (.seq (.seq a86r4 (.cond (.s 12) (.seq a86r5 (.ret)) (.skip))) (.seq a86r6 (.ret))) (.skip))) (.seq (.seq a86r7 (.cond (.s 13) (.seq a86r8 (.ret)) (.skip))) (.seq (.seq a86r9 (.cond (.s 16) (.seq a86r10 (.ret)) (.skip))) (.seq (.seq a86r11 (.cond (.s 19) (.seq a86r12 (.ret)) (.skip))) (.seq a86r13 (.ret))))))))
def a86R : List RD := [.tmp 4]
def a141r0 : AC := .reg [oI 4 (.mov (.c (.lit (.bool false))))] [0, 1]
def a141r1 : AC := .reg [oI 5 (.mov (.s 0)), oI 6 (.callv (.c (.fn 110 [])) [(.s 5)]), oI 7 (.mov (.s 6)), oG 8 7 true (.mov (.s 1)), oG 9 7 true (.callv (.c (.fn 110 [])) [(.s 8)]), oG 10 7 true (.not (.s 9)), oI 11 (.pick (.s 7) (.s 10) (.c (.lit (.bool false)))), oI 12 (.mov (.s 11)), oG 13 12 false (.mov (.s 0)), oG 14 12 false (.mov (.s 1)), oG 15 12 false (.iop .lss (.s 13) (.s 14)), oI 16 (.pick (.s 12) (.c (.lit (.bool true))) (.s 15)), oI 4 (.mov (.s 16))] [4]
def a141 : AC := .seq a141r0 (.seq a141r1 (.ret))
def a141R : List RD := [.tmp 4]
def a142r0 : AC := .reg [oI 2 (.mov (.c (.lit (.bool false))))] [0]
def a142r1 : AC := .reg [oI 3 (.mov (.s 0)), oI 4 (.mov (.s 0)), oI 5 (.iop .neq (.s 3) (.s 4)), oI 2 (.mov (.s 5))] [2]
def a142 : AC := .seq a142r0 (.seq a142r1 (.ret))
def a142R : List RD := [.tmp 2]
def a74r0 : AC := .reg [oI 2 (.mov (.c (.lit (.bool false))))] [0]
def a74r1 : AC := .reg [oI 3 (.mov (.c (.lit (.int .i64 0))))] [0, 3]
def a74r2 : AC := .reg [oI 6 (.mov (.s 0)), oI 7 (.len (.s 6)), oI 8 (.mov (.c (.lit (.int .i64 0))))] [3, 6, 7, 8]
def a74r3 : AC := .reg [oI 9 (.iop .lss (.s 8) (.s 7))] [3, 6, 7, 8, 9]
def a74r4 : AC := .reg [oI 10 (.iaddr 1 (.s 6) (.s 8)), oI 11 (.load 1 false (.s 10)), oI 5 (.mov (.s 11))] [3, 5, 6, 7, 8]
def a74r5 : AC := .reg [oI 12 (.mov (.s 5)), oI 13 (.mov (.s 3)), oI 14 (.iop .leq (.s 12) (.s 13)), oI 15 (.mov (.s 14)), oG 16 15 false (.mov (.s 5)), oG 17 15 false (.iop .gtr (.s 16) (.c (.lit (.int .i64 1048576)))), oI 18 (.pick (.s 15) (.c (.lit (.bool true))) (.s 17))] [5, 6, 7, 8, 18]
def a74r6 : AC := .reg [oI 2 (.mov (.c (.lit (.bool false))))] [2]
def a74r7 : AC := .reg [oI 19 (.mov (.s 5)), oI 3 (.mov (.s 19))] [3, 6, 7, 8]
def a74r8 : AC := .reg [oI 20 (.iop .add (.s 8) (.c (.lit (.int .i64 1)))), oI 8 (.mov (.s 20))] [3, 6, 7, 8]
def a74L3 : AC := .seq a74r3 (.seq (.cond (.s 9) (.skip) (.exit 0)) (.seq (.block 1 (.seq a74r4 (.seq (.seq a74r5 (.cond (.s 18) (.seq a74r6 (.ret)) (.skip))) a74r7))) a74r8))
def a74r9 : AC := .reg [oI 2 (.mov (.c (.lit (.bool true))))] [2]
def a74 : AC := .seq a74r0 (.seq a74r1 (.seq (.seq a74r2 (.block 0 (.loop a74L3))) (.seq a74r9 (.ret))))
def a74R : List RD := [.tmp 2]
def a107r0 : AC := .reg [oI 4 (.mov (.c (.lit (.int .i64 0))))] [0, 1]
def a107r1 : AC := .reg [oI 6 (.mov (.s 0)), oI 7 (.len (.s 6)), oI 8 (.mov (.c (.lit (.int .i64 0))))] [0, 1, 7, 8]
def a107r2 : AC := .reg [oI 9 (.iop .lss (.s 8) (.s 7))] [0, 1, 7, 8, 9]
def a107r3 : AC := .reg [oI 10 (.mov (.s 8)), oI 5 (.mov (.s 10))] [0, 1, 5, 7, 8]
def a107r4 : AC := .reg [oI 11 (.mov (.s 1)), oI 12 (.mov (.s 0)), oI 13 (.mov (.s 5)), oI 14 (.iaddr 1 (.s 12) (.s 13)), oI 15 (.load 1 false (.s 14)), oI 16 (.iop .eql (.s 11) (.s 15))] [0, 1, 5, 7, 8, 16]
def a107r5 : AC := .reg [oI 17 (.mov (.s 5)), oI 4 (.mov (.s 17))] [4]
def a107r6 : AC := .reg [oI 18 (.iop .add (.s 8) (.c (.lit (.int .i64 1)))), oI 8 (.mov (.s 18))] [0, 1, 7, 8]
def a107L2 : AC := .seq a107r2 (.seq (.cond (.s 9) (.skip) (.exit 0)) (.seq (.block 1 (.seq a107r3 (.seq a107r4 (.cond (.s 16) (.seq a107r5 (.ret)) (.skip))))) a107r6))
def a107r7 : AC := .reg [oI 4 (.mov (.c (.lit (.int .i64 (-1)))))] [4]
def a107 : AC := .seq a107r0 (.seq (.seq a107r1 (.block 0 (.loop a107L2))) (.seq a107r7 (.ret)))
def a107R : List RD := [.tmp 4]
def a75r0 : AC := .reg [oI 4 (.mov (.c (.lit (.bool false))))] [0, 1]
def a75r1 : AC := .reg [oI 5 (.mov (.s 0)), oI 6 (.mov (.s 1)), oI 7 (.callv (.c (.fn 107 [])) [(.s 5), (.s 6)]), oI 8 (.iop .geq (.s 7) (.c (.lit (.int .i64 0)))), oI 4 (.mov (.s 8))] [4]
def a75 : AC := .seq a75r0 (.seq a75r1 (.ret))
def a75R : List RD := [.tmp 4]
def a104r0 : AC := .reg [oI 4 (.mov (.c (.lit (.int .i64 0)))), oI 5 (.mov (.c (.lit (.bool false))))] [0, 1]
def a104r1 : AC := .reg [oI 10 (.mov (.s 0)), oI 11 (.len (.s 10)), oI 6 (.mov (.s 11))] [0, 1, 6]
def a104r2 : AC := .reg [oI 12 (.mov (.s 6)), oI 7 (.mov (.c (.lit (.int .i64 0)))), oI 8 (.mov (.s 12))] [0, 1, 6, 7, 8]
def a104r3 : AC := .reg [oI 13 (.mov (.s 7)), oI 14 (.mov (.s 8)), oI 15 (.iop .lss (.s 13) (.s 14))] [0, 1, 6, 7, 8, 15]
def a104r4 : AC := .reg [oI 16 (.mov (.s 7)), oI 17 (.mov (.s 8)), oI 18 (.iop .add (.s 16) (.s 17)), oI 19 (.conv .u64 (.s 18)), oI 20 (.iop .shr (.s 19) (.c (.lit (.int .u64 1)))), oI 21 (.conv .i64 (.s 20)), oI 9 (.mov (.s 21))] [0, 1, 6, 7, 8, 9]
def a104r5 : AC := .reg [oI 22 (.mov (.s 0)), oI 23 (.mov (.s 9)), oI 24 (.iaddr 1 (.s 22) (.s 23)), oI 25 (.load 1 false (.s 24)), oI 26 (.mov (.s 1)), oI 27 (.callv (.c (.fn 141 [])) [(.s 25), (.s 26)])] [0, 1, 6, 7, 8, 9, 27]
def a104r6 : AC := .reg [oI 28 (.mov (.s 9)), oI 29 (.iop .add (.s 28) (.c (.lit (.int .i64 1)))), oI 7 (.mov (.s 29))] [0, 1, 6, 7, 8]
def a104r7 : AC := .reg [oI 30 (.mov (.s 9)), oI 8 (.mov (.s 30))] [0, 1, 6, 7, 8]
def a104L3 : AC := .seq (.seq a104r3 (.cond (.s 15) (.skip) (.exit 0))) (.block 1 (.seq a104r4 (.seq a104r5 (.cond (.s 27) a104r6 a104r7))))
def a104r8 : AC := .reg [oI 31 (.mov (.s 7)), oI 32 (.mov (.s 7)), oI 33 (.mov (.s 6)), oI 34 (.iop .lss (.s 32) (.s 33)), oI 35 (.mov (.s 34)), oG 36 35 true (.mov (.s 0)), oG 37 35 true (.mov (.s 7)), oG 38 35 true (.iaddr 1 (.s 36) (.s 37)), oG 39 35 true (.load 1 false (.s 38)), oG 40 35 true (.mov (.s 1)), oG 41 35 true (.iop .eql (.s 39) (.s 40)), oG 42 35 true (.mov (.s 41)), oG 43 42 false (.mov (.s 0)), oG 44 42 false (.mov (.s 7)), oG 45 42 false (.iaddr 1 (.s 43) (.s 44)), oG 46 42 false (.load 1 false (.s 45)), oG 47 42 false (.callv (.c (.fn 142 [])) [(.s 46)]), oG 48 42 false (.mov (.s 47)), oG 49 48 true (.mov (.s 1)), oG 50 48 true (.callv (.c (.fn 142 [])) [(.s 49)]), oG 51 42 false (.pick (.s 48) (.s 50) (.c (.lit (.bool false)))), oG 52 35 true (.pick (.s 42) (.c (.lit (.bool true))) (.s 51)), oI 53 (.pick (.s 35) (.s 52) (.c (.lit (.bool false)))), oI 4 (.mov (.s 31)), oI 5 (.mov (.s 53))] [4, 5]
def a104 : AC := .seq a104r0 (.seq a104r1 (.seq a104r2 (.seq (.block 0 (.loop a104L3)) (.seq a104r8 (.ret)))))
def a104R : List RD := [.tmp 4, .tmp 5]
def a29r0 : AC := .reg [oI 1 (.box 29001 49 3 (.s 0)), oI 2 (.mov (.c (.lit (.bool false))))] [1]
def a29r1 : AC := .reg [oI 4 (.faddr 2 (.s 1)), oI 5 (.load 1 false (.s 4)), oI 6 (.len (.s 5)), oI 3 (.mov (.s 6))] [1, 3]
def a29r2 : AC := .reg [oI 8 (.faddr 0 (.s 1)), oI 9 (.load 1 false (.s 8)), oI 10 (.iop .lss (.s 9) (.c (.lit (.int .i64 1)))), oI 11 (.mov (.s 10)), oG 12 11 false (.faddr 0 (.s 1)), oG 13 11 false (.load 1 false (.s 12)), oG 14 11 false (.iop .gtr (.s 13) (.c (.lit (.int .i64 1048576)))), oI 15 (.pick (.s 11) (.c (.lit (.bool true))) (.s 14)), oI 7 (.mov (.s 15))] [1, 3, 7]
def a29r3 : AC := .reg [oI 16 (.mov (.s 3)), oI 17 (.iop .lss (.s 16) (.c (.lit (.int .i64 1)))), oI 18 (.mov (.s 17)), oG 19 18 false (.mov (.s 3)), oG 20 18 false (.iop .gtr (.s 19) (.c (.lit (.int .i64 16)))), oI 21 (.pick (.s 18) (.c (.lit (.bool true))) (.s 20)), oI 7 (.mov (.s 21))] [1, 7]
def a29r4 : AC := .reg [oI 2 (.mov (.c (.lit (.bool false))))] [2]
def a29r5 : AC := .reg [oI 22 (.faddr 2 (.s 1)), oI 23 (.load 1 false (.s 22)), oI 24 (.callv (.c (.fn 74 [])) [(.s 23)]), oI 25 (.mov (.s 24)), oG 26 25 true (.faddr 2 (.s 1)), oG 27 25 true (.load 1 false (.s 26)), oG 28 25 true (.faddr 1 (.s 1)), oG 29 25 true (.load 1 false (.s 28)), oG 30 25 true (.callv (.c (.fn 75 [])) [(.s 27), (.s 29)]), oI 31 (.pick (.s 25) (.s 30) (.c (.lit (.bool false)))), oI 2 (.mov (.s 31))] [2]
def a29 : AC := .seq a29r0 (.seq (.seq a29r1 (.block 0 (.seq (.seq a29r2 (.cond (.s 7) (.skip) a29r3)) (.cond (.s 7) (.seq a29r4 (.ret)) (.skip))))) (.seq a29r5 (.ret)))
def a29R : List RD := [.tmp 2]
def a73r0 : AC := .reg [oI 2 (.box 73002 49 3 (.s 0)), oI 4 (.mov (.c (.lit (.bool false))))] [1, 2]
def a73r1 : AC := .reg [oI 5 (.load 3 true (.s 2)), oI 6 (.callv (.c (.fn 29 [])) [(.s 5)]), oI 7 (.mov (.s 6)), oG 8 7 true (.faddr 2 (.s 2)), oG 9 7 true (.load 1 false (.s 8)), oG 10 7 true (.mov (.s 1)), oG 11 7 true (.callv (.c (.fn 75 [])) [(.s 9), (.s 10)]), oI 12 (.pick (.s 7) (.s 11) (.c (.lit (.bool false)))), oI 4 (.mov (.s 12))] [4]
def a73 : AC := .seq a73r0 (.seq a73r1 (.ret))
def a73R : List RD := [.tmp 4]
def a106r0 : AC := .reg [oI 6 (.mov (.c (.nils 1)))] [0, 1, 2]
def a106r1 : AC := .reg [oI 8 (.mov (.s 0)), oI 9 (.mov (.s 1)), oI 10 (.mov (.s 2)), oI 11 (.mov (.s 0)), oI 12 (.len (.s 11)), oI 13 (.ext 5 [] [(.s 8), (.s 9), (.s 10), (.s 12)])] [0, 1, 2]
def a106r2 : AC := .reg [oI 14 (.mov (.s 1)), oI 15 (.mov (.s 2)), oI 16 (.iop .eql (.s 14) (.s 15))] [0, 1, 2, 16]
def a106r3 : AC := .reg [oI 17 (.mov (.s 0)), oI 6 (.mov (.s 17))] [6]
def a106r4 : AC := .reg [oI 18 (.mov (.s 0)), oI 19 (.len (.s 18)), oI 7 (.mov (.s 19))] [0, 1, 2, 7]
def a106r5 : AC := .draw [] (.take 0 (oI 20 (.mov (.s 0))) <| .take 1 (oI 21 (.mov (.s 1))) <| .take 2 (oI 22 (.slice 1 (.s 20) none (some (.s 21)))) <| .take 3 (oI 23 (.mov (.s 0))) <| .take 4 (oI 24 (.mov (.s 2))) <| .take 5 (oI 25 (.slice 1 (.s 23) (some (.s 24)) none)) <| .alt 6 (oI 26 (.append 106026 3 1 8 (.s 22) (.s 25))) ( .take 7 (oI 0 (.mov (.s 26))) <| .done) .done) [0, 7]
def a106r6 : AC := .reg [oI 27 (.mov (.s 0)), oI 28 (.mov (.s 0)), oI 29 (.len (.s 28)), oI 30 (.mov (.s 7)), oI 31 (.slice 1 (.s 27) (some (.s 29)) (some (.s 30))), oN (.ext 2 [3, 1, 8] [(.s 31)])] [0]
def a106r7 : AC := .reg [oI 32 (.mov (.s 0)), oI 6 (.mov (.s 32))] [6]
def a106 : AC := .seq a106r0 (.seq a106r1 (.seq (.seq a106r2 (.cond (.s 16) (.seq a106r3 (.ret)) (.skip))) (.seq a106r4 (.seq a106r5 (.seq a106r6 (.seq a106r7 (.ret)))))))
def a106R : List RD := [.tmp 6]
def a70r0 : AC := .reg [oI 4 (.alloc 70004 49 [(.lit (.int .i64 0)), (.lit (.int .i64 0)), (.nils 1)]), oI 5 (.mov (.c (.lit (.int .i64 0))))] [0, 1, 4]
def a70r1 : AC := .reg [oI 7 (.mov (.s 0)), oI 8 (.mov (.s 1)), oI 9 (.mov (.s 1)), oI 10 (.bslice 70010 3 1 [(.s 9)]), oI 11 (.build [(.lit (.int .i64 0)), (.lit (.int .i64 0)), (.nils 1)] [(0, 1, (.s 7)), (1, 1, (.s 8)), (2, 1, (.s 10))]), oI 6 (.alloc 70006 49 [(.lit (.int .i64 0)), (.lit (.int .i64 0)), (.nils 1)]), oN (.store 3 (.s 6) (.s 11))] [4, 6]
def a70r2 : AC := .reg [oI 12 (.load 3 true (.s 6)), oI 13 (.callv (.c (.fn 29 [])) [(.s 12)]), oI 14 (.not (.s 13))] [4, 6, 14]
def a70r3 : AC := .reg [oI 15 (.build [(.lit (.int .i64 0)), (.lit (.int .i64 0)), (.nils 1)] []), oN (.store 3 (.s 4) (.s 15)), oI 5 (.mov (.c (.lit (.int .i64 1))))] [4, 5]
def a70r4 : AC := .reg [oI 16 (.load 3 true (.s 6)), oN (.store 3 (.s 4) (.s 16)), oI 5 (.mov (.c (.lit (.int .i64 0))))] [4, 5]
def a70 : AC := .seq a70r0 (.seq a70r1 (.seq (.seq a70r2 (.cond (.s 14) (.seq a70r3 (.ret)) (.skip))) (.seq a70r4 (.ret))))
def a70R : List RD := [.cell 4 3 true, .tmp 5]
def a71r0 : AC := .reg [oI 2 (.box 71002 49 3 (.s 0)), oI 4 (.alloc 71004 49 [(.lit (.int .i64 0)), (.lit (.int .i64 0)), (.nils 1)]), oI 5 (.mov (.c (.lit (.int .i64 0))))] [1, 2, 4]
def a71r1 : AC := .reg [oI 9 (.faddr 2 (.s 2)), oI 10 (.load 1 false (.s 9)), oI 11 (.mov (.s 1)), oI 12 (.callv (.c (.fn 104 [])) [(.s 10), (.s 11)]), oI 8 (.mov (.s 12)), oI 13 (.extract 0 (.s 8)), oI 14 (.extract 1 (.s 8)), oI 6 (.mov (.s 13)), oI 7 (.mov (.s 14))] [1, 2, 4, 6, 7]
def a71r2 : AC := .reg [oI 16 (.load 3 true (.s 2)), oI 17 (.callv (.c (.fn 29 [])) [(.s 16)]), oI 18 (.not (.s 17)), oI 19 (.mov (.s 18)), oG 20 19 false (.mov (.s 1)), oG 21 19 false (.bslice 71021 3 1 [(.s 20)]), oG 22 19 false (.callv (.c (.fn 74 [])) [(.s 21)]), oG 23 19 false (.not (.s 22)), oI 24 (.pick (.s 19) (.c (.lit (.bool true))) (.s 23)), oI 15 (.mov (.s 24))] [1, 2, 4, 6, 7, 15]
def a71r3 : AC := .reg [oI 25 (.build [(.lit (.int .i64 0)), (.lit (.int .i64 0)), (.nils 1)] []), oN (.store 3 (.s 4) (.s 25)), oI 5 (.mov (.c (.lit (.int .i64 1))))] [4, 5]
def a71r4 : AC := .reg [oI 27 (.mov (.s 7)), oI 26 (.mov (.s 27))] [1, 2, 4, 6, 26]
def a71r5 : AC := .reg [oI 28 (.build [(.lit (.int .i64 0)), (.lit (.int .i64 0)), (.nils 1)] []), oN (.store 3 (.s 4) (.s 28)), oI 5 (.mov (.c (.lit (.int .i64 6))))] [4, 5]
def a71r6 : AC := .reg [oI 30 (.faddr 2 (.s 2)), oI 31 (.load 1 false (.s 30)), oI 32 (.len (.s 31)), oI 33 (.iop .geq (.s 32) (.c (.lit (.int .i64 16)))), oI 29 (.mov (.s 33))] [1, 2, 4, 6, 29]
def a71r7 : AC := .reg [oI 34 (.build [(.lit (.int .i64 0)), (.lit (.int .i64 0)), (.nils 1)] []), oN (.store 3 (.s 4) (.s 34)), oI 5 (.mov (.c (.lit (.int .i64 7))))] [4, 5]
def a71r8 : AC := .reg [oI 35 (.faddr 2 (.s 2)), oI 36 (.load 1 false (.s 35)), oI 37 (.callv (.c (.fn 81 [])) [(.s 36)]), oI 38 (.mov (.s 6)), oI 39 (.mov (.s 1)), oI 40 (.bslice 71040 3 1 [(.s 39)]), oI 41 (.callv (.c (.fn 105 [])) [(.s 37), (.s 38), (.s 40)]), oI 42 (.faddr 2 (.s 2)), oN (.store 1 (.s 42) (.s 41))] [2, 4]
def a71r9 : AC := .reg [oI 43 (.load 3 true (.s 2)), oN (.store 3 (.s 4) (.s 43)), oI 5 (.mov (.c (.lit (.int .i64 0))))] [4, 5]
def a71 : AC := .seq a71r0 (.seq a71r1 (.seq (.block 0 (.seq a71r2 (.cond (.s 15) (.seq a71r3 (.ret)) (.seq a71r4 (.cond (.s 26) (.seq a71r5 (.ret)) (.seq a71r6 (.cond (.s 29) (.seq a71r7 (.ret)) (.skip)))))))) (.seq a71r8 (.seq a71r9 (.ret)))))
def a71R : List RD := [.cell 4 3 true, .tmp 5]
def a72r0 : AC := .reg [oI 2 (.box 72002 49 3 (.s 0)), oI 4 (.alloc 72004 49 [(.lit (.int .i64 0)), (.lit (.int .i64 0)), (.nils 1)]), oI 5 (.mov (.c (.lit (.int .i64 0))))] [1, 2, 4]
def a72r1 : AC := .reg [oI 9 (.faddr 2 (.s 2)), oI 10 (.load 1 false (.s 9)), oI 11 (.mov (.s 1)), oI 12 (.callv (.c (.fn 104 [])) [(.s 10), (.s 11)]), oI 8 (.mov (.s 12)), oI 13 (.extract 0 (.s 8)), oI 14 (.extract 1 (.s 8)), oI 6 (.mov (.s 13)), oI 7 (.mov (.s 14))] [1, 2, 4, 6, 7]
def a72r2 : AC := .reg [oI 16 (.load 3 true (.s 2)), oI 17 (.callv (.c (.fn 29 [])) [(.s 16)]), oI 18 (.not (.s 17)), oI 15 (.mov (.s 18))] [1, 2, 4, 6, 7, 15]
def a72r3 : AC := .reg [oI 19 (.build [(.lit (.int .i64 0)), (.lit (.int .i64 0)), (.nils 1)] []), oN (.store 3 (.s 4) (.s 19)), oI 5 (.mov (.c (.lit (.int .i64 1))))] [4, 5]
def a72r4 : AC := .reg [oI 21 (.mov (.s 7)), oI 22 (.not (.s 21)), oI 20 (.mov (.s 22))] [1, 2, 4, 6, 20]
def a72r5 : AC := .reg [oI 23 (.build [(.lit (.int .i64 0)), (.lit (.int .i64 0)), (.nils 1)] []), oN (.store 3 (.s 4) (.s 23)), oI 5 (.mov (.c (.lit (.int .i64 5))))] [4, 5]
def a72r6 : AC := .reg [oI 25 (.faddr 1 (.s 2)), oI 26 (.load 1 false (.s 25)), oI 27 (.mov (.s 1)), oI 28 (.iop .eql (.s 26) (.s 27)), oI 24 (.mov (.s 28))] [2, 4, 6, 24]
def a72r7 : AC := .reg [oI 29 (.build [(.lit (.int .i64 0)), (.lit (.int .i64 0)), (.nils 1)] []), oN (.store 3 (.s 4) (.s 29)), oI 5 (.mov (.c (.lit (.int .i64 8))))] [4, 5]
def a72r8 : AC := .reg [oI 30 (.faddr 2 (.s 2)), oI 31 (.load 1 false (.s 30)), oI 32 (.callv (.c (.fn 81 [])) [(.s 31)]), oI 33 (.mov (.s 6)), oI 34 (.mov (.s 6)), oI 35 (.iop .add (.s 34) (.c (.lit (.int .i64 1)))), oI 36 (.callv (.c (.fn 106 [])) [(.s 32), (.s 33), (.s 35)]), oI 37 (.faddr 2 (.s 2)), oN (.store 1 (.s 37) (.s 36))] [2, 4]
def a72r9 : AC := .reg [oI 38 (.load 3 true (.s 2)), oN (.store 3 (.s 4) (.s 38)), oI 5 (.mov (.c (.lit (.int .i64 0))))] [4, 5]
def a72 : AC := .seq a72r0 (.seq a72r1 (.seq (.block 0 (.seq a72r2 (.cond (.s 15) (.seq a72r3 (.ret)) (.seq a72r4 (.cond (.s 20) (.seq a72r5 (.ret)) (.seq a72r6 (.cond (.s 24) (.seq a72r7 (.ret)) (.skip)))))))) (.seq a72r8 (.seq a72r9 (.ret)))))
def a72R : List RD := [.cell 4 3 true, .tmp 5]
def a98r0 : AC := .reg [oI 2 (.mov (.c (.lit (.bool false))))] [0]
def a98r1 : AC := .reg [oI 3 (.mov (.s 0)), oI 4 (.iop .geq (.s 3) (.c (.lit (.int .i64 1)))), oI 5 (.mov (.s 4)), oG 6 5 true (.mov (.s 0)), oG 7 5 true (.iop .leq (.s 6) (.c (.lit (.int .i64 1048576)))), oI 8 (.pick (.s 5) (.s 7) (.c (.lit (.bool false)))), oI 2 (.mov (.s 8))] [2]
def a98 : AC := .seq a98r0 (.seq a98r1 (.ret))
def a98R : List RD := [.tmp 2]
def a99r0 : AC := .reg [oI 4 (.mov (.c (.lit (.bool false))))] [0, 1]
def a99r1 : AC := .reg [oI 5 (.mov (.c (.lit (.int .i64 0))))] [0, 1, 5]
def a99r2 : AC := .reg [oI 6 (.mov (.s 5)), oI 7 (.mov (.s 0)), oI 8 (.len (.s 7)), oI 9 (.iop .lss (.s 6) (.s 8))] [0, 1, 5, 9]
def a99r4 : AC := .reg [oI 12 (.mov (.s 0)), oI 13 (.mov (.s 5)), oI 14 (.iaddr 1 (.s 12) (.s 13)), oI 15 (.load 1 false (.s 14)), oI 16 (.mov (.s 1)), oI 17 (.iop .eql (.s 15) (.s 16))] [0, 1, 5, 17]
def a99r5 : AC := .reg [oI 4 (.mov (.c (.lit (.bool true))))] [4]
def a99r3 : AC := .reg [oI 10 (.mov (.s 5)), oI 11 (.iop .add (.s 10) (.c (.lit (.int .i64 1)))), oI 5 (.mov (.s 11))] [0, 1, 5]
def a99L2 : AC := .seq (.seq a99r2 (.cond (.s 9) (.skip) (.exit 0))) (.seq (.block 1 (.seq a99r4 (.cond (.s 17) (.seq a99r5 (.ret)) (.skip)))) a99r3)
def a99r6 : AC := .reg [oI 4 (.mov (.c (.lit (.bool false))))] [4]
def a99 : AC := .seq a99r0 (.seq (.seq a99r1 (.block 0 (.loop a99L2))) (.seq a99r6 (.ret)))
def a99R : List RD := [.tmp 4]
def a53r0 : AC := .reg [oI 1 (.box 53001 49 3 (.s 0)), oI 2 (.mov (.c (.lit (.bool false))))] [1]
def a53r1 : AC := .reg [oI 5 (.faddr 0 (.s 1)), oI 6 (.load 1 false (.s 5)), oI 7 (.iop .lss (.s 6) (.c (.lit (.int .i64 1)))), oI 8 (.mov (.s 7)), oG 9 8 false (.faddr 0 (.s 1)), oG 10 8 false (.load 1 false (.s 9)), oG 11 8 false (.iop .gtr (.s 10) (.c (.lit (.int .i64 1048576)))), oI 12 (.pick (.s 8) (.c (.lit (.bool true))) (.s 11)), oI 13 (.mov (.s 12)), oG 14 13 false (.faddr 2 (.s 1)), oG 15 13 false (.load 1 false (.s 14)), oG 16 13 false (.len (.s 15)), oG 17 13 false (.iop .lss (.s 16) (.c (.lit (.int .i64 1)))), oI 18 (.pick (.s 13) (.c (.lit (.bool true))) (.s 17)), oI 19 (.mov (.s 18)), oG 20 19 false (.faddr 2 (.s 1)), oG 21 19 false (.load 1 false (.s 20)), oG 22 19 false (.len (.s 21)), oG 23 19 false (.iop .gtr (.s 22) (.c (.lit (.int .i64 16)))), oI 24 (.pick (.s 19) (.c (.lit (.bool true))) (.s 23))] [1, 24]
def a53r2 : AC := .reg [oI 2 (.mov (.c (.lit (.bool false))))] [2]
def a53r3 : AC := .reg [oI 3 (.mov (.c (.lit (.int .i64 0))))] [1, 3]
def a53r4 : AC := .reg [oI 25 (.mov (.s 3)), oI 26 (.faddr 2 (.s 1)), oI 27 (.load 1 false (.s 26)), oI 28 (.len (.s 27)), oI 29 (.iop .lss (.s 25) (.s 28))] [1, 3, 29]
def a53r6 : AC := .reg [oI 32 (.faddr 2 (.s 1)), oI 33 (.load 1 false (.s 32)), oI 34 (.mov (.s 3)), oI 35 (.iaddr 1 (.s 33) (.s 34)), oI 36 (.load 1 false (.s 35)), oI 37 (.callv (.c (.fn 98 [])) [(.s 36)]), oI 4 (.mov (.s 37))] [1, 3, 4]
def a53r7 : AC := .draw [] (.take 0 (oI 38 (.mov (.s 4))) <| .take 1 (oI 39 (.not (.s 38))) <| .take 2 (oI 40 (.mov (.s 39))) <| .take 3 (oG 41 40 false (.mov (.s 3))) <| .take 4 (oG 42 40 false (.iop .gtr (.s 41) (.c (.lit (.int .i64 0))))) <| .take 5 (oG 43 40 false (.mov (.s 42))) <| .take 6 (oG 44 43 true (.faddr 2 (.s 1))) <| .take 7 (oG 45 43 true (.load 1 false (.s 44))) <| .take 8 (oG 46 43 true (.mov (.s 3))) <| .take 9 (oG 47 43 true (.iaddr 1 (.s 45) (.s 46))) <| .take 10 (oG 48 43 true (.load 1 false (.s 47))) <| .take 11 (oG 49 43 true (.faddr 2 (.s 1))) <| .take 12 (oG 50 43 true (.load 1 false (.s 49))) <| .take 13 (oG 51 43 true (.mov (.s 3))) <| .take 14 (oG 52 43 true (.iop .sub (.s 51) (.c (.lit (.int .i64 1))))) <| .take 15 (oG 53 43 true (.iaddr 1 (.s 50) (.s 52))) <| .take 16 (oG 54 43 true (.load 1 false (.s 53))) <| .take 17 (oG 55 43 true (.iop .leq (.s 48) (.s 54))) <| .take 18 (oG 56 40 false (.pick (.s 43) (.s 55) (.c (.lit (.bool false))))) <| .take 19 (oI 57 (.pick (.s 40) (.c (.lit (.bool true))) (.s 56))) <| .done) [1, 3, 57]
def a53r8 : AC := .reg [oI 2 (.mov (.c (.lit (.bool false))))] [2]
def a53r5 : AC := .reg [oI 30 (.mov (.s 3)), oI 31 (.iop .add (.s 30) (.c (.lit (.int .i64 1)))), oI 3 (.mov (.s 31))] [1, 3]
def a53L4 : AC := .seq (.seq a53r4 (.cond (.s 29) (.skip) (.exit 0))) (.seq (.block 1 (.seq a53r6 (.seq a53r7 (.cond (.s 57) (.seq a53r8 (.ret)) (.skip))))) a53r5)
def a53r9 : AC := .reg [oI 58 (.faddr 2 (.s 1)), oI 59 (.load 1 false (.s 58)), oI 60 (.faddr 1 (.s 1)), oI 61 (.load 1 false (.s 60)), oI 62 (.callv (.c (.fn 99 [])) [(.s 59), (.s 61)]), oI 2 (.mov (.s 62))] [2]
def a53 : AC := .seq a53r0 (.seq (.seq a53r1 (.cond (.s 24) (.seq a53r2 (.ret)) (.skip))) (.seq (.seq a53r3 (.block 0 (.loop a53L4))) (.seq a53r9 (.ret))))
def a53R : List RD := [.tmp 2]
def a134r0 : AC := .reg [oI 2 (.box 134002 49 3 (.s 0)), oI 4 (.mov (.c (.lit (.bool false))))] [1, 2]
def a134r1 : AC := .reg [oI 7 (.load 3 true (.s 2)), oI 8 (.callv (.c (.fn 53 [])) [(.s 7)]), oI 5 (.mov (.s 8))] [1, 2, 5]
def a134r2 : AC := .reg [oI 9 (.faddr 2 (.s 2)), oI 10 (.load 1 false (.s 9)), oI 11 (.mov (.s 1)), oI 12 (.callv (.c (.fn 99 [])) [(.s 10), (.s 11)]), oI 6 (.mov (.s 12))] [5, 6]
def a134r3 : AC := .reg [oI 13 (.mov (.s 5)), oI 14 (.mov (.s 13)), oG 15 14 true (.mov (.s 6)), oI 16 (.pick (.s 14) (.s 15) (.c (.lit (.bool false)))), oI 4 (.mov (.s 16))] [4]
def a134 : AC := .seq a134r0 (.seq a134r1 (.seq a134r2 (.seq a134r3 (.ret))))
def a134R : List RD := [.tmp 4]
def a130r0 : AC := .reg [oI 4 (.alloc 130004 49 [(.lit (.int .i64 0)), (.lit (.int .i64 0)), (.nils 1)]), oI 5 (.mov (.c (.lit (.int .i64 0))))] [0, 1, 4]
def a130r1 : AC := .reg [oI 8 (.mov (.s 0)), oI 9 (.mov (.s 1)), oI 10 (.mov (.s 1)), oI 11 (.bslice 130011 3 1 [(.s 10)]), oI 12 (.build [(.lit (.int .i64 0)), (.lit (.int .i64 0)), (.nils 1)] [(0, 1, (.s 8)), (1, 1, (.s 9)), (2, 1, (.s 11))]), oI 6 (.alloc 130006 49 [(.lit (.int .i64 0)), (.lit (.int .i64 0)), (.nils 1)]), oN (.store 3 (.s 6) (.s 12))] [4, 6]
def a130r2 : AC := .reg [oI 13 (.load 3 true (.s 6)), oI 14 (.callv (.c (.fn 53 [])) [(.s 13)]), oI 7 (.mov (.s 14))] [4, 6, 7]
def a130r3 : AC := .reg [oI 15 (.mov (.s 7)), oI 16 (.not (.s 15))] [4, 6, 16]
def a130r4 : AC := .reg [oI 17 (.build [(.lit (.int .i64 0)), (.lit (.int .i64 0)), (.nils 1)] []), oN (.store 3 (.s 4) (.s 17)), oI 5 (.mov (.c (.lit (.int .i64 1))))] [4, 5]
def a130r5 : AC := .reg [oI 18 (.load 3 true (.s 6)), oN (.store 3 (.s 4) (.s 18)), oI 5 (.mov (.c (.lit (.int .i64 0))))] [4, 5]
def a130 : AC := .seq a130r0 (.seq a130r1 (.seq a130r2 (.seq (.seq a130r3 (.cond (.s 16) (.seq a130r4 (.ret)) (.skip))) (.seq a130r5 (.ret)))))
def a130R : List RD := [.cell 4 3 true, .tmp 5]
def a133r0 : AC := .reg [oI 2 (.box 133002 49 3 (.s 0)), oI 4 (.alloc 133004 49 [(.lit (.int .i64 0)), (.lit (.int .i64 0)), (.nils 1)]), oI 5 (.mov (.c (.lit (.int .i64 0))))] [1, 2, 4]
def a133r1 : AC := .reg [oI 12 (.load 3 true (.s 2)), oI 13 (.callv (.c (.fn 53 [])) [(.s 12)]), oI 6 (.mov (.s 13))] [1, 2, 4, 6]
def a133r2 : AC := .reg [oI 14 (.mov (.s 1)), oI 15 (.callv (.c (.fn 98 [])) [(.s 14)]), oI 7 (.mov (.s 15))] [1, 2, 4, 6, 7]
def a133r3 : AC := .reg [oI 16 (.mov (.s 6)), oI 17 (.not (.s 16)), oI 18 (.mov (.s 17)), oG 19 18 false (.mov (.s 7)), oG 20 18 false (.not (.s 19)), oI 21 (.pick (.s 18) (.c (.lit (.bool true))) (.s 20))] [1, 2, 4, 21]
def a133r4 : AC := .reg [oI 22 (.build [(.lit (.int .i64 0)), (.lit (.int .i64 0)), (.nils 1)] []), oN (.store 3 (.s 4) (.s 22)), oI 5 (.mov (.c (.lit (.int .i64 1))))] [4, 5]
def a133r5 : AC := .reg [oI 23 (.faddr 2 (.s 2)), oI 24 (.load 1 false (.s 23)), oI 25 (.mov (.s 1)), oI 26 (.callv (.c (.fn 99 [])) [(.s 24), (.s 25)]), oI 8 (.mov (.s 26))] [1, 2, 4, 8]
def a133r6 : AC := .reg [oI 27 (.mov (.s 8))] [1, 2, 4, 27]
def a133r7 : AC := .reg [oI 28 (.build [(.lit (.int .i64 0)), (.lit (.int .i64 0)), (.nils 1)] []), oN (.store 3 (.s 4) (.s 28)), oI 5 (.mov (.c (.lit (.int .i64 6))))] [4, 5]
def a133r8 : AC := .reg [oI 29 (.faddr 2 (.s 2)), oI 30 (.load 1 false (.s 29)), oI 31 (.len (.s 30)), oI 32 (.iop .geq (.s 31) (.c (.lit (.int .i64 16))))] [1, 2, 4, 32]
def a133r9 : AC := .reg [oI 33 (.build [(.lit (.int .i64 0)), (.lit (.int .i64 0)), (.nils 1)] []), oN (.store 3 (.s 4) (.s 33)), oI 5 (.mov (.c (.lit (.int .i64 7))))] [4, 5]
def a133r10 : AC := .reg [oI 9 (.mov (.c (.nils 1)))] [1, 2, 4, 9]
def a133r11 : AC := .reg [oI 10 (.mov (.c (.lit (.bool false))))] [1, 2, 4, 9, 10]
def a133r12 : AC := .reg [oI 11 (.mov (.c (.lit (.int .i64 0))))] [1, 2, 4, 9, 10, 11]
def a133r13 : AC := .reg [oI 34 (.mov (.s 11)), oI 35 (.faddr 2 (.s 2)), oI 36 (.load 1 false (.s 35)), oI 37 (.len (.s 36)), oI 38 (.iop .lss (.s 34) (.s 37))] [1, 2, 4, 9, 10, 11, 38]
def a133r15 : AC := .reg [oI 41 (.mov (.s 10)), oI 42 (.not (.s 41)), oI 43 (.mov (.s 42)), oG 44 43 true (.faddr 2 (.s 2)), oG 45 43 true (.load 1 false (.s 44)), oG 46 43 true (.mov (.s 11)), oG 47 43 true (.iaddr 1 (.s 45) (.s 46)), oG 48 43 true (.load 1 false (.s 47)), oG 49 43 true (.mov (.s 1)), oG 50 43 true (.iop .gtr (.s 48) (.s 49)), oI 51 (.pick (.s 43) (.s 50) (.c (.lit (.bool false))))] [1, 2, 4, 9, 10, 11, 51]
def a133r16 : AC := .reg [oI 52 (.mov (.s 9)), oI 53 (.mov (.s 1)), oI 54 (.bslice 133054 3 1 [(.s 53)]), oI 55 (.append 133055 3 1 8 (.s 52) (.s 54)), oI 9 (.mov (.s 55))] [1, 2, 4, 9, 11]
def a133r17 : AC := .reg [oI 10 (.mov (.c (.lit (.bool true))))] [1, 2, 4, 9, 10, 11]
def a133r18 : AC := .reg [oI 56 (.mov (.s 9)), oI 57 (.faddr 2 (.s 2)), oI 58 (.load 1 false (.s 57)), oI 59 (.mov (.s 11)), oI 60 (.iaddr 1 (.s 58) (.s 59)), oI 61 (.load 1 false (.s 60)), oI 62 (.bslice 133062 3 1 [(.s 61)]), oI 63 (.append 133063 3 1 8 (.s 56) (.s 62)), oI 9 (.mov (.s 63))] [1, 2, 4, 9, 10, 11]
def a133r14 : AC := .reg [oI 39 (.mov (.s 11)), oI 40 (.iop .add (.s 39) (.c (.lit (.int .i64 1)))), oI 11 (.mov (.s 40))] [1, 2, 4, 9, 10, 11]
def a133L13 : AC := .seq (.seq a133r13 (.cond (.s 38) (.skip) (.exit 0))) (.seq (.block 1 (.seq (.seq a133r15 (.cond (.s 51) (.seq a133r16 a133r17) (.skip))) a133r18)) a133r14)
def a133r19 : AC := .reg [oI 64 (.mov (.s 10)), oI 65 (.not (.s 64))] [1, 2, 4, 9, 65]
def a133r20 : AC := .reg [oI 66 (.mov (.s 9)), oI 67 (.mov (.s 1)), oI 68 (.bslice 133068 3 1 [(.s 67)]), oI 69 (.append 133069 3 1 8 (.s 66) (.s 68)), oI 9 (.mov (.s 69))] [2, 4, 9]
def a133r21 : AC := .reg [oI 70 (.faddr 0 (.s 2)), oI 71 (.load 1 false (.s 70)), oI 72 (.faddr 1 (.s 2)), oI 73 (.load 1 false (.s 72)), oI 74 (.mov (.s 9)), oI 75 (.build [(.lit (.int .i64 0)), (.lit (.int .i64 0)), (.nils 1)] [(0, 1, (.s 71)), (1, 1, (.s 73)), (2, 1, (.s 74))]), oN (.store 3 (.s 4) (.s 75)), oI 5 (.mov (.c (.lit (.int .i64 0))))] [4, 5]
def a133 : AC := .seq a133r0 (.seq a133r1 (.seq a133r2 (.seq (.seq a133r3 (.cond (.s 21) (.seq a133r4 (.ret)) (.skip))) (.seq a133r5 (.seq (.seq a133r6 (.cond (.s 27) (.seq a133r7 (.ret)) (.skip))) (.seq (.seq a133r8 (.cond (.s 32) (.seq a133r9 (.ret)) (.skip))) (.seq a133r10 (.seq a133r11 (.seq (.seq a133r12 (.block 0 (.loop a133L13))) (.seq (.seq a133r19 (.cond (.s 65) a133r20 (.skip))) (.seq a133r21 (.ret))))))))))))
def a133R : List RD := [.cell 4 3 true, .tmp 5]
def a132r0 : AC := .reg [oI 2 (.box 132002 49 3 (.s 0)), oI 4 (.alloc 132004 49 [(.lit (.int .i64 0)), (.lit (.int .i64 0)), (.nils 1)]), oI 5 (.mov (.c (.lit (.int .i64 0))))] [1, 2, 4]
def a132r1 : AC := .reg [oI 10 (.load 3 true (.s 2)), oI 11 (.callv (.c (.fn 53 [])) [(.s 10)]), oI 6 (.mov (.s 11))] [1, 2, 4, 6]
def a132r2 : AC := .reg [oI 12 (.mov (.s 6)), oI 13 (.not (.s 12))] [1, 2, 4, 13]
def a132r3 : AC := .reg [oI 14 (.build [(.lit (.int .i64 0)), (.lit (.int .i64 0)), (.nils 1)] []), oN (.store 3 (.s 4) (.s 14)), oI 5 (.mov (.c (.lit (.int .i64 1))))] [4, 5]
def a132r4 : AC := .reg [oI 15 (.faddr 2 (.s 2)), oI 16 (.load 1 false (.s 15)), oI 17 (.mov (.s 1)), oI 18 (.callv (.c (.fn 99 [])) [(.s 16), (.s 17)]), oI 7 (.mov (.s 18))] [1, 2, 4, 7]
def a132r5 : AC := .reg [oI 19 (.mov (.s 7)), oI 20 (.not (.s 19))] [1, 2, 4, 20]
def a132r6 : AC := .reg [oI 21 (.build [(.lit (.int .i64 0)), (.lit (.int .i64 0)), (.nils 1)] []), oN (.store 3 (.s 4) (.s 21)), oI 5 (.mov (.c (.lit (.int .i64 5))))] [4, 5]
def a132r7 : AC := .reg [oI 22 (.faddr 1 (.s 2)), oI 23 (.load 1 false (.s 22)), oI 24 (.mov (.s 1)), oI 25 (.iop .eql (.s 23) (.s 24))] [1, 2, 4, 25]
def a132r8 : AC := .reg [oI 26 (.build [(.lit (.int .i64 0)), (.lit (.int .i64 0)), (.nils 1)] []), oN (.store 3 (.s 4) (.s 26)), oI 5 (.mov (.c (.lit (.int .i64 8))))] [4, 5]
def a132r9 : AC := .reg [oI 8 (.mov (.c (.nils 1)))] [1, 2, 4, 8]
def a132r10 : AC := .reg [oI 9 (.mov (.c (.lit (.int .i64 0))))] [1, 2, 4, 8, 9]
def a132r11 : AC := .reg [oI 27 (.mov (.s 9)), oI 28 (.faddr 2 (.s 2)), oI 29 (.load 1 false (.s 28)), oI 30 (.len (.s 29)), oI 31 (.iop .lss (.s 27) (.s 30))] [1, 2, 4, 8, 9, 31]
def a132r13 : AC := .reg [oI 34 (.faddr 2 (.s 2)), oI 35 (.load 1 false (.s 34)), oI 36 (.mov (.s 9)), oI 37 (.iaddr 1 (.s 35) (.s 36)), oI 38 (.load 1 false (.s 37)), oI 39 (.mov (.s 1)), oI 40 (.iop .neq (.s 38) (.s 39))] [1, 2, 4, 8, 9, 40]
def a132r14 : AC := .reg [oI 41 (.mov (.s 8)), oI 42 (.faddr 2 (.s 2)), oI 43 (.load 1 false (.s 42)), oI 44 (.mov (.s 9)), oI 45 (.iaddr 1 (.s 43) (.s 44)), oI 46 (.load 1 false (.s 45)), oI 47 (.bslice 132047 3 1 [(.s 46)]), oI 48 (.append 132048 3 1 8 (.s 41) (.s 47)), oI 8 (.mov (.s 48))] [1, 2, 4, 8, 9]
def a132r12 : AC := .reg [oI 32 (.mov (.s 9)), oI 33 (.iop .add (.s 32) (.c (.lit (.int .i64 1)))), oI 9 (.mov (.s 33))] [1, 2, 4, 8, 9]
def a132L11 : AC := .seq (.seq a132r11 (.cond (.s 31) (.skip) (.exit 0))) (.seq (.block 1 (.seq a132r13 (.cond (.s 40) a132r14 (.skip)))) a132r12)
def a132r15 : AC := .reg [oI 49 (.faddr 0 (.s 2)), oI 50 (.load 1 false (.s 49)), oI 51 (.faddr 1 (.s 2)), oI 52 (.load 1 false (.s 51)), oI 53 (.mov (.s 8)), oI 54 (.build [(.lit (.int .i64 0)), (.lit (.int .i64 0)), (.nils 1)] [(0, 1, (.s 50)), (1, 1, (.s 52)), (2, 1, (.s 53))]), oN (.store 3 (.s 4) (.s 54)), oI 5 (.mov (.c (.lit (.int .i64 0))))] [4, 5]
def a132 : AC := .seq a132r0 (.seq a132r1 (.seq (.seq a132r2 (.cond (.s 13) (.seq a132r3 (.ret)) (.skip))) (.seq a132r4 (.seq (.seq a132r5 (.cond (.s 20) (.seq a132r6 (.ret)) (.skip))) (.seq (.seq a132r7 (.cond (.s 25) (.seq a132r8 (.ret)) (.skip))) (.seq a132r9 (.seq (.seq a132r10 (.block 0 (.loop a132L11))) (.seq a132r15 (.ret)))))))))
def a132R : List RD := [.cell 4 3 true, .tmp 5]
def a25r0 : AC := .reg [oI 2 (.box 25002 49 3 (.s 0)), oI 3 (.box 25003 49 3 (.s 1)), oI 4 (.mov (.c (.lit (.bool false))))] [2, 3]
def a25r1 : AC := .reg [oI 6 (.faddr 0 (.s 2)), oI 7 (.load 1 false (.s 6)), oI 8 (.faddr 0 (.s 3)), oI 9 (.load 1 false (.s 8)), oI 10 (.iop .neq (.s 7) (.s 9)), oI 11 (.mov (.s 10)), oG 12 11 false (.faddr 1 (.s 2)), oG 13 11 false (.load 1 false (.s 12)), oG 14 11 false (.faddr 1 (.s 3)), oG 15 11 false (.load 1 false (.s 14)), oG 16 11 false (.iop .neq (.s 13) (.s 15)), oI 17 (.pick (.s 11) (.c (.lit (.bool true))) (.s 16)), oI 18 (.mov (.s 17)), oG 19 18 false (.faddr 2 (.s 2)), oG 20 18 false (.load 1 false (.s 19)), oG 21 18 false (.len (.s 20)), oG 22 18 false (.faddr 2 (.s 3)), oG 23 18 false (.load 1 false (.s 22)), oG 24 18 false (.len (.s 23)), oG 25 18 false (.iop .neq (.s 21) (.s 24)), oI 26 (.pick (.s 18) (.c (.lit (.bool true))) (.s 25))] [2, 3, 26]
def a25r2 : AC := .reg [oI 4 (.mov (.c (.lit (.bool false))))] [4]
def a25r3 : AC := .reg [oI 5 (.mov (.c (.lit (.int .i64 0))))] [2, 3, 5]
def a25r4 : AC := .reg [oI 27 (.mov (.s 5)), oI 28 (.faddr 2 (.s 2)), oI 29 (.load 1 false (.s 28)), oI 30 (.len (.s 29)), oI 31 (.iop .lss (.s 27) (.s 30))] [2, 3, 5, 31]
def a25r6 : AC := .draw [] (.take 0 (oI 34 (.faddr 2 (.s 2))) <| .take 1 (oI 35 (.load 1 false (.s 34))) <| .take 2 (oI 36 (.mov (.s 5))) <| .take 3 (oI 37 (.iaddr 1 (.s 35) (.s 36))) <| .take 4 (oI 38 (.load 1 false (.s 37))) <| .take 5 (oI 39 (.faddr 2 (.s 3))) <| .take 6 (oI 40 (.load 1 false (.s 39))) <| .take 7 (oI 41 (.mov (.s 5))) <| .take 8 (oI 42 (.iaddr 1 (.s 40) (.s 41))) <| .take 9 (oI 43 (.load 1 false (.s 42))) <| .take 10 (oI 44 (.iop .neq (.s 38) (.s 43))) <| .done) [2, 3, 5, 44]
def a25r7 : AC := .reg [oI 4 (.mov (.c (.lit (.bool false))))] [4]
def a25r5 : AC := .reg [oI 32 (.mov (.s 5)), oI 33 (.iop .add (.s 32) (.c (.lit (.int .i64 1)))), oI 5 (.mov (.s 33))] [2, 3, 5]
def a25L4 : AC := .seq (.seq a25r4 (.cond (.s 31) (.skip) (.exit 0))) (.seq (.block 1 (.seq a25r6 (.cond (.s 44) (.seq a25r7 (.ret)) (.skip)))) a25r5)
def a25r8 : AC := .reg [oI 4 (.mov (.c (.lit (.bool true))))] [4]
def a25 : AC := .seq a25r0 (.seq (.seq a25r1 (.cond (.s 26) (.seq a25r2 (.ret)) (.skip))) (.seq (.seq a25r3 (.block 0 (.loop a25L4))) (.seq a25r8 (.ret))))
def a25R : List RD := [.tmp 4]
def a24r0 : AC := .reg [oI 0 (.mov (.c (.lit (.bool false))))] []
def a24r1 : AC := .reg [oI 10 (.callv (.c (.fn 70 [])) [(.c (.lit (.int .i64 3))), (.c (.lit (.int .i64 7)))]), oI 9 (.mov (.s 10)), oI 11 (.extract 0 (.s 9)), oI 12 (.extract 1 (.s 9)), oI 1 (.alloc 24001 49 [(.lit (.int .i64 0)), (.lit (.int .i64 0)), (.nils 1)]), oN (.store 3 (.s 1) (.s 11)), oI 2 (.mov (.s 12))] [1, 2]
def a24r2 : AC := .reg [oI 14 (.load 3 true (.s 1)), oI 15 (.callv (.c (.fn 71 [])) [(.s 14), (.c (.lit (.int .i64 5)))]), oI 13 (.mov (.s 15)), oI 16 (.extract 0 (.s 13)), oI 17 (.extract 1 (.s 13)), oI 3 (.alloc 24003 49 [(.lit (.int .i64 0)), (.lit (.int .i64 0)), (.nils 1)]), oN (.store 3 (.s 3) (.s 16)), oI 4 (.mov (.s 17))] [2, 3, 4]
def a24r3 : AC := .reg [oI 19 (.load 3 true (.s 3)), oI 20 (.callv (.c (.fn 72 [])) [(.s 19), (.c (.lit (.int .i64 7)))]), oI 18 (.mov (.s 20)), oI 21 (.extract 0 (.s 18)), oI 22 (.extract 1 (.s 18)), oI 5 (.alloc 24005 49 [(.lit (.int .i64 0)), (.lit (.int .i64 0)), (.nils 1)]), oN (.store 3 (.s 5) (.s 21)), oI 6 (.mov (.s 22))] [2, 3, 4, 6]
def a24r4 : AC := .reg [oI 24 (.load 3 true (.s 3)), oI 25 (.callv (.c (.fn 72 [])) [(.s 24), (.c (.lit (.int .i64 5)))]), oI 23 (.mov (.s 25)), oI 26 (.extract 0 (.s 23)), oI 27 (.extract 1 (.s 23)), oI 7 (.alloc 24007 49 [(.lit (.int .i64 0)), (.lit (.int .i64 0)), (.nils 1)]), oN (.store 3 (.s 7) (.s 26)), oI 8 (.mov (.s 27))] [2, 3, 4, 6, 7, 8]
def a24r5 : AC := .reg [oI 28 (.mov (.s 2)), oI 29 (.iop .eql (.s 28) (.c (.lit (.int .i64 0)))), oI 30 (.mov (.s 29)), oG 31 30 true (.mov (.s 4)), oG 32 30 true (.iop .eql (.s 31) (.c (.lit (.int .i64 0)))), oI 33 (.pick (.s 30) (.s 32) (.c (.lit (.bool false)))), oI 34 (.mov (.s 33)), oG 35 34 true (.mov (.s 6)), oG 36 34 true (.iop .eql (.s 35) (.c (.lit (.int .i64 8)))), oI 37 (.pick (.s 34) (.s 36) (.c (.lit (.bool false)))), oI 38 (.mov (.s 37)), oG 39 38 true (.mov (.s 8)), oG 40 38 true (.iop .eql (.s 39) (.c (.lit (.int .i64 0)))), oI 41 (.pick (.s 38) (.s 40) (.c (.lit (.bool false)))), oI 42 (.mov (.s 41)), oG 43 42 true (.faddr 2 (.s 3)), oG 44 42 true (.load 1 false (.s 43)), oG 45 42 true (.len (.s 44)), oG 46 42 true (.iop .eql (.s 45) (.c (.lit (.int .i64 2)))), oI 47 (.pick (.s 42) (.s 46) (.c (.lit (.bool false)))), oI 48 (.mov (.s 47)), oG 49 48 true (.faddr 2 (.s 3)), oG 50 48 true (.load 1 false (.s 49)), oG 51 48 true (.iaddr 1 (.s 50) (.c (.lit (.int .i64 0)))), oG 52 48 true (.load 1 false (.s 51)), oG 53 48 true (.iop .eql (.s 52) (.c (.lit (.int .i64 5)))), oI 54 (.pick (.s 48) (.s 53) (.c (.lit (.bool false)))), oI 55 (.mov (.s 54)), oG 56 55 true (.faddr 2 (.s 7)), oG 57 55 true (.load 1 false (.s 56)), oG 58 55 true (.len (.s 57)), oG 59 55 true (.iop .eql (.s 58) (.c (.lit (.int .i64 1)))), oI 60 (.pick (.s 55) (.s 59) (.c (.lit (.bool false)))), oI 61 (.mov (.s 60)), oG 62 61 true (.load 3 true (.s 3)), oG 63 61 true (.callv (.c (.fn 73 [])) [(.s 62), (.c (.lit (.int .i64 7)))]), oI 64 (.pick (.s 61) (.s 63) (.c (.lit (.bool false)))), oI 0 (.mov (.s 64))] [0]
def a24 : AC := .seq a24r0 (.seq a24r1 (.seq a24r2 (.seq a24r3 (.seq a24r4 (.seq a24r5 (.ret))))))
def a24R : List RD := [.tmp 0]
def a57r0 : AC := .reg [oI 4 (.mov (.c (.lit (.bool false))))] [0, 1]
def a57r1 : AC := .reg [oI 6 (.mov (.s 0)), oI 7 (.len (.s 6)), oI 8 (.mov (.s 1)), oI 9 (.len (.s 8)), oI 10 (.iop .neq (.s 7) (.s 9))] [0, 1, 10]
def a57r2 : AC := .reg [oI 4 (.mov (.c (.lit (.bool false))))] [4]
def a57r3 : AC := .reg [oI 11 (.mov (.s 0)), oI 12 (.len (.s 11)), oI 13 (.mov (.c (.lit (.int .i64 0))))] [0, 1, 12, 13]
def a57r4 : AC := .reg [oI 14 (.iop .lss (.s 13) (.s 12))] [0, 1, 12, 13, 14]
def a57r5 : AC := .reg [oI 15 (.mov (.s 13)), oI 5 (.mov (.s 15))] [0, 1, 5, 12, 13]
def a57r6 : AC := .draw [] (.take 0 (oI 16 (.mov (.s 0))) <| .take 1 (oI 17 (.mov (.s 5))) <| .take 2 (oI 18 (.iaddr 1 (.s 16) (.s 17))) <| .take 3 (oI 19 (.load 1 false (.s 18))) <| .take 4 (oI 20 (.mov (.s 1))) <| .take 5 (oI 21 (.mov (.s 5))) <| .take 6 (oI 22 (.iaddr 1 (.s 20) (.s 21))) <| .take 7 (oI 23 (.load 1 false (.s 22))) <| .take 8 (oI 24 (.iop .neq (.s 19) (.s 23))) <| .done) [0, 1, 12, 13, 24]
def a57r7 : AC := .reg [oI 4 (.mov (.c (.lit (.bool false))))] [4]
def a57r8 : AC := .reg [oI 25 (.iop .add (.s 13) (.c (.lit (.int .i64 1)))), oI 13 (.mov (.s 25))] [0, 1, 12, 13]
def a57L4 : AC := .seq a57r4 (.seq (.cond (.s 14) (.skip) (.exit 0)) (.seq (.block 1 (.seq a57r5 (.seq a57r6 (.cond (.s 24) (.seq a57r7 (.ret)) (.skip))))) a57r8))
def a57r9 : AC := .reg [oI 4 (.mov (.c (.lit (.bool true))))] [4]
def a57 : AC := .seq a57r0 (.seq (.seq a57r1 (.cond (.s 10) (.seq a57r2 (.ret)) (.skip))) (.seq (.seq a57r3 (.block 0 (.loop a57L4))) (.seq a57r9 (.ret))))
def a57R : List RD := [.tmp 4]
def a32r0 : AC := .reg [oI 1 (.box 32001 60 2 (.s 0)), oI 2 (.mov (.c (.lit (.bool false))))] [1]
def a32r1 : AC := .reg [oI 6 (.faddr 0 (.s 1)), oI 7 (.load 1 false (.s 6)), oI 3 (.mov (.s 7))] [1, 3]
def a32r2 : AC := .reg [oI 8 (.faddr 1 (.s 1)), oI 9 (.load 1 false (.s 8)), oI 10 (.len (.s 9)), oI 11 (.mov (.c (.lit (.int .i64 0))))] [1, 3, 9, 10, 11]
def a32r3 : AC := .reg [oI 12 (.iop .lss (.s 11) (.s 10))] [1, 3, 9, 10, 11, 12]
def a32r4 : AC := .reg [oI 13 (.iaddr 4 (.s 9) (.s 11)), oI 14 (.load 4 true (.s 13)), oI 5 (.alloc 32005 90 [(.lit (.int .i64 0)), (.lit (.int .i64 0)), (.lit (.int .i64 0)), (.lit (.string ⟨#[]⟩))]), oN (.store 4 (.s 5) (.s 14))] [1, 3, 5, 9, 10, 11]
def a32r5 : AC := .reg [oI 15 (.faddr 0 (.s 5)), oI 16 (.load 1 false (.s 15)), oI 17 (.mov (.s 3)), oI 18 (.iop .leq (.s 16) (.s 17)), oI 19 (.mov (.s 18)), oG 20 19 false (.faddr 0 (.s 5)), oG 21 19 false (.load 1 false (.s 20)), oG 22 19 false (.iop .gtr (.s 21) (.c (.lit (.int .i64 1073741824)))), oI 23 (.pick (.s 19) (.c (.lit (.bool true))) (.s 22))] [1, 5, 9, 10, 11, 23]
def a32r6 : AC := .reg [oI 2 (.mov (.c (.lit (.bool false))))] [2]
def a32r7 : AC := .reg [oI 24 (.faddr 0 (.s 5)), oI 25 (.load 1 false (.s 24)), oI 3 (.mov (.s 25))] [1, 3, 9, 10, 11]
def a32r8 : AC := .reg [oI 26 (.iop .add (.s 11) (.c (.lit (.int .i64 1)))), oI 11 (.mov (.s 26))] [1, 3, 9, 10, 11]
def a32L3 : AC := .seq a32r3 (.seq (.cond (.s 12) (.skip) (.exit 0)) (.seq (.block 1 (.seq a32r4 (.seq (.seq a32r5 (.cond (.s 23) (.seq a32r6 (.ret)) (.skip))) a32r7))) a32r8))
def a32r9 : AC := .reg [oI 27 (.faddr 0 (.s 1)), oI 28 (.load 1 false (.s 27)), oI 29 (.iop .geq (.s 28) (.c (.lit (.int .i64 0)))), oI 30 (.mov (.s 29)), oG 31 30 true (.faddr 0 (.s 1)), oG 32 30 true (.load 1 false (.s 31)), oG 33 30 true (.iop .leq (.s 32) (.c (.lit (.int .i64 1073741824)))), oI 34 (.pick (.s 30) (.s 33) (.c (.lit (.bool false)))), oI 35 (.mov (.s 34)), oG 36 35 true (.faddr 1 (.s 1)), oG 37 35 true (.load 1 false (.s 36)), oG 38 35 true (.len (.s 37)), oG 39 35 true (.iop .leq (.s 38) (.c (.lit (.int .i64 8)))), oI 40 (.pick (.s 35) (.s 39) (.c (.lit (.bool false)))), oI 2 (.mov (.s 40))] [2]
def a32 : AC := .seq a32r0 (.seq a32r1 (.seq (.seq a32r2 (.block 0 (.loop a32L3))) (.seq a32r9 (.ret))))
def a32R : List RD := [.tmp 2]
def a87r0 : AC := .reg [oI 4 (.mov (.c (.lit (.int .i64 0)))), oI 5 (.mov (.c (.lit (.bool false))))] [0, 1]
def a87r1 : AC := .reg [oI 6 (.mov (.s 0)), oI 7 (.mov (.s 1)), oI 8 (.callv (.c (.fn 111 [])) [(.s 6), (.s 7), (.c (.fn 112 []))]), oI 9 (.extract 0 (.s 8)), oI 10 (.extract 1 (.s 8)), oI 4 (.mov (.s 9)), oI 5 (.mov (.s 10))] [4, 5]
def a87 : AC := .seq a87r0 (.seq a87r1 (.ret))
def a87R : List RD := [.tmp 4, .tmp 5]
def a112r0 : AC := .reg [oI 2 (.box 112002 90 4 (.s 0)), oI 4 (.mov (.c (.lit (.int .i64 0))))] [1, 2]
def a112r1 : AC := .reg [oI 5 (.faddr 0 (.s 2)), oI 6 (.load 1 false (.s 5)), oI 7 (.mov (.s 1)), oI 8 (.callv (.c (.fn 86 [])) [(.s 6), (.s 7)]), oI 4 (.mov (.s 8))] [4]
def a112 : AC := .seq a112r0 (.seq a112r1 (.ret))
def a112R : List RD := [.tmp 4]
def a43r0 : AC := .reg [oI 2 (.box 43002 60 2 (.s 0)), oI 4 (.alloc 43004 39 [(.lit (.int .i64 0)), (.lit (.int .i64 0)), (.lit (.string ⟨#[]⟩))]), oI 5 (.mov (.c (.lit (.bool false)))), oI 6 (.mov (.c (.lit (.int .i64 0))))] [1, 2, 4]
def a43r1 : AC := .reg [oI 10 (.load 2 true (.s 2)), oI 11 (.callv (.c (.fn 32 [])) [(.s 10)]), oI 12 (.not (.s 11)), oI 13 (.mov (.s 12)), oG 14 13 false (.mov (.s 1)), oG 15 13 false (.iop .lss (.s 14) (.c (.lit (.int .i64 1)))), oI 16 (.pick (.s 13) (.c (.lit (.bool true))) (.s 15)), oI 17 (.mov (.s 16)), oG 18 17 false (.mov (.s 1)), oG 19 17 false (.iop .gtr (.s 18) (.c (.lit (.int .i64 1073741824)))), oI 20 (.pick (.s 17) (.c (.lit (.bool true))) (.s 19)), oI 9 (.mov (.s 20))] [1, 2, 4, 9]
def a43r2 : AC := .reg [oI 21 (.build [(.lit (.int .i64 0)), (.lit (.int .i64 0)), (.lit (.string ⟨#[]⟩))] []), oN (.store 3 (.s 4) (.s 21)), oI 5 (.mov (.c (.lit (.bool false)))), oI 6 (.mov (.c (.lit (.int .i64 1))))] [4, 5, 6]
def a43r3 : AC := .reg [oI 23 (.mov (.s 1)), oI 24 (.faddr 0 (.s 2)), oI 25 (.load 1 false (.s 24)), oI 26 (.iop .leq (.s 23) (.s 25)), oI 22 (.mov (.s 26))] [1, 2, 4, 22]
def a43r4 : AC := .reg [oI 27 (.build [(.lit (.int .i64 0)), (.lit (.int .i64 0)), (.lit (.string ⟨#[]⟩))] []), oN (.store 3 (.s 4) (.s 27)), oI 5 (.mov (.c (.lit (.bool false)))), oI 6 (.mov (.c (.lit (.int .i64 9))))] [4, 5, 6]
def a43r5 : AC := .reg [oI 29 (.faddr 1 (.s 2)), oI 30 (.load 1 false (.s 29)), oI 31 (.mov (.s 1)), oI 32 (.callv (.c (.fn 87 [])) [(.s 30), (.s 31)]), oI 28 (.mov (.s 32)), oI 33 (.extract 0 (.s 28)), oI 34 (.extract 1 (.s 28)), oI 7 (.mov (.s 33)), oI 8 (.mov (.s 34))] [2, 4, 7, 8]
def a43r6 : AC := .reg [oI 35 (.mov (.s 8))] [2, 4, 7, 35]
def a43r7 : AC := .reg [oI 36 (.faddr 1 (.s 2)), oI 37 (.load 1 false (.s 36)), oI 38 (.mov (.s 7)), oI 39 (.iaddr 4 (.s 37) (.s 38)), oI 40 (.faddr 1 (.s 39)), oI 41 (.load 3 true (.s 40)), oN (.store 3 (.s 4) (.s 41)), oI 5 (.mov (.c (.lit (.bool true)))), oI 6 (.mov (.c (.lit (.int .i64 0))))] [4, 5, 6]
def a43r8 : AC := .reg [oI 42 (.build [(.lit (.int .i64 0)), (.lit (.int .i64 0)), (.lit (.string ⟨#[]⟩))] []), oN (.store 3 (.s 4) (.s 42)), oI 5 (.mov (.c (.lit (.bool false)))), oI 6 (.mov (.c (.lit (.int .i64 0))))] [4, 5, 6]
def a43 : AC := .seq a43r0 (.seq (.block 0 (.seq a43r1 (.cond (.s 9) (.seq a43r2 (.ret)) (.seq a43r3 (.cond (.s 22) (.seq a43r4 (.ret)) (.skip)))))) (.seq (.seq a43r5 (.seq a43r6 (.cond (.s 35) (.seq a43r7 (.ret)) (.skip)))) (.seq a43r8 (.ret))))
def a43R : List RD := [.cell 4 3 true, .tmp 5, .tmp 6]
def a45r0 : AC := .reg [oI 3 (.box 45003 60 2 (.s 0)), oI 5 (.box 45005 39 3 (.s 2)), oI 6 (.alloc 45006 60 [(.lit (.int .i64 0)), (.nils 4)]), oI 7 (.mov (.c (.lit (.int .i64 0))))] [1, 3, 5, 6]
def a45r1 : AC := .reg [oI 14 (.load 2 true (.s 3)), oI 15 (.mov (.s 1)), oI 16 (.callv (.c (.fn 43 [])) [(.s 14), (.s 15)]), oI 13 (.mov (.s 16)), oI 17 (.extract 0 (.s 13)), oI 18 (.extract 1 (.s 13)), oI 19 (.extract 2 (.s 13)), oI 8 (.alloc 45008 39 [(.lit (.int .i64 0)), (.lit (.int .i64 0)), (.lit (.string ⟨#[]⟩))]), oN (.store 3 (.s 8) (.s 17)), oI 9 (.mov (.s 18)), oI 10 (.mov (.s 19))] [1, 3, 5, 6, 9, 10]
def a45r2 : AC := .reg [oI 21 (.mov (.s 10)), oI 22 (.iop .neq (.s 21) (.c (.lit (.int .i64 0)))), oI 20 (.mov (.s 22))] [1, 3, 5, 6, 9, 10, 20]
def a45r3 : AC := .reg [oI 23 (.build [(.lit (.int .i64 0)), (.nils 4)] []), oI 24 (.mov (.s 10)), oN (.store 2 (.s 6) (.s 23)), oI 7 (.mov (.s 24))] [6, 7]
def a45r4 : AC := .reg [oI 26 (.mov (.s 9)), oI 25 (.mov (.s 26))] [1, 3, 5, 6, 25]
def a45r5 : AC := .reg [oI 27 (.build [(.lit (.int .i64 0)), (.nils 4)] []), oN (.store 2 (.s 6) (.s 27)), oI 7 (.mov (.c (.lit (.int .i64 6))))] [6, 7]
def a45r6 : AC := .reg [oI 29 (.faddr 1 (.s 3)), oI 30 (.load 1 false (.s 29)), oI 31 (.mov (.s 1)), oI 32 (.callv (.c (.fn 87 [])) [(.s 30), (.s 31)]), oI 28 (.mov (.s 32)), oI 33 (.extract 0 (.s 28)), oI 34 (.extract 1 (.s 28)), oI 11 (.mov (.s 33)), oI 12 (.mov (.s 34))] [1, 3, 5, 6, 11]
def a45r7 : AC := .draw [45003, 45042, 83005, 90040] (.take 0 (oI 35 (.faddr 1 (.s 3))) <| .take 3 (oI 38 (.mov (.s 11))) <| .take 4 (oI 39 (.mov (.s 1))) <| .take 5 (oI 40 (.load 3 true (.s 5))) <| .take 6 (oI 41 (.build [(.lit (.int .i64 0)), (.lit (.int .i64 0)), (.lit (.int .i64 0)), (.lit (.string ⟨#[]⟩))] [(0, 1, (.s 39)), (1, 3, (.s 40))])) <| .alt 1 (oI 36 (.load 1 false (.s 35))) (.alt 2 (oI 37 (.callv (.c (.fn 83 [])) [(.s 36)])) (.alt 7 (oI 42 (.bslice 45042 90 4 [(.s 41)])) ( .alt 8 (oI 43 (.callv (.c (.fn 90 [])) [(.s 37), (.s 38), (.s 42)])) ( .take 9 (oI 44 (.faddr 1 (.s 3))) <| .alt 10 (oN (.store 1 (.s 44) (.s 43))) ( .done) .done) .done) .done) (.alt 7 (oI 42 (.bslice 45042 90 4 [(.s 41)])) (.alt 2 (oI 37 (.callv (.c (.fn 83 [])) [(.s 36)])) ( .alt 8 (oI 43 (.callv (.c (.fn 90 [])) [(.s 37), (.s 38), (.s 42)])) ( .take 9 (oI 44 (.faddr 1 (.s 3))) <| .alt 10 (oN (.store 1 (.s 44) (.s 43))) ( .done) .done) .done) .done) (.done))) (.alt 7 (oI 42 (.bslice 45042 90 4 [(.s 41)])) (.alt 1 (oI 36 (.load 1 false (.s 35))) ( .alt 2 (oI 37 (.callv (.c (.fn 83 [])) [(.s 36)])) ( .alt 8 (oI 43 (.callv (.c (.fn 90 [])) [(.s 37), (.s 38), (.s 42)])) ( .take 9 (oI 44 (.faddr 1 (.s 3))) <| .alt 10 (oN (.store 1 (.s 44) (.s 43))) ( .done) .done) .done) .done) .done) (.done))) [3, 6]
def a45r8 : AC := .reg [oI 45 (.faddr 1 (.s 3)), oI 46 (.load 1 false (.s 45)), oI 47 (.len (.s 46)), oI 48 (.iop .gtr (.s 47) (.c (.lit (.int .i64 8))))] [3, 6, 48]
def a45r9 : AC := .draw [45003] (.take 0 (oI 49 (.faddr 1 (.s 3))) <| .take 5 (oI 54 (.faddr 1 (.s 3))) <| .alt 1 (oI 50 (.load 1 false (.s 49))) (.take 2 (oI 51 (.iaddr 4 (.s 50) (.c (.lit (.int .i64 0))))) <| .take 3 (oI 52 (.faddr 0 (.s 51))) <| .take 4 (oI 53 (.load 1 false (.s 52))) <| .alt 6 (oI 55 (.load 1 false (.s 54))) ( .take 7 (oI 56 (.slice 4 (.s 55) (some (.c (.lit (.int .i64 1)))) none)) <| .take 8 (oI 57 (.faddr 0 (.s 3))) <| .alt 9 (oN (.store 1 (.s 57) (.s 53))) ( .take 10 (oI 58 (.faddr 1 (.s 3))) <| .alt 11 (oN (.store 1 (.s 58) (.s 56))) ( .done) .done) .done) .done) (.alt 6 (oI 55 (.load 1 false (.s 54))) (.take 7 (oI 56 (.slice 4 (.s 55) (some (.c (.lit (.int .i64 1)))) none)) <| .alt 1 (oI 50 (.load 1 false (.s 49))) ( .take 2 (oI 51 (.iaddr 4 (.s 50) (.c (.lit (.int .i64 0))))) <| .take 3 (oI 52 (.faddr 0 (.s 51))) <| .take 4 (oI 53 (.load 1 false (.s 52))) <| .take 8 (oI 57 (.faddr 0 (.s 3))) <| .alt 9 (oN (.store 1 (.s 57) (.s 53))) ( .take 10 (oI 58 (.faddr 1 (.s 3))) <| .alt 11 (oN (.store 1 (.s 58) (.s 56))) ( .done) .done) .done) .done) (.done))) [3, 6]
def a45r10 : AC := .reg [oI 59 (.load 2 true (.s 3)), oN (.store 2 (.s 6) (.s 59)), oI 7 (.mov (.c (.lit (.int .i64 0))))] [6, 7]
def a45 : AC := .seq a45r0 (.seq a45r1 (.seq (.block 0 (.seq a45r2 (.cond (.s 20) (.seq a45r3 (.ret)) (.seq a45r4 (.cond (.s 25) (.seq a45r5 (.ret)) (.skip)))))) (.seq a45r6 (.seq a45r7 (.seq (.seq a45r8 (.cond (.s 48) a45r9 (.skip))) (.seq a45r10 (.ret)))))))
def a45R : List RD := [.cell 6 2 true, .tmp 7]
def a27r0 : AC := .reg [oI 2 (.box 27002 60 2 (.s 0)), oI 3 (.box 27003 60 2 (.s 1)), oI 4 (.mov (.c (.lit (.bool false))))] [2, 3]
def a27r1 : AC := .reg [oI 6 (.faddr 0 (.s 2)), oI 7 (.load 1 false (.s 6)), oI 8 (.faddr 0 (.s 3)), oI 9 (.load 1 false (.s 8)), oI 10 (.iop .neq (.s 7) (.s 9)), oI 11 (.mov (.s 10)), oG 12 11 false (.faddr 1 (.s 2)), oG 13 11 false (.load 1 false (.s 12)), oG 14 11 false (.len (.s 13)), oG 15 11 false (.faddr 1 (.s 3)), oG 16 11 false (.load 1 false (.s 15)), oG 17 11 false (.len (.s 16)), oG 18 11 false (.iop .neq (.s 14) (.s 17)), oI 19 (.pick (.s 11) (.c (.lit (.bool true))) (.s 18))] [2, 3, 19]
def a27r2 : AC := .reg [oI 4 (.mov (.c (.lit (.bool false))))] [4]
def a27r3 : AC := .reg [oI 5 (.mov (.c (.lit (.int .i64 0))))] [2, 3, 5]
def a27r4 : AC := .reg [oI 20 (.mov (.s 5)), oI 21 (.faddr 1 (.s 2)), oI 22 (.load 1 false (.s 21)), oI 23 (.len (.s 22)), oI 24 (.iop .lss (.s 20) (.s 23))] [2, 3, 5, 24]
def a27r6 : AC := .draw [] (.take 0 (oI 27 (.faddr 1 (.s 2))) <| .take 1 (oI 28 (.load 1 false (.s 27))) <| .take 2 (oI 29 (.mov (.s 5))) <| .take 3 (oI 30 (.iaddr 4 (.s 28) (.s 29))) <| .take 4 (oI 31 (.load 4 true (.s 30))) <| .take 5 (oI 32 (.faddr 1 (.s 3))) <| .take 6 (oI 33 (.load 1 false (.s 32))) <| .take 7 (oI 34 (.mov (.s 5))) <| .take 8 (oI 35 (.iaddr 4 (.s 33) (.s 34))) <| .take 9 (oI 36 (.load 4 true (.s 35))) <| .take 10 (oI 37 (.seql true [1, 1, 1, 2] (.s 31) (.s 36))) <| .done) [2, 3, 5, 37]
def a27r7 : AC := .reg [oI 4 (.mov (.c (.lit (.bool false))))] [4]
def a27r5 : AC := .reg [oI 25 (.mov (.s 5)), oI 26 (.iop .add (.s 25) (.c (.lit (.int .i64 1)))), oI 5 (.mov (.s 26))] [2, 3, 5]
def a27L4 : AC := .seq (.seq a27r4 (.cond (.s 24) (.skip) (.exit 0))) (.seq (.block 1 (.seq a27r6 (.cond (.s 37) (.seq a27r7 (.ret)) (.skip)))) a27r5)
def a27r8 : AC := .reg [oI 4 (.mov (.c (.lit (.bool true))))] [4]
def a27 : AC := .seq a27r0 (.seq (.seq a27r1 (.cond (.s 19) (.seq a27r2 (.ret)) (.skip))) (.seq (.seq a27r3 (.block 0 (.loop a27L4))) (.seq a27r8 (.ret))))
def a27R : List RD := [.tmp 4]
def a55r0 : AC := .reg [oI 1 (.box 55001 60 2 (.s 0)), oI 2 (.mov (.c (.lit (.bool false))))] [1]
def a55r1 : AC := .reg [oI 5 (.faddr 0 (.s 1)), oI 6 (.load 1 false (.s 5)), oI 7 (.iop .lss (.s 6) (.c (.lit (.int .i64 0)))), oI 8 (.mov (.s 7)), oG 9 8 false (.faddr 0 (.s 1)), oG 10 8 false (.load 1 false (.s 9)), oG 11 8 false (.iop .gtr (.s 10) (.c (.lit (.int .i64 1073741824)))), oI 12 (.pick (.s 8) (.c (.lit (.bool true))) (.s 11)), oI 13 (.mov (.s 12)), oG 14 13 false (.faddr 1 (.s 1)), oG 15 13 false (.load 1 false (.s 14)), oG 16 13 false (.len (.s 15)), oG 17 13 false (.iop .gtr (.s 16) (.c (.lit (.int .i64 8)))), oI 18 (.pick (.s 13) (.c (.lit (.bool true))) (.s 17))] [1, 18]
def a55r2 : AC := .reg [oI 2 (.mov (.c (.lit (.bool false))))] [2]
def a55r3 : AC := .reg [oI 19 (.faddr 0 (.s 1)), oI 20 (.load 1 false (.s 19)), oI 3 (.mov (.s 20))] [1, 3]
def a55r4 : AC := .reg [oI 4 (.mov (.c (.lit (.int .i64 0))))] [1, 3, 4]
def a55r5 : AC := .reg [oI 21 (.mov (.s 4)), oI 22 (.faddr 1 (.s 1)), oI 23 (.load 1 false (.s 22)), oI 24 (.len (.s 23)), oI 25 (.iop .lss (.s 21) (.s 24))] [1, 3, 4, 25]
def a55r7 : AC := .reg [oI 28 (.faddr 1 (.s 1)), oI 29 (.load 1 false (.s 28)), oI 30 (.mov (.s 4)), oI 31 (.iaddr 4 (.s 29) (.s 30)), oI 32 (.faddr 0 (.s 31)), oI 33 (.load 1 false (.s 32)), oI 34 (.mov (.s 3)), oI 35 (.iop .leq (.s 33) (.s 34)), oI 36 (.mov (.s 35)), oG 37 36 false (.faddr 1 (.s 1)), oG 38 36 false (.load 1 false (.s 37)), oG 39 36 false (.mov (.s 4)), oG 40 36 false (.iaddr 4 (.s 38) (.s 39)), oG 41 36 false (.faddr 0 (.s 40)), oG 42 36 false (.load 1 false (.s 41)), oG 43 36 false (.iop .gtr (.s 42) (.c (.lit (.int .i64 1073741824)))), oI 44 (.pick (.s 36) (.c (.lit (.bool true))) (.s 43))] [1, 4, 44]
def a55r8 : AC := .reg [oI 2 (.mov (.c (.lit (.bool false))))] [2]
def a55r9 : AC := .reg [oI 45 (.faddr 1 (.s 1)), oI 46 (.load 1 false (.s 45)), oI 47 (.mov (.s 4)), oI 48 (.iaddr 4 (.s 46) (.s 47)), oI 49 (.faddr 0 (.s 48)), oI 50 (.load 1 false (.s 49)), oI 3 (.mov (.s 50))] [1, 3, 4]
def a55r6 : AC := .reg [oI 26 (.mov (.s 4)), oI 27 (.iop .add (.s 26) (.c (.lit (.int .i64 1)))), oI 4 (.mov (.s 27))] [1, 3, 4]
def a55L5 : AC := .seq (.seq a55r5 (.cond (.s 25) (.skip) (.exit 0))) (.seq (.block 1 (.seq (.seq a55r7 (.cond (.s 44) (.seq a55r8 (.ret)) (.skip))) a55r9)) a55r6)
def a55r10 : AC := .reg [oI 2 (.mov (.c (.lit (.bool true))))] [2]
def a55 : AC := .seq a55r0 (.seq (.seq a55r1 (.cond (.s 18) (.seq a55r2 (.ret)) (.skip))) (.seq a55r3 (.seq (.seq a55r4 (.block 0 (.loop a55L5))) (.seq a55r10 (.ret)))))
def a55R : List RD := [.tmp 2]
def a49r0 : AC := .reg [oI 2 (.box 49002 60 2 (.s 0)), oI 4 (.alloc 49004 39 [(.lit (.int .i64 0)), (.lit (.int .i64 0)), (.lit (.string ⟨#[]⟩))]), oI 5 (.mov (.c (.lit (.bool false)))), oI 6 (.mov (.c (.lit (.int .i64 0))))] [1, 2, 4]
def a49r1 : AC := .reg [oI 9 (.load 2 true (.s 2)), oI 10 (.callv (.c (.fn 55 [])) [(.s 9)]), oI 7 (.mov (.s 10))] [1, 2, 4, 7]
def a49r2 : AC := .reg [oI 11 (.mov (.s 7)), oI 12 (.not (.s 11)), oI 13 (.mov (.s 12)), oG 14 13 false (.mov (.s 1)), oG 15 13 false (.iop .lss (.s 14) (.c (.lit (.int .i64 1)))), oI 16 (.pick (.s 13) (.c (.lit (.bool true))) (.s 15)), oI 17 (.mov (.s 16)), oG 18 17 false (.mov (.s 1)), oG 19 17 false (.iop .gtr (.s 18) (.c (.lit (.int .i64 1073741824)))), oI 20 (.pick (.s 17) (.c (.lit (.bool true))) (.s 19))] [1, 2, 4, 20]
def a49r3 : AC := .reg [oI 21 (.build [(.lit (.int .i64 0)), (.lit (.int .i64 0)), (.lit (.string ⟨#[]⟩))] []), oN (.store 3 (.s 4) (.s 21)), oI 5 (.mov (.c (.lit (.bool false)))), oI 6 (.mov (.c (.lit (.int .i64 1))))] [4, 5, 6]
def a49r4 : AC := .reg [oI 22 (.mov (.s 1)), oI 23 (.faddr 0 (.s 2)), oI 24 (.load 1 false (.s 23)), oI 25 (.iop .leq (.s 22) (.s 24))] [1, 2, 4, 25]
def a49r5 : AC := .reg [oI 26 (.build [(.lit (.int .i64 0)), (.lit (.int .i64 0)), (.lit (.string ⟨#[]⟩))] []), oN (.store 3 (.s 4) (.s 26)), oI 5 (.mov (.c (.lit (.bool false)))), oI 6 (.mov (.c (.lit (.int .i64 9))))] [4, 5, 6]
def a49r6 : AC := .reg [oI 8 (.mov (.c (.lit (.int .i64 0))))] [1, 2, 4, 8]
def a49r7 : AC := .reg [oI 27 (.mov (.s 8)), oI 28 (.faddr 1 (.s 2)), oI 29 (.load 1 false (.s 28)), oI 30 (.len (.s 29)), oI 31 (.iop .lss (.s 27) (.s 30))] [1, 2, 4, 8, 31]
def a49r9 : AC := .reg [oI 34 (.faddr 1 (.s 2)), oI 35 (.load 1 false (.s 34)), oI 36 (.mov (.s 8)), oI 37 (.iaddr 4 (.s 35) (.s 36)), oI 38 (.faddr 0 (.s 37)), oI 39 (.load 1 false (.s 38)), oI 40 (.mov (.s 1)), oI 41 (.iop .eql (.s 39) (.s 40))] [1, 2, 4, 8, 41]
def a49r10 : AC := .reg [oI 42 (.faddr 1 (.s 2)), oI 43 (.load 1 false (.s 42)), oI 44 (.mov (.s 8)), oI 45 (.iaddr 4 (.s 43) (.s 44)), oI 46 (.faddr 1 (.s 45)), oI 47 (.load 3 true (.s 46)), oN (.store 3 (.s 4) (.s 47)), oI 5 (.mov (.c (.lit (.bool true)))), oI 6 (.mov (.c (.lit (.int .i64 0))))] [4, 5, 6]
def a49r8 : AC := .reg [oI 32 (.mov (.s 8)), oI 33 (.iop .add (.s 32) (.c (.lit (.int .i64 1)))), oI 8 (.mov (.s 33))] [1, 2, 4, 8]
def a49L7 : AC := .seq (.seq a49r7 (.cond (.s 31) (.skip) (.exit 0))) (.seq (.block 1 (.seq a49r9 (.cond (.s 41) (.seq a49r10 (.ret)) (.skip)))) a49r8)
def a49r11 : AC := .reg [oI 48 (.build [(.lit (.int .i64 0)), (.lit (.int .i64 0)), (.lit (.string ⟨#[]⟩))] []), oN (.store 3 (.s 4) (.s 48)), oI 5 (.mov (.c (.lit (.bool false)))), oI 6 (.mov (.c (.lit (.int .i64 0))))] [4, 5, 6]
def a49 : AC := .seq a49r0 (.seq a49r1 (.seq (.seq a49r2 (.cond (.s 20) (.seq a49r3 (.ret)) (.skip))) (.seq (.seq a49r4 (.cond (.s 25) (.seq a49r5 (.ret)) (.skip))) (.seq (.seq a49r6 (.block 0 (.loop a49L7))) (.seq a49r11 (.ret))))))
def a49R : List RD := [.cell 4 3 true, .tmp 5, .tmp 6]
def a51r0 : AC := .reg [oI 3 (.box 51003 60 2 (.s 0)), oI 5 (.box 51005 39 3 (.s 2)), oI 6 (.alloc 51006 60 [(.lit (.int .i64 0)), (.nils 4)]), oI 7 (.mov (.c (.lit (.int .i64 0))))] [1, 3, 5, 6]
def a51r1 : AC := .reg [oI 16 (.load 2 true (.s 3)), oI 17 (.mov (.s 1)), oI 18 (.callv (.c (.fn 49 [])) [(.s 16), (.s 17)]), oI 15 (.mov (.s 18)), oI 19 (.extract 0 (.s 15)), oI 20 (.extract 1 (.s 15)), oI 21 (.extract 2 (.s 15)), oI 8 (.alloc 51008 39 [(.lit (.int .i64 0)), (.lit (.int .i64 0)), (.lit (.string ⟨#[]⟩))]), oN (.store 3 (.s 8) (.s 19)), oI 9 (.mov (.s 20)), oI 10 (.mov (.s 21))] [1, 3, 5, 6, 9, 10]
def a51r2 : AC := .reg [oI 22 (.mov (.s 10)), oI 23 (.iop .neq (.s 22) (.c (.lit (.int .i64 0))))] [1, 3, 5, 6, 9, 10, 23]
def a51r3 : AC := .reg [oI 24 (.build [(.lit (.int .i64 0)), (.nils 4)] []), oI 25 (.mov (.s 10)), oN (.store 2 (.s 6) (.s 24)), oI 7 (.mov (.s 25))] [6, 7]
def a51r4 : AC := .reg [oI 26 (.mov (.s 9))] [1, 3, 5, 6, 26]
def a51r5 : AC := .reg [oI 27 (.build [(.lit (.int .i64 0)), (.nils 4)] []), oN (.store 2 (.s 6) (.s 27)), oI 7 (.mov (.c (.lit (.int .i64 6))))] [6, 7]
def a51r6 : AC := .reg [oI 11 (.mov (.c (.nils 4)))] [1, 3, 5, 6, 11]
def a51r7 : AC := .reg [oI 12 (.mov (.c (.lit (.bool false))))] [1, 3, 5, 6, 11, 12]
def a51r8 : AC := .reg [oI 13 (.mov (.c (.lit (.int .i64 0))))] [1, 3, 5, 6, 11, 12, 13]
def a51r9 : AC := .reg [oI 28 (.mov (.s 13)), oI 29 (.faddr 1 (.s 3)), oI 30 (.load 1 false (.s 29)), oI 31 (.len (.s 30)), oI 32 (.iop .lss (.s 28) (.s 31))] [1, 3, 5, 6, 11, 12, 13, 32]
def a51r11 : AC := .reg [oI 35 (.mov (.s 12)), oI 36 (.not (.s 35)), oI 37 (.mov (.s 36)), oG 38 37 true (.faddr 1 (.s 3)), oG 39 37 true (.load 1 false (.s 38)), oG 40 37 true (.mov (.s 13)), oG 41 37 true (.iaddr 4 (.s 39) (.s 40)), oG 42 37 true (.faddr 0 (.s 41)), oG 43 37 true (.load 1 false (.s 42)), oG 44 37 true (.mov (.s 1)), oG 45 37 true (.iop .gtr (.s 43) (.s 44)), oI 46 (.pick (.s 37) (.s 45) (.c (.lit (.bool false))))] [1, 3, 5, 6, 11, 12, 13, 46]
def a51r12 : AC := .reg [oI 47 (.mov (.s 11)), oI 48 (.mov (.s 1)), oI 49 (.load 3 true (.s 5)), oI 50 (.build [(.lit (.int .i64 0)), (.lit (.int .i64 0)), (.lit (.int .i64 0)), (.lit (.string ⟨#[]⟩))] [(0, 1, (.s 48)), (1, 3, (.s 49))]), oI 51 (.bslice 51051 90 4 [(.s 50)]), oI 52 (.append 51052 90 4 40 (.s 47) (.s 51)), oI 11 (.mov (.s 52))] [1, 3, 5, 6, 11, 13]
def a51r13 : AC := .reg [oI 12 (.mov (.c (.lit (.bool true))))] [1, 3, 5, 6, 11, 12, 13]
def a51r14 : AC := .reg [oI 53 (.mov (.s 11)), oI 54 (.faddr 1 (.s 3)), oI 55 (.load 1 false (.s 54)), oI 56 (.mov (.s 13)), oI 57 (.iaddr 4 (.s 55) (.s 56)), oI 58 (.load 4 true (.s 57)), oI 59 (.bslice 51059 90 4 [(.s 58)]), oI 60 (.append 51060 90 4 40 (.s 53) (.s 59)), oI 11 (.mov (.s 60))] [1, 3, 5, 6, 11, 12, 13]
def a51r10 : AC := .reg [oI 33 (.mov (.s 13)), oI 34 (.iop .add (.s 33) (.c (.lit (.int .i64 1)))), oI 13 (.mov (.s 34))] [1, 3, 5, 6, 11, 12, 13]
def a51L9 : AC := .seq (.seq a51r9 (.cond (.s 32) (.skip) (.exit 0))) (.seq (.block 1 (.seq (.seq a51r11 (.cond (.s 46) (.seq a51r12 a51r13) (.skip))) a51r14)) a51r10)
def a51r15 : AC := .reg [oI 61 (.mov (.s 12)), oI 62 (.not (.s 61))] [1, 3, 5, 6, 11, 62]
def a51r16 : AC := .reg [oI 63 (.mov (.s 11)), oI 64 (.mov (.s 1)), oI 65 (.load 3 true (.s 5)), oI 66 (.build [(.lit (.int .i64 0)), (.lit (.int .i64 0)), (.lit (.int .i64 0)), (.lit (.string ⟨#[]⟩))] [(0, 1, (.s 64)), (1, 3, (.s 65))]), oI 67 (.bslice 51067 90 4 [(.s 66)]), oI 68 (.append 51068 90 4 40 (.s 63) (.s 67)), oI 11 (.mov (.s 68))] [3, 6, 11]
def a51r17 : AC := .reg [oI 69 (.faddr 0 (.s 3)), oI 70 (.load 1 false (.s 69)), oI 14 (.mov (.s 70))] [6, 11, 14]
def a51r18 : AC := .reg [oI 71 (.mov (.s 11)), oI 72 (.len (.s 71)), oI 73 (.iop .gtr (.s 72) (.c (.lit (.int .i64 8))))] [6, 11, 14, 73]
def a51r19 : AC := .reg [oI 74 (.mov (.s 11)), oI 75 (.iaddr 4 (.s 74) (.c (.lit (.int .i64 0)))), oI 76 (.faddr 0 (.s 75)), oI 77 (.load 1 false (.s 76)), oI 14 (.mov (.s 77))] [6, 11, 14]
def a51r20 : AC := .reg [oI 78 (.mov (.s 11)), oI 79 (.slice 4 (.s 78) (some (.c (.lit (.int .i64 1)))) none), oI 11 (.mov (.s 79))] [6, 11, 14]
def a51r21 : AC := .reg [oI 80 (.mov (.s 14)), oI 81 (.mov (.s 11)), oI 82 (.build [(.lit (.int .i64 0)), (.nils 4)] [(0, 1, (.s 80)), (1, 1, (.s 81))]), oN (.store 2 (.s 6) (.s 82)), oI 7 (.mov (.c (.lit (.int .i64 0))))] [6, 7]
def a51 : AC := .seq a51r0 (.seq a51r1 (.seq (.seq a51r2 (.cond (.s 23) (.seq a51r3 (.ret)) (.skip))) (.seq (.seq a51r4 (.cond (.s 26) (.seq a51r5 (.ret)) (.skip))) (.seq a51r6 (.seq a51r7 (.seq (.seq a51r8 (.block 0 (.loop a51L9))) (.seq (.seq a51r15 (.cond (.s 62) a51r16 (.skip))) (.seq a51r17 (.seq (.seq a51r18 (.cond (.s 73) (.seq a51r19 a51r20) (.skip))) (.seq a51r21 (.ret)))))))))))
def a51R : List RD := [.cell 6 2 true, .tmp 7]
def a40r0 : AC := .reg [oI 1 (.box 40001 60 2 (.s 0)), oI 2 (.mov (.c (.lit (.bool false))))] [1]
def a40r1 : AC := .reg [oI 3 (.faddr 1 (.s 1)), oI 4 (.load 1 false (.s 3)), oI 5 (.len (.s 4)), oI 6 (.iop .leq (.s 5) (.c (.lit (.int .i64 50)))), oI 2 (.mov (.s 6))] [2]
def a40 : AC := .seq a40r0 (.seq a40r1 (.ret))
def a40R : List RD := [.tmp 2]
def a101r0 : AC := .reg [oI 0 (.alloc 101000 136 [(.lit (.bool false)), (.lit (.bool false)), (.lit (.bool false)), (.lit (.bool false)), (.lit (.bool false)), (.lit (.bool false)), (.lit (.bool false)), (.lit (.bool false)), (.lit (.bool false)), (.lit (.bool false)), (.lit (.bool false)), (.lit (.bool false)), (.lit (.bool false)), (.lit (.bool false)), (.lit (.bool false)), (.lit (.bool false)), (.lit (.bool false)), (.lit (.bool false)), (.lit (.bool false)), (.lit (.bool false)), (.lit (.bool false)), (.lit (.bool false)), (.lit (.bool false)), (.lit (.bool false)), (.lit (.bool false)), (.lit (.bool false)), (.lit (.bool false)), (.lit (.bool false)), (.lit (.bool false)), (.lit (.bool false)), (.lit (.bool false)), (.lit (.bool false))])] [0]
def a101r1 : AC := .reg [oI 1 (.build [(.lit (.bool false)), (.lit (.bool false)), (.lit (.bool false)), (.lit (.bool false))] [(3, 1, (.c (.lit (.bool true))))]), oI 2 (.build [(.lit (.bool false)), (.lit (.bool false)), (.lit (.bool false)), (.lit (.bool false))] [(0, 1, (.c (.lit (.bool true))))]), oI 3 (.build [(.lit (.bool false)), (.lit (.bool false)), (.lit (.bool false)), (.lit (.bool false))] [(0, 1, (.c (.lit (.bool true))))]), oI 4 (.build [(.lit (.bool false)), (.lit (.bool false)), (.lit (.bool false)), (.lit (.bool false))] [(0, 1, (.c (.lit (.bool true))))]), oI 5 (.build [(.lit (.bool false)), (.lit (.bool false)), (.lit (.bool false)), (.lit (.bool false))] [(0, 1, (.c (.lit (.bool true)))), (2, 1, (.c (.lit (.bool true))))]), oI 6 (.build [(.lit (.bool false)), (.lit (.bool false)), (.lit (.bool false)), (.lit (.bool false))] [(0, 1, (.c (.lit (.bool true)))), (1, 1, (.c (.lit (.bool true)))), (2, 1, (.c (.lit (.bool true))))]), oI 7 (.build [(.lit (.bool false)), (.lit (.bool false)), (.lit (.bool false)), (.lit (.bool false))] [(0, 1, (.c (.lit (.bool true)))), (1, 1, (.c (.lit (.bool true))))]), oI 8 (.build [(.lit (.bool false)), (.lit (.bool false)), (.lit (.bool false)), (.lit (.bool false))] [(0, 1, (.c (.lit (.bool true)))), (1, 1, (.c (.lit (.bool true)))), (3, 1, (.c (.lit (.bool true))))]), oI 9 (.build [(.lit (.bool false)), (.lit (.bool false)), (.lit (.bool false)), (.lit (.bool false)), (.lit (.bool false)), (.lit (.bool false)), (.lit (.bool false)), (.lit (.bool false)), (.lit (.bool false)), (.lit (.bool false)), (.lit (.bool false)), (.lit (.bool false)), (.lit (.bool false)), (.lit (.bool false)), (.lit (.bool false)), (.lit (.bool false)), (.lit (.bool false)), (.lit (.bool false)), (.lit (.bool false)), (.lit (.bool false)), (.lit (.bool false)), (.lit (.bool false)), (.lit (.bool false)), (.lit (.bool false)), (.lit (.bool false)), (.lit (.bool false)), (.lit (.bool false)), (.lit (.bool false)), (.lit (.bool false)), (.lit (.bool false)), (.lit (.bool false)), (.lit (.bool false))] [(0, 4, (.s 1)), (4, 4, (.s 2)), (8, 4, (.s 3)), (12, 4, (.s 4)), (16, 4, (.s 5)), (20, 4, (.s 6)), (24, 4, (.s 7)), (28, 4, (.s 8))]), oN (.store 32 (.s 0) (.s 9))] [0]
def a101 : AC := .seq a101r0 (.seq a101r1 (.ret))
def a101R : List RD := [.cell 0 32 true]
def a63r0 : AC := .reg [oI 1 (.box 63001 36 6 (.s 0)), oI 2 (.alloc 63002 95 [(.lit (.bool false)), (.lit (.bool false)), (.lit (.bool false)), (.lit (.bool false))]), oI 3 (.mov (.c (.lit (.bool false))))] [1, 2]
def a63r1 : AC := .reg [oI 4 (.faddr 2 (.s 1)), oI 5 (.load 1 false (.s 4)), oI 6 (.iop .lss (.s 5) (.c (.lit (.int .i64 0)))), oI 7 (.mov (.s 6)), oG 8 7 false (.faddr 2 (.s 1)), oG 9 7 false (.load 1 false (.s 8)), oG 10 7 false (.iop .geq (.s 9) (.c (.lit (.int .i64 8)))), oI 11 (.pick (.s 7) (.c (.lit (.bool true))) (.s 10))] [1, 2, 11]
def a63r2 : AC := .reg [oI 12 (.build [(.lit (.bool false)), (.lit (.bool false)), (.lit (.bool false)), (.lit (.bool false))] []), oN (.store 4 (.s 2) (.s 12)), oI 3 (.mov (.c (.lit (.bool false))))] [2, 3]
def a63r3 : AC := .draw [63002] (.take 1 (oI 14 (.faddr 2 (.s 1))) <| .take 2 (oI 15 (.load 1 false (.s 14))) <| .alt 0 (oI 13 (.callv (.c (.fn 101 [])) [])) ( .alt 3 (oI 16 (.ext 13 [136, 95, 8, 4] [(.s 13), (.s 15)])) ( .alt 4 (oN (.store 4 (.s 2) (.s 16))) ( .take 5 (oI 3 (.mov (.c (.lit (.bool true))))) <| .done) .done) .done) .done) [2, 3]
def a63 : AC := .seq a63r0 (.seq (.seq a63r1 (.cond (.s 11) (.seq a63r2 (.ret)) (.skip))) (.seq a63r3 (.ret)))
def a63R : List RD := [.cell 2 4 true, .tmp 3]
def a64r0 : AC := .reg [oI 6 (.mov (.c (.lit (.bool false))))] [0, 1, 2]
def a64r1 : AC := .reg [oI 7 (.mov (.s 2)), oI 8 (.not (.s 7))] [0, 1, 8]
def a64r2 : AC := .reg [oI 9 (.mov (.s 0)), oI 10 (.iop .eql (.s 9) (.c (.lit (.int .i64 0)))), oI 6 (.mov (.s 10))] [6]
def a64r3 : AC := .reg [oI 11 (.mov (.s 0)), oI 12 (.iop .geq (.s 11) (.c (.lit (.int .i64 1)))), oI 13 (.mov (.s 12)), oG 14 13 true (.mov (.s 0)), oG 15 13 true (.mov (.s 1)), oG 16 13 true (.iop .leq (.s 14) (.s 15)), oI 17 (.pick (.s 13) (.s 16) (.c (.lit (.bool false)))), oI 6 (.mov (.s 17))] [6]
def a64 : AC := .seq a64r0 (.seq (.seq a64r1 (.cond (.s 8) (.seq a64r2 (.ret)) (.skip))) (.seq a64r3 (.ret)))
def a64R : List RD := [.tmp 6]
def a21r0 : AC := .reg [oI 1 (.box 21001 36 6 (.s 0)), oI 2 (.mov (.c (.lit (.bool false))))] [1]
def a21r1 : AC := .reg [oI 6 (.load 6 true (.s 1)), oI 7 (.callv (.c (.fn 63 [])) [(.s 6)]), oI 5 (.mov (.s 7)), oI 8 (.extract 0 (.s 5)), oI 9 (.extract 1 (.s 5)), oI 3 (.alloc 21003 95 [(.lit (.bool false)), (.lit (.bool false)), (.lit (.bool false)), (.lit (.bool false))]), oN (.store 4 (.s 3) (.s 8)), oI 4 (.mov (.s 9))] [1, 3, 4]
def a21r2 : AC := .reg [oI 10 (.mov (.s 4)), oI 11 (.mov (.s 10)), oG 12 11 true (.faddr 0 (.s 1)), oG 13 11 true (.load 1 false (.s 12)), oG 14 11 true (.faddr 0 (.s 3)), oG 15 11 true (.load 1 false (.s 14)), oG 16 11 true (.callv (.c (.fn 64 [])) [(.s 13), (.c (.lit (.int .i64 1048576))), (.s 15)]), oI 17 (.pick (.s 11) (.s 16) (.c (.lit (.bool false)))), oI 18 (.mov (.s 17)), oG 19 18 true (.faddr 1 (.s 1)), oG 20 18 true (.load 1 false (.s 19)), oG 21 18 true (.faddr 0 (.s 3)), oG 22 18 true (.load 1 false (.s 21)), oG 23 18 true (.callv (.c (.fn 64 [])) [(.s 20), (.c (.lit (.int .i64 1073741824))), (.s 22)]), oI 24 (.pick (.s 18) (.s 23) (.c (.lit (.bool false)))), oI 25 (.mov (.s 24)), oG 26 25 true (.faddr 3 (.s 1)), oG 27 25 true (.load 1 false (.s 26)), oG 28 25 true (.faddr 0 (.s 3)), oG 29 25 true (.load 1 false (.s 28)), oG 30 25 true (.callv (.c (.fn 64 [])) [(.s 27), (.c (.lit (.int .i64 1048576))), (.s 29)]), oI 31 (.pick (.s 25) (.s 30) (.c (.lit (.bool false)))), oI 32 (.mov (.s 31)), oG 33 32 true (.faddr 4 (.s 1)), oG 34 32 true (.load 1 false (.s 33)), oG 35 32 true (.faddr 1 (.s 3)), oG 36 32 true (.load 1 false (.s 35)), oG 37 32 true (.callv (.c (.fn 64 [])) [(.s 34), (.c (.lit (.int .i64 1073741824))), (.s 36)]), oI 38 (.pick (.s 32) (.s 37) (.c (.lit (.bool false)))), oI 39 (.mov (.s 38)), oG 40 39 true (.faddr 5 (.s 1)), oG 41 39 true (.load 1 false (.s 40)), oG 42 39 true (.slen (.s 41)), oG 43 39 true (.faddr 2 (.s 3)), oG 44 39 true (.load 1 false (.s 43)), oG 45 39 true (.callv (.c (.fn 64 [])) [(.s 42), (.c (.lit (.int .i64 64))), (.s 44)]), oI 46 (.pick (.s 39) (.s 45) (.c (.lit (.bool false)))), oI 2 (.mov (.s 46))] [2]
def a21 : AC := .seq a21r0 (.seq a21r1 (.seq a21r2 (.ret)))
def a21R : List RD := [.tmp 2]
def a102r0 : AC := .reg [oI 1 (.box 102001 36 6 (.s 0)), oI 2 (.mov (.c (.lit (.bool false))))] [1]
def a102r1 : AC := .reg [oI 6 (.load 6 true (.s 1)), oI 7 (.callv (.c (.fn 63 [])) [(.s 6)]), oI 5 (.mov (.s 7)), oI 8 (.extract 0 (.s 5)), oI 9 (.extract 1 (.s 5)), oI 3 (.alloc 102003 95 [(.lit (.bool false)), (.lit (.bool false)), (.lit (.bool false)), (.lit (.bool false))]), oN (.store 4 (.s 3) (.s 8)), oI 4 (.mov (.s 9))] [3]
def a102r2 : AC := .reg [oI 10 (.faddr 3 (.s 3)), oI 11 (.load 1 false (.s 10)), oI 2 (.mov (.s 11))] [2]
def a102 : AC := .seq a102r0 (.seq a102r1 (.seq a102r2 (.ret)))
def a102R : List RD := [.tmp 2]
def a92r0 : AC := .reg [oI 4 (.mov (.c (.lit (.bool false))))] [0, 1]
def a92r1 : AC := .reg [oI 5 (.mov (.s 0)), oI 6 (.iop .geq (.s 5) (.c (.lit (.int .i64 1)))), oI 7 (.mov (.s 6)), oG 8 7 true (.mov (.s 0)), oG 9 7 true (.mov (.s 1)), oG 10 7 true (.iop .leq (.s 8) (.s 9)), oI 11 (.pick (.s 7) (.s 10) (.c (.lit (.bool false)))), oI 4 (.mov (.s 11))] [4]
def a92 : AC := .seq a92r0 (.seq a92r1 (.ret))
def a92R : List RD := [.tmp 4]
def a93r0 : AC := .reg [oI 2 (.mov (.c (.lit (.bool false))))] [0]
def a93r1 : AC := .reg [oI 3 (.mov (.s 0)), oI 4 (.iop .eql (.s 3) (.c (.lit (.int .i64 5)))), oI 5 (.mov (.s 4)), oG 6 5 false (.mov (.s 0)), oG 7 5 false (.iop .eql (.s 6) (.c (.lit (.int .i64 6)))), oI 8 (.pick (.s 5) (.c (.lit (.bool true))) (.s 7)), oI 9 (.mov (.s 8)), oG 10 9 false (.mov (.s 0)), oG 11 9 false (.iop .eql (.s 10) (.c (.lit (.int .i64 7)))), oI 12 (.pick (.s 9) (.c (.lit (.bool true))) (.s 11)), oI 2 (.mov (.s 12))] [2]
def a93 : AC := .seq a93r0 (.seq a93r1 (.ret))
def a93R : List RD := [.tmp 2]
def a94r0 : AC := .reg [oI 2 (.mov (.c (.lit (.bool false))))] [0]
def a94r1 : AC := .reg [oI 3 (.mov (.s 0)), oI 4 (.iop .eql (.s 3) (.c (.lit (.int .i64 4)))), oI 5 (.mov (.s 4)), oG 6 5 false (.mov (.s 0)), oG 7 5 false (.iop .eql (.s 6) (.c (.lit (.int .i64 5)))), oI 8 (.pick (.s 5) (.c (.lit (.bool true))) (.s 7)), oI 2 (.mov (.s 8))] [2]
def a94 : AC := .seq a94r0 (.seq a94r1 (.ret))
def a94R : List RD := [.tmp 2]
def a47r0 : AC := .reg [oI 1 (.box 47001 36 6 (.s 0)), oI 2 (.mov (.c (.lit (.bool false))))] [1]
def a47r1 : AC := .reg [oI 10 (.faddr 2 (.s 1)), oI 11 (.load 1 false (.s 10)), oI 12 (.iop .eql (.s 11) (.c (.lit (.int .i64 0))))] [1, 12]
def a47r2 : AC := .reg [oI 13 (.load 6 true (.s 1)), oI 14 (.build [(.lit (.int .i64 0)), (.lit (.int .i64 0)), (.lit (.int .i64 0)), (.lit (.int .i64 0)), (.lit (.int .i64 0)), (.lit (.string ⟨#[]⟩))] []), oI 15 (.seql false [1, 1, 1, 1, 1, 2] (.s 13) (.s 14)), oI 2 (.mov (.s 15))] [2]
def a47r3 : AC := .reg [oI 16 (.faddr 2 (.s 1)), oI 17 (.load 1 false (.s 16)), oI 18 (.iop .lss (.s 17) (.c (.lit (.int .i64 0)))), oI 19 (.mov (.s 18)), oG 20 19 false (.faddr 2 (.s 1)), oG 21 19 false (.load 1 false (.s 20)), oG 22 19 false (.iop .geq (.s 21) (.c (.lit (.int .i64 8)))), oI 23 (.pick (.s 19) (.c (.lit (.bool true))) (.s 22))] [1, 23]
def a47r4 : AC := .reg [oI 2 (.mov (.c (.lit (.bool false))))] [2]
def a47r5 : AC := .reg [oI 24 (.faddr 0 (.s 1)), oI 25 (.load 1 false (.s 24)), oI 26 (.callv (.c (.fn 92 [])) [(.s 25), (.c (.lit (.int .i64 1048576)))]), oI 3 (.mov (.s 26))] [1, 3]
def a47r6 : AC := .reg [oI 27 (.faddr 1 (.s 1)), oI 28 (.load 1 false (.s 27)), oI 29 (.callv (.c (.fn 92 [])) [(.s 28), (.c (.lit (.int .i64 1073741824)))]), oI 4 (.mov (.s 29))] [1, 3, 4]
def a47r7 : AC := .reg [oI 30 (.faddr 3 (.s 1)), oI 31 (.load 1 false (.s 30)), oI 32 (.callv (.c (.fn 92 [])) [(.s 31), (.c (.lit (.int .i64 1048576)))]), oI 5 (.mov (.s 32))] [1, 3, 4, 5]
def a47r8 : AC := .reg [oI 33 (.faddr 2 (.s 1)), oI 34 (.load 1 false (.s 33)), oI 35 (.callv (.c (.fn 93 [])) [(.s 34)]), oI 6 (.mov (.s 35))] [1, 3, 4, 5, 6]
def a47r9 : AC := .reg [oI 36 (.faddr 4 (.s 1)), oI 37 (.load 1 false (.s 36)), oI 38 (.callv (.c (.fn 92 [])) [(.s 37), (.c (.lit (.int .i64 1073741824)))]), oI 7 (.mov (.s 38))] [1, 3, 4, 5, 6, 7]
def a47r10 : AC := .reg [oI 39 (.faddr 2 (.s 1)), oI 40 (.load 1 false (.s 39)), oI 41 (.callv (.c (.fn 94 [])) [(.s 40)]), oI 8 (.mov (.s 41))] [1, 3, 4, 5, 6, 7, 8]
def a47r11 : AC := .reg [oI 42 (.faddr 5 (.s 1)), oI 43 (.load 1 false (.s 42)), oI 44 (.slen (.s 43)), oI 45 (.callv (.c (.fn 92 [])) [(.s 44), (.c (.lit (.int .i64 64)))]), oI 9 (.mov (.s 45))] [1, 3, 4, 5, 6, 7, 8, 9]
def a47r12 : AC := .reg [oI 46 (.mov (.s 3)), oI 47 (.not (.s 46)), oI 48 (.mov (.s 47)), oG 49 48 false (.mov (.s 4)), oG 50 48 false (.not (.s 49)), oI 51 (.pick (.s 48) (.c (.lit (.bool true))) (.s 50)), oI 52 (.mov (.s 51)), oG 53 52 false (.mov (.s 5)), oG 54 52 false (.not (.s 53)), oI 55 (.pick (.s 52) (.c (.lit (.bool true))) (.s 54)), oI 56 (.mov (.s 55)), oG 57 56 false (.mov (.s 6)), oG 58 56 false (.mov (.s 57)), oG 59 58 true (.mov (.s 7)), oG 60 58 true (.not (.s 59)), oG 61 56 false (.pick (.s 58) (.s 60) (.c (.lit (.bool false)))), oI 62 (.pick (.s 56) (.c (.lit (.bool true))) (.s 61)), oI 63 (.mov (.s 62)), oG 64 63 false (.mov (.s 6)), oG 65 63 false (.not (.s 64)), oG 66 63 false (.mov (.s 65)), oG 67 66 true (.faddr 4 (.s 1)), oG 68 66 true (.load 1 false (.s 67)), oG 69 66 true (.iop .neq (.s 68) (.c (.lit (.int .i64 0)))), oG 70 63 false (.pick (.s 66) (.s 69) (.c (.lit (.bool false)))), oI 71 (.pick (.s 63) (.c (.lit (.bool true))) (.s 70))] [1, 8, 9, 71]
def a47r13 : AC := .reg [oI 2 (.mov (.c (.lit (.bool false))))] [2]
def a47r14 : AC := .reg [oI 72 (.mov (.s 8)), oI 73 (.mov (.s 72)), oG 74 73 true (.mov (.s 9)), oI 75 (.pick (.s 73) (.s 74) (.c (.lit (.bool false)))), oI 76 (.mov (.s 75)), oG 77 76 false (.mov (.s 8)), oG 78 76 false (.not (.s 77)), oG 79 76 false (.mov (.s 78)), oG 80 79 true (.faddr 5 (.s 1)), oG 81 79 true (.load 1 false (.s 80)), oG 82 79 true (.slen (.s 81)), oG 83 79 true (.iop .eql (.s 82) (.c (.lit (.int .i64 0)))), oG 84 76 false (.pick (.s 79) (.s 83) (.c (.lit (.bool false)))), oI 85 (.pick (.s 76) (.c (.lit (.bool true))) (.s 84)), oI 2 (.mov (.s 85))] [2]
def a47 : AC := .seq a47r0 (.seq (.seq a47r1 (.cond (.s 12) (.seq a47r2 (.ret)) (.skip))) (.seq (.seq a47r3 (.cond (.s 23) (.seq a47r4 (.ret)) (.skip))) (.seq a47r5 (.seq a47r6 (.seq a47r7 (.seq a47r8 (.seq a47r9 (.seq a47r10 (.seq a47r11 (.seq (.seq a47r12 (.cond (.s 71) (.seq a47r13 (.ret)) (.skip))) (.seq a47r14 (.ret))))))))))))
def a47R : List RD := [.tmp 2]
def a65r0 : AC := .reg [oI 1 (.box 65001 36 6 (.s 0)), oI 2 (.mov (.c (.nils 3)))] [1]
def a65r1 : AC := .reg [oI 3 (.load 6 true (.s 1)), oI 4 (.callv (.c (.fn 21 [])) [(.s 3)]), oI 5 (.not (.s 4)), oI 6 (.mov (.s 5)), oG 7 6 false (.faddr 2 (.s 1)), oG 8 6 false (.load 1 false (.s 7)), oG 9 6 false (.iop .eql (.s 8) (.c (.lit (.int .i64 0)))), oI 10 (.pick (.s 6) (.c (.lit (.bool true))) (.s 9))] [1, 10]
def a65r2 : AC := .reg [oI 2 (.mov (.c (.nils 3)))] [2]
def a65r3 : AC := .draw [65020] (.take 0 (oI 11 (.faddr 0 (.s 1))) <| .take 1 (oI 12 (.load 1 false (.s 11))) <| .take 2 (oI 13 (.build [(.lit (.bool false)), (.lit (.int .i64 0)), (.lit (.bool false))] [(0, 1, (.c (.lit (.bool true)))), (1, 1, (.s 12)), (2, 1, (.c (.lit (.bool true))))])) <| .take 3 (oI 14 (.faddr 3 (.s 1))) <| .take 4 (oI 15 (.load 1 false (.s 14))) <| .take 5 (oI 16 (.load 6 true (.s 1))) <| .alt 6 (oI 17 (.callv (.c (.fn 102 [])) [(.s 16)])) ( .take 7 (oI 18 (.not (.s 17))) <| .take 8 (oI 19 (.build [(.lit (.bool false)), (.lit (.int .i64 0)), (.lit (.bool false))] [(1, 1, (.s 15)), (2, 1, (.s 18))])) <| .alt 9 (oI 20 (.bslice 65020 103 3 [(.s 13), (.s 19)])) ( .take 10 (oI 2 (.mov (.s 20))) <| .done) .done) .done) [2]
def a65 : AC := .seq a65r0 (.seq (.seq a65r1 (.cond (.s 10) (.seq a65r2 (.ret)) (.skip))) (.seq a65r3 (.ret)))
def a65R : List RD := [.tmp 2]
def a69r0 : AC := .reg [oI 2 (.box 69002 103 3 (.s 0)), oI 3 (.box 69003 103 3 (.s 1)), oI 4 (.mov (.c (.lit (.bool false))))] [2, 3]
def a69r1 : AC := .reg [oI 5 (.faddr 0 (.s 2)), oI 6 (.load 1 false (.s 5)), oI 7 (.faddr 0 (.s 3)), oI 8 (.load 1 false (.s 7)), oI 9 (.beq false (.s 6) (.s 8)), oI 10 (.mov (.s 9)), oG 11 10 true (.faddr 1 (.s 2)), oG 12 10 true (.load 1 false (.s 11)), oG 13 10 true (.faddr 1 (.s 3)), oG 14 10 true (.load 1 false (.s 13)), oG 15 10 true (.iop .eql (.s 12) (.s 14)), oI 16 (.pick (.s 10) (.s 15) (.c (.lit (.bool false)))), oI 17 (.mov (.s 16)), oG 18 17 true (.faddr 2 (.s 2)), oG 19 17 true (.load 1 false (.s 18)), oG 20 17 true (.mov (.s 19)), oG 21 20 false (.faddr 2 (.s 3)), oG 22 20 false (.load 1 false (.s 21)), oG 23 17 true (.pick (.s 20) (.c (.lit (.bool true))) (.s 22)), oI 24 (.pick (.s 17) (.s 23) (.c (.lit (.bool false)))), oI 4 (.mov (.s 24))] [4]
def a69 : AC := .seq a69r0 (.seq a69r1 (.ret))
def a69R : List RD := [.tmp 4]
def a23r0 : AC := .reg [oI 2 (.box 23002 36 6 (.s 0)), oI 3 (.box 23003 36 6 (.s 1)), oI 4 (.mov (.c (.lit (.bool false))))] [2, 3]
def a23r1 : AC := .reg [oI 6 (.load 6 true (.s 3)), oI 7 (.callv (.c (.fn 65 [])) [(.s 6)]), oI 5 (.alloc 23005 99 [(.nils 3)]), oN (.store 1 (.s 5) (.s 7))] [2, 5]
def a23r2 : AC := .reg [oI 8 (.load 6 true (.s 2)), oI 9 (.callv (.c (.fn 65 [])) [(.s 8)]), oI 10 (.mkfn 67 [(.s 5)]), oI 11 (.callv (.c (.fn 66 [])) [(.s 9), (.s 10)]), oI 4 (.mov (.s 11))] [4]
def a23 : AC := .seq a23r0 (.seq a23r1 (.seq a23r2 (.ret)))
def a23R : List RD := [.tmp 4]
def a67r0 : AC := .reg [oI 2 (.box 67002 103 3 (.s 0)), oI 3 (.mov (.c (.lit (.bool false))))] [1, 2]
def a67r1 : AC := .reg [oI 4 (.load 1 false (.s 1)), oI 5 (.mkfn 68 [(.s 2)]), oI 6 (.callv (.c (.fn 66 [])) [(.s 4), (.s 5)]), oI 3 (.mov (.s 6))] [3]
def a67 : AC := .seq a67r0 (.seq a67r1 (.ret))
def a67R : List RD := [.tmp 3]
def a68r0 : AC := .reg [oI 2 (.box 68002 103 3 (.s 0)), oI 3 (.mov (.c (.lit (.bool false))))] [1, 2]
def a68r1 : AC := .reg [oI 4 (.load 3 true (.s 1)), oI 5 (.load 3 true (.s 2)), oI 6 (.callv (.c (.fn 69 [])) [(.s 4), (.s 5)]), oI 3 (.mov (.s 6))] [3]
def a68 : AC := .seq a68r0 (.seq a68r1 (.ret))
def a68R : List RD := [.tmp 3]
abbrev DoesT (f : Nat) (args : List AV) (r : AV) : Prop := DoesP Tryz.prog f args r
def btw (n a b : Int) : Bool := decide (a ≤ n) && decide (n ≤ b)
def riseU : Int → List Int → Bool
 | _, [] => true
 | last, u :: r => decide (last < u) && decide (u ≤ 1048576) && riseU u r
def hasI (l : List Int) (n : Int) : Bool := l.any fun x => decide (x = n)
def idxI (n : Int) : List Int → Nat → Int
 | [], _ => -1
 | x :: r, i => if x = n then i else idxI n r (i + 1)
theorem idxI_pos (n : Int) : ∀ (l : List Int) (i : Nat), decide (0 ≤ idxI n l i) = hasI l n
 | [], _ => by simp [idxI, hasI]
 | x :: r, i => by
  simp only [idxI, hasI, List.any_cons]
  split
  ·rename_i h; subst h; simp
  ·rename_i h; rw [idxI_pos n r]; simp [hasI, h]
theorem ints_get (l : List Int) (i : Nat) : (ints l)[i]? = (l[i]?).map fun x => [iv x] := by simp [ints]
theorem getI {l : List Int} {i : Nat} (h : i < l.length) (hf : l.length < 1000000) : ∃ x, l[i]? = some x ∧ (∀ h, l[i]'h = x) ∧ (ints l)[i]? = some [iv x] ∧ (∀ h, (ints l)[i]'h = [iv x]) ∧ l.drop i = x :: l.drop (i + 1) ∧ IntKind.i64.wrap ((i : Int) + 1) = (i : Int) + 1 ∧ (i : Int) < (l.length : Int) :=
 ⟨l[i], List.getElem?_eq_getElem h, fun _ => rfl, by simp [ints, h], fun _ => by simp [ints], List.drop_eq_getElem_cons h, wrap_id (by omega) (by omega), by omega⟩
def I107 (l : List Int) (n : Int) (m : Nat) (st : St) : Prop := ∃ i : Nat, i ≤ l.length ∧ m = l.length - i ∧ idxI n l 0 = idxI n (l.drop i) i ∧ st = ⟨[(0, .ro 1 (ints l)), (1, iv n), (7, iv (l.length : Nat)), (8, iv (i : Nat))], [], []⟩
def I74 (l : List Int) (m : Nat) (st : St) : Prop := ∃ (i : Nat) (last : Int), i ≤ l.length ∧ m = l.length - i ∧ riseU 0 l = riseU last (l.drop i) ∧ st = ⟨[(3, iv last), (6, .ro 1 (ints l)), (7, iv (l.length : Nat)), (8, iv (i : Nat))], [], []⟩
theorem c110 : chkFn Tryz.prog 110 6 1 a110 a110R = true := by kernel_rfl
theorem d110 (x : Int) : DoesT 110 [iv x] (bv false) := by
 refine Does.of (nt := 6) (ac := a110) (rds := a110R) c110 (fun c hc => ?_)
 unfold a110
 apply J.seq
 refine J.regE (by simp; rfl) ?_
 simp
 apply J.seq
 refine J.regE (by simp; rfl) ?_
 simp
 apply J.ret
 refine ⟨by simp, rfl, _, [], by simp [a110R]; rfl, ?_⟩
 simp
theorem c142 : chkFn Tryz.prog 142 6 1 a142 a142R = true := by kernel_rfl
theorem d142 (x : Int) : DoesT 142 [iv x] (bv false) := by
 refine Does.of (nt := 6) (ac := a142) (rds := a142R) c142 (fun c hc => ?_)
 unfold a142
 apply J.seq
 refine J.regE (by simp; rfl) ?_
 simp
 apply J.seq
 refine J.regE (by simp; rfl) ?_
 simp
 apply J.ret
 refine ⟨by simp, rfl, _, [], by simp [a142R]; rfl, ?_⟩
 simp
theorem c86 : chkFn Tryz.prog 86 20 2 a86 a86R = true := by kernel_rfl
theorem d86 (x y : Int) : DoesT 86 [iv x, iv y] (iv (cmpI x y)) := by
 refine Does.of (nt := 20) (ac := a86) (rds := a86R) c86 (fun c hc => ?_)
 unfold a86
 apply J.seq
 refine J.regE (by simp; rfl) ?_
 simp
 apply J.seq
 apply J.reg
 refine runL_step rfl (by simp; rfl) ?_
 refine runL_tree rfl (d110 _) (by simp) hc ?_
 simp
 refine runL_step rfl (by simp; rfl) ?_
 simp [runL]
 apply J.seq
 apply J.reg
 refine runL_step rfl (by simp; rfl) ?_
 refine runL_tree rfl (d110 _) (by simp) hc ?_
 simp
 refine runL_step rfl (by simp; rfl) ?_
 simp [runL]
 apply J.seq
 apply J.seq
 refine J.regE (by simp; rfl) ?_
 simp
 apply J.cond; simp
 apply J.skip; simp
 apply J.seq
 apply J.seq
 refine J.regE (by simp; rfl) ?_
 simp
 apply J.cond; simp
 apply J.skip; simp
 apply J.seq
 apply J.seq
 refine J.regE (by simp; rfl) ?_
 simp
 refine J.condB rfl (fun h16 => ?_) (fun h16 => ?_)
 ·
  try simp only [h16]
  try simp at h16
  apply J.seq
  refine J.regE (by simp; rfl) ?_
  simp
  apply J.ret
  refine ⟨by simp, rfl, _, [], by simp [a86R]; rfl, ?_⟩
  simp [cmpI]; omega
 ·
  try simp only [h16]
  try simp at h16
  apply J.skip; simp
  apply J.seq
  apply J.seq
  refine J.regE (by simp; rfl) ?_
  simp
  refine J.condB rfl (fun h19 => ?_) (fun h19 => ?_)
  ·
   try simp only [h19]
   try simp at h19
   apply J.seq
   refine J.regE (by simp; rfl) ?_
   simp
   apply J.ret
   refine ⟨by simp, rfl, _, [], by simp [a86R]; rfl, ?_⟩
   simp [cmpI]; omega
  ·
   try simp only [h19]
   try simp at h19
   apply J.skip; simp
   apply J.seq
   refine J.regE (by simp; rfl) ?_
   simp
   apply J.ret
   refine ⟨by simp, rfl, _, [], by simp [a86R]; rfl, ?_⟩
   simp [cmpI]; omega
theorem c107 : chkFn Tryz.prog 107 19 2 a107 a107R = true := by kernel_rfl
theorem d107 (l : List Int) (n : Int) (hf : l.length < 1000000) : DoesT 107 [.ro 1 (ints l), iv n] (iv (idxI n l 0)) := by
 refine Does.of (nt := 19) (ac := a107) (rds := a107R) c107 (fun c hc => ?_)
 unfold a107
 apply J.seq
 refine J.regE (by simp; rfl) ?_
 simp
 apply J.seq
 apply J.seq
 refine J.regE (by simp; rfl) ?_
 simp
 apply J.block
 refine J.loop hc (I107 l n) ?_ ?_
 ·exact ⟨_, _, St.le_refl _, 0, by omega, rfl, rfl, by simp⟩
 rintro n st ⟨i, hi, rfl, hI, rfl⟩
 apply J.seq
 refine J.regE (by simp; rfl) ?_
 simp
 apply J.seq
 apply J.cond; simp
 refine ⟨fun hlt => ?_, fun hlt => ?_⟩
 ·
  obtain ⟨x, hx, hgx, hg, hge, hdr, hw, hlt2⟩ := getI (show i < l.length by omega) hf
  rw [hdr] at hI
  apply J.skip; simp
  apply J.seq
  apply J.block
  apply J.seq
  refine J.regE (by simp; rfl) ?_
  simp
  apply J.seq
  apply J.reg
  iterate 6 refine runL_step rfl (by simp [hlt2, hg, hge]; rfl) ?_
  simp [runL]
  apply J.cond; simp
  refine ⟨fun hb => ?_, fun hb => ?_⟩
  ·
   have hI2 : idxI n l 0 = i := by rw [hI]; simp [idxI, hb]
   apply J.seq
   refine J.regE (by simp; rfl) ?_
   simp
   apply J.ret
   refine ⟨by simp, rfl, _, [], by simp [a107R]; rfl, ?_⟩
   simp [hI2]
  ·
   have hI2 : idxI n l 0 = idxI n (l.drop (i + 1)) (i + 1) := by rw [hI]; simp [idxI, show ¬ x = n from fun h => hb h.symm]
   apply J.skip; simp
   refine J.regE (by simp [hw]; rfl) ?_
   simp
   refine ⟨_, by omega, _, ?_, i + 1, by omega, rfl, hI2, rfl⟩
   apply le_sub <;> simp
 ·
  have hie : i = l.length := by omega
  subst hie
  apply J.exit; simp
  apply J.seq
  refine J.regE (by simp; rfl) ?_
  simp
  apply J.ret
  refine ⟨by simp, rfl, _, [], by simp [a107R]; rfl, ?_⟩
  simp [hI, idxI]
theorem c75 : chkFn Tryz.prog 75 9 2 a75 a75R = true := by kernel_rfl
theorem d75 (l : List Int) (n : Int) (hf : l.length < 1000000) : DoesT 75 [.ro 1 (ints l), iv n] (bv (hasI l n)) := by
 refine Does.of (nt := 9) (ac := a75) (rds := a75R) c75 (fun c hc => ?_)
 unfold a75
 apply J.seq
 refine J.regE (by simp; rfl) ?_
 simp
 apply J.seq
 apply J.reg
 iterate 2 refine runL_step rfl (by simp [idxI_pos]; rfl) ?_
 refine runL_tree rfl (d107 _ _ hf) (by simp) hc ?_
 simp
 iterate 2 refine runL_step rfl (by simp [idxI_pos]; rfl) ?_
 simp [runL]
 apply J.ret
 refine ⟨by simp, rfl, _, [], by simp [a75R]; rfl, ?_⟩
 simp
theorem c74 : chkFn Tryz.prog 74 21 1 a74 a74R = true := by kernel_rfl
theorem d74 (l : List Int) (hf : l.length < 1000000) : DoesT 74 [.ro 1 (ints l)] (bv (riseU 0 l)) := by
 refine Does.of (nt := 21) (ac := a74) (rds := a74R) c74 (fun c hc => ?_)
 unfold a74
 apply J.seq
 refine J.regE (by simp; rfl) ?_
 simp
 apply J.seq
 refine J.regE (by simp; rfl) ?_
 simp
 apply J.seq
 apply J.seq
 refine J.regE (by simp; rfl) ?_
 simp
 apply J.block
 refine J.loop hc (I74 l) ?_ ?_
 ·exact ⟨_, _, St.le_refl _, 0, 0, by omega, rfl, rfl, by simp⟩
 rintro n st ⟨i, last, hi, rfl, hI, rfl⟩
 apply J.seq
 refine J.regE (by simp; rfl) ?_
 simp
 apply J.seq
 apply J.cond; simp
 refine ⟨fun hlt => ?_, fun hlt => ?_⟩
 ·
  obtain ⟨x, hx, hgx, hg, hge, hdr, hw, hlt2⟩ := getI (show i < l.length by omega) hf
  rw [hdr] at hI
  apply J.skip; simp
  apply J.seq
  apply J.block
  apply J.seq
  apply J.reg
  iterate 3 refine runL_step rfl (by simp [hlt2, hg, hge]; rfl) ?_
  simp [runL]
  apply J.seq
  apply J.seq
  apply J.reg
  iterate 4 refine runL_step rfl (by simp; rfl) ?_
  refine runL_if rfl (fun g15 => ?_) (fun g15 => ?_)
  ·
   try simp only [g15]
   try simp at g15
   iterate 3 refine runL_step rfl (by simp; rfl) ?_
   simp [runL]
   refine J.condB rfl (fun hb => ?_) (fun hb => ?_)
   ·
    have hI2 : riseU 0 l = false := by
     rw [hI]; simp at hb; simp [riseU]; intros; omega
    apply J.seq
    refine J.regE (by simp; rfl) ?_
    simp
    apply J.ret
    refine ⟨by simp, rfl, _, [], by simp [a74R]; rfl, ?_⟩
    simp [hI2]
   ·
    have hI2 : riseU 0 l = riseU x (l.drop (i + 1)) := by
     rw [hI]; simp at hb; simp [riseU]; intros; omega
    apply J.skip; simp
    refine J.regE (by simp; rfl) ?_
    simp
    refine J.regE (by simp [hw]; rfl) ?_
    simp
    refine ⟨_, by omega, _, ?_, i + 1, x, by omega, rfl, hI2, rfl⟩
    apply le_sub <;> simp
  ·
   try simp only [g15]
   try simp at g15
   iterate 2 refine runL_step rfl (by simp; rfl) ?_
   simp [runL]
   apply J.cond; simp
   apply J.seq
   refine J.regE (by simp; rfl) ?_
   simp
   apply J.ret
   refine ⟨by simp, rfl, _, [], by simp [a74R]; rfl, ?_⟩
   simp [hI, riseU]; intros; omega
 ·
  have hie : i = l.length := by omega
  subst hie
  apply J.exit; simp
  apply J.seq
  refine J.regE (by simp; rfl) ?_
  simp
  apply J.ret
  refine ⟨by simp, rfl, _, [], by simp [a74R]; rfl, ?_⟩
  simp [hI, riseU]
section
variable {α : Type} (k : α → Int)
def putK (y : α) : List α → List α
  | [] => [y]
  | x :: r => if k y < k x then y :: x :: r else if k x = k y then y :: r else x :: putK y r
abbrev Up (l : List α) : Prop := l.Pairwise fun a b => k a < k b
def ltK (n : Int) (l : List α) (m : Nat) : Bool := match l[m]? with | some x => decide (k x < n) | none => false
def bsK (n : Int) (l : List α) : Nat := bsG (ltK k n l) l.length 0 l.length
def bsKF (n : Int) (l : List α) : Bool := match l[bsK k n l]? with | some x => decide (k x = n) | none => false
theorem up_split {l : List α} (h : Up k l) (n : Int) : ∃ a b, l = a ++ b ∧ (∀ x ∈ a, k x < n) ∧ (∀ x ∈ b, n ≤ k x) := by
  induction l with
  | nil => exact ⟨[], [], rfl, by simp, by simp⟩
  | cons x r ih =>
    obtain ⟨h1, h2⟩ := List.pairwise_cons.1 h
    by_cases hx : k x < n
    · obtain ⟨a, b, rfl, ha, hb⟩ := ih h2
      exact ⟨x :: a, b, rfl, by simpa using ⟨hx, ha⟩, hb⟩
    · refine ⟨[], x :: r, rfl, by simp, fun y hy => ?_⟩
      rcases List.mem_cons.1 hy with rfl | hy
      · omega
      · have := h1 y hy; omega
theorem bsK_app {a b : List α} {n : Int} (ha : ∀ x ∈ a, k x < n) (hb : ∀ x ∈ b, n ≤ k x) : bsK k n (a ++ b) = a.length := by
  refine bsG_at _ a.length (fun q hq => ?_) _ _ _ (by omega) (by omega) (by simp) (fun q hq hqn => ?_)
  · rw [ltK, List.getElem?_append_left hq, List.getElem?_eq_getElem hq]
    exact decide_eq_true (ha _ (List.getElem_mem _))
  · rw [ltK, List.getElem?_append_right hq]
    have hq' : q - a.length < b.length := by simp at hqn; omega
    rw [List.getElem?_eq_getElem hq']
    have := hb _ (List.getElem_mem hq')
    exact decide_eq_false (by omega)
theorem bsKF_app {a b : List α} {n : Int} (h : Up k (a ++ b)) (ha : ∀ x ∈ a, k x < n) (hb : ∀ x ∈ b, n ≤ k x) : bsKF k n (a ++ b) = (a ++ b).any fun x => decide (k x = n) := by
  unfold bsKF
  rw [bsK_app k ha hb]
  have ha' : a.any (fun x => decide (k x = n)) = false := by
    rw [List.any_eq_false]
    intro x hx
    have := ha x hx
    simp; omega
  rw [List.any_append, ha', Bool.false_or, List.getElem?_append_right (Nat.le_refl _), Nat.sub_self]
  cases b with
  | nil => rfl
  | cons y r =>
    have h1 := hb y (List.mem_cons_self)
    have h2 := (List.pairwise_cons.1 (List.pairwise_append.1 h).2.1).1
    have hr : r.any (fun x => decide (k x = n)) = false := by
      rw [List.any_eq_false]
      intro x hx
      have := h2 x hx
      simp; omega
    simp only [List.getElem?_cons_zero, List.any_cons, hr, Bool.or_false]
theorem bsKF_eq {l : List α} (h : Up k l) (n : Int) : bsKF k n l = l.any fun x => decide (k x = n) := by
  obtain ⟨a, b, rfl, ha, hb⟩ := up_split k h n
  exact bsKF_app k h ha hb
theorem putK_app {a b : List α} {y : α} (ha : ∀ x ∈ a, k x < k y) : putK k y (a ++ b) = a ++ putK k y b := by
  induction a with
  | nil => rfl
  | cons x r ih =>
    have h1 := ha x (List.mem_cons_self)
    simp only [List.cons_append, putK]
    rw [if_neg (by omega), if_neg (by omega), ih (fun z hz => ha z (List.mem_cons_of_mem _ hz))]
theorem put_new {l : List α} (h : Up k l) (y : α) (hn : bsKF k (k y) l = false) : l.take (bsK k (k y) l) ++ [y] ++ l.drop (bsK k (k y) l) = putK k y l := by
  obtain ⟨a, b, rfl, ha, hb⟩ := up_split k h (k y)
  rw [bsK_app k ha hb, putK_app k ha, List.take_left, List.drop_left, List.append_assoc]
  congr 1
  rw [bsKF_eq k h, List.any_eq_false] at hn
  cases b with
  | nil => rfl
  | cons x r =>
    have h1 := hb x (List.mem_cons_self)
    have h2 := hn x (by simp)
    simp at h2
    simp only [putK]
    rw [if_pos (by omega)]; rfl
theorem put_new_len {l : List α} (h : Up k l) (y : α) (hn : bsKF k (k y) l = false) : (putK k y l).length = l.length + 1 := by
  rw [← put_new k h y hn]
  have : bsK k (k y) l ≤ l.length := (bsG_in _ _ _ _ (Nat.zero_le _)).2
  simp; omega
theorem put_old {l : List α} (h : Up k l) (y : α) (hn : bsKF k (k y) l = true) : bsK k (k y) l < l.length ∧ l.set (bsK k (k y) l) y = putK k y l := by
  obtain ⟨a, b, rfl, ha, hb⟩ := up_split k h (k y)
  unfold bsKF at hn
  rw [bsK_app k ha hb] at hn ⊢
  rw [putK_app k ha]
  rw [List.getElem?_append_right (Nat.le_refl _), Nat.sub_self] at hn
  cases b with
  | nil => simp at hn
  | cons x r =>
    simp at hn
    simp only [putK]
    rw [if_neg (by omega), if_pos hn]
    simp
theorem take_out {l : List α} (h : Up k l) (n : Int) (hn : bsKF k n l = true) : bsK k n l < l.length ∧ l.take (bsK k n l) ++ l.drop (bsK k n l + 1) = l.filter fun x => decide (k x ≠ n) := by
  obtain ⟨a, b, rfl, ha, hb⟩ := up_split k h n
  unfold bsKF at hn
  rw [bsK_app k ha hb] at hn ⊢
  rw [List.getElem?_append_right (Nat.le_refl _), Nat.sub_self] at hn
  cases b with
  | nil => simp at hn
  | cons x r =>
    simp at hn
    have h2 := (List.pairwise_cons.1 (List.pairwise_append.1 h).2.1).1
    have e1 : a.filter (fun x => decide (k x ≠ n)) = a := by
      rw [List.filter_eq_self]; intro z hz; have := ha z hz; simp; omega
    have e2 : r.filter (fun x => decide (k x ≠ n)) = r := by
      rw [List.filter_eq_self]; intro z hz; have := h2 z hz; simp; omega
    refine ⟨by simp, ?_⟩
    rw [List.filter_append, e1, List.filter_cons_of_neg (by simp [hn]), e2, List.take_left, ← List.drop_drop, List.drop_left]
    rfl
theorem find_up {l : List α} (h : Up k l) (n : Int) : (bsKF k n l = true → ∃ x, l[bsK k n l]? = some x ∧ k x = n ∧ l.find? (fun x => decide (k x = n)) = some x) ∧ (bsKF k n l = false → l.find? (fun x => decide (k x = n)) = none) := by
  obtain ⟨a, b, rfl, ha, hb⟩ := up_split k h n
  constructor
  · intro hn
    unfold bsKF at hn
    rw [bsK_app k ha hb] at hn ⊢
    rw [List.getElem?_append_right (Nat.le_refl _), Nat.sub_self] at hn ⊢
    cases b with
    | nil => simp at hn
    | cons x r =>
      simp at hn
      refine ⟨x, rfl, hn, ?_⟩
      rw [List.find?_append, List.find?_eq_none.2 (fun z hz => by have := ha z hz; simp; omega)]
      simp [hn]
  · intro hn
    rw [bsKF_eq k h, List.any_eq_false] at hn
    exact List.find?_eq_none.2 hn
theorem bsK_le (n : Int) (l : List α) : bsK k n l ≤ l.length := (bsG_in _ _ _ _ (Nat.zero_le _)).2
theorem bsKF_lt {n : Int} {l : List α} (h : bsKF k n l = true) : bsK k n l < l.length := by
  unfold bsKF at h
  rcases Nat.lt_or_ge (bsK k n l) l.length with h1 | h1
  · exact h1
  · rw [List.getElem?_eq_none h1] at h; cases h
theorem putK_mem {y x : α} : ∀ {l : List α}, x ∈ putK k y l → x = y ∨ x ∈ l
  | [], h => by simp [putK] at h; exact .inl h
  | z :: r, h => by
    simp only [putK] at h
    split at h
    · simpa using h
    · split at h
      · rcases List.mem_cons.1 h with h | h
        · exact .inl h
        · exact .inr (List.mem_cons_of_mem _ h)
      · rcases List.mem_cons.1 h with h | h
        · exact .inr (by simp [h])
        · exact (putK_mem h).imp id (List.mem_cons_of_mem _)
theorem putK_up {y : α} : ∀ {l : List α}, Up k l → Up k (putK k y l)
  | [], _ => by simp [putK, Up]
  | z :: r, h => by
    obtain ⟨h1, h2⟩ := List.pairwise_cons.1 h
    simp only [putK]
    split
    · rename_i hlt
      refine List.pairwise_cons.2 ⟨fun x hx => ?_, h⟩
      rcases List.mem_cons.1 hx with rfl | hx
      · exact hlt
      · have := h1 x hx; omega
    · split
      · rename_i he
        exact List.pairwise_cons.2 ⟨fun x hx => by have := h1 x hx; omega, h2⟩
      · rename_i hn1 hn2
        refine List.pairwise_cons.2 ⟨fun x hx => ?_, putK_up h2⟩
        rcases putK_mem k hx with rfl | hx
        · omega
        · exact h1 x hx
theorem putK_len {y : α} : ∀ {l : List α}, (putK k y l).length ≤ l.length + 1
  | [] => by simp [putK]
  | z :: r => by
    simp only [putK]
    split
    · simp
    · split
      · simp
      · have := putK_len (y := y) (l := r); simp; omega
def insD (y : α) : List α → List α
  | [] => [y]
  | x :: r => if k x > k y then y :: x :: r else x :: insD y r
theorem insD_eq {y : α} : ∀ {l : List α}, (l.any fun x => decide (k x = k y)) = false → insD k y l = putK k y l
  | [], _ => rfl
  | x :: r, h => by
    simp only [List.any_cons, Bool.or_eq_false_iff, decide_eq_false_iff_not] at h
    simp only [insD, putK]
    split
    · rfl
    · rw [if_neg h.1, insD_eq h.2]
end
abbrev idI (x : Int) : Int := x
def k0 : List AV → Int
  | .lit (.int _ s) :: _ => s
  | _ => 0
theorem bsL_map {α : Type} (f : α → List AV) (k : α → Int) (n : Int) (cf : List AV → Int) (h : ∀ x, cf (f x) = cmpI (k x) n) (l : List α) : bsL cf (l.map f) = bsK k n l ∧ bsF cf (l.map f) = bsKF k n l := by
  have e : ltL cf (l.map f) = ltK k n l := by
    funext m
    simp only [ltL, ltK, List.getElem?_map]
    cases l[m]? with
    | none => rfl
    | some x => simp only [Option.map_some]; exact decide_eq_decide.2 (by rw [h]; exact cmpI_lt)
  have h1 : bsL cf (l.map f) = bsK k n l := by
    unfold bsL bsK
    rw [List.length_map, ← e]
  refine ⟨h1, ?_⟩
  unfold bsF bsKF
  rw [h1, List.getElem?_map]
  cases l[bsK k n l]? with
  | none => rfl
  | some x => simp only [Option.map_some]; exact decide_eq_decide.2 (by rw [h]; exact cmpI_eq)
structure Chan where
 id : Int
 owner : Int
 mem : List Int
def eC (x : Chan) : List AV := [iv x.id, iv x.owner, .ro 1 (ints x.mem)]
def noC : Chan := ⟨0, 0, []⟩
def mayC (x : Chan) : Bool := btw x.id 1 1048576 && btw x.mem.length 1 16 && riseU 0 x.mem && hasI x.mem x.owner
def inC (x : Chan) (u : Int) : Bool := mayC x && hasI x.mem u
def openC (id u : Int) : Chan × Int := if mayC ⟨id, u, [u]⟩ = true then (⟨id, u, [u]⟩, 0) else (noC, 1)
abbrev bsI (l : List Int) (n : Int) : Nat := bsK idI n l
abbrev bsB (l : List Int) (n : Int) : Bool := bsKF idI n l
def I104 (l : List Int) (y : Int) (m : Nat) (st : St) : Prop := ∃ i j : Nat, i ≤ j ∧ j ≤ l.length ∧ m = j - i ∧ bsI l y = bsG (ltK idI y l) (j - i) i j ∧ st = ⟨[(0, .ro 1 (ints l)), (1, iv y), (6, iv (l.length : Nat)), (7, iv (i : Nat)), (8, iv (j : Nat))], [], []⟩
theorem c141 : chkFn Tryz.prog 141 17 2 a141 a141R = true := by kernel_rfl
theorem d141 (x y : Int) : DoesT 141 [iv x, iv y] (bv (decide (x < y))) := by
 refine Does.of (nt := 17) (ac := a141) (rds := a141R) c141 (fun c hc => ?_)
 unfold a141
 apply J.seq
 refine J.regE (by simp; rfl) ?_
 simp
 apply J.seq
 apply J.reg
 refine runL_step rfl (by simp; rfl) ?_
 refine runL_tree rfl (d110 _) (by simp) hc ?_
 simp
 iterate 2 refine runL_step rfl (by simp; rfl) ?_
 refine runL_pass (b := _) rfl (by simp) ?_
 simp
 iterate 8 refine runL_step rfl (by simp; rfl) ?_
 simp [runL]
 apply J.ret
 refine ⟨by simp, rfl, _, [], by simp [a141R]; rfl, ?_⟩
 simp
theorem c104 : chkFn Tryz.prog 104 54 2 a104 a104R = true := by kernel_rfl
theorem d104 (l : List Int) (y : Int) (hf : l.length < 1000000) : DoesT 104 [.ro 1 (ints l), iv y] (.tup [iv (bsI l y : Nat), bv (bsB l y)]) := by
 have hple := bsK_le idI y l
 refine Does.of (nt := 54) (ac := a104) (rds := a104R) c104 (fun c hc => ?_)
 unfold a104
 apply J.seq
 refine J.regE (by simp; rfl) ?_
 simp
 apply J.seq
 refine J.regE (by simp; rfl) ?_
 simp
 apply J.seq
 refine J.regE (by simp; rfl) ?_
 simp
 apply J.seq
 apply J.block
 refine J.loop hc (I104 l y) ?_ ?_
 ·exact ⟨_, _, St.le_refl _, 0, l.length, by omega, by omega, rfl, rfl, by simp⟩
 rintro n st ⟨i, j, hij, hj, rfl, hI, rfl⟩
 apply J.seq
 apply J.seq
 refine J.regE (by simp; rfl) ?_
 simp
 apply J.cond; simp
 refine ⟨fun hlt => ?_, fun hlt => ?_⟩
 ·
  obtain ⟨m, hm⟩ : ∃ m : Nat, m = (i + j) / 2 := ⟨_, rfl⟩
  obtain ⟨hw1, hw3⟩ := half_wrap hm (by omega) (by omega)
  obtain ⟨x, hx, hgx, hg, hge, hdr, hwm, hlt2⟩ := getI (show m < l.length by omega) hf
  obtain ⟨k, hk⟩ : ∃ k, j - i = k + 1 := ⟨j - i - 1, by omega⟩
  rw [hk] at hI
  simp only [bsG, ← hm, ltK, hx, idI, if_pos hlt, decide_eq_true_eq] at hI
  apply J.skip; simp
  apply J.block
  apply J.seq
  refine J.regE (by simp [hw1, hw3]; rfl) ?_
  simp
  apply J.seq
  apply J.reg
  iterate 5 refine runL_step rfl (by simp [hlt2, hg, hge]; rfl) ?_
  refine runL_tree rfl (d141 x y) (by simp) hc ?_
  simp
  simp [runL]
  apply J.cond; simp
  refine ⟨fun hb => ?_, fun hb => ?_⟩
  ·
   rw [if_pos hb] at hI
   have hI2 : bsI l y = bsG (ltK idI y l) (j - (m + 1)) (m + 1) j := by rw [hI]; exact bsG_fuel _ _ _ _ _ (by omega) (by omega)
   refine J.regE (by simp [hwm]; rfl) ?_
   simp
   refine ⟨_, ?_, _, ?_, m + 1, j, by omega, hj, rfl, hI2, rfl⟩
   ·omega
   ·apply le_sub <;> simp
  ·
   rw [if_neg (by omega)] at hI
   have hI2 : bsI l y = bsG (ltK idI y l) (m - i) i m := by rw [hI]; exact bsG_fuel _ _ _ _ _ (by omega) (by omega)
   refine J.regE (by simp; rfl) ?_
   simp
   refine ⟨_, ?_, _, ?_, i, m, by omega, by omega, rfl, hI2, rfl⟩
   ·omega
   apply le_sub <;> simp
 ·
  have hji : j = i := by omega
  subst hji
  have hp : bsI l y = j := by rw [hI]; simp [bsG]
  apply J.exit; simp
  apply J.seq
  by_cases hil : j < l.length
  ·
   obtain ⟨x, hx, hgx, hg, hge, hdr, hwm, hlt2⟩ := getI hil hf
   have hf2 : bsB l y = decide (x = y) := by simp [bsB, bsKF, hp, hx]
   apply J.reg
   iterate 12 refine runL_step rfl (by simp [hil, hlt2, hg, hge]; rfl) ?_
   refine runL_if rfl (fun g42 => ?_) (fun g42 => ?_)
   ·
    try simp only [g42]
    try simp at g42
    iterate 4 refine runL_step rfl (by simp [hil, hlt2, hg, hge]; rfl) ?_
    refine runL_do (by simp) ?_
    refine runL_tree rfl (d142 _) (by simp) hc ?_
    simp
    iterate 2 refine runL_step rfl (by simp [hil, hlt2, hg, hge]; rfl) ?_
    refine runL_pass (b := _) rfl (by simp) ?_
    simp
    iterate 5 refine runL_step rfl (by simp [hil, hlt2, hg, hge]; rfl) ?_
    simp [runL]
    apply J.ret
    refine ⟨by simp, rfl, _, [], by simp [a104R]; rfl, ?_⟩
    simp [hp, hf2]; exact g42
   ·
    try simp only [g42]
    try simp at g42
    iterate 3 refine runL_step rfl (by simp [hil, hlt2, hg, hge]; rfl) ?_
    refine runL_pass (b := _) rfl (by simp) ?_
    simp
    iterate 2 refine runL_step rfl (by simp [hil, hlt2, hg, hge]; rfl) ?_
    refine runL_pass (b := _) rfl (by simp) ?_
    simp
    iterate 5 refine runL_step rfl (by simp [hil, hlt2, hg, hge]; rfl) ?_
    simp [runL]
    apply J.ret
    refine ⟨by simp, rfl, _, [], by simp [a104R]; rfl, ?_⟩
    simp [hp, hf2]; exact g42
  ·
   have hf2 : bsB l y = false := by simp [bsB, bsKF, hp, List.getElem?_eq_none (show l.length ≤ j by omega)]
   apply J.reg
   iterate 16 refine runL_step rfl (by simp [hil]; rfl) ?_
   refine runL_pass (b := _) rfl (by simp) ?_
   simp
   iterate 2 refine runL_step rfl (by simp [hil]; rfl) ?_
   refine runL_pass (b := _) rfl (by simp) ?_
   simp
   iterate 5 refine runL_step rfl (by simp [hil]; rfl) ?_
   simp [runL]
   apply J.ret
   refine ⟨by simp, rfl, _, [], by simp [a104R]; rfl, ?_⟩
   simp [hp, hf2]
def delI (u : Int) (l : List Int) : List Int := l.filter fun y => decide (idI y ≠ u)
def joinC (x : Chan) (u : Int) : Chan × Int := if mayC x = false ∨ riseU 0 [u] = false then (noC, 1) else if hasI x.mem u = true then (noC, 6) else if 16 ≤ x.mem.length then (noC, 7) else ({ x with mem := putK idI u x.mem }, 0)
def leaveC (x : Chan) (u : Int) : Chan × Int := if mayC x = false then (noC, 1) else if hasI x.mem u = false then (noC, 5) else if x.owner = u then (noC, 8) else ({ x with mem := delI u x.mem }, 0)
theorem riseU_up : ∀ {l : List Int} {p : Int}, riseU p l = true → Up idI l ∧ ∀ x ∈ l, p < x ∧ x ≤ 1048576
 | [], _, _ => ⟨List.Pairwise.nil, by simp⟩
 | x :: r, p, h => by
  simp only [riseU, Bool.and_eq_true, decide_eq_true_eq] at h
  obtain ⟨h1, h2⟩ := riseU_up h.2
  refine ⟨List.pairwise_cons.2 ⟨fun y hy => (h2 y hy).1, h1⟩, fun y hy => ?_⟩
  rcases List.mem_cons.1 hy with rfl | hy
  ·exact h.1
  ·have := h2 y hy; omega
theorem mayC_spec {x : Chan} (h : mayC x = true) : (1 ≤ x.id ∧ x.id ≤ 1048576) ∧ (1 ≤ x.mem.length ∧ x.mem.length ≤ 16) ∧ riseU 0 x.mem = true ∧ hasI x.mem x.owner = true := by
 simp only [mayC, btw, Bool.and_eq_true, decide_eq_true_eq] at h
 exact ⟨h.1.1.1, by omega, h.1.2, h.2⟩
theorem bsB_has {l : List Int} (h : Up idI l) (n : Int) : bsB l n = hasI l n := bsKF_eq idI h n
theorem c29 : chkFn Tryz.prog 29 32 1 a29 a29R = true := by kernel_rfl
theorem d29 (x : Chan) (hf : x.mem.length < 1000000) : DoesT 29 [.agg (eC x)] (bv (mayC x)) := by
 refine Does.of (nt := 32) (ac := a29) (rds := a29R) c29 (fun c hc => ?_)
 unfold a29
 apply J.seq
 refine J.regE (by simp [eC]; rfl) ?_
 simp
 apply J.seq
 apply J.seq
 refine J.regE (by simp; rfl) ?_
 simp
 apply J.block
 apply J.seq
 apply J.seq
 apply J.reg
 iterate 4 refine runL_step rfl (by simp; rfl) ?_
 refine runL_if rfl (fun g11 => ?_) (fun g11 => ?_)
 ·
  try simp only [g11]
  try simp at g11
  iterate 5 refine runL_step rfl (by simp; rfl) ?_
  simp [runL]
  refine J.condB rfl (fun h7 => ?_) (fun h7 => ?_)
  ·
   try simp only [h7]
   try simp at h7
   apply J.skip; simp
   apply J.cond; simp
   apply J.seq
   refine J.regE (by simp; rfl) ?_
   simp
   apply J.ret
   refine ⟨by simp, rfl, _, [], by simp [a29R]; rfl, ?_⟩
   first | (simp [mayC, btw, *]; done) | (simp [mayC, btw, *]; omega) | trace_state
  ·
   try simp only [h7]
   try simp at h7
   apply J.reg
   iterate 3 refine runL_step rfl (by simp; rfl) ?_
   refine runL_if rfl (fun g18 => ?_) (fun g18 => ?_)
   ·
    try simp only [g18]
    try simp at g18
    iterate 4 refine runL_step rfl (by simp; rfl) ?_
    simp [runL]
    refine J.condB rfl (fun h7 => ?_) (fun h7 => ?_)
    ·
     try simp only [h7]
     try simp at h7
     apply J.seq
     refine J.regE (by simp; rfl) ?_
     simp
     apply J.ret
     refine ⟨by simp, rfl, _, [], by simp [a29R]; rfl, ?_⟩
     first | (simp [mayC, btw, *]; done) | (simp [mayC, btw, *]; omega) | trace_state
    ·
     try simp only [h7]
     try simp at h7
     apply J.skip; simp
     apply J.seq
     apply J.reg
     iterate 2 refine runL_step rfl (by simp; rfl) ?_
     refine runL_tree rfl (d74 _ hf) (by simp) hc ?_
     simp
     refine runL_step rfl (by simp; rfl) ?_
     refine runL_if rfl (fun g25 => ?_) (fun g25 => ?_)
     ·
      try simp only [g25]
      try simp at g25
      iterate 4 refine runL_step rfl (by simp; rfl) ?_
      refine runL_do (by simp) ?_
      refine runL_tree rfl (d75 _ _ hf) (by simp) hc ?_
      simp
      iterate 2 refine runL_step rfl (by simp; rfl) ?_
      simp [runL]
      apply J.ret
      refine ⟨by simp, rfl, _, [], by simp [a29R]; rfl, ?_⟩
      first | (simp [mayC, btw, *]; done) | (simp [mayC, btw, *]; omega) | trace_state
     ·
      try simp only [g25]
      try simp at g25
      iterate 3 refine runL_step rfl (by simp; rfl) ?_
      refine runL_pass (b := _) rfl (by simp) ?_
      simp
      iterate 2 refine runL_step rfl (by simp; rfl) ?_
      simp [runL]
      apply J.ret
      refine ⟨by simp, rfl, _, [], by simp [a29R]; rfl, ?_⟩
      first | (simp [mayC, btw, *]; done) | (simp [mayC, btw, *]; omega) | trace_state
   ·
    try simp only [g18]
    try simp at g18
    iterate 3 refine runL_step rfl (by simp; rfl) ?_
    simp [runL]
    apply J.cond; simp
    apply J.seq
    refine J.regE (by simp; rfl) ?_
    simp
    apply J.ret
    refine ⟨by simp, rfl, _, [], by simp [a29R]; rfl, ?_⟩
    first | (simp [mayC, btw, *]; done) | (simp [mayC, btw, *]; omega) | trace_state
 ·
  try simp only [g11]
  try simp at g11
  iterate 4 refine runL_step rfl (by simp; rfl) ?_
  simp [runL]
  apply J.cond; simp
  apply J.skip; simp
  apply J.cond; simp
  apply J.seq
  refine J.regE (by simp; rfl) ?_
  simp
  apply J.ret
  refine ⟨by simp, rfl, _, [], by simp [a29R]; rfl, ?_⟩
  first | (simp [mayC, btw, *]; done) | (simp [mayC, btw, *]; omega) | trace_state
theorem c73 : chkFn Tryz.prog 73 13 2 a73 a73R = true := by kernel_rfl
theorem d73 (x : Chan) (u : Int) (hf : x.mem.length < 1000000) : DoesT 73 [.agg (eC x), iv u] (bv (inC x u)) := by
 refine Does.of (nt := 13) (ac := a73) (rds := a73R) c73 (fun c hc => ?_)
 unfold a73
 apply J.seq
 refine J.regE (by simp [eC, eC]; rfl) ?_
 simp
 apply J.seq
 apply J.reg
 refine runL_step rfl (by simp [eC]; rfl) ?_
 refine runL_tree rfl (d29 x hf) (by simp) hc ?_
 simp
 refine runL_step rfl (by simp [eC]; rfl) ?_
 refine runL_if rfl (fun g7 => ?_) (fun g7 => ?_)
 ·
  try simp only [g7]
  try simp at g7
  iterate 3 refine runL_step rfl (by simp [eC]; rfl) ?_
  refine runL_do (by simp) ?_
  refine runL_tree rfl (d75 _ _ hf) (by simp) hc ?_
  simp
  iterate 2 refine runL_step rfl (by simp [eC]; rfl) ?_
  simp [runL]
  apply J.ret
  refine ⟨by simp, rfl, _, [], by simp [a73R]; rfl, ?_⟩
  simp [inC, *]
 ·
  try simp only [g7]
  try simp at g7
  iterate 2 refine runL_step rfl (by simp [eC]; rfl) ?_
  refine runL_pass (b := _) rfl (by simp) ?_
  simp
  iterate 2 refine runL_step rfl (by simp [eC]; rfl) ?_
  simp [runL]
  apply J.ret
  refine ⟨by simp, rfl, _, [], by simp [a73R]; rfl, ?_⟩
  simp [inC, *]
theorem c70 : chkFn Tryz.prog 70 17 2 a70 a70R = true := by kernel_rfl
theorem d70 (id u : Int) : DoesT 70 [iv id, iv u] (.tup [.agg (eC (openC id u).1), iv (openC id u).2]) := by
 refine Does.of (nt := 17) (ac := a70) (rds := a70R) c70 (fun c hc => ?_)
 unfold a70
 apply J.seq
 refine J.regE (by simp; rfl) ?_
 simp
 apply J.seq
 refine J.regE (by simp; rfl) ?_
 simp
 refine J.freeze hc 70010 rfl ?_
 simp
 apply J.seq
 apply J.seq
 apply J.reg
 refine runL_step rfl (by simp; rfl) ?_
 refine runL_tree rfl (d29 ⟨id, u, [u]⟩ (by simp)) (by simp [eC]) hc ?_
 simp
 refine runL_step rfl (by simp; rfl) ?_
 simp [runL]
 refine J.condB rfl (fun h14 => ?_) (fun h14 => ?_)
 ·
  try simp only [h14]
  try simp at h14
  apply J.seq
  refine J.regE (by simp; rfl) ?_
  simp
  refine J.nz hc ?_
  simp
  apply J.ret
  refine ⟨by simp, rfl, _, [], by simp [a70R]; rfl, ?_⟩
  simp [openC, eC, noC, ints, *]
 ·
  try simp only [h14]
  try simp at h14
  apply J.skip; simp
  apply J.seq
  refine J.regE (by simp; rfl) ?_
  simp
  refine J.nz hc ?_
  simp
  apply J.ret
  refine ⟨by simp, rfl, _, [], by simp [a70R]; rfl, ?_⟩
  simp [openC, eC, noC, ints, *]
theorem k81 : chkFn Tryz.prog 81 8 1 (slClone 1 3 8 81005 81007) slCloneR = true := by kernel_rfl
theorem k105 : chkFn Tryz.prog 105 95 3 (slIns 105040 81005 1 3 8 143 144 105025) slInsR = true := by kernel_rfl
theorem k106 : chkFn Tryz.prog 106 33 3 (slDel 81005 1 3 8) slDelR = true := by kernel_rfl
noncomputable def ov143 : OvOK Tryz.prog 143 := ⟨Tryz.f143, 47, 4, 3, by kernel_rfl, by kernel_rfl, by kernel_rfl, by kernel_rfl, by kernel_rfl, by kernel_rfl, by kernel_rfl⟩
theorem d81 (l : List Int) (hf : l.length < 1000000) : Does Tryz.prog 81 [.ro 1 (ints l)] [] [] (fun r m => r = .own 81005 1 0 l.length ∧ m = [(81005, .arr 3 1 (ints l))]) := by
 have := dClone k81 (es := ints l) (by omega) (by simp; omega)
 simpa using this
theorem ints_ins (l : List Int) (p : Nat) (u : Int) : (ints l).take p ++ [[iv u]] ++ (ints l).drop p = ints (l.take p ++ [u] ++ l.drop p) := by simp [ints, List.map_take, List.map_drop]
theorem d105 {l : List Int} {u : Int} (hf : l.length < 1000000) (hu : Up idI l) (hn : hasI l u = false) :
  Does Tryz.prog 105 [.own 81005 1 0 l.length, iv (bsI l u : Nat), .own 71040 1 0 1] [(81005, .arr 3 1 (ints l)), (71040, .arr 3 1 [[iv u]])] [] (fun r m => ∃ b, (b = 81005 ∨ b = 105040) ∧ r = .own b 1 0 (l.length + 1) ∧ m = [(b, .arr 3 1 (ints (putK idI u l)))]) := by
 have := dIns k105 ov143 (es := ints l) (e := [iv u]) (i := bsI l u) (b2 := 71040) (by omega) (by omega) (by omega) (by omega) (by simpa using bsK_le idI u l) (by simpa using hf) (by simp; omega)
 rw [ints_ins, ints_length] at this
 rw [← put_new idI hu u (by rw [← hn]; exact bsB_has hu u)]
 exact this
theorem d106 {l : List Int} {u : Int} (hf : l.length < 1000000) (hu : Up idI l) (hn : hasI l u = true) :
  Does Tryz.prog 106 [.own 81005 1 0 l.length, iv (bsI l u : Nat), iv ((bsI l u : Nat) + 1 : Int)] [(81005, .arr 3 1 (ints l))] [] (fun r m => r = .own 81005 1 0 (l.length - 1) ∧ m = [(81005, .arr 3 1 (ints (delI u l)))]) := by
 obtain ⟨h1, h2⟩ := take_out idI hu u (by rw [← hn]; exact bsB_has hu u)
 have := dDel k106 (es := ints l) (i := bsI l u) (by omega) (by simpa using h1) (by simpa using hf)
 unfold delI
 rw [← h2]
 simpa [ints, List.map_take, List.map_drop] using this
theorem d74s (u : Int) : DoesT 74 [.ro 1 [[iv u]]] (bv (riseU 0 [u])) := d74 [u] (by simp)
theorem c71 : chkFn Tryz.prog 71 44 2 a71 a71R = true := by kernel_rfl
theorem d71 (x : Chan) (u : Int) (hf : x.mem.length < 1000000) : DoesT 71 [.agg (eC x), iv u] (.tup [.agg (eC (joinC x u).1), iv (joinC x u).2]) := by
 refine Does.of (nt := 44) (ac := a71) (rds := a71R) c71 (fun c hc => ?_)
 unfold a71
 apply J.seq
 refine J.regE (by simp [eC, eC]; rfl) ?_
 simp
 apply J.seq
 apply J.reg
 iterate 3 refine runL_step rfl (by simp [eC]; rfl) ?_
 refine runL_tree rfl (d104 _ u hf) (by simp) hc ?_
 simp
 iterate 5 refine runL_step rfl (by simp [eC]; rfl) ?_
 simp [runL]
 apply J.seq
 apply J.block
 apply J.seq
 apply J.reg
 refine runL_step rfl (by simp [eC]; rfl) ?_
 refine runL_tree rfl (d29 x hf) (by simp) hc ?_
 simp
 iterate 2 refine runL_step rfl (by simp [eC]; rfl) ?_
 refine runL_if rfl (fun g19 => ?_) (fun g19 => ?_)
 ·
  try simp only [g19]
  try simp at g19
  iterate 2 refine runL_step rfl (by simp [eC]; rfl) ?_
  refine runL_do (by simp) ?_
  refine runL_view (le_freeze _ 71021 rfl) rfl (by simp [St.freeze]) (d74s u) (by simp) ?_
  rintro rv m1 ⟨rfl, rfl⟩
  refine ⟨rfl, rfl, ?_⟩
  simp
  iterate 3 refine runL_step rfl (by simp [eC]; rfl) ?_
  simp [runL]
  refine J.condB rfl (fun h15 => ?_) (fun h15 => ?_)
  ·
   try simp only [h15]
   try simp at h15
   apply J.seq
   refine J.regE (by simp [eC]; rfl) ?_
   simp
   refine J.nz hc ?_
   simp
   apply J.ret
   refine ⟨by simp, rfl, _, [], by simp [a71R]; rfl, ?_⟩
   simp [joinC, eC, noC, *]
  ·
   try simp only [h15]
   try simp at h15
   apply J.seq
   refine J.regE (by simp [eC]; rfl) ?_
   simp
   have hmay := mayC_spec (x := x) (by assumption)
   obtain ⟨hup, _⟩ := riseU_up hmay.2.2.1
   rw [bsB_has hup u]
   refine J.condB rfl (fun h26 => ?_) (fun h26 => ?_)
   ·
    apply J.seq
    refine J.regE (by simp [eC]; rfl) ?_
    simp
    refine J.nz hc ?_
    simp
    apply J.ret
    refine ⟨by simp, rfl, _, [], by simp [a71R]; rfl, ?_⟩
    simp [joinC, eC, noC, *]
   ·
    apply J.seq
    refine J.regE (by simp [eC]; rfl) ?_
    simp
    refine J.condB rfl (fun h29 => ?_) (fun h29 => ?_)
    ·
     simp at h29
     have h29' : 16 ≤ x.mem.length := by omega
     apply J.seq
     refine J.regE (by simp [eC]; rfl) ?_
     simp
     refine J.nz hc ?_
     simp
     apply J.ret
     refine ⟨by simp, rfl, _, [], by simp [a71R]; rfl, ?_⟩
     simp [joinC, eC, noC, *]
    ·
     simp at h29
     have h29' : ¬ 16 ≤ x.mem.length := by omega
     apply J.skip; simp
     apply J.seq
     have hW : (putK idI u x.mem).length = x.mem.length + 1 := put_new_len idI hup u (by rw [← h26]; exact bsB_has hup u)
     refine J.to hc ⟨[(2, .ptr 71002 0 0 0), (4, .ptr 71004 0 0 0)], [(71002, .obj 49 [iv x.id, iv x.owner, .ro 1 (ints (putK idI u x.mem))]), (71004, .obj 49 [iv 0, iv 0, .nils 1])], []⟩ ?_ ?_
     ·apply J.reg
      iterate 2 refine runL_step rfl (by simp; rfl) ?_
      refine runL_call [] [] rfl rfl (d81 _ hf) (by simp) (by simp) (by simp) hc ?_
      rintro rv m1 ⟨rfl, rfl⟩
      refine ⟨by simp, ?_⟩
      simp
      iterate 3 refine runL_step rfl (by simp; rfl) ?_
      refine runL_call [81005, 71040] [] rfl rfl (by simp; exact d105 hf hup h26) (by simp) (by simp) (by simp) hc ?_
      rintro _ _ ⟨b, rfl | rfl, rfl, rfl⟩
      ·refine ⟨by simp, ?_⟩
       simp
       iterate 2 refine runL_step rfl (by simp; rfl) ?_
       simp [runL]
       refine St.le_trans (le_freeze _ 81005 rfl) ?_
       simp
       apply le_sub <;> simp [hW, List.take_of_length_le (show (putK idI u x.mem).length ≤ x.mem.length + 1 by omega)]
      ·refine ⟨by simp, ?_⟩
       simp
       iterate 2 refine runL_step rfl (by simp; rfl) ?_
       simp [runL]
       refine St.le_trans (le_freeze _ 105040 rfl) ?_
       simp
       apply le_sub <;> simp [hW, List.take_of_length_le (show (putK idI u x.mem).length ≤ x.mem.length + 1 by omega)]
     simp
     apply J.seq
     refine J.regE (by simp [eC]; rfl) ?_
     simp
     refine J.nz hc ?_
     simp
     apply J.ret
     refine ⟨by simp, rfl, _, [], by simp [a71R]; rfl, ?_⟩
     simp [joinC, eC, noC, *]
 ·
  try simp only [g19]
  try simp at g19
  refine runL_step rfl (by simp [eC]; rfl) ?_
  refine runL_pass (b := _) rfl (by simp) ?_
  simp
  iterate 3 refine runL_step rfl (by simp [eC]; rfl) ?_
  simp [runL]
  apply J.cond; simp [eC]
  apply J.seq
  refine J.regE (by simp [eC]; rfl) ?_
  simp
  refine J.nz hc ?_
  simp
  apply J.ret
  refine ⟨by simp, rfl, _, [], by simp [a71R]; rfl, ?_⟩
  simp [joinC, eC, noC, *]
theorem c72 : chkFn Tryz.prog 72 39 2 a72 a72R = true := by kernel_rfl
theorem d72 (x : Chan) (u : Int) (hf : x.mem.length < 1000000) : DoesT 72 [.agg (eC x), iv u] (.tup [.agg (eC (leaveC x u).1), iv (leaveC x u).2]) := by
 refine Does.of (nt := 39) (ac := a72) (rds := a72R) c72 (fun c hc => ?_)
 unfold a72
 apply J.seq
 refine J.regE (by simp [eC, eC]; rfl) ?_
 simp
 apply J.seq
 apply J.reg
 iterate 3 refine runL_step rfl (by simp [eC]; rfl) ?_
 refine runL_tree rfl (d104 _ u hf) (by simp) hc ?_
 simp
 iterate 5 refine runL_step rfl (by simp [eC]; rfl) ?_
 simp [runL]
 apply J.seq
 apply J.block
 apply J.seq
 apply J.reg
 refine runL_step rfl (by simp [eC]; rfl) ?_
 refine runL_tree rfl (d29 x hf) (by simp) hc ?_
 simp
 iterate 2 refine runL_step rfl (by simp [eC]; rfl) ?_
 simp [runL]
 refine J.condB rfl (fun h15 => ?_) (fun h15 => ?_)
 ·
  try simp only [h15]
  try simp at h15
  apply J.seq
  refine J.regE (by simp [eC]; rfl) ?_
  simp
  refine J.nz hc ?_
  simp
  apply J.ret
  refine ⟨by simp, rfl, _, [], by simp [a72R]; rfl, ?_⟩
  simp [leaveC, eC, noC, *]
 ·
  try simp only [h15]
  try simp at h15
  apply J.seq
  refine J.regE (by simp [eC]; rfl) ?_
  simp
  have hmay := mayC_spec (x := x) (by assumption)
  obtain ⟨hup, _⟩ := riseU_up hmay.2.2.1
  rw [bsB_has hup u]
  refine J.condB rfl (fun h20 => ?_) (fun h20 => ?_)
  ·
   simp at h20
   apply J.seq
   refine J.regE (by simp [eC]; rfl) ?_
   simp
   refine J.nz hc ?_
   simp
   apply J.ret
   refine ⟨by simp, rfl, _, [], by simp [a72R]; rfl, ?_⟩
   simp [leaveC, eC, noC, *]
  ·
   simp at h20
   apply J.seq
   refine J.regE (by simp [eC]; rfl) ?_
   simp
   refine J.condB rfl (fun h24 => ?_) (fun h24 => ?_)
   ·
    try simp only [h24]
    try simp at h24
    apply J.seq
    refine J.regE (by simp [eC]; rfl) ?_
    simp
    refine J.nz hc ?_
    simp
    apply J.ret
    refine ⟨by simp, rfl, _, [], by simp [a72R]; rfl, ?_⟩
    simp [leaveC, eC, noC, *]
   ·
    try simp only [h24]
    try simp at h24
    apply J.skip; simp
    apply J.seq
    obtain ⟨hp1, hp2⟩ := take_out idI hup u (by rw [← h20]; exact bsB_has hup u)
    have hp1' : bsI x.mem u < x.mem.length := hp1
    have hW : (delI u x.mem).length = x.mem.length - 1 := by unfold delI; rw [← hp2]; simp; omega
    have hwp : IntKind.i64.wrap (((bsI x.mem u : Nat) : Int) + 1) = ((bsI x.mem u : Nat) : Int) + 1 := wrap_id (by omega) (by omega)
    refine J.to hc ⟨[(2, .ptr 72002 0 0 0), (4, .ptr 72004 0 0 0)], [(72002, .obj 49 [iv x.id, iv x.owner, .ro 1 (ints (delI u x.mem))]), (72004, .obj 49 [iv 0, iv 0, .nils 1])], []⟩ ?_ ?_
    ·apply J.reg
     iterate 2 refine runL_step rfl (by simp; rfl) ?_
     refine runL_call [] [] rfl rfl (d81 _ hf) (by simp) (by simp) (by simp) hc ?_
     rintro rv m1 ⟨rfl, rfl⟩
     refine ⟨by simp, ?_⟩
     simp
     iterate 3 refine runL_step rfl (by simp [hwp]; rfl) ?_
     refine runL_call [81005] [] rfl rfl (by simp; exact d106 hf hup h20) (by simp) (by simp) (by simp) hc ?_
     rintro _ _ ⟨rfl, rfl⟩
     refine ⟨by simp, ?_⟩
     simp
     iterate 2 refine runL_step rfl (by simp; rfl) ?_
     simp [runL]
     refine St.le_trans (le_freeze _ 81005 rfl) ?_
     simp
     apply le_sub <;> simp [hW, List.take_of_length_le (Nat.le_of_eq hW), show x.mem.length ≤ x.mem.length - 1 + 1 by omega]
    simp
    apply J.seq
    refine J.regE (by simp [eC]; rfl) ?_
    simp
    refine J.nz hc ?_
    simp
    apply J.ret
    refine ⟨by simp, rfl, _, [], by simp [a72R]; rfl, ?_⟩
    simp [leaveC, eC, noC, *]
end Go.Proofs.YtadbdchbdjkcdaaGreatDoor.F
