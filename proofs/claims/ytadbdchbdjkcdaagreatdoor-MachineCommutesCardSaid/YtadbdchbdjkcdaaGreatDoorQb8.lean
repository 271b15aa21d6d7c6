/- Parts of a symbolic execution and of walks by it, for the statements of this seat: VCode, VIt, Shelf, VU8, VU9, V1, V9, V10, V11, V2, V3, V4, V5. -/
import Derived.Test.YtadbdchbdjkcdaaGreatDoorQb7
import Derived.Test.YtadbdchbdjkcdaaGreatDoorProg
import Derived.KernelRfl
import Derived.Ground.NamesProg
import Derived.Shelf.Lays
import Derived.Shelf.Unicode.ValidAny
import Derived.WalkKit
import Derived.BigCall
import Derived.Lib.OthersKept
import Derived.Lib.ValidLaws
set_option linter.unusedVariables false
set_option linter.unusedSimpArgs false
namespace Go.Proofs.YtadbdchbdjkcdaaGreatDoor.P16
open Go Go.SX
def a10r0 : AC := .reg [oI 2 (.mov (.c (.lit (.bool false))))] [0]
def a10r1 : AC := .reg [oI 4 (.mov (.s 0)), oI 5 (.len (.s 4)), oI 6 (.iop .gtr (.s 5) (.c (.lit (.int .i64 50))))] [0, 6]
def a10r2 : AC := .reg [oI 2 (.mov (.c (.lit (.bool false))))] [2]
def a10r3 : AC := .reg [oI 3 (.mov (.c (.lit (.int .i64 0))))] [0, 3]
def a10r4 : AC := .reg [oI 7 (.mov (.s 3)), oI 8 (.mov (.s 0)), oI 9 (.len (.s 8)), oI 10 (.iop .lss (.s 7) (.s 9))] [0, 3, 10]
def a10r6 : AC := .reg [oI 13 (.mov (.s 0)), oI 14 (.mov (.s 3)), oI 15 (.iaddr 5 (.s 13) (.s 14)), oI 16 (.faddr 2 (.s 15)), oI 17 (.load 1 false (.s 16)), oI 18 (.slen (.s 17)), oI 19 (.iop .gtr (.s 18) (.c (.lit (.int .i64 200))))] [0, 3, 19]
def a10r7 : AC := .reg [oI 2 (.mov (.c (.lit (.bool false))))] [2]
def a10r5 : AC := .reg [oI 11 (.mov (.s 3)), oI 12 (.iop .add (.s 11) (.c (.lit (.int .i64 1)))), oI 3 (.mov (.s 12))] [0, 3]
def a10L4 : AC := .seq (.seq a10r4 (.cond (.s 10) (.skip) (.exit 0))) (.seq (.block 1 (.seq a10r6 (.cond (.s 19) (.seq a10r7 (.ret)) (.skip)))) a10r5)
def a10r8 : AC := .reg [oI 2 (.mov (.c (.lit (.bool true))))] [2]
def a10 : AC := .seq a10r0 (.seq (.seq a10r1 (.cond (.s 6) (.seq a10r2 (.ret)) (.skip))) (.seq (.seq a10r3 (.block 0 (.loop a10L4))) (.seq a10r8 (.ret))))
def a10R : List RD := [.tmp 2]
def a13r0 : AC := .reg [oI 4 (.mov (.c (.lit (.bool false))))] [0, 1]
def a13r1 : AC := .reg [oI 6 (.mov (.s 0)), oI 7 (.len (.s 6)), oI 8 (.mov (.s 1)), oI 9 (.len (.s 8)), oI 10 (.iop .neq (.s 7) (.s 9))] [0, 1, 10]
def a13r2 : AC := .reg [oI 4 (.mov (.c (.lit (.bool false))))] [4]
def a13r3 : AC := .reg [oI 5 (.mov (.c (.lit (.int .i64 0))))] [0, 1, 5]
def a13r4 : AC := .reg [oI 11 (.mov (.s 5)), oI 12 (.mov (.s 0)), oI 13 (.len (.s 12)), oI 14 (.iop .lss (.s 11) (.s 13))] [0, 1, 5, 14]
def a13r6 : AC := .draw [] (.take 0 (oI 17 (.mov (.s 0))) <| .take 1 (oI 18 (.mov (.s 5))) <| .take 2 (oI 19 (.iaddr 5 (.s 17) (.s 18))) <| .take 3 (oI 20 (.load 5 true (.s 19))) <| .take 4 (oI 21 (.mov (.s 1))) <| .take 5 (oI 22 (.mov (.s 5))) <| .take 6 (oI 23 (.iaddr 5 (.s 21) (.s 22))) <| .take 7 (oI 24 (.load 5 true (.s 23))) <| .take 8 (oI 25 (.seql true [1, 1, 2, 1, 0] (.s 20) (.s 24))) <| .done) [0, 1, 5, 25]
def a13r7 : AC := .reg [oI 4 (.mov (.c (.lit (.bool false))))] [4]
def a13r5 : AC := .reg [oI 15 (.mov (.s 5)), oI 16 (.iop .add (.s 15) (.c (.lit (.int .i64 1)))), oI 5 (.mov (.s 16))] [0, 1, 5]
def a13L4 : AC := .seq (.seq a13r4 (.cond (.s 14) (.skip) (.exit 0))) (.seq (.block 1 (.seq a13r6 (.cond (.s 25) (.seq a13r7 (.ret)) (.skip)))) a13r5)
def a13r8 : AC := .reg [oI 4 (.mov (.c (.lit (.bool true))))] [4]
def a13 : AC := .seq a13r0 (.seq (.seq a13r1 (.cond (.s 10) (.seq a13r2 (.ret)) (.skip))) (.seq (.seq a13r3 (.block 0 (.loop a13L4))) (.seq a13r8 (.ret))))
def a13R : List RD := [.tmp 4]
def a14r0 : AC := .reg [oI 2 (.mov (.c (.lit (.bool false))))] [0]
def a14r1 : AC := .reg [oI 5 (.mov (.s 0)), oI 6 (.len (.s 5)), oI 7 (.mov (.c (.lit (.int .i64 0))))] [0, 5, 6, 7]
def a14r2 : AC := .reg [oI 8 (.iop .lss (.s 7) (.s 6))] [0, 5, 6, 7, 8]
def a14r3 : AC := .reg [oI 9 (.mov (.s 7)), oI 10 (.iaddr 5 (.s 5) (.s 7)), oI 11 (.load 5 true (.s 10)), oI 4 (.alloc 14004 86 [(.lit (.int .i64 0)), (.lit (.int .i64 0)), (.lit (.string ⟨#[]⟩)), (.lit (.int .i64 0)), (.lit (.bool false))]), oI 3 (.mov (.s 9)), oN (.store 5 (.s 4) (.s 11))] [0, 3, 4, 5, 6, 7]
def a14r4 : AC := .draw [] (.take 0 (oI 12 (.load 5 true (.s 4))) <| .alt 1 (oI 13 (.callv (.c (.fn 76 [])) [(.s 12)])) ( .take 2 (oI 14 (.not (.s 13))) <| .take 3 (oI 15 (.mov (.s 14))) <| .take 4 (oG 16 15 false (.mov (.s 3))) <| .take 5 (oG 17 15 false (.iop .gtr (.s 16) (.c (.lit (.int .i64 0))))) <| .take 6 (oG 18 15 false (.mov (.s 17))) <| .take 7 (oG 19 18 true (.faddr 0 (.s 4))) <| .take 8 (oG 20 18 true (.load 1 false (.s 19))) <| .take 9 (oG 21 18 true (.mov (.s 0))) <| .take 10 (oG 22 18 true (.mov (.s 3))) <| .take 11 (oG 23 18 true (.iop .sub (.s 22) (.c (.lit (.int .i64 1))))) <| .take 12 (oG 24 18 true (.iaddr 5 (.s 21) (.s 23))) <| .take 13 (oG 25 18 true (.faddr 0 (.s 24))) <| .take 14 (oG 26 18 true (.load 1 false (.s 25))) <| .take 15 (oG 27 18 true (.iop .add (.s 26) (.c (.lit (.int .i64 1))))) <| .take 16 (oG 28 18 true (.iop .neq (.s 20) (.s 27))) <| .take 17 (oG 29 15 false (.pick (.s 18) (.s 28) (.c (.lit (.bool false))))) <| .take 18 (oI 30 (.pick (.s 15) (.c (.lit (.bool true))) (.s 29))) <| .done) .done) [0, 5, 6, 7, 30]
def a14r5 : AC := .reg [oI 2 (.mov (.c (.lit (.bool false))))] [2]
def a14r6 : AC := .reg [oI 31 (.iop .add (.s 7) (.c (.lit (.int .i64 1)))), oI 7 (.mov (.s 31))] [0, 5, 6, 7]
def a14L2 : AC := .seq a14r2 (.seq (.cond (.s 8) (.skip) (.exit 0)) (.seq (.block 1 (.seq a14r3 (.seq a14r4 (.cond (.s 30) (.seq a14r5 (.ret)) (.skip))))) a14r6))
def a14r7 : AC := .reg [oI 32 (.mov (.s 0)), oI 33 (.len (.s 32)), oI 34 (.iop .leq (.s 33) (.c (.lit (.int .i64 32)))), oI 2 (.mov (.s 34))] [2]
def a14 : AC := .seq a14r0 (.seq (.seq a14r1 (.block 0 (.loop a14L2))) (.seq a14r7 (.ret)))
def a14R : List RD := [.tmp 2]
def a16r0 : AC := .reg [oI 2 (.mov (.c (.lit (.int .i64 0))))] [0]
def a16r1 : AC := .reg [oI 3 (.mov (.s 0)), oI 4 (.callv (.c (.fn 161 [])) [(.s 3)]), oI 0 (.mov (.s 4))] [0]
def a16r2 : AC := .reg [oI 5 (.mov (.s 0)), oI 6 (.len (.s 5)), oI 7 (.iop .gtr (.s 6) (.c (.lit (.int .i64 0))))] [0, 7]
def a16r3 : AC := .reg [oI 8 (.mov (.s 0)), oI 9 (.mov (.s 0)), oI 10 (.len (.s 9)), oI 11 (.iop .sub (.s 10) (.c (.lit (.int .i64 1)))), oI 12 (.iaddr 5 (.s 8) (.s 11)), oI 13 (.faddr 0 (.s 12)), oI 14 (.load 1 false (.s 13)), oI 2 (.mov (.s 14))] [2]
def a16r4 : AC := .reg [oI 2 (.mov (.c (.lit (.int .i64 0))))] [2]
def a16 : AC := .seq a16r0 (.seq (.seq a16r1 (.seq a16r2 (.cond (.s 7) (.seq a16r3 (.ret)) (.skip)))) (.seq a16r4 (.ret)))
def a16R : List RD := [.tmp 2]
def a17r0 : AC := .reg [oI 4 (.alloc 17004 86 [(.lit (.int .i64 0)), (.lit (.int .i64 0)), (.lit (.string ⟨#[]⟩)), (.lit (.int .i64 0)), (.lit (.bool false))]), oI 5 (.mov (.c (.lit (.int .i64 0))))] [0, 1, 4]
def a17r1 : AC := .reg [oI 6 (.alloc 17006 86 [(.lit (.int .i64 0)), (.lit (.int .i64 0)), (.lit (.string ⟨#[]⟩)), (.lit (.int .i64 0)), (.lit (.bool false))])] [0, 1, 4, 6]
def a17r2 : AC := .reg [oI 10 (.mov (.s 0)), oI 11 (.mov (.s 1)), oI 12 (.mkfn 163 [(.s 6)]), oI 13 (.callv (.c (.fn 149 [])) [(.s 10), (.s 11), (.s 12)]), oI 9 (.mov (.s 13)), oI 14 (.extract 0 (.s 9)), oI 15 (.extract 1 (.s 9)), oI 7 (.mov (.s 14)), oI 8 (.mov (.s 15))] [4, 6, 8]
def a17r3 : AC := .reg [oI 16 (.load 5 true (.s 6)), oI 17 (.mov (.s 8)), oN (.store 5 (.s 4) (.s 16)), oI 5 (.mov (.s 17))] [4, 5]
def a17 : AC := .seq a17r0 (.seq a17r1 (.seq a17r2 (.seq a17r3 (.ret))))
def a17R : List RD := [.cell 4 5 true, .tmp 5]
def a18r0 : AC := .reg [oI 4 (.alloc 18004 86 [(.lit (.int .i64 0)), (.lit (.int .i64 0)), (.lit (.string ⟨#[]⟩)), (.lit (.int .i64 0)), (.lit (.bool false))]), oI 5 (.mov (.c (.lit (.int .i64 0))))] [0, 1, 4]
def a18r1 : AC := .reg [oI 8 (.mov (.s 0)), oI 9 (.callv (.c (.fn 155 [])) [(.s 8)]), oI 6 (.mov (.s 9))] [1, 4, 6]
def a18r2 : AC := .reg [oI 10 (.mov (.s 6)), oI 11 (.mov (.s 1)), oI 12 (.callv (.c (.fn 156 [])) [(.s 10), (.s 11)]), oI 7 (.mov (.s 12))] [4, 6, 7]
def a18r3 : AC := .reg [oI 13 (.mov (.s 7)), oI 14 (.iop .lss (.s 13) (.c (.lit (.int .i64 0))))] [4, 6, 7, 14]
def a18r4 : AC := .reg [oI 15 (.build [(.lit (.int .i64 0)), (.lit (.int .i64 0)), (.lit (.string ⟨#[]⟩)), (.lit (.int .i64 0)), (.lit (.bool false))] []), oN (.store 5 (.s 4) (.s 15)), oI 5 (.mov (.c (.lit (.int .i64 5))))] [4, 5]
def a18r5 : AC := .reg [oI 16 (.mov (.s 6)), oI 17 (.mov (.s 7)), oI 18 (.iaddr 5 (.s 16) (.s 17)), oI 19 (.load 5 true (.s 18)), oN (.store 5 (.s 4) (.s 19)), oI 5 (.mov (.c (.lit (.int .i64 0))))] [4, 5]
def a18 : AC := .seq a18r0 (.seq a18r1 (.seq a18r2 (.seq (.seq a18r3 (.cond (.s 14) (.seq a18r4 (.ret)) (.skip))) (.seq a18r5 (.ret)))))
def a18R : List RD := [.cell 4 5 true, .tmp 5]
def a20r0 : AC := .reg [oI 2 (.mov (.c (.lit (.bool false))))] [0]
def a20r1 : AC := .reg [oI 5 (.mov (.s 0)), oI 6 (.len (.s 5)), oI 7 (.iop .gtr (.s 6) (.c (.lit (.int .i64 32))))] [0, 7]
def a20r2 : AC := .reg [oI 2 (.mov (.c (.lit (.bool false))))] [2]
def a20r3 : AC := .reg [oI 3 (.mov (.c (.lit (.int .i64 0))))] [0, 3]
def a20r4 : AC := .reg [oI 8 (.mov (.s 3)), oI 9 (.mov (.s 0)), oI 10 (.len (.s 9)), oI 11 (.iop .lss (.s 8) (.s 10))] [0, 3, 11]
def a20r6 : AC := .reg [oI 14 (.mov (.s 0)), oI 15 (.mov (.s 3)), oI 16 (.iaddr 5 (.s 14) (.s 15)), oI 17 (.load 5 true (.s 16)), oI 18 (.callv (.c (.fn 100 [])) [(.s 17)]), oI 4 (.mov (.s 18))] [0, 3, 4]
def a20r7 : AC := .draw [] (.take 0 (oI 19 (.mov (.s 4))) <| .take 1 (oI 20 (.not (.s 19))) <| .take 2 (oI 21 (.mov (.s 20))) <| .take 3 (oG 22 21 false (.mov (.s 3))) <| .take 4 (oG 23 21 false (.iop .gtr (.s 22) (.c (.lit (.int .i64 0))))) <| .take 5 (oG 24 21 false (.mov (.s 23))) <| .take 6 (oG 25 24 true (.mov (.s 0))) <| .take 7 (oG 26 24 true (.mov (.s 3))) <| .take 8 (oG 27 24 true (.iaddr 5 (.s 25) (.s 26))) <| .take 9 (oG 28 24 true (.faddr 0 (.s 27))) <| .take 10 (oG 29 24 true (.load 1 false (.s 28))) <| .take 11 (oG 30 24 true (.mov (.s 0))) <| .take 12 (oG 31 24 true (.mov (.s 3))) <| .take 13 (oG 32 24 true (.iop .sub (.s 31) (.c (.lit (.int .i64 1))))) <| .take 14 (oG 33 24 true (.iaddr 5 (.s 30) (.s 32))) <| .take 15 (oG 34 24 true (.faddr 0 (.s 33))) <| .take 16 (oG 35 24 true (.load 1 false (.s 34))) <| .take 17 (oG 36 24 true (.iop .add (.s 35) (.c (.lit (.int .i64 1))))) <| .take 18 (oG 37 24 true (.iop .neq (.s 29) (.s 36))) <| .take 19 (oG 38 21 false (.pick (.s 24) (.s 37) (.c (.lit (.bool false))))) <| .take 20 (oI 39 (.pick (.s 21) (.c (.lit (.bool true))) (.s 38))) <| .done) [0, 3, 39]
def a20r8 : AC := .reg [oI 2 (.mov (.c (.lit (.bool false))))] [2]
def a20r5 : AC := .reg [oI 12 (.mov (.s 3)), oI 13 (.iop .add (.s 12) (.c (.lit (.int .i64 1)))), oI 3 (.mov (.s 13))] [0, 3]
def a20L4 : AC := .seq (.seq a20r4 (.cond (.s 11) (.skip) (.exit 0))) (.seq (.block 1 (.seq a20r6 (.seq a20r7 (.cond (.s 39) (.seq a20r8 (.ret)) (.skip))))) a20r5)
def a20r9 : AC := .reg [oI 2 (.mov (.c (.lit (.bool true))))] [2]
def a20 : AC := .seq a20r0 (.seq (.seq a20r1 (.cond (.s 7) (.seq a20r2 (.ret)) (.skip))) (.seq (.seq a20r3 (.block 0 (.loop a20L4))) (.seq a20r9 (.ret))))
def a20R : List RD := [.tmp 2]
def a21r0 : AC := .reg [oI 2 (.mov (.c (.lit (.int .i64 0))))] [0]
def a21r1 : AC := .reg [oI 4 (.mov (.s 0)), oI 5 (.callv (.c (.fn 155 [])) [(.s 4)]), oI 3 (.mov (.s 5))] [3]
def a21r2 : AC := .reg [oI 6 (.mov (.s 3)), oI 7 (.len (.s 6)), oI 8 (.iop .eql (.s 7) (.c (.lit (.int .i64 0))))] [3, 8]
def a21r3 : AC := .reg [oI 2 (.mov (.c (.lit (.int .i64 0))))] [2]
def a21r4 : AC := .reg [oI 9 (.mov (.s 3)), oI 10 (.mov (.s 3)), oI 11 (.len (.s 10)), oI 12 (.iop .sub (.s 11) (.c (.lit (.int .i64 1)))), oI 13 (.iaddr 5 (.s 9) (.s 12)), oI 14 (.faddr 0 (.s 13)), oI 15 (.load 1 false (.s 14)), oI 2 (.mov (.s 15))] [2]
def a21 : AC := .seq a21r0 (.seq a21r1 (.seq (.seq a21r2 (.cond (.s 8) (.seq a21r3 (.ret)) (.skip))) (.seq a21r4 (.ret))))
def a21R : List RD := [.tmp 2]
def a22r0 : AC := .reg [oI 6 (.box 22006 3 1 (.s 2)), oI 7 (.box 22007 9 1 (.s 3)), oI 8 (.mov (.c (.nils 5))), oI 9 (.mov (.c (.lit (.int .i64 0))))] [0, 1, 6, 7]
def a22r1 : AC := .reg [oI 10 (.load 1 false (.s 7)), oI 11 (.callv (.c (.fn 108 [])) [(.s 10)]), oI 12 (.not (.s 11))] [0, 1, 6, 7, 12]
def a22r2 : AC := .reg [oI 8 (.mov (.c (.nils 5))), oI 9 (.mov (.c (.lit (.int .i64 1))))] [8, 9]
def a22r3 : AC := .reg [oI 13 (.mov (.s 0)), oI 14 (.mov (.s 1)), oI 15 (.mkfn 150 [(.s 6), (.s 7)]), oI 16 (.callv (.c (.fn 149 [])) [(.s 13), (.s 14), (.s 15)]), oI 17 (.extract 0 (.s 16)), oI 18 (.extract 1 (.s 16)), oI 8 (.mov (.s 17)), oI 9 (.mov (.s 18))] [8, 9]
def a22 : AC := .seq a22r0 (.seq (.seq a22r1 (.cond (.s 12) (.seq a22r2 (.ret)) (.skip))) (.seq a22r3 (.ret)))
def a22R : List RD := [.tmp 8, .tmp 9]
def a23r0 : AC := .reg [oI 6 (.box 23006 3 1 (.s 2)), oI 7 (.box 23007 3 1 (.s 3)), oI 8 (.mov (.c (.nils 5))), oI 9 (.mov (.c (.lit (.int .i64 0))))] [0, 1, 6, 7]
def a23r1 : AC := .reg [oI 10 (.mov (.s 0)), oI 11 (.mov (.s 1)), oI 12 (.mkfn 151 [(.s 6), (.s 7)]), oI 13 (.callv (.c (.fn 149 [])) [(.s 10), (.s 11), (.s 12)]), oI 14 (.extract 0 (.s 13)), oI 15 (.extract 1 (.s 13)), oI 8 (.mov (.s 14)), oI 9 (.mov (.s 15))] [8, 9]
def a23 : AC := .seq a23r0 (.seq a23r1 (.ret))
def a23R : List RD := [.tmp 8, .tmp 9]
def a24r0 : AC := .reg [oI 6 (.mov (.c (.nils 5))), oI 7 (.mov (.c (.lit (.int .i64 0))))] [0, 1, 2]
def a24r1 : AC := .reg [oI 9 (.mov (.s 0)), oI 10 (.callv (.c (.fn 161 [])) [(.s 9)]), oI 0 (.mov (.s 10))] [0, 1, 2]
def a24r2 : AC := .reg [oI 11 (.mov (.s 0)), oI 12 (.callv (.c (.fn 148 [])) [(.s 11)]), oI 8 (.mov (.s 12))] [0, 1, 2, 8]
def a24r3 : AC := .reg [oI 14 (.mov (.s 1)), oI 15 (.callv (.c (.fn 109 [])) [(.s 14), (.c (.lit (.int .i64 1))), (.c (.lit (.int .i64 1048576)))]), oI 16 (.not (.s 15)), oI 17 (.mov (.s 16)), oG 18 17 false (.mov (.s 2)), oG 19 17 false (.callv (.c (.fn 108 [])) [(.s 18)]), oG 20 17 false (.not (.s 19)), oI 21 (.pick (.s 17) (.c (.lit (.bool true))) (.s 20)), oI 13 (.mov (.s 21))] [0, 1, 2, 8, 13]
def a24r4 : AC := .reg [oI 6 (.mov (.c (.nils 5))), oI 7 (.mov (.c (.lit (.int .i64 1))))] [6, 7]
def a24r5 : AC := .reg [oI 23 (.mov (.s 8)), oI 24 (.iop .geq (.s 23) (.c (.lit (.int .i64 1073741824)))), oI 22 (.mov (.s 24))] [0, 1, 2, 8, 22]
def a24r6 : AC := .reg [oI 6 (.mov (.c (.nils 5))), oI 7 (.mov (.c (.lit (.int .i64 7))))] [6, 7]
def a24r7 : AC := .reg [oI 25 (.mov (.s 0)), oI 26 (.mov (.s 8)), oI 27 (.iop .add (.s 26) (.c (.lit (.int .i64 1)))), oI 28 (.mov (.s 1)), oI 29 (.mov (.s 2)), oI 30 (.build [(.lit (.int .i64 0)), (.lit (.int .i64 0)), (.lit (.string ⟨#[]⟩)), (.lit (.int .i64 0)), (.lit (.bool false))] [(0, 1, (.s 27)), (1, 1, (.s 28)), (2, 1, (.s 29))]), oI 31 (.bslice 24031 86 5 [(.s 30)]), oI 32 (.append 24032 86 5 48 (.s 25) (.s 31)), oI 0 (.mov (.s 32))] [0]
def a24r8 : AC := .reg [oI 33 (.mov (.s 0)), oI 34 (.mov (.s 0)), oI 35 (.len (.s 34)), oI 36 (.iop .sub (.s 35) (.c (.lit (.int .i64 32)))), oI 37 (.minmax true (.s 36) (.c (.lit (.int .i64 0)))), oI 38 (.slice 5 (.s 33) (some (.s 37)) none), oI 6 (.mov (.s 38)), oI 7 (.mov (.c (.lit (.int .i64 0))))] [6, 7]
def a24 : AC := .seq a24r0 (.seq a24r1 (.seq a24r2 (.seq (.block 0 (.seq a24r3 (.cond (.s 13) (.seq a24r4 (.ret)) (.seq a24r5 (.cond (.s 22) (.seq a24r6 (.ret)) (.skip)))))) (.seq a24r7 (.seq a24r8 (.ret))))))
def a24R : List RD := [.tmp 6, .tmp 7]
def a25r0 : AC := .reg [oI 6 (.mov (.c (.nils 5))), oI 7 (.mov (.c (.lit (.int .i64 0))))] [0, 1, 2]
def a25r1 : AC := .reg [oI 10 (.mov (.s 0)), oI 11 (.callv (.c (.fn 155 [])) [(.s 10)]), oI 8 (.mov (.s 11))] [1, 2, 8]
def a25r2 : AC := .reg [oI 12 (.mov (.s 2)), oI 13 (.callv (.c (.fn 140 [])) [(.s 12)]), oI 9 (.mov (.s 13))] [1, 2, 8, 9]
def a25r3 : AC := .reg [oI 14 (.mov (.s 9)), oI 15 (.not (.s 14)), oI 16 (.mov (.s 15)), oG 17 16 false (.mov (.s 1)), oG 18 16 false (.iop .lss (.s 17) (.c (.lit (.int .i64 1)))), oI 19 (.pick (.s 16) (.c (.lit (.bool true))) (.s 18)), oI 20 (.mov (.s 19)), oG 21 20 false (.mov (.s 1)), oG 22 20 false (.iop .gtr (.s 21) (.c (.lit (.int .i64 1048576)))), oI 23 (.pick (.s 20) (.c (.lit (.bool true))) (.s 22))] [1, 2, 8, 23]
def a25r4 : AC := .reg [oI 6 (.mov (.c (.nils 5))), oI 7 (.mov (.c (.lit (.int .i64 1))))] [6, 7]
def a25r5 : AC := .reg [oI 24 (.mov (.s 8)), oI 25 (.callv (.c (.fn 139 [])) [(.s 24)]), oI 26 (.iop .geq (.s 25) (.c (.lit (.int .i64 1073741824))))] [1, 2, 8, 26]
def a25r6 : AC := .reg [oI 6 (.mov (.c (.nils 5))), oI 7 (.mov (.c (.lit (.int .i64 7))))] [6, 7]
def a25r7 : AC := .reg [oI 27 (.mov (.s 8)), oI 28 (.mov (.s 8)), oI 29 (.callv (.c (.fn 139 [])) [(.s 28)]), oI 30 (.iop .add (.s 29) (.c (.lit (.int .i64 1)))), oI 31 (.mov (.s 1)), oI 32 (.mov (.s 2)), oI 33 (.build [(.lit (.int .i64 0)), (.lit (.int .i64 0)), (.lit (.string ⟨#[]⟩)), (.lit (.int .i64 0)), (.lit (.bool false))] [(0, 1, (.s 30)), (1, 1, (.s 31)), (2, 1, (.s 32))]), oI 34 (.bslice 25034 86 5 [(.s 33)]), oI 35 (.append 25035 86 5 48 (.s 27) (.s 34)), oI 8 (.mov (.s 35))] [8]
def a25r8 : AC := .reg [oI 36 (.mov (.s 8)), oI 37 (.len (.s 36)), oI 38 (.iop .gtr (.s 37) (.c (.lit (.int .i64 32))))] [8, 38]
def a25r9 : AC := .reg [oI 39 (.mov (.s 8)), oI 40 (.slice 5 (.s 39) (some (.c (.lit (.int .i64 1)))) none), oI 8 (.mov (.s 40))] [8]
def a25r10 : AC := .reg [oI 41 (.mov (.s 8)), oI 6 (.mov (.s 41)), oI 7 (.mov (.c (.lit (.int .i64 0))))] [6, 7]
def a25 : AC := .seq a25r0 (.seq a25r1 (.seq a25r2 (.seq (.seq a25r3 (.cond (.s 23) (.seq a25r4 (.ret)) (.skip))) (.seq (.seq a25r5 (.cond (.s 26) (.seq a25r6 (.ret)) (.skip))) (.seq a25r7 (.seq (.seq a25r8 (.cond (.s 38) a25r9 (.skip))) (.seq a25r10 (.ret))))))))
def a25R : List RD := [.tmp 6, .tmp 7]
def a26r0 : AC := .reg [oI 8 (.mov (.c (.nils 5))), oI 9 (.mov (.c (.lit (.int .i64 0))))] [0, 1, 2, 3]
def a26r1 : AC := .reg [oI 13 (.mov (.s 0)), oI 14 (.callv (.c (.fn 155 [])) [(.s 13)]), oI 10 (.mov (.s 14))] [1, 2, 3, 10]
def a26r2 : AC := .reg [oI 15 (.mov (.s 3)), oI 16 (.callv (.c (.fn 140 [])) [(.s 15)]), oI 11 (.mov (.s 16))] [1, 2, 3, 10, 11]
def a26r3 : AC := .reg [oI 17 (.mov (.s 11)), oI 18 (.not (.s 17))] [1, 2, 3, 10, 18]
def a26r4 : AC := .reg [oI 8 (.mov (.c (.nils 5))), oI 9 (.mov (.c (.lit (.int .i64 1))))] [8, 9]
def a26r5 : AC := .reg [oI 19 (.mov (.s 10)), oI 20 (.mov (.s 1)), oI 21 (.callv (.c (.fn 156 [])) [(.s 19), (.s 20)]), oI 12 (.mov (.s 21))] [2, 3, 10, 12]
def a26r6 : AC := .reg [oI 22 (.mov (.s 12)), oI 23 (.iop .lss (.s 22) (.c (.lit (.int .i64 0))))] [2, 3, 10, 12, 23]
def a26r7 : AC := .reg [oI 8 (.mov (.c (.nils 5))), oI 9 (.mov (.c (.lit (.int .i64 5))))] [8, 9]
def a26r8 : AC := .reg [oI 24 (.mov (.s 10)), oI 25 (.mov (.s 12)), oI 26 (.iaddr 5 (.s 24) (.s 25)), oI 27 (.faddr 1 (.s 26)), oI 28 (.load 1 false (.s 27)), oI 29 (.mov (.s 2)), oI 30 (.iop .neq (.s 28) (.s 29))] [3, 10, 12, 30]
def a26r9 : AC := .reg [oI 8 (.mov (.c (.nils 5))), oI 9 (.mov (.c (.lit (.int .i64 8))))] [8, 9]
def a26r10 : AC := .reg [oI 31 (.mov (.s 10)), oI 32 (.mov (.s 12)), oI 33 (.iaddr 5 (.s 31) (.s 32)), oI 34 (.faddr 3 (.s 33)), oI 35 (.load 1 false (.s 34)), oI 36 (.iop .geq (.s 35) (.c (.lit (.int .i64 1073741824))))] [3, 10, 12, 36]
def a26r11 : AC := .reg [oI 8 (.mov (.c (.nils 5))), oI 9 (.mov (.c (.lit (.int .i64 7))))] [8, 9]
def a26r12 : AC := .reg [oI 37 (.mov (.s 10)), oI 38 (.mov (.s 12)), oI 39 (.mov (.s 3)), oI 40 (.iaddr 5 (.s 37) (.s 38)), oI 41 (.faddr 2 (.s 40)), oN (.store 1 (.s 41) (.s 39))] [10, 12]
def a26r13 : AC := .reg [oI 42 (.mov (.s 10)), oI 43 (.mov (.s 12)), oI 44 (.mov (.s 10)), oI 45 (.mov (.s 12)), oI 46 (.iaddr 5 (.s 44) (.s 45)), oI 47 (.faddr 3 (.s 46)), oI 48 (.load 1 false (.s 47)), oI 49 (.iop .add (.s 48) (.c (.lit (.int .i64 1)))), oI 50 (.iaddr 5 (.s 42) (.s 43)), oI 51 (.faddr 3 (.s 50)), oN (.store 1 (.s 51) (.s 49))] [10]
def a26r14 : AC := .reg [oI 52 (.mov (.s 10)), oI 8 (.mov (.s 52)), oI 9 (.mov (.c (.lit (.int .i64 0))))] [8, 9]
def a26 : AC := .seq a26r0 (.seq a26r1 (.seq a26r2 (.seq (.seq a26r3 (.cond (.s 18) (.seq a26r4 (.ret)) (.skip))) (.seq a26r5 (.seq (.seq a26r6 (.cond (.s 23) (.seq a26r7 (.ret)) (.skip))) (.seq (.seq a26r8 (.cond (.s 30) (.seq a26r9 (.ret)) (.skip))) (.seq (.seq a26r10 (.cond (.s 36) (.seq a26r11 (.ret)) (.skip))) (.seq a26r12 (.seq a26r13 (.seq a26r14 (.ret)))))))))))
def a26R : List RD := [.tmp 8, .tmp 9]
def a27r0 : AC := .reg [oI 8 (.mov (.c (.nils 5))), oI 9 (.mov (.c (.lit (.int .i64 0))))] [0, 1, 2, 3]
def a27r1 : AC := .reg [oI 12 (.mov (.s 0)), oI 13 (.callv (.c (.fn 155 [])) [(.s 12)]), oI 10 (.mov (.s 13))] [1, 2, 3, 10]
def a27r2 : AC := .reg [oI 14 (.mov (.s 10)), oI 15 (.mov (.s 1)), oI 16 (.callv (.c (.fn 156 [])) [(.s 14), (.s 15)]), oI 11 (.mov (.s 16))] [2, 3, 10, 11]
def a27r3 : AC := .reg [oI 17 (.mov (.s 11)), oI 18 (.iop .lss (.s 17) (.c (.lit (.int .i64 0))))] [2, 3, 10, 11, 18]
def a27r4 : AC := .reg [oI 8 (.mov (.c (.nils 5))), oI 9 (.mov (.c (.lit (.int .i64 5))))] [8, 9]
def a27r5 : AC := .reg [oI 19 (.mov (.s 10)), oI 20 (.mov (.s 11)), oI 21 (.iaddr 5 (.s 19) (.s 20)), oI 22 (.faddr 1 (.s 21)), oI 23 (.load 1 false (.s 22)), oI 24 (.mov (.s 2)), oI 25 (.iop .neq (.s 23) (.s 24)), oI 26 (.mov (.s 25)), oG 27 26 true (.mov (.s 2)), oG 28 26 true (.mov (.s 3)), oG 29 26 true (.iop .neq (.s 27) (.s 28)), oI 30 (.pick (.s 26) (.s 29) (.c (.lit (.bool false))))] [10, 11, 30]
def a27r6 : AC := .reg [oI 8 (.mov (.c (.nils 5))), oI 9 (.mov (.c (.lit (.int .i64 8))))] [8, 9]
def a27r7 : AC := .reg [oI 31 (.mov (.s 10)), oI 32 (.mov (.s 11)), oI 33 (.iaddr 5 (.s 31) (.s 32)), oI 34 (.faddr 2 (.s 33)), oN (.store 1 (.s 34) (.c (.lit (.string ⟨#[]⟩))))] [10, 11]
def a27r8 : AC := .reg [oI 35 (.mov (.s 10)), oI 36 (.mov (.s 11)), oI 37 (.iaddr 5 (.s 35) (.s 36)), oI 38 (.faddr 4 (.s 37)), oN (.store 1 (.s 38) (.c (.lit (.bool true))))] [10]
def a27r9 : AC := .reg [oI 39 (.mov (.s 10)), oI 8 (.mov (.s 39)), oI 9 (.mov (.c (.lit (.int .i64 0))))] [8, 9]
def a27 : AC := .seq a27r0 (.seq a27r1 (.seq a27r2 (.seq (.seq a27r3 (.cond (.s 18) (.seq a27r4 (.ret)) (.skip))) (.seq (.seq a27r5 (.cond (.s 30) (.seq a27r6 (.ret)) (.skip))) (.seq a27r7 (.seq a27r8 (.seq a27r9 (.ret))))))))
def a27R : List RD := [.tmp 8, .tmp 9]
def a28r0 : AC := .reg [oI 1 (.box 28001 86 5 (.s 0)), oI 2 (.mov (.c (.lit (.bool false))))] [1]
def a28r1 : AC := .reg [oI 3 (.faddr 4 (.s 1)), oI 4 (.load 1 false (.s 3)), oI 5 (.faddr 2 (.s 1)), oI 6 (.load 1 false (.s 5)), oI 7 (.iop .eql (.s 6) (.c (.lit (.string ⟨#[]⟩)))), oI 8 (.beq true (.s 4) (.s 7)), oI 9 (.mov (.s 8)), oG 10 9 false (.faddr 4 (.s 1)), oG 11 9 false (.load 1 false (.s 10)), oG 12 9 false (.not (.s 11)), oG 13 9 false (.mov (.s 12)), oG 14 13 true (.faddr 2 (.s 1)), oG 15 13 true (.load 1 false (.s 14)), oG 16 13 true (.callv (.c (.fn 108 [])) [(.s 15)]), oG 17 13 true (.not (.s 16)), oG 18 9 false (.pick (.s 13) (.s 17) (.c (.lit (.bool false)))), oI 19 (.pick (.s 9) (.c (.lit (.bool true))) (.s 18))] [1, 19]
def a28r2 : AC := .reg [oI 2 (.mov (.c (.lit (.bool false))))] [2]
def a28r3 : AC := .reg [oI 20 (.faddr 0 (.s 1)), oI 21 (.load 1 false (.s 20)), oI 22 (.callv (.c (.fn 109 [])) [(.s 21), (.c (.lit (.int .i64 1))), (.c (.lit (.int .i64 1073741824)))]), oI 23 (.mov (.s 22)), oG 24 23 true (.faddr 1 (.s 1)), oG 25 23 true (.load 1 false (.s 24)), oG 26 23 true (.callv (.c (.fn 109 [])) [(.s 25), (.c (.lit (.int .i64 1))), (.c (.lit (.int .i64 1048576)))]), oI 27 (.pick (.s 23) (.s 26) (.c (.lit (.bool false)))), oI 28 (.mov (.s 27)), oG 29 28 true (.faddr 3 (.s 1)), oG 30 28 true (.load 1 false (.s 29)), oG 31 28 true (.callv (.c (.fn 109 [])) [(.s 30), (.c (.lit (.int .i64 0))), (.c (.lit (.int .i64 1073741824)))]), oI 32 (.pick (.s 28) (.s 31) (.c (.lit (.bool false)))), oI 2 (.mov (.s 32))] [2]
def a28 : AC := .seq a28r0 (.seq (.seq a28r1 (.cond (.s 19) (.seq a28r2 (.ret)) (.skip))) (.seq a28r3 (.ret)))
def a28R : List RD := [.tmp 2]
def a29r0 : AC := .reg [oI 2 (.box 29002 50 1 (.s 0)), oI 3 (.box 29003 3 1 (.s 1)), oI 4 (.mov (.c (.lit .nilFunc)))] [2, 3]
def a29r1 : AC := .reg [oI 5 (.mkfn 169 [(.s 2), (.s 3)]), oI 4 (.mov (.s 5))] [4]
def a29 : AC := .seq a29r0 (.seq a29r1 (.ret))
def a29R : List RD := [.tmp 4]
def a30r0 : AC := .reg [oI 2 (.mov (.c (.nils 5)))] [0]
def a30r1 : AC := .reg [oI 3 (.mov (.s 0)), oI 4 (.callv (.c (.fn 30 [])) [(.s 3)]), oI 5 (.not (.s 4))] [0, 5]
def a30r2 : AC := .reg [oI 2 (.mov (.c (.nils 5)))] [2]
def a30r3 : AC := .reg [oI 6 (.mov (.s 0)), oI 7 (.callv (.c (.fn 82 [])) [(.s 6)]), oI 2 (.mov (.s 7))] [2]
def a30 : AC := .seq a30r0 (.seq (.seq a30r1 (.cond (.s 5) (.seq a30r2 (.ret)) (.skip))) (.seq a30r3 (.ret)))
def a30R : List RD := [.tmp 2]
def a31r0 : AC := .reg [oI 3 (.box 31003 50 1 (.s 0)), oI 4 (.box 31004 3 1 (.s 1)), oI 5 (.box 31005 168 1 (.s 2)), oI 6 (.alloc 31006 50 [(.nils 5)]), oI 7 (.alloc 31007 37 [(.lit (.int .i64 0))])] [3, 4, 5, 6, 7]
def a31r1 : AC := .reg [oI 11 (.load 1 false (.s 3)), oI 12 (.callv (.c (.fn 161 [])) [(.s 11)]), oN (.store 1 (.s 3) (.s 12))] [3, 4, 5, 6, 7]
def a31r2 : AC := .reg [oI 13 (.load 1 false (.s 3)), oI 14 (.load 1 false (.s 4)), oI 15 (.callv (.c (.fn 162 [])) [(.s 13), (.s 14)])] [3, 4, 5, 6, 7, 15]
def a31r3 : AC := .reg [oI 8 (.mov (.s 16))] [3, 4, 5, 6, 7, 8, 17]
def a31r4 : AC := .reg [oI 9 (.alloc 31009 86 [(.lit (.int .i64 0)), (.lit (.int .i64 0)), (.lit (.string ⟨#[]⟩)), (.lit (.int .i64 0)), (.lit (.bool false))]), oN (.store 5 (.s 9) (.s 17))] [3, 4, 5, 6, 7, 8, 9]
def a31r5 : AC := .reg [oI 18 (.faddr 0 (.s 9)), oI 19 (.load 1 false (.s 18)), oI 20 (.load 1 false (.s 4)), oI 21 (.iop .neq (.s 19) (.s 20))] [3, 5, 6, 7, 8, 21]
def a31r6 : AC := .draw [] (.take 0 (oI 22 (.load 1 false (.s 5))) <| .take 1 (oI 23 (.load 1 false (.s 3))) <| .take 2 (oI 24 (.mov (.s 8))) <| .take 3 (oI 25 (.iaddr 5 (.s 23) (.s 24))) <| .alt 4 (oI 26 (.callv (.s 22) [(.s 25)])) ( .take 5 (oI 10 (.mov (.s 26))) <| .done) .done) [3, 6, 7, 10]
def a31r7 : AC := .reg [oI 27 (.mov (.s 10)), oI 28 (.iop .neq (.s 27) (.c (.lit (.int .i64 0))))] [3, 6, 7, 10, 28]
def a31r8 : AC := .reg [oI 29 (.mov (.s 10)), oN (.store 1 (.s 6) (.c (.nils 5))), oN (.store 1 (.s 7) (.s 29))] []
def a31r9 : AC := .reg [oI 30 (.load 1 false (.s 3)), oN (.store 1 (.s 6) (.s 30)), oN (.store 1 (.s 7) (.c (.lit (.int .i64 0))))] []
def a31r10 : AC := .reg [oN (.store 1 (.s 6) (.c (.nils 5))), oN (.store 1 (.s 7) (.c (.lit (.int .i64 5))))] [6, 7]
def a31 : AC := .seq a31r0 (.seq a31r1 (.seq (.seq a31r2 (.block 0 (.rangef (.s 15) [16, 17] (.seq a31r3 a31r4) (.block 1 (.seq (.seq a31r5 (.cond (.s 21) (.exit 0) (.skip))) (.seq (.seq a31r6 (.seq a31r7 (.cond (.s 28) (.seq a31r8 (.ret)) (.skip)))) (.seq a31r9 (.ret)))))))) (.seq a31r10 (.ret))))
def a31R : List RD := [.cell 6 1 false, .cell 7 1 false]
def a32r0 : AC := .reg [oI 3 (.mov (.c (.lit (.int .i64 0))))] [0, 1]
def a32r1 : AC := .reg [oI 4 (.mov (.s 0)), oI 5 (.nilck (.s 4)), oI 6 (.load 5 true (.s 5)), oN (.store 5 (.s 1) (.s 6))] []
def a32r2 : AC := .reg [oI 3 (.mov (.c (.lit (.int .i64 0))))] [3]
def a32 : AC := .seq a32r0 (.seq a32r1 (.seq a32r2 (.ret)))
def a32R : List RD := [.tmp 3]
def a33r0 : AC := .reg [oI 2 (.mov (.c (.nils 5)))] [0]
def a33r1 : AC := .reg [oI 4 (.mov (.s 0)), oI 5 (.callv (.c (.fn 54 [])) [(.s 4)]), oI 3 (.mov (.s 5))] [0, 3]
def a33r2 : AC := .reg [oI 6 (.mov (.s 3)), oI 7 (.not (.s 6))] [0, 7]
def a33r3 : AC := .reg [oI 2 (.mov (.c (.nils 5)))] [2]
def a33r4 : AC := .reg [oI 8 (.mov (.s 0)), oI 9 (.append 33009 86 5 48 (.c (.nils 5)) (.s 8)), oI 2 (.mov (.s 9))] [2]
def a33 : AC := .seq a33r0 (.seq a33r1 (.seq (.seq a33r2 (.cond (.s 7) (.seq a33r3 (.ret)) (.skip))) (.seq a33r4 (.ret))))
def a33R : List RD := [.tmp 2]
def a34r0 : AC := .reg [oI 4 (.mov (.c (.lit (.int .i64 0))))] [0, 1]
def a34r1 : AC := .reg [oI 5 (.mov (.c (.lit (.int .i64 0))))] [0, 1, 5]
def a34r2 : AC := .reg [oI 6 (.mov (.s 5)), oI 7 (.mov (.s 0)), oI 8 (.len (.s 7)), oI 9 (.iop .lss (.s 6) (.s 8))] [0, 1, 5, 9]
def a34r4 : AC := .reg [oI 12 (.mov (.s 0)), oI 13 (.mov (.s 5)), oI 14 (.iaddr 5 (.s 12) (.s 13)), oI 15 (.faddr 0 (.s 14)), oI 16 (.load 1 false (.s 15)), oI 17 (.mov (.s 1)), oI 18 (.iop .eql (.s 16) (.s 17)), oI 19 (.mov (.s 18)), oG 20 19 true (.mov (.s 0)), oG 21 19 true (.mov (.s 5)), oG 22 19 true (.iaddr 5 (.s 20) (.s 21)), oG 23 19 true (.faddr 4 (.s 22)), oG 24 19 true (.load 1 false (.s 23)), oG 25 19 true (.not (.s 24)), oI 26 (.pick (.s 19) (.s 25) (.c (.lit (.bool false))))] [0, 1, 5, 26]
def a34r5 : AC := .reg [oI 27 (.mov (.s 5)), oI 4 (.mov (.s 27))] [4]
def a34r3 : AC := .reg [oI 10 (.mov (.s 5)), oI 11 (.iop .add (.s 10) (.c (.lit (.int .i64 1)))), oI 5 (.mov (.s 11))] [0, 1, 5]
def a34L2 : AC := .seq (.seq a34r2 (.cond (.s 9) (.skip) (.exit 0))) (.seq (.block 1 (.seq a34r4 (.cond (.s 26) (.seq a34r5 (.ret)) (.skip)))) a34r3)
def a34r6 : AC := .reg [oI 4 (.mov (.c (.lit (.int .i64 (-1)))))] [4]
def a34 : AC := .seq a34r0 (.seq (.seq a34r1 (.block 0 (.loop a34L2))) (.seq a34r6 (.ret)))
def a34R : List RD := [.tmp 4]
def a35r0 : AC := .reg [oI 1 (.box 35001 86 5 (.s 0)), oI 2 (.mov (.c (.lit (.bool false))))] [1]
def a35r1 : AC := .reg [oI 4 (.faddr 2 (.s 1)), oI 5 (.load 1 false (.s 4)), oI 6 (.callv (.c (.fn 140 [])) [(.s 5)]), oI 3 (.mov (.s 6))] [1, 3]
def a35r2 : AC := .reg [oI 7 (.faddr 0 (.s 1)), oI 8 (.load 1 false (.s 7)), oI 9 (.iop .lss (.s 8) (.c (.lit (.int .i64 1)))), oI 10 (.mov (.s 9)), oG 11 10 false (.faddr 0 (.s 1)), oG 12 10 false (.load 1 false (.s 11)), oG 13 10 false (.iop .gtr (.s 12) (.c (.lit (.int .i64 1073741824)))), oI 14 (.pick (.s 10) (.c (.lit (.bool true))) (.s 13)), oI 15 (.mov (.s 14)), oG 16 15 false (.faddr 1 (.s 1)), oG 17 15 false (.load 1 false (.s 16)), oG 18 15 false (.iop .lss (.s 17) (.c (.lit (.int .i64 1)))), oI 19 (.pick (.s 15) (.c (.lit (.bool true))) (.s 18)), oI 20 (.mov (.s 19)), oG 21 20 false (.faddr 1 (.s 1)), oG 22 20 false (.load 1 false (.s 21)), oG 23 20 false (.iop .gtr (.s 22) (.c (.lit (.int .i64 1048576)))), oI 24 (.pick (.s 20) (.c (.lit (.bool true))) (.s 23)), oI 25 (.mov (.s 24)), oG 26 25 false (.faddr 3 (.s 1)), oG 27 25 false (.load 1 false (.s 26)), oG 28 25 false (.iop .lss (.s 27) (.c (.lit (.int .i64 0)))), oI 29 (.pick (.s 25) (.c (.lit (.bool true))) (.s 28)), oI 30 (.mov (.s 29)), oG 31 30 false (.faddr 3 (.s 1)), oG 32 30 false (.load 1 false (.s 31)), oG 33 30 false (.iop .gtr (.s 32) (.c (.lit (.int .i64 1073741824)))), oI 34 (.pick (.s 30) (.c (.lit (.bool true))) (.s 33))] [1, 3, 34]
def a35r3 : AC := .reg [oI 2 (.mov (.c (.lit (.bool false))))] [2]
def a35r4 : AC := .reg [oI 35 (.faddr 4 (.s 1)), oI 36 (.load 1 false (.s 35)), oI 37 (.not (.s 36)), oI 38 (.mov (.s 37)), oG 39 38 true (.mov (.s 3)), oI 40 (.pick (.s 38) (.s 39) (.c (.lit (.bool false)))), oI 41 (.mov (.s 40)), oG 42 41 false (.faddr 4 (.s 1)), oG 43 41 false (.load 1 false (.s 42)), oG 44 41 false (.mov (.s 43)), oG 45 44 true (.faddr 2 (.s 1)), oG 46 44 true (.load 1 false (.s 45)), oG 47 44 true (.iop .eql (.s 46) (.c (.lit (.string ⟨#[]⟩)))), oG 48 41 false (.pick (.s 44) (.s 47) (.c (.lit (.bool false)))), oI 49 (.pick (.s 41) (.c (.lit (.bool true))) (.s 48)), oI 2 (.mov (.s 49))] [2]
def a35 : AC := .seq a35r0 (.seq a35r1 (.seq (.seq a35r2 (.cond (.s 34) (.seq a35r3 (.ret)) (.skip))) (.seq a35r4 (.ret))))
def a35R : List RD := [.tmp 2]
def a37r0 : AC := .reg [oI 4 (.mov (.c (.lit (.int .i64 0))))] [0, 1, 2]
def a37r1 : AC := .draw [] (.take 0 (oI 6 (.mov (.s 0))) <| .take 1 (oI 7 (.nilck (.s 6))) <| .take 2 (oI 8 (.faddr 1 (.s 7))) <| .take 3 (oI 9 (.load 1 false (.s 8))) <| .take 4 (oI 10 (.load 1 false (.s 1))) <| .take 5 (oI 11 (.iop .neq (.s 9) (.s 10))) <| .take 6 (oI 5 (.mov (.s 11))) <| .done) [0, 2, 5]
def a37r2 : AC := .reg [oI 4 (.mov (.c (.lit (.int .i64 8))))] [4]
def a37r3 : AC := .reg [oI 13 (.mov (.s 0)), oI 14 (.nilck (.s 13)), oI 15 (.faddr 3 (.s 14)), oI 16 (.load 1 false (.s 15)), oI 17 (.iop .geq (.s 16) (.c (.lit (.int .i64 1073741824)))), oI 12 (.mov (.s 17))] [0, 2, 12]
def a37r4 : AC := .reg [oI 4 (.mov (.c (.lit (.int .i64 7))))] [4]
def a37r5 : AC := .reg [oI 18 (.mov (.s 0)), oI 19 (.load 1 false (.s 2)), oI 20 (.nilck (.s 18)), oI 21 (.faddr 2 (.s 20)), oN (.store 1 (.s 21) (.s 19))] [0]
def a37r6 : AC := .reg [oI 22 (.mov (.s 0)), oI 23 (.nilck (.s 22)), oI 24 (.faddr 3 (.s 23)), oI 25 (.load 1 false (.s 24)), oI 26 (.iop .add (.s 25) (.c (.lit (.int .i64 1)))), oI 27 (.nilck (.s 22)), oI 28 (.faddr 3 (.s 27)), oN (.store 1 (.s 28) (.s 26))] []
def a37r7 : AC := .reg [oI 4 (.mov (.c (.lit (.int .i64 0))))] [4]
def a37 : AC := .seq a37r0 (.seq (.block 0 (.seq a37r1 (.cond (.s 5) (.seq a37r2 (.ret)) (.seq a37r3 (.cond (.s 12) (.seq a37r4 (.ret)) (.skip)))))) (.seq a37r5 (.seq a37r6 (.seq a37r7 (.ret)))))
def a37R : List RD := [.tmp 4]
def a38r0 : AC := .reg [oI 4 (.mov (.c (.lit (.int .i64 0))))] [0, 1, 2]
def a38r1 : AC := .draw [] (.take 0 (oI 5 (.load 1 false (.s 1))) <| .take 1 (oI 6 (.mov (.s 0))) <| .take 2 (oI 7 (.nilck (.s 6))) <| .take 3 (oI 8 (.faddr 1 (.s 7))) <| .take 4 (oI 9 (.load 1 false (.s 8))) <| .take 5 (oI 10 (.iop .neq (.s 5) (.s 9))) <| .take 6 (oI 11 (.mov (.s 10))) <| .take 7 (oG 12 11 true (.load 1 false (.s 1))) <| .take 8 (oG 13 11 true (.load 1 false (.s 2))) <| .take 9 (oG 14 11 true (.iop .neq (.s 12) (.s 13))) <| .take 10 (oI 15 (.pick (.s 11) (.s 14) (.c (.lit (.bool false))))) <| .done) [0, 15]
def a38r2 : AC := .reg [oI 4 (.mov (.c (.lit (.int .i64 8))))] [4]
def a38r3 : AC := .reg [oI 16 (.mov (.s 0)), oI 17 (.mov (.s 0)), oI 18 (.nilck (.s 16)), oI 19 (.faddr 2 (.s 18)), oN (.store 1 (.s 19) (.c (.lit (.string ⟨#[]⟩)))), oI 20 (.nilck (.s 17)), oI 21 (.faddr 4 (.s 20)), oN (.store 1 (.s 21) (.c (.lit (.bool true))))] []
def a38r4 : AC := .reg [oI 4 (.mov (.c (.lit (.int .i64 0))))] [4]
def a38 : AC := .seq a38r0 (.seq (.seq a38r1 (.cond (.s 15) (.seq a38r2 (.ret)) (.skip))) (.seq a38r3 (.seq a38r4 (.ret))))
def a38R : List RD := [.tmp 4]
def a39r0 : AC := .reg [oI 6 (.mov (.c (.lit (.bool false))))] [0, 1, 2]
def a39r1 : AC := .reg [oI 7 (.mov (.s 0)), oI 8 (.mov (.s 1)), oI 9 (.iop .geq (.s 7) (.s 8)), oI 10 (.mov (.s 9)), oG 11 10 true (.mov (.s 0)), oG 12 10 true (.mov (.s 2)), oG 13 10 true (.iop .leq (.s 11) (.s 12)), oI 14 (.pick (.s 10) (.s 13) (.c (.lit (.bool false)))), oI 6 (.mov (.s 14))] [6]
def a39 : AC := .seq a39r0 (.seq a39r1 (.ret))
def a39R : List RD := [.tmp 6]
def a40r0 : AC := .reg [oI 2 (.mov (.c (.lit (.bool false))))] [0]
def a40r1 : AC := .reg [oI 5 (.mov (.s 0)), oI 6 (.slen (.s 5)), oI 7 (.iop .lss (.s 6) (.c (.lit (.int .i64 1)))), oI 8 (.mov (.s 7)), oG 9 8 false (.mov (.s 0)), oG 10 8 false (.slen (.s 9)), oG 11 8 false (.iop .gtr (.s 10) (.c (.lit (.int .i64 64)))), oI 12 (.pick (.s 8) (.c (.lit (.bool true))) (.s 11))] [0, 12]
def a40r2 : AC := .reg [oI 2 (.mov (.c (.lit (.bool false))))] [2]
def a40r3 : AC := .reg [oI 3 (.mov (.c (.lit (.int .i64 0))))] [0, 3]
def a40r4 : AC := .reg [oI 13 (.mov (.s 3)), oI 14 (.mov (.s 0)), oI 15 (.slen (.s 14)), oI 16 (.iop .lss (.s 13) (.s 15))] [0, 3, 16]
def a40r5 : AC := .reg [oI 17 (.mov (.s 0)), oI 18 (.mov (.s 3)), oI 19 (.callv (.c (.fn 157 [])) [(.s 17), (.s 18)]), oI 4 (.mov (.s 19))] [0, 3, 4]
def a40r6 : AC := .reg [oI 20 (.mov (.s 4)), oI 21 (.iop .eql (.s 20) (.c (.lit (.int .i64 0)))), oI 22 (.mov (.s 21)), oG 23 22 false (.mov (.s 0)), oG 24 22 false (.mov (.s 3)), oG 25 22 false (.sidx (.s 23) (.s 24)), oG 26 22 false (.iop .lss (.s 25) (.c (.lit (.int .u8 32)))), oI 27 (.pick (.s 22) (.c (.lit (.bool true))) (.s 26)), oI 28 (.mov (.s 27)), oG 29 28 false (.mov (.s 0)), oG 30 28 false (.mov (.s 3)), oG 31 28 false (.sidx (.s 29) (.s 30)), oG 32 28 false (.iop .eql (.s 31) (.c (.lit (.int .u8 127)))), oI 33 (.pick (.s 28) (.c (.lit (.bool true))) (.s 32))] [0, 3, 4, 33]
def a40r7 : AC := .reg [oI 2 (.mov (.c (.lit (.bool false))))] [2]
def a40r8 : AC := .reg [oI 34 (.mov (.s 3)), oI 35 (.mov (.s 4)), oI 36 (.iop .add (.s 34) (.s 35)), oI 3 (.mov (.s 36))] [0, 3]
def a40L4 : AC := .seq (.seq a40r4 (.cond (.s 16) (.skip) (.exit 0))) (.block 1 (.seq a40r5 (.seq (.seq a40r6 (.cond (.s 33) (.seq a40r7 (.ret)) (.skip))) a40r8)))
def a40r9 : AC := .reg [oI 2 (.mov (.c (.lit (.bool true))))] [2]
def a40 : AC := .seq a40r0 (.seq (.seq a40r1 (.cond (.s 12) (.seq a40r2 (.ret)) (.skip))) (.seq (.seq a40r3 (.block 0 (.loop a40L4))) (.seq a40r9 (.ret))))
def a40R : List RD := [.tmp 2]
def a41r0 : AC := .reg [oI 6 (.load 1 false (.s 1)), oI 7 (.len (.s 6)), oI 8 (.mov (.c (.lit (.int .i64 0))))] [0, 2, 6, 7, 8]
def a41r1 : AC := .reg [oI 9 (.iop .lss (.s 8) (.s 7))] [0, 2, 6, 7, 8, 9]
def a41r2 : AC := .reg [oI 10 (.mov (.s 8)), oI 11 (.iaddr 5 (.s 6) (.s 8)), oI 12 (.load 5 true (.s 11)), oI 5 (.alloc 41005 86 [(.lit (.int .i64 0)), (.lit (.int .i64 0)), (.lit (.string ⟨#[]⟩)), (.lit (.int .i64 0)), (.lit (.bool false))]), oI 4 (.mov (.s 10)), oN (.store 5 (.s 5) (.s 12))] [0, 2, 4, 5, 6, 7, 8]
def a41r3 : AC := .reg [oI 13 (.faddr 4 (.s 5)), oI 14 (.load 1 false (.s 13)), oI 15 (.not (.s 14)), oI 16 (.mov (.s 15)), oG 17 16 true (.faddr 0 (.s 5)), oG 18 16 true (.load 1 false (.s 17)), oG 19 16 true (.load 1 false (.s 2)), oG 20 16 true (.iop .geq (.s 18) (.s 19)), oI 21 (.pick (.s 16) (.s 20) (.c (.lit (.bool false)))), oI 22 (.mov (.s 21)), oG 23 22 true (.mov (.s 0)), oG 24 22 true (.mov (.s 4)), oG 25 22 true (.load 5 true (.s 5)), oG 26 22 true (.callv (.s 23) [(.s 24), (.s 25)]), oG 27 22 true (.not (.s 26)), oI 28 (.pick (.s 22) (.s 27) (.c (.lit (.bool false))))] [0, 2, 6, 7, 8, 28]
def a41r4 : AC := .reg [oI 29 (.iop .add (.s 8) (.c (.lit (.int .i64 1)))), oI 8 (.mov (.s 29))] [0, 2, 6, 7, 8]
def a41L1 : AC := .seq a41r1 (.seq (.cond (.s 9) (.skip) (.exit 0)) (.seq (.block 1 (.seq a41r2 (.seq a41r3 (.cond (.s 28) (.ret) (.skip))))) a41r4))
def a41 : AC := .seq a41r0 (.block 0 (.loop a41L1))
def a41R : List RD := []
def a42r0 : AC := .reg [oI 2 (.mov (.c (.nils 5)))] [0]
def a42r1 : AC := .reg [oI 3 (.mov (.s 0)), oI 4 (.ext 6 [] [(.s 3)])] [0, 4]
def a42r2 : AC := .reg [oI 2 (.mov (.c (.nils 5)))] [2]
def a42r3 : AC := .reg [oI 5 (.bslice 42005 86 5 []), oI 6 (.mov (.s 0)), oI 7 (.append 42007 86 5 48 (.s 5) (.s 6)), oI 2 (.mov (.s 7))] [2]
def a42 : AC := .seq a42r0 (.seq (.seq a42r1 (.cond (.s 4) (.seq a42r2 (.ret)) (.skip))) (.seq a42r3 (.ret)))
def a42R : List RD := [.tmp 2]
def a44r0 : AC := .reg [oI 4 (.mov (.c (.lit (.int .i64 0))))] [0, 1]
def a44r1 : AC := .reg [oI 11 (.mov (.s 0)), oI 12 (.mov (.s 1)), oI 13 (.sidx (.s 11) (.s 12)), oI 5 (.mov (.s 13))] [0, 1, 5]
def a44r2 : AC := .reg [oI 14 (.mov (.s 5)), oI 15 (.iop .lss (.s 14) (.c (.lit (.int .u8 128))))] [0, 1, 5, 15]
def a44r3 : AC := .reg [oI 4 (.mov (.c (.lit (.int .i64 1))))] [4]
def a44r4 : AC := .reg [oI 16 (.mov (.s 0)), oI 17 (.mov (.s 1)), oI 18 (.iop .add (.s 17) (.c (.lit (.int .i64 1)))), oI 19 (.callv (.c (.fn 166 [])) [(.s 16), (.s 18), (.c (.lit (.int .i64 1)))]), oI 6 (.mov (.s 19))] [0, 1, 5, 6]
def a44r5 : AC := .reg [oI 20 (.mov (.s 0)), oI 21 (.mov (.s 1)), oI 22 (.iop .add (.s 21) (.c (.lit (.int .i64 1)))), oI 23 (.callv (.c (.fn 166 [])) [(.s 20), (.s 22), (.c (.lit (.int .i64 2)))]), oI 7 (.mov (.s 23))] [0, 1, 5, 6, 7]
def a44r6 : AC := .reg [oI 24 (.mov (.s 0)), oI 25 (.mov (.s 1)), oI 26 (.iop .add (.s 25) (.c (.lit (.int .i64 1)))), oI 27 (.callv (.c (.fn 166 [])) [(.s 24), (.s 26), (.c (.lit (.int .i64 3)))]), oI 8 (.mov (.s 27))] [0, 1, 5, 6, 7, 8]
def a44r7 : AC := .reg [oI 28 (.mov (.s 5)), oI 29 (.iop .geq (.s 28) (.c (.lit (.int .u8 194)))), oI 30 (.mov (.s 29)), oG 31 30 true (.mov (.s 5)), oG 32 30 true (.iop .leq (.s 31) (.c (.lit (.int .u8 223)))), oI 33 (.pick (.s 30) (.s 32) (.c (.lit (.bool false)))), oI 34 (.mov (.s 33)), oG 35 34 true (.mov (.s 6)), oI 36 (.pick (.s 34) (.s 35) (.c (.lit (.bool false))))] [0, 1, 5, 7, 8, 36]
def a44r8 : AC := .reg [oI 4 (.mov (.c (.lit (.int .i64 2))))] [4]
def a44r9 : AC := .reg [oI 37 (.mov (.s 5)), oI 38 (.iop .geq (.s 37) (.c (.lit (.int .u8 224)))), oI 39 (.mov (.s 38)), oG 40 39 true (.mov (.s 5)), oG 41 39 true (.iop .leq (.s 40) (.c (.lit (.int .u8 239)))), oI 42 (.pick (.s 39) (.s 41) (.c (.lit (.bool false)))), oI 43 (.mov (.s 42)), oG 44 43 true (.mov (.s 7)), oI 45 (.pick (.s 43) (.s 44) (.c (.lit (.bool false))))] [0, 1, 5, 8, 45]
def a44r10 : AC := .reg [oI 46 (.mov (.s 0)), oI 47 (.mov (.s 1)), oI 48 (.iop .add (.s 47) (.c (.lit (.int .i64 1)))), oI 49 (.sidx (.s 46) (.s 48)), oI 9 (.mov (.s 49))] [5, 9]
def a44r11 : AC := .reg [oI 50 (.mov (.s 5)), oI 51 (.iop .eql (.s 50) (.c (.lit (.int .u8 224)))), oI 52 (.mov (.s 51)), oG 53 52 true (.mov (.s 9)), oG 54 52 true (.iop .lss (.s 53) (.c (.lit (.int .u8 160)))), oI 55 (.pick (.s 52) (.s 54) (.c (.lit (.bool false)))), oI 56 (.mov (.s 55)), oG 57 56 false (.mov (.s 5)), oG 58 56 false (.iop .eql (.s 57) (.c (.lit (.int .u8 237)))), oG 59 56 false (.mov (.s 58)), oG 60 59 true (.mov (.s 9)), oG 61 59 true (.iop .gtr (.s 60) (.c (.lit (.int .u8 159)))), oG 62 56 false (.pick (.s 59) (.s 61) (.c (.lit (.bool false)))), oI 63 (.pick (.s 56) (.c (.lit (.bool true))) (.s 62))] [63]
def a44r12 : AC := .reg [oI 4 (.mov (.c (.lit (.int .i64 0))))] [4]
def a44r13 : AC := .reg [oI 4 (.mov (.c (.lit (.int .i64 3))))] [4]
def a44r14 : AC := .reg [oI 64 (.mov (.s 5)), oI 65 (.iop .geq (.s 64) (.c (.lit (.int .u8 240)))), oI 66 (.mov (.s 65)), oG 67 66 true (.mov (.s 5)), oG 68 66 true (.iop .leq (.s 67) (.c (.lit (.int .u8 244)))), oI 69 (.pick (.s 66) (.s 68) (.c (.lit (.bool false)))), oI 70 (.mov (.s 69)), oG 71 70 true (.mov (.s 8)), oI 72 (.pick (.s 70) (.s 71) (.c (.lit (.bool false))))] [0, 1, 5, 72]
def a44r15 : AC := .reg [oI 73 (.mov (.s 0)), oI 74 (.mov (.s 1)), oI 75 (.iop .add (.s 74) (.c (.lit (.int .i64 1)))), oI 76 (.sidx (.s 73) (.s 75)), oI 10 (.mov (.s 76))] [5, 10]
def a44r16 : AC := .reg [oI 77 (.mov (.s 5)), oI 78 (.iop .eql (.s 77) (.c (.lit (.int .u8 240)))), oI 79 (.mov (.s 78)), oG 80 79 true (.mov (.s 10)), oG 81 79 true (.iop .lss (.s 80) (.c (.lit (.int .u8 144)))), oI 82 (.pick (.s 79) (.s 81) (.c (.lit (.bool false)))), oI 83 (.mov (.s 82)), oG 84 83 false (.mov (.s 5)), oG 85 83 false (.iop .eql (.s 84) (.c (.lit (.int .u8 244)))), oG 86 83 false (.mov (.s 85)), oG 87 86 true (.mov (.s 10)), oG 88 86 true (.iop .gtr (.s 87) (.c (.lit (.int .u8 143)))), oG 89 83 false (.pick (.s 86) (.s 88) (.c (.lit (.bool false)))), oI 90 (.pick (.s 83) (.c (.lit (.bool true))) (.s 89))] [90]
def a44r17 : AC := .reg [oI 4 (.mov (.c (.lit (.int .i64 0))))] [4]
def a44r18 : AC := .reg [oI 4 (.mov (.c (.lit (.int .i64 4))))] [4]
def a44r19 : AC := .reg [oI 4 (.mov (.c (.lit (.int .i64 0))))] [4]
def a44 : AC := .seq a44r0 (.seq a44r1 (.seq (.seq a44r2 (.cond (.s 15) (.seq a44r3 (.ret)) (.skip))) (.seq a44r4 (.seq a44r5 (.seq a44r6 (.seq (.seq a44r7 (.cond (.s 36) (.seq a44r8 (.ret)) (.skip))) (.seq (.seq a44r9 (.cond (.s 45) (.seq a44r10 (.seq (.seq a44r11 (.cond (.s 63) (.seq a44r12 (.ret)) (.skip))) (.seq a44r13 (.ret)))) (.skip))) (.seq (.seq a44r14 (.cond (.s 72) (.seq a44r15 (.seq (.seq a44r16 (.cond (.s 90) (.seq a44r17 (.ret)) (.skip))) (.seq a44r18 (.ret)))) (.skip))) (.seq a44r19 (.ret))))))))))
def a44R : List RD := [.tmp 4]
def a46r0 : AC := .reg [oI 6 (.mov (.c (.lit (.bool false))))] [0, 1, 2]
def a46r1 : AC := .reg [oI 8 (.mov (.s 1)), oI 7 (.mov (.s 8))] [0, 1, 2, 7]
def a46r2 : AC := .reg [oI 9 (.mov (.s 7)), oI 10 (.mov (.s 1)), oI 11 (.mov (.s 2)), oI 12 (.iop .add (.s 10) (.s 11)), oI 13 (.iop .lss (.s 9) (.s 12))] [0, 1, 2, 7, 13]
def a46r4 : AC := .reg [oI 16 (.mov (.s 7)), oI 17 (.mov (.s 0)), oI 18 (.slen (.s 17)), oI 19 (.iop .geq (.s 16) (.s 18)), oI 20 (.mov (.s 19)), oG 21 20 false (.mov (.s 0)), oG 22 20 false (.mov (.s 7)), oG 23 20 false (.sidx (.s 21) (.s 22)), oG 24 20 false (.iop .lss (.s 23) (.c (.lit (.int .u8 128)))), oI 25 (.pick (.s 20) (.c (.lit (.bool true))) (.s 24)), oI 26 (.mov (.s 25)), oG 27 26 false (.mov (.s 0)), oG 28 26 false (.mov (.s 7)), oG 29 26 false (.sidx (.s 27) (.s 28)), oG 30 26 false (.iop .gtr (.s 29) (.c (.lit (.int .u8 191)))), oI 31 (.pick (.s 26) (.c (.lit (.bool true))) (.s 30))] [0, 1, 2, 7, 31]
def a46r5 : AC := .reg [oI 6 (.mov (.c (.lit (.bool false))))] [6]
def a46r3 : AC := .reg [oI 14 (.mov (.s 7)), oI 15 (.iop .add (.s 14) (.c (.lit (.int .i64 1)))), oI 7 (.mov (.s 15))] [0, 1, 2, 7]
def a46L2 : AC := .seq (.seq a46r2 (.cond (.s 13) (.skip) (.exit 0))) (.seq (.block 1 (.seq a46r4 (.cond (.s 31) (.seq a46r5 (.ret)) (.skip)))) a46r3)
def a46r6 : AC := .reg [oI 6 (.mov (.c (.lit (.bool true))))] [6]
def a46 : AC := .seq a46r0 (.seq (.seq a46r1 (.block 0 (.loop a46L2))) (.seq a46r6 (.ret)))
def a46R : List RD := [.tmp 6]
structure Post where
  no : Int
  user : Int
  text : ByteArray
  edits : Int
  gone : Bool
abbrev sv (s : ByteArray) : AV := .lit (.string s)
def eP (x : Post) : List AV := [iv x.no, iv x.user, sv x.text, iv x.edits, bv x.gone]
def ePs (l : List Post) : List (List AV) := l.map eP
theorem ePs_length (l : List Post) : (ePs l).length = l.length := by simp [ePs]
theorem ePs_get (l : List Post) (i : Nat) : (ePs l)[i]? = (l[i]?).map eP := by simp [ePs]
def WF (m : Mem) : Prop := (∀ p ∈ m, SX.look m p.1 = some p.2) ∧ ∀ p ∈ m, p.2.refs (fun b => (SX.look m b).isSome)
theorem c41 : chkFn Tryz.prog 169 30 3 a41 [] = true := by kernel_rfl
def RowIn (bL bF : Nat) (sl : AV) (es : List Post) (frm : Int) (m : Mem) : Prop :=
  WF m ∧ SX.look m 41005 = none ∧ SX.look m bL = some (.obj 50 [sl]) ∧ SX.look m bF = some (.obj 3 [iv frm]) ∧
    (sl = .ro 5 (ePs es) ∨ ∃ bR, sl = .own bR 5 0 es.length ∧ SX.look m bR = some (.arr 86 5 (ePs es)))
def inv41 (bL bF : Nat) (sl : AV) (es : List Post) (l : Nat) (fixed : List Nat) (Inv : Nat → Mem → Prop) (n : Nat) (s : St) : Prop :=
  ∃ i m, i ≤ es.length ∧ n = es.length - i ∧ Inv i m ∧ s = ⟨[(0, .lit (.func (.yield l) #[] #[])), (2, .ptr bF 0 0 0), (6, sl), (7, iv (es.length : Nat)), (8, iv (i : Nat))], m, fixed⟩
theorem next41 {bL bF : Nat} {sl : AV} {es : List Post} {fixed : List Nat} {l : Nat} {Inv : Nat → Mem → Prop} {c : Ctx} {E : Ex} {Q : Exit → St → Ex → Prop} (hstd : c.A = c.B) (hes : es.length ≤ 9223372036854775807) {i : Nat} (hi' : i < es.length) {m' : Mem} (hm' : Inv (i + 1) m') :
    JH Tryz.prog 30 c a41r4 ⟨[(0, .lit (.func (.yield l) #[] #[])), (2, .ptr bF 0 0 0), (6, sl), (7, iv (es.length : Nat)), (8, iv (i : Nat))], m', fixed⟩ E (loopH (inv41 bL bF sl es l fixed Inv) (es.length - i) E Q) := by
  refine JH.of hstd (fun c' hc' => ?_)
  have hw : IntKind.i64.wrap ((i : Int) + 1) = (i : Int) + 1 := wrap_id (by omega) (by omega)
  refine J.regE (by simp [hw]; rfl) ?_
  exact ⟨rfl, es.length - (i + 1), _, by omega, St.le_refl _, i + 1, m', by omega, rfl, hm', by simp⟩
theorem body41 {bL bF : Nat} {sl : AV} {es : List Post} {frm : Int} {fixed : List Nat} {body : Mem → List AV → (Exit → Mem → Prop) → Prop} {K : Exit → Mem → Prop} {Inv : Nat → Mem → Prop} {c : Ctx} {l : Nat} {Ej : Option Code → Ex} {i : Nat} {x : Post} {m : Mem} {B1 : Blk} (hstd : c.A = c.B) (hes : es.length ≤ 9223372036854775807)
    (hbF : bF ∈ fixed) (hsl : refsIn (fun b => b ∈ fixed) sl) (hnf : ¬ 41005 ∈ fixed) (hwf : WF m) (hn5 : SX.look m 41005 = none) (hF : SX.look m bF = some (.obj 3 [iv frm])) (hfx0 : ∀ b ∈ fixed, (SX.look m b).isSome) (hi' : i < es.length) (hx : es[i]? = some x) (hm : Inv i m)
    (hR : ∀ m xs KB, body m xs KB → Rounds Tryz.prog c l (Ej none) m fixed xs fun b m' E' => ∃ e j, jumpOf e = some j ∧ b = j.isNone ∧ KB e m' ∧ E' = Ej j)
    (hpass : x.gone = true ∨ x.no < frm → Inv i m → Inv (i + 1) m)
    (hround : x.gone = false → frm ≤ x.no → Inv i m → ∃ KB, body m [iv (i : Nat), .agg (eP x)] KB ∧ (∀ m', KB .normal m' → Inv (i + 1) m') ∧ ∀ e m', e ≠ .normal → KB e m' → K e m') :
    JH Tryz.prog 30 c (.seq a41r3 (.cond (.s 28) .ret .skip)) ⟨[(0, .lit (.func (.yield l) #[] #[])), (2, .ptr bF 0 0 0), (6, sl), (7, iv (es.length : Nat)), (8, iv (i : Nat)), (5, .ptr 41005 0 0 0), (4, iv (i : Nat))], upd (upd m 41005 B1) 41005 (.obj 86 [iv x.no, iv x.user, sv x.text, iv x.edits, bv x.gone]), fixed⟩ (Ej none)
      (blockH 1 (thenH Tryz.prog 30 c a41r4 (loopH (inv41 bL bF sl es l fixed Inv) (es.length - i) (Ej none) (blockH 0 fun e s E => (e = .normal ∨ e = .ret) ∧ s.fixed = fixed ∧ ∃ e' j, jumpOf e' = some j ∧ E = Ej j ∧ K e' s.mem)))) := by
  have hb5 : bF ≠ 41005 := fun h => hnf (h ▸ hbF)
  have hsl' := refs_imp (T := fun b => (SX.look m b).isSome = true) (fun b hb => hfx0 b hb) _ hsl
  have hmm : ∀ (B1 B2 : Blk) (p : Nat × Blk), p ∈ m → SX.look (upd (upd m 41005 B1) 41005 B2) p.1 = some p.2 := fun B1 B2 p hp => by
    have h1 := hwf.1 p hp
    have h2 : p.1 ≠ 41005 := fun h => by rw [h, hn5] at h1; cases h1
    simp [look_upd, h2, h1]
  apply JH.seq
  by_cases hg1 : x.gone = false ∧ frm ≤ x.no
  · obtain ⟨hg1, hg2⟩ := hg1
    obtain ⟨KB, hbody, hKn, hKx⟩ := hround hg1 hg2 hm
    refine JH.regY hstd 13 rfl (fun s => s = ?sX) ?h1 ?h2
    case h1 =>
      intro c' hc'
      show runL _ _ _ [_, _, _, _, _, _, _, _, _, _, _, _, _] _ _
      iterate 13 refine runL_step rfl (by simp [look_upd, hF, hg1, hg2, hb5]; rfl) ?_
      exact rfl
    case h2 =>
      intro s1 hs1
      subst hs1
      refine .inr ⟨fun s want h => (by injection h with h; injection h with h1 h2; subst h1; subst h2; rfl), l, [iv (i : Nat), .agg (eP x)], _, ⟨[(0, .lit (.func (.yield l) #[] #[])), (2, .ptr bF 0 0 0), (6, sl), (7, iv (es.length : Nat)), (8, iv (i : Nat)), (22, bv true), (23, .lit (.func (.yield l) #[] #[])), (24, iv (i : Nat)), (25, .agg (eP x))], m, fixed⟩, ?_, rfl, rfl, hR m _ KB hbody, [0, 2, 6, 7, 8, 22], ?_, ?_⟩
      · refine le_sub (by simp [eP, hg1]) (hmm _ _) ?_ hwf.2 rfl hfx0
        simp [hF, eP]
        exact hsl'
      · simp [hbF]
        exact hsl
      · rintro b m' E' ⟨e, j, hj, rfl, hKB, rfl⟩ c' hc'
        show runL _ _ _ [_, _] _ _
        iterate 2 refine runL_step rfl (by simp; rfl) ?_
        simp [runL]
        show JH _ _ _ _ _ _ _
        refine JH.cond ⟨!j.isNone, by simp, fun hb => ?_, fun hb => ?_⟩
        · refine JH.of hstd (fun c' hc' => ?_)
          apply J.ret
          refine ⟨.inr rfl, rfl, e, j, hj, rfl, hKx e m' (fun he => ?_) hKB⟩
          subst he; injection hj with hj; subst hj; simp at hb
        · have hj0 : j = none := by cases j <;> simp_all
          subst hj0
          have he : e = .normal := by cases e <;> simp_all [jumpOf]
          subst he
          refine JH.of hstd (fun c' hc' => ?_)
          apply J.skip
          show JH _ _ _ _ _ _ _
          refine JH.le hstd (le_slots (s := [(0, .lit (.func (.yield l) #[] #[])), (2, .ptr bF 0 0 0), (6, sl), (7, iv (es.length : Nat)), (8, iv (i : Nat))]) ?_) (next41 hstd hes hi' (hKn m' hKB))
          intro d y h
          simp only [SX.look] at h ⊢
          repeat' split at h
          all_goals simp_all
  · have hm' : Inv (i + 1) m := hpass (by cases hgn : x.gone <;> simp_all) hm
    cases hgn : x.gone
    · have hlt : ¬ frm ≤ x.no := fun h => hg1 ⟨hgn, h⟩
      refine JH.regY hstd 13 rfl (fun s => s = ?sY) ?h1 ?h2
      case h1 =>
        intro c' hc'
        show runL _ _ _ [_, _, _, _, _, _, _, _, _, _, _, _, _] _ _
        iterate 13 refine runL_step rfl (by simp [look_upd, hF, hb5, hlt]; rfl) ?_
        exact rfl
      case h2 =>
        intro s1 hs1
        subst hs1
        refine .inl ⟨22, true, some false, rfl, rfl, by simp, fun c' hc' => ?_⟩
        show runL _ _ _ [_, _] _ _
        iterate 2 refine runL_step rfl (by simp; rfl) ?_
        simp [runL]
        show JH _ _ _ _ _ _ _
        refine JH.cond ⟨false, by simp, fun hb => (by cases hb), fun hb => ?_⟩
        refine JH.of hstd (fun c' hc' => ?_)
        apply J.skip
        show JH _ _ _ _ _ _ _
        refine JH.le hstd (le_sub (st' := ⟨[(0, .lit (.func (.yield l) #[] #[])), (2, .ptr bF 0 0 0), (6, sl), (7, iv (es.length : Nat)), (8, iv (i : Nat))], m, fixed⟩) (by simp) (hmm _ _) ?_ hwf.2 rfl hfx0) (next41 hstd hes hi' hm')
        simp [hF]
        exact hsl'
    · skip
      refine JH.regY hstd 13 rfl (fun s => s = ?sZ) ?h1 ?h2
      case h1 =>
        intro c' hc'
        show runL _ _ _ [_, _, _, _, _, _, _, _, _, _, _, _, _] _ _
        iterate 13 refine runL_step rfl (by simp [look_upd, hF, hb5]; rfl) ?_
        exact rfl
      case h2 =>
        intro s1 hs1
        subst hs1
        refine .inl ⟨22, true, some false, rfl, rfl, by simp, fun c' hc' => ?_⟩
        show runL _ _ _ [_, _] _ _
        iterate 2 refine runL_step rfl (by simp; rfl) ?_
        simp [runL]
        show JH _ _ _ _ _ _ _
        refine JH.cond ⟨false, by simp, fun hb => (by cases hb), fun hb => ?_⟩
        refine JH.of hstd (fun c' hc' => ?_)
        apply J.skip
        show JH _ _ _ _ _ _ _
        refine JH.le hstd (le_sub (st' := ⟨[(0, .lit (.func (.yield l) #[] #[])), (2, .ptr bF 0 0 0), (6, sl), (7, iv (es.length : Nat)), (8, iv (i : Nat))], m, fixed⟩) (by simp) (hmm _ _) ?_ hwf.2 rfl hfx0) (next41 hstd hes hi' hm')
        simp [hF]
        exact hsl'
theorem it41 {bL bF : Nat} {sl : AV} {es : List Post} {frm : Int} {fixed : List Nat} {m0 : Mem} {body : Mem → List AV → (Exit → Mem → Prop) → Prop} {K : Exit → Mem → Prop} (Inv : Nat → Mem → Prop) (hes : es.length ≤ 9223372036854775807)
    (hbF : bF ∈ fixed) (hsl : refsIn (fun b => b ∈ fixed) sl) (hnf : 41005 ∉ fixed) (h0 : Inv 0 m0) (hInv : ∀ i m, Inv i m → RowIn bL bF sl es frm m ∧ ∀ b ∈ fixed, (SX.look m b).isSome)
    (hpass : ∀ i x m, es[i]? = some x → (x.gone = true ∨ x.no < frm) → Inv i m → Inv (i + 1) m)
    (hround : ∀ i x m, es[i]? = some x → x.gone = false → frm ≤ x.no → Inv i m → ∃ KB, body m [iv (i : Nat), .agg (eP x)] KB ∧ (∀ m', KB .normal m' → Inv (i + 1) m') ∧ ∀ e m', e ≠ .normal → KB e m' → K e m')
    (hend : ∀ m, Inv es.length m → K .normal m) : IterOK Tryz.prog 169 [.ptr bL 0 0 0, .ptr bF 0 0 0] fixed m0 body K := by
  refine ⟨30, a41, c41, fun c l Ej hstd hds hR => ?_⟩
  obtain ⟨⟨hwf, hn5, hL, hF, hrow⟩, hfx0⟩ := hInv 0 m0 h0
  have hlen : ∀ w Own ρ v, VRel w Own ρ sl v → True := fun _ _ _ _ _ => trivial
  unfold a41
  apply JH.seq
  refine JH.of hstd (fun c' hc' => ?_)
  rcases hrow with h | ⟨bR, h, hbR⟩
  all_goals subst h
  all_goals
    refine J.regE (by simp [hL, ePs_length]; rfl) ?_
    simp
    apply JH.block
    refine JH.loop hstd (inv41 bL bF _ es l fixed Inv) ⟨_, _, St.le_refl _, 0, m0, Nat.zero_le _, rfl, h0, rfl⟩ (fun n st hI => ?_)
    obtain ⟨i, m, hi, rfl, hm, rfl⟩ := hI
    obtain ⟨⟨hwf, hn5, hL, hF, hrow⟩, hfx0⟩ := hInv i m hm
    unfold a41L1
    apply JH.seq
    refine JH.of hstd (fun c' hc' => ?_)
    refine J.regE (by simp; rfl) ?_
    simp
    apply JH.seq
    refine JH.cond ⟨decide (i < es.length), by simp, fun hb => ?_, fun hb => ?_⟩
    rotate_left
    · have he : i = es.length := by simp at hb; omega
      subst he
      refine JH.of hstd (fun c' hc' => ?_)
      apply J.exit
      exact ⟨.inl rfl, rfl, .normal, none, rfl, rfl, hend m hm⟩
    refine JH.of hstd (fun c' hc' => ?_)
    apply J.skip
    show JH _ _ _ _ _ _ _
    have hi' : i < es.length := by simpa using hb
    obtain ⟨x, hx⟩ : ∃ x, es[i]? = some x := ⟨_, List.getElem?_eq_getElem hi'⟩
    apply JH.seq
    apply JH.block
    apply JH.seq
    refine JH.of hstd (fun c' hc' => ?_)
    apply J.reg
    have hg : (ePs es)[i]? = some (eP x) := by rw [ePs_get, hx]; rfl
    have hle : (ePs es).length = es.length := ePs_length es
    have hge : ∀ h, (ePs es)[i]'h = eP x := fun h => by simpa [List.getElem?_eq_getElem h] using hg
    have hgx : ∀ h, es[i]'h = x := fun h => by simpa [List.getElem?_eq_getElem h] using hx
    try simp at hrow
    iterate 3 refine runL_step rfl (by first | (simp [hle, hi', hg, hge, hgx, hx, eP, hrow]; rfl) | (simp [hle, hi', hg, hge, hgx, hx, eP]; rfl)) ?_
    iterate 3 refine runL_step rfl (by simp [hn5, hnf, look_upd]; rfl) ?_
    simp [runL]
    exact body41 hstd hes hbF hsl hnf hwf hn5 hF hfx0 hi' hx hm hR (hpass i x m hx) (hround i x m hx)
end Go.Proofs.YtadbdchbdjkcdaaGreatDoor.P16
namespace Go.Proofs
open Go.Shelf
def Tryz.laysValid_ren : Go.Shelf.Ren := ⟨fun | 196 => 145 | 259 => 159 | n => n, fun | 9 => 9 | 4 => 4 | 3 => 3 | 5 => 5 | 12 => 12 | 119 => 172 | 0 => 0 | 46 => 145 | 139 => 175 | 138 => 174 | 53 => 184 | n => n, fun | 3 => 0 | 4 => 1 | n => n⟩
theorem Tryz.laysValid : Go.Proofs.Lays.n196 Tryz.prog Tryz.laysValid_ren := {
  mixed := by kernel_rfl
  f196 := Tryz.func145.trans (congrArg some (by kernel_rfl))
  f259 := Tryz.func159.trans (congrArg some (by kernel_rfl))
  t0 := Tryz.underlying0
  a0 := Tryz.isAgg0
  z0 := Tryz.sizeOf0
  v0 := Tryz.zeroValue0
  t3 := Tryz.underlying3
  a3 := Tryz.isAgg3
  z3 := Tryz.sizeOf3
  v3 := Tryz.zeroValue3
  t4 := Tryz.underlying4
  a4 := Tryz.isAgg4
  z4 := Tryz.sizeOf4
  v4 := Tryz.zeroValue4
  t5 := Tryz.underlying5
  a5 := Tryz.isAgg5
  z5 := Tryz.sizeOf5
  v5 := Tryz.zeroValue5
  t9 := Tryz.underlying9
  a9 := Tryz.isAgg9
  z9 := Tryz.sizeOf9
  v9 := Tryz.zeroValue9
  t12 := Tryz.underlying12
  a12 := Tryz.isAgg12
  z12 := Tryz.sizeOf12
  v12 := Tryz.zeroValue12
  t46 := Tryz.underlying145
  a46 := Tryz.isAgg145
  z46 := Tryz.sizeOf145
  v46 := Tryz.zeroValue145
  t53 := Tryz.underlying184
  a53 := Tryz.isAgg184
  z53 := Tryz.sizeOf184
  v53 := Tryz.zeroValue184
  t119 := Tryz.underlying172
  a119 := Tryz.isAgg172
  z119 := Tryz.sizeOf172
  t138 := Tryz.underlying174
  a138 := Tryz.isAgg174
  z138 := Tryz.sizeOf174
  v138 := Tryz.zeroValue174
  t139 := Tryz.underlying175
  a139 := Tryz.isAgg175
  z139 := Tryz.sizeOf175
  v139 := Tryz.zeroValue175
  g3 := by kernel_rfl
  g4 := by kernel_rfl }
end Go.Proofs
namespace Go.SX
open Go Go.RowKit
theorem Does.of_plainT {P : Program} {f : FuncId} {args : List AV} {r : AV} {v : Value} (hfn : fnOK P f = true) (hr : ∀ w Own ρ, VRel w Own ρ r v)
    (h : ∀ (w : World) (Own : Nat → Prop) (vs : Array Value), theTab.p w → args.length = vs.size → (∀ (i : Nat) x, args[i]? = some x → VRel w Own (fun _ => none) x (vs.getD i undef)) → Calls P f vs w fun e w' => e = .returned v ∧ Below w.heap.size w w') : Does P f args [] [] (fun r' m => m = [] ∧ r' = r) := by
  refine ⟨hfn, fun A ρ w vs ht1 ht2 hM hlen hv => ?_⟩
  have hρ : ρ = fun _ => none := by
    funext b
    cases e : ρ b with
    | none => rfl
    | some p => obtain ⟨k, o⟩ := p; obtain ⟨blk, hl⟩ := hM.dom b k o e; simp [SX.look] at hl
  subst hρ
  refine (h w _ vs ht1 hlen hv).mono ?_
  rintro e w' ⟨rfl, hb⟩
  obtain ⟨h1, h2⟩ := after_drawn hb hM (fun k cur ty fr hk hh => by rw [hb.block k hk] at hh; exact ⟨cur, ty, fr, hh, rfl⟩)
  exact ⟨v, r, [], _, rfl, ⟨rfl, rfl⟩, h1, hr _ _ _, h2⟩
end Go.SX
namespace Go.Proofs.YtadbdchbdjkcdaaGreatDoor.P16
open Go Go.SX
theorem d43 (s : ByteArray) (hs : s.size ≤ 9223372036854775807) : Does Tryz.prog 145 [sv s] [] [] (fun r m => m = [] ∧ r = bv (Lib.validD s.data.toList)) := by
  refine Does.of_plainT (v := .bool (Lib.validD s.data.toList)) (by kernel_rfl) (fun _ _ _ => .tree (.lit rfl)) (fun w Own vs ht hlen hv => ?_)
  have h0 := (hv 0 _ rfl).lit_inv.1
  have hvs : vs = #[.string s] := by
    apply Array.ext
    · simpa using hlen.symm
    · intro i h1 h2
      have : i = 0 := by simp at h2; omega
      subst this
      simpa [Array.getD_eq_getD_getElem?, h1] using h0
  subst hvs
  exact Any.utf8_ValidString Tryz.laysValid s w hs ht
end Go.Proofs.YtadbdchbdjkcdaaGreatDoor.P16
namespace Go.Proofs
open Go.RowKit Go.Lib
def Tryz.runes (s : ByteArray) : Nat → Nat → Bool
  | 0, _ => true
  | fuel + 1, pos => if pos < s.size then (if (Utf8.decode s pos).1 < 32 ∨ (Utf8.decode s pos).1 = 127 then false else Tryz.runes s fuel (pos + (Utf8.decode s pos).2)) else true
def Tryz.mayR (s : ByteArray) : Bool := decide (1 ≤ s.size) && decide (s.size ≤ 64) && Lib.validD s.data.toList && Tryz.runes s s.size 0
theorem Tryz.width_pos (s : ByteArray) (pos : Nat) (h : pos < s.size) : 1 ≤ (Utf8.decode s pos).2 := by
  by_cases ha : (s[pos]'h).toNat < 128
  · rw [decode_ascii s pos h ha]
    exact Nat.le_refl _
  · exact (decode_high s pos h (by omega)).2
theorem Tryz.runes_end (s : ByteArray) (fuel pos : Nat) (h : ¬ pos < s.size) : Tryz.runes s fuel pos = true := by
  cases fuel with
  | zero => rfl
  | succ f => simp [Tryz.runes, h]
set_option maxHeartbeats 4000000 in
set_option maxRecDepth 1000000 in
theorem Tryz.may_walk (s : ByteArray) (w : World) (hs : s.size ≤ 9223372036854775807) (hT : Lib.Utf8Tabs 0 1 w) :
    Calls Tryz.prog 108 #[.string s] w fun e w' => e = .returned (.bool (Tryz.mayR s)) ∧ Below w.heap.size w w' := by
  have cV : Calls Tryz.prog 145 #[.string s] w _ := Any.utf8_ValidString Tryz.laysValid s w hs hT
  obtain ⟨V, hV⟩ : ∃ V, Lib.validD s.data.toList = V := ⟨_, rfl⟩
  obtain ⟨A, hA⟩ : ∃ A, Tryz.mayR s = A := ⟨_, rfl⟩
  rw [hA]
  rw [hV] at cV
  by_cases h1 : s.size < 1
  · have hAf : A = false := by rw [← hA]; unfold Tryz.mayR; rw [decide_eq_false (by omega)]; rfl
    subst hAf
    have h1z : (s.size : Int) < 1 := by omega
    clear cV
    go_enter Tryz.func108, Tryz.ntmps108
    go_wp2
    go_ret
    exact ⟨rfl, by first | assumption | exact Below.refl _ _⟩
  · have h1z : ¬ ((s.size : Int) < 1) := by omega
    by_cases h2 : 64 < s.size
    · have hAf : A = false := by rw [← hA]; unfold Tryz.mayR; rw [decide_eq_false (p := s.size ≤ 64) (by omega)]; simp
      subst hAf
      have h2z : (64 : Int) < (s.size : Int) := by omega
      clear cV
      go_enter Tryz.func108, Tryz.ntmps108
      go_wp2
      go_ret
      exact ⟨rfl, by first | assumption | exact Below.refl _ _⟩
    · have h2z : ¬ ((64 : Int) < (s.size : Int)) := by omega
      cases hVb : V
      · subst hVb
        have hAf : A = false := by rw [← hA]; unfold Tryz.mayR; rw [hV]; simp
        subst hAf
        go_enter Tryz.func108, Tryz.ntmps108
        go_wp2_with (go_at_call 145; refine cV.mono ?_; rintro e w' ⟨rfl, hb⟩)
        go_ret
        exact ⟨rfl, hb⟩
      · subst hVb
        have hAr : Tryz.runes s s.size 0 = A := by rw [← hA]; unfold Tryz.mayR; rw [hV, decide_eq_true (p := 1 ≤ s.size) (by omega), decide_eq_true (p := s.size ≤ 64) (by omega)]; rfl
        clear hA hV
        go_enter Tryz.func108, Tryz.ntmps108
        go_wp2_with (go_at_call 145; refine cV.mono ?_; rintro e w1 ⟨rfl, hb⟩)
        have hsz1 := hb.size
        go_loopw [] (fun wr => ∃ (pos fuel : Nat), wr.heap[w1.heap.size]? = some (.stringIter s pos) ∧ Below w.heap.size w wr ∧ Tryz.runes s fuel pos = A ∧ s.size ≤ pos + fuel) (fun wr => s.size - wr.iterPos w1.heap.size)
        case atStart =>
          refine ⟨0, s.size, ?_, hb.alloc (by omega) _, hAr, by omega⟩
          have := World.iter_heap w1 s 0
          simpa using this
        case round =>
          obtain ⟨pos, fuel, hit, hbw, hacc, hfu⟩ := hrel
          have hsz : w1.heap.size < wr.heap.size := (Array.getElem?_eq_some_iff.1 hit).1
          by_cases hp : pos < s.size
          · have hnx : ∀ ty, (Instr.next (.pointer (some ⟨w1.heap.size, 0, none⟩)) true ty).run Tryz.prog wr = _ := fun ty => Lib.run_next_any_at wr w1.heap.size s pos ty hit hp
            have hwd := Tryz.width_pos s pos hp
            have hit2 := Lib.iterAt_heap wr w1.heap.size s pos (pos + (Utf8.decode s pos).2) hit
            have hbw2 := Lib.below_iterAt hbw (k := w1.heap.size) (by omega) s (pos + (Utf8.decode s pos).2)
            obtain ⟨f, rfl⟩ : ∃ f, fuel = f + 1 := ⟨fuel - 1, by omega⟩
            simp only [Tryz.runes, hp, if_true] at hacc
            by_cases h32 : (Utf8.decode s pos).1 < 32
            · have h32z : ((Utf8.decode s pos).1 : Int) < 32 := by omega
              rw [if_pos (.inl h32)] at hacc
              subst hacc
              go_wp2
              go_ret
              exact ⟨rfl, hbw2⟩
            · have h32z : ¬ (((Utf8.decode s pos).1 : Int) < 32) := by omega
              by_cases h127 : (Utf8.decode s pos).1 = 127
              · have h127z : ((Utf8.decode s pos).1 : Int) = 127 := by omega
                rw [if_pos (.inr h127)] at hacc
                subst hacc
                go_wp2
                go_ret
                exact ⟨rfl, hbw2⟩
              · have h127z : ¬ (((Utf8.decode s pos).1 : Int) = 127) := by omega
                rw [if_neg (by omega)] at hacc
                go_wp2
                go_roundw
                case rel => exact ⟨_, f, hit2, hbw2, hacc, by omega⟩
                case measure =>
                  simp only [World.iterPos, hit2, hit]
                  omega
          · have hnx : ∀ ty, (Instr.next (.pointer (some ⟨w1.heap.size, 0, none⟩)) true ty).run Tryz.prog wr = _ := fun ty => Lib.run_next_end_at wr w1.heap.size s pos ty hit hp
            rw [Tryz.runes_end s fuel pos hp] at hacc
            subst hacc
            go_wp2
            go_ret
            exact ⟨rfl, hbw⟩
end Go.Proofs
namespace Go.Proofs.YtadbdchbdjkcdaaGreatDoor.P16
open Go Go.SX
theorem d36 (s : ByteArray) (hs : s.size ≤ 9223372036854775807) : Does Tryz.prog 108 [sv s] [] [] (fun r m => m = [] ∧ r = bv (Tryz.mayR s)) := by
  refine Does.of_plainT (v := .bool (Tryz.mayR s)) (by kernel_rfl) (fun _ _ _ => .tree (.lit rfl)) (fun w Own vs ht hlen hv => ?_)
  have h0 := (hv 0 _ rfl).lit_inv.1
  have hvs : vs = #[.string s] := by
    apply Array.ext
    · simpa using hlen.symm
    · intro i h1 h2
      have : i = 0 := by simp at h2; omega
      subst this
      simpa [Array.getD_eq_getD_getElem?, h1] using h0
  subst hvs
  exact Tryz.may_walk s w hs ht
abbrev DoesT (f : Nat) (args : List AV) (r : AV) : Prop := Does Tryz.prog f args [] [] (fun r' m => m = [] ∧ r' = r)
def btw (n a b : Int) : Bool := decide (a ≤ n) && decide (n ≤ b)
theorem c39 : chkFn Tryz.prog 109 15 3 a39 a39R = true := by kernel_rfl
theorem d39 (n a b : Int) : DoesT 109 [iv n, iv a, iv b] (bv (btw n a b)) := by
 refine Does.of (nt := 15) (ac := a39) (rds := a39R) c39 (fun c hc => ?_)
 unfold a39
 apply J.seq
 refine J.regE (by simp; rfl) ?_
 simp
 apply J.seq
 by_cases h : a ≤ n
 ·
  refine J.regE (by simp [h]; rfl) ?_
  simp
  apply J.ret
  refine ⟨by simp, rfl, _, [], by simp [a39R]; rfl, ?_⟩
  simp [h, btw]
 ·
  refine J.regE (by simp [h]; rfl) ?_
  simp
  apply J.ret
  refine ⟨by simp, rfl, _, [], by simp [a39R]; rfl, ?_⟩
  simp [h, btw]
def bt (s : ByteArray) (i : Nat) : Nat := (s.data.toList.getD i 0).toNat
theorem bt_eq (s : ByteArray) (i : Nat) (h : i < s.size) : s[i].toNat = bt s i := by
 unfold bt
 have h' : i < s.data.toList.length := by simpa using h
 have : s.data.toList.getD i 0 = s.data.toList[i] := by rw [List.getD_eq_getElem?_getD, List.getElem?_eq_getElem h']; rfl
 rw [this]; rfl
theorem bt_lt (s : ByteArray) (i : Nat) : bt s i < 256 := UInt8.toNat_lt _
def folR (s : ByteArray) : Nat → Nat → Bool
 | _, 0 => true
 | i, n + 1 => decide (i < s.size) && decide (128 ≤ bt s i) && decide (bt s i ≤ 191) && folR s (i + 1) n
def I46 (s : ByteArray) (a n m : Nat) (st : St) : Prop := ∃ i : Nat, a ≤ i ∧ i ≤ a + n ∧ m = a + n - i ∧ folR s a n = folR s i (a + n - i) ∧ st = ⟨[(0, sv s), (1, iv a), (2, iv n), (7, iv i)], [], []⟩
theorem c46 : chkFn Tryz.prog 166 32 3 a46 a46R = true := by kernel_rfl
theorem d46 (s : ByteArray) (a n : Nat) (hs : s.size ≤ 1000000) (ha : a ≤ 1000000) (hn : n ≤ 3) : DoesT 166 [sv s, iv a, iv n] (bv (folR s a n)) := by
 have hw : IntKind.i64.wrap ((a : Int) + n) = (a : Int) + n := wrap_id (by omega) (by omega)
 refine Does.of (nt := 32) (ac := a46) (rds := a46R) c46 (fun c hc => ?_)
 unfold a46
 apply J.seq
 refine J.regE (by simp [hw, bt_eq]; rfl) ?_
 simp
 apply J.seq
 apply J.seq
 refine J.regE (by simp [hw, bt_eq]; rfl) ?_
 simp
 apply J.block
 refine J.loop hc (I46 s a n) ?_ ?_
 ·refine ⟨_, _, St.le_refl _, a, Nat.le_refl _, by omega, rfl, by simp, by simp⟩
 rintro n st ⟨i, hi1, hi2, rfl, hI, rfl⟩
 have hw2 : IntKind.i64.wrap ((i : Int) + 1) = (i : Int) + 1 := wrap_id (by omega) (by omega)
 apply J.seq
 apply J.seq
 refine J.regE (by simp [hw, bt_eq]; rfl) ?_
 simp
 refine J.condB rfl (fun h13 => ?_) (fun h13 => ?_)
 ·
  simp at h13
  obtain ⟨q, hq⟩ : ∃ q, a + n - i = q + 1 := ⟨a + n - i - 1, by omega⟩
  have hn' : a + n - (i + 1) = q := by omega
  rw [hq] at hI
  apply J.skip; simp
  apply J.seq
  apply J.block
  apply J.seq
  apply J.reg
  iterate 5 refine runL_step rfl (by simp [hw, bt_eq]; rfl) ?_
  refine runL_if rfl (fun g20 => ?_) (fun g20 => ?_)
  ·
   try simp only [g20]
   try simp at g20
   iterate 6 refine runL_step rfl (by simp [hw, bt_eq, g20]; rfl) ?_
   refine runL_if rfl (fun g26 => ?_) (fun g26 => ?_)
   ·
    try simp only [g26]
    try simp at g26
    iterate 5 refine runL_step rfl (by simp [hw, bt_eq, g20]; rfl) ?_
    simp [runL]
    refine J.condB rfl (fun h31 => ?_) (fun h31 => ?_)
    ·
     try simp only [h31]
     try simp at h31
     apply J.seq
     refine J.regE (by simp [hw, bt_eq]; rfl) ?_
     simp
     apply J.ret
     refine ⟨by simp, rfl, _, [], by simp [a46R]; rfl, ?_⟩
     simp [folR, *] <;> omega
    ·
     try simp only [h31]
     try simp at h31
     apply J.skip; simp
     refine J.regE (by simp [hw, bt_eq, hw2]; rfl) ?_
     simp
     refine ⟨_, by omega, _, St.le_refl _, i + 1, by omega, by omega, rfl, ?_, by simp⟩
     rw [hI, hn']
     simp [folR, *] <;> omega
   ·
    try simp only [g26]
    try simp at g26
    iterate 4 refine runL_step rfl (by simp [hw, bt_eq, g20]; rfl) ?_
    simp [runL]
    apply J.cond; simp [hw, bt_eq]
    apply J.seq
    refine J.regE (by simp [hw, bt_eq]; rfl) ?_
    simp
    apply J.ret
    refine ⟨by simp, rfl, _, [], by simp [a46R]; rfl, ?_⟩
    simp [folR, *] <;> omega
  ·
   try simp only [g20]
   try simp at g20
   iterate 10 refine runL_step rfl (by simp [hw, bt_eq]; rfl) ?_
   simp [runL]
   apply J.cond; simp [hw, bt_eq]
   apply J.seq
   refine J.regE (by simp [hw, bt_eq]; rfl) ?_
   simp
   apply J.ret
   refine ⟨by simp, rfl, _, [], by simp [a46R]; rfl, ?_⟩
   simp [folR, *] <;> omega
 ·
  simp at h13
  have hz : a + n - i = 0 := by omega
  rw [hz] at hI
  apply J.exit; simp
  apply J.seq
  refine J.regE (by simp [hw, bt_eq]; rfl) ?_
  simp
  apply J.ret
  refine ⟨by simp, rfl, _, [], by simp [a46R]; rfl, ?_⟩
  simp [folR, *] <;> omega
theorem fol_lt {s : ByteArray} {i n : Nat} (h : folR s i (n + 1) = true) : i < s.size := by simp only [folR, Bool.and_eq_true, decide_eq_true_eq] at h; exact h.1.1.1
def sizeR (s : ByteArray) (i : Nat) : Nat :=
 if bt s i < 128 then 1
 else if (194 ≤ bt s i ∧ bt s i ≤ 223) ∧ folR s (i + 1) 1 = true then 2
 else if (224 ≤ bt s i ∧ bt s i ≤ 239) ∧ folR s (i + 1) 2 = true then (if (bt s i = 224 ∧ bt s (i + 1) < 160) ∨ (bt s i = 237 ∧ 159 < bt s (i + 1)) then 0 else 3)
 else if (240 ≤ bt s i ∧ bt s i ≤ 244) ∧ folR s (i + 1) 3 = true then (if (bt s i = 240 ∧ bt s (i + 1) < 144) ∨ (bt s i = 244 ∧ 143 < bt s (i + 1)) then 0 else 4)
 else 0
def mayT (s : ByteArray) : Nat → Nat → Bool
 | 0, _ => true
 | f + 1, i => if i < s.size then (if sizeR s i = 0 ∨ bt s i < 32 ∨ bt s i = 127 then false else mayT s f (i + sizeR s i)) else true
theorem sizeR_le (s : ByteArray) (i : Nat) : sizeR s i ≤ 4 := by unfold sizeR; (repeat' split) <;> omega
theorem mayT_end {s : ByteArray} {f i : Nat} (h : ¬ i < s.size) : mayT s f i = true := by cases f <;> simp [mayT, h]
def I40 (s : ByteArray) (m : Nat) (st : St) : Prop := ∃ i f : Nat, i ≤ s.size + 4 ∧ m = s.size + 4 - i ∧ s.size ≤ i + f ∧ mayT s s.size 0 = mayT s f i ∧ st = ⟨[(0, sv s), (3, iv i)], [], []⟩
theorem c44 : chkFn Tryz.prog 157 91 2 a44 a44R = true := by kernel_rfl
theorem d44 (s : ByteArray) (i : Nat) (hs : s.size ≤ 100000) (hi : i < s.size) : DoesT 157 [sv s, iv i] (iv (sizeR s i : Nat)) := by
 have hw : IntKind.i64.wrap ((i : Int) + 1) = (i : Int) + 1 := wrap_id (by omega) (by omega)
 have f1 := d46 s (i + 1) 1 (by omega) (by omega) (by omega)
 have f2 := d46 s (i + 1) 2 (by omega) (by omega) (by omega)
 have f3 := d46 s (i + 1) 3 (by omega) (by omega) (by omega)
 refine Does.of (nt := 91) (ac := a44) (rds := a44R) c44 (fun c hc => ?_)
 unfold a44
 apply J.seq
 refine J.regE (by simp [hw, hi, bt_eq]; rfl) ?_
 simp
 apply J.seq
 refine J.regE (by simp [hw, hi, bt_eq]; rfl) ?_
 simp
 apply J.seq
 apply J.seq
 refine J.regE (by simp [hw, hi, bt_eq]; rfl) ?_
 simp
 refine J.condB rfl (fun h15 => ?_) (fun h15 => ?_)
 ·
  try simp only [h15]
  try simp at h15
  apply J.seq
  refine J.regE (by simp [hw, hi, bt_eq]; rfl) ?_
  simp
  apply J.ret
  refine ⟨by simp, rfl, _, [], by simp [a44R]; rfl, ?_⟩
  simp
  unfold sizeR
  (repeat' split) <;> first | omega | (simp_all; done) | (simp_all; omega)
 ·
  try simp only [h15]
  try simp at h15
  apply J.skip; simp
  apply J.seq
  apply J.reg
  iterate 3 refine runL_step rfl (by simp [hw, hi, bt_eq]; rfl) ?_
  refine runL_tree rfl (f1) (by simp) hc ?_
  simp
  refine runL_step rfl (by simp [hw, hi, bt_eq]; rfl) ?_
  simp [runL]
  apply J.seq
  apply J.reg
  iterate 3 refine runL_step rfl (by simp [hw, hi, bt_eq]; rfl) ?_
  refine runL_tree rfl (f2) (by simp) hc ?_
  simp
  refine runL_step rfl (by simp [hw, hi, bt_eq]; rfl) ?_
  simp [runL]
  apply J.seq
  apply J.reg
  iterate 3 refine runL_step rfl (by simp [hw, hi, bt_eq]; rfl) ?_
  refine runL_tree rfl (f3) (by simp) hc ?_
  simp
  refine runL_step rfl (by simp [hw, hi, bt_eq]; rfl) ?_
  simp [runL]
  apply J.seq
  apply J.seq
  apply J.reg
  iterate 3 refine runL_step rfl (by simp [hw, hi, bt_eq]; rfl) ?_
  refine runL_if rfl (fun g30 => ?_) (fun g30 => ?_)
  ·
   try simp only [g30]
   try simp at g30
   iterate 4 refine runL_step rfl (by simp [hw, hi, bt_eq]; rfl) ?_
   refine runL_if rfl (fun g34 => ?_) (fun g34 => ?_)
   ·
    try simp only [g34]
    try simp at g34
    iterate 2 refine runL_step rfl (by simp [hw, hi, bt_eq]; rfl) ?_
    simp [runL]
    refine J.condB rfl (fun h36 => ?_) (fun h36 => ?_)
    ·
     try simp only [h36]
     try simp at h36
     apply J.seq
     refine J.regE (by simp [hw, hi, bt_eq]; rfl) ?_
     simp
     apply J.ret
     refine ⟨by simp, rfl, _, [], by simp [a44R]; rfl, ?_⟩
     simp
     unfold sizeR
     (repeat' split) <;> first | omega | (simp_all; done) | (simp_all; omega)
    ·
     try simp only [h36]
     try simp at h36
     apply J.skip; simp
     apply J.seq
     apply J.seq
     apply J.reg
     iterate 3 refine runL_step rfl (by simp [hw, hi, bt_eq]; rfl) ?_
     refine runL_if rfl (fun g39 => ?_) (fun g39 => ?_)
     ·
      try simp only [g39]
      try simp at g39
      exfalso; omega
     ·
      try simp only [g39]
      try simp at g39
      iterate 5 refine runL_step rfl (by simp [hw, hi, bt_eq]; rfl) ?_
      simp [runL]
      apply J.cond; simp [hw, hi, bt_eq]
      apply J.skip; simp
      apply J.seq
      apply J.seq
      apply J.reg
      iterate 3 refine runL_step rfl (by simp [hw, hi, bt_eq]; rfl) ?_
      refine runL_if rfl (fun g66 => ?_) (fun g66 => ?_)
      ·
       try simp only [g66]
       try simp at g66
       exfalso; omega
      ·
       try simp only [g66]
       try simp at g66
       iterate 5 refine runL_step rfl (by simp [hw, hi, bt_eq]; rfl) ?_
       simp [runL]
       apply J.cond; simp [hw, hi, bt_eq]
       apply J.skip; simp
       apply J.seq
       refine J.regE (by simp [hw, hi, bt_eq]; rfl) ?_
       simp
       apply J.ret
       refine ⟨by simp, rfl, _, [], by simp [a44R]; rfl, ?_⟩
       simp
       unfold sizeR
       (repeat' split) <;> first | omega | (simp_all; done) | (simp_all; omega)
   ·
    try simp only [g34]
    try simp at g34
    refine runL_step rfl (by simp [hw, hi, bt_eq]; rfl) ?_
    simp [runL]
    apply J.cond; simp [hw, hi, bt_eq]
    apply J.skip; simp
    apply J.seq
    apply J.seq
    apply J.reg
    iterate 3 refine runL_step rfl (by simp [hw, hi, bt_eq]; rfl) ?_
    refine runL_if rfl (fun g39 => ?_) (fun g39 => ?_)
    ·
     try simp only [g39]
     try simp at g39
     iterate 4 refine runL_step rfl (by simp [hw, hi, bt_eq]; rfl) ?_
     refine runL_if rfl (fun g43 => ?_) (fun g43 => ?_)
     ·
      try simp only [g43]
      try simp at g43
      iterate 2 refine runL_step rfl (by simp [hw, hi, bt_eq]; rfl) ?_
      simp [runL]
      refine J.condB rfl (fun h45 => ?_) (fun h45 => ?_)
      ·
       have hlt := fol_lt h45
       apply J.seq
       refine J.regE (by simp [hw, hi, bt_eq, hlt]; rfl) ?_
       simp
       apply J.seq
       apply J.seq
       apply J.reg
       iterate 3 refine runL_step rfl (by simp [hw, hi, bt_eq]; rfl) ?_
       refine runL_if rfl (fun g52 => ?_) (fun g52 => ?_)
       ·
        try simp only [g52]
        try simp at g52
        iterate 4 refine runL_step rfl (by simp [hw, hi, bt_eq]; rfl) ?_
        refine runL_if rfl (fun g56 => ?_) (fun g56 => ?_)
        ·
         try simp only [g56]
         try simp at g56
         iterate 3 refine runL_step rfl (by simp [hw, hi, bt_eq]; rfl) ?_
         refine runL_if rfl (fun g59 => ?_) (fun g59 => ?_)
         ·
          try simp only [g59]
          try simp at g59
          exfalso; omega
         ·
          try simp only [g59]
          try simp at g59
          iterate 3 refine runL_step rfl (by simp [hw, hi, bt_eq]; rfl) ?_
          simp [runL]
          apply J.cond; simp [hw, hi, bt_eq]
          apply J.skip; simp
          apply J.seq
          refine J.regE (by simp [hw, hi, bt_eq]; rfl) ?_
          simp
          apply J.ret
          refine ⟨by simp, rfl, _, [], by simp [a44R]; rfl, ?_⟩
          simp
          unfold sizeR
          (repeat' split) <;> first | omega | (simp_all; done) | (simp_all; omega)
        ·
         try simp only [g56]
         try simp at g56
         iterate 6 refine runL_step rfl (by simp [hw, hi, bt_eq]; rfl) ?_
         simp [runL]
         apply J.cond; simp [hw, hi, bt_eq]
         apply J.seq
         refine J.regE (by simp [hw, hi, bt_eq]; rfl) ?_
         simp
         apply J.ret
         refine ⟨by simp, rfl, _, [], by simp [a44R]; rfl, ?_⟩
         simp
         unfold sizeR
         (repeat' split) <;> first | omega | (simp_all; done) | (simp_all; omega)
       ·
        try simp only [g52]
        try simp at g52
        iterate 6 refine runL_step rfl (by simp [hw, hi, bt_eq]; rfl) ?_
        refine runL_if rfl (fun g59 => ?_) (fun g59 => ?_)
        ·
         try simp only [g59]
         try simp at g59
         iterate 4 refine runL_step rfl (by simp [hw, hi, bt_eq]; rfl) ?_
         simp [runL]
         refine J.condB rfl (fun h63 => ?_) (fun h63 => ?_)
         ·
          try simp only [h63]
          try simp at h63
          apply J.seq
          refine J.regE (by simp [hw, hi, bt_eq]; rfl) ?_
          simp
          apply J.ret
          refine ⟨by simp, rfl, _, [], by simp [a44R]; rfl, ?_⟩
          simp
          unfold sizeR
          (repeat' split) <;> first | omega | (simp_all; done) | (simp_all; omega)
         ·
          try simp only [h63]
          try simp at h63
          apply J.skip; simp
          apply J.seq
          refine J.regE (by simp [hw, hi, bt_eq]; rfl) ?_
          simp
          apply J.ret
          refine ⟨by simp, rfl, _, [], by simp [a44R]; rfl, ?_⟩
          simp
          unfold sizeR
          (repeat' split) <;> first | omega | (simp_all; done) | (simp_all; omega)
        ·
         try simp only [g59]
         try simp at g59
         iterate 3 refine runL_step rfl (by simp [hw, hi, bt_eq]; rfl) ?_
         simp [runL]
         apply J.cond; simp [hw, hi, bt_eq]
         apply J.skip; simp
         apply J.seq
         refine J.regE (by simp [hw, hi, bt_eq]; rfl) ?_
         simp
         apply J.ret
         refine ⟨by simp, rfl, _, [], by simp [a44R]; rfl, ?_⟩
         simp
         unfold sizeR
         (repeat' split) <;> first | omega | (simp_all; done) | (simp_all; omega)
      ·
       apply J.skip; simp
       apply J.seq
       apply J.seq
       apply J.reg
       iterate 3 refine runL_step rfl (by simp [hw, hi, bt_eq]; rfl) ?_
       refine runL_if rfl (fun g66 => ?_) (fun g66 => ?_)
       ·
        try simp only [g66]
        try simp at g66
        exfalso; omega
       ·
        try simp only [g66]
        try simp at g66
        iterate 5 refine runL_step rfl (by simp [hw, hi, bt_eq]; rfl) ?_
        simp [runL]
        apply J.cond; simp [hw, hi, bt_eq]
        apply J.skip; simp
        apply J.seq
        refine J.regE (by simp [hw, hi, bt_eq]; rfl) ?_
        simp
        apply J.ret
        refine ⟨by simp, rfl, _, [], by simp [a44R]; rfl, ?_⟩
        simp
        unfold sizeR
        (repeat' split) <;> first | omega | (simp_all; done) | (simp_all; omega)
     ·
      try simp only [g43]
      try simp at g43
      refine runL_step rfl (by simp [hw, hi, bt_eq]; rfl) ?_
      simp [runL]
      apply J.cond; simp [hw, hi, bt_eq]
      apply J.skip; simp
      apply J.seq
      apply J.seq
      apply J.reg
      iterate 3 refine runL_step rfl (by simp [hw, hi, bt_eq]; rfl) ?_
      refine runL_if rfl (fun g66 => ?_) (fun g66 => ?_)
      ·
       try simp only [g66]
       try simp at g66
       iterate 4 refine runL_step rfl (by simp [hw, hi, bt_eq]; rfl) ?_
       refine runL_if rfl (fun g70 => ?_) (fun g70 => ?_)
       ·
        try simp only [g70]
        try simp at g70
        iterate 2 refine runL_step rfl (by simp [hw, hi, bt_eq]; rfl) ?_
        simp [runL]
        refine J.condB rfl (fun h72 => ?_) (fun h72 => ?_)
        ·
         have hlt := fol_lt h72
         apply J.seq
         refine J.regE (by simp [hw, hi, bt_eq, hlt]; rfl) ?_
         simp
         apply J.seq
         apply J.seq
         apply J.reg
         iterate 3 refine runL_step rfl (by simp [hw, hi, bt_eq]; rfl) ?_
         refine runL_if rfl (fun g79 => ?_) (fun g79 => ?_)
         ·
          try simp only [g79]
          try simp at g79
          iterate 4 refine runL_step rfl (by simp [hw, hi, bt_eq]; rfl) ?_
          refine runL_if rfl (fun g83 => ?_) (fun g83 => ?_)
          ·
           try simp only [g83]
           try simp at g83
           iterate 3 refine runL_step rfl (by simp [hw, hi, bt_eq]; rfl) ?_
           refine runL_if rfl (fun g86 => ?_) (fun g86 => ?_)
           ·
            try simp only [g86]
            try simp at g86
            exfalso; omega
           ·
            try simp only [g86]
            try simp at g86
            iterate 3 refine runL_step rfl (by simp [hw, hi, bt_eq]; rfl) ?_
            simp [runL]
            apply J.cond; simp [hw, hi, bt_eq]
            apply J.skip; simp
            apply J.seq
            refine J.regE (by simp [hw, hi, bt_eq]; rfl) ?_
            simp
            apply J.ret
            refine ⟨by simp, rfl, _, [], by simp [a44R]; rfl, ?_⟩
            simp
            unfold sizeR
            (repeat' split) <;> first | omega | (simp_all; done) | (simp_all; omega)
          ·
           try simp only [g83]
           try simp at g83
           iterate 6 refine runL_step rfl (by simp [hw, hi, bt_eq]; rfl) ?_
           simp [runL]
           apply J.cond; simp [hw, hi, bt_eq]
           apply J.seq
           refine J.regE (by simp [hw, hi, bt_eq]; rfl) ?_
           simp
           apply J.ret
           refine ⟨by simp, rfl, _, [], by simp [a44R]; rfl, ?_⟩
           simp
           unfold sizeR
           (repeat' split) <;> first | omega | (simp_all; done) | (simp_all; omega)
         ·
          try simp only [g79]
          try simp at g79
          iterate 6 refine runL_step rfl (by simp [hw, hi, bt_eq]; rfl) ?_
          refine runL_if rfl (fun g86 => ?_) (fun g86 => ?_)
          ·
           try simp only [g86]
           try simp at g86
           iterate 4 refine runL_step rfl (by simp [hw, hi, bt_eq]; rfl) ?_
           simp [runL]
           refine J.condB rfl (fun h90 => ?_) (fun h90 => ?_)
           ·
            try simp only [h90]
            try simp at h90
            apply J.seq
            refine J.regE (by simp [hw, hi, bt_eq]; rfl) ?_
            simp
            apply J.ret
            refine ⟨by simp, rfl, _, [], by simp [a44R]; rfl, ?_⟩
            simp
            unfold sizeR
            (repeat' split) <;> first | omega | (simp_all; done) | (simp_all; omega)
           ·
            try simp only [h90]
            try simp at h90
            apply J.skip; simp
            apply J.seq
            refine J.regE (by simp [hw, hi, bt_eq]; rfl) ?_
            simp
            apply J.ret
            refine ⟨by simp, rfl, _, [], by simp [a44R]; rfl, ?_⟩
            simp
            unfold sizeR
            (repeat' split) <;> first | omega | (simp_all; done) | (simp_all; omega)
          ·
           try simp only [g86]
           try simp at g86
           iterate 3 refine runL_step rfl (by simp [hw, hi, bt_eq]; rfl) ?_
           simp [runL]
           apply J.cond; simp [hw, hi, bt_eq]
           apply J.skip; simp
           apply J.seq
           refine J.regE (by simp [hw, hi, bt_eq]; rfl) ?_
           simp
           apply J.ret
           refine ⟨by simp, rfl, _, [], by simp [a44R]; rfl, ?_⟩
           simp
           unfold sizeR
           (repeat' split) <;> first | omega | (simp_all; done) | (simp_all; omega)
        ·
         apply J.skip; simp
         apply J.seq
         refine J.regE (by simp [hw, hi, bt_eq]; rfl) ?_
         simp
         apply J.ret
         refine ⟨by simp, rfl, _, [], by simp [a44R]; rfl, ?_⟩
         simp
         unfold sizeR
         (repeat' split) <;> first | omega | (simp_all; done) | (simp_all; omega)
       ·
        try simp only [g70]
        try simp at g70
        refine runL_step rfl (by simp [hw, hi, bt_eq]; rfl) ?_
        simp [runL]
        apply J.cond; simp [hw, hi, bt_eq]
        apply J.skip; simp
        apply J.seq
        refine J.regE (by simp [hw, hi, bt_eq]; rfl) ?_
        simp
        apply J.ret
        refine ⟨by simp, rfl, _, [], by simp [a44R]; rfl, ?_⟩
        simp
        unfold sizeR
        (repeat' split) <;> first | omega | (simp_all; done) | (simp_all; omega)
      ·
       try simp only [g66]
       try simp at g66
       exfalso; omega
    ·
     try simp only [g39]
     try simp at g39
     exfalso; omega
  ·
   try simp only [g30]
   try simp at g30
   iterate 5 refine runL_step rfl (by simp [hw, hi, bt_eq]; rfl) ?_
   simp [runL]
   apply J.cond; simp [hw, hi, bt_eq]
   apply J.skip; simp
   apply J.seq
   apply J.seq
   apply J.reg
   iterate 3 refine runL_step rfl (by simp [hw, hi, bt_eq]; rfl) ?_
   refine runL_if rfl (fun g39 => ?_) (fun g39 => ?_)
   ·
    try simp only [g39]
    try simp at g39
    exfalso; omega
   ·
    try simp only [g39]
    try simp at g39
    iterate 5 refine runL_step rfl (by simp [hw, hi, bt_eq]; rfl) ?_
    simp [runL]
    apply J.cond; simp [hw, hi, bt_eq]
    apply J.skip; simp
    apply J.seq
    apply J.seq
    apply J.reg
    iterate 3 refine runL_step rfl (by simp [hw, hi, bt_eq]; rfl) ?_
    refine runL_if rfl (fun g66 => ?_) (fun g66 => ?_)
    ·
     try simp only [g66]
     try simp at g66
     exfalso; omega
    ·
     try simp only [g66]
     try simp at g66
     iterate 5 refine runL_step rfl (by simp [hw, hi, bt_eq]; rfl) ?_
     simp [runL]
     apply J.cond; simp [hw, hi, bt_eq]
     apply J.skip; simp
     apply J.seq
     refine J.regE (by simp [hw, hi, bt_eq]; rfl) ?_
     simp
     apply J.ret
     refine ⟨by simp, rfl, _, [], by simp [a44R]; rfl, ?_⟩
     simp
     unfold sizeR
     (repeat' split) <;> first | omega | (simp_all; done) | (simp_all; omega)
theorem c40 : chkFn Tryz.prog 140 37 1 a40 a40R = true := by kernel_rfl
theorem d40 (s : ByteArray) (hs : s.size ≤ 100000) : DoesT 140 [sv s] (bv (decide (1 ≤ s.size) && decide (s.size ≤ 64) && mayT s s.size 0)) := by
 refine Does.of (nt := 37) (ac := a40) (rds := a40R) c40 (fun c hc => ?_)
 unfold a40
 apply J.seq
 refine J.regE (by simp [bt_eq]; rfl) ?_
 simp
 apply J.seq
 apply J.seq
 apply J.reg
 iterate 4 refine runL_step rfl (by simp [bt_eq]; rfl) ?_
 refine runL_if rfl (fun g8 => ?_) (fun g8 => ?_)
 ·
  try simp only [g8]
  try simp at g8
  iterate 4 refine runL_step rfl (by simp [bt_eq]; rfl) ?_
  simp [runL]
  refine J.condB rfl (fun h12 => ?_) (fun h12 => ?_)
  ·
   try simp only [h12]
   try simp at h12
   apply J.seq
   refine J.regE (by simp [bt_eq]; rfl) ?_
   simp
   apply J.ret
   refine ⟨by simp, rfl, _, [], by simp [a40R]; rfl, ?_⟩
   have : ¬ s.size ≤ 64 := by omega
   simp [this]
  ·
   try simp only [h12]
   try simp at h12
   apply J.skip; simp
   apply J.seq
   apply J.seq
   refine J.regE (by simp [bt_eq]; rfl) ?_
   simp
   apply J.block
   refine J.loop hc (I40 s) ?_ ?_
   ·refine ⟨_, _, St.le_refl _, 0, s.size, by omega, rfl, by omega, rfl, by simp⟩
   rintro n st ⟨i, f, hi, rfl, hf, hI, rfl⟩
   apply J.seq
   apply J.seq
   refine J.regE (by simp [bt_eq]; rfl) ?_
   simp
   refine J.condB rfl (fun h16 => ?_) (fun h16 => ?_)
   ·
    simp at h16
    obtain ⟨q, rfl⟩ : ∃ q, f = q + 1 := ⟨f - 1, by omega⟩
    have hsz := sizeR_le s i
    have hw : IntKind.i64.wrap ((i : Int) + (sizeR s i : Nat)) = ((i + sizeR s i : Nat) : Int) := by rw [wrap_id (by omega) (by omega)]; omega
    apply J.skip; simp
    apply J.block
    apply J.seq
    apply J.reg
    iterate 2 refine runL_step rfl (by simp [bt_eq]; rfl) ?_
    refine runL_tree rfl (d44 s i hs h16) (by simp) hc ?_
    simp
    refine runL_step rfl (by simp [bt_eq]; rfl) ?_
    simp [runL]
    apply J.seq
    apply J.seq
    apply J.reg
    iterate 3 refine runL_step rfl (by simp [bt_eq, h16]; rfl) ?_
    refine runL_if rfl (fun g22 => ?_) (fun g22 => ?_)
    ·
     try simp only [g22]
     try simp at g22
     iterate 6 refine runL_step rfl (by simp [bt_eq, h16]; rfl) ?_
     refine runL_if rfl (fun g28 => ?_) (fun g28 => ?_)
     ·
      try simp only [g28]
      try simp at g28
      iterate 5 refine runL_step rfl (by simp [bt_eq, h16]; rfl) ?_
      simp [runL]
      refine J.condB rfl (fun h33 => ?_) (fun h33 => ?_)
      ·
       try simp only [h33]
       try simp at h33
       apply J.seq
       refine J.regE (by simp [bt_eq]; rfl) ?_
       simp
       apply J.ret
       refine ⟨by simp, rfl, _, [], by simp [a40R]; rfl, ?_⟩
       have e1 : mayT s s.size 0 = false := by rw [hI]; simp [mayT, h16]; omega
       simp [e1]
      ·
       try simp only [h33]
       try simp at h33
       apply J.skip; simp
       refine J.regE (by simp [bt_eq, hw]; rfl) ?_
       simp
       refine ⟨s.size + 4 - (i + sizeR s i), ?_, _, St.le_refl _, i + sizeR s i, q, ?_, rfl, ?_, ?_, by simp⟩
       ·omega
       ·omega
       ·omega
       ·rw [hI]; simp [mayT, *]; omega
     ·
      try simp only [g28]
      try simp at g28
      iterate 4 refine runL_step rfl (by simp [bt_eq, h16]; rfl) ?_
      simp [runL]
      apply J.cond; simp [bt_eq]
      apply J.seq
      refine J.regE (by simp [bt_eq]; rfl) ?_
      simp
      apply J.ret
      refine ⟨by simp, rfl, _, [], by simp [a40R]; rfl, ?_⟩
      have e1 : mayT s s.size 0 = false := by rw [hI]; simp [mayT, h16]; omega
      simp [e1]
    ·
     try simp only [g22]
     try simp at g22
     iterate 10 refine runL_step rfl (by simp [bt_eq, h16]; rfl) ?_
     simp [runL]
     apply J.cond; simp [bt_eq]
     apply J.seq
     refine J.regE (by simp [bt_eq]; rfl) ?_
     simp
     apply J.ret
     refine ⟨by simp, rfl, _, [], by simp [a40R]; rfl, ?_⟩
     have e1 : mayT s s.size 0 = false := by rw [hI]; simp [mayT, h16]; omega
     simp [e1]
   ·
    simp at h16
    apply J.exit; simp
    apply J.seq
    refine J.regE (by simp [bt_eq]; rfl) ?_
    simp
    apply J.ret
    refine ⟨by simp, rfl, _, [], by simp [a40R]; rfl, ?_⟩
    have e1 : mayT s s.size 0 = true := by rw [hI]; exact mayT_end (by omega)
    have e2 : 1 ≤ s.size := by omega
    have e3 : s.size ≤ 64 := by omega
    simp [e1, e2, e3]
 ·
  try simp only [g8]
  try simp at g8
  iterate 3 refine runL_step rfl (by simp [bt_eq]; rfl) ?_
  simp [runL]
  apply J.cond; simp [bt_eq]
  apply J.seq
  refine J.regE (by simp [bt_eq]; rfl) ?_
  simp
  apply J.ret
  refine ⟨by simp, rfl, _, [], by simp [a40R]; rfl, ?_⟩
  have : ¬ 1 ≤ s.size := by omega
  simp [this]
theorem getD_drop (s : ByteArray) (i k : Nat) : ((s.data.toList.drop i).getD k 0).toNat = bt s (i + k) := by
 unfold bt
 simp [List.getD_eq_getElem?_getD]
theorem get_bt (s : ByteArray) (i : Nat) : (s.get! i).toNat = bt s i := by
 unfold bt
 show (s.data[i]!).toNat = _
 rw [List.getD_eq_getElem?_getD]
 congr 1
 rw [getElem!_def]
 rw [show s.data.toList[i]? = s.data[i]? from by simp]
 cases s.data[i]? <;> rfl
theorem decode_drop (s : ByteArray) (i : Nat) : Utf8.decode s i = Lib.decodeL (s.data.toList.drop i) := by
 rw [Lib.decode_at, Lib.decodeL_N]
 simp only [getD_drop, get_bt, Nat.add_zero, List.length_drop]
 rfl
theorem fol1 (s : ByteArray) (i : Nat) : folR s (i + 1) 1 = true ↔ i + 1 < s.size ∧ 128 ≤ bt s (i + 1) ∧ bt s (i + 1) ≤ 191 := by simp [folR, and_assoc]
theorem fol2 (s : ByteArray) (i : Nat) : folR s (i + 1) 2 = true ↔ (i + 1 < s.size ∧ 128 ≤ bt s (i + 1) ∧ bt s (i + 1) ≤ 191) ∧ i + 2 < s.size ∧ 128 ≤ bt s (i + 2) ∧ bt s (i + 2) ≤ 191 := by simp [folR, and_assoc]
theorem fol3 (s : ByteArray) (i : Nat) : folR s (i + 1) 3 = true ↔ (i + 1 < s.size ∧ 128 ≤ bt s (i + 1) ∧ bt s (i + 1) ≤ 191) ∧ (i + 2 < s.size ∧ 128 ≤ bt s (i + 2) ∧ bt s (i + 2) ≤ 191) ∧ i + 3 < s.size ∧ 128 ≤ bt s (i + 3) ∧ bt s (i + 3) ≤ 191 := by simp [folR, and_assoc]
theorem check_size (s : ByteArray) (i : Nat) (hi : i < s.size) (h : 128 ≤ bt s i) :
  Lib.checkN (s.size - i) (bt s (i + 1)) (bt s (i + 2)) (bt s (i + 3)) (Lib.firstT (bt s i) % 8) (Lib.accLo (Lib.firstT (bt s i) / 16)) (Lib.accHi (Lib.firstT (bt s i) / 16)) = if sizeR s i = 0 then none else some (sizeR s i) := by
 have hlt := bt_lt s i
 unfold sizeR
 simp only [fol1, fol2, fol3]
 generalize bt s (i + 1) = b1
 generalize bt s (i + 2) = b2
 generalize bt s (i + 3) = b3
 generalize hb : bt s i = b0 at h hlt
 obtain ⟨n, hn⟩ : ∃ n, s.size = i + n := ⟨s.size - i, by omega⟩
 have e1 : ∀ k, (i + k < s.size) = (k < n) := fun k => propext ⟨fun h => by omega, fun h => by omega⟩
 have e2 : s.size - i = n := by omega
 simp only [e1, e2]
 clear hb hn e1 e2 hi
 by_cases c0 : b0 < 194
 ·have f1 : Lib.firstT b0 = 241 := by simp [Lib.firstT, show ¬ b0 < 128 by omega, c0]
  simp only [f1, Lib.checkN, show ¬ b0 < 128 by omega, if_false]
  simp
  repeat' split
  all_goals first | rfl | (exfalso; omega) | omega
 by_cases c1 : b0 < 224
 ·have f1 : Lib.firstT b0 = 2 := by simp [Lib.firstT, show ¬ b0 < 128 by omega, c0, c1]
  simp only [f1, Lib.checkN, Lib.accLo, Lib.accHi, show ¬ b0 < 128 by omega, if_false]
  simp
  repeat' split
  all_goals first | rfl | (exfalso; omega) | omega
 by_cases c2 : b0 = 224
 ·subst c2
  simp only [show Lib.firstT 224 = 19 from rfl, Lib.checkN, Lib.accLo, Lib.accHi]
  simp
  repeat' split
  all_goals first | rfl | (exfalso; omega) | omega
 by_cases c3 : b0 < 237
 ·have f1 : Lib.firstT b0 = 3 := by simp [Lib.firstT, show ¬ b0 < 128 by omega, c0, c1, c2, c3]
  simp only [f1, Lib.checkN, Lib.accLo, Lib.accHi, show ¬ b0 < 128 by omega, if_false]
  simp
  repeat' split
  all_goals first | rfl | (exfalso; omega) | omega
 by_cases c4 : b0 = 237
 ·subst c4
  simp only [show Lib.firstT 237 = 35 from rfl, Lib.checkN, Lib.accLo, Lib.accHi]
  simp
  repeat' split
  all_goals first | rfl | (exfalso; omega) | omega
 by_cases c5 : b0 < 240
 ·have f1 : Lib.firstT b0 = 3 := by simp [Lib.firstT, show ¬ b0 < 128 by omega, c0, c1, c2, c3, c4, c5]
  simp only [f1, Lib.checkN, Lib.accLo, Lib.accHi, show ¬ b0 < 128 by omega, if_false]
  simp
  repeat' split
  all_goals first | rfl | (exfalso; omega) | omega
 by_cases c6 : b0 = 240
 ·subst c6
  simp only [show Lib.firstT 240 = 52 from rfl, Lib.checkN, Lib.accLo, Lib.accHi]
  simp
  repeat' split
  all_goals first | rfl | (exfalso; omega) | omega
 by_cases c7 : b0 < 244
 ·have f1 : Lib.firstT b0 = 4 := by simp [Lib.firstT, show ¬ b0 < 128 by omega, c0, c1, c2, c3, c4, c5, c6, c7]
  simp only [f1, Lib.checkN, Lib.accLo, Lib.accHi, show ¬ b0 < 128 by omega, if_false]
  simp
  repeat' split
  all_goals first | rfl | (exfalso; omega) | omega
 by_cases c8 : b0 = 244
 ·subst c8
  simp only [show Lib.firstT 244 = 68 from rfl, Lib.checkN, Lib.accLo, Lib.accHi]
  simp
  repeat' split
  all_goals first | rfl | (exfalso; omega) | omega
 ·have f1 : Lib.firstT b0 = 241 := by simp [Lib.firstT, show ¬ b0 < 128 by omega, c0, c1, c2, c3, c4, c5, c6, c7, c8]
  simp only [f1, Lib.checkN, show ¬ b0 < 128 by omega, if_false]
  simp
  repeat' split
  all_goals first | rfl | (exfalso; omega) | omega
theorem mayT_eq (s : ByteArray) : ∀ (f i : Nat), s.size ≤ i + f → mayT s f i = (Lib.validD (s.data.toList.drop i) && Tryz.runes s f i)
 | 0, i, h => by
  have : s.data.toList.drop i = [] := List.drop_eq_nil_of_le (by simpa using h)
  simp [mayT, Tryz.runes, this, Lib.validD_nil]
 | f + 1, i, h => by
  by_cases hi : i < s.size
  ·have hne : s.data.toList.drop i ≠ [] := by
    intro h0; have := congrArg List.length h0; simp at this; have h2 : s.data.size = s.size := rfl; omega
   simp only [mayT, Tryz.runes, hi, if_true]
   by_cases ha : bt s i < 128
   ·have hs : sizeR s i = 1 := by simp [sizeR, ha]
    have hd : Utf8.decode s i = (bt s i, 1) := by rw [decode_ascii s i hi (by rw [bt_eq]; exact ha), bt_eq]
    have hv : Lib.validD (s.data.toList.drop i) = Lib.validD (s.data.toList.drop (i + 1)) := by
     rw [Lib.validD_ascii 1 _ (fun b hb => ?_), List.drop_drop]
     have h0 : (s.data.toList.drop i).take 1 = [(s.data.toList.drop i).getD 0 0] := by
      cases hl : s.data.toList.drop i with
      | nil => exact absurd hl hne
      | cons x r => simp
     rw [h0] at hb
     simp only [List.mem_singleton] at hb
     subst hb
     rw [getD_drop]; exact ha
    rw [hs, hd, hv]
    simp only [Nat.one_ne_zero, false_or]
    split
    ·simp
    ·exact mayT_eq s f (i + 1) (by omega)
   ·have hlead := Lib.validD_lead (s.data.toList.drop i) hne (by rw [getD_drop]; simpa using ha)
    simp only [getD_drop, Nat.add_zero, List.length_drop] at hlead
    have hsz : s.data.toList.length = s.size := by simp
    rw [hsz, check_size s i hi (by omega)] at hlead
    have hcd := Lib.check_decode (s.size - i) (bt s i) (bt s (i + 1)) (bt s (i + 2)) (bt s (i + 3)) (by omega) (by omega) (bt_lt _ _) (bt_lt _ _) (bt_lt _ _) (bt_lt _ _)
    rw [check_size s i hi (by omega)] at hcd
    have hdec : Utf8.decode s i = Lib.decodeN (s.size - i) (bt s i) (bt s (i + 1)) (bt s (i + 2)) (bt s (i + 3)) := by rw [Lib.decode_at]; simp only [get_bt]
    by_cases hz : sizeR s i = 0
    ·rw [if_pos hz] at hlead
     simp [hlead, hz]
    ·rw [if_neg hz] at hlead hcd
     have hw : (Utf8.decode s i).2 = sizeR s i := by
      rcases hcd with ⟨h1, _⟩ | ⟨k, _, h1, h2⟩
      ·cases h1
      ·injection h1 with h1; rw [hdec, h2, h1]
     have hhi := (decode_high s i hi (by rw [bt_eq]; omega)).1
     simp only at hlead
     rw [hlead, hw, if_neg (by omega), if_neg (by omega), mayT_eq s f (i + sizeR s i) (by omega), List.drop_drop]
  ·have : s.data.toList.drop i = [] := List.drop_eq_nil_of_le (by have h2 : s.data.size = s.size := rfl; simp; omega)
   simp [mayT, Tryz.runes, hi, this, Lib.validD_nil]
theorem may_eq (s : ByteArray) : (decide (1 ≤ s.size) && decide (s.size ≤ 64) && mayT s s.size 0) = Tryz.mayR s := by
 rw [mayT_eq s s.size 0 (by omega)]
 unfold Tryz.mayR
 simp [Bool.and_assoc]
theorem d40r (s : ByteArray) (hs : s.size ≤ 100000) : Does Tryz.prog 140 [sv s] [] [] (fun r' m => m = [] ∧ r' = bv (Tryz.mayR s)) := by
 have := d40 s hs
 rw [may_eq] at this
 exact this
def noT (s : ByteArray) : Bool := s.toList.isEmpty
def mayP (x : Post) : Bool := (x.gone == noT x.text) && (x.gone || Tryz.mayR x.text) && btw x.no 1 1073741824 && btw x.user 1 1048576 && btw x.edits 0 1073741824
theorem c28 : chkFn Tryz.prog 76 33 1 a28 a28R = true := by kernel_rfl
theorem d28 (x : Post) (hs : x.text.size ≤ 9223372036854775807) : DoesT 76 [.agg (eP x)] (bv (mayP x)) := by
 obtain ⟨no, user, text, edits, gone⟩ := x
 obtain ⟨em, hem⟩ : ∃ em, noT text = em := ⟨_, rfl⟩
 have hem' : text.toList.isEmpty = em := hem
 refine Does.of (nt := 33) (ac := a28) (rds := a28R) c28 (fun c hc => ?_)
 unfold a28
 apply J.seq
 refine J.regE (by simp [eP]; rfl) ?_
 simp
 apply J.seq
 apply J.seq
 cases gone <;> cases em
 ·
  apply J.reg
  iterate 13 refine runL_step rfl (by simp [hem']; rfl) ?_
  refine runL_do (by simp [hem']) ?_
  refine runL_tree rfl (d36 text hs) (by simp) hc ?_
  simp
  iterate 3 refine runL_step rfl (by simp [hem']; rfl) ?_
  simp [runL]
  refine J.condB rfl (fun hm => ?_) (fun hm => ?_)
  ·
   simp at hm
   apply J.seq
   refine J.regE (by simp; rfl) ?_
   simp
   apply J.ret
   refine ⟨by simp, rfl, _, [], by simp [a28R]; rfl, ?_⟩
   simp [mayP, hem, *]
  ·
   simp at hm
   apply J.skip; simp
   apply J.seq
   rcases b2 (btw no 1 1073741824) (btw user 1 1048576) with h1 | ⟨h1, h2⟩ | ⟨h1, h2⟩
   ·
    apply J.reg
    iterate 2 refine runL_step rfl (by simp [h1]; rfl) ?_
    refine runL_tree rfl (d39 _ _ _) (by simp) hc ?_
    simp
    iterate 3 refine runL_step rfl (by simp [h1]; rfl) ?_
    refine runL_pass rfl (by decide) ?_
    simp
    iterate 4 refine runL_step rfl (by simp [h1]; rfl) ?_
    refine runL_pass rfl (by decide) ?_
    simp
    iterate 2 refine runL_step rfl (by simp [h1]; rfl) ?_
    simp [runL]
    apply J.ret
    refine ⟨by simp, rfl, _, [], by simp [a28R]; rfl, ?_⟩
    simp [mayP, hem, *]
   ·
    apply J.reg
    iterate 2 refine runL_step rfl (by simp [h1, h2]; rfl) ?_
    refine runL_tree rfl (d39 _ _ _) (by simp) hc ?_
    simp
    iterate 3 refine runL_step rfl (by simp [h1, h2]; rfl) ?_
    refine runL_do (by simp [h1, h2]) ?_
    refine runL_tree rfl (d39 _ _ _) (by simp) hc ?_
    simp
    iterate 4 refine runL_step rfl (by simp [h1, h2]; rfl) ?_
    refine runL_pass rfl (by decide) ?_
    simp
    iterate 2 refine runL_step rfl (by simp [h1, h2]; rfl) ?_
    simp [runL]
    apply J.ret
    refine ⟨by simp, rfl, _, [], by simp [a28R]; rfl, ?_⟩
    simp [mayP, hem, *]
   ·
    apply J.reg
    iterate 2 refine runL_step rfl (by simp [h1, h2]; rfl) ?_
    refine runL_tree rfl (d39 _ _ _) (by simp) hc ?_
    simp
    iterate 3 refine runL_step rfl (by simp [h1, h2]; rfl) ?_
    refine runL_do (by simp [h1, h2]) ?_
    refine runL_tree rfl (d39 _ _ _) (by simp) hc ?_
    simp
    iterate 4 refine runL_step rfl (by simp [h1, h2]; rfl) ?_
    refine runL_do (by simp [h1, h2]) ?_
    refine runL_tree rfl (d39 _ _ _) (by simp) hc ?_
    simp
    iterate 2 refine runL_step rfl (by simp [h1, h2]; rfl) ?_
    simp [runL]
    apply J.ret
    refine ⟨by simp, rfl, _, [], by simp [a28R]; rfl, ?_⟩
    simp [mayP, hem, *]
 ·
  apply J.reg
  iterate 13 refine runL_step rfl (by simp [hem']; rfl) ?_
  refine runL_pass rfl (by decide) ?_
  simp
  iterate 3 refine runL_step rfl (by simp [hem']; rfl) ?_
  simp [runL]
  apply J.cond; simp
  apply J.seq
  refine J.regE (by simp; rfl) ?_
  simp
  apply J.ret
  refine ⟨by simp, rfl, _, [], by simp [a28R]; rfl, ?_⟩
  simp [mayP, hem, *]
 ·
  apply J.reg
  iterate 13 refine runL_step rfl (by simp [hem']; rfl) ?_
  refine runL_pass rfl (by decide) ?_
  simp
  iterate 3 refine runL_step rfl (by simp [hem']; rfl) ?_
  simp [runL]
  apply J.cond; simp
  apply J.seq
  refine J.regE (by simp; rfl) ?_
  simp
  apply J.ret
  refine ⟨by simp, rfl, _, [], by simp [a28R]; rfl, ?_⟩
  simp [mayP, hem, *]
 ·
  apply J.reg
  iterate 13 refine runL_step rfl (by simp [hem']; rfl) ?_
  refine runL_pass rfl (by decide) ?_
  simp
  iterate 3 refine runL_step rfl (by simp [hem']; rfl) ?_
  simp [runL]
  apply J.cond; simp
  apply J.skip; simp
  apply J.seq
  rcases b2 (btw no 1 1073741824) (btw user 1 1048576) with h1 | ⟨h1, h2⟩ | ⟨h1, h2⟩
  ·
   apply J.reg
   iterate 2 refine runL_step rfl (by simp [h1]; rfl) ?_
   refine runL_tree rfl (d39 _ _ _) (by simp) hc ?_
   simp
   iterate 3 refine runL_step rfl (by simp [h1]; rfl) ?_
   refine runL_pass rfl (by decide) ?_
   simp
   iterate 4 refine runL_step rfl (by simp [h1]; rfl) ?_
   refine runL_pass rfl (by decide) ?_
   simp
   iterate 2 refine runL_step rfl (by simp [h1]; rfl) ?_
   simp [runL]
   apply J.ret
   refine ⟨by simp, rfl, _, [], by simp [a28R]; rfl, ?_⟩
   simp [mayP, hem, *]
  ·
   apply J.reg
   iterate 2 refine runL_step rfl (by simp [h1, h2]; rfl) ?_
   refine runL_tree rfl (d39 _ _ _) (by simp) hc ?_
   simp
   iterate 3 refine runL_step rfl (by simp [h1, h2]; rfl) ?_
   refine runL_do (by simp [h1, h2]) ?_
   refine runL_tree rfl (d39 _ _ _) (by simp) hc ?_
   simp
   iterate 4 refine runL_step rfl (by simp [h1, h2]; rfl) ?_
   refine runL_pass rfl (by decide) ?_
   simp
   iterate 2 refine runL_step rfl (by simp [h1, h2]; rfl) ?_
   simp [runL]
   apply J.ret
   refine ⟨by simp, rfl, _, [], by simp [a28R]; rfl, ?_⟩
   simp [mayP, hem, *]
  ·
   apply J.reg
   iterate 2 refine runL_step rfl (by simp [h1, h2]; rfl) ?_
   refine runL_tree rfl (d39 _ _ _) (by simp) hc ?_
   simp
   iterate 3 refine runL_step rfl (by simp [h1, h2]; rfl) ?_
   refine runL_do (by simp [h1, h2]) ?_
   refine runL_tree rfl (d39 _ _ _) (by simp) hc ?_
   simp
   iterate 4 refine runL_step rfl (by simp [h1, h2]; rfl) ?_
   refine runL_do (by simp [h1, h2]) ?_
   refine runL_tree rfl (d39 _ _ _) (by simp) hc ?_
   simp
   iterate 2 refine runL_step rfl (by simp [h1, h2]; rfl) ?_
   simp [runL]
   apply J.ret
   refine ⟨by simp, rfl, _, [], by simp [a28R]; rfl, ?_⟩
   simp [mayP, hem, *]
attribute [simp] ePs_length
def mayFrom : Option Int → List Post → Bool
 | _, [] => true
 | p, x :: r => mayP x && (match p with | none => true | some q => x.no == q + 1) && mayFrom (some x.no) r
def mayPs (l : List Post) : Bool := mayFrom none l && decide (l.length ≤ 32)
def prev (l : List Post) : Nat → Option Int
 | 0 => none
 | i + 1 => (l[i]?).map (·.no)
structure Fit (l : List Post) : Prop where
 len : l.length < 1000000
 txt : ∀ x ∈ l, x.text.size ≤ 100000
theorem mayP_no {x : Post} (h : mayP x = true) : 1 ≤ x.no ∧ x.no ≤ 1073741824 := by
 simp only [mayP, btw, Bool.and_eq_true, decide_eq_true_eq] at h
 exact ⟨h.1.1.2.1, h.1.1.2.2⟩
def I14 (l : List Post) (m : Nat) (st : St) : Prop := ∃ i : Nat, i ≤ l.length ∧ m = l.length - i ∧ mayFrom none l = mayFrom (prev l i) (l.drop i) ∧ (∀ j y, j < i → l[j]? = some y → mayP y = true) ∧ st = ⟨[(0, .ro 5 (ePs l)), (5, .ro 5 (ePs l)), (6, iv (l.length : Nat)), (7, iv (i : Nat))], [], []⟩
theorem c14 : chkFn Tryz.prog 30 35 1 a14 a14R = true := by kernel_rfl
theorem d14 (l : List Post) (hf : Fit l) : DoesT 30 [.ro 5 (ePs l)] (bv (mayPs l)) := by
 have hl := hf.len
 refine Does.of (nt := 35) (ac := a14) (rds := a14R) c14 (fun c hc => ?_)
 unfold a14
 apply J.seq
 refine J.regE (by simp; rfl) ?_
 simp
 apply J.seq
 apply J.seq
 refine J.regE (by simp; rfl) ?_
 simp
 apply J.block
 refine J.loop hc (I14 l) ?_ ?_
 ·exact ⟨_, _, St.le_refl _, 0, by omega, rfl, rfl, fun j y h => absurd h (by omega), by simp⟩
 rintro n st ⟨i, hi, rfl, hI, hM, rfl⟩
 apply J.seq
 refine J.regE (by simp; rfl) ?_
 simp
 apply J.seq
 apply J.cond; simp
 refine ⟨fun hlt => ?_, fun hlt => ?_⟩
 ·
  have hlt' : i < l.length := by omega
  obtain ⟨x, hx⟩ : ∃ x, l[i]? = some x := ⟨_, List.getElem?_eq_getElem hlt'⟩
  have hg : (ePs l)[i]? = some (eP x) := by rw [ePs_get, hx]; rfl
  have hge : ∀ h, (ePs l)[i]'h = eP x := fun h => by simpa [List.getElem?_eq_getElem h] using hg
  have hsx : x.text.size ≤ 9223372036854775807 := by have := hf.txt x (List.mem_of_getElem? hx); omega
  have hw : IntKind.i64.wrap ((i : Int) + 1) = (i : Int) + 1 := wrap_id (by omega) (by omega)
  have hgx : ∀ h, l[i]'h = x := fun h => by simpa [List.getElem?_eq_getElem h] using hx
  have hdr : l.drop i = x :: l.drop (i + 1) := by rw [List.drop_eq_getElem_cons hlt', hgx]
  rw [hdr] at hI
  apply J.skip; simp
  apply J.seq
  apply J.block
  apply J.seq
  apply J.reg
  iterate 6 refine runL_step rfl (by simp [hlt', hge, hgx, eP]; rfl) ?_
  simp [runL]
  apply J.seq
  rcases (show mayP x = false ∨ (mayP x = true ∧ i = 0) ∨ (mayP x = true ∧ ∃ j, i = j + 1) by cases hm : mayP x <;> cases i <;> simp) with hm | ⟨hm, rfl⟩ | ⟨hm, j, rfl⟩
  ·
   apply J.draw; intro c' hc'
   refine runP_stepQ (by simp [hm, eP]; rfl) ?_
   refine runP_tree rfl (d28 x hsx) (by simp) rfl ?_
   simp
   iterate 17 refine runP_stepQ (by simp [hm, eP]; rfl) ?_
   simp [runP]
   have hI2 : mayFrom none l = false := by rw [hI]; simp [mayFrom, hm]
   apply J.cond; simp
   apply J.seq
   refine J.regE (by simp; rfl) ?_
   simp
   apply J.ret
   refine ⟨by simp, rfl, _, [], by simp [a14R]; rfl, ?_⟩
   simp [mayPs, hI2]
  ·
   apply J.draw; intro c' hc'
   refine runP_stepQ (by simp [hm, eP]; rfl) ?_
   refine runP_tree rfl (d28 x hsx) (by simp) rfl ?_
   simp
   iterate 17 refine runP_stepQ (by simp [hm, eP]; rfl) ?_
   simp [runP]
   have hI' : mayFrom none l = mayFrom (prev l (0 + 1)) (l.drop (0 + 1)) := by rw [hI]; simp [mayFrom, hm, prev, hx]
   have hM' : ∀ j y, j < 0 + 1 → l[j]? = some y → mayP y = true := by
    intro j y hj hy
    obtain rfl : j = 0 := by omega
    rw [hx] at hy; injection hy with hy; subst hy; exact hm
   apply J.cond; simp
   apply J.skip; simp
   refine J.regE (by simp [show IntKind.i64.wrap 1 = 1 from rfl]; rfl) ?_
   simp
   refine ⟨_, by omega, _, ?_, 0 + 1, by omega, rfl, hI', hM', rfl⟩
   apply le_sub <;> simp
  ·
   have hlj : j < l.length := by omega
   obtain ⟨y, hy⟩ : ∃ y, l[j]? = some y := ⟨_, List.getElem?_eq_getElem hlj⟩
   have hgy : ∀ h, l[j]'h = y := fun h => by simpa [List.getElem?_eq_getElem h] using hy
   have hgey : ∀ h, (ePs l)[j]'h = eP y := fun h => by
    have : (ePs l)[j]? = some (eP y) := by rw [ePs_get, hy]; rfl
    simpa [List.getElem?_eq_getElem h] using this
   have hwj : IntKind.i64.wrap (((j : Int) + 1) - 1) = (j : Int) := by rw [wrap_id (by omega) (by omega)]; omega
   have hwj' : IntKind.i64.wrap (j : Int) = (j : Int) := wrap_id (by omega) (by omega)
   have hwc : IntKind.i64.wrap ((j : Int) + 1 + 1) = (j : Int) + 1 + 1 := wrap_id (by omega) (by omega)
   have hyn := mayP_no (hM j y (by omega) hy)
   have hwn : IntKind.i64.wrap (y.no + 1) = y.no + 1 := wrap_id (by omega) (by omega)
   have hM' : ∀ k z, k < j + 1 + 1 → l[k]? = some z → mayP z = true := by
    intro k z hk hz
    by_cases e : k = j + 1
    ·subst e; rw [hx] at hz; injection hz with hz; subst hz; exact hm
    ·exact hM k z (by omega) hz
   apply J.draw; intro c' hc'
   refine runP_stepQ (by simp [hm, eP, hlj, hgy, hwj, hwj', hgey, hwn]; rfl) ?_
   refine runP_tree rfl (d28 x hsx) (by simp) rfl ?_
   simp
   iterate 17 refine runP_stepQ (by simp [hm, eP, hlj, hgy, hwj, hwj', hgey, hwn]; rfl) ?_
   simp [runP]
   refine J.condB rfl (fun hb => ?_) (fun hb => ?_)
   ·
    have hI2 : mayFrom none l = false := by
     rw [hI]; simp [mayFrom, hm, prev, hy]; simp at hb; exact fun h => absurd h hb
    apply J.seq
    refine J.regE (by simp; rfl) ?_
    simp
    apply J.ret
    refine ⟨by simp, rfl, _, [], by simp [a14R]; rfl, ?_⟩
    simp [mayPs, hI2]
   ·
    have hI' : mayFrom none l = mayFrom (prev l (j + 1 + 1)) (l.drop (j + 1 + 1)) := by
     rw [hI]; simp [mayFrom, hm, prev, hx, hy]; simp at hb; simp [hb]
    apply J.skip; simp
    refine J.regE (by simp [hwc]; rfl) ?_
    simp
    refine ⟨_, by omega, _, ?_, j + 1 + 1, by omega, rfl, hI', hM', rfl⟩
    apply le_sub <;> simp
 ·
  have hie : i = l.length := by omega
  subst hie
  apply J.exit; simp
  apply J.seq
  refine J.regE (by simp; rfl) ?_
  simp
  apply J.ret
  refine ⟨by simp, rfl, _, [], by simp [a14R]; rfl, ?_⟩
  simp [mayPs, hI, mayFrom]; omega
@[simp] theorem ePs_nil : ePs [] = [] := rfl
attribute [simp] ownAt asOwn boundc
theorem c42 : chkFn Tryz.prog 82 8 1 a42 a42R = true := by kernel_rfl
theorem d42 (es : List (List AV)) (hn : es.length < 1000000) : Does Tryz.prog 82 [.ro 5 es] [] [] (fun r m => r = .own 42005 5 0 es.length ∧ m = [(42005, .arr 86 5 es)]) := by
 refine Does.of (nt := 8) (ac := a42) (rds := a42R) c42 (fun c hc => ?_)
 unfold a42
 apply J.seq; refine J.regE (by simp; rfl) ?_
 simp
 apply J.seq; apply J.seq; refine J.regC (by simp; exact ⟨rfl, rfl⟩) ?_
 refine runL_ext (extK_isnil (sz := 5) (es := es) (by simp) (fun t ht => ?_))
 refine runL_end (by simp; rfl) ?_
 simp
 refine J.condB rfl (fun hb => ?_) (fun hb => ?_)
 ·apply J.seq; refine J.regE (by simp; rfl) ?_
  simp
  refine J.nilrow hc 2 42005 86 rfl rfl rfl ?_
  simp
  apply J.ret
  refine ⟨by simp, rfl, _, [(42005, .arr 86 5 [])], by simp [a42R]; rfl, ?_⟩
  simp [ht hb]
 ·apply J.skip; simp
  apply J.seq; refine J.regE (by simp [show es.length * 48 ≤ 140737488355328 from by omega]; rfl) ?_
  simp
  apply J.ret
  refine ⟨by simp, rfl, _, [(42005, .arr 86 5 es)], by simp [a42R]; rfl, ?_⟩
  simp
def fairL (l : List Post) : List Post := if mayPs l then l else []
theorem fairL_len (l : List Post) : (fairL l).length ≤ 32 := by
 unfold fairL
 split
 ·rename_i h; simp only [mayPs, Bool.and_eq_true, decide_eq_true_eq] at h; exact h.2
 ·simp
def fairM (l : List Post) : Mem := [(42005, .arr 86 5 (ePs (fairL l)))]
theorem c30o : chkFn Tryz.prog 161 8 1 a30 a30R = true := by kernel_rfl
theorem d30o (l : List Post) (hf : Fit l) : Does Tryz.prog 161 [.ro 5 (ePs l)] [] [] (fun r m => r = .own 42005 5 0 (fairL l).length ∧ m = fairM l) := by
 have hl := hf.len
 refine Does.of (nt := 8) (ac := a30) (rds := a30R) c30o (fun c hc => ?_)
 unfold a30
 apply J.seq
 refine J.regE (by simp; rfl) ?_
 simp
 apply J.seq
 apply J.seq
 apply J.reg
 refine runL_step rfl (by simp; rfl) ?_
 refine runL_tree rfl (d14 l hf) (by simp) hc ?_
 simp
 refine runL_step rfl (by simp; rfl) ?_
 simp [runL]
 refine J.condB rfl (fun hb => ?_) (fun hb => ?_)
 ·
  apply J.seq
  refine J.regE (by simp; rfl) ?_
  simp
  refine J.nilrow hc 2 42005 86 rfl rfl rfl ?_
  simp
  have hF : fairL l = [] := by unfold fairL; simp at hb; simp [hb]
  apply J.ret
  refine ⟨by simp, rfl, _, fairM l, by simp [a30R]; rfl, ?_⟩
  simp [hF, fairM]
 ·
  apply J.skip; simp
  apply J.seq
  apply J.reg
  refine runL_step rfl (by simp; rfl) ?_
  refine runL_call [] [] rfl rfl (d42 (ePs l) (by simp; omega)) (by simp) (by simp) (by simp) hc ?_
  rintro rv m1 ⟨rfl, rfl⟩
  refine ⟨by simp, ?_⟩
  simp
  refine runL_step rfl (by simp; rfl) ?_
  simp [runL]
  have hF : fairL l = l := by unfold fairL; simp at hb; simp [hb]
  apply J.ret
  refine ⟨by simp, rfl, _, fairM l, by simp [a30R]; rfl, ?_⟩
  simp [hF, fairM]
theorem d30 (l : List Post) (hf : Fit l) : DoesT 161 [.ro 5 (ePs l)] (.ro 5 (ePs (fairL l))) := by
 refine (d30o l hf).tree _ ?_
 rintro r m ⟨rfl, rfl⟩ A ρ' w' v hM hv
 exact .tree (own_tree (sz := 5) (by omega) hM rfl hv (by simp))
def lastP (l : List Post) : Int := match (fairL l).getLast? with | some x => x.no | none => 0
theorem c16 : chkFn Tryz.prog 148 15 1 a16 a16R = true := by kernel_rfl
theorem d16 (l : List Post) (hf : Fit l) : DoesT 148 [.ro 5 (ePs l)] (iv (lastP l)) := by
 have hl := fairL_len l
 refine Does.of (nt := 15) (ac := a16) (rds := a16R) c16 (fun c hc => ?_)
 unfold a16
 apply J.seq
 refine J.regE (by simp; rfl) ?_
 simp
 apply J.seq
 apply J.seq
 apply J.reg
 refine runL_step rfl (by simp; rfl) ?_
 refine runL_tree rfl (d30 l hf) (by simp) hc ?_
 simp
 refine runL_step rfl (by simp; rfl) ?_
 simp [runL]
 apply J.seq
 refine J.regE (by simp; rfl) ?_
 simp
 refine J.condB rfl (fun hb => ?_) (fun hb => ?_)
 ·
  obtain ⟨k, hk⟩ : ∃ k, (fairL l).length = k + 1 := ⟨(fairL l).length - 1, by simp at hb; omega⟩
  obtain ⟨x, hx⟩ : ∃ x, (fairL l)[k]? = some x := ⟨_, List.getElem?_eq_getElem (by omega)⟩
  have hgx : ∀ h, (fairL l)[k]'h = x := fun h => by simpa [List.getElem?_eq_getElem h] using hx
  have hge : ∀ h, (ePs (fairL l))[k]'h = eP x := fun h => by
   have : (ePs (fairL l))[k]? = some (eP x) := by rw [ePs_get, hx]; rfl
   simpa [List.getElem?_eq_getElem h] using this
  have hw1 : IntKind.i64.wrap ((k : Int) + 1 - 1) = (k : Int) := by rw [wrap_id (by omega) (by omega)]; omega
  have hw2 : IntKind.i64.wrap (k : Int) = (k : Int) := wrap_id (by omega) (by omega)
  have hL : lastP l = x.no := by unfold lastP; rw [List.getLast?_eq_getElem?, hk]; simp [hx]
  apply J.seq
  apply J.reg
  iterate 8 refine runL_step rfl (by simp [hk, hge, hgx, eP, hw1, hw2, show (k : Int) < k + 1 from by omega]; rfl) ?_
  simp [runL]
  apply J.ret
  refine ⟨by simp, rfl, _, [], by simp [a16R]; rfl, ?_⟩
  simp [hL]
 ·
  have hL : lastP l = 0 := by
   have : fairL l = [] := by simpa using hb
   simp [lastP, this]
  apply J.skip; simp
  apply J.seq
  refine J.regE (by simp; rfl) ?_
  simp
  apply J.ret
  refine ⟨by simp, rfl, _, [], by simp [a16R]; rfl, ?_⟩
  simp [hL]
theorem c29 : chkFn Tryz.prog 162 6 2 a29 a29R = true := by kernel_rfl
theorem d29 (es : List Post) (frm : Int) : Does Tryz.prog 162 [.own 42005 5 0 es.length, iv frm] [(42005, .arr 86 5 (ePs es))] [42005] (fun r m => r = .fn 169 [.ptr 29002 0 0 0, .ptr 29003 0 0 0] ∧ m = [(42005, .arr 86 5 (ePs es)), (29002, .obj 50 [.own 42005 5 0 es.length]), (29003, .obj 3 [iv frm])]) := by
 refine Does.of (nt := 6) (ac := a29) (rds := a29R) c29 (fun c hc => ?_)
 unfold a29
 apply J.seq
 refine J.regE (by simp; rfl) ?_
 simp
 apply J.seq
 refine J.regE (by simp; rfl) ?_
 simp
 apply J.ret
 refine ⟨by simp, rfl, _, [(42005, .arr 86 5 (ePs es)), (29002, .obj 50 [.own 42005 5 0 es.length]), (29003, .obj 3 [iv frm])], by simp [a29R]; rfl, ?_⟩
 simp
theorem ePs_set (es : List Post) (i : Nat) (x : Post) : (ePs es).set i (eP x) = ePs (es.set i x) := by simp [ePs, List.map_set]
theorem ePs_at {es : List Post} {i : Nat} {x : Post} (hx : es[i]? = some x) : i < es.length ∧ (∀ h, es[i]'h = x) ∧ ∀ h, (ePs es)[i]'h = eP x := by
 refine ⟨(List.getElem?_eq_some_iff.1 hx).1, fun h => by simpa [List.getElem?_eq_getElem h] using hx, fun h => ?_⟩
 have : (ePs es)[i]? = some (eP x) := by rw [ePs_get, hx]; rfl
 simpa [List.getElem?_eq_getElem h] using this
def dofE (user : Int) (s : ByteArray) (x : Post) : Post × Int := if x.user ≠ user then (x, 8) else if 1073741824 ≤ x.edits then (x, 7) else ({ x with text := s, edits := x.edits + 1 }, 0)
def dofD (user owner : Int) (x : Post) : Post × Int := if user ≠ x.user ∧ user ≠ owner then (x, 8) else ({ x with text := ⟨#[]⟩, gone := true }, 0)
theorem c32 : chkFn Tryz.prog 163 7 2 a32 a32R = true := by kernel_rfl
theorem d32 (f0 x : Post) (es : List Post) (i : Nat) (hx : es[i]? = some x) : Does Tryz.prog 163 [.ptr 42005 5 i 0, .ptr 17006 0 0 0] [(17006, .obj 86 (eP f0)), (42005, .arr 86 5 (ePs es))] [17006, 42005] (fun r m => r = iv 0 ∧ m = [(17006, .obj 86 (eP x)), (42005, .arr 86 5 (ePs es))]) := by
 obtain ⟨hi, hgx, hge⟩ := ePs_at hx
 refine Does.of (nt := 7) (ac := a32) (rds := a32R) c32 (fun c hc => ?_)
 unfold a32
 apply J.seq
 refine J.regE (by simp; rfl) ?_
 simp
 apply J.seq
 apply J.reg
 iterate 4 refine runL_step rfl (by simp [hi, hge, eP, look_upd]; rfl) ?_
 simp [runL]
 apply J.seq
 refine J.regE (by simp; rfl) ?_
 simp
 apply J.ret
 refine ⟨by simp, rfl, _, [(17006, .obj 86 (eP x)), (42005, .arr 86 5 (ePs es))], by simp [a32R]; rfl, ?_⟩
 simp [eP]
theorem c37 : chkFn Tryz.prog 150 29 3 a37 a37R = true := by kernel_rfl
theorem d37 (user : Int) (s : ByteArray) (x : Post) (es : List Post) (i : Nat) (hx : es[i]? = some x) (hm : mayP x = true) : Does Tryz.prog 150 [.ptr 42005 5 i 0, .ptr 22006 0 0 0, .ptr 22007 0 0 0] [(22006, .obj 3 [iv user]), (22007, .obj 9 [sv s]), (42005, .arr 86 5 (ePs es))] [22006, 22007, 42005] (fun r m => r = iv (dofE user s x).2 ∧ m = [(22006, .obj 3 [iv user]), (22007, .obj 9 [sv s]), (42005, .arr 86 5 (ePs (es.set i (dofE user s x).1)))]) := by
 obtain ⟨hi, hgx, hge⟩ := ePs_at hx
 have hed : 0 ≤ x.edits ∧ x.edits ≤ 1073741824 := by
  simp only [mayP, btw, Bool.and_eq_true, decide_eq_true_eq] at hm; exact hm.2
 have hw : IntKind.i64.wrap (x.edits + 1) = x.edits + 1 := wrap_id (by omega) (by omega)
 have hsame : es.set i x = es := by rw [← hgx hi]; exact List.set_getElem_self hi
 refine Does.of (nt := 29) (ac := a37) (rds := a37R) c37 (fun c hc => ?_)
 unfold a37
 apply J.seq
 refine J.regE (by simp; rfl) ?_
 simp
 apply J.seq
 apply J.block
 apply J.seq
 apply J.draw; intro c' hc'
 iterate 7 refine runP_step rfl (by simp [hi, hge, eP, look_upd]; rfl) ?_
 simp [runP]
 refine J.condB rfl (fun h1 => ?_) (fun h1 => ?_)
 ·
  simp at h1
  apply J.seq
  refine J.regE (by simp; rfl) ?_
  simp
  apply J.ret
  refine ⟨by simp, rfl, _, [(22006, .obj 3 [iv user]), (22007, .obj 9 [sv s]), (42005, .arr 86 5 (ePs es))], by simp [a37R]; rfl, ?_⟩
  simp [dofE, h1, hsame]
 ·
  simp at h1
  apply J.seq
  apply J.reg
  iterate 6 refine runL_step rfl (by simp [hi, hge, eP]; rfl) ?_
  simp [runL]
  refine J.condB rfl (fun h2 => ?_) (fun h2 => ?_)
  ·
   simp at h2
   apply J.seq
   refine J.regE (by simp; rfl) ?_
   simp
   apply J.ret
   refine ⟨by simp, rfl, _, [(22006, .obj 3 [iv user]), (22007, .obj 9 [sv s]), (42005, .arr 86 5 (ePs es))], by simp [a37R]; rfl, ?_⟩
   simp [dofE, h1, h2, hsame]
  ·
   simp at h2
   apply J.skip; simp
   apply J.seq
   apply J.reg
   iterate 5 refine runL_step rfl (by simp [hi, hge, eP]; rfl) ?_
   simp [runL]
   apply J.seq
   apply J.reg
   iterate 8 refine runL_step rfl (by simp [hi, hge, eP, hw]; rfl) ?_
   simp [runL]
   apply J.seq
   refine J.regE (by simp; rfl) ?_
   simp
   apply J.ret
   refine ⟨by simp, rfl, _, [(22006, .obj 3 [iv user]), (22007, .obj 9 [sv s]), (42005, .arr 86 5 (ePs (es.set i { x with text := s, edits := x.edits + 1 })))], by simp [a37R]; rfl, ?_⟩
   have h3 : ¬ 1073741824 ≤ x.edits := by omega
   simp [dofE, h1, h3, eP, ← ePs_set]
theorem c38 : chkFn Tryz.prog 151 22 3 a38 a38R = true := by kernel_rfl
theorem d38 (user owner : Int) (x : Post) (es : List Post) (i : Nat) (hx : es[i]? = some x) : Does Tryz.prog 151 [.ptr 42005 5 i 0, .ptr 23006 0 0 0, .ptr 23007 0 0 0] [(23006, .obj 3 [iv user]), (23007, .obj 3 [iv owner]), (42005, .arr 86 5 (ePs es))] [23006, 23007, 42005] (fun r m => r = iv (dofD user owner x).2 ∧ m = [(23006, .obj 3 [iv user]), (23007, .obj 3 [iv owner]), (42005, .arr 86 5 (ePs (es.set i (dofD user owner x).1)))]) := by
 obtain ⟨hi, hgx, hge⟩ := ePs_at hx
 have hsame : es.set i x = es := by rw [← hgx hi]; exact List.set_getElem_self hi
 refine Does.of (nt := 22) (ac := a38) (rds := a38R) c38 (fun c hc => ?_)
 unfold a38
 apply J.seq
 refine J.regE (by simp; rfl) ?_
 simp
 apply J.seq
 apply J.seq
 by_cases h1 : user = x.user
 ·
  apply J.draw; intro c' hc'
  iterate 11 refine runP_stepQ (by simp [hi, hge, eP, look_upd, h1]; rfl) ?_
  simp [runP]
  apply J.cond; simp
  apply J.skip; simp
  apply J.seq
  apply J.reg
  iterate 8 refine runL_step rfl (by simp [hi, hge, eP]; rfl) ?_
  simp [runL]
  apply J.seq
  refine J.regE (by simp; rfl) ?_
  simp
  apply J.ret
  refine ⟨by simp, rfl, _, [(23006, .obj 3 [iv user]), (23007, .obj 3 [iv owner]), (42005, .arr 86 5 (ePs (es.set i { x with text := ⟨#[]⟩, gone := true })))], by simp [a38R]; rfl, ?_⟩
  simp [dofD, h1, eP, ← ePs_set]
 ·
  apply J.draw; intro c' hc'
  iterate 11 refine runP_stepQ (by simp [hi, hge, eP, look_upd, h1]; rfl) ?_
  simp [runP]
  refine J.condB rfl (fun h2 => ?_) (fun h2 => ?_)
  ·
   simp at h2
   apply J.seq
   refine J.regE (by simp; rfl) ?_
   simp
   apply J.ret
   refine ⟨by simp, rfl, _, [(23006, .obj 3 [iv user]), (23007, .obj 3 [iv owner]), (42005, .arr 86 5 (ePs es))], by simp [a38R]; rfl, ?_⟩
   simp [dofD, h1, h2, hsame]
  ·
   simp at h2
   apply J.skip; simp
   apply J.seq
   apply J.reg
   iterate 8 refine runL_step rfl (by simp [hi, hge, eP]; rfl) ?_
   simp [runL]
   apply J.seq
   refine J.regE (by simp; rfl) ?_
   simp
   apply J.ret
   refine ⟨by simp, rfl, _, [(23006, .obj 3 [iv user]), (23007, .obj 3 [iv owner]), (42005, .arr 86 5 (ePs (es.set i { x with text := ⟨#[]⟩, gone := true })))], by simp [a38R]; rfl, ?_⟩
   simp [dofD, h1, h2, eP, ← ePs_set]
end Go.Proofs.YtadbdchbdjkcdaaGreatDoor.P16
