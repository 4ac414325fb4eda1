/- The codes of this law's functions: as a program of ours printed them. Conditions: none. -/
import Derived.Test.YtbikhbgmgmaocaaGreatDoorGoesF
import Derived.Test.YtbikhbgmgmaocaaGreatDoorIfD
namespace Go.Ideal.T
open Go Go.Ideal Go.Proofs
def r3n0 : List Step := [
  ⟨(some 4), none, .mv (.c (.bool false))⟩]
def r3n1 : List Step := [
  ⟨(some 28), none, .call 5 []⟩,
  ⟨(some 5), none, .mv (.t 28)⟩]
def r3n2 : List Step := [
  ⟨(some 29), none, .mv (.t 5)⟩,
  ⟨(some 30), none, .scal (bo (.unOp .not 4 (.tmp 29)) 4)⟩,
  ⟨(some 31), none, .mv (.t 30)⟩,
  ⟨(some 32), (some (31, false)), .mv (.t 0)⟩,
  ⟨(some 33), (some (31, false)), .lenSlice (.t 32)⟩,
  ⟨(some 34), (some (31, false)), .scal (bo (.binOp .eql 3 (.tmp 33) (.const (.int .i64 0)) 3) 4)⟩,
  ⟨(some 35), none, .pick (.t 31) (.c (.bool true)) (.t 34)⟩,
  ⟨(some 36), none, .mv (.t 35)⟩,
  ⟨(some 37), (some (36, false)), .mv (.t 0)⟩,
  ⟨(some 38), (some (36, false)), .lenSlice (.t 37)⟩,
  ⟨(some 39), (some (36, false)), .scal (bo (.binOp .gtr 3 (.tmp 38) (.const (.int .i64 40)) 3) 4)⟩,
  ⟨(some 40), none, .pick (.t 36) (.c (.bool true)) (.t 39)⟩,
  ⟨(some 41), none, .mv (.t 40)⟩,
  ⟨(some 42), (some (41, false)), .mv (.t 1)⟩,
  ⟨(some 43), (some (41, false)), .lenSlice (.t 42)⟩,
  ⟨(some 44), (some (41, false)), .scal (bo (.binOp .gtr 3 (.tmp 43) (.const (.int .i64 300)) 3) 4)⟩,
  ⟨(some 45), none, .pick (.t 41) (.c (.bool true)) (.t 44)⟩]
def r3n3 : List Step := [
  ⟨(some 46), none, .mv (.t 5)⟩,
  ⟨(some 4), none, .mv (.t 46)⟩]
def r3n4 : List Step := [
  ⟨(some 6), none, .mv (.c .nilSlice)⟩]
def r3n5 : List Step := [
  ⟨(some 47), none, .mv (.t 0)⟩,
  ⟨(some 48), none, .lenSlice (.t 47)⟩,
  ⟨(some 49), none, .mv (.c (.int .i64 0))⟩]
def r3n6 : List Step := [
  ⟨(some 50), none, .scal (bo (.binOp .lss 3 (.tmp 49) (.tmp 48) 3) 0)⟩]
def r3n7 : List Step := [
  ⟨(some 51), none, .mv (.t 49)⟩,
  ⟨(some 7), none, .mv (.t 51)⟩]
def r3n8 : List Step := [
  ⟨(some 52), none, .mv (.t 6)⟩,
  ⟨(some 53), none, .mv (.t 7)⟩,
  ⟨(some 54), none, .scal (bo (.binOp .add 3 (.tmp 53) (.const (.int .i64 1)) 3) 3)⟩,
  ⟨(some 55), none, .buildSlice 1 1 [(.int .i64 0)] [(0, 1, (.t 54))]⟩,
  ⟨(some 56), none, .append 1 (.t 52) (.t 55)⟩,
  ⟨(some 6), none, .mv (.t 56)⟩]
def r3n9 : List Step := [
  ⟨(some 57), none, .scal (bo (.binOp .add 3 (.tmp 49) (.const (.int .i64 1)) 3) 3)⟩,
  ⟨(some 49), none, .mv (.t 57)⟩]
def c3n10 : ICode := (.seq (.block 1 (.seq (.region r3n7) (.region r3n8))) (.region r3n9))
def c3n11 : ICode := (.seq (.region r3n6) (.seq (.cond (.t 50) .skip (.exit 0)) c3n10))
def r3n12 : List Step := [
  ⟨(some 59), none, .mv (.t 6)⟩,
  ⟨(some 60), none, .call 6 [(.c (.int .i64 1)), (.c (.int .i64 1)), (.c (.int .i64 100)), (.t 59)]⟩,
  ⟨(some 58), none, .mv (.t 60)⟩,
  ⟨(some 61), none, .extract 0 (.t 58)⟩,
  ⟨(some 62), none, .extract 1 (.t 58)⟩,
  ⟨(some 8), none, .alloc [(.int .i64 0), (.int .i64 0), (.int .i64 0), .nilSlice, .nilSlice]⟩,
  ⟨none, none, .store 5 (.t 8) (.t 61)⟩,
  ⟨(some 9), none, .mv (.t 62)⟩]
def r3n13 : List Step := [
  ⟨(some 63), none, .mv (.t 9)⟩,
  ⟨(some 64), none, .scal (bo (.binOp .neq 28 (.tmp 63) (.const (.int .i64 0)) 28) 4)⟩]
def r3n14 : List Step := [
  ⟨(some 4), none, .mv (.c (.bool false))⟩]
def r3n15 : List Step := [
  ⟨(some 10), none, .mv (.c .nilSlice)⟩,
  ⟨(some 11), none, .mv (.c .nilSlice)⟩]
def r3n16 : List Step := [
  ⟨(some 65), none, .mv (.t 0)⟩,
  ⟨(some 66), none, .lenSlice (.t 65)⟩,
  ⟨(some 67), none, .mv (.c (.int .i64 0))⟩]
def r3n17 : List Step := [
  ⟨(some 68), none, .scal (bo (.binOp .lss 3 (.tmp 67) (.tmp 66) 3) 0)⟩]
def r3n18 : List Step := [
  ⟨(some 69), none, .mv (.t 67)⟩,
  ⟨(some 70), none, .indexAddr 1 (.t 65) (.t 67)⟩,
  ⟨(some 71), none, .load none (.t 70)⟩,
  ⟨(some 12), none, .mv (.t 69)⟩,
  ⟨(some 13), none, .mv (.t 71)⟩]
def r3n19 : List Step := [
  ⟨(some 72), none, .mv (.t 13)⟩,
  ⟨(some 73), none, .scal (bo (.binOp .rem 5 (.tmp 72) (.const (.int .u8 4)) 5) 5)⟩,
  ⟨(some 74), none, .scal (bo (.convert 5 3 (.tmp 73)) 3)⟩,
  ⟨(some 14), none, .mv (.t 74)⟩]
def r3n20 : List Step := [
  ⟨(some 75), none, .mv (.t 14)⟩,
  ⟨(some 76), none, .scal (bo (.binOp .eql 3 (.tmp 75) (.const (.int .i64 0)) 3) 4)⟩]
def r3n21 : List Step := [
  ⟨(some 78), none, .load (some 5) (.t 8)⟩,
  ⟨(some 79), none, .mv (.t 12)⟩,
  ⟨(some 80), none, .scal (bo (.binOp .add 3 (.tmp 79) (.const (.int .i64 1)) 3) 3)⟩,
  ⟨(some 81), none, .mv (.t 14)⟩,
  ⟨(some 82), none, .call 7 [(.t 78), (.t 80), (.t 81), (.c (.int .i64 5))]⟩,
  ⟨(some 77), none, .mv (.t 82)⟩,
  ⟨(some 83), none, .extract 0 (.t 77)⟩,
  ⟨(some 84), none, .extract 1 (.t 77)⟩,
  ⟨none, none, .store 5 (.t 8) (.t 83)⟩,
  ⟨(some 9), none, .mv (.t 84)⟩]
def r3n22 : List Step := [
  ⟨(some 85), none, .mv (.t 9)⟩,
  ⟨(some 86), none, .scal (bo (.binOp .neq 28 (.tmp 85) (.const (.int .i64 0)) 28) 4)⟩]
def r3n23 : List Step := [
  ⟨(some 4), none, .mv (.c (.bool false))⟩]
def r3n24 : List Step := [
  ⟨(some 87), none, .mv (.t 14)⟩,
  ⟨(some 88), none, .scal (bo (.binOp .eql 3 (.tmp 87) (.const (.int .i64 3)) 3) 4)⟩]
def r3n25 : List Step := [
  ⟨(some 89), none, .mv (.t 10)⟩,
  ⟨(some 90), none, .mv (.t 12)⟩,
  ⟨(some 91), none, .scal (bo (.binOp .add 3 (.tmp 90) (.const (.int .i64 1)) 3) 3)⟩,
  ⟨(some 92), none, .buildSlice 1 1 [(.int .i64 0)] [(0, 1, (.t 91))]⟩,
  ⟨(some 93), none, .append 1 (.t 89) (.t 92)⟩,
  ⟨(some 10), none, .mv (.t 93)⟩]
def r3n26 : List Step := [
  ⟨(some 94), none, .mv (.t 14)⟩,
  ⟨(some 95), none, .scal (bo (.binOp .eql 3 (.tmp 94) (.const (.int .i64 2)) 3) 4)⟩]
def r3n27 : List Step := [
  ⟨(some 96), none, .mv (.t 11)⟩,
  ⟨(some 97), none, .mv (.t 12)⟩,
  ⟨(some 98), none, .scal (bo (.binOp .add 3 (.tmp 97) (.const (.int .i64 1)) 3) 3)⟩,
  ⟨(some 99), none, .buildSlice 1 1 [(.int .i64 0)] [(0, 1, (.t 98))]⟩,
  ⟨(some 100), none, .append 1 (.t 96) (.t 99)⟩,
  ⟨(some 11), none, .mv (.t 100)⟩]
def c3n28 : ICode := (.seq (.region r3n26) (.cond (.t 95) (.region r3n27) .skip))
def c3n29 : ICode := (.seq (.seq (.region r3n24) (.cond (.t 88) (.region r3n25) .skip)) c3n28)
def c3n30 : ICode := (.seq (.seq (.region r3n22) (.cond (.t 86) (.seq (.region r3n23) .ret) .skip)) c3n29)
def c3n31 : ICode := (.seq (.seq (.region r3n20) (.cond (.t 76) (.exit 3) .skip)) (.seq (.region r3n21) c3n30))
def r3n32 : List Step := [
  ⟨(some 101), none, .scal (bo (.binOp .add 3 (.tmp 67) (.const (.int .i64 1)) 3) 3)⟩,
  ⟨(some 67), none, .mv (.t 101)⟩]
def c3n33 : ICode := (.seq (.block 3 (.seq (.region r3n18) (.seq (.region r3n19) c3n31))) (.region r3n32))
def c3n34 : ICode := (.seq (.region r3n17) (.seq (.cond (.t 68) .skip (.exit 2)) c3n33))
def r3n35 : List Step := [
  ⟨(some 102), none, .mv (.t 10)⟩,
  ⟨(some 103), none, .lenSlice (.t 102)⟩,
  ⟨(some 104), none, .scal (bo (.binOp .gtr 3 (.tmp 103) (.const (.int .i64 0)) 3) 4)⟩]
def r3n36 : List Step := [
  ⟨(some 105), none, .mv (.t 10)⟩,
  ⟨(some 11), none, .mv (.t 105)⟩]
def r3n37 : List Step := [
  ⟨(some 106), none, .load (some 5) (.t 8)⟩,
  ⟨(some 107), none, .call 9 [(.t 106)]⟩,
  ⟨(some 108), none, .mv (.t 11)⟩,
  ⟨(some 109), none, .call 8 [(.t 107), (.t 108)]⟩,
  ⟨(some 110), none, .scal (bo (.unOp .not 4 (.tmp 109)) 4)⟩]
def r3n38 : List Step := [
  ⟨(some 4), none, .mv (.c (.bool false))⟩]
def r3n39 : List Step := [
  ⟨(some 111), none, .call 10 []⟩,
  ⟨(some 15), none, .mv (.t 111)⟩]
def r3n40 : List Step := [
  ⟨(some 16), none, .mv (.c .nilSlice)⟩]
def r3n41 : List Step := [
  ⟨(some 112), none, .mv (.t 1)⟩,
  ⟨(some 113), none, .lenSlice (.t 112)⟩,
  ⟨(some 114), none, .mv (.c (.int .i64 0))⟩]
def r3n42 : List Step := [
  ⟨(some 115), none, .scal (bo (.binOp .lss 3 (.tmp 114) (.tmp 113) 3) 0)⟩]
def r3n43 : List Step := [
  ⟨(some 116), none, .indexAddr 1 (.t 112) (.t 114)⟩,
  ⟨(some 117), none, .load none (.t 116)⟩,
  ⟨(some 18), none, .mv (.t 117)⟩]
def r3n44 : List Step := [
  ⟨(some 118), none, .mv (.t 16)⟩,
  ⟨(some 119), none, .mv (.t 18)⟩,
  ⟨(some 120), none, .scal (bo (.convert 36 3 (.tmp 119)) 3)⟩,
  ⟨(some 121), none, .buildSlice 1 1 [(.int .i64 0)] [(0, 1, (.t 120))]⟩,
  ⟨(some 122), none, .append 1 (.t 118) (.t 121)⟩,
  ⟨(some 16), none, .mv (.t 122)⟩]
def r3n45 : List Step := [
  ⟨(some 123), none, .scal (bo (.binOp .add 3 (.tmp 114) (.const (.int .i64 1)) 3) 3)⟩,
  ⟨(some 114), none, .mv (.t 123)⟩]
def c3n46 : ICode := (.seq (.block 5 (.seq (.region r3n43) (.region r3n44))) (.region r3n45))
def c3n47 : ICode := (.seq (.region r3n42) (.seq (.cond (.t 115) .skip (.exit 4)) c3n46))
def r3n48 : List Step := [
  ⟨(some 124), none, .mv (.t 15)⟩,
  ⟨(some 125), none, .isNil .ptr false (.t 124)⟩,
  ⟨(some 126), none, .mv (.t 125)⟩,
  ⟨(some 127), (some (126, false)), .mv (.t 15)⟩,
  ⟨(some 128), (some (126, false)), .mv (.t 16)⟩,
  ⟨(some 129), (some (126, false)), .call 11 [(.t 127), (.t 128)]⟩,
  ⟨(some 130), (some (126, false)), .scal (bo (.binOp .neq 28 (.tmp 129) (.const (.int .i64 0)) 28) 4)⟩,
  ⟨(some 131), none, .pick (.t 126) (.c (.bool true)) (.t 130)⟩]
def r3n49 : List Step := [
  ⟨(some 4), none, .mv (.c (.bool false))⟩]
def r3n50 : List Step := [
  ⟨(some 19), none, .mv (.c (.int .i64 0))⟩,
  ⟨(some 20), none, .mv (.c (.int .i64 0))⟩,
  ⟨(some 21), none, .mv (.c (.bool true))⟩]
def r3n51 : List Step := [
  ⟨(some 132), none, .mv (.t 11)⟩,
  ⟨(some 133), none, .lenSlice (.t 132)⟩,
  ⟨(some 134), none, .scal (bo (.binOp .eql 3 (.tmp 133) (.const (.int .i64 1)) 3) 4)⟩]
def r3n52 : List Step := [
  ⟨(some 135), none, .mv (.t 11)⟩,
  ⟨(some 136), none, .indexAddr 1 (.t 135) (.c (.int .i64 0))⟩,
  ⟨(some 137), none, .load none (.t 136)⟩,
  ⟨(some 19), none, .mv (.t 137)⟩]
def r3n53 : List Step := [
  ⟨(some 22), none, .mv (.c (.int .i64 0))⟩]
def r3n54 : List Step := [
  ⟨(some 138), none, .mv (.t 22)⟩,
  ⟨(some 139), none, .mv (.t 11)⟩,
  ⟨(some 140), none, .lenSlice (.t 139)⟩,
  ⟨(some 141), none, .scal (bo (.binOp .lss 3 (.tmp 138) (.tmp 140) 3) 4)⟩,
  ⟨(some 142), none, .mv (.t 141)⟩,
  ⟨(some 143), (some (142, true)), .mv (.t 11)⟩,
  ⟨(some 144), (some (142, true)), .lenSlice (.t 143)⟩,
  ⟨(some 145), (some (142, true)), .scal (bo (.binOp .gtr 3 (.tmp 144) (.const (.int .i64 1)) 3) 4)⟩,
  ⟨(some 146), none, .pick (.t 142) (.t 145) (.c (.bool false))⟩,
  ⟨(some 147), none, .mv (.t 146)⟩,
  ⟨(some 148), (some (147, true)), .mv (.t 21)⟩,
  ⟨(some 149), none, .pick (.t 147) (.t 148) (.c (.bool false))⟩]
def r3n55 : List Step := [
  ⟨(some 153), none, .mv (.t 15)⟩,
  ⟨(some 154), none, .call 12 [(.t 153), (.c (.int .i64 100))]⟩,
  ⟨(some 152), none, .mv (.t 154)⟩,
  ⟨(some 155), none, .extract 0 (.t 152)⟩,
  ⟨(some 156), none, .extract 1 (.t 152)⟩,
  ⟨(some 23), none, .mv (.t 155)⟩,
  ⟨(some 24), none, .mv (.t 156)⟩]
def r3n56 : List Step := [
  ⟨(some 157), none, .mv (.t 24)⟩,
  ⟨(some 21), none, .mv (.t 157)⟩]
def r3n57 : List Step := [
  ⟨(some 158), none, .mv (.t 24)⟩,
  ⟨(some 159), none, .mv (.t 158)⟩,
  ⟨(some 160), (some (159, true)), .mv (.t 23)⟩,
  ⟨(some 161), (some (159, true)), .scal (bo (.binOp .add 3 (.tmp 160) (.const (.int .i64 1)) 3) 3)⟩,
  ⟨(some 162), (some (159, true)), .mv (.t 20)⟩,
  ⟨(some 163), (some (159, true)), .scal (bo (.binOp .gtr 3 (.tmp 161) (.tmp 162) 3) 4)⟩,
  ⟨(some 164), none, .pick (.t 159) (.t 163) (.c (.bool false))⟩]
def r3n58 : List DStep := [
  ⟨0, none, (some 165), none, .mv (.t 23), []⟩,
  ⟨1, none, (some 166), none, .scal (bo (.binOp .add 3 (.tmp 165) (.const (.int .i64 1)) 3) 3), []⟩,
  ⟨2, none, (some 167), none, .mv (.t 11), []⟩,
  ⟨3, none, (some 168), none, .mv (.t 22), []⟩,
  ⟨4, none, (some 169), none, .indexAddr 1 (.t 167) (.t 168), []⟩,
  ⟨5, none, (some 170), none, .load none (.t 169), []⟩,
  ⟨6, none, (some 20), none, .mv (.t 166), []⟩,
  ⟨7, none, (some 19), none, .mv (.t 170), []⟩]
def c3n59 : ICode := (.seq (.region r3n57) (.cond (.t 164) (.draw 0 r3n58) .skip))
def r3n60 : List Step := [
  ⟨(some 150), none, .mv (.t 22)⟩,
  ⟨(some 151), none, .scal (bo (.binOp .add 3 (.tmp 150) (.const (.int .i64 1)) 3) 3)⟩,
  ⟨(some 22), none, .mv (.t 151)⟩]
def c3n61 : ICode := (.seq (.block 7 (.seq (.region r3n55) (.seq (.region r3n56) c3n59))) (.region r3n60))
def c3n62 : ICode := (.seq (.seq (.region r3n54) (.cond (.t 149) .skip (.exit 6))) c3n61)
def r3n63 : List Step := [
  ⟨(some 172), none, .load (some 5) (.t 8)⟩,
  ⟨(some 173), none, .mv (.t 16)⟩,
  ⟨(some 174), none, .call 13 [(.t 172), (.t 173)]⟩,
  ⟨(some 171), none, .mv (.t 174)⟩,
  ⟨(some 175), none, .extract 0 (.t 171)⟩,
  ⟨(some 176), none, .extract 1 (.t 171)⟩,
  ⟨(some 177), none, .extract 2 (.t 171)⟩,
  ⟨(some 25), none, .mv (.t 175)⟩,
  ⟨(some 26), none, .mv (.t 176)⟩,
  ⟨(some 27), none, .mv (.t 177)⟩]
def r3n64 : List Step := [
  ⟨(some 178), none, .mv (.t 21)⟩,
  ⟨(some 179), none, .scal (bo (.unOp .not 4 (.tmp 178)) 4)⟩]
def r3n65 : List Step := [
  ⟨(some 180), none, .mv (.t 25)⟩,
  ⟨(some 181), none, .scal (bo (.binOp .eql 3 (.tmp 180) (.const (.int .i64 0)) 3) 4)⟩,
  ⟨(some 182), none, .mv (.t 181)⟩,
  ⟨(some 183), (some (182, true)), .mv (.t 26)⟩,
  ⟨(some 184), (some (182, true)), .scal (bo (.binOp .eql 3 (.tmp 183) (.const (.int .i64 0)) 3) 4)⟩,
  ⟨(some 185), none, .pick (.t 182) (.t 184) (.c (.bool false))⟩,
  ⟨(some 186), none, .mv (.t 185)⟩,
  ⟨(some 187), (some (186, true)), .mv (.t 27)⟩,
  ⟨(some 188), (some (186, true)), .scal (bo (.unOp .not 4 (.tmp 187)) 4)⟩,
  ⟨(some 189), none, .pick (.t 186) (.t 188) (.c (.bool false))⟩,
  ⟨(some 4), none, .mv (.t 189)⟩]
def r3n66 : List Step := [
  ⟨(some 190), none, .mv (.t 27)⟩,
  ⟨(some 191), none, .mv (.t 190)⟩,
  ⟨(some 192), (some (191, true)), .mv (.t 25)⟩,
  ⟨(some 193), (some (191, true)), .mv (.t 19)⟩,
  ⟨(some 194), (some (191, true)), .scal (bo (.binOp .eql 3 (.tmp 192) (.tmp 193) 3) 4)⟩,
  ⟨(some 195), none, .pick (.t 191) (.t 194) (.c (.bool false))⟩,
  ⟨(some 196), none, .mv (.t 195)⟩,
  ⟨(some 197), (some (196, true)), .mv (.t 26)⟩,
  ⟨(some 198), (some (196, true)), .mv (.t 16)⟩,
  ⟨(some 199), (some (196, true)), .lenSlice (.t 198)⟩,
  ⟨(some 200), (some (196, true)), .mv (.t 15)⟩,
  ⟨(some 201), (some (196, true)), .call 14 [(.t 200)]⟩,
  ⟨(some 202), (some (196, true)), .scal (bo (.binOp .sub 3 (.tmp 199) (.tmp 201) 3) 3)⟩,
  ⟨(some 203), (some (196, true)), .scal (bo (.binOp .eql 3 (.tmp 197) (.tmp 202) 3) 4)⟩,
  ⟨(some 204), none, .pick (.t 196) (.t 203) (.c (.bool false))⟩,
  ⟨(some 4), none, .mv (.t 204)⟩]
def c3n67 : ICode := (.seq (.seq (.region r3n64) (.cond (.t 179) (.seq (.region r3n65) .ret) .skip)) (.seq (.region r3n66) .ret))
def c3n68 : ICode := (.seq (.seq (.region r3n53) (.block 6 (.loop c3n62))) (.seq (.region r3n63) c3n67))
def c3n69 : ICode := (.seq (.seq (.region r3n51) (.cond (.t 134) (.region r3n52) .skip)) c3n68)
def c3n70 : ICode := (.seq (.seq (.region r3n48) (.cond (.t 131) (.seq (.region r3n49) .ret) .skip)) (.seq (.region r3n50) c3n69))
def c3n71 : ICode := (.seq (.seq (.region r3n41) (.block 4 (.loop c3n47))) c3n70)
def c3n72 : ICode := (.seq (.seq (.region r3n37) (.cond (.t 110) (.seq (.region r3n38) .ret) .skip)) (.seq (.region r3n39) (.seq (.region r3n40) c3n71)))
def c3n73 : ICode := (.seq (.seq (.region r3n35) (.cond (.t 104) (.region r3n36) .skip)) c3n72)
def c3n74 : ICode := (.seq (.seq (.region r3n16) (.block 2 (.loop c3n34))) c3n73)
def c3n75 : ICode := (.seq (.seq (.region r3n13) (.cond (.t 64) (.seq (.region r3n14) .ret) .skip)) (.seq (.region r3n15) c3n74))
def c3n76 : ICode := (.seq (.seq (.region r3n5) (.block 0 (.loop c3n11))) (.seq (.region r3n12) c3n75))
def c3n77 : ICode := (.seq (.seq (.region r3n2) (.cond (.t 45) (.seq (.region r3n3) .ret) .skip)) (.seq (.region r3n4) c3n76))
def f3 : IFunc := ⟨205, [.tmp 4], (.seq (.region r3n0) (.seq (.region r3n1) c3n77))⟩

def r6n0 : List Step := [
  ⟨(some 8), none, .alloc [(.int .i64 0), (.int .i64 0), (.int .i64 0), .nilSlice, .nilSlice]⟩,
  ⟨(some 9), none, .mv (.c (.int .i64 0))⟩]
def r6n1 : List DStep := [
  ⟨0, none, (some 11), none, .mv (.t 0), []⟩,
  ⟨1, none, (some 12), none, .mv (.t 1), []⟩,
  ⟨2, none, (some 13), none, .mv (.t 2), []⟩,
  ⟨3, none, (some 14), none, .mv (.t 3), []⟩,
  ⟨5, none, (some 16), none, .mv (.t 3), []⟩,
  ⟨6, none, (some 17), none, .lenSlice (.t 16), []⟩,
  ⟨4, none, (some 15), none, .call 25 [(.t 14)], []⟩,
  ⟨7, (some 0), (some 18), none, .makeSlice 1 [(.int .i64 0)] (.t 17), []⟩,
  ⟨8, none, (some 19), none, .build [(.int .i64 0), (.int .i64 0), (.int .i64 0), .nilSlice, .nilSlice] [(0, 1, (.t 11)), (1, 1, (.t 12)), (2, 1, (.t 13)), (3, 1, (.t 15)), (4, 1, (.t 18))], []⟩,
  ⟨9, (some 1), (some 10), none, .alloc [(.int .i64 0), (.int .i64 0), (.int .i64 0), .nilSlice, .nilSlice], []⟩,
  ⟨10, none, none, none, .store 5 (.t 10) (.t 19), []⟩]
def r6n2 : List Step := [
  ⟨(some 20), none, .load (some 5) (.t 10)⟩,
  ⟨(some 21), none, .call 26 [(.t 20)]⟩,
  ⟨(some 22), none, .scal (bo (.unOp .not 4 (.tmp 21)) 4)⟩]
def r6n3 : List Step := [
  ⟨(some 23), none, .build [(.int .i64 0), (.int .i64 0), (.int .i64 0), .nilSlice, .nilSlice] []⟩,
  ⟨none, none, .store 5 (.t 8) (.t 23)⟩,
  ⟨(some 9), none, .mv (.c (.int .i64 1))⟩]
def r6n4 : List Step := [
  ⟨(some 24), none, .load (some 5) (.t 10)⟩,
  ⟨none, none, .store 5 (.t 8) (.t 24)⟩,
  ⟨(some 9), none, .mv (.c (.int .i64 0))⟩]
def c6n5 : ICode := (.seq (.seq (.region r6n2) (.cond (.t 22) (.seq (.region r6n3) .ret) .skip)) (.seq (.region r6n4) .ret))
def f6 : IFunc := ⟨25, [.cell 8 (some 5), .tmp 9], (.seq (.region r6n0) (.seq (.draw 2 r6n1) c6n5))⟩

def r7n0 : List Step := [
  ⟨(some 4), none, .box (.t 0)⟩,
  ⟨(some 8), none, .alloc [(.int .i64 0), (.int .i64 0), (.int .i64 0), .nilSlice, .nilSlice]⟩,
  ⟨(some 9), none, .mv (.c (.int .i64 0))⟩]
def r7n1 : List Step := [
  ⟨(some 11), none, .load (some 5) (.t 4)⟩,
  ⟨(some 12), none, .call 26 [(.t 11)]⟩,
  ⟨(some 13), none, .scal (bo (.unOp .not 4 (.tmp 12)) 4)⟩,
  ⟨(some 14), none, .mv (.t 13)⟩,
  ⟨(some 15), (some (14, false)), .mv (.t 2)⟩,
  ⟨(some 16), (some (14, false)), .call 27 [(.t 15)]⟩,
  ⟨(some 17), (some (14, false)), .scal (bo (.unOp .not 4 (.tmp 16)) 4)⟩,
  ⟨(some 18), none, .pick (.t 14) (.c (.bool true)) (.t 17)⟩,
  ⟨(some 19), none, .mv (.t 18)⟩,
  ⟨(some 20), (some (19, false)), .mv (.t 2)⟩,
  ⟨(some 21), (some (19, false)), .scal (bo (.binOp .eql 3 (.tmp 20) (.const (.int .i64 0)) 3) 4)⟩,
  ⟨(some 22), none, .pick (.t 19) (.c (.bool true)) (.t 21)⟩]
def r7n2 : List Step := [
  ⟨(some 23), none, .build [(.int .i64 0), (.int .i64 0), (.int .i64 0), .nilSlice, .nilSlice] []⟩,
  ⟨none, none, .store 5 (.t 8) (.t 23)⟩,
  ⟨(some 9), none, .mv (.c (.int .i64 1))⟩]
def r7n3 : List Step := [
  ⟨(some 24), none, .fieldAddr 3 (.t 4)⟩,
  ⟨(some 25), none, .load none (.t 24)⟩,
  ⟨(some 26), none, .mv (.t 1)⟩,
  ⟨(some 27), none, .call 28 [(.t 25), (.t 26)]⟩,
  ⟨(some 10), none, .mv (.t 27)⟩]
def r7n4 : List Step := [
  ⟨(some 29), none, .mv (.t 10)⟩,
  ⟨(some 30), none, .scal (bo (.binOp .lss 3 (.tmp 29) (.const (.int .i64 0)) 3) 4)⟩,
  ⟨(some 28), none, .mv (.t 30)⟩]
def r7n5 : List Step := [
  ⟨(some 31), none, .build [(.int .i64 0), (.int .i64 0), (.int .i64 0), .nilSlice, .nilSlice] []⟩,
  ⟨none, none, .store 5 (.t 8) (.t 31)⟩,
  ⟨(some 9), none, .mv (.c (.int .i64 12))⟩]
def r7n6 : List Step := [
  ⟨(some 33), none, .mv (.t 3)⟩,
  ⟨(some 34), none, .fieldAddr 2 (.t 4)⟩,
  ⟨(some 35), none, .load none (.t 34)⟩,
  ⟨(some 36), none, .scal (bo (.binOp .geq 3 (.tmp 33) (.tmp 35) 3) 4)⟩,
  ⟨(some 32), none, .mv (.t 36)⟩]
def r7n7 : List Step := [
  ⟨(some 37), none, .build [(.int .i64 0), (.int .i64 0), (.int .i64 0), .nilSlice, .nilSlice] []⟩,
  ⟨none, none, .store 5 (.t 8) (.t 37)⟩,
  ⟨(some 9), none, .mv (.c (.int .i64 14))⟩]
def r7n8 : List Step := [
  ⟨(some 39), none, .fieldAddr 4 (.t 4)⟩,
  ⟨(some 40), none, .load none (.t 39)⟩,
  ⟨(some 41), none, .mv (.t 10)⟩,
  ⟨(some 42), none, .indexAddr 1 (.t 40) (.t 41)⟩,
  ⟨(some 43), none, .load none (.t 42)⟩,
  ⟨(some 44), none, .scal (bo (.binOp .neq 3 (.tmp 43) (.const (.int .i64 0)) 3) 4)⟩,
  ⟨(some 38), none, .mv (.t 44)⟩]
def r7n9 : List Step := [
  ⟨(some 45), none, .build [(.int .i64 0), (.int .i64 0), (.int .i64 0), .nilSlice, .nilSlice] []⟩,
  ⟨none, none, .store 5 (.t 8) (.t 45)⟩,
  ⟨(some 9), none, .mv (.c (.int .i64 7))⟩]
def c7n10 : ICode := (.seq (.region r7n8) (.cond (.t 38) (.seq (.region r7n9) .ret) .skip))
def c7n11 : ICode := (.seq (.region r7n6) (.cond (.t 32) (.seq (.region r7n7) .ret) c7n10))
def c7n12 : ICode := (.seq (.region r7n4) (.cond (.t 28) (.seq (.region r7n5) .ret) c7n11))
def r7n13 : List Step := [
  ⟨(some 46), none, .load (some 5) (.t 4)⟩,
  ⟨(some 47), none, .call 29 [(.t 46)]⟩,
  ⟨none, none, .store 5 (.t 4) (.t 47)⟩]
def r7n14 : List Step := [
  ⟨(some 48), none, .fieldAddr 4 (.t 4)⟩,
  ⟨(some 49), none, .load none (.t 48)⟩,
  ⟨(some 50), none, .mv (.t 10)⟩,
  ⟨(some 51), none, .mv (.t 2)⟩,
  ⟨(some 52), none, .indexAddr 1 (.t 49) (.t 50)⟩,
  ⟨none, none, .store 1 (.t 52) (.t 51)⟩]
def r7n15 : List Step := [
  ⟨(some 53), none, .load (some 5) (.t 4)⟩,
  ⟨none, none, .store 5 (.t 8) (.t 53)⟩,
  ⟨(some 9), none, .mv (.c (.int .i64 0))⟩]
def c7n16 : ICode := (.seq (.region r7n13) (.seq (.region r7n14) (.seq (.region r7n15) .ret)))
def c7n17 : ICode := (.seq (.seq (.region r7n1) (.cond (.t 22) (.seq (.region r7n2) .ret) .skip)) (.seq (.region r7n3) (.seq (.block 0 c7n12) c7n16)))
def f7 : IFunc := ⟨54, [.cell 8 (some 5), .tmp 9], (.seq (.region r7n0) c7n17)⟩

def r8n0 : List Step := [
  ⟨(some 4), none, .mv (.c (.bool false))⟩]
def r8n1 : List Step := [
  ⟨(some 6), none, .mv (.t 0)⟩,
  ⟨(some 7), none, .lenSlice (.t 6)⟩,
  ⟨(some 8), none, .mv (.t 1)⟩,
  ⟨(some 9), none, .lenSlice (.t 8)⟩,
  ⟨(some 10), none, .scal (bo (.binOp .neq 3 (.tmp 7) (.tmp 9) 3) 4)⟩]
def r8n2 : List Step := [
  ⟨(some 4), none, .mv (.c (.bool false))⟩]
def r8n3 : List Step := [
  ⟨(some 11), none, .mv (.t 0)⟩,
  ⟨(some 12), none, .lenSlice (.t 11)⟩,
  ⟨(some 13), none, .mv (.c (.int .i64 0))⟩]
def r8n4 : List Step := [
  ⟨(some 14), none, .scal (bo (.binOp .lss 3 (.tmp 13) (.tmp 12) 3) 0)⟩]
def r8n5 : List Step := [
  ⟨(some 15), none, .mv (.t 13)⟩,
  ⟨(some 5), none, .mv (.t 15)⟩]
def r8n6 : List DStep := [
  ⟨0, none, (some 16), none, .mv (.t 0), []⟩,
  ⟨1, none, (some 17), none, .mv (.t 5), []⟩,
  ⟨2, none, (some 18), none, .indexAddr 1 (.t 16) (.t 17), []⟩,
  ⟨3, none, (some 19), none, .load none (.t 18), []⟩,
  ⟨4, none, (some 20), none, .mv (.t 1), []⟩,
  ⟨5, none, (some 21), none, .mv (.t 5), []⟩,
  ⟨6, none, (some 22), none, .indexAddr 1 (.t 20) (.t 21), []⟩,
  ⟨7, none, (some 23), none, .load none (.t 22), []⟩,
  ⟨8, none, (some 24), none, .scal (bo (.binOp .neq 3 (.tmp 19) (.tmp 23) 3) 4), []⟩]
def r8n7 : List Step := [
  ⟨(some 4), none, .mv (.c (.bool false))⟩]
def c8n8 : ICode := (.seq (.draw 0 r8n6) (.cond (.t 24) (.seq (.region r8n7) .ret) .skip))
def r8n9 : List Step := [
  ⟨(some 25), none, .scal (bo (.binOp .add 3 (.tmp 13) (.const (.int .i64 1)) 3) 3)⟩,
  ⟨(some 13), none, .mv (.t 25)⟩]
def c8n10 : ICode := (.seq (.cond (.t 14) .skip (.exit 0)) (.seq (.block 1 (.seq (.region r8n5) c8n8)) (.region r8n9)))
def r8n11 : List Step := [
  ⟨(some 4), none, .mv (.c (.bool true))⟩]
def c8n12 : ICode := (.seq (.seq (.region r8n3) (.block 0 (.loop (.seq (.region r8n4) c8n10)))) (.seq (.region r8n11) .ret))
def c8n13 : ICode := (.seq (.seq (.region r8n1) (.cond (.t 10) (.seq (.region r8n2) .ret) .skip)) c8n12)
def f8 : IFunc := ⟨26, [.tmp 4], (.seq (.region r8n0) c8n13)⟩

def r9n0 : List Step := [
  ⟨(some 1), none, .box (.t 0)⟩,
  ⟨(some 2), none, .mv (.c .nilSlice)⟩]
def r9n1 : List Step := [
  ⟨(some 4), none, .load (some 5) (.t 1)⟩,
  ⟨(some 5), none, .call 26 [(.t 4)]⟩,
  ⟨(some 6), none, .scal (bo (.unOp .not 4 (.tmp 5)) 4)⟩]
def r9n2 : List Step := [
  ⟨(some 2), none, .mv (.c .nilSlice)⟩]
def r9n3 : List Step := [
  ⟨(some 7), none, .load (some 5) (.t 1)⟩,
  ⟨(some 8), none, .call 30 [(.t 7), (.c (.int .i64 3))]⟩,
  ⟨(some 3), none, .mv (.t 8)⟩]
def r9n4 : List Step := [
  ⟨(some 9), none, .mv (.t 3)⟩,
  ⟨(some 10), none, .lenSlice (.t 9)⟩,
  ⟨(some 11), none, .scal (bo (.binOp .gtr 3 (.tmp 10) (.const (.int .i64 0)) 3) 4)⟩]
def r9n5 : List Step := [
  ⟨(some 12), none, .mv (.t 3)⟩,
  ⟨(some 2), none, .mv (.t 12)⟩]
def c9n6 : ICode := (.seq (.region r9n4) (.cond (.t 11) (.seq (.region r9n5) .ret) .skip))
def r9n7 : List Step := [
  ⟨(some 13), none, .load (some 5) (.t 1)⟩,
  ⟨(some 14), none, .call 30 [(.t 13), (.c (.int .i64 2))]⟩,
  ⟨(some 2), none, .mv (.t 14)⟩]
def c9n8 : ICode := (.seq (.seq (.region r9n3) c9n6) (.seq (.region r9n7) .ret))
def c9n9 : ICode := (.seq (.seq (.region r9n1) (.cond (.t 6) (.seq (.region r9n2) .ret) .skip)) c9n8)
def f9 : IFunc := ⟨15, [.tmp 2], (.seq (.region r9n0) c9n9)⟩

def r10n0 : List Step := [
  ⟨(some 0), none, .mv (.c .nil)⟩]
def r10n1 : List Step := [
  ⟨(some 1), none, .build [.nilSlice] []⟩,
  ⟨(some 2), none, .box (.t 1)⟩,
  ⟨(some 0), none, .mv (.t 2)⟩]
def f10 : IFunc := ⟨3, [.tmp 0], (.seq (.region r10n0) (.seq (.region r10n1) .ret))⟩

def r11n0 : List Step := [
  ⟨(some 4), none, .mv (.c (.int .i64 0))⟩]
def r11n1 : List Step := [
  ⟨(some 7), none, .mv (.t 1)⟩,
  ⟨(some 8), none, .lenSlice (.t 7)⟩,
  ⟨(some 9), none, .mv (.c (.int .i64 0))⟩]
def r11n2 : List Step := [
  ⟨(some 10), none, .scal (bo (.binOp .lss 3 (.tmp 9) (.tmp 8) 3) 0)⟩]
def r11n3 : List Step := [
  ⟨(some 11), none, .indexAddr 1 (.t 7) (.t 9)⟩,
  ⟨(some 12), none, .load none (.t 11)⟩,
  ⟨(some 6), none, .mv (.t 12)⟩]
def r11n4 : List Step := [
  ⟨(some 13), none, .mv (.t 6)⟩,
  ⟨(some 14), none, .call 31 [(.t 13)]⟩,
  ⟨(some 15), none, .scal (bo (.unOp .not 4 (.tmp 14)) 4)⟩]
def r11n5 : List Step := [
  ⟨(some 4), none, .mv (.c (.int .i64 1))⟩]
def c11n6 : ICode := (.seq (.region r11n4) (.cond (.t 15) (.seq (.region r11n5) .ret) .skip))
def r11n7 : List Step := [
  ⟨(some 16), none, .scal (bo (.binOp .add 3 (.tmp 9) (.const (.int .i64 1)) 3) 3)⟩,
  ⟨(some 9), none, .mv (.t 16)⟩]
def c11n8 : ICode := (.seq (.block 1 (.seq (.region r11n3) c11n6)) (.region r11n7))
def c11n9 : ICode := (.seq (.region r11n2) (.seq (.cond (.t 10) .skip (.exit 0)) c11n8))
def r11n10 : List Step := [
  ⟨(some 17), none, .mv (.t 1)⟩,
  ⟨(some 18), none, .lenSlice (.t 17)⟩,
  ⟨(some 19), none, .mv (.t 0)⟩,
  ⟨(some 20), none, .nilCheck (.t 19)⟩,
  ⟨(some 21), none, .fieldAddr 0 (.t 20)⟩,
  ⟨(some 22), none, .load none (.t 21)⟩,
  ⟨(some 23), none, .lenSlice (.t 22)⟩,
  ⟨(some 24), none, .scal (bo (.binOp .sub 3 (.const (.int .i64 4096)) (.tmp 23) 3) 3)⟩,
  ⟨(some 25), none, .scal (bo (.binOp .gtr 3 (.tmp 18) (.tmp 24) 3) 4)⟩]
def r11n11 : List Step := [
  ⟨(some 4), none, .mv (.c (.int .i64 4))⟩]
def r11n12 : List Step := [
  ⟨(some 26), none, .mv (.t 0)⟩,
  ⟨(some 27), none, .mv (.t 0)⟩,
  ⟨(some 28), none, .nilCheck (.t 27)⟩,
  ⟨(some 29), none, .fieldAddr 0 (.t 28)⟩,
  ⟨(some 30), none, .load none (.t 29)⟩,
  ⟨(some 31), none, .mv (.t 1)⟩,
  ⟨(some 32), none, .append 1 (.t 30) (.t 31)⟩,
  ⟨(some 33), none, .nilCheck (.t 26)⟩,
  ⟨(some 34), none, .fieldAddr 0 (.t 33)⟩,
  ⟨none, none, .store 1 (.t 34) (.t 32)⟩]
def r11n13 : List Step := [
  ⟨(some 4), none, .mv (.c (.int .i64 0))⟩]
def c11n14 : ICode := (.seq (.seq (.region r11n10) (.cond (.t 25) (.seq (.region r11n11) .ret) .skip)) (.seq (.region r11n12) (.seq (.region r11n13) .ret)))
def c11n15 : ICode := (.seq (.seq (.region r11n1) (.block 0 (.loop c11n9))) c11n14)
def f11 : IFunc := ⟨35, [.tmp 4], (.seq (.region r11n0) c11n15)⟩

def r12n0 : List Step := [
  ⟨(some 4), none, .mv (.c (.int .i64 0))⟩,
  ⟨(some 5), none, .mv (.c (.bool false))⟩]
def r12n1 : List Step := [
  ⟨(some 10), none, .mv (.t 0)⟩,
  ⟨(some 11), none, .nilCheck (.t 10)⟩,
  ⟨(some 12), none, .fieldAddr 0 (.t 11)⟩,
  ⟨(some 13), none, .load none (.t 12)⟩,
  ⟨(some 14), none, .mv (.t 1)⟩,
  ⟨(some 15), none, .call 32 [(.t 13), (.t 14)]⟩,
  ⟨(some 9), none, .mv (.t 15)⟩,
  ⟨(some 16), none, .extract 0 (.t 9)⟩,
  ⟨(some 17), none, .extract 1 (.t 9)⟩,
  ⟨(some 18), none, .extract 2 (.t 9)⟩,
  ⟨(some 6), none, .mv (.t 16)⟩,
  ⟨(some 7), none, .mv (.t 17)⟩,
  ⟨(some 8), none, .mv (.t 18)⟩]
def r12n2 : List Step := [
  ⟨(some 19), none, .mv (.t 0)⟩,
  ⟨(some 20), none, .mv (.t 0)⟩,
  ⟨(some 21), none, .nilCheck (.t 20)⟩,
  ⟨(some 22), none, .fieldAddr 0 (.t 21)⟩,
  ⟨(some 23), none, .load none (.t 22)⟩,
  ⟨(some 24), none, .mv (.t 7)⟩,
  ⟨(some 25), none, .slice 1 (.t 23) (some (.t 24)) none none⟩,
  ⟨(some 26), none, .nilCheck (.t 19)⟩,
  ⟨(some 27), none, .fieldAddr 0 (.t 26)⟩,
  ⟨none, none, .store 1 (.t 27) (.t 25)⟩]
def r12n3 : List Step := [
  ⟨(some 28), none, .mv (.t 6)⟩,
  ⟨(some 29), none, .mv (.t 8)⟩,
  ⟨(some 4), none, .mv (.t 28)⟩,
  ⟨(some 5), none, .mv (.t 29)⟩]
def c12n4 : ICode := (.seq (.region r12n1) (.seq (.region r12n2) (.seq (.region r12n3) .ret)))
def f12 : IFunc := ⟨30, [.tmp 4, .tmp 5], (.seq (.region r12n0) c12n4)⟩

def r13n0 : List Step := [
  ⟨(some 2), none, .box (.t 0)⟩,
  ⟨(some 4), none, .mv (.c (.int .i64 0))⟩,
  ⟨(some 5), none, .mv (.c (.int .i64 0))⟩,
  ⟨(some 6), none, .mv (.c (.bool false))⟩]
def r13n1 : List Step := [
  ⟨(some 11), none, .load (some 5) (.t 2)⟩,
  ⟨(some 12), none, .call 9 [(.t 11)]⟩,
  ⟨(some 7), none, .mv (.t 12)⟩]
def r13n2 : List Step := [
  ⟨(some 13), none, .mv (.t 7)⟩,
  ⟨(some 14), none, .lenSlice (.t 13)⟩]
def r13n3 : List Step := [
  ⟨(some 16), none, .scal (bo (.binOp .eql 3 (.tmp 14) (.const (.int .i64 0)) 3) 4)⟩,
  ⟨(some 15), none, .mv (.t 16)⟩]
def r13n4 : List Step := [
  ⟨(some 4), none, .mv (.c (.int .i64 0))⟩,
  ⟨(some 5), none, .mv (.c (.int .i64 0))⟩,
  ⟨(some 6), none, .mv (.c (.bool true))⟩]
def r13n5 : List Step := [
  ⟨(some 18), none, .scal (bo (.binOp .eql 3 (.tmp 14) (.const (.int .i64 1)) 3) 4)⟩,
  ⟨(some 17), none, .mv (.t 18)⟩]
def r13n6 : List Step := [
  ⟨(some 19), none, .mv (.t 7)⟩,
  ⟨(some 20), none, .indexAddr 1 (.t 19) (.c (.int .i64 0))⟩,
  ⟨(some 21), none, .load none (.t 20)⟩,
  ⟨(some 4), none, .mv (.t 21)⟩,
  ⟨(some 5), none, .mv (.c (.int .i64 0))⟩,
  ⟨(some 6), none, .mv (.c (.bool true))⟩]
def c13n7 : ICode := (.seq (.region r13n5) (.cond (.t 17) (.seq (.region r13n6) .ret) .skip))
def c13n8 : ICode := (.seq (.region r13n3) (.cond (.t 15) (.seq (.region r13n4) .ret) c13n7))
def r13n9 : List Step := [
  ⟨(some 23), none, .mv (.t 1)⟩,
  ⟨(some 24), none, .mv (.t 7)⟩,
  ⟨(some 25), none, .lenSlice (.t 24)⟩,
  ⟨(some 26), none, .call 33 [(.t 23), (.t 25)]⟩,
  ⟨(some 22), none, .mv (.t 26)⟩,
  ⟨(some 27), none, .extract 0 (.t 22)⟩,
  ⟨(some 28), none, .extract 1 (.t 22)⟩,
  ⟨(some 29), none, .extract 2 (.t 22)⟩,
  ⟨(some 8), none, .mv (.t 27)⟩,
  ⟨(some 9), none, .mv (.t 28)⟩,
  ⟨(some 10), none, .mv (.t 29)⟩]
def r13n10 : List Step := [
  ⟨(some 30), none, .mv (.t 10)⟩,
  ⟨(some 31), none, .scal (bo (.unOp .not 4 (.tmp 30)) 4)⟩]
def r13n11 : List Step := [
  ⟨(some 4), none, .mv (.c (.int .i64 0))⟩,
  ⟨(some 5), none, .mv (.c (.int .i64 0))⟩,
  ⟨(some 6), none, .mv (.c (.bool false))⟩]
def r13n12 : List Step := [
  ⟨(some 32), none, .mv (.t 7)⟩,
  ⟨(some 33), none, .mv (.t 8)⟩,
  ⟨(some 34), none, .mv (.t 8)⟩,
  ⟨(some 35), none, .call 34 [(.t 34)]⟩,
  ⟨(some 36), none, .call 28 [(.t 33), (.t 35)]⟩,
  ⟨(some 37), none, .indexAddr 1 (.t 32) (.t 36)⟩,
  ⟨(some 38), none, .load none (.t 37)⟩,
  ⟨(some 39), none, .mv (.t 9)⟩,
  ⟨(some 4), none, .mv (.t 38)⟩,
  ⟨(some 5), none, .mv (.t 39)⟩,
  ⟨(some 6), none, .mv (.c (.bool true))⟩]
def c13n13 : ICode := (.seq (.seq (.region r13n10) (.cond (.t 31) (.seq (.region r13n11) .ret) .skip)) (.seq (.region r13n12) .ret))
def c13n14 : ICode := (.seq (.seq (.region r13n2) (.block 0 c13n8)) (.seq (.region r13n9) c13n13))
def f13 : IFunc := ⟨40, [.tmp 4, .tmp 5, .tmp 6], (.seq (.region r13n0) (.seq (.region r13n1) c13n14))⟩

def r14n0 : List Step := [
  ⟨(some 2), none, .mv (.c (.int .i64 0))⟩]
def r14n1 : List Step := [
  ⟨(some 3), none, .mv (.t 0)⟩,
  ⟨(some 4), none, .nilCheck (.t 3)⟩,
  ⟨(some 5), none, .fieldAddr 0 (.t 4)⟩,
  ⟨(some 6), none, .load none (.t 5)⟩,
  ⟨(some 7), none, .lenSlice (.t 6)⟩,
  ⟨(some 2), none, .mv (.t 7)⟩]
def f14 : IFunc := ⟨8, [.tmp 2], (.seq (.region r14n0) (.seq (.region r14n1) .ret))⟩

def r25n0 : List Step := [
  ⟨(some 2), none, .mv (.c .nilSlice)⟩]
def r25n1 : List Step := [
  ⟨(some 3), none, .mv (.t 0)⟩,
  ⟨(some 4), none, .isNil .slice false (.t 3)⟩]
def r25n2 : List Step := [
  ⟨(some 2), none, .mv (.c .nilSlice)⟩]
def r25n3 : List Step := [
  ⟨(some 5), none, .buildSlice 1 0 [] []⟩,
  ⟨(some 6), none, .mv (.t 0)⟩,
  ⟨(some 7), none, .append 1 (.t 5) (.t 6)⟩,
  ⟨(some 2), none, .mv (.t 7)⟩]
def c25n4 : ICode := (.seq (.seq (.region r25n1) (.cond (.t 4) (.seq (.region r25n2) .ret) .skip)) (.seq (.region r25n3) .ret))
def f25 : IFunc := ⟨8, [.tmp 2], (.seq (.region r25n0) c25n4)⟩

def r26n0 : List Step := [
  ⟨(some 1), none, .box (.t 0)⟩,
  ⟨(some 2), none, .mv (.c (.bool false))⟩]
def r26n1 : List Step := [
  ⟨(some 6), none, .fieldAddr 0 (.t 1)⟩,
  ⟨(some 7), none, .load none (.t 6)⟩,
  ⟨(some 8), none, .scal (bo (.binOp .lss 3 (.tmp 7) (.const (.int .i64 1)) 3) 4)⟩,
  ⟨(some 9), none, .mv (.t 8)⟩,
  ⟨(some 10), (some (9, false)), .fieldAddr 1 (.t 1)⟩,
  ⟨(some 11), (some (9, false)), .load none (.t 10)⟩,
  ⟨(some 12), (some (9, false)), .scal (bo (.binOp .lss 3 (.tmp 11) (.const (.int .i64 1)) 3) 4)⟩,
  ⟨(some 13), none, .pick (.t 9) (.c (.bool true)) (.t 12)⟩,
  ⟨(some 14), none, .mv (.t 13)⟩,
  ⟨(some 15), (some (14, false)), .fieldAddr 3 (.t 1)⟩,
  ⟨(some 16), (some (14, false)), .load none (.t 15)⟩,
  ⟨(some 17), (some (14, false)), .lenSlice (.t 16)⟩,
  ⟨(some 18), (some (14, false)), .scal (bo (.binOp .gtr 3 (.tmp 17) (.const (.int .i64 40)) 3) 4)⟩,
  ⟨(some 19), none, .pick (.t 14) (.c (.bool true)) (.t 18)⟩,
  ⟨(some 20), none, .mv (.t 19)⟩,
  ⟨(some 21), (some (20, false)), .fieldAddr 4 (.t 1)⟩,
  ⟨(some 22), (some (20, false)), .load none (.t 21)⟩,
  ⟨(some 23), (some (20, false)), .lenSlice (.t 22)⟩,
  ⟨(some 24), (some (20, false)), .fieldAddr 3 (.t 1)⟩,
  ⟨(some 25), (some (20, false)), .load none (.t 24)⟩,
  ⟨(some 26), (some (20, false)), .lenSlice (.t 25)⟩,
  ⟨(some 27), (some (20, false)), .scal (bo (.binOp .neq 3 (.tmp 23) (.tmp 26) 3) 4)⟩,
  ⟨(some 28), none, .pick (.t 20) (.c (.bool true)) (.t 27)⟩]
def r26n2 : List Step := [
  ⟨(some 2), none, .mv (.c (.bool false))⟩]
def r26n3 : List Step := [
  ⟨(some 3), none, .mv (.c (.int .i64 0))⟩]
def r26n4 : List Step := [
  ⟨(some 29), none, .fieldAddr 3 (.t 1)⟩,
  ⟨(some 30), none, .load none (.t 29)⟩,
  ⟨(some 31), none, .lenSlice (.t 30)⟩,
  ⟨(some 32), none, .mv (.c (.int .i64 0))⟩]
def r26n5 : List Step := [
  ⟨(some 33), none, .scal (bo (.binOp .lss 3 (.tmp 32) (.tmp 31) 3) 0)⟩]
def r26n6 : List Step := [
  ⟨(some 34), none, .mv (.t 32)⟩,
  ⟨(some 35), none, .indexAddr 1 (.t 30) (.t 32)⟩,
  ⟨(some 36), none, .load none (.t 35)⟩,
  ⟨(some 4), none, .mv (.t 34)⟩,
  ⟨(some 5), none, .mv (.t 36)⟩]
def r26n7 : List Step := [
  ⟨(some 37), none, .mv (.t 5)⟩,
  ⟨(some 38), none, .mv (.t 3)⟩,
  ⟨(some 39), none, .scal (bo (.binOp .leq 3 (.tmp 37) (.tmp 38) 3) 4)⟩,
  ⟨(some 40), none, .mv (.t 39)⟩,
  ⟨(some 41), (some (40, false)), .fieldAddr 4 (.t 1)⟩,
  ⟨(some 42), (some (40, false)), .load none (.t 41)⟩,
  ⟨(some 43), (some (40, false)), .mv (.t 4)⟩,
  ⟨(some 44), (some (40, false)), .indexAddr 1 (.t 42) (.t 43)⟩,
  ⟨(some 45), (some (40, false)), .load none (.t 44)⟩,
  ⟨(some 46), (some (40, false)), .call 27 [(.t 45)]⟩,
  ⟨(some 47), (some (40, false)), .scal (bo (.unOp .not 4 (.tmp 46)) 4)⟩,
  ⟨(some 48), none, .pick (.t 40) (.c (.bool true)) (.t 47)⟩]
def r26n8 : List Step := [
  ⟨(some 2), none, .mv (.c (.bool false))⟩]
def r26n9 : List Step := [
  ⟨(some 49), none, .mv (.t 5)⟩,
  ⟨(some 3), none, .mv (.t 49)⟩]
def c26n10 : ICode := (.seq (.seq (.region r26n7) (.cond (.t 48) (.seq (.region r26n8) .ret) .skip)) (.region r26n9))
def r26n11 : List Step := [
  ⟨(some 50), none, .scal (bo (.binOp .add 3 (.tmp 32) (.const (.int .i64 1)) 3) 3)⟩,
  ⟨(some 32), none, .mv (.t 50)⟩]
def c26n12 : ICode := (.seq (.block 1 (.seq (.region r26n6) c26n10)) (.region r26n11))
def c26n13 : ICode := (.seq (.region r26n5) (.seq (.cond (.t 33) .skip (.exit 0)) c26n12))
def r26n14 : List Step := [
  ⟨(some 2), none, .mv (.c (.bool true))⟩]
def c26n15 : ICode := (.seq (.seq (.region r26n4) (.block 0 (.loop c26n13))) (.seq (.region r26n14) .ret))
def c26n16 : ICode := (.seq (.seq (.region r26n1) (.cond (.t 28) (.seq (.region r26n2) .ret) .skip)) (.seq (.region r26n3) c26n15))
def f26 : IFunc := ⟨51, [.tmp 2], (.seq (.region r26n0) c26n16)⟩

def r27n0 : List Step := [
  ⟨(some 2), none, .mv (.c (.bool false))⟩]
def r27n1 : List Step := [
  ⟨(some 3), none, .mv (.t 0)⟩,
  ⟨(some 4), none, .scal (bo (.binOp .geq 3 (.tmp 3) (.const (.int .i64 0)) 3) 4)⟩,
  ⟨(some 5), none, .mv (.t 4)⟩,
  ⟨(some 6), (some (5, true)), .mv (.t 0)⟩,
  ⟨(some 7), (some (5, true)), .scal (bo (.binOp .leq 3 (.tmp 6) (.const (.int .i64 3)) 3) 4)⟩,
  ⟨(some 8), none, .pick (.t 5) (.t 7) (.c (.bool false))⟩,
  ⟨(some 2), none, .mv (.t 8)⟩]
def f27 : IFunc := ⟨9, [.tmp 2], (.seq (.region r27n0) (.seq (.region r27n1) .ret))⟩

def r28n0 : List Step := [
  ⟨(some 4), none, .mv (.c (.int .i64 0))⟩]
def r28n1 : List Step := [
  ⟨(some 6), none, .mv (.t 0)⟩,
  ⟨(some 7), none, .lenSlice (.t 6)⟩,
  ⟨(some 8), none, .mv (.c (.int .i64 0))⟩]
def r28n2 : List Step := [
  ⟨(some 9), none, .scal (bo (.binOp .lss 3 (.tmp 8) (.tmp 7) 3) 0)⟩]
def r28n3 : List Step := [
  ⟨(some 10), none, .mv (.t 8)⟩,
  ⟨(some 5), none, .mv (.t 10)⟩]
def r28n4 : List Step := [
  ⟨(some 11), none, .mv (.t 1)⟩,
  ⟨(some 12), none, .mv (.t 0)⟩,
  ⟨(some 13), none, .mv (.t 5)⟩,
  ⟨(some 14), none, .indexAddr 1 (.t 12) (.t 13)⟩,
  ⟨(some 15), none, .load none (.t 14)⟩,
  ⟨(some 16), none, .scal (bo (.binOp .eql 3 (.tmp 11) (.tmp 15) 3) 4)⟩]
def r28n5 : List Step := [
  ⟨(some 17), none, .mv (.t 5)⟩,
  ⟨(some 4), none, .mv (.t 17)⟩]
def c28n6 : ICode := (.seq (.region r28n4) (.cond (.t 16) (.seq (.region r28n5) .ret) .skip))
def r28n7 : List Step := [
  ⟨(some 18), none, .scal (bo (.binOp .add 3 (.tmp 8) (.const (.int .i64 1)) 3) 3)⟩,
  ⟨(some 8), none, .mv (.t 18)⟩]
def c28n8 : ICode := (.seq (.block 1 (.seq (.region r28n3) c28n6)) (.region r28n7))
def c28n9 : ICode := (.seq (.region r28n2) (.seq (.cond (.t 9) .skip (.exit 0)) c28n8))
def r28n10 : List Step := [
  ⟨(some 4), none, .mv (.c (.int .i64 (-1)))⟩]
def c28n11 : ICode := (.seq (.seq (.region r28n1) (.block 0 (.loop c28n9))) (.seq (.region r28n10) .ret))
def f28 : IFunc := ⟨19, [.tmp 4], (.seq (.region r28n0) c28n11)⟩

def r29n0 : List Step := [
  ⟨(some 1), none, .box (.t 0)⟩,
  ⟨(some 2), none, .alloc [(.int .i64 0), (.int .i64 0), (.int .i64 0), .nilSlice, .nilSlice]⟩]
def r29n1 : List DStep := [
  ⟨0, none, (some 3), none, .fieldAddr 3 (.t 1), []⟩,
  ⟨1, none, (some 4), none, .load none (.t 3), []⟩,
  ⟨3, none, (some 6), none, .fieldAddr 4 (.t 1), []⟩,
  ⟨4, none, (some 7), none, .load none (.t 6), []⟩,
  ⟨2, none, (some 5), none, .call 25 [(.t 4)], [⟨4, 7, none, .load none (.t 6)⟩]⟩,
  ⟨6, none, (some 9), none, .fieldAddr 3 (.t 1), []⟩,
  ⟨5, none, (some 8), none, .call 25 [(.t 7)], []⟩,
  ⟨7, none, none, none, .store 1 (.t 9) (.t 5), []⟩,
  ⟨8, none, (some 10), none, .fieldAddr 4 (.t 1), []⟩,
  ⟨9, none, none, none, .store 1 (.t 10) (.t 8), []⟩]
def r29n2 : List Step := [
  ⟨(some 11), none, .load (some 5) (.t 1)⟩,
  ⟨none, none, .store 5 (.t 2) (.t 11)⟩]
def f29 : IFunc := ⟨12, [.cell 2 (some 5)], (.seq (.region r29n0) (.seq (.draw 0 r29n1) (.seq (.region r29n2) .ret)))⟩

def r30n0 : List Step := [
  ⟨(some 2), none, .box (.t 0)⟩,
  ⟨(some 4), none, .mv (.c .nilSlice)⟩]
def r30n1 : List Step := [
  ⟨(some 5), none, .mv (.c .nilSlice)⟩]
def r30n2 : List Step := [
  ⟨(some 8), none, .fieldAddr 3 (.t 2)⟩,
  ⟨(some 9), none, .load none (.t 8)⟩,
  ⟨(some 10), none, .lenSlice (.t 9)⟩,
  ⟨(some 11), none, .mv (.c (.int .i64 0))⟩]
def r30n3 : List Step := [
  ⟨(some 12), none, .scal (bo (.binOp .lss 3 (.tmp 11) (.tmp 10) 3) 0)⟩]
def r30n4 : List Step := [
  ⟨(some 13), none, .mv (.t 11)⟩,
  ⟨(some 14), none, .indexAddr 1 (.t 9) (.t 11)⟩,
  ⟨(some 15), none, .load none (.t 14)⟩,
  ⟨(some 6), none, .mv (.t 13)⟩,
  ⟨(some 7), none, .mv (.t 15)⟩]
def r30n5 : List Step := [
  ⟨(some 16), none, .fieldAddr 4 (.t 2)⟩,
  ⟨(some 17), none, .load none (.t 16)⟩,
  ⟨(some 18), none, .mv (.t 6)⟩,
  ⟨(some 19), none, .indexAddr 1 (.t 17) (.t 18)⟩,
  ⟨(some 20), none, .load none (.t 19)⟩,
  ⟨(some 21), none, .mv (.t 1)⟩,
  ⟨(some 22), none, .scal (bo (.binOp .eql 3 (.tmp 20) (.tmp 21) 3) 4)⟩]
def r30n6 : List Step := [
  ⟨(some 23), none, .mv (.t 5)⟩,
  ⟨(some 24), none, .mv (.t 7)⟩,
  ⟨(some 25), none, .buildSlice 1 1 [(.int .i64 0)] [(0, 1, (.t 24))]⟩,
  ⟨(some 26), none, .append 1 (.t 23) (.t 25)⟩,
  ⟨(some 5), none, .mv (.t 26)⟩]
def c30n7 : ICode := (.seq (.region r30n5) (.cond (.t 22) (.region r30n6) .skip))
def r30n8 : List Step := [
  ⟨(some 27), none, .scal (bo (.binOp .add 3 (.tmp 11) (.const (.int .i64 1)) 3) 3)⟩,
  ⟨(some 11), none, .mv (.t 27)⟩]
def c30n9 : ICode := (.seq (.block 1 (.seq (.region r30n4) c30n7)) (.region r30n8))
def c30n10 : ICode := (.seq (.region r30n3) (.seq (.cond (.t 12) .skip (.exit 0)) c30n9))
def r30n11 : List Step := [
  ⟨(some 28), none, .mv (.t 5)⟩,
  ⟨(some 4), none, .mv (.t 28)⟩]
def c30n12 : ICode := (.seq (.seq (.region r30n2) (.block 0 (.loop c30n10))) (.seq (.region r30n11) .ret))
def f30 : IFunc := ⟨29, [.tmp 4], (.seq (.region r30n0) (.seq (.region r30n1) c30n12))⟩

def r31n0 : List Step := [
  ⟨(some 2), none, .mv (.c (.bool false))⟩]
def r31n1 : List Step := [
  ⟨(some 3), none, .mv (.t 0)⟩,
  ⟨(some 4), none, .scal (bo (.binOp .geq 3 (.tmp 3) (.const (.int .i64 0)) 3) 4)⟩,
  ⟨(some 5), none, .mv (.t 4)⟩,
  ⟨(some 6), (some (5, true)), .mv (.t 0)⟩,
  ⟨(some 7), (some (5, true)), .scal (bo (.binOp .lss 3 (.tmp 6) (.const (.int .i64 4294967296)) 3) 4)⟩,
  ⟨(some 8), none, .pick (.t 5) (.t 7) (.c (.bool false))⟩,
  ⟨(some 2), none, .mv (.t 8)⟩]
def f31 : IFunc := ⟨9, [.tmp 2], (.seq (.region r31n0) (.seq (.region r31n1) .ret))⟩

def r32n0 : List Step := [
  ⟨(some 4), none, .mv (.c (.int .i64 0))⟩,
  ⟨(some 5), none, .mv (.c (.int .i64 0))⟩,
  ⟨(some 6), none, .mv (.c (.bool false))⟩]
def r32n1 : List Step := [
  ⟨(some 10), none, .mv (.t 1)⟩,
  ⟨(some 11), none, .scal (bo (.binOp .lss 3 (.tmp 10) (.const (.int .i64 1)) 3) 4)⟩,
  ⟨(some 12), none, .mv (.t 11)⟩,
  ⟨(some 13), (some (12, false)), .mv (.t 1)⟩,
  ⟨(some 14), (some (12, false)), .scal (bo (.binOp .gtr 3 (.tmp 13) (.const (.int .i64 4294967296)) 3) 4)⟩,
  ⟨(some 15), none, .pick (.t 12) (.c (.bool true)) (.t 14)⟩]
def r32n2 : List Step := [
  ⟨(some 4), none, .mv (.c (.int .i64 0))⟩,
  ⟨(some 5), none, .mv (.c (.int .i64 0))⟩,
  ⟨(some 6), none, .mv (.c (.bool false))⟩]
def r32n3 : List Step := [
  ⟨(some 16), none, .mv (.t 1)⟩,
  ⟨(some 17), none, .scal (bo (.binOp .rem 3 (.const (.int .i64 4294967296)) (.tmp 16) 3) 3)⟩,
  ⟨(some 18), none, .scal (bo (.binOp .sub 3 (.const (.int .i64 4294967296)) (.tmp 17) 3) 3)⟩,
  ⟨(some 7), none, .mv (.t 18)⟩]
def r32n4 : List Step := [
  ⟨(some 19), none, .mv (.t 0)⟩,
  ⟨(some 20), none, .lenSlice (.t 19)⟩,
  ⟨(some 21), none, .mv (.c (.int .i64 0))⟩]
def r32n5 : List Step := [
  ⟨(some 22), none, .scal (bo (.binOp .lss 3 (.tmp 21) (.tmp 20) 3) 0)⟩]
def r32n6 : List Step := [
  ⟨(some 23), none, .mv (.t 21)⟩,
  ⟨(some 24), none, .indexAddr 1 (.t 19) (.t 21)⟩,
  ⟨(some 25), none, .load none (.t 24)⟩,
  ⟨(some 8), none, .mv (.t 23)⟩,
  ⟨(some 9), none, .mv (.t 25)⟩]
def r32n7 : List Step := [
  ⟨(some 27), none, .mv (.t 9)⟩,
  ⟨(some 28), none, .call 31 [(.t 27)]⟩,
  ⟨(some 29), none, .scal (bo (.unOp .not 4 (.tmp 28)) 4)⟩,
  ⟨(some 26), none, .mv (.t 29)⟩]
def r32n8 : List Step := [
  ⟨(some 31), none, .mv (.t 9)⟩,
  ⟨(some 32), none, .mv (.t 7)⟩,
  ⟨(some 33), none, .scal (bo (.binOp .geq 3 (.tmp 31) (.tmp 32) 3) 4)⟩,
  ⟨(some 30), none, .mv (.t 33)⟩]
def c32n9 : ICode := (.cond (.t 26) (.exit 0) (.seq (.region r32n8) (.cond (.t 30) (.exit 1) .skip)))
def r32n10 : List Step := [
  ⟨(some 34), none, .mv (.t 9)⟩,
  ⟨(some 35), none, .mv (.t 1)⟩,
  ⟨(some 36), none, .scal (bo (.binOp .rem 3 (.tmp 34) (.tmp 35) 3) 3)⟩,
  ⟨(some 37), none, .mv (.t 8)⟩,
  ⟨(some 38), none, .scal (bo (.binOp .add 3 (.tmp 37) (.const (.int .i64 1)) 3) 3)⟩,
  ⟨(some 4), none, .mv (.t 36)⟩,
  ⟨(some 5), none, .mv (.t 38)⟩,
  ⟨(some 6), none, .mv (.c (.bool true))⟩]
def c32n11 : ICode := (.seq (.block 2 (.seq (.region r32n7) c32n9)) (.seq (.region r32n10) .ret))
def r32n12 : List Step := [
  ⟨(some 39), none, .scal (bo (.binOp .add 3 (.tmp 21) (.const (.int .i64 1)) 3) 3)⟩,
  ⟨(some 21), none, .mv (.t 39)⟩]
def c32n13 : ICode := (.seq (.block 1 (.seq (.region r32n6) c32n11)) (.region r32n12))
def c32n14 : ICode := (.seq (.region r32n5) (.seq (.cond (.t 22) .skip (.exit 0)) c32n13))
def r32n15 : List Step := [
  ⟨(some 4), none, .mv (.c (.int .i64 0))⟩,
  ⟨(some 5), none, .mv (.c (.int .i64 0))⟩,
  ⟨(some 6), none, .mv (.c (.bool false))⟩]
def c32n16 : ICode := (.seq (.seq (.region r32n4) (.block 0 (.loop c32n14))) (.seq (.region r32n15) .ret))
def c32n17 : ICode := (.seq (.seq (.region r32n1) (.cond (.t 15) (.seq (.region r32n2) .ret) .skip)) (.seq (.region r32n3) (.seq .skip c32n16)))
def f32 : IFunc := ⟨40, [.tmp 4, .tmp 5, .tmp 6], (.seq (.region r32n0) c32n17)⟩

def r33n0 : List Step := [
  ⟨(some 4), none, .mv (.c .nilSlice)⟩,
  ⟨(some 5), none, .mv (.c (.int .i64 0))⟩,
  ⟨(some 6), none, .mv (.c (.bool false))⟩]
def r33n1 : List Step := [
  ⟨(some 13), none, .mv (.t 1)⟩,
  ⟨(some 14), none, .scal (bo (.binOp .lss 3 (.tmp 13) (.const (.int .i64 0)) 3) 4)⟩,
  ⟨(some 15), none, .mv (.t 14)⟩,
  ⟨(some 16), (some (15, false)), .mv (.t 1)⟩,
  ⟨(some 17), (some (15, false)), .scal (bo (.binOp .gtr 3 (.tmp 16) (.const (.int .i64 40)) 3) 4)⟩,
  ⟨(some 18), none, .pick (.t 15) (.c (.bool true)) (.t 17)⟩]
def r33n2 : List Step := [
  ⟨(some 4), none, .mv (.c .nilSlice)⟩,
  ⟨(some 5), none, .mv (.c (.int .i64 0))⟩,
  ⟨(some 6), none, .mv (.c (.bool false))⟩]
def r33n3 : List Step := [
  ⟨(some 19), none, .mv (.t 1)⟩,
  ⟨(some 20), none, .makeSlice 1 [(.int .i64 0)] (.t 19)⟩,
  ⟨(some 7), none, .mv (.t 20)⟩]
def r33n4 : List Step := [
  ⟨(some 8), none, .mv (.c (.int .i64 0))⟩]
def r33n5 : List Step := [
  ⟨(some 21), none, .mv (.t 1)⟩,
  ⟨(some 22), none, .mv (.c (.int .i64 0))⟩]
def r33n6 : List Step := [
  ⟨(some 23), none, .scal (bo (.binOp .lss 3 (.tmp 22) (.tmp 21) 3) 4)⟩]
def r33n7 : List Step := [
  ⟨(some 24), none, .mv (.t 22)⟩,
  ⟨(some 9), none, .mv (.t 24)⟩]
def r33n8 : List Step := [
  ⟨(some 26), none, .mv (.t 0)⟩,
  ⟨(some 27), none, .mv (.t 8)⟩,
  ⟨(some 28), none, .slice 1 (.t 26) (some (.t 27)) none none⟩,
  ⟨(some 29), none, .call 32 [(.t 28), (.c (.int .i64 100))]⟩,
  ⟨(some 25), none, .mv (.t 29)⟩,
  ⟨(some 30), none, .extract 0 (.t 25)⟩,
  ⟨(some 31), none, .extract 1 (.t 25)⟩,
  ⟨(some 32), none, .extract 2 (.t 25)⟩,
  ⟨(some 10), none, .mv (.t 30)⟩,
  ⟨(some 11), none, .mv (.t 31)⟩,
  ⟨(some 12), none, .mv (.t 32)⟩]
def r33n9 : List Step := [
  ⟨(some 33), none, .mv (.t 12)⟩,
  ⟨(some 34), none, .scal (bo (.unOp .not 4 (.tmp 33)) 4)⟩]
def r33n10 : List Step := [
  ⟨(some 4), none, .mv (.c .nilSlice)⟩,
  ⟨(some 5), none, .mv (.c (.int .i64 0))⟩,
  ⟨(some 6), none, .mv (.c (.bool false))⟩]
def r33n11 : List Step := [
  ⟨(some 35), none, .mv (.t 7)⟩,
  ⟨(some 36), none, .mv (.t 9)⟩,
  ⟨(some 37), none, .mv (.t 10)⟩,
  ⟨(some 38), none, .scal (bo (.binOp .add 3 (.tmp 37) (.const (.int .i64 1)) 3) 3)⟩,
  ⟨(some 39), none, .mv (.t 8)⟩,
  ⟨(some 40), none, .mv (.t 11)⟩,
  ⟨(some 41), none, .scal (bo (.binOp .add 3 (.tmp 39) (.tmp 40) 3) 3)⟩,
  ⟨(some 42), none, .indexAddr 1 (.t 35) (.t 36)⟩,
  ⟨none, none, .store 1 (.t 42) (.t 38)⟩,
  ⟨(some 8), none, .mv (.t 41)⟩]
def c33n12 : ICode := (.seq (.seq (.region r33n9) (.cond (.t 34) (.seq (.region r33n10) .ret) .skip)) (.region r33n11))
def r33n13 : List Step := [
  ⟨(some 43), none, .scal (bo (.binOp .add 3 (.tmp 22) (.const (.int .i64 1)) 3) 3)⟩,
  ⟨(some 22), none, .mv (.t 43)⟩]
def c33n14 : ICode := (.seq (.block 1 (.seq (.region r33n7) (.seq (.region r33n8) c33n12))) (.region r33n13))
def c33n15 : ICode := (.seq (.region r33n6) (.seq (.cond (.t 23) .skip (.exit 0)) c33n14))
def r33n16 : List Step := [
  ⟨(some 44), none, .mv (.t 7)⟩,
  ⟨(some 45), none, .mv (.t 8)⟩,
  ⟨(some 4), none, .mv (.t 44)⟩,
  ⟨(some 5), none, .mv (.t 45)⟩,
  ⟨(some 6), none, .mv (.c (.bool true))⟩]
def c33n17 : ICode := (.seq (.seq (.region r33n5) (.block 0 (.loop c33n15))) (.seq (.region r33n16) .ret))
def c33n18 : ICode := (.seq (.seq (.region r33n1) (.cond (.t 18) (.seq (.region r33n2) .ret) .skip)) (.seq (.region r33n3) (.seq (.region r33n4) c33n17)))
def f33 : IFunc := ⟨46, [.tmp 4, .tmp 5, .tmp 6], (.seq (.region r33n0) c33n18)⟩

def r34n0 : List Step := [
  ⟨(some 2), none, .mv (.c (.int .i64 0))⟩]
def r34n1 : List Step := [
  ⟨(some 5), none, .mv (.t 0)⟩,
  ⟨(some 6), none, .lenSlice (.t 5)⟩,
  ⟨(some 7), none, .scal (bo (.binOp .lss 3 (.tmp 6) (.const (.int .i64 1)) 3) 4)⟩]
def r34n2 : List Step := [
  ⟨(some 8), none, .never⟩,
  ⟨none, none, .never⟩]
def r34n3 : List Step := [
  ⟨(some 9), none, .mv (.t 0)⟩,
  ⟨(some 10), none, .indexAddr 1 (.t 9) (.c (.int .i64 0))⟩,
  ⟨(some 11), none, .load none (.t 10)⟩,
  ⟨(some 3), none, .mv (.t 11)⟩]
def r34n4 : List Step := [
  ⟨(some 4), none, .mv (.c (.int .i64 1))⟩]
def r34n5 : List Step := [
  ⟨(some 12), none, .mv (.t 4)⟩,
  ⟨(some 13), none, .mv (.t 0)⟩,
  ⟨(some 14), none, .lenSlice (.t 13)⟩,
  ⟨(some 15), none, .scal (bo (.binOp .lss 3 (.tmp 12) (.tmp 14) 3) 4)⟩]
def r34n6 : List Step := [
  ⟨(some 18), none, .mv (.t 3)⟩,
  ⟨(some 19), none, .mv (.t 0)⟩,
  ⟨(some 20), none, .mv (.t 4)⟩,
  ⟨(some 21), none, .indexAddr 1 (.t 19) (.t 20)⟩,
  ⟨(some 22), none, .load none (.t 21)⟩,
  ⟨(some 23), none, .scal (bo (.call ⟨.builtin .max, #[(.tmp 18), (.tmp 22)], #[3, 3]⟩) 3)⟩,
  ⟨(some 3), none, .mv (.t 23)⟩]
def r34n7 : List Step := [
  ⟨(some 16), none, .mv (.t 4)⟩,
  ⟨(some 17), none, .scal (bo (.binOp .add 3 (.tmp 16) (.const (.int .i64 1)) 3) 3)⟩,
  ⟨(some 4), none, .mv (.t 17)⟩]
def c34n8 : ICode := (.seq (.seq (.region r34n5) (.cond (.t 15) .skip (.exit 0))) (.seq (.block 1 (.region r34n6)) (.region r34n7)))
def r34n9 : List Step := [
  ⟨(some 24), none, .mv (.t 3)⟩,
  ⟨(some 2), none, .mv (.t 24)⟩]
def c34n10 : ICode := (.seq (.seq (.region r34n4) (.block 0 (.loop c34n8))) (.seq (.region r34n9) .ret))
def c34n11 : ICode := (.seq (.seq (.region r34n1) (.cond (.t 7) (.region r34n2) .skip)) (.seq (.region r34n3) c34n10))
def f34 : IFunc := ⟨25, [.tmp 2], (.seq (.region r34n0) c34n11)⟩


def fsL : List Nat := [3, 6, 7, 8, 9, 10, 11, 12, 13, 14, 25, 26, 27, 29, 30, 31, 32, 33]
theorem fineL : fsL.all (fineFunc Tryz.prog) = true := by kernel_rfl
def fs : List Nat := fsL ++ (fs0 ++ fs1 ++ fs2 ++ fs3)
theorem fine : fs.all (fineFunc Tryz.prog) = true := fine_append fineL (fine_append (fine_append (fine_append fine0 fine1) fine2) fine3)
def memo : Memo := [(5, [], .bool true)]
noncomputable def M : Mach := ⟨Tryz.prog, cOf Tryz.prog fs, memo⟩
theorem code3 : (M.code 3).map IFunc.er = some f3 := by kernel_rfl
theorem code6 : (M.code 6).map IFunc.er = some f6 := by kernel_rfl
theorem code7 : (M.code 7).map IFunc.er = some f7 := by kernel_rfl
theorem code8 : (M.code 8).map IFunc.er = some f8 := by kernel_rfl
theorem code9 : (M.code 9).map IFunc.er = some f9 := by kernel_rfl
theorem code10 : (M.code 10).map IFunc.er = some f10 := by kernel_rfl
theorem code11 : (M.code 11).map IFunc.er = some f11 := by kernel_rfl
theorem code12 : (M.code 12).map IFunc.er = some f12 := by kernel_rfl
theorem code13 : (M.code 13).map IFunc.er = some f13 := by kernel_rfl
theorem code14 : (M.code 14).map IFunc.er = some f14 := by kernel_rfl
theorem code25 : (M.code 25).map IFunc.er = some f25 := by kernel_rfl
theorem code26 : (M.code 26).map IFunc.er = some f26 := by kernel_rfl
theorem code27 : (M.code 27).map IFunc.er = some f27 := by kernel_rfl
theorem code28 : (M.code 28).map IFunc.er = some f28 := by kernel_rfl
theorem code29 : (M.code 29).map IFunc.er = some f29 := by kernel_rfl
theorem code30 : (M.code 30).map IFunc.er = some f30 := by kernel_rfl
theorem code31 : (M.code 31).map IFunc.er = some f31 := by kernel_rfl
theorem code32 : (M.code 32).map IFunc.er = some f32 := by kernel_rfl
theorem code33 : (M.code 33).map IFunc.er = some f33 := by kernel_rfl
theorem code34 : (M.code 34).map IFunc.er = some f34 := by kernel_rfl
end Go.Ideal.T
