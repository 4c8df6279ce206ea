/- Functions, their code in short (printed by a program of mine). -/
import Derived.Test.YtgalmibnlkbdiaaGreatDoorSnIndex
set_option maxRecDepth 1000000
namespace Go.Cm
open Go Go.RowKit Go.Proofs
def c80 : MC :=
  (.seq
   (.reg [
     .op (some 4) (.mv (.const (.string ⟨⟨[]⟩⟩))),
     .op (some 5) (.mv (.const (.string ⟨⟨[]⟩⟩))),
     .op (some 6) (.mv (.const (.bool false)))])
  (.seq
   (.reg [
     .op (some 7) (.mv (.tmp 0)),
     .op (some 8) (.mv (.tmp 1)),
     .op (some 9) (.call (.func 125) [(.tmp 7), (.tmp 8)]),
     .op (some 10) (.ext (.tmp 9) 0),
     .op (some 11) (.ext (.tmp 9) 1),
     .op (some 12) (.ext (.tmp 9) 2),
     .op (some 4) (.mv (.tmp 10)),
     .op (some 5) (.mv (.tmp 11)),
     .op (some 6) (.mv (.tmp 12))])
  .ret))
theorem s80 : FnOK Tryz.prog 80 13 [ResultVar.tmp 4, ResultVar.tmp 5, ResultVar.tmp 6] c80 :=
  .mk' [] Tryz.func80 (by kernel_rfl) (by kernel_rfl) (by kernel_rfl)
def c81 : MC :=
  (.seq
   (.reg [
     .op (some 4) (.alloc [.int .i64 0, .int .i64 0] 38),
     .op (some 5) (.mv (.const (.int .i64 0)))])
  (.seq
   (.reg [
     .op (some 17) (.mv (.tmp 1)),
     .op (some 18) (.build [.str [], .bool false] [(0, 1, (.tmp 17))]),
     .op (some 19) (.box 211 (.tmp 18)),
     .op (some 6) (.mv (.tmp 19))])
  (.seq
   (.reg [
     .op (some 7) (.mv (.const (.int .i64 1000))),
     .op (some 8) (.mv (.const (.string ⟨⟨[44]⟩⟩))),
     .op (some 9) (.mv (.const (.int .i64 3)))])
  (.seq
   (.reg [
     .op (some 10) (.mv (.const (.int .i64 0)))])
  (.seq
   (.seq
    (.reg [
      .op (some 20) (.mv (.tmp 0))])
   (.block 0
    (.seq
     (.seq
      (.reg [
        .op (some 23) (.bin .eql (.tmp 20) (.const (.int .i64 1))),
        .op (some 22) (.mv (.tmp 23))])
     (.cond (.tmp 22)
      .skip
      (.reg [
        .op (some 24) (.bin .eql (.tmp 20) (.const (.int .i64 2))),
        .op (some 22) (.mv (.tmp 24))])))
    (.cond (.tmp 22)
     (.seq
      (.seq
       (.reg [
         .op (some 25) (.mv (.tmp 0)),
         .op (some 26) (.bin .eql (.tmp 25) (.const (.int .i64 2)))])
      (.cond (.tmp 26)
       (.reg [
         .op (some 8) (.mv (.const (.string ⟨⟨[46]⟩⟩)))])
       .skip))
     (.seq
      (.seq
       (.reg [
         .op (some 27) (.mv (.tmp 0)),
         .op (some 28) (.bin .eql (.tmp 27) (.const (.int .i64 2))),
         .op (some 29) (.mv (.tmp 28)),
         .gd (some 29) true (some 30) (.mv (.tmp 1)),
         .gd (some 29) true (some 31) (.call (.func 126) [(.tmp 30), (.const (.string ⟨⟨[58]⟩⟩))]),
         .gd (some 29) true (some 32) (.bin .eql (.tmp 31) (.const (.int .i64 1))),
         .op (some 33) (.pick (.tmp 29) (.tmp 32) (.const (.bool false)))])
      (.cond (.tmp 33)
       (.exit 0)
       .skip))
     (.seq
      (.reg [
        .op (some 34) (.mv (.tmp 6)),
        .op (some 35) (.call (.func 127) [(.tmp 34), (.const (.int .i64 2))]),
        .op (some 10) (.mv (.tmp 35))])
     (.reg [
       .op (some 36) (.mv (.tmp 6)),
       .op (some 37) (.call (.func 128) [(.tmp 36), (.const (.string ⟨⟨[58]⟩⟩))])]))))
     (.seq
      (.reg [
        .op (some 39) (.bin .eql (.tmp 20) (.const (.int .i64 4))),
        .op (some 38) (.mv (.tmp 39))])
     (.cond (.tmp 38)
      (.seq
       (.reg [
         .op (some 7) (.mv (.const (.int .i64 100))),
         .op (some 8) (.mv (.const (.string ⟨⟨[46]⟩⟩))),
         .op (some 9) (.mv (.const (.int .i64 2)))])
      (.seq
       (.reg [
         .op (some 40) (.mv (.tmp 6)),
         .op (some 41) (.call (.func 127) [(.tmp 40), (.const (.int .i64 1))]),
         .op (some 10) (.mv (.tmp 41))])
      (.reg [
        .op (some 42) (.mv (.tmp 6)),
        .op (some 43) (.call (.func 128) [(.tmp 42), (.const (.string ⟨⟨[58]⟩⟩))])])))
      (.seq
       (.reg [
         .op (some 21) (.build [.int .i64 0, .int .i64 0] []),
         .op none (.store 2 (.tmp 4) (.tmp 21)),
         .op (some 5) (.mv (.const (.int .i64 5)))])
      .ret)))))))
  (.seq
   (.reg [
     .op (some 44) (.mv (.tmp 6)),
     .op (some 45) (.call (.func 129) [(.tmp 44), (.const (.int .i64 2)), (.const (.int .i64 60))]),
     .op (some 11) (.mv (.tmp 45))])
  (.seq
   (.reg [
     .op (some 46) (.mv (.tmp 6)),
     .op (some 47) (.call (.func 128) [(.tmp 46), (.const (.string ⟨⟨[58]⟩⟩))])])
  (.seq
   (.reg [
     .op (some 48) (.mv (.tmp 6)),
     .op (some 49) (.call (.func 129) [(.tmp 48), (.const (.int .i64 2)), (.const (.int .i64 60))]),
     .op (some 12) (.mv (.tmp 49))])
  (.seq
   (.reg [
     .op (some 50) (.mv (.tmp 6)),
     .op (some 51) (.mv (.tmp 8)),
     .op (some 52) (.call (.func 128) [(.tmp 50), (.tmp 51)])])
  (.seq
   (.reg [
     .op (some 53) (.mv (.tmp 6)),
     .op (some 54) (.mv (.tmp 9)),
     .op (some 55) (.call (.func 130) [(.tmp 53), (.tmp 54)]),
     .op (some 13) (.mv (.tmp 55))])
  (.seq
   (.seq
    (.reg [
      .op (some 56) (.mv (.tmp 6)),
      .op (some 57) (.nilck (.tmp 56)),
      .op (some 58) (.faddr 1 (.tmp 57)),
      .op (some 59) (.load false 1 (.tmp 58)),
      .op (some 60) (.mv (.tmp 59)),
      .gd (some 60) false (some 61) (.mv (.tmp 6)),
      .gd (some 60) false (some 62) (.nilck (.tmp 61)),
      .gd (some 60) false (some 63) (.faddr 0 (.tmp 62)),
      .gd (some 60) false (some 64) (.load false 1 (.tmp 63)),
      .gd (some 60) false (some 65) (.bin .neq (.tmp 64) (.const (.string ⟨⟨[]⟩⟩))),
      .op (some 66) (.pick (.tmp 60) (.const (.bool true)) (.tmp 65))])
   (.cond (.tmp 66)
    (.seq
     (.reg [
       .op (some 67) (.build [.int .i64 0, .int .i64 0] []),
       .op none (.store 2 (.tmp 4) (.tmp 67)),
       .op (some 5) (.mv (.const (.int .i64 13)))])
    .ret)
    .skip))
  (.seq
   (.reg [
     .op (some 69) (.mv (.tmp 10)),
     .op (some 70) (.bin .mul (.tmp 69) (.const (.int .i64 3600))),
     .op (some 71) (.mv (.tmp 11)),
     .op (some 72) (.bin .mul (.tmp 71) (.const (.int .i64 60))),
     .op (some 73) (.bin .add (.tmp 70) (.tmp 72)),
     .op (some 74) (.mv (.tmp 12)),
     .op (some 75) (.bin .add (.tmp 73) (.tmp 74)),
     .op (some 76) (.mv (.tmp 7)),
     .op (some 77) (.bin .mul (.tmp 75) (.tmp 76)),
     .op (some 78) (.mv (.tmp 13)),
     .op (some 79) (.bin .add (.tmp 77) (.tmp 78)),
     .op (some 80) (.mv (.tmp 7)),
     .op (some 81) (.call (.func 93) [(.tmp 79), (.tmp 80)]),
     .op (some 68) (.mv (.tmp 81)),
     .op (some 82) (.ext (.tmp 68) 0),
     .op (some 83) (.ext (.tmp 68) 1),
     .op (some 14) (.alloc [.int .i64 0, .int .i64 0] 38),
     .op none (.store 2 (.tmp 14) (.tmp 82)),
     .op (some 15) (.mv (.tmp 83))])
  (.seq
   (.seq
    (.reg [
      .op (some 84) (.load true 2 (.tmp 14)),
      .op (some 85) (.call (.func 25) [(.tmp 84)]),
      .op (some 16) (.mv (.tmp 85))])
   (.seq
    (.reg [
      .op (some 86) (.mv (.tmp 16)),
      .op (some 87) (.bin .neq (.tmp 86) (.const (.int .i64 0)))])
   (.cond (.tmp 87)
    (.seq
     (.reg [
       .op (some 88) (.build [.int .i64 0, .int .i64 0] []),
       .op (some 89) (.mv (.tmp 16)),
       .op none (.store 2 (.tmp 4) (.tmp 88)),
       .op (some 5) (.mv (.tmp 89))])
    .ret)
    .skip)))
  (.seq
   (.reg [
     .op (some 90) (.load true 2 (.tmp 14)),
     .op none (.store 2 (.tmp 4) (.tmp 90)),
     .op (some 5) (.mv (.const (.int .i64 0)))])
  .ret))))))))))))))
theorem s81 : FnOK Tryz.prog 81 91 [ResultVar.cell 4 38, ResultVar.tmp 5] c81 :=
  .mk' [] Tryz.func81 (by kernel_rfl) (by kernel_rfl) (by kernel_rfl)
def c84 : MC :=
  (.seq
   (.reg [
     .op (some 4) (.mv (.const (.int .i64 0)))])
  (.seq
   (.reg [
     .op (some 16) (.mv (.tmp 0)),
     .op (some 17) (.nilck (.tmp 16)),
     .op (some 18) (.faddr 0 (.tmp 17)),
     .op (some 19) (.load false 1 (.tmp 18)),
     .op (some 20) (.bin .eql (.tmp 19) (.const (.int .i64 2))),
     .op (some 5) (.mv (.tmp 20))])
  (.seq
   (.reg [
     .op (some 21) (.sstr (.const (.string ⟨⟨[32, 98, 105, 117, 115]⟩⟩)) (some (.const (.int .i64 1))) none),
     .op (some 6) (.mv (.tmp 21))])
  (.seq
   (.seq
    (.reg [
      .op (some 22) (.mv (.tmp 5))])
   (.cond (.tmp 22)
    (.reg [
      .op (some 23) (.sstr (.const (.string ⟨⟨[32, 98, 105, 117, 115]⟩⟩)) (some (.const (.int .i64 1))) (some (.const (.int .i64 4)))),
      .op (some 6) (.mv (.tmp 23))])
    .skip))
  (.seq
   (.seq
    (.reg [
      .op (some 24) (.mv (.tmp 1)),
      .op (some 25) (.lenstr (.tmp 24)),
      .op (some 26) (.bin .geq (.tmp 25) (.const (.int .i64 3))),
      .op (some 27) (.mv (.tmp 26)),
      .gd (some 27) true (some 28) (.mv (.tmp 1)),
      .gd (some 27) true (some 29) (.ixs (.tmp 28) (.const (.int .i64 2))),
      .gd (some 27) true (some 30) (.bin .eql (.tmp 29) (.const (.int .u8 62))),
      .op (some 31) (.pick (.tmp 27) (.tmp 30) (.const (.bool false))),
      .op (some 32) (.mv (.tmp 31)),
      .gd (some 32) true (some 33) (.mv (.tmp 6)),
      .gd (some 32) true (some 34) (.mv (.tmp 1)),
      .gd (some 32) true (some 35) (.ixs (.tmp 34) (.const (.int .i64 1))),
      .gd (some 32) true (some 36) (.call (.func 120) [(.tmp 33), (.tmp 35)]),
      .gd (some 32) true (some 37) (.bin .geq (.tmp 36) (.const (.int .i64 0))),
      .op (some 38) (.pick (.tmp 32) (.tmp 37) (.const (.bool false))),
      .op (some 39) (.mv (.tmp 38)),
      .gd (some 39) true (some 40) (.mv (.tmp 0)),
      .gd (some 39) true (some 41) (.call (.func 132) [(.tmp 40), (.const (.int .i64 3))]),
      .op (some 42) (.pick (.tmp 39) (.tmp 41) (.const (.bool false)))])
   (.cond (.tmp 42)
    (.seq
     (.reg [
       .op (some 43) (.mv (.tmp 0)),
       .op (some 44) (.mv (.tmp 1)),
       .op (some 45) (.ixs (.tmp 44) (.const (.int .i64 1))),
       .op (some 47) (.nilck (.tmp 43)),
       .op (some 48) (.faddr 5 (.tmp 47)),
       .op (some 52) (.nilck (.tmp 43)),
       .op (some 53) (.faddr 5 (.tmp 52)),
       .op (some 46) (.call (.func 120) [(.const (.string ⟨⟨[32, 98, 105, 117, 115]⟩⟩)), (.tmp 45)]),
       .op (some 49) (.iaa 5 1 (.tmp 48) (.tmp 46)),
       .op (some 50) (.load false 1 (.tmp 49)),
       .op (some 51) (.bin .add (.tmp 50) (.const (.int .i64 1))),
       .op (some 54) (.iaa 5 1 (.tmp 53) (.tmp 46)),
       .op none (.store 1 (.tmp 54) (.tmp 51))])
    (.seq
     (.reg [
       .op (some 4) (.mv (.const (.int .i64 3)))])
    .ret))
    .skip))
  (.seq
   (.seq
    (.reg [
      .op (some 55) (.mv (.tmp 1)),
      .op (some 56) (.lenstr (.tmp 55)),
      .op (some 57) (.bin .geq (.tmp 56) (.const (.int .i64 4))),
      .op (some 58) (.mv (.tmp 57)),
      .gd (some 58) true (some 59) (.mv (.tmp 1)),
      .gd (some 58) true (some 60) (.ixs (.tmp 59) (.const (.int .i64 1))),
      .gd (some 58) true (some 61) (.bin .eql (.tmp 60) (.const (.int .u8 47))),
      .op (some 62) (.pick (.tmp 58) (.tmp 61) (.const (.bool false))),
      .op (some 63) (.mv (.tmp 62)),
      .gd (some 63) true (some 64) (.mv (.tmp 1)),
      .gd (some 63) true (some 65) (.ixs (.tmp 64) (.const (.int .i64 3))),
      .gd (some 63) true (some 66) (.bin .eql (.tmp 65) (.const (.int .u8 62))),
      .op (some 67) (.pick (.tmp 63) (.tmp 66) (.const (.bool false))),
      .op (some 68) (.mv (.tmp 67)),
      .gd (some 68) true (some 69) (.mv (.tmp 6)),
      .gd (some 68) true (some 70) (.mv (.tmp 1)),
      .gd (some 68) true (some 71) (.ixs (.tmp 70) (.const (.int .i64 2))),
      .gd (some 68) true (some 72) (.call (.func 120) [(.tmp 69), (.tmp 71)]),
      .gd (some 68) true (some 73) (.bin .geq (.tmp 72) (.const (.int .i64 0))),
      .op (some 74) (.pick (.tmp 68) (.tmp 73) (.const (.bool false)))])
   (.cond (.tmp 74)
    (.seq
     (.seq
      (.reg [
        .op (some 75) (.mv (.tmp 1)),
        .op (some 76) (.ixs (.tmp 75) (.const (.int .i64 2))),
        .op (some 77) (.call (.func 120) [(.const (.string ⟨⟨[32, 98, 105, 117, 115]⟩⟩)), (.tmp 76)]),
        .op (some 7) (.mv (.tmp 77))])
     (.seq
      (.reg [
        .op (some 78) (.mv (.tmp 0)),
        .op (some 79) (.mv (.tmp 7)),
        .op (some 80) (.nilck (.tmp 78)),
        .op (some 81) (.faddr 5 (.tmp 80)),
        .op (some 82) (.iaa 5 1 (.tmp 81) (.tmp 79)),
        .op (some 83) (.load false 1 (.tmp 82)),
        .op (some 84) (.bin .gtr (.tmp 83) (.const (.int .i64 0))),
        .op (some 85) (.mv (.tmp 84)),
        .gd (some 85) true (some 86) (.mv (.tmp 0)),
        .gd (some 85) true (some 87) (.call (.func 132) [(.tmp 86), (.const (.int .i64 4))]),
        .op (some 88) (.pick (.tmp 85) (.tmp 87) (.const (.bool false)))])
     (.cond (.tmp 88)
      (.seq
       (.reg [
         .op (some 89) (.mv (.tmp 0)),
         .op (some 90) (.mv (.tmp 7)),
         .op (some 91) (.nilck (.tmp 89)),
         .op (some 92) (.faddr 5 (.tmp 91)),
         .op (some 93) (.iaa 5 1 (.tmp 92) (.tmp 90)),
         .op (some 94) (.load false 1 (.tmp 93)),
         .op (some 95) (.bin .sub (.tmp 94) (.const (.int .i64 1))),
         .op (some 96) (.nilck (.tmp 89)),
         .op (some 97) (.faddr 5 (.tmp 96)),
         .op (some 98) (.iaa 5 1 (.tmp 97) (.tmp 90)),
         .op none (.store 1 (.tmp 98) (.tmp 95))])
      (.seq
       (.reg [
         .op (some 4) (.mv (.const (.int .i64 4)))])
      .ret))
      .skip)))
    (.seq
     (.reg [
       .op (some 4) (.mv (.const (.int .i64 0)))])
    .ret))
    .skip))
  (.seq
   (.reg [
     .op (some 8) (.mv (.const (.string ⟨⟨[60, 102, 111, 110, 116, 32, 99, 111, 108, 111, 114, 61, 34, 35]⟩⟩))),
     .op (some 9) (.mv (.const (.string ⟨⟨[34, 62]⟩⟩))),
     .op (some 10) (.mv (.const (.string ⟨⟨[60, 47, 102, 111, 110, 116, 62]⟩⟩)))])
  (.seq
   (.seq
    (.reg [
      .op (some 99) (.mv (.tmp 5))])
   (.cond (.tmp 99)
    (.reg [
      .op (some 8) (.mv (.const (.string ⟨⟨[60, 99, 46]⟩⟩))),
      .op (some 9) (.mv (.const (.string ⟨⟨[62]⟩⟩))),
      .op (some 10) (.mv (.const (.string ⟨⟨[60, 47, 99, 62]⟩⟩)))])
    .skip))
  (.seq
   (.seq
    (.reg [
      .op (some 101) (.mv (.tmp 1)),
      .op (some 102) (.mv (.tmp 8)),
      .op (some 103) (.call (.func 131) [(.tmp 101), (.tmp 102)]),
      .op (some 100) (.mv (.tmp 103)),
      .op (some 104) (.ext (.tmp 100) 0),
      .op (some 105) (.ext (.tmp 100) 1),
      .op (some 11) (.mv (.tmp 104)),
      .op (some 12) (.mv (.tmp 105))])
   (.seq
    (.reg [
      .op (some 106) (.mv (.tmp 12))])
   (.cond (.tmp 106)
    (.seq
     (.reg [
       .op (some 108) (.mv (.tmp 11)),
       .op (some 109) (.call (.func 133) [(.tmp 108), (.const (.bool false))]),
       .op (some 107) (.mv (.tmp 109)),
       .op (some 110) (.ext (.tmp 107) 0),
       .op (some 111) (.ext (.tmp 107) 1),
       .op (some 13) (.mv (.tmp 110)),
       .op (some 14) (.mv (.tmp 111))])
    (.seq
     (.reg [
       .op (some 112) (.mv (.tmp 8)),
       .op (some 113) (.lenstr (.tmp 112)),
       .op (some 114) (.bin .add (.tmp 113) (.const (.int .i64 6))),
       .op (some 115) (.mv (.tmp 9)),
       .op (some 116) (.lenstr (.tmp 115)),
       .op (some 117) (.bin .add (.tmp 114) (.tmp 116)),
       .op (some 15) (.mv (.tmp 117))])
    (.seq
     (.seq
      (.reg [
        .op (some 118) (.mv (.tmp 14)),
        .op (some 119) (.mv (.tmp 118)),
        .gd (some 119) true (some 120) (.mv (.tmp 11)),
        .gd (some 119) true (some 121) (.sstr (.tmp 120) (some (.const (.int .i64 6))) none),
        .gd (some 119) true (some 122) (.mv (.tmp 9)),
        .gd (some 119) true (some 123) (.call (.func 88) [(.tmp 121), (.tmp 122)]),
        .op (some 124) (.pick (.tmp 119) (.tmp 123) (.const (.bool false))),
        .op (some 125) (.mv (.tmp 124)),
        .gd (some 125) true (some 126) (.mv (.tmp 0)),
        .gd (some 125) true (some 127) (.mv (.tmp 15)),
        .gd (some 125) true (some 128) (.call (.func 132) [(.tmp 126), (.tmp 127)]),
        .op (some 129) (.pick (.tmp 125) (.tmp 128) (.const (.bool false)))])
     (.cond (.tmp 129)
      (.seq
       (.reg [
         .op (some 130) (.mv (.tmp 0)),
         .op (some 131) (.mv (.tmp 0)),
         .op (some 132) (.nilck (.tmp 131)),
         .op (some 133) (.faddr 10 (.tmp 132)),
         .op (some 134) (.load false 1 (.tmp 133)),
         .op (some 135) (.mv (.tmp 13)),
         .op (some 136) (.bslice 3 1 [.int .i64 0] [(0, 1, (.tmp 135))]),
         .op (some 137) (.app 3 1 8 (.tmp 134) (.tmp 136)),
         .op (some 138) (.nilck (.tmp 130)),
         .op (some 139) (.faddr 10 (.tmp 138)),
         .op none (.store 1 (.tmp 139) (.tmp 137))])
      (.seq
       (.reg [
         .op (some 140) (.mv (.tmp 15)),
         .op (some 4) (.mv (.tmp 140))])
      .ret))
      .skip))
    (.seq
     (.reg [
       .op (some 4) (.mv (.const (.int .i64 0)))])
    .ret))))
    .skip)))
  (.seq
   (.seq
    (.reg [
      .op (some 141) (.mv (.tmp 1)),
      .op (some 142) (.mv (.tmp 10)),
      .op (some 143) (.call (.func 88) [(.tmp 141), (.tmp 142)]),
      .op (some 144) (.mv (.tmp 143)),
      .gd (some 144) true (some 145) (.mv (.tmp 0)),
      .gd (some 144) true (some 146) (.nilck (.tmp 145)),
      .gd (some 144) true (some 147) (.faddr 10 (.tmp 146)),
      .gd (some 144) true (some 148) (.load false 1 (.tmp 147)),
      .gd (some 144) true (some 149) (.lensl (.tmp 148)),
      .gd (some 144) true (some 150) (.bin .gtr (.tmp 149) (.const (.int .i64 0))),
      .op (some 151) (.pick (.tmp 144) (.tmp 150) (.const (.bool false))),
      .op (some 152) (.mv (.tmp 151)),
      .gd (some 152) true (some 153) (.mv (.tmp 0)),
      .gd (some 152) true (some 154) (.mv (.tmp 10)),
      .gd (some 152) true (some 155) (.lenstr (.tmp 154)),
      .gd (some 152) true (some 156) (.call (.func 132) [(.tmp 153), (.tmp 155)]),
      .op (some 157) (.pick (.tmp 152) (.tmp 156) (.const (.bool false)))])
   (.cond (.tmp 157)
    (.seq
     (.reg [
       .op (some 158) (.mv (.tmp 0)),
       .op (some 159) (.mv (.tmp 0)),
       .op (some 160) (.nilck (.tmp 159)),
       .op (some 161) (.faddr 10 (.tmp 160)),
       .op (some 162) (.load false 1 (.tmp 161)),
       .op (some 163) (.mv (.tmp 0)),
       .op (some 164) (.nilck (.tmp 163)),
       .op (some 165) (.faddr 10 (.tmp 164)),
       .op (some 166) (.load false 1 (.tmp 165)),
       .op (some 167) (.lensl (.tmp 166)),
       .op (some 168) (.bin .sub (.tmp 167) (.const (.int .i64 1))),
       .op (some 169) (.ssl 3 1 (.tmp 162) none (some (.tmp 168)) none),
       .op (some 170) (.nilck (.tmp 158)),
       .op (some 171) (.faddr 10 (.tmp 170)),
       .op none (.store 1 (.tmp 171) (.tmp 169))])
    (.seq
     (.reg [
       .op (some 172) (.mv (.tmp 10)),
       .op (some 173) (.lenstr (.tmp 172)),
       .op (some 4) (.mv (.tmp 173))])
    .ret))
    .skip))
  (.seq
   (.reg [
     .op (some 4) (.mv (.const (.int .i64 0)))])
  .ret)))))))))))
theorem s84 : FnOK Tryz.prog 84 174 [ResultVar.tmp 4] c84 :=
  .mk' [(6, [], [(0, []), (1, []), (2, []), (4, []), (5, []), (9, []), (10, []), (3, []), (6, []), (7, []), (8, []), (11, []), (12, [])]), (11, [], [(0, []), (1, []), (2, []), (3, []), (4, []), (5, []), (6, []), (7, []), (8, []), (9, []), (10, [])]), (26, [], [(0, []), (1, []), (2, []), (3, []), (4, []), (5, []), (6, []), (7, []), (8, []), (9, []), (10, []), (11, []), (12, []), (13, []), (14, [])])] Tryz.func84 (by kernel_rfl) (by kernel_rfl) (by kernel_rfl)
def c86 : MC :=
  (.seq
   (.reg [
     .op (some 4) (.mv (.tmp 0)),
     .op (some 5) (.mv (.tmp 0)),
     .op (some 6) (.nilck (.tmp 5)),
     .op (some 7) (.faddr 4 (.tmp 6)),
     .op (some 8) (.load false 1 (.tmp 7)),
     .op (some 9) (.mv (.tmp 1)),
     .op (some 10) (.mv (.tmp 0)),
     .op (some 11) (.call (.func 134) [(.tmp 10)]),
     .ck false none (some 8) (.load false 1 (.tmp 7)),
     .op (some 12) (.build [.str [], .bool false, .bool false, .bool false, .bool false, .int .i64 0] [(0, 1, (.tmp 9)), (1, 5, (.tmp 11))]),
     .op (some 13) (.bslice 124 1 [.str [], .bool false, .bool false, .bool false, .bool false, .int .i64 0] [(0, 6, (.tmp 12))]),
     .ck false none (some 8) (.load false 1 (.tmp 7)),
     .op (some 14) (.app 124 6 32 (.tmp 8) (.tmp 13)),
     .op (some 15) (.nilck (.tmp 4)),
     .op (some 16) (.faddr 4 (.tmp 15)),
     .op none (.store 1 (.tmp 16) (.tmp 14))])
  (.reg [
    .op (some 17) (.mv (.tmp 0)),
    .op (some 18) (.mv (.tmp 0)),
    .op (some 19) (.nilck (.tmp 18)),
    .op (some 20) (.faddr 3 (.tmp 19)),
    .op (some 21) (.load false 1 (.tmp 20)),
    .op (some 22) (.mv (.tmp 1)),
    .op (some 23) (.app 5 1 1 (.tmp 21) (.tmp 22)),
    .op (some 24) (.nilck (.tmp 17)),
    .op (some 25) (.faddr 3 (.tmp 24)),
    .op none (.store 1 (.tmp 25) (.tmp 23))]))
theorem s86 : FnOK Tryz.prog 86 26 [] c86 :=
  .mk' [(0, [], [(0, []), (1, []), (2, []), (3, []), (4, []), (5, []), (6, []), (7, [4]), (8, []), (9, [4]), (10, []), (11, []), (12, []), (13, [])])] Tryz.func86 (by kernel_rfl) (by kernel_rfl) (by kernel_rfl)
def c88 : MC :=
  (.seq
   (.reg [
     .op (some 4) (.mv (.const (.bool false)))])
  (.seq
   (.reg [
     .op (some 5) (.mv (.tmp 0)),
     .op (some 6) (.mv (.tmp 1)),
     .op (some 7) (.call (.func 124) [(.tmp 5), (.tmp 6)]),
     .op (some 4) (.mv (.tmp 7))])
  .ret))
theorem s88 : FnOK Tryz.prog 88 8 [ResultVar.tmp 4] c88 :=
  .mk' [] Tryz.func88 (by kernel_rfl) (by kernel_rfl) (by kernel_rfl)
def c90 : MC :=
  (.seq
   (.reg [
     .op (some 1) (.box 9 (.tmp 0)),
     .op (some 2) (.alloc [.str []] 9)])
  (.seq
   (.seq
    (.reg [
      .op (some 4) (.load false 1 (.tmp 1)),
      .op (some 5) (.call (.func 115) [(.tmp 4)])])
   (.block 0
    (.range (.tmp 5) [6]
     (.reg [
       .op (some 3) (.alloc [.int .i64 0, .int .i64 0, .int .i32 0, .bool false] 120),
       .op none (.store 4 (.tmp 3) (.tmp 6))])
     (.block 1
      (.seq
       (.reg [
         .op (some 7) (.load false 1 (.tmp 1)),
         .op (some 8) (.faddr 1 (.tmp 3)),
         .op (some 9) (.load false 1 (.tmp 8)),
         .op (some 10) (.sstr (.tmp 7) none (some (.tmp 9))),
         .op none (.store 1 (.tmp 2) (.tmp 10))])
      .ret)))))
  (.seq
   (.reg [
     .op none (.store 1 (.tmp 2) (.const (.string ⟨⟨[]⟩⟩)))])
  .ret)))
theorem s90 : FnOK Tryz.prog 90 11 [ResultVar.cell 2 9] c90 :=
  .mk' [] Tryz.func90 (by kernel_rfl) (by kernel_rfl) (by kernel_rfl)
def c91 : MC :=
  (.seq
   (.reg [
     .op (some 4) (.mv (.tmp 0)),
     .op (some 5) (.call (.func 117) [(.tmp 4)])])
  (.seq
   (.seq
    (.reg [
      .op (some 6) (.mv (.tmp 1)),
      .op (some 7) (.bin .lss (.tmp 6) (.const (.int .i64 0)))])
   (.cond (.tmp 7)
    (.reg [
      .op (some 8) (.ifc 9 (.const (.string ⟨⟨[115, 116, 114, 105, 110, 103, 115, 46, 66, 117, 105, 108, 100, 101, 114, 46, 71, 114, 111, 119, 58, 32, 110, 101, 103, 97, 116, 105, 118, 101, 32, 99, 111, 117, 110, 116]⟩⟩))),
      .op none (.gen (.panic (.tmp 8)))])
    .skip))
  (.seq
   (.reg [
     .op (some 9) (.mv (.tmp 0)),
     .op (some 10) (.nilck (.tmp 9)),
     .op (some 11) (.faddr 1 (.tmp 10)),
     .op (some 12) (.load false 1 (.tmp 11)),
     .op (some 13) (.gen (.call ⟨.builtin .cap, ⟨[(.tmp 12)]⟩, ⟨[33]⟩⟩)),
     .op (some 14) (.mv (.tmp 0)),
     .op (some 15) (.nilck (.tmp 14)),
     .op (some 16) (.faddr 1 (.tmp 15)),
     .op (some 17) (.load false 1 (.tmp 16)),
     .op (some 18) (.lensl (.tmp 17)),
     .op (some 19) (.bin .sub (.tmp 13) (.tmp 18)),
     .op (some 20) (.mv (.tmp 1)),
     .op (some 21) (.bin .lss (.tmp 19) (.tmp 20))])
  (.cond (.tmp 21)
   (.reg [
     .op (some 22) (.mv (.tmp 0)),
     .op (some 23) (.mv (.tmp 1)),
     .op (some 24) (.call (.func 136) [(.tmp 22), (.tmp 23)])])
   .skip))))
theorem s91 : FnOK Tryz.prog 91 25 [] c91 :=
  .mk' [(3, [], [(0, []), (1, []), (2, []), (3, []), (4, []), (5, []), (6, []), (7, []), (8, []), (9, []), (10, []), (11, []), (12, [])])] Tryz.func91 (by kernel_rfl) (by kernel_rfl) (by kernel_rfl)
def c92 : MC :=
  (.seq
   (.reg [
     .op (some 1) (.box 40 (.tmp 0)),
     .op (some 2) (.mv (.const (.int .i64 0)))])
  (.seq
   (.seq
    (.reg [
      .op (some 7) (.faddr 0 (.tmp 1)),
      .op (some 8) (.load true 2 (.tmp 7)),
      .op (some 9) (.faddr 2 (.tmp 1)),
      .op (some 10) (.load true 2 (.tmp 9)),
      .op (some 11) (.bslice 38 2 [.int .i64 0, .int .i64 0, .int .i64 0, .int .i64 0] [(0, 2, (.tmp 8)), (2, 2, (.tmp 10))]),
      .op (some 12) (.lensl (.tmp 11)),
      .op (some 13) (.mv (.const (.int .i64 0)))])
   (.block 0
    (.loop
     (.seq
      (.reg [
        .op (some 14) (.bin .lss (.tmp 13) (.tmp 12))])
     (.seq
      (.cond (.tmp 14)
       .skip
       (.exit 0))
     (.seq
      (.block 1
       (.seq
        (.reg [
          .op (some 15) (.ias 2 (.tmp 11) (.tmp 13)),
          .op (some 16) (.load true 2 (.tmp 15)),
          .op (some 4) (.alloc [.int .i64 0, .int .i64 0] 38),
          .op none (.store 2 (.tmp 4) (.tmp 16))])
       (.seq
        (.reg [
          .op (some 17) (.load true 2 (.tmp 4)),
          .op (some 18) (.call (.func 25) [(.tmp 17)]),
          .op (some 5) (.mv (.tmp 18))])
       (.seq
        (.reg [
          .op (some 19) (.mv (.tmp 5)),
          .op (some 20) (.bin .neq (.tmp 19) (.const (.int .i64 0)))])
       (.cond (.tmp 20)
        (.seq
         (.reg [
           .op (some 21) (.mv (.tmp 5)),
           .op (some 2) (.mv (.tmp 21))])
        .ret)
        .skip)))))
     (.reg [
       .op (some 22) (.bin .add (.tmp 13) (.const (.int .i64 1))),
       .op (some 13) (.mv (.tmp 22))])))))))
  (.seq
   (.block 2
    (.seq
     (.reg [
       .op (some 24) (.faddr 0 (.tmp 1)),
       .op (some 25) (.load true 2 (.tmp 24)),
       .op (some 26) (.faddr 2 (.tmp 1)),
       .op (some 27) (.load true 2 (.tmp 26)),
       .op (some 28) (.call (.func 46) [(.tmp 25), (.tmp 27)]),
       .op (some 29) (.bin .geq (.tmp 28) (.const (.int .i64 0))),
       .op (some 23) (.mv (.tmp 29))])
    (.cond (.tmp 23)
     (.seq
      (.reg [
        .op (some 2) (.mv (.const (.int .i64 32)))])
     .ret)
     (.seq
      (.reg [
        .op (some 31) (.faddr 4 (.tmp 1)),
        .op (some 32) (.load false 1 (.tmp 31)),
        .op (some 33) (.bin .lss (.tmp 32) (.const (.int .i64 0))),
        .op (some 34) (.mv (.tmp 33)),
        .gd (some 34) false (some 35) (.faddr 4 (.tmp 1)),
        .gd (some 34) false (some 36) (.load false 1 (.tmp 35)),
        .gd (some 34) false (some 37) (.bin .geq (.tmp 36) (.const (.int .i64 8))),
        .op (some 38) (.pick (.tmp 34) (.const (.bool true)) (.tmp 37)),
        .op (some 39) (.mv (.tmp 38)),
        .gd (some 39) false (some 40) (.faddr 5 (.tmp 1)),
        .gd (some 39) false (some 41) (.load false 1 (.tmp 40)),
        .gd (some 39) false (some 42) (.bin .neq (.tmp 41) (.const (.int .i64 0))),
        .gd (some 39) false (some 43) (.mv (.tmp 42)),
        .gd (some 43) true (some 44) (.faddr 5 (.tmp 1)),
        .gd (some 43) true (some 45) (.load false 1 (.tmp 44)),
        .gd (some 43) true (some 46) (.bin .neq (.tmp 45) (.const (.int .i64 1))),
        .gd (some 39) false (some 47) (.pick (.tmp 43) (.tmp 46) (.const (.bool false))),
        .op (some 48) (.pick (.tmp 39) (.const (.bool true)) (.tmp 47)),
        .op (some 30) (.mv (.tmp 48))])
     (.cond (.tmp 30)
      (.seq
       (.reg [
         .op (some 2) (.mv (.const (.int .i64 34)))])
      .ret)
      .skip)))))
  (.seq
   (.seq
    (.reg [
      .op (some 49) (.faddr 6 (.tmp 1)),
      .op (some 50) (.load false 1 (.tmp 49)),
      .op (some 51) (.call (.func 137) [(.tmp 50)]),
      .op (some 6) (.mv (.tmp 51))])
   (.seq
    (.reg [
      .op (some 52) (.mv (.tmp 6)),
      .op (some 53) (.bin .neq (.tmp 52) (.const (.int .i64 0)))])
   (.cond (.tmp 53)
    (.seq
     (.reg [
       .op (some 54) (.mv (.tmp 6)),
       .op (some 2) (.mv (.tmp 54))])
    .ret)
    .skip)))
  (.seq
   (.reg [
     .op (some 55) (.faddr 7 (.tmp 1)),
     .op (some 56) (.load true 2 (.tmp 55)),
     .op (some 57) (.call (.func 29) [(.tmp 56)]),
     .op (some 2) (.mv (.tmp 57))])
  .ret)))))
theorem s92 : FnOK Tryz.prog 92 58 [ResultVar.tmp 2] c92 :=
  .mk' [] Tryz.func92 (by kernel_rfl) (by kernel_rfl) (by kernel_rfl)
def c93 : MC :=
  (.seq
   (.reg [
     .op (some 4) (.alloc [.int .i64 0, .int .i64 0] 38),
     .op (some 5) (.mv (.const (.int .i64 0)))])
  (.seq
   (.seq
    (.reg [
      .op (some 6) (.mv (.tmp 1)),
      .op (some 7) (.bin .eql (.tmp 6) (.const (.int .i64 0)))])
   (.cond (.tmp 7)
    (.seq
     (.reg [
       .op (some 8) (.build [.int .i64 0, .int .i64 0] []),
       .op none (.store 2 (.tmp 4) (.tmp 8)),
       .op (some 5) (.mv (.const (.int .i64 11)))])
    .ret)
    .skip))
  (.seq
   (.reg [
     .op (some 9) (.mv (.tmp 0)),
     .op (some 10) (.bin .lss (.tmp 9) (.const (.int .i64 0))),
     .op (some 11) (.mv (.tmp 1)),
     .op (some 12) (.bin .lss (.tmp 11) (.const (.int .i64 0))),
     .op (some 13) (.eqb true (.tmp 10) (.tmp 12)),
     .op (some 14) (.mv (.tmp 0)),
     .op (some 15) (.call (.func 95) [(.tmp 14)]),
     .op (some 16) (.call (.func 138) [(.tmp 15)]),
     .op (some 17) (.mv (.tmp 1)),
     .op (some 18) (.call (.func 95) [(.tmp 17)]),
     .op (some 19) (.call (.func 138) [(.tmp 18)]),
     .op (some 20) (.build [.bool false, .int .u64 0, .int .u64 0, .int .u64 0, .int .u64 0] [(0, 1, (.tmp 13)), (1, 2, (.tmp 16)), (3, 2, (.tmp 19))]),
     .op (some 21) (.call (.func 139) [(.tmp 20)]),
     .op (some 22) (.ext (.tmp 21) 0),
     .op (some 23) (.ext (.tmp 21) 1),
     .op none (.store 2 (.tmp 4) (.tmp 22)),
     .op (some 5) (.mv (.tmp 23))])
  .ret)))
theorem s93 : FnOK Tryz.prog 93 24 [ResultVar.cell 4 38, ResultVar.tmp 5] c93 :=
  .mk' [] Tryz.func93 (by kernel_rfl) (by kernel_rfl) (by kernel_rfl)
def c94 : MC :=
  (.seq
   (.reg [
     .op (some 4) (.alloc [.int .u64 0, .int .u64 0] 170)])
  (.seq
   (.reg [
     .op (some 8) (.mv (.tmp 0)),
     .op (some 9) (.mv (.tmp 1)),
     .op (some 10) (.call (.func 140) [(.tmp 8), (.tmp 9)]),
     .op (some 7) (.mv (.tmp 10)),
     .op (some 11) (.ext (.tmp 7) 0),
     .op (some 12) (.ext (.tmp 7) 1),
     .op (some 5) (.mv (.tmp 11)),
     .op (some 6) (.mv (.tmp 12))])
  (.seq
   (.reg [
     .op (some 13) (.mv (.tmp 5)),
     .op (some 14) (.mv (.tmp 6)),
     .op (some 15) (.build [.int .u64 0, .int .u64 0] [(0, 1, (.tmp 13)), (1, 1, (.tmp 14))]),
     .op none (.store 2 (.tmp 4) (.tmp 15))])
  .ret)))
theorem s94 : FnOK Tryz.prog 94 16 [ResultVar.cell 4 170] c94 :=
  .mk' [] Tryz.func94 (by kernel_rfl) (by kernel_rfl) (by kernel_rfl)
def c95 : MC :=
  (.seq
   (.reg [
     .op (some 2) (.mv (.const (.int .u64 0)))])
  (.seq
   (.seq
    (.reg [
      .op (some 3) (.mv (.tmp 0)),
      .op (some 4) (.bin .lss (.tmp 3) (.const (.int .i64 0)))])
   (.cond (.tmp 4)
    (.seq
     (.reg [
       .op (some 5) (.mv (.tmp 0)),
       .op (some 6) (.bin .add (.tmp 5) (.const (.int .i64 1))),
       .op (some 7) (.un .neg (.tmp 6)),
       .op (some 8) (.cint .u64 (.tmp 7)),
       .op (some 9) (.bin .add (.tmp 8) (.const (.int .u64 1))),
       .op (some 2) (.mv (.tmp 9))])
    .ret)
    .skip))
  (.seq
   (.reg [
     .op (some 10) (.mv (.tmp 0)),
     .op (some 11) (.cint .u64 (.tmp 10)),
     .op (some 2) (.mv (.tmp 11))])
  .ret)))
theorem s95 : FnOK Tryz.prog 95 12 [ResultVar.tmp 2] c95 :=
  .mk' [] Tryz.func95 (by kernel_rfl) (by kernel_rfl) (by kernel_rfl)
def c96 : MC :=
  (.seq
   (.reg [
     .op (some 2) (.box 170 (.tmp 0)),
     .op (some 3) (.box 170 (.tmp 1)),
     .op (some 4) (.mv (.const (.int .i64 0)))])
  (.seq
   (.block 0
    (.seq
     (.reg [
       .op (some 6) (.load true 2 (.tmp 2)),
       .op (some 7) (.load true 2 (.tmp 3)),
       .op (some 8) (.eqs false [(0, .i), (1, .i)] (.tmp 6) (.tmp 7)),
       .op (some 5) (.mv (.tmp 8))])
    (.cond (.tmp 5)
     (.seq
      (.reg [
        .op (some 4) (.mv (.const (.int .i64 0)))])
     .ret)
     (.seq
      (.reg [
        .op (some 10) (.faddr 0 (.tmp 2)),
        .op (some 11) (.load false 1 (.tmp 10)),
        .op (some 12) (.faddr 0 (.tmp 3)),
        .op (some 13) (.load false 1 (.tmp 12)),
        .op (some 14) (.bin .lss (.tmp 11) (.tmp 13)),
        .op (some 15) (.mv (.tmp 14)),
        .gd (some 15) false (some 16) (.faddr 0 (.tmp 2)),
        .gd (some 15) false (some 17) (.load false 1 (.tmp 16)),
        .gd (some 15) false (some 18) (.faddr 0 (.tmp 3)),
        .gd (some 15) false (some 19) (.load false 1 (.tmp 18)),
        .gd (some 15) false (some 20) (.bin .eql (.tmp 17) (.tmp 19)),
        .gd (some 15) false (some 21) (.mv (.tmp 20)),
        .gd (some 21) true (some 22) (.faddr 1 (.tmp 2)),
        .gd (some 21) true (some 23) (.load false 1 (.tmp 22)),
        .gd (some 21) true (some 24) (.faddr 1 (.tmp 3)),
        .gd (some 21) true (some 25) (.load false 1 (.tmp 24)),
        .gd (some 21) true (some 26) (.bin .lss (.tmp 23) (.tmp 25)),
        .gd (some 15) false (some 27) (.pick (.tmp 21) (.tmp 26) (.const (.bool false))),
        .op (some 28) (.pick (.tmp 15) (.const (.bool true)) (.tmp 27)),
        .op (some 9) (.mv (.tmp 28))])
     (.cond (.tmp 9)
      (.seq
       (.reg [
         .op (some 4) (.mv (.const (.int .i64 (-1))))])
      .ret)
      .skip)))))
  (.seq
   (.reg [
     .op (some 4) (.mv (.const (.int .i64 1)))])
  .ret)))
theorem s96 : FnOK Tryz.prog 96 29 [ResultVar.tmp 4] c96 :=
  .mk' [] Tryz.func96 (by kernel_rfl) (by kernel_rfl) (by kernel_rfl)
def c97 : MC :=
  (.seq
   (.reg [
     .op (some 2) (.box 40 (.tmp 0)),
     .op (some 3) (.box 38 (.tmp 1)),
     .op (some 4) (.alloc [.int .i64 0, .int .i64 0, .int .i64 0, .int .i64 0, .int .i64 0, .int .i64 0, .str [], .str [], .nilslice] 40),
     .op (some 5) (.mv (.const (.int .i64 0)))])
  (.seq
   (.reg [
     .op (some 6) (.mv (.const (.int .i64 0)))])
  (.seq
   (.seq
    (.reg [
      .op (some 8) (.faddr 0 (.tmp 2)),
      .op (some 9) (.load true 2 (.tmp 8)),
      .op (some 10) (.load true 2 (.tmp 3)),
      .op (some 11) (.call (.func 141) [(.tmp 9), (.tmp 10)]),
      .op (some 7) (.mv (.tmp 11)),
      .op (some 12) (.ext (.tmp 7) 0),
      .op (some 13) (.ext (.tmp 7) 1),
      .op (some 14) (.faddr 0 (.tmp 2)),
      .op none (.store 2 (.tmp 14) (.tmp 12)),
      .op (some 6) (.mv (.tmp 13))])
   (.seq
    (.reg [
      .op (some 15) (.mv (.tmp 6)),
      .op (some 16) (.bin .neq (.tmp 15) (.const (.int .i64 0)))])
   (.cond (.tmp 16)
    (.seq
     (.reg [
       .op (some 17) (.build [.int .i64 0, .int .i64 0, .int .i64 0, .int .i64 0, .int .i64 0, .int .i64 0, .str [], .str [], .nilslice] []),
       .op (some 18) (.mv (.tmp 6)),
       .op none (.store 9 (.tmp 4) (.tmp 17)),
       .op (some 5) (.mv (.tmp 18))])
    .ret)
    .skip)))
  (.seq
   (.seq
    (.reg [
      .op (some 20) (.faddr 2 (.tmp 2)),
      .op (some 21) (.load true 2 (.tmp 20)),
      .op (some 22) (.load true 2 (.tmp 3)),
      .op (some 23) (.call (.func 141) [(.tmp 21), (.tmp 22)]),
      .op (some 19) (.mv (.tmp 23)),
      .op (some 24) (.ext (.tmp 19) 0),
      .op (some 25) (.ext (.tmp 19) 1),
      .op (some 26) (.faddr 2 (.tmp 2)),
      .op none (.store 2 (.tmp 26) (.tmp 24)),
      .op (some 6) (.mv (.tmp 25))])
   (.seq
    (.reg [
      .op (some 27) (.mv (.tmp 6)),
      .op (some 28) (.bin .neq (.tmp 27) (.const (.int .i64 0)))])
   (.cond (.tmp 28)
    (.seq
     (.reg [
       .op (some 29) (.build [.int .i64 0, .int .i64 0, .int .i64 0, .int .i64 0, .int .i64 0, .int .i64 0, .str [], .str [], .nilslice] []),
       .op (some 30) (.mv (.tmp 6)),
       .op none (.store 9 (.tmp 4) (.tmp 29)),
       .op (some 5) (.mv (.tmp 30))])
    .ret)
    .skip)))
  (.seq
   (.seq
    (.reg [
      .op (some 31) (.faddr 2 (.tmp 2)),
      .op (some 32) (.load true 2 (.tmp 31)),
      .op (some 33) (.faddr 0 (.tmp 2)),
      .op (some 34) (.load true 2 (.tmp 33)),
      .op (some 35) (.call (.func 46) [(.tmp 32), (.tmp 34)]),
      .op (some 36) (.bin .leq (.tmp 35) (.const (.int .i64 0)))])
   (.cond (.tmp 36)
    (.seq
     (.reg [
       .op (some 38) (.faddr 0 (.tmp 2)),
       .op (some 39) (.load true 2 (.tmp 38)),
       .op (some 40) (.load true 2 (.tmp 3)),
       .op (some 41) (.call (.func 142) [(.tmp 39), (.tmp 40)]),
       .op (some 37) (.mv (.tmp 41)),
       .op (some 42) (.ext (.tmp 37) 0),
       .op (some 43) (.ext (.tmp 37) 1),
       .op (some 44) (.faddr 2 (.tmp 2)),
       .op none (.store 2 (.tmp 44) (.tmp 42)),
       .op (some 6) (.mv (.tmp 43))])
    (.seq
     (.reg [
       .op (some 45) (.mv (.tmp 6)),
       .op (some 46) (.bin .eql (.tmp 45) (.const (.int .i64 0))),
       .op (some 47) (.mv (.tmp 46)),
       .gd (some 47) true (some 48) (.faddr 2 (.tmp 2)),
       .gd (some 47) true (some 49) (.load true 2 (.tmp 48)),
       .gd (some 47) true (some 50) (.call (.func 143) [(.tmp 49)]),
       .op (some 51) (.pick (.tmp 47) (.tmp 50) (.const (.bool false)))])
    (.cond (.tmp 51)
     (.seq
      (.reg [
        .op (some 52) (.faddr 0 (.tmp 2)),
        .op (some 53) (.load true 2 (.tmp 52)),
        .op (some 54) (.faddr 2 (.tmp 2)),
        .op none (.store 2 (.tmp 54) (.tmp 53))])
     (.reg [
       .op (some 56) (.faddr 2 (.tmp 2)),
       .op (some 57) (.load true 2 (.tmp 56)),
       .op (some 58) (.load true 2 (.tmp 3)),
       .op (some 59) (.call (.func 144) [(.tmp 57), (.tmp 58)]),
       .op (some 55) (.mv (.tmp 59)),
       .op (some 60) (.ext (.tmp 55) 0),
       .op (some 61) (.ext (.tmp 55) 1),
       .op (some 62) (.faddr 0 (.tmp 2)),
       .op none (.store 2 (.tmp 62) (.tmp 60)),
       .op (some 6) (.mv (.tmp 61))]))
     .skip)))
    .skip))
  (.seq
   (.seq
    (.reg [
      .op (some 63) (.mv (.tmp 6)),
      .op (some 64) (.bin .eql (.tmp 63) (.const (.int .i64 0))),
      .op (some 65) (.mv (.tmp 64)),
      .gd (some 65) true (some 66) (.faddr 0 (.tmp 2)),
      .gd (some 65) true (some 67) (.faddr 1 (.tmp 66)),
      .gd (some 65) true (some 68) (.load false 1 (.tmp 67)),
      .gd (some 65) true (some 69) (.bin .gtr (.tmp 68) (.const (.int .i64 1048576))),
      .gd (some 65) true (some 70) (.mv (.tmp 69)),
      .gd (some 70) false (some 71) (.faddr 2 (.tmp 2)),
      .gd (some 70) false (some 72) (.faddr 1 (.tmp 71)),
      .gd (some 70) false (some 73) (.load false 1 (.tmp 72)),
      .gd (some 70) false (some 74) (.bin .gtr (.tmp 73) (.const (.int .i64 1048576))),
      .gd (some 65) true (some 75) (.pick (.tmp 70) (.const (.bool true)) (.tmp 74)),
      .op (some 76) (.pick (.tmp 65) (.tmp 75) (.const (.bool false)))])
   (.cond (.tmp 76)
    (.reg [
      .op (some 6) (.mv (.const (.int .i64 12)))])
    .skip))
  (.seq
   (.reg [
     .op (some 77) (.load true 9 (.tmp 2)),
     .op (some 78) (.mv (.tmp 6)),
     .op none (.store 9 (.tmp 4) (.tmp 77)),
     .op (some 5) (.mv (.tmp 78))])
  .ret)))))))
theorem s97 : FnOK Tryz.prog 97 79 [ResultVar.cell 4 40, ResultVar.tmp 5] c97 :=
  .mk' [] Tryz.func97 (by kernel_rfl) (by kernel_rfl) (by kernel_rfl)
def c98 : MC :=
  (.seq
   (.reg [
     .op (some 4) (.mv (.const (.string ⟨⟨[]⟩⟩))),
     .op (some 5) (.mv (.const (.bool false))),
     .op (some 6) (.mv (.const (.int .i64 0)))])
  (.seq
   (.block 0
    (.seq
     (.reg [
       .op (some 8) (.mv (.tmp 0)),
       .op (some 9) (.bin .lss (.tmp 8) (.const (.int .i64 1))),
       .op (some 10) (.mv (.tmp 9)),
       .gd (some 10) false (some 11) (.mv (.tmp 0)),
       .gd (some 10) false (some 12) (.bin .gtr (.tmp 11) (.const (.int .i64 4))),
       .op (some 13) (.pick (.tmp 10) (.const (.bool true)) (.tmp 12)),
       .op (some 7) (.mv (.tmp 13))])
    (.cond (.tmp 7)
     (.seq
      (.reg [
        .op (some 4) (.mv (.const (.string ⟨⟨[]⟩⟩))),
        .op (some 5) (.mv (.const (.bool false))),
        .op (some 6) (.mv (.const (.int .i64 5)))])
     .ret)
     (.seq
      (.reg [
        .op (some 15) (.mv (.tmp 1)),
        .op (some 16) (.call (.func 30) [(.tmp 15)]),
        .op (some 17) (.un .not (.tmp 16)),
        .op (some 14) (.mv (.tmp 17))])
     (.cond (.tmp 14)
      (.seq
       (.reg [
         .op (some 4) (.mv (.const (.string ⟨⟨[]⟩⟩))),
         .op (some 5) (.mv (.const (.bool false))),
         .op (some 6) (.mv (.const (.int .i64 25)))])
      .ret)
      (.seq
       (.seq
        (.reg [
          .op (some 19) (.mv (.tmp 1)),
          .op (some 20) (.bin .eql (.tmp 19) (.const (.string ⟨⟨[]⟩⟩))),
          .op (some 18) (.mv (.tmp 20))])
       (.cond (.tmp 18)
        .skip
        (.seq
         (.reg [
           .op (some 21) (.mv (.tmp 0)),
           .op (some 22) (.bin .eql (.tmp 21) (.const (.int .i64 2))),
           .op (some 18) (.mv (.tmp 22))])
        (.cond (.tmp 18)
         .skip
         (.reg [
           .op (some 23) (.mv (.tmp 0)),
           .op (some 24) (.bin .eql (.tmp 23) (.const (.int .i64 4))),
           .op (some 25) (.mv (.tmp 24)),
           .gd (some 25) true (some 26) (.mv (.tmp 1)),
           .gd (some 25) true (some 27) (.call (.func 145) [(.tmp 26), (.const (.string ⟨⟨[44]⟩⟩))]),
           .gd (some 25) true (some 28) (.un .not (.tmp 27)),
           .op (some 29) (.pick (.tmp 25) (.tmp 28) (.const (.bool false))),
           .op (some 18) (.mv (.tmp 29))])))))
      (.cond (.tmp 18)
       (.seq
        (.reg [
          .op (some 30) (.mv (.tmp 1)),
          .op (some 4) (.mv (.tmp 30)),
          .op (some 5) (.mv (.const (.bool false))),
          .op (some 6) (.mv (.const (.int .i64 0)))])
       .ret)
       .skip)))))))
  (.seq
   (.reg [
     .op (some 4) (.mv (.const (.string ⟨⟨[]⟩⟩))),
     .op (some 5) (.mv (.const (.bool true))),
     .op (some 6) (.mv (.const (.int .i64 0)))])
  .ret)))
theorem s98 : FnOK Tryz.prog 98 31 [ResultVar.tmp 4, ResultVar.tmp 5, ResultVar.tmp 6] c98 :=
  .mk' [] Tryz.func98 (by kernel_rfl) (by kernel_rfl) (by kernel_rfl)
def c99 : MC :=
  (.seq
   (.reg [
     .op (some 1) (.box 36 (.tmp 0)),
     .op (some 2) (.alloc [.str [], .nilslice] 36),
     .op (some 3) (.mv (.const (.int .i64 0)))])
  (.seq
   (.seq
    (.reg [
      .op (some 5) (.load true 2 (.tmp 1)),
      .op (some 6) (.call (.func 29) [(.tmp 5)]),
      .op (some 4) (.mv (.tmp 6))])
   (.seq
    (.reg [
      .op (some 7) (.mv (.tmp 4)),
      .op (some 8) (.bin .neq (.tmp 7) (.const (.int .i64 0)))])
   (.cond (.tmp 8)
    (.seq
     (.reg [
       .op (some 9) (.build [.str [], .nilslice] []),
       .op (some 10) (.mv (.tmp 4)),
       .op none (.store 2 (.tmp 2) (.tmp 9)),
       .op (some 3) (.mv (.tmp 10))])
    .ret)
    .skip)))
  (.seq
   (.reg [
     .op (some 11) (.faddr 0 (.tmp 1)),
     .op (some 12) (.load false 1 (.tmp 11)),
     .op (some 13) (.load true 2 (.tmp 1)),
     .op (some 14) (.call (.func 113) [(.tmp 13)]),
     .ck false none (some 12) (.load false 1 (.tmp 11)),
     .op (some 15) (.call (.func 146) [(.tmp 12), (.tmp 14)]),
     .op (some 16) (.ext (.tmp 15) 0),
     .op (some 17) (.ext (.tmp 15) 1),
     .op none (.store 2 (.tmp 2) (.tmp 16)),
     .op (some 3) (.mv (.tmp 17))])
  .ret)))
theorem s99 : FnOK Tryz.prog 99 18 [ResultVar.cell 2 36, ResultVar.tmp 3] c99 :=
  .mk' [(4, [], [(0, []), (1, []), (2, []), (3, [1]), (4, []), (5, []), (6, []), (7, []), (8, [])])] Tryz.func99 (by kernel_rfl) (by kernel_rfl) (by kernel_rfl)
def c100 : MC :=
  (.seq
   (.reg [
     .op (some 2) (.mv (.const (.int .i64 0)))])
  (.seq
   (.seq
    (.reg [
      .op (some 3) (.mv (.tmp 0))])
   (.cond (.tmp 3)
    (.seq
     (.reg [
       .op (some 2) (.mv (.const (.int .i64 1)))])
    .ret)
    .skip))
  (.seq
   (.reg [
     .op (some 2) (.mv (.const (.int .i64 0)))])
  .ret)))
theorem s100 : FnOK Tryz.prog 100 4 [ResultVar.tmp 2] c100 :=
  .mk' [] Tryz.func100 (by kernel_rfl) (by kernel_rfl) (by kernel_rfl)
def c101 : MC :=
  (.seq
   (.reg [
     .op (some 2) (.mv (.const (.slice none 0 0)))])
  (.seq
   (.reg [
     .op (some 3) (.mv (.const (.slice none 0 0)))])
  (.seq
   (.seq
    (.reg [
      .op (some 6) (.mv (.tmp 0)),
      .op (some 7) (.lensl (.tmp 6)),
      .op (some 8) (.mv (.const (.int .i64 0)))])
   (.block 0
    (.loop
     (.seq
      (.reg [
        .op (some 9) (.bin .lss (.tmp 8) (.tmp 7))])
     (.seq
      (.cond (.tmp 9)
       .skip
       (.exit 0))
     (.seq
      (.block 1
       (.seq
        (.reg [
          .op (some 10) (.ias 9 (.tmp 6) (.tmp 8)),
          .op (some 11) (.load true 9 (.tmp 10)),
          .op (some 5) (.alloc [.int .i64 0, .int .i64 0, .int .i64 0, .int .i64 0, .int .i64 0, .int .i64 0, .str [], .str [], .nilslice] 40),
          .op none (.store 9 (.tmp 5) (.tmp 11))])
       (.reg [
         .op (some 12) (.mv (.tmp 3)),
         .op (some 13) (.load true 9 (.tmp 5)),
         .op (some 14) (.call (.func 147) [(.tmp 13)]),
         .op (some 15) (.bslice 40 1 [.int .i64 0, .int .i64 0, .int .i64 0, .int .i64 0, .int .i64 0, .int .i64 0, .str [], .str [], .nilslice] [(0, 9, (.tmp 14))]),
         .op (some 16) (.app 40 9 104 (.tmp 12) (.tmp 15)),
         .op (some 3) (.mv (.tmp 16))])))
     (.reg [
       .op (some 17) (.bin .add (.tmp 8) (.const (.int .i64 1))),
       .op (some 8) (.mv (.tmp 17))])))))))
  (.seq
   (.reg [
     .op (some 18) (.mv (.tmp 3)),
     .op (some 2) (.mv (.tmp 18))])
  .ret))))
theorem s101 : FnOK Tryz.prog 101 19 [ResultVar.tmp 2] c101 :=
  .mk' [] Tryz.func101 (by kernel_rfl) (by kernel_rfl) (by kernel_rfl)
def c102 : MC :=
  (.reg [
    .op (some 4) (.mv (.tmp 0)),
    .op (some 5) (.mv (.tmp 0)),
    .op (some 6) (.lensl (.tmp 5)),
    .op (some 7) (.mv (.tmp 1)),
    .op (some 8) (.call (.func 148) [(.tmp 4), (.tmp 6), (.tmp 7)])])
theorem s102 : FnOK Tryz.prog 102 9 [] c102 :=
  .mk' [] Tryz.func102 (by kernel_rfl) (by kernel_rfl) (by kernel_rfl)
def c103 : MC :=
  (.seq
   (.reg [
     .op (some 4) (.mv (.const (.int .u64 0))),
     .op (some 5) (.mv (.const (.int .u64 0)))])
  (.seq
   (.cond (.const (.bool false))
    (.seq
     (.reg [
       .op (some 11) (.mv (.tmp 0)),
       .op (some 12) (.cint .u32 (.tmp 11)),
       .op (some 13) (.mv (.tmp 1)),
       .op (some 14) (.cint .u32 (.tmp 13)),
       .op (some 15) (.call (.func 149) [(.tmp 12), (.tmp 14)]),
       .op (some 10) (.mv (.tmp 15)),
       .op (some 16) (.ext (.tmp 10) 0),
       .op (some 17) (.ext (.tmp 10) 1),
       .op (some 6) (.mv (.tmp 16)),
       .op (some 7) (.mv (.tmp 17))])
    (.seq
     (.reg [
       .op (some 18) (.mv (.tmp 6)),
       .op (some 19) (.cint .u64 (.tmp 18)),
       .op (some 20) (.mv (.tmp 7)),
       .op (some 21) (.cint .u64 (.tmp 20)),
       .op (some 4) (.mv (.tmp 19)),
       .op (some 5) (.mv (.tmp 21))])
    .ret))
    .skip)
  (.seq
   (.reg [
     .op (some 23) (.mv (.tmp 0)),
     .op (some 24) (.mv (.tmp 1)),
     .op (some 25) (.call (.func 140) [(.tmp 23), (.tmp 24)]),
     .op (some 22) (.mv (.tmp 25)),
     .op (some 26) (.ext (.tmp 22) 0),
     .op (some 27) (.ext (.tmp 22) 1),
     .op (some 8) (.mv (.tmp 26)),
     .op (some 9) (.mv (.tmp 27))])
  (.seq
   (.reg [
     .op (some 28) (.mv (.tmp 8)),
     .op (some 29) (.mv (.tmp 9)),
     .op (some 4) (.mv (.tmp 28)),
     .op (some 5) (.mv (.tmp 29))])
  .ret))))
theorem s103 : FnOK Tryz.prog 103 30 [ResultVar.tmp 4, ResultVar.tmp 5] c103 :=
  .mk' [] Tryz.func103 (by kernel_rfl) (by kernel_rfl) (by kernel_rfl)
def c105 : MC :=
  (.seq
   (.reg [
     .op (some 2) (.mv (.const (.string ⟨⟨[]⟩⟩)))])
  (.seq
   (.seq
    (.reg [
      .op (some 3) (.mv (.tmp 0)),
      .op (some 4) (.bin .lss (.tmp 3) (.const (.int .i64 10)))])
   (.cond (.tmp 4)
    (.seq
     (.reg [
       .op (some 5) (.mv (.tmp 0)),
       .op (some 6) (.mv (.tmp 0)),
       .op (some 7) (.bin .add (.tmp 6) (.const (.int .i64 1))),
       .op (some 8) (.sstr (.const (.string ⟨⟨[48, 49, 50, 51, 52, 53, 54, 55, 56, 57, 97, 98, 99, 100, 101, 102, 103, 104, 105, 106, 107, 108, 109, 110, 111, 112, 113, 114, 115, 116, 117, 118, 119, 120, 121, 122]⟩⟩)) (some (.tmp 5)) (some (.tmp 7))),
       .op (some 2) (.mv (.tmp 8))])
    .ret)
    .skip))
  (.seq
   (.reg [
     .op (some 9) (.mv (.tmp 0)),
     .op (some 10) (.bin .mul (.tmp 9) (.const (.int .i64 2))),
     .op (some 11) (.mv (.tmp 0)),
     .op (some 12) (.bin .mul (.tmp 11) (.const (.int .i64 2))),
     .op (some 13) (.bin .add (.tmp 12) (.const (.int .i64 2))),
     .op (some 14) (.sstr (.const (.string ⟨⟨[48, 48, 48, 49, 48, 50, 48, 51, 48, 52, 48, 53, 48, 54, 48, 55, 48, 56, 48, 57, 49, 48, 49, 49, 49, 50, 49, 51, 49, 52, 49, 53, 49, 54, 49, 55, 49, 56, 49, 57, 50, 48, 50, 49, 50, 50, 50, 51, 50, 52, 50, 53, 50, 54, 50, 55, 50, 56, 50, 57, 51, 48, 51, 49, 51, 50, 51, 51, 51, 52, 51, 53, 51, 54, 51, 55, 51, 56, 51, 57, 52, 48, 52, 49, 52, 50, 52, 51, 52, 52, 52, 53, 52, 54, 52, 55, 52, 56, 52, 57, 53, 48, 53, 49, 53, 50, 53, 51, 53, 52, 53, 53, 53, 54, 53, 55, 53, 56, 53, 57, 54, 48, 54, 49, 54, 50, 54, 51, 54, 52, 54, 53, 54, 54, 54, 55, 54, 56, 54, 57, 55, 48, 55, 49, 55, 50, 55, 51, 55, 52, 55, 53, 55, 54, 55, 55, 55, 56, 55, 57, 56, 48, 56, 49, 56, 50, 56, 51, 56, 52, 56, 53, 56, 54, 56, 55, 56, 56, 56, 57, 57, 48, 57, 49, 57, 50, 57, 51, 57, 52, 57, 53, 57, 54, 57, 55, 57, 56, 57, 57]⟩⟩)) (some (.tmp 10)) (some (.tmp 13))),
     .op (some 2) (.mv (.tmp 14))])
  .ret)))
theorem s105 : FnOK Tryz.prog 105 15 [ResultVar.tmp 2] c105 :=
  .mk' [] Tryz.func105 (by kernel_rfl) (by kernel_rfl) (by kernel_rfl)
def c106 : MC :=
  (.seq
   (.reg [
     .op (some 2) (.mv (.const (.int .i64 0)))])
  (.seq
   (.reg [
     .op (some 4) (.mv (.tmp 0)),
     .op (some 5) (.call (.func 151) [(.tmp 4)]),
     .op (some 6) (.call (.func 150) [(.tmp 5)]),
     .op (some 3) (.mv (.tmp 6))])
  (.seq
   (.reg [
     .op (some 7) (.mv (.tmp 3)),
     .op (some 8) (.mv (.tmp 0)),
     .op (some 9) (.mv (.tmp 3)),
     .op (some 10) (.iaa 20 1 (.global 0) (.tmp 9)),
     .op (some 11) (.load false 1 (.tmp 10)),
     .op (some 12) (.bin .geq (.tmp 8) (.tmp 11)),
     .op (some 13) (.call (.func 152) [(.tmp 12)]),
     .op (some 14) (.bin .add (.tmp 7) (.tmp 13)),
     .op (some 2) (.mv (.tmp 14))])
  .ret)))
theorem s106 : FnOK Tryz.prog 106 15 [ResultVar.tmp 2] c106 :=
  .mk' [] Tryz.func106 (by kernel_rfl) (by kernel_rfl) (by kernel_rfl)
def c107 : MC :=
  (.seq
   (.reg [
     .op (some 17) (.mv (.tmp 0)),
     .op (some 18) (.lensl (.tmp 17)),
     .op (some 4) (.mv (.tmp 18))])
  (.seq
   (.block 0
    (.loop
     (.seq
      (.seq
       (.reg [
         .op (some 19) (.mv (.tmp 4)),
         .op (some 20) (.bin .geq (.tmp 19) (.const (.int .i64 8)))])
      (.cond (.tmp 20)
       .skip
       (.exit 0)))
     (.block 1
      (.seq
       (.reg [
         .op (some 21) (.mv (.tmp 1)),
         .op (some 22) (.bin .rem (.tmp 21) (.const (.int .u64 100000000))),
         .op (some 23) (.cint .u32 (.tmp 22)),
         .op (some 5) (.mv (.tmp 23))])
      (.seq
       (.reg [
         .op (some 24) (.mv (.tmp 1)),
         .op (some 25) (.bin .quo (.tmp 24) (.const (.int .u64 100000000))),
         .op (some 1) (.mv (.tmp 25))])
      (.seq
       (.reg [
         .op (some 26) (.mv (.tmp 5)),
         .op (some 27) (.bin .quo (.tmp 26) (.const (.int .u32 10000))),
         .op (some 28) (.mv (.tmp 5)),
         .op (some 29) (.bin .rem (.tmp 28) (.const (.int .u32 10000))),
         .op (some 6) (.mv (.tmp 27)),
         .op (some 7) (.mv (.tmp 29))])
      (.seq
       (.reg [
         .op (some 30) (.mv (.tmp 7)),
         .op (some 31) (.bin .quo (.tmp 30) (.const (.int .u32 100))),
         .op (some 32) (.bin .mul (.tmp 31) (.const (.int .u32 2))),
         .op (some 33) (.mv (.tmp 7)),
         .op (some 34) (.bin .rem (.tmp 33) (.const (.int .u32 100))),
         .op (some 35) (.bin .mul (.tmp 34) (.const (.int .u32 2))),
         .op (some 8) (.mv (.tmp 32)),
         .op (some 9) (.mv (.tmp 35))])
      (.seq
       (.reg [
         .op (some 36) (.mv (.tmp 6)),
         .op (some 37) (.bin .quo (.tmp 36) (.const (.int .u32 100))),
         .op (some 38) (.bin .mul (.tmp 37) (.const (.int .u32 2))),
         .op (some 39) (.mv (.tmp 6)),
         .op (some 40) (.bin .rem (.tmp 39) (.const (.int .u32 100))),
         .op (some 41) (.bin .mul (.tmp 40) (.const (.int .u32 2))),
         .op (some 10) (.mv (.tmp 38)),
         .op (some 11) (.mv (.tmp 41))])
      (.seq
       (.reg [
         .op (some 42) (.mv (.tmp 0)),
         .op (some 43) (.mv (.tmp 4)),
         .op (some 44) (.bin .sub (.tmp 43) (.const (.int .i64 1))),
         .op (some 45) (.mv (.tmp 0)),
         .op (some 46) (.mv (.tmp 4)),
         .op (some 47) (.bin .sub (.tmp 46) (.const (.int .i64 2))),
         .op (some 48) (.mv (.tmp 9)),
         .op (some 49) (.bin .add (.tmp 48) (.const (.int .u32 1))),
         .op (some 50) (.ixs (.const (.string ⟨⟨[48, 48, 48, 49, 48, 50, 48, 51, 48, 52, 48, 53, 48, 54, 48, 55, 48, 56, 48, 57, 49, 48, 49, 49, 49, 50, 49, 51, 49, 52, 49, 53, 49, 54, 49, 55, 49, 56, 49, 57, 50, 48, 50, 49, 50, 50, 50, 51, 50, 52, 50, 53, 50, 54, 50, 55, 50, 56, 50, 57, 51, 48, 51, 49, 51, 50, 51, 51, 51, 52, 51, 53, 51, 54, 51, 55, 51, 56, 51, 57, 52, 48, 52, 49, 52, 50, 52, 51, 52, 52, 52, 53, 52, 54, 52, 55, 52, 56, 52, 57, 53, 48, 53, 49, 53, 50, 53, 51, 53, 52, 53, 53, 53, 54, 53, 55, 53, 56, 53, 57, 54, 48, 54, 49, 54, 50, 54, 51, 54, 52, 54, 53, 54, 54, 54, 55, 54, 56, 54, 57, 55, 48, 55, 49, 55, 50, 55, 51, 55, 52, 55, 53, 55, 54, 55, 55, 55, 56, 55, 57, 56, 48, 56, 49, 56, 50, 56, 51, 56, 52, 56, 53, 56, 54, 56, 55, 56, 56, 56, 57, 57, 48, 57, 49, 57, 50, 57, 51, 57, 52, 57, 53, 57, 54, 57, 55, 57, 56, 57, 57]⟩⟩)) (.tmp 49)),
         .op (some 51) (.mv (.tmp 9)),
         .op (some 52) (.ixs (.const (.string ⟨⟨[48, 48, 48, 49, 48, 50, 48, 51, 48, 52, 48, 53, 48, 54, 48, 55, 48, 56, 48, 57, 49, 48, 49, 49, 49, 50, 49, 51, 49, 52, 49, 53, 49, 54, 49, 55, 49, 56, 49, 57, 50, 48, 50, 49, 50, 50, 50, 51, 50, 52, 50, 53, 50, 54, 50, 55, 50, 56, 50, 57, 51, 48, 51, 49, 51, 50, 51, 51, 51, 52, 51, 53, 51, 54, 51, 55, 51, 56, 51, 57, 52, 48, 52, 49, 52, 50, 52, 51, 52, 52, 52, 53, 52, 54, 52, 55, 52, 56, 52, 57, 53, 48, 53, 49, 53, 50, 53, 51, 53, 52, 53, 53, 53, 54, 53, 55, 53, 56, 53, 57, 54, 48, 54, 49, 54, 50, 54, 51, 54, 52, 54, 53, 54, 54, 54, 55, 54, 56, 54, 57, 55, 48, 55, 49, 55, 50, 55, 51, 55, 52, 55, 53, 55, 54, 55, 55, 55, 56, 55, 57, 56, 48, 56, 49, 56, 50, 56, 51, 56, 52, 56, 53, 56, 54, 56, 55, 56, 56, 56, 57, 57, 48, 57, 49, 57, 50, 57, 51, 57, 52, 57, 53, 57, 54, 57, 55, 57, 56, 57, 57]⟩⟩)) (.tmp 51)),
         .op (some 53) (.ias 1 (.tmp 42) (.tmp 44)),
         .op none (.store 1 (.tmp 53) (.tmp 50)),
         .op (some 54) (.ias 1 (.tmp 45) (.tmp 47)),
         .op none (.store 1 (.tmp 54) (.tmp 52))])
      (.seq
       (.reg [
         .op (some 55) (.mv (.tmp 0)),
         .op (some 56) (.mv (.tmp 4)),
         .op (some 57) (.bin .sub (.tmp 56) (.const (.int .i64 3))),
         .op (some 58) (.mv (.tmp 0)),
         .op (some 59) (.mv (.tmp 4)),
         .op (some 60) (.bin .sub (.tmp 59) (.const (.int .i64 4))),
         .op (some 61) (.mv (.tmp 8)),
         .op (some 62) (.bin .add (.tmp 61) (.const (.int .u32 1))),
         .op (some 63) (.ixs (.const (.string ⟨⟨[48, 48, 48, 49, 48, 50, 48, 51, 48, 52, 48, 53, 48, 54, 48, 55, 48, 56, 48, 57, 49, 48, 49, 49, 49, 50, 49, 51, 49, 52, 49, 53, 49, 54, 49, 55, 49, 56, 49, 57, 50, 48, 50, 49, 50, 50, 50, 51, 50, 52, 50, 53, 50, 54, 50, 55, 50, 56, 50, 57, 51, 48, 51, 49, 51, 50, 51, 51, 51, 52, 51, 53, 51, 54, 51, 55, 51, 56, 51, 57, 52, 48, 52, 49, 52, 50, 52, 51, 52, 52, 52, 53, 52, 54, 52, 55, 52, 56, 52, 57, 53, 48, 53, 49, 53, 50, 53, 51, 53, 52, 53, 53, 53, 54, 53, 55, 53, 56, 53, 57, 54, 48, 54, 49, 54, 50, 54, 51, 54, 52, 54, 53, 54, 54, 54, 55, 54, 56, 54, 57, 55, 48, 55, 49, 55, 50, 55, 51, 55, 52, 55, 53, 55, 54, 55, 55, 55, 56, 55, 57, 56, 48, 56, 49, 56, 50, 56, 51, 56, 52, 56, 53, 56, 54, 56, 55, 56, 56, 56, 57, 57, 48, 57, 49, 57, 50, 57, 51, 57, 52, 57, 53, 57, 54, 57, 55, 57, 56, 57, 57]⟩⟩)) (.tmp 62)),
         .op (some 64) (.mv (.tmp 8)),
         .op (some 65) (.ixs (.const (.string ⟨⟨[48, 48, 48, 49, 48, 50, 48, 51, 48, 52, 48, 53, 48, 54, 48, 55, 48, 56, 48, 57, 49, 48, 49, 49, 49, 50, 49, 51, 49, 52, 49, 53, 49, 54, 49, 55, 49, 56, 49, 57, 50, 48, 50, 49, 50, 50, 50, 51, 50, 52, 50, 53, 50, 54, 50, 55, 50, 56, 50, 57, 51, 48, 51, 49, 51, 50, 51, 51, 51, 52, 51, 53, 51, 54, 51, 55, 51, 56, 51, 57, 52, 48, 52, 49, 52, 50, 52, 51, 52, 52, 52, 53, 52, 54, 52, 55, 52, 56, 52, 57, 53, 48, 53, 49, 53, 50, 53, 51, 53, 52, 53, 53, 53, 54, 53, 55, 53, 56, 53, 57, 54, 48, 54, 49, 54, 50, 54, 51, 54, 52, 54, 53, 54, 54, 54, 55, 54, 56, 54, 57, 55, 48, 55, 49, 55, 50, 55, 51, 55, 52, 55, 53, 55, 54, 55, 55, 55, 56, 55, 57, 56, 48, 56, 49, 56, 50, 56, 51, 56, 52, 56, 53, 56, 54, 56, 55, 56, 56, 56, 57, 57, 48, 57, 49, 57, 50, 57, 51, 57, 52, 57, 53, 57, 54, 57, 55, 57, 56, 57, 57]⟩⟩)) (.tmp 64)),
         .op (some 66) (.ias 1 (.tmp 55) (.tmp 57)),
         .op none (.store 1 (.tmp 66) (.tmp 63)),
         .op (some 67) (.ias 1 (.tmp 58) (.tmp 60)),
         .op none (.store 1 (.tmp 67) (.tmp 65))])
      (.seq
       (.reg [
         .op (some 68) (.mv (.tmp 0)),
         .op (some 69) (.mv (.tmp 4)),
         .op (some 70) (.bin .sub (.tmp 69) (.const (.int .i64 5))),
         .op (some 71) (.mv (.tmp 0)),
         .op (some 72) (.mv (.tmp 4)),
         .op (some 73) (.bin .sub (.tmp 72) (.const (.int .i64 6))),
         .op (some 74) (.mv (.tmp 11)),
         .op (some 75) (.bin .add (.tmp 74) (.const (.int .u32 1))),
         .op (some 76) (.ixs (.const (.string ⟨⟨[48, 48, 48, 49, 48, 50, 48, 51, 48, 52, 48, 53, 48, 54, 48, 55, 48, 56, 48, 57, 49, 48, 49, 49, 49, 50, 49, 51, 49, 52, 49, 53, 49, 54, 49, 55, 49, 56, 49, 57, 50, 48, 50, 49, 50, 50, 50, 51, 50, 52, 50, 53, 50, 54, 50, 55, 50, 56, 50, 57, 51, 48, 51, 49, 51, 50, 51, 51, 51, 52, 51, 53, 51, 54, 51, 55, 51, 56, 51, 57, 52, 48, 52, 49, 52, 50, 52, 51, 52, 52, 52, 53, 52, 54, 52, 55, 52, 56, 52, 57, 53, 48, 53, 49, 53, 50, 53, 51, 53, 52, 53, 53, 53, 54, 53, 55, 53, 56, 53, 57, 54, 48, 54, 49, 54, 50, 54, 51, 54, 52, 54, 53, 54, 54, 54, 55, 54, 56, 54, 57, 55, 48, 55, 49, 55, 50, 55, 51, 55, 52, 55, 53, 55, 54, 55, 55, 55, 56, 55, 57, 56, 48, 56, 49, 56, 50, 56, 51, 56, 52, 56, 53, 56, 54, 56, 55, 56, 56, 56, 57, 57, 48, 57, 49, 57, 50, 57, 51, 57, 52, 57, 53, 57, 54, 57, 55, 57, 56, 57, 57]⟩⟩)) (.tmp 75)),
         .op (some 77) (.mv (.tmp 11)),
         .op (some 78) (.ixs (.const (.string ⟨⟨[48, 48, 48, 49, 48, 50, 48, 51, 48, 52, 48, 53, 48, 54, 48, 55, 48, 56, 48, 57, 49, 48, 49, 49, 49, 50, 49, 51, 49, 52, 49, 53, 49, 54, 49, 55, 49, 56, 49, 57, 50, 48, 50, 49, 50, 50, 50, 51, 50, 52, 50, 53, 50, 54, 50, 55, 50, 56, 50, 57, 51, 48, 51, 49, 51, 50, 51, 51, 51, 52, 51, 53, 51, 54, 51, 55, 51, 56, 51, 57, 52, 48, 52, 49, 52, 50, 52, 51, 52, 52, 52, 53, 52, 54, 52, 55, 52, 56, 52, 57, 53, 48, 53, 49, 53, 50, 53, 51, 53, 52, 53, 53, 53, 54, 53, 55, 53, 56, 53, 57, 54, 48, 54, 49, 54, 50, 54, 51, 54, 52, 54, 53, 54, 54, 54, 55, 54, 56, 54, 57, 55, 48, 55, 49, 55, 50, 55, 51, 55, 52, 55, 53, 55, 54, 55, 55, 55, 56, 55, 57, 56, 48, 56, 49, 56, 50, 56, 51, 56, 52, 56, 53, 56, 54, 56, 55, 56, 56, 56, 57, 57, 48, 57, 49, 57, 50, 57, 51, 57, 52, 57, 53, 57, 54, 57, 55, 57, 56, 57, 57]⟩⟩)) (.tmp 77)),
         .op (some 79) (.ias 1 (.tmp 68) (.tmp 70)),
         .op none (.store 1 (.tmp 79) (.tmp 76)),
         .op (some 80) (.ias 1 (.tmp 71) (.tmp 73)),
         .op none (.store 1 (.tmp 80) (.tmp 78))])
      (.seq
       (.reg [
         .op (some 81) (.mv (.tmp 0)),
         .op (some 82) (.mv (.tmp 4)),
         .op (some 83) (.bin .sub (.tmp 82) (.const (.int .i64 7))),
         .op (some 84) (.mv (.tmp 0)),
         .op (some 85) (.mv (.tmp 4)),
         .op (some 86) (.bin .sub (.tmp 85) (.const (.int .i64 8))),
         .op (some 87) (.mv (.tmp 10)),
         .op (some 88) (.bin .add (.tmp 87) (.const (.int .u32 1))),
         .op (some 89) (.ixs (.const (.string ⟨⟨[48, 48, 48, 49, 48, 50, 48, 51, 48, 52, 48, 53, 48, 54, 48, 55, 48, 56, 48, 57, 49, 48, 49, 49, 49, 50, 49, 51, 49, 52, 49, 53, 49, 54, 49, 55, 49, 56, 49, 57, 50, 48, 50, 49, 50, 50, 50, 51, 50, 52, 50, 53, 50, 54, 50, 55, 50, 56, 50, 57, 51, 48, 51, 49, 51, 50, 51, 51, 51, 52, 51, 53, 51, 54, 51, 55, 51, 56, 51, 57, 52, 48, 52, 49, 52, 50, 52, 51, 52, 52, 52, 53, 52, 54, 52, 55, 52, 56, 52, 57, 53, 48, 53, 49, 53, 50, 53, 51, 53, 52, 53, 53, 53, 54, 53, 55, 53, 56, 53, 57, 54, 48, 54, 49, 54, 50, 54, 51, 54, 52, 54, 53, 54, 54, 54, 55, 54, 56, 54, 57, 55, 48, 55, 49, 55, 50, 55, 51, 55, 52, 55, 53, 55, 54, 55, 55, 55, 56, 55, 57, 56, 48, 56, 49, 56, 50, 56, 51, 56, 52, 56, 53, 56, 54, 56, 55, 56, 56, 56, 57, 57, 48, 57, 49, 57, 50, 57, 51, 57, 52, 57, 53, 57, 54, 57, 55, 57, 56, 57, 57]⟩⟩)) (.tmp 88)),
         .op (some 90) (.mv (.tmp 10)),
         .op (some 91) (.ixs (.const (.string ⟨⟨[48, 48, 48, 49, 48, 50, 48, 51, 48, 52, 48, 53, 48, 54, 48, 55, 48, 56, 48, 57, 49, 48, 49, 49, 49, 50, 49, 51, 49, 52, 49, 53, 49, 54, 49, 55, 49, 56, 49, 57, 50, 48, 50, 49, 50, 50, 50, 51, 50, 52, 50, 53, 50, 54, 50, 55, 50, 56, 50, 57, 51, 48, 51, 49, 51, 50, 51, 51, 51, 52, 51, 53, 51, 54, 51, 55, 51, 56, 51, 57, 52, 48, 52, 49, 52, 50, 52, 51, 52, 52, 52, 53, 52, 54, 52, 55, 52, 56, 52, 57, 53, 48, 53, 49, 53, 50, 53, 51, 53, 52, 53, 53, 53, 54, 53, 55, 53, 56, 53, 57, 54, 48, 54, 49, 54, 50, 54, 51, 54, 52, 54, 53, 54, 54, 54, 55, 54, 56, 54, 57, 55, 48, 55, 49, 55, 50, 55, 51, 55, 52, 55, 53, 55, 54, 55, 55, 55, 56, 55, 57, 56, 48, 56, 49, 56, 50, 56, 51, 56, 52, 56, 53, 56, 54, 56, 55, 56, 56, 56, 57, 57, 48, 57, 49, 57, 50, 57, 51, 57, 52, 57, 53, 57, 54, 57, 55, 57, 56, 57, 57]⟩⟩)) (.tmp 90)),
         .op (some 92) (.ias 1 (.tmp 81) (.tmp 83)),
         .op none (.store 1 (.tmp 92) (.tmp 89)),
         .op (some 93) (.ias 1 (.tmp 84) (.tmp 86)),
         .op none (.store 1 (.tmp 93) (.tmp 91))])
      (.reg [
        .op (some 94) (.mv (.tmp 4)),
        .op (some 95) (.bin .sub (.tmp 94) (.const (.int .i64 8))),
        .op (some 4) (.mv (.tmp 95))]))))))))))))))
  (.seq
   (.reg [
     .op (some 96) (.mv (.tmp 1)),
     .op (some 97) (.cint .u32 (.tmp 96)),
     .op (some 12) (.mv (.tmp 97))])
  (.seq
   (.seq
    (.reg [
      .op (some 98) (.mv (.tmp 4)),
      .op (some 99) (.bin .geq (.tmp 98) (.const (.int .i64 4)))])
   (.cond (.tmp 99)
    (.seq
     (.reg [
       .op (some 100) (.mv (.tmp 12)),
       .op (some 101) (.bin .rem (.tmp 100) (.const (.int .u32 10000))),
       .op (some 13) (.mv (.tmp 101))])
    (.seq
     (.reg [
       .op (some 102) (.mv (.tmp 12)),
       .op (some 103) (.bin .quo (.tmp 102) (.const (.int .u32 10000))),
       .op (some 12) (.mv (.tmp 103))])
    (.seq
     (.reg [
       .op (some 104) (.mv (.tmp 13)),
       .op (some 105) (.bin .quo (.tmp 104) (.const (.int .u32 100))),
       .op (some 106) (.bin .mul (.tmp 105) (.const (.int .u32 2))),
       .op (some 107) (.mv (.tmp 13)),
       .op (some 108) (.bin .rem (.tmp 107) (.const (.int .u32 100))),
       .op (some 109) (.bin .mul (.tmp 108) (.const (.int .u32 2))),
       .op (some 14) (.mv (.tmp 106)),
       .op (some 15) (.mv (.tmp 109))])
    (.seq
     (.reg [
       .op (some 110) (.mv (.tmp 0)),
       .op (some 111) (.mv (.tmp 4)),
       .op (some 112) (.bin .sub (.tmp 111) (.const (.int .i64 1))),
       .op (some 113) (.mv (.tmp 0)),
       .op (some 114) (.mv (.tmp 4)),
       .op (some 115) (.bin .sub (.tmp 114) (.const (.int .i64 2))),
       .op (some 116) (.mv (.tmp 15)),
       .op (some 117) (.bin .add (.tmp 116) (.const (.int .u32 1))),
       .op (some 118) (.ixs (.const (.string ⟨⟨[48, 48, 48, 49, 48, 50, 48, 51, 48, 52, 48, 53, 48, 54, 48, 55, 48, 56, 48, 57, 49, 48, 49, 49, 49, 50, 49, 51, 49, 52, 49, 53, 49, 54, 49, 55, 49, 56, 49, 57, 50, 48, 50, 49, 50, 50, 50, 51, 50, 52, 50, 53, 50, 54, 50, 55, 50, 56, 50, 57, 51, 48, 51, 49, 51, 50, 51, 51, 51, 52, 51, 53, 51, 54, 51, 55, 51, 56, 51, 57, 52, 48, 52, 49, 52, 50, 52, 51, 52, 52, 52, 53, 52, 54, 52, 55, 52, 56, 52, 57, 53, 48, 53, 49, 53, 50, 53, 51, 53, 52, 53, 53, 53, 54, 53, 55, 53, 56, 53, 57, 54, 48, 54, 49, 54, 50, 54, 51, 54, 52, 54, 53, 54, 54, 54, 55, 54, 56, 54, 57, 55, 48, 55, 49, 55, 50, 55, 51, 55, 52, 55, 53, 55, 54, 55, 55, 55, 56, 55, 57, 56, 48, 56, 49, 56, 50, 56, 51, 56, 52, 56, 53, 56, 54, 56, 55, 56, 56, 56, 57, 57, 48, 57, 49, 57, 50, 57, 51, 57, 52, 57, 53, 57, 54, 57, 55, 57, 56, 57, 57]⟩⟩)) (.tmp 117)),
       .op (some 119) (.mv (.tmp 15)),
       .op (some 120) (.ixs (.const (.string ⟨⟨[48, 48, 48, 49, 48, 50, 48, 51, 48, 52, 48, 53, 48, 54, 48, 55, 48, 56, 48, 57, 49, 48, 49, 49, 49, 50, 49, 51, 49, 52, 49, 53, 49, 54, 49, 55, 49, 56, 49, 57, 50, 48, 50, 49, 50, 50, 50, 51, 50, 52, 50, 53, 50, 54, 50, 55, 50, 56, 50, 57, 51, 48, 51, 49, 51, 50, 51, 51, 51, 52, 51, 53, 51, 54, 51, 55, 51, 56, 51, 57, 52, 48, 52, 49, 52, 50, 52, 51, 52, 52, 52, 53, 52, 54, 52, 55, 52, 56, 52, 57, 53, 48, 53, 49, 53, 50, 53, 51, 53, 52, 53, 53, 53, 54, 53, 55, 53, 56, 53, 57, 54, 48, 54, 49, 54, 50, 54, 51, 54, 52, 54, 53, 54, 54, 54, 55, 54, 56, 54, 57, 55, 48, 55, 49, 55, 50, 55, 51, 55, 52, 55, 53, 55, 54, 55, 55, 55, 56, 55, 57, 56, 48, 56, 49, 56, 50, 56, 51, 56, 52, 56, 53, 56, 54, 56, 55, 56, 56, 56, 57, 57, 48, 57, 49, 57, 50, 57, 51, 57, 52, 57, 53, 57, 54, 57, 55, 57, 56, 57, 57]⟩⟩)) (.tmp 119)),
       .op (some 121) (.ias 1 (.tmp 110) (.tmp 112)),
       .op none (.store 1 (.tmp 121) (.tmp 118)),
       .op (some 122) (.ias 1 (.tmp 113) (.tmp 115)),
       .op none (.store 1 (.tmp 122) (.tmp 120))])
    (.seq
     (.reg [
       .op (some 123) (.mv (.tmp 0)),
       .op (some 124) (.mv (.tmp 4)),
       .op (some 125) (.bin .sub (.tmp 124) (.const (.int .i64 3))),
       .op (some 126) (.mv (.tmp 0)),
       .op (some 127) (.mv (.tmp 4)),
       .op (some 128) (.bin .sub (.tmp 127) (.const (.int .i64 4))),
       .op (some 129) (.mv (.tmp 14)),
       .op (some 130) (.bin .add (.tmp 129) (.const (.int .u32 1))),
       .op (some 131) (.ixs (.const (.string ⟨⟨[48, 48, 48, 49, 48, 50, 48, 51, 48, 52, 48, 53, 48, 54, 48, 55, 48, 56, 48, 57, 49, 48, 49, 49, 49, 50, 49, 51, 49, 52, 49, 53, 49, 54, 49, 55, 49, 56, 49, 57, 50, 48, 50, 49, 50, 50, 50, 51, 50, 52, 50, 53, 50, 54, 50, 55, 50, 56, 50, 57, 51, 48, 51, 49, 51, 50, 51, 51, 51, 52, 51, 53, 51, 54, 51, 55, 51, 56, 51, 57, 52, 48, 52, 49, 52, 50, 52, 51, 52, 52, 52, 53, 52, 54, 52, 55, 52, 56, 52, 57, 53, 48, 53, 49, 53, 50, 53, 51, 53, 52, 53, 53, 53, 54, 53, 55, 53, 56, 53, 57, 54, 48, 54, 49, 54, 50, 54, 51, 54, 52, 54, 53, 54, 54, 54, 55, 54, 56, 54, 57, 55, 48, 55, 49, 55, 50, 55, 51, 55, 52, 55, 53, 55, 54, 55, 55, 55, 56, 55, 57, 56, 48, 56, 49, 56, 50, 56, 51, 56, 52, 56, 53, 56, 54, 56, 55, 56, 56, 56, 57, 57, 48, 57, 49, 57, 50, 57, 51, 57, 52, 57, 53, 57, 54, 57, 55, 57, 56, 57, 57]⟩⟩)) (.tmp 130)),
       .op (some 132) (.mv (.tmp 14)),
       .op (some 133) (.ixs (.const (.string ⟨⟨[48, 48, 48, 49, 48, 50, 48, 51, 48, 52, 48, 53, 48, 54, 48, 55, 48, 56, 48, 57, 49, 48, 49, 49, 49, 50, 49, 51, 49, 52, 49, 53, 49, 54, 49, 55, 49, 56, 49, 57, 50, 48, 50, 49, 50, 50, 50, 51, 50, 52, 50, 53, 50, 54, 50, 55, 50, 56, 50, 57, 51, 48, 51, 49, 51, 50, 51, 51, 51, 52, 51, 53, 51, 54, 51, 55, 51, 56, 51, 57, 52, 48, 52, 49, 52, 50, 52, 51, 52, 52, 52, 53, 52, 54, 52, 55, 52, 56, 52, 57, 53, 48, 53, 49, 53, 50, 53, 51, 53, 52, 53, 53, 53, 54, 53, 55, 53, 56, 53, 57, 54, 48, 54, 49, 54, 50, 54, 51, 54, 52, 54, 53, 54, 54, 54, 55, 54, 56, 54, 57, 55, 48, 55, 49, 55, 50, 55, 51, 55, 52, 55, 53, 55, 54, 55, 55, 55, 56, 55, 57, 56, 48, 56, 49, 56, 50, 56, 51, 56, 52, 56, 53, 56, 54, 56, 55, 56, 56, 56, 57, 57, 48, 57, 49, 57, 50, 57, 51, 57, 52, 57, 53, 57, 54, 57, 55, 57, 56, 57, 57]⟩⟩)) (.tmp 132)),
       .op (some 134) (.ias 1 (.tmp 123) (.tmp 125)),
       .op none (.store 1 (.tmp 134) (.tmp 131)),
       .op (some 135) (.ias 1 (.tmp 126) (.tmp 128)),
       .op none (.store 1 (.tmp 135) (.tmp 133))])
    (.reg [
      .op (some 136) (.mv (.tmp 4)),
      .op (some 137) (.bin .sub (.tmp 136) (.const (.int .i64 4))),
      .op (some 4) (.mv (.tmp 137))]))))))
    .skip))
  (.seq
   (.seq
    (.reg [
      .op (some 138) (.mv (.tmp 4)),
      .op (some 139) (.bin .geq (.tmp 138) (.const (.int .i64 2)))])
   (.cond (.tmp 139)
    (.seq
     (.reg [
       .op (some 140) (.mv (.tmp 12)),
       .op (some 141) (.bin .rem (.tmp 140) (.const (.int .u32 100))),
       .op (some 142) (.bin .mul (.tmp 141) (.const (.int .u32 2))),
       .op (some 16) (.mv (.tmp 142))])
    (.seq
     (.reg [
       .op (some 143) (.mv (.tmp 12)),
       .op (some 144) (.bin .quo (.tmp 143) (.const (.int .u32 100))),
       .op (some 12) (.mv (.tmp 144))])
    (.seq
     (.reg [
       .op (some 145) (.mv (.tmp 0)),
       .op (some 146) (.mv (.tmp 4)),
       .op (some 147) (.bin .sub (.tmp 146) (.const (.int .i64 1))),
       .op (some 148) (.mv (.tmp 0)),
       .op (some 149) (.mv (.tmp 4)),
       .op (some 150) (.bin .sub (.tmp 149) (.const (.int .i64 2))),
       .op (some 151) (.mv (.tmp 16)),
       .op (some 152) (.bin .add (.tmp 151) (.const (.int .u32 1))),
       .op (some 153) (.ixs (.const (.string ⟨⟨[48, 48, 48, 49, 48, 50, 48, 51, 48, 52, 48, 53, 48, 54, 48, 55, 48, 56, 48, 57, 49, 48, 49, 49, 49, 50, 49, 51, 49, 52, 49, 53, 49, 54, 49, 55, 49, 56, 49, 57, 50, 48, 50, 49, 50, 50, 50, 51, 50, 52, 50, 53, 50, 54, 50, 55, 50, 56, 50, 57, 51, 48, 51, 49, 51, 50, 51, 51, 51, 52, 51, 53, 51, 54, 51, 55, 51, 56, 51, 57, 52, 48, 52, 49, 52, 50, 52, 51, 52, 52, 52, 53, 52, 54, 52, 55, 52, 56, 52, 57, 53, 48, 53, 49, 53, 50, 53, 51, 53, 52, 53, 53, 53, 54, 53, 55, 53, 56, 53, 57, 54, 48, 54, 49, 54, 50, 54, 51, 54, 52, 54, 53, 54, 54, 54, 55, 54, 56, 54, 57, 55, 48, 55, 49, 55, 50, 55, 51, 55, 52, 55, 53, 55, 54, 55, 55, 55, 56, 55, 57, 56, 48, 56, 49, 56, 50, 56, 51, 56, 52, 56, 53, 56, 54, 56, 55, 56, 56, 56, 57, 57, 48, 57, 49, 57, 50, 57, 51, 57, 52, 57, 53, 57, 54, 57, 55, 57, 56, 57, 57]⟩⟩)) (.tmp 152)),
       .op (some 154) (.mv (.tmp 16)),
       .op (some 155) (.ixs (.const (.string ⟨⟨[48, 48, 48, 49, 48, 50, 48, 51, 48, 52, 48, 53, 48, 54, 48, 55, 48, 56, 48, 57, 49, 48, 49, 49, 49, 50, 49, 51, 49, 52, 49, 53, 49, 54, 49, 55, 49, 56, 49, 57, 50, 48, 50, 49, 50, 50, 50, 51, 50, 52, 50, 53, 50, 54, 50, 55, 50, 56, 50, 57, 51, 48, 51, 49, 51, 50, 51, 51, 51, 52, 51, 53, 51, 54, 51, 55, 51, 56, 51, 57, 52, 48, 52, 49, 52, 50, 52, 51, 52, 52, 52, 53, 52, 54, 52, 55, 52, 56, 52, 57, 53, 48, 53, 49, 53, 50, 53, 51, 53, 52, 53, 53, 53, 54, 53, 55, 53, 56, 53, 57, 54, 48, 54, 49, 54, 50, 54, 51, 54, 52, 54, 53, 54, 54, 54, 55, 54, 56, 54, 57, 55, 48, 55, 49, 55, 50, 55, 51, 55, 52, 55, 53, 55, 54, 55, 55, 55, 56, 55, 57, 56, 48, 56, 49, 56, 50, 56, 51, 56, 52, 56, 53, 56, 54, 56, 55, 56, 56, 56, 57, 57, 48, 57, 49, 57, 50, 57, 51, 57, 52, 57, 53, 57, 54, 57, 55, 57, 56, 57, 57]⟩⟩)) (.tmp 154)),
       .op (some 156) (.ias 1 (.tmp 145) (.tmp 147)),
       .op none (.store 1 (.tmp 156) (.tmp 153)),
       .op (some 157) (.ias 1 (.tmp 148) (.tmp 150)),
       .op none (.store 1 (.tmp 157) (.tmp 155))])
    (.reg [
      .op (some 158) (.mv (.tmp 4)),
      .op (some 159) (.bin .sub (.tmp 158) (.const (.int .i64 2))),
      .op (some 4) (.mv (.tmp 159))]))))
    .skip))
  (.seq
   (.reg [
     .op (some 160) (.mv (.tmp 4)),
     .op (some 161) (.bin .gtr (.tmp 160) (.const (.int .i64 0)))])
  (.cond (.tmp 161)
   (.reg [
     .op (some 162) (.mv (.tmp 0)),
     .op (some 163) (.mv (.tmp 12)),
     .op (some 164) (.bin .add (.const (.int .u32 48)) (.tmp 163)),
     .op (some 165) (.cint .u8 (.tmp 164)),
     .op (some 166) (.ias 1 (.tmp 162) (.const (.int .i64 0))),
     .op none (.store 1 (.tmp 166) (.tmp 165))])
   .skip)))))))
theorem s107 : FnOK Tryz.prog 107 167 [] c107 :=
  .mk' [(7, [], [(0, []), (1, []), (2, []), (3, []), (4, []), (5, []), (6, []), (7, []), (8, []), (9, []), (10, []), (11, []), (12, []), (13, []), (14, [])]), (8, [], [(0, []), (1, []), (2, []), (3, []), (4, []), (5, []), (6, []), (7, []), (8, []), (9, []), (10, []), (11, []), (12, []), (13, []), (14, [])]), (9, [], [(0, []), (1, []), (2, []), (3, []), (4, []), (5, []), (6, []), (7, []), (8, []), (9, []), (10, []), (11, []), (12, []), (13, []), (14, [])]), (10, [], [(0, []), (1, []), (2, []), (3, []), (4, []), (5, []), (6, []), (7, []), (8, []), (9, []), (10, []), (11, []), (12, []), (13, []), (14, [])]), (17, [], [(0, []), (1, []), (2, []), (3, []), (4, []), (5, []), (6, []), (7, []), (8, []), (9, []), (10, []), (11, []), (12, []), (13, []), (14, [])]), (18, [], [(0, []), (1, []), (2, []), (3, []), (4, []), (5, []), (6, []), (7, []), (8, []), (9, []), (10, []), (11, []), (12, []), (13, []), (14, [])]), (23, [], [(0, []), (1, []), (2, []), (3, []), (4, []), (5, []), (6, []), (7, []), (8, []), (9, []), (10, []), (11, []), (12, []), (13, []), (14, [])])] Tryz.func107 (by kernel_rfl) (by kernel_rfl) (by kernel_rfl)
def c109 : MC :=
  (.seq
   (.reg [
     .op (some 4) (.mv (.const (.int .i64 0)))])
  (.seq
   (.seq
    (.reg [
      .op (some 6) (.mv (.tmp 0)),
      .op (some 7) (.lensl (.tmp 6)),
      .op (some 8) (.mv (.const (.int .i64 0)))])
   (.block 0
    (.loop
     (.seq
      (.reg [
        .op (some 9) (.bin .lss (.tmp 8) (.tmp 7))])
     (.seq
      (.cond (.tmp 9)
       .skip
       (.exit 0))
     (.seq
      (.block 1
       (.seq
        (.reg [
          .op (some 10) (.mv (.tmp 8)),
          .op (some 5) (.mv (.tmp 10))])
       (.seq
        (.reg [
          .op (some 11) (.mv (.tmp 1)),
          .op (some 12) (.mv (.tmp 0)),
          .op (some 13) (.mv (.tmp 5)),
          .op (some 14) (.ias 4 (.tmp 12) (.tmp 13)),
          .op (some 15) (.load true 4 (.tmp 14)),
          .op (some 16) (.call (.tmp 11) [(.tmp 15)])])
       (.cond (.tmp 16)
        (.seq
         (.reg [
           .op (some 17) (.mv (.tmp 5)),
           .op (some 4) (.mv (.tmp 17))])
        .ret)
        .skip))))
     (.reg [
       .op (some 18) (.bin .add (.tmp 8) (.const (.int .i64 1))),
       .op (some 8) (.mv (.tmp 18))])))))))
  (.seq
   (.reg [
     .op (some 4) (.mv (.const (.int .i64 (-1))))])
  .ret)))
theorem s109 : FnOK Tryz.prog 109 19 [ResultVar.tmp 4] c109 :=
  .mk' [] Tryz.func109 (by kernel_rfl) (by kernel_rfl) (by kernel_rfl)
def c111 : MC :=
  (.seq
   (.reg [
     .op (some 6) (.mv (.const (.int .i64 0)))])
  (.seq
   (.seq
    (.reg [
      .op (some 9) (.mv (.tmp 0)),
      .op (some 10) (.rng (.tmp 9))])
   (.block 0
    (.loop
     (.seq
      (.reg [
        .op (some 11) (.nxt (.tmp 10)),
        .op (some 12) (.ext (.tmp 11) 0)])
     (.seq
      (.cond (.tmp 12)
       .skip
       (.exit 0))
     (.block 1
      (.seq
       (.reg [
         .op (some 13) (.ext (.tmp 11) 1),
         .op (some 14) (.ext (.tmp 11) 2),
         .op (some 7) (.mv (.tmp 13)),
         .op (some 8) (.mv (.tmp 14))])
      (.seq
       (.reg [
         .op (some 15) (.mv (.tmp 1)),
         .op (some 16) (.mv (.tmp 8)),
         .op (some 17) (.call (.tmp 15) [(.tmp 16)]),
         .op (some 18) (.mv (.tmp 2)),
         .op (some 19) (.eqb false (.tmp 17) (.tmp 18))])
      (.cond (.tmp 19)
       (.seq
        (.reg [
          .op (some 20) (.mv (.tmp 7)),
          .op (some 6) (.mv (.tmp 20))])
       .ret)
       .skip)))))))))
  (.seq
   (.reg [
     .op (some 6) (.mv (.const (.int .i64 (-1))))])
  .ret)))
theorem s111 : FnOK Tryz.prog 111 21 [ResultVar.tmp 6] c111 :=
  .mk' [] Tryz.func111 (by kernel_rfl) (by kernel_rfl) (by kernel_rfl)
def c113 : MC :=
  (.seq
   (.reg [
     .op (some 1) (.box 36 (.tmp 0)),
     .op (some 2) (.mv (.const (.slice none 0 0)))])
  (.seq
   (.reg [
     .op (some 7) (.faddr 0 (.tmp 1)),
     .op (some 8) (.load false 1 (.tmp 7)),
     .op (some 9) (.call (.func 52) [(.tmp 8)]),
     .op (some 10) (.mkslice 122 16 [.bool false, .bool false, .bool false, .bool false, .int .i64 0] (.tmp 9) (.tmp 9)),
     .op (some 3) (.mv (.tmp 10))])
  (.seq
   (.seq
    (.reg [
      .op (some 11) (.load true 2 (.tmp 1)),
      .op (some 12) (.call (.func 155) [(.tmp 11)]),
      .op (some 13) (.lensl (.tmp 12)),
      .op (some 14) (.mv (.const (.int .i64 0)))])
   (.block 0
    (.loop
     (.seq
      (.reg [
        .op (some 15) (.bin .lss (.tmp 14) (.tmp 13))])
     (.seq
      (.cond (.tmp 15)
       .skip
       (.exit 0))
     (.seq
      (.block 1
       (.seq
        (.reg [
          .op (some 16) (.ias 4 (.tmp 12) (.tmp 14)),
          .op (some 17) (.load true 4 (.tmp 16)),
          .op (some 5) (.alloc [.int .i64 0, .int .i64 0, .int .i64 0, .int .i64 0] 108),
          .op none (.store 4 (.tmp 5) (.tmp 17))])
       (.seq
        (.reg [
          .op (some 18) (.faddr 0 (.tmp 5)),
          .op (some 19) (.load false 1 (.tmp 18)),
          .op (some 6) (.mv (.tmp 19))])
       (.block 2
        (.loop
         (.seq
          (.seq
           (.reg [
             .op (some 20) (.mv (.tmp 6)),
             .op (some 21) (.faddr 1 (.tmp 5)),
             .op (some 22) (.load false 1 (.tmp 21)),
             .op (some 23) (.bin .lss (.tmp 20) (.tmp 22))])
          (.cond (.tmp 23)
           .skip
           (.exit 2)))
         (.seq
          (.block 3
           (.reg [
             .op (some 26) (.mv (.tmp 3)),
             .op (some 27) (.mv (.tmp 6)),
             .op (some 28) (.ias 5 (.tmp 26) (.tmp 27)),
             .op (some 29) (.load true 4 (.tmp 5)),
             .op (some 30) (.call (.func 156) [(.tmp 28), (.tmp 29)])]))
         (.reg [
           .op (some 24) (.mv (.tmp 6)),
           .op (some 25) (.bin .add (.tmp 24) (.const (.int .i64 1))),
           .op (some 6) (.mv (.tmp 25))]))))))))
     (.reg [
       .op (some 31) (.bin .add (.tmp 14) (.const (.int .i64 1))),
       .op (some 14) (.mv (.tmp 31))])))))))
  (.seq
   (.reg [
     .op (some 32) (.mv (.tmp 3)),
     .op (some 2) (.mv (.tmp 32))])
  .ret))))
theorem s113 : FnOK Tryz.prog 113 33 [ResultVar.tmp 2] c113 :=
  .mk' [(8, [], [(0, []), (1, []), (2, []), (3, []), (4, [])])] Tryz.func113 (by kernel_rfl) (by kernel_rfl) (by kernel_rfl)
def c114 : MC :=
  (.seq
   (.reg [
     .op (some 3) (.box 192 (.tmp 0))])
  (.seq
   (.reg [
     .op (some 4) (.alloc [.int .i64 0] 3),
     .op none (.store 1 (.tmp 4) (.const (.int .i64 0)))])
  (.seq
   (.reg [
     .op (some 6) (.faddr 0 (.tmp 1)),
     .op (some 7) (.load false 1 (.tmp 6)),
     .op (some 8) (.call (.func 115) [(.tmp 7)])])
  (.block 0
   (.range (.tmp 8) [9]
    (.reg [
      .op (some 5) (.alloc [.int .i64 0, .int .i64 0, .int .i32 0, .bool false] 120),
      .op none (.store 4 (.tmp 5) (.tmp 9))])
    (.block 1
     (.seq
      (.seq
       (.reg [
         .op (some 10) (.load false 1 (.tmp 3)),
         .op (some 11) (.load true 4 (.tmp 5)),
         .op (some 12) (.load false 1 (.tmp 2)),
         .op (some 13) (.load false 1 (.tmp 4)),
         .op (some 14) (.ias 5 (.tmp 12) (.tmp 13)),
         .op (some 15) (.load true 5 (.tmp 14)),
         .op (some 16) (.call (.tmp 10) [(.tmp 11), (.tmp 15)]),
         .op (some 17) (.un .not (.tmp 16))])
      (.cond (.tmp 17)
       .ret
       .skip))
     (.reg [
       .op (some 18) (.load false 1 (.tmp 4)),
       .op (some 19) (.bin .add (.tmp 18) (.const (.int .i64 1))),
       .op none (.store 1 (.tmp 4) (.tmp 19))]))))))))
theorem s114 : FnOK Tryz.prog 114 20 [] c114 :=
  .mk' [(4, [], [(0, []), (1, []), (2, []), (3, []), (4, []), (5, []), (6, []), (7, [])])] Tryz.func114 (by kernel_rfl) (by kernel_rfl) (by kernel_rfl)
def c115 : MC :=
  (.seq
   (.reg [
     .op (some 1) (.box 9 (.tmp 0)),
     .op (some 2) (.mv (.const .nilFunc))])
  (.seq
   (.reg [
     .op (some 3) (.fnc 157 [] [(.tmp 1)]),
     .op (some 2) (.mv (.tmp 3))])
  .ret))
theorem s115 : FnOK Tryz.prog 115 4 [ResultVar.tmp 2] c115 :=
  .mk' [] Tryz.func115 (by kernel_rfl) (by kernel_rfl) (by kernel_rfl)
def c116 : MC :=
  (.seq
   (.reg [
     .op (some 4) (.alloc [.str [], .nilslice] 36),
     .op (some 5) (.mv (.const (.int .i64 0)))])
  (.seq
   (.seq
    (.reg [
      .op (some 10) (.mv (.tmp 0)),
      .op (some 11) (.lenstr (.tmp 10)),
      .op (some 12) (.bin .gtr (.tmp 11) (.const (.int .i64 4096)))])
   (.cond (.tmp 12)
    (.seq
     (.reg [
       .op (some 13) (.build [.str [], .nilslice] []),
       .op none (.store 2 (.tmp 4) (.tmp 13)),
       .op (some 5) (.mv (.const (.int .i64 3)))])
    .ret)
    .skip))
  (.seq
   (.reg [
     .op (some 6) (.mv (.const (.slice none 0 0)))])
  (.seq
   (.reg [
     .op (some 14) (.mv (.tmp 0)),
     .op (some 15) (.call (.func 52) [(.tmp 14)]),
     .op (some 7) (.mv (.tmp 15))])
  (.seq
   (.seq
    (.reg [
      .op (some 16) (.mv (.tmp 1)),
      .op (some 17) (.lensl (.tmp 16)),
      .op (some 18) (.mv (.const (.int .i64 0)))])
   (.block 0
    (.loop
     (.seq
      (.reg [
        .op (some 19) (.bin .lss (.tmp 18) (.tmp 17))])
     (.seq
      (.cond (.tmp 19)
       .skip
       (.exit 0))
     (.seq
      (.block 1
       (.seq
        (.reg [
          .op (some 20) (.ias 7 (.tmp 16) (.tmp 18)),
          .op (some 21) (.load true 7 (.tmp 20)),
          .op (some 9) (.alloc [.int .i64 0, .int .i64 0, .bool false, .bool false, .bool false, .bool false, .int .i64 0] 200),
          .op none (.store 7 (.tmp 9) (.tmp 21))])
       (.seq
        (.seq
         (.reg [
           .op (some 22) (.faddr 0 (.tmp 9)),
           .op (some 23) (.load false 1 (.tmp 22)),
           .op (some 24) (.mv (.tmp 6)),
           .op (some 25) (.lensl (.tmp 24)),
           .op (some 26) (.bin .neq (.tmp 23) (.tmp 25)),
           .op (some 27) (.mv (.tmp 26)),
           .gd (some 27) false (some 28) (.faddr 1 (.tmp 9)),
           .gd (some 27) false (some 29) (.load false 1 (.tmp 28)),
           .gd (some 27) false (some 30) (.faddr 0 (.tmp 9)),
           .gd (some 27) false (some 31) (.load false 1 (.tmp 30)),
           .gd (some 27) false (some 32) (.bin .leq (.tmp 29) (.tmp 31)),
           .op (some 33) (.pick (.tmp 27) (.const (.bool true)) (.tmp 32)),
           .op (some 34) (.mv (.tmp 33)),
           .gd (some 34) false (some 35) (.faddr 1 (.tmp 9)),
           .gd (some 34) false (some 36) (.load false 1 (.tmp 35)),
           .gd (some 34) false (some 37) (.mv (.tmp 7)),
           .gd (some 34) false (some 38) (.bin .gtr (.tmp 36) (.tmp 37)),
           .op (some 39) (.pick (.tmp 34) (.const (.bool true)) (.tmp 38)),
           .op (some 40) (.mv (.tmp 39)),
           .gd (some 40) false (some 41) (.faddr 2 (.tmp 9)),
           .gd (some 40) false (some 42) (.faddr 4 (.tmp 41)),
           .gd (some 40) false (some 43) (.load false 1 (.tmp 42)),
           .gd (some 40) false (some 44) (.bin .lss (.tmp 43) (.const (.int .i64 0))),
           .op (some 45) (.pick (.tmp 40) (.const (.bool true)) (.tmp 44)),
           .op (some 46) (.mv (.tmp 45)),
           .gd (some 46) false (some 47) (.faddr 2 (.tmp 9)),
           .gd (some 46) false (some 48) (.faddr 4 (.tmp 47)),
           .gd (some 46) false (some 49) (.load false 1 (.tmp 48)),
           .gd (some 46) false (some 50) (.bin .gtr (.tmp 49) (.const (.int .i64 16777216))),
           .op (some 51) (.pick (.tmp 46) (.const (.bool true)) (.tmp 50))])
        (.cond (.tmp 51)
         (.seq
          (.reg [
            .op (some 52) (.build [.str [], .nilslice] []),
            .op none (.store 2 (.tmp 4) (.tmp 52)),
            .op (some 5) (.mv (.const (.int .i64 1)))])
         .ret)
         .skip))
       (.seq
        (.reg [
          .op (some 53) (.faddr 1 (.tmp 9)),
          .op (some 54) (.load false 1 (.tmp 53)),
          .op (some 55) (.faddr 0 (.tmp 9)),
          .op (some 56) (.load false 1 (.tmp 55)),
          .op (some 57) (.bin .sub (.tmp 54) (.tmp 56)),
          .op (some 58) (.mv (.const (.int .i64 0)))])
       (.block 2
        (.loop
         (.seq
          (.reg [
            .op (some 59) (.bin .lss (.tmp 58) (.tmp 57))])
         (.seq
          (.cond (.tmp 59)
           .skip
           (.exit 2))
         (.seq
          (.block 3
           (.reg [
             .op (some 60) (.mv (.tmp 6)),
             .op (some 61) (.faddr 2 (.tmp 9)),
             .op (some 62) (.load true 5 (.tmp 61)),
             .op (some 63) (.bslice 122 1 [.bool false, .bool false, .bool false, .bool false, .int .i64 0] [(0, 5, (.tmp 62))]),
             .op (some 64) (.app 122 5 16 (.tmp 60) (.tmp 63)),
             .op (some 6) (.mv (.tmp 64))]))
         (.reg [
           .op (some 65) (.bin .add (.tmp 58) (.const (.int .i64 1))),
           .op (some 58) (.mv (.tmp 65))]))))))))))
     (.reg [
       .op (some 66) (.bin .add (.tmp 18) (.const (.int .i64 1))),
       .op (some 18) (.mv (.tmp 66))])))))))
  (.seq
   (.seq
    (.reg [
      .op (some 67) (.mv (.tmp 6)),
      .op (some 68) (.lensl (.tmp 67)),
      .op (some 69) (.mv (.tmp 7)),
      .op (some 70) (.bin .neq (.tmp 68) (.tmp 69))])
   (.cond (.tmp 70)
    (.seq
     (.reg [
       .op (some 71) (.build [.str [], .nilslice] []),
       .op none (.store 2 (.tmp 4) (.tmp 71)),
       .op (some 5) (.mv (.const (.int .i64 1)))])
    .ret)
    .skip))
  (.seq
   (.reg [
     .op (some 72) (.mv (.tmp 0)),
     .op (some 73) (.mv (.tmp 6)),
     .op (some 74) (.call (.func 146) [(.tmp 72), (.tmp 73)]),
     .op (some 75) (.ext (.tmp 74) 0),
     .op (some 76) (.ext (.tmp 74) 1),
     .op none (.store 2 (.tmp 4) (.tmp 75)),
     .op (some 5) (.mv (.tmp 76))])
  .ret)))))))
theorem s116 : FnOK Tryz.prog 116 77 [ResultVar.cell 4 36, ResultVar.tmp 5] c116 :=
  .mk' [] Tryz.func116 (by kernel_rfl) (by kernel_rfl) (by kernel_rfl)
def c117 : MC :=
  (.seq
   (.reg [
     .op (some 2) (.mv (.tmp 0)),
     .op (some 3) (.nilck (.tmp 2)),
     .op (some 4) (.faddr 0 (.tmp 3)),
     .op (some 5) (.load false 1 (.tmp 4)),
     .op (some 6) (.eqk false (.ptr true) (.tmp 5) (.const (.pointer none)))])
  (.cond (.tmp 6)
   (.reg [
     .op (some 7) (.mv (.tmp 0)),
     .op (some 8) (.mv (.tmp 0)),
     .op (some 9) (.gen (.convert 131 244 (.tmp 8))),
     .op (some 10) (.call (.func 159) [(.tmp 9)]),
     .op (some 11) (.gen (.convert 244 131 (.tmp 10))),
     .op (some 12) (.nilck (.tmp 7)),
     .op (some 13) (.faddr 0 (.tmp 12)),
     .op none (.store 1 (.tmp 13) (.tmp 11))])
   (.seq
    (.reg [
      .op (some 14) (.mv (.tmp 0)),
      .op (some 15) (.nilck (.tmp 14)),
      .op (some 16) (.faddr 0 (.tmp 15)),
      .op (some 17) (.load false 1 (.tmp 16)),
      .op (some 18) (.mv (.tmp 0)),
      .op (some 19) (.eqk true (.ptr true) (.tmp 17) (.tmp 18))])
   (.cond (.tmp 19)
    .refuse
    .skip))))
theorem s117 : FnOK Tryz.prog 117 20 [] c117 :=
  .mk' [] Tryz.func117 (by kernel_rfl) (by kernel_rfl) (by kernel_rfl)
def c120 : MC :=
  (.seq
   (.reg [
     .op (some 4) (.mv (.const (.int .i64 0)))])
  (.seq
   (.reg [
     .op (some 5) (.mv (.tmp 0)),
     .op (some 6) (.mv (.tmp 1)),
     .op (some 7) (.call (.func 162) [(.tmp 5), (.tmp 6)]),
     .op (some 4) (.mv (.tmp 7))])
  .ret))
theorem s120 : FnOK Tryz.prog 120 8 [ResultVar.tmp 4] c120 :=
  .mk' [] Tryz.func120 (by kernel_rfl) (by kernel_rfl) (by kernel_rfl)
def c124 : MC :=
  (.seq
   (.reg [
     .op (some 4) (.mv (.const (.bool false)))])
  (.seq
   (.reg [
     .op (some 5) (.mv (.tmp 0)),
     .op (some 6) (.lenstr (.tmp 5)),
     .op (some 7) (.mv (.tmp 1)),
     .op (some 8) (.lenstr (.tmp 7)),
     .op (some 9) (.bin .geq (.tmp 6) (.tmp 8)),
     .op (some 10) (.mv (.tmp 9)),
     .gd (some 10) true (some 11) (.mv (.tmp 0)),
     .gd (some 10) true (some 12) (.mv (.tmp 1)),
     .gd (some 10) true (some 13) (.lenstr (.tmp 12)),
     .gd (some 10) true (some 14) (.sstr (.tmp 11) none (some (.tmp 13))),
     .gd (some 10) true (some 15) (.mv (.tmp 1)),
     .gd (some 10) true (some 16) (.bin .eql (.tmp 14) (.tmp 15)),
     .op (some 17) (.pick (.tmp 10) (.tmp 16) (.const (.bool false))),
     .op (some 4) (.mv (.tmp 17))])
  .ret))
theorem s124 : FnOK Tryz.prog 124 18 [ResultVar.tmp 4] c124 :=
  .mk' [] Tryz.func124 (by kernel_rfl) (by kernel_rfl) (by kernel_rfl)
def c125 : MC :=
  (.seq
   (.reg [
     .op (some 4) (.mv (.const (.string ⟨⟨[]⟩⟩))),
     .op (some 5) (.mv (.const (.string ⟨⟨[]⟩⟩))),
     .op (some 6) (.mv (.const (.bool false)))])
  (.seq
   (.seq
    (.reg [
      .op (some 8) (.mv (.tmp 0)),
      .op (some 9) (.mv (.tmp 1)),
      .op (some 10) (.call (.func 163) [(.tmp 8), (.tmp 9)]),
      .op (some 7) (.mv (.tmp 10))])
   (.seq
    (.reg [
      .op (some 11) (.mv (.tmp 7)),
      .op (some 12) (.bin .geq (.tmp 11) (.const (.int .i64 0)))])
   (.cond (.tmp 12)
    (.seq
     (.reg [
       .op (some 13) (.mv (.tmp 0)),
       .op (some 14) (.mv (.tmp 7)),
       .op (some 15) (.sstr (.tmp 13) none (some (.tmp 14))),
       .op (some 16) (.mv (.tmp 0)),
       .op (some 17) (.mv (.tmp 7)),
       .op (some 18) (.mv (.tmp 1)),
       .op (some 19) (.lenstr (.tmp 18)),
       .op (some 20) (.bin .add (.tmp 17) (.tmp 19)),
       .op (some 21) (.sstr (.tmp 16) (some (.tmp 20)) none),
       .op (some 4) (.mv (.tmp 15)),
       .op (some 5) (.mv (.tmp 21)),
       .op (some 6) (.mv (.const (.bool true)))])
    .ret)
    .skip)))
  (.seq
   (.reg [
     .op (some 22) (.mv (.tmp 0)),
     .op (some 4) (.mv (.tmp 22)),
     .op (some 5) (.mv (.const (.string ⟨⟨[]⟩⟩))),
     .op (some 6) (.mv (.const (.bool false)))])
  .ret)))
theorem s125 : FnOK Tryz.prog 125 23 [ResultVar.tmp 4, ResultVar.tmp 5, ResultVar.tmp 6] c125 :=
  .mk' [(3, [], [(0, []), (1, []), (2, []), (3, []), (4, []), (5, []), (6, []), (7, []), (8, []), (9, []), (10, []), (11, [])])] Tryz.func125 (by kernel_rfl) (by kernel_rfl) (by kernel_rfl)
def c127 : MC :=
  (.seq
   (.reg [
     .op (some 4) (.mv (.const (.int .i64 0)))])
  (.seq
   (.reg [
     .op (some 6) (.mv (.tmp 0)),
     .op (some 7) (.nilck (.tmp 6)),
     .op (some 8) (.faddr 0 (.tmp 7)),
     .op (some 9) (.load false 1 (.tmp 8)),
     .op (some 10) (.call (.func 120) [(.tmp 9), (.const (.int .u8 58))]),
     .op (some 5) (.mv (.tmp 10))])
  (.seq
   (.seq
    (.reg [
      .op (some 11) (.mv (.tmp 5)),
      .op (some 12) (.mv (.tmp 1)),
      .op (some 13) (.bin .lss (.tmp 11) (.tmp 12)),
      .op (some 14) (.mv (.tmp 13)),
      .gd (some 14) false (some 15) (.mv (.tmp 5)),
      .gd (some 14) false (some 16) (.bin .gtr (.tmp 15) (.const (.int .i64 3))),
      .op (some 17) (.pick (.tmp 14) (.const (.bool true)) (.tmp 16)),
      .op (some 18) (.mv (.tmp 17)),
      .gd (some 18) false (some 19) (.mv (.tmp 5)),
      .gd (some 18) false (some 20) (.mv (.tmp 1)),
      .gd (some 18) false (some 21) (.bin .gtr (.tmp 19) (.tmp 20)),
      .gd (some 18) false (some 22) (.mv (.tmp 21)),
      .gd (some 22) true (some 23) (.mv (.tmp 0)),
      .gd (some 22) true (some 24) (.nilck (.tmp 23)),
      .gd (some 22) true (some 25) (.faddr 0 (.tmp 24)),
      .gd (some 22) true (some 26) (.load false 1 (.tmp 25)),
      .gd (some 22) true (some 27) (.ixs (.tmp 26) (.const (.int .i64 0))),
      .gd (some 22) true (some 28) (.bin .eql (.tmp 27) (.const (.int .u8 48))),
      .gd (some 18) false (some 29) (.pick (.tmp 22) (.tmp 28) (.const (.bool false))),
      .op (some 30) (.pick (.tmp 18) (.const (.bool true)) (.tmp 29))])
   (.cond (.tmp 30)
    (.seq
     (.reg [
       .op (some 31) (.mv (.tmp 0)),
       .op (some 32) (.nilck (.tmp 31)),
       .op (some 33) (.faddr 1 (.tmp 32)),
       .op none (.store 1 (.tmp 33) (.const (.bool true)))])
    (.seq
     (.reg [
       .op (some 4) (.mv (.const (.int .i64 0)))])
    .ret))
    .skip))
  (.seq
   (.reg [
     .op (some 34) (.mv (.tmp 0)),
     .op (some 35) (.mv (.tmp 5)),
     .op (some 36) (.call (.func 130) [(.tmp 34), (.tmp 35)]),
     .op (some 4) (.mv (.tmp 36))])
  .ret))))
theorem s127 : FnOK Tryz.prog 127 37 [ResultVar.tmp 4] c127 :=
  .mk' [] Tryz.func127 (by kernel_rfl) (by kernel_rfl) (by kernel_rfl)
def c128 : MC :=
  (.seq
   (.reg [
     .op (some 7) (.mv (.tmp 0)),
     .op (some 8) (.nilck (.tmp 7)),
     .op (some 9) (.faddr 0 (.tmp 8)),
     .op (some 10) (.load false 1 (.tmp 9)),
     .op (some 11) (.mv (.tmp 1)),
     .op (some 12) (.call (.func 131) [(.tmp 10), (.tmp 11)]),
     .op (some 6) (.mv (.tmp 12)),
     .op (some 13) (.ext (.tmp 6) 0),
     .op (some 14) (.ext (.tmp 6) 1),
     .op (some 4) (.mv (.tmp 13)),
     .op (some 5) (.mv (.tmp 14))])
  (.reg [
    .op (some 15) (.mv (.tmp 0)),
    .op (some 16) (.mv (.tmp 0)),
    .op (some 17) (.mv (.tmp 4)),
    .op (some 18) (.mv (.tmp 0)),
    .op (some 19) (.nilck (.tmp 18)),
    .op (some 20) (.faddr 1 (.tmp 19)),
    .op (some 21) (.load false 1 (.tmp 20)),
    .op (some 22) (.mv (.tmp 21)),
    .gd (some 22) false (some 23) (.mv (.tmp 5)),
    .gd (some 22) false (some 24) (.un .not (.tmp 23)),
    .op (some 25) (.pick (.tmp 22) (.const (.bool true)) (.tmp 24)),
    .op (some 26) (.nilck (.tmp 15)),
    .op (some 27) (.faddr 0 (.tmp 26)),
    .op none (.store 1 (.tmp 27) (.tmp 17)),
    .op (some 28) (.nilck (.tmp 16)),
    .op (some 29) (.faddr 1 (.tmp 28)),
    .op none (.store 1 (.tmp 29) (.tmp 25))]))
theorem s128 : FnOK Tryz.prog 128 30 [] c128 :=
  .mk' [] Tryz.func128 (by kernel_rfl) (by kernel_rfl) (by kernel_rfl)
def c129 : MC :=
  (.seq
   (.reg [
     .op (some 6) (.mv (.const (.int .i64 0)))])
  (.seq
   (.reg [
     .op (some 8) (.mv (.tmp 0)),
     .op (some 9) (.mv (.tmp 1)),
     .op (some 10) (.call (.func 130) [(.tmp 8), (.tmp 9)]),
     .op (some 7) (.mv (.tmp 10))])
  (.seq
   (.reg [
     .op (some 11) (.mv (.tmp 0)),
     .op (some 12) (.mv (.tmp 0)),
     .op (some 13) (.nilck (.tmp 12)),
     .op (some 14) (.faddr 1 (.tmp 13)),
     .op (some 15) (.load false 1 (.tmp 14)),
     .op (some 16) (.mv (.tmp 15)),
     .gd (some 16) false (some 17) (.mv (.tmp 7)),
     .gd (some 16) false (some 18) (.mv (.tmp 2)),
     .gd (some 16) false (some 19) (.bin .geq (.tmp 17) (.tmp 18)),
     .op (some 20) (.pick (.tmp 16) (.const (.bool true)) (.tmp 19)),
     .op (some 21) (.nilck (.tmp 11)),
     .op (some 22) (.faddr 1 (.tmp 21)),
     .op none (.store 1 (.tmp 22) (.tmp 20))])
  (.seq
   (.reg [
     .op (some 23) (.mv (.tmp 7)),
     .op (some 6) (.mv (.tmp 23))])
  .ret))))
theorem s129 : FnOK Tryz.prog 129 24 [ResultVar.tmp 6] c129 :=
  .mk' [] Tryz.func129 (by kernel_rfl) (by kernel_rfl) (by kernel_rfl)
def c130 : MC :=
  (.seq
   (.reg [
     .op (some 4) (.mv (.const (.int .i64 0)))])
  (.seq
   (.seq
    (.reg [
      .op (some 8) (.mv (.tmp 0)),
      .op (some 9) (.nilck (.tmp 8)),
      .op (some 10) (.faddr 0 (.tmp 9)),
      .op (some 11) (.load false 1 (.tmp 10)),
      .op (some 12) (.lenstr (.tmp 11)),
      .op (some 13) (.mv (.tmp 1)),
      .op (some 14) (.bin .lss (.tmp 12) (.tmp 13)),
      .op (some 15) (.mv (.tmp 14)),
      .gd (some 15) false (some 16) (.mv (.tmp 1)),
      .gd (some 15) false (some 17) (.bin .lss (.tmp 16) (.const (.int .i64 1))),
      .op (some 18) (.pick (.tmp 15) (.const (.bool true)) (.tmp 17))])
   (.cond (.tmp 18)
    (.seq
     (.reg [
       .op (some 19) (.mv (.tmp 0)),
       .op (some 20) (.nilck (.tmp 19)),
       .op (some 21) (.faddr 1 (.tmp 20)),
       .op none (.store 1 (.tmp 21) (.const (.bool true)))])
    (.seq
     (.reg [
       .op (some 4) (.mv (.const (.int .i64 0)))])
    .ret))
    .skip))
  (.seq
   (.reg [
     .op (some 5) (.mv (.const (.int .i64 0)))])
  (.seq
   (.seq
    (.reg [
      .op (some 22) (.mv (.tmp 0)),
      .op (some 23) (.nilck (.tmp 22)),
      .op (some 24) (.faddr 0 (.tmp 23)),
      .op (some 25) (.load false 1 (.tmp 24)),
      .op (some 26) (.mv (.tmp 1)),
      .op (some 27) (.sstr (.tmp 25) none (some (.tmp 26))),
      .op (some 28) (.cbytes 5 (.tmp 27)),
      .op (some 29) (.lensl (.tmp 28)),
      .op (some 30) (.mv (.const (.int .i64 0)))])
   (.block 0
    (.loop
     (.seq
      (.reg [
        .op (some 31) (.bin .lss (.tmp 30) (.tmp 29))])
     (.seq
      (.cond (.tmp 31)
       .skip
       (.exit 0))
     (.seq
      (.block 1
       (.seq
        (.reg [
          .op (some 32) (.ias 1 (.tmp 28) (.tmp 30)),
          .op (some 33) (.load false 1 (.tmp 32)),
          .op (some 7) (.mv (.tmp 33))])
       (.seq
        (.seq
         (.reg [
           .op (some 34) (.mv (.tmp 7)),
           .op (some 35) (.bin .lss (.tmp 34) (.const (.int .u8 48))),
           .op (some 36) (.mv (.tmp 35)),
           .gd (some 36) false (some 37) (.mv (.tmp 7)),
           .gd (some 36) false (some 38) (.bin .gtr (.tmp 37) (.const (.int .u8 57))),
           .op (some 39) (.pick (.tmp 36) (.const (.bool true)) (.tmp 38))])
        (.cond (.tmp 39)
         (.reg [
           .op (some 40) (.mv (.tmp 0)),
           .op (some 41) (.nilck (.tmp 40)),
           .op (some 42) (.faddr 1 (.tmp 41)),
           .op none (.store 1 (.tmp 42) (.const (.bool true)))])
         .skip))
       (.reg [
         .op (some 43) (.mv (.tmp 5)),
         .op (some 44) (.bin .mul (.const (.int .i64 10)) (.tmp 43)),
         .op (some 45) (.mv (.tmp 7)),
         .op (some 46) (.bin .sub (.tmp 45) (.const (.int .u8 48))),
         .op (some 47) (.cint .i64 (.tmp 46)),
         .op (some 48) (.bin .add (.tmp 44) (.tmp 47)),
         .op (some 5) (.mv (.tmp 48))]))))
     (.reg [
       .op (some 49) (.bin .add (.tmp 30) (.const (.int .i64 1))),
       .op (some 30) (.mv (.tmp 49))])))))))
  (.seq
   (.reg [
     .op (some 50) (.mv (.tmp 0)),
     .op (some 51) (.mv (.tmp 0)),
     .op (some 52) (.nilck (.tmp 51)),
     .op (some 53) (.faddr 0 (.tmp 52)),
     .op (some 54) (.load false 1 (.tmp 53)),
     .op (some 55) (.mv (.tmp 1)),
     .op (some 56) (.sstr (.tmp 54) (some (.tmp 55)) none),
     .op (some 57) (.nilck (.tmp 50)),
     .op (some 58) (.faddr 0 (.tmp 57)),
     .op none (.store 1 (.tmp 58) (.tmp 56))])
  (.seq
   (.reg [
     .op (some 59) (.mv (.tmp 5)),
     .op (some 4) (.mv (.tmp 59))])
  .ret))))))
theorem s130 : FnOK Tryz.prog 130 60 [ResultVar.tmp 4] c130 :=
  .mk' [] Tryz.func130 (by kernel_rfl) (by kernel_rfl) (by kernel_rfl)
def c131 : MC :=
  (.seq
   (.reg [
     .op (some 4) (.mv (.const (.string ⟨⟨[]⟩⟩))),
     .op (some 5) (.mv (.const (.bool false)))])
  (.seq
   (.reg [
     .op (some 6) (.mv (.tmp 0)),
     .op (some 7) (.mv (.tmp 1)),
     .op (some 8) (.call (.func 167) [(.tmp 6), (.tmp 7)]),
     .op (some 9) (.ext (.tmp 8) 0),
     .op (some 10) (.ext (.tmp 8) 1),
     .op (some 4) (.mv (.tmp 9)),
     .op (some 5) (.mv (.tmp 10))])
  .ret))
theorem s131 : FnOK Tryz.prog 131 11 [ResultVar.tmp 4, ResultVar.tmp 5] c131 :=
  .mk' [] Tryz.func131 (by kernel_rfl) (by kernel_rfl) (by kernel_rfl)
def c132 : MC :=
  (.seq
   (.reg [
     .op (some 4) (.mv (.const (.bool false)))])
  (.seq
   (.reg [
     .op (some 5) (.mv (.tmp 0)),
     .op (some 6) (.nilck (.tmp 5)),
     .op (some 7) (.faddr 3 (.tmp 6)),
     .op (some 8) (.load false 1 (.tmp 7)),
     .op (some 9) (.mv (.tmp 0)),
     .op (some 10) (.nilck (.tmp 9)),
     .op (some 11) (.faddr 3 (.tmp 10)),
     .op (some 12) (.load false 1 (.tmp 11)),
     .op (some 13) (.lensl (.tmp 12)),
     .op (some 14) (.bin .sub (.tmp 13) (.const (.int .i64 4))),
     .op (some 15) (.mx (.const (.int .i64 0)) (.tmp 14)),
     .op (some 16) (.ssl 5 1 (.tmp 8) (some (.tmp 15)) none none),
     .op (some 17) (.cstr true (.tmp 16)),
     .op (some 18) (.mv (.tmp 0)),
     .op (some 19) (.nilck (.tmp 18)),
     .op (some 20) (.faddr 1 (.tmp 19)),
     .op (some 21) (.load false 1 (.tmp 20)),
     .op (some 22) (.mv (.tmp 0)),
     .op (some 23) (.nilck (.tmp 22)),
     .op (some 24) (.faddr 2 (.tmp 23)),
     .op (some 25) (.load false 1 (.tmp 24)),
     .op (some 26) (.mv (.tmp 1)),
     .op (some 27) (.bin .add (.tmp 25) (.tmp 26)),
     .op (some 28) (.mv (.tmp 0)),
     .op (some 29) (.nilck (.tmp 28)),
     .op (some 30) (.faddr 1 (.tmp 29)),
     .op (some 31) (.load false 1 (.tmp 30)),
     .op (some 32) (.lenstr (.tmp 31)),
     .op (some 33) (.mv (.tmp 0)),
     .op (some 34) (.nilck (.tmp 33)),
     .op (some 35) (.faddr 2 (.tmp 34)),
     .op (some 36) (.load false 1 (.tmp 35)),
     .op (some 37) (.mv (.tmp 1)),
     .op (some 38) (.bin .add (.tmp 36) (.tmp 37)),
     .op (some 39) (.bin .add (.tmp 38) (.const (.int .i64 4))),
     .op (some 40) (.mn (.tmp 32) (.tmp 39)),
     .op (some 41) (.sstr (.tmp 21) (some (.tmp 27)) (some (.tmp 40))),
     .op (some 42) (.call (.func 168) [(.tmp 17), (.tmp 41)]),
     .op (some 43) (.un .not (.tmp 42)),
     .op (some 4) (.mv (.tmp 43))])
  .ret))
theorem s132 : FnOK Tryz.prog 132 44 [ResultVar.tmp 4] c132 :=
  .mk' [(1, [], [(0, []), (1, []), (2, []), (3, []), (4, []), (5, []), (6, []), (7, []), (8, []), (9, []), (10, []), (11, []), (12, []), (13, []), (14, []), (15, []), (16, []), (17, []), (18, []), (19, []), (20, []), (21, []), (22, []), (23, []), (24, []), (25, []), (26, []), (27, []), (28, []), (29, []), (30, []), (31, []), (32, []), (33, []), (34, []), (35, []), (36, []), (37, []), (38, []), (39, [])])] Tryz.func132 (by kernel_rfl) (by kernel_rfl) (by kernel_rfl)
def c134 : MC :=
  (.seq
   (.reg [
     .op (some 2) (.alloc [.bool false, .bool false, .bool false, .bool false, .int .i64 0] 122)])
  (.seq
   (.reg [
     .op (some 5) (.mv (.tmp 0)),
     .op (some 6) (.nilck (.tmp 5)),
     .op (some 7) (.faddr 11 (.tmp 6)),
     .op (some 8) (.load true 5 (.tmp 7)),
     .op (some 3) (.alloc [.bool false, .bool false, .bool false, .bool false, .int .i64 0] 122),
     .op none (.store 5 (.tmp 3) (.tmp 8))])
  (.seq
   (.seq
    (.reg [
      .op (some 9) (.mv (.tmp 0)),
      .op (some 10) (.nilck (.tmp 9)),
      .op (some 11) (.faddr 0 (.tmp 10)),
      .op (some 12) (.load false 1 (.tmp 11)),
      .op (some 13) (.bin .eql (.tmp 12) (.const (.int .i64 1))),
      .op (some 14) (.mv (.tmp 13)),
      .gd (some 14) false (some 15) (.mv (.tmp 0)),
      .gd (some 14) false (some 16) (.nilck (.tmp 15)),
      .gd (some 14) false (some 17) (.faddr 0 (.tmp 16)),
      .gd (some 14) false (some 18) (.load false 1 (.tmp 17)),
      .gd (some 14) false (some 19) (.bin .eql (.tmp 18) (.const (.int .i64 2))),
      .op (some 20) (.pick (.tmp 14) (.const (.bool true)) (.tmp 19))])
   (.cond (.tmp 20)
    (.seq
     (.reg [
       .op (some 21) (.mv (.tmp 0)),
       .op (some 22) (.nilck (.tmp 21)),
       .op (some 23) (.faddr 5 (.tmp 22)),
       .op (some 24) (.iaa 5 1 (.tmp 23) (.const (.int .i64 1))),
       .op (some 25) (.load false 1 (.tmp 24)),
       .op (some 26) (.bin .gtr (.tmp 25) (.const (.int .i64 0))),
       .op (some 27) (.mv (.tmp 0)),
       .op (some 28) (.nilck (.tmp 27)),
       .op (some 29) (.faddr 5 (.tmp 28)),
       .op (some 30) (.iaa 5 1 (.tmp 29) (.const (.int .i64 2))),
       .op (some 31) (.load false 1 (.tmp 30)),
       .op (some 32) (.bin .gtr (.tmp 31) (.const (.int .i64 0))),
       .op (some 33) (.mv (.tmp 0)),
       .op (some 34) (.nilck (.tmp 33)),
       .op (some 35) (.faddr 5 (.tmp 34)),
       .op (some 36) (.iaa 5 1 (.tmp 35) (.const (.int .i64 3))),
       .op (some 37) (.load false 1 (.tmp 36)),
       .op (some 38) (.bin .gtr (.tmp 37) (.const (.int .i64 0))),
       .op (some 39) (.mv (.tmp 0)),
       .op (some 40) (.nilck (.tmp 39)),
       .op (some 41) (.faddr 5 (.tmp 40)),
       .op (some 42) (.iaa 5 1 (.tmp 41) (.const (.int .i64 4))),
       .op (some 43) (.load false 1 (.tmp 42)),
       .op (some 44) (.bin .gtr (.tmp 43) (.const (.int .i64 0))),
       .op (some 45) (.build [.bool false, .bool false, .bool false, .bool false, .int .i64 0] [(0, 1, (.tmp 26)), (1, 1, (.tmp 32)), (2, 1, (.tmp 38)), (3, 1, (.tmp 44))]),
       .op none (.store 5 (.tmp 3) (.tmp 45))])
    (.seq
     (.reg [
       .op (some 46) (.mv (.tmp 0)),
       .op (some 47) (.nilck (.tmp 46)),
       .op (some 48) (.faddr 10 (.tmp 47)),
       .op (some 49) (.load false 1 (.tmp 48)),
       .op (some 50) (.lensl (.tmp 49)),
       .op (some 4) (.mv (.tmp 50))])
    (.seq
     (.reg [
       .op (some 51) (.mv (.tmp 4)),
       .op (some 52) (.bin .gtr (.tmp 51) (.const (.int .i64 0)))])
    (.cond (.tmp 52)
     (.reg [
       .op (some 53) (.mv (.tmp 0)),
       .op (some 54) (.nilck (.tmp 53)),
       .op (some 55) (.faddr 10 (.tmp 54)),
       .op (some 56) (.load false 1 (.tmp 55)),
       .op (some 57) (.mv (.tmp 4)),
       .op (some 58) (.bin .sub (.tmp 57) (.const (.int .i64 1))),
       .op (some 59) (.ias 1 (.tmp 56) (.tmp 58)),
       .op (some 60) (.load false 1 (.tmp 59)),
       .op (some 61) (.faddr 4 (.tmp 3)),
       .op none (.store 1 (.tmp 61) (.tmp 60))])
     .skip))))
    .skip))
  (.seq
   (.reg [
     .op (some 62) (.load true 5 (.tmp 3)),
     .op none (.store 5 (.tmp 2) (.tmp 62))])
  .ret))))
theorem s134 : FnOK Tryz.prog 134 63 [ResultVar.cell 2 122] c134 :=
  .mk' [(3, [], [(0, []), (1, []), (2, []), (3, []), (4, []), (5, []), (6, []), (7, []), (8, []), (9, []), (10, []), (11, []), (12, []), (13, []), (14, []), (15, []), (16, []), (17, []), (18, []), (19, []), (20, []), (21, []), (22, []), (23, []), (24, []), (25, [])])] Tryz.func134 (by kernel_rfl) (by kernel_rfl) (by kernel_rfl)
def c136 : MC :=
  (.seq
   (.reg [
     .op (some 5) (.mv (.tmp 0)),
     .op (some 6) (.nilck (.tmp 5)),
     .op (some 7) (.faddr 1 (.tmp 6)),
     .op (some 8) (.load false 1 (.tmp 7)),
     .op (some 9) (.gen (.call ⟨.builtin .cap, ⟨[(.tmp 8)]⟩, ⟨[33]⟩⟩)),
     .op (some 10) (.bin .mul (.const (.int .i64 2)) (.tmp 9)),
     .op (some 11) (.mv (.tmp 1)),
     .op (some 12) (.bin .add (.tmp 10) (.tmp 11)),
     .op (some 14) (.mv (.tmp 0)),
     .op (some 15) (.nilck (.tmp 14)),
     .op (some 16) (.faddr 1 (.tmp 15)),
     .op (some 17) (.load false 1 (.tmp 16)),
     .op (some 18) (.lensl (.tmp 17)),
     .op (some 13) (.call (.func 170) [(.tmp 12)]),
     .ck false none (some 17) (.load false 1 (.tmp 16)),
     .op (some 19) (.ssl 5 1 (.tmp 13) none (some (.tmp 18)) none),
     .op (some 4) (.mv (.tmp 19))])
  (.seq
   (.reg [
     .op (some 20) (.mv (.tmp 4)),
     .op (some 21) (.mv (.tmp 0)),
     .op (some 22) (.nilck (.tmp 21)),
     .op (some 23) (.faddr 1 (.tmp 22)),
     .op (some 24) (.load false 1 (.tmp 23)),
     .op (some 25) (.cpy 1 (.tmp 20) (.tmp 24))])
  (.reg [
    .op (some 26) (.mv (.tmp 0)),
    .op (some 27) (.mv (.tmp 4)),
    .op (some 28) (.nilck (.tmp 26)),
    .op (some 29) (.faddr 1 (.tmp 28)),
    .op none (.store 1 (.tmp 29) (.tmp 27))])))
theorem s136 : FnOK Tryz.prog 136 30 [] c136 :=
  .mk' [(0, [], [(0, []), (1, []), (2, []), (3, []), (4, []), (5, []), (6, []), (7, []), (9, []), (10, []), (11, []), (12, []), (13, []), (8, [12]), (14, []), (15, [])])] Tryz.func136 (by kernel_rfl) (by kernel_rfl) (by kernel_rfl)
def c137 : MC :=
  (.seq
   (.reg [
     .op (some 2) (.alloc [.int .i64 0] 22)])
  (.seq
   (.seq
    (.reg [
      .op (some 4) (.mv (.tmp 0)),
      .op (some 5) (.lenstr (.tmp 4)),
      .op (some 6) (.bin .gtr (.tmp 5) (.const (.int .i64 64)))])
   (.cond (.tmp 6)
    (.seq
     (.reg [
       .op none (.store 1 (.tmp 2) (.const (.int .i64 25)))])
    .ret)
    .skip))
  (.seq
   (.seq
    (.reg [
      .op (some 7) (.mv (.tmp 0)),
      .op (some 8) (.call (.func 115) [(.tmp 7)])])
   (.block 0
    (.range (.tmp 8) [9]
     (.reg [
       .op (some 3) (.alloc [.int .i64 0, .int .i64 0, .int .i32 0, .bool false] 120),
       .op none (.store 4 (.tmp 3) (.tmp 9))])
     (.block 1
      (.seq
       (.reg [
         .op (some 10) (.faddr 2 (.tmp 3)),
         .op (some 11) (.load false 1 (.tmp 10)),
         .op (some 12) (.bin .lss (.tmp 11) (.const (.int .i32 32)))])
      (.cond (.tmp 12)
       (.seq
        (.reg [
          .op none (.store 1 (.tmp 2) (.const (.int .i64 25)))])
       .ret)
       .skip))))))
  (.seq
   (.reg [
     .op none (.store 1 (.tmp 2) (.const (.int .i64 0)))])
  .ret))))
theorem s137 : FnOK Tryz.prog 137 13 [ResultVar.cell 2 22] c137 :=
  .mk' [] Tryz.func137 (by kernel_rfl) (by kernel_rfl) (by kernel_rfl)
def c138 : MC :=
  (.seq
   (.reg [
     .op (some 2) (.alloc [.int .u64 0, .int .u64 0] 170)])
  (.seq
   (.reg [
     .op (some 3) (.mv (.tmp 0)),
     .op (some 4) (.build [.int .u64 0, .int .u64 0] [(1, 1, (.tmp 3))]),
     .op none (.store 2 (.tmp 2) (.tmp 4))])
  .ret))
theorem s138 : FnOK Tryz.prog 138 5 [ResultVar.cell 2 170] c138 :=
  .mk' [] Tryz.func138 (by kernel_rfl) (by kernel_rfl) (by kernel_rfl)
def c139 : MC :=
  (.seq
   (.reg [
     .op (some 1) (.box 225 (.tmp 0)),
     .op (some 2) (.alloc [.int .i64 0, .int .i64 0] 38),
     .op (some 3) (.mv (.const (.int .i64 0)))])
  (.seq
   (.reg [
     .op (some 10) (.faddr 1 (.tmp 1)),
     .op (some 11) (.load true 2 (.tmp 10)),
     .op (some 12) (.faddr 3 (.tmp 1)),
     .op (some 13) (.load true 2 (.tmp 12)),
     .op (some 14) (.call (.func 171) [(.tmp 11), (.tmp 13)]),
     .op (some 4) (.alloc [.int .u64 0, .int .u64 0] 170),
     .op none (.store 2 (.tmp 4) (.tmp 14))])
  (.seq
   (.reg [
     .op (some 16) (.faddr 1 (.tmp 1)),
     .op (some 17) (.load true 2 (.tmp 16)),
     .op (some 18) (.load true 2 (.tmp 4)),
     .op (some 19) (.call (.func 172) [(.tmp 17), (.tmp 18)]),
     .op (some 15) (.mv (.tmp 19)),
     .op (some 20) (.ext (.tmp 15) 0),
     .op (some 21) (.ext (.tmp 15) 1),
     .op (some 5) (.alloc [.int .u64 0, .int .u64 0] 170),
     .op (some 6) (.alloc [.int .u64 0, .int .u64 0] 170),
     .op none (.store 2 (.tmp 5) (.tmp 20)),
     .op none (.store 2 (.tmp 6) (.tmp 21))])
  (.seq
   (.reg [
     .op (some 23) (.faddr 3 (.tmp 1)),
     .op (some 24) (.load true 2 (.tmp 23)),
     .op (some 25) (.load true 2 (.tmp 4)),
     .op (some 26) (.call (.func 172) [(.tmp 24), (.tmp 25)]),
     .op (some 22) (.mv (.tmp 26)),
     .op (some 27) (.ext (.tmp 22) 0),
     .op (some 28) (.ext (.tmp 22) 1),
     .op (some 7) (.alloc [.int .u64 0, .int .u64 0] 170),
     .op (some 8) (.alloc [.int .u64 0, .int .u64 0] 170),
     .op none (.store 2 (.tmp 7) (.tmp 27)),
     .op none (.store 2 (.tmp 8) (.tmp 28))])
  (.seq
   (.seq
    (.reg [
      .op (some 29) (.load true 2 (.tmp 5)),
      .op (some 30) (.call (.func 138) [(.const (.int .u64 4611686018427387904))]),
      .ck false none (some 29) (.load true 2 (.tmp 5)),
      .op (some 31) (.call (.func 96) [(.tmp 29), (.tmp 30)]),
      .op (some 32) (.bin .gtr (.tmp 31) (.const (.int .i64 0))),
      .op (some 33) (.mv (.tmp 32)),
      .gd (some 33) false (some 34) (.load true 2 (.tmp 7)),
      .gd (some 33) false (some 35) (.call (.func 138) [(.const (.int .u64 2147483648))]),
      .ck false (some ((some 33), false)) (some 34) (.load true 2 (.tmp 7)),
      .gd (some 33) false (some 36) (.call (.func 96) [(.tmp 34), (.tmp 35)]),
      .gd (some 33) false (some 37) (.bin .gtr (.tmp 36) (.const (.int .i64 0))),
      .op (some 38) (.pick (.tmp 33) (.const (.bool true)) (.tmp 37))])
   (.cond (.tmp 38)
    (.seq
     (.reg [
       .op (some 39) (.build [.int .i64 0, .int .i64 0] []),
       .op none (.store 2 (.tmp 2) (.tmp 39)),
       .op (some 3) (.mv (.const (.int .i64 12)))])
    .ret)
    .skip))
  (.seq
   (.reg [
     .op (some 40) (.faddr 1 (.tmp 5)),
     .op (some 41) (.load false 1 (.tmp 40)),
     .op (some 42) (.cint .i64 (.tmp 41)),
     .op (some 43) (.faddr 1 (.tmp 7)),
     .op (some 44) (.load false 1 (.tmp 43)),
     .op (some 45) (.cint .i64 (.tmp 44)),
     .op (some 46) (.build [.int .i64 0, .int .i64 0] [(0, 1, (.tmp 42)), (1, 1, (.tmp 45))]),
     .op (some 9) (.alloc [.int .i64 0, .int .i64 0] 38),
     .op none (.store 2 (.tmp 9) (.tmp 46))])
  (.seq
   (.seq
    (.reg [
      .op (some 47) (.faddr 0 (.tmp 1)),
      .op (some 48) (.load false 1 (.tmp 47))])
   (.cond (.tmp 48)
    (.reg [
      .op (some 49) (.faddr 0 (.tmp 9)),
      .op (some 50) (.load false 1 (.tmp 49)),
      .op (some 51) (.un .neg (.tmp 50)),
      .op (some 52) (.faddr 0 (.tmp 9)),
      .op none (.store 1 (.tmp 52) (.tmp 51))])
    .skip))
  (.seq
   (.reg [
     .op (some 53) (.load true 2 (.tmp 9)),
     .op none (.store 2 (.tmp 2) (.tmp 53)),
     .op (some 3) (.mv (.const (.int .i64 0)))])
  .ret))))))))
theorem s139 : FnOK Tryz.prog 139 54 [ResultVar.cell 2 38, ResultVar.tmp 3] c139 :=
  .mk' [(4, [], [(0, []), (1, [0]), (2, []), (3, []), (4, []), (5, []), (6, [5]), (7, []), (8, []), (9, [])])] Tryz.func139 (by kernel_rfl) (by kernel_rfl) (by kernel_rfl)
def c140 : MC :=
  (.seq
   (.reg [
     .op (some 4) (.mv (.const (.int .u64 0))),
     .op (some 5) (.mv (.const (.int .u64 0)))])
  (.seq
   (.reg [
     .op (some 14) (.mv (.tmp 0)),
     .op (some 15) (.bin .and (.tmp 14) (.const (.int .u64 4294967295))),
     .op (some 6) (.mv (.tmp 15))])
  (.seq
   (.reg [
     .op (some 16) (.mv (.tmp 0)),
     .op (some 17) (.bin .shr (.tmp 16) (.const (.int .u64 32))),
     .op (some 7) (.mv (.tmp 17))])
  (.seq
   (.reg [
     .op (some 18) (.mv (.tmp 1)),
     .op (some 19) (.bin .and (.tmp 18) (.const (.int .u64 4294967295))),
     .op (some 8) (.mv (.tmp 19))])
  (.seq
   (.reg [
     .op (some 20) (.mv (.tmp 1)),
     .op (some 21) (.bin .shr (.tmp 20) (.const (.int .u64 32))),
     .op (some 9) (.mv (.tmp 21))])
  (.seq
   (.reg [
     .op (some 22) (.mv (.tmp 6)),
     .op (some 23) (.mv (.tmp 8)),
     .op (some 24) (.bin .mul (.tmp 22) (.tmp 23)),
     .op (some 10) (.mv (.tmp 24))])
  (.seq
   (.reg [
     .op (some 25) (.mv (.tmp 7)),
     .op (some 26) (.mv (.tmp 8)),
     .op (some 27) (.bin .mul (.tmp 25) (.tmp 26)),
     .op (some 28) (.mv (.tmp 10)),
     .op (some 29) (.bin .shr (.tmp 28) (.const (.int .u64 32))),
     .op (some 30) (.bin .add (.tmp 27) (.tmp 29)),
     .op (some 11) (.mv (.tmp 30))])
  (.seq
   (.reg [
     .op (some 31) (.mv (.tmp 11)),
     .op (some 32) (.bin .and (.tmp 31) (.const (.int .u64 4294967295))),
     .op (some 12) (.mv (.tmp 32))])
  (.seq
   (.reg [
     .op (some 33) (.mv (.tmp 11)),
     .op (some 34) (.bin .shr (.tmp 33) (.const (.int .u64 32))),
     .op (some 13) (.mv (.tmp 34))])
  (.seq
   (.reg [
     .op (some 35) (.mv (.tmp 12)),
     .op (some 36) (.mv (.tmp 6)),
     .op (some 37) (.mv (.tmp 9)),
     .op (some 38) (.bin .mul (.tmp 36) (.tmp 37)),
     .op (some 39) (.bin .add (.tmp 35) (.tmp 38)),
     .op (some 12) (.mv (.tmp 39))])
  (.seq
   (.reg [
     .op (some 40) (.mv (.tmp 7)),
     .op (some 41) (.mv (.tmp 9)),
     .op (some 42) (.bin .mul (.tmp 40) (.tmp 41)),
     .op (some 43) (.mv (.tmp 13)),
     .op (some 44) (.bin .add (.tmp 42) (.tmp 43)),
     .op (some 45) (.mv (.tmp 12)),
     .op (some 46) (.bin .shr (.tmp 45) (.const (.int .u64 32))),
     .op (some 47) (.bin .add (.tmp 44) (.tmp 46)),
     .op (some 4) (.mv (.tmp 47))])
  (.seq
   (.reg [
     .op (some 48) (.mv (.tmp 0)),
     .op (some 49) (.mv (.tmp 1)),
     .op (some 50) (.bin .mul (.tmp 48) (.tmp 49)),
     .op (some 5) (.mv (.tmp 50))])
  .ret))))))))))))
theorem s140 : FnOK Tryz.prog 140 51 [ResultVar.tmp 4, ResultVar.tmp 5] c140 :=
  .mk' [] Tryz.func140 (by kernel_rfl) (by kernel_rfl) (by kernel_rfl)
def c141 : MC :=
  (.seq
   (.reg [
     .op (some 2) (.box 38 (.tmp 0)),
     .op (some 3) (.box 38 (.tmp 1)),
     .op (some 4) (.alloc [.int .i64 0, .int .i64 0] 38),
     .op (some 5) (.mv (.const (.int .i64 0)))])
  (.seq
   (.reg [
     .op (some 9) (.load true 2 (.tmp 2)),
     .op (some 10) (.load true 2 (.tmp 3)),
     .op (some 11) (.call (.func 173) [(.tmp 9), (.tmp 10), (.const (.int .i64 2))]),
     .op (some 8) (.mv (.tmp 11)),
     .op (some 12) (.ext (.tmp 8) 0),
     .op (some 13) (.ext (.tmp 8) 1),
     .op (some 6) (.alloc [.int .i64 0, .int .i64 0] 38),
     .op none (.store 2 (.tmp 6) (.tmp 12)),
     .op (some 7) (.mv (.tmp 13))])
  (.seq
   (.seq
    (.reg [
      .op (some 14) (.mv (.tmp 7)),
      .op (some 15) (.bin .eql (.tmp 14) (.const (.int .i64 0))),
      .op (some 16) (.mv (.tmp 15)),
      .gd (some 16) true (some 17) (.load true 2 (.tmp 6)),
      .gd (some 16) true (some 18) (.call (.func 143) [(.tmp 17)]),
      .op (some 19) (.pick (.tmp 16) (.tmp 18) (.const (.bool false)))])
   (.cond (.tmp 19)
    (.reg [
      .op (some 21) (.load true 2 (.tmp 2)),
      .op (some 22) (.load true 2 (.tmp 3)),
      .op (some 23) (.call (.func 173) [(.tmp 21), (.tmp 22), (.const (.int .i64 1))]),
      .op (some 20) (.mv (.tmp 23)),
      .op (some 24) (.ext (.tmp 20) 0),
      .op (some 25) (.ext (.tmp 20) 1),
      .op none (.store 2 (.tmp 6) (.tmp 24)),
      .op (some 7) (.mv (.tmp 25))])
    .skip))
  (.seq
   (.reg [
     .op (some 26) (.load true 2 (.tmp 6)),
     .op (some 27) (.mv (.tmp 7)),
     .op none (.store 2 (.tmp 4) (.tmp 26)),
     .op (some 5) (.mv (.tmp 27))])
  .ret))))
theorem s141 : FnOK Tryz.prog 141 28 [ResultVar.cell 4 38, ResultVar.tmp 5] c141 :=
  .mk' [] Tryz.func141 (by kernel_rfl) (by kernel_rfl) (by kernel_rfl)
def c143 : MC :=
  (.seq
   (.reg [
     .op (some 1) (.box 38 (.tmp 0)),
     .op (some 2) (.mv (.const (.bool false)))])
  (.seq
   (.reg [
     .op (some 3) (.load true 2 (.tmp 1)),
     .op (some 4) (.build [.int .i64 0, .int .i64 0] [(0, 1, (.const (.int .i64 360000))), (1, 1, (.const (.int .i64 1)))]),
     .op (some 5) (.call (.func 46) [(.tmp 3), (.tmp 4)]),
     .op (some 6) (.bin .gtr (.tmp 5) (.const (.int .i64 0))),
     .op (some 2) (.mv (.tmp 6))])
  .ret))
theorem s143 : FnOK Tryz.prog 143 7 [ResultVar.tmp 2] c143 :=
  .mk' [] Tryz.func143 (by kernel_rfl) (by kernel_rfl) (by kernel_rfl)
def c146 : MC :=
  (.seq
   (.reg [
     .op (some 4) (.alloc [.str [], .nilslice] 36),
     .op (some 5) (.mv (.const (.int .i64 0)))])
  (.seq
   (.reg [
     .op (some 7) (.mv (.tmp 1)),
     .op (some 8) (.call (.func 177) [(.tmp 7)]),
     .op (some 6) (.mv (.tmp 8))])
  (.seq
   (.seq
    (.reg [
      .op (some 9) (.mv (.tmp 6)),
      .op (some 10) (.lensl (.tmp 9)),
      .op (some 11) (.bin .gtr (.tmp 10) (.const (.int .i64 256)))])
   (.cond (.tmp 11)
    (.seq
     (.reg [
       .op (some 12) (.build [.str [], .nilslice] []),
       .op none (.store 2 (.tmp 4) (.tmp 12)),
       .op (some 5) (.mv (.const (.int .i64 2)))])
    .ret)
    .skip))
  (.seq
   (.reg [
     .op (some 13) (.mv (.tmp 0)),
     .op (some 14) (.mv (.tmp 6)),
     .op (some 15) (.build [.str [], .nilslice] [(0, 1, (.tmp 13)), (1, 1, (.tmp 14))]),
     .op none (.store 2 (.tmp 4) (.tmp 15)),
     .op (some 5) (.mv (.const (.int .i64 0)))])
  .ret))))
theorem s146 : FnOK Tryz.prog 146 16 [ResultVar.cell 4 36, ResultVar.tmp 5] c146 :=
  .mk' [] Tryz.func146 (by kernel_rfl) (by kernel_rfl) (by kernel_rfl)
def c147 : MC :=
  (.seq
   (.reg [
     .op (some 1) (.box 40 (.tmp 0)),
     .op (some 2) (.alloc [.int .i64 0, .int .i64 0, .int .i64 0, .int .i64 0, .int .i64 0, .int .i64 0, .str [], .str [], .nilslice] 40)])
  (.seq
   (.reg [
     .op (some 3) (.faddr 7 (.tmp 1)),
     .op (some 4) (.faddr 1 (.tmp 3)),
     .op (some 5) (.load false 1 (.tmp 4)),
     .op (some 6) (.app 108 4 32 (.const (.slice none 0 0)) (.tmp 5)),
     .op (some 7) (.faddr 7 (.tmp 1)),
     .op (some 8) (.faddr 1 (.tmp 7)),
     .op none (.store 1 (.tmp 8) (.tmp 6))])
  (.seq
   (.reg [
     .op (some 9) (.load true 9 (.tmp 1)),
     .op none (.store 9 (.tmp 2) (.tmp 9))])
  .ret)))
theorem s147 : FnOK Tryz.prog 147 10 [ResultVar.cell 2 40] c147 :=
  .mk' [] Tryz.func147 (by kernel_rfl) (by kernel_rfl) (by kernel_rfl)
end Go.Cm
