/- Functions, their code in short (printed by a program of mine). -/
import Derived.Test.YtgalmibnlkbdiaaGreatDoorSnIndex
set_option maxRecDepth 1000000
namespace Go.Cm
open Go Go.RowKit Go.Proofs
def c41 : MC :=
  (.seq
   (.reg [
     .op (some 4) (.alloc [.str [], .nilslice, .str [], .int .i64 0] 60),
     .op (some 5) (.mv (.const (.int .i64 0)))])
  (.scope
   (.seq
    (.seq
     (.reg [
       .op (some 14) (.mv (.tmp 0)),
       .op (some 15) (.bin .lss (.tmp 14) (.const (.int .i64 1))),
       .op (some 16) (.mv (.tmp 15)),
       .gd (some 16) false (some 17) (.mv (.tmp 0)),
       .gd (some 16) false (some 18) (.bin .gtr (.tmp 17) (.const (.int .i64 4))),
       .op (some 19) (.pick (.tmp 16) (.const (.bool true)) (.tmp 18))])
    (.cond (.tmp 19)
     (.seq
      (.reg [
        .op (some 20) (.build [.str [], .nilslice, .str [], .int .i64 0] []),
        .op none (.store 4 (.tmp 4) (.tmp 20)),
        .op (some 5) (.mv (.const (.int .i64 5)))])
     .ret)
     .skip))
   (.seq
    (.seq
     (.reg [
       .op (some 21) (.mv (.tmp 1)),
       .op (some 22) (.lenstr (.tmp 21)),
       .op (some 23) (.bin .gtr (.tmp 22) (.const (.int .i64 4194304)))])
    (.cond (.tmp 23)
     (.seq
      (.reg [
        .op (some 24) (.build [.str [], .nilslice, .str [], .int .i64 0] []),
        .op none (.store 4 (.tmp 4) (.tmp 24)),
        .op (some 5) (.mv (.const (.int .i64 3)))])
     .ret)
     .skip))
   (.seq
    (.reg [
      .op (some 25) (.mv (.tmp 0)),
      .op (some 26) (.mv (.tmp 1)),
      .op (some 27) (.build [.int .i64 0, .str [], .int .i64 0, .nilslice, .nilslice, .int .i64 0, .int .i64 0, .int .i64 0, .int .i64 0, .int .i64 0, .nilslice, .bool false, .bool false, .bool false, .bool false, .int .i64 0, .bool false, .str [], .int .i64 0] [(0, 1, (.tmp 25)), (1, 1, (.tmp 26)), (16, 1, (.const (.bool true)))]),
      .op (some 28) (.box 160 (.tmp 27)),
      .op (some 6) (.mv (.tmp 28))])
   (.seq
    (.reg [
      .op (some 7) (.mv (.const (.int .i64 0)))])
   (.seq
    (.seq
     (.reg [
       .op (some 29) (.mv (.tmp 0)),
       .op (some 30) (.bin .eql (.tmp 29) (.const (.int .i64 2)))])
    (.cond (.tmp 30)
     (.reg [
       .op (some 31) (.mv (.tmp 6)),
       .op (some 32) (.mv (.tmp 6)),
       .op (some 33) (.call (.func 83) [(.tmp 32)]),
       .op (some 34) (.nilck (.tmp 31)),
       .op (some 35) (.faddr 2 (.tmp 34)),
       .op none (.store 1 (.tmp 35) (.tmp 33))])
     .skip))
   (.seq
    (.label 1)
   (.seq
    (.seq
     (.reg [
       .op (some 36) (.mv (.tmp 6)),
       .op (some 37) (.nilck (.tmp 36)),
       .op (some 38) (.faddr 2 (.tmp 37)),
       .op (some 39) (.load false 1 (.tmp 38)),
       .op (some 40) (.mv (.tmp 1)),
       .op (some 41) (.lenstr (.tmp 40)),
       .op (some 42) (.bin .geq (.tmp 39) (.tmp 41))])
    (.cond (.tmp 42)
     (.goto 0)
     .skip))
   (.seq
    (.seq
     (.reg [
       .op (some 43) (.mv (.tmp 6)),
       .op (some 44) (.nilck (.tmp 43)),
       .op (some 45) (.faddr 3 (.tmp 44)),
       .op (some 46) (.load false 1 (.tmp 45)),
       .op (some 47) (.lensl (.tmp 46)),
       .op (some 48) (.bin .gtr (.tmp 47) (.const (.int .i64 4096)))])
    (.cond (.tmp 48)
     (.seq
      (.reg [
        .op (some 49) (.build [.str [], .nilslice, .str [], .int .i64 0] []),
        .op none (.store 4 (.tmp 4) (.tmp 49)),
        .op (some 5) (.mv (.const (.int .i64 3)))])
     .ret)
     .skip))
   (.seq
    (.seq
     (.reg [
       .op (some 50) (.mv (.tmp 1)),
       .op (some 51) (.mv (.tmp 6)),
       .op (some 52) (.nilck (.tmp 51)),
       .op (some 53) (.faddr 2 (.tmp 52)),
       .op (some 54) (.load false 1 (.tmp 53)),
       .op (some 55) (.ixs (.tmp 50) (.tmp 54)),
       .op (some 8) (.mv (.tmp 55))])
    (.block 0
     (.seq
      (.reg [
        .op (some 57) (.mv (.tmp 8)),
        .op (some 58) (.bin .eql (.tmp 57) (.const (.int .u8 60))),
        .op (some 59) (.mv (.tmp 58)),
        .gd (some 59) true (some 60) (.mv (.tmp 0)),
        .gd (some 59) true (some 61) (.bin .eql (.tmp 60) (.const (.int .i64 1))),
        .gd (some 59) true (some 62) (.mv (.tmp 61)),
        .gd (some 62) false (some 63) (.mv (.tmp 0)),
        .gd (some 62) false (some 64) (.bin .eql (.tmp 63) (.const (.int .i64 2))),
        .gd (some 59) true (some 65) (.pick (.tmp 62) (.const (.bool true)) (.tmp 64)),
        .op (some 66) (.pick (.tmp 59) (.tmp 65) (.const (.bool false))),
        .op (some 56) (.mv (.tmp 66))])
     (.cond (.tmp 56)
      (.reg [
        .op (some 67) (.mv (.tmp 6)),
        .op (some 68) (.mv (.tmp 1)),
        .op (some 69) (.mv (.tmp 6)),
        .op (some 70) (.nilck (.tmp 69)),
        .op (some 71) (.faddr 2 (.tmp 70)),
        .op (some 72) (.load false 1 (.tmp 71)),
        .op (some 73) (.sstr (.tmp 68) (some (.tmp 72)) none),
        .op (some 74) (.call (.func 84) [(.tmp 67), (.tmp 73)]),
        .op (some 7) (.mv (.tmp 74))])
      (.seq
       (.reg [
         .op (some 76) (.mv (.tmp 8)),
         .op (some 77) (.bin .eql (.tmp 76) (.const (.int .u8 38))),
         .op (some 78) (.mv (.tmp 77)),
         .gd (some 78) true (some 79) (.mv (.tmp 0)),
         .gd (some 78) true (some 80) (.bin .eql (.tmp 79) (.const (.int .i64 2))),
         .op (some 81) (.pick (.tmp 78) (.tmp 80) (.const (.bool false))),
         .op (some 75) (.mv (.tmp 81))])
      (.cond (.tmp 75)
       (.seq
        (.reg [
          .op (some 83) (.mv (.tmp 1)),
          .op (some 84) (.mv (.tmp 6)),
          .op (some 85) (.nilck (.tmp 84)),
          .op (some 86) (.faddr 2 (.tmp 85)),
          .op (some 87) (.load false 1 (.tmp 86)),
          .op (some 88) (.sstr (.tmp 83) (some (.tmp 87)) none),
          .op (some 89) (.call (.func 85) [(.tmp 88)]),
          .op (some 82) (.mv (.tmp 89)),
          .op (some 90) (.ext (.tmp 82) 0),
          .op (some 91) (.ext (.tmp 82) 1),
          .op (some 9) (.mv (.tmp 90)),
          .op (some 10) (.mv (.tmp 91))])
       (.seq
        (.seq
         (.reg [
           .op (some 92) (.mv (.tmp 10)),
           .op (some 93) (.bin .eql (.tmp 92) (.const (.int .i64 0)))])
        (.cond (.tmp 93)
         (.goto 2)
         .skip))
       (.seq
        (.reg [
          .op (some 94) (.mv (.tmp 6)),
          .op (some 95) (.mv (.tmp 9)),
          .op (some 96) (.call (.func 86) [(.tmp 94), (.tmp 95)])])
       (.seq
        (.reg [
          .op (some 97) (.mv (.tmp 6)),
          .op (some 98) (.nilck (.tmp 97)),
          .op (some 99) (.faddr 2 (.tmp 98)),
          .op (some 100) (.load false 1 (.tmp 99)),
          .op (some 101) (.mv (.tmp 10)),
          .op (some 102) (.bin .add (.tmp 100) (.tmp 101)),
          .op (some 103) (.nilck (.tmp 97)),
          .op (some 104) (.faddr 2 (.tmp 103)),
          .op none (.store 1 (.tmp 104) (.tmp 102))])
       (.goto 1)))))
       (.seq
        (.reg [
          .op (some 106) (.mv (.tmp 8)),
          .op (some 107) (.bin .eql (.tmp 106) (.const (.int .u8 124))),
          .op (some 108) (.mv (.tmp 107)),
          .gd (some 108) true (some 109) (.mv (.tmp 0)),
          .gd (some 108) true (some 110) (.bin .eql (.tmp 109) (.const (.int .i64 3))),
          .op (some 111) (.pick (.tmp 108) (.tmp 110) (.const (.bool false))),
          .op (some 105) (.mv (.tmp 111))])
       (.cond (.tmp 105)
        (.seq
         (.reg [
           .op (some 112) (.mv (.tmp 6)),
           .op (some 113) (.call (.func 86) [(.tmp 112), (.const (.string ⟨⟨[10]⟩⟩))])])
        (.seq
         (.reg [
           .op (some 114) (.mv (.tmp 6)),
           .op (some 115) (.mv (.tmp 6)),
           .op (some 116) (.build [.bool false, .bool false, .bool false, .bool false, .int .i64 0] []),
           .op (some 117) (.nilck (.tmp 114)),
           .op (some 118) (.faddr 11 (.tmp 117)),
           .op none (.store 5 (.tmp 118) (.tmp 116)),
           .op (some 119) (.nilck (.tmp 115)),
           .op (some 120) (.faddr 16 (.tmp 119)),
           .op none (.store 1 (.tmp 120) (.const (.bool true)))])
        (.seq
         (.reg [
           .op (some 121) (.mv (.tmp 6)),
           .op (some 122) (.nilck (.tmp 121)),
           .op (some 123) (.faddr 2 (.tmp 122)),
           .op (some 124) (.load false 1 (.tmp 123)),
           .op (some 125) (.bin .add (.tmp 124) (.const (.int .i64 1))),
           .op (some 126) (.nilck (.tmp 121)),
           .op (some 127) (.faddr 2 (.tmp 126)),
           .op none (.store 1 (.tmp 127) (.tmp 125))])
        (.goto 1))))
        (.seq
         (.reg [
           .op (some 129) (.mv (.tmp 8)),
           .op (some 130) (.bin .eql (.tmp 129) (.const (.int .u8 123))),
           .op (some 131) (.mv (.tmp 130)),
           .gd (some 131) true (some 132) (.mv (.tmp 0)),
           .gd (some 131) true (some 133) (.bin .eql (.tmp 132) (.const (.int .i64 3))),
           .op (some 134) (.pick (.tmp 131) (.tmp 133) (.const (.bool false))),
           .op (some 135) (.mv (.tmp 134)),
           .gd (some 135) true (some 136) (.mv (.tmp 6)),
           .gd (some 135) true (some 137) (.nilck (.tmp 136)),
           .gd (some 135) true (some 138) (.faddr 16 (.tmp 137)),
           .gd (some 135) true (some 139) (.load false 1 (.tmp 138)),
           .op (some 140) (.pick (.tmp 135) (.tmp 139) (.const (.bool false))),
           .op (some 128) (.mv (.tmp 140))])
        (.cond (.tmp 128)
         (.reg [
           .op (some 141) (.mv (.tmp 6)),
           .op (some 142) (.mv (.tmp 1)),
           .op (some 143) (.mv (.tmp 6)),
           .op (some 144) (.nilck (.tmp 143)),
           .op (some 145) (.faddr 2 (.tmp 144)),
           .op (some 146) (.load false 1 (.tmp 145)),
           .op (some 147) (.sstr (.tmp 142) (some (.tmp 146)) none),
           .op (some 148) (.call (.func 87) [(.tmp 141), (.tmp 147)]),
           .op (some 7) (.mv (.tmp 148))])
         (.seq
          (.reg [
            .op (some 150) (.mv (.tmp 8)),
            .op (some 151) (.bin .eql (.tmp 150) (.const (.int .u8 92))),
            .op (some 152) (.mv (.tmp 151)),
            .gd (some 152) true (some 153) (.mv (.tmp 0)),
            .gd (some 152) true (some 154) (.bin .eql (.tmp 153) (.const (.int .i64 4))),
            .op (some 155) (.pick (.tmp 152) (.tmp 154) (.const (.bool false))),
            .op (some 156) (.mv (.tmp 155)),
            .gd (some 156) true (some 157) (.mv (.tmp 1)),
            .gd (some 156) true (some 158) (.mv (.tmp 6)),
            .gd (some 156) true (some 159) (.nilck (.tmp 158)),
            .gd (some 156) true (some 160) (.faddr 2 (.tmp 159)),
            .gd (some 156) true (some 161) (.load false 1 (.tmp 160)),
            .gd (some 156) true (some 162) (.sstr (.tmp 157) (some (.tmp 161)) none),
            .gd (some 156) true (some 163) (.call (.func 88) [(.tmp 162), (.const (.string ⟨⟨[92, 78]⟩⟩))]),
            .op (some 164) (.pick (.tmp 156) (.tmp 163) (.const (.bool false))),
            .op (some 149) (.mv (.tmp 164))])
         (.cond (.tmp 149)
          (.seq
           (.reg [
             .op (some 165) (.mv (.tmp 6)),
             .op (some 166) (.call (.func 86) [(.tmp 165), (.const (.string ⟨⟨[10]⟩⟩))])])
          (.seq
           (.reg [
             .op (some 167) (.mv (.tmp 6)),
             .op (some 168) (.nilck (.tmp 167)),
             .op (some 169) (.faddr 2 (.tmp 168)),
             .op (some 170) (.load false 1 (.tmp 169)),
             .op (some 171) (.bin .add (.tmp 170) (.const (.int .i64 2))),
             .op (some 172) (.nilck (.tmp 167)),
             .op (some 173) (.faddr 2 (.tmp 172)),
             .op none (.store 1 (.tmp 173) (.tmp 171))])
          (.goto 1)))
          (.seq
           (.reg [
             .op (some 175) (.mv (.tmp 8)),
             .op (some 176) (.bin .eql (.tmp 175) (.const (.int .u8 123))),
             .op (some 177) (.mv (.tmp 176)),
             .gd (some 177) true (some 178) (.mv (.tmp 0)),
             .gd (some 177) true (some 179) (.bin .eql (.tmp 178) (.const (.int .i64 4))),
             .op (some 180) (.pick (.tmp 177) (.tmp 179) (.const (.bool false))),
             .op (some 174) (.mv (.tmp 180))])
          (.cond (.tmp 174)
           (.reg [
             .op (some 181) (.mv (.tmp 6)),
             .op (some 182) (.mv (.tmp 1)),
             .op (some 183) (.mv (.tmp 6)),
             .op (some 184) (.nilck (.tmp 183)),
             .op (some 185) (.faddr 2 (.tmp 184)),
             .op (some 186) (.load false 1 (.tmp 185)),
             .op (some 187) (.sstr (.tmp 182) (some (.tmp 186)) none),
             .op (some 188) (.call (.func 89) [(.tmp 181), (.tmp 187)]),
             .op (some 7) (.mv (.tmp 188))])
           (.goto 2)))))))))))))))
   (.seq
    (.seq
     (.reg [
       .op (some 189) (.mv (.tmp 7)),
       .op (some 190) (.bin .gtr (.tmp 189) (.const (.int .i64 0)))])
    (.cond (.tmp 190)
     (.seq
      (.reg [
        .op (some 191) (.mv (.tmp 6)),
        .op (some 192) (.nilck (.tmp 191)),
        .op (some 193) (.faddr 2 (.tmp 192)),
        .op (some 194) (.load false 1 (.tmp 193)),
        .op (some 195) (.mv (.tmp 7)),
        .op (some 196) (.bin .add (.tmp 194) (.tmp 195)),
        .op (some 197) (.nilck (.tmp 191)),
        .op (some 198) (.faddr 2 (.tmp 197)),
        .op none (.store 1 (.tmp 198) (.tmp 196))])
     (.goto 1))
     .skip))
   (.seq
    (.label 2)
   (.seq
    (.seq
     (.reg [
       .op (some 199) (.mv (.tmp 1)),
       .op (some 200) (.mv (.tmp 6)),
       .op (some 201) (.nilck (.tmp 200)),
       .op (some 202) (.faddr 2 (.tmp 201)),
       .op (some 203) (.load false 1 (.tmp 202)),
       .op (some 204) (.mv (.tmp 1)),
       .op (some 205) (.lenstr (.tmp 204)),
       .op (some 206) (.mv (.tmp 6)),
       .op (some 207) (.nilck (.tmp 206)),
       .op (some 208) (.faddr 2 (.tmp 207)),
       .op (some 209) (.load false 1 (.tmp 208)),
       .op (some 210) (.bin .add (.tmp 209) (.const (.int .i64 4))),
       .op (some 211) (.mn (.tmp 205) (.tmp 210)),
       .op (some 212) (.sstr (.tmp 199) (some (.tmp 203)) (some (.tmp 211))),
       .op (some 213) (.call (.func 90) [(.tmp 212)]),
       .op (some 11) (.mv (.tmp 213))])
    (.seq
     (.reg [
       .op (some 214) (.mv (.tmp 6)),
       .op (some 215) (.mv (.tmp 11)),
       .op (some 216) (.call (.func 86) [(.tmp 214), (.tmp 215)])])
    (.seq
     (.reg [
       .op (some 217) (.mv (.tmp 6)),
       .op (some 218) (.nilck (.tmp 217)),
       .op (some 219) (.faddr 2 (.tmp 218)),
       .op (some 220) (.load false 1 (.tmp 219)),
       .op (some 221) (.mv (.tmp 11)),
       .op (some 222) (.lenstr (.tmp 221)),
       .op (some 223) (.bin .add (.tmp 220) (.tmp 222)),
       .op (some 224) (.nilck (.tmp 217)),
       .op (some 225) (.faddr 2 (.tmp 224)),
       .op none (.store 1 (.tmp 225) (.tmp 223))])
    (.reg [
      .op (some 226) (.mv (.tmp 6)),
      .op (some 227) (.nilck (.tmp 226)),
      .op (some 228) (.faddr 16 (.tmp 227)),
      .op none (.store 1 (.tmp 228) (.const (.bool false)))]))))
   (.seq
    (.goto 1)
   (.seq
    (.label 0)
   (.seq
    (.reg [
      .op (some 230) (.mv (.tmp 6)),
      .op (some 231) (.nilck (.tmp 230)),
      .op (some 232) (.faddr 4 (.tmp 231)),
      .op (some 233) (.load false 1 (.tmp 232)),
      .op (some 234) (.call (.func 63) [(.tmp 233)]),
      .op (some 229) (.mv (.tmp 234)),
      .op (some 235) (.ext (.tmp 229) 0),
      .op (some 236) (.ext (.tmp 229) 1),
      .op (some 12) (.alloc [.str [], .nilslice] 36),
      .op none (.store 2 (.tmp 12) (.tmp 235)),
      .op (some 13) (.mv (.tmp 236))])
   (.seq
    (.seq
     (.reg [
       .op (some 237) (.mv (.tmp 13)),
       .op (some 238) (.bin .neq (.tmp 237) (.const (.int .i64 0)))])
    (.cond (.tmp 238)
     (.seq
      (.reg [
        .op (some 239) (.build [.str [], .nilslice, .str [], .int .i64 0] []),
        .op (some 240) (.mv (.tmp 13)),
        .op none (.store 4 (.tmp 4) (.tmp 239)),
        .op (some 5) (.mv (.tmp 240))])
     .ret)
     .skip))
   (.seq
    (.reg [
      .op (some 241) (.load true 2 (.tmp 12)),
      .op (some 242) (.mv (.tmp 6)),
      .op (some 243) (.nilck (.tmp 242)),
      .op (some 244) (.faddr 17 (.tmp 243)),
      .op (some 245) (.load false 1 (.tmp 244)),
      .op (some 246) (.mv (.tmp 6)),
      .op (some 247) (.nilck (.tmp 246)),
      .op (some 248) (.faddr 18 (.tmp 247)),
      .op (some 249) (.load false 1 (.tmp 248)),
      .op (some 250) (.build [.str [], .nilslice, .str [], .int .i64 0] [(0, 2, (.tmp 241)), (2, 1, (.tmp 245)), (3, 1, (.tmp 249))]),
      .op none (.store 4 (.tmp 4) (.tmp 250)),
      .op (some 5) (.mv (.const (.int .i64 0)))])
   .ret)))))))))))))))))))
theorem s41 : FnOK Tryz.prog 41 251 [ResultVar.cell 4 60, ResultVar.tmp 5] c41 :=
  .mk' [(33, [], [(0, []), (1, []), (2, []), (3, []), (4, []), (5, []), (6, []), (7, []), (8, []), (9, []), (10, []), (11, []), (12, []), (13, []), (14, []), (15, [])]), (40, [], [(0, []), (1, []), (2, []), (3, []), (4, []), (5, []), (6, []), (7, []), (8, []), (9, []), (10, []), (11, [])])] Tryz.func41 (by kernel_rfl) (by kernel_rfl) (by kernel_rfl)
def c42 : MC :=
  (.seq
   (.reg [
     .op (some 4) (.mv (.const (.string ⟨⟨[]⟩⟩)))])
  (.seq
   (.seq
    (.reg [
      .op (some 11) (.mv (.tmp 0)),
      .op (some 12) (.lensl (.tmp 11))])
   (.block 0
    (.seq
     (.reg [
       .op (some 14) (.bin .eql (.tmp 12) (.const (.int .i64 0))),
       .op (some 13) (.mv (.tmp 14))])
    (.cond (.tmp 13)
     (.seq
      (.reg [
        .op (some 4) (.mv (.const (.string ⟨⟨[]⟩⟩)))])
     .ret)
     (.seq
      (.reg [
        .op (some 16) (.bin .eql (.tmp 12) (.const (.int .i64 1))),
        .op (some 15) (.mv (.tmp 16))])
     (.cond (.tmp 15)
      (.seq
       (.reg [
         .op (some 17) (.mv (.tmp 0)),
         .op (some 18) (.ias 1 (.tmp 17) (.const (.int .i64 0))),
         .op (some 19) (.load false 1 (.tmp 18)),
         .op (some 4) (.mv (.tmp 19))])
      .ret)
      .skip))))))
  (.seq
   (.reg [
     .op (some 5) (.mv (.const (.int .i64 0)))])
  (.seq
   (.seq
    (.reg [
      .op (some 20) (.mv (.tmp 1)),
      .op (some 21) (.lenstr (.tmp 20)),
      .op (some 22) (.bin .gtr (.tmp 21) (.const (.int .i64 0)))])
   (.cond (.tmp 22)
    (.seq
     (.seq
      (.reg [
        .op (some 23) (.mv (.tmp 1)),
        .op (some 24) (.lenstr (.tmp 23)),
        .op (some 25) (.mv (.tmp 0)),
        .op (some 26) (.lensl (.tmp 25)),
        .op (some 27) (.bin .sub (.tmp 26) (.const (.int .i64 1))),
        .op (some 28) (.bin .quo (.const (.int .i64 9223372036854775807)) (.tmp 27)),
        .op (some 29) (.bin .geq (.tmp 24) (.tmp 28))])
     (.cond (.tmp 29)
      (.reg [
        .op (some 30) (.ifc 9 (.const (.string ⟨⟨[115, 116, 114, 105, 110, 103, 115, 58, 32, 74, 111, 105, 110, 32, 111, 117, 116, 112, 117, 116, 32, 108, 101, 110, 103, 116, 104, 32, 111, 118, 101, 114, 102, 108, 111, 119]⟩⟩))),
        .op none (.gen (.panic (.tmp 30)))])
      .skip))
    (.reg [
      .op (some 31) (.mv (.tmp 5)),
      .op (some 32) (.mv (.tmp 1)),
      .op (some 33) (.lenstr (.tmp 32)),
      .op (some 34) (.mv (.tmp 0)),
      .op (some 35) (.lensl (.tmp 34)),
      .op (some 36) (.bin .sub (.tmp 35) (.const (.int .i64 1))),
      .op (some 37) (.bin .mul (.tmp 33) (.tmp 36)),
      .op (some 38) (.bin .add (.tmp 31) (.tmp 37)),
      .op (some 5) (.mv (.tmp 38))]))
    .skip))
  (.seq
   (.seq
    (.reg [
      .op (some 39) (.mv (.tmp 0)),
      .op (some 40) (.lensl (.tmp 39)),
      .op (some 41) (.mv (.const (.int .i64 0)))])
   (.block 1
    (.loop
     (.seq
      (.reg [
        .op (some 42) (.bin .lss (.tmp 41) (.tmp 40))])
     (.seq
      (.cond (.tmp 42)
       .skip
       (.exit 1))
     (.seq
      (.block 2
       (.seq
        (.reg [
          .op (some 43) (.ias 1 (.tmp 39) (.tmp 41)),
          .op (some 44) (.load false 1 (.tmp 43)),
          .op (some 7) (.mv (.tmp 44))])
       (.seq
        (.seq
         (.reg [
           .op (some 45) (.mv (.tmp 7)),
           .op (some 46) (.lenstr (.tmp 45)),
           .op (some 47) (.mv (.tmp 5)),
           .op (some 48) (.bin .sub (.const (.int .i64 9223372036854775807)) (.tmp 47)),
           .op (some 49) (.bin .gtr (.tmp 46) (.tmp 48))])
        (.cond (.tmp 49)
         (.reg [
           .op (some 50) (.ifc 9 (.const (.string ⟨⟨[115, 116, 114, 105, 110, 103, 115, 58, 32, 74, 111, 105, 110, 32, 111, 117, 116, 112, 117, 116, 32, 108, 101, 110, 103, 116, 104, 32, 111, 118, 101, 114, 102, 108, 111, 119]⟩⟩))),
           .op none (.gen (.panic (.tmp 50)))])
         .skip))
       (.reg [
         .op (some 51) (.mv (.tmp 5)),
         .op (some 52) (.mv (.tmp 7)),
         .op (some 53) (.lenstr (.tmp 52)),
         .op (some 54) (.bin .add (.tmp 51) (.tmp 53)),
         .op (some 5) (.mv (.tmp 54))]))))
     (.reg [
       .op (some 55) (.bin .add (.tmp 41) (.const (.int .i64 1))),
       .op (some 41) (.mv (.tmp 55))])))))))
  (.seq
   (.reg [
     .op (some 8) (.alloc [.nilptr, .nilslice] 133)])
  (.seq
   (.reg [
     .op (some 56) (.mv (.tmp 5)),
     .op (some 57) (.call (.func 91) [(.tmp 8), (.tmp 56)])])
  (.seq
   (.reg [
     .op (some 58) (.mv (.tmp 0)),
     .op (some 59) (.ias 1 (.tmp 58) (.const (.int .i64 0))),
     .op (some 60) (.load false 1 (.tmp 59)),
     .op (some 61) (.call (.func 67) [(.tmp 8), (.tmp 60)])])
  (.seq
   (.seq
    (.reg [
      .op (some 62) (.mv (.tmp 0)),
      .op (some 63) (.ssl 9 1 (.tmp 62) (some (.const (.int .i64 1))) none none),
      .op (some 64) (.lensl (.tmp 63)),
      .op (some 65) (.mv (.const (.int .i64 0)))])
   (.block 3
    (.loop
     (.seq
      (.reg [
        .op (some 66) (.bin .lss (.tmp 65) (.tmp 64))])
     (.seq
      (.cond (.tmp 66)
       .skip
       (.exit 3))
     (.seq
      (.block 4
       (.seq
        (.reg [
          .op (some 67) (.ias 1 (.tmp 63) (.tmp 65)),
          .op (some 68) (.load false 1 (.tmp 67)),
          .op (some 10) (.mv (.tmp 68))])
       (.seq
        (.reg [
          .op (some 69) (.mv (.tmp 1)),
          .op (some 70) (.call (.func 67) [(.tmp 8), (.tmp 69)])])
       (.reg [
         .op (some 71) (.mv (.tmp 10)),
         .op (some 72) (.call (.func 67) [(.tmp 8), (.tmp 71)])]))))
     (.reg [
       .op (some 73) (.bin .add (.tmp 65) (.const (.int .i64 1))),
       .op (some 65) (.mv (.tmp 73))])))))))
  (.seq
   (.reg [
     .op (some 74) (.call (.func 69) [(.tmp 8)]),
     .op (some 4) (.mv (.tmp 74))])
  .ret))))))))))
theorem s42 : FnOK Tryz.prog 42 75 [ResultVar.tmp 4] c42 :=
  .mk' [] Tryz.func42 (by kernel_rfl) (by kernel_rfl) (by kernel_rfl)
def c43 : MC :=
  (.seq
   (.reg [
     .op (some 1) (.box 28 (.tmp 0)),
     .op (some 2) (.mv (.const .nilIface))])
  (.seq
   (.seq
    (.reg [
      .op (some 7) (.faddr 0 (.tmp 1)),
      .op (some 8) (.load false 1 (.tmp 7)),
      .op (some 9) (.lensl (.tmp 8)),
      .op (some 10) (.bin .gtr (.tmp 9) (.const (.int .i64 4096)))])
   (.cond (.tmp 10)
    (.seq
     (.reg [
       .op (some 11) (.call (.func 44) [(.const (.int .i64 0)), (.const (.int .i64 2))]),
       .op (some 2) (.mv (.tmp 11))])
    .ret)
    .skip))
  (.seq
   (.seq
    (.reg [
      .op (some 12) (.faddr 0 (.tmp 1)),
      .op (some 13) (.load false 1 (.tmp 12)),
      .op (some 14) (.lensl (.tmp 13)),
      .op (some 15) (.mv (.const (.int .i64 0)))])
   (.block 0
    (.loop
     (.seq
      (.reg [
        .op (some 16) (.bin .lss (.tmp 15) (.tmp 14))])
     (.seq
      (.cond (.tmp 16)
       .skip
       (.exit 0))
     (.seq
      (.block 1
       (.seq
        (.reg [
          .op (some 17) (.mv (.tmp 15)),
          .op (some 18) (.ias 9 (.tmp 13) (.tmp 15)),
          .op (some 19) (.load true 9 (.tmp 18)),
          .op (some 4) (.alloc [.int .i64 0, .int .i64 0, .int .i64 0, .int .i64 0, .int .i64 0, .int .i64 0, .str [], .str [], .nilslice] 40),
          .op (some 3) (.mv (.tmp 17)),
          .op none (.store 9 (.tmp 4) (.tmp 19))])
       (.seq
        (.reg [
          .op (some 20) (.load true 9 (.tmp 4)),
          .op (some 21) (.call (.func 92) [(.tmp 20)]),
          .op (some 5) (.mv (.tmp 21))])
       (.seq
        (.reg [
          .op (some 22) (.mv (.tmp 5)),
          .op (some 23) (.bin .neq (.tmp 22) (.const (.int .i64 0)))])
       (.cond (.tmp 23)
        (.seq
         (.reg [
           .op (some 24) (.mv (.tmp 3)),
           .op (some 25) (.mv (.tmp 5)),
           .op (some 26) (.call (.func 44) [(.tmp 24), (.tmp 25)]),
           .op (some 2) (.mv (.tmp 26))])
        .ret)
        .skip)))))
     (.reg [
       .op (some 27) (.bin .add (.tmp 15) (.const (.int .i64 1))),
       .op (some 15) (.mv (.tmp 27))])))))))
  (.seq
   (.seq
    (.reg [
      .op (some 6) (.mv (.const (.int .i64 1)))])
   (.block 2
    (.loop
     (.seq
      (.seq
       (.reg [
         .op (some 28) (.mv (.tmp 6)),
         .op (some 29) (.faddr 0 (.tmp 1)),
         .op (some 30) (.load false 1 (.tmp 29)),
         .op (some 31) (.lensl (.tmp 30)),
         .op (some 32) (.bin .lss (.tmp 28) (.tmp 31))])
      (.cond (.tmp 32)
       .skip
       (.exit 2)))
     (.seq
      (.block 3
       (.seq
        (.reg [
          .op (some 35) (.faddr 0 (.tmp 1)),
          .op (some 36) (.load false 1 (.tmp 35)),
          .op (some 37) (.mv (.tmp 6)),
          .op (some 38) (.bin .sub (.tmp 37) (.const (.int .i64 1))),
          .op (some 39) (.ias 9 (.tmp 36) (.tmp 38)),
          .op (some 40) (.load true 9 (.tmp 39)),
          .op (some 41) (.faddr 0 (.tmp 1)),
          .op (some 42) (.load false 1 (.tmp 41)),
          .op (some 43) (.mv (.tmp 6)),
          .op (some 44) (.ias 9 (.tmp 42) (.tmp 43)),
          .op (some 45) (.load true 9 (.tmp 44)),
          .op (some 46) (.call (.func 82) [(.tmp 40), (.tmp 45)]),
          .op (some 47) (.bin .gtr (.tmp 46) (.const (.int .i64 0)))])
       (.cond (.tmp 47)
        (.seq
         (.reg [
           .op (some 48) (.mv (.tmp 6)),
           .op (some 49) (.call (.func 44) [(.tmp 48), (.const (.int .i64 33))]),
           .op (some 2) (.mv (.tmp 49))])
        .ret)
        .skip)))
     (.reg [
       .op (some 33) (.mv (.tmp 6)),
       .op (some 34) (.bin .add (.tmp 33) (.const (.int .i64 1))),
       .op (some 6) (.mv (.tmp 34))]))))))
  (.seq
   (.reg [
     .op (some 2) (.mv (.const .nilIface))])
  .ret)))))
theorem s43 : FnOK Tryz.prog 43 50 [ResultVar.tmp 2] c43 :=
  .mk' [(13, [], [(0, []), (1, []), (2, []), (3, []), (4, []), (5, []), (6, []), (7, []), (8, []), (9, []), (10, []), (11, []), (12, [])])] Tryz.func43 (by kernel_rfl) (by kernel_rfl) (by kernel_rfl)
def c45 : MC :=
  (.seq
   (.reg [
     .op (some 1) (.box 38 (.tmp 0)),
     .op (some 2) (.mv (.const (.bool false)))])
  (.seq
   (.seq
    (.reg [
      .op (some 5) (.faddr 1 (.tmp 1)),
      .op (some 6) (.load false 1 (.tmp 5)),
      .op (some 7) (.bin .lss (.tmp 6) (.const (.int .i64 1)))])
   (.cond (.tmp 7)
    (.seq
     (.reg [
       .op (some 2) (.mv (.const (.bool false)))])
    .ret)
    .skip))
  (.seq
   (.reg [
     .op (some 9) (.faddr 0 (.tmp 1)),
     .op (some 10) (.load false 1 (.tmp 9)),
     .op (some 11) (.faddr 1 (.tmp 1)),
     .op (some 12) (.load false 1 (.tmp 11)),
     .op (some 13) (.call (.func 93) [(.tmp 10), (.tmp 12)]),
     .op (some 8) (.mv (.tmp 13)),
     .op (some 14) (.ext (.tmp 8) 0),
     .op (some 15) (.ext (.tmp 8) 1),
     .op (some 3) (.alloc [.int .i64 0, .int .i64 0] 38),
     .op none (.store 2 (.tmp 3) (.tmp 14)),
     .op (some 4) (.mv (.tmp 15))])
  (.seq
   (.reg [
     .op (some 16) (.mv (.tmp 4)),
     .op (some 17) (.bin .eql (.tmp 16) (.const (.int .i64 0))),
     .op (some 18) (.mv (.tmp 17)),
     .gd (some 18) true (some 19) (.load true 2 (.tmp 3)),
     .gd (some 18) true (some 20) (.load true 2 (.tmp 1)),
     .gd (some 18) true (some 21) (.eqs false [(0, .i), (1, .i)] (.tmp 19) (.tmp 20)),
     .op (some 22) (.pick (.tmp 18) (.tmp 21) (.const (.bool false))),
     .op (some 2) (.mv (.tmp 22))])
  .ret))))
theorem s45 : FnOK Tryz.prog 45 23 [ResultVar.tmp 2] c45 :=
  .mk' [] Tryz.func45 (by kernel_rfl) (by kernel_rfl) (by kernel_rfl)
def c46 : MC :=
  (.seq
   (.reg [
     .op (some 2) (.box 38 (.tmp 0)),
     .op (some 3) (.box 38 (.tmp 1)),
     .op (some 4) (.mv (.const (.int .i64 0)))])
  (.seq
   (.seq
    (.reg [
      .op (some 6) (.faddr 0 (.tmp 2)),
      .op (some 7) (.load false 1 (.tmp 6)),
      .op (some 8) (.bin .lss (.tmp 7) (.const (.int .i64 0))),
      .op (some 9) (.faddr 0 (.tmp 3)),
      .op (some 10) (.load false 1 (.tmp 9)),
      .op (some 11) (.bin .lss (.tmp 10) (.const (.int .i64 0))),
      .op (some 12) (.eqb true (.tmp 8) (.tmp 11))])
   (.cond (.tmp 12)
    (.seq
     (.seq
      (.reg [
        .op (some 13) (.faddr 0 (.tmp 2)),
        .op (some 14) (.load false 1 (.tmp 13)),
        .op (some 15) (.bin .lss (.tmp 14) (.const (.int .i64 0)))])
     (.cond (.tmp 15)
      (.seq
       (.reg [
         .op (some 4) (.mv (.const (.int .i64 (-1))))])
      .ret)
      .skip))
    (.seq
     (.reg [
       .op (some 4) (.mv (.const (.int .i64 1)))])
    .ret))
    .skip))
  (.seq
   (.reg [
     .op (some 16) (.faddr 0 (.tmp 2)),
     .op (some 17) (.load false 1 (.tmp 16)),
     .op (some 19) (.faddr 1 (.tmp 3)),
     .op (some 20) (.load false 1 (.tmp 19)),
     .op (some 21) (.cint .u64 (.tmp 20)),
     .op (some 23) (.faddr 0 (.tmp 3)),
     .op (some 24) (.load false 1 (.tmp 23)),
     .op (some 26) (.faddr 1 (.tmp 2)),
     .op (some 27) (.load false 1 (.tmp 26)),
     .op (some 28) (.cint .u64 (.tmp 27)),
     .op (some 18) (.call (.func 95) [(.tmp 17)]),
     .ck false none (some 27) (.load false 1 (.tmp 26)),
     .ck false none (some 24) (.load false 1 (.tmp 23)),
     .ck false none (some 20) (.load false 1 (.tmp 19)),
     .op (some 22) (.call (.func 94) [(.tmp 18), (.tmp 21)]),
     .ck false none (some 27) (.load false 1 (.tmp 26)),
     .ck false none (some 24) (.load false 1 (.tmp 23)),
     .op (some 25) (.call (.func 95) [(.tmp 24)]),
     .ck false none (some 27) (.load false 1 (.tmp 26)),
     .op (some 29) (.call (.func 94) [(.tmp 25), (.tmp 28)]),
     .op (some 30) (.call (.func 96) [(.tmp 22), (.tmp 29)]),
     .op (some 5) (.mv (.tmp 30))])
  (.seq
   (.seq
    (.reg [
      .op (some 31) (.faddr 0 (.tmp 2)),
      .op (some 32) (.load false 1 (.tmp 31)),
      .op (some 33) (.bin .lss (.tmp 32) (.const (.int .i64 0)))])
   (.cond (.tmp 33)
    (.seq
     (.reg [
       .op (some 34) (.mv (.tmp 5)),
       .op (some 35) (.un .neg (.tmp 34)),
       .op (some 4) (.mv (.tmp 35))])
    .ret)
    .skip))
  (.seq
   (.reg [
     .op (some 36) (.mv (.tmp 5)),
     .op (some 4) (.mv (.tmp 36))])
  .ret)))))
theorem s46 : FnOK Tryz.prog 46 37 [ResultVar.tmp 4] c46 :=
  .mk' [(5, [], [(0, []), (1, []), (3, []), (4, []), (5, []), (7, []), (8, []), (10, []), (11, []), (12, []), (2, [11, 8, 4]), (6, [11, 8]), (9, [11]), (13, []), (14, []), (15, [])])] Tryz.func46 (by kernel_rfl) (by kernel_rfl) (by kernel_rfl)
def c47 : MC :=
  (.seq
   (.reg [
     .op (some 2) (.box 40 (.tmp 0)),
     .op (some 3) (.box 75 (.tmp 1)),
     .op (some 4) (.alloc [.int .i64 0, .int .i64 0, .int .i64 0, .int .i64 0, .int .i64 0, .int .i64 0, .str [], .str [], .nilslice] 40),
     .op (some 5) (.alloc [.int .i64 0, .int .i64 0, .int .i64 0, .int .i64 0, .int .i64 0, .int .i64 0, .int .i64 0, .int .i64 0] 97),
     .op (some 6) (.mv (.const (.int .i64 0)))])
  (.seq
   (.reg [
     .op (some 7) (.alloc [.int .i64 0, .int .i64 0, .int .i64 0, .int .i64 0, .int .i64 0, .int .i64 0, .int .i64 0, .int .i64 0] 97)])
  (.seq
   (.reg [
     .op (some 12) (.load true 9 (.tmp 2)),
     .op (some 13) (.faddr 1 (.tmp 3)),
     .op (some 14) (.load true 2 (.tmp 13)),
     .op (some 15) (.call (.func 97) [(.tmp 12), (.tmp 14)]),
     .op (some 11) (.mv (.tmp 15)),
     .op (some 16) (.ext (.tmp 11) 0),
     .op (some 17) (.ext (.tmp 11) 1),
     .op (some 8) (.alloc [.int .i64 0, .int .i64 0, .int .i64 0, .int .i64 0, .int .i64 0, .int .i64 0, .str [], .str [], .nilslice] 40),
     .op none (.store 9 (.tmp 8) (.tmp 16)),
     .op (some 9) (.mv (.tmp 17))])
  (.seq
   (.seq
    (.reg [
      .op (some 18) (.mv (.tmp 9)),
      .op (some 19) (.bin .neq (.tmp 18) (.const (.int .i64 0)))])
   (.cond (.tmp 19)
    (.seq
     (.reg [
       .op (some 20) (.build [.int .i64 0, .int .i64 0, .int .i64 0, .int .i64 0, .int .i64 0, .int .i64 0, .str [], .str [], .nilslice] []),
       .op (some 21) (.load true 8 (.tmp 7)),
       .op (some 22) (.mv (.tmp 9)),
       .op none (.store 9 (.tmp 4) (.tmp 20)),
       .ck false none (some 21) (.load true 8 (.tmp 7)),
       .op none (.store 8 (.tmp 5) (.tmp 21)),
       .op (some 6) (.mv (.tmp 22))])
    .ret)
    .skip))
  (.seq
   (.seq
    (.reg [
      .op (some 23) (.faddr 3 (.tmp 3)),
      .op (some 24) (.load false 1 (.tmp 23)),
      .op (some 25) (.un .not (.tmp 24))])
   (.cond (.tmp 25)
    (.reg [
      .op (some 26) (.faddr 4 (.tmp 8)),
      .op none (.store 1 (.tmp 26) (.const (.int .i64 0)))])
    .skip))
  (.seq
   (.seq
    (.reg [
      .op (some 27) (.faddr 4 (.tmp 3)),
      .op (some 28) (.load false 1 (.tmp 27)),
      .op (some 29) (.un .not (.tmp 28))])
   (.cond (.tmp 29)
    (.reg [
      .op (some 30) (.faddr 5 (.tmp 8)),
      .op none (.store 1 (.tmp 30) (.const (.int .i64 0)))])
    .skip))
  (.seq
   (.seq
    (.reg [
      .op (some 32) (.faddr 0 (.tmp 3)),
      .op (some 33) (.load false 1 (.tmp 32)),
      .op (some 34) (.faddr 6 (.tmp 2)),
      .op (some 35) (.load false 1 (.tmp 34)),
      .op (some 36) (.call (.func 98) [(.tmp 33), (.tmp 35)]),
      .op (some 31) (.mv (.tmp 36)),
      .op (some 37) (.ext (.tmp 31) 0),
      .op (some 38) (.ext (.tmp 31) 1),
      .op (some 39) (.ext (.tmp 31) 2),
      .op (some 40) (.faddr 6 (.tmp 8)),
      .op none (.store 1 (.tmp 40) (.tmp 37)),
      .op (some 9) (.mv (.tmp 39))])
   (.seq
    (.reg [
      .op (some 41) (.mv (.tmp 9)),
      .op (some 42) (.bin .neq (.tmp 41) (.const (.int .i64 0)))])
   (.cond (.tmp 42)
    (.seq
     (.reg [
       .op (some 43) (.build [.int .i64 0, .int .i64 0, .int .i64 0, .int .i64 0, .int .i64 0, .int .i64 0, .str [], .str [], .nilslice] []),
       .op (some 44) (.load true 8 (.tmp 7)),
       .op (some 45) (.mv (.tmp 9)),
       .op none (.store 9 (.tmp 4) (.tmp 43)),
       .ck false none (some 44) (.load true 8 (.tmp 7)),
       .op none (.store 8 (.tmp 5) (.tmp 44)),
       .op (some 6) (.mv (.tmp 45))])
    .ret)
    .skip)))
  (.seq
   (.seq
    (.reg [
      .op (some 46) (.faddr 5 (.tmp 3)),
      .op (some 47) (.load false 1 (.tmp 46)),
      .op (some 48) (.un .not (.tmp 47))])
   (.cond (.tmp 48)
    (.reg [
      .op (some 49) (.faddr 6 (.tmp 8)),
      .op none (.store 1 (.tmp 49) (.const (.string ⟨⟨[]⟩⟩)))])
    .skip))
  (.seq
   (.reg [
     .op (some 51) (.faddr 7 (.tmp 2)),
     .op (some 52) (.load true 2 (.tmp 51)),
     .op (some 53) (.call (.func 99) [(.tmp 52)]),
     .op (some 50) (.mv (.tmp 53)),
     .op (some 54) (.ext (.tmp 50) 0),
     .op (some 55) (.ext (.tmp 50) 1),
     .op (some 10) (.alloc [.str [], .nilslice] 36),
     .op none (.store 2 (.tmp 10) (.tmp 54)),
     .op (some 9) (.mv (.tmp 55))])
  (.seq
   (.seq
    (.reg [
      .op (some 56) (.mv (.tmp 9)),
      .op (some 57) (.bin .neq (.tmp 56) (.const (.int .i64 0)))])
   (.cond (.tmp 57)
    (.seq
     (.reg [
       .op (some 58) (.build [.int .i64 0, .int .i64 0, .int .i64 0, .int .i64 0, .int .i64 0, .int .i64 0, .str [], .str [], .nilslice] []),
       .op (some 59) (.load true 8 (.tmp 7)),
       .op (some 60) (.mv (.tmp 9)),
       .op none (.store 9 (.tmp 4) (.tmp 58)),
       .ck false none (some 59) (.load true 8 (.tmp 7)),
       .op none (.store 8 (.tmp 5) (.tmp 59)),
       .op (some 6) (.mv (.tmp 60))])
    .ret)
    .skip))
  (.seq
   (.reg [
     .op (some 62) (.faddr 0 (.tmp 3)),
     .op (some 63) (.load false 1 (.tmp 62)),
     .op (some 64) (.load true 2 (.tmp 10)),
     .op (some 65) (.faddr 6 (.tmp 3)),
     .op (some 66) (.load false 1 (.tmp 65)),
     .op (some 67) (.call (.func 31) [(.tmp 63), (.tmp 64), (.tmp 66)]),
     .op (some 61) (.mv (.tmp 67)),
     .op (some 68) (.ext (.tmp 61) 0),
     .op (some 69) (.ext (.tmp 61) 1),
     .op (some 70) (.ext (.tmp 61) 2),
     .op (some 71) (.ext (.tmp 61) 3),
     .op (some 72) (.ext (.tmp 61) 4),
     .op (some 73) (.faddr 7 (.tmp 8)),
     .op none (.store 2 (.tmp 73) (.tmp 68)),
     .op (some 74) (.iaa 8 1 (.tmp 7) (.const (.int .i64 5))),
     .op none (.store 1 (.tmp 74) (.tmp 69)),
     .op (some 75) (.iaa 8 1 (.tmp 7) (.const (.int .i64 6))),
     .op none (.store 1 (.tmp 75) (.tmp 70)),
     .op (some 76) (.iaa 8 1 (.tmp 7) (.const (.int .i64 7))),
     .op none (.store 1 (.tmp 76) (.tmp 71)),
     .op (some 9) (.mv (.tmp 72))])
  (.seq
   (.seq
    (.reg [
      .op (some 77) (.mv (.tmp 9)),
      .op (some 78) (.bin .neq (.tmp 77) (.const (.int .i64 0)))])
   (.cond (.tmp 78)
    (.seq
     (.reg [
       .op (some 79) (.build [.int .i64 0, .int .i64 0, .int .i64 0, .int .i64 0, .int .i64 0, .int .i64 0, .str [], .str [], .nilslice] []),
       .op (some 80) (.load true 8 (.tmp 7)),
       .op (some 81) (.mv (.tmp 9)),
       .op none (.store 9 (.tmp 4) (.tmp 79)),
       .ck false none (some 80) (.load true 8 (.tmp 7)),
       .op none (.store 8 (.tmp 5) (.tmp 80)),
       .op (some 6) (.mv (.tmp 81))])
    .ret)
    .skip))
  (.seq
   (.reg [
     .op (some 82) (.faddr 0 (.tmp 8)),
     .op (some 83) (.load true 2 (.tmp 82)),
     .op (some 84) (.faddr 0 (.tmp 2)),
     .op (some 85) (.load true 2 (.tmp 84)),
     .op (some 86) (.eqs true [(0, .i), (1, .i)] (.tmp 83) (.tmp 85)),
     .op (some 87) (.mv (.tmp 86)),
     .gd (some 87) false (some 88) (.faddr 2 (.tmp 8)),
     .gd (some 87) false (some 89) (.load true 2 (.tmp 88)),
     .gd (some 87) false (some 90) (.faddr 2 (.tmp 2)),
     .gd (some 87) false (some 91) (.load true 2 (.tmp 90)),
     .gd (some 87) false (some 92) (.eqs true [(0, .i), (1, .i)] (.tmp 89) (.tmp 91)),
     .op (some 93) (.pick (.tmp 87) (.const (.bool true)) (.tmp 92)),
     .op (some 94) (.call (.func 100) [(.tmp 93)]),
     .op (some 95) (.iaa 8 1 (.tmp 7) (.const (.int .i64 1))),
     .op none (.store 1 (.tmp 95) (.tmp 94))])
  (.seq
   (.reg [
     .op (some 96) (.faddr 4 (.tmp 8)),
     .op (some 97) (.load false 1 (.tmp 96)),
     .op (some 98) (.faddr 4 (.tmp 2)),
     .op (some 99) (.load false 1 (.tmp 98)),
     .op (some 100) (.bin .neq (.tmp 97) (.tmp 99)),
     .op (some 101) (.call (.func 100) [(.tmp 100)]),
     .op (some 102) (.iaa 8 1 (.tmp 7) (.const (.int .i64 2))),
     .op none (.store 1 (.tmp 102) (.tmp 101))])
  (.seq
   (.reg [
     .op (some 103) (.faddr 5 (.tmp 8)),
     .op (some 104) (.load false 1 (.tmp 103)),
     .op (some 105) (.faddr 5 (.tmp 2)),
     .op (some 106) (.load false 1 (.tmp 105)),
     .op (some 107) (.bin .neq (.tmp 104) (.tmp 106)),
     .op (some 108) (.call (.func 100) [(.tmp 107)]),
     .op (some 109) (.iaa 8 1 (.tmp 7) (.const (.int .i64 3))),
     .op none (.store 1 (.tmp 109) (.tmp 108))])
  (.seq
   (.reg [
     .op (some 110) (.faddr 6 (.tmp 8)),
     .op (some 111) (.load false 1 (.tmp 110)),
     .op (some 112) (.faddr 6 (.tmp 2)),
     .op (some 113) (.load false 1 (.tmp 112)),
     .op (some 114) (.bin .neq (.tmp 111) (.tmp 113)),
     .op (some 115) (.call (.func 100) [(.tmp 114)]),
     .op (some 116) (.iaa 8 1 (.tmp 7) (.const (.int .i64 4))),
     .op none (.store 1 (.tmp 116) (.tmp 115))])
  (.seq
   (.reg [
     .op (some 117) (.load true 9 (.tmp 8)),
     .op (some 118) (.load true 8 (.tmp 7)),
     .op none (.store 9 (.tmp 4) (.tmp 117)),
     .ck false none (some 118) (.load true 8 (.tmp 7)),
     .op none (.store 8 (.tmp 5) (.tmp 118)),
     .op (some 6) (.mv (.const (.int .i64 0)))])
  .ret)))))))))))))))))
theorem s47 : FnOK Tryz.prog 47 119 [ResultVar.cell 4 40, ResultVar.cell 5 97, ResultVar.tmp 6] c47 :=
  .mk' [(4, [], [(0, []), (1, []), (2, []), (3, [1]), (4, []), (5, [])]), (11, [], [(0, []), (1, []), (2, []), (3, [1]), (4, []), (5, [])]), (16, [], [(0, []), (1, []), (2, []), (3, [1]), (4, []), (5, [])]), (19, [], [(0, []), (1, []), (2, []), (3, [1]), (4, []), (5, [])]), (24, [], [(0, []), (1, []), (2, [1]), (3, []), (4, [])])] Tryz.func47 (by kernel_rfl) (by kernel_rfl) (by kernel_rfl)
def c48 : MC :=
  (.seq
   (.reg [
     .op (some 2) (.mv (.const (.slice none 0 0)))])
  (.seq
   (.reg [
     .op (some 4) (.mv (.tmp 0)),
     .op (some 5) (.call (.func 101) [(.tmp 4)]),
     .op (some 3) (.mv (.tmp 5))])
  (.seq
   (.reg [
     .op (some 6) (.mv (.tmp 3)),
     .op (some 7) (.call (.func 102) [(.tmp 6), (.func 82)])])
  (.seq
   (.reg [
     .op (some 8) (.mv (.tmp 3)),
     .op (some 2) (.mv (.tmp 8))])
  .ret))))
theorem s48 : FnOK Tryz.prog 48 9 [ResultVar.tmp 2] c48 :=
  .mk' [] Tryz.func48 (by kernel_rfl) (by kernel_rfl) (by kernel_rfl)
def c49 : MC :=
  (.seq
   (.reg [
     .op (some 4) (.mv (.const (.string ⟨⟨[]⟩⟩)))])
  (.seq
   (.seq
    (.reg [
      .op (some 11) (.mv (.tmp 1))])
   (.block 0
    (.seq
     (.reg [
       .op (some 13) (.bin .eql (.tmp 11) (.const (.int .i64 0))),
       .op (some 12) (.mv (.tmp 13))])
    (.cond (.tmp 12)
     (.seq
      (.reg [
        .op (some 4) (.mv (.const (.string ⟨⟨[]⟩⟩)))])
     .ret)
     (.seq
      (.reg [
        .op (some 15) (.bin .eql (.tmp 11) (.const (.int .i64 1))),
        .op (some 14) (.mv (.tmp 15))])
     (.cond (.tmp 14)
      (.seq
       (.reg [
         .op (some 16) (.mv (.tmp 0)),
         .op (some 4) (.mv (.tmp 16))])
      .ret)
      .skip))))))
  (.seq
   (.seq
    (.reg [
      .op (some 17) (.mv (.tmp 1)),
      .op (some 18) (.bin .lss (.tmp 17) (.const (.int .i64 0)))])
   (.cond (.tmp 18)
    (.reg [
      .op (some 19) (.ifc 9 (.const (.string ⟨⟨[115, 116, 114, 105, 110, 103, 115, 58, 32, 110, 101, 103, 97, 116, 105, 118, 101, 32, 82, 101, 112, 101, 97, 116, 32, 99, 111, 117, 110, 116]⟩⟩))),
      .op none (.gen (.panic (.tmp 19)))])
    .skip))
  (.seq
   (.reg [
     .op (some 21) (.mv (.tmp 0)),
     .op (some 22) (.lenstr (.tmp 21)),
     .op (some 23) (.cint .u64 (.tmp 22)),
     .op (some 24) (.mv (.tmp 1)),
     .op (some 25) (.cint .u64 (.tmp 24)),
     .op (some 26) (.call (.func 103) [(.tmp 23), (.tmp 25)]),
     .op (some 20) (.mv (.tmp 26)),
     .op (some 27) (.ext (.tmp 20) 0),
     .op (some 28) (.ext (.tmp 20) 1),
     .op (some 5) (.mv (.tmp 27)),
     .op (some 6) (.mv (.tmp 28))])
  (.seq
   (.seq
    (.reg [
      .op (some 29) (.mv (.tmp 5)),
      .op (some 30) (.bin .gtr (.tmp 29) (.const (.int .u64 0))),
      .op (some 31) (.mv (.tmp 30)),
      .gd (some 31) false (some 32) (.mv (.tmp 6)),
      .gd (some 31) false (some 33) (.bin .gtr (.tmp 32) (.const (.int .u64 9223372036854775807))),
      .op (some 34) (.pick (.tmp 31) (.const (.bool true)) (.tmp 33))])
   (.cond (.tmp 34)
    (.reg [
      .op (some 35) (.ifc 9 (.const (.string ⟨⟨[115, 116, 114, 105, 110, 103, 115, 58, 32, 82, 101, 112, 101, 97, 116, 32, 111, 117, 116, 112, 117, 116, 32, 108, 101, 110, 103, 116, 104, 32, 111, 118, 101, 114, 102, 108, 111, 119]⟩⟩))),
      .op none (.gen (.panic (.tmp 35)))])
    .skip))
  (.seq
   (.reg [
     .op (some 36) (.mv (.tmp 6)),
     .op (some 37) (.cint .i64 (.tmp 36)),
     .op (some 7) (.mv (.tmp 37))])
  (.seq
   (.seq
    (.reg [
      .op (some 38) (.mv (.tmp 0)),
      .op (some 39) (.lenstr (.tmp 38)),
      .op (some 40) (.bin .eql (.tmp 39) (.const (.int .i64 0)))])
   (.cond (.tmp 40)
    (.seq
     (.reg [
       .op (some 4) (.mv (.const (.string ⟨⟨[]⟩⟩)))])
    .ret)
    .skip))
  (.seq
   (.seq
    (.reg [
      .op (some 41) (.mv (.tmp 0)),
      .op (some 42) (.ixs (.tmp 41) (.const (.int .i64 0)))])
   (.block 1
    (.seq
     (.seq
      (.reg [
        .op (some 44) (.bin .eql (.tmp 42) (.const (.int .u8 32))),
        .op (some 43) (.mv (.tmp 44))])
     (.cond (.tmp 43)
      .skip
      (.seq
       (.reg [
         .op (some 45) (.bin .eql (.tmp 42) (.const (.int .u8 45))),
         .op (some 43) (.mv (.tmp 45))])
      (.cond (.tmp 43)
       .skip
       (.seq
        (.reg [
          .op (some 46) (.bin .eql (.tmp 42) (.const (.int .u8 48))),
          .op (some 43) (.mv (.tmp 46))])
       (.cond (.tmp 43)
        .skip
        (.seq
         (.reg [
           .op (some 47) (.bin .eql (.tmp 42) (.const (.int .u8 61))),
           .op (some 43) (.mv (.tmp 47))])
        (.cond (.tmp 43)
         .skip
         (.reg [
           .op (some 48) (.bin .eql (.tmp 42) (.const (.int .u8 9))),
           .op (some 43) (.mv (.tmp 48))])))))))))
    (.cond (.tmp 43)
     (.block 2
      (.seq
       (.reg [
         .op (some 50) (.mv (.tmp 7)),
         .op (some 51) (.bin .leq (.tmp 50) (.const (.int .i64 128))),
         .op (some 52) (.mv (.tmp 51)),
         .gd (some 52) true (some 53) (.mv (.tmp 0)),
         .gd (some 52) true (some 54) (.call (.func 88) [(.const (.string ⟨⟨[32, 32, 32, 32, 32, 32, 32, 32, 32, 32, 32, 32, 32, 32, 32, 32, 32, 32, 32, 32, 32, 32, 32, 32, 32, 32, 32, 32, 32, 32, 32, 32, 32, 32, 32, 32, 32, 32, 32, 32, 32, 32, 32, 32, 32, 32, 32, 32, 32, 32, 32, 32, 32, 32, 32, 32, 32, 32, 32, 32, 32, 32, 32, 32, 32, 32, 32, 32, 32, 32, 32, 32, 32, 32, 32, 32, 32, 32, 32, 32, 32, 32, 32, 32, 32, 32, 32, 32, 32, 32, 32, 32, 32, 32, 32, 32, 32, 32, 32, 32, 32, 32, 32, 32, 32, 32, 32, 32, 32, 32, 32, 32, 32, 32, 32, 32, 32, 32, 32, 32, 32, 32, 32, 32, 32, 32, 32, 32]⟩⟩)), (.tmp 53)]),
         .op (some 55) (.pick (.tmp 52) (.tmp 54) (.const (.bool false))),
         .op (some 49) (.mv (.tmp 55))])
      (.cond (.tmp 49)
       (.seq
        (.reg [
          .op (some 56) (.mv (.tmp 7)),
          .op (some 57) (.sstr (.const (.string ⟨⟨[32, 32, 32, 32, 32, 32, 32, 32, 32, 32, 32, 32, 32, 32, 32, 32, 32, 32, 32, 32, 32, 32, 32, 32, 32, 32, 32, 32, 32, 32, 32, 32, 32, 32, 32, 32, 32, 32, 32, 32, 32, 32, 32, 32, 32, 32, 32, 32, 32, 32, 32, 32, 32, 32, 32, 32, 32, 32, 32, 32, 32, 32, 32, 32, 32, 32, 32, 32, 32, 32, 32, 32, 32, 32, 32, 32, 32, 32, 32, 32, 32, 32, 32, 32, 32, 32, 32, 32, 32, 32, 32, 32, 32, 32, 32, 32, 32, 32, 32, 32, 32, 32, 32, 32, 32, 32, 32, 32, 32, 32, 32, 32, 32, 32, 32, 32, 32, 32, 32, 32, 32, 32, 32, 32, 32, 32, 32, 32]⟩⟩)) none (some (.tmp 56))),
          .op (some 4) (.mv (.tmp 57))])
       .ret)
       (.seq
        (.reg [
          .op (some 59) (.mv (.tmp 7)),
          .op (some 60) (.bin .leq (.tmp 59) (.const (.int .i64 128))),
          .op (some 61) (.mv (.tmp 60)),
          .gd (some 61) true (some 62) (.mv (.tmp 0)),
          .gd (some 61) true (some 63) (.call (.func 88) [(.const (.string ⟨⟨[45, 45, 45, 45, 45, 45, 45, 45, 45, 45, 45, 45, 45, 45, 45, 45, 45, 45, 45, 45, 45, 45, 45, 45, 45, 45, 45, 45, 45, 45, 45, 45, 45, 45, 45, 45, 45, 45, 45, 45, 45, 45, 45, 45, 45, 45, 45, 45, 45, 45, 45, 45, 45, 45, 45, 45, 45, 45, 45, 45, 45, 45, 45, 45, 45, 45, 45, 45, 45, 45, 45, 45, 45, 45, 45, 45, 45, 45, 45, 45, 45, 45, 45, 45, 45, 45, 45, 45, 45, 45, 45, 45, 45, 45, 45, 45, 45, 45, 45, 45, 45, 45, 45, 45, 45, 45, 45, 45, 45, 45, 45, 45, 45, 45, 45, 45, 45, 45, 45, 45, 45, 45, 45, 45, 45, 45, 45, 45]⟩⟩)), (.tmp 62)]),
          .op (some 64) (.pick (.tmp 61) (.tmp 63) (.const (.bool false))),
          .op (some 58) (.mv (.tmp 64))])
       (.cond (.tmp 58)
        (.seq
         (.reg [
           .op (some 65) (.mv (.tmp 7)),
           .op (some 66) (.sstr (.const (.string ⟨⟨[45, 45, 45, 45, 45, 45, 45, 45, 45, 45, 45, 45, 45, 45, 45, 45, 45, 45, 45, 45, 45, 45, 45, 45, 45, 45, 45, 45, 45, 45, 45, 45, 45, 45, 45, 45, 45, 45, 45, 45, 45, 45, 45, 45, 45, 45, 45, 45, 45, 45, 45, 45, 45, 45, 45, 45, 45, 45, 45, 45, 45, 45, 45, 45, 45, 45, 45, 45, 45, 45, 45, 45, 45, 45, 45, 45, 45, 45, 45, 45, 45, 45, 45, 45, 45, 45, 45, 45, 45, 45, 45, 45, 45, 45, 45, 45, 45, 45, 45, 45, 45, 45, 45, 45, 45, 45, 45, 45, 45, 45, 45, 45, 45, 45, 45, 45, 45, 45, 45, 45, 45, 45, 45, 45, 45, 45, 45, 45]⟩⟩)) none (some (.tmp 65))),
           .op (some 4) (.mv (.tmp 66))])
        .ret)
        (.seq
         (.reg [
           .op (some 68) (.mv (.tmp 7)),
           .op (some 69) (.bin .leq (.tmp 68) (.const (.int .i64 64))),
           .op (some 70) (.mv (.tmp 69)),
           .gd (some 70) true (some 71) (.mv (.tmp 0)),
           .gd (some 70) true (some 72) (.call (.func 88) [(.const (.string ⟨⟨[48, 48, 48, 48, 48, 48, 48, 48, 48, 48, 48, 48, 48, 48, 48, 48, 48, 48, 48, 48, 48, 48, 48, 48, 48, 48, 48, 48, 48, 48, 48, 48, 48, 48, 48, 48, 48, 48, 48, 48, 48, 48, 48, 48, 48, 48, 48, 48, 48, 48, 48, 48, 48, 48, 48, 48, 48, 48, 48, 48, 48, 48, 48, 48]⟩⟩)), (.tmp 71)]),
           .op (some 73) (.pick (.tmp 70) (.tmp 72) (.const (.bool false))),
           .op (some 67) (.mv (.tmp 73))])
        (.cond (.tmp 67)
         (.seq
          (.reg [
            .op (some 74) (.mv (.tmp 7)),
            .op (some 75) (.sstr (.const (.string ⟨⟨[48, 48, 48, 48, 48, 48, 48, 48, 48, 48, 48, 48, 48, 48, 48, 48, 48, 48, 48, 48, 48, 48, 48, 48, 48, 48, 48, 48, 48, 48, 48, 48, 48, 48, 48, 48, 48, 48, 48, 48, 48, 48, 48, 48, 48, 48, 48, 48, 48, 48, 48, 48, 48, 48, 48, 48, 48, 48, 48, 48, 48, 48, 48, 48]⟩⟩)) none (some (.tmp 74))),
            .op (some 4) (.mv (.tmp 75))])
         .ret)
         (.seq
          (.reg [
            .op (some 77) (.mv (.tmp 7)),
            .op (some 78) (.bin .leq (.tmp 77) (.const (.int .i64 128))),
            .op (some 79) (.mv (.tmp 78)),
            .gd (some 79) true (some 80) (.mv (.tmp 0)),
            .gd (some 79) true (some 81) (.call (.func 88) [(.const (.string ⟨⟨[61, 61, 61, 61, 61, 61, 61, 61, 61, 61, 61, 61, 61, 61, 61, 61, 61, 61, 61, 61, 61, 61, 61, 61, 61, 61, 61, 61, 61, 61, 61, 61, 61, 61, 61, 61, 61, 61, 61, 61, 61, 61, 61, 61, 61, 61, 61, 61, 61, 61, 61, 61, 61, 61, 61, 61, 61, 61, 61, 61, 61, 61, 61, 61, 61, 61, 61, 61, 61, 61, 61, 61, 61, 61, 61, 61, 61, 61, 61, 61, 61, 61, 61, 61, 61, 61, 61, 61, 61, 61, 61, 61, 61, 61, 61, 61, 61, 61, 61, 61, 61, 61, 61, 61, 61, 61, 61, 61, 61, 61, 61, 61, 61, 61, 61, 61, 61, 61, 61, 61, 61, 61, 61, 61, 61, 61, 61, 61]⟩⟩)), (.tmp 80)]),
            .op (some 82) (.pick (.tmp 79) (.tmp 81) (.const (.bool false))),
            .op (some 76) (.mv (.tmp 82))])
         (.cond (.tmp 76)
          (.seq
           (.reg [
             .op (some 83) (.mv (.tmp 7)),
             .op (some 84) (.sstr (.const (.string ⟨⟨[61, 61, 61, 61, 61, 61, 61, 61, 61, 61, 61, 61, 61, 61, 61, 61, 61, 61, 61, 61, 61, 61, 61, 61, 61, 61, 61, 61, 61, 61, 61, 61, 61, 61, 61, 61, 61, 61, 61, 61, 61, 61, 61, 61, 61, 61, 61, 61, 61, 61, 61, 61, 61, 61, 61, 61, 61, 61, 61, 61, 61, 61, 61, 61, 61, 61, 61, 61, 61, 61, 61, 61, 61, 61, 61, 61, 61, 61, 61, 61, 61, 61, 61, 61, 61, 61, 61, 61, 61, 61, 61, 61, 61, 61, 61, 61, 61, 61, 61, 61, 61, 61, 61, 61, 61, 61, 61, 61, 61, 61, 61, 61, 61, 61, 61, 61, 61, 61, 61, 61, 61, 61, 61, 61, 61, 61, 61, 61]⟩⟩)) none (some (.tmp 83))),
             .op (some 4) (.mv (.tmp 84))])
          .ret)
          (.seq
           (.reg [
             .op (some 86) (.mv (.tmp 7)),
             .op (some 87) (.bin .leq (.tmp 86) (.const (.int .i64 64))),
             .op (some 88) (.mv (.tmp 87)),
             .gd (some 88) true (some 89) (.mv (.tmp 0)),
             .gd (some 88) true (some 90) (.call (.func 88) [(.const (.string ⟨⟨[9, 9, 9, 9, 9, 9, 9, 9, 9, 9, 9, 9, 9, 9, 9, 9, 9, 9, 9, 9, 9, 9, 9, 9, 9, 9, 9, 9, 9, 9, 9, 9, 9, 9, 9, 9, 9, 9, 9, 9, 9, 9, 9, 9, 9, 9, 9, 9, 9, 9, 9, 9, 9, 9, 9, 9, 9, 9, 9, 9, 9, 9, 9, 9]⟩⟩)), (.tmp 89)]),
             .op (some 91) (.pick (.tmp 88) (.tmp 90) (.const (.bool false))),
             .op (some 85) (.mv (.tmp 91))])
          (.cond (.tmp 85)
           (.seq
            (.reg [
              .op (some 92) (.mv (.tmp 7)),
              .op (some 93) (.sstr (.const (.string ⟨⟨[9, 9, 9, 9, 9, 9, 9, 9, 9, 9, 9, 9, 9, 9, 9, 9, 9, 9, 9, 9, 9, 9, 9, 9, 9, 9, 9, 9, 9, 9, 9, 9, 9, 9, 9, 9, 9, 9, 9, 9, 9, 9, 9, 9, 9, 9, 9, 9, 9, 9, 9, 9, 9, 9, 9, 9, 9, 9, 9, 9, 9, 9, 9, 9]⟩⟩)) none (some (.tmp 92))),
              .op (some 4) (.mv (.tmp 93))])
           .ret)
           .skip)))))))))))
     .skip))))
  (.seq
   (.reg [
     .op (some 94) (.mv (.tmp 7)),
     .op (some 8) (.mv (.tmp 94))])
  (.seq
   (.seq
    (.reg [
      .op (some 95) (.mv (.tmp 7)),
      .op (some 96) (.bin .gtr (.tmp 95) (.const (.int .i64 8192)))])
   (.cond (.tmp 96)
    (.seq
     (.reg [
       .op (some 97) (.mv (.tmp 0)),
       .op (some 98) (.lenstr (.tmp 97)),
       .op (some 99) (.bin .quo (.const (.int .i64 8192)) (.tmp 98)),
       .op (some 100) (.mv (.tmp 0)),
       .op (some 101) (.lenstr (.tmp 100)),
       .op (some 102) (.bin .mul (.tmp 99) (.tmp 101)),
       .op (some 8) (.mv (.tmp 102))])
    (.seq
     (.reg [
       .op (some 103) (.mv (.tmp 8)),
       .op (some 104) (.bin .eql (.tmp 103) (.const (.int .i64 0)))])
    (.cond (.tmp 104)
     (.reg [
       .op (some 105) (.mv (.tmp 0)),
       .op (some 106) (.lenstr (.tmp 105)),
       .op (some 8) (.mv (.tmp 106))])
     .skip)))
    .skip))
  (.seq
   (.reg [
     .op (some 9) (.alloc [.nilptr, .nilslice] 133)])
  (.seq
   (.reg [
     .op (some 107) (.mv (.tmp 7)),
     .op (some 108) (.call (.func 91) [(.tmp 9), (.tmp 107)])])
  (.seq
   (.reg [
     .op (some 109) (.mv (.tmp 0)),
     .op (some 110) (.call (.func 67) [(.tmp 9), (.tmp 109)])])
  (.seq
   (.block 3
    (.loop
     (.seq
      (.seq
       (.reg [
         .op (some 111) (.call (.func 104) [(.tmp 9)]),
         .op (some 112) (.mv (.tmp 7)),
         .op (some 113) (.bin .lss (.tmp 111) (.tmp 112))])
      (.cond (.tmp 113)
       .skip
       (.exit 3)))
     (.block 4
      (.seq
       (.reg [
         .op (some 114) (.mv (.tmp 7)),
         .op (some 115) (.call (.func 104) [(.tmp 9)]),
         .op (some 116) (.bin .sub (.tmp 114) (.tmp 115)),
         .op (some 117) (.call (.func 104) [(.tmp 9)]),
         .op (some 118) (.mv (.tmp 8)),
         .op (some 119) (.gen (.call ⟨.builtin .min, ⟨[(.tmp 116), (.tmp 117), (.tmp 118)]⟩, ⟨[3, 3, 3]⟩⟩)),
         .op (some 10) (.mv (.tmp 119))])
      (.reg [
        .op (some 120) (.call (.func 69) [(.tmp 9)]),
        .op (some 121) (.mv (.tmp 10)),
        .op (some 122) (.sstr (.tmp 120) none (some (.tmp 121))),
        .op (some 123) (.call (.func 67) [(.tmp 9), (.tmp 122)])]))))))
  (.seq
   (.reg [
     .op (some 124) (.call (.func 69) [(.tmp 9)]),
     .op (some 4) (.mv (.tmp 124))])
  .ret)))))))))))))))
theorem s49 : FnOK Tryz.prog 49 125 [ResultVar.tmp 4] c49 :=
  .mk' [] Tryz.func49 (by kernel_rfl) (by kernel_rfl) (by kernel_rfl)
def c50 : MC :=
  (.seq
   (.reg [
     .op (some 4) (.mv (.const (.string ⟨⟨[]⟩⟩)))])
  (.seq
   (.seq
    (.reg [
      .op (some 10) (.mv (.tmp 1)),
      .op (some 11) (.bin .eql (.tmp 10) (.const (.int .i64 10)))])
   (.cond (.tmp 11)
    (.seq
     (.seq
      (.reg [
        .op (some 12) (.mv (.tmp 0)),
        .op (some 13) (.bin .leq (.const (.int .i64 0)) (.tmp 12)),
        .op (some 14) (.mv (.tmp 13)),
        .gd (some 14) true (some 15) (.mv (.tmp 0)),
        .gd (some 14) true (some 16) (.bin .lss (.tmp 15) (.const (.int .i64 100))),
        .op (some 17) (.pick (.tmp 14) (.tmp 16) (.const (.bool false)))])
     (.cond (.tmp 17)
      (.seq
       (.reg [
         .op (some 18) (.mv (.tmp 0)),
         .op (some 19) (.call (.func 105) [(.tmp 18)]),
         .op (some 4) (.mv (.tmp 19))])
      .ret)
      .skip))
    (.seq
     (.reg [
       .op (some 5) (.alloc [.int .u8 0, .int .u8 0, .int .u8 0, .int .u8 0, .int .u8 0, .int .u8 0, .int .u8 0, .int .u8 0, .int .u8 0, .int .u8 0, .int .u8 0, .int .u8 0, .int .u8 0, .int .u8 0, .int .u8 0, .int .u8 0, .int .u8 0, .int .u8 0, .int .u8 0, .int .u8 0, .int .u8 0, .int .u8 0, .int .u8 0, .int .u8 0] 185)])
    (.seq
     (.reg [
       .op (some 20) (.mv (.tmp 0)),
       .op (some 21) (.cint .u64 (.tmp 20)),
       .op (some 6) (.mv (.tmp 21))])
    (.seq
     (.seq
      (.reg [
        .op (some 22) (.mv (.tmp 0)),
        .op (some 23) (.bin .lss (.tmp 22) (.const (.int .i64 0)))])
     (.cond (.tmp 23)
      (.reg [
        .op (some 24) (.mv (.tmp 6)),
        .op (some 25) (.un .neg (.tmp 24)),
        .op (some 6) (.mv (.tmp 25))])
      .skip))
    (.seq
     (.reg [
       .op (some 26) (.mv (.tmp 6)),
       .op (some 27) (.call (.func 106) [(.tmp 26)]),
       .op (some 7) (.mv (.tmp 27))])
    (.seq
     (.reg [
       .op (some 28) (.mv (.tmp 7)),
       .op (some 29) (.bin .add (.const (.int .i64 1)) (.tmp 28)),
       .op (some 30) (.sarr 24 1 (.tmp 5) (some (.const (.int .i64 1))) (some (.tmp 29)) none),
       .op (some 31) (.mv (.tmp 6)),
       .op (some 32) (.call (.func 107) [(.tmp 30), (.tmp 31)])])
    (.seq
     (.seq
      (.reg [
        .op (some 33) (.mv (.tmp 0)),
        .op (some 34) (.bin .lss (.tmp 33) (.const (.int .i64 0)))])
     (.cond (.tmp 34)
      (.seq
       (.reg [
         .op (some 35) (.iaa 24 1 (.tmp 5) (.const (.int .i64 0))),
         .op none (.store 1 (.tmp 35) (.const (.int .u8 45)))])
      (.seq
       (.reg [
         .op (some 36) (.mv (.tmp 7)),
         .op (some 37) (.bin .add (.const (.int .i64 1)) (.tmp 36)),
         .op (some 38) (.sarr 24 1 (.tmp 5) none (some (.tmp 37)) none),
         .op (some 39) (.cstr true (.tmp 38)),
         .op (some 4) (.mv (.tmp 39))])
      .ret))
      .skip))
    (.seq
     (.reg [
       .op (some 40) (.mv (.tmp 7)),
       .op (some 41) (.bin .add (.const (.int .i64 1)) (.tmp 40)),
       .op (some 42) (.sarr 24 1 (.tmp 5) (some (.const (.int .i64 1))) (some (.tmp 41)) none),
       .op (some 43) (.cstr true (.tmp 42)),
       .op (some 4) (.mv (.tmp 43))])
    .ret))))))))
    .skip))
  (.seq
   (.reg [
     .op (some 45) (.mv (.tmp 0)),
     .op (some 46) (.cint .u64 (.tmp 45)),
     .op (some 47) (.mv (.tmp 1)),
     .op (some 48) (.mv (.tmp 0)),
     .op (some 49) (.bin .lss (.tmp 48) (.const (.int .i64 0))),
     .op (some 50) (.call (.func 108) [(.const (.slice none 0 0)), (.tmp 46), (.tmp 47), (.tmp 49), (.const (.bool false))]),
     .op (some 44) (.mv (.tmp 50)),
     .op (some 51) (.ext (.tmp 44) 0),
     .op (some 52) (.ext (.tmp 44) 1),
     .op (some 8) (.mv (.tmp 51)),
     .op (some 9) (.mv (.tmp 52))])
  (.seq
   (.reg [
     .op (some 53) (.mv (.tmp 9)),
     .op (some 4) (.mv (.tmp 53))])
  .ret))))
theorem s50 : FnOK Tryz.prog 50 54 [ResultVar.tmp 4] c50 :=
  .mk' [] Tryz.func50 (by kernel_rfl) (by kernel_rfl) (by kernel_rfl)
def c51 : MC :=
  (.seq
   (.reg [
     .op (some 6) (.mv (.const (.slice none 0 0)))])
  (.seq
   (.seq
    (.reg [
      .op (some 9) (.mv (.tmp 2)),
      .op (some 10) (.bin .eql (.tmp 9) (.const (.int .i64 10)))])
   (.cond (.tmp 10)
    (.seq
     (.seq
      (.reg [
        .op (some 11) (.mv (.tmp 1)),
        .op (some 12) (.bin .lss (.tmp 11) (.const (.int .u64 100)))])
     (.cond (.tmp 12)
      (.seq
       (.reg [
         .op (some 13) (.mv (.tmp 0)),
         .op (some 14) (.mv (.tmp 1)),
         .op (some 15) (.cint .i64 (.tmp 14)),
         .op (some 16) (.call (.func 105) [(.tmp 15)]),
         .op (some 17) (.app 5 1 1 (.tmp 13) (.tmp 16)),
         .op (some 6) (.mv (.tmp 17))])
      .ret)
      .skip))
    (.seq
     (.reg [
       .op (some 7) (.alloc [.int .u8 0, .int .u8 0, .int .u8 0, .int .u8 0, .int .u8 0, .int .u8 0, .int .u8 0, .int .u8 0, .int .u8 0, .int .u8 0, .int .u8 0, .int .u8 0, .int .u8 0, .int .u8 0, .int .u8 0, .int .u8 0, .int .u8 0, .int .u8 0, .int .u8 0, .int .u8 0, .int .u8 0, .int .u8 0, .int .u8 0, .int .u8 0] 185)])
    (.seq
     (.reg [
       .op (some 18) (.mv (.tmp 1)),
       .op (some 19) (.call (.func 106) [(.tmp 18)]),
       .op (some 8) (.mv (.tmp 19))])
    (.seq
     (.reg [
       .op (some 20) (.mv (.tmp 8)),
       .op (some 21) (.sarr 24 1 (.tmp 7) none (some (.tmp 20)) none),
       .op (some 22) (.mv (.tmp 1)),
       .op (some 23) (.call (.func 107) [(.tmp 21), (.tmp 22)])])
    (.seq
     (.reg [
       .op (some 24) (.mv (.tmp 0)),
       .op (some 25) (.mv (.tmp 8)),
       .op (some 26) (.sarr 24 1 (.tmp 7) none (some (.tmp 25)) none),
       .op (some 27) (.app 5 1 1 (.tmp 24) (.tmp 26)),
       .op (some 6) (.mv (.tmp 27))])
    .ret)))))
    .skip))
  (.seq
   (.reg [
     .op (some 29) (.mv (.tmp 0)),
     .op (some 30) (.mv (.tmp 1)),
     .op (some 31) (.mv (.tmp 2)),
     .op (some 32) (.call (.func 108) [(.tmp 29), (.tmp 30), (.tmp 31), (.const (.bool false)), (.const (.bool true))]),
     .op (some 28) (.mv (.tmp 32)),
     .op (some 33) (.ext (.tmp 28) 0),
     .op (some 34) (.ext (.tmp 28) 1),
     .op (some 0) (.mv (.tmp 33))])
  (.seq
   (.reg [
     .op (some 35) (.mv (.tmp 0)),
     .op (some 6) (.mv (.tmp 35))])
  .ret))))
theorem s51 : FnOK Tryz.prog 51 36 [ResultVar.tmp 6] c51 :=
  .mk' [] Tryz.func51 (by kernel_rfl) (by kernel_rfl) (by kernel_rfl)
def c52 : MC :=
  (.seq
   (.reg [
     .op (some 2) (.mv (.const (.int .i64 0)))])
  (.seq
   (.reg [
     .op (some 3) (.mv (.const (.int .i64 0)))])
  (.seq
   (.seq
    (.reg [
      .op (some 4) (.mv (.tmp 0)),
      .op (some 5) (.rng (.tmp 4))])
   (.block 0
    (.loop
     (.seq
      (.reg [
        .op (some 6) (.nxt (.tmp 5)),
        .op (some 7) (.ext (.tmp 6) 0)])
     (.seq
      (.cond (.tmp 7)
       .skip
       (.exit 0))
     (.block 1
      (.reg [
        .op (some 8) (.mv (.tmp 3)),
        .op (some 9) (.bin .add (.tmp 8) (.const (.int .i64 1))),
        .op (some 3) (.mv (.tmp 9))])))))))
  (.seq
   (.reg [
     .op (some 10) (.mv (.tmp 3)),
     .op (some 2) (.mv (.tmp 10))])
  .ret))))
theorem s52 : FnOK Tryz.prog 52 11 [ResultVar.tmp 2] c52 :=
  .mk' [] Tryz.func52 (by kernel_rfl) (by kernel_rfl) (by kernel_rfl)
def c53 : MC :=
  (.seq
   (.reg [
     .op (some 2) (.box 108 (.tmp 0)),
     .op (some 4) (.mv (.const (.bool false)))])
  (.seq
   (.seq
    (.reg [
      .op (some 5) (.faddr 0 (.tmp 2)),
      .op (some 6) (.load false 1 (.tmp 5)),
      .op (some 7) (.bin .lss (.tmp 6) (.const (.int .i64 0))),
      .op (some 8) (.mv (.tmp 7)),
      .gd (some 8) false (some 9) (.faddr 1 (.tmp 2)),
      .gd (some 8) false (some 10) (.load false 1 (.tmp 9)),
      .gd (some 8) false (some 11) (.faddr 0 (.tmp 2)),
      .gd (some 8) false (some 12) (.load false 1 (.tmp 11)),
      .gd (some 8) false (some 13) (.bin .leq (.tmp 10) (.tmp 12)),
      .op (some 14) (.pick (.tmp 8) (.const (.bool true)) (.tmp 13)),
      .op (some 15) (.mv (.tmp 14)),
      .gd (some 15) false (some 16) (.faddr 1 (.tmp 2)),
      .gd (some 15) false (some 17) (.load false 1 (.tmp 16)),
      .gd (some 15) false (some 18) (.mv (.tmp 1)),
      .gd (some 15) false (some 19) (.bin .gtr (.tmp 17) (.tmp 18)),
      .op (some 20) (.pick (.tmp 15) (.const (.bool true)) (.tmp 19)),
      .op (some 21) (.mv (.tmp 20)),
      .gd (some 21) false (some 22) (.faddr 2 (.tmp 2)),
      .gd (some 21) false (some 23) (.load false 1 (.tmp 22)),
      .gd (some 21) false (some 24) (.bin .lss (.tmp 23) (.const (.int .i64 1))),
      .op (some 25) (.pick (.tmp 21) (.const (.bool true)) (.tmp 24)),
      .op (some 26) (.mv (.tmp 25)),
      .gd (some 26) false (some 27) (.faddr 2 (.tmp 2)),
      .gd (some 26) false (some 28) (.load false 1 (.tmp 27)),
      .gd (some 26) false (some 29) (.bin .gtr (.tmp 28) (.const (.int .i64 5))),
      .op (some 30) (.pick (.tmp 26) (.const (.bool true)) (.tmp 29))])
   (.cond (.tmp 30)
    (.seq
     (.reg [
       .op (some 4) (.mv (.const (.bool false)))])
    .ret)
    .skip))
  (.seq
   (.seq
    (.reg [
      .op (some 31) (.faddr 2 (.tmp 2)),
      .op (some 32) (.load false 1 (.tmp 31)),
      .op (some 33) (.bin .eql (.tmp 32) (.const (.int .i64 5)))])
   (.cond (.tmp 33)
    (.seq
     (.reg [
       .op (some 34) (.faddr 3 (.tmp 2)),
       .op (some 35) (.load false 1 (.tmp 34)),
       .op (some 36) (.bin .geq (.tmp 35) (.const (.int .i64 0))),
       .op (some 37) (.mv (.tmp 36)),
       .gd (some 37) true (some 38) (.faddr 3 (.tmp 2)),
       .gd (some 37) true (some 39) (.load false 1 (.tmp 38)),
       .gd (some 37) true (some 40) (.bin .leq (.tmp 39) (.const (.int .i64 16777215))),
       .op (some 41) (.pick (.tmp 37) (.tmp 40) (.const (.bool false))),
       .op (some 4) (.mv (.tmp 41))])
    .ret)
    .skip))
  (.seq
   (.reg [
     .op (some 42) (.faddr 3 (.tmp 2)),
     .op (some 43) (.load false 1 (.tmp 42)),
     .op (some 44) (.bin .eql (.tmp 43) (.const (.int .i64 0))),
     .op (some 4) (.mv (.tmp 44))])
  .ret))))
theorem s53 : FnOK Tryz.prog 53 45 [ResultVar.tmp 4] c53 :=
  .mk' [] Tryz.func53 (by kernel_rfl) (by kernel_rfl) (by kernel_rfl)
def c54 : MC :=
  (.seq
   (.reg [
     .op (some 4) (.mv (.const (.bool false)))])
  (.seq
   (.reg [
     .op (some 5) (.mv (.tmp 0)),
     .op (some 6) (.mv (.tmp 1)),
     .op (some 7) (.call (.func 109) [(.tmp 5), (.tmp 6)]),
     .op (some 8) (.bin .geq (.tmp 7) (.const (.int .i64 0))),
     .op (some 4) (.mv (.tmp 8))])
  .ret))
theorem s54 : FnOK Tryz.prog 54 9 [ResultVar.tmp 4] c54 :=
  .mk' [] Tryz.func54 (by kernel_rfl) (by kernel_rfl) (by kernel_rfl)
def c57 : MC :=
  (.seq
   (.reg [
     .op (some 4) (.mv (.const (.int .i64 0)))])
  (.seq
   (.reg [
     .op (some 5) (.mv (.tmp 0)),
     .op (some 6) (.mv (.tmp 1)),
     .op (some 7) (.call (.func 111) [(.tmp 5), (.tmp 6), (.const (.bool true))]),
     .op (some 4) (.mv (.tmp 7))])
  .ret))
theorem s57 : FnOK Tryz.prog 57 8 [ResultVar.tmp 4] c57 :=
  .mk' [] Tryz.func57 (by kernel_rfl) (by kernel_rfl) (by kernel_rfl)
def c59 : MC :=
  (.seq
   (.reg [
     .op (some 1) (.box 36 (.tmp 0)),
     .op (some 2) (.mv (.const .nilFunc))])
  (.seq
   (.seq
    (.reg [
      .op (some 4) (.load true 2 (.tmp 1)),
      .op (some 5) (.call (.func 29) [(.tmp 4)]),
      .op (some 6) (.bin .neq (.tmp 5) (.const (.int .i64 0)))])
   (.cond (.tmp 6)
    (.seq
     (.reg [
       .op (some 2) (.mv (.func 112))])
    .ret)
    .skip))
  (.seq
   (.reg [
     .op (some 7) (.load true 2 (.tmp 1)),
     .op (some 8) (.call (.func 113) [(.tmp 7)]),
     .op (some 3) (.alloc [.nilslice] 193),
     .op none (.store 1 (.tmp 3) (.tmp 8))])
  (.seq
   (.reg [
     .op (some 9) (.fnc 114 [] [(.tmp 1), (.tmp 3)]),
     .op (some 2) (.mv (.tmp 9))])
  .ret))))
theorem s59 : FnOK Tryz.prog 59 10 [ResultVar.tmp 2] c59 :=
  .mk' [] Tryz.func59 (by kernel_rfl) (by kernel_rfl) (by kernel_rfl)
def c60 : MC :=
  (.seq
   (.reg [
     .op (some 4) (.mv (.const (.string ⟨⟨[]⟩⟩))),
     .op (some 5) (.mv (.const (.bool false)))])
  (.seq
   (.seq
    (.reg [
      .op (some 7) (.mv (.tmp 1)),
      .op (some 8) (.bin .lss (.tmp 7) (.const (.int .i32 32))),
      .op (some 9) (.mv (.tmp 8)),
      .gd (some 9) true (some 10) (.mv (.tmp 1)),
      .gd (some 9) true (some 11) (.bin .neq (.tmp 10) (.const (.int .i32 10))),
      .op (some 12) (.pick (.tmp 9) (.tmp 11) (.const (.bool false)))])
   (.cond (.tmp 12)
    (.seq
     (.reg [
       .op (some 4) (.mv (.const (.string ⟨⟨[32]⟩⟩))),
       .op (some 5) (.mv (.const (.bool false)))])
    .ret)
    .skip))
  (.seq
   (.reg [
     .op (some 6) (.mv (.const (.bool false)))])
  (.seq
   (.seq
    (.reg [
      .op (some 13) (.mv (.tmp 0))])
   (.block 0
    (.seq
     (.reg [
       .op (some 15) (.bin .eql (.tmp 13) (.const (.int .i64 1))),
       .op (some 14) (.mv (.tmp 15))])
    (.cond (.tmp 14)
     (.reg [
       .op (some 16) (.mv (.tmp 1)),
       .op (some 17) (.bin .eql (.tmp 16) (.const (.int .i32 60))),
       .op (some 18) (.mv (.tmp 17)),
       .gd (some 18) false (some 19) (.mv (.tmp 1)),
       .gd (some 18) false (some 20) (.bin .eql (.tmp 19) (.const (.int .i32 62))),
       .op (some 21) (.pick (.tmp 18) (.const (.bool true)) (.tmp 20)),
       .op (some 6) (.mv (.tmp 21))])
     (.seq
      (.reg [
        .op (some 23) (.bin .eql (.tmp 13) (.const (.int .i64 3))),
        .op (some 22) (.mv (.tmp 23))])
     (.cond (.tmp 22)
      (.reg [
        .op (some 24) (.mv (.tmp 1)),
        .op (some 25) (.bin .eql (.tmp 24) (.const (.int .i32 123))),
        .op (some 26) (.mv (.tmp 25)),
        .gd (some 26) false (some 27) (.mv (.tmp 1)),
        .gd (some 26) false (some 28) (.bin .eql (.tmp 27) (.const (.int .i32 124))),
        .op (some 29) (.pick (.tmp 26) (.const (.bool true)) (.tmp 28)),
        .op (some 30) (.mv (.tmp 29)),
        .gd (some 30) false (some 31) (.mv (.tmp 1)),
        .gd (some 30) false (some 32) (.bin .eql (.tmp 31) (.const (.int .i32 125))),
        .op (some 33) (.pick (.tmp 30) (.const (.bool true)) (.tmp 32)),
        .op (some 6) (.mv (.tmp 33))])
      (.seq
       (.reg [
         .op (some 35) (.bin .eql (.tmp 13) (.const (.int .i64 4))),
         .op (some 34) (.mv (.tmp 35))])
      (.cond (.tmp 34)
       (.reg [
         .op (some 36) (.mv (.tmp 1)),
         .op (some 37) (.bin .eql (.tmp 36) (.const (.int .i32 123))),
         .op (some 38) (.mv (.tmp 37)),
         .gd (some 38) false (some 39) (.mv (.tmp 1)),
         .gd (some 38) false (some 40) (.bin .eql (.tmp 39) (.const (.int .i32 92))),
         .op (some 41) (.pick (.tmp 38) (.const (.bool true)) (.tmp 40)),
         .op (some 42) (.mv (.tmp 41)),
         .gd (some 42) false (some 43) (.mv (.tmp 1)),
         .gd (some 42) false (some 44) (.bin .eql (.tmp 43) (.const (.int .i32 125))),
         .op (some 45) (.pick (.tmp 42) (.const (.bool true)) (.tmp 44)),
         .op (some 6) (.mv (.tmp 45))])
       .skip))))))))
  (.seq
   (.seq
    (.reg [
      .op (some 46) (.mv (.tmp 6)),
      .op (some 47) (.un .not (.tmp 46))])
   (.cond (.tmp 47)
    (.seq
     (.reg [
       .op (some 4) (.mv (.const (.string ⟨⟨[]⟩⟩))),
       .op (some 5) (.mv (.const (.bool true)))])
    .ret)
    .skip))
  (.seq
   (.reg [
     .op (some 48) (.mv (.tmp 1)),
     .op (some 49) (.bin .sub (.tmp 48) (.const (.int .i32 32))),
     .op (some 50) (.bin .add (.tmp 49) (.const (.int .i32 65280))),
     .op (some 51) (.cstr false (.tmp 50)),
     .op (some 4) (.mv (.tmp 51)),
     .op (some 5) (.mv (.const (.bool false)))])
  .ret))))))
theorem s60 : FnOK Tryz.prog 60 52 [ResultVar.tmp 4, ResultVar.tmp 5] c60 :=
  .mk' [] Tryz.func60 (by kernel_rfl) (by kernel_rfl) (by kernel_rfl)
def c61 : MC :=
  (.seq
   (.reg [
     .op (some 2) (.mv (.const (.slice none 0 0)))])
  (.seq
   (.reg [
     .op (some 3) (.mv (.const (.slice none 0 0)))])
  (.seq
   (.reg [
     .op (some 4) (.mv (.const (.int .i64 0)))])
  (.seq
   (.seq
    (.reg [
      .op (some 7) (.mv (.tmp 0)),
      .op (some 8) (.lensl (.tmp 7)),
      .op (some 9) (.mv (.const (.int .i64 0)))])
   (.block 0
    (.loop
     (.seq
      (.reg [
        .op (some 10) (.bin .lss (.tmp 9) (.tmp 8))])
     (.seq
      (.cond (.tmp 10)
       .skip
       (.exit 0))
     (.seq
      (.block 1
       (.seq
        (.reg [
          .op (some 11) (.mv (.tmp 9)),
          .op (some 12) (.ias 6 (.tmp 7) (.tmp 9)),
          .op (some 13) (.load true 6 (.tmp 12)),
          .op (some 6) (.alloc [.str [], .bool false, .bool false, .bool false, .bool false, .int .i64 0] 124),
          .op (some 5) (.mv (.tmp 11)),
          .op none (.store 6 (.tmp 6) (.tmp 13))])
       (.seq
        (.reg [
          .op (some 14) (.faddr 0 (.tmp 6)),
          .op (some 15) (.load false 1 (.tmp 14)),
          .op (some 16) (.bin .eql (.tmp 15) (.const (.string ⟨⟨[10]⟩⟩)))])
       (.cond (.tmp 16)
        (.seq
         (.reg [
           .op (some 17) (.mv (.tmp 3)),
           .op (some 18) (.mv (.tmp 0)),
           .op (some 19) (.mv (.tmp 4)),
           .op (some 20) (.mv (.tmp 5)),
           .op (some 21) (.bin .add (.tmp 20) (.const (.int .i64 1))),
           .op (some 22) (.mv (.tmp 5)),
           .op (some 23) (.bin .add (.tmp 22) (.const (.int .i64 1))),
           .op (some 24) (.ssl 124 6 (.tmp 18) (some (.tmp 19)) (some (.tmp 21)) (some (.tmp 23))),
           .op (some 25) (.bslice 115 1 [.nilslice] [(0, 1, (.tmp 24))]),
           .op (some 26) (.app 115 1 24 (.tmp 17) (.tmp 25)),
           .op (some 3) (.mv (.tmp 26))])
        (.reg [
          .op (some 27) (.mv (.tmp 5)),
          .op (some 28) (.bin .add (.tmp 27) (.const (.int .i64 1))),
          .op (some 4) (.mv (.tmp 28))]))
        .skip))))
     (.reg [
       .op (some 29) (.bin .add (.tmp 9) (.const (.int .i64 1))),
       .op (some 9) (.mv (.tmp 29))])))))))
  (.seq
   (.reg [
     .op (some 30) (.mv (.tmp 3)),
     .op (some 31) (.mv (.tmp 0)),
     .op (some 32) (.mv (.tmp 4)),
     .op (some 33) (.ssl 124 6 (.tmp 31) (some (.tmp 32)) none none),
     .op (some 34) (.bslice 115 1 [.nilslice] [(0, 1, (.tmp 33))]),
     .op (some 35) (.app 115 1 24 (.tmp 30) (.tmp 34)),
     .op (some 2) (.mv (.tmp 35))])
  .ret)))))
theorem s61 : FnOK Tryz.prog 61 36 [ResultVar.tmp 2] c61 :=
  .mk' [] Tryz.func61 (by kernel_rfl) (by kernel_rfl) (by kernel_rfl)
def c62 : MC :=
  (.seq
   (.reg [
     .op (some 2) (.alloc [.bool false, .bool false, .bool false, .bool false, .int .i64 0] 122)])
  (.seq
   (.seq
    (.reg [
      .op (some 6) (.mv (.tmp 0)),
      .op (some 7) (.lensl (.tmp 6)),
      .op (some 8) (.bin .eql (.tmp 7) (.const (.int .i64 0)))])
   (.cond (.tmp 8)
    (.seq
     (.reg [
       .op (some 9) (.build [.bool false, .bool false, .bool false, .bool false, .int .i64 0] []),
       .op none (.store 5 (.tmp 2) (.tmp 9))])
    .ret)
    .skip))
  (.seq
   (.reg [
     .op (some 10) (.mv (.tmp 0)),
     .op (some 11) (.ias 6 (.tmp 10) (.const (.int .i64 0))),
     .op (some 12) (.faddr 1 (.tmp 11)),
     .op (some 13) (.load true 5 (.tmp 12)),
     .op (some 3) (.alloc [.bool false, .bool false, .bool false, .bool false, .int .i64 0] 122),
     .op none (.store 5 (.tmp 3) (.tmp 13))])
  (.seq
   (.seq
    (.reg [
      .op (some 14) (.mv (.tmp 0)),
      .op (some 15) (.ssl 124 6 (.tmp 14) (some (.const (.int .i64 1))) none none),
      .op (some 16) (.lensl (.tmp 15)),
      .op (some 17) (.mv (.const (.int .i64 0)))])
   (.block 0
    (.loop
     (.seq
      (.reg [
        .op (some 18) (.bin .lss (.tmp 17) (.tmp 16))])
     (.seq
      (.cond (.tmp 18)
       .skip
       (.exit 0))
     (.seq
      (.block 1
       (.seq
        (.reg [
          .op (some 19) (.ias 6 (.tmp 15) (.tmp 17)),
          .op (some 20) (.load true 6 (.tmp 19)),
          .op (some 5) (.alloc [.str [], .bool false, .bool false, .bool false, .bool false, .int .i64 0] 124),
          .op none (.store 6 (.tmp 5) (.tmp 20))])
       (.seq
        (.reg [
          .op (some 21) (.faddr 0 (.tmp 3)),
          .op (some 22) (.load false 1 (.tmp 21)),
          .op (some 23) (.mv (.tmp 22)),
          .gd (some 23) true (some 24) (.faddr 1 (.tmp 5)),
          .gd (some 23) true (some 25) (.faddr 0 (.tmp 24)),
          .gd (some 23) true (some 26) (.load false 1 (.tmp 25)),
          .op (some 27) (.pick (.tmp 23) (.tmp 26) (.const (.bool false))),
          .op (some 28) (.faddr 0 (.tmp 3)),
          .op none (.store 1 (.tmp 28) (.tmp 27))])
       (.seq
        (.reg [
          .op (some 29) (.faddr 1 (.tmp 3)),
          .op (some 30) (.load false 1 (.tmp 29)),
          .op (some 31) (.mv (.tmp 30)),
          .gd (some 31) true (some 32) (.faddr 1 (.tmp 5)),
          .gd (some 31) true (some 33) (.faddr 1 (.tmp 32)),
          .gd (some 31) true (some 34) (.load false 1 (.tmp 33)),
          .op (some 35) (.pick (.tmp 31) (.tmp 34) (.const (.bool false))),
          .op (some 36) (.faddr 1 (.tmp 3)),
          .op none (.store 1 (.tmp 36) (.tmp 35))])
       (.seq
        (.reg [
          .op (some 37) (.faddr 2 (.tmp 3)),
          .op (some 38) (.load false 1 (.tmp 37)),
          .op (some 39) (.mv (.tmp 38)),
          .gd (some 39) true (some 40) (.faddr 1 (.tmp 5)),
          .gd (some 39) true (some 41) (.faddr 2 (.tmp 40)),
          .gd (some 39) true (some 42) (.load false 1 (.tmp 41)),
          .op (some 43) (.pick (.tmp 39) (.tmp 42) (.const (.bool false))),
          .op (some 44) (.faddr 2 (.tmp 3)),
          .op none (.store 1 (.tmp 44) (.tmp 43))])
       (.seq
        (.reg [
          .op (some 45) (.faddr 3 (.tmp 3)),
          .op (some 46) (.load false 1 (.tmp 45)),
          .op (some 47) (.mv (.tmp 46)),
          .gd (some 47) true (some 48) (.faddr 1 (.tmp 5)),
          .gd (some 47) true (some 49) (.faddr 3 (.tmp 48)),
          .gd (some 47) true (some 50) (.load false 1 (.tmp 49)),
          .op (some 51) (.pick (.tmp 47) (.tmp 50) (.const (.bool false))),
          .op (some 52) (.faddr 3 (.tmp 3)),
          .op none (.store 1 (.tmp 52) (.tmp 51))])
       (.seq
        (.reg [
          .op (some 53) (.faddr 4 (.tmp 3)),
          .op (some 54) (.load false 1 (.tmp 53)),
          .op (some 55) (.faddr 1 (.tmp 5)),
          .op (some 56) (.faddr 4 (.tmp 55)),
          .op (some 57) (.load false 1 (.tmp 56)),
          .op (some 58) (.bin .neq (.tmp 54) (.tmp 57))])
       (.cond (.tmp 58)
        (.reg [
          .op (some 59) (.faddr 4 (.tmp 3)),
          .op none (.store 1 (.tmp 59) (.const (.int .i64 0)))])
        .skip))))))))
     (.reg [
       .op (some 60) (.bin .add (.tmp 17) (.const (.int .i64 1))),
       .op (some 17) (.mv (.tmp 60))])))))))
  (.seq
   (.reg [
     .op (some 61) (.load true 5 (.tmp 3)),
     .op none (.store 5 (.tmp 2) (.tmp 61))])
  .ret)))))
theorem s62 : FnOK Tryz.prog 62 62 [ResultVar.cell 2 122] c62 :=
  .mk' [] Tryz.func62 (by kernel_rfl) (by kernel_rfl) (by kernel_rfl)
def c63 : MC :=
  (.seq
   (.reg [
     .op (some 2) (.alloc [.str [], .nilslice] 36),
     .op (some 3) (.mv (.const (.int .i64 0)))])
  (.seq
   (.reg [
     .op (some 4) (.mv (.const (.slice none 0 0)))])
  (.seq
   (.seq
    (.reg [
      .op (some 11) (.mv (.tmp 0)),
      .op (some 12) (.lensl (.tmp 11)),
      .op (some 13) (.mv (.const (.int .i64 0)))])
   (.block 0
    (.loop
     (.seq
      (.reg [
        .op (some 14) (.bin .lss (.tmp 13) (.tmp 12))])
     (.seq
      (.cond (.tmp 14)
       .skip
       (.exit 0))
     (.seq
      (.block 1
       (.seq
        (.reg [
          .op (some 15) (.ias 6 (.tmp 11) (.tmp 13)),
          .op (some 16) (.load true 6 (.tmp 15)),
          .op (some 6) (.alloc [.str [], .bool false, .bool false, .bool false, .bool false, .int .i64 0] 124),
          .op none (.store 6 (.tmp 6) (.tmp 16))])
       (.seq
        (.seq
         (.reg [
           .op (some 17) (.mv (.tmp 4)),
           .op (some 18) (.lensl (.tmp 17)),
           .op (some 19) (.faddr 0 (.tmp 6)),
           .op (some 20) (.load false 1 (.tmp 19)),
           .op (some 21) (.lenstr (.tmp 20)),
           .op (some 22) (.bin .add (.tmp 18) (.tmp 21)),
           .op (some 23) (.bin .gtr (.tmp 22) (.const (.int .i64 4096)))])
        (.cond (.tmp 23)
         (.seq
          (.reg [
            .op (some 24) (.build [.str [], .nilslice] []),
            .op none (.store 2 (.tmp 2) (.tmp 24)),
            .op (some 3) (.mv (.const (.int .i64 3)))])
         .ret)
         .skip))
       (.reg [
         .op (some 25) (.mv (.tmp 4)),
         .op (some 26) (.faddr 0 (.tmp 6)),
         .op (some 27) (.load false 1 (.tmp 26)),
         .op (some 28) (.app 5 1 1 (.tmp 25) (.tmp 27)),
         .op (some 4) (.mv (.tmp 28))]))))
     (.reg [
       .op (some 29) (.bin .add (.tmp 13) (.const (.int .i64 1))),
       .op (some 13) (.mv (.tmp 29))])))))))
  (.seq
   (.reg [
     .op (some 7) (.mv (.const (.slice none 0 0)))])
  (.seq
   (.seq
    (.reg [
      .op (some 30) (.mv (.tmp 0)),
      .op (some 31) (.lensl (.tmp 30)),
      .op (some 32) (.mv (.const (.int .i64 0)))])
   (.block 2
    (.loop
     (.seq
      (.reg [
        .op (some 33) (.bin .lss (.tmp 32) (.tmp 31))])
     (.seq
      (.cond (.tmp 33)
       .skip
       (.exit 2))
     (.seq
      (.block 3
       (.seq
        (.reg [
          .op (some 34) (.mv (.tmp 32)),
          .op (some 35) (.ias 6 (.tmp 30) (.tmp 32)),
          .op (some 36) (.load true 6 (.tmp 35)),
          .op (some 9) (.alloc [.str [], .bool false, .bool false, .bool false, .bool false, .int .i64 0] 124),
          .op (some 8) (.mv (.tmp 34)),
          .op none (.store 6 (.tmp 9) (.tmp 36))])
       (.seq
        (.seq
         (.reg [
           .op (some 37) (.mv (.tmp 7)),
           .op (some 38) (.lensl (.tmp 37)),
           .op (some 10) (.mv (.tmp 38))])
        (.seq
         (.reg [
           .op (some 39) (.mv (.tmp 10)),
           .op (some 40) (.bin .gtr (.tmp 39) (.const (.int .i64 0))),
           .op (some 41) (.mv (.tmp 40)),
           .gd (some 41) true (some 42) (.mv (.tmp 7)),
           .gd (some 41) true (some 43) (.mv (.tmp 10)),
           .gd (some 41) true (some 44) (.bin .sub (.tmp 43) (.const (.int .i64 1))),
           .gd (some 41) true (some 45) (.ias 7 (.tmp 42) (.tmp 44)),
           .gd (some 41) true (some 46) (.faddr 2 (.tmp 45)),
           .gd (some 41) true (some 47) (.load true 5 (.tmp 46)),
           .gd (some 41) true (some 48) (.faddr 1 (.tmp 9)),
           .gd (some 41) true (some 49) (.load true 5 (.tmp 48)),
           .gd (some 41) true (some 50) (.eqs false [(0, .b), (1, .b), (2, .b), (3, .b), (4, .i)] (.tmp 47) (.tmp 49)),
           .op (some 51) (.pick (.tmp 41) (.tmp 50) (.const (.bool false)))])
        (.cond (.tmp 51)
         (.seq
          (.reg [
            .op (some 52) (.mv (.tmp 7)),
            .op (some 53) (.mv (.tmp 10)),
            .op (some 54) (.bin .sub (.tmp 53) (.const (.int .i64 1))),
            .op (some 55) (.ias 7 (.tmp 52) (.tmp 54)),
            .op (some 56) (.faddr 1 (.tmp 55)),
            .op (some 57) (.load false 1 (.tmp 56)),
            .op (some 58) (.bin .add (.tmp 57) (.const (.int .i64 1))),
            .op (some 59) (.ias 7 (.tmp 52) (.tmp 54)),
            .op (some 60) (.faddr 1 (.tmp 59)),
            .op none (.store 1 (.tmp 60) (.tmp 58))])
         (.exit 3))
         .skip)))
       (.reg [
         .op (some 61) (.mv (.tmp 7)),
         .op (some 62) (.mv (.tmp 8)),
         .op (some 63) (.mv (.tmp 8)),
         .op (some 64) (.bin .add (.tmp 63) (.const (.int .i64 1))),
         .op (some 65) (.faddr 1 (.tmp 9)),
         .op (some 66) (.load true 5 (.tmp 65)),
         .op (some 67) (.build [.int .i64 0, .int .i64 0, .bool false, .bool false, .bool false, .bool false, .int .i64 0] [(0, 1, (.tmp 62)), (1, 1, (.tmp 64)), (2, 5, (.tmp 66))]),
         .op (some 68) (.bslice 200 1 [.int .i64 0, .int .i64 0, .bool false, .bool false, .bool false, .bool false, .int .i64 0] [(0, 7, (.tmp 67))]),
         .op (some 69) (.app 200 7 32 (.tmp 61) (.tmp 68)),
         .op (some 7) (.mv (.tmp 69))]))))
     (.reg [
       .op (some 70) (.bin .add (.tmp 32) (.const (.int .i64 1))),
       .op (some 32) (.mv (.tmp 70))])))))))
  (.seq
   (.reg [
     .op (some 71) (.mv (.tmp 4)),
     .op (some 72) (.cstr true (.tmp 71)),
     .op (some 73) (.mv (.tmp 7)),
     .op (some 74) (.call (.func 116) [(.tmp 72), (.tmp 73)]),
     .op (some 75) (.ext (.tmp 74) 0),
     .op (some 76) (.ext (.tmp 74) 1),
     .op none (.store 2 (.tmp 2) (.tmp 75)),
     .op (some 3) (.mv (.tmp 76))])
  .ret))))))
theorem s63 : FnOK Tryz.prog 63 77 [ResultVar.cell 2 36, ResultVar.tmp 3] c63 :=
  .mk' [(14, [], [(0, []), (1, []), (2, []), (3, []), (4, []), (5, []), (6, []), (7, []), (8, []), (9, []), (10, []), (11, []), (12, [])])] Tryz.func63 (by kernel_rfl) (by kernel_rfl) (by kernel_rfl)
def c64 : MC :=
  (.seq
   (.reg [
     .op (some 1) (.box 36 (.tmp 0)),
     .op (some 2) (.mv (.const (.slice none 0 0)))])
  (.seq
   (.reg [
     .op (some 3) (.alloc [.nilslice] 115)])
  (.seq
   (.seq
    (.reg [
      .op (some 6) (.load true 2 (.tmp 1)),
      .op (some 7) (.call (.func 59) [(.tmp 6)])])
   (.block 0
    (.range (.tmp 7) [8, 9]
     (.seq
      (.reg [
        .op (some 4) (.alloc [.int .i64 0, .int .i64 0, .int .i32 0, .bool false] 120),
        .op none (.store 4 (.tmp 4) (.tmp 8))])
     (.reg [
       .op (some 5) (.alloc [.bool false, .bool false, .bool false, .bool false, .int .i64 0] 122),
       .op none (.store 5 (.tmp 5) (.tmp 9))]))
     (.block 1
      (.reg [
        .op (some 10) (.load false 1 (.tmp 3)),
        .op (some 11) (.faddr 0 (.tmp 1)),
        .op (some 12) (.load false 1 (.tmp 11)),
        .op (some 13) (.faddr 0 (.tmp 4)),
        .op (some 14) (.load false 1 (.tmp 13)),
        .op (some 15) (.faddr 0 (.tmp 4)),
        .op (some 16) (.load false 1 (.tmp 15)),
        .op (some 17) (.faddr 1 (.tmp 4)),
        .op (some 18) (.load false 1 (.tmp 17)),
        .op (some 19) (.bin .add (.tmp 16) (.tmp 18)),
        .op (some 20) (.sstr (.tmp 12) (some (.tmp 14)) (some (.tmp 19))),
        .op (some 21) (.load true 5 (.tmp 5)),
        .op (some 22) (.build [.str [], .bool false, .bool false, .bool false, .bool false, .int .i64 0] [(0, 1, (.tmp 20)), (1, 5, (.tmp 21))]),
        .op (some 23) (.bslice 124 1 [.str [], .bool false, .bool false, .bool false, .bool false, .int .i64 0] [(0, 6, (.tmp 22))]),
        .ck false none (some 10) (.load false 1 (.tmp 3)),
        .op (some 24) (.app 124 6 32 (.tmp 10) (.tmp 23)),
        .op none (.store 1 (.tmp 3) (.tmp 24))])))))
  (.seq
   (.reg [
     .op (some 25) (.load false 1 (.tmp 3)),
     .op (some 2) (.mv (.tmp 25))])
  .ret))))
theorem s64 : FnOK Tryz.prog 64 26 [ResultVar.tmp 2] c64 :=
  .mk' [(5, [], [(0, []), (1, []), (2, []), (3, []), (4, []), (5, []), (6, []), (7, []), (8, []), (9, []), (10, []), (11, []), (12, []), (13, [0]), (14, []), (15, [])])] Tryz.func64 (by kernel_rfl) (by kernel_rfl) (by kernel_rfl)
def c66 : MC :=
  (.seq
   (.reg [
     .op (some 2) (.box 122 (.tmp 0)),
     .op (some 4) (.mv (.const (.int .i64 0)))])
  (.seq
   (.reg [
     .op (some 5) (.mv (.const (.bool false)))])
  (.seq
   (.seq
    (.reg [
      .op (some 6) (.mv (.tmp 1))])
   (.block 0
    (.seq
     (.reg [
       .op (some 10) (.bin .eql (.tmp 6) (.const (.int .i64 1))),
       .op (some 9) (.mv (.tmp 10))])
    (.cond (.tmp 9)
     (.reg [
       .op (some 11) (.faddr 0 (.tmp 2)),
       .op (some 12) (.load false 1 (.tmp 11)),
       .op (some 5) (.mv (.tmp 12))])
     (.seq
      (.reg [
        .op (some 14) (.bin .eql (.tmp 6) (.const (.int .i64 2))),
        .op (some 13) (.mv (.tmp 14))])
     (.cond (.tmp 13)
      (.reg [
        .op (some 15) (.faddr 1 (.tmp 2)),
        .op (some 16) (.load false 1 (.tmp 15)),
        .op (some 5) (.mv (.tmp 16))])
      (.seq
       (.reg [
         .op (some 18) (.bin .eql (.tmp 6) (.const (.int .i64 3))),
         .op (some 17) (.mv (.tmp 18))])
      (.cond (.tmp 17)
       (.reg [
         .op (some 19) (.faddr 2 (.tmp 2)),
         .op (some 20) (.load false 1 (.tmp 19)),
         .op (some 5) (.mv (.tmp 20))])
       (.seq
        (.reg [
          .op (some 22) (.bin .eql (.tmp 6) (.const (.int .i64 4))),
          .op (some 21) (.mv (.tmp 22))])
       (.cond (.tmp 21)
        (.reg [
          .op (some 23) (.faddr 3 (.tmp 2)),
          .op (some 24) (.load false 1 (.tmp 23)),
          .op (some 5) (.mv (.tmp 24))])
        (.seq
         (.reg [
           .op (some 7) (.faddr 4 (.tmp 2)),
           .op (some 8) (.load false 1 (.tmp 7)),
           .op (some 4) (.mv (.tmp 8))])
        .ret)))))))))))
  (.seq
   (.seq
    (.reg [
      .op (some 25) (.mv (.tmp 5))])
   (.cond (.tmp 25)
    (.seq
     (.reg [
       .op (some 4) (.mv (.const (.int .i64 1)))])
    .ret)
    .skip))
  (.seq
   (.reg [
     .op (some 4) (.mv (.const (.int .i64 0)))])
  .ret)))))
theorem s66 : FnOK Tryz.prog 66 26 [ResultVar.tmp 4] c66 :=
  .mk' [] Tryz.func66 (by kernel_rfl) (by kernel_rfl) (by kernel_rfl)
def c67 : MC :=
  (.seq
   (.reg [
     .op (some 4) (.mv (.const (.int .i64 0))),
     .op (some 5) (.mv (.const .nilIface))])
  (.seq
   (.reg [
     .op (some 6) (.mv (.tmp 0)),
     .op (some 7) (.call (.func 117) [(.tmp 6)])])
  (.seq
   (.reg [
     .op (some 8) (.mv (.tmp 0)),
     .op (some 9) (.mv (.tmp 0)),
     .op (some 10) (.nilck (.tmp 9)),
     .op (some 11) (.faddr 1 (.tmp 10)),
     .op (some 12) (.load false 1 (.tmp 11)),
     .op (some 13) (.mv (.tmp 1)),
     .op (some 14) (.app 5 1 1 (.tmp 12) (.tmp 13)),
     .op (some 15) (.nilck (.tmp 8)),
     .op (some 16) (.faddr 1 (.tmp 15)),
     .op none (.store 1 (.tmp 16) (.tmp 14))])
  (.seq
   (.reg [
     .op (some 17) (.mv (.tmp 1)),
     .op (some 18) (.lenstr (.tmp 17)),
     .op (some 4) (.mv (.tmp 18)),
     .op (some 5) (.mv (.const .nilIface))])
  .ret))))
theorem s67 : FnOK Tryz.prog 67 19 [ResultVar.tmp 4, ResultVar.tmp 5] c67 :=
  .mk' [] Tryz.func67 (by kernel_rfl) (by kernel_rfl) (by kernel_rfl)
def c69 : MC :=
  (.seq
   (.reg [
     .op (some 2) (.mv (.const (.string ⟨⟨[]⟩⟩)))])
  (.seq
   (.reg [
     .op (some 3) (.mv (.tmp 0)),
     .op (some 4) (.nilck (.tmp 3)),
     .op (some 5) (.faddr 1 (.tmp 4)),
     .op (some 6) (.load false 1 (.tmp 5)),
     .op (some 8) (.mv (.tmp 0)),
     .op (some 9) (.nilck (.tmp 8)),
     .op (some 10) (.faddr 1 (.tmp 9)),
     .op (some 11) (.load false 1 (.tmp 10)),
     .op (some 12) (.lensl (.tmp 11)),
     .op (some 7) (.gen (.call ⟨.builtin .unsafeSliceData, ⟨[(.tmp 6)]⟩, ⟨[33]⟩⟩)),
     .ck false none (some 11) (.load false 1 (.tmp 10)),
     .op (some 13) (.gen (.call ⟨.builtin .unsafeString, ⟨[(.tmp 7), (.tmp 12)]⟩, ⟨[203, 3]⟩⟩)),
     .op (some 2) (.mv (.tmp 13))])
  .ret))
theorem s69 : FnOK Tryz.prog 69 14 [ResultVar.tmp 2] c69 :=
  .mk' [(1, [], [(0, []), (1, []), (2, []), (3, []), (5, []), (6, []), (7, []), (8, []), (9, []), (4, [8]), (10, []), (11, [])])] Tryz.func69 (by kernel_rfl) (by kernel_rfl) (by kernel_rfl)
def c71 : MC :=
  (.seq
   (.reg [
     .op (some 4) (.mv (.const (.string ⟨⟨[]⟩⟩)))])
  (.seq
   (.seq
    (.reg [
      .op (some 5) (.mv (.tmp 0)),
      .op (some 6) (.bin .neq (.tmp 5) (.const (.int .i64 2)))])
   (.cond (.tmp 6)
    (.seq
     (.reg [
       .op (some 7) (.mv (.tmp 1)),
       .op (some 4) (.mv (.tmp 7))])
    .ret)
    .skip))
  (.seq
   (.reg [
     .op (some 8) (.bslice 9 6 [.str [], .str [], .str [], .str [], .str [], .str []] [(0, 1, (.const (.string ⟨⟨[38]⟩⟩))), (1, 1, (.const (.string ⟨⟨[38, 97, 109, 112, 59]⟩⟩))), (2, 1, (.const (.string ⟨⟨[60]⟩⟩))), (3, 1, (.const (.string ⟨⟨[38, 108, 116, 59]⟩⟩))), (4, 1, (.const (.string ⟨⟨[62]⟩⟩))), (5, 1, (.const (.string ⟨⟨[38, 103, 116, 59]⟩⟩)))]),
     .op (some 9) (.call (.func 118) [(.tmp 8)]),
     .op (some 10) (.mv (.tmp 1)),
     .op (some 11) (.call (.func 119) [(.tmp 9), (.tmp 10)]),
     .op (some 4) (.mv (.tmp 11))])
  .ret)))
theorem s71 : FnOK Tryz.prog 71 12 [ResultVar.tmp 4] c71 :=
  .mk' [] Tryz.func71 (by kernel_rfl) (by kernel_rfl) (by kernel_rfl)
def c72 : MC :=
  (.seq
   (.reg [
     .op (some 4) (.box 122 (.tmp 0)),
     .op (some 5) (.box 122 (.tmp 1))])
  (.seq
   (.reg [
     .op (some 6) (.mv (.const (.int .i64 1)))])
  (.seq
   (.block 0
    (.loop
     (.seq
      (.seq
       (.reg [
         .op (some 10) (.mv (.tmp 6)),
         .op (some 11) (.bin .leq (.tmp 10) (.const (.int .i64 5))),
         .op (some 12) (.mv (.tmp 11)),
         .gd (some 12) true (some 13) (.load true 5 (.tmp 4)),
         .gd (some 12) true (some 14) (.mv (.tmp 6)),
         .gd (some 12) true (some 16) (.load true 5 (.tmp 5)),
         .gd (some 12) true (some 17) (.mv (.tmp 6)),
         .gd (some 12) true (some 15) (.call (.func 66) [(.tmp 13), (.tmp 14)]),
         .ck false (some ((some 12), true)) (some 16) (.load true 5 (.tmp 5)),
         .gd (some 12) true (some 18) (.call (.func 66) [(.tmp 16), (.tmp 17)]),
         .gd (some 12) true (some 19) (.bin .eql (.tmp 15) (.tmp 18)),
         .op (some 20) (.pick (.tmp 12) (.tmp 19) (.const (.bool false)))])
      (.cond (.tmp 20)
       .skip
       (.exit 0)))
     (.block 1
      (.reg [
        .op (some 21) (.mv (.tmp 6)),
        .op (some 22) (.bin .add (.tmp 21) (.const (.int .i64 1))),
        .op (some 6) (.mv (.tmp 22))])))))
  (.seq
   (.seq
    (.reg [
      .op (some 7) (.mv (.const (.int .i64 5)))])
   (.block 2
    (.loop
     (.seq
      (.seq
       (.reg [
         .op (some 23) (.mv (.tmp 7)),
         .op (some 24) (.mv (.tmp 6)),
         .op (some 25) (.bin .geq (.tmp 23) (.tmp 24))])
      (.cond (.tmp 25)
       .skip
       (.exit 2)))
     (.seq
      (.block 3
       (.seq
        (.reg [
          .op (some 28) (.load true 5 (.tmp 4)),
          .op (some 29) (.mv (.tmp 7)),
          .op (some 30) (.call (.func 66) [(.tmp 28), (.tmp 29)]),
          .op (some 31) (.bin .neq (.tmp 30) (.const (.int .i64 0)))])
       (.cond (.tmp 31)
        (.reg [
          .op (some 32) (.load false 1 (.tmp 3)),
          .op (some 33) (.mv (.tmp 7)),
          .op (some 34) (.call (.func 73) [(.tmp 32), (.tmp 33)]),
          .op (some 35) (.call (.func 67) [(.tmp 2), (.tmp 34)])])
        .skip)))
     (.reg [
       .op (some 26) (.mv (.tmp 7)),
       .op (some 27) (.bin .sub (.tmp 26) (.const (.int .i64 1))),
       .op (some 7) (.mv (.tmp 27))]))))))
  (.seq
   (.reg [
     .op (some 36) (.mv (.tmp 6)),
     .op (some 8) (.mv (.tmp 36))])
  (.block 4
   (.loop
    (.seq
     (.seq
      (.reg [
        .op (some 37) (.mv (.tmp 8)),
        .op (some 38) (.bin .leq (.tmp 37) (.const (.int .i64 5)))])
     (.cond (.tmp 38)
      .skip
      (.exit 4)))
    (.seq
     (.block 5
      (.seq
       (.reg [
         .op (some 41) (.load true 5 (.tmp 5)),
         .op (some 42) (.mv (.tmp 8)),
         .op (some 43) (.call (.func 66) [(.tmp 41), (.tmp 42)]),
         .op (some 9) (.mv (.tmp 43))])
      (.seq
       (.reg [
         .op (some 44) (.mv (.tmp 9)),
         .op (some 45) (.bin .neq (.tmp 44) (.const (.int .i64 0)))])
      (.cond (.tmp 45)
       (.reg [
         .op (some 46) (.load false 1 (.tmp 3)),
         .op (some 47) (.mv (.tmp 8)),
         .op (some 48) (.mv (.tmp 9)),
         .op (some 49) (.call (.func 74) [(.tmp 46), (.tmp 47), (.tmp 48)]),
         .op (some 50) (.call (.func 67) [(.tmp 2), (.tmp 49)])])
       .skip))))
    (.reg [
      .op (some 39) (.mv (.tmp 8)),
      .op (some 40) (.bin .add (.tmp 39) (.const (.int .i64 1))),
      .op (some 8) (.mv (.tmp 40))]))))))))))
theorem s72 : FnOK Tryz.prog 72 51 [] c72 :=
  .mk' [(2, [], [(0, []), (1, []), (2, []), (3, []), (4, []), (6, []), (7, []), (5, [6]), (8, []), (9, []), (10, [])])] Tryz.func72 (by kernel_rfl) (by kernel_rfl) (by kernel_rfl)
def c73 : MC :=
  (.seq
   (.reg [
     .op (some 4) (.mv (.const (.string ⟨⟨[]⟩⟩)))])
  (.seq
   (.block 0
    (.seq
     (.reg [
       .op (some 6) (.mv (.tmp 1)),
       .op (some 7) (.bin .neq (.tmp 6) (.const (.int .i64 5))),
       .op (some 5) (.mv (.tmp 7))])
    (.cond (.tmp 5)
     (.seq
      (.reg [
        .op (some 8) (.mv (.tmp 1)),
        .op (some 9) (.mv (.tmp 1)),
        .op (some 10) (.bin .add (.tmp 9) (.const (.int .i64 1))),
        .op (some 11) (.sstr (.const (.string ⟨⟨[32, 98, 105, 117, 115]⟩⟩)) (some (.tmp 8)) (some (.tmp 10))),
        .op (some 12) (.bin .add (.const (.string ⟨⟨[60, 47]⟩⟩)) (.tmp 11)),
        .op (some 13) (.bin .add (.tmp 12) (.const (.string ⟨⟨[62]⟩⟩))),
        .op (some 4) (.mv (.tmp 13))])
     .ret)
     (.seq
      (.reg [
        .op (some 15) (.mv (.tmp 0)),
        .op (some 16) (.bin .eql (.tmp 15) (.const (.int .i64 2))),
        .op (some 14) (.mv (.tmp 16))])
     (.cond (.tmp 14)
      (.seq
       (.reg [
         .op (some 4) (.mv (.const (.string ⟨⟨[60, 47, 99, 62]⟩⟩)))])
      .ret)
      .skip)))))
  (.seq
   (.reg [
     .op (some 4) (.mv (.const (.string ⟨⟨[60, 47, 102, 111, 110, 116, 62]⟩⟩)))])
  .ret)))
theorem s73 : FnOK Tryz.prog 73 17 [ResultVar.tmp 4] c73 :=
  .mk' [] Tryz.func73 (by kernel_rfl) (by kernel_rfl) (by kernel_rfl)
def c74 : MC :=
  (.seq
   (.reg [
     .op (some 6) (.mv (.const (.string ⟨⟨[]⟩⟩)))])
  (.seq
   (.block 0
    (.seq
     (.reg [
       .op (some 8) (.mv (.tmp 1)),
       .op (some 9) (.bin .neq (.tmp 8) (.const (.int .i64 5))),
       .op (some 7) (.mv (.tmp 9))])
    (.cond (.tmp 7)
     (.seq
      (.reg [
        .op (some 10) (.mv (.tmp 1)),
        .op (some 11) (.mv (.tmp 1)),
        .op (some 12) (.bin .add (.tmp 11) (.const (.int .i64 1))),
        .op (some 13) (.sstr (.const (.string ⟨⟨[32, 98, 105, 117, 115]⟩⟩)) (some (.tmp 10)) (some (.tmp 12))),
        .op (some 14) (.bin .add (.const (.string ⟨⟨[60]⟩⟩)) (.tmp 13)),
        .op (some 15) (.bin .add (.tmp 14) (.const (.string ⟨⟨[62]⟩⟩))),
        .op (some 6) (.mv (.tmp 15))])
     .ret)
     (.seq
      (.reg [
        .op (some 17) (.mv (.tmp 0)),
        .op (some 18) (.bin .eql (.tmp 17) (.const (.int .i64 2))),
        .op (some 16) (.mv (.tmp 18))])
     (.cond (.tmp 16)
      (.seq
       (.reg [
         .op (some 19) (.mv (.tmp 2)),
         .op (some 20) (.call (.func 68) [(.tmp 19), (.const (.bool false)), (.const (.string ⟨⟨[48, 49, 50, 51, 52, 53, 54, 55, 56, 57, 97, 98, 99, 100, 101, 102]⟩⟩))]),
         .op (some 21) (.bin .add (.const (.string ⟨⟨[60, 99, 46]⟩⟩)) (.tmp 20)),
         .op (some 22) (.bin .add (.tmp 21) (.const (.string ⟨⟨[62]⟩⟩))),
         .op (some 6) (.mv (.tmp 22))])
      .ret)
      .skip)))))
  (.seq
   (.reg [
     .op (some 23) (.mv (.tmp 2)),
     .op (some 24) (.call (.func 68) [(.tmp 23), (.const (.bool false)), (.const (.string ⟨⟨[48, 49, 50, 51, 52, 53, 54, 55, 56, 57, 97, 98, 99, 100, 101, 102]⟩⟩))]),
     .op (some 25) (.bin .add (.const (.string ⟨⟨[60, 102, 111, 110, 116, 32, 99, 111, 108, 111, 114, 61, 34, 35]⟩⟩)) (.tmp 24)),
     .op (some 26) (.bin .add (.tmp 25) (.const (.string ⟨⟨[34, 62]⟩⟩))),
     .op (some 6) (.mv (.tmp 26))])
  .ret)))
theorem s74 : FnOK Tryz.prog 74 27 [ResultVar.tmp 6] c74 :=
  .mk' [] Tryz.func74 (by kernel_rfl) (by kernel_rfl) (by kernel_rfl)
def c75 : MC :=
  (.seq
   (.reg [
     .op (some 4) (.mv (.const (.int .i64 0)))])
  (.block 0
   (.seq
    (.reg [
      .op (some 161) (.mv (.tmp 1)),
      .op (some 162) (.bin .leq (.const (.int .i32 0)) (.tmp 161)),
      .op (some 163) (.mv (.tmp 162)),
      .gd (some 163) true (some 164) (.mv (.tmp 1)),
      .gd (some 163) true (some 165) (.bin .lss (.tmp 164) (.const (.int .i32 128))),
      .op (some 166) (.pick (.tmp 163) (.tmp 165) (.const (.bool false))),
      .op (some 160) (.mv (.tmp 166))])
   (.cond (.tmp 160)
    (.seq
     (.reg [
       .op (some 167) (.mv (.tmp 0)),
       .op (some 168) (.mv (.tmp 1)),
       .op (some 169) (.cint .u8 (.tmp 168)),
       .op (some 170) (.call (.func 120) [(.tmp 167), (.tmp 169)]),
       .op (some 4) (.mv (.tmp 170))])
    .ret)
    (.seq
     (.reg [
       .op (some 172) (.mv (.tmp 1)),
       .op (some 173) (.bin .eql (.tmp 172) (.const (.int .i32 65533))),
       .op (some 171) (.mv (.tmp 173))])
    (.cond (.tmp 171)
     (.seq
      (.seq
       (.reg [
         .op (some 174) (.mv (.tmp 0)),
         .op (some 175) (.rng (.tmp 174))])
      (.block 9
       (.loop
        (.seq
         (.reg [
           .op (some 176) (.nxt (.tmp 175)),
           .op (some 177) (.ext (.tmp 176) 0)])
        (.seq
         (.cond (.tmp 177)
          .skip
          (.exit 9))
        (.block 10
         (.seq
          (.reg [
            .op (some 178) (.ext (.tmp 176) 1),
            .op (some 179) (.ext (.tmp 176) 2),
            .op (some 5) (.mv (.tmp 178)),
            .op (some 6) (.mv (.tmp 179))])
         (.seq
          (.reg [
            .op (some 180) (.mv (.tmp 6)),
            .op (some 181) (.bin .eql (.tmp 180) (.const (.int .i32 65533)))])
         (.cond (.tmp 181)
          (.seq
           (.reg [
             .op (some 182) (.mv (.tmp 5)),
             .op (some 4) (.mv (.tmp 182))])
          .ret)
          .skip)))))))))
     (.seq
      (.reg [
        .op (some 4) (.mv (.const (.int .i64 (-1))))])
     .ret))
     (.seq
      (.reg [
        .op (some 184) (.mv (.tmp 1)),
        .op (some 185) (.call (.func 121) [(.tmp 184)]),
        .op (some 186) (.un .not (.tmp 185)),
        .op (some 183) (.mv (.tmp 186))])
     (.cond (.tmp 183)
      (.seq
       (.reg [
         .op (some 4) (.mv (.const (.int .i64 (-1))))])
      .ret)
      (.scope
       (.seq
        (.reg [
          .op (some 17) (.mv (.tmp 1)),
          .op (some 18) (.cstr false (.tmp 17)),
          .op (some 7) (.mv (.tmp 18))])
       (.seq
        (.reg [
          .op (some 19) (.mv (.tmp 7)),
          .op (some 20) (.lenstr (.tmp 19)),
          .op (some 21) (.bin .sub (.tmp 20) (.const (.int .i64 1))),
          .op (some 8) (.mv (.tmp 21))])
       (.seq
        (.reg [
          .op (some 22) (.mv (.tmp 8)),
          .op (some 9) (.mv (.tmp 22))])
       (.seq
        (.reg [
          .op (some 10) (.mv (.const (.int .i64 0)))])
       (.seq
        (.block 1
         (.loop
          (.seq
           (.seq
            (.reg [
              .op (some 23) (.mv (.tmp 9)),
              .op (some 24) (.mv (.tmp 0)),
              .op (some 25) (.lenstr (.tmp 24)),
              .op (some 26) (.bin .lss (.tmp 23) (.tmp 25))])
           (.cond (.tmp 26)
            .skip
            (.exit 1)))
          (.block 2
           (.scope
            (.seq
             (.seq
              (.reg [
                .op (some 27) (.mv (.tmp 0)),
                .op (some 28) (.mv (.tmp 9)),
                .op (some 29) (.ixs (.tmp 27) (.tmp 28)),
                .op (some 30) (.mv (.tmp 7)),
                .op (some 31) (.mv (.tmp 8)),
                .op (some 32) (.ixs (.tmp 30) (.tmp 31)),
                .op (some 33) (.bin .neq (.tmp 29) (.tmp 32))])
             (.cond (.tmp 33)
              (.seq
               (.reg [
                 .op (some 34) (.mv (.tmp 0)),
                 .op (some 35) (.mv (.tmp 9)),
                 .op (some 36) (.bin .add (.tmp 35) (.const (.int .i64 1))),
                 .op (some 37) (.sstr (.tmp 34) (some (.tmp 36)) none),
                 .op (some 38) (.mv (.tmp 7)),
                 .op (some 39) (.mv (.tmp 8)),
                 .op (some 40) (.ixs (.tmp 38) (.tmp 39)),
                 .op (some 41) (.call (.func 120) [(.tmp 37), (.tmp 40)]),
                 .op (some 11) (.mv (.tmp 41))])
              (.seq
               (.seq
                (.reg [
                  .op (some 42) (.mv (.tmp 11)),
                  .op (some 43) (.bin .lss (.tmp 42) (.const (.int .i64 0)))])
               (.cond (.tmp 43)
                (.seq
                 (.reg [
                   .op (some 4) (.mv (.const (.int .i64 (-1))))])
                .ret)
                .skip))
              (.reg [
                .op (some 44) (.mv (.tmp 9)),
                .op (some 45) (.mv (.tmp 11)),
                .op (some 46) (.bin .add (.tmp 45) (.const (.int .i64 1))),
                .op (some 47) (.bin .add (.tmp 44) (.tmp 46)),
                .op (some 9) (.mv (.tmp 47))])))
              .skip))
            (.seq
             (.seq
              (.reg [
                .op (some 12) (.mv (.const (.int .i64 1)))])
             (.block 3
              (.loop
               (.seq
                (.seq
                 (.reg [
                   .op (some 48) (.mv (.tmp 12)),
                   .op (some 49) (.mv (.tmp 7)),
                   .op (some 50) (.lenstr (.tmp 49)),
                   .op (some 51) (.bin .lss (.tmp 48) (.tmp 50))])
                (.cond (.tmp 51)
                 .skip
                 (.exit 3)))
               (.seq
                (.block 4
                 (.seq
                  (.reg [
                    .op (some 54) (.mv (.tmp 0)),
                    .op (some 55) (.mv (.tmp 9)),
                    .op (some 56) (.mv (.tmp 12)),
                    .op (some 57) (.bin .sub (.tmp 55) (.tmp 56)),
                    .op (some 58) (.ixs (.tmp 54) (.tmp 57)),
                    .op (some 59) (.mv (.tmp 7)),
                    .op (some 60) (.mv (.tmp 8)),
                    .op (some 61) (.mv (.tmp 12)),
                    .op (some 62) (.bin .sub (.tmp 60) (.tmp 61)),
                    .op (some 63) (.ixs (.tmp 59) (.tmp 62)),
                    .op (some 64) (.bin .neq (.tmp 58) (.tmp 63))])
                 (.cond (.tmp 64)
                  (.goto 0)
                  .skip)))
               (.reg [
                 .op (some 52) (.mv (.tmp 12)),
                 .op (some 53) (.bin .add (.tmp 52) (.const (.int .i64 1))),
                 .op (some 12) (.mv (.tmp 53))]))))))
            (.seq
             (.seq
              (.reg [
                .op (some 65) (.mv (.tmp 9)),
                .op (some 66) (.mv (.tmp 8)),
                .op (some 67) (.bin .sub (.tmp 65) (.tmp 66)),
                .op (some 4) (.mv (.tmp 67))])
             .ret)
            (.seq
             (.label 0)
            (.seq
             (.reg [
               .op (some 68) (.mv (.tmp 10)),
               .op (some 69) (.bin .add (.tmp 68) (.const (.int .i64 1))),
               .op (some 10) (.mv (.tmp 69))])
            (.seq
             (.reg [
               .op (some 70) (.mv (.tmp 9)),
               .op (some 71) (.bin .add (.tmp 70) (.const (.int .i64 1))),
               .op (some 9) (.mv (.tmp 71))])
            (.seq
             (.reg [
               .op (some 72) (.mv (.const (.bool true))),
               .gd (some 72) true (some 73) (.mv (.tmp 10)),
               .gd (some 72) true (some 74) (.mv (.tmp 9)),
               .gd (some 72) true (some 75) (.call (.func 122) [(.tmp 74)]),
               .gd (some 72) true (some 76) (.bin .gtr (.tmp 73) (.tmp 75)),
               .op (some 77) (.pick (.tmp 72) (.tmp 76) (.const (.bool false))),
               .op (some 78) (.mv (.tmp 77)),
               .gd (some 78) true (some 79) (.mv (.tmp 9)),
               .gd (some 78) true (some 80) (.mv (.tmp 0)),
               .gd (some 78) true (some 81) (.lenstr (.tmp 80)),
               .gd (some 78) true (some 82) (.bin .lss (.tmp 79) (.tmp 81)),
               .op (some 83) (.pick (.tmp 78) (.tmp 82) (.const (.bool false))),
               .op (some 84) (.mv (.tmp 83)),
               .gd (some 84) false (some 85) (.mv (.const (.bool false))),
               .gd (some 85) true (some 86) (.mv (.tmp 10)),
               .gd (some 85) true (some 87) (.mv (.tmp 9)),
               .gd (some 85) true (some 88) (.bin .shr (.tmp 87) (.const (.int .u64 4))),
               .gd (some 85) true (some 89) (.bin .add (.const (.int .i64 4)) (.tmp 88)),
               .gd (some 85) true (some 90) (.bin .geq (.tmp 86) (.tmp 89)),
               .gd (some 84) false (some 91) (.pick (.tmp 85) (.tmp 90) (.const (.bool false))),
               .gd (some 84) false (some 92) (.mv (.tmp 91)),
               .gd (some 92) true (some 93) (.mv (.tmp 9)),
               .gd (some 92) true (some 94) (.mv (.tmp 0)),
               .gd (some 92) true (some 95) (.lenstr (.tmp 94)),
               .gd (some 92) true (some 96) (.bin .lss (.tmp 93) (.tmp 95)),
               .gd (some 84) false (some 97) (.pick (.tmp 92) (.tmp 96) (.const (.bool false))),
               .op (some 98) (.pick (.tmp 84) (.const (.bool true)) (.tmp 97))])
            (.cond (.tmp 98)
             (.goto 1)
             .skip)))))))))))))
       (.seq
        (.seq
         (.reg [
           .op (some 4) (.mv (.const (.int .i64 (-1))))])
        .ret)
       (.seq
        (.label 1)
       (.seq
        (.cond (.const (.bool true))
         (.seq
          (.reg [
            .op (some 99) (.mv (.tmp 0)),
            .op (some 100) (.mv (.tmp 9)),
            .op (some 101) (.mv (.tmp 8)),
            .op (some 102) (.bin .sub (.tmp 100) (.tmp 101)),
            .op (some 103) (.sstr (.tmp 99) (some (.tmp 102)) none),
            .op (some 104) (.mv (.tmp 1)),
            .op (some 105) (.cstr false (.tmp 104)),
            .op (some 106) (.call (.func 123) [(.tmp 103), (.tmp 105)]),
            .op (some 13) (.mv (.tmp 106))])
         (.seq
          (.reg [
            .op (some 107) (.mv (.tmp 13)),
            .op (some 108) (.bin .geq (.tmp 107) (.const (.int .i64 0)))])
         (.cond (.tmp 108)
          (.seq
           (.reg [
             .op (some 109) (.mv (.tmp 9)),
             .op (some 110) (.mv (.tmp 13)),
             .op (some 111) (.bin .add (.tmp 109) (.tmp 110)),
             .op (some 112) (.mv (.tmp 8)),
             .op (some 113) (.bin .sub (.tmp 111) (.tmp 112)),
             .op (some 4) (.mv (.tmp 113))])
          .ret)
          .skip)))
         (.scope
          (.seq
           (.reg [
             .op (some 114) (.mv (.tmp 7)),
             .op (some 115) (.mv (.tmp 8)),
             .op (some 116) (.ixs (.tmp 114) (.tmp 115)),
             .op (some 14) (.mv (.tmp 116))])
          (.seq
           (.reg [
             .op (some 117) (.mv (.tmp 7)),
             .op (some 118) (.mv (.tmp 8)),
             .op (some 119) (.bin .sub (.tmp 118) (.const (.int .i64 1))),
             .op (some 120) (.ixs (.tmp 117) (.tmp 119)),
             .op (some 15) (.mv (.tmp 120))])
          (.seq
           (.label 2)
          (.block 5
           (.loop
            (.seq
             (.seq
              (.reg [
                .op (some 121) (.mv (.tmp 9)),
                .op (some 122) (.mv (.tmp 0)),
                .op (some 123) (.lenstr (.tmp 122)),
                .op (some 124) (.bin .lss (.tmp 121) (.tmp 123))])
             (.cond (.tmp 124)
              .skip
              (.exit 5)))
            (.seq
             (.block 6
              (.seq
               (.reg [
                 .op (some 127) (.mv (.tmp 0)),
                 .op (some 128) (.mv (.tmp 9)),
                 .op (some 129) (.ixs (.tmp 127) (.tmp 128)),
                 .op (some 130) (.mv (.tmp 14)),
                 .op (some 131) (.bin .eql (.tmp 129) (.tmp 130)),
                 .op (some 132) (.mv (.tmp 131)),
                 .gd (some 132) true (some 133) (.mv (.tmp 0)),
                 .gd (some 132) true (some 134) (.mv (.tmp 9)),
                 .gd (some 132) true (some 135) (.bin .sub (.tmp 134) (.const (.int .i64 1))),
                 .gd (some 132) true (some 136) (.ixs (.tmp 133) (.tmp 135)),
                 .gd (some 132) true (some 137) (.mv (.tmp 15)),
                 .gd (some 132) true (some 138) (.bin .eql (.tmp 136) (.tmp 137)),
                 .op (some 139) (.pick (.tmp 132) (.tmp 138) (.const (.bool false)))])
              (.cond (.tmp 139)
               (.seq
                (.seq
                 (.reg [
                   .op (some 16) (.mv (.const (.int .i64 2)))])
                (.block 7
                 (.loop
                  (.seq
                   (.seq
                    (.reg [
                      .op (some 140) (.mv (.tmp 16)),
                      .op (some 141) (.mv (.tmp 7)),
                      .op (some 142) (.lenstr (.tmp 141)),
                      .op (some 143) (.bin .lss (.tmp 140) (.tmp 142))])
                   (.cond (.tmp 143)
                    .skip
                    (.exit 7)))
                  (.seq
                   (.block 8
                    (.seq
                     (.reg [
                       .op (some 146) (.mv (.tmp 0)),
                       .op (some 147) (.mv (.tmp 9)),
                       .op (some 148) (.mv (.tmp 16)),
                       .op (some 149) (.bin .sub (.tmp 147) (.tmp 148)),
                       .op (some 150) (.ixs (.tmp 146) (.tmp 149)),
                       .op (some 151) (.mv (.tmp 7)),
                       .op (some 152) (.mv (.tmp 8)),
                       .op (some 153) (.mv (.tmp 16)),
                       .op (some 154) (.bin .sub (.tmp 152) (.tmp 153)),
                       .op (some 155) (.ixs (.tmp 151) (.tmp 154)),
                       .op (some 156) (.bin .neq (.tmp 150) (.tmp 155))])
                    (.cond (.tmp 156)
                     (.exit 6)
                     .skip)))
                  (.reg [
                    .op (some 144) (.mv (.tmp 16)),
                    .op (some 145) (.bin .add (.tmp 144) (.const (.int .i64 1))),
                    .op (some 16) (.mv (.tmp 145))]))))))
               (.seq
                (.reg [
                  .op (some 157) (.mv (.tmp 9)),
                  .op (some 158) (.mv (.tmp 8)),
                  .op (some 159) (.bin .sub (.tmp 157) (.tmp 158)),
                  .op (some 4) (.mv (.tmp 159))])
               .ret))
               .skip)))
            (.reg [
              .op (some 125) (.mv (.tmp 9)),
              .op (some 126) (.bin .add (.tmp 125) (.const (.int .i64 1))),
              .op (some 9) (.mv (.tmp 126))]))))))))))
       (.seq
        (.reg [
          .op (some 4) (.mv (.const (.int .i64 (-1))))])
       .ret))))))))))))))))))
theorem s75 : FnOK Tryz.prog 75 187 [ResultVar.tmp 4] c75 :=
  .mk' [(6, [], [(0, []), (1, []), (2, []), (3, []), (4, []), (5, []), (6, [])]), (7, [], [(0, []), (1, []), (2, []), (3, []), (4, []), (5, []), (6, []), (7, []), (8, [])]), (14, [], [(0, []), (1, []), (2, []), (3, []), (4, []), (5, []), (6, []), (7, []), (8, []), (9, []), (10, [])]), (31, [], [(0, []), (1, []), (2, []), (3, []), (4, []), (5, []), (6, []), (7, []), (8, []), (9, []), (10, [])])] Tryz.func75 (by kernel_rfl) (by kernel_rfl) (by kernel_rfl)
def c76 : MC :=
  (.seq
   (.reg [
     .op (some 2) (.mv (.const (.bool false)))])
  (.seq
   (.reg [
     .op (some 3) (.mv (.tmp 0)),
     .op (some 4) (.bin .gtr (.tmp 3) (.const (.int .i64 8))),
     .op (some 2) (.mv (.tmp 4))])
  .ret))
theorem s76 : FnOK Tryz.prog 76 5 [ResultVar.tmp 2] c76 :=
  .mk' [] Tryz.func76 (by kernel_rfl) (by kernel_rfl) (by kernel_rfl)
def c77 : MC :=
  (.seq
   (.reg [
     .op (some 2) (.alloc [.bool false, .bool false, .bool false, .bool false, .bool false, .bool false, .bool false, .bool false, .bool false, .bool false, .bool false, .bool false, .bool false, .bool false, .bool false, .bool false, .bool false, .bool false, .bool false, .bool false, .bool false, .bool false, .bool false, .bool false, .bool false, .bool false, .bool false, .bool false, .bool false, .bool false, .bool false, .bool false, .bool false, .bool false, .bool false, .bool false, .bool false, .bool false, .bool false, .bool false, .bool false, .bool false, .bool false, .bool false, .bool false, .bool false, .bool false, .bool false, .bool false, .bool false, .bool false, .bool false, .bool false, .bool false, .bool false, .bool false, .bool false, .bool false, .bool false, .bool false, .bool false, .bool false, .bool false, .bool false, .bool false, .bool false, .bool false, .bool false, .bool false, .bool false, .bool false, .bool false, .bool false, .bool false, .bool false, .bool false, .bool false, .bool false, .bool false, .bool false, .bool false, .bool false, .bool false, .bool false, .bool false, .bool false, .bool false, .bool false, .bool false, .bool false, .bool false, .bool false, .bool false, .bool false, .bool false, .bool false, .bool false, .bool false, .bool false, .bool false, .bool false, .bool false, .bool false, .bool false, .bool false, .bool false, .bool false, .bool false, .bool false, .bool false, .bool false, .bool false, .bool false, .bool false, .bool false, .bool false, .bool false, .bool false, .bool false, .bool false, .bool false, .bool false, .bool false, .bool false, .bool false, .bool false, .bool false, .bool false, .bool false, .bool false, .bool false, .bool false, .bool false, .bool false, .bool false, .bool false, .bool false, .bool false, .bool false, .bool false, .bool false, .bool false, .bool false, .bool false, .bool false, .bool false, .bool false, .bool false, .bool false, .bool false, .bool false, .bool false, .bool false, .bool false, .bool false, .bool false, .bool false, .bool false, .bool false, .bool false, .bool false, .bool false, .bool false, .bool false, .bool false, .bool false, .bool false, .bool false, .bool false, .bool false, .bool false, .bool false, .bool false, .bool false, .bool false, .bool false, .bool false, .bool false, .bool false, .bool false, .bool false, .bool false, .bool false, .bool false, .bool false, .bool false, .bool false, .bool false, .bool false, .bool false, .bool false, .bool false, .bool false, .bool false, .bool false, .bool false, .bool false, .bool false, .bool false, .bool false, .bool false, .bool false, .bool false, .bool false, .bool false, .bool false, .bool false, .bool false, .bool false, .bool false, .bool false, .bool false, .bool false, .bool false, .bool false, .bool false, .bool false, .bool false, .bool false, .bool false, .bool false, .bool false, .bool false, .bool false, .bool false, .bool false, .bool false, .bool false, .bool false, .bool false, .bool false, .bool false, .bool false, .bool false, .bool false, .bool false, .bool false, .bool false, .bool false, .bool false, .bool false, .bool false, .bool false, .bool false, .bool false, .bool false, .bool false, .bool false, .bool false, .bool false, .bool false, .bool false, .bool false, .bool false, .bool false, .bool false] 147),
     .op (some 3) (.mv (.const (.bool false)))])
  (.seq
   (.seq
    (.reg [
      .op (some 4) (.mv (.const (.int .i64 0)))])
   (.block 0
    (.loop
     (.seq
      (.seq
       (.reg [
         .op (some 6) (.mv (.tmp 4)),
         .op (some 7) (.mv (.tmp 0)),
         .op (some 8) (.lenstr (.tmp 7)),
         .op (some 9) (.bin .lss (.tmp 6) (.tmp 8))])
      (.cond (.tmp 9)
       .skip
       (.exit 0)))
     (.seq
      (.block 1
       (.seq
        (.reg [
          .op (some 12) (.mv (.tmp 0)),
          .op (some 13) (.mv (.tmp 4)),
          .op (some 14) (.ixs (.tmp 12) (.tmp 13)),
          .op (some 5) (.mv (.tmp 14))])
       (.seq
        (.seq
         (.reg [
           .op (some 15) (.mv (.tmp 5)),
           .op (some 16) (.bin .geq (.tmp 15) (.const (.int .u8 128)))])
        (.cond (.tmp 16)
         (.seq
          (.reg [
            .op (some 17) (.load true 256 (.tmp 2)),
            .op none (.store 256 (.tmp 2) (.tmp 17)),
            .op (some 3) (.mv (.const (.bool false)))])
         .ret)
         .skip))
       (.reg [
         .op (some 18) (.mv (.tmp 5)),
         .op (some 19) (.iaa 256 1 (.tmp 2) (.tmp 18)),
         .op none (.store 1 (.tmp 19) (.const (.bool true)))]))))
     (.reg [
       .op (some 10) (.mv (.tmp 4)),
       .op (some 11) (.bin .add (.tmp 10) (.const (.int .i64 1))),
       .op (some 4) (.mv (.tmp 11))]))))))
  (.seq
   (.reg [
     .op (some 20) (.load true 256 (.tmp 2)),
     .op none (.store 256 (.tmp 2) (.tmp 20)),
     .op (some 3) (.mv (.const (.bool true)))])
  .ret)))
theorem s77 : FnOK Tryz.prog 77 21 [ResultVar.cell 2 147, ResultVar.tmp 3] c77 :=
  .mk' [] Tryz.func77 (by kernel_rfl) (by kernel_rfl) (by kernel_rfl)
def c78 : MC :=
  (.seq
   (.reg [
     .op (some 4) (.mv (.const (.bool false)))])
  (.seq
   (.reg [
     .op (some 5) (.mv (.tmp 0)),
     .op (some 6) (.mv (.tmp 1)),
     .op (some 7) (.nilck (.tmp 5)),
     .op (some 8) (.iaa 256 1 (.tmp 7) (.tmp 6)),
     .op (some 9) (.load false 1 (.tmp 8)),
     .op (some 4) (.mv (.tmp 9))])
  .ret))
theorem s78 : FnOK Tryz.prog 78 10 [ResultVar.tmp 4] c78 :=
  .mk' [] Tryz.func78 (by kernel_rfl) (by kernel_rfl) (by kernel_rfl)
def c79 : MC :=
  (.seq
   (.reg [
     .op (some 4) (.mv (.const (.string ⟨⟨[]⟩⟩)))])
  (.seq
   (.seq
    (.reg [
      .op (some 5) (.mv (.tmp 0)),
      .op (some 6) (.mv (.tmp 1)),
      .op (some 7) (.call (.func 124) [(.tmp 5), (.tmp 6)])])
   (.cond (.tmp 7)
    (.seq
     (.reg [
       .op (some 8) (.mv (.tmp 0)),
       .op (some 9) (.mv (.tmp 1)),
       .op (some 10) (.lenstr (.tmp 9)),
       .op (some 11) (.sstr (.tmp 8) (some (.tmp 10)) none),
       .op (some 4) (.mv (.tmp 11))])
    .ret)
    .skip))
  (.seq
   (.reg [
     .op (some 12) (.mv (.tmp 0)),
     .op (some 4) (.mv (.tmp 12))])
  .ret)))
theorem s79 : FnOK Tryz.prog 79 13 [ResultVar.tmp 4] c79 :=
  .mk' [] Tryz.func79 (by kernel_rfl) (by kernel_rfl) (by kernel_rfl)
end Go.Cm
