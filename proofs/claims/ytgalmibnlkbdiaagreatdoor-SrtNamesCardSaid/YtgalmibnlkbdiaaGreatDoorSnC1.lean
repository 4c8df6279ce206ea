/- The code of functions, in short (printed by a program of mine, held by the kernel). -/
import Derived.Test.YtgalmibnlkbdiaaGreatDoorCmExt
import Derived.Test.YtgalmibnlkbdiaaGreatDoorProg
import Derived.KernelRfl
set_option maxRecDepth 100000
namespace Go.Cm
open Go Go.Proofs
-- 162 internal/stringslite.IndexByte slots 8
def c162 : MC :=
  (.seq
   (.reg [
     .op (some 4) (.mv (.const (.int .i64 0)))])
  (.seq
   (.reg [
     .op (some 5) (.mv (.tmp 0)),
     .op (some 6) (.mv (.tmp 1)),
     .op (some 7) (.call (.func 190) [(.tmp 5), (.tmp 6)]),
     .op (some 4) (.mv (.tmp 7))])
  .ret))
theorem s162 : FnOK Tryz.prog 162 8 [ResultVar.tmp 4] c162 :=
  .mk' [] Tryz.func162 (by kernel_rfl) (by kernel_rfl) (by kernel_rfl)
-- 163 internal/stringslite.Index slots 143
def c163 : MC :=
  (.seq
   (.reg [
     .op (some 4) (.mv (.const (.int .i64 0)))])
  (.seq
   (.reg [
     .op (some 14) (.mv (.tmp 1)),
     .op (some 15) (.lenstr (.tmp 14)),
     .op (some 5) (.mv (.tmp 15))])
  (.seq
   (.block 0
    (.seq
     (.reg [
       .op (some 17) (.mv (.tmp 5)),
       .op (some 18) (.bin .eql (.tmp 17) (.const (.int .i64 0))),
       .op (some 19) (.mv (.tmp 18)),
       .gd (some 19) false (some 20) (.mv (.tmp 1)),
       .gd (some 19) false (some 21) (.mv (.tmp 0)),
       .gd (some 19) false (some 22) (.bin .eql (.tmp 20) (.tmp 21)),
       .op (some 23) (.pick (.tmp 19) (.const (.bool true)) (.tmp 22)),
       .op (some 16) (.mv (.tmp 23))])
    (.cond (.tmp 16)
     (.seq
      (.reg [
        .op (some 4) (.mv (.const (.int .i64 0)))])
     .ret)
     (.seq
      (.reg [
        .op (some 25) (.mv (.tmp 5)),
        .op (some 26) (.bin .eql (.tmp 25) (.const (.int .i64 1))),
        .op (some 24) (.mv (.tmp 26))])
     (.cond (.tmp 24)
      (.seq
       (.reg [
         .op (some 27) (.mv (.tmp 0)),
         .op (some 28) (.mv (.tmp 1)),
         .op (some 29) (.ixs (.tmp 28) (.const (.int .i64 0))),
         .op (some 30) (.call (.func 162) [(.tmp 27), (.tmp 29)]),
         .op (some 4) (.mv (.tmp 30))])
      .ret)
      (.seq
       (.reg [
         .op (some 32) (.mv (.tmp 5)),
         .op (some 33) (.mv (.tmp 0)),
         .op (some 34) (.lenstr (.tmp 33)),
         .op (some 35) (.bin .geq (.tmp 32) (.tmp 34)),
         .op (some 31) (.mv (.tmp 35))])
      (.cond (.tmp 31)
       (.seq
        (.reg [
          .op (some 4) (.mv (.const (.int .i64 (-1))))])
       .ret)
       (.seq
        (.reg [
          .op (some 37) (.mv (.tmp 5)),
          .op (some 38) (.load false 1 (.global 1)),
          .op (some 39) (.bin .leq (.tmp 37) (.tmp 38)),
          .op (some 40) (.mv (.tmp 39)),
          .gd (some 40) true (some 41) (.mv (.tmp 0)),
          .gd (some 40) true (some 42) (.lenstr (.tmp 41)),
          .gd (some 40) true (some 43) (.bin .leq (.tmp 42) (.const (.int .i64 64))),
          .op (some 44) (.pick (.tmp 40) (.tmp 43) (.const (.bool false))),
          .op (some 36) (.mv (.tmp 44))])
       (.cond (.tmp 36)
        (.seq
         (.reg [
           .op (some 45) (.mv (.tmp 0)),
           .op (some 46) (.mv (.tmp 1)),
           .op (some 47) (.call (.func 123) [(.tmp 45), (.tmp 46)]),
           .op (some 4) (.mv (.tmp 47))])
        .ret)
        .skip)))))))))
  (.seq
   (.reg [
     .op (some 48) (.mv (.tmp 1)),
     .op (some 49) (.ixs (.tmp 48) (.const (.int .i64 0))),
     .op (some 6) (.mv (.tmp 49))])
  (.seq
   (.reg [
     .op (some 50) (.mv (.tmp 1)),
     .op (some 51) (.ixs (.tmp 50) (.const (.int .i64 1))),
     .op (some 7) (.mv (.tmp 51))])
  (.seq
   (.reg [
     .op (some 8) (.mv (.const (.int .i64 0)))])
  (.seq
   (.reg [
     .op (some 52) (.mv (.tmp 0)),
     .op (some 53) (.lenstr (.tmp 52)),
     .op (some 54) (.mv (.tmp 5)),
     .op (some 55) (.bin .sub (.tmp 53) (.tmp 54)),
     .op (some 56) (.bin .add (.tmp 55) (.const (.int .i64 1))),
     .op (some 9) (.mv (.tmp 56))])
  (.seq
   (.reg [
     .op (some 10) (.mv (.const (.int .i64 0)))])
  (.seq
   (.block 1
    (.loop
     (.seq
      (.seq
       (.reg [
         .op (some 57) (.mv (.tmp 8)),
         .op (some 58) (.mv (.tmp 9)),
         .op (some 59) (.bin .lss (.tmp 57) (.tmp 58))])
      (.cond (.tmp 59)
       .skip
       (.exit 1)))
     (.block 2
      (.seq
       (.seq
        (.reg [
          .op (some 60) (.mv (.tmp 0)),
          .op (some 61) (.mv (.tmp 8)),
          .op (some 62) (.ixs (.tmp 60) (.tmp 61)),
          .op (some 63) (.mv (.tmp 6)),
          .op (some 64) (.bin .neq (.tmp 62) (.tmp 63))])
       (.cond (.tmp 64)
        (.seq
         (.reg [
           .op (some 65) (.mv (.tmp 0)),
           .op (some 66) (.mv (.tmp 8)),
           .op (some 67) (.bin .add (.tmp 66) (.const (.int .i64 1))),
           .op (some 68) (.mv (.tmp 9)),
           .op (some 69) (.sstr (.tmp 65) (some (.tmp 67)) (some (.tmp 68))),
           .op (some 70) (.mv (.tmp 6)),
           .op (some 71) (.call (.func 162) [(.tmp 69), (.tmp 70)]),
           .op (some 11) (.mv (.tmp 71))])
        (.seq
         (.seq
          (.reg [
            .op (some 72) (.mv (.tmp 11)),
            .op (some 73) (.bin .lss (.tmp 72) (.const (.int .i64 0)))])
         (.cond (.tmp 73)
          (.seq
           (.reg [
             .op (some 4) (.mv (.const (.int .i64 (-1))))])
          .ret)
          .skip))
        (.reg [
          .op (some 74) (.mv (.tmp 8)),
          .op (some 75) (.mv (.tmp 11)),
          .op (some 76) (.bin .add (.tmp 75) (.const (.int .i64 1))),
          .op (some 77) (.bin .add (.tmp 74) (.tmp 76)),
          .op (some 8) (.mv (.tmp 77))])))
        .skip))
      (.seq
       (.seq
        (.reg [
          .op (some 78) (.mv (.tmp 0)),
          .op (some 79) (.mv (.tmp 8)),
          .op (some 80) (.bin .add (.tmp 79) (.const (.int .i64 1))),
          .op (some 81) (.ixs (.tmp 78) (.tmp 80)),
          .op (some 82) (.mv (.tmp 7)),
          .op (some 83) (.bin .eql (.tmp 81) (.tmp 82)),
          .op (some 84) (.mv (.tmp 83)),
          .gd (some 84) true (some 85) (.mv (.tmp 0)),
          .gd (some 84) true (some 86) (.mv (.tmp 8)),
          .gd (some 84) true (some 87) (.mv (.tmp 8)),
          .gd (some 84) true (some 88) (.mv (.tmp 5)),
          .gd (some 84) true (some 89) (.bin .add (.tmp 87) (.tmp 88)),
          .gd (some 84) true (some 90) (.sstr (.tmp 85) (some (.tmp 86)) (some (.tmp 89))),
          .gd (some 84) true (some 91) (.mv (.tmp 1)),
          .gd (some 84) true (some 92) (.bin .eql (.tmp 90) (.tmp 91)),
          .op (some 93) (.pick (.tmp 84) (.tmp 92) (.const (.bool false)))])
       (.cond (.tmp 93)
        (.seq
         (.reg [
           .op (some 94) (.mv (.tmp 8)),
           .op (some 4) (.mv (.tmp 94))])
        .ret)
        .skip))
      (.seq
       (.reg [
         .op (some 95) (.mv (.tmp 8)),
         .op (some 96) (.bin .add (.tmp 95) (.const (.int .i64 1))),
         .op (some 8) (.mv (.tmp 96))])
      (.seq
       (.reg [
         .op (some 97) (.mv (.tmp 10)),
         .op (some 98) (.bin .add (.tmp 97) (.const (.int .i64 1))),
         .op (some 10) (.mv (.tmp 98))])
      (.seq
       (.reg [
         .op (some 99) (.mv (.tmp 5)),
         .op (some 100) (.load false 1 (.global 1)),
         .op (some 101) (.bin .leq (.tmp 99) (.tmp 100)),
         .op (some 102) (.mv (.tmp 101)),
         .gd (some 102) true (some 103) (.mv (.tmp 10)),
         .gd (some 102) true (some 104) (.mv (.tmp 8)),
         .gd (some 102) true (some 105) (.call (.func 122) [(.tmp 104)]),
         .gd (some 102) true (some 106) (.bin .gtr (.tmp 103) (.tmp 105)),
         .op (some 107) (.pick (.tmp 102) (.tmp 106) (.const (.bool false)))])
      (.cond (.tmp 107)
       (.seq
        (.reg [
          .op (some 108) (.mv (.tmp 0)),
          .op (some 109) (.mv (.tmp 8)),
          .op (some 110) (.sstr (.tmp 108) (some (.tmp 109)) none),
          .op (some 111) (.mv (.tmp 1)),
          .op (some 112) (.call (.func 123) [(.tmp 110), (.tmp 111)]),
          .op (some 12) (.mv (.tmp 112))])
       (.seq
        (.seq
         (.reg [
           .op (some 113) (.mv (.tmp 12)),
           .op (some 114) (.bin .geq (.tmp 113) (.const (.int .i64 0)))])
        (.cond (.tmp 114)
         (.seq
          (.reg [
            .op (some 115) (.mv (.tmp 12)),
            .op (some 116) (.mv (.tmp 8)),
            .op (some 117) (.bin .add (.tmp 115) (.tmp 116)),
            .op (some 4) (.mv (.tmp 117))])
         .ret)
         .skip))
       (.seq
        (.reg [
          .op (some 4) (.mv (.const (.int .i64 (-1))))])
       .ret)))
       (.seq
        (.reg [
          .op (some 118) (.mv (.tmp 5)),
          .op (some 119) (.load false 1 (.global 1)),
          .op (some 120) (.bin .gtr (.tmp 118) (.tmp 119)),
          .op (some 121) (.mv (.tmp 120)),
          .gd (some 121) true (some 122) (.mv (.tmp 10)),
          .gd (some 121) true (some 123) (.mv (.tmp 8)),
          .gd (some 121) true (some 124) (.bin .shr (.tmp 123) (.const (.int .u64 4))),
          .gd (some 121) true (some 125) (.bin .add (.const (.int .i64 4)) (.tmp 124)),
          .gd (some 121) true (some 126) (.bin .geq (.tmp 122) (.tmp 125)),
          .op (some 127) (.pick (.tmp 121) (.tmp 126) (.const (.bool false))),
          .op (some 128) (.mv (.tmp 127)),
          .gd (some 128) true (some 129) (.mv (.tmp 8)),
          .gd (some 128) true (some 130) (.mv (.tmp 9)),
          .gd (some 128) true (some 131) (.bin .lss (.tmp 129) (.tmp 130)),
          .op (some 132) (.pick (.tmp 128) (.tmp 131) (.const (.bool false)))])
       (.cond (.tmp 132)
        (.seq
         (.reg [
           .op (some 133) (.mv (.tmp 0)),
           .op (some 134) (.mv (.tmp 8)),
           .op (some 135) (.sstr (.tmp 133) (some (.tmp 134)) none),
           .op (some 136) (.mv (.tmp 1)),
           .op (some 137) (.call (.func 191) [(.tmp 135), (.tmp 136)]),
           .op (some 13) (.mv (.tmp 137))])
        (.seq
         (.seq
          (.reg [
            .op (some 138) (.mv (.tmp 13)),
            .op (some 139) (.bin .lss (.tmp 138) (.const (.int .i64 0)))])
         (.cond (.tmp 139)
          (.seq
           (.reg [
             .op (some 4) (.mv (.const (.int .i64 (-1))))])
          .ret)
          .skip))
        (.seq
         (.reg [
           .op (some 140) (.mv (.tmp 8)),
           .op (some 141) (.mv (.tmp 13)),
           .op (some 142) (.bin .add (.tmp 140) (.tmp 141)),
           .op (some 4) (.mv (.tmp 142))])
        .ret)))
        .skip))))))))))))
  (.seq
   (.reg [
     .op (some 4) (.mv (.const (.int .i64 (-1))))])
  .ret))))))))))
theorem s163 : FnOK Tryz.prog 163 143 [ResultVar.tmp 4] c163 :=
  .mk' [] Tryz.func163 (by kernel_rfl) (by kernel_rfl) (by kernel_rfl)
end Go.Cm
