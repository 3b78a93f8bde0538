import Derived.Test.YtaennaoaoahjmaaDoorProg
import Derived.Test.YtaennaoaoahjmaaDoorDetQ
import Derived.KernelRfl
import Derived.Test.YtaennaoaoahjmaaDoorShelf
import Derived.Test.YtaennaoaoahjmaaDoorBld
set_option maxRecDepth 100000
namespace Go.Proofs.YtaennaoaoahjmaaDoor
open Go.Det

def quiet : Qs := (⟨(fun n => !([5020032, 5040016, 5060052, 40, 31, 41, 51, 32, 35, 36, 43, 69, 78] : List Nat).contains n), fun _ => none⟩ : Qs)

-- 3 calls [8, 9, 10, 11, 12, 13, 14]
def s3 : SFunc := ⟨
  .seq (
    .region [
      ⟨some 6, none, [], .p (.mv (.c (.bool false)))⟩]) (
  .seq (
    .region [
      ⟨some 18, none, [], .p (.mv (.t 0))⟩,
      ⟨some 19, none, [], .p (.mv (.t 0))⟩,
      ⟨some 20, none, [], .p (.lenV true (.t 19))⟩,
      ⟨some 21, none, [], .p (.minmax false (.t 20) (.c (.int .i64 100)))⟩,
      ⟨some 22, none, [], .p (.slcS 1 (.t 18) none (some (.t 21)) none)⟩,
      ⟨some 0, none, [], .p (.mv (.t 22))⟩]) (
  .seq (
    .seq (
      .region [
        ⟨some 23, none, [], .p (.mv (.t 2))⟩]) (
    .cond (.t 23) (
      .seq (
        .region [
          ⟨some 24, none, [], .p (.mv (.t 0))⟩,
          ⟨some 25, none, [], .call 12004 4 true (.f 8) [.t 24]⟩,
          ⟨some 1, none, [], .p (.mv (.t 25))⟩]) (
      .seq (
        .region [
          ⟨some 26, none, [], .p (.mv (.t 0))⟩,
          ⟨some 27, none, [], .p (.lenV true (.t 26))⟩,
          ⟨some 28, none, [], .p (.bin .gtr (.t 27) (.c (.int .i64 0)))⟩]) (
      .cond (.t 28) (
        .seq (
          .region [
            ⟨some 30, none, [], .p (.mv (.t 0))⟩,
            ⟨some 31, none, [], .p (.iaddrS 1 (.t 30) (.c (.int .i64 0)))⟩,
            ⟨some 32, none, [], .r (.load1 (.t 31))⟩,
            ⟨some 33, none, [], .call 20012 4 true (.f 9) [.t 32]⟩,
            ⟨some 29, none, [], .p (.mv (.t 33))⟩,
            ⟨some 34, none, [], .p (.extract (.t 29) 0)⟩,
            ⟨some 35, none, [], .p (.extract (.t 29) 1)⟩,
            ⟨some 7, none, [], .p (.mv (.t 34))⟩,
            ⟨some 8, none, [], .p (.mv (.t 35))⟩]) (
        .seq (
          .region [
            ⟨some 36, none, [], .p (.mv (.t 8))⟩,
            ⟨some 37, none, [], .p (.bin .eql (.t 36) (.c (.int .i64 0)))⟩,
            ⟨some 38, none, [], .p (.mv (.t 37))⟩,
            ⟨some 39, some (38, true), [], .p (.mv (.t 7))⟩,
            ⟨some 40, some (38, true), [], .p (.mv (.t 0))⟩,
            ⟨some 41, some (38, true), [], .p (.lenV true (.t 40))⟩,
            ⟨some 42, some (38, true), [], .p (.bin .leq (.t 39) (.t 41))⟩,
            ⟨some 43, none, [], .p (.pick (.t 38) (.t 42) (.c (.bool false)))⟩]) (
        .cond (.t 43) (
          .region [
            ⟨some 44, none, [], .p (.mv (.t 0))⟩,
            ⟨some 45, none, [], .p (.mv (.t 7))⟩,
            ⟨some 46, none, [], .p (.slcS 1 (.t 44) none (some (.t 45)) none)⟩,
            ⟨some 47, none, [], .call 28012 4 true (.f 8) [.t 46]⟩,
            ⟨some 1, none, [], .p (.mv (.t 47))⟩]) (
          .skip)))) (
        .skip)))) (
      .skip))) (
  .seq (
    .region [
      ⟨some 49, none, [], .p (.mv (.t 0))⟩,
      ⟨some 50, none, [], .p (.mv (.t 1))⟩,
      ⟨some 51, none, [], .call 32008 4 true (.f 10) [.t 49, .t 50]⟩,
      ⟨some 48, none, [], .p (.mv (.t 51))⟩,
      ⟨some 52, none, [], .p (.extract (.t 48) 0)⟩,
      ⟨some 53, none, [], .p (.extract (.t 48) 1)⟩,
      ⟨some 9, none, [], .p (.mv (.t 52))⟩,
      ⟨some 10, none, [], .p (.mv (.t 53))⟩]) (
  .seq (
    .region [
      ⟨some 55, none, [], .p (.mv (.t 0))⟩,
      ⟨some 56, none, [], .p (.mv (.t 1))⟩,
      ⟨some 57, none, [], .call 36008 4 true (.f 11) [.t 55, .t 56]⟩,
      ⟨some 54, none, [], .p (.mv (.t 57))⟩,
      ⟨some 58, none, [], .p (.extract (.t 54) 0)⟩,
      ⟨some 59, none, [], .p (.extract (.t 54) 1)⟩,
      ⟨some 11, none, [], .p (.mv (.t 58))⟩,
      ⟨some 12, none, [], .p (.mv (.t 59))⟩]) (
  .seq (
    .region [
      ⟨some 13, none, [], .p (.mv (.c (.str [])))⟩]) (
  .seq (
    .seq (
      .region [
        ⟨some 60, none, [], .p (.mv (.t 0))⟩,
        ⟨some 61, none, [], .p (.lenV true (.t 60))⟩,
        ⟨some 62, none, [], .p (.bin .gtr (.t 61) (.c (.int .i64 0)))⟩]) (
    .cond (.t 62) (
      .region [
        ⟨some 63, none, [], .p (.mv (.t 0))⟩,
        ⟨some 64, none, [], .p (.iaddrS 1 (.t 63) (.c (.int .i64 0)))⟩,
        ⟨some 65, none, [], .r (.load1 (.t 64))⟩,
        ⟨some 13, none, [], .p (.mv (.t 65))⟩]) (
      .skip))) (
  .seq (
    .region [
      ⟨some 67, none, [], .p (.mv (.t 13))⟩,
      ⟨some 68, none, [], .call 52004 4 true (.f 12) [.t 67]⟩,
      ⟨some 66, none, [], .p (.mv (.t 68))⟩,
      ⟨some 69, none, [], .p (.extract (.t 66) 0)⟩,
      ⟨some 70, none, [], .p (.extract (.t 66) 1)⟩,
      ⟨some 14, none, [], .p (.mv (.t 69))⟩,
      ⟨some 15, none, [], .p (.mv (.t 70))⟩]) (
  .seq (
    .region [
      ⟨some 72, none, [], .p (.mv (.t 13))⟩,
      ⟨some 73, none, [], .call 56004 4 true (.f 9) [.t 72]⟩,
      ⟨some 71, none, [], .p (.mv (.t 73))⟩,
      ⟨some 74, none, [], .p (.extract (.t 71) 0)⟩,
      ⟨some 75, none, [], .p (.extract (.t 71) 1)⟩,
      ⟨some 16, none, [], .p (.mv (.t 74))⟩,
      ⟨some 17, none, [], .p (.mv (.t 75))⟩]) (
  .seq (
    .region [
      ⟨some 76, none, [], .call 60000 4 true (.f 13) []⟩,
      ⟨some 77, none, [], .p (.mv (.t 76))⟩,
      ⟨some 78, some (77, true), [], .p (.mv (.t 9))⟩,
      ⟨some 79, some (77, true), [], .p (.mv (.t 11))⟩,
      ⟨some 80, some (77, true), [], .call 60016 4 true (.f 14) [.t 78, .t 79]⟩,
      ⟨some 81, none, [], .p (.pick (.t 77) (.t 80) (.c (.bool false)))⟩,
      ⟨some 82, none, [], .p (.mv (.t 81))⟩,
      ⟨some 83, some (82, true), [], .p (.mv (.t 10))⟩,
      ⟨some 84, some (82, true), [], .p (.mv (.t 12))⟩,
      ⟨some 85, some (82, true), [], .p (.bin .eql (.t 83) (.t 84))⟩,
      ⟨some 86, none, [], .p (.pick (.t 82) (.t 85) (.c (.bool false)))⟩,
      ⟨some 87, none, [], .p (.mv (.t 86))⟩,
      ⟨some 88, some (87, true), [], .p (.mv (.t 14))⟩,
      ⟨some 89, some (87, true), [], .p (.mv (.t 16))⟩,
      ⟨some 90, some (87, true), [], .p (.bin .eql (.t 88) (.t 89))⟩,
      ⟨some 91, none, [], .p (.pick (.t 87) (.t 90) (.c (.bool false)))⟩,
      ⟨some 92, none, [], .p (.mv (.t 91))⟩,
      ⟨some 93, some (92, true), [], .p (.mv (.t 15))⟩,
      ⟨some 94, some (92, true), [], .p (.mv (.t 17))⟩,
      ⟨some 95, some (92, true), [], .p (.bin .eql (.t 93) (.t 94))⟩,
      ⟨some 96, none, [], .p (.pick (.t 92) (.t 95) (.c (.bool false)))⟩,
      ⟨some 6, none, [], .p (.mv (.t 96))⟩]) (
  .ret)))))))))),
  97, [Sum.inl 6]⟩

theorem c3 : cFunc Tryd.prog quiet Tryd.f3 [] = some s3 := by kernel_rfl

-- 4 calls [10, 13, 15, 16]
abbrev k4_0 : List Nat := [2, 7, 9, 10, 12, 69, 70]
abbrev a4_0 : List Nat := [2, 6, 9, 10]
abbrev e4_0 (v2 v7 v9 v10 v12 v69 v70 : AV) : Env := [.dead, .dead, v2, .dead, .dead, .dead, .dead, v7, .dead, v9, v10, .dead, v12, .dead, .dead, .dead, .dead, .dead, .dead, .dead, .dead, .dead, .dead, .dead, .dead, .dead, .dead, .dead, .dead, .dead, .dead, .dead, .dead, .dead, .dead, .dead, .dead, .dead, .dead, .dead, .dead, .dead, .dead, .dead, .dead, .dead, .dead, .dead, .dead, .dead, .dead, .dead, .dead, .dead, .dead, .dead, .dead, .dead, .dead, .dead, .dead, .dead, .dead, .dead, .dead, .dead, .dead, .dead, .dead, v69, v70, .dead, .dead, .dead, .dead, .dead, .dead, .dead, .dead, .dead, .dead, .dead, .dead, .dead, .dead, .dead, .dead, .dead, .dead, .dead, .dead, .dead, .dead, .dead, .dead, .dead, .dead, .dead, .dead, .dead, .dead, .dead, .dead, .dead, .dead, .dead, .dead, .dead, .dead, .dead, .dead, .dead, .dead, .dead, .dead, .dead, .dead, .dead]
abbrev x4_0 (v2 v6 v9 v10 : AV) : Env := [.dead, .dead, v2, .dead, .dead, .dead, v6, .dead, .dead, v9, v10, .dead, .dead, .dead, .dead, .dead, .dead, .dead, .dead, .dead, .dead, .dead, .dead, .dead, .dead, .dead, .dead, .dead, .dead, .dead, .dead, .dead, .dead, .dead, .dead, .dead, .dead, .dead, .dead, .dead, .dead, .dead, .dead, .dead, .dead, .dead, .dead, .dead, .dead, .dead, .dead, .dead, .dead, .dead, .dead, .dead, .dead, .dead, .dead, .dead, .dead, .dead, .dead, .dead, .dead, .dead, .dead, .dead, .dead, .dead, .dead, .dead, .dead, .dead, .dead, .dead, .dead, .dead, .dead, .dead, .dead, .dead, .dead, .dead, .dead, .dead, .dead, .dead, .dead, .dead, .dead, .dead, .dead, .dead, .dead, .dead, .dead, .dead, .dead, .dead, .dead, .dead, .dead, .dead, .dead, .dead, .dead, .dead, .dead, .dead, .dead, .dead, .dead, .dead, .dead, .dead, .dead, .dead]
def s4_b0 : SCode :=
  .seq (
    .region [
      ⟨some 71, none, [], .p (.bin .lss (.t 70) (.t 69))⟩]) (
  .seq (
    .cond (.t 71) (
      .skip) (
      .exit 0)) (
  .seq (
    .block 1 (
      .seq (
        .region [
          ⟨some 72, none, [], .p (.mv (.t 70))⟩,
          ⟨some 14, none, [], .p (.mv (.t 72))⟩]) (
      .seq (
        .region [
          ⟨some 73, none, [], .p (.mv (.t 12))⟩,
          ⟨some 74, none, [], .p (.mv (.t 14))⟩,
          ⟨some 75, none, [], .p (.iaddrS 2 (.t 73) (.t 74))⟩,
          ⟨some 76, none, [], .r (.loadN 2 (.t 75))⟩,
          ⟨some 77, none, [], .p (.mv (.t 7))⟩,
          ⟨some 78, none, [], .p (.mv (.t 14))⟩,
          ⟨some 79, none, [], .p (.iaddrS 2 (.t 77) (.t 78))⟩,
          ⟨some 80, none, [], .r (.loadN 2 (.t 79))⟩,
          ⟨some 81, none, [], .p (.eqa [0, 1] true (.t 76) (.t 80))⟩]) (
      .cond (.t 81) (
        .seq (
          .region [
            ⟨some 6, none, [], .p (.mv (.c (.bool false)))⟩]) (
        .ret)) (
        .skip))))) (
  .region [
    ⟨some 82, none, [], .p (.bin .add (.t 70) (.c (.int .i64 1)))⟩,
    ⟨some 70, none, [], .p (.mv (.t 82))⟩])))

def s4 : SFunc := ⟨
  .seq (
    .region [
      ⟨some 6, none, [], .p (.mv (.c (.bool false)))⟩]) (
  .seq (
    .region [
      ⟨some 20, none, [], .p (.mv (.t 0))⟩,
      ⟨some 21, none, [], .call 4004 4 true (.f 15) [.t 20]⟩,
      ⟨some 19, none, [], .p (.mv (.t 21))⟩,
      ⟨some 22, none, [], .p (.extract (.t 19) 0)⟩,
      ⟨some 23, none, [], .p (.extract (.t 19) 1)⟩,
      ⟨some 7, none, [], .p (.mv (.t 22))⟩,
      ⟨some 8, none, [], .p (.mv (.t 23))⟩]) (
  .seq (
    .region [
      ⟨some 25, none, [], .p (.mv (.t 7))⟩,
      ⟨some 26, none, [], .call 8004 4 true (.f 16) [.t 25]⟩,
      ⟨some 24, none, [], .p (.mv (.t 26))⟩,
      ⟨some 27, none, [], .p (.extract (.t 24) 0)⟩,
      ⟨some 28, none, [], .p (.extract (.t 24) 1)⟩,
      ⟨some 29, none, [], .p (.extract (.t 24) 2)⟩,
      ⟨some 9, none, [], .p (.mv (.t 27))⟩,
      ⟨some 10, none, [], .p (.mv (.t 28))⟩,
      ⟨some 11, none, [], .p (.mv (.t 29))⟩]) (
  .seq (
    .seq (
      .region [
        ⟨some 30, none, [], .call 12000 4 true (.f 13) []⟩,
        ⟨some 31, none, [], .p (.un .not (.t 30))⟩,
        ⟨some 32, none, [], .p (.mv (.t 31))⟩,
        ⟨some 33, some (32, false), [], .p (.mv (.t 11))⟩,
        ⟨some 34, some (32, false), [], .p (.bin .neq (.t 33) (.c (.int .i64 0)))⟩,
        ⟨some 35, none, [], .p (.pick (.t 32) (.c (.bool true)) (.t 34))⟩]) (
    .cond (.t 35) (
      .seq (
        .region [
          ⟨some 36, none, [], .call 16000 4 true (.f 13) []⟩,
          ⟨some 37, none, [], .p (.mv (.t 36))⟩,
          ⟨some 38, some (37, true), [], .p (.mv (.t 9))⟩,
          ⟨some 39, some (37, true), [], .p (.lenV true (.t 38))⟩,
          ⟨some 40, some (37, true), [], .p (.bin .eql (.t 39) (.c (.int .i64 0)))⟩,
          ⟨some 41, none, [], .p (.pick (.t 37) (.t 40) (.c (.bool false)))⟩,
          ⟨some 42, none, [], .p (.mv (.t 41))⟩,
          ⟨some 43, some (42, true), [], .p (.mv (.t 10))⟩,
          ⟨some 44, some (42, true), [], .p (.bin .eql (.t 43) (.c (.str [])))⟩,
          ⟨some 45, none, [], .p (.pick (.t 42) (.t 44) (.c (.bool false)))⟩,
          ⟨some 6, none, [], .p (.mv (.t 45))⟩]) (
      .ret)) (
      .skip))) (
  .seq (
    .region [
      ⟨some 47, none, [], .p (.mv (.t 9))⟩,
      ⟨some 48, none, [], .w (.append 20004 1 16 (.c (.slice none 0 0)) (.t 47))⟩,
      ⟨some 49, none, [], .p (.mv (.t 1))⟩,
      ⟨some 50, none, [], .p (.mv (.t 1))⟩,
      ⟨some 51, none, [], .p (.lenV true (.t 50))⟩,
      ⟨some 52, none, [], .p (.minmax false (.t 51) (.c (.int .i64 20)))⟩,
      ⟨some 53, none, [], .p (.slcS 1 (.t 49) none (some (.t 52)) none)⟩,
      ⟨some 54, none, [], .w (.append 20028 1 16 (.t 48) (.t 53))⟩,
      ⟨some 55, none, [], .p (.mv (.t 10))⟩,
      ⟨some 56, none, [], .call 20036 4 true (.f 10) [.t 54, .t 55]⟩,
      ⟨some 46, none, [], .p (.mv (.t 56))⟩,
      ⟨some 57, none, [], .p (.extract (.t 46) 0)⟩,
      ⟨some 58, none, [], .p (.extract (.t 46) 1)⟩,
      ⟨some 12, none, [], .p (.mv (.t 57))⟩,
      ⟨some 13, none, [], .p (.mv (.t 58))⟩]) (
  .seq (
    .seq (
      .region [
        ⟨some 59, none, [], .p (.mv (.t 13))⟩,
        ⟨some 60, none, [], .p (.bin .neq (.t 59) (.c (.int .i64 0)))⟩,
        ⟨some 61, none, [], .p (.mv (.t 60))⟩,
        ⟨some 62, some (61, false), [], .p (.mv (.t 12))⟩,
        ⟨some 63, some (61, false), [], .p (.lenV true (.t 62))⟩,
        ⟨some 64, some (61, false), [], .p (.mv (.t 7))⟩,
        ⟨some 65, some (61, false), [], .p (.lenV true (.t 64))⟩,
        ⟨some 66, some (61, false), [], .p (.bin .neq (.t 63) (.t 65))⟩,
        ⟨some 67, none, [], .p (.pick (.t 61) (.c (.bool true)) (.t 66))⟩]) (
    .cond (.t 67) (
      .seq (
        .region [
          ⟨some 6, none, [], .p (.mv (.c (.bool false)))⟩]) (
      .ret)) (
      .skip))) (
  .seq (
    .seq (
      .region [
        ⟨some 68, none, [], .p (.mv (.t 12))⟩,
        ⟨some 69, none, [], .p (.lenV true (.t 68))⟩,
        ⟨some 70, none, [], .p (.mv (.c (.int .i64 0)))⟩]) (
    .block 0 (
      .loop k4_0 a4_0 s4_b0))) (
  .seq (
    .region [
      ⟨some 84, none, [], .p (.mv (.t 9))⟩,
      ⟨some 85, none, [], .p (.mv (.t 9))⟩,
      ⟨some 86, none, [], .p (.lenV true (.t 85))⟩,
      ⟨some 87, none, [], .p (.bin .sub (.t 86) (.c (.int .i64 1)))⟩,
      ⟨some 88, none, [], .p (.slcS 1 (.t 84) none (some (.t 87)) none)⟩,
      ⟨some 89, none, [], .p (.mv (.t 10))⟩,
      ⟨some 90, none, [], .call 56024 4 true (.f 10) [.t 88, .t 89]⟩,
      ⟨some 83, none, [], .p (.mv (.t 90))⟩,
      ⟨some 91, none, [], .p (.extract (.t 83) 0)⟩,
      ⟨some 92, none, [], .p (.extract (.t 83) 1)⟩,
      ⟨some 15, none, [], .p (.mv (.t 91))⟩,
      ⟨some 16, none, [], .p (.mv (.t 92))⟩]) (
  .seq (
    .region [
      ⟨some 94, none, [], .p (.mv (.t 9))⟩,
      ⟨some 95, none, [], .p (.mv (.t 2))⟩,
      ⟨some 96, none, [], .call 60008 4 true (.f 10) [.t 94, .t 95]⟩,
      ⟨some 93, none, [], .p (.mv (.t 96))⟩,
      ⟨some 97, none, [], .p (.extract (.t 93) 0)⟩,
      ⟨some 98, none, [], .p (.extract (.t 93) 1)⟩,
      ⟨some 17, none, [], .p (.mv (.t 97))⟩,
      ⟨some 18, none, [], .p (.mv (.t 98))⟩]) (
  .seq (
    .region [
      ⟨some 99, none, [], .p (.mv (.t 16))⟩,
      ⟨some 100, none, [], .p (.bin .eql (.t 99) (.c (.int .i64 3)))⟩,
      ⟨some 101, none, [], .p (.mv (.t 100))⟩,
      ⟨some 102, some (101, false), [], .p (.mv (.t 9))⟩,
      ⟨some 103, some (101, false), [], .p (.lenV true (.t 102))⟩,
      ⟨some 104, some (101, false), [], .p (.bin .eql (.t 103) (.c (.int .i64 1)))⟩,
      ⟨some 105, some (101, false), [], .p (.mv (.t 104))⟩,
      ⟨some 106, some (105, true), [], .p (.mv (.t 16))⟩,
      ⟨some 107, some (105, true), [], .p (.bin .eql (.t 106) (.c (.int .i64 4)))⟩,
      ⟨some 108, some (101, false), [], .p (.pick (.t 105) (.t 107) (.c (.bool false)))⟩,
      ⟨some 109, none, [], .p (.pick (.t 101) (.c (.bool true)) (.t 108))⟩,
      ⟨some 110, none, [], .p (.mv (.t 109))⟩,
      ⟨some 111, some (110, true), [], .p (.mv (.t 18))⟩,
      ⟨some 112, some (110, true), [], .p (.bin .eql (.t 111) (.c (.int .i64 0)))⟩,
      ⟨some 113, some (110, true), [], .p (.mv (.t 2))⟩,
      ⟨some 114, some (110, true), [], .p (.mv (.t 10))⟩,
      ⟨some 115, some (110, true), [], .p (.bin .eql (.t 113) (.t 114))⟩,
      ⟨some 116, some (110, true), [], .p (.eqb false (.t 112) (.t 115))⟩,
      ⟨some 117, none, [], .p (.pick (.t 110) (.t 116) (.c (.bool false)))⟩,
      ⟨some 6, none, [], .p (.mv (.t 117))⟩]) (
  .ret)))))))))),
  118, [Sum.inl 6]⟩

theorem c4 : cFunc Tryd.prog quiet Tryd.f4 [[2, 7, 9, 10, 12, 69, 70], [2, 6, 9, 10]] = some s4 := by kernel_rfl

-- 5 calls [13, 16]
abbrev k5_0 : List Nat := [0, 1, 2, 7, 27, 28]
abbrev a5_0 : List Nat := [0, 1, 2, 7]
abbrev e5_0 (v0 v1 v2 v7 v27 v28 : AV) : Env := [v0, v1, v2, .dead, .dead, .dead, .dead, v7, .dead, .dead, .dead, .dead, .dead, .dead, .dead, .dead, .dead, .dead, .dead, .dead, .dead, .dead, .dead, .dead, .dead, .dead, .dead, v27, v28, .dead, .dead, .dead, .dead, .dead, .dead, .dead, .dead, .dead, .dead, .dead, .dead, .dead, .dead, .dead, .dead, .dead, .dead, .dead, .dead, .dead, .dead, .dead, .dead, .dead, .dead, .dead, .dead, .dead, .dead, .dead, .dead, .dead, .dead, .dead, .dead, .dead, .dead, .dead, .dead, .dead, .dead, .dead, .dead, .dead, .dead, .dead, .dead, .dead, .dead, .dead, .dead, .dead, .dead, .dead, .dead, .dead, .dead, .dead, .dead, .dead, .dead, .dead, .dead, .dead, .dead, .dead, .dead, .dead, .dead, .dead, .dead, .dead, .dead, .dead, .dead]
abbrev x5_0 (v0 v1 v2 v7 : AV) : Env := [v0, v1, v2, .dead, .dead, .dead, .dead, v7, .dead, .dead, .dead, .dead, .dead, .dead, .dead, .dead, .dead, .dead, .dead, .dead, .dead, .dead, .dead, .dead, .dead, .dead, .dead, .dead, .dead, .dead, .dead, .dead, .dead, .dead, .dead, .dead, .dead, .dead, .dead, .dead, .dead, .dead, .dead, .dead, .dead, .dead, .dead, .dead, .dead, .dead, .dead, .dead, .dead, .dead, .dead, .dead, .dead, .dead, .dead, .dead, .dead, .dead, .dead, .dead, .dead, .dead, .dead, .dead, .dead, .dead, .dead, .dead, .dead, .dead, .dead, .dead, .dead, .dead, .dead, .dead, .dead, .dead, .dead, .dead, .dead, .dead, .dead, .dead, .dead, .dead, .dead, .dead, .dead, .dead, .dead, .dead, .dead, .dead, .dead, .dead, .dead, .dead, .dead, .dead, .dead]
def s5_b0 : SCode :=
  .seq (
    .region [
      ⟨some 29, none, [], .p (.bin .lss (.t 28) (.t 27))⟩]) (
  .seq (
    .cond (.t 29) (
      .skip) (
      .exit 0)) (
  .seq (
    .block 1 (
      .seq (
        .region [
          ⟨some 30, none, [], .p (.mv (.t 28))⟩,
          ⟨some 8, none, [], .p (.mv (.t 30))⟩]) (
      .region [
        ⟨some 31, none, [], .p (.mv (.t 7))⟩,
        ⟨some 32, none, [], .p (.mv (.t 8))⟩,
        ⟨some 33, none, [], .p (.build [.int .i64 0, .str []] [(0, 1, .c (.int .i64 100)), (1, 1, .c (.str [99]))])⟩,
        ⟨some 34, none, [], .p (.iaddrS 2 (.t 31) (.t 32))⟩,
        ⟨none, none, [], .w (.storeN 2 (.t 34) (.t 33))⟩]))) (
  .region [
    ⟨some 35, none, [], .p (.bin .add (.t 28) (.c (.int .i64 1)))⟩,
    ⟨some 28, none, [], .p (.mv (.t 35))⟩])))

def s5 : SFunc := ⟨
  .seq (
    .region [
      ⟨some 6, none, [], .p (.mv (.c (.bool false)))⟩]) (
  .seq (
    .region [
      ⟨some 18, none, [], .p (.mv (.t 0))⟩,
      ⟨some 19, none, [], .p (.minmax true (.c (.int .i64 0)) (.t 18))⟩,
      ⟨some 20, none, [], .p (.bin .rem (.t 19) (.c (.int .i64 110)))⟩,
      ⟨some 21, none, [], .p (.mv (.t 1))⟩,
      ⟨some 22, none, [], .p (.minmax true (.c (.int .i64 0)) (.t 21))⟩,
      ⟨some 23, none, [], .p (.bin .rem (.t 22) (.c (.int .i64 2100)))⟩,
      ⟨some 0, none, [], .p (.mv (.t 20))⟩,
      ⟨some 1, none, [], .p (.mv (.t 23))⟩]) (
  .seq (
    .region [
      ⟨some 24, none, [], .p (.mv (.t 0))⟩,
      ⟨some 25, none, [], .a 8004 (.mkSlice 2 24 [.int .i64 0, .str []] (.t 24) (.t 24))⟩,
      ⟨some 7, none, [], .p (.mv (.t 25))⟩]) (
  .seq (
    .seq (
      .region [
        ⟨some 26, none, [], .p (.mv (.t 7))⟩,
        ⟨some 27, none, [], .p (.lenV true (.t 26))⟩,
        ⟨some 28, none, [], .p (.mv (.c (.int .i64 0)))⟩]) (
    .block 0 (
      .loop k5_0 a5_0 s5_b0))) (
  .seq (
    .region [
      ⟨some 37, none, [], .p (.mv (.t 7))⟩,
      ⟨some 38, none, [], .call 32004 4 true (.f 16) [.t 37]⟩,
      ⟨some 36, none, [], .p (.mv (.t 38))⟩,
      ⟨some 39, none, [], .p (.extract (.t 36) 0)⟩,
      ⟨some 40, none, [], .p (.extract (.t 36) 1)⟩,
      ⟨some 41, none, [], .p (.extract (.t 36) 2)⟩,
      ⟨some 9, none, [], .p (.mv (.t 39))⟩,
      ⟨some 10, none, [], .p (.mv (.t 40))⟩,
      ⟨some 11, none, [], .p (.mv (.t 41))⟩]) (
  .seq (
    .region [
      ⟨some 43, none, [], .p (.mv (.t 1))⟩,
      ⟨some 44, none, [], .a 36004 (.mkSlice 1 1 [byteAV 0] (.t 43) (.t 43))⟩,
      ⟨some 45, none, [], .r (.toStr (.t 44))⟩,
      ⟨some 46, none, [], .p (.build [.int .i64 0, .str []] [(0, 1, .c (.int .i64 120)), (1, 1, .t 45)])⟩,
      ⟨some 47, none, [], .a 36016 (.buildS 2 1 [.int .i64 0, .str []] [(0, 2, .t 46)])⟩,
      ⟨some 48, none, [], .call 36020 4 true (.f 16) [.t 47]⟩,
      ⟨some 42, none, [], .p (.mv (.t 48))⟩,
      ⟨some 49, none, [], .p (.extract (.t 42) 0)⟩,
      ⟨some 50, none, [], .p (.extract (.t 42) 1)⟩,
      ⟨some 51, none, [], .p (.extract (.t 42) 2)⟩,
      ⟨some 12, none, [], .p (.mv (.t 49))⟩,
      ⟨some 13, none, [], .p (.mv (.t 50))⟩,
      ⟨some 14, none, [], .p (.mv (.t 51))⟩]) (
  .seq (
    .region [
      ⟨some 53, none, [], .p (.mv (.t 2))⟩,
      ⟨some 54, none, [], .p (.build [.int .i64 0, .str []] [(0, 1, .t 53)])⟩,
      ⟨some 55, none, [], .a 40008 (.buildS 2 1 [.int .i64 0, .str []] [(0, 2, .t 54)])⟩,
      ⟨some 56, none, [], .call 40012 4 true (.f 16) [.t 55]⟩,
      ⟨some 52, none, [], .p (.mv (.t 56))⟩,
      ⟨some 57, none, [], .p (.extract (.t 52) 0)⟩,
      ⟨some 58, none, [], .p (.extract (.t 52) 1)⟩,
      ⟨some 59, none, [], .p (.extract (.t 52) 2)⟩,
      ⟨some 15, none, [], .p (.mv (.t 57))⟩,
      ⟨some 16, none, [], .p (.mv (.t 58))⟩,
      ⟨some 17, none, [], .p (.mv (.t 59))⟩]) (
  .seq (
    .region [
      ⟨some 60, none, [], .call 44000 4 true (.f 13) []⟩,
      ⟨some 61, none, [], .p (.mv (.t 60))⟩,
      ⟨some 62, some (61, true), [], .p (.mv (.t 11))⟩,
      ⟨some 63, some (61, true), [], .p (.bin .eql (.t 62) (.c (.int .i64 0)))⟩,
      ⟨some 64, some (61, true), [], .p (.mv (.t 0))⟩,
      ⟨some 65, some (61, true), [], .p (.bin .lss (.t 64) (.c (.int .i64 96)))⟩,
      ⟨some 66, some (61, true), [], .p (.eqb false (.t 63) (.t 65))⟩,
      ⟨some 67, none, [], .p (.pick (.t 61) (.t 66) (.c (.bool false)))⟩,
      ⟨some 68, none, [], .p (.mv (.t 67))⟩,
      ⟨some 69, some (68, true), [], .p (.mv (.t 11))⟩,
      ⟨some 70, some (68, true), [], .p (.bin .eql (.t 69) (.c (.int .i64 0)))⟩,
      ⟨some 71, some (68, true), [], .p (.mv (.t 70))⟩,
      ⟨some 72, some (71, false), [], .p (.mv (.t 11))⟩,
      ⟨some 73, some (71, false), [], .p (.bin .eql (.t 72) (.c (.int .i64 10)))⟩,
      ⟨some 74, some (68, true), [], .p (.pick (.t 71) (.c (.bool true)) (.t 73))⟩,
      ⟨some 75, none, [], .p (.pick (.t 68) (.t 74) (.c (.bool false)))⟩,
      ⟨some 76, none, [], .p (.mv (.t 75))⟩,
      ⟨some 77, some (76, true), [], .p (.mv (.t 11))⟩,
      ⟨some 78, some (76, true), [], .p (.bin .neq (.t 77) (.c (.int .i64 0)))⟩,
      ⟨some 79, some (76, true), [], .p (.mv (.t 78))⟩,
      ⟨some 80, some (79, false), [], .p (.mv (.t 9))⟩,
      ⟨some 81, some (79, false), [], .p (.lenV true (.t 80))⟩,
      ⟨some 82, some (79, false), [], .p (.mv (.t 0))⟩,
      ⟨some 83, some (79, false), [], .p (.bin .add (.t 82) (.c (.int .i64 1)))⟩,
      ⟨some 84, some (79, false), [], .p (.bin .eql (.t 81) (.t 83))⟩,
      ⟨some 85, some (76, true), [], .p (.pick (.t 79) (.c (.bool true)) (.t 84))⟩,
      ⟨some 86, none, [], .p (.pick (.t 76) (.t 85) (.c (.bool false)))⟩,
      ⟨some 87, none, [], .p (.mv (.t 86))⟩,
      ⟨some 88, some (87, true), [], .p (.mv (.t 14))⟩,
      ⟨some 89, some (87, true), [], .p (.bin .eql (.t 88) (.c (.int .i64 0)))⟩,
      ⟨some 90, some (87, true), [], .p (.mv (.t 1))⟩,
      ⟨some 91, some (87, true), [], .p (.bin .leq (.t 90) (.c (.int .i64 2032)))⟩,
      ⟨some 92, some (87, true), [], .p (.eqb false (.t 89) (.t 91))⟩,
      ⟨some 93, none, [], .p (.pick (.t 87) (.t 92) (.c (.bool false)))⟩,
      ⟨some 94, none, [], .p (.mv (.t 93))⟩,
      ⟨some 95, some (94, true), [], .p (.mv (.t 17))⟩,
      ⟨some 96, some (94, true), [], .p (.bin .eql (.t 95) (.c (.int .i64 0)))⟩,
      ⟨some 97, some (94, true), [], .p (.mv (.t 2))⟩,
      ⟨some 98, some (94, true), [], .p (.bin .geq (.t 97) (.c (.int .i64 100)))⟩,
      ⟨some 99, some (94, true), [], .p (.mv (.t 98))⟩,
      ⟨some 100, some (99, true), [], .p (.mv (.t 2))⟩,
      ⟨some 101, some (99, true), [], .p (.bin .lss (.t 100) (.c (.int .i64 140)))⟩,
      ⟨some 102, some (94, true), [], .p (.pick (.t 99) (.t 101) (.c (.bool false)))⟩,
      ⟨some 103, some (94, true), [], .p (.eqb false (.t 96) (.t 102))⟩,
      ⟨some 104, none, [], .p (.pick (.t 94) (.t 103) (.c (.bool false)))⟩,
      ⟨some 6, none, [], .p (.mv (.t 104))⟩]) (
  .ret)))))))),
  105, [Sum.inl 6]⟩

theorem c5 : cFunc Tryd.prog quiet Tryd.f5 [[0, 1, 2, 7, 27, 28], [0, 1, 2, 7]] = some s5 := by kernel_rfl

-- 6 calls [13, 15, 16, 17, 18, 19]
def s6 : SFunc := ⟨
  .seq (
    .region [
      ⟨some 2, none, [], .p (.mv (.c (.bool false)))⟩]) (
  .seq (
    .region [
      ⟨some 15, none, [], .p (.mv (.t 0))⟩,
      ⟨some 16, none, [], .call 4004 4 true (.f 15) [.t 15]⟩,
      ⟨some 14, none, [], .p (.mv (.t 16))⟩,
      ⟨some 17, none, [], .p (.extract (.t 14) 0)⟩,
      ⟨some 18, none, [], .p (.extract (.t 14) 1)⟩,
      ⟨some 3, none, [], .p (.mv (.t 17))⟩,
      ⟨some 4, none, [], .p (.mv (.t 18))⟩]) (
  .seq (
    .region [
      ⟨some 20, none, [], .p (.mv (.t 3))⟩,
      ⟨some 21, none, [], .call 8004 4 true (.f 16) [.t 20]⟩,
      ⟨some 19, none, [], .p (.mv (.t 21))⟩,
      ⟨some 22, none, [], .p (.extract (.t 19) 0)⟩,
      ⟨some 23, none, [], .p (.extract (.t 19) 1)⟩,
      ⟨some 24, none, [], .p (.extract (.t 19) 2)⟩,
      ⟨some 5, none, [], .p (.mv (.t 22))⟩,
      ⟨some 6, none, [], .p (.mv (.t 23))⟩,
      ⟨some 7, none, [], .p (.mv (.t 24))⟩]) (
  .seq (
    .region [
      ⟨some 26, none, [], .p (.mv (.t 4))⟩,
      ⟨some 27, none, [], .call 12004 4 true (.f 17) [.t 26]⟩,
      ⟨some 25, none, [], .p (.mv (.t 27))⟩,
      ⟨some 28, none, [], .p (.extract (.t 25) 0)⟩,
      ⟨some 29, none, [], .p (.extract (.t 25) 1)⟩,
      ⟨some 30, none, [], .p (.extract (.t 25) 2)⟩,
      ⟨some 8, none, [], .p (.mv (.t 28))⟩,
      ⟨some 9, none, [], .p (.mv (.t 29))⟩,
      ⟨some 10, none, [], .p (.mv (.t 30))⟩]) (
  .seq (
    .region [
      ⟨some 32, none, [], .call 16000 4 true (.f 17) [.c (.slice none 0 0)]⟩,
      ⟨some 31, none, [], .p (.mv (.t 32))⟩,
      ⟨some 33, none, [], .p (.extract (.t 31) 0)⟩,
      ⟨some 34, none, [], .p (.extract (.t 31) 1)⟩,
      ⟨some 35, none, [], .p (.extract (.t 31) 2)⟩,
      ⟨some 11, none, [], .p (.mv (.t 33))⟩,
      ⟨some 12, none, [], .p (.mv (.t 34))⟩,
      ⟨some 13, none, [], .p (.mv (.t 35))⟩]) (
  .seq (
    .region [
      ⟨some 36, none, [], .call 20000 4 true (.f 13) []⟩,
      ⟨some 37, none, [], .p (.mv (.t 36))⟩,
      ⟨some 38, some (37, true), [], .p (.mv (.t 5))⟩,
      ⟨some 39, some (37, true), [], .p (.mv (.t 8))⟩,
      ⟨some 40, some (37, true), [], .call 20016 4 true (.f 18) [.t 38, .t 39]⟩,
      ⟨some 41, none, [], .p (.pick (.t 37) (.t 40) (.c (.bool false)))⟩,
      ⟨some 42, none, [], .p (.mv (.t 41))⟩,
      ⟨some 43, some (42, true), [], .p (.mv (.t 6))⟩,
      ⟨some 44, some (42, true), [], .p (.mv (.t 9))⟩,
      ⟨some 45, some (42, true), [], .p (.bin .eql (.t 43) (.t 44))⟩,
      ⟨some 46, none, [], .p (.pick (.t 42) (.t 45) (.c (.bool false)))⟩,
      ⟨some 47, none, [], .p (.mv (.t 46))⟩,
      ⟨some 48, some (47, true), [], .p (.mv (.t 7))⟩,
      ⟨some 49, some (47, true), [], .p (.mv (.t 10))⟩,
      ⟨some 50, some (47, true), [], .p (.bin .eql (.t 48) (.t 49))⟩,
      ⟨some 51, none, [], .p (.pick (.t 47) (.t 50) (.c (.bool false)))⟩,
      ⟨some 52, none, [], .p (.mv (.t 51))⟩,
      ⟨some 53, some (52, true), [], .call 20068 4 true (.f 19) []⟩,
      ⟨some 54, some (52, true), [], .p (.mv (.t 12))⟩,
      ⟨some 55, some (52, true), [], .p (.bin .eql (.t 53) (.t 54))⟩,
      ⟨some 56, none, [], .p (.pick (.t 52) (.t 55) (.c (.bool false)))⟩,
      ⟨some 2, none, [], .p (.mv (.t 56))⟩]) (
  .ret)))))),
  57, [Sum.inl 2]⟩

theorem c6 : cFunc Tryd.prog quiet Tryd.f6 [] = some s6 := by kernel_rfl

-- 8 calls [26, 27]
abbrev k8_0 : List Nat := [0, 3, 4]
abbrev a8_0 : List Nat := [3]
abbrev e8_0 (v0 v3 v4 : AV) : Env := [v0, .dead, .dead, v3, v4, .dead, .dead, .dead, .dead, .dead, .dead, .dead, .dead, .dead, .dead, .dead, .dead, .dead, .dead, .dead, .dead, .dead]
abbrev x8_0 (v3 : AV) : Env := [.dead, .dead, .dead, v3, .dead, .dead, .dead, .dead, .dead, .dead, .dead, .dead, .dead, .dead, .dead, .dead, .dead, .dead, .dead, .dead, .dead, .dead]
def s8_b0 : SCode :=
  .seq (
    .seq (
      .region [
        ⟨some 6, none, [], .p (.mv (.t 4))⟩,
        ⟨some 7, none, [], .p (.mv (.t 0))⟩,
        ⟨some 8, none, [], .p (.lenV true (.t 7))⟩,
        ⟨some 9, none, [], .p (.bin .lss (.t 6) (.t 8))⟩]) (
    .cond (.t 9) (
      .skip) (
      .exit 0))) (
  .seq (
    .block 1 (
      .seq (
        .region [
          ⟨some 12, none, [], .p (.mv (.t 0))⟩,
          ⟨some 13, none, [], .p (.mv (.t 4))⟩,
          ⟨some 14, none, [], .p (.iaddrS 1 (.t 12) (.t 13))⟩,
          ⟨some 15, none, [], .r (.load1 (.t 14))⟩,
          ⟨some 16, none, [], .call 20016 4 true (.f 26) [.t 15]⟩,
          ⟨some 5, none, [], .p (.mv (.t 16))⟩]) (
      .region [
        ⟨some 17, none, [], .p (.mv (.t 3))⟩,
        ⟨some 18, none, [], .p (.mv (.t 5))⟩,
        ⟨some 19, none, [], .p (.bin .add (.t 17) (.t 18))⟩,
        ⟨some 3, none, [], .p (.mv (.t 19))⟩]))) (
  .region [
    ⟨some 10, none, [], .p (.mv (.t 4))⟩,
    ⟨some 11, none, [], .p (.bin .add (.t 10) (.c (.int .i64 1)))⟩,
    ⟨some 4, none, [], .p (.mv (.t 11))⟩]))

def s8 : SFunc := ⟨
  .seq (
    .region [
      ⟨some 2, none, [], .p (.mv (.c (.str [])))⟩]) (
  .seq (
    .region [
      ⟨some 3, none, [], .p (.mv (.c (.str [])))⟩]) (
  .seq (
    .seq (
      .region [
        ⟨some 4, none, [], .p (.mv (.c (.int .i64 0)))⟩]) (
    .block 0 (
      .loop k8_0 a8_0 s8_b0))) (
  .seq (
    .region [
      ⟨some 20, none, [], .p (.mv (.t 3))⟩,
      ⟨some 21, none, [], .call 28004 4 true (.f 27) [.c (byteAV 2), .t 20]⟩,
      ⟨some 2, none, [], .p (.mv (.t 21))⟩]) (
  .ret)))),
  22, [Sum.inl 2]⟩

theorem c8 : cFunc Tryd.prog quiet Tryd.f8 [[0, 3, 4], [3]] = some s8 := by kernel_rfl

-- 9 calls [28]
abbrev k9_0 : List Nat := [0, 4]
abbrev a9_0 : List Nat := [2, 3]
abbrev e9_0 (v0 v4 : AV) : Env := [v0, .dead, .dead, .dead, v4, .dead, .dead, .dead, .dead, .dead, .dead, .dead, .dead, .dead, .dead, .dead, .dead, .dead]
abbrev x9_0 (v2 v3 : AV) : Env := [.dead, .dead, v2, v3, .dead, .dead, .dead, .dead, .dead, .dead, .dead, .dead, .dead, .dead, .dead, .dead, .dead, .dead]
def s9_b0 : SCode :=
  .seq (
    .seq (
      .region [
        ⟨some 6, none, [], .p (.mv (.t 4))⟩,
        ⟨some 7, none, [], .p (.bin .lss (.t 6) (.c (.int .i64 96)))⟩]) (
    .cond (.t 7) (
      .skip) (
      .exit 0))) (
  .seq (
    .block 1 (
      .seq (
        .region [
          ⟨some 10, none, [], .p (.mv (.t 4))⟩,
          ⟨some 11, none, [], .p (.conv .u64 (.t 10))⟩,
          ⟨some 12, none, [], .call 16008 4 true (.f 28) [.t 11]⟩,
          ⟨some 5, none, [], .p (.mv (.t 12))⟩]) (
      .seq (
        .region [
          ⟨some 13, none, [], .p (.mv (.t 5))⟩,
          ⟨some 14, none, [], .p (.mv (.t 0))⟩,
          ⟨some 15, none, [], .p (.bin .eql (.t 13) (.t 14))⟩]) (
      .cond (.t 15) (
        .seq (
          .region [
            ⟨some 16, none, [], .p (.mv (.t 4))⟩,
            ⟨some 17, none, [], .p (.bin .add (.t 16) (.c (.int .i64 1)))⟩,
            ⟨some 2, none, [], .p (.mv (.t 17))⟩,
            ⟨some 3, none, [], .p (.mv (.c (.int .i64 0)))⟩]) (
        .ret)) (
        .skip))))) (
  .region [
    ⟨some 8, none, [], .p (.mv (.t 4))⟩,
    ⟨some 9, none, [], .p (.bin .add (.t 8) (.c (.int .i64 1)))⟩,
    ⟨some 4, none, [], .p (.mv (.t 9))⟩]))

def s9 : SFunc := ⟨
  .seq (
    .region [
      ⟨some 2, none, [], .p (.mv (.c (.int .i64 0)))⟩,
      ⟨some 3, none, [], .p (.mv (.c (.int .i64 0)))⟩]) (
  .seq (
    .seq (
      .region [
        ⟨some 4, none, [], .p (.mv (.c (.int .i64 0)))⟩]) (
    .block 0 (
      .loop k9_0 a9_0 s9_b0))) (
  .seq (
    .region [
      ⟨some 2, none, [], .p (.mv (.c (.int .i64 0)))⟩,
      ⟨some 3, none, [], .p (.mv (.c (.int .i64 4)))⟩]) (
  .ret))),
  18, [Sum.inl 2, Sum.inl 3]⟩

theorem c9 : cFunc Tryd.prog quiet Tryd.f9 [[0, 4], [2, 3]] = some s9 := by kernel_rfl

-- 10 calls [12, 29, 30, 31, 32, 33, 34]
abbrev k10_0 : List Nat := [0, 8, 40, 41]
abbrev a10_0 : List Nat := [4, 5, 8]
abbrev e10_0 (v0 v8 v40 v41 : AV) : Env := [v0, .dead, .dead, .dead, .dead, .dead, .dead, .dead, v8, .dead, .dead, .dead, .dead, .dead, .dead, .dead, .dead, .dead, .dead, .dead, .dead, .dead, .dead, .dead, .dead, .dead, .dead, .dead, .dead, .dead, .dead, .dead, .dead, .dead, .dead, .dead, .dead, .dead, .dead, .dead, v40, v41, .dead, .dead, .dead, .dead, .dead, .dead, .dead, .dead, .dead, .dead, .dead, .dead, .dead, .dead, .dead, .dead, .dead, .dead, .dead, .dead, .dead, .dead, .dead, .dead, .dead, .dead, .dead, .dead]
abbrev x10_0 (v4 v5 v8 : AV) : Env := [.dead, .dead, .dead, .dead, v4, v5, .dead, .dead, v8, .dead, .dead, .dead, .dead, .dead, .dead, .dead, .dead, .dead, .dead, .dead, .dead, .dead, .dead, .dead, .dead, .dead, .dead, .dead, .dead, .dead, .dead, .dead, .dead, .dead, .dead, .dead, .dead, .dead, .dead, .dead, .dead, .dead, .dead, .dead, .dead, .dead, .dead, .dead, .dead, .dead, .dead, .dead, .dead, .dead, .dead, .dead, .dead, .dead, .dead, .dead, .dead, .dead, .dead, .dead, .dead, .dead, .dead, .dead, .dead, .dead]
def s10_b0 : SCode :=
  .seq (
    .region [
      ⟨some 42, none, [], .p (.bin .lss (.t 41) (.t 40))⟩]) (
  .seq (
    .cond (.t 42) (
      .skip) (
      .exit 1)) (
  .seq (
    .block 2 (
      .seq (
        .region [
          ⟨some 43, none, [], .p (.mv (.t 41))⟩,
          ⟨some 9, none, [], .p (.mv (.t 43))⟩]) (
      .seq (
        .region [
          ⟨some 44, none, [], .p (.mv (.t 0))⟩,
          ⟨some 45, none, [], .p (.mv (.t 9))⟩,
          ⟨some 46, none, [], .p (.bin .add (.t 45) (.c (.int .i64 1)))⟩,
          ⟨some 47, none, [], .p (.iaddrS 1 (.t 44) (.t 46))⟩,
          ⟨some 48, none, [], .r (.load1 (.t 47))⟩,
          ⟨some 49, none, [], .call 56020 4 true (.f 30) [.t 48]⟩,
          ⟨some 10, none, [], .p (.mv (.t 49))⟩]) (
      .seq (
        .region [
          ⟨some 50, none, [], .p (.mv (.t 10))⟩,
          ⟨some 51, none, [], .call 60004 4 false (.f 31) [.t 50, .c (.int .i64 140)]⟩,
          ⟨some 11, none, [], .p (.mv (.t 51))⟩]) (
      .seq (
        .region [
          ⟨some 52, none, [], .p (.mv (.t 11))⟩,
          ⟨some 53, none, [], .p (.mv (.t 10))⟩,
          ⟨some 54, none, [], .call 64008 4 false (.f 32) [.t 53]⟩,
          ⟨some 55, none, [], .p (.build [.int .i64 0, .str []] [(0, 1, .t 52), (1, 1, .t 54)])⟩,
          ⟨some 12, none, [], .a 64016 (.alloc [.int .i64 0, .str []])⟩,
          ⟨none, none, [], .w (.storeN 2 (.t 12) (.t 55))⟩]) (
      .seq (
        .seq (
          .region [
            ⟨some 56, none, [], .p (.mv (.t 10))⟩,
            ⟨some 57, none, [], .call 68004 4 true (.f 33) [.t 56]⟩,
            ⟨some 58, none, [], .p (.bin .neq (.t 57) (.c (.int .i64 0)))⟩,
            ⟨some 59, none, [], .p (.mv (.t 58))⟩,
            ⟨some 60, some (59, false), [], .r (.loadN 2 (.t 12))⟩,
            ⟨some 61, some (59, false), [], .call 68020 4 true (.f 34) [.t 60]⟩,
            ⟨some 62, some (59, false), [], .p (.bin .neq (.t 61) (.c (.int .i64 0)))⟩,
            ⟨some 63, none, [], .p (.pick (.t 59) (.c (.bool true)) (.t 62))⟩]) (
        .cond (.t 63) (
          .seq (
            .region [
              ⟨some 4, none, [], .p (.mv (.c (.slice none 0 0)))⟩,
              ⟨some 5, none, [], .p (.mv (.c (.int .i64 4)))⟩]) (
          .ret)) (
          .skip))) (
      .region [
        ⟨some 64, none, [], .p (.mv (.t 8))⟩,
        ⟨some 65, none, [], .r (.loadN 2 (.t 12))⟩,
        ⟨some 66, none, [], .a 76008 (.buildS 2 1 [.int .i64 0, .str []] [(0, 2, .t 65)])⟩,
        ⟨some 67, none, [], .w (.append 76012 2 24 (.t 64) (.t 66))⟩,
        ⟨some 8, none, [], .p (.mv (.t 67))⟩]))))))) (
  .region [
    ⟨some 68, none, [], .p (.bin .add (.t 41) (.c (.int .i64 1)))⟩,
    ⟨some 41, none, [], .p (.mv (.t 68))⟩])))

def s10 : SFunc := ⟨
  .seq (
    .region [
      ⟨some 4, none, [], .p (.mv (.c (.slice none 0 0)))⟩,
      ⟨some 5, none, [], .p (.mv (.c (.int .i64 0)))⟩]) (
  .seq (
    .seq (
      .region [
        ⟨some 13, none, [], .p (.mv (.t 0))⟩,
        ⟨some 14, none, [], .p (.lenV true (.t 13))⟩,
        ⟨some 15, none, [], .p (.bin .eql (.t 14) (.c (.int .i64 0)))⟩]) (
    .cond (.t 15) (
      .seq (
        .region [
          ⟨some 4, none, [], .p (.mv (.c (.slice none 0 0)))⟩,
          ⟨some 5, none, [], .p (.mv (.c (.int .i64 4)))⟩]) (
      .ret)) (
      .skip))) (
  .seq (
    .region [
      ⟨some 17, none, [], .p (.mv (.t 0))⟩,
      ⟨some 18, none, [], .p (.iaddrS 1 (.t 17) (.c (.int .i64 0)))⟩,
      ⟨some 19, none, [], .r (.load1 (.t 18))⟩,
      ⟨some 20, none, [], .call 12012 4 true (.f 12) [.t 19]⟩,
      ⟨some 16, none, [], .p (.mv (.t 20))⟩,
      ⟨some 21, none, [], .p (.extract (.t 16) 0)⟩,
      ⟨some 22, none, [], .p (.extract (.t 16) 1)⟩,
      ⟨some 6, none, [], .p (.mv (.t 21))⟩,
      ⟨some 7, none, [], .p (.mv (.t 22))⟩]) (
  .seq (
    .block 0 (
      .seq (
        .region [
          ⟨some 24, none, [], .p (.mv (.t 7))⟩,
          ⟨some 25, none, [], .p (.bin .neq (.t 24) (.c (.int .i64 0)))⟩,
          ⟨some 23, none, [], .p (.mv (.t 25))⟩]) (
      .cond (.t 23) (
        .seq (
          .region [
            ⟨some 26, none, [], .p (.mv (.t 7))⟩,
            ⟨some 4, none, [], .p (.mv (.c (.slice none 0 0)))⟩,
            ⟨some 5, none, [], .p (.mv (.t 26))⟩]) (
        .ret)) (
        .seq (
          .region [
            ⟨some 28, none, [], .p (.mv (.t 6))⟩,
            ⟨some 29, none, [], .p (.mv (.t 0))⟩,
            ⟨some 30, none, [], .p (.lenV true (.t 29))⟩,
            ⟨some 31, none, [], .p (.bin .gtr (.t 28) (.t 30))⟩,
            ⟨some 27, none, [], .p (.mv (.t 31))⟩]) (
        .cond (.t 27) (
          .seq (
            .region [
              ⟨some 4, none, [], .p (.mv (.c (.slice none 0 0)))⟩,
              ⟨some 5, none, [], .p (.mv (.c (.int .i64 3)))⟩]) (
          .ret)) (
          .seq (
            .region [
              ⟨some 33, none, [], .p (.mv (.t 0))⟩,
              ⟨some 34, none, [], .p (.mv (.t 6))⟩,
              ⟨some 35, none, [], .p (.slcS 1 (.t 33) none (some (.t 34)) none)⟩,
              ⟨some 36, none, [], .call 32012 4 true (.f 29) [.t 35]⟩,
              ⟨some 37, none, [], .p (.mv (.t 1))⟩,
              ⟨some 38, none, [], .p (.bin .neq (.t 36) (.t 37))⟩,
              ⟨some 32, none, [], .p (.mv (.t 38))⟩]) (
          .cond (.t 32) (
            .seq (
              .region [
                ⟨some 4, none, [], .p (.mv (.c (.slice none 0 0)))⟩,
                ⟨some 5, none, [], .p (.mv (.c (.int .i64 22)))⟩]) (
            .ret)) (
            .skip)))))))) (
  .seq (
    .region [
      ⟨some 8, none, [], .p (.mv (.c (.slice none 0 0)))⟩]) (
  .seq (
    .seq (
      .region [
        ⟨some 39, none, [], .p (.mv (.t 6))⟩,
        ⟨some 40, none, [], .p (.bin .sub (.t 39) (.c (.int .i64 1)))⟩,
        ⟨some 41, none, [], .p (.mv (.c (.int .i64 0)))⟩]) (
    .block 1 (
      .loop k10_0 a10_0 s10_b0))) (
  .seq (
    .region [
      ⟨some 69, none, [], .p (.mv (.t 8))⟩,
      ⟨some 4, none, [], .p (.mv (.t 69))⟩,
      ⟨some 5, none, [], .p (.mv (.c (.int .i64 0)))⟩]) (
  .ret))))))),
  70, [Sum.inl 4, Sum.inl 5]⟩

theorem c10 : cFunc Tryd.prog quiet Tryd.f10 [[0, 8, 40, 41], [4, 5, 8]] = some s10 := by kernel_rfl

-- 11 calls [8, 9, 35, 36, 37]
abbrev k11_0 : List Nat := [0, 6, 9, 10]
abbrev a11_0 : List Nat := [4, 5, 9]
abbrev e11_0 (v0 v6 v9 v10 : AV) : Env := [v0, .dead, .dead, .dead, .dead, .dead, v6, .dead, .dead, v9, v10, .dead, .dead, .dead, .dead, .dead, .dead, .dead, .dead, .dead, .dead, .dead, .dead, .dead, .dead, .dead, .dead, .dead, .dead, .dead, .dead, .dead, .dead, .dead, .dead, .dead, .dead, .dead, .dead, .dead, .dead, .dead, .dead, .dead, .dead, .dead, .dead, .dead, .dead, .dead, .dead, .dead, .dead, .dead, .dead, .dead, .dead, .dead, .dead, .dead, .dead, .dead, .dead, .dead, .dead, .dead, .dead, .dead, .dead, .dead, .dead, .dead, .dead, .dead, .dead, .dead, .dead, .dead, .dead]
abbrev x11_0 (v4 v5 v9 : AV) : Env := [.dead, .dead, .dead, .dead, v4, v5, .dead, .dead, .dead, v9, .dead, .dead, .dead, .dead, .dead, .dead, .dead, .dead, .dead, .dead, .dead, .dead, .dead, .dead, .dead, .dead, .dead, .dead, .dead, .dead, .dead, .dead, .dead, .dead, .dead, .dead, .dead, .dead, .dead, .dead, .dead, .dead, .dead, .dead, .dead, .dead, .dead, .dead, .dead, .dead, .dead, .dead, .dead, .dead, .dead, .dead, .dead, .dead, .dead, .dead, .dead, .dead, .dead, .dead, .dead, .dead, .dead, .dead, .dead, .dead, .dead, .dead, .dead, .dead, .dead, .dead, .dead, .dead, .dead]
def s11_b0 : SCode :=
  .seq (
    .seq (
      .region [
        ⟨some 39, none, [], .p (.mv (.t 10))⟩,
        ⟨some 40, none, [], .p (.mv (.t 6))⟩,
        ⟨some 41, none, [], .p (.bin .lss (.t 39) (.t 40))⟩]) (
    .cond (.t 41) (
      .skip) (
      .exit 0))) (
  .seq (
    .block 1 (
      .seq (
        .region [
          ⟨some 44, none, [], .p (.mv (.t 0))⟩,
          ⟨some 45, none, [], .p (.mv (.t 10))⟩,
          ⟨some 46, none, [], .p (.iaddrS 1 (.t 44) (.t 45))⟩,
          ⟨some 47, none, [], .r (.load1 (.t 46))⟩,
          ⟨some 48, none, [], .p (.build [.str [], .int .i64 0, .int .i64 0] [(0, 1, .t 47)])⟩,
          ⟨some 49, none, [], .a 60020 (.box (.t 48))⟩,
          ⟨some 11, none, [], .p (.mv (.t 49))⟩]) (
      .seq (
        .region [
          ⟨some 50, none, [], .p (.mv (.t 11))⟩,
          ⟨some 51, none, [], .call 64004 4 false (.f 35) [.t 50]⟩,
          ⟨some 12, none, [], .p (.mv (.t 51))⟩]) (
      .seq (
        .region [
          ⟨some 52, none, [], .p (.mv (.t 11))⟩,
          ⟨some 53, none, [], .call 68004 4 false (.f 36) [.t 52]⟩,
          ⟨some 13, none, [], .p (.mv (.t 53))⟩]) (
      .seq (
        .region [
          ⟨some 54, none, [], .p (.mv (.t 11))⟩,
          ⟨some 55, none, [], .call 72004 4 true (.f 37) [.t 54]⟩,
          ⟨some 14, none, [], .p (.mv (.t 55))⟩]) (
      .seq (
        .seq (
          .region [
            ⟨some 56, none, [], .p (.mv (.t 14))⟩,
            ⟨some 57, none, [], .p (.bin .neq (.t 56) (.c (.int .i64 0)))⟩,
            ⟨some 58, none, [], .p (.mv (.t 57))⟩,
            ⟨some 59, some (58, false), [], .p (.mv (.t 12))⟩,
            ⟨some 60, some (58, false), [], .p (.bin .lss (.t 59) (.c (u64 100#64)))⟩,
            ⟨some 61, none, [], .p (.pick (.t 58) (.c (.bool true)) (.t 60))⟩,
            ⟨some 62, none, [], .p (.mv (.t 61))⟩,
            ⟨some 63, some (62, false), [], .p (.mv (.t 12))⟩,
            ⟨some 64, some (62, false), [], .p (.bin .gtr (.t 63) (.c (u64 139#64)))⟩,
            ⟨some 65, none, [], .p (.pick (.t 62) (.c (.bool true)) (.t 64))⟩,
            ⟨some 66, none, [], .p (.mv (.t 65))⟩,
            ⟨some 67, some (66, false), [], .p (.mv (.t 13))⟩,
            ⟨some 68, some (66, false), [], .p (.lenV false (.t 67))⟩,
            ⟨some 69, some (66, false), [], .p (.bin .gtr (.t 68) (.c (.int .i64 2032)))⟩,
            ⟨some 70, none, [], .p (.pick (.t 66) (.c (.bool true)) (.t 69))⟩]) (
        .cond (.t 70) (
          .seq (
            .region [
              ⟨some 4, none, [], .p (.mv (.c (.slice none 0 0)))⟩,
              ⟨some 5, none, [], .p (.mv (.c (.int .i64 4)))⟩]) (
          .ret)) (
          .skip))) (
      .region [
        ⟨some 71, none, [], .p (.mv (.t 9))⟩,
        ⟨some 72, none, [], .p (.mv (.t 12))⟩,
        ⟨some 73, none, [], .p (.conv .i64 (.t 72))⟩,
        ⟨some 74, none, [], .p (.mv (.t 13))⟩,
        ⟨some 75, none, [], .p (.build [.int .i64 0, .str []] [(0, 1, .t 73), (1, 1, .t 74)])⟩,
        ⟨some 76, none, [], .a 84020 (.buildS 2 1 [.int .i64 0, .str []] [(0, 2, .t 75)])⟩,
        ⟨some 77, none, [], .w (.append 84024 2 24 (.t 71) (.t 76))⟩,
        ⟨some 9, none, [], .p (.mv (.t 77))⟩]))))))) (
  .region [
    ⟨some 42, none, [], .p (.mv (.t 10))⟩,
    ⟨some 43, none, [], .p (.bin .add (.t 42) (.c (.int .i64 1)))⟩,
    ⟨some 10, none, [], .p (.mv (.t 43))⟩]))

def s11 : SFunc := ⟨
  .seq (
    .region [
      ⟨some 4, none, [], .p (.mv (.c (.slice none 0 0)))⟩,
      ⟨some 5, none, [], .p (.mv (.c (.int .i64 0)))⟩]) (
  .seq (
    .seq (
      .region [
        ⟨some 15, none, [], .p (.mv (.t 0))⟩,
        ⟨some 16, none, [], .p (.lenV true (.t 15))⟩,
        ⟨some 17, none, [], .p (.bin .eql (.t 16) (.c (.int .i64 0)))⟩]) (
    .cond (.t 17) (
      .seq (
        .region [
          ⟨some 4, none, [], .p (.mv (.c (.slice none 0 0)))⟩,
          ⟨some 5, none, [], .p (.mv (.c (.int .i64 4)))⟩]) (
      .ret)) (
      .skip))) (
  .seq (
    .region [
      ⟨some 19, none, [], .p (.mv (.t 0))⟩,
      ⟨some 20, none, [], .p (.iaddrS 1 (.t 19) (.c (.int .i64 0)))⟩,
      ⟨some 21, none, [], .r (.load1 (.t 20))⟩,
      ⟨some 22, none, [], .call 12012 4 true (.f 9) [.t 21]⟩,
      ⟨some 18, none, [], .p (.mv (.t 22))⟩,
      ⟨some 23, none, [], .p (.extract (.t 18) 0)⟩,
      ⟨some 24, none, [], .p (.extract (.t 18) 1)⟩,
      ⟨some 6, none, [], .p (.mv (.t 23))⟩,
      ⟨some 7, none, [], .p (.mv (.t 24))⟩]) (
  .seq (
    .seq (
      .region [
        ⟨some 25, none, [], .p (.mv (.t 7))⟩,
        ⟨some 26, none, [], .p (.bin .neq (.t 25) (.c (.int .i64 0)))⟩]) (
    .cond (.t 26) (
      .seq (
        .region [
          ⟨some 27, none, [], .p (.mv (.t 7))⟩,
          ⟨some 4, none, [], .p (.mv (.c (.slice none 0 0)))⟩,
          ⟨some 5, none, [], .p (.mv (.t 27))⟩]) (
      .ret)) (
      .skip))) (
  .seq (
    .seq (
      .region [
        ⟨some 28, none, [], .p (.mv (.t 0))⟩,
        ⟨some 29, none, [], .p (.lenV true (.t 28))⟩,
        ⟨some 30, none, [], .p (.mv (.t 6))⟩,
        ⟨some 31, none, [], .p (.bin .lss (.t 29) (.t 30))⟩]) (
    .cond (.t 31) (
      .seq (
        .region [
          ⟨some 4, none, [], .p (.mv (.c (.slice none 0 0)))⟩,
          ⟨some 5, none, [], .p (.mv (.c (.int .i64 3)))⟩]) (
      .ret)) (
      .skip))) (
  .seq (
    .region [
      ⟨some 32, none, [], .p (.mv (.t 0))⟩,
      ⟨some 33, none, [], .p (.mv (.t 6))⟩,
      ⟨some 34, none, [], .p (.slcS 1 (.t 32) none (some (.t 33)) none)⟩,
      ⟨some 35, none, [], .call 32012 4 true (.f 8) [.t 34]⟩,
      ⟨some 8, none, [], .p (.mv (.t 35))⟩]) (
  .seq (
    .seq (
      .region [
        ⟨some 36, none, [], .p (.mv (.t 8))⟩,
        ⟨some 37, none, [], .p (.mv (.t 1))⟩,
        ⟨some 38, none, [], .p (.bin .neq (.t 36) (.t 37))⟩]) (
    .cond (.t 38) (
      .seq (
        .region [
          ⟨some 4, none, [], .p (.mv (.c (.slice none 0 0)))⟩,
          ⟨some 5, none, [], .p (.mv (.c (.int .i64 22)))⟩]) (
      .ret)) (
      .skip))) (
  .seq (
    .region [
      ⟨some 9, none, [], .p (.mv (.c (.slice none 0 0)))⟩]) (
  .seq (
    .seq (
      .region [
        ⟨some 10, none, [], .p (.mv (.c (.int .i64 1)))⟩]) (
    .block 0 (
      .loop k11_0 a11_0 s11_b0))) (
  .seq (
    .region [
      ⟨some 78, none, [], .p (.mv (.t 9))⟩,
      ⟨some 4, none, [], .p (.mv (.t 78))⟩,
      ⟨some 5, none, [], .p (.mv (.c (.int .i64 0)))⟩]) (
  .ret)))))))))),
  79, [Sum.inl 4, Sum.inl 5]⟩

theorem c11 : cFunc Tryd.prog quiet Tryd.f11 [[0, 6, 9, 10], [4, 5, 9]] = some s11 := by kernel_rfl

-- 12 calls [30, 31, 33]
def s12 : SFunc := ⟨
  .seq (
    .region [
      ⟨some 2, none, [], .p (.mv (.c (.int .i64 0)))⟩,
      ⟨some 3, none, [], .p (.mv (.c (.int .i64 0)))⟩]) (
  .seq (
    .region [
      ⟨some 6, none, [], .p (.mv (.t 0))⟩,
      ⟨some 7, none, [], .call 4004 4 true (.f 30) [.t 6]⟩,
      ⟨some 4, none, [], .p (.mv (.t 7))⟩]) (
  .seq (
    .region [
      ⟨some 8, none, [], .p (.mv (.t 4))⟩,
      ⟨some 9, none, [], .call 8004 4 false (.f 31) [.t 8, .c (.int .i64 96)]⟩,
      ⟨some 5, none, [], .p (.mv (.t 9))⟩]) (
  .seq (
    .seq (
      .region [
        ⟨some 10, none, [], .p (.mv (.t 4))⟩,
        ⟨some 11, none, [], .call 12004 4 true (.f 33) [.t 10]⟩,
        ⟨some 12, none, [], .p (.bin .neq (.t 11) (.c (.int .i64 0)))⟩]) (
    .cond (.t 12) (
      .seq (
        .region [
          ⟨some 2, none, [], .p (.mv (.c (.int .i64 0)))⟩,
          ⟨some 3, none, [], .p (.mv (.c (.int .i64 4)))⟩]) (
      .ret)) (
      .skip))) (
  .seq (
    .region [
      ⟨some 13, none, [], .p (.mv (.t 5))⟩,
      ⟨some 14, none, [], .p (.bin .add (.t 13) (.c (.int .i64 1)))⟩,
      ⟨some 2, none, [], .p (.mv (.t 14))⟩,
      ⟨some 3, none, [], .p (.mv (.c (.int .i64 0)))⟩]) (
  .ret))))),
  15, [Sum.inl 2, Sum.inl 3]⟩

theorem c12 : cFunc Tryd.prog quiet Tryd.f12 [] = some s12 := by kernel_rfl

-- 13 calls [10, 12, 16]
def s13 : SFunc := ⟨
  .seq (
    .region [
      ⟨some 0, none, [], .p (.mv (.c (.bool false)))⟩]) (
  .seq (
    .region [
      ⟨some 9, none, [], .p (.build [.int .i64 0, .str []] [(0, 1, .c (.int .i64 120)), (1, 1, .c (.str [120]))])⟩,
      ⟨some 10, none, [], .a 4004 (.buildS 2 1 [.int .i64 0, .str []] [(0, 2, .t 9)])⟩,
      ⟨some 11, none, [], .call 4008 4 true (.f 16) [.t 10]⟩,
      ⟨some 8, none, [], .p (.mv (.t 11))⟩,
      ⟨some 12, none, [], .p (.extract (.t 8) 0)⟩,
      ⟨some 13, none, [], .p (.extract (.t 8) 1)⟩,
      ⟨some 14, none, [], .p (.extract (.t 8) 2)⟩,
      ⟨some 1, none, [], .p (.mv (.t 12))⟩,
      ⟨some 2, none, [], .p (.mv (.t 13))⟩,
      ⟨some 3, none, [], .p (.mv (.t 14))⟩]) (
  .seq (
    .region [
      ⟨some 16, none, [], .p (.mv (.t 1))⟩,
      ⟨some 17, none, [], .p (.mv (.t 2))⟩,
      ⟨some 18, none, [], .call 8008 4 true (.f 10) [.t 16, .t 17]⟩,
      ⟨some 15, none, [], .p (.mv (.t 18))⟩,
      ⟨some 19, none, [], .p (.extract (.t 15) 0)⟩,
      ⟨some 20, none, [], .p (.extract (.t 15) 1)⟩,
      ⟨some 4, none, [], .p (.mv (.t 19))⟩,
      ⟨some 5, none, [], .p (.mv (.t 20))⟩]) (
  .seq (
    .region [
      ⟨some 22, none, [], .call 12000 4 true (.f 12) [.c (.str [0, 0, 0, 0, 0, 0, 0, 1])]⟩,
      ⟨some 21, none, [], .p (.mv (.t 22))⟩,
      ⟨some 23, none, [], .p (.extract (.t 21) 0)⟩,
      ⟨some 24, none, [], .p (.extract (.t 21) 1)⟩,
      ⟨some 6, none, [], .p (.mv (.t 23))⟩,
      ⟨some 7, none, [], .p (.mv (.t 24))⟩]) (
  .seq (
    .region [
      ⟨some 25, none, [], .p (.mv (.t 3))⟩,
      ⟨some 26, none, [], .p (.bin .eql (.t 25) (.c (.int .i64 0)))⟩,
      ⟨some 27, none, [], .p (.mv (.t 26))⟩,
      ⟨some 28, some (27, true), [], .p (.mv (.t 5))⟩,
      ⟨some 29, some (27, true), [], .p (.bin .eql (.t 28) (.c (.int .i64 0)))⟩,
      ⟨some 30, none, [], .p (.pick (.t 27) (.t 29) (.c (.bool false)))⟩,
      ⟨some 31, none, [], .p (.mv (.t 30))⟩,
      ⟨some 32, some (31, true), [], .p (.mv (.t 7))⟩,
      ⟨some 33, some (31, true), [], .p (.bin .eql (.t 32) (.c (.int .i64 0)))⟩,
      ⟨some 34, none, [], .p (.pick (.t 31) (.t 33) (.c (.bool false)))⟩,
      ⟨some 35, none, [], .p (.mv (.t 34))⟩,
      ⟨some 36, some (35, true), [], .p (.mv (.t 6))⟩,
      ⟨some 37, some (35, true), [], .p (.bin .eql (.t 36) (.c (.int .i64 2)))⟩,
      ⟨some 38, none, [], .p (.pick (.t 35) (.t 37) (.c (.bool false)))⟩,
      ⟨some 39, none, [], .p (.mv (.t 38))⟩,
      ⟨some 40, some (39, true), [], .p (.mv (.t 1))⟩,
      ⟨some 41, some (39, true), [], .p (.lenV true (.t 40))⟩,
      ⟨some 42, some (39, true), [], .p (.bin .eql (.t 41) (.c (.int .i64 2)))⟩,
      ⟨some 43, none, [], .p (.pick (.t 39) (.t 42) (.c (.bool false)))⟩,
      ⟨some 44, none, [], .p (.mv (.t 43))⟩,
      ⟨some 45, some (44, true), [], .p (.mv (.t 4))⟩,
      ⟨some 46, some (44, true), [], .p (.lenV true (.t 45))⟩,
      ⟨some 47, some (44, true), [], .p (.bin .eql (.t 46) (.c (.int .i64 1)))⟩,
      ⟨some 48, none, [], .p (.pick (.t 44) (.t 47) (.c (.bool false)))⟩,
      ⟨some 49, none, [], .p (.mv (.t 48))⟩,
      ⟨some 50, some (49, true), [], .p (.mv (.t 4))⟩,
      ⟨some 51, some (49, true), [], .p (.iaddrS 2 (.t 50) (.c (.int .i64 0)))⟩,
      ⟨some 52, some (49, true), [], .r (.loadN 2 (.t 51))⟩,
      ⟨some 53, some (49, true), [], .p (.build [.int .i64 0, .str []] [(0, 1, .c (.int .i64 120)), (1, 1, .c (.str [120]))])⟩,
      ⟨some 54, some (49, true), [], .p (.eqa [0, 1] false (.t 52) (.t 53))⟩,
      ⟨some 55, none, [], .p (.pick (.t 49) (.t 54) (.c (.bool false)))⟩,
      ⟨some 0, none, [], .p (.mv (.t 55))⟩]) (
  .ret))))),
  56, [Sum.inl 0]⟩

theorem c13 : cFunc Tryd.prog quiet Tryd.f13 [] = some s13 := by kernel_rfl

-- 14 calls []
abbrev k14_0 : List Nat := [0, 1, 12, 13]
abbrev a14_0 : List Nat := [4]
abbrev e14_0 (v0 v1 v12 v13 : AV) : Env := [v0, v1, .dead, .dead, .dead, .dead, .dead, .dead, .dead, .dead, .dead, .dead, v12, v13, .dead, .dead, .dead, .dead, .dead, .dead, .dead, .dead, .dead, .dead, .dead, .dead, .dead, .dead, .dead, .dead, .dead, .dead, .dead, .dead, .dead, .dead, .dead, .dead, .dead, .dead, .dead]
abbrev x14_0 (v4 : AV) : Env := [.dead, .dead, .dead, .dead, v4, .dead, .dead, .dead, .dead, .dead, .dead, .dead, .dead, .dead, .dead, .dead, .dead, .dead, .dead, .dead, .dead, .dead, .dead, .dead, .dead, .dead, .dead, .dead, .dead, .dead, .dead, .dead, .dead, .dead, .dead, .dead, .dead, .dead, .dead, .dead, .dead]
def s14_b0 : SCode :=
  .seq (
    .region [
      ⟨some 14, none, [], .p (.bin .lss (.t 13) (.t 12))⟩]) (
  .seq (
    .cond (.t 14) (
      .skip) (
      .exit 0)) (
  .seq (
    .block 1 (
      .seq (
        .region [
          ⟨some 15, none, [], .p (.mv (.t 13))⟩,
          ⟨some 5, none, [], .p (.mv (.t 15))⟩]) (
      .seq (
        .region [
          ⟨some 16, none, [], .p (.mv (.t 0))⟩,
          ⟨some 17, none, [], .p (.mv (.t 5))⟩,
          ⟨some 18, none, [], .p (.iaddrS 2 (.t 16) (.t 17))⟩,
          ⟨some 19, none, [], .p (.faddr 0 (.t 18))⟩,
          ⟨some 20, none, [], .r (.load1 (.t 19))⟩,
          ⟨some 21, none, [], .p (.mv (.t 1))⟩,
          ⟨some 22, none, [], .p (.mv (.t 5))⟩,
          ⟨some 23, none, [], .p (.iaddrS 2 (.t 21) (.t 22))⟩,
          ⟨some 24, none, [], .p (.faddr 0 (.t 23))⟩,
          ⟨some 25, none, [], .r (.load1 (.t 24))⟩,
          ⟨some 26, none, [], .p (.bin .neq (.t 20) (.t 25))⟩,
          ⟨some 27, none, [], .p (.mv (.t 26))⟩,
          ⟨some 28, some (27, false), [], .p (.mv (.t 0))⟩,
          ⟨some 29, some (27, false), [], .p (.mv (.t 5))⟩,
          ⟨some 30, some (27, false), [], .p (.iaddrS 2 (.t 28) (.t 29))⟩,
          ⟨some 31, some (27, false), [], .p (.faddr 1 (.t 30))⟩,
          ⟨some 32, some (27, false), [], .r (.load1 (.t 31))⟩,
          ⟨some 33, some (27, false), [], .p (.mv (.t 1))⟩,
          ⟨some 34, some (27, false), [], .p (.mv (.t 5))⟩,
          ⟨some 35, some (27, false), [], .p (.iaddrS 2 (.t 33) (.t 34))⟩,
          ⟨some 36, some (27, false), [], .p (.faddr 1 (.t 35))⟩,
          ⟨some 37, some (27, false), [], .r (.load1 (.t 36))⟩,
          ⟨some 38, some (27, false), [], .p (.bin .neq (.t 32) (.t 37))⟩,
          ⟨some 39, none, [], .p (.pick (.t 27) (.c (.bool true)) (.t 38))⟩]) (
      .cond (.t 39) (
        .seq (
          .region [
            ⟨some 4, none, [], .p (.mv (.c (.bool false)))⟩]) (
        .ret)) (
        .skip))))) (
  .region [
    ⟨some 40, none, [], .p (.bin .add (.t 13) (.c (.int .i64 1)))⟩,
    ⟨some 13, none, [], .p (.mv (.t 40))⟩])))

def s14 : SFunc := ⟨
  .seq (
    .region [
      ⟨some 4, none, [], .p (.mv (.c (.bool false)))⟩]) (
  .seq (
    .seq (
      .region [
        ⟨some 6, none, [], .p (.mv (.t 0))⟩,
        ⟨some 7, none, [], .p (.lenV true (.t 6))⟩,
        ⟨some 8, none, [], .p (.mv (.t 1))⟩,
        ⟨some 9, none, [], .p (.lenV true (.t 8))⟩,
        ⟨some 10, none, [], .p (.bin .neq (.t 7) (.t 9))⟩]) (
    .cond (.t 10) (
      .seq (
        .region [
          ⟨some 4, none, [], .p (.mv (.c (.bool false)))⟩]) (
      .ret)) (
      .skip))) (
  .seq (
    .seq (
      .region [
        ⟨some 11, none, [], .p (.mv (.t 0))⟩,
        ⟨some 12, none, [], .p (.lenV true (.t 11))⟩,
        ⟨some 13, none, [], .p (.mv (.c (.int .i64 0)))⟩]) (
    .block 0 (
      .loop k14_0 a14_0 s14_b0))) (
  .seq (
    .region [
      ⟨some 4, none, [], .p (.mv (.c (.bool true)))⟩]) (
  .ret)))),
  41, [Sum.inl 4]⟩

theorem c14 : cFunc Tryd.prog quiet Tryd.f14 [[0, 1, 12, 13], [4]] = some s14 := by kernel_rfl

-- 15 calls []
abbrev k15_1 : List Nat := [4, 5, 7, 8, 9, 14, 15, 16, 31, 32]
abbrev a15_1 : List Nat := [4, 5, 7, 9, 14, 15, 16]
abbrev e15_1 (v4 v5 v7 v8 v9 v14 v15 v16 v31 v32 : AV) : Env := [.dead, .dead, .dead, .dead, v4, v5, .dead, v7, v8, v9, .dead, .dead, .dead, .dead, v14, v15, v16, .dead, .dead, .dead, .dead, .dead, .dead, .dead, .dead, .dead, .dead, .dead, .dead, .dead, .dead, v31, v32, .dead, .dead, .dead, .dead, .dead, .dead, .dead, .dead, .dead, .dead, .dead, .dead, .dead, .dead, .dead, .dead, .dead, .dead, .dead, .dead, .dead, .dead]
abbrev x15_1 (v4 v5 v7 v9 v14 v15 v16 : AV) : Env := [.dead, .dead, .dead, .dead, v4, v5, .dead, v7, .dead, v9, .dead, .dead, .dead, .dead, v14, v15, v16, .dead, .dead, .dead, .dead, .dead, .dead, .dead, .dead, .dead, .dead, .dead, .dead, .dead, .dead, .dead, .dead, .dead, .dead, .dead, .dead, .dead, .dead, .dead, .dead, .dead, .dead, .dead, .dead, .dead, .dead, .dead, .dead, .dead, .dead, .dead, .dead, .dead, .dead]
def s15_b1 : SCode :=
  .seq (
    .region [
      ⟨some 33, none, [], .p (.bin .lss (.t 32) (.t 31))⟩]) (
  .seq (
    .cond (.t 33) (
      .skip) (
      .exit 2)) (
  .seq (
    .block 3 (
      .region [
        ⟨some 34, none, [], .p (.mv (.t 9))⟩,
        ⟨some 35, none, [], .p (.mv (.t 8))⟩,
        ⟨some 36, none, [], .p (.bin .add (.t 34) (.t 35))⟩,
        ⟨some 9, none, [], .p (.mv (.t 36))⟩])) (
  .region [
    ⟨some 37, none, [], .p (.bin .add (.t 32) (.c (.int .i64 1)))⟩,
    ⟨some 32, none, [], .p (.mv (.t 37))⟩])))

abbrev k15_0 : List Nat := [4, 5, 14, 15, 16]
abbrev a15_0 : List Nat := [4, 5]
abbrev e15_0 (v4 v5 v14 v15 v16 : AV) : Env := [.dead, .dead, .dead, .dead, v4, v5, .dead, .dead, .dead, .dead, .dead, .dead, .dead, .dead, v14, v15, v16, .dead, .dead, .dead, .dead, .dead, .dead, .dead, .dead, .dead, .dead, .dead, .dead, .dead, .dead, .dead, .dead, .dead, .dead, .dead, .dead, .dead, .dead, .dead, .dead, .dead, .dead, .dead, .dead, .dead, .dead, .dead, .dead, .dead, .dead, .dead, .dead, .dead, .dead]
abbrev x15_0 (v4 v5 : AV) : Env := [.dead, .dead, .dead, .dead, v4, v5, .dead, .dead, .dead, .dead, .dead, .dead, .dead, .dead, .dead, .dead, .dead, .dead, .dead, .dead, .dead, .dead, .dead, .dead, .dead, .dead, .dead, .dead, .dead, .dead, .dead, .dead, .dead, .dead, .dead, .dead, .dead, .dead, .dead, .dead, .dead, .dead, .dead, .dead, .dead, .dead, .dead, .dead, .dead, .dead, .dead, .dead, .dead, .dead, .dead]
def s15_b0 : SCode :=
  .seq (
    .region [
      ⟨some 17, none, [], .p (.bin .lss (.t 16) (.t 15))⟩]) (
  .seq (
    .cond (.t 17) (
      .skip) (
      .exit 0)) (
  .seq (
    .block 1 (
      .seq (
        .region [
          ⟨some 18, none, [], .p (.iaddrS 3 (.t 14) (.t 16))⟩,
          ⟨some 19, none, [], .r (.loadN 3 (.t 18))⟩,
          ⟨some 7, none, [], .a 20008 (.alloc [.int .i64 0, .int .i64 0, .str []])⟩,
          ⟨none, none, [], .w (.storeN 3 (.t 7) (.t 19))⟩]) (
      .seq (
        .region [
          ⟨some 20, none, [], .p (.faddr 2 (.t 7))⟩,
          ⟨some 21, none, [], .r (.load1 (.t 20))⟩,
          ⟨some 22, none, [], .p (.faddr 2 (.t 7))⟩,
          ⟨some 23, none, [], .r (.load1 (.t 22))⟩,
          ⟨some 24, none, [], .p (.lenV false (.t 23))⟩,
          ⟨some 25, none, [], .p (.minmax false (.t 24) (.c (.int .i64 200)))⟩,
          ⟨some 26, none, [], .p (.slcStr (.t 21) none (some (.t 25)))⟩,
          ⟨some 8, none, [], .p (.mv (.t 26))⟩]) (
      .seq (
        .region [
          ⟨some 27, none, [], .p (.mv (.t 8))⟩,
          ⟨some 9, none, [], .p (.mv (.t 27))⟩]) (
      .seq (
        .seq (
          .region [
            ⟨some 28, none, [], .p (.faddr 1 (.t 7))⟩,
            ⟨some 29, none, [], .r (.load1 (.t 28))⟩,
            ⟨some 30, none, [], .p (.minmax true (.c (.int .i64 0)) (.t 29))⟩,
            ⟨some 31, none, [], .p (.bin .rem (.t 30) (.c (.int .i64 22)))⟩,
            ⟨some 32, none, [], .p (.mv (.c (.int .i64 0)))⟩]) (
        .block 2 (
          .loop k15_1 a15_1 s15_b1))) (
      .regionF [
        ⟨some 38, none, [], .p (.mv (.t 4))⟩,
        ⟨some 39, none, [], .p (.faddr 0 (.t 7))⟩,
        ⟨some 40, none, [48048], .r (.load1 (.t 39))⟩,
        ⟨some 41, none, [], .p (.mv (.t 9))⟩,
        ⟨some 42, none, [], .p (.build [.int .i64 0, .str []] [(0, 1, .t 40), (1, 1, .t 41)])⟩,
        ⟨some 43, none, [48048], .a 48020 (.buildS 2 1 [.int .i64 0, .str []] [(0, 2, .t 42)])⟩,
        ⟨some 44, none, [48048], .w (.append 48024 2 24 (.t 38) (.t 43))⟩,
        ⟨some 45, none, [], .p (.mv (.t 5))⟩,
        ⟨some 46, none, [], .p (.faddr 0 (.t 7))⟩,
        ⟨some 47, none, [48020, 48024], .r (.load1 (.t 46))⟩,
        ⟨some 48, none, [], .p (.mv (.t 9))⟩,
        ⟨some 49, none, [], .p (.build [.int .i64 0, .str []] [(0, 1, .t 47), (1, 1, .t 48)])⟩,
        ⟨some 50, none, [48020, 48024], .a 48048 (.buildS 2 1 [.int .i64 0, .str []] [(0, 2, .t 49)])⟩,
        ⟨some 51, none, [], .w (.append 48052 2 24 (.t 45) (.t 50))⟩,
        ⟨some 4, none, [], .p (.mv (.t 44))⟩,
        ⟨some 5, none, [], .p (.mv (.t 51))⟩] [(38, 46), (43, 46)])))))) (
  .region [
    ⟨some 52, none, [], .p (.bin .add (.t 16) (.c (.int .i64 1)))⟩,
    ⟨some 16, none, [], .p (.mv (.t 52))⟩])))

def s15 : SFunc := ⟨
  .seq (
    .region [
      ⟨some 2, none, [], .p (.mv (.c (.slice none 0 0)))⟩,
      ⟨some 3, none, [], .p (.mv (.c (.slice none 0 0)))⟩]) (
  .seq (
    .region [
      ⟨some 4, none, [], .p (.mv (.c (.slice none 0 0)))⟩]) (
  .seq (
    .region [
      ⟨some 5, none, [], .p (.mv (.c (.slice none 0 0)))⟩]) (
  .seq (
    .seq (
      .region [
        ⟨some 10, none, [], .p (.mv (.t 0))⟩,
        ⟨some 11, none, [], .p (.mv (.t 0))⟩,
        ⟨some 12, none, [], .p (.lenV true (.t 11))⟩,
        ⟨some 13, none, [], .p (.minmax false (.t 12) (.c (.int .i64 120)))⟩,
        ⟨some 14, none, [], .p (.slcS 3 (.t 10) none (some (.t 13)) none)⟩,
        ⟨some 15, none, [], .p (.lenV true (.t 14))⟩,
        ⟨some 16, none, [], .p (.mv (.c (.int .i64 0)))⟩]) (
    .block 0 (
      .loop k15_0 a15_0 s15_b0))) (
  .seq (
    .region [
      ⟨some 53, none, [], .p (.mv (.t 4))⟩,
      ⟨some 54, none, [], .p (.mv (.t 5))⟩,
      ⟨some 2, none, [], .p (.mv (.t 53))⟩,
      ⟨some 3, none, [], .p (.mv (.t 54))⟩]) (
  .ret))))),
  55, [Sum.inl 2, Sum.inl 3]⟩

theorem c15 : cFunc Tryd.prog quiet Tryd.f15 [[4, 5, 14, 15, 16], [4, 5], [4, 5, 7, 8, 9, 14, 15, 16, 31, 32], [4, 5, 7, 9, 14, 15, 16]] = some s15 := by kernel_rfl

-- 16 calls [29, 34, 38, 39]
abbrev k16_0 : List Nat := [5, 17, 18, 19]
abbrev a16_0 : List Nat := [2, 3, 4, 5]
abbrev e16_0 (v5 v17 v18 v19 : AV) : Env := [.dead, .dead, .dead, .dead, .dead, v5, .dead, .dead, .dead, .dead, .dead, .dead, .dead, .dead, .dead, .dead, .dead, v17, v18, v19, .dead, .dead, .dead, .dead, .dead, .dead, .dead, .dead, .dead, .dead, .dead, .dead, .dead, .dead, .dead, .dead, .dead, .dead, .dead, .dead, .dead, .dead, .dead]
abbrev x16_0 (v2 v3 v4 v5 : AV) : Env := [.dead, .dead, v2, v3, v4, v5, .dead, .dead, .dead, .dead, .dead, .dead, .dead, .dead, .dead, .dead, .dead, .dead, .dead, .dead, .dead, .dead, .dead, .dead, .dead, .dead, .dead, .dead, .dead, .dead, .dead, .dead, .dead, .dead, .dead, .dead, .dead, .dead, .dead, .dead, .dead, .dead, .dead]
def s16_b0 : SCode :=
  .seq (
    .region [
      ⟨some 20, none, [], .p (.bin .lss (.t 19) (.t 18))⟩]) (
  .seq (
    .cond (.t 20) (
      .skip) (
      .exit 0)) (
  .seq (
    .block 1 (
      .seq (
        .region [
          ⟨some 21, none, [], .p (.iaddrS 2 (.t 17) (.t 19))⟩,
          ⟨some 22, none, [], .r (.loadN 2 (.t 21))⟩,
          ⟨some 7, none, [], .a 24008 (.alloc [.int .i64 0, .str []])⟩,
          ⟨none, none, [], .w (.storeN 2 (.t 7) (.t 22))⟩]) (
      .seq (
        .seq (
          .region [
            ⟨some 23, none, [], .r (.loadN 2 (.t 7))⟩,
            ⟨some 24, none, [], .call 28004 4 true (.f 34) [.t 23]⟩,
            ⟨some 8, none, [], .p (.mv (.t 24))⟩]) (
        .seq (
          .region [
            ⟨some 25, none, [], .p (.mv (.t 8))⟩,
            ⟨some 26, none, [], .p (.bin .neq (.t 25) (.c (.int .i64 0)))⟩]) (
        .cond (.t 26) (
          .seq (
            .region [
              ⟨some 27, none, [], .p (.mv (.t 8))⟩,
              ⟨some 2, none, [], .p (.mv (.c (.slice none 0 0)))⟩,
              ⟨some 3, none, [], .p (.mv (.c (.str [])))⟩,
              ⟨some 4, none, [], .p (.mv (.t 27))⟩]) (
          .ret)) (
          .skip)))) (
      .region [
        ⟨some 28, none, [], .p (.mv (.t 5))⟩,
        ⟨some 29, none, [], .p (.faddr 0 (.t 7))⟩,
        ⟨some 30, none, [], .r (.load1 (.t 29))⟩,
        ⟨some 31, none, [], .p (.conv .u64 (.t 30))⟩,
        ⟨some 32, none, [], .call 40016 4 true (.f 38) [.t 31]⟩,
        ⟨some 33, none, [], .p (.faddr 1 (.t 7))⟩,
        ⟨some 34, none, [40016, 40017, 40018, 40019], .r (.load1 (.t 33))⟩,
        ⟨some 35, none, [], .call 40028 4 true (.f 39) [.t 34]⟩,
        ⟨some 36, none, [], .p (.bin .add (.t 32) (.t 35))⟩,
        ⟨some 37, none, [], .a 40036 (.buildS 1 1 [.str []] [(0, 1, .t 36)])⟩,
        ⟨some 38, none, [], .w (.append 40040 1 16 (.t 28) (.t 37))⟩,
        ⟨some 5, none, [], .p (.mv (.t 38))⟩])))) (
  .region [
    ⟨some 39, none, [], .p (.bin .add (.t 19) (.c (.int .i64 1)))⟩,
    ⟨some 19, none, [], .p (.mv (.t 39))⟩])))

def s16 : SFunc := ⟨
  .seq (
    .region [
      ⟨some 2, none, [], .p (.mv (.c (.slice none 0 0)))⟩,
      ⟨some 3, none, [], .p (.mv (.c (.str [])))⟩,
      ⟨some 4, none, [], .p (.mv (.c (.int .i64 0)))⟩]) (
  .seq (
    .seq (
      .region [
        ⟨some 9, none, [], .p (.mv (.t 0))⟩,
        ⟨some 10, none, [], .p (.lenV true (.t 9))⟩,
        ⟨some 11, none, [], .p (.bin .geq (.t 10) (.c (.int .i64 96)))⟩]) (
    .cond (.t 11) (
      .seq (
        .region [
          ⟨some 2, none, [], .p (.mv (.c (.slice none 0 0)))⟩,
          ⟨some 3, none, [], .p (.mv (.c (.str [])))⟩,
          ⟨some 4, none, [], .p (.mv (.c (.int .i64 10)))⟩]) (
      .ret)) (
      .skip))) (
  .seq (
    .region [
      ⟨some 12, none, [], .p (.mv (.t 0))⟩,
      ⟨some 13, none, [], .p (.lenV true (.t 12))⟩,
      ⟨some 14, none, [], .p (.conv .u64 (.t 13))⟩,
      ⟨some 15, none, [], .call 12012 4 true (.f 38) [.t 14]⟩,
      ⟨some 16, none, [], .a 12016 (.buildS 1 1 [.str []] [(0, 1, .t 15)])⟩,
      ⟨some 5, none, [], .p (.mv (.t 16))⟩]) (
  .seq (
    .seq (
      .region [
        ⟨some 17, none, [], .p (.mv (.t 0))⟩,
        ⟨some 18, none, [], .p (.lenV true (.t 17))⟩,
        ⟨some 19, none, [], .p (.mv (.c (.int .i64 0)))⟩]) (
    .block 0 (
      .loop k16_0 a16_0 s16_b0))) (
  .seq (
    .region [
      ⟨some 40, none, [], .p (.mv (.t 5))⟩,
      ⟨some 41, none, [], .p (.mv (.t 5))⟩,
      ⟨some 42, none, [], .call 48008 4 true (.f 29) [.t 41]⟩,
      ⟨some 2, none, [], .p (.mv (.t 40))⟩,
      ⟨some 3, none, [], .p (.mv (.t 42))⟩,
      ⟨some 4, none, [], .p (.mv (.c (.int .i64 0)))⟩]) (
  .ret))))),
  43, [Sum.inl 2, Sum.inl 3, Sum.inl 4]⟩

theorem c16 : cFunc Tryd.prog quiet Tryd.f16 [[5, 17, 18, 19], [2, 3, 4, 5]] = some s16 := by kernel_rfl

-- 17 calls [8, 26, 28]
abbrev k17_0 : List Nat := [0, 5, 7]
abbrev a17_0 : List Nat := [2, 3, 4, 5]
abbrev e17_0 (v0 v5 v7 : AV) : Env := [v0, .dead, .dead, .dead, .dead, v5, .dead, v7, .dead, .dead, .dead, .dead, .dead, .dead, .dead, .dead, .dead, .dead, .dead, .dead, .dead, .dead, .dead, .dead, .dead, .dead, .dead, .dead, .dead, .dead, .dead, .dead, .dead, .dead, .dead, .dead, .dead, .dead, .dead, .dead, .dead, .dead, .dead, .dead, .dead, .dead, .dead, .dead, .dead, .dead, .dead, .dead, .dead, .dead, .dead, .dead, .dead, .dead, .dead, .dead, .dead, .dead, .dead, .dead, .dead, .dead, .dead, .dead, .dead, .dead, .dead, .dead]
abbrev x17_0 (v2 v3 v4 v5 : AV) : Env := [.dead, .dead, v2, v3, v4, v5, .dead, .dead, .dead, .dead, .dead, .dead, .dead, .dead, .dead, .dead, .dead, .dead, .dead, .dead, .dead, .dead, .dead, .dead, .dead, .dead, .dead, .dead, .dead, .dead, .dead, .dead, .dead, .dead, .dead, .dead, .dead, .dead, .dead, .dead, .dead, .dead, .dead, .dead, .dead, .dead, .dead, .dead, .dead, .dead, .dead, .dead, .dead, .dead, .dead, .dead, .dead, .dead, .dead, .dead, .dead, .dead, .dead, .dead, .dead, .dead, .dead, .dead, .dead, .dead, .dead, .dead]
def s17_b0 : SCode :=
  .seq (
    .seq (
      .region [
        ⟨some 22, none, [], .p (.mv (.t 7))⟩,
        ⟨some 23, none, [], .p (.mv (.t 0))⟩,
        ⟨some 24, none, [], .p (.lenV true (.t 23))⟩,
        ⟨some 25, none, [], .p (.bin .lss (.t 22) (.t 24))⟩]) (
    .cond (.t 25) (
      .skip) (
      .exit 0))) (
  .seq (
    .block 1 (
      .seq (
        .seq (
          .region [
            ⟨some 28, none, [], .p (.mv (.t 0))⟩,
            ⟨some 29, none, [], .p (.mv (.t 7))⟩,
            ⟨some 30, none, [], .p (.iaddrS 2 (.t 28) (.t 29))⟩,
            ⟨some 31, none, [], .p (.faddr 0 (.t 30))⟩,
            ⟨some 32, none, [], .r (.load1 (.t 31))⟩,
            ⟨some 33, none, [], .p (.bin .lss (.t 32) (.c (.int .i64 100)))⟩,
            ⟨some 34, none, [], .p (.mv (.t 33))⟩,
            ⟨some 35, some (34, false), [], .p (.mv (.t 0))⟩,
            ⟨some 36, some (34, false), [], .p (.mv (.t 7))⟩,
            ⟨some 37, some (34, false), [], .p (.iaddrS 2 (.t 35) (.t 36))⟩,
            ⟨some 38, some (34, false), [], .p (.faddr 0 (.t 37))⟩,
            ⟨some 39, some (34, false), [], .r (.load1 (.t 38))⟩,
            ⟨some 40, some (34, false), [], .p (.bin .gtr (.t 39) (.c (.int .i64 139)))⟩,
            ⟨some 41, none, [], .p (.pick (.t 34) (.c (.bool true)) (.t 40))⟩]) (
        .cond (.t 41) (
          .seq (
            .region [
              ⟨some 2, none, [], .p (.mv (.c (.slice none 0 0)))⟩,
              ⟨some 3, none, [], .p (.mv (.c (.str [])))⟩,
              ⟨some 4, none, [], .p (.mv (.c (.int .i64 2)))⟩]) (
          .ret)) (
          .skip))) (
      .seq (
        .seq (
          .region [
            ⟨some 42, none, [], .p (.mv (.t 0))⟩,
            ⟨some 43, none, [], .p (.mv (.t 7))⟩,
            ⟨some 44, none, [], .p (.iaddrS 2 (.t 42) (.t 43))⟩,
            ⟨some 45, none, [], .p (.faddr 1 (.t 44))⟩,
            ⟨some 46, none, [], .r (.load1 (.t 45))⟩,
            ⟨some 47, none, [], .p (.lenV false (.t 46))⟩,
            ⟨some 48, none, [], .p (.bin .gtr (.t 47) (.c (.int .i64 2032)))⟩]) (
        .cond (.t 48) (
          .seq (
            .region [
              ⟨some 2, none, [], .p (.mv (.c (.slice none 0 0)))⟩,
              ⟨some 3, none, [], .p (.mv (.c (.str [])))⟩,
              ⟨some 4, none, [], .p (.mv (.c (.int .i64 5)))⟩]) (
          .ret)) (
          .skip))) (
      .seq (
        .region [
          ⟨some 49, none, [], .p (.mv (.t 0))⟩,
          ⟨some 50, none, [], .p (.mv (.t 7))⟩,
          ⟨some 51, none, [], .p (.iaddrS 2 (.t 49) (.t 50))⟩,
          ⟨some 52, none, [], .p (.faddr 0 (.t 51))⟩,
          ⟨some 53, none, [], .r (.load1 (.t 52))⟩,
          ⟨some 54, none, [], .p (.conv .u64 (.t 53))⟩,
          ⟨some 55, none, [], .call 52024 4 true (.f 28) [.t 54]⟩,
          ⟨some 8, none, [], .p (.mv (.t 55))⟩]) (
      .seq (
        .region [
          ⟨some 56, none, [], .p (.mv (.t 0))⟩,
          ⟨some 57, none, [], .p (.mv (.t 7))⟩,
          ⟨some 58, none, [], .p (.iaddrS 2 (.t 56) (.t 57))⟩,
          ⟨some 59, none, [], .p (.faddr 1 (.t 58))⟩,
          ⟨some 60, none, [], .r (.load1 (.t 59))⟩,
          ⟨some 61, none, [], .call 56020 4 true (.f 26) [.t 60]⟩,
          ⟨some 9, none, [], .p (.mv (.t 61))⟩]) (
      .region [
        ⟨some 62, none, [], .p (.mv (.t 5))⟩,
        ⟨some 63, none, [], .p (.mv (.t 8))⟩,
        ⟨some 64, none, [], .p (.mv (.t 9))⟩,
        ⟨some 65, none, [], .p (.bin .add (.t 63) (.t 64))⟩,
        ⟨some 66, none, [], .a 60016 (.buildS 1 1 [.str []] [(0, 1, .t 65)])⟩,
        ⟨some 67, none, [], .w (.append 60020 1 16 (.t 62) (.t 66))⟩,
        ⟨some 5, none, [], .p (.mv (.t 67))⟩])))))) (
  .region [
    ⟨some 26, none, [], .p (.mv (.t 7))⟩,
    ⟨some 27, none, [], .p (.bin .add (.t 26) (.c (.int .i64 1)))⟩,
    ⟨some 7, none, [], .p (.mv (.t 27))⟩]))

def s17 : SFunc := ⟨
  .seq (
    .region [
      ⟨some 2, none, [], .p (.mv (.c (.slice none 0 0)))⟩,
      ⟨some 3, none, [], .p (.mv (.c (.str [])))⟩,
      ⟨some 4, none, [], .p (.mv (.c (.int .i64 0)))⟩]) (
  .seq (
    .seq (
      .region [
        ⟨some 11, none, [], .p (.mv (.t 0))⟩,
        ⟨some 12, none, [], .p (.lenV true (.t 11))⟩,
        ⟨some 13, none, [], .p (.bin .gtr (.t 12) (.c (.int .i64 95)))⟩]) (
    .cond (.t 13) (
      .seq (
        .region [
          ⟨some 2, none, [], .p (.mv (.c (.slice none 0 0)))⟩,
          ⟨some 3, none, [], .p (.mv (.c (.str [])))⟩,
          ⟨some 4, none, [], .p (.mv (.c (.int .i64 10)))⟩]) (
      .ret)) (
      .skip))) (
  .seq (
    .region [
      ⟨some 5, none, [], .p (.mv (.c (.slice none 0 0)))⟩]) (
  .seq (
    .region [
      ⟨some 14, none, [], .p (.mv (.t 0))⟩,
      ⟨some 15, none, [], .p (.lenV true (.t 14))⟩,
      ⟨some 16, none, [], .p (.conv .u64 (.t 15))⟩,
      ⟨some 17, none, [], .call 16012 4 true (.f 28) [.t 16]⟩,
      ⟨some 6, none, [], .p (.mv (.t 17))⟩]) (
  .seq (
    .region [
      ⟨some 18, none, [], .p (.mv (.t 5))⟩,
      ⟨some 19, none, [], .p (.mv (.t 6))⟩,
      ⟨some 20, none, [], .a 20008 (.buildS 1 1 [.str []] [(0, 1, .t 19)])⟩,
      ⟨some 21, none, [], .w (.append 20012 1 16 (.t 18) (.t 20))⟩,
      ⟨some 5, none, [], .p (.mv (.t 21))⟩]) (
  .seq (
    .seq (
      .region [
        ⟨some 7, none, [], .p (.mv (.c (.int .i64 0)))⟩]) (
    .block 0 (
      .loop k17_0 a17_0 s17_b0))) (
  .seq (
    .region [
      ⟨some 68, none, [], .p (.mv (.t 5))⟩,
      ⟨some 69, none, [], .call 64004 4 true (.f 8) [.t 68]⟩,
      ⟨some 10, none, [], .p (.mv (.t 69))⟩]) (
  .seq (
    .region [
      ⟨some 70, none, [], .p (.mv (.t 5))⟩,
      ⟨some 71, none, [], .p (.mv (.t 10))⟩,
      ⟨some 2, none, [], .p (.mv (.t 70))⟩,
      ⟨some 3, none, [], .p (.mv (.t 71))⟩,
      ⟨some 4, none, [], .p (.mv (.c (.int .i64 0)))⟩]) (
  .ret)))))))),
  72, [Sum.inl 2, Sum.inl 3, Sum.inl 4]⟩

theorem c17 : cFunc Tryd.prog quiet Tryd.f17 [[0, 5, 7], [2, 3, 4, 5]] = some s17 := by kernel_rfl

-- 18 calls []
abbrev k18_0 : List Nat := [0, 1, 12, 13]
abbrev a18_0 : List Nat := [4]
abbrev e18_0 (v0 v1 v12 v13 : AV) : Env := [v0, v1, .dead, .dead, .dead, .dead, .dead, .dead, .dead, .dead, .dead, .dead, v12, v13, .dead, .dead, .dead, .dead, .dead, .dead, .dead, .dead, .dead, .dead, .dead, .dead]
abbrev x18_0 (v4 : AV) : Env := [.dead, .dead, .dead, .dead, v4, .dead, .dead, .dead, .dead, .dead, .dead, .dead, .dead, .dead, .dead, .dead, .dead, .dead, .dead, .dead, .dead, .dead, .dead, .dead, .dead, .dead]
def s18_b0 : SCode :=
  .seq (
    .region [
      ⟨some 14, none, [], .p (.bin .lss (.t 13) (.t 12))⟩]) (
  .seq (
    .cond (.t 14) (
      .skip) (
      .exit 0)) (
  .seq (
    .block 1 (
      .seq (
        .region [
          ⟨some 15, none, [], .p (.mv (.t 13))⟩,
          ⟨some 5, none, [], .p (.mv (.t 15))⟩]) (
      .seq (
        .region [
          ⟨some 16, none, [], .p (.mv (.t 0))⟩,
          ⟨some 17, none, [], .p (.mv (.t 5))⟩,
          ⟨some 18, none, [], .p (.iaddrS 1 (.t 16) (.t 17))⟩,
          ⟨some 19, none, [], .r (.load1 (.t 18))⟩,
          ⟨some 20, none, [], .p (.mv (.t 1))⟩,
          ⟨some 21, none, [], .p (.mv (.t 5))⟩,
          ⟨some 22, none, [], .p (.iaddrS 1 (.t 20) (.t 21))⟩,
          ⟨some 23, none, [], .r (.load1 (.t 22))⟩,
          ⟨some 24, none, [], .p (.bin .neq (.t 19) (.t 23))⟩]) (
      .cond (.t 24) (
        .seq (
          .region [
            ⟨some 4, none, [], .p (.mv (.c (.bool false)))⟩]) (
        .ret)) (
        .skip))))) (
  .region [
    ⟨some 25, none, [], .p (.bin .add (.t 13) (.c (.int .i64 1)))⟩,
    ⟨some 13, none, [], .p (.mv (.t 25))⟩])))

def s18 : SFunc := ⟨
  .seq (
    .region [
      ⟨some 4, none, [], .p (.mv (.c (.bool false)))⟩]) (
  .seq (
    .seq (
      .region [
        ⟨some 6, none, [], .p (.mv (.t 0))⟩,
        ⟨some 7, none, [], .p (.lenV true (.t 6))⟩,
        ⟨some 8, none, [], .p (.mv (.t 1))⟩,
        ⟨some 9, none, [], .p (.lenV true (.t 8))⟩,
        ⟨some 10, none, [], .p (.bin .neq (.t 7) (.t 9))⟩]) (
    .cond (.t 10) (
      .seq (
        .region [
          ⟨some 4, none, [], .p (.mv (.c (.bool false)))⟩]) (
      .ret)) (
      .skip))) (
  .seq (
    .seq (
      .region [
        ⟨some 11, none, [], .p (.mv (.t 0))⟩,
        ⟨some 12, none, [], .p (.lenV true (.t 11))⟩,
        ⟨some 13, none, [], .p (.mv (.c (.int .i64 0)))⟩]) (
    .block 0 (
      .loop k18_0 a18_0 s18_b0))) (
  .seq (
    .region [
      ⟨some 4, none, [], .p (.mv (.c (.bool true)))⟩]) (
  .ret)))),
  26, [Sum.inl 4]⟩

theorem c18 : cFunc Tryd.prog quiet Tryd.f18 [[0, 1, 12, 13], [4]] = some s18 := by kernel_rfl

-- 19 calls [16]
def s19 : SFunc := ⟨
  .seq (
    .region [
      ⟨some 0, none, [], .p (.mv (.c (.str [])))⟩]) (
  .seq (
    .region [
      ⟨some 5, none, [], .call 4000 4 true (.f 16) [.c (.slice none 0 0)]⟩,
      ⟨some 4, none, [], .p (.mv (.t 5))⟩,
      ⟨some 6, none, [], .p (.extract (.t 4) 0)⟩,
      ⟨some 7, none, [], .p (.extract (.t 4) 1)⟩,
      ⟨some 8, none, [], .p (.extract (.t 4) 2)⟩,
      ⟨some 1, none, [], .p (.mv (.t 6))⟩,
      ⟨some 2, none, [], .p (.mv (.t 7))⟩,
      ⟨some 3, none, [], .p (.mv (.t 8))⟩]) (
  .seq (
    .region [
      ⟨some 9, none, [], .p (.mv (.t 2))⟩,
      ⟨some 0, none, [], .p (.mv (.t 9))⟩]) (
  .ret))),
  10, [Sum.inl 0]⟩

theorem c19 : cFunc Tryd.prog quiet Tryd.f19 [] = some s19 := by kernel_rfl

-- 26 calls [28]
def s26 : SFunc := ⟨
  .seq (
    .region [
      ⟨some 2, none, [], .p (.mv (.c (.str [])))⟩]) (
  .seq (
    .region [
      ⟨some 4, none, [], .p (.mv (.t 0))⟩,
      ⟨some 5, none, [], .p (.lenV false (.t 4))⟩,
      ⟨some 6, none, [], .p (.conv .u64 (.t 5))⟩,
      ⟨some 7, none, [], .call 4012 4 true (.f 28) [.t 6]⟩,
      ⟨some 3, none, [], .p (.mv (.t 7))⟩]) (
  .seq (
    .region [
      ⟨some 8, none, [], .p (.mv (.t 3))⟩,
      ⟨some 9, none, [], .p (.mv (.t 0))⟩,
      ⟨some 10, none, [], .p (.bin .add (.t 8) (.t 9))⟩,
      ⟨some 2, none, [], .p (.mv (.t 10))⟩]) (
  .ret))),
  11, [Sum.inl 2]⟩

theorem c26 : cFunc Tryd.prog quiet Tryd.f26 [] = some s26 := by kernel_rfl

-- 27 calls [48]
def s27 : SFunc := ⟨
  .seq (
    .region [
      ⟨some 4, none, [], .p (.mv (.c (.str [])))⟩]) (
  .seq (
    .region [
      ⟨some 5, none, [], .p (.mv (.t 0))⟩,
      ⟨some 6, none, [], .a 4004 (.buildS 1 1 [byteAV 0] [(0, 1, .t 5)])⟩,
      ⟨some 7, none, [], .r (.toStr (.t 6))⟩,
      ⟨some 8, none, [], .p (.mv (.t 1))⟩,
      ⟨some 9, none, [], .p (.bin .add (.t 7) (.t 8))⟩,
      ⟨some 10, none, [], .call 4020 4 true (.f 48) [.t 9]⟩,
      ⟨some 4, none, [], .p (.mv (.t 10))⟩]) (
  .ret)),
  11, [Sum.inl 4]⟩

theorem c27 : cFunc Tryd.prog quiet Tryd.f27 [] = some s27 := by kernel_rfl

-- 28 calls []
abbrev k28_0 : List Nat := [0, 3, 4]
abbrev a28_0 : List Nat := [3]
abbrev e28_0 (v0 v3 v4 : AV) : Env := [v0, .dead, .dead, v3, v4, .dead, .dead, .dead, .dead, .dead, .dead, .dead, .dead, .dead, .dead, .dead, .dead, .dead]
abbrev x28_0 (v3 : AV) : Env := [.dead, .dead, .dead, v3, .dead, .dead, .dead, .dead, .dead, .dead, .dead, .dead, .dead, .dead, .dead, .dead, .dead, .dead]
def s28_b0 : SCode :=
  .seq (
    .seq (
      .region [
        ⟨some 5, none, [], .p (.mv (.t 4))⟩,
        ⟨some 6, none, [], .p (.bin .geq (.t 5) (.c (.int .i64 0)))⟩]) (
    .cond (.t 6) (
      .skip) (
      .exit 0))) (
  .seq (
    .block 1 (
      .seq (
        .region [
          ⟨some 9, none, [], .p (.mv (.t 4))⟩,
          ⟨some 10, none, [], .p (.mv (.t 0))⟩,
          ⟨some 11, none, [], .p (.bin .rem (.t 10) (.c (u64 256#64)))⟩,
          ⟨some 12, none, [], .p (.conv .u8 (.t 11))⟩,
          ⟨some 13, none, [], .p (.iaddrA 8 1 (.t 3) (.t 9))⟩,
          ⟨none, none, [], .w (.store1 (.t 13) (.t 12))⟩]) (
      .region [
        ⟨some 14, none, [], .p (.mv (.t 0))⟩,
        ⟨some 15, none, [], .p (.bin .quo (.t 14) (.c (u64 256#64)))⟩,
        ⟨some 0, none, [], .p (.mv (.t 15))⟩]))) (
  .region [
    ⟨some 7, none, [], .p (.mv (.t 4))⟩,
    ⟨some 8, none, [], .p (.bin .sub (.t 7) (.c (.int .i64 1)))⟩,
    ⟨some 4, none, [], .p (.mv (.t 8))⟩]))

def s28 : SFunc := ⟨
  .seq (
    .region [
      ⟨some 2, none, [], .p (.mv (.c (.str [])))⟩]) (
  .seq (
    .region [
      ⟨some 3, none, [], .a 4000 (.alloc [byteAV 0, byteAV 0, byteAV 0, byteAV 0, byteAV 0, byteAV 0, byteAV 0, byteAV 0])⟩]) (
  .seq (
    .seq (
      .region [
        ⟨some 4, none, [], .p (.mv (.c (.int .i64 7)))⟩]) (
    .block 0 (
      .loop k28_0 a28_0 s28_b0))) (
  .seq (
    .region [
      ⟨some 16, none, [], .p (.slcA 8 1 (.t 3) none none)⟩,
      ⟨some 17, none, [], .r (.toStr (.t 16))⟩,
      ⟨some 2, none, [], .p (.mv (.t 17))⟩]) (
  .ret)))),
  18, [Sum.inl 2]⟩

theorem c28 : cFunc Tryd.prog quiet Tryd.f28 [[0, 3, 4], [3]] = some s28 := by kernel_rfl

-- 29 calls [39, 47, 49, 50]
abbrev k29_0 : List Nat := [3, 6, 7, 8]
abbrev a29_0 : List Nat := [3]
abbrev e29_0 (v3 v6 v7 v8 : AV) : Env := [.dead, .dead, .dead, v3, .dead, .dead, v6, v7, v8, .dead, .dead, .dead, .dead, .dead, .dead, .dead, .dead, .dead]
abbrev x29_0 (v3 : AV) : Env := [.dead, .dead, .dead, v3, .dead, .dead, .dead, .dead, .dead, .dead, .dead, .dead, .dead, .dead, .dead, .dead, .dead, .dead]
def s29_b0 : SCode :=
  .seq (
    .region [
      ⟨some 9, none, [], .p (.bin .lss (.t 8) (.t 7))⟩]) (
  .seq (
    .cond (.t 9) (
      .skip) (
      .exit 0)) (
  .seq (
    .block 1 (
      .seq (
        .region [
          ⟨some 10, none, [], .p (.iaddrS 1 (.t 6) (.t 8))⟩,
          ⟨some 11, none, [], .r (.load1 (.t 10))⟩,
          ⟨some 5, none, [], .p (.mv (.t 11))⟩]) (
      .region [
        ⟨some 12, none, [], .p (.mv (.t 5))⟩,
        ⟨some 13, none, [], .call 20004 4 true (.f 39) [.t 12]⟩,
        ⟨some 14, none, [], .b 20008 (.write 49 106 5 (.f 49) [.t 3, .t 13])⟩]))) (
  .region [
    ⟨some 15, none, [], .p (.bin .add (.t 8) (.c (.int .i64 1)))⟩,
    ⟨some 8, none, [], .p (.mv (.t 15))⟩])))

def s29 : SFunc := ⟨
  .seq (
    .region [
      ⟨some 2, none, [], .p (.mv (.c (.str [])))⟩]) (
  .seq (
    .region [
      ⟨some 3, none, [], .b 4000 (.new 106)⟩]) (
  .seq (
    .seq (
      .region [
        ⟨some 6, none, [], .p (.mv (.t 0))⟩,
        ⟨some 7, none, [], .p (.lenV true (.t 6))⟩,
        ⟨some 8, none, [], .p (.mv (.c (.int .i64 0)))⟩]) (
    .block 0 (
      .loop k29_0 a29_0 s29_b0))) (
  .seq (
    .region [
      ⟨some 16, none, [], .b 28000 (.str 50 106 5 (.f 50) [.t 3])⟩,
      ⟨some 17, none, [], .call 28004 4 true (.f 47) [.t 16]⟩,
      ⟨some 2, none, [], .p (.mv (.t 17))⟩]) (
  .ret)))),
  18, [Sum.inl 2]⟩

theorem c29 : cFunc Tryd.prog quiet Tryd.f29 [[3, 6, 7, 8], [3]] = some s29 := by kernel_rfl

-- 30 calls []
def s30 : SFunc := ⟨
  .seq (
    .region [
      ⟨some 2, none, [], .p (.mv (.c (.ptr none)))⟩]) (
  .seq (
    .region [
      ⟨some 3, none, [], .p (.mv (.t 0))⟩,
      ⟨some 4, none, [], .p (.build [.str [], .int .i64 0] [(0, 1, .t 3)])⟩,
      ⟨some 5, none, [], .a 4008 (.box (.t 4))⟩,
      ⟨some 2, none, [], .p (.mv (.t 5))⟩]) (
  .ret)),
  6, [Sum.inl 2]⟩

theorem c30 : cFunc Tryd.prog quiet Tryd.f30 [] = some s30 := by kernel_rfl

-- 31 calls [40]
def s31 : SFunc := ⟨
  .seq (
    .region [
      ⟨some 4, none, [], .p (.mv (.c (.int .i64 0)))⟩]) (
  .seq (
    .region [
      ⟨some 6, none, [], .p (.mv (.t 0))⟩,
      ⟨some 7, none, [], .call 4004 4 false (.f 40) [.t 6]⟩,
      ⟨some 5, none, [], .p (.mv (.t 7))⟩]) (
  .seq (
    .seq (
      .region [
        ⟨some 8, none, [], .p (.mv (.t 0))⟩,
        ⟨some 9, none, [], .p (.eqn .ptr false (.t 8) (.c (.ptr none)))⟩,
        ⟨some 10, none, [], .p (.mv (.t 9))⟩,
        ⟨some 11, some (10, false), [], .p (.mv (.t 0))⟩,
        ⟨some 12, some (10, false), [], .p (.nilChk (.t 11))⟩,
        ⟨some 13, some (10, false), [], .p (.faddr 1 (.t 12))⟩,
        ⟨some 14, some (10, false), [], .r (.load1 (.t 13))⟩,
        ⟨some 15, some (10, false), [], .p (.bin .neq (.t 14) (.c (.int .i64 0)))⟩,
        ⟨some 16, none, [], .p (.pick (.t 10) (.c (.bool true)) (.t 15))⟩]) (
    .cond (.t 16) (
      .seq (
        .region [
          ⟨some 4, none, [], .p (.mv (.c (.int .i64 0)))⟩]) (
      .ret)) (
      .skip))) (
  .seq (
    .seq (
      .region [
        ⟨some 17, none, [], .p (.mv (.t 1))⟩,
        ⟨some 18, none, [], .p (.bin .lss (.t 17) (.c (.int .i64 1)))⟩,
        ⟨some 19, none, [], .p (.mv (.t 18))⟩,
        ⟨some 20, some (19, false), [], .p (.mv (.t 5))⟩,
        ⟨some 21, some (19, false), [], .p (.mv (.t 1))⟩,
        ⟨some 22, some (19, false), [], .p (.conv .u64 (.t 21))⟩,
        ⟨some 23, some (19, false), [], .p (.bin .geq (.t 20) (.t 22))⟩,
        ⟨some 24, none, [], .p (.pick (.t 19) (.c (.bool true)) (.t 23))⟩]) (
    .cond (.t 24) (
      .seq (
        .region [
          ⟨some 25, none, [], .p (.mv (.t 0))⟩,
          ⟨some 26, none, [], .p (.nilChk (.t 25))⟩,
          ⟨some 27, none, [], .p (.faddr 1 (.t 26))⟩,
          ⟨none, none, [], .w (.store1 (.t 27) (.c (.int .i64 4)))⟩]) (
      .seq (
        .region [
          ⟨some 4, none, [], .p (.mv (.c (.int .i64 0)))⟩]) (
      .ret))) (
      .skip))) (
  .seq (
    .region [
      ⟨some 28, none, [], .p (.mv (.t 5))⟩,
      ⟨some 29, none, [], .p (.conv .i64 (.t 28))⟩,
      ⟨some 4, none, [], .p (.mv (.t 29))⟩]) (
  .ret))))),
  30, [Sum.inl 4]⟩

theorem c31 : cFunc Tryd.prog quiet Tryd.f31 [] = some s31 := by kernel_rfl

-- 32 calls [40, 51]
def s32 : SFunc := ⟨
  .seq (
    .region [
      ⟨some 2, none, [], .p (.mv (.c (.str [])))⟩]) (
  .seq (
    .region [
      ⟨some 3, none, [], .p (.mv (.t 0))⟩,
      ⟨some 4, none, [], .p (.mv (.t 0))⟩,
      ⟨some 5, none, [], .call 4008 4 false (.f 40) [.t 4]⟩,
      ⟨some 6, none, [], .call 4012 4 false (.f 51) [.t 3, .t 5]⟩,
      ⟨some 2, none, [], .p (.mv (.t 6))⟩]) (
  .ret)),
  7, [Sum.inl 2]⟩

theorem c32 : cFunc Tryd.prog quiet Tryd.f32 [] = some s32 := by kernel_rfl

-- 33 calls []
def s33 : SFunc := ⟨
  .seq (
    .region [
      ⟨some 2, none, [], .p (.mv (.c (.int .i64 0)))⟩]) (
  .seq (
    .block 0 (
      .seq (
        .region [
          ⟨some 4, none, [], .p (.mv (.t 0))⟩,
          ⟨some 5, none, [], .p (.eqn .ptr false (.t 4) (.c (.ptr none)))⟩,
          ⟨some 3, none, [], .p (.mv (.t 5))⟩]) (
      .cond (.t 3) (
        .seq (
          .region [
            ⟨some 2, none, [], .p (.mv (.c (.int .i64 1)))⟩]) (
        .ret)) (
        .seq (
          .region [
            ⟨some 7, none, [], .p (.mv (.t 0))⟩,
            ⟨some 8, none, [], .p (.nilChk (.t 7))⟩,
            ⟨some 9, none, [], .p (.faddr 1 (.t 8))⟩,
            ⟨some 10, none, [], .r (.load1 (.t 9))⟩,
            ⟨some 11, none, [], .p (.bin .neq (.t 10) (.c (.int .i64 0)))⟩,
            ⟨some 6, none, [], .p (.mv (.t 11))⟩]) (
        .cond (.t 6) (
          .seq (
            .region [
              ⟨some 12, none, [], .p (.mv (.t 0))⟩,
              ⟨some 13, none, [], .p (.nilChk (.t 12))⟩,
              ⟨some 14, none, [], .p (.faddr 1 (.t 13))⟩,
              ⟨some 15, none, [], .r (.load1 (.t 14))⟩,
              ⟨some 2, none, [], .p (.mv (.t 15))⟩]) (
          .ret)) (
          .seq (
            .region [
              ⟨some 17, none, [], .p (.mv (.t 0))⟩,
              ⟨some 18, none, [], .p (.nilChk (.t 17))⟩,
              ⟨some 19, none, [], .p (.faddr 0 (.t 18))⟩,
              ⟨some 20, none, [], .r (.load1 (.t 19))⟩,
              ⟨some 21, none, [], .p (.bin .neq (.t 20) (.c (.str [])))⟩,
              ⟨some 16, none, [], .p (.mv (.t 21))⟩]) (
          .cond (.t 16) (
            .seq (
              .region [
                ⟨some 2, none, [], .p (.mv (.c (.int .i64 5)))⟩]) (
            .ret)) (
            .skip)))))))) (
  .seq (
    .region [
      ⟨some 2, none, [], .p (.mv (.c (.int .i64 0)))⟩]) (
  .ret))),
  22, [Sum.inl 2]⟩

theorem c33 : cFunc Tryd.prog quiet Tryd.f33 [] = some s33 := by kernel_rfl

-- 34 calls []
def s34 : SFunc := ⟨
  .seq (
    .region [
      ⟨some 1, none, [], .a 0 (.box (.t 0))⟩,
      ⟨some 2, none, [], .p (.mv (.c (.int .i64 0)))⟩]) (
  .seq (
    .block 0 (
      .seq (
        .region [
          ⟨some 4, none, [], .p (.faddr 0 (.t 1))⟩,
          ⟨some 5, none, [], .r (.load1 (.t 4))⟩,
          ⟨some 6, none, [], .p (.bin .lss (.t 5) (.c (.int .i64 100)))⟩,
          ⟨some 7, none, [], .p (.mv (.t 6))⟩,
          ⟨some 8, some (7, false), [], .p (.faddr 0 (.t 1))⟩,
          ⟨some 9, some (7, false), [], .r (.load1 (.t 8))⟩,
          ⟨some 10, some (7, false), [], .p (.bin .geq (.t 9) (.c (.int .i64 140)))⟩,
          ⟨some 11, none, [], .p (.pick (.t 7) (.c (.bool true)) (.t 10))⟩,
          ⟨some 3, none, [], .p (.mv (.t 11))⟩]) (
      .cond (.t 3) (
        .seq (
          .region [
            ⟨some 2, none, [], .p (.mv (.c (.int .i64 2)))⟩]) (
        .ret)) (
        .seq (
          .region [
            ⟨some 13, none, [], .p (.faddr 1 (.t 1))⟩,
            ⟨some 14, none, [], .r (.load1 (.t 13))⟩,
            ⟨some 15, none, [], .p (.lenV false (.t 14))⟩,
            ⟨some 16, none, [], .p (.bin .gtr (.t 15) (.c (.int .i64 2032)))⟩,
            ⟨some 12, none, [], .p (.mv (.t 16))⟩]) (
        .cond (.t 12) (
          .seq (
            .region [
              ⟨some 2, none, [], .p (.mv (.c (.int .i64 5)))⟩]) (
          .ret)) (
          .skip)))))) (
  .seq (
    .region [
      ⟨some 2, none, [], .p (.mv (.c (.int .i64 0)))⟩]) (
  .ret))),
  17, [Sum.inl 2]⟩

theorem c34 : cFunc Tryd.prog quiet Tryd.f34 [] = some s34 := by kernel_rfl

-- 35 calls []
abbrev k35_0 : List Nat := [0, 3, 4]
abbrev a35_0 : List Nat := [0, 3]
abbrev e35_0 (v0 v3 v4 : AV) : Env := [v0, .dead, .dead, v3, v4, .dead, .dead, .dead, .dead, .dead, .dead, .dead, .dead, .dead, .dead, .dead, .dead, .dead, .dead, .dead, .dead, .dead, .dead, .dead, .dead, .dead, .dead, .dead, .dead, .dead, .dead, .dead, .dead, .dead, .dead, .dead, .dead, .dead, .dead, .dead, .dead, .dead, .dead, .dead, .dead, .dead, .dead, .dead, .dead, .dead, .dead, .dead]
abbrev x35_0 (v0 v3 : AV) : Env := [v0, .dead, .dead, v3, .dead, .dead, .dead, .dead, .dead, .dead, .dead, .dead, .dead, .dead, .dead, .dead, .dead, .dead, .dead, .dead, .dead, .dead, .dead, .dead, .dead, .dead, .dead, .dead, .dead, .dead, .dead, .dead, .dead, .dead, .dead, .dead, .dead, .dead, .dead, .dead, .dead, .dead, .dead, .dead, .dead, .dead, .dead, .dead, .dead, .dead, .dead, .dead]
def s35_b0 : SCode :=
  .seq (
    .seq (
      .region [
        ⟨some 24, none, [], .p (.mv (.t 4))⟩,
        ⟨some 25, none, [], .p (.bin .lss (.t 24) (.c (.int .i64 8)))⟩]) (
    .cond (.t 25) (
      .skip) (
      .exit 0))) (
  .seq (
    .block 1 (
      .region [
        ⟨some 28, none, [], .p (.mv (.t 3))⟩,
        ⟨some 29, none, [], .p (.bin .mul (.c (u64 256#64)) (.t 28))⟩,
        ⟨some 30, none, [], .p (.mv (.t 0))⟩,
        ⟨some 31, none, [], .p (.nilChk (.t 30))⟩,
        ⟨some 32, none, [], .p (.faddr 0 (.t 31))⟩,
        ⟨some 33, none, [], .r (.load1 (.t 32))⟩,
        ⟨some 34, none, [], .p (.mv (.t 0))⟩,
        ⟨some 35, none, [], .p (.nilChk (.t 34))⟩,
        ⟨some 36, none, [], .p (.faddr 1 (.t 35))⟩,
        ⟨some 37, none, [], .r (.load1 (.t 36))⟩,
        ⟨some 38, none, [], .p (.mv (.t 4))⟩,
        ⟨some 39, none, [], .p (.bin .add (.t 37) (.t 38))⟩,
        ⟨some 40, none, [], .p (.idxStr (.t 33) (.t 39))⟩,
        ⟨some 41, none, [], .p (.conv .u64 (.t 40))⟩,
        ⟨some 42, none, [], .p (.bin .add (.t 29) (.t 41))⟩,
        ⟨some 3, none, [], .p (.mv (.t 42))⟩])) (
  .region [
    ⟨some 26, none, [], .p (.mv (.t 4))⟩,
    ⟨some 27, none, [], .p (.bin .add (.t 26) (.c (.int .i64 1)))⟩,
    ⟨some 4, none, [], .p (.mv (.t 27))⟩]))

def s35 : SFunc := ⟨
  .seq (
    .region [
      ⟨some 2, none, [], .p (.mv (.c (u64 0#64)))⟩]) (
  .seq (
    .seq (
      .region [
        ⟨some 5, none, [], .p (.mv (.t 0))⟩,
        ⟨some 6, none, [], .p (.nilChk (.t 5))⟩,
        ⟨some 7, none, [], .p (.faddr 2 (.t 6))⟩,
        ⟨some 8, none, [], .r (.load1 (.t 7))⟩,
        ⟨some 9, none, [], .p (.bin .neq (.t 8) (.c (.int .i64 0)))⟩]) (
    .cond (.t 9) (
      .seq (
        .region [
          ⟨some 2, none, [], .p (.mv (.c (u64 0#64)))⟩]) (
      .ret)) (
      .skip))) (
  .seq (
    .seq (
      .region [
        ⟨some 10, none, [], .p (.mv (.t 0))⟩,
        ⟨some 11, none, [], .p (.nilChk (.t 10))⟩,
        ⟨some 12, none, [], .p (.faddr 0 (.t 11))⟩,
        ⟨some 13, none, [], .r (.load1 (.t 12))⟩,
        ⟨some 14, none, [], .p (.lenV false (.t 13))⟩,
        ⟨some 15, none, [], .p (.mv (.t 0))⟩,
        ⟨some 16, none, [], .p (.nilChk (.t 15))⟩,
        ⟨some 17, none, [], .p (.faddr 1 (.t 16))⟩,
        ⟨some 18, none, [], .r (.load1 (.t 17))⟩,
        ⟨some 19, none, [], .p (.bin .sub (.t 14) (.t 18))⟩,
        ⟨some 20, none, [], .p (.bin .lss (.t 19) (.c (.int .i64 8)))⟩]) (
    .cond (.t 20) (
      .seq (
        .region [
          ⟨some 21, none, [], .p (.mv (.t 0))⟩,
          ⟨some 22, none, [], .p (.nilChk (.t 21))⟩,
          ⟨some 23, none, [], .p (.faddr 2 (.t 22))⟩,
          ⟨none, none, [], .w (.store1 (.t 23) (.c (.int .i64 3)))⟩]) (
      .seq (
        .region [
          ⟨some 2, none, [], .p (.mv (.c (u64 0#64)))⟩]) (
      .ret))) (
      .skip))) (
  .seq (
    .region [
      ⟨some 3, none, [], .p (.mv (.c (u64 0#64)))⟩]) (
  .seq (
    .seq (
      .region [
        ⟨some 4, none, [], .p (.mv (.c (.int .i64 0)))⟩]) (
    .block 0 (
      .loop k35_0 a35_0 s35_b0))) (
  .seq (
    .region [
      ⟨some 43, none, [], .p (.mv (.t 0))⟩,
      ⟨some 44, none, [], .p (.mv (.t 0))⟩,
      ⟨some 45, none, [], .p (.nilChk (.t 44))⟩,
      ⟨some 46, none, [], .p (.faddr 1 (.t 45))⟩,
      ⟨some 47, none, [], .r (.load1 (.t 46))⟩,
      ⟨some 48, none, [], .p (.bin .add (.t 47) (.c (.int .i64 8)))⟩,
      ⟨some 49, none, [], .p (.nilChk (.t 43))⟩,
      ⟨some 50, none, [], .p (.faddr 1 (.t 49))⟩,
      ⟨none, none, [], .w (.store1 (.t 50) (.t 48))⟩]) (
  .seq (
    .region [
      ⟨some 51, none, [], .p (.mv (.t 3))⟩,
      ⟨some 2, none, [], .p (.mv (.t 51))⟩]) (
  .ret))))))),
  52, [Sum.inl 2]⟩

theorem c35 : cFunc Tryd.prog quiet Tryd.f35 [[0, 3, 4], [0, 3]] = some s35 := by kernel_rfl

-- 36 calls [35]
def s36 : SFunc := ⟨
  .seq (
    .region [
      ⟨some 2, none, [], .p (.mv (.c (.str [])))⟩]) (
  .seq (
    .region [
      ⟨some 5, none, [], .p (.mv (.t 0))⟩,
      ⟨some 6, none, [], .call 4004 4 false (.f 35) [.t 5]⟩,
      ⟨some 3, none, [], .p (.mv (.t 6))⟩]) (
  .seq (
    .seq (
      .region [
        ⟨some 7, none, [], .p (.mv (.t 0))⟩,
        ⟨some 8, none, [], .p (.nilChk (.t 7))⟩,
        ⟨some 9, none, [], .p (.faddr 2 (.t 8))⟩,
        ⟨some 10, none, [], .r (.load1 (.t 9))⟩,
        ⟨some 11, none, [], .p (.bin .neq (.t 10) (.c (.int .i64 0)))⟩]) (
    .cond (.t 11) (
      .seq (
        .region [
          ⟨some 2, none, [], .p (.mv (.c (.str [])))⟩]) (
      .ret)) (
      .skip))) (
  .seq (
    .seq (
      .region [
        ⟨some 12, none, [], .p (.mv (.t 3))⟩,
        ⟨some 13, none, [], .p (.mv (.t 0))⟩,
        ⟨some 14, none, [], .p (.nilChk (.t 13))⟩,
        ⟨some 15, none, [], .p (.faddr 0 (.t 14))⟩,
        ⟨some 16, none, [], .r (.load1 (.t 15))⟩,
        ⟨some 17, none, [], .p (.lenV false (.t 16))⟩,
        ⟨some 18, none, [], .p (.mv (.t 0))⟩,
        ⟨some 19, none, [], .p (.nilChk (.t 18))⟩,
        ⟨some 20, none, [], .p (.faddr 1 (.t 19))⟩,
        ⟨some 21, none, [], .r (.load1 (.t 20))⟩,
        ⟨some 22, none, [], .p (.bin .sub (.t 17) (.t 21))⟩,
        ⟨some 23, none, [], .p (.conv .u64 (.t 22))⟩,
        ⟨some 24, none, [], .p (.bin .gtr (.t 12) (.t 23))⟩]) (
    .cond (.t 24) (
      .seq (
        .region [
          ⟨some 25, none, [], .p (.mv (.t 0))⟩,
          ⟨some 26, none, [], .p (.nilChk (.t 25))⟩,
          ⟨some 27, none, [], .p (.faddr 2 (.t 26))⟩,
          ⟨none, none, [], .w (.store1 (.t 27) (.c (.int .i64 3)))⟩]) (
      .seq (
        .region [
          ⟨some 2, none, [], .p (.mv (.c (.str [])))⟩]) (
      .ret))) (
      .skip))) (
  .seq (
    .region [
      ⟨some 28, none, [], .p (.mv (.t 0))⟩,
      ⟨some 29, none, [], .p (.nilChk (.t 28))⟩,
      ⟨some 30, none, [], .p (.faddr 0 (.t 29))⟩,
      ⟨some 31, none, [], .r (.load1 (.t 30))⟩,
      ⟨some 32, none, [], .p (.mv (.t 0))⟩,
      ⟨some 33, none, [], .p (.nilChk (.t 32))⟩,
      ⟨some 34, none, [], .p (.faddr 1 (.t 33))⟩,
      ⟨some 35, none, [], .r (.load1 (.t 34))⟩,
      ⟨some 36, none, [], .p (.mv (.t 0))⟩,
      ⟨some 37, none, [], .p (.nilChk (.t 36))⟩,
      ⟨some 38, none, [], .p (.faddr 1 (.t 37))⟩,
      ⟨some 39, none, [], .r (.load1 (.t 38))⟩,
      ⟨some 40, none, [], .p (.mv (.t 3))⟩,
      ⟨some 41, none, [], .p (.conv .i64 (.t 40))⟩,
      ⟨some 42, none, [], .p (.bin .add (.t 39) (.t 41))⟩,
      ⟨some 43, none, [], .p (.slcStr (.t 31) (some (.t 35)) (some (.t 42)))⟩,
      ⟨some 4, none, [], .p (.mv (.t 43))⟩]) (
  .seq (
    .region [
      ⟨some 44, none, [], .p (.mv (.t 0))⟩,
      ⟨some 45, none, [], .p (.mv (.t 0))⟩,
      ⟨some 46, none, [], .p (.nilChk (.t 45))⟩,
      ⟨some 47, none, [], .p (.faddr 1 (.t 46))⟩,
      ⟨some 48, none, [], .r (.load1 (.t 47))⟩,
      ⟨some 49, none, [], .p (.mv (.t 3))⟩,
      ⟨some 50, none, [], .p (.conv .i64 (.t 49))⟩,
      ⟨some 51, none, [], .p (.bin .add (.t 48) (.t 50))⟩,
      ⟨some 52, none, [], .p (.nilChk (.t 44))⟩,
      ⟨some 53, none, [], .p (.faddr 1 (.t 52))⟩,
      ⟨none, none, [], .w (.store1 (.t 53) (.t 51))⟩]) (
  .seq (
    .region [
      ⟨some 54, none, [], .p (.mv (.t 4))⟩,
      ⟨some 2, none, [], .p (.mv (.t 54))⟩]) (
  .ret))))))),
  55, [Sum.inl 2]⟩

theorem c36 : cFunc Tryd.prog quiet Tryd.f36 [] = some s36 := by kernel_rfl

-- 37 calls []
def s37 : SFunc := ⟨
  .seq (
    .region [
      ⟨some 2, none, [], .p (.mv (.c (.int .i64 0)))⟩]) (
  .seq (
    .seq (
      .region [
        ⟨some 3, none, [], .p (.mv (.t 0))⟩,
        ⟨some 4, none, [], .p (.nilChk (.t 3))⟩,
        ⟨some 5, none, [], .p (.faddr 2 (.t 4))⟩,
        ⟨some 6, none, [], .r (.load1 (.t 5))⟩,
        ⟨some 7, none, [], .p (.bin .neq (.t 6) (.c (.int .i64 0)))⟩]) (
    .cond (.t 7) (
      .seq (
        .region [
          ⟨some 8, none, [], .p (.mv (.t 0))⟩,
          ⟨some 9, none, [], .p (.nilChk (.t 8))⟩,
          ⟨some 10, none, [], .p (.faddr 2 (.t 9))⟩,
          ⟨some 11, none, [], .r (.load1 (.t 10))⟩,
          ⟨some 2, none, [], .p (.mv (.t 11))⟩]) (
      .ret)) (
      .skip))) (
  .seq (
    .seq (
      .region [
        ⟨some 12, none, [], .p (.mv (.t 0))⟩,
        ⟨some 13, none, [], .p (.nilChk (.t 12))⟩,
        ⟨some 14, none, [], .p (.faddr 1 (.t 13))⟩,
        ⟨some 15, none, [], .r (.load1 (.t 14))⟩,
        ⟨some 16, none, [], .p (.mv (.t 0))⟩,
        ⟨some 17, none, [], .p (.nilChk (.t 16))⟩,
        ⟨some 18, none, [], .p (.faddr 0 (.t 17))⟩,
        ⟨some 19, none, [], .r (.load1 (.t 18))⟩,
        ⟨some 20, none, [], .p (.lenV false (.t 19))⟩,
        ⟨some 21, none, [], .p (.bin .lss (.t 15) (.t 20))⟩]) (
    .cond (.t 21) (
      .seq (
        .region [
          ⟨some 2, none, [], .p (.mv (.c (.int .i64 5)))⟩]) (
      .ret)) (
      .skip))) (
  .seq (
    .region [
      ⟨some 2, none, [], .p (.mv (.c (.int .i64 0)))⟩]) (
  .ret)))),
  22, [Sum.inl 2]⟩

theorem c37 : cFunc Tryd.prog quiet Tryd.f37 [] = some s37 := by kernel_rfl

-- 38 calls [52]
def s38 : SFunc := ⟨
  .seq (
    .region [
      ⟨some 2, none, [], .p (.mv (.c (.str [])))⟩]) (
  .seq (
    .region [
      ⟨some 3, none, [], .p (.mv (.t 0))⟩,
      ⟨some 4, none, [], .p (.bin .shr (.t 3) (.c (u64 32#64)))⟩,
      ⟨some 5, none, [], .p (.conv .u32 (.t 4))⟩,
      ⟨some 6, none, [], .p (.mv (.t 0))⟩,
      ⟨some 7, none, [], .p (.conv .u32 (.t 6))⟩,
      ⟨some 8, none, [], .a 4020 (.buildS 1 2 [u32 0#32] [(0, 1, .t 5), (1, 1, .t 7)])⟩,
      ⟨some 9, none, [], .call 4024 4 true (.f 52) [.t 8]⟩,
      ⟨some 2, none, [], .p (.mv (.t 9))⟩]) (
  .ret)),
  10, [Sum.inl 2]⟩

theorem c38 : cFunc Tryd.prog quiet Tryd.f38 [] = some s38 := by kernel_rfl

-- 39 calls [38]
def s39 : SFunc := ⟨
  .seq (
    .region [
      ⟨some 2, none, [], .p (.mv (.c (.str [])))⟩]) (
  .seq (
    .region [
      ⟨some 3, none, [], .p (.mv (.t 0))⟩,
      ⟨some 4, none, [], .p (.lenV false (.t 3))⟩,
      ⟨some 5, none, [], .p (.conv .u64 (.t 4))⟩,
      ⟨some 6, none, [], .call 4012 4 true (.f 38) [.t 5]⟩,
      ⟨some 7, none, [], .p (.mv (.t 0))⟩,
      ⟨some 8, none, [], .p (.bin .add (.t 6) (.t 7))⟩,
      ⟨some 2, none, [], .p (.mv (.t 8))⟩]) (
  .ret)),
  9, [Sum.inl 2]⟩

theorem c39 : cFunc Tryd.prog quiet Tryd.f39 [] = some s39 := by kernel_rfl

-- 40 calls [51, 53]
def s40 : SFunc := ⟨
  .seq (
    .region [
      ⟨some 2, none, [], .p (.mv (.c (u64 0#64)))⟩]) (
  .seq (
    .region [
      ⟨some 7, none, [], .p (.mv (.t 0))⟩,
      ⟨some 8, none, [], .call 4004 4 false (.f 51) [.t 7, .c (u64 8#64)]⟩,
      ⟨some 9, none, [], .call 4008 4 true (.f 53) [.t 8]⟩,
      ⟨some 6, none, [], .p (.mv (.t 9))⟩,
      ⟨some 10, none, [], .p (.extract (.t 6) 0)⟩,
      ⟨some 11, none, [], .p (.extract (.t 6) 1)⟩,
      ⟨some 3, none, [], .p (.mv (.t 10))⟩,
      ⟨some 4, none, [], .p (.mv (.t 11))⟩]) (
  .seq (
    .seq (
      .region [
        ⟨some 12, none, [], .p (.mv (.t 3))⟩,
        ⟨some 13, none, [], .p (.lenV true (.t 12))⟩,
        ⟨some 14, none, [], .p (.bin .lss (.t 13) (.c (.int .i64 2)))⟩]) (
    .cond (.t 14) (
      .seq (
        .region [
          ⟨some 2, none, [], .p (.mv (.c (u64 0#64)))⟩]) (
      .ret)) (
      .skip))) (
  .seq (
    .region [
      ⟨some 15, none, [], .p (.mv (.t 3))⟩,
      ⟨some 16, none, [], .p (.arrPtr 2 (.t 15))⟩,
      ⟨some 17, none, [], .r (.loadN 2 (.t 16))⟩,
      ⟨some 5, none, [], .a 16012 (.alloc [u32 0#32, u32 0#32])⟩,
      ⟨none, none, [], .w (.storeN 2 (.t 5) (.t 17))⟩]) (
  .seq (
    .region [
      ⟨some 18, none, [], .p (.iaddrA 2 1 (.t 5) (.c (.int .i64 0)))⟩,
      ⟨some 19, none, [], .r (.load1 (.t 18))⟩,
      ⟨some 20, none, [], .p (.conv .u64 (.t 19))⟩,
      ⟨some 21, none, [], .p (.bin .shl (.t 20) (.c (u64 32#64)))⟩,
      ⟨some 22, none, [], .p (.iaddrA 2 1 (.t 5) (.c (.int .i64 1)))⟩,
      ⟨some 23, none, [], .r (.load1 (.t 22))⟩,
      ⟨some 24, none, [], .p (.conv .u64 (.t 23))⟩,
      ⟨some 25, none, [], .p (.bin .or (.t 21) (.t 24))⟩,
      ⟨some 2, none, [], .p (.mv (.t 25))⟩]) (
  .ret))))),
  26, [Sum.inl 2]⟩

theorem c40 : cFunc Tryd.prog quiet Tryd.f40 [] = some s40 := by kernel_rfl

-- 47 calls [59]
def s47 : SFunc := ⟨
  .seq (
    .region [
      ⟨some 2, none, [], .p (.mv (.c (.str [])))⟩]) (
  .seq (
    .region [
      ⟨some 3, none, [], .p (.mv (.t 0))⟩,
      ⟨some 4, none, [], .p (.bin .add (.c (.str [2])) (.t 3))⟩,
      ⟨some 5, none, [], .call 4008 4 true (.f 59) [.t 4]⟩,
      ⟨some 2, none, [], .p (.mv (.t 5))⟩]) (
  .ret)),
  6, [Sum.inl 2]⟩

theorem c47 : cFunc Tryd.prog quiet Tryd.f47 [] = some s47 := by kernel_rfl

-- 48 calls [60, 61, 62]
abbrev k48_1 : List Nat := [4, 6, 7]
abbrev a48_1 : List Nat := [6]
abbrev e48_1 (v4 v6 v7 : AV) : Env := [.dead, .dead, .dead, .dead, v4, .dead, v6, v7, .dead, .dead, .dead, .dead, .dead, .dead, .dead, .dead, .dead, .dead, .dead, .dead, .dead, .dead, .dead, .dead, .dead, .dead, .dead, .dead, .dead, .dead, .dead, .dead, .dead, .dead, .dead, .dead]
abbrev x48_1 (v6 : AV) : Env := [.dead, .dead, .dead, .dead, .dead, .dead, v6, .dead, .dead, .dead, .dead, .dead, .dead, .dead, .dead, .dead, .dead, .dead, .dead, .dead, .dead, .dead, .dead, .dead, .dead, .dead, .dead, .dead, .dead, .dead, .dead, .dead, .dead, .dead, .dead, .dead]
def s48_b1 : SCode :=
  .seq (
    .seq (
      .region [
        ⟨some 24, none, [], .p (.mv (.t 7))⟩,
        ⟨some 25, none, [], .p (.bin .lss (.t 24) (.c (.int .i64 8)))⟩]) (
    .cond (.t 25) (
      .skip) (
      .exit 2))) (
  .seq (
    .block 3 (
      .region [
        ⟨some 28, none, [], .p (.mv (.t 6))⟩,
        ⟨some 29, none, [], .p (.mv (.t 7))⟩,
        ⟨some 30, none, [], .p (.iaddrA 8 1 (.t 4) (.t 29))⟩,
        ⟨some 31, none, [], .r (.load1 (.t 30))⟩,
        ⟨some 32, none, [], .a 44016 (.buildS 1 1 [u32 0#32] [(0, 1, .t 31)])⟩,
        ⟨some 33, none, [], .w (.append 44020 1 4 (.t 28) (.t 32))⟩,
        ⟨some 6, none, [], .p (.mv (.t 33))⟩])) (
  .region [
    ⟨some 26, none, [], .p (.mv (.t 7))⟩,
    ⟨some 27, none, [], .p (.bin .add (.t 26) (.c (.int .i64 1)))⟩,
    ⟨some 7, none, [], .p (.mv (.t 27))⟩]))

abbrev k48_0 : List Nat := [3, 4, 5]
abbrev a48_0 : List Nat := [4]
abbrev e48_0 (v3 v4 v5 : AV) : Env := [.dead, .dead, .dead, v3, v4, v5, .dead, .dead, .dead, .dead, .dead, .dead, .dead, .dead, .dead, .dead, .dead, .dead, .dead, .dead, .dead, .dead, .dead, .dead, .dead, .dead, .dead, .dead, .dead, .dead, .dead, .dead, .dead, .dead, .dead, .dead]
abbrev x48_0 (v4 : AV) : Env := [.dead, .dead, .dead, .dead, v4, .dead, .dead, .dead, .dead, .dead, .dead, .dead, .dead, .dead, .dead, .dead, .dead, .dead, .dead, .dead, .dead, .dead, .dead, .dead, .dead, .dead, .dead, .dead, .dead, .dead, .dead, .dead, .dead, .dead, .dead, .dead]
def s48_b0 : SCode :=
  .seq (
    .seq (
      .region [
        ⟨some 11, none, [], .p (.mv (.t 5))⟩,
        ⟨some 12, none, [], .p (.mv (.t 3))⟩,
        ⟨some 13, none, [], .p (.lenV false (.t 12))⟩,
        ⟨some 14, none, [], .p (.bin .lss (.t 11) (.t 13))⟩]) (
    .cond (.t 14) (
      .skip) (
      .exit 0))) (
  .seq (
    .block 1 (
      .region [
        ⟨some 17, none, [], .r (.loadN 8 (.t 4))⟩,
        ⟨some 18, none, [], .p (.mv (.t 3))⟩,
        ⟨some 19, none, [], .p (.mv (.t 5))⟩,
        ⟨some 20, none, [], .p (.mv (.t 5))⟩,
        ⟨some 21, none, [], .p (.bin .add (.t 20) (.c (.int .i64 64)))⟩,
        ⟨some 22, none, [], .p (.slcStr (.t 18) (some (.t 19)) (some (.t 21)))⟩,
        ⟨some 23, none, [], .call 24024 4 true (.f 61) [.t 17, .t 22]⟩,
        ⟨none, none, [], .w (.storeN 8 (.t 4) (.t 23))⟩])) (
  .region [
    ⟨some 15, none, [], .p (.mv (.t 5))⟩,
    ⟨some 16, none, [], .p (.bin .add (.t 15) (.c (.int .i64 64)))⟩,
    ⟨some 5, none, [], .p (.mv (.t 16))⟩]))

def s48 : SFunc := ⟨
  .seq (
    .region [
      ⟨some 2, none, [], .p (.mv (.c (.str [])))⟩]) (
  .seq (
    .region [
      ⟨some 8, none, [], .p (.mv (.t 0))⟩,
      ⟨some 9, none, [], .call 4004 4 true (.f 60) [.t 8]⟩,
      ⟨some 3, none, [], .p (.mv (.t 9))⟩]) (
  .seq (
    .region [
      ⟨some 10, none, [], .r (.loadN 8 (.g 0 8))⟩,
      ⟨some 4, none, [], .a 8004 (.alloc [u32 0#32, u32 0#32, u32 0#32, u32 0#32, u32 0#32, u32 0#32, u32 0#32, u32 0#32])⟩,
      ⟨none, none, [], .w (.storeN 8 (.t 4) (.t 10))⟩]) (
  .seq (
    .seq (
      .region [
        ⟨some 5, none, [], .p (.mv (.c (.int .i64 0)))⟩]) (
    .block 0 (
      .loop k48_0 a48_0 s48_b0))) (
  .seq (
    .region [
      ⟨some 6, none, [], .p (.mv (.c (.slice none 0 0)))⟩]) (
  .seq (
    .seq (
      .region [
        ⟨some 7, none, [], .p (.mv (.c (.int .i64 0)))⟩]) (
    .block 2 (
      .loop k48_1 a48_1 s48_b1))) (
  .seq (
    .region [
      ⟨some 34, none, [], .p (.mv (.t 6))⟩,
      ⟨some 35, none, [], .call 48004 4 true (.f 62) [.t 34, .c (.bool true)]⟩,
      ⟨some 2, none, [], .p (.mv (.t 35))⟩]) (
  .ret))))))),
  36, [Sum.inl 2]⟩

theorem c48 : cFunc Tryd.prog quiet Tryd.f48 [[3, 4, 5], [4], [4, 6, 7], [6]] = some s48 := by kernel_rfl

-- 51 calls []
def s51 : SFunc := ⟨
  .seq (
    .region [
      ⟨some 4, none, [], .p (.mv (.c (.str [])))⟩]) (
  .seq (
    .seq (
      .region [
        ⟨some 6, none, [], .p (.mv (.t 0))⟩,
        ⟨some 7, none, [], .p (.eqn .ptr false (.t 6) (.c (.ptr none)))⟩]) (
    .cond (.t 7) (
      .seq (
        .region [
          ⟨some 4, none, [], .p (.mv (.c (.str [])))⟩]) (
      .ret)) (
      .skip))) (
  .seq (
    .seq (
      .region [
        ⟨some 8, none, [], .p (.mv (.t 0))⟩,
        ⟨some 9, none, [], .p (.nilChk (.t 8))⟩,
        ⟨some 10, none, [], .p (.faddr 1 (.t 9))⟩,
        ⟨some 11, none, [], .r (.load1 (.t 10))⟩,
        ⟨some 12, none, [], .p (.bin .eql (.t 11) (.c (.int .i64 0)))⟩,
        ⟨some 13, none, [], .p (.mv (.t 12))⟩,
        ⟨some 14, some (13, true), [], .p (.mv (.t 1))⟩,
        ⟨some 15, some (13, true), [], .p (.mv (.t 0))⟩,
        ⟨some 16, some (13, true), [], .p (.nilChk (.t 15))⟩,
        ⟨some 17, some (13, true), [], .p (.faddr 0 (.t 16))⟩,
        ⟨some 18, some (13, true), [], .r (.load1 (.t 17))⟩,
        ⟨some 19, some (13, true), [], .p (.lenV false (.t 18))⟩,
        ⟨some 20, some (13, true), [], .p (.conv .u64 (.t 19))⟩,
        ⟨some 21, some (13, true), [], .p (.bin .gtr (.t 14) (.t 20))⟩,
        ⟨some 22, none, [], .p (.pick (.t 13) (.t 21) (.c (.bool false)))⟩]) (
    .cond (.t 22) (
      .region [
        ⟨some 23, none, [], .p (.mv (.t 0))⟩,
        ⟨some 24, none, [], .p (.nilChk (.t 23))⟩,
        ⟨some 25, none, [], .p (.faddr 1 (.t 24))⟩,
        ⟨none, none, [], .w (.store1 (.t 25) (.c (.int .i64 3)))⟩]) (
      .skip))) (
  .seq (
    .seq (
      .region [
        ⟨some 26, none, [], .p (.mv (.t 0))⟩,
        ⟨some 27, none, [], .p (.nilChk (.t 26))⟩,
        ⟨some 28, none, [], .p (.faddr 1 (.t 27))⟩,
        ⟨some 29, none, [], .r (.load1 (.t 28))⟩,
        ⟨some 30, none, [], .p (.bin .neq (.t 29) (.c (.int .i64 0)))⟩]) (
    .cond (.t 30) (
      .seq (
        .region [
          ⟨some 4, none, [], .p (.mv (.c (.str [])))⟩]) (
      .ret)) (
      .skip))) (
  .seq (
    .region [
      ⟨some 31, none, [], .p (.mv (.t 0))⟩,
      ⟨some 32, none, [], .p (.nilChk (.t 31))⟩,
      ⟨some 33, none, [], .p (.faddr 0 (.t 32))⟩,
      ⟨some 34, none, [], .r (.load1 (.t 33))⟩,
      ⟨some 35, none, [], .p (.mv (.t 1))⟩,
      ⟨some 36, none, [], .p (.slcStr (.t 34) none (some (.t 35)))⟩,
      ⟨some 5, none, [], .p (.mv (.t 36))⟩]) (
  .seq (
    .region [
      ⟨some 37, none, [], .p (.mv (.t 0))⟩,
      ⟨some 38, none, [], .p (.mv (.t 0))⟩,
      ⟨some 39, none, [], .p (.nilChk (.t 38))⟩,
      ⟨some 40, none, [], .p (.faddr 0 (.t 39))⟩,
      ⟨some 41, none, [], .r (.load1 (.t 40))⟩,
      ⟨some 42, none, [], .p (.mv (.t 1))⟩,
      ⟨some 43, none, [], .p (.slcStr (.t 41) (some (.t 42)) none)⟩,
      ⟨some 44, none, [], .p (.nilChk (.t 37))⟩,
      ⟨some 45, none, [], .p (.faddr 0 (.t 44))⟩,
      ⟨none, none, [], .w (.store1 (.t 45) (.t 43))⟩]) (
  .seq (
    .region [
      ⟨some 46, none, [], .p (.mv (.t 5))⟩,
      ⟨some 4, none, [], .p (.mv (.t 46))⟩]) (
  .ret))))))),
  47, [Sum.inl 4]⟩

theorem c51 : cFunc Tryd.prog quiet Tryd.f51 [] = some s51 := by kernel_rfl

-- 52 calls []
abbrev k52_0 : List Nat := [3, 10, 11, 12]
abbrev a52_0 : List Nat := [3]
abbrev e52_0 (v3 v10 v11 v12 : AV) : Env := [.dead, .dead, .dead, v3, .dead, .dead, .dead, .dead, .dead, .dead, v10, v11, v12, .dead, .dead, .dead, .dead, .dead, .dead, .dead, .dead, .dead, .dead, .dead, .dead, .dead, .dead, .dead, .dead, .dead, .dead, .dead, .dead]
abbrev x52_0 (v3 : AV) : Env := [.dead, .dead, .dead, v3, .dead, .dead, .dead, .dead, .dead, .dead, .dead, .dead, .dead, .dead, .dead, .dead, .dead, .dead, .dead, .dead, .dead, .dead, .dead, .dead, .dead, .dead, .dead, .dead, .dead, .dead, .dead, .dead, .dead]
def s52_b0 : SCode :=
  .seq (
    .region [
      ⟨some 13, none, [], .p (.bin .lss (.t 12) (.t 11))⟩]) (
  .seq (
    .cond (.t 13) (
      .skip) (
      .exit 0)) (
  .seq (
    .block 1 (
      .seq (
        .region [
          ⟨some 14, none, [], .p (.iaddrS 1 (.t 10) (.t 12))⟩,
          ⟨some 15, none, [], .r (.load1 (.t 14))⟩,
          ⟨some 5, none, [], .p (.mv (.t 15))⟩]) (
      .region [
        ⟨some 16, none, [], .p (.mv (.t 3))⟩,
        ⟨some 17, none, [], .p (.mv (.t 5))⟩,
        ⟨some 18, none, [], .p (.bin .shr (.t 17) (.c (u64 24#64)))⟩,
        ⟨some 19, none, [], .p (.conv .u8 (.t 18))⟩,
        ⟨some 20, none, [], .p (.mv (.t 5))⟩,
        ⟨some 21, none, [], .p (.bin .shr (.t 20) (.c (u64 16#64)))⟩,
        ⟨some 22, none, [], .p (.conv .u8 (.t 21))⟩,
        ⟨some 23, none, [], .p (.mv (.t 5))⟩,
        ⟨some 24, none, [], .p (.bin .shr (.t 23) (.c (u64 8#64)))⟩,
        ⟨some 25, none, [], .p (.conv .u8 (.t 24))⟩,
        ⟨some 26, none, [], .p (.mv (.t 5))⟩,
        ⟨some 27, none, [], .p (.conv .u8 (.t 26))⟩,
        ⟨some 28, none, [], .a 20048 (.buildS 1 4 [byteAV 0] [(0, 1, .t 19), (1, 1, .t 22), (2, 1, .t 25), (3, 1, .t 27)])⟩,
        ⟨some 29, none, [], .w (.append 20052 1 1 (.t 16) (.t 28))⟩,
        ⟨some 3, none, [], .p (.mv (.t 29))⟩]))) (
  .region [
    ⟨some 30, none, [], .p (.bin .add (.t 12) (.c (.int .i64 1)))⟩,
    ⟨some 12, none, [], .p (.mv (.t 30))⟩])))

def s52 : SFunc := ⟨
  .seq (
    .region [
      ⟨some 2, none, [], .p (.mv (.c (.str [])))⟩]) (
  .seq (
    .region [
      ⟨some 6, none, [], .p (.mv (.t 0))⟩,
      ⟨some 7, none, [], .p (.lenV true (.t 6))⟩,
      ⟨some 8, none, [], .p (.bin .mul (.c (.int .i64 4)) (.t 7))⟩,
      ⟨some 9, none, [], .a 4012 (.mkSlice 1 1 [byteAV 0] (.c (.int .i64 0)) (.t 8))⟩,
      ⟨some 3, none, [], .p (.mv (.t 9))⟩]) (
  .seq (
    .seq (
      .region [
        ⟨some 10, none, [], .p (.mv (.t 0))⟩,
        ⟨some 11, none, [], .p (.lenV true (.t 10))⟩,
        ⟨some 12, none, [], .p (.mv (.c (.int .i64 0)))⟩]) (
    .block 0 (
      .loop k52_0 a52_0 s52_b0))) (
  .seq (
    .region [
      ⟨some 31, none, [], .p (.mv (.t 3))⟩,
      ⟨some 32, none, [], .r (.toStr (.t 31))⟩,
      ⟨some 2, none, [], .p (.mv (.t 32))⟩]) (
  .ret)))),
  33, [Sum.inl 2]⟩

theorem c52 : cFunc Tryd.prog quiet Tryd.f52 [[3, 10, 11, 12], [3]] = some s52 := by kernel_rfl

-- 53 calls [64, 65]
def s53 : SFunc := ⟨
  .seq (
    .region [
      ⟨some 2, none, [], .p (.mv (.c (.slice none 0 0)))⟩,
      ⟨some 3, none, [], .p (.mv (.c (.int .i64 0)))⟩]) (
  .seq (
    .region [
      ⟨some 4, none, [], .p (.mv (.t 0))⟩,
      ⟨some 5, none, [], .call 4004 4 true (.f 64) [.t 4, .f 65]⟩,
      ⟨some 6, none, [], .p (.extract (.t 5) 0)⟩,
      ⟨some 7, none, [], .p (.extract (.t 5) 1)⟩,
      ⟨some 2, none, [], .p (.mv (.t 6))⟩,
      ⟨some 3, none, [], .p (.mv (.t 7))⟩]) (
  .ret)),
  8, [Sum.inl 2, Sum.inl 3]⟩

theorem c53 : cFunc Tryd.prog quiet Tryd.f53 [] = some s53 := by kernel_rfl

-- 59 calls [68, 69, 70]
def s59 : SFunc := ⟨
  .seq (
    .region [
      ⟨some 2, none, [], .p (.mv (.c (.str [])))⟩]) (
  .seq (
    .region [
      ⟨some 4, none, [], .call 4000 4 true (.f 68) []⟩,
      ⟨some 3, none, [], .p (.mv (.t 4))⟩]) (
  .seq (
    .region [
      ⟨some 5, none, [], .p (.mv (.t 3))⟩,
      ⟨some 6, none, [], .p (.mv (.t 0))⟩,
      ⟨some 7, none, [], .call 8008 4 false (.f 69) [.t 5, .t 6]⟩]) (
  .seq (
    .region [
      ⟨some 8, none, [], .p (.mv (.t 3))⟩,
      ⟨some 9, none, [], .call 12004 4 true (.f 70) [.t 8]⟩,
      ⟨some 2, none, [], .p (.mv (.t 9))⟩]) (
  .ret)))),
  10, [Sum.inl 2]⟩

theorem c59 : cFunc Tryd.prog quiet Tryd.f59 [] = some s59 := by kernel_rfl

-- 60 calls [62]
abbrev k60_0 : List Nat := [0, 3]
abbrev a60_0 : List Nat := [0, 3]
abbrev e60_0 (v0 v3 : AV) : Env := [v0, .dead, .dead, v3, .dead, .dead, .dead, .dead, .dead, .dead, .dead, .dead, .dead, .dead, .dead, .dead, .dead, .dead, .dead, .dead, .dead, .dead, .dead, .dead, .dead, .dead, .dead, .dead, .dead, .dead, .dead]
abbrev x60_0 (v0 v3 : AV) : Env := [v0, .dead, .dead, v3, .dead, .dead, .dead, .dead, .dead, .dead, .dead, .dead, .dead, .dead, .dead, .dead, .dead, .dead, .dead, .dead, .dead, .dead, .dead, .dead, .dead, .dead, .dead, .dead, .dead, .dead, .dead]
def s60_b0 : SCode :=
  .seq (
    .seq (
      .region [
        ⟨some 9, none, [], .p (.mv (.t 3))⟩,
        ⟨some 10, none, [], .p (.lenV true (.t 9))⟩,
        ⟨some 11, none, [], .p (.bin .rem (.t 10) (.c (.int .i64 64)))⟩,
        ⟨some 12, none, [], .p (.bin .neq (.t 11) (.c (.int .i64 56)))⟩]) (
    .cond (.t 12) (
      .skip) (
      .exit 0))) (
  .block 1 (
    .region [
      ⟨some 13, none, [], .p (.mv (.t 3))⟩,
      ⟨some 14, none, [], .a 12004 (.buildS 1 1 [byteAV 0] [(0, 1, .c (byteAV 0))])⟩,
      ⟨some 15, none, [], .w (.append 12008 1 1 (.t 13) (.t 14))⟩,
      ⟨some 3, none, [], .p (.mv (.t 15))⟩]))

def s60 : SFunc := ⟨
  .seq (
    .region [
      ⟨some 2, none, [], .p (.mv (.c (.str [])))⟩]) (
  .seq (
    .region [
      ⟨some 6, none, [], .p (.mv (.t 0))⟩,
      ⟨some 7, none, [], .p (.bin .add (.t 6) (.c (.str [128])))⟩,
      ⟨some 8, none, [], .a 4008 (.toBytes (.t 7))⟩,
      ⟨some 3, none, [], .p (.mv (.t 8))⟩]) (
  .seq (
    .block 0 (
      .loop k60_0 a60_0 s60_b0)) (
  .seq (
    .region [
      ⟨some 16, none, [], .p (.mv (.t 0))⟩,
      ⟨some 17, none, [], .p (.lenV false (.t 16))⟩,
      ⟨some 18, none, [], .p (.bin .mul (.c (.int .i64 8)) (.t 17))⟩,
      ⟨some 4, none, [], .p (.mv (.t 18))⟩]) (
  .seq (
    .region [
      ⟨some 19, none, [], .p (.mv (.t 4))⟩,
      ⟨some 20, none, [], .p (.bin .quo (.t 19) (.c (.int .i64 4294967296)))⟩,
      ⟨some 21, none, [], .p (.conv .u32 (.t 20))⟩,
      ⟨some 22, none, [], .p (.mv (.t 4))⟩,
      ⟨some 23, none, [], .p (.bin .rem (.t 22) (.c (.int .i64 4294967296)))⟩,
      ⟨some 24, none, [], .p (.conv .u32 (.t 23))⟩,
      ⟨some 25, none, [], .a 20024 (.buildS 1 2 [u32 0#32] [(0, 1, .t 21), (1, 1, .t 24)])⟩,
      ⟨some 26, none, [], .call 20028 4 true (.f 62) [.t 25, .c (.bool true)]⟩,
      ⟨some 5, none, [], .p (.mv (.t 26))⟩]) (
  .seq (
    .region [
      ⟨some 27, none, [], .p (.mv (.t 3))⟩,
      ⟨some 28, none, [], .r (.toStr (.t 27))⟩,
      ⟨some 29, none, [], .p (.mv (.t 5))⟩,
      ⟨some 30, none, [], .p (.bin .add (.t 28) (.t 29))⟩,
      ⟨some 2, none, [], .p (.mv (.t 30))⟩]) (
  .ret)))))),
  31, [Sum.inl 2]⟩

theorem c60 : cFunc Tryd.prog quiet Tryd.f60 [[0, 3], [0, 3]] = some s60 := by kernel_rfl

-- 61 calls [71, 72, 73, 74, 75]
abbrev k61_1 : List Nat := [2, 4, 5, 10, 11, 12, 13, 14, 15, 16, 17, 18]
abbrev a61_1 : List Nat := [2, 4, 10, 11, 12, 13, 14, 15, 16, 17]
abbrev e61_1 (v2 v4 v5 v10 v11 v12 v13 v14 v15 v16 v17 v18 : AV) : Env := [.dead, .dead, v2, .dead, v4, v5, .dead, .dead, .dead, .dead, v10, v11, v12, v13, v14, v15, v16, v17, v18, .dead, .dead, .dead, .dead, .dead, .dead, .dead, .dead, .dead, .dead, .dead, .dead, .dead, .dead, .dead, .dead, .dead, .dead, .dead, .dead, .dead, .dead, .dead, .dead, .dead, .dead, .dead, .dead, .dead, .dead, .dead, .dead, .dead, .dead, .dead, .dead, .dead, .dead, .dead, .dead, .dead, .dead, .dead, .dead, .dead, .dead, .dead, .dead, .dead, .dead, .dead, .dead, .dead, .dead, .dead, .dead, .dead, .dead, .dead, .dead, .dead, .dead, .dead, .dead, .dead, .dead, .dead, .dead, .dead, .dead, .dead, .dead, .dead, .dead, .dead, .dead, .dead, .dead, .dead, .dead, .dead, .dead, .dead, .dead, .dead, .dead, .dead, .dead, .dead, .dead, .dead, .dead, .dead, .dead, .dead, .dead, .dead, .dead, .dead, .dead, .dead, .dead, .dead, .dead, .dead, .dead, .dead, .dead, .dead, .dead, .dead, .dead, .dead, .dead, .dead, .dead, .dead, .dead, .dead, .dead, .dead, .dead, .dead, .dead, .dead, .dead, .dead, .dead, .dead, .dead, .dead, .dead, .dead, .dead, .dead, .dead, .dead, .dead, .dead]
abbrev x61_1 (v2 v4 v10 v11 v12 v13 v14 v15 v16 v17 : AV) : Env := [.dead, .dead, v2, .dead, v4, .dead, .dead, .dead, .dead, .dead, v10, v11, v12, v13, v14, v15, v16, v17, .dead, .dead, .dead, .dead, .dead, .dead, .dead, .dead, .dead, .dead, .dead, .dead, .dead, .dead, .dead, .dead, .dead, .dead, .dead, .dead, .dead, .dead, .dead, .dead, .dead, .dead, .dead, .dead, .dead, .dead, .dead, .dead, .dead, .dead, .dead, .dead, .dead, .dead, .dead, .dead, .dead, .dead, .dead, .dead, .dead, .dead, .dead, .dead, .dead, .dead, .dead, .dead, .dead, .dead, .dead, .dead, .dead, .dead, .dead, .dead, .dead, .dead, .dead, .dead, .dead, .dead, .dead, .dead, .dead, .dead, .dead, .dead, .dead, .dead, .dead, .dead, .dead, .dead, .dead, .dead, .dead, .dead, .dead, .dead, .dead, .dead, .dead, .dead, .dead, .dead, .dead, .dead, .dead, .dead, .dead, .dead, .dead, .dead, .dead, .dead, .dead, .dead, .dead, .dead, .dead, .dead, .dead, .dead, .dead, .dead, .dead, .dead, .dead, .dead, .dead, .dead, .dead, .dead, .dead, .dead, .dead, .dead, .dead, .dead, .dead, .dead, .dead, .dead, .dead, .dead, .dead, .dead, .dead, .dead, .dead, .dead, .dead, .dead, .dead, .dead]
def s61_b1 : SCode :=
  .seq (
    .seq (
      .region [
        ⟨some 80, none, [], .p (.mv (.t 18))⟩,
        ⟨some 81, none, [], .p (.bin .lss (.t 80) (.c (.int .i64 64)))⟩]) (
    .cond (.t 81) (
      .skip) (
      .exit 2))) (
  .seq (
    .block 3 (
      .seq (
        .region [
          ⟨some 84, none, [], .p (.mv (.t 14))⟩,
          ⟨some 85, none, [], .call 76004 4 true (.f 73) [.t 84, .c (.int .i64 6), .c (.int .i64 11), .c (.int .i64 25)]⟩,
          ⟨some 19, none, [], .p (.mv (.t 85))⟩]) (
      .seq (
        .region [
          ⟨some 86, none, [], .p (.mv (.t 10))⟩,
          ⟨some 87, none, [], .call 80004 4 true (.f 73) [.t 86, .c (.int .i64 2), .c (.int .i64 13), .c (.int .i64 22)]⟩,
          ⟨some 20, none, [], .p (.mv (.t 87))⟩]) (
      .seq (
        .region [
          ⟨some 88, none, [], .p (.mv (.t 14))⟩,
          ⟨some 89, none, [], .p (.mv (.t 15))⟩,
          ⟨some 90, none, [], .p (.mv (.t 16))⟩,
          ⟨some 91, none, [], .call 84012 4 true (.f 74) [.t 88, .t 89, .t 90]⟩,
          ⟨some 21, none, [], .p (.mv (.t 91))⟩]) (
      .seq (
        .region [
          ⟨some 92, none, [], .p (.mv (.t 10))⟩,
          ⟨some 93, none, [], .p (.mv (.t 11))⟩,
          ⟨some 94, none, [], .p (.mv (.t 12))⟩,
          ⟨some 95, none, [], .call 88012 4 true (.f 75) [.t 92, .t 93, .t 94]⟩,
          ⟨some 22, none, [], .p (.mv (.t 95))⟩]) (
      .seq (
        .region [
          ⟨some 96, none, [], .p (.mv (.t 17))⟩,
          ⟨some 97, none, [], .p (.mv (.t 19))⟩,
          ⟨some 98, none, [], .p (.bin .add (.t 96) (.t 97))⟩,
          ⟨some 99, none, [], .p (.mv (.t 21))⟩,
          ⟨some 100, none, [], .p (.bin .add (.t 98) (.t 99))⟩,
          ⟨some 101, none, [], .p (.mv (.t 18))⟩,
          ⟨some 102, none, [], .p (.iaddrA 64 1 (.g 1 64) (.t 101))⟩,
          ⟨some 103, none, [], .r (.load1 (.t 102))⟩,
          ⟨some 104, none, [], .p (.bin .add (.t 100) (.t 103))⟩,
          ⟨some 105, none, [], .p (.mv (.t 5))⟩,
          ⟨some 106, none, [], .p (.mv (.t 18))⟩,
          ⟨some 107, none, [], .p (.iaddrS 1 (.t 105) (.t 106))⟩,
          ⟨some 108, none, [], .r (.load1 (.t 107))⟩,
          ⟨some 109, none, [], .p (.bin .add (.t 104) (.t 108))⟩,
          ⟨some 23, none, [], .p (.mv (.t 109))⟩]) (
      .seq (
        .region [
          ⟨some 110, none, [], .p (.mv (.t 20))⟩,
          ⟨some 111, none, [], .p (.mv (.t 22))⟩,
          ⟨some 112, none, [], .p (.bin .add (.t 110) (.t 111))⟩,
          ⟨some 24, none, [], .p (.mv (.t 112))⟩]) (
      .seq (
        .region [
          ⟨some 113, none, [], .p (.mv (.t 16))⟩,
          ⟨some 17, none, [], .p (.mv (.t 113))⟩]) (
      .seq (
        .region [
          ⟨some 114, none, [], .p (.mv (.t 15))⟩,
          ⟨some 16, none, [], .p (.mv (.t 114))⟩]) (
      .seq (
        .region [
          ⟨some 115, none, [], .p (.mv (.t 14))⟩,
          ⟨some 15, none, [], .p (.mv (.t 115))⟩]) (
      .seq (
        .region [
          ⟨some 116, none, [], .p (.mv (.t 13))⟩,
          ⟨some 117, none, [], .p (.mv (.t 23))⟩,
          ⟨some 118, none, [], .p (.bin .add (.t 116) (.t 117))⟩,
          ⟨some 14, none, [], .p (.mv (.t 118))⟩]) (
      .seq (
        .region [
          ⟨some 119, none, [], .p (.mv (.t 12))⟩,
          ⟨some 13, none, [], .p (.mv (.t 119))⟩]) (
      .seq (
        .region [
          ⟨some 120, none, [], .p (.mv (.t 11))⟩,
          ⟨some 12, none, [], .p (.mv (.t 120))⟩]) (
      .seq (
        .region [
          ⟨some 121, none, [], .p (.mv (.t 10))⟩,
          ⟨some 11, none, [], .p (.mv (.t 121))⟩]) (
      .region [
        ⟨some 122, none, [], .p (.mv (.t 23))⟩,
        ⟨some 123, none, [], .p (.mv (.t 24))⟩,
        ⟨some 124, none, [], .p (.bin .add (.t 122) (.t 123))⟩,
        ⟨some 10, none, [], .p (.mv (.t 124))⟩]))))))))))))))) (
  .region [
    ⟨some 82, none, [], .p (.mv (.t 18))⟩,
    ⟨some 83, none, [], .p (.bin .add (.t 82) (.c (.int .i64 1)))⟩,
    ⟨some 18, none, [], .p (.mv (.t 83))⟩]))

abbrev k61_0 : List Nat := [2, 4, 5, 7]
abbrev a61_0 : List Nat := [2, 4, 5]
abbrev e61_0 (v2 v4 v5 v7 : AV) : Env := [.dead, .dead, v2, .dead, v4, v5, .dead, v7, .dead, .dead, .dead, .dead, .dead, .dead, .dead, .dead, .dead, .dead, .dead, .dead, .dead, .dead, .dead, .dead, .dead, .dead, .dead, .dead, .dead, .dead, .dead, .dead, .dead, .dead, .dead, .dead, .dead, .dead, .dead, .dead, .dead, .dead, .dead, .dead, .dead, .dead, .dead, .dead, .dead, .dead, .dead, .dead, .dead, .dead, .dead, .dead, .dead, .dead, .dead, .dead, .dead, .dead, .dead, .dead, .dead, .dead, .dead, .dead, .dead, .dead, .dead, .dead, .dead, .dead, .dead, .dead, .dead, .dead, .dead, .dead, .dead, .dead, .dead, .dead, .dead, .dead, .dead, .dead, .dead, .dead, .dead, .dead, .dead, .dead, .dead, .dead, .dead, .dead, .dead, .dead, .dead, .dead, .dead, .dead, .dead, .dead, .dead, .dead, .dead, .dead, .dead, .dead, .dead, .dead, .dead, .dead, .dead, .dead, .dead, .dead, .dead, .dead, .dead, .dead, .dead, .dead, .dead, .dead, .dead, .dead, .dead, .dead, .dead, .dead, .dead, .dead, .dead, .dead, .dead, .dead, .dead, .dead, .dead, .dead, .dead, .dead, .dead, .dead, .dead, .dead, .dead, .dead, .dead, .dead, .dead, .dead, .dead, .dead]
abbrev x61_0 (v2 v4 v5 : AV) : Env := [.dead, .dead, v2, .dead, v4, v5, .dead, .dead, .dead, .dead, .dead, .dead, .dead, .dead, .dead, .dead, .dead, .dead, .dead, .dead, .dead, .dead, .dead, .dead, .dead, .dead, .dead, .dead, .dead, .dead, .dead, .dead, .dead, .dead, .dead, .dead, .dead, .dead, .dead, .dead, .dead, .dead, .dead, .dead, .dead, .dead, .dead, .dead, .dead, .dead, .dead, .dead, .dead, .dead, .dead, .dead, .dead, .dead, .dead, .dead, .dead, .dead, .dead, .dead, .dead, .dead, .dead, .dead, .dead, .dead, .dead, .dead, .dead, .dead, .dead, .dead, .dead, .dead, .dead, .dead, .dead, .dead, .dead, .dead, .dead, .dead, .dead, .dead, .dead, .dead, .dead, .dead, .dead, .dead, .dead, .dead, .dead, .dead, .dead, .dead, .dead, .dead, .dead, .dead, .dead, .dead, .dead, .dead, .dead, .dead, .dead, .dead, .dead, .dead, .dead, .dead, .dead, .dead, .dead, .dead, .dead, .dead, .dead, .dead, .dead, .dead, .dead, .dead, .dead, .dead, .dead, .dead, .dead, .dead, .dead, .dead, .dead, .dead, .dead, .dead, .dead, .dead, .dead, .dead, .dead, .dead, .dead, .dead, .dead, .dead, .dead, .dead, .dead, .dead, .dead, .dead, .dead, .dead]
def s61_b0 : SCode :=
  .seq (
    .seq (
      .region [
        ⟨some 30, none, [], .p (.mv (.t 7))⟩,
        ⟨some 31, none, [], .p (.bin .lss (.t 30) (.c (.int .i64 64)))⟩]) (
    .cond (.t 31) (
      .skip) (
      .exit 0))) (
  .seq (
    .block 1 (
      .seq (
        .region [
          ⟨some 34, none, [], .p (.mv (.t 5))⟩,
          ⟨some 35, none, [], .p (.mv (.t 7))⟩,
          ⟨some 36, none, [], .p (.bin .sub (.t 35) (.c (.int .i64 15)))⟩,
          ⟨some 37, none, [], .p (.iaddrS 1 (.t 34) (.t 36))⟩,
          ⟨some 38, none, [], .r (.load1 (.t 37))⟩,
          ⟨some 39, none, [], .call 20020 4 true (.f 72) [.t 38, .c (.int .i64 7), .c (.int .i64 18), .c (u32 8#32)]⟩,
          ⟨some 8, none, [], .p (.mv (.t 39))⟩]) (
      .seq (
        .region [
          ⟨some 40, none, [], .p (.mv (.t 5))⟩,
          ⟨some 41, none, [], .p (.mv (.t 7))⟩,
          ⟨some 42, none, [], .p (.bin .sub (.t 41) (.c (.int .i64 2)))⟩,
          ⟨some 43, none, [], .p (.iaddrS 1 (.t 40) (.t 42))⟩,
          ⟨some 44, none, [], .r (.load1 (.t 43))⟩,
          ⟨some 45, none, [], .call 24020 4 true (.f 72) [.t 44, .c (.int .i64 17), .c (.int .i64 19), .c (u32 1024#32)]⟩,
          ⟨some 9, none, [], .p (.mv (.t 45))⟩]) (
      .region [
        ⟨some 46, none, [], .p (.mv (.t 5))⟩,
        ⟨some 47, none, [], .p (.mv (.t 9))⟩,
        ⟨some 48, none, [], .p (.mv (.t 5))⟩,
        ⟨some 49, none, [], .p (.mv (.t 7))⟩,
        ⟨some 50, none, [], .p (.bin .sub (.t 49) (.c (.int .i64 7)))⟩,
        ⟨some 51, none, [], .p (.iaddrS 1 (.t 48) (.t 50))⟩,
        ⟨some 52, none, [], .r (.load1 (.t 51))⟩,
        ⟨some 53, none, [], .p (.bin .add (.t 47) (.t 52))⟩,
        ⟨some 54, none, [], .p (.mv (.t 8))⟩,
        ⟨some 55, none, [], .p (.bin .add (.t 53) (.t 54))⟩,
        ⟨some 56, none, [], .p (.mv (.t 5))⟩,
        ⟨some 57, none, [], .p (.mv (.t 7))⟩,
        ⟨some 58, none, [], .p (.bin .sub (.t 57) (.c (.int .i64 16)))⟩,
        ⟨some 59, none, [], .p (.iaddrS 1 (.t 56) (.t 58))⟩,
        ⟨some 60, none, [], .r (.load1 (.t 59))⟩,
        ⟨some 61, none, [], .p (.bin .add (.t 55) (.t 60))⟩,
        ⟨some 62, none, [], .a 28064 (.buildS 1 1 [u32 0#32] [(0, 1, .t 61)])⟩,
        ⟨some 63, none, [], .w (.append 28068 1 4 (.t 46) (.t 62))⟩,
        ⟨some 5, none, [], .p (.mv (.t 63))⟩])))) (
  .region [
    ⟨some 32, none, [], .p (.mv (.t 7))⟩,
    ⟨some 33, none, [], .p (.bin .add (.t 32) (.c (.int .i64 1)))⟩,
    ⟨some 7, none, [], .p (.mv (.t 33))⟩]))

def s61 : SFunc := ⟨
  .seq (
    .region [
      ⟨some 2, none, [], .a 0 (.box (.t 0))⟩,
      ⟨some 4, none, [], .a 4 (.alloc [u32 0#32, u32 0#32, u32 0#32, u32 0#32, u32 0#32, u32 0#32, u32 0#32, u32 0#32])⟩]) (
  .seq (
    .region [
      ⟨some 26, none, [], .p (.mv (.t 1))⟩,
      ⟨some 27, none, [], .call 4004 4 true (.f 71) [.t 26, .c (.bool true)]⟩,
      ⟨some 25, none, [], .p (.mv (.t 27))⟩,
      ⟨some 28, none, [], .p (.extract (.t 25) 0)⟩,
      ⟨some 29, none, [], .p (.extract (.t 25) 1)⟩,
      ⟨some 5, none, [], .p (.mv (.t 28))⟩,
      ⟨some 6, none, [], .p (.mv (.t 29))⟩]) (
  .seq (
    .seq (
      .region [
        ⟨some 7, none, [], .p (.mv (.c (.int .i64 16)))⟩]) (
    .block 0 (
      .loop k61_0 a61_0 s61_b0))) (
  .seq (
    .region [
      ⟨some 64, none, [], .p (.iaddrA 8 1 (.t 2) (.c (.int .i64 0)))⟩,
      ⟨some 65, none, [], .r (.load1 (.t 64))⟩,
      ⟨some 10, none, [], .p (.mv (.t 65))⟩]) (
  .seq (
    .region [
      ⟨some 66, none, [], .p (.iaddrA 8 1 (.t 2) (.c (.int .i64 1)))⟩,
      ⟨some 67, none, [], .r (.load1 (.t 66))⟩,
      ⟨some 11, none, [], .p (.mv (.t 67))⟩]) (
  .seq (
    .region [
      ⟨some 68, none, [], .p (.iaddrA 8 1 (.t 2) (.c (.int .i64 2)))⟩,
      ⟨some 69, none, [], .r (.load1 (.t 68))⟩,
      ⟨some 12, none, [], .p (.mv (.t 69))⟩]) (
  .seq (
    .region [
      ⟨some 70, none, [], .p (.iaddrA 8 1 (.t 2) (.c (.int .i64 3)))⟩,
      ⟨some 71, none, [], .r (.load1 (.t 70))⟩,
      ⟨some 13, none, [], .p (.mv (.t 71))⟩]) (
  .seq (
    .region [
      ⟨some 72, none, [], .p (.iaddrA 8 1 (.t 2) (.c (.int .i64 4)))⟩,
      ⟨some 73, none, [], .r (.load1 (.t 72))⟩,
      ⟨some 14, none, [], .p (.mv (.t 73))⟩]) (
  .seq (
    .region [
      ⟨some 74, none, [], .p (.iaddrA 8 1 (.t 2) (.c (.int .i64 5)))⟩,
      ⟨some 75, none, [], .r (.load1 (.t 74))⟩,
      ⟨some 15, none, [], .p (.mv (.t 75))⟩]) (
  .seq (
    .region [
      ⟨some 76, none, [], .p (.iaddrA 8 1 (.t 2) (.c (.int .i64 6)))⟩,
      ⟨some 77, none, [], .r (.load1 (.t 76))⟩,
      ⟨some 16, none, [], .p (.mv (.t 77))⟩]) (
  .seq (
    .region [
      ⟨some 78, none, [], .p (.iaddrA 8 1 (.t 2) (.c (.int .i64 7)))⟩,
      ⟨some 79, none, [], .r (.load1 (.t 78))⟩,
      ⟨some 17, none, [], .p (.mv (.t 79))⟩]) (
  .seq (
    .seq (
      .region [
        ⟨some 18, none, [], .p (.mv (.c (.int .i64 0)))⟩]) (
    .block 2 (
      .loop k61_1 a61_1 s61_b1))) (
  .seq (
    .region [
      ⟨some 125, none, [], .p (.iaddrA 8 1 (.t 2) (.c (.int .i64 0)))⟩,
      ⟨some 126, none, [], .r (.load1 (.t 125))⟩,
      ⟨some 127, none, [], .p (.mv (.t 10))⟩,
      ⟨some 128, none, [], .p (.bin .add (.t 126) (.t 127))⟩,
      ⟨some 129, none, [], .p (.iaddrA 8 1 (.t 2) (.c (.int .i64 1)))⟩,
      ⟨some 130, none, [], .r (.load1 (.t 129))⟩,
      ⟨some 131, none, [], .p (.mv (.t 11))⟩,
      ⟨some 132, none, [], .p (.bin .add (.t 130) (.t 131))⟩,
      ⟨some 133, none, [], .p (.iaddrA 8 1 (.t 2) (.c (.int .i64 2)))⟩,
      ⟨some 134, none, [], .r (.load1 (.t 133))⟩,
      ⟨some 135, none, [], .p (.mv (.t 12))⟩,
      ⟨some 136, none, [], .p (.bin .add (.t 134) (.t 135))⟩,
      ⟨some 137, none, [], .p (.iaddrA 8 1 (.t 2) (.c (.int .i64 3)))⟩,
      ⟨some 138, none, [], .r (.load1 (.t 137))⟩,
      ⟨some 139, none, [], .p (.mv (.t 13))⟩,
      ⟨some 140, none, [], .p (.bin .add (.t 138) (.t 139))⟩,
      ⟨some 141, none, [], .p (.iaddrA 8 1 (.t 2) (.c (.int .i64 4)))⟩,
      ⟨some 142, none, [], .r (.load1 (.t 141))⟩,
      ⟨some 143, none, [], .p (.mv (.t 14))⟩,
      ⟨some 144, none, [], .p (.bin .add (.t 142) (.t 143))⟩,
      ⟨some 145, none, [], .p (.iaddrA 8 1 (.t 2) (.c (.int .i64 5)))⟩,
      ⟨some 146, none, [], .r (.load1 (.t 145))⟩,
      ⟨some 147, none, [], .p (.mv (.t 15))⟩,
      ⟨some 148, none, [], .p (.bin .add (.t 146) (.t 147))⟩,
      ⟨some 149, none, [], .p (.iaddrA 8 1 (.t 2) (.c (.int .i64 6)))⟩,
      ⟨some 150, none, [], .r (.load1 (.t 149))⟩,
      ⟨some 151, none, [], .p (.mv (.t 16))⟩,
      ⟨some 152, none, [], .p (.bin .add (.t 150) (.t 151))⟩,
      ⟨some 153, none, [], .p (.iaddrA 8 1 (.t 2) (.c (.int .i64 7)))⟩,
      ⟨some 154, none, [], .r (.load1 (.t 153))⟩,
      ⟨some 155, none, [], .p (.mv (.t 17))⟩,
      ⟨some 156, none, [], .p (.bin .add (.t 154) (.t 155))⟩,
      ⟨some 157, none, [], .p (.build [u32 0#32, u32 0#32, u32 0#32, u32 0#32, u32 0#32, u32 0#32, u32 0#32, u32 0#32] [(0, 1, .t 128), (1, 1, .t 132), (2, 1, .t 136), (3, 1, .t 140), (4, 1, .t 144), (5, 1, .t 148), (6, 1, .t 152), (7, 1, .t 156)])⟩,
      ⟨none, none, [], .w (.storeN 8 (.t 4) (.t 157))⟩]) (
  .ret))))))))))))),
  158, [Sum.inr (4, 8, true)]⟩

theorem c61 : cFunc Tryd.prog quiet Tryd.f61 [[2, 4, 5, 7], [2, 4, 5], [2, 4, 5, 10, 11, 12, 13, 14, 15, 16, 17, 18], [2, 4, 10, 11, 12, 13, 14, 15, 16, 17]] = some s61 := by kernel_rfl

-- 62 calls []
abbrev k62_2 : List Nat := [0, 1, 5, 6, 7, 11]
abbrev a62_2 : List Nat := [0, 1, 5, 6]
abbrev e62_2 (v0 v1 v5 v6 v7 v11 : AV) : Env := [v0, v1, .dead, .dead, .dead, v5, v6, v7, .dead, .dead, .dead, v11, .dead, .dead, .dead, .dead, .dead, .dead, .dead, .dead, .dead, .dead, .dead, .dead, .dead, .dead, .dead, .dead, .dead, .dead, .dead, .dead, .dead, .dead, .dead, .dead, .dead, .dead, .dead, .dead, .dead, .dead, .dead, .dead, .dead, .dead, .dead, .dead, .dead]
abbrev x62_2 (v0 v1 v5 v6 : AV) : Env := [v0, v1, .dead, .dead, .dead, v5, v6, .dead, .dead, .dead, .dead, .dead, .dead, .dead, .dead, .dead, .dead, .dead, .dead, .dead, .dead, .dead, .dead, .dead, .dead, .dead, .dead, .dead, .dead, .dead, .dead, .dead, .dead, .dead, .dead, .dead, .dead, .dead, .dead, .dead, .dead, .dead, .dead, .dead, .dead, .dead, .dead, .dead, .dead]
def s62_b2 : SCode :=
  .seq (
    .seq (
      .region [
        ⟨some 37, none, [], .p (.mv (.t 11))⟩,
        ⟨some 38, none, [], .p (.bin .lss (.t 37) (.c (.int .i64 4)))⟩]) (
    .cond (.t 38) (
      .skip) (
      .exit 4))) (
  .seq (
    .block 5 (
      .region [
        ⟨some 41, none, [], .p (.mv (.t 5))⟩,
        ⟨some 42, none, [], .p (.mv (.t 11))⟩,
        ⟨some 43, none, [], .p (.iaddrA 4 1 (.t 7) (.t 42))⟩,
        ⟨some 44, none, [], .r (.load1 (.t 43))⟩,
        ⟨some 45, none, [], .a 72016 (.buildS 1 1 [byteAV 0] [(0, 1, .t 44)])⟩,
        ⟨some 46, none, [], .w (.append 72020 1 1 (.t 41) (.t 45))⟩,
        ⟨some 5, none, [], .p (.mv (.t 46))⟩])) (
  .region [
    ⟨some 39, none, [], .p (.mv (.t 11))⟩,
    ⟨some 40, none, [], .p (.bin .add (.t 39) (.c (.int .i64 1)))⟩,
    ⟨some 11, none, [], .p (.mv (.t 40))⟩]))

abbrev k62_1 : List Nat := [0, 1, 5, 6, 7, 8, 9]
abbrev a62_1 : List Nat := [0, 1, 5, 6, 7]
abbrev e62_1 (v0 v1 v5 v6 v7 v8 v9 : AV) : Env := [v0, v1, .dead, .dead, .dead, v5, v6, v7, v8, v9, .dead, .dead, .dead, .dead, .dead, .dead, .dead, .dead, .dead, .dead, .dead, .dead, .dead, .dead, .dead, .dead, .dead, .dead, .dead, .dead, .dead, .dead, .dead, .dead, .dead, .dead, .dead, .dead, .dead, .dead, .dead, .dead, .dead, .dead, .dead, .dead, .dead, .dead, .dead]
abbrev x62_1 (v0 v1 v5 v6 v7 : AV) : Env := [v0, v1, .dead, .dead, .dead, v5, v6, v7, .dead, .dead, .dead, .dead, .dead, .dead, .dead, .dead, .dead, .dead, .dead, .dead, .dead, .dead, .dead, .dead, .dead, .dead, .dead, .dead, .dead, .dead, .dead, .dead, .dead, .dead, .dead, .dead, .dead, .dead, .dead, .dead, .dead, .dead, .dead, .dead, .dead, .dead, .dead, .dead, .dead]
def s62_b1 : SCode :=
  .seq (
    .seq (
      .region [
        ⟨some 22, none, [], .p (.mv (.t 9))⟩,
        ⟨some 23, none, [], .p (.bin .lss (.t 22) (.c (.int .i64 4)))⟩]) (
    .cond (.t 23) (
      .skip) (
      .exit 2))) (
  .seq (
    .block 3 (
      .seq (
        .region [
          ⟨some 26, none, [], .p (.mv (.t 9))⟩,
          ⟨some 10, none, [], .p (.mv (.t 26))⟩]) (
      .seq (
        .seq (
          .region [
            ⟨some 27, none, [], .p (.mv (.t 1))⟩]) (
        .cond (.t 27) (
          .region [
            ⟨some 28, none, [], .p (.mv (.t 9))⟩,
            ⟨some 29, none, [], .p (.bin .sub (.c (.int .i64 3)) (.t 28))⟩,
            ⟨some 10, none, [], .p (.mv (.t 29))⟩]) (
          .skip))) (
      .seq (
        .region [
          ⟨some 30, none, [], .p (.mv (.t 10))⟩,
          ⟨some 31, none, [], .p (.mv (.t 8))⟩,
          ⟨some 32, none, [], .p (.bin .rem (.t 31) (.c (u32 256#32)))⟩,
          ⟨some 33, none, [], .p (.conv .u8 (.t 32))⟩,
          ⟨some 34, none, [], .p (.iaddrA 4 1 (.t 7) (.t 30))⟩,
          ⟨none, none, [], .w (.store1 (.t 34) (.t 33))⟩]) (
      .region [
        ⟨some 35, none, [], .p (.mv (.t 8))⟩,
        ⟨some 36, none, [], .p (.bin .quo (.t 35) (.c (u32 256#32)))⟩,
        ⟨some 8, none, [], .p (.mv (.t 36))⟩]))))) (
  .region [
    ⟨some 24, none, [], .p (.mv (.t 9))⟩,
    ⟨some 25, none, [], .p (.bin .add (.t 24) (.c (.int .i64 1)))⟩,
    ⟨some 9, none, [], .p (.mv (.t 25))⟩]))

abbrev k62_0 : List Nat := [0, 1, 5, 6]
abbrev a62_0 : List Nat := [5]
abbrev e62_0 (v0 v1 v5 v6 : AV) : Env := [v0, v1, .dead, .dead, .dead, v5, v6, .dead, .dead, .dead, .dead, .dead, .dead, .dead, .dead, .dead, .dead, .dead, .dead, .dead, .dead, .dead, .dead, .dead, .dead, .dead, .dead, .dead, .dead, .dead, .dead, .dead, .dead, .dead, .dead, .dead, .dead, .dead, .dead, .dead, .dead, .dead, .dead, .dead, .dead, .dead, .dead, .dead, .dead]
abbrev x62_0 (v5 : AV) : Env := [.dead, .dead, .dead, .dead, .dead, v5, .dead, .dead, .dead, .dead, .dead, .dead, .dead, .dead, .dead, .dead, .dead, .dead, .dead, .dead, .dead, .dead, .dead, .dead, .dead, .dead, .dead, .dead, .dead, .dead, .dead, .dead, .dead, .dead, .dead, .dead, .dead, .dead, .dead, .dead, .dead, .dead, .dead, .dead, .dead, .dead, .dead, .dead, .dead]
def s62_b0 : SCode :=
  .seq (
    .seq (
      .region [
        ⟨some 12, none, [], .p (.mv (.t 6))⟩,
        ⟨some 13, none, [], .p (.mv (.t 0))⟩,
        ⟨some 14, none, [], .p (.lenV true (.t 13))⟩,
        ⟨some 15, none, [], .p (.bin .lss (.t 12) (.t 14))⟩]) (
    .cond (.t 15) (
      .skip) (
      .exit 0))) (
  .seq (
    .block 1 (
      .seq (
        .region [
          ⟨some 7, none, [], .a 20000 (.alloc [byteAV 0, byteAV 0, byteAV 0, byteAV 0])⟩]) (
      .seq (
        .region [
          ⟨some 18, none, [], .p (.mv (.t 0))⟩,
          ⟨some 19, none, [], .p (.mv (.t 6))⟩,
          ⟨some 20, none, [], .p (.iaddrS 1 (.t 18) (.t 19))⟩,
          ⟨some 21, none, [], .r (.load1 (.t 20))⟩,
          ⟨some 8, none, [], .p (.mv (.t 21))⟩]) (
      .seq (
        .seq (
          .region [
            ⟨some 9, none, [], .p (.mv (.c (.int .i64 0)))⟩]) (
        .block 2 (
          .loop k62_1 a62_1 s62_b1))) (
      .seq (
        .region [
          ⟨some 11, none, [], .p (.mv (.c (.int .i64 0)))⟩]) (
      .block 4 (
        .loop k62_2 a62_2 s62_b2))))))) (
  .region [
    ⟨some 16, none, [], .p (.mv (.t 6))⟩,
    ⟨some 17, none, [], .p (.bin .add (.t 16) (.c (.int .i64 1)))⟩,
    ⟨some 6, none, [], .p (.mv (.t 17))⟩]))

def s62 : SFunc := ⟨
  .seq (
    .region [
      ⟨some 4, none, [], .p (.mv (.c (.str [])))⟩]) (
  .seq (
    .region [
      ⟨some 5, none, [], .p (.mv (.c (.slice none 0 0)))⟩]) (
  .seq (
    .seq (
      .region [
        ⟨some 6, none, [], .p (.mv (.c (.int .i64 0)))⟩]) (
    .block 0 (
      .loop k62_0 a62_0 s62_b0))) (
  .seq (
    .region [
      ⟨some 47, none, [], .p (.mv (.t 5))⟩,
      ⟨some 48, none, [], .r (.toStr (.t 47))⟩,
      ⟨some 4, none, [], .p (.mv (.t 48))⟩]) (
  .ret)))),
  49, [Sum.inl 4]⟩

theorem c62 : cFunc Tryd.prog quiet Tryd.f62 [[0, 1, 5, 6], [5], [0, 1, 5, 6, 7, 8, 9], [0, 1, 5, 6, 7], [0, 1, 5, 6, 7, 11], [0, 1, 5, 6]] = some s62 := by kernel_rfl

-- 64 calls []
abbrev k64_0 : List Nat := [0, 1, 6, 17, 18]
abbrev a64_0 : List Nat := [6]
abbrev e64_0 (v0 v1 v6 v17 v18 : AV) : Env := [v0, v1, .dead, .dead, .dead, .dead, v6, .dead, .dead, .dead, .dead, .dead, .dead, .dead, .dead, .dead, .dead, v17, v18, .dead, .dead, .dead, .dead, .dead, .dead, .dead, .dead, .dead, .dead, .dead, .dead, .dead, .dead, .dead, .dead, .dead, .dead, .dead, .dead, .dead, .dead, .dead, .dead, .dead, .dead, .dead, .dead, .dead, .dead, .dead, .dead]
abbrev x64_0 (v6 : AV) : Env := [.dead, .dead, .dead, .dead, .dead, .dead, v6, .dead, .dead, .dead, .dead, .dead, .dead, .dead, .dead, .dead, .dead, .dead, .dead, .dead, .dead, .dead, .dead, .dead, .dead, .dead, .dead, .dead, .dead, .dead, .dead, .dead, .dead, .dead, .dead, .dead, .dead, .dead, .dead, .dead, .dead, .dead, .dead, .dead, .dead, .dead, .dead, .dead, .dead, .dead, .dead]
def s64_b0 : SCode :=
  .seq (
    .region [
      ⟨some 19, none, [], .p (.bin .lss (.t 18) (.t 17))⟩]) (
  .seq (
    .cond (.t 19) (
      .skip) (
      .exit 0)) (
  .seq (
    .block 1 (
      .seq (
        .region [
          ⟨some 20, none, [], .p (.mv (.t 18))⟩,
          ⟨some 7, none, [], .p (.mv (.t 20))⟩]) (
      .region [
        ⟨some 21, none, [], .p (.mv (.t 6))⟩,
        ⟨some 22, none, [], .p (.mv (.t 7))⟩,
        ⟨some 23, none, [], .p (.mv (.t 1))⟩,
        ⟨some 24, none, [], .p (.mv (.t 0))⟩,
        ⟨some 25, none, [], .p (.mv (.t 7))⟩,
        ⟨some 26, none, [], .p (.bin .mul (.c (.int .i64 4)) (.t 25))⟩,
        ⟨some 27, none, [], .p (.idxStr (.t 24) (.t 26))⟩,
        ⟨some 28, none, [], .p (.conv .u32 (.t 27))⟩,
        ⟨some 29, none, [], .p (.mv (.t 0))⟩,
        ⟨some 30, none, [], .p (.mv (.t 7))⟩,
        ⟨some 31, none, [], .p (.bin .mul (.c (.int .i64 4)) (.t 30))⟩,
        ⟨some 32, none, [], .p (.bin .add (.t 31) (.c (.int .i64 1)))⟩,
        ⟨some 33, none, [], .p (.idxStr (.t 29) (.t 32))⟩,
        ⟨some 34, none, [], .p (.conv .u32 (.t 33))⟩,
        ⟨some 35, none, [], .p (.mv (.t 0))⟩,
        ⟨some 36, none, [], .p (.mv (.t 7))⟩,
        ⟨some 37, none, [], .p (.bin .mul (.c (.int .i64 4)) (.t 36))⟩,
        ⟨some 38, none, [], .p (.bin .add (.t 37) (.c (.int .i64 2)))⟩,
        ⟨some 39, none, [], .p (.idxStr (.t 35) (.t 38))⟩,
        ⟨some 40, none, [], .p (.conv .u32 (.t 39))⟩,
        ⟨some 41, none, [], .p (.mv (.t 0))⟩,
        ⟨some 42, none, [], .p (.mv (.t 7))⟩,
        ⟨some 43, none, [], .p (.bin .mul (.c (.int .i64 4)) (.t 42))⟩,
        ⟨some 44, none, [], .p (.bin .add (.t 43) (.c (.int .i64 3)))⟩,
        ⟨some 45, none, [], .p (.idxStr (.t 41) (.t 44))⟩,
        ⟨some 46, none, [], .p (.conv .u32 (.t 45))⟩,
        ⟨some 47, none, [], .call 28104 4 true (.t 23) [.t 28, .t 34, .t 40, .t 46]⟩,
        ⟨some 48, none, [], .p (.iaddrS 1 (.t 21) (.t 22))⟩,
        ⟨none, none, [], .w (.store1 (.t 48) (.t 47))⟩]))) (
  .region [
    ⟨some 49, none, [], .p (.bin .add (.t 18) (.c (.int .i64 1)))⟩,
    ⟨some 18, none, [], .p (.mv (.t 49))⟩])))

def s64 : SFunc := ⟨
  .seq (
    .region [
      ⟨some 4, none, [], .p (.mv (.c (.slice none 0 0)))⟩,
      ⟨some 5, none, [], .p (.mv (.c (.int .i64 0)))⟩]) (
  .seq (
    .seq (
      .region [
        ⟨some 8, none, [], .p (.mv (.t 0))⟩,
        ⟨some 9, none, [], .p (.lenV false (.t 8))⟩,
        ⟨some 10, none, [], .p (.bin .rem (.t 9) (.c (.int .i64 4)))⟩,
        ⟨some 11, none, [], .p (.bin .neq (.t 10) (.c (.int .i64 0)))⟩]) (
    .cond (.t 11) (
      .seq (
        .region [
          ⟨some 4, none, [], .p (.mv (.c (.slice none 0 0)))⟩,
          ⟨some 5, none, [], .p (.mv (.c (.int .i64 7)))⟩]) (
      .ret)) (
      .skip))) (
  .seq (
    .region [
      ⟨some 12, none, [], .p (.mv (.t 0))⟩,
      ⟨some 13, none, [], .p (.lenV false (.t 12))⟩,
      ⟨some 14, none, [], .p (.bin .quo (.t 13) (.c (.int .i64 4)))⟩,
      ⟨some 15, none, [], .a 12012 (.mkSlice 1 4 [u32 0#32] (.t 14) (.t 14))⟩,
      ⟨some 6, none, [], .p (.mv (.t 15))⟩]) (
  .seq (
    .seq (
      .region [
        ⟨some 16, none, [], .p (.mv (.t 6))⟩,
        ⟨some 17, none, [], .p (.lenV true (.t 16))⟩,
        ⟨some 18, none, [], .p (.mv (.c (.int .i64 0)))⟩]) (
    .block 0 (
      .loop k64_0 a64_0 s64_b0))) (
  .seq (
    .region [
      ⟨some 50, none, [], .p (.mv (.t 6))⟩,
      ⟨some 4, none, [], .p (.mv (.t 50))⟩,
      ⟨some 5, none, [], .p (.mv (.c (.int .i64 0)))⟩]) (
  .ret))))),
  51, [Sum.inl 4, Sum.inl 5]⟩

theorem c64 : cFunc Tryd.prog quiet Tryd.f64 [[0, 1, 6, 17, 18], [6]] = some s64 := by kernel_rfl

-- 65 calls []
def s65 : SFunc := ⟨
  .seq (
    .region [
      ⟨some 8, none, [], .p (.mv (.c (u32 0#32)))⟩]) (
  .seq (
    .region [
      ⟨some 9, none, [], .p (.mv (.t 0))⟩,
      ⟨some 10, none, [], .p (.bin .shl (.t 9) (.c (u64 24#64)))⟩,
      ⟨some 11, none, [], .p (.mv (.t 1))⟩,
      ⟨some 12, none, [], .p (.bin .shl (.t 11) (.c (u64 16#64)))⟩,
      ⟨some 13, none, [], .p (.bin .or (.t 10) (.t 12))⟩,
      ⟨some 14, none, [], .p (.mv (.t 2))⟩,
      ⟨some 15, none, [], .p (.bin .shl (.t 14) (.c (u64 8#64)))⟩,
      ⟨some 16, none, [], .p (.bin .or (.t 13) (.t 15))⟩,
      ⟨some 17, none, [], .p (.mv (.t 3))⟩,
      ⟨some 18, none, [], .p (.bin .or (.t 16) (.t 17))⟩,
      ⟨some 8, none, [], .p (.mv (.t 18))⟩]) (
  .ret)),
  19, [Sum.inl 8]⟩

theorem c65 : cFunc Tryd.prog quiet Tryd.f65 [] = some s65 := by kernel_rfl

-- 68 calls []
def s68 : SFunc := ⟨
  .seq (
    .region [
      ⟨some 0, none, [], .p (.mv (.c (.ptr none)))⟩]) (
  .seq (
    .region [
      ⟨some 1, none, [], .r (.loadN 8 (.g 2 8))⟩,
      ⟨some 2, none, [], .p (.build [u32 0#32, u32 0#32, u32 0#32, u32 0#32, u32 0#32, u32 0#32, u32 0#32, u32 0#32, .str [], .int .i64 0] [(0, 8, .t 1)])⟩,
      ⟨some 3, none, [], .a 4008 (.box (.t 2))⟩,
      ⟨some 0, none, [], .p (.mv (.t 3))⟩]) (
  .ret)),
  4, [Sum.inl 0]⟩

theorem c68 : cFunc Tryd.prog quiet Tryd.f68 [] = some s68 := by kernel_rfl

-- 69 calls [78]
abbrev k69_0 : List Nat := [0, 1]
abbrev a69_0 : List Nat := [0, 1]
abbrev e69_0 (v0 v1 : AV) : Env := [v0, v1, .dead, .dead, .dead, .dead, .dead, .dead, .dead, .dead, .dead, .dead, .dead, .dead, .dead, .dead, .dead, .dead, .dead, .dead, .dead, .dead, .dead, .dead, .dead, .dead, .dead, .dead, .dead, .dead, .dead, .dead, .dead, .dead]
abbrev x69_0 (v0 v1 : AV) : Env := [v0, v1, .dead, .dead, .dead, .dead, .dead, .dead, .dead, .dead, .dead, .dead, .dead, .dead, .dead, .dead, .dead, .dead, .dead, .dead, .dead, .dead, .dead, .dead, .dead, .dead, .dead, .dead, .dead, .dead, .dead, .dead, .dead, .dead]
def s69_b0 : SCode :=
  .seq (
    .seq (
      .region [
        ⟨some 21, none, [], .p (.mv (.t 1))⟩,
        ⟨some 22, none, [], .p (.lenV false (.t 21))⟩,
        ⟨some 23, none, [], .p (.bin .geq (.t 22) (.c (.int .i64 64)))⟩]) (
    .cond (.t 23) (
      .skip) (
      .exit 0))) (
  .block 1 (
    .seq (
      .region [
        ⟨some 24, none, [], .p (.mv (.t 0))⟩,
        ⟨some 25, none, [], .p (.mv (.t 1))⟩,
        ⟨some 26, none, [], .p (.slcStr (.t 25) none (some (.c (.int .i64 64))))⟩,
        ⟨some 27, none, [], .call 16012 4 false (.f 78) [.t 24, .t 26]⟩]) (
    .region [
      ⟨some 28, none, [], .p (.mv (.t 1))⟩,
      ⟨some 29, none, [], .p (.slcStr (.t 28) (some (.c (.int .i64 64))) none)⟩,
      ⟨some 1, none, [], .p (.mv (.t 29))⟩])))

def s69 : SFunc := ⟨
  .seq (
    .seq (
      .region [
        ⟨some 4, none, [], .p (.mv (.t 0))⟩,
        ⟨some 5, none, [], .p (.eqn .ptr false (.t 4) (.c (.ptr none)))⟩]) (
    .cond (.t 5) (
      .ret) (
      .skip))) (
  .seq (
    .region [
      ⟨some 6, none, [], .p (.mv (.t 0))⟩,
      ⟨some 7, none, [], .p (.nilChk (.t 6))⟩,
      ⟨some 8, none, [], .p (.faddr 9 (.t 7))⟩,
      ⟨some 9, none, [], .r (.load1 (.t 8))⟩,
      ⟨some 10, none, [], .p (.mv (.t 1))⟩,
      ⟨some 11, none, [], .p (.lenV false (.t 10))⟩,
      ⟨some 12, none, [], .p (.bin .add (.t 9) (.t 11))⟩,
      ⟨some 13, none, [], .p (.nilChk (.t 6))⟩,
      ⟨some 14, none, [], .p (.faddr 9 (.t 13))⟩,
      ⟨none, none, [], .w (.store1 (.t 14) (.t 12))⟩]) (
  .seq (
    .region [
      ⟨some 15, none, [], .p (.mv (.t 0))⟩,
      ⟨some 16, none, [], .p (.nilChk (.t 15))⟩,
      ⟨some 17, none, [], .p (.faddr 8 (.t 16))⟩,
      ⟨some 18, none, [], .r (.load1 (.t 17))⟩,
      ⟨some 19, none, [], .p (.mv (.t 1))⟩,
      ⟨some 20, none, [], .p (.bin .add (.t 18) (.t 19))⟩,
      ⟨some 1, none, [], .p (.mv (.t 20))⟩]) (
  .seq (
    .block 0 (
      .loop k69_0 a69_0 s69_b0)) (
  .region [
    ⟨some 30, none, [], .p (.mv (.t 0))⟩,
    ⟨some 31, none, [], .p (.mv (.t 1))⟩,
    ⟨some 32, none, [], .p (.nilChk (.t 30))⟩,
    ⟨some 33, none, [], .p (.faddr 8 (.t 32))⟩,
    ⟨none, none, [], .w (.store1 (.t 33) (.t 31))⟩])))),
  34, []⟩

theorem c69 : cFunc Tryd.prog quiet Tryd.f69 [[0, 1], [0, 1]] = some s69 := by kernel_rfl

-- 70 calls [52, 69, 79]
def s70 : SFunc := ⟨
  .seq (
    .region [
      ⟨some 2, none, [], .p (.mv (.c (.str [])))⟩]) (
  .seq (
    .seq (
      .region [
        ⟨some 6, none, [], .p (.mv (.t 0))⟩,
        ⟨some 7, none, [], .p (.eqn .ptr false (.t 6) (.c (.ptr none)))⟩]) (
    .cond (.t 7) (
      .seq (
        .region [
          ⟨some 2, none, [], .p (.mv (.c (.str [])))⟩]) (
      .ret)) (
      .skip))) (
  .seq (
    .region [
      ⟨some 8, none, [], .p (.mv (.t 0))⟩,
      ⟨some 9, none, [], .p (.nilChk (.t 8))⟩,
      ⟨some 10, none, [], .r (.loadN 10 (.t 9))⟩,
      ⟨some 3, none, [], .a 12012 (.alloc [u32 0#32, u32 0#32, u32 0#32, u32 0#32, u32 0#32, u32 0#32, u32 0#32, u32 0#32, .str [], .int .i64 0])⟩,
      ⟨none, none, [], .w (.storeN 10 (.t 3) (.t 10))⟩]) (
  .seq (
    .region [
      ⟨some 11, none, [], .p (.mv (.t 0))⟩,
      ⟨some 12, none, [], .p (.nilChk (.t 11))⟩,
      ⟨some 13, none, [], .p (.faddr 9 (.t 12))⟩,
      ⟨some 14, none, [], .r (.load1 (.t 13))⟩,
      ⟨some 15, none, [], .p (.conv .u64 (.t 14))⟩,
      ⟨some 16, none, [], .p (.bin .mul (.t 15) (.c (u64 8#64)))⟩,
      ⟨some 4, none, [], .p (.mv (.t 16))⟩]) (
  .seq (
    .region [
      ⟨some 17, none, [], .p (.mv (.t 0))⟩,
      ⟨some 18, none, [], .p (.nilChk (.t 17))⟩,
      ⟨some 19, none, [], .p (.faddr 8 (.t 18))⟩,
      ⟨some 20, none, [], .r (.load1 (.t 19))⟩,
      ⟨some 21, none, [], .p (.lenV false (.t 20))⟩,
      ⟨some 22, none, [], .p (.bin .sub (.c (.int .i64 119)) (.t 21))⟩,
      ⟨some 23, none, [], .p (.bin .rem (.t 22) (.c (.int .i64 64)))⟩,
      ⟨some 5, none, [], .p (.mv (.t 23))⟩]) (
  .seq (
    .region [
      ⟨some 24, none, [], .p (.mv (.t 5))⟩,
      ⟨some 25, none, [], .call 24004 4 true (.f 79) [.c (.str [0]), .t 24]⟩,
      ⟨some 26, none, [], .p (.bin .add (.c (.str [128])) (.t 25))⟩,
      ⟨some 27, none, [], .p (.mv (.t 4))⟩,
      ⟨some 28, none, [], .p (.bin .shr (.t 27) (.c (u64 32#64)))⟩,
      ⟨some 29, none, [], .p (.conv .u32 (.t 28))⟩,
      ⟨some 30, none, [], .p (.mv (.t 4))⟩,
      ⟨some 31, none, [], .p (.conv .u32 (.t 30))⟩,
      ⟨some 32, none, [], .a 24032 (.buildS 1 2 [u32 0#32] [(0, 1, .t 29), (1, 1, .t 31)])⟩,
      ⟨some 33, none, [], .call 24036 4 true (.f 52) [.t 32]⟩,
      ⟨some 34, none, [], .p (.bin .add (.t 26) (.t 33))⟩,
      ⟨some 35, none, [], .call 24044 4 false (.f 69) [.t 3, .t 34]⟩]) (
  .seq (
    .region [
      ⟨some 36, none, [], .p (.faddr 0 (.t 3))⟩,
      ⟨some 37, none, [], .p (.slcA 8 1 (.t 36) none none)⟩,
      ⟨some 38, none, [], .call 28008 4 true (.f 52) [.t 37]⟩,
      ⟨some 2, none, [], .p (.mv (.t 38))⟩]) (
  .ret))))))),
  39, [Sum.inl 2]⟩

theorem c70 : cFunc Tryd.prog quiet Tryd.f70 [] = some s70 := by kernel_rfl

-- 71 calls []
abbrev k71_1 : List Nat := [0, 1, 6, 7, 8, 9]
abbrev a71_1 : List Nat := [0, 1, 6, 7, 8]
abbrev e71_1 (v0 v1 v6 v7 v8 v9 : AV) : Env := [v0, v1, .dead, .dead, .dead, .dead, v6, v7, v8, v9, .dead, .dead, .dead, .dead, .dead, .dead, .dead, .dead, .dead, .dead, .dead, .dead, .dead, .dead, .dead, .dead, .dead, .dead, .dead, .dead, .dead, .dead, .dead, .dead, .dead, .dead, .dead, .dead, .dead, .dead, .dead, .dead, .dead, .dead, .dead]
abbrev x71_1 (v0 v1 v6 v7 v8 : AV) : Env := [v0, v1, .dead, .dead, .dead, .dead, v6, v7, v8, .dead, .dead, .dead, .dead, .dead, .dead, .dead, .dead, .dead, .dead, .dead, .dead, .dead, .dead, .dead, .dead, .dead, .dead, .dead, .dead, .dead, .dead, .dead, .dead, .dead, .dead, .dead, .dead, .dead, .dead, .dead, .dead, .dead, .dead, .dead, .dead]
def s71_b1 : SCode :=
  .seq (
    .seq (
      .region [
        ⟨some 21, none, [], .p (.mv (.t 9))⟩,
        ⟨some 22, none, [], .p (.bin .lss (.t 21) (.c (.int .i64 4)))⟩]) (
    .cond (.t 22) (
      .skip) (
      .exit 2))) (
  .seq (
    .block 3 (
      .seq (
        .region [
          ⟨some 25, none, [], .p (.mv (.t 7))⟩,
          ⟨some 26, none, [], .p (.bin .add (.t 25) (.c (.int .i64 3)))⟩,
          ⟨some 27, none, [], .p (.mv (.t 9))⟩,
          ⟨some 28, none, [], .p (.bin .sub (.t 26) (.t 27))⟩,
          ⟨some 10, none, [], .p (.mv (.t 28))⟩]) (
      .seq (
        .seq (
          .region [
            ⟨some 29, none, [], .p (.mv (.t 1))⟩]) (
        .cond (.t 29) (
          .region [
            ⟨some 30, none, [], .p (.mv (.t 7))⟩,
            ⟨some 31, none, [], .p (.mv (.t 9))⟩,
            ⟨some 32, none, [], .p (.bin .add (.t 30) (.t 31))⟩,
            ⟨some 10, none, [], .p (.mv (.t 32))⟩]) (
          .skip))) (
      .region [
        ⟨some 33, none, [], .p (.mv (.t 8))⟩,
        ⟨some 34, none, [], .p (.bin .mul (.c (u32 256#32)) (.t 33))⟩,
        ⟨some 35, none, [], .p (.mv (.t 0))⟩,
        ⟨some 36, none, [], .p (.mv (.t 10))⟩,
        ⟨some 37, none, [], .p (.idxStr (.t 35) (.t 36))⟩,
        ⟨some 38, none, [], .p (.conv .u32 (.t 37))⟩,
        ⟨some 39, none, [], .p (.bin .add (.t 34) (.t 38))⟩,
        ⟨some 8, none, [], .p (.mv (.t 39))⟩])))) (
  .region [
    ⟨some 23, none, [], .p (.mv (.t 9))⟩,
    ⟨some 24, none, [], .p (.bin .add (.t 23) (.c (.int .i64 1)))⟩,
    ⟨some 9, none, [], .p (.mv (.t 24))⟩]))

abbrev k71_0 : List Nat := [0, 1, 6, 7]
abbrev a71_0 : List Nat := [6]
abbrev e71_0 (v0 v1 v6 v7 : AV) : Env := [v0, v1, .dead, .dead, .dead, .dead, v6, v7, .dead, .dead, .dead, .dead, .dead, .dead, .dead, .dead, .dead, .dead, .dead, .dead, .dead, .dead, .dead, .dead, .dead, .dead, .dead, .dead, .dead, .dead, .dead, .dead, .dead, .dead, .dead, .dead, .dead, .dead, .dead, .dead, .dead, .dead, .dead, .dead, .dead]
abbrev x71_0 (v6 : AV) : Env := [.dead, .dead, .dead, .dead, .dead, .dead, v6, .dead, .dead, .dead, .dead, .dead, .dead, .dead, .dead, .dead, .dead, .dead, .dead, .dead, .dead, .dead, .dead, .dead, .dead, .dead, .dead, .dead, .dead, .dead, .dead, .dead, .dead, .dead, .dead, .dead, .dead, .dead, .dead, .dead, .dead, .dead, .dead, .dead, .dead]
def s71_b0 : SCode :=
  .seq (
    .seq (
      .region [
        ⟨some 15, none, [], .p (.mv (.t 7))⟩,
        ⟨some 16, none, [], .p (.mv (.t 0))⟩,
        ⟨some 17, none, [], .p (.lenV false (.t 16))⟩,
        ⟨some 18, none, [], .p (.bin .lss (.t 15) (.t 17))⟩]) (
    .cond (.t 18) (
      .skip) (
      .exit 0))) (
  .seq (
    .block 1 (
      .seq (
        .region [
          ⟨some 8, none, [], .p (.mv (.c (u32 0#32)))⟩]) (
      .seq (
        .seq (
          .region [
            ⟨some 9, none, [], .p (.mv (.c (.int .i64 0)))⟩]) (
        .block 2 (
          .loop k71_1 a71_1 s71_b1))) (
      .region [
        ⟨some 40, none, [], .p (.mv (.t 6))⟩,
        ⟨some 41, none, [], .p (.mv (.t 8))⟩,
        ⟨some 42, none, [], .a 60008 (.buildS 1 1 [u32 0#32] [(0, 1, .t 41)])⟩,
        ⟨some 43, none, [], .w (.append 60012 1 4 (.t 40) (.t 42))⟩,
        ⟨some 6, none, [], .p (.mv (.t 43))⟩])))) (
  .region [
    ⟨some 19, none, [], .p (.mv (.t 7))⟩,
    ⟨some 20, none, [], .p (.bin .add (.t 19) (.c (.int .i64 4)))⟩,
    ⟨some 7, none, [], .p (.mv (.t 20))⟩]))

def s71 : SFunc := ⟨
  .seq (
    .region [
      ⟨some 4, none, [], .p (.mv (.c (.slice none 0 0)))⟩,
      ⟨some 5, none, [], .p (.mv (.c (.int .i64 0)))⟩]) (
  .seq (
    .seq (
      .region [
        ⟨some 11, none, [], .p (.mv (.t 0))⟩,
        ⟨some 12, none, [], .p (.lenV false (.t 11))⟩,
        ⟨some 13, none, [], .p (.bin .rem (.t 12) (.c (.int .i64 4)))⟩,
        ⟨some 14, none, [], .p (.bin .neq (.t 13) (.c (.int .i64 0)))⟩]) (
    .cond (.t 14) (
      .seq (
        .region [
          ⟨some 4, none, [], .p (.mv (.c (.slice none 0 0)))⟩,
          ⟨some 5, none, [], .p (.mv (.c (.int .i64 7)))⟩]) (
      .ret)) (
      .skip))) (
  .seq (
    .region [
      ⟨some 6, none, [], .p (.mv (.c (.slice none 0 0)))⟩]) (
  .seq (
    .seq (
      .region [
        ⟨some 7, none, [], .p (.mv (.c (.int .i64 0)))⟩]) (
    .block 0 (
      .loop k71_0 a71_0 s71_b0))) (
  .seq (
    .region [
      ⟨some 44, none, [], .p (.mv (.t 6))⟩,
      ⟨some 4, none, [], .p (.mv (.t 44))⟩,
      ⟨some 5, none, [], .p (.mv (.c (.int .i64 0)))⟩]) (
  .ret))))),
  45, [Sum.inl 4, Sum.inl 5]⟩

theorem c71 : cFunc Tryd.prog quiet Tryd.f71 [[0, 1, 6, 7], [6], [0, 1, 6, 7, 8, 9], [0, 1, 6, 7, 8]] = some s71 := by kernel_rfl

-- 72 calls [80]
def s72 : SFunc := ⟨
  .seq (
    .region [
      ⟨some 8, none, [], .p (.mv (.c (u32 0#32)))⟩]) (
  .seq (
    .region [
      ⟨some 11, none, [], .p (.mv (.t 0))⟩,
      ⟨some 12, none, [], .p (.mv (.t 1))⟩,
      ⟨some 13, none, [], .call 4008 4 true (.f 80) [.t 11, .t 12]⟩,
      ⟨some 9, none, [], .p (.mv (.t 13))⟩]) (
  .seq (
    .region [
      ⟨some 14, none, [], .p (.mv (.t 0))⟩,
      ⟨some 15, none, [], .p (.mv (.t 2))⟩,
      ⟨some 16, none, [], .call 8008 4 true (.f 80) [.t 14, .t 15]⟩,
      ⟨some 10, none, [], .p (.mv (.t 16))⟩]) (
  .seq (
    .region [
      ⟨some 17, none, [], .p (.mv (.t 9))⟩,
      ⟨some 18, none, [], .p (.mv (.t 10))⟩,
      ⟨some 19, none, [], .p (.bin .xor (.t 17) (.t 18))⟩,
      ⟨some 20, none, [], .p (.mv (.t 0))⟩,
      ⟨some 21, none, [], .p (.mv (.t 3))⟩,
      ⟨some 22, none, [], .p (.bin .quo (.t 20) (.t 21))⟩,
      ⟨some 23, none, [], .p (.bin .xor (.t 19) (.t 22))⟩,
      ⟨some 8, none, [], .p (.mv (.t 23))⟩]) (
  .ret)))),
  24, [Sum.inl 8]⟩

theorem c72 : cFunc Tryd.prog quiet Tryd.f72 [] = some s72 := by kernel_rfl

-- 73 calls [80]
def s73 : SFunc := ⟨
  .seq (
    .region [
      ⟨some 8, none, [], .p (.mv (.c (u32 0#32)))⟩]) (
  .seq (
    .region [
      ⟨some 12, none, [], .p (.mv (.t 0))⟩,
      ⟨some 13, none, [], .p (.mv (.t 1))⟩,
      ⟨some 14, none, [], .call 4008 4 true (.f 80) [.t 12, .t 13]⟩,
      ⟨some 9, none, [], .p (.mv (.t 14))⟩]) (
  .seq (
    .region [
      ⟨some 15, none, [], .p (.mv (.t 0))⟩,
      ⟨some 16, none, [], .p (.mv (.t 2))⟩,
      ⟨some 17, none, [], .call 8008 4 true (.f 80) [.t 15, .t 16]⟩,
      ⟨some 10, none, [], .p (.mv (.t 17))⟩]) (
  .seq (
    .region [
      ⟨some 18, none, [], .p (.mv (.t 0))⟩,
      ⟨some 19, none, [], .p (.mv (.t 3))⟩,
      ⟨some 20, none, [], .call 12008 4 true (.f 80) [.t 18, .t 19]⟩,
      ⟨some 11, none, [], .p (.mv (.t 20))⟩]) (
  .seq (
    .region [
      ⟨some 21, none, [], .p (.mv (.t 9))⟩,
      ⟨some 22, none, [], .p (.mv (.t 10))⟩,
      ⟨some 23, none, [], .p (.bin .xor (.t 21) (.t 22))⟩,
      ⟨some 24, none, [], .p (.mv (.t 11))⟩,
      ⟨some 25, none, [], .p (.bin .xor (.t 23) (.t 24))⟩,
      ⟨some 8, none, [], .p (.mv (.t 25))⟩]) (
  .ret))))),
  26, [Sum.inl 8]⟩

theorem c73 : cFunc Tryd.prog quiet Tryd.f73 [] = some s73 := by kernel_rfl

-- 74 calls []
def s74 : SFunc := ⟨
  .seq (
    .region [
      ⟨some 6, none, [], .p (.mv (.c (u32 0#32)))⟩]) (
  .seq (
    .region [
      ⟨some 7, none, [], .p (.mv (.t 0))⟩,
      ⟨some 8, none, [], .p (.mv (.t 1))⟩,
      ⟨some 9, none, [], .p (.bin .and (.t 7) (.t 8))⟩,
      ⟨some 10, none, [], .p (.mv (.t 0))⟩,
      ⟨some 11, none, [], .p (.bin .sub (.c (u32 4294967295#32)) (.t 10))⟩,
      ⟨some 12, none, [], .p (.mv (.t 2))⟩,
      ⟨some 13, none, [], .p (.bin .and (.t 11) (.t 12))⟩,
      ⟨some 14, none, [], .p (.bin .xor (.t 9) (.t 13))⟩,
      ⟨some 6, none, [], .p (.mv (.t 14))⟩]) (
  .ret)),
  15, [Sum.inl 6]⟩

theorem c74 : cFunc Tryd.prog quiet Tryd.f74 [] = some s74 := by kernel_rfl

-- 75 calls []
def s75 : SFunc := ⟨
  .seq (
    .region [
      ⟨some 6, none, [], .p (.mv (.c (u32 0#32)))⟩]) (
  .seq (
    .region [
      ⟨some 7, none, [], .p (.mv (.t 0))⟩,
      ⟨some 8, none, [], .p (.mv (.t 1))⟩,
      ⟨some 9, none, [], .p (.bin .and (.t 7) (.t 8))⟩,
      ⟨some 10, none, [], .p (.mv (.t 0))⟩,
      ⟨some 11, none, [], .p (.mv (.t 2))⟩,
      ⟨some 12, none, [], .p (.bin .and (.t 10) (.t 11))⟩,
      ⟨some 13, none, [], .p (.bin .xor (.t 9) (.t 12))⟩,
      ⟨some 14, none, [], .p (.mv (.t 1))⟩,
      ⟨some 15, none, [], .p (.mv (.t 2))⟩,
      ⟨some 16, none, [], .p (.bin .and (.t 14) (.t 15))⟩,
      ⟨some 17, none, [], .p (.bin .xor (.t 13) (.t 16))⟩,
      ⟨some 6, none, [], .p (.mv (.t 17))⟩]) (
  .ret)),
  18, [Sum.inl 6]⟩

theorem c75 : cFunc Tryd.prog quiet Tryd.f75 [] = some s75 := by kernel_rfl

-- 78 calls [81, 82]
abbrev k78_1 : List Nat := [0, 98, 99]
abbrev a78_1 : List Nat := []
abbrev e78_1 (v0 v98 v99 : AV) : Env := [v0, .dead, .dead, .dead, .dead, .dead, .dead, .dead, .dead, .dead, .dead, .dead, .dead, .dead, .dead, .dead, .dead, .dead, .dead, .dead, .dead, .dead, .dead, .dead, .dead, .dead, .dead, .dead, .dead, .dead, .dead, .dead, .dead, .dead, .dead, .dead, .dead, .dead, .dead, .dead, .dead, .dead, .dead, .dead, .dead, .dead, .dead, .dead, .dead, .dead, .dead, .dead, .dead, .dead, .dead, .dead, .dead, .dead, .dead, .dead, .dead, .dead, .dead, .dead, .dead, .dead, .dead, .dead, .dead, .dead, .dead, .dead, .dead, .dead, .dead, .dead, .dead, .dead, .dead, .dead, .dead, .dead, .dead, .dead, .dead, .dead, .dead, .dead, .dead, .dead, .dead, .dead, .dead, .dead, .dead, .dead, .dead, .dead, v98, v99, .dead, .dead, .dead, .dead, .dead, .dead, .dead, .dead, .dead, .dead, .dead, .dead, .dead, .dead, .dead]
abbrev x78_1 : Env := [.dead, .dead, .dead, .dead, .dead, .dead, .dead, .dead, .dead, .dead, .dead, .dead, .dead, .dead, .dead, .dead, .dead, .dead, .dead, .dead, .dead, .dead, .dead, .dead, .dead, .dead, .dead, .dead, .dead, .dead, .dead, .dead, .dead, .dead, .dead, .dead, .dead, .dead, .dead, .dead, .dead, .dead, .dead, .dead, .dead, .dead, .dead, .dead, .dead, .dead, .dead, .dead, .dead, .dead, .dead, .dead, .dead, .dead, .dead, .dead, .dead, .dead, .dead, .dead, .dead, .dead, .dead, .dead, .dead, .dead, .dead, .dead, .dead, .dead, .dead, .dead, .dead, .dead, .dead, .dead, .dead, .dead, .dead, .dead, .dead, .dead, .dead, .dead, .dead, .dead, .dead, .dead, .dead, .dead, .dead, .dead, .dead, .dead, .dead, .dead, .dead, .dead, .dead, .dead, .dead, .dead, .dead, .dead, .dead, .dead, .dead, .dead, .dead, .dead, .dead]
def s78_b1 : SCode :=
  .seq (
    .region [
      ⟨some 100, none, [], .p (.bin .lss (.t 99) (.c (.int .i64 8)))⟩]) (
  .seq (
    .cond (.t 100) (
      .skip) (
      .exit 2)) (
  .seq (
    .block 3 (
      .seq (
        .region [
          ⟨some 101, none, [], .p (.mv (.t 99))⟩,
          ⟨some 102, none, [], .p (.idxA 8 (.t 98) (.t 99))⟩,
          ⟨some 14, none, [], .p (.mv (.t 101))⟩,
          ⟨some 15, none, [], .p (.mv (.t 102))⟩]) (
      .region [
        ⟨some 103, none, [], .p (.mv (.t 0))⟩,
        ⟨some 104, none, [], .p (.mv (.t 14))⟩,
        ⟨some 105, none, [], .p (.nilChk (.t 103))⟩,
        ⟨some 106, none, [], .p (.faddr 0 (.t 105))⟩,
        ⟨some 107, none, [], .p (.iaddrA 8 1 (.t 106) (.t 104))⟩,
        ⟨some 108, none, [], .r (.load1 (.t 107))⟩,
        ⟨some 109, none, [], .p (.mv (.t 15))⟩,
        ⟨some 110, none, [], .p (.bin .add (.t 108) (.t 109))⟩,
        ⟨some 111, none, [], .p (.nilChk (.t 103))⟩,
        ⟨some 112, none, [], .p (.faddr 0 (.t 111))⟩,
        ⟨some 113, none, [], .p (.iaddrA 8 1 (.t 112) (.t 104))⟩,
        ⟨none, none, [], .w (.store1 (.t 113) (.t 110))⟩]))) (
  .region [
    ⟨some 114, none, [], .p (.bin .add (.t 99) (.c (.int .i64 1)))⟩,
    ⟨some 99, none, [], .p (.mv (.t 114))⟩])))

abbrev k78_0 : List Nat := [0, 4, 5, 22, 23]
abbrev a78_0 : List Nat := [0, 5]
abbrev e78_0 (v0 v4 v5 v22 v23 : AV) : Env := [v0, .dead, .dead, .dead, v4, v5, .dead, .dead, .dead, .dead, .dead, .dead, .dead, .dead, .dead, .dead, .dead, .dead, .dead, .dead, .dead, .dead, v22, v23, .dead, .dead, .dead, .dead, .dead, .dead, .dead, .dead, .dead, .dead, .dead, .dead, .dead, .dead, .dead, .dead, .dead, .dead, .dead, .dead, .dead, .dead, .dead, .dead, .dead, .dead, .dead, .dead, .dead, .dead, .dead, .dead, .dead, .dead, .dead, .dead, .dead, .dead, .dead, .dead, .dead, .dead, .dead, .dead, .dead, .dead, .dead, .dead, .dead, .dead, .dead, .dead, .dead, .dead, .dead, .dead, .dead, .dead, .dead, .dead, .dead, .dead, .dead, .dead, .dead, .dead, .dead, .dead, .dead, .dead, .dead, .dead, .dead, .dead, .dead, .dead, .dead, .dead, .dead, .dead, .dead, .dead, .dead, .dead, .dead, .dead, .dead, .dead, .dead, .dead, .dead]
abbrev x78_0 (v0 v5 : AV) : Env := [v0, .dead, .dead, .dead, .dead, v5, .dead, .dead, .dead, .dead, .dead, .dead, .dead, .dead, .dead, .dead, .dead, .dead, .dead, .dead, .dead, .dead, .dead, .dead, .dead, .dead, .dead, .dead, .dead, .dead, .dead, .dead, .dead, .dead, .dead, .dead, .dead, .dead, .dead, .dead, .dead, .dead, .dead, .dead, .dead, .dead, .dead, .dead, .dead, .dead, .dead, .dead, .dead, .dead, .dead, .dead, .dead, .dead, .dead, .dead, .dead, .dead, .dead, .dead, .dead, .dead, .dead, .dead, .dead, .dead, .dead, .dead, .dead, .dead, .dead, .dead, .dead, .dead, .dead, .dead, .dead, .dead, .dead, .dead, .dead, .dead, .dead, .dead, .dead, .dead, .dead, .dead, .dead, .dead, .dead, .dead, .dead, .dead, .dead, .dead, .dead, .dead, .dead, .dead, .dead, .dead, .dead, .dead, .dead, .dead, .dead, .dead, .dead, .dead, .dead]
def s78_b0 : SCode :=
  .seq (
    .region [
      ⟨some 24, none, [], .p (.bin .lss (.t 23) (.c (.int .i64 64)))⟩]) (
  .seq (
    .cond (.t 24) (
      .skip) (
      .exit 0)) (
  .seq (
    .block 1 (
      .seq (
        .region [
          ⟨some 25, none, [], .p (.mv (.t 23))⟩,
          ⟨some 26, none, [], .p (.idxA 64 (.t 22) (.t 23))⟩,
          ⟨some 6, none, [], .p (.mv (.t 25))⟩,
          ⟨some 7, none, [], .p (.mv (.t 26))⟩]) (
      .seq (
        .region [
          ⟨some 27, none, [], .p (.iaddrA 8 1 (.t 5) (.c (.int .i64 0)))⟩,
          ⟨some 28, none, [], .r (.load1 (.t 27))⟩,
          ⟨some 29, none, [], .p (.iaddrA 8 1 (.t 5) (.c (.int .i64 4)))⟩,
          ⟨some 30, none, [], .r (.load1 (.t 29))⟩,
          ⟨some 8, none, [], .p (.mv (.t 28))⟩,
          ⟨some 9, none, [], .p (.mv (.t 30))⟩]) (
      .seq (
        .region [
          ⟨some 31, none, [], .p (.mv (.t 9))⟩,
          ⟨some 32, none, [], .call 20004 4 true (.f 82) [.t 31, .c (.int .i64 6)]⟩,
          ⟨some 33, none, [], .p (.mv (.t 9))⟩,
          ⟨some 34, none, [], .call 20012 4 true (.f 82) [.t 33, .c (.int .i64 11)]⟩,
          ⟨some 35, none, [], .p (.bin .xor (.t 32) (.t 34))⟩,
          ⟨some 36, none, [], .p (.mv (.t 9))⟩,
          ⟨some 37, none, [], .call 20024 4 true (.f 82) [.t 36, .c (.int .i64 25)]⟩,
          ⟨some 38, none, [], .p (.bin .xor (.t 35) (.t 37))⟩,
          ⟨some 10, none, [], .p (.mv (.t 38))⟩]) (
      .seq (
        .region [
          ⟨some 39, none, [], .p (.mv (.t 8))⟩,
          ⟨some 40, none, [], .call 24004 4 true (.f 82) [.t 39, .c (.int .i64 2)]⟩,
          ⟨some 41, none, [], .p (.mv (.t 8))⟩,
          ⟨some 42, none, [], .call 24012 4 true (.f 82) [.t 41, .c (.int .i64 13)]⟩,
          ⟨some 43, none, [], .p (.bin .xor (.t 40) (.t 42))⟩,
          ⟨some 44, none, [], .p (.mv (.t 8))⟩,
          ⟨some 45, none, [], .call 24024 4 true (.f 82) [.t 44, .c (.int .i64 22)]⟩,
          ⟨some 46, none, [], .p (.bin .xor (.t 43) (.t 45))⟩,
          ⟨some 11, none, [], .p (.mv (.t 46))⟩]) (
      .seq (
        .region [
          ⟨some 47, none, [], .p (.iaddrA 8 1 (.t 5) (.c (.int .i64 7)))⟩,
          ⟨some 48, none, [], .r (.load1 (.t 47))⟩,
          ⟨some 49, none, [], .p (.mv (.t 10))⟩,
          ⟨some 50, none, [], .p (.bin .add (.t 48) (.t 49))⟩,
          ⟨some 51, none, [], .p (.mv (.t 9))⟩,
          ⟨some 52, none, [], .p (.iaddrA 8 1 (.t 5) (.c (.int .i64 5)))⟩,
          ⟨some 53, none, [], .r (.load1 (.t 52))⟩,
          ⟨some 54, none, [], .p (.bin .and (.t 51) (.t 53))⟩,
          ⟨some 55, none, [], .p (.mv (.t 9))⟩,
          ⟨some 56, none, [], .p (.un .xor (.t 55))⟩,
          ⟨some 57, none, [], .p (.iaddrA 8 1 (.t 5) (.c (.int .i64 6)))⟩,
          ⟨some 58, none, [], .r (.load1 (.t 57))⟩,
          ⟨some 59, none, [], .p (.bin .and (.t 56) (.t 58))⟩,
          ⟨some 60, none, [], .p (.bin .xor (.t 54) (.t 59))⟩,
          ⟨some 61, none, [], .p (.bin .add (.t 50) (.t 60))⟩,
          ⟨some 62, none, [], .p (.mv (.t 7))⟩,
          ⟨some 63, none, [], .p (.bin .add (.t 61) (.t 62))⟩,
          ⟨some 64, none, [], .p (.mv (.t 6))⟩,
          ⟨some 65, none, [], .p (.iaddrA 64 1 (.t 4) (.t 64))⟩,
          ⟨some 66, none, [], .r (.load1 (.t 65))⟩,
          ⟨some 67, none, [], .p (.bin .add (.t 63) (.t 66))⟩,
          ⟨some 12, none, [], .p (.mv (.t 67))⟩]) (
      .seq (
        .region [
          ⟨some 68, none, [], .p (.mv (.t 11))⟩,
          ⟨some 69, none, [], .p (.mv (.t 8))⟩,
          ⟨some 70, none, [], .p (.iaddrA 8 1 (.t 5) (.c (.int .i64 1)))⟩,
          ⟨some 71, none, [], .r (.load1 (.t 70))⟩,
          ⟨some 72, none, [], .p (.bin .and (.t 69) (.t 71))⟩,
          ⟨some 73, none, [], .p (.mv (.t 8))⟩,
          ⟨some 74, none, [], .p (.iaddrA 8 1 (.t 5) (.c (.int .i64 2)))⟩,
          ⟨some 75, none, [], .r (.load1 (.t 74))⟩,
          ⟨some 76, none, [], .p (.bin .and (.t 73) (.t 75))⟩,
          ⟨some 77, none, [], .p (.bin .xor (.t 72) (.t 76))⟩,
          ⟨some 78, none, [], .p (.iaddrA 8 1 (.t 5) (.c (.int .i64 1)))⟩,
          ⟨some 79, none, [], .r (.load1 (.t 78))⟩,
          ⟨some 80, none, [], .p (.iaddrA 8 1 (.t 5) (.c (.int .i64 2)))⟩,
          ⟨some 81, none, [], .r (.load1 (.t 80))⟩,
          ⟨some 82, none, [], .p (.bin .and (.t 79) (.t 81))⟩,
          ⟨some 83, none, [], .p (.bin .xor (.t 77) (.t 82))⟩,
          ⟨some 84, none, [], .p (.bin .add (.t 68) (.t 83))⟩,
          ⟨some 13, none, [], .p (.mv (.t 84))⟩]) (
      .seq (
        .region [
          ⟨some 85, none, [], .p (.slcA 8 1 (.t 5) (some (.c (.int .i64 1))) none)⟩,
          ⟨some 86, none, [], .p (.slcA 8 1 (.t 5) none (some (.c (.int .i64 7))))⟩,
          ⟨some 87, none, [], .w (.copy 1 (.t 85) (.t 86))⟩]) (
      .region [
        ⟨some 88, none, [], .p (.mv (.t 12))⟩,
        ⟨some 89, none, [], .p (.mv (.t 13))⟩,
        ⟨some 90, none, [], .p (.bin .add (.t 88) (.t 89))⟩,
        ⟨some 91, none, [], .p (.iaddrA 8 1 (.t 5) (.c (.int .i64 4)))⟩,
        ⟨some 92, none, [], .r (.load1 (.t 91))⟩,
        ⟨some 93, none, [], .p (.mv (.t 12))⟩,
        ⟨some 94, none, [], .p (.bin .add (.t 92) (.t 93))⟩,
        ⟨some 95, none, [], .p (.iaddrA 8 1 (.t 5) (.c (.int .i64 0)))⟩,
        ⟨none, none, [], .w (.store1 (.t 95) (.t 90))⟩,
        ⟨some 96, none, [], .p (.iaddrA 8 1 (.t 5) (.c (.int .i64 4)))⟩,
        ⟨none, none, [], .w (.store1 (.t 96) (.t 94))⟩]))))))))) (
  .region [
    ⟨some 97, none, [], .p (.bin .add (.t 23) (.c (.int .i64 1)))⟩,
    ⟨some 23, none, [], .p (.mv (.t 97))⟩])))

def s78 : SFunc := ⟨
  .seq (
    .regionF [
      ⟨some 16, none, [], .p (.mv (.t 1))⟩,
      ⟨some 17, none, [24, 28], .call 4 4 true (.f 81) [.t 16]⟩,
      ⟨some 18, none, [], .p (.mv (.t 0))⟩,
      ⟨some 19, none, [], .p (.nilChk (.t 18))⟩,
      ⟨some 20, none, [], .p (.faddr 0 (.t 19))⟩,
      ⟨some 21, none, [4, 5, 6, 7, 24, 28], .r (.loadN 8 (.t 20))⟩,
      ⟨some 4, none, [4, 5, 6, 7, 28], .a 24 (.alloc [u32 0#32, u32 0#32, u32 0#32, u32 0#32, u32 0#32, u32 0#32, u32 0#32, u32 0#32, u32 0#32, u32 0#32, u32 0#32, u32 0#32, u32 0#32, u32 0#32, u32 0#32, u32 0#32, u32 0#32, u32 0#32, u32 0#32, u32 0#32, u32 0#32, u32 0#32, u32 0#32, u32 0#32, u32 0#32, u32 0#32, u32 0#32, u32 0#32, u32 0#32, u32 0#32, u32 0#32, u32 0#32, u32 0#32, u32 0#32, u32 0#32, u32 0#32, u32 0#32, u32 0#32, u32 0#32, u32 0#32, u32 0#32, u32 0#32, u32 0#32, u32 0#32, u32 0#32, u32 0#32, u32 0#32, u32 0#32, u32 0#32, u32 0#32, u32 0#32, u32 0#32, u32 0#32, u32 0#32, u32 0#32, u32 0#32, u32 0#32, u32 0#32, u32 0#32, u32 0#32, u32 0#32, u32 0#32, u32 0#32, u32 0#32])⟩,
      ⟨some 5, none, [4, 5, 6, 7, 24], .a 28 (.alloc [u32 0#32, u32 0#32, u32 0#32, u32 0#32, u32 0#32, u32 0#32, u32 0#32, u32 0#32])⟩,
      ⟨none, none, [], .w (.storeN 64 (.t 4) (.t 17))⟩,
      ⟨none, none, [], .w (.storeN 8 (.t 5) (.t 21))⟩] [(20, 4)]) (
  .seq (
    .seq (
      .region [
        ⟨some 22, none, [], .r (.loadN 64 (.g 3 64))⟩,
        ⟨some 23, none, [], .p (.mv (.c (.int .i64 0)))⟩]) (
    .block 0 (
      .loop k78_0 a78_0 s78_b0))) (
  .seq (
    .region [
      ⟨some 98, none, [], .r (.loadN 8 (.t 5))⟩,
      ⟨some 99, none, [], .p (.mv (.c (.int .i64 0)))⟩]) (
  .block 2 (
    .loop k78_1 a78_1 s78_b1)))),
  115, []⟩

theorem c78 : cFunc Tryd.prog quiet Tryd.f78 [[0, 4, 5, 22, 23], [0, 5], [0, 98, 99], []] = some s78 := by kernel_rfl

-- 80 calls []
abbrev k80_0 : List Nat := [0, 5, 6]
abbrev a80_0 : List Nat := [0]
abbrev e80_0 (v0 v5 v6 : AV) : Env := [v0, .dead, .dead, .dead, .dead, v5, v6, .dead, .dead, .dead, .dead, .dead, .dead, .dead, .dead, .dead, .dead, .dead, .dead, .dead, .dead, .dead, .dead, .dead, .dead, .dead, .dead]
abbrev x80_0 (v0 : AV) : Env := [v0, .dead, .dead, .dead, .dead, .dead, .dead, .dead, .dead, .dead, .dead, .dead, .dead, .dead, .dead, .dead, .dead, .dead, .dead, .dead, .dead, .dead, .dead, .dead, .dead, .dead, .dead]
def s80_b0 : SCode :=
  .seq (
    .seq (
      .region [
        ⟨some 14, none, [], .p (.mv (.t 6))⟩,
        ⟨some 15, none, [], .p (.mv (.t 5))⟩,
        ⟨some 16, none, [], .p (.bin .lss (.t 14) (.t 15))⟩]) (
    .cond (.t 16) (
      .skip) (
      .exit 0))) (
  .seq (
    .block 1 (
      .seq (
        .region [
          ⟨some 19, none, [], .p (.mv (.t 0))⟩,
          ⟨some 20, none, [], .p (.bin .rem (.t 19) (.c (u32 2#32)))⟩,
          ⟨some 7, none, [], .p (.mv (.t 20))⟩]) (
      .region [
        ⟨some 21, none, [], .p (.mv (.t 0))⟩,
        ⟨some 22, none, [], .p (.bin .quo (.t 21) (.c (u32 2#32)))⟩,
        ⟨some 23, none, [], .p (.mv (.t 7))⟩,
        ⟨some 24, none, [], .p (.bin .mul (.t 23) (.c (u32 2147483648#32)))⟩,
        ⟨some 25, none, [], .p (.bin .add (.t 22) (.t 24))⟩,
        ⟨some 0, none, [], .p (.mv (.t 25))⟩]))) (
  .region [
    ⟨some 17, none, [], .p (.mv (.t 6))⟩,
    ⟨some 18, none, [], .p (.bin .add (.t 17) (.c (.int .i64 1)))⟩,
    ⟨some 6, none, [], .p (.mv (.t 18))⟩]))

def s80 : SFunc := ⟨
  .seq (
    .region [
      ⟨some 4, none, [], .p (.mv (.c (u32 0#32)))⟩]) (
  .seq (
    .region [
      ⟨some 8, none, [], .p (.mv (.t 1))⟩,
      ⟨some 9, none, [], .p (.bin .rem (.t 8) (.c (.int .i64 32)))⟩,
      ⟨some 5, none, [], .p (.mv (.t 9))⟩]) (
  .seq (
    .seq (
      .region [
        ⟨some 10, none, [], .p (.mv (.t 5))⟩,
        ⟨some 11, none, [], .p (.bin .lss (.t 10) (.c (.int .i64 0)))⟩]) (
    .cond (.t 11) (
      .region [
        ⟨some 12, none, [], .p (.mv (.t 5))⟩,
        ⟨some 13, none, [], .p (.bin .add (.t 12) (.c (.int .i64 32)))⟩,
        ⟨some 5, none, [], .p (.mv (.t 13))⟩]) (
      .skip))) (
  .seq (
    .seq (
      .region [
        ⟨some 6, none, [], .p (.mv (.c (.int .i64 0)))⟩]) (
    .block 0 (
      .loop k80_0 a80_0 s80_b0))) (
  .seq (
    .region [
      ⟨some 26, none, [], .p (.mv (.t 0))⟩,
      ⟨some 4, none, [], .p (.mv (.t 26))⟩]) (
  .ret))))),
  27, [Sum.inl 4]⟩

theorem c80 : cFunc Tryd.prog quiet Tryd.f80 [[0, 5, 6], [0]] = some s80 := by kernel_rfl

-- 81 calls [53, 82]
abbrev k81_0 : List Nat := [2, 3, 6]
abbrev a81_0 : List Nat := [2, 3]
abbrev e81_0 (v2 v3 v6 : AV) : Env := [.dead, .dead, v2, v3, .dead, .dead, v6, .dead, .dead, .dead, .dead, .dead, .dead, .dead, .dead, .dead, .dead, .dead, .dead, .dead, .dead, .dead, .dead, .dead, .dead, .dead, .dead, .dead, .dead, .dead, .dead, .dead, .dead, .dead, .dead, .dead, .dead, .dead, .dead, .dead, .dead, .dead, .dead, .dead, .dead, .dead, .dead, .dead, .dead, .dead, .dead, .dead, .dead, .dead, .dead, .dead, .dead, .dead, .dead, .dead, .dead, .dead, .dead]
abbrev x81_0 (v2 v3 : AV) : Env := [.dead, .dead, v2, v3, .dead, .dead, .dead, .dead, .dead, .dead, .dead, .dead, .dead, .dead, .dead, .dead, .dead, .dead, .dead, .dead, .dead, .dead, .dead, .dead, .dead, .dead, .dead, .dead, .dead, .dead, .dead, .dead, .dead, .dead, .dead, .dead, .dead, .dead, .dead, .dead, .dead, .dead, .dead, .dead, .dead, .dead, .dead, .dead, .dead, .dead, .dead, .dead, .dead, .dead, .dead, .dead, .dead, .dead, .dead, .dead, .dead, .dead, .dead]
def s81_b0 : SCode :=
  .seq (
    .seq (
      .region [
        ⟨some 19, none, [], .p (.mv (.t 6))⟩,
        ⟨some 20, none, [], .p (.bin .lss (.t 19) (.c (.int .i64 64)))⟩]) (
    .cond (.t 20) (
      .skip) (
      .exit 0))) (
  .seq (
    .block 1 (
      .seq (
        .region [
          ⟨some 23, none, [], .p (.mv (.t 6))⟩,
          ⟨some 24, none, [], .p (.bin .sub (.t 23) (.c (.int .i64 15)))⟩,
          ⟨some 25, none, [], .p (.iaddrA 64 1 (.t 3) (.t 24))⟩,
          ⟨some 26, none, [], .r (.load1 (.t 25))⟩,
          ⟨some 27, none, [], .p (.mv (.t 6))⟩,
          ⟨some 28, none, [], .p (.bin .sub (.t 27) (.c (.int .i64 2)))⟩,
          ⟨some 29, none, [], .p (.iaddrA 64 1 (.t 3) (.t 28))⟩,
          ⟨some 30, none, [], .r (.load1 (.t 29))⟩,
          ⟨some 7, none, [], .p (.mv (.t 26))⟩,
          ⟨some 8, none, [], .p (.mv (.t 30))⟩]) (
      .seq (
        .region [
          ⟨some 31, none, [], .p (.mv (.t 7))⟩,
          ⟨some 32, none, [], .call 32004 4 true (.f 82) [.t 31, .c (.int .i64 7)]⟩,
          ⟨some 33, none, [], .p (.mv (.t 7))⟩,
          ⟨some 34, none, [], .call 32012 4 true (.f 82) [.t 33, .c (.int .i64 18)]⟩,
          ⟨some 35, none, [], .p (.bin .xor (.t 32) (.t 34))⟩,
          ⟨some 36, none, [], .p (.mv (.t 7))⟩,
          ⟨some 37, none, [], .p (.bin .shr (.t 36) (.c (u64 3#64)))⟩,
          ⟨some 38, none, [], .p (.bin .xor (.t 35) (.t 37))⟩,
          ⟨some 9, none, [], .p (.mv (.t 38))⟩]) (
      .seq (
        .region [
          ⟨some 39, none, [], .p (.mv (.t 8))⟩,
          ⟨some 40, none, [], .call 36004 4 true (.f 82) [.t 39, .c (.int .i64 17)]⟩,
          ⟨some 41, none, [], .p (.mv (.t 8))⟩,
          ⟨some 42, none, [], .call 36012 4 true (.f 82) [.t 41, .c (.int .i64 19)]⟩,
          ⟨some 43, none, [], .p (.bin .xor (.t 40) (.t 42))⟩,
          ⟨some 44, none, [], .p (.mv (.t 8))⟩,
          ⟨some 45, none, [], .p (.bin .shr (.t 44) (.c (u64 10#64)))⟩,
          ⟨some 46, none, [], .p (.bin .xor (.t 43) (.t 45))⟩,
          ⟨some 10, none, [], .p (.mv (.t 46))⟩]) (
      .region [
        ⟨some 47, none, [], .p (.mv (.t 6))⟩,
        ⟨some 48, none, [], .p (.mv (.t 6))⟩,
        ⟨some 49, none, [], .p (.bin .sub (.t 48) (.c (.int .i64 16)))⟩,
        ⟨some 50, none, [], .p (.iaddrA 64 1 (.t 3) (.t 49))⟩,
        ⟨some 51, none, [], .r (.load1 (.t 50))⟩,
        ⟨some 52, none, [], .p (.mv (.t 9))⟩,
        ⟨some 53, none, [], .p (.bin .add (.t 51) (.t 52))⟩,
        ⟨some 54, none, [], .p (.mv (.t 6))⟩,
        ⟨some 55, none, [], .p (.bin .sub (.t 54) (.c (.int .i64 7)))⟩,
        ⟨some 56, none, [], .p (.iaddrA 64 1 (.t 3) (.t 55))⟩,
        ⟨some 57, none, [], .r (.load1 (.t 56))⟩,
        ⟨some 58, none, [], .p (.bin .add (.t 53) (.t 57))⟩,
        ⟨some 59, none, [], .p (.mv (.t 10))⟩,
        ⟨some 60, none, [], .p (.bin .add (.t 58) (.t 59))⟩,
        ⟨some 61, none, [], .p (.iaddrA 64 1 (.t 3) (.t 47))⟩,
        ⟨none, none, [], .w (.store1 (.t 61) (.t 60))⟩]))))) (
  .region [
    ⟨some 21, none, [], .p (.mv (.t 6))⟩,
    ⟨some 22, none, [], .p (.bin .add (.t 21) (.c (.int .i64 1)))⟩,
    ⟨some 6, none, [], .p (.mv (.t 22))⟩]))

def s81 : SFunc := ⟨
  .seq (
    .region [
      ⟨some 2, none, [], .a 0 (.alloc [u32 0#32, u32 0#32, u32 0#32, u32 0#32, u32 0#32, u32 0#32, u32 0#32, u32 0#32, u32 0#32, u32 0#32, u32 0#32, u32 0#32, u32 0#32, u32 0#32, u32 0#32, u32 0#32, u32 0#32, u32 0#32, u32 0#32, u32 0#32, u32 0#32, u32 0#32, u32 0#32, u32 0#32, u32 0#32, u32 0#32, u32 0#32, u32 0#32, u32 0#32, u32 0#32, u32 0#32, u32 0#32, u32 0#32, u32 0#32, u32 0#32, u32 0#32, u32 0#32, u32 0#32, u32 0#32, u32 0#32, u32 0#32, u32 0#32, u32 0#32, u32 0#32, u32 0#32, u32 0#32, u32 0#32, u32 0#32, u32 0#32, u32 0#32, u32 0#32, u32 0#32, u32 0#32, u32 0#32, u32 0#32, u32 0#32, u32 0#32, u32 0#32, u32 0#32, u32 0#32, u32 0#32, u32 0#32, u32 0#32, u32 0#32])⟩]) (
  .seq (
    .region [
      ⟨some 3, none, [], .a 4000 (.alloc [u32 0#32, u32 0#32, u32 0#32, u32 0#32, u32 0#32, u32 0#32, u32 0#32, u32 0#32, u32 0#32, u32 0#32, u32 0#32, u32 0#32, u32 0#32, u32 0#32, u32 0#32, u32 0#32, u32 0#32, u32 0#32, u32 0#32, u32 0#32, u32 0#32, u32 0#32, u32 0#32, u32 0#32, u32 0#32, u32 0#32, u32 0#32, u32 0#32, u32 0#32, u32 0#32, u32 0#32, u32 0#32, u32 0#32, u32 0#32, u32 0#32, u32 0#32, u32 0#32, u32 0#32, u32 0#32, u32 0#32, u32 0#32, u32 0#32, u32 0#32, u32 0#32, u32 0#32, u32 0#32, u32 0#32, u32 0#32, u32 0#32, u32 0#32, u32 0#32, u32 0#32, u32 0#32, u32 0#32, u32 0#32, u32 0#32, u32 0#32, u32 0#32, u32 0#32, u32 0#32, u32 0#32, u32 0#32, u32 0#32, u32 0#32])⟩]) (
  .seq (
    .region [
      ⟨some 12, none, [], .p (.mv (.t 0))⟩,
      ⟨some 13, none, [], .call 8004 4 true (.f 53) [.t 12]⟩,
      ⟨some 11, none, [], .p (.mv (.t 13))⟩,
      ⟨some 14, none, [], .p (.extract (.t 11) 0)⟩,
      ⟨some 15, none, [], .p (.extract (.t 11) 1)⟩,
      ⟨some 4, none, [], .p (.mv (.t 14))⟩,
      ⟨some 5, none, [], .p (.mv (.t 15))⟩]) (
  .seq (
    .region [
      ⟨some 16, none, [], .p (.slcA 64 1 (.t 3) none none)⟩,
      ⟨some 17, none, [], .p (.mv (.t 4))⟩,
      ⟨some 18, none, [], .w (.copy 1 (.t 16) (.t 17))⟩]) (
  .seq (
    .seq (
      .region [
        ⟨some 6, none, [], .p (.mv (.c (.int .i64 16)))⟩]) (
    .block 0 (
      .loop k81_0 a81_0 s81_b0))) (
  .seq (
    .region [
      ⟨some 62, none, [], .r (.loadN 64 (.t 3))⟩,
      ⟨none, none, [], .w (.storeN 64 (.t 2) (.t 62))⟩]) (
  .ret)))))),
  63, [Sum.inr (2, 64, true)]⟩

theorem c81 : cFunc Tryd.prog quiet Tryd.f81 [[2, 3, 6], [2, 3]] = some s81 := by kernel_rfl

-- 82 calls [87]
def s82 : SFunc := ⟨
  .seq (
    .region [
      ⟨some 4, none, [], .p (.mv (.c (u32 0#32)))⟩]) (
  .seq (
    .region [
      ⟨some 5, none, [], .p (.mv (.t 0))⟩,
      ⟨some 6, none, [], .p (.mv (.t 1))⟩,
      ⟨some 7, none, [], .p (.conv .u64 (.t 6))⟩,
      ⟨some 8, none, [], .p (.bin .rem (.t 7) (.c (u64 32#64)))⟩,
      ⟨some 9, none, [], .p (.conv .i64 (.t 8))⟩,
      ⟨some 10, none, [], .p (.bin .sub (.c (.int .i64 32)) (.t 9))⟩,
      ⟨some 11, none, [], .call 4024 4 true (.f 87) [.t 5, .t 10]⟩,
      ⟨some 4, none, [], .p (.mv (.t 11))⟩]) (
  .ret)),
  12, [Sum.inl 4]⟩

theorem c82 : cFunc Tryd.prog quiet Tryd.f82 [] = some s82 := by kernel_rfl

-- 87 calls []
def s87 : SFunc := ⟨
  .seq (
    .region [
      ⟨some 4, none, [], .p (.mv (.c (u32 0#32)))⟩]) (
  .seq (
    .region [
      ⟨some 6, none, [], .p (.mv (.t 1))⟩,
      ⟨some 7, none, [], .p (.conv .u64 (.t 6))⟩,
      ⟨some 8, none, [], .p (.bin .rem (.t 7) (.c (u64 32#64)))⟩,
      ⟨some 5, none, [], .p (.mv (.t 8))⟩]) (
  .seq (
    .region [
      ⟨some 9, none, [], .p (.mv (.t 0))⟩,
      ⟨some 10, none, [], .p (.mv (.t 5))⟩,
      ⟨some 11, none, [], .p (.bin .shl (.t 9) (.t 10))⟩,
      ⟨some 12, none, [], .p (.mv (.t 0))⟩,
      ⟨some 13, none, [], .p (.mv (.t 5))⟩,
      ⟨some 14, none, [], .p (.bin .sub (.c (u64 32#64)) (.t 13))⟩,
      ⟨some 15, none, [], .p (.bin .shr (.t 12) (.t 14))⟩,
      ⟨some 16, none, [], .p (.bin .or (.t 11) (.t 15))⟩,
      ⟨some 4, none, [], .p (.mv (.t 16))⟩]) (
  .ret))),
  17, [Sum.inl 4]⟩

theorem c87 : cFunc Tryd.prog quiet Tryd.f87 [] = some s87 := by kernel_rfl

def SP : SProg := tabO [(3, s3), (4, s4), (5, s5), (6, s6), (8, s8), (9, s9), (10, s10), (11, s11), (12, s12), (13, s13), (14, s14), (15, s15), (16, s16), (17, s17), (18, s18), (19, s19), (26, s26), (27, s27), (28, s28), (29, s29), (30, s30), (31, s31), (32, s32), (33, s33), (34, s34), (35, s35), (36, s36), (37, s37), (38, s38), (39, s39), (40, s40), (47, s47), (48, s48), (51, s51), (52, s52), (53, s53), (59, s59), (60, s60), (61, s61), (62, s62), (64, s64), (65, s65), (68, s68), (69, s69), (70, s70), (71, s71), (72, s72), (73, s73), (74, s74), (75, s75), (78, s78), (80, s80), (81, s81), (82, s82), (87, s87)] (repO 79)

theorem comp : Comp Tryd.prog SP := comp_ofO (by kernel_rfl) ⟨⟨_, _, _, Tryd.func3, c3⟩, ⟨_, _, _, Tryd.func4, c4⟩, ⟨_, _, _, Tryd.func5, c5⟩, ⟨_, _, _, Tryd.func6, c6⟩, ⟨_, _, _, Tryd.func8, c8⟩, ⟨_, _, _, Tryd.func9, c9⟩, ⟨_, _, _, Tryd.func10, c10⟩, ⟨_, _, _, Tryd.func11, c11⟩, ⟨_, _, _, Tryd.func12, c12⟩, ⟨_, _, _, Tryd.func13, c13⟩, ⟨_, _, _, Tryd.func14, c14⟩, ⟨_, _, _, Tryd.func15, c15⟩, ⟨_, _, _, Tryd.func16, c16⟩, ⟨_, _, _, Tryd.func17, c17⟩, ⟨_, _, _, Tryd.func18, c18⟩, ⟨_, _, _, Tryd.func19, c19⟩, ⟨_, _, _, Tryd.func26, c26⟩, ⟨_, _, _, Tryd.func27, c27⟩, ⟨_, _, _, Tryd.func28, c28⟩, ⟨_, _, _, Tryd.func29, c29⟩, ⟨_, _, _, Tryd.func30, c30⟩, ⟨_, _, _, Tryd.func31, c31⟩, ⟨_, _, _, Tryd.func32, c32⟩, ⟨_, _, _, Tryd.func33, c33⟩, ⟨_, _, _, Tryd.func34, c34⟩, ⟨_, _, _, Tryd.func35, c35⟩, ⟨_, _, _, Tryd.func36, c36⟩, ⟨_, _, _, Tryd.func37, c37⟩, ⟨_, _, _, Tryd.func38, c38⟩, ⟨_, _, _, Tryd.func39, c39⟩, ⟨_, _, _, Tryd.func40, c40⟩, ⟨_, _, _, Tryd.func47, c47⟩, ⟨_, _, _, Tryd.func48, c48⟩, ⟨_, _, _, Tryd.func51, c51⟩, ⟨_, _, _, Tryd.func52, c52⟩, ⟨_, _, _, Tryd.func53, c53⟩, ⟨_, _, _, Tryd.func59, c59⟩, ⟨_, _, _, Tryd.func60, c60⟩, ⟨_, _, _, Tryd.func61, c61⟩, ⟨_, _, _, Tryd.func62, c62⟩, ⟨_, _, _, Tryd.func64, c64⟩, ⟨_, _, _, Tryd.func65, c65⟩, ⟨_, _, _, Tryd.func68, c68⟩, ⟨_, _, _, Tryd.func69, c69⟩, ⟨_, _, _, Tryd.func70, c70⟩, ⟨_, _, _, Tryd.func71, c71⟩, ⟨_, _, _, Tryd.func72, c72⟩, ⟨_, _, _, Tryd.func73, c73⟩, ⟨_, _, _, Tryd.func74, c74⟩, ⟨_, _, _, Tryd.func75, c75⟩, ⟨_, _, _, Tryd.func78, c78⟩, ⟨_, _, _, Tryd.func80, c80⟩, ⟨_, _, _, Tryd.func81, c81⟩, ⟨_, _, _, Tryd.func82, c82⟩, ⟨_, _, _, Tryd.func87, c87⟩, trivial⟩ (repO_ok Tryd.bldOk Tryd.rep)


end Go.Proofs.YtaennaoaoahjmaaDoor
