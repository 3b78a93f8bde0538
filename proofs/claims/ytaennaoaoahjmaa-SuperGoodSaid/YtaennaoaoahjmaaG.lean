import Derived.Test.YtaennaoaoahjmaaProg
import Derived.Test.YtaennaoaoahjmaaDetQ
import Derived.KernelRfl
import Derived.Test.YtaennaoaoahjmaaBld
set_option maxRecDepth 100000
namespace Go.Proofs.Ytaennaoaoahjmaa
open Go.Det

def quiet : Qs := (⟨(fun n => !([5020032, 5040016, 5060052, 28, 29, 30, 38, 39] : List Nat).contains n), fun _ => none⟩ : Qs)

-- 3 calls [7, 8, 9, 10, 11, 12]
def s3 : SFunc := ⟨
  .seq (
    .region [
      ⟨some 1, none, [], .a 0 (.box (.t 0))⟩,
      ⟨some 2, none, [], .p (.mv (.c (.bool false)))⟩]) (
  .seq (
    .region [
      ⟨some 10, none, [], .r (.loadN 9 (.t 1))⟩,
      ⟨some 11, none, [], .call 4004 4 true (.f 7) [.t 10]⟩,
      ⟨some 9, none, [], .p (.mv (.t 11))⟩,
      ⟨some 12, none, [], .p (.extract (.t 9) 0)⟩,
      ⟨some 13, none, [], .p (.extract (.t 9) 1)⟩,
      ⟨some 3, none, [], .a 4020 (.alloc [u64 0#64, u64 0#64, .int .i64 0, .int .i64 0, .int .i64 0, .int .i64 0, .bool false, .slice none 0 0, .slice none 0 0])⟩,
      ⟨some 4, none, [], .a 4024 (.alloc [u64 0#64, u64 0#64, .int .i64 0, .int .i64 0, .int .i64 0, .int .i64 0, .bool false, .slice none 0 0, .slice none 0 0])⟩,
      ⟨none, none, [], .w (.storeN 9 (.t 3) (.t 12))⟩,
      ⟨none, none, [], .w (.storeN 9 (.t 4) (.t 13))⟩]) (
  .seq (
    .region [
      ⟨some 15, none, [], .r (.loadN 9 (.t 3))⟩,
      ⟨some 16, none, [], .call 8004 4 true (.f 8) [.t 15]⟩,
      ⟨some 14, none, [], .p (.mv (.t 16))⟩,
      ⟨some 17, none, [], .p (.extract (.t 14) 0)⟩,
      ⟨some 18, none, [], .p (.extract (.t 14) 1)⟩,
      ⟨some 5, none, [], .p (.mv (.t 17))⟩,
      ⟨some 6, none, [], .p (.mv (.t 18))⟩]) (
  .seq (
    .region [
      ⟨some 20, none, [], .r (.loadN 9 (.t 4))⟩,
      ⟨some 21, none, [], .call 12004 4 true (.f 9) [.t 20]⟩,
      ⟨some 19, none, [], .p (.mv (.t 21))⟩,
      ⟨some 22, none, [], .p (.extract (.t 19) 0)⟩,
      ⟨some 23, none, [], .p (.extract (.t 19) 1)⟩,
      ⟨some 7, none, [], .p (.mv (.t 22))⟩,
      ⟨some 8, none, [], .p (.mv (.t 23))⟩]) (
  .seq (
    .region [
      ⟨some 24, none, [], .call 16000 4 true (.f 10) []⟩,
      ⟨some 25, none, [], .p (.mv (.t 24))⟩,
      ⟨some 26, some (25, true), [], .r (.loadN 9 (.t 3))⟩,
      ⟨some 27, some (25, true), [], .call 16012 4 true (.f 11) [.t 26]⟩,
      ⟨some 28, some (25, true), [16012, 16013, 16014, 16015], .r (.loadN 9 (.t 4))⟩,
      ⟨some 29, some (25, true), [], .call 16020 4 true (.f 12) [.t 28]⟩,
      ⟨some 30, some (25, true), [], .p (.eqb false (.t 27) (.t 29))⟩,
      ⟨some 31, none, [], .p (.pick (.t 25) (.t 30) (.c (.bool false)))⟩,
      ⟨some 32, none, [], .p (.mv (.t 31))⟩,
      ⟨some 33, some (32, true), [], .p (.mv (.t 5))⟩,
      ⟨some 34, some (32, true), [], .p (.mv (.t 7))⟩,
      ⟨some 35, some (32, true), [], .p (.bin .eql (.t 33) (.t 34))⟩,
      ⟨some 36, none, [], .p (.pick (.t 32) (.t 35) (.c (.bool false)))⟩,
      ⟨some 37, none, [], .p (.mv (.t 36))⟩,
      ⟨some 38, some (37, true), [], .p (.mv (.t 6))⟩,
      ⟨some 39, some (37, true), [], .p (.mv (.t 8))⟩,
      ⟨some 40, some (37, true), [], .p (.bin .eql (.t 38) (.t 39))⟩,
      ⟨some 41, none, [], .p (.pick (.t 37) (.t 40) (.c (.bool false)))⟩,
      ⟨some 2, none, [], .p (.mv (.t 41))⟩]) (
  .ret))))),
  42, [Sum.inl 2]⟩

theorem c3 : cFunc Try.prog quiet Try.f3 [] = some s3 := by kernel_rfl

-- 4 calls [7, 8, 10, 11, 13, 14]
def s4 : SFunc := ⟨
  .seq (
    .region [
      ⟨some 2, none, [], .a 0 (.box (.t 0))⟩,
      ⟨some 4, none, [], .p (.mv (.c (.bool false)))⟩]) (
  .seq (
    .region [
      ⟨some 16, none, [], .r (.loadN 9 (.t 2))⟩,
      ⟨some 17, none, [], .call 4004 4 true (.f 7) [.t 16]⟩,
      ⟨some 15, none, [], .p (.mv (.t 17))⟩,
      ⟨some 18, none, [], .p (.extract (.t 15) 0)⟩,
      ⟨some 19, none, [], .p (.extract (.t 15) 1)⟩,
      ⟨some 5, none, [], .a 4020 (.alloc [u64 0#64, u64 0#64, .int .i64 0, .int .i64 0, .int .i64 0, .int .i64 0, .bool false, .slice none 0 0, .slice none 0 0])⟩,
      ⟨some 6, none, [], .a 4024 (.alloc [u64 0#64, u64 0#64, .int .i64 0, .int .i64 0, .int .i64 0, .int .i64 0, .bool false, .slice none 0 0, .slice none 0 0])⟩,
      ⟨none, none, [], .w (.storeN 9 (.t 5) (.t 18))⟩,
      ⟨none, none, [], .w (.storeN 9 (.t 6) (.t 19))⟩]) (
  .seq (
    .region [
      ⟨some 21, none, [], .r (.loadN 9 (.t 5))⟩,
      ⟨some 22, none, [], .call 8004 4 true (.f 8) [.t 21]⟩,
      ⟨some 20, none, [], .p (.mv (.t 22))⟩,
      ⟨some 23, none, [], .p (.extract (.t 20) 0)⟩,
      ⟨some 24, none, [], .p (.extract (.t 20) 1)⟩,
      ⟨some 7, none, [], .p (.mv (.t 23))⟩,
      ⟨some 8, none, [], .p (.mv (.t 24))⟩]) (
  .seq (
    .seq (
      .region [
        ⟨some 25, none, [], .call 12000 4 true (.f 10) []⟩,
        ⟨some 26, none, [], .p (.un .not (.t 25))⟩,
        ⟨some 27, none, [], .p (.mv (.t 26))⟩,
        ⟨some 28, some (27, false), [], .p (.mv (.t 8))⟩,
        ⟨some 29, some (27, false), [], .p (.bin .neq (.t 28) (.c (.int .i64 0)))⟩,
        ⟨some 30, none, [], .p (.pick (.t 27) (.c (.bool true)) (.t 29))⟩]) (
    .cond (.t 30) (
      .seq (
        .region [
          ⟨some 31, none, [], .call 16000 4 true (.f 10) []⟩,
          ⟨some 32, none, [], .p (.mv (.t 31))⟩,
          ⟨some 33, some (32, true), [], .p (.mv (.t 7))⟩,
          ⟨some 34, some (32, true), [], .p (.bin .eql (.t 33) (.c (.str [])))⟩,
          ⟨some 35, none, [], .p (.pick (.t 32) (.t 34) (.c (.bool false)))⟩,
          ⟨some 36, none, [], .p (.mv (.t 35))⟩,
          ⟨some 37, some (36, true), [], .r (.loadN 9 (.t 5))⟩,
          ⟨some 38, some (36, true), [], .call 16028 4 true (.f 11) [.t 37]⟩,
          ⟨some 39, some (36, true), [], .p (.un .not (.t 38))⟩,
          ⟨some 40, none, [], .p (.pick (.t 36) (.t 39) (.c (.bool false)))⟩,
          ⟨some 4, none, [], .p (.mv (.t 40))⟩]) (
      .ret)) (
      .skip))) (
  .seq (
    .region [
      ⟨some 42, none, [], .p (.mv (.t 7))⟩,
      ⟨some 43, none, [], .call 20004 4 true (.f 13) [.t 42]⟩,
      ⟨some 41, none, [], .p (.mv (.t 43))⟩,
      ⟨some 44, none, [], .p (.extract (.t 41) 0)⟩,
      ⟨some 45, none, [], .p (.extract (.t 41) 1)⟩,
      ⟨some 9, none, [], .a 20020 (.alloc [u64 0#64, u64 0#64, .int .i64 0, .int .i64 0, .int .i64 0, .int .i64 0, .bool false, .slice none 0 0, .slice none 0 0])⟩,
      ⟨none, none, [], .w (.storeN 9 (.t 9) (.t 44))⟩,
      ⟨some 10, none, [], .p (.mv (.t 45))⟩]) (
  .seq (
    .region [
      ⟨some 47, none, [], .p (.mv (.t 7))⟩,
      ⟨some 48, none, [], .p (.mv (.t 1))⟩,
      ⟨some 49, none, [], .p (.minmax true (.c (.int .i64 0)) (.t 48))⟩,
      ⟨some 50, none, [], .p (.mv (.t 7))⟩,
      ⟨some 51, none, [], .p (.lenV false (.t 50))⟩,
      ⟨some 52, none, [], .p (.bin .rem (.t 49) (.t 51))⟩,
      ⟨some 53, none, [], .p (.slcStr (.t 47) none (some (.t 52)))⟩,
      ⟨some 54, none, [], .call 24028 4 true (.f 13) [.t 53]⟩,
      ⟨some 46, none, [], .p (.mv (.t 54))⟩,
      ⟨some 55, none, [], .p (.extract (.t 46) 0)⟩,
      ⟨some 56, none, [], .p (.extract (.t 46) 1)⟩,
      ⟨some 11, none, [], .a 24044 (.alloc [u64 0#64, u64 0#64, .int .i64 0, .int .i64 0, .int .i64 0, .int .i64 0, .bool false, .slice none 0 0, .slice none 0 0])⟩,
      ⟨none, none, [], .w (.storeN 9 (.t 11) (.t 55))⟩,
      ⟨some 12, none, [], .p (.mv (.t 56))⟩]) (
  .seq (
    .region [
      ⟨some 58, none, [], .p (.mv (.t 7))⟩,
      ⟨some 59, none, [], .p (.bin .add (.t 58) (.c (.str [120])))⟩,
      ⟨some 60, none, [], .call 28008 4 true (.f 13) [.t 59]⟩,
      ⟨some 57, none, [], .p (.mv (.t 60))⟩,
      ⟨some 61, none, [], .p (.extract (.t 57) 0)⟩,
      ⟨some 62, none, [], .p (.extract (.t 57) 1)⟩,
      ⟨some 13, none, [], .a 28024 (.alloc [u64 0#64, u64 0#64, .int .i64 0, .int .i64 0, .int .i64 0, .int .i64 0, .bool false, .slice none 0 0, .slice none 0 0])⟩,
      ⟨none, none, [], .w (.storeN 9 (.t 13) (.t 61))⟩,
      ⟨some 14, none, [], .p (.mv (.t 62))⟩]) (
  .seq (
    .region [
      ⟨some 63, none, [], .p (.mv (.t 10))⟩,
      ⟨some 64, none, [], .p (.bin .eql (.t 63) (.c (.int .i64 0)))⟩,
      ⟨some 65, none, [], .p (.mv (.t 64))⟩,
      ⟨some 66, some (65, true), [], .r (.loadN 9 (.t 9))⟩,
      ⟨some 67, some (65, true), [], .r (.loadN 9 (.t 6))⟩,
      ⟨some 68, some (65, true), [], .call 32020 4 true (.f 14) [.t 66, .t 67]⟩,
      ⟨some 69, none, [], .p (.pick (.t 65) (.t 68) (.c (.bool false)))⟩,
      ⟨some 70, none, [], .p (.mv (.t 69))⟩,
      ⟨some 71, some (70, true), [], .p (.mv (.t 7))⟩,
      ⟨some 72, some (70, true), [], .p (.lenV false (.t 71))⟩,
      ⟨some 73, some (70, true), [], .p (.bin .leq (.t 72) (.c (.int .i64 2048)))⟩,
      ⟨some 74, none, [], .p (.pick (.t 70) (.t 73) (.c (.bool false)))⟩,
      ⟨some 75, none, [], .p (.mv (.t 74))⟩,
      ⟨some 76, some (75, true), [], .p (.mv (.t 12))⟩,
      ⟨some 77, some (75, true), [], .p (.bin .eql (.t 76) (.c (.int .i64 4)))⟩,
      ⟨some 78, none, [], .p (.pick (.t 75) (.t 77) (.c (.bool false)))⟩,
      ⟨some 79, none, [], .p (.mv (.t 78))⟩,
      ⟨some 80, some (79, true), [], .p (.mv (.t 14))⟩,
      ⟨some 81, some (79, true), [], .p (.bin .eql (.t 80) (.c (.int .i64 4)))⟩,
      ⟨some 82, none, [], .p (.pick (.t 79) (.t 81) (.c (.bool false)))⟩,
      ⟨some 4, none, [], .p (.mv (.t 82))⟩]) (
  .ret)))))))),
  83, [Sum.inl 4]⟩

theorem c4 : cFunc Try.prog quiet Try.f4 [] = some s4 := by kernel_rfl

-- 5 calls [7, 8, 10, 14]
def s5 : SFunc := ⟨
  .seq (
    .region [
      ⟨some 2, none, [], .a 0 (.box (.t 0))⟩,
      ⟨some 4, none, [], .p (.mv (.c (.bool false)))⟩]) (
  .seq (
    .region [
      ⟨some 14, none, [], .r (.loadN 9 (.t 2))⟩,
      ⟨some 15, none, [], .call 4004 4 true (.f 7) [.t 14]⟩,
      ⟨some 13, none, [], .p (.mv (.t 15))⟩,
      ⟨some 16, none, [], .p (.extract (.t 13) 0)⟩,
      ⟨some 17, none, [], .p (.extract (.t 13) 1)⟩,
      ⟨some 5, none, [], .a 4020 (.alloc [u64 0#64, u64 0#64, .int .i64 0, .int .i64 0, .int .i64 0, .int .i64 0, .bool false, .slice none 0 0, .slice none 0 0])⟩,
      ⟨some 6, none, [], .a 4024 (.alloc [u64 0#64, u64 0#64, .int .i64 0, .int .i64 0, .int .i64 0, .int .i64 0, .bool false, .slice none 0 0, .slice none 0 0])⟩,
      ⟨none, none, [], .w (.storeN 9 (.t 5) (.t 16))⟩,
      ⟨none, none, [], .w (.storeN 9 (.t 6) (.t 17))⟩]) (
  .seq (
    .region [
      ⟨some 19, none, [], .r (.loadN 9 (.t 2))⟩,
      ⟨some 20, none, [], .call 8004 4 true (.f 7) [.t 19]⟩,
      ⟨some 18, none, [], .p (.mv (.t 20))⟩,
      ⟨some 21, none, [], .p (.extract (.t 18) 0)⟩,
      ⟨some 22, none, [], .p (.extract (.t 18) 1)⟩,
      ⟨some 7, none, [], .a 8020 (.alloc [u64 0#64, u64 0#64, .int .i64 0, .int .i64 0, .int .i64 0, .int .i64 0, .bool false, .slice none 0 0, .slice none 0 0])⟩,
      ⟨some 8, none, [], .a 8024 (.alloc [u64 0#64, u64 0#64, .int .i64 0, .int .i64 0, .int .i64 0, .int .i64 0, .bool false, .slice none 0 0, .slice none 0 0])⟩,
      ⟨none, none, [], .w (.storeN 9 (.t 7) (.t 21))⟩,
      ⟨none, none, [], .w (.storeN 9 (.t 8) (.t 22))⟩]) (
  .seq (
    .seq (
      .region [
        ⟨some 23, none, [], .p (.mv (.t 1))⟩,
        ⟨some 24, none, [], .p (.bin .and (.t 23) (.c (.int .i64 7)))⟩]) (
    .block 0 (
      .seq (
        .region [
          ⟨some 26, none, [], .p (.bin .eql (.t 24) (.c (.int .i64 0)))⟩,
          ⟨some 25, none, [], .p (.mv (.t 26))⟩]) (
      .cond (.t 25) (
        .region [
          ⟨some 27, none, [], .p (.faddr 0 (.t 7))⟩,
          ⟨some 28, none, [], .r (.load1 (.t 27))⟩,
          ⟨some 29, none, [], .p (.bin .add (.t 28) (.c (u64 1#64)))⟩,
          ⟨some 30, none, [], .p (.faddr 0 (.t 7))⟩,
          ⟨none, none, [], .w (.store1 (.t 30) (.t 29))⟩]) (
        .seq (
          .region [
            ⟨some 32, none, [], .p (.bin .eql (.t 24) (.c (.int .i64 1)))⟩,
            ⟨some 31, none, [], .p (.mv (.t 32))⟩]) (
        .cond (.t 31) (
          .region [
            ⟨some 33, none, [], .p (.faddr 1 (.t 7))⟩,
            ⟨some 34, none, [], .r (.load1 (.t 33))⟩,
            ⟨some 35, none, [], .p (.bin .add (.t 34) (.c (u64 1#64)))⟩,
            ⟨some 36, none, [], .p (.faddr 1 (.t 7))⟩,
            ⟨none, none, [], .w (.store1 (.t 36) (.t 35))⟩]) (
          .seq (
            .region [
              ⟨some 38, none, [], .p (.bin .eql (.t 24) (.c (.int .i64 2)))⟩,
              ⟨some 37, none, [], .p (.mv (.t 38))⟩]) (
          .cond (.t 37) (
            .region [
              ⟨some 39, none, [], .p (.faddr 5 (.t 7))⟩,
              ⟨some 40, none, [], .r (.load1 (.t 39))⟩,
              ⟨some 41, none, [], .p (.bin .xor (.t 40) (.c (.int .i64 1)))⟩,
              ⟨some 42, none, [], .p (.faddr 5 (.t 7))⟩,
              ⟨none, none, [], .w (.store1 (.t 42) (.t 41))⟩]) (
            .seq (
              .region [
                ⟨some 44, none, [], .p (.bin .eql (.t 24) (.c (.int .i64 3)))⟩,
                ⟨some 43, none, [], .p (.mv (.t 44))⟩]) (
            .cond (.t 43) (
              .region [
                ⟨some 45, none, [], .p (.faddr 4 (.t 7))⟩,
                ⟨some 46, none, [], .r (.load1 (.t 45))⟩,
                ⟨some 47, none, [], .p (.bin .xor (.t 46) (.c (.int .i64 1)))⟩,
                ⟨some 48, none, [], .p (.faddr 4 (.t 7))⟩,
                ⟨none, none, [], .w (.store1 (.t 48) (.t 47))⟩]) (
              .seq (
                .region [
                  ⟨some 50, none, [], .p (.bin .eql (.t 24) (.c (.int .i64 4)))⟩,
                  ⟨some 49, none, [], .p (.mv (.t 50))⟩]) (
              .cond (.t 49) (
                .seq (
                  .region [
                    ⟨some 51, none, [], .p (.faddr 7 (.t 7))⟩,
                    ⟨some 52, none, [], .r (.load1 (.t 51))⟩,
                    ⟨some 53, none, [], .p (.lenV true (.t 52))⟩,
                    ⟨some 54, none, [], .p (.bin .gtr (.t 53) (.c (.int .i64 1)))⟩]) (
                .cond (.t 54) (
                  .regionF [
                    ⟨some 55, none, [], .p (.faddr 7 (.t 7))⟩,
                    ⟨some 56, none, [], .r (.load1 (.t 55))⟩,
                    ⟨some 57, none, [], .p (.faddr 7 (.t 7))⟩,
                    ⟨some 58, none, [], .r (.load1 (.t 57))⟩,
                    ⟨some 59, none, [], .p (.faddr 7 (.t 7))⟩,
                    ⟨some 60, none, [], .r (.load1 (.t 59))⟩,
                    ⟨some 61, none, [], .p (.iaddrS 1 (.t 60) (.c (.int .i64 1)))⟩,
                    ⟨some 62, none, [], .r (.load1 (.t 61))⟩,
                    ⟨some 63, none, [], .p (.faddr 7 (.t 7))⟩,
                    ⟨some 64, none, [], .r (.load1 (.t 63))⟩,
                    ⟨some 65, none, [], .p (.iaddrS 1 (.t 64) (.c (.int .i64 0)))⟩,
                    ⟨some 66, none, [], .r (.load1 (.t 65))⟩,
                    ⟨some 67, none, [], .p (.iaddrS 1 (.t 56) (.c (.int .i64 0)))⟩,
                    ⟨none, none, [], .w (.store1 (.t 67) (.t 62))⟩,
                    ⟨some 68, none, [], .p (.iaddrS 1 (.t 58) (.c (.int .i64 1)))⟩,
                    ⟨none, none, [], .w (.store1 (.t 68) (.t 66))⟩] [(57, 67)]) (
                  .skip))) (
                .seq (
                  .region [
                    ⟨some 70, none, [], .p (.bin .eql (.t 24) (.c (.int .i64 5)))⟩,
                    ⟨some 69, none, [], .p (.mv (.t 70))⟩]) (
                .cond (.t 69) (
                  .seq (
                    .region [
                      ⟨some 71, none, [], .p (.faddr 8 (.t 7))⟩,
                      ⟨some 72, none, [], .r (.load1 (.t 71))⟩,
                      ⟨some 73, none, [], .p (.lenV true (.t 72))⟩,
                      ⟨some 74, none, [], .p (.bin .gtr (.t 73) (.c (.int .i64 0)))⟩]) (
                  .cond (.t 74) (
                    .region [
                      ⟨some 75, none, [], .p (.faddr 8 (.t 7))⟩,
                      ⟨some 76, none, [], .r (.load1 (.t 75))⟩,
                      ⟨some 77, none, [], .p (.faddr 8 (.t 7))⟩,
                      ⟨some 78, none, [], .r (.load1 (.t 77))⟩,
                      ⟨some 79, none, [], .p (.lenV true (.t 78))⟩,
                      ⟨some 80, none, [], .p (.bin .sub (.t 79) (.c (.int .i64 1)))⟩,
                      ⟨some 81, none, [], .p (.iaddrS 3 (.t 76) (.t 80))⟩,
                      ⟨some 82, none, [], .p (.faddr 0 (.t 81))⟩,
                      ⟨some 83, none, [], .r (.load1 (.t 82))⟩,
                      ⟨some 84, none, [], .p (.bin .xor (.t 83) (.c (.int .i64 2)))⟩,
                      ⟨some 85, none, [], .p (.iaddrS 3 (.t 76) (.t 80))⟩,
                      ⟨some 86, none, [], .p (.faddr 0 (.t 85))⟩,
                      ⟨none, none, [], .w (.store1 (.t 86) (.t 84))⟩]) (
                    .skip))) (
                  .seq (
                    .region [
                      ⟨some 88, none, [], .p (.bin .eql (.t 24) (.c (.int .i64 6)))⟩,
                      ⟨some 87, none, [], .p (.mv (.t 88))⟩]) (
                  .cond (.t 87) (
                    .seq (
                      .region [
                        ⟨some 89, none, [], .p (.faddr 8 (.t 7))⟩,
                        ⟨some 90, none, [], .r (.load1 (.t 89))⟩,
                        ⟨some 91, none, [], .p (.lenV true (.t 90))⟩,
                        ⟨some 92, none, [], .p (.bin .gtr (.t 91) (.c (.int .i64 0)))⟩]) (
                    .cond (.t 92) (
                      .region [
                        ⟨some 93, none, [], .p (.faddr 8 (.t 7))⟩,
                        ⟨some 94, none, [], .r (.load1 (.t 93))⟩,
                        ⟨some 95, none, [], .p (.faddr 8 (.t 7))⟩,
                        ⟨some 96, none, [], .r (.load1 (.t 95))⟩,
                        ⟨some 97, none, [], .p (.iaddrS 3 (.t 96) (.c (.int .i64 0)))⟩,
                        ⟨some 98, none, [], .p (.faddr 1 (.t 97))⟩,
                        ⟨some 99, none, [], .r (.load1 (.t 98))⟩,
                        ⟨some 100, none, [], .p (.iaddrS 3 (.t 94) (.c (.int .i64 0)))⟩,
                        ⟨some 101, none, [], .p (.faddr 2 (.t 100))⟩,
                        ⟨none, none, [], .w (.store1 (.t 101) (.t 99))⟩]) (
                      .skip))) (
                    .skip))))))))))))))))) (
  .seq (
    .region [
      ⟨some 103, none, [], .r (.loadN 9 (.t 5))⟩,
      ⟨some 104, none, [], .call 84004 4 true (.f 8) [.t 103]⟩,
      ⟨some 102, none, [], .p (.mv (.t 104))⟩,
      ⟨some 105, none, [], .p (.extract (.t 102) 0)⟩,
      ⟨some 106, none, [], .p (.extract (.t 102) 1)⟩,
      ⟨some 9, none, [], .p (.mv (.t 105))⟩,
      ⟨some 10, none, [], .p (.mv (.t 106))⟩]) (
  .seq (
    .region [
      ⟨some 108, none, [], .r (.loadN 9 (.t 7))⟩,
      ⟨some 109, none, [], .call 88004 4 true (.f 8) [.t 108]⟩,
      ⟨some 107, none, [], .p (.mv (.t 109))⟩,
      ⟨some 110, none, [], .p (.extract (.t 107) 0)⟩,
      ⟨some 111, none, [], .p (.extract (.t 107) 1)⟩,
      ⟨some 11, none, [], .p (.mv (.t 110))⟩,
      ⟨some 12, none, [], .p (.mv (.t 111))⟩]) (
  .seq (
    .seq (
      .region [
        ⟨some 112, none, [], .p (.mv (.t 10))⟩,
        ⟨some 113, none, [], .p (.bin .neq (.t 112) (.c (.int .i64 0)))⟩,
        ⟨some 114, none, [], .p (.mv (.t 113))⟩,
        ⟨some 115, some (114, false), [], .p (.mv (.t 12))⟩,
        ⟨some 116, some (114, false), [], .p (.bin .neq (.t 115) (.c (.int .i64 0)))⟩,
        ⟨some 117, none, [], .p (.pick (.t 114) (.c (.bool true)) (.t 116))⟩]) (
    .cond (.t 117) (
      .seq (
        .region [
          ⟨some 118, none, [], .call 96000 4 true (.f 10) []⟩,
          ⟨some 4, none, [], .p (.mv (.t 118))⟩]) (
      .ret)) (
      .skip))) (
  .seq (
    .region [
      ⟨some 119, none, [], .call 100000 4 true (.f 10) []⟩,
      ⟨some 120, none, [], .p (.mv (.t 119))⟩,
      ⟨some 121, some (120, true), [], .p (.mv (.t 9))⟩,
      ⟨some 122, some (120, true), [], .p (.mv (.t 11))⟩,
      ⟨some 123, some (120, true), [], .p (.bin .eql (.t 121) (.t 122))⟩,
      ⟨some 124, some (120, true), [], .r (.loadN 9 (.t 7))⟩,
      ⟨some 125, some (120, true), [], .r (.loadN 9 (.t 6))⟩,
      ⟨some 126, some (120, true), [], .call 100028 4 true (.f 14) [.t 124, .t 125]⟩,
      ⟨some 127, some (120, true), [], .p (.eqb false (.t 123) (.t 126))⟩,
      ⟨some 128, none, [], .p (.pick (.t 120) (.t 127) (.c (.bool false)))⟩,
      ⟨some 4, none, [], .p (.mv (.t 128))⟩]) (
  .ret)))))))),
  129, [Sum.inl 4]⟩

theorem c5 : cFunc Try.prog quiet Try.f5 [] = some s5 := by kernel_rfl

-- 6 calls [7, 10, 14, 15]
abbrev k6_1 : List Nat := [5, 6, 7, 42, 43]
abbrev a6_1 : List Nat := [5, 6]
abbrev e6_1 (v5 v6 v7 v42 v43 : AV) : Env := [.dead, .dead, .dead, .dead, .dead, v5, v6, v7, .dead, .dead, .dead, .dead, .dead, .dead, .dead, .dead, .dead, .dead, .dead, .dead, .dead, .dead, .dead, .dead, .dead, .dead, .dead, .dead, .dead, .dead, .dead, .dead, .dead, .dead, .dead, .dead, .dead, .dead, .dead, .dead, .dead, .dead, v42, v43, .dead, .dead, .dead, .dead, .dead, .dead, .dead, .dead, .dead, .dead, .dead]
abbrev x6_1 (v5 v6 : AV) : Env := [.dead, .dead, .dead, .dead, .dead, v5, v6, .dead, .dead, .dead, .dead, .dead, .dead, .dead, .dead, .dead, .dead, .dead, .dead, .dead, .dead, .dead, .dead, .dead, .dead, .dead, .dead, .dead, .dead, .dead, .dead, .dead, .dead, .dead, .dead, .dead, .dead, .dead, .dead, .dead, .dead, .dead, .dead, .dead, .dead, .dead, .dead, .dead, .dead, .dead, .dead, .dead, .dead, .dead, .dead]
def s6_b1 : SCode :=
  .seq (
    .region [
      ⟨some 44, none, [], .p (.bin .lss (.t 43) (.t 42))⟩]) (
  .seq (
    .cond (.t 44) (
      .skip) (
      .exit 2)) (
  .seq (
    .block 3 (
      .seq (
        .region [
          ⟨some 45, none, [], .p (.mv (.t 43))⟩,
          ⟨some 9, none, [], .p (.mv (.t 45))⟩]) (
      .region [
        ⟨some 46, none, [], .p (.faddr 8 (.t 7))⟩,
        ⟨some 47, none, [], .r (.load1 (.t 46))⟩,
        ⟨some 48, none, [], .p (.mv (.t 9))⟩,
        ⟨some 49, none, [], .p (.iaddrS 3 (.t 47) (.t 48))⟩,
        ⟨some 50, none, [], .p (.faddr 1 (.t 49))⟩,
        ⟨none, none, [], .w (.store1 (.t 50) (.c (.str [111, 116, 104, 101, 114])))⟩]))) (
  .region [
    ⟨some 51, none, [], .p (.bin .add (.t 43) (.c (.int .i64 1)))⟩,
    ⟨some 43, none, [], .p (.mv (.t 51))⟩])))

abbrev k6_0 : List Nat := [1, 5, 6, 7, 27, 28]
abbrev a6_0 : List Nat := [5, 6, 7]
abbrev e6_0 (v1 v5 v6 v7 v27 v28 : AV) : Env := [.dead, v1, .dead, .dead, .dead, v5, v6, v7, .dead, .dead, .dead, .dead, .dead, .dead, .dead, .dead, .dead, .dead, .dead, .dead, .dead, .dead, .dead, .dead, .dead, .dead, .dead, v27, v28, .dead, .dead, .dead, .dead, .dead, .dead, .dead, .dead, .dead, .dead, .dead, .dead, .dead, .dead, .dead, .dead, .dead, .dead, .dead, .dead, .dead, .dead, .dead, .dead, .dead, .dead]
abbrev x6_0 (v5 v6 v7 : AV) : Env := [.dead, .dead, .dead, .dead, .dead, v5, v6, v7, .dead, .dead, .dead, .dead, .dead, .dead, .dead, .dead, .dead, .dead, .dead, .dead, .dead, .dead, .dead, .dead, .dead, .dead, .dead, .dead, .dead, .dead, .dead, .dead, .dead, .dead, .dead, .dead, .dead, .dead, .dead, .dead, .dead, .dead, .dead, .dead, .dead, .dead, .dead, .dead, .dead, .dead, .dead, .dead, .dead, .dead, .dead]
def s6_b0 : SCode :=
  .seq (
    .region [
      ⟨some 29, none, [], .p (.bin .lss (.t 28) (.t 27))⟩]) (
  .seq (
    .cond (.t 29) (
      .skip) (
      .exit 0)) (
  .seq (
    .block 1 (
      .seq (
        .region [
          ⟨some 30, none, [], .p (.mv (.t 28))⟩,
          ⟨some 8, none, [], .p (.mv (.t 30))⟩]) (
      .region [
        ⟨some 31, none, [], .p (.faddr 7 (.t 7))⟩,
        ⟨some 32, none, [], .r (.load1 (.t 31))⟩,
        ⟨some 33, none, [], .p (.mv (.t 8))⟩,
        ⟨some 34, none, [], .p (.iaddrS 1 (.t 32) (.t 33))⟩,
        ⟨some 35, none, [], .r (.load1 (.t 34))⟩,
        ⟨some 36, none, [], .p (.mv (.t 1))⟩,
        ⟨some 37, none, [], .p (.bin .xor (.t 35) (.t 36))⟩,
        ⟨some 38, none, [], .p (.iaddrS 1 (.t 32) (.t 33))⟩,
        ⟨none, none, [], .w (.store1 (.t 38) (.t 37))⟩]))) (
  .region [
    ⟨some 39, none, [], .p (.bin .add (.t 28) (.c (.int .i64 1)))⟩,
    ⟨some 28, none, [], .p (.mv (.t 39))⟩])))

def s6 : SFunc := ⟨
  .seq (
    .region [
      ⟨some 2, none, [], .a 0 (.box (.t 0))⟩,
      ⟨some 4, none, [], .p (.mv (.c (.bool false)))⟩]) (
  .seq (
    .region [
      ⟨some 11, none, [], .r (.loadN 9 (.t 2))⟩,
      ⟨some 12, none, [], .call 4004 4 true (.f 7) [.t 11]⟩,
      ⟨some 10, none, [], .p (.mv (.t 12))⟩,
      ⟨some 13, none, [], .p (.extract (.t 10) 0)⟩,
      ⟨some 14, none, [], .p (.extract (.t 10) 1)⟩,
      ⟨some 5, none, [], .a 4020 (.alloc [u64 0#64, u64 0#64, .int .i64 0, .int .i64 0, .int .i64 0, .int .i64 0, .bool false, .slice none 0 0, .slice none 0 0])⟩,
      ⟨some 6, none, [], .a 4024 (.alloc [u64 0#64, u64 0#64, .int .i64 0, .int .i64 0, .int .i64 0, .int .i64 0, .bool false, .slice none 0 0, .slice none 0 0])⟩,
      ⟨none, none, [], .w (.storeN 9 (.t 5) (.t 13))⟩,
      ⟨none, none, [], .w (.storeN 9 (.t 6) (.t 14))⟩]) (
  .seq (
    .region [
      ⟨some 15, none, [], .r (.loadN 9 (.t 5))⟩,
      ⟨some 16, none, [], .call 8004 4 true (.f 15) [.t 15]⟩,
      ⟨some 7, none, [], .a 8008 (.alloc [u64 0#64, u64 0#64, .int .i64 0, .int .i64 0, .int .i64 0, .int .i64 0, .bool false, .slice none 0 0, .slice none 0 0])⟩,
      ⟨none, none, [], .w (.storeN 9 (.t 7) (.t 16))⟩]) (
  .seq (
    .seq (
      .region [
        ⟨some 17, none, [], .call 12000 4 true (.f 10) []⟩,
        ⟨some 18, none, [], .p (.un .not (.t 17))⟩,
        ⟨some 19, none, [], .p (.mv (.t 18))⟩,
        ⟨some 20, some (19, false), [], .r (.loadN 9 (.t 7))⟩,
        ⟨some 21, some (19, false), [], .r (.loadN 9 (.t 6))⟩,
        ⟨some 22, some (19, false), [], .call 12020 4 true (.f 14) [.t 20, .t 21]⟩,
        ⟨some 23, some (19, false), [], .p (.un .not (.t 22))⟩,
        ⟨some 24, none, [], .p (.pick (.t 19) (.c (.bool true)) (.t 23))⟩]) (
    .cond (.t 24) (
      .seq (
        .region [
          ⟨some 4, none, [], .p (.mv (.c (.bool false)))⟩]) (
      .ret)) (
      .skip))) (
  .seq (
    .seq (
      .region [
        ⟨some 25, none, [], .p (.faddr 7 (.t 7))⟩,
        ⟨some 26, none, [], .r (.load1 (.t 25))⟩,
        ⟨some 27, none, [], .p (.lenV true (.t 26))⟩,
        ⟨some 28, none, [], .p (.mv (.c (.int .i64 0)))⟩]) (
    .block 0 (
      .loop k6_0 a6_0 s6_b0))) (
  .seq (
    .seq (
      .region [
        ⟨some 40, none, [], .p (.faddr 8 (.t 7))⟩,
        ⟨some 41, none, [], .r (.load1 (.t 40))⟩,
        ⟨some 42, none, [], .p (.lenV true (.t 41))⟩,
        ⟨some 43, none, [], .p (.mv (.c (.int .i64 0)))⟩]) (
    .block 2 (
      .loop k6_1 a6_1 s6_b1))) (
  .seq (
    .region [
      ⟨some 52, none, [], .r (.loadN 9 (.t 5))⟩,
      ⟨some 53, none, [], .r (.loadN 9 (.t 6))⟩,
      ⟨some 54, none, [], .call 60008 4 true (.f 14) [.t 52, .t 53]⟩,
      ⟨some 4, none, [], .p (.mv (.t 54))⟩]) (
  .ret))))))),
  55, [Sum.inl 4]⟩

theorem c6 : cFunc Try.prog quiet Try.f6 [[1, 5, 6, 7, 27, 28], [5, 6, 7], [5, 6, 7, 42, 43], [5, 6]] = some s6 := by kernel_rfl

-- 7 calls []
abbrev k7_0 : List Nat := [2, 3, 4, 5, 60, 61, 62]
abbrev a7_0 : List Nat := [2, 3, 4, 5]
abbrev e7_0 (v2 v3 v4 v5 v60 v61 v62 : AV) : Env := [.dead, .dead, v2, v3, v4, v5, .dead, .dead, .dead, .dead, .dead, .dead, .dead, .dead, .dead, .dead, .dead, .dead, .dead, .dead, .dead, .dead, .dead, .dead, .dead, .dead, .dead, .dead, .dead, .dead, .dead, .dead, .dead, .dead, .dead, .dead, .dead, .dead, .dead, .dead, .dead, .dead, .dead, .dead, .dead, .dead, .dead, .dead, .dead, .dead, .dead, .dead, .dead, .dead, .dead, .dead, .dead, .dead, .dead, .dead, v60, v61, v62, .dead, .dead, .dead, .dead, .dead, .dead, .dead, .dead, .dead, .dead, .dead, .dead, .dead, .dead, .dead, .dead, .dead, .dead, .dead, .dead, .dead, .dead, .dead, .dead, .dead, .dead, .dead, .dead, .dead, .dead, .dead, .dead, .dead, .dead, .dead, .dead, .dead, .dead, .dead, .dead, .dead, .dead, .dead]
abbrev x7_0 (v2 v3 v4 v5 : AV) : Env := [.dead, .dead, v2, v3, v4, v5, .dead, .dead, .dead, .dead, .dead, .dead, .dead, .dead, .dead, .dead, .dead, .dead, .dead, .dead, .dead, .dead, .dead, .dead, .dead, .dead, .dead, .dead, .dead, .dead, .dead, .dead, .dead, .dead, .dead, .dead, .dead, .dead, .dead, .dead, .dead, .dead, .dead, .dead, .dead, .dead, .dead, .dead, .dead, .dead, .dead, .dead, .dead, .dead, .dead, .dead, .dead, .dead, .dead, .dead, .dead, .dead, .dead, .dead, .dead, .dead, .dead, .dead, .dead, .dead, .dead, .dead, .dead, .dead, .dead, .dead, .dead, .dead, .dead, .dead, .dead, .dead, .dead, .dead, .dead, .dead, .dead, .dead, .dead, .dead, .dead, .dead, .dead, .dead, .dead, .dead, .dead, .dead, .dead, .dead, .dead, .dead, .dead, .dead, .dead, .dead]
def s7_b0 : SCode :=
  .seq (
    .region [
      ⟨some 63, none, [], .p (.bin .lss (.t 62) (.t 61))⟩]) (
  .seq (
    .cond (.t 63) (
      .skip) (
      .exit 0)) (
  .seq (
    .block 1 (
      .seq (
        .region [
          ⟨some 64, none, [], .p (.iaddrS 4 (.t 60) (.t 62))⟩,
          ⟨some 65, none, [], .r (.loadN 4 (.t 64))⟩,
          ⟨some 7, none, [], .a 24008 (.alloc [.int .i64 0, byteAV 0, byteAV 0, .bool false])⟩,
          ⟨none, none, [], .w (.storeN 4 (.t 7) (.t 65))⟩]) (
      .seq (
        .region [
          ⟨some 8, none, [], .p (.mv (.c (.int .i64 31)))⟩]) (
      .seq (
        .seq (
          .region [
            ⟨some 66, none, [], .p (.faddr 3 (.t 7))⟩,
            ⟨some 67, none, [], .r (.load1 (.t 66))⟩]) (
        .cond (.t 67) (
          .region [
            ⟨some 8, none, [], .p (.mv (.c (.int .i64 30)))⟩]) (
          .skip))) (
      .seq (
        .region [
          ⟨some 68, none, [], .p (.faddr 1 (.t 7))⟩,
          ⟨some 69, none, [40020, 40040, 40048], .r (.load1 (.t 68))⟩,
          ⟨some 70, none, [40020, 40040, 40048], .a 40008 (.buildS 1 1 [byteAV 0] [(0, 1, .t 69)])⟩,
          ⟨some 71, none, [40020, 40040, 40048], .r (.toStr (.t 70))⟩,
          ⟨some 72, none, [], .p (.mv (.t 8))⟩,
          ⟨some 73, none, [40008, 40040, 40048], .a 40020 (.mkSlice 1 1 [byteAV 0] (.t 72) (.t 72))⟩,
          ⟨some 74, none, [40008, 40040, 40048], .r (.toStr (.t 73))⟩,
          ⟨some 75, none, [], .p (.bin .add (.t 71) (.t 74))⟩,
          ⟨some 76, none, [], .p (.faddr 2 (.t 7))⟩,
          ⟨some 77, none, [40008, 40020, 40048], .r (.load1 (.t 76))⟩,
          ⟨some 78, none, [40008, 40020, 40048], .a 40040 (.buildS 1 1 [byteAV 0] [(0, 1, .t 77)])⟩,
          ⟨some 79, none, [40008, 40020, 40048], .r (.toStr (.t 78))⟩,
          ⟨some 80, none, [40008, 40020, 40040], .a 40048 (.mkSlice 1 1 [byteAV 0] (.c (.int .i64 31)) (.c (.int .i64 31)))⟩,
          ⟨some 81, none, [40008, 40020, 40040], .r (.toStr (.t 80))⟩,
          ⟨some 82, none, [], .p (.bin .add (.t 79) (.t 81))⟩,
          ⟨some 9, none, [], .p (.mv (.t 75))⟩,
          ⟨some 10, none, [], .p (.mv (.t 82))⟩]) (
      .seq (
        .region [
          ⟨some 83, none, [], .p (.faddr 8 (.t 4))⟩,
          ⟨some 84, none, [], .r (.load1 (.t 83))⟩,
          ⟨some 85, none, [], .p (.faddr 0 (.t 7))⟩,
          ⟨some 86, none, [], .r (.load1 (.t 85))⟩,
          ⟨some 87, none, [], .p (.mv (.t 9))⟩,
          ⟨some 88, none, [], .p (.mv (.t 10))⟩,
          ⟨some 89, none, [], .p (.build [.int .i64 0, .str [], .str []] [(0, 1, .t 86), (1, 1, .t 87), (2, 1, .t 88)])⟩,
          ⟨some 90, none, [], .a 44028 (.buildS 3 1 [.int .i64 0, .str [], .str []] [(0, 3, .t 89)])⟩,
          ⟨some 91, none, [], .w (.append 44032 3 40 (.t 84) (.t 90))⟩,
          ⟨some 92, none, [], .p (.faddr 8 (.t 4))⟩,
          ⟨none, none, [], .w (.store1 (.t 92) (.t 91))⟩]) (
      .region [
        ⟨some 93, none, [], .p (.faddr 8 (.t 5))⟩,
        ⟨some 94, none, [], .r (.load1 (.t 93))⟩,
        ⟨some 95, none, [], .p (.faddr 0 (.t 7))⟩,
        ⟨some 96, none, [], .r (.load1 (.t 95))⟩,
        ⟨some 97, none, [], .p (.mv (.t 9))⟩,
        ⟨some 98, none, [], .p (.mv (.t 10))⟩,
        ⟨some 99, none, [], .p (.build [.int .i64 0, .str [], .str []] [(0, 1, .t 96), (1, 1, .t 97), (2, 1, .t 98)])⟩,
        ⟨some 100, none, [], .a 48028 (.buildS 3 1 [.int .i64 0, .str [], .str []] [(0, 3, .t 99)])⟩,
        ⟨some 101, none, [], .w (.append 48032 3 40 (.t 94) (.t 100))⟩,
        ⟨some 102, none, [], .p (.faddr 8 (.t 5))⟩,
        ⟨none, none, [], .w (.store1 (.t 102) (.t 101))⟩]))))))) (
  .region [
    ⟨some 103, none, [], .p (.bin .add (.t 62) (.c (.int .i64 1)))⟩,
    ⟨some 62, none, [], .p (.mv (.t 103))⟩])))

def s7 : SFunc := ⟨
  .seq (
    .region [
      ⟨some 1, none, [], .a 0 (.box (.t 0))⟩,
      ⟨some 2, none, [], .a 4 (.alloc [u64 0#64, u64 0#64, .int .i64 0, .int .i64 0, .int .i64 0, .int .i64 0, .bool false, .slice none 0 0, .slice none 0 0])⟩,
      ⟨some 3, none, [], .a 8 (.alloc [u64 0#64, u64 0#64, .int .i64 0, .int .i64 0, .int .i64 0, .int .i64 0, .bool false, .slice none 0 0, .slice none 0 0])⟩]) (
  .seq (
    .region [
      ⟨some 11, none, [], .p (.faddr 7 (.t 1))⟩,
      ⟨some 12, none, [], .r (.load1 (.t 11))⟩,
      ⟨some 13, none, [], .p (.faddr 7 (.t 1))⟩,
      ⟨some 14, none, [], .r (.load1 (.t 13))⟩,
      ⟨some 15, none, [], .p (.lenV true (.t 14))⟩,
      ⟨some 16, none, [], .p (.minmax false (.t 15) (.c (.int .i64 30)))⟩,
      ⟨some 17, none, [], .p (.slcS 1 (.t 12) none (some (.t 16)) none)⟩,
      ⟨some 18, none, [], .w (.append 4028 1 8 (.c (.slice none 0 0)) (.t 17))⟩,
      ⟨some 19, none, [], .p (.faddr 7 (.t 1))⟩,
      ⟨none, none, [], .w (.store1 (.t 19) (.t 18))⟩]) (
  .seq (
    .region [
      ⟨some 20, none, [], .p (.faddr 0 (.t 1))⟩,
      ⟨some 21, none, [], .r (.load1 (.t 20))⟩,
      ⟨some 22, none, [], .p (.faddr 1 (.t 1))⟩,
      ⟨some 23, none, [], .r (.load1 (.t 22))⟩,
      ⟨some 24, none, [], .p (.faddr 2 (.t 1))⟩,
      ⟨some 25, none, [], .r (.load1 (.t 24))⟩,
      ⟨some 26, none, [], .p (.faddr 3 (.t 1))⟩,
      ⟨some 27, none, [], .r (.load1 (.t 26))⟩,
      ⟨some 28, none, [], .p (.faddr 4 (.t 1))⟩,
      ⟨some 29, none, [], .r (.load1 (.t 28))⟩,
      ⟨some 30, none, [], .p (.faddr 5 (.t 1))⟩,
      ⟨some 31, none, [], .r (.load1 (.t 30))⟩,
      ⟨some 32, none, [], .p (.faddr 6 (.t 1))⟩,
      ⟨some 33, none, [], .r (.load1 (.t 32))⟩,
      ⟨some 34, none, [], .p (.faddr 7 (.t 1))⟩,
      ⟨some 35, none, [], .r (.load1 (.t 34))⟩,
      ⟨some 36, none, [], .p (.build [u64 0#64, u64 0#64, .int .i64 0, .int .i64 0, .int .i64 0, .int .i64 0, .bool false, .slice none 0 0, .slice none 0 0] [(0, 1, .t 21), (1, 1, .t 23), (2, 1, .t 25), (3, 1, .t 27), (4, 1, .t 29), (5, 1, .t 31), (6, 1, .t 33), (7, 1, .t 35)])⟩,
      ⟨some 4, none, [], .a 8068 (.alloc [u64 0#64, u64 0#64, .int .i64 0, .int .i64 0, .int .i64 0, .int .i64 0, .bool false, .slice none 0 0, .slice none 0 0])⟩,
      ⟨none, none, [], .w (.storeN 9 (.t 4) (.t 36))⟩]) (
  .seq (
    .region [
      ⟨some 37, none, [], .p (.faddr 0 (.t 1))⟩,
      ⟨some 38, none, [], .r (.load1 (.t 37))⟩,
      ⟨some 39, none, [], .p (.faddr 1 (.t 1))⟩,
      ⟨some 40, none, [], .r (.load1 (.t 39))⟩,
      ⟨some 41, none, [], .p (.faddr 2 (.t 1))⟩,
      ⟨some 42, none, [], .r (.load1 (.t 41))⟩,
      ⟨some 43, none, [], .p (.faddr 3 (.t 1))⟩,
      ⟨some 44, none, [], .r (.load1 (.t 43))⟩,
      ⟨some 45, none, [], .p (.faddr 4 (.t 1))⟩,
      ⟨some 46, none, [], .r (.load1 (.t 45))⟩,
      ⟨some 47, none, [], .p (.faddr 5 (.t 1))⟩,
      ⟨some 48, none, [], .r (.load1 (.t 47))⟩,
      ⟨some 49, none, [], .p (.faddr 6 (.t 1))⟩,
      ⟨some 50, none, [], .r (.load1 (.t 49))⟩,
      ⟨some 51, none, [], .p (.faddr 7 (.t 1))⟩,
      ⟨some 52, none, [], .r (.load1 (.t 51))⟩,
      ⟨some 53, none, [], .p (.build [u64 0#64, u64 0#64, .int .i64 0, .int .i64 0, .int .i64 0, .int .i64 0, .bool false, .slice none 0 0, .slice none 0 0] [(0, 1, .t 38), (1, 1, .t 40), (2, 1, .t 42), (3, 1, .t 44), (4, 1, .t 46), (5, 1, .t 48), (6, 1, .t 50), (7, 1, .t 52)])⟩,
      ⟨some 5, none, [], .a 12068 (.alloc [u64 0#64, u64 0#64, .int .i64 0, .int .i64 0, .int .i64 0, .int .i64 0, .bool false, .slice none 0 0, .slice none 0 0])⟩,
      ⟨none, none, [], .w (.storeN 9 (.t 5) (.t 53))⟩]) (
  .seq (
    .seq (
      .region [
        ⟨some 54, none, [], .p (.faddr 8 (.t 1))⟩,
        ⟨some 55, none, [], .r (.load1 (.t 54))⟩,
        ⟨some 56, none, [], .p (.faddr 8 (.t 1))⟩,
        ⟨some 57, none, [], .r (.load1 (.t 56))⟩,
        ⟨some 58, none, [], .p (.lenV true (.t 57))⟩,
        ⟨some 59, none, [], .p (.minmax false (.t 58) (.c (.int .i64 20)))⟩,
        ⟨some 60, none, [], .p (.slcS 4 (.t 55) none (some (.t 59)) none)⟩,
        ⟨some 61, none, [], .p (.lenV true (.t 60))⟩,
        ⟨some 62, none, [], .p (.mv (.c (.int .i64 0)))⟩]) (
    .block 0 (
      .loop k7_0 a7_0 s7_b0))) (
  .seq (
    .regionF [
      ⟨some 104, none, [], .r (.loadN 9 (.t 4))⟩,
      ⟨some 105, none, [], .r (.loadN 9 (.t 5))⟩,
      ⟨none, none, [], .w (.storeN 9 (.t 2) (.t 104))⟩,
      ⟨none, none, [], .w (.storeN 9 (.t 3) (.t 105))⟩] [(5, 2)]) (
  .ret)))))),
  106, [Sum.inr (2, 9, true), Sum.inr (3, 9, true)]⟩

theorem c7 : cFunc Try.prog quiet Try.f7 [[2, 3, 4, 5, 60, 61, 62], [2, 3, 4, 5]] = some s7 := by kernel_rfl

-- 8 calls [11, 16, 17, 18, 19, 20]
abbrev k8_1 : List Nat := [4, 5, 60, 61, 62]
abbrev a8_1 : List Nat := [4]
abbrev e8_1 (v4 v5 v60 v61 v62 : AV) : Env := [.dead, .dead, .dead, .dead, v4, v5, .dead, .dead, .dead, .dead, .dead, .dead, .dead, .dead, .dead, .dead, .dead, .dead, .dead, .dead, .dead, .dead, .dead, .dead, .dead, .dead, .dead, .dead, .dead, .dead, .dead, .dead, .dead, .dead, .dead, .dead, .dead, .dead, .dead, .dead, .dead, .dead, .dead, .dead, .dead, .dead, .dead, .dead, .dead, .dead, .dead, .dead, .dead, .dead, .dead, .dead, .dead, .dead, .dead, .dead, v60, v61, v62, .dead, .dead, .dead, .dead, .dead, .dead, .dead, .dead, .dead, .dead, .dead, .dead, .dead, .dead, .dead, .dead, .dead, .dead, .dead]
abbrev x8_1 (v4 : AV) : Env := [.dead, .dead, .dead, .dead, v4, .dead, .dead, .dead, .dead, .dead, .dead, .dead, .dead, .dead, .dead, .dead, .dead, .dead, .dead, .dead, .dead, .dead, .dead, .dead, .dead, .dead, .dead, .dead, .dead, .dead, .dead, .dead, .dead, .dead, .dead, .dead, .dead, .dead, .dead, .dead, .dead, .dead, .dead, .dead, .dead, .dead, .dead, .dead, .dead, .dead, .dead, .dead, .dead, .dead, .dead, .dead, .dead, .dead, .dead, .dead, .dead, .dead, .dead, .dead, .dead, .dead, .dead, .dead, .dead, .dead, .dead, .dead, .dead, .dead, .dead, .dead, .dead, .dead, .dead, .dead, .dead, .dead]
def s8_b1 : SCode :=
  .seq (
    .region [
      ⟨some 63, none, [], .p (.bin .lss (.t 62) (.t 61))⟩]) (
  .seq (
    .cond (.t 63) (
      .skip) (
      .exit 2)) (
  .seq (
    .block 3 (
      .seq (
        .region [
          ⟨some 64, none, [], .p (.iaddrS 3 (.t 60) (.t 62))⟩,
          ⟨some 65, none, [], .r (.loadN 3 (.t 64))⟩,
          ⟨some 10, none, [], .a 56008 (.alloc [.int .i64 0, .str [], .str []])⟩,
          ⟨none, none, [], .w (.storeN 3 (.t 10) (.t 65))⟩]) (
      .region [
        ⟨some 66, none, [], .p (.mv (.t 5))⟩,
        ⟨some 67, none, [], .p (.faddr 0 (.t 10))⟩,
        ⟨some 68, none, [], .r (.load1 (.t 67))⟩,
        ⟨some 69, none, [], .p (.conv .u64 (.t 68))⟩,
        ⟨some 70, none, [], .call 60016 4 true (.f 17) [.t 69]⟩,
        ⟨some 71, none, [], .p (.faddr 1 (.t 10))⟩,
        ⟨some 72, none, [60016, 60017, 60018, 60019], .r (.load1 (.t 71))⟩,
        ⟨some 73, none, [], .call 60028 4 true (.f 19) [.t 72]⟩,
        ⟨some 74, none, [], .p (.bin .add (.t 70) (.t 73))⟩,
        ⟨some 75, none, [], .p (.faddr 2 (.t 10))⟩,
        ⟨some 76, none, [60016, 60017, 60018, 60019, 60028, 60029, 60030, 60031], .r (.load1 (.t 75))⟩,
        ⟨some 77, none, [], .call 60044 4 true (.f 19) [.t 76]⟩,
        ⟨some 78, none, [], .p (.bin .add (.t 74) (.t 77))⟩,
        ⟨some 79, none, [], .b 60052 (.write 16 58 5 (.t 66) [.t 78])⟩]))) (
  .region [
    ⟨some 80, none, [], .p (.bin .add (.t 62) (.c (.int .i64 1)))⟩,
    ⟨some 62, none, [], .p (.mv (.t 80))⟩])))

abbrev k8_0 : List Nat := [1, 4, 5, 47, 48, 49]
abbrev a8_0 : List Nat := [1, 4, 5]
abbrev e8_0 (v1 v4 v5 v47 v48 v49 : AV) : Env := [.dead, v1, .dead, .dead, v4, v5, .dead, .dead, .dead, .dead, .dead, .dead, .dead, .dead, .dead, .dead, .dead, .dead, .dead, .dead, .dead, .dead, .dead, .dead, .dead, .dead, .dead, .dead, .dead, .dead, .dead, .dead, .dead, .dead, .dead, .dead, .dead, .dead, .dead, .dead, .dead, .dead, .dead, .dead, .dead, .dead, .dead, v47, v48, v49, .dead, .dead, .dead, .dead, .dead, .dead, .dead, .dead, .dead, .dead, .dead, .dead, .dead, .dead, .dead, .dead, .dead, .dead, .dead, .dead, .dead, .dead, .dead, .dead, .dead, .dead, .dead, .dead, .dead, .dead, .dead, .dead]
abbrev x8_0 (v1 v4 v5 : AV) : Env := [.dead, v1, .dead, .dead, v4, v5, .dead, .dead, .dead, .dead, .dead, .dead, .dead, .dead, .dead, .dead, .dead, .dead, .dead, .dead, .dead, .dead, .dead, .dead, .dead, .dead, .dead, .dead, .dead, .dead, .dead, .dead, .dead, .dead, .dead, .dead, .dead, .dead, .dead, .dead, .dead, .dead, .dead, .dead, .dead, .dead, .dead, .dead, .dead, .dead, .dead, .dead, .dead, .dead, .dead, .dead, .dead, .dead, .dead, .dead, .dead, .dead, .dead, .dead, .dead, .dead, .dead, .dead, .dead, .dead, .dead, .dead, .dead, .dead, .dead, .dead, .dead, .dead, .dead, .dead, .dead, .dead]
def s8_b0 : SCode :=
  .seq (
    .region [
      ⟨some 50, none, [], .p (.bin .lss (.t 49) (.t 48))⟩]) (
  .seq (
    .cond (.t 50) (
      .skip) (
      .exit 0)) (
  .seq (
    .block 1 (
      .seq (
        .region [
          ⟨some 51, none, [], .p (.iaddrS 1 (.t 47) (.t 49))⟩,
          ⟨some 52, none, [], .r (.load1 (.t 51))⟩,
          ⟨some 8, none, [], .p (.mv (.t 52))⟩]) (
      .region [
        ⟨some 53, none, [], .p (.mv (.t 5))⟩,
        ⟨some 54, none, [], .p (.mv (.t 8))⟩,
        ⟨some 55, none, [], .p (.conv .u64 (.t 54))⟩,
        ⟨some 56, none, [], .call 40012 4 true (.f 17) [.t 55]⟩,
        ⟨some 57, none, [], .b 40016 (.write 16 58 5 (.t 53) [.t 56])⟩]))) (
  .region [
    ⟨some 58, none, [], .p (.bin .add (.t 49) (.c (.int .i64 1)))⟩,
    ⟨some 49, none, [], .p (.mv (.t 58))⟩])))

def s8 : SFunc := ⟨
  .seq (
    .region [
      ⟨some 1, none, [], .a 0 (.box (.t 0))⟩,
      ⟨some 2, none, [], .p (.mv (.c (.str [])))⟩,
      ⟨some 3, none, [], .p (.mv (.c (.int .i64 0)))⟩]) (
  .seq (
    .seq (
      .region [
        ⟨some 11, none, [], .r (.loadN 9 (.t 1))⟩,
        ⟨some 12, none, [], .call 4004 4 true (.f 11) [.t 11]⟩,
        ⟨some 13, none, [], .p (.un .not (.t 12))⟩]) (
    .cond (.t 13) (
      .seq (
        .region [
          ⟨some 2, none, [], .p (.mv (.c (.str [])))⟩,
          ⟨some 3, none, [], .p (.mv (.c (.int .i64 4)))⟩]) (
      .ret)) (
      .skip))) (
  .seq (
    .region [
      ⟨some 4, none, [], .b 12000 (.new 58)⟩]) (
  .seq (
    .region [
      ⟨some 14, none, [], .p (.mkFunc 16 [.t 4] [])⟩,
      ⟨some 5, none, [], .p (.mv (.t 14))⟩]) (
  .seq (
    .region [
      ⟨some 15, none, [], .p (.mv (.t 5))⟩,
      ⟨some 16, none, [], .p (.faddr 0 (.t 1))⟩,
      ⟨some 17, none, [], .r (.load1 (.t 16))⟩,
      ⟨some 18, none, [], .call 20012 4 true (.f 17) [.t 17]⟩,
      ⟨some 19, none, [], .p (.faddr 1 (.t 1))⟩,
      ⟨some 20, none, [20012, 20013, 20014, 20015], .r (.load1 (.t 19))⟩,
      ⟨some 21, none, [], .call 20024 4 true (.f 17) [.t 20]⟩,
      ⟨some 22, none, [], .p (.bin .add (.t 18) (.t 21))⟩,
      ⟨some 23, none, [], .b 20032 (.write 16 58 5 (.t 15) [.t 22])⟩]) (
  .seq (
    .region [
      ⟨some 24, none, [], .p (.faddr 2 (.t 1))⟩,
      ⟨some 25, none, [24040, 24041, 24042, 24043], .r (.load1 (.t 24))⟩,
      ⟨some 26, none, [], .p (.faddr 3 (.t 1))⟩,
      ⟨some 27, none, [24040, 24041, 24042, 24043], .r (.load1 (.t 26))⟩,
      ⟨some 28, none, [], .p (.faddr 4 (.t 1))⟩,
      ⟨some 29, none, [24040, 24041, 24042, 24043], .r (.load1 (.t 28))⟩,
      ⟨some 30, none, [], .p (.faddr 5 (.t 1))⟩,
      ⟨some 31, none, [24040, 24041, 24042, 24043], .r (.load1 (.t 30))⟩,
      ⟨some 32, none, [], .p (.faddr 6 (.t 1))⟩,
      ⟨some 33, none, [], .r (.load1 (.t 32))⟩,
      ⟨some 34, none, [], .call 24040 4 true (.f 18) [.t 33]⟩,
      ⟨some 35, none, [], .p (.faddr 7 (.t 1))⟩,
      ⟨some 36, none, [24040, 24041, 24042, 24043], .r (.load1 (.t 35))⟩,
      ⟨some 37, none, [], .p (.lenV true (.t 36))⟩,
      ⟨some 38, none, [], .a 24056 (.buildS 1 6 [.int .i64 0] [(0, 1, .t 25), (1, 1, .t 27), (2, 1, .t 29), (3, 1, .t 31), (4, 1, .t 34), (5, 1, .t 37)])⟩,
      ⟨some 39, none, [], .p (.faddr 7 (.t 1))⟩,
      ⟨some 40, none, [24040, 24041, 24042, 24043, 24056], .r (.load1 (.t 39))⟩,
      ⟨some 41, none, [], .w (.append 24068 1 8 (.t 38) (.t 40))⟩,
      ⟨some 6, none, [], .p (.mv (.t 41))⟩]) (
  .seq (
    .seq (
      .region [
        ⟨some 42, none, [], .p (.mv (.t 6))⟩,
        ⟨some 43, none, [], .p (.faddr 8 (.t 1))⟩,
        ⟨some 44, none, [], .r (.load1 (.t 43))⟩,
        ⟨some 45, none, [], .p (.lenV true (.t 44))⟩,
        ⟨some 46, none, [], .a 28016 (.buildS 1 1 [.int .i64 0] [(0, 1, .t 45)])⟩,
        ⟨some 47, none, [], .w (.append 28020 1 8 (.t 42) (.t 46))⟩,
        ⟨some 48, none, [], .p (.lenV true (.t 47))⟩,
        ⟨some 49, none, [], .p (.mv (.c (.int .i64 0)))⟩]) (
    .block 0 (
      .loop k8_0 a8_0 s8_b0))) (
  .seq (
    .seq (
      .region [
        ⟨some 59, none, [], .p (.faddr 8 (.t 1))⟩,
        ⟨some 60, none, [], .r (.load1 (.t 59))⟩,
        ⟨some 61, none, [], .p (.lenV true (.t 60))⟩,
        ⟨some 62, none, [], .p (.mv (.c (.int .i64 0)))⟩]) (
    .block 2 (
      .loop k8_1 a8_1 s8_b1))) (
  .seq (
    .region [
      ⟨some 81, none, [], .b 68000 (.str 20 58 5 (.f 20) [.t 4])⟩,
      ⟨some 2, none, [], .p (.mv (.t 81))⟩,
      ⟨some 3, none, [], .p (.mv (.c (.int .i64 0)))⟩]) (
  .ret))))))))),
  82, [Sum.inl 2, Sum.inl 3]⟩

theorem c8 : cFunc Try.prog quiet Try.f8 [[1, 4, 5, 47, 48, 49], [1, 4, 5], [4, 5, 60, 61, 62], [4]] = some s8 := by kernel_rfl

-- 9 calls [12, 21, 22]
abbrev k9_2 : List Nat := [1, 8, 11]
abbrev a9_2 : List Nat := [8]
abbrev e9_2 (v1 v8 v11 : AV) : Env := [.dead, v1, .dead, .dead, .dead, .dead, .dead, .dead, v8, .dead, .dead, v11, .dead, .dead, .dead, .dead, .dead, .dead, .dead, .dead, .dead, .dead, .dead, .dead, .dead, .dead, .dead, .dead, .dead, .dead, .dead, .dead, .dead, .dead, .dead, .dead, .dead, .dead, .dead, .dead, .dead, .dead, .dead, .dead, .dead, .dead, .dead, .dead, .dead, .dead, .dead, .dead, .dead, .dead, .dead, .dead, .dead, .dead, .dead, .dead, .dead, .dead, .dead, .dead, .dead, .dead, .dead, .dead, .dead, .dead, .dead, .dead, .dead, .dead, .dead, .dead, .dead, .dead, .dead, .dead, .dead, .dead, .dead, .dead, .dead, .dead, .dead, .dead, .dead, .dead, .dead, .dead, .dead, .dead, .dead, .dead, .dead, .dead, .dead, .dead, .dead, .dead, .dead, .dead, .dead, .dead, .dead, .dead, .dead, .dead, .dead, .dead]
abbrev x9_2 (v8 : AV) : Env := [.dead, .dead, .dead, .dead, .dead, .dead, .dead, .dead, v8, .dead, .dead, .dead, .dead, .dead, .dead, .dead, .dead, .dead, .dead, .dead, .dead, .dead, .dead, .dead, .dead, .dead, .dead, .dead, .dead, .dead, .dead, .dead, .dead, .dead, .dead, .dead, .dead, .dead, .dead, .dead, .dead, .dead, .dead, .dead, .dead, .dead, .dead, .dead, .dead, .dead, .dead, .dead, .dead, .dead, .dead, .dead, .dead, .dead, .dead, .dead, .dead, .dead, .dead, .dead, .dead, .dead, .dead, .dead, .dead, .dead, .dead, .dead, .dead, .dead, .dead, .dead, .dead, .dead, .dead, .dead, .dead, .dead, .dead, .dead, .dead, .dead, .dead, .dead, .dead, .dead, .dead, .dead, .dead, .dead, .dead, .dead, .dead, .dead, .dead, .dead, .dead, .dead, .dead, .dead, .dead, .dead, .dead, .dead, .dead, .dead, .dead, .dead]
def s9_b2 : SCode :=
  .seq (
    .seq (
      .region [
        ⟨some 82, none, [], .p (.mv (.t 11))⟩,
        ⟨some 83, none, [], .p (.faddr 8 (.t 1))⟩,
        ⟨some 84, none, [], .r (.load1 (.t 83))⟩,
        ⟨some 85, none, [], .p (.lenV true (.t 84))⟩,
        ⟨some 86, none, [], .p (.bin .lss (.t 82) (.t 85))⟩]) (
    .cond (.t 86) (
      .skip) (
      .exit 4))) (
  .seq (
    .block 5 (
      .seq (
        .region [
          ⟨some 89, none, [], .p (.faddr 8 (.t 1))⟩,
          ⟨some 90, none, [], .r (.load1 (.t 89))⟩,
          ⟨some 91, none, [], .p (.mv (.t 11))⟩,
          ⟨some 92, none, [], .p (.iaddrS 3 (.t 90) (.t 91))⟩,
          ⟨some 93, none, [], .r (.loadN 3 (.t 92))⟩,
          ⟨some 12, none, [], .a 88020 (.alloc [.int .i64 0, .str [], .str []])⟩,
          ⟨none, none, [], .w (.storeN 3 (.t 12) (.t 93))⟩]) (
      .seq (
        .region [
          ⟨some 94, none, [], .p (.faddr 0 (.t 12))⟩,
          ⟨some 95, none, [], .r (.load1 (.t 94))⟩,
          ⟨some 96, none, [], .p (.conv .u64 (.t 95))⟩,
          ⟨some 97, none, [], .call 92012 4 true (.f 21) [.t 96]⟩,
          ⟨some 13, none, [], .p (.mv (.t 97))⟩]) (
      .seq (
        .region [
          ⟨some 98, none, [], .p (.faddr 1 (.t 12))⟩,
          ⟨some 99, none, [], .r (.load1 (.t 98))⟩,
          ⟨some 100, none, [], .call 96008 4 true (.f 22) [.t 99]⟩,
          ⟨some 14, none, [], .p (.mv (.t 100))⟩]) (
      .seq (
        .region [
          ⟨some 101, none, [], .p (.faddr 2 (.t 12))⟩,
          ⟨some 102, none, [], .r (.load1 (.t 101))⟩,
          ⟨some 103, none, [], .call 100008 4 true (.f 22) [.t 102]⟩,
          ⟨some 15, none, [], .p (.mv (.t 103))⟩]) (
      .region [
        ⟨some 104, none, [], .p (.mv (.t 8))⟩,
        ⟨some 105, none, [], .p (.mv (.t 13))⟩,
        ⟨some 106, none, [], .p (.bin .add (.t 104) (.t 105))⟩,
        ⟨some 107, none, [], .p (.mv (.t 14))⟩,
        ⟨some 108, none, [], .p (.bin .add (.t 106) (.t 107))⟩,
        ⟨some 109, none, [], .p (.mv (.t 15))⟩,
        ⟨some 110, none, [], .p (.bin .add (.t 108) (.t 109))⟩,
        ⟨some 8, none, [], .p (.mv (.t 110))⟩])))))) (
  .region [
    ⟨some 87, none, [], .p (.mv (.t 11))⟩,
    ⟨some 88, none, [], .p (.bin .add (.t 87) (.c (.int .i64 1)))⟩,
    ⟨some 11, none, [], .p (.mv (.t 88))⟩]))

abbrev k9_1 : List Nat := [1, 6, 8, 9]
abbrev a9_1 : List Nat := [1, 8]
abbrev e9_1 (v1 v6 v8 v9 : AV) : Env := [.dead, v1, .dead, .dead, .dead, .dead, v6, .dead, v8, v9, .dead, .dead, .dead, .dead, .dead, .dead, .dead, .dead, .dead, .dead, .dead, .dead, .dead, .dead, .dead, .dead, .dead, .dead, .dead, .dead, .dead, .dead, .dead, .dead, .dead, .dead, .dead, .dead, .dead, .dead, .dead, .dead, .dead, .dead, .dead, .dead, .dead, .dead, .dead, .dead, .dead, .dead, .dead, .dead, .dead, .dead, .dead, .dead, .dead, .dead, .dead, .dead, .dead, .dead, .dead, .dead, .dead, .dead, .dead, .dead, .dead, .dead, .dead, .dead, .dead, .dead, .dead, .dead, .dead, .dead, .dead, .dead, .dead, .dead, .dead, .dead, .dead, .dead, .dead, .dead, .dead, .dead, .dead, .dead, .dead, .dead, .dead, .dead, .dead, .dead, .dead, .dead, .dead, .dead, .dead, .dead, .dead, .dead, .dead, .dead, .dead, .dead]
abbrev x9_1 (v1 v8 : AV) : Env := [.dead, v1, .dead, .dead, .dead, .dead, .dead, .dead, v8, .dead, .dead, .dead, .dead, .dead, .dead, .dead, .dead, .dead, .dead, .dead, .dead, .dead, .dead, .dead, .dead, .dead, .dead, .dead, .dead, .dead, .dead, .dead, .dead, .dead, .dead, .dead, .dead, .dead, .dead, .dead, .dead, .dead, .dead, .dead, .dead, .dead, .dead, .dead, .dead, .dead, .dead, .dead, .dead, .dead, .dead, .dead, .dead, .dead, .dead, .dead, .dead, .dead, .dead, .dead, .dead, .dead, .dead, .dead, .dead, .dead, .dead, .dead, .dead, .dead, .dead, .dead, .dead, .dead, .dead, .dead, .dead, .dead, .dead, .dead, .dead, .dead, .dead, .dead, .dead, .dead, .dead, .dead, .dead, .dead, .dead, .dead, .dead, .dead, .dead, .dead, .dead, .dead, .dead, .dead, .dead, .dead, .dead, .dead, .dead, .dead, .dead, .dead]
def s9_b1 : SCode :=
  .seq (
    .seq (
      .region [
        ⟨some 68, none, [], .p (.mv (.t 9))⟩,
        ⟨some 69, none, [], .p (.mv (.t 6))⟩,
        ⟨some 70, none, [], .p (.lenV true (.t 69))⟩,
        ⟨some 71, none, [], .p (.bin .lss (.t 68) (.t 70))⟩]) (
    .cond (.t 71) (
      .skip) (
      .exit 2))) (
  .seq (
    .block 3 (
      .seq (
        .region [
          ⟨some 74, none, [], .p (.mv (.t 6))⟩,
          ⟨some 75, none, [], .p (.mv (.t 9))⟩,
          ⟨some 76, none, [], .p (.iaddrS 1 (.t 74) (.t 75))⟩,
          ⟨some 77, none, [], .r (.load1 (.t 76))⟩,
          ⟨some 78, none, [], .call 68016 4 true (.f 21) [.t 77]⟩,
          ⟨some 10, none, [], .p (.mv (.t 78))⟩]) (
      .region [
        ⟨some 79, none, [], .p (.mv (.t 8))⟩,
        ⟨some 80, none, [], .p (.mv (.t 10))⟩,
        ⟨some 81, none, [], .p (.bin .add (.t 79) (.t 80))⟩,
        ⟨some 8, none, [], .p (.mv (.t 81))⟩]))) (
  .region [
    ⟨some 72, none, [], .p (.mv (.t 9))⟩,
    ⟨some 73, none, [], .p (.bin .add (.t 72) (.c (.int .i64 1)))⟩,
    ⟨some 9, none, [], .p (.mv (.t 73))⟩]))

abbrev k9_0 : List Nat := [1, 6, 7]
abbrev a9_0 : List Nat := [1, 6]
abbrev e9_0 (v1 v6 v7 : AV) : Env := [.dead, v1, .dead, .dead, .dead, .dead, v6, v7, .dead, .dead, .dead, .dead, .dead, .dead, .dead, .dead, .dead, .dead, .dead, .dead, .dead, .dead, .dead, .dead, .dead, .dead, .dead, .dead, .dead, .dead, .dead, .dead, .dead, .dead, .dead, .dead, .dead, .dead, .dead, .dead, .dead, .dead, .dead, .dead, .dead, .dead, .dead, .dead, .dead, .dead, .dead, .dead, .dead, .dead, .dead, .dead, .dead, .dead, .dead, .dead, .dead, .dead, .dead, .dead, .dead, .dead, .dead, .dead, .dead, .dead, .dead, .dead, .dead, .dead, .dead, .dead, .dead, .dead, .dead, .dead, .dead, .dead, .dead, .dead, .dead, .dead, .dead, .dead, .dead, .dead, .dead, .dead, .dead, .dead, .dead, .dead, .dead, .dead, .dead, .dead, .dead, .dead, .dead, .dead, .dead, .dead, .dead, .dead, .dead, .dead, .dead, .dead]
abbrev x9_0 (v1 v6 : AV) : Env := [.dead, v1, .dead, .dead, .dead, .dead, v6, .dead, .dead, .dead, .dead, .dead, .dead, .dead, .dead, .dead, .dead, .dead, .dead, .dead, .dead, .dead, .dead, .dead, .dead, .dead, .dead, .dead, .dead, .dead, .dead, .dead, .dead, .dead, .dead, .dead, .dead, .dead, .dead, .dead, .dead, .dead, .dead, .dead, .dead, .dead, .dead, .dead, .dead, .dead, .dead, .dead, .dead, .dead, .dead, .dead, .dead, .dead, .dead, .dead, .dead, .dead, .dead, .dead, .dead, .dead, .dead, .dead, .dead, .dead, .dead, .dead, .dead, .dead, .dead, .dead, .dead, .dead, .dead, .dead, .dead, .dead, .dead, .dead, .dead, .dead, .dead, .dead, .dead, .dead, .dead, .dead, .dead, .dead, .dead, .dead, .dead, .dead, .dead, .dead, .dead, .dead, .dead, .dead, .dead, .dead, .dead, .dead, .dead, .dead, .dead, .dead]
def s9_b0 : SCode :=
  .seq (
    .seq (
      .region [
        ⟨some 45, none, [], .p (.mv (.t 7))⟩,
        ⟨some 46, none, [], .p (.faddr 7 (.t 1))⟩,
        ⟨some 47, none, [], .r (.load1 (.t 46))⟩,
        ⟨some 48, none, [], .p (.lenV true (.t 47))⟩,
        ⟨some 49, none, [], .p (.bin .lss (.t 45) (.t 48))⟩]) (
    .cond (.t 49) (
      .skip) (
      .exit 0))) (
  .seq (
    .block 1 (
      .region [
        ⟨some 52, none, [], .p (.mv (.t 6))⟩,
        ⟨some 53, none, [], .p (.faddr 7 (.t 1))⟩,
        ⟨some 54, none, [], .r (.load1 (.t 53))⟩,
        ⟨some 55, none, [], .p (.mv (.t 7))⟩,
        ⟨some 56, none, [], .p (.iaddrS 1 (.t 54) (.t 55))⟩,
        ⟨some 57, none, [], .r (.load1 (.t 56))⟩,
        ⟨some 58, none, [], .p (.conv .u64 (.t 57))⟩,
        ⟨some 59, none, [], .a 44028 (.buildS 1 1 [u64 0#64] [(0, 1, .t 58)])⟩,
        ⟨some 60, none, [], .w (.append 44032 1 8 (.t 52) (.t 59))⟩,
        ⟨some 6, none, [], .p (.mv (.t 60))⟩])) (
  .region [
    ⟨some 50, none, [], .p (.mv (.t 7))⟩,
    ⟨some 51, none, [], .p (.bin .add (.t 50) (.c (.int .i64 1)))⟩,
    ⟨some 7, none, [], .p (.mv (.t 51))⟩]))

def s9 : SFunc := ⟨
  .seq (
    .region [
      ⟨some 1, none, [], .a 0 (.box (.t 0))⟩,
      ⟨some 2, none, [], .p (.mv (.c (.str [])))⟩,
      ⟨some 3, none, [], .p (.mv (.c (.int .i64 0)))⟩]) (
  .seq (
    .region [
      ⟨some 16, none, [], .r (.loadN 9 (.t 1))⟩,
      ⟨some 17, none, [], .call 4004 4 true (.f 12) [.t 16]⟩,
      ⟨some 4, none, [], .p (.mv (.t 17))⟩]) (
  .seq (
    .seq (
      .region [
        ⟨some 18, none, [], .p (.mv (.t 4))⟩,
        ⟨some 19, none, [], .p (.un .not (.t 18))⟩]) (
    .cond (.t 19) (
      .seq (
        .region [
          ⟨some 2, none, [], .p (.mv (.c (.str [])))⟩,
          ⟨some 3, none, [], .p (.mv (.c (.int .i64 4)))⟩]) (
      .ret)) (
      .skip))) (
  .seq (
    .region [
      ⟨some 5, none, [], .p (.mv (.c (.int .i64 0)))⟩]) (
  .seq (
    .seq (
      .region [
        ⟨some 20, none, [], .p (.faddr 6 (.t 1))⟩,
        ⟨some 21, none, [], .r (.load1 (.t 20))⟩]) (
    .cond (.t 21) (
      .region [
        ⟨some 5, none, [], .p (.mv (.c (.int .i64 1)))⟩]) (
      .skip))) (
  .seq (
    .region [
      ⟨some 22, none, [], .p (.faddr 0 (.t 1))⟩,
      ⟨some 23, none, [], .r (.load1 (.t 22))⟩,
      ⟨some 24, none, [], .p (.faddr 1 (.t 1))⟩,
      ⟨some 25, none, [], .r (.load1 (.t 24))⟩,
      ⟨some 26, none, [], .p (.faddr 2 (.t 1))⟩,
      ⟨some 27, none, [], .r (.load1 (.t 26))⟩,
      ⟨some 28, none, [], .p (.conv .u64 (.t 27))⟩,
      ⟨some 29, none, [], .p (.faddr 3 (.t 1))⟩,
      ⟨some 30, none, [], .r (.load1 (.t 29))⟩,
      ⟨some 31, none, [], .p (.conv .u64 (.t 30))⟩,
      ⟨some 32, none, [], .p (.faddr 4 (.t 1))⟩,
      ⟨some 33, none, [], .r (.load1 (.t 32))⟩,
      ⟨some 34, none, [], .p (.conv .u64 (.t 33))⟩,
      ⟨some 35, none, [], .p (.faddr 5 (.t 1))⟩,
      ⟨some 36, none, [], .r (.load1 (.t 35))⟩,
      ⟨some 37, none, [], .p (.conv .u64 (.t 36))⟩,
      ⟨some 38, none, [], .p (.mv (.t 5))⟩,
      ⟨some 39, none, [], .p (.conv .u64 (.t 38))⟩,
      ⟨some 40, none, [], .p (.faddr 7 (.t 1))⟩,
      ⟨some 41, none, [], .r (.load1 (.t 40))⟩,
      ⟨some 42, none, [], .p (.lenV true (.t 41))⟩,
      ⟨some 43, none, [], .p (.conv .u64 (.t 42))⟩,
      ⟨some 44, none, [], .a 28088 (.buildS 1 8 [u64 0#64] [(0, 1, .t 23), (1, 1, .t 25), (2, 1, .t 28), (3, 1, .t 31), (4, 1, .t 34), (5, 1, .t 37), (6, 1, .t 39), (7, 1, .t 43)])⟩,
      ⟨some 6, none, [], .p (.mv (.t 44))⟩]) (
  .seq (
    .seq (
      .region [
        ⟨some 7, none, [], .p (.mv (.c (.int .i64 0)))⟩]) (
    .block 0 (
      .loop k9_0 a9_0 s9_b0))) (
  .seq (
    .region [
      ⟨some 61, none, [], .p (.mv (.t 6))⟩,
      ⟨some 62, none, [], .p (.faddr 8 (.t 1))⟩,
      ⟨some 63, none, [], .r (.load1 (.t 62))⟩,
      ⟨some 64, none, [], .p (.lenV true (.t 63))⟩,
      ⟨some 65, none, [], .p (.conv .u64 (.t 64))⟩,
      ⟨some 66, none, [], .a 48020 (.buildS 1 1 [u64 0#64] [(0, 1, .t 65)])⟩,
      ⟨some 67, none, [], .w (.append 48024 1 8 (.t 61) (.t 66))⟩,
      ⟨some 6, none, [], .p (.mv (.t 67))⟩]) (
  .seq (
    .region [
      ⟨some 8, none, [], .p (.mv (.c (.str [])))⟩]) (
  .seq (
    .seq (
      .region [
        ⟨some 9, none, [], .p (.mv (.c (.int .i64 0)))⟩]) (
    .block 2 (
      .loop k9_1 a9_1 s9_b1))) (
  .seq (
    .seq (
      .region [
        ⟨some 11, none, [], .p (.mv (.c (.int .i64 0)))⟩]) (
    .block 4 (
      .loop k9_2 a9_2 s9_b2))) (
  .seq (
    .region [
      ⟨some 111, none, [], .p (.mv (.t 8))⟩,
      ⟨some 2, none, [], .p (.mv (.t 111))⟩,
      ⟨some 3, none, [], .p (.mv (.c (.int .i64 0)))⟩]) (
  .ret)))))))))))),
  112, [Sum.inl 2, Sum.inl 3]⟩

theorem c9 : cFunc Try.prog quiet Try.f9 [[1, 6, 7], [1, 6], [1, 6, 8, 9], [1, 8], [1, 8, 11], [8]] = some s9 := by kernel_rfl

-- 10 calls [7, 8, 11, 13]
def s10 : SFunc := ⟨
  .seq (
    .region [
      ⟨some 0, none, [], .p (.mv (.c (.bool false)))⟩]) (
  .seq (
    .region [
      ⟨some 8, none, [], .p (.build [.int .i64 0, byteAV 0, byteAV 0, .bool false] [(0, 1, .c (.int .i64 1))])⟩,
      ⟨some 1, none, [], .a 4004 (.alloc [.int .i64 0, byteAV 0, byteAV 0, .bool false])⟩,
      ⟨none, none, [], .w (.storeN 4 (.t 1) (.t 8))⟩]) (
  .seq (
    .region [
      ⟨some 10, none, [], .a 8000 (.buildS 1 4 [.int .i64 0] [(0, 1, .c (.int .i64 0)), (1, 1, .c (.int .i64 1)), (2, 1, .c (.int .i64 2)), (3, 1, .c (.int .i64 3))])⟩,
      ⟨some 11, none, [], .r (.loadN 4 (.t 1))⟩,
      ⟨some 12, none, [], .r (.loadN 4 (.t 1))⟩,
      ⟨some 13, none, [], .r (.loadN 4 (.t 1))⟩,
      ⟨some 14, none, [], .r (.loadN 4 (.t 1))⟩,
      ⟨some 15, none, [], .a 8020 (.buildS 4 4 [.int .i64 0, byteAV 0, byteAV 0, .bool false] [(0, 4, .t 11), (4, 4, .t 12), (8, 4, .t 13), (12, 4, .t 14)])⟩,
      ⟨some 16, none, [], .p (.build [u64 0#64, u64 0#64, .int .i64 0, .int .i64 0, .int .i64 0, .int .i64 0, .bool false, .slice none 0 0, .slice none 0 0] [(0, 1, .c (u64 7#64)), (2, 1, .c (.int .i64 2)), (3, 1, .c (.int .i64 4)), (7, 1, .t 10), (8, 1, .t 15)])⟩,
      ⟨some 17, none, [], .call 8028 4 true (.f 7) [.t 16]⟩,
      ⟨some 9, none, [], .p (.mv (.t 17))⟩,
      ⟨some 18, none, [], .p (.extract (.t 9) 0)⟩,
      ⟨some 19, none, [], .p (.extract (.t 9) 1)⟩,
      ⟨some 2, none, [], .a 8044 (.alloc [u64 0#64, u64 0#64, .int .i64 0, .int .i64 0, .int .i64 0, .int .i64 0, .bool false, .slice none 0 0, .slice none 0 0])⟩,
      ⟨some 3, none, [], .a 8048 (.alloc [u64 0#64, u64 0#64, .int .i64 0, .int .i64 0, .int .i64 0, .int .i64 0, .bool false, .slice none 0 0, .slice none 0 0])⟩,
      ⟨none, none, [], .w (.storeN 9 (.t 2) (.t 18))⟩,
      ⟨none, none, [], .w (.storeN 9 (.t 3) (.t 19))⟩]) (
  .seq (
    .region [
      ⟨some 21, none, [], .r (.loadN 9 (.t 2))⟩,
      ⟨some 22, none, [], .call 12004 4 true (.f 8) [.t 21]⟩,
      ⟨some 20, none, [], .p (.mv (.t 22))⟩,
      ⟨some 23, none, [], .p (.extract (.t 20) 0)⟩,
      ⟨some 24, none, [], .p (.extract (.t 20) 1)⟩,
      ⟨some 4, none, [], .p (.mv (.t 23))⟩,
      ⟨some 5, none, [], .p (.mv (.t 24))⟩]) (
  .seq (
    .region [
      ⟨some 26, none, [], .p (.mv (.t 4))⟩,
      ⟨some 27, none, [], .call 16004 4 true (.f 13) [.t 26]⟩,
      ⟨some 25, none, [], .p (.mv (.t 27))⟩,
      ⟨some 28, none, [], .p (.extract (.t 25) 0)⟩,
      ⟨some 29, none, [], .p (.extract (.t 25) 1)⟩,
      ⟨some 6, none, [], .a 16020 (.alloc [u64 0#64, u64 0#64, .int .i64 0, .int .i64 0, .int .i64 0, .int .i64 0, .bool false, .slice none 0 0, .slice none 0 0])⟩,
      ⟨none, none, [], .w (.storeN 9 (.t 6) (.t 28))⟩,
      ⟨some 7, none, [], .p (.mv (.t 29))⟩]) (
  .seq (
    .region [
      ⟨some 30, none, [], .r (.loadN 9 (.t 2))⟩,
      ⟨some 31, none, [], .call 20004 4 true (.f 11) [.t 30]⟩,
      ⟨some 32, none, [], .p (.mv (.t 31))⟩,
      ⟨some 33, some (32, true), [], .p (.mv (.t 5))⟩,
      ⟨some 34, some (32, true), [], .p (.bin .eql (.t 33) (.c (.int .i64 0)))⟩,
      ⟨some 35, none, [], .p (.pick (.t 32) (.t 34) (.c (.bool false)))⟩,
      ⟨some 36, none, [], .p (.mv (.t 35))⟩,
      ⟨some 37, some (36, true), [], .p (.mv (.t 7))⟩,
      ⟨some 38, some (36, true), [], .p (.bin .eql (.t 37) (.c (.int .i64 0)))⟩,
      ⟨some 39, none, [], .p (.pick (.t 36) (.t 38) (.c (.bool false)))⟩,
      ⟨some 40, none, [], .p (.mv (.t 39))⟩,
      ⟨some 41, some (40, true), [], .p (.mv (.t 4))⟩,
      ⟨some 42, some (40, true), [], .p (.lenV false (.t 41))⟩,
      ⟨some 43, some (40, true), [], .p (.bin .eql (.t 42) (.c (.int .i64 456)))⟩,
      ⟨some 44, none, [], .p (.pick (.t 40) (.t 43) (.c (.bool false)))⟩,
      ⟨some 45, none, [], .p (.mv (.t 44))⟩,
      ⟨some 46, some (45, true), [], .p (.faddr 0 (.t 6))⟩,
      ⟨some 47, some (45, true), [], .r (.load1 (.t 46))⟩,
      ⟨some 48, some (45, true), [], .p (.bin .eql (.t 47) (.c (u64 7#64)))⟩,
      ⟨some 49, none, [], .p (.pick (.t 45) (.t 48) (.c (.bool false)))⟩,
      ⟨some 50, none, [], .p (.mv (.t 49))⟩,
      ⟨some 51, some (50, true), [], .p (.faddr 7 (.t 6))⟩,
      ⟨some 52, some (50, true), [], .r (.load1 (.t 51))⟩,
      ⟨some 53, some (50, true), [], .p (.lenV true (.t 52))⟩,
      ⟨some 54, some (50, true), [], .p (.bin .eql (.t 53) (.c (.int .i64 4)))⟩,
      ⟨some 55, none, [], .p (.pick (.t 50) (.t 54) (.c (.bool false)))⟩,
      ⟨some 0, none, [], .p (.mv (.t 55))⟩]) (
  .ret)))))),
  56, [Sum.inl 0]⟩

theorem c10 : cFunc Try.prog quiet Try.f10 [] = some s10 := by kernel_rfl

-- 11 calls [23, 24, 25]
def s11 : SFunc := ⟨
  .seq (
    .region [
      ⟨some 1, none, [], .a 0 (.box (.t 0))⟩,
      ⟨some 2, none, [], .p (.mv (.c (.bool false)))⟩]) (
  .seq (
    .region [
      ⟨some 3, none, [], .r (.loadN 9 (.t 1))⟩,
      ⟨some 4, none, [], .call 4004 4 true (.f 23) [.t 3]⟩,
      ⟨some 5, none, [], .p (.mv (.t 4))⟩,
      ⟨some 6, some (5, true), [], .r (.loadN 9 (.t 1))⟩,
      ⟨some 7, some (5, true), [], .call 4016 4 true (.f 24) [.t 6]⟩,
      ⟨some 8, none, [], .p (.pick (.t 5) (.t 7) (.c (.bool false)))⟩,
      ⟨some 9, none, [], .p (.mv (.t 8))⟩,
      ⟨some 10, some (9, true), [], .r (.loadN 9 (.t 1))⟩,
      ⟨some 11, some (9, true), [], .call 4032 4 true (.f 25) [.t 10]⟩,
      ⟨some 12, none, [], .p (.pick (.t 9) (.t 11) (.c (.bool false)))⟩,
      ⟨some 2, none, [], .p (.mv (.t 12))⟩]) (
  .ret)),
  13, [Sum.inl 2]⟩

theorem c11 : cFunc Try.prog quiet Try.f11 [] = some s11 := by kernel_rfl

-- 12 calls [26]
abbrev k12_1 : List Nat := [1, 5, 9]
abbrev a12_1 : List Nat := [1, 2, 5]
abbrev e12_1 (v1 v5 v9 : AV) : Env := [.dead, v1, .dead, .dead, .dead, v5, .dead, .dead, .dead, v9, .dead, .dead, .dead, .dead, .dead, .dead, .dead, .dead, .dead, .dead, .dead, .dead, .dead, .dead, .dead, .dead, .dead, .dead, .dead, .dead, .dead, .dead, .dead, .dead, .dead, .dead, .dead, .dead, .dead, .dead, .dead, .dead, .dead, .dead, .dead, .dead, .dead, .dead, .dead, .dead, .dead, .dead, .dead, .dead, .dead, .dead, .dead, .dead, .dead, .dead, .dead, .dead, .dead, .dead, .dead, .dead, .dead, .dead, .dead, .dead, .dead, .dead, .dead, .dead, .dead, .dead, .dead, .dead, .dead, .dead, .dead, .dead, .dead, .dead, .dead, .dead, .dead, .dead, .dead, .dead, .dead, .dead, .dead, .dead, .dead, .dead, .dead, .dead, .dead, .dead, .dead, .dead, .dead, .dead, .dead, .dead, .dead, .dead, .dead, .dead, .dead, .dead, .dead, .dead, .dead, .dead, .dead, .dead, .dead, .dead, .dead, .dead, .dead, .dead, .dead, .dead, .dead, .dead, .dead, .dead, .dead, .dead, .dead, .dead, .dead, .dead, .dead, .dead, .dead, .dead, .dead, .dead, .dead, .dead, .dead, .dead, .dead, .dead, .dead, .dead, .dead, .dead, .dead, .dead, .dead, .dead, .dead, .dead, .dead, .dead, .dead, .dead, .dead, .dead, .dead, .dead, .dead, .dead, .dead, .dead, .dead, .dead, .dead, .dead, .dead, .dead, .dead, .dead, .dead, .dead, .dead, .dead, .dead, .dead, .dead, .dead, .dead, .dead, .dead, .dead, .dead, .dead]
abbrev x12_1 (v1 v2 v5 : AV) : Env := [.dead, v1, v2, .dead, .dead, v5, .dead, .dead, .dead, .dead, .dead, .dead, .dead, .dead, .dead, .dead, .dead, .dead, .dead, .dead, .dead, .dead, .dead, .dead, .dead, .dead, .dead, .dead, .dead, .dead, .dead, .dead, .dead, .dead, .dead, .dead, .dead, .dead, .dead, .dead, .dead, .dead, .dead, .dead, .dead, .dead, .dead, .dead, .dead, .dead, .dead, .dead, .dead, .dead, .dead, .dead, .dead, .dead, .dead, .dead, .dead, .dead, .dead, .dead, .dead, .dead, .dead, .dead, .dead, .dead, .dead, .dead, .dead, .dead, .dead, .dead, .dead, .dead, .dead, .dead, .dead, .dead, .dead, .dead, .dead, .dead, .dead, .dead, .dead, .dead, .dead, .dead, .dead, .dead, .dead, .dead, .dead, .dead, .dead, .dead, .dead, .dead, .dead, .dead, .dead, .dead, .dead, .dead, .dead, .dead, .dead, .dead, .dead, .dead, .dead, .dead, .dead, .dead, .dead, .dead, .dead, .dead, .dead, .dead, .dead, .dead, .dead, .dead, .dead, .dead, .dead, .dead, .dead, .dead, .dead, .dead, .dead, .dead, .dead, .dead, .dead, .dead, .dead, .dead, .dead, .dead, .dead, .dead, .dead, .dead, .dead, .dead, .dead, .dead, .dead, .dead, .dead, .dead, .dead, .dead, .dead, .dead, .dead, .dead, .dead, .dead, .dead, .dead, .dead, .dead, .dead, .dead, .dead, .dead, .dead, .dead, .dead, .dead, .dead, .dead, .dead, .dead, .dead, .dead, .dead, .dead, .dead, .dead, .dead, .dead, .dead, .dead]
def s12_b1 : SCode :=
  .seq (
    .seq (
      .region [
        ⟨some 157, none, [], .p (.mv (.t 9))⟩,
        ⟨some 158, none, [], .p (.faddr 7 (.t 1))⟩,
        ⟨some 159, none, [], .r (.load1 (.t 158))⟩,
        ⟨some 160, none, [], .p (.lenV true (.t 159))⟩,
        ⟨some 161, none, [], .p (.bin .lss (.t 157) (.t 160))⟩]) (
    .cond (.t 161) (
      .skip) (
      .exit 2))) (
  .seq (
    .block 3 (
      .seq (
        .region [
          ⟨some 164, none, [], .p (.faddr 7 (.t 1))⟩,
          ⟨some 165, none, [], .r (.load1 (.t 164))⟩,
          ⟨some 166, none, [], .p (.mv (.t 9))⟩,
          ⟨some 167, none, [], .p (.iaddrS 1 (.t 165) (.t 166))⟩,
          ⟨some 168, none, [], .r (.load1 (.t 167))⟩,
          ⟨some 169, none, [], .p (.bin .lss (.t 168) (.c (.int .i64 0)))⟩,
          ⟨some 170, none, [], .p (.mv (.t 169))⟩,
          ⟨some 171, some (170, false), [], .p (.faddr 7 (.t 1))⟩,
          ⟨some 172, some (170, false), [], .r (.load1 (.t 171))⟩,
          ⟨some 173, some (170, false), [], .p (.mv (.t 9))⟩,
          ⟨some 174, some (170, false), [], .p (.iaddrS 1 (.t 172) (.t 173))⟩,
          ⟨some 175, some (170, false), [], .r (.load1 (.t 174))⟩,
          ⟨some 176, some (170, false), [], .p (.faddr 8 (.t 1))⟩,
          ⟨some 177, some (170, false), [], .r (.load1 (.t 176))⟩,
          ⟨some 178, some (170, false), [], .p (.lenV true (.t 177))⟩,
          ⟨some 179, some (170, false), [], .p (.bin .geq (.t 175) (.t 178))⟩,
          ⟨some 180, none, [], .p (.pick (.t 170) (.c (.bool true)) (.t 179))⟩]) (
      .cond (.t 180) (
        .seq (
          .region [
            ⟨some 2, none, [], .p (.mv (.c (.bool false)))⟩]) (
        .ret)) (
        .skip)))) (
  .region [
    ⟨some 162, none, [], .p (.mv (.t 9))⟩,
    ⟨some 163, none, [], .p (.bin .add (.t 162) (.c (.int .i64 1)))⟩,
    ⟨some 9, none, [], .p (.mv (.t 163))⟩]))

abbrev k12_0 : List Nat := [1, 5, 6]
abbrev a12_0 : List Nat := [1, 2, 5]
abbrev e12_0 (v1 v5 v6 : AV) : Env := [.dead, v1, .dead, .dead, .dead, v5, v6, .dead, .dead, .dead, .dead, .dead, .dead, .dead, .dead, .dead, .dead, .dead, .dead, .dead, .dead, .dead, .dead, .dead, .dead, .dead, .dead, .dead, .dead, .dead, .dead, .dead, .dead, .dead, .dead, .dead, .dead, .dead, .dead, .dead, .dead, .dead, .dead, .dead, .dead, .dead, .dead, .dead, .dead, .dead, .dead, .dead, .dead, .dead, .dead, .dead, .dead, .dead, .dead, .dead, .dead, .dead, .dead, .dead, .dead, .dead, .dead, .dead, .dead, .dead, .dead, .dead, .dead, .dead, .dead, .dead, .dead, .dead, .dead, .dead, .dead, .dead, .dead, .dead, .dead, .dead, .dead, .dead, .dead, .dead, .dead, .dead, .dead, .dead, .dead, .dead, .dead, .dead, .dead, .dead, .dead, .dead, .dead, .dead, .dead, .dead, .dead, .dead, .dead, .dead, .dead, .dead, .dead, .dead, .dead, .dead, .dead, .dead, .dead, .dead, .dead, .dead, .dead, .dead, .dead, .dead, .dead, .dead, .dead, .dead, .dead, .dead, .dead, .dead, .dead, .dead, .dead, .dead, .dead, .dead, .dead, .dead, .dead, .dead, .dead, .dead, .dead, .dead, .dead, .dead, .dead, .dead, .dead, .dead, .dead, .dead, .dead, .dead, .dead, .dead, .dead, .dead, .dead, .dead, .dead, .dead, .dead, .dead, .dead, .dead, .dead, .dead, .dead, .dead, .dead, .dead, .dead, .dead, .dead, .dead, .dead, .dead, .dead, .dead, .dead, .dead, .dead, .dead, .dead, .dead, .dead, .dead]
abbrev x12_0 (v1 v2 v5 : AV) : Env := [.dead, v1, v2, .dead, .dead, v5, .dead, .dead, .dead, .dead, .dead, .dead, .dead, .dead, .dead, .dead, .dead, .dead, .dead, .dead, .dead, .dead, .dead, .dead, .dead, .dead, .dead, .dead, .dead, .dead, .dead, .dead, .dead, .dead, .dead, .dead, .dead, .dead, .dead, .dead, .dead, .dead, .dead, .dead, .dead, .dead, .dead, .dead, .dead, .dead, .dead, .dead, .dead, .dead, .dead, .dead, .dead, .dead, .dead, .dead, .dead, .dead, .dead, .dead, .dead, .dead, .dead, .dead, .dead, .dead, .dead, .dead, .dead, .dead, .dead, .dead, .dead, .dead, .dead, .dead, .dead, .dead, .dead, .dead, .dead, .dead, .dead, .dead, .dead, .dead, .dead, .dead, .dead, .dead, .dead, .dead, .dead, .dead, .dead, .dead, .dead, .dead, .dead, .dead, .dead, .dead, .dead, .dead, .dead, .dead, .dead, .dead, .dead, .dead, .dead, .dead, .dead, .dead, .dead, .dead, .dead, .dead, .dead, .dead, .dead, .dead, .dead, .dead, .dead, .dead, .dead, .dead, .dead, .dead, .dead, .dead, .dead, .dead, .dead, .dead, .dead, .dead, .dead, .dead, .dead, .dead, .dead, .dead, .dead, .dead, .dead, .dead, .dead, .dead, .dead, .dead, .dead, .dead, .dead, .dead, .dead, .dead, .dead, .dead, .dead, .dead, .dead, .dead, .dead, .dead, .dead, .dead, .dead, .dead, .dead, .dead, .dead, .dead, .dead, .dead, .dead, .dead, .dead, .dead, .dead, .dead, .dead, .dead, .dead, .dead, .dead, .dead]
def s12_b0 : SCode :=
  .seq (
    .seq (
      .region [
        ⟨some 94, none, [], .p (.mv (.t 6))⟩,
        ⟨some 95, none, [], .p (.faddr 8 (.t 1))⟩,
        ⟨some 96, none, [], .r (.load1 (.t 95))⟩,
        ⟨some 97, none, [], .p (.lenV true (.t 96))⟩,
        ⟨some 98, none, [], .p (.bin .lss (.t 94) (.t 97))⟩]) (
    .cond (.t 98) (
      .skip) (
      .exit 0))) (
  .seq (
    .block 1 (
      .seq (
        .region [
          ⟨some 101, none, [], .p (.faddr 8 (.t 1))⟩,
          ⟨some 102, none, [], .r (.load1 (.t 101))⟩,
          ⟨some 103, none, [], .p (.mv (.t 6))⟩,
          ⟨some 104, none, [], .p (.iaddrS 3 (.t 102) (.t 103))⟩,
          ⟨some 105, none, [], .r (.loadN 3 (.t 104))⟩,
          ⟨some 7, none, [], .a 72020 (.alloc [.int .i64 0, .str [], .str []])⟩,
          ⟨none, none, [], .w (.storeN 3 (.t 7) (.t 105))⟩]) (
      .seq (
        .region [
          ⟨some 106, none, [], .r (.loadN 9 (.t 1))⟩,
          ⟨some 107, none, [], .p (.mv (.t 6))⟩,
          ⟨some 108, none, [], .call 76008 4 true (.f 26) [.t 106, .t 107]⟩,
          ⟨some 8, none, [], .p (.mv (.t 108))⟩]) (
      .seq (
        .seq (
          .region [
            ⟨some 109, none, [], .p (.faddr 0 (.t 7))⟩,
            ⟨some 110, none, [], .r (.load1 (.t 109))⟩,
            ⟨some 111, none, [], .p (.bin .lss (.t 110) (.c (.int .i64 0)))⟩,
            ⟨some 112, none, [], .p (.mv (.t 111))⟩,
            ⟨some 113, some (112, false), [], .p (.faddr 0 (.t 7))⟩,
            ⟨some 114, some (112, false), [], .r (.load1 (.t 113))⟩,
            ⟨some 115, some (112, false), [], .p (.bin .gtr (.t 114) (.c (.int .i64 3)))⟩,
            ⟨some 116, none, [], .p (.pick (.t 112) (.c (.bool true)) (.t 115))⟩,
            ⟨some 117, none, [], .p (.mv (.t 116))⟩,
            ⟨some 118, some (117, false), [], .p (.faddr 1 (.t 7))⟩,
            ⟨some 119, some (117, false), [], .r (.load1 (.t 118))⟩,
            ⟨some 120, some (117, false), [], .p (.lenV false (.t 119))⟩,
            ⟨some 121, some (117, false), [], .p (.bin .neq (.t 120) (.c (.int .i64 32)))⟩,
            ⟨some 122, none, [], .p (.pick (.t 117) (.c (.bool true)) (.t 121))⟩,
            ⟨some 123, none, [], .p (.mv (.t 122))⟩,
            ⟨some 124, some (123, false), [], .p (.faddr 2 (.t 7))⟩,
            ⟨some 125, some (123, false), [], .r (.load1 (.t 124))⟩,
            ⟨some 126, some (123, false), [], .p (.lenV false (.t 125))⟩,
            ⟨some 127, some (123, false), [], .p (.bin .neq (.t 126) (.c (.int .i64 32)))⟩,
            ⟨some 128, none, [], .p (.pick (.t 123) (.c (.bool true)) (.t 127))⟩,
            ⟨some 129, none, [], .p (.mv (.t 128))⟩,
            ⟨some 130, some (129, false), [], .p (.mv (.t 8))⟩,
            ⟨some 131, some (129, false), [], .p (.bin .gtr (.t 130) (.c (.int .i64 1)))⟩,
            ⟨some 132, none, [], .p (.pick (.t 129) (.c (.bool true)) (.t 131))⟩]) (
        .cond (.t 132) (
          .seq (
            .region [
              ⟨some 2, none, [], .p (.mv (.c (.bool false)))⟩]) (
          .ret)) (
          .skip))) (
      .seq (
        .seq (
          .region [
            ⟨some 133, none, [], .p (.mv (.t 8))⟩,
            ⟨some 134, none, [], .p (.bin .eql (.t 133) (.c (.int .i64 1)))⟩,
            ⟨some 135, none, [], .p (.mv (.t 134))⟩,
            ⟨some 136, some (135, true), [], .p (.faddr 0 (.t 7))⟩,
            ⟨some 137, some (135, true), [], .r (.load1 (.t 136))⟩,
            ⟨some 138, some (135, true), [], .p (.bin .eql (.t 137) (.c (.int .i64 0)))⟩,
            ⟨some 139, none, [], .p (.pick (.t 135) (.t 138) (.c (.bool false)))⟩]) (
        .cond (.t 139) (
          .seq (
            .region [
              ⟨some 2, none, [], .p (.mv (.c (.bool false)))⟩]) (
          .ret)) (
          .skip))) (
      .seq (
        .seq (
          .region [
            ⟨some 140, none, [], .p (.mv (.t 8))⟩,
            ⟨some 141, none, [], .p (.bin .eql (.t 140) (.c (.int .i64 0)))⟩,
            ⟨some 142, none, [], .p (.mv (.t 141))⟩,
            ⟨some 143, some (142, true), [], .p (.faddr 0 (.t 7))⟩,
            ⟨some 144, some (142, true), [], .r (.load1 (.t 143))⟩,
            ⟨some 145, some (142, true), [], .p (.bin .eql (.t 144) (.c (.int .i64 1)))⟩,
            ⟨some 146, some (142, true), [], .p (.mv (.t 145))⟩,
            ⟨some 147, some (146, false), [], .p (.faddr 0 (.t 7))⟩,
            ⟨some 148, some (146, false), [], .r (.load1 (.t 147))⟩,
            ⟨some 149, some (146, false), [], .p (.bin .eql (.t 148) (.c (.int .i64 3)))⟩,
            ⟨some 150, some (142, true), [], .p (.pick (.t 146) (.c (.bool true)) (.t 149))⟩,
            ⟨some 151, none, [], .p (.pick (.t 142) (.t 150) (.c (.bool false)))⟩]) (
        .cond (.t 151) (
          .seq (
            .region [
              ⟨some 2, none, [], .p (.mv (.c (.bool false)))⟩]) (
          .ret)) (
          .skip))) (
      .seq (
        .region [
          ⟨some 152, none, [], .p (.faddr 0 (.t 7))⟩,
          ⟨some 153, none, [], .r (.load1 (.t 152))⟩,
          ⟨some 154, none, [], .p (.bin .eql (.t 153) (.c (.int .i64 3)))⟩]) (
      .cond (.t 154) (
        .region [
          ⟨some 155, none, [], .p (.mv (.t 5))⟩,
          ⟨some 156, none, [], .p (.bin .add (.t 155) (.c (.int .i64 1)))⟩,
          ⟨some 5, none, [], .p (.mv (.t 156))⟩]) (
        .skip))))))))) (
  .region [
    ⟨some 99, none, [], .p (.mv (.t 6))⟩,
    ⟨some 100, none, [], .p (.bin .add (.t 99) (.c (.int .i64 1)))⟩,
    ⟨some 6, none, [], .p (.mv (.t 100))⟩]))

def s12 : SFunc := ⟨
  .seq (
    .region [
      ⟨some 1, none, [], .a 0 (.box (.t 0))⟩,
      ⟨some 2, none, [], .p (.mv (.c (.bool false)))⟩]) (
  .seq (
    .region [
      ⟨some 3, none, [], .p (.mv (.c (.int .i64 8)))⟩]) (
  .seq (
    .region [
      ⟨some 10, none, [], .p (.faddr 2 (.t 1))⟩,
      ⟨some 11, none, [], .r (.load1 (.t 10))⟩,
      ⟨some 12, none, [], .p (.bin .add (.t 11) (.c (.int .i64 2)))⟩,
      ⟨some 4, none, [], .p (.mv (.t 12))⟩]) (
  .seq (
    .seq (
      .region [
        ⟨some 13, none, [], .p (.faddr 6 (.t 1))⟩,
        ⟨some 14, none, [], .r (.load1 (.t 13))⟩]) (
    .cond (.t 14) (
      .seq (
        .region [
          ⟨some 3, none, [], .p (.mv (.c (.int .i64 7)))⟩]) (
      .region [
        ⟨some 15, none, [], .p (.faddr 2 (.t 1))⟩,
        ⟨some 16, none, [], .r (.load1 (.t 15))⟩,
        ⟨some 17, none, [], .p (.bin .add (.t 16) (.c (.int .i64 3)))⟩,
        ⟨some 4, none, [], .p (.mv (.t 17))⟩])) (
      .skip))) (
  .seq (
    .seq (
      .region [
        ⟨some 18, none, [], .p (.faddr 2 (.t 1))⟩,
        ⟨some 19, none, [], .r (.load1 (.t 18))⟩,
        ⟨some 20, none, [], .p (.bin .lss (.t 19) (.c (.int .i64 2)))⟩,
        ⟨some 21, none, [], .p (.mv (.t 20))⟩,
        ⟨some 22, some (21, false), [], .p (.faddr 2 (.t 1))⟩,
        ⟨some 23, some (21, false), [], .r (.load1 (.t 22))⟩,
        ⟨some 24, some (21, false), [], .p (.mv (.t 3))⟩,
        ⟨some 25, some (21, false), [], .p (.bin .gtr (.t 23) (.t 24))⟩,
        ⟨some 26, none, [], .p (.pick (.t 21) (.c (.bool true)) (.t 25))⟩,
        ⟨some 27, none, [], .p (.mv (.t 26))⟩,
        ⟨some 28, some (27, false), [], .p (.faddr 7 (.t 1))⟩,
        ⟨some 29, some (27, false), [], .r (.load1 (.t 28))⟩,
        ⟨some 30, some (27, false), [], .p (.lenV true (.t 29))⟩,
        ⟨some 31, some (27, false), [], .p (.mv (.t 4))⟩,
        ⟨some 32, some (27, false), [], .p (.bin .neq (.t 30) (.t 31))⟩,
        ⟨some 33, none, [], .p (.pick (.t 27) (.c (.bool true)) (.t 32))⟩]) (
    .cond (.t 33) (
      .seq (
        .region [
          ⟨some 2, none, [], .p (.mv (.c (.bool false)))⟩]) (
      .ret)) (
      .skip))) (
  .seq (
    .seq (
      .region [
        ⟨some 34, none, [], .p (.faddr 3 (.t 1))⟩,
        ⟨some 35, none, [], .r (.load1 (.t 34))⟩,
        ⟨some 36, none, [], .p (.bin .neq (.t 35) (.c (.int .i64 2)))⟩,
        ⟨some 37, none, [], .p (.mv (.t 36))⟩,
        ⟨some 38, some (37, true), [], .p (.faddr 3 (.t 1))⟩,
        ⟨some 39, some (37, true), [], .r (.load1 (.t 38))⟩,
        ⟨some 40, some (37, true), [], .p (.bin .neq (.t 39) (.c (.int .i64 4)))⟩,
        ⟨some 41, none, [], .p (.pick (.t 37) (.t 40) (.c (.bool false)))⟩,
        ⟨some 42, none, [], .p (.mv (.t 41))⟩,
        ⟨some 43, some (42, true), [], .p (.faddr 3 (.t 1))⟩,
        ⟨some 44, some (42, true), [], .r (.load1 (.t 43))⟩,
        ⟨some 45, some (42, true), [], .p (.bin .neq (.t 44) (.c (.int .i64 8)))⟩,
        ⟨some 46, none, [], .p (.pick (.t 42) (.t 45) (.c (.bool false)))⟩,
        ⟨some 47, none, [], .p (.mv (.t 46))⟩,
        ⟨some 48, some (47, true), [], .p (.faddr 3 (.t 1))⟩,
        ⟨some 49, some (47, true), [], .r (.load1 (.t 48))⟩,
        ⟨some 50, some (47, true), [], .p (.bin .neq (.t 49) (.c (.int .i64 16)))⟩,
        ⟨some 51, none, [], .p (.pick (.t 47) (.t 50) (.c (.bool false)))⟩]) (
    .cond (.t 51) (
      .seq (
        .region [
          ⟨some 2, none, [], .p (.mv (.c (.bool false)))⟩]) (
      .ret)) (
      .skip))) (
  .seq (
    .seq (
      .region [
        ⟨some 52, none, [], .p (.faddr 4 (.t 1))⟩,
        ⟨some 53, none, [], .r (.load1 (.t 52))⟩,
        ⟨some 54, none, [], .p (.bin .lss (.t 53) (.c (.int .i64 0)))⟩,
        ⟨some 55, none, [], .p (.mv (.t 54))⟩,
        ⟨some 56, some (55, false), [], .p (.faddr 4 (.t 1))⟩,
        ⟨some 57, some (55, false), [], .r (.load1 (.t 56))⟩,
        ⟨some 58, some (55, false), [], .p (.faddr 3 (.t 1))⟩,
        ⟨some 59, some (55, false), [], .r (.load1 (.t 58))⟩,
        ⟨some 60, some (55, false), [], .p (.bin .gtr (.t 57) (.t 59))⟩,
        ⟨some 61, none, [], .p (.pick (.t 55) (.c (.bool true)) (.t 60))⟩,
        ⟨some 62, none, [], .p (.mv (.t 61))⟩,
        ⟨some 63, some (62, false), [], .p (.faddr 5 (.t 1))⟩,
        ⟨some 64, some (62, false), [], .r (.load1 (.t 63))⟩,
        ⟨some 65, some (62, false), [], .p (.bin .lss (.t 64) (.c (.int .i64 0)))⟩,
        ⟨some 66, none, [], .p (.pick (.t 62) (.c (.bool true)) (.t 65))⟩,
        ⟨some 67, none, [], .p (.mv (.t 66))⟩,
        ⟨some 68, some (67, false), [], .p (.faddr 5 (.t 1))⟩,
        ⟨some 69, some (67, false), [], .r (.load1 (.t 68))⟩,
        ⟨some 70, some (67, false), [], .p (.faddr 3 (.t 1))⟩,
        ⟨some 71, some (67, false), [], .r (.load1 (.t 70))⟩,
        ⟨some 72, some (67, false), [], .p (.bin .gtr (.t 69) (.t 71))⟩,
        ⟨some 73, none, [], .p (.pick (.t 67) (.c (.bool true)) (.t 72))⟩,
        ⟨some 74, none, [], .p (.mv (.t 73))⟩,
        ⟨some 75, some (74, false), [], .p (.faddr 4 (.t 1))⟩,
        ⟨some 76, some (74, false), [], .r (.load1 (.t 75))⟩,
        ⟨some 77, some (74, false), [], .p (.bin .gtr (.t 76) (.c (.int .i64 0)))⟩,
        ⟨some 78, some (74, false), [], .p (.mv (.t 77))⟩,
        ⟨some 79, some (78, true), [], .p (.faddr 6 (.t 1))⟩,
        ⟨some 80, some (78, true), [], .r (.load1 (.t 79))⟩,
        ⟨some 81, some (78, true), [], .p (.un .not (.t 80))⟩,
        ⟨some 82, some (74, false), [], .p (.pick (.t 78) (.t 81) (.c (.bool false)))⟩,
        ⟨some 83, none, [], .p (.pick (.t 74) (.c (.bool true)) (.t 82))⟩]) (
    .cond (.t 83) (
      .seq (
        .region [
          ⟨some 2, none, [], .p (.mv (.c (.bool false)))⟩]) (
      .ret)) (
      .skip))) (
  .seq (
    .seq (
      .region [
        ⟨some 84, none, [], .p (.faddr 8 (.t 1))⟩,
        ⟨some 85, none, [], .r (.load1 (.t 84))⟩,
        ⟨some 86, none, [], .p (.lenV true (.t 85))⟩,
        ⟨some 87, none, [], .p (.bin .lss (.t 86) (.c (.int .i64 1)))⟩,
        ⟨some 88, none, [], .p (.mv (.t 87))⟩,
        ⟨some 89, some (88, false), [], .p (.faddr 8 (.t 1))⟩,
        ⟨some 90, some (88, false), [], .r (.load1 (.t 89))⟩,
        ⟨some 91, some (88, false), [], .p (.lenV true (.t 90))⟩,
        ⟨some 92, some (88, false), [], .p (.bin .gtr (.t 91) (.c (.int .i64 12)))⟩,
        ⟨some 93, none, [], .p (.pick (.t 88) (.c (.bool true)) (.t 92))⟩]) (
    .cond (.t 93) (
      .seq (
        .region [
          ⟨some 2, none, [], .p (.mv (.c (.bool false)))⟩]) (
      .ret)) (
      .skip))) (
  .seq (
    .region [
      ⟨some 5, none, [], .p (.mv (.c (.int .i64 0)))⟩]) (
  .seq (
    .seq (
      .region [
        ⟨some 6, none, [], .p (.mv (.c (.int .i64 0)))⟩]) (
    .block 0 (
      .loop k12_0 a12_0 s12_b0))) (
  .seq (
    .seq (
      .region [
        ⟨some 9, none, [], .p (.mv (.c (.int .i64 0)))⟩]) (
    .block 2 (
      .loop k12_1 a12_1 s12_b1))) (
  .seq (
    .region [
      ⟨some 181, none, [], .p (.mv (.t 5))⟩,
      ⟨some 182, none, [], .p (.bin .eql (.t 181) (.c (.int .i64 1)))⟩,
      ⟨some 183, none, [], .p (.mv (.t 182))⟩,
      ⟨some 184, some (183, false), [], .p (.mv (.t 5))⟩,
      ⟨some 185, some (183, false), [], .p (.bin .eql (.t 184) (.c (.int .i64 0)))⟩,
      ⟨some 186, some (183, false), [], .p (.mv (.t 185))⟩,
      ⟨some 187, some (186, true), [], .p (.faddr 5 (.t 1))⟩,
      ⟨some 188, some (186, true), [], .r (.load1 (.t 187))⟩,
      ⟨some 189, some (186, true), [], .p (.bin .eql (.t 188) (.c (.int .i64 0)))⟩,
      ⟨some 190, some (183, false), [], .p (.pick (.t 186) (.t 189) (.c (.bool false)))⟩,
      ⟨some 191, none, [], .p (.pick (.t 183) (.c (.bool true)) (.t 190))⟩,
      ⟨some 2, none, [], .p (.mv (.t 191))⟩]) (
  .ret)))))))))))),
  192, [Sum.inl 2]⟩

theorem c12 : cFunc Try.prog quiet Try.f12 [[1, 5, 6], [1, 2, 5], [1, 5, 9], [1, 2, 5]] = some s12 := by kernel_rfl

-- 13 calls [11, 27, 28, 29, 30, 31]
abbrev k13_2 : List Nat := [2, 4, 5, 46, 47]
abbrev a13_2 : List Nat := [2, 4, 5]
abbrev e13_2 (v2 v4 v5 v46 v47 : AV) : Env := [.dead, .dead, v2, .dead, v4, v5, .dead, .dead, .dead, .dead, .dead, .dead, .dead, .dead, .dead, .dead, .dead, .dead, .dead, .dead, .dead, .dead, .dead, .dead, .dead, .dead, .dead, .dead, .dead, .dead, .dead, .dead, .dead, .dead, .dead, .dead, .dead, .dead, .dead, .dead, .dead, .dead, .dead, .dead, .dead, .dead, v46, v47, .dead, .dead, .dead, .dead, .dead, .dead, .dead, .dead, .dead, .dead, .dead, .dead, .dead, .dead, .dead, .dead, .dead, .dead, .dead]
abbrev x13_2 (v2 v4 v5 : AV) : Env := [.dead, .dead, v2, .dead, v4, v5, .dead, .dead, .dead, .dead, .dead, .dead, .dead, .dead, .dead, .dead, .dead, .dead, .dead, .dead, .dead, .dead, .dead, .dead, .dead, .dead, .dead, .dead, .dead, .dead, .dead, .dead, .dead, .dead, .dead, .dead, .dead, .dead, .dead, .dead, .dead, .dead, .dead, .dead, .dead, .dead, .dead, .dead, .dead, .dead, .dead, .dead, .dead, .dead, .dead, .dead, .dead, .dead, .dead, .dead, .dead, .dead, .dead, .dead, .dead, .dead, .dead]
def s13_b2 : SCode :=
  .seq (
    .region [
      ⟨some 48, none, [], .p (.bin .lss (.t 47) (.t 46))⟩]) (
  .seq (
    .cond (.t 48) (
      .skip) (
      .exit 4)) (
  .seq (
    .block 5 (
      .region [
        ⟨some 49, none, [], .p (.faddr 8 (.t 5))⟩,
        ⟨some 50, none, [68012, 68013, 68014, 68015, 68016], .r (.loadT 8000 (.t 49))⟩,
        ⟨some 51, none, [], .p (.mv (.t 4))⟩,
        ⟨some 52, none, [8000], .call 68012 4 false (.f 30) [.t 51]⟩,
        ⟨some 53, none, [8000], .a 68016 (.buildS 3 1 [.int .i64 0, .str [], .str []] [(0, 3, .t 52)])⟩,
        ⟨some 54, none, [], .w (.append 68020 3 40 (.t 50) (.t 53))⟩,
        ⟨some 55, none, [], .p (.faddr 8 (.t 5))⟩,
        ⟨none, none, [], .w (.store1 (.t 55) (.t 54))⟩])) (
  .region [
    ⟨some 56, none, [], .p (.bin .add (.t 47) (.c (.int .i64 1)))⟩,
    ⟨some 47, none, [], .p (.mv (.t 56))⟩])))

abbrev k13_1 : List Nat := [2, 4, 5, 34, 35]
abbrev a13_1 : List Nat := [2, 4, 5]
abbrev e13_1 (v2 v4 v5 v34 v35 : AV) : Env := [.dead, .dead, v2, .dead, v4, v5, .dead, .dead, .dead, .dead, .dead, .dead, .dead, .dead, .dead, .dead, .dead, .dead, .dead, .dead, .dead, .dead, .dead, .dead, .dead, .dead, .dead, .dead, .dead, .dead, .dead, .dead, .dead, .dead, v34, v35, .dead, .dead, .dead, .dead, .dead, .dead, .dead, .dead, .dead, .dead, .dead, .dead, .dead, .dead, .dead, .dead, .dead, .dead, .dead, .dead, .dead, .dead, .dead, .dead, .dead, .dead, .dead, .dead, .dead, .dead, .dead]
abbrev x13_1 (v2 v4 v5 : AV) : Env := [.dead, .dead, v2, .dead, v4, v5, .dead, .dead, .dead, .dead, .dead, .dead, .dead, .dead, .dead, .dead, .dead, .dead, .dead, .dead, .dead, .dead, .dead, .dead, .dead, .dead, .dead, .dead, .dead, .dead, .dead, .dead, .dead, .dead, .dead, .dead, .dead, .dead, .dead, .dead, .dead, .dead, .dead, .dead, .dead, .dead, .dead, .dead, .dead, .dead, .dead, .dead, .dead, .dead, .dead, .dead, .dead, .dead, .dead, .dead, .dead, .dead, .dead, .dead, .dead, .dead, .dead]
def s13_b1 : SCode :=
  .seq (
    .region [
      ⟨some 36, none, [], .p (.bin .lss (.t 35) (.t 34))⟩]) (
  .seq (
    .cond (.t 36) (
      .skip) (
      .exit 2)) (
  .seq (
    .block 3 (
      .region [
        ⟨some 37, none, [], .p (.faddr 7 (.t 5))⟩,
        ⟨some 38, none, [52012, 52013, 52014, 52015, 52016], .r (.loadT 8000 (.t 37))⟩,
        ⟨some 39, none, [], .p (.mv (.t 4))⟩,
        ⟨some 40, none, [8000], .call 52012 4 false (.f 29) [.t 39, .c (.int .i64 12)]⟩,
        ⟨some 41, none, [8000], .a 52016 (.buildS 1 1 [.int .i64 0] [(0, 1, .t 40)])⟩,
        ⟨some 42, none, [], .w (.append 52020 1 8 (.t 38) (.t 41))⟩,
        ⟨some 43, none, [], .p (.faddr 7 (.t 5))⟩,
        ⟨none, none, [], .w (.store1 (.t 43) (.t 42))⟩])) (
  .region [
    ⟨some 44, none, [], .p (.bin .add (.t 35) (.c (.int .i64 1)))⟩,
    ⟨some 35, none, [], .p (.mv (.t 44))⟩])))

abbrev k13_0 : List Nat := [2, 4, 5, 20, 21]
abbrev a13_0 : List Nat := [2, 4, 5]
abbrev e13_0 (v2 v4 v5 v20 v21 : AV) : Env := [.dead, .dead, v2, .dead, v4, v5, .dead, .dead, .dead, .dead, .dead, .dead, .dead, .dead, .dead, .dead, .dead, .dead, .dead, .dead, v20, v21, .dead, .dead, .dead, .dead, .dead, .dead, .dead, .dead, .dead, .dead, .dead, .dead, .dead, .dead, .dead, .dead, .dead, .dead, .dead, .dead, .dead, .dead, .dead, .dead, .dead, .dead, .dead, .dead, .dead, .dead, .dead, .dead, .dead, .dead, .dead, .dead, .dead, .dead, .dead, .dead, .dead, .dead, .dead, .dead, .dead]
abbrev x13_0 (v2 v4 v5 : AV) : Env := [.dead, .dead, v2, .dead, v4, v5, .dead, .dead, .dead, .dead, .dead, .dead, .dead, .dead, .dead, .dead, .dead, .dead, .dead, .dead, .dead, .dead, .dead, .dead, .dead, .dead, .dead, .dead, .dead, .dead, .dead, .dead, .dead, .dead, .dead, .dead, .dead, .dead, .dead, .dead, .dead, .dead, .dead, .dead, .dead, .dead, .dead, .dead, .dead, .dead, .dead, .dead, .dead, .dead, .dead, .dead, .dead, .dead, .dead, .dead, .dead, .dead, .dead, .dead, .dead, .dead, .dead]
def s13_b0 : SCode :=
  .seq (
    .region [
      ⟨some 22, none, [], .p (.bin .lss (.t 21) (.c (.int .i64 4)))⟩]) (
  .seq (
    .cond (.t 22) (
      .skip) (
      .exit 0)) (
  .seq (
    .block 1 (
      .seq (
        .region [
          ⟨some 23, none, [], .p (.idxA 4 (.t 20) (.t 21))⟩,
          ⟨some 7, none, [], .p (.mv (.t 23))⟩]) (
      .region [
        ⟨some 24, none, [], .p (.mv (.t 7))⟩,
        ⟨some 25, none, [], .p (.mv (.t 4))⟩,
        ⟨some 26, none, [], .call 32008 4 false (.f 29) [.t 25, .c (.int .i64 17)]⟩,
        ⟨some 27, none, [], .p (.nilChk (.t 24))⟩,
        ⟨none, none, [], .w (.store1 (.t 27) (.t 26))⟩]))) (
  .region [
    ⟨some 28, none, [], .p (.bin .add (.t 21) (.c (.int .i64 1)))⟩,
    ⟨some 21, none, [], .p (.mv (.t 28))⟩])))

def s13 : SFunc := ⟨
  .seq (
    .region [
      ⟨some 2, none, [], .a 0 (.alloc [u64 0#64, u64 0#64, .int .i64 0, .int .i64 0, .int .i64 0, .int .i64 0, .bool false, .slice none 0 0, .slice none 0 0])⟩,
      ⟨some 3, none, [], .p (.mv (.c (.int .i64 0)))⟩]) (
  .seq (
    .region [
      ⟨some 8, none, [], .p (.mv (.t 0))⟩,
      ⟨some 9, none, [], .call 4004 4 true (.f 27) [.t 8]⟩,
      ⟨some 4, none, [], .p (.mv (.t 9))⟩]) (
  .seq (
    .region [
      ⟨some 5, none, [], .a 8000 (.alloc [u64 0#64, u64 0#64, .int .i64 0, .int .i64 0, .int .i64 0, .int .i64 0, .bool false, .slice none 0 0, .slice none 0 0])⟩]) (
  .seq (
    .region [
      ⟨some 10, none, [], .p (.mv (.t 4))⟩,
      ⟨some 11, none, [], .call 12004 4 false (.f 28) [.t 10]⟩,
      ⟨some 12, none, [], .p (.faddr 0 (.t 5))⟩,
      ⟨none, none, [], .w (.store1 (.t 12) (.t 11))⟩]) (
  .seq (
    .region [
      ⟨some 13, none, [], .p (.mv (.t 4))⟩,
      ⟨some 14, none, [], .call 16004 4 false (.f 28) [.t 13]⟩,
      ⟨some 15, none, [], .p (.faddr 1 (.t 5))⟩,
      ⟨none, none, [], .w (.store1 (.t 15) (.t 14))⟩]) (
  .seq (
    .seq (
      .region [
        ⟨some 16, none, [], .p (.faddr 2 (.t 5))⟩,
        ⟨some 17, none, [], .p (.faddr 3 (.t 5))⟩,
        ⟨some 18, none, [], .p (.faddr 4 (.t 5))⟩,
        ⟨some 19, none, [], .p (.faddr 5 (.t 5))⟩,
        ⟨some 20, none, [], .p (.build [.ptr none, .ptr none, .ptr none, .ptr none] [(0, 1, .t 16), (1, 1, .t 17), (2, 1, .t 18), (3, 1, .t 19)])⟩,
        ⟨some 21, none, [], .p (.mv (.c (.int .i64 0)))⟩]) (
    .block 0 (
      .loop k13_0 a13_0 s13_b0))) (
  .seq (
    .region [
      ⟨some 29, none, [], .p (.mv (.t 4))⟩,
      ⟨some 30, none, [], .call 40004 4 false (.f 29) [.t 29, .c (.int .i64 2)]⟩,
      ⟨some 31, none, [], .p (.bin .eql (.t 30) (.c (.int .i64 1)))⟩,
      ⟨some 32, none, [], .p (.faddr 6 (.t 5))⟩,
      ⟨none, none, [], .w (.store1 (.t 32) (.t 31))⟩]) (
  .seq (
    .seq (
      .region [
        ⟨some 33, none, [], .p (.mv (.t 4))⟩,
        ⟨some 34, none, [], .call 44004 4 false (.f 29) [.t 33, .c (.int .i64 13)]⟩,
        ⟨some 35, none, [], .p (.mv (.c (.int .i64 0)))⟩]) (
    .block 2 (
      .loop k13_1 a13_1 s13_b1))) (
  .seq (
    .seq (
      .region [
        ⟨some 45, none, [], .p (.mv (.t 4))⟩,
        ⟨some 46, none, [], .call 60004 4 false (.f 29) [.t 45, .c (.int .i64 13)]⟩,
        ⟨some 47, none, [], .p (.mv (.c (.int .i64 0)))⟩]) (
    .block 4 (
      .loop k13_2 a13_2 s13_b2))) (
  .seq (
    .seq (
      .region [
        ⟨some 57, none, [], .p (.mv (.t 4))⟩,
        ⟨some 58, none, [], .call 76004 4 true (.f 31) [.t 57]⟩,
        ⟨some 59, none, [], .p (.bin .neq (.t 58) (.c (.int .i64 0)))⟩,
        ⟨some 60, none, [], .p (.mv (.t 59))⟩,
        ⟨some 61, some (60, false), [], .r (.loadN 9 (.t 5))⟩,
        ⟨some 62, some (60, false), [], .call 76020 4 true (.f 11) [.t 61]⟩,
        ⟨some 63, some (60, false), [], .p (.un .not (.t 62))⟩,
        ⟨some 64, none, [], .p (.pick (.t 60) (.c (.bool true)) (.t 63))⟩]) (
    .cond (.t 64) (
      .seq (
        .region [
          ⟨some 65, none, [], .p (.build [u64 0#64, u64 0#64, .int .i64 0, .int .i64 0, .int .i64 0, .int .i64 0, .bool false, .slice none 0 0, .slice none 0 0] [])⟩,
          ⟨none, none, [], .w (.storeN 9 (.t 2) (.t 65))⟩,
          ⟨some 3, none, [], .p (.mv (.c (.int .i64 4)))⟩]) (
      .ret)) (
      .skip))) (
  .seq (
    .region [
      ⟨some 66, none, [], .r (.loadN 9 (.t 5))⟩,
      ⟨none, none, [], .w (.storeN 9 (.t 2) (.t 66))⟩,
      ⟨some 3, none, [], .p (.mv (.c (.int .i64 0)))⟩]) (
  .ret))))))))))),
  67, [Sum.inr (2, 9, true), Sum.inl 3]⟩

theorem c13 : cFunc Try.prog (⟨(fun n => !([5020032, 5040016, 5060052, 28, 29, 30, 38, 39] : List Nat).contains n), fun n => if n = 52004 then some 8000 else if n = 68004 then some 8000 else  none⟩ : Qs) Try.f13 [[2, 4, 5, 20, 21], [2, 4, 5], [2, 4, 5, 34, 35], [2, 4, 5], [2, 4, 5, 46, 47], [2, 4, 5]] = some s13 := by kernel_rfl

-- 14 calls []
abbrev k14_1 : List Nat := [3, 93, 94, 95]
abbrev a14_1 : List Nat := [4]
abbrev e14_1 (v3 v93 v94 v95 : AV) : Env := [.dead, .dead, .dead, v3, .dead, .dead, .dead, .dead, .dead, .dead, .dead, .dead, .dead, .dead, .dead, .dead, .dead, .dead, .dead, .dead, .dead, .dead, .dead, .dead, .dead, .dead, .dead, .dead, .dead, .dead, .dead, .dead, .dead, .dead, .dead, .dead, .dead, .dead, .dead, .dead, .dead, .dead, .dead, .dead, .dead, .dead, .dead, .dead, .dead, .dead, .dead, .dead, .dead, .dead, .dead, .dead, .dead, .dead, .dead, .dead, .dead, .dead, .dead, .dead, .dead, .dead, .dead, .dead, .dead, .dead, .dead, .dead, .dead, .dead, .dead, .dead, .dead, .dead, .dead, .dead, .dead, .dead, .dead, .dead, .dead, .dead, .dead, .dead, .dead, .dead, .dead, .dead, .dead, v93, v94, v95, .dead, .dead, .dead, .dead, .dead, .dead, .dead, .dead, .dead, .dead, .dead, .dead, .dead, .dead, .dead, .dead, .dead, .dead, .dead, .dead, .dead, .dead, .dead, .dead, .dead, .dead, .dead, .dead, .dead]
abbrev x14_1 (v4 : AV) : Env := [.dead, .dead, .dead, .dead, v4, .dead, .dead, .dead, .dead, .dead, .dead, .dead, .dead, .dead, .dead, .dead, .dead, .dead, .dead, .dead, .dead, .dead, .dead, .dead, .dead, .dead, .dead, .dead, .dead, .dead, .dead, .dead, .dead, .dead, .dead, .dead, .dead, .dead, .dead, .dead, .dead, .dead, .dead, .dead, .dead, .dead, .dead, .dead, .dead, .dead, .dead, .dead, .dead, .dead, .dead, .dead, .dead, .dead, .dead, .dead, .dead, .dead, .dead, .dead, .dead, .dead, .dead, .dead, .dead, .dead, .dead, .dead, .dead, .dead, .dead, .dead, .dead, .dead, .dead, .dead, .dead, .dead, .dead, .dead, .dead, .dead, .dead, .dead, .dead, .dead, .dead, .dead, .dead, .dead, .dead, .dead, .dead, .dead, .dead, .dead, .dead, .dead, .dead, .dead, .dead, .dead, .dead, .dead, .dead, .dead, .dead, .dead, .dead, .dead, .dead, .dead, .dead, .dead, .dead, .dead, .dead, .dead, .dead, .dead, .dead]
def s14_b1 : SCode :=
  .seq (
    .region [
      ⟨some 96, none, [], .p (.bin .lss (.t 95) (.t 94))⟩]) (
  .seq (
    .cond (.t 96) (
      .skip) (
      .exit 2)) (
  .seq (
    .block 3 (
      .seq (
        .region [
          ⟨some 97, none, [], .p (.mv (.t 95))⟩,
          ⟨some 98, none, [], .p (.iaddrS 3 (.t 93) (.t 95))⟩,
          ⟨some 99, none, [], .r (.loadN 3 (.t 98))⟩,
          ⟨some 7, none, [], .a 44012 (.alloc [.int .i64 0, .str [], .str []])⟩,
          ⟨some 6, none, [], .p (.mv (.t 97))⟩,
          ⟨none, none, [], .w (.storeN 3 (.t 7) (.t 99))⟩]) (
      .seq (
        .region [
          ⟨some 100, none, [], .p (.faddr 8 (.t 3))⟩,
          ⟨some 101, none, [], .r (.load1 (.t 100))⟩,
          ⟨some 102, none, [], .p (.mv (.t 6))⟩,
          ⟨some 103, none, [], .p (.iaddrS 3 (.t 101) (.t 102))⟩,
          ⟨some 104, none, [], .r (.loadN 3 (.t 103))⟩,
          ⟨some 8, none, [], .a 48020 (.alloc [.int .i64 0, .str [], .str []])⟩,
          ⟨none, none, [], .w (.storeN 3 (.t 8) (.t 104))⟩]) (
      .seq (
        .region [
          ⟨some 105, none, [], .p (.faddr 0 (.t 7))⟩,
          ⟨some 106, none, [], .r (.load1 (.t 105))⟩,
          ⟨some 107, none, [], .p (.faddr 0 (.t 8))⟩,
          ⟨some 108, none, [], .r (.load1 (.t 107))⟩,
          ⟨some 109, none, [], .p (.bin .neq (.t 106) (.t 108))⟩,
          ⟨some 110, none, [], .p (.mv (.t 109))⟩,
          ⟨some 111, some (110, false), [], .p (.faddr 1 (.t 7))⟩,
          ⟨some 112, some (110, false), [], .r (.load1 (.t 111))⟩,
          ⟨some 113, some (110, false), [], .p (.faddr 1 (.t 8))⟩,
          ⟨some 114, some (110, false), [], .r (.load1 (.t 113))⟩,
          ⟨some 115, some (110, false), [], .p (.bin .neq (.t 112) (.t 114))⟩,
          ⟨some 116, none, [], .p (.pick (.t 110) (.c (.bool true)) (.t 115))⟩,
          ⟨some 117, none, [], .p (.mv (.t 116))⟩,
          ⟨some 118, some (117, false), [], .p (.faddr 2 (.t 7))⟩,
          ⟨some 119, some (117, false), [], .r (.load1 (.t 118))⟩,
          ⟨some 120, some (117, false), [], .p (.faddr 2 (.t 8))⟩,
          ⟨some 121, some (117, false), [], .r (.load1 (.t 120))⟩,
          ⟨some 122, some (117, false), [], .p (.bin .neq (.t 119) (.t 121))⟩,
          ⟨some 123, none, [], .p (.pick (.t 117) (.c (.bool true)) (.t 122))⟩]) (
      .cond (.t 123) (
        .seq (
          .region [
            ⟨some 4, none, [], .p (.mv (.c (.bool false)))⟩]) (
        .ret)) (
        .skip)))))) (
  .region [
    ⟨some 124, none, [], .p (.bin .add (.t 95) (.c (.int .i64 1)))⟩,
    ⟨some 95, none, [], .p (.mv (.t 124))⟩])))

abbrev k14_0 : List Nat := [2, 3, 76, 77]
abbrev a14_0 : List Nat := [2, 3, 4]
abbrev e14_0 (v2 v3 v76 v77 : AV) : Env := [.dead, .dead, v2, v3, .dead, .dead, .dead, .dead, .dead, .dead, .dead, .dead, .dead, .dead, .dead, .dead, .dead, .dead, .dead, .dead, .dead, .dead, .dead, .dead, .dead, .dead, .dead, .dead, .dead, .dead, .dead, .dead, .dead, .dead, .dead, .dead, .dead, .dead, .dead, .dead, .dead, .dead, .dead, .dead, .dead, .dead, .dead, .dead, .dead, .dead, .dead, .dead, .dead, .dead, .dead, .dead, .dead, .dead, .dead, .dead, .dead, .dead, .dead, .dead, .dead, .dead, .dead, .dead, .dead, .dead, .dead, .dead, .dead, .dead, .dead, .dead, v76, v77, .dead, .dead, .dead, .dead, .dead, .dead, .dead, .dead, .dead, .dead, .dead, .dead, .dead, .dead, .dead, .dead, .dead, .dead, .dead, .dead, .dead, .dead, .dead, .dead, .dead, .dead, .dead, .dead, .dead, .dead, .dead, .dead, .dead, .dead, .dead, .dead, .dead, .dead, .dead, .dead, .dead, .dead, .dead, .dead, .dead, .dead, .dead]
abbrev x14_0 (v2 v3 v4 : AV) : Env := [.dead, .dead, v2, v3, v4, .dead, .dead, .dead, .dead, .dead, .dead, .dead, .dead, .dead, .dead, .dead, .dead, .dead, .dead, .dead, .dead, .dead, .dead, .dead, .dead, .dead, .dead, .dead, .dead, .dead, .dead, .dead, .dead, .dead, .dead, .dead, .dead, .dead, .dead, .dead, .dead, .dead, .dead, .dead, .dead, .dead, .dead, .dead, .dead, .dead, .dead, .dead, .dead, .dead, .dead, .dead, .dead, .dead, .dead, .dead, .dead, .dead, .dead, .dead, .dead, .dead, .dead, .dead, .dead, .dead, .dead, .dead, .dead, .dead, .dead, .dead, .dead, .dead, .dead, .dead, .dead, .dead, .dead, .dead, .dead, .dead, .dead, .dead, .dead, .dead, .dead, .dead, .dead, .dead, .dead, .dead, .dead, .dead, .dead, .dead, .dead, .dead, .dead, .dead, .dead, .dead, .dead, .dead, .dead, .dead, .dead, .dead, .dead, .dead, .dead, .dead, .dead, .dead, .dead, .dead, .dead, .dead, .dead, .dead, .dead]
def s14_b0 : SCode :=
  .seq (
    .region [
      ⟨some 78, none, [], .p (.bin .lss (.t 77) (.t 76))⟩]) (
  .seq (
    .cond (.t 78) (
      .skip) (
      .exit 0)) (
  .seq (
    .block 1 (
      .seq (
        .region [
          ⟨some 79, none, [], .p (.mv (.t 77))⟩,
          ⟨some 5, none, [], .p (.mv (.t 79))⟩]) (
      .seq (
        .region [
          ⟨some 80, none, [], .p (.faddr 7 (.t 2))⟩,
          ⟨some 81, none, [], .r (.load1 (.t 80))⟩,
          ⟨some 82, none, [], .p (.mv (.t 5))⟩,
          ⟨some 83, none, [], .p (.iaddrS 1 (.t 81) (.t 82))⟩,
          ⟨some 84, none, [], .r (.load1 (.t 83))⟩,
          ⟨some 85, none, [], .p (.faddr 7 (.t 3))⟩,
          ⟨some 86, none, [], .r (.load1 (.t 85))⟩,
          ⟨some 87, none, [], .p (.mv (.t 5))⟩,
          ⟨some 88, none, [], .p (.iaddrS 1 (.t 86) (.t 87))⟩,
          ⟨some 89, none, [], .r (.load1 (.t 88))⟩,
          ⟨some 90, none, [], .p (.bin .neq (.t 84) (.t 89))⟩]) (
      .cond (.t 90) (
        .seq (
          .region [
            ⟨some 4, none, [], .p (.mv (.c (.bool false)))⟩]) (
        .ret)) (
        .skip))))) (
  .region [
    ⟨some 91, none, [], .p (.bin .add (.t 77) (.c (.int .i64 1)))⟩,
    ⟨some 77, none, [], .p (.mv (.t 91))⟩])))

def s14 : SFunc := ⟨
  .seq (
    .region [
      ⟨some 2, none, [], .a 0 (.box (.t 0))⟩,
      ⟨some 3, none, [], .a 4 (.box (.t 1))⟩,
      ⟨some 4, none, [], .p (.mv (.c (.bool false)))⟩]) (
  .seq (
    .seq (
      .region [
        ⟨some 9, none, [], .p (.faddr 0 (.t 2))⟩,
        ⟨some 10, none, [], .r (.load1 (.t 9))⟩,
        ⟨some 11, none, [], .p (.faddr 0 (.t 3))⟩,
        ⟨some 12, none, [], .r (.load1 (.t 11))⟩,
        ⟨some 13, none, [], .p (.bin .neq (.t 10) (.t 12))⟩,
        ⟨some 14, none, [], .p (.mv (.t 13))⟩,
        ⟨some 15, some (14, false), [], .p (.faddr 1 (.t 2))⟩,
        ⟨some 16, some (14, false), [], .r (.load1 (.t 15))⟩,
        ⟨some 17, some (14, false), [], .p (.faddr 1 (.t 3))⟩,
        ⟨some 18, some (14, false), [], .r (.load1 (.t 17))⟩,
        ⟨some 19, some (14, false), [], .p (.bin .neq (.t 16) (.t 18))⟩,
        ⟨some 20, none, [], .p (.pick (.t 14) (.c (.bool true)) (.t 19))⟩,
        ⟨some 21, none, [], .p (.mv (.t 20))⟩,
        ⟨some 22, some (21, false), [], .p (.faddr 2 (.t 2))⟩,
        ⟨some 23, some (21, false), [], .r (.load1 (.t 22))⟩,
        ⟨some 24, some (21, false), [], .p (.faddr 2 (.t 3))⟩,
        ⟨some 25, some (21, false), [], .r (.load1 (.t 24))⟩,
        ⟨some 26, some (21, false), [], .p (.bin .neq (.t 23) (.t 25))⟩,
        ⟨some 27, none, [], .p (.pick (.t 21) (.c (.bool true)) (.t 26))⟩,
        ⟨some 28, none, [], .p (.mv (.t 27))⟩,
        ⟨some 29, some (28, false), [], .p (.faddr 3 (.t 2))⟩,
        ⟨some 30, some (28, false), [], .r (.load1 (.t 29))⟩,
        ⟨some 31, some (28, false), [], .p (.faddr 3 (.t 3))⟩,
        ⟨some 32, some (28, false), [], .r (.load1 (.t 31))⟩,
        ⟨some 33, some (28, false), [], .p (.bin .neq (.t 30) (.t 32))⟩,
        ⟨some 34, none, [], .p (.pick (.t 28) (.c (.bool true)) (.t 33))⟩,
        ⟨some 35, none, [], .p (.mv (.t 34))⟩,
        ⟨some 36, some (35, false), [], .p (.faddr 4 (.t 2))⟩,
        ⟨some 37, some (35, false), [], .r (.load1 (.t 36))⟩,
        ⟨some 38, some (35, false), [], .p (.faddr 4 (.t 3))⟩,
        ⟨some 39, some (35, false), [], .r (.load1 (.t 38))⟩,
        ⟨some 40, some (35, false), [], .p (.bin .neq (.t 37) (.t 39))⟩,
        ⟨some 41, none, [], .p (.pick (.t 35) (.c (.bool true)) (.t 40))⟩,
        ⟨some 42, none, [], .p (.mv (.t 41))⟩,
        ⟨some 43, some (42, false), [], .p (.faddr 5 (.t 2))⟩,
        ⟨some 44, some (42, false), [], .r (.load1 (.t 43))⟩,
        ⟨some 45, some (42, false), [], .p (.faddr 5 (.t 3))⟩,
        ⟨some 46, some (42, false), [], .r (.load1 (.t 45))⟩,
        ⟨some 47, some (42, false), [], .p (.bin .neq (.t 44) (.t 46))⟩,
        ⟨some 48, none, [], .p (.pick (.t 42) (.c (.bool true)) (.t 47))⟩,
        ⟨some 49, none, [], .p (.mv (.t 48))⟩,
        ⟨some 50, some (49, false), [], .p (.faddr 6 (.t 2))⟩,
        ⟨some 51, some (49, false), [], .r (.load1 (.t 50))⟩,
        ⟨some 52, some (49, false), [], .p (.faddr 6 (.t 3))⟩,
        ⟨some 53, some (49, false), [], .r (.load1 (.t 52))⟩,
        ⟨some 54, some (49, false), [], .p (.eqb true (.t 51) (.t 53))⟩,
        ⟨some 55, none, [], .p (.pick (.t 49) (.c (.bool true)) (.t 54))⟩,
        ⟨some 56, none, [], .p (.mv (.t 55))⟩,
        ⟨some 57, some (56, false), [], .p (.faddr 7 (.t 2))⟩,
        ⟨some 58, some (56, false), [], .r (.load1 (.t 57))⟩,
        ⟨some 59, some (56, false), [], .p (.lenV true (.t 58))⟩,
        ⟨some 60, some (56, false), [], .p (.faddr 7 (.t 3))⟩,
        ⟨some 61, some (56, false), [], .r (.load1 (.t 60))⟩,
        ⟨some 62, some (56, false), [], .p (.lenV true (.t 61))⟩,
        ⟨some 63, some (56, false), [], .p (.bin .neq (.t 59) (.t 62))⟩,
        ⟨some 64, none, [], .p (.pick (.t 56) (.c (.bool true)) (.t 63))⟩,
        ⟨some 65, none, [], .p (.mv (.t 64))⟩,
        ⟨some 66, some (65, false), [], .p (.faddr 8 (.t 2))⟩,
        ⟨some 67, some (65, false), [], .r (.load1 (.t 66))⟩,
        ⟨some 68, some (65, false), [], .p (.lenV true (.t 67))⟩,
        ⟨some 69, some (65, false), [], .p (.faddr 8 (.t 3))⟩,
        ⟨some 70, some (65, false), [], .r (.load1 (.t 69))⟩,
        ⟨some 71, some (65, false), [], .p (.lenV true (.t 70))⟩,
        ⟨some 72, some (65, false), [], .p (.bin .neq (.t 68) (.t 71))⟩,
        ⟨some 73, none, [], .p (.pick (.t 65) (.c (.bool true)) (.t 72))⟩]) (
    .cond (.t 73) (
      .seq (
        .region [
          ⟨some 4, none, [], .p (.mv (.c (.bool false)))⟩]) (
      .ret)) (
      .skip))) (
  .seq (
    .seq (
      .region [
        ⟨some 74, none, [], .p (.faddr 7 (.t 2))⟩,
        ⟨some 75, none, [], .r (.load1 (.t 74))⟩,
        ⟨some 76, none, [], .p (.lenV true (.t 75))⟩,
        ⟨some 77, none, [], .p (.mv (.c (.int .i64 0)))⟩]) (
    .block 0 (
      .loop k14_0 a14_0 s14_b0))) (
  .seq (
    .seq (
      .region [
        ⟨some 92, none, [], .p (.faddr 8 (.t 2))⟩,
        ⟨some 93, none, [], .r (.load1 (.t 92))⟩,
        ⟨some 94, none, [], .p (.lenV true (.t 93))⟩,
        ⟨some 95, none, [], .p (.mv (.c (.int .i64 0)))⟩]) (
    .block 2 (
      .loop k14_1 a14_1 s14_b1))) (
  .seq (
    .region [
      ⟨some 4, none, [], .p (.mv (.c (.bool true)))⟩]) (
  .ret))))),
  125, [Sum.inl 4]⟩

theorem c14 : cFunc Try.prog quiet Try.f14 [[2, 3, 76, 77], [2, 3, 4], [3, 93, 94, 95], [4]] = some s14 := by kernel_rfl

-- 15 calls [32, 33]
def s15 : SFunc := ⟨
  .seq (
    .region [
      ⟨some 1, none, [], .a 0 (.box (.t 0))⟩,
      ⟨some 2, none, [], .a 4 (.alloc [u64 0#64, u64 0#64, .int .i64 0, .int .i64 0, .int .i64 0, .int .i64 0, .bool false, .slice none 0 0, .slice none 0 0])⟩]) (
  .seq (
    .region [
      ⟨some 3, none, [], .p (.faddr 7 (.t 1))⟩,
      ⟨some 4, none, [], .r (.load1 (.t 3))⟩,
      ⟨some 5, none, [], .call 4008 4 true (.f 32) [.t 4]⟩,
      ⟨some 6, none, [], .p (.faddr 8 (.t 1))⟩,
      ⟨some 7, none, [4008, 4009, 4010, 4011], .r (.load1 (.t 6))⟩,
      ⟨some 8, none, [], .call 4020 4 true (.f 33) [.t 7]⟩,
      ⟨some 9, none, [], .p (.faddr 7 (.t 1))⟩,
      ⟨none, none, [], .w (.store1 (.t 9) (.t 5))⟩,
      ⟨some 10, none, [], .p (.faddr 8 (.t 1))⟩,
      ⟨none, none, [], .w (.store1 (.t 10) (.t 8))⟩]) (
  .seq (
    .region [
      ⟨some 11, none, [], .r (.loadN 9 (.t 1))⟩,
      ⟨none, none, [], .w (.storeN 9 (.t 2) (.t 11))⟩]) (
  .ret))),
  12, [Sum.inr (2, 9, true)]⟩

theorem c15 : cFunc Try.prog quiet Try.f15 [] = some s15 := by kernel_rfl

-- 17 calls [35]
def s17 : SFunc := ⟨
  .seq (
    .region [
      ⟨some 2, none, [], .p (.mv (.c (.str [])))⟩]) (
  .seq (
    .region [
      ⟨some 3, none, [], .p (.mv (.t 0))⟩,
      ⟨some 4, none, [], .p (.bin .shr (.t 3) (.c (u64 32#64)))⟩,
      ⟨some 5, none, [], .p (.conv .u32 (.t 4))⟩,
      ⟨some 6, none, [], .p (.mv (.t 0))⟩,
      ⟨some 7, none, [], .p (.conv .u32 (.t 6))⟩,
      ⟨some 8, none, [], .a 4020 (.buildS 1 2 [u32 0#32] [(0, 1, .t 5), (1, 1, .t 7)])⟩,
      ⟨some 9, none, [], .call 4024 4 true (.f 35) [.t 8]⟩,
      ⟨some 2, none, [], .p (.mv (.t 9))⟩]) (
  .ret)),
  10, [Sum.inl 2]⟩

theorem c17 : cFunc Try.prog quiet Try.f17 [] = some s17 := by kernel_rfl

-- 18 calls []
def s18 : SFunc := ⟨
  .seq (
    .region [
      ⟨some 2, none, [], .p (.mv (.c (.int .i64 0)))⟩]) (
  .seq (
    .seq (
      .region [
        ⟨some 3, none, [], .p (.mv (.t 0))⟩]) (
    .cond (.t 3) (
      .seq (
        .region [
          ⟨some 2, none, [], .p (.mv (.c (.int .i64 1)))⟩]) (
      .ret)) (
      .skip))) (
  .seq (
    .region [
      ⟨some 2, none, [], .p (.mv (.c (.int .i64 0)))⟩]) (
  .ret))),
  4, [Sum.inl 2]⟩

theorem c18 : cFunc Try.prog quiet Try.f18 [] = some s18 := by kernel_rfl

-- 19 calls [17]
def s19 : SFunc := ⟨
  .seq (
    .region [
      ⟨some 2, none, [], .p (.mv (.c (.str [])))⟩]) (
  .seq (
    .region [
      ⟨some 3, none, [], .p (.mv (.t 0))⟩,
      ⟨some 4, none, [], .p (.lenV false (.t 3))⟩,
      ⟨some 5, none, [], .p (.conv .u64 (.t 4))⟩,
      ⟨some 6, none, [], .call 4012 4 true (.f 17) [.t 5]⟩,
      ⟨some 7, none, [], .p (.mv (.t 0))⟩,
      ⟨some 8, none, [], .p (.bin .add (.t 6) (.t 7))⟩,
      ⟨some 2, none, [], .p (.mv (.t 8))⟩]) (
  .ret)),
  9, [Sum.inl 2]⟩

theorem c19 : cFunc Try.prog quiet Try.f19 [] = some s19 := by kernel_rfl

-- 21 calls []
abbrev k21_0 : List Nat := [0, 3, 4]
abbrev a21_0 : List Nat := [3]
abbrev e21_0 (v0 v3 v4 : AV) : Env := [v0, .dead, .dead, v3, v4, .dead, .dead, .dead, .dead, .dead, .dead, .dead, .dead, .dead, .dead, .dead, .dead, .dead]
abbrev x21_0 (v3 : AV) : Env := [.dead, .dead, .dead, v3, .dead, .dead, .dead, .dead, .dead, .dead, .dead, .dead, .dead, .dead, .dead, .dead, .dead, .dead]
def s21_b0 : SCode :=
  .seq (
    .seq (
      .region [
        ⟨some 5, none, [], .p (.mv (.t 4))⟩,
        ⟨some 6, none, [], .p (.bin .geq (.t 5) (.c (.int .i64 0)))⟩]) (
    .cond (.t 6) (
      .skip) (
      .exit 0))) (
  .seq (
    .block 1 (
      .seq (
        .region [
          ⟨some 9, none, [], .p (.mv (.t 4))⟩,
          ⟨some 10, none, [], .p (.mv (.t 0))⟩,
          ⟨some 11, none, [], .p (.bin .rem (.t 10) (.c (u64 256#64)))⟩,
          ⟨some 12, none, [], .p (.conv .u8 (.t 11))⟩,
          ⟨some 13, none, [], .p (.iaddrA 8 1 (.t 3) (.t 9))⟩,
          ⟨none, none, [], .w (.store1 (.t 13) (.t 12))⟩]) (
      .region [
        ⟨some 14, none, [], .p (.mv (.t 0))⟩,
        ⟨some 15, none, [], .p (.bin .quo (.t 14) (.c (u64 256#64)))⟩,
        ⟨some 0, none, [], .p (.mv (.t 15))⟩]))) (
  .region [
    ⟨some 7, none, [], .p (.mv (.t 4))⟩,
    ⟨some 8, none, [], .p (.bin .sub (.t 7) (.c (.int .i64 1)))⟩,
    ⟨some 4, none, [], .p (.mv (.t 8))⟩]))

def s21 : SFunc := ⟨
  .seq (
    .region [
      ⟨some 2, none, [], .p (.mv (.c (.str [])))⟩]) (
  .seq (
    .region [
      ⟨some 3, none, [], .a 4000 (.alloc [byteAV 0, byteAV 0, byteAV 0, byteAV 0, byteAV 0, byteAV 0, byteAV 0, byteAV 0])⟩]) (
  .seq (
    .seq (
      .region [
        ⟨some 4, none, [], .p (.mv (.c (.int .i64 7)))⟩]) (
    .block 0 (
      .loop k21_0 a21_0 s21_b0))) (
  .seq (
    .region [
      ⟨some 16, none, [], .p (.slcA 8 1 (.t 3) none none)⟩,
      ⟨some 17, none, [], .r (.toStr (.t 16))⟩,
      ⟨some 2, none, [], .p (.mv (.t 17))⟩]) (
  .ret)))),
  18, [Sum.inl 2]⟩

theorem c21 : cFunc Try.prog quiet Try.f21 [[0, 3, 4], [3]] = some s21 := by kernel_rfl

-- 22 calls [21]
def s22 : SFunc := ⟨
  .seq (
    .region [
      ⟨some 2, none, [], .p (.mv (.c (.str [])))⟩]) (
  .seq (
    .region [
      ⟨some 4, none, [], .p (.mv (.t 0))⟩,
      ⟨some 5, none, [], .p (.lenV false (.t 4))⟩,
      ⟨some 6, none, [], .p (.conv .u64 (.t 5))⟩,
      ⟨some 7, none, [], .call 4012 4 true (.f 21) [.t 6]⟩,
      ⟨some 3, none, [], .p (.mv (.t 7))⟩]) (
  .seq (
    .region [
      ⟨some 8, none, [], .p (.mv (.t 3))⟩,
      ⟨some 9, none, [], .p (.mv (.t 0))⟩,
      ⟨some 10, none, [], .p (.bin .add (.t 8) (.t 9))⟩,
      ⟨some 2, none, [], .p (.mv (.t 10))⟩]) (
  .ret))),
  11, [Sum.inl 2]⟩

theorem c22 : cFunc Try.prog quiet Try.f22 [] = some s22 := by kernel_rfl

-- 23 calls [36]
def s23 : SFunc := ⟨
  .seq (
    .region [
      ⟨some 1, none, [], .a 0 (.box (.t 0))⟩,
      ⟨some 2, none, [], .p (.mv (.c (.bool false)))⟩]) (
  .seq (
    .block 0 (
      .seq (
        .region [
          ⟨some 4, none, [], .p (.faddr 2 (.t 1))⟩,
          ⟨some 5, none, [], .r (.load1 (.t 4))⟩,
          ⟨some 6, none, [], .p (.bin .lss (.t 5) (.c (.int .i64 2)))⟩,
          ⟨some 7, none, [], .p (.mv (.t 6))⟩,
          ⟨some 8, some (7, false), [], .p (.faddr 2 (.t 1))⟩,
          ⟨some 9, some (7, false), [], .r (.load1 (.t 8))⟩,
          ⟨some 10, some (7, false), [], .p (.bin .gtr (.t 9) (.c (.int .i64 8)))⟩,
          ⟨some 11, none, [], .p (.pick (.t 7) (.c (.bool true)) (.t 10))⟩,
          ⟨some 12, none, [], .p (.mv (.t 11))⟩,
          ⟨some 13, some (12, false), [], .p (.faddr 6 (.t 1))⟩,
          ⟨some 14, some (12, false), [], .r (.load1 (.t 13))⟩,
          ⟨some 15, some (12, false), [], .p (.mv (.t 14))⟩,
          ⟨some 16, some (15, true), [], .p (.faddr 2 (.t 1))⟩,
          ⟨some 17, some (15, true), [], .r (.load1 (.t 16))⟩,
          ⟨some 18, some (15, true), [], .p (.bin .eql (.t 17) (.c (.int .i64 8)))⟩,
          ⟨some 19, some (12, false), [], .p (.pick (.t 15) (.t 18) (.c (.bool false)))⟩,
          ⟨some 20, none, [], .p (.pick (.t 12) (.c (.bool true)) (.t 19))⟩,
          ⟨some 3, none, [], .p (.mv (.t 20))⟩]) (
      .cond (.t 3) (
        .seq (
          .region [
            ⟨some 2, none, [], .p (.mv (.c (.bool false)))⟩]) (
        .ret)) (
        .seq (
          .region [
            ⟨some 22, none, [], .a 12000 (.buildS 1 4 [.int .i64 0] [(0, 1, .c (.int .i64 2)), (1, 1, .c (.int .i64 4)), (2, 1, .c (.int .i64 8)), (3, 1, .c (.int .i64 16))])⟩,
            ⟨some 23, none, [], .p (.faddr 3 (.t 1))⟩,
            ⟨some 24, none, [], .r (.load1 (.t 23))⟩,
            ⟨some 25, none, [], .call 12012 4 true (.f 36) [.t 22, .t 24]⟩,
            ⟨some 26, none, [], .p (.un .not (.t 25))⟩,
            ⟨some 21, none, [], .p (.mv (.t 26))⟩]) (
        .cond (.t 21) (
          .seq (
            .region [
              ⟨some 2, none, [], .p (.mv (.c (.bool false)))⟩]) (
          .ret)) (
          .seq (
            .region [
              ⟨some 28, none, [], .p (.faddr 4 (.t 1))⟩,
              ⟨some 29, none, [], .r (.load1 (.t 28))⟩,
              ⟨some 30, none, [], .p (.bin .lss (.t 29) (.c (.int .i64 0)))⟩,
              ⟨some 31, none, [], .p (.mv (.t 30))⟩,
              ⟨some 32, some (31, false), [], .p (.faddr 4 (.t 1))⟩,
              ⟨some 33, some (31, false), [], .r (.load1 (.t 32))⟩,
              ⟨some 34, some (31, false), [], .p (.faddr 3 (.t 1))⟩,
              ⟨some 35, some (31, false), [], .r (.load1 (.t 34))⟩,
              ⟨some 36, some (31, false), [], .p (.bin .gtr (.t 33) (.t 35))⟩,
              ⟨some 37, none, [], .p (.pick (.t 31) (.c (.bool true)) (.t 36))⟩,
              ⟨some 38, none, [], .p (.mv (.t 37))⟩,
              ⟨some 39, some (38, false), [], .p (.faddr 4 (.t 1))⟩,
              ⟨some 40, some (38, false), [], .r (.load1 (.t 39))⟩,
              ⟨some 41, some (38, false), [], .p (.bin .gtr (.t 40) (.c (.int .i64 0)))⟩,
              ⟨some 42, some (38, false), [], .p (.mv (.t 41))⟩,
              ⟨some 43, some (42, true), [], .p (.faddr 6 (.t 1))⟩,
              ⟨some 44, some (42, true), [], .r (.load1 (.t 43))⟩,
              ⟨some 45, some (42, true), [], .p (.un .not (.t 44))⟩,
              ⟨some 46, some (38, false), [], .p (.pick (.t 42) (.t 45) (.c (.bool false)))⟩,
              ⟨some 47, none, [], .p (.pick (.t 38) (.c (.bool true)) (.t 46))⟩,
              ⟨some 27, none, [], .p (.mv (.t 47))⟩]) (
          .cond (.t 27) (
            .seq (
              .region [
                ⟨some 2, none, [], .p (.mv (.c (.bool false)))⟩]) (
            .ret)) (
            .skip)))))))) (
  .seq (
    .region [
      ⟨some 48, none, [], .p (.faddr 5 (.t 1))⟩,
      ⟨some 49, none, [], .r (.load1 (.t 48))⟩,
      ⟨some 50, none, [], .p (.bin .geq (.t 49) (.c (.int .i64 0)))⟩,
      ⟨some 51, none, [], .p (.mv (.t 50))⟩,
      ⟨some 52, some (51, true), [], .p (.faddr 5 (.t 1))⟩,
      ⟨some 53, some (51, true), [], .r (.load1 (.t 52))⟩,
      ⟨some 54, some (51, true), [], .p (.faddr 3 (.t 1))⟩,
      ⟨some 55, some (51, true), [], .r (.load1 (.t 54))⟩,
      ⟨some 56, some (51, true), [], .p (.bin .leq (.t 53) (.t 55))⟩,
      ⟨some 57, none, [], .p (.pick (.t 51) (.t 56) (.c (.bool false)))⟩,
      ⟨some 58, none, [], .p (.mv (.t 57))⟩,
      ⟨some 59, some (58, true), [], .p (.faddr 8 (.t 1))⟩,
      ⟨some 60, some (58, true), [], .r (.load1 (.t 59))⟩,
      ⟨some 61, some (58, true), [], .p (.lenV true (.t 60))⟩,
      ⟨some 62, some (58, true), [], .p (.bin .geq (.t 61) (.c (.int .i64 1)))⟩,
      ⟨some 63, none, [], .p (.pick (.t 58) (.t 62) (.c (.bool false)))⟩,
      ⟨some 64, none, [], .p (.mv (.t 63))⟩,
      ⟨some 65, some (64, true), [], .p (.faddr 8 (.t 1))⟩,
      ⟨some 66, some (64, true), [], .r (.load1 (.t 65))⟩,
      ⟨some 67, some (64, true), [], .p (.lenV true (.t 66))⟩,
      ⟨some 68, some (64, true), [], .p (.bin .leq (.t 67) (.c (.int .i64 12)))⟩,
      ⟨some 69, none, [], .p (.pick (.t 64) (.t 68) (.c (.bool false)))⟩,
      ⟨some 2, none, [], .p (.mv (.t 69))⟩]) (
  .ret))),
  70, [Sum.inl 2]⟩

theorem c23 : cFunc Try.prog quiet Try.f23 [] = some s23 := by kernel_rfl

-- 24 calls []
abbrev k24_0 : List Nat := [1, 3, 7, 8, 9]
abbrev a24_0 : List Nat := [1, 2, 3]
abbrev e24_0 (v1 v3 v7 v8 v9 : AV) : Env := [.dead, v1, .dead, v3, .dead, .dead, .dead, v7, v8, v9, .dead, .dead, .dead, .dead, .dead, .dead, .dead, .dead, .dead, .dead, .dead, .dead, .dead, .dead, .dead, .dead, .dead, .dead, .dead, .dead, .dead, .dead, .dead, .dead, .dead, .dead, .dead, .dead, .dead, .dead, .dead, .dead, .dead, .dead, .dead, .dead, .dead, .dead, .dead, .dead]
abbrev x24_0 (v1 v2 v3 : AV) : Env := [.dead, v1, v2, v3, .dead, .dead, .dead, .dead, .dead, .dead, .dead, .dead, .dead, .dead, .dead, .dead, .dead, .dead, .dead, .dead, .dead, .dead, .dead, .dead, .dead, .dead, .dead, .dead, .dead, .dead, .dead, .dead, .dead, .dead, .dead, .dead, .dead, .dead, .dead, .dead, .dead, .dead, .dead, .dead, .dead, .dead, .dead, .dead, .dead, .dead]
def s24_b0 : SCode :=
  .seq (
    .region [
      ⟨some 10, none, [], .p (.bin .lss (.t 9) (.t 8))⟩]) (
  .seq (
    .cond (.t 10) (
      .skip) (
      .exit 0)) (
  .seq (
    .block 1 (
      .seq (
        .region [
          ⟨some 11, none, [], .p (.iaddrS 3 (.t 7) (.t 9))⟩,
          ⟨some 12, none, [], .r (.loadN 3 (.t 11))⟩,
          ⟨some 5, none, [], .a 16008 (.alloc [.int .i64 0, .str [], .str []])⟩,
          ⟨none, none, [], .w (.storeN 3 (.t 5) (.t 12))⟩]) (
      .seq (
        .seq (
          .region [
            ⟨some 13, none, [], .p (.faddr 0 (.t 5))⟩,
            ⟨some 14, none, [], .r (.load1 (.t 13))⟩,
            ⟨some 15, none, [], .p (.bin .lss (.t 14) (.c (.int .i64 0)))⟩,
            ⟨some 16, none, [], .p (.mv (.t 15))⟩,
            ⟨some 17, some (16, false), [], .p (.faddr 0 (.t 5))⟩,
            ⟨some 18, some (16, false), [], .r (.load1 (.t 17))⟩,
            ⟨some 19, some (16, false), [], .p (.bin .geq (.t 18) (.c (.int .i64 4)))⟩,
            ⟨some 20, none, [], .p (.pick (.t 16) (.c (.bool true)) (.t 19))⟩,
            ⟨some 21, none, [], .p (.mv (.t 20))⟩,
            ⟨some 22, some (21, false), [], .p (.faddr 1 (.t 5))⟩,
            ⟨some 23, some (21, false), [], .r (.load1 (.t 22))⟩,
            ⟨some 24, some (21, false), [], .p (.lenV false (.t 23))⟩,
            ⟨some 25, some (21, false), [], .p (.bin .neq (.t 24) (.c (.int .i64 32)))⟩,
            ⟨some 26, none, [], .p (.pick (.t 21) (.c (.bool true)) (.t 25))⟩,
            ⟨some 27, none, [], .p (.mv (.t 26))⟩,
            ⟨some 28, some (27, false), [], .p (.faddr 2 (.t 5))⟩,
            ⟨some 29, some (27, false), [], .r (.load1 (.t 28))⟩,
            ⟨some 30, some (27, false), [], .p (.lenV false (.t 29))⟩,
            ⟨some 31, some (27, false), [], .p (.bin .neq (.t 30) (.c (.int .i64 32)))⟩,
            ⟨some 32, none, [], .p (.pick (.t 27) (.c (.bool true)) (.t 31))⟩]) (
        .cond (.t 32) (
          .seq (
            .region [
              ⟨some 2, none, [], .p (.mv (.c (.bool false)))⟩]) (
          .ret)) (
          .skip))) (
      .seq (
        .region [
          ⟨some 33, none, [], .p (.faddr 0 (.t 5))⟩,
          ⟨some 34, none, [], .r (.load1 (.t 33))⟩,
          ⟨some 35, none, [], .p (.bin .eql (.t 34) (.c (.int .i64 3)))⟩]) (
      .cond (.t 35) (
        .region [
          ⟨some 36, none, [], .p (.mv (.t 3))⟩,
          ⟨some 37, none, [], .p (.bin .add (.t 36) (.c (.int .i64 1)))⟩,
          ⟨some 3, none, [], .p (.mv (.t 37))⟩]) (
        .skip)))))) (
  .region [
    ⟨some 38, none, [], .p (.bin .add (.t 9) (.c (.int .i64 1)))⟩,
    ⟨some 9, none, [], .p (.mv (.t 38))⟩])))

def s24 : SFunc := ⟨
  .seq (
    .region [
      ⟨some 1, none, [], .a 0 (.box (.t 0))⟩,
      ⟨some 2, none, [], .p (.mv (.c (.bool false)))⟩]) (
  .seq (
    .region [
      ⟨some 3, none, [], .p (.mv (.c (.int .i64 0)))⟩]) (
  .seq (
    .seq (
      .region [
        ⟨some 6, none, [], .p (.faddr 8 (.t 1))⟩,
        ⟨some 7, none, [], .r (.load1 (.t 6))⟩,
        ⟨some 8, none, [], .p (.lenV true (.t 7))⟩,
        ⟨some 9, none, [], .p (.mv (.c (.int .i64 0)))⟩]) (
    .block 0 (
      .loop k24_0 a24_0 s24_b0))) (
  .seq (
    .region [
      ⟨some 39, none, [], .p (.mv (.t 3))⟩,
      ⟨some 40, none, [], .p (.bin .eql (.t 39) (.c (.int .i64 1)))⟩,
      ⟨some 41, none, [], .p (.mv (.t 40))⟩,
      ⟨some 42, some (41, false), [], .p (.mv (.t 3))⟩,
      ⟨some 43, some (41, false), [], .p (.bin .eql (.t 42) (.c (.int .i64 0)))⟩,
      ⟨some 44, some (41, false), [], .p (.mv (.t 43))⟩,
      ⟨some 45, some (44, true), [], .p (.faddr 5 (.t 1))⟩,
      ⟨some 46, some (44, true), [], .r (.load1 (.t 45))⟩,
      ⟨some 47, some (44, true), [], .p (.bin .eql (.t 46) (.c (.int .i64 0)))⟩,
      ⟨some 48, some (41, false), [], .p (.pick (.t 44) (.t 47) (.c (.bool false)))⟩,
      ⟨some 49, none, [], .p (.pick (.t 41) (.c (.bool true)) (.t 48))⟩,
      ⟨some 2, none, [], .p (.mv (.t 49))⟩]) (
  .ret)))),
  50, [Sum.inl 2]⟩

theorem c24 : cFunc Try.prog quiet Try.f24 [[1, 3, 7, 8, 9], [1, 2, 3]] = some s24 := by kernel_rfl

-- 25 calls []
abbrev k25_1 : List Nat := [4, 47, 48, 49]
abbrev a25_1 : List Nat := [2]
abbrev e25_1 (v4 v47 v48 v49 : AV) : Env := [.dead, .dead, .dead, .dead, v4, .dead, .dead, .dead, .dead, .dead, .dead, .dead, .dead, .dead, .dead, .dead, .dead, .dead, .dead, .dead, .dead, .dead, .dead, .dead, .dead, .dead, .dead, .dead, .dead, .dead, .dead, .dead, .dead, .dead, .dead, .dead, .dead, .dead, .dead, .dead, .dead, .dead, .dead, .dead, .dead, .dead, .dead, v47, v48, v49, .dead, .dead, .dead, .dead, .dead, .dead, .dead, .dead, .dead, .dead, .dead, .dead, .dead, .dead, .dead, .dead, .dead]
abbrev x25_1 (v2 : AV) : Env := [.dead, .dead, v2, .dead, .dead, .dead, .dead, .dead, .dead, .dead, .dead, .dead, .dead, .dead, .dead, .dead, .dead, .dead, .dead, .dead, .dead, .dead, .dead, .dead, .dead, .dead, .dead, .dead, .dead, .dead, .dead, .dead, .dead, .dead, .dead, .dead, .dead, .dead, .dead, .dead, .dead, .dead, .dead, .dead, .dead, .dead, .dead, .dead, .dead, .dead, .dead, .dead, .dead, .dead, .dead, .dead, .dead, .dead, .dead, .dead, .dead, .dead, .dead, .dead, .dead, .dead, .dead]
def s25_b1 : SCode :=
  .seq (
    .region [
      ⟨some 50, none, [], .p (.bin .lss (.t 49) (.t 48))⟩]) (
  .seq (
    .cond (.t 50) (
      .skip) (
      .exit 2)) (
  .seq (
    .block 3 (
      .seq (
        .region [
          ⟨some 51, none, [], .p (.mv (.t 49))⟩,
          ⟨some 52, none, [], .p (.iaddrS 3 (.t 47) (.t 49))⟩,
          ⟨some 53, none, [], .r (.loadN 3 (.t 52))⟩,
          ⟨some 8, none, [], .a 64012 (.alloc [.int .i64 0, .str [], .str []])⟩,
          ⟨some 7, none, [], .p (.mv (.t 51))⟩,
          ⟨none, none, [], .w (.storeN 3 (.t 8) (.t 53))⟩]) (
      .seq (
        .region [
          ⟨some 54, none, [], .p (.faddr 0 (.t 8))⟩,
          ⟨some 55, none, [], .r (.load1 (.t 54))⟩,
          ⟨some 56, none, [], .p (.bin .neq (.t 55) (.c (.int .i64 2)))⟩,
          ⟨some 57, none, [], .p (.mv (.t 56))⟩,
          ⟨some 58, some (57, true), [], .p (.mv (.t 4))⟩,
          ⟨some 59, some (57, true), [], .p (.mv (.t 7))⟩,
          ⟨some 60, some (57, true), [], .r (.lookup false (.bool false) (.t 58) (.t 59) false)⟩,
          ⟨some 61, some (57, true), [], .p (.faddr 0 (.t 8))⟩,
          ⟨some 62, some (57, true), [], .r (.load1 (.t 61))⟩,
          ⟨some 63, some (57, true), [], .p (.bin .eql (.t 62) (.c (.int .i64 0)))⟩,
          ⟨some 64, some (57, true), [], .p (.eqb false (.t 60) (.t 63))⟩,
          ⟨some 65, none, [], .p (.pick (.t 57) (.t 64) (.c (.bool false)))⟩]) (
      .cond (.t 65) (
        .seq (
          .region [
            ⟨some 2, none, [], .p (.mv (.c (.bool false)))⟩]) (
        .ret)) (
        .skip))))) (
  .region [
    ⟨some 66, none, [], .p (.bin .add (.t 49) (.c (.int .i64 1)))⟩,
    ⟨some 49, none, [], .p (.mv (.t 66))⟩])))

abbrev k25_0 : List Nat := [1, 4, 23, 24, 25]
abbrev a25_0 : List Nat := [1, 2, 4]
abbrev e25_0 (v1 v4 v23 v24 v25 : AV) : Env := [.dead, v1, .dead, .dead, v4, .dead, .dead, .dead, .dead, .dead, .dead, .dead, .dead, .dead, .dead, .dead, .dead, .dead, .dead, .dead, .dead, .dead, .dead, v23, v24, v25, .dead, .dead, .dead, .dead, .dead, .dead, .dead, .dead, .dead, .dead, .dead, .dead, .dead, .dead, .dead, .dead, .dead, .dead, .dead, .dead, .dead, .dead, .dead, .dead, .dead, .dead, .dead, .dead, .dead, .dead, .dead, .dead, .dead, .dead, .dead, .dead, .dead, .dead, .dead, .dead, .dead]
abbrev x25_0 (v1 v2 v4 : AV) : Env := [.dead, v1, v2, .dead, v4, .dead, .dead, .dead, .dead, .dead, .dead, .dead, .dead, .dead, .dead, .dead, .dead, .dead, .dead, .dead, .dead, .dead, .dead, .dead, .dead, .dead, .dead, .dead, .dead, .dead, .dead, .dead, .dead, .dead, .dead, .dead, .dead, .dead, .dead, .dead, .dead, .dead, .dead, .dead, .dead, .dead, .dead, .dead, .dead, .dead, .dead, .dead, .dead, .dead, .dead, .dead, .dead, .dead, .dead, .dead, .dead, .dead, .dead, .dead, .dead, .dead, .dead]
def s25_b0 : SCode :=
  .seq (
    .region [
      ⟨some 26, none, [], .p (.bin .lss (.t 25) (.t 24))⟩]) (
  .seq (
    .cond (.t 26) (
      .skip) (
      .exit 0)) (
  .seq (
    .block 1 (
      .seq (
        .region [
          ⟨some 27, none, [], .p (.iaddrS 1 (.t 23) (.t 25))⟩,
          ⟨some 28, none, [], .r (.load1 (.t 27))⟩,
          ⟨some 6, none, [], .p (.mv (.t 28))⟩]) (
      .seq (
        .seq (
          .region [
            ⟨some 29, none, [], .p (.mv (.t 6))⟩,
            ⟨some 30, none, [], .p (.bin .lss (.t 29) (.c (.int .i64 0)))⟩,
            ⟨some 31, none, [], .p (.mv (.t 30))⟩,
            ⟨some 32, some (31, false), [], .p (.mv (.t 6))⟩,
            ⟨some 33, some (31, false), [], .p (.faddr 8 (.t 1))⟩,
            ⟨some 34, some (31, false), [], .r (.load1 (.t 33))⟩,
            ⟨some 35, some (31, false), [], .p (.lenV true (.t 34))⟩,
            ⟨some 36, some (31, false), [], .p (.bin .geq (.t 32) (.t 35))⟩,
            ⟨some 37, none, [], .p (.pick (.t 31) (.c (.bool true)) (.t 36))⟩,
            ⟨some 38, none, [], .p (.mv (.t 37))⟩,
            ⟨some 39, some (38, false), [], .p (.mv (.t 4))⟩,
            ⟨some 40, some (38, false), [], .p (.mv (.t 6))⟩,
            ⟨some 41, some (38, false), [], .r (.lookup false (.bool false) (.t 39) (.t 40) false)⟩,
            ⟨some 42, none, [], .p (.pick (.t 38) (.c (.bool true)) (.t 41))⟩]) (
        .cond (.t 42) (
          .seq (
            .region [
              ⟨some 2, none, [], .p (.mv (.c (.bool false)))⟩]) (
          .ret)) (
          .skip))) (
      .region [
        ⟨some 43, none, [], .p (.mv (.t 4))⟩,
        ⟨some 44, none, [], .p (.mv (.t 6))⟩,
        ⟨none, none, [], .w (.mapSet false (.t 43) (.t 44) (.c (.bool true)))⟩])))) (
  .region [
    ⟨some 45, none, [], .p (.bin .add (.t 25) (.c (.int .i64 1)))⟩,
    ⟨some 25, none, [], .p (.mv (.t 45))⟩])))

def s25 : SFunc := ⟨
  .seq (
    .region [
      ⟨some 1, none, [], .a 0 (.box (.t 0))⟩,
      ⟨some 2, none, [], .p (.mv (.c (.bool false)))⟩]) (
  .seq (
    .region [
      ⟨some 9, none, [], .p (.faddr 2 (.t 1))⟩,
      ⟨some 10, none, [], .r (.load1 (.t 9))⟩,
      ⟨some 11, none, [], .p (.bin .add (.t 10) (.c (.int .i64 2)))⟩,
      ⟨some 3, none, [], .p (.mv (.t 11))⟩]) (
  .seq (
    .seq (
      .region [
        ⟨some 12, none, [], .p (.faddr 6 (.t 1))⟩,
        ⟨some 13, none, [], .r (.load1 (.t 12))⟩]) (
    .cond (.t 13) (
      .region [
        ⟨some 14, none, [], .p (.mv (.t 3))⟩,
        ⟨some 15, none, [], .p (.bin .add (.t 14) (.c (.int .i64 1)))⟩,
        ⟨some 3, none, [], .p (.mv (.t 15))⟩]) (
      .skip))) (
  .seq (
    .seq (
      .region [
        ⟨some 16, none, [], .p (.faddr 7 (.t 1))⟩,
        ⟨some 17, none, [], .r (.load1 (.t 16))⟩,
        ⟨some 18, none, [], .p (.lenV true (.t 17))⟩,
        ⟨some 19, none, [], .p (.mv (.t 3))⟩,
        ⟨some 20, none, [], .p (.bin .neq (.t 18) (.t 19))⟩]) (
    .cond (.t 20) (
      .seq (
        .region [
          ⟨some 2, none, [], .p (.mv (.c (.bool false)))⟩]) (
      .ret)) (
      .skip))) (
  .seq (
    .region [
      ⟨some 21, none, [], .a 24000 .mkMap⟩,
      ⟨some 4, none, [], .p (.mv (.t 21))⟩]) (
  .seq (
    .seq (
      .region [
        ⟨some 22, none, [], .p (.faddr 7 (.t 1))⟩,
        ⟨some 23, none, [], .r (.load1 (.t 22))⟩,
        ⟨some 24, none, [], .p (.lenV true (.t 23))⟩,
        ⟨some 25, none, [], .p (.mv (.c (.int .i64 0)))⟩]) (
    .block 0 (
      .loop k25_0 a25_0 s25_b0))) (
  .seq (
    .seq (
      .region [
        ⟨some 46, none, [], .p (.faddr 8 (.t 1))⟩,
        ⟨some 47, none, [], .r (.load1 (.t 46))⟩,
        ⟨some 48, none, [], .p (.lenV true (.t 47))⟩,
        ⟨some 49, none, [], .p (.mv (.c (.int .i64 0)))⟩]) (
    .block 2 (
      .loop k25_1 a25_1 s25_b1))) (
  .seq (
    .region [
      ⟨some 2, none, [], .p (.mv (.c (.bool true)))⟩]) (
  .ret)))))))),
  67, [Sum.inl 2]⟩

theorem c25 : cFunc Try.prog quiet Try.f25 [[1, 4, 23, 24, 25], [1, 2, 4], [4, 47, 48, 49], [2]] = some s25 := by kernel_rfl

-- 26 calls []
abbrev k26_0 : List Nat := [1, 2, 5, 6]
abbrev a26_0 : List Nat := [5]
abbrev e26_0 (v1 v2 v5 v6 : AV) : Env := [.dead, v1, v2, .dead, .dead, v5, v6, .dead, .dead, .dead, .dead, .dead, .dead, .dead, .dead, .dead, .dead, .dead, .dead, .dead, .dead, .dead, .dead, .dead]
abbrev x26_0 (v5 : AV) : Env := [.dead, .dead, .dead, .dead, .dead, v5, .dead, .dead, .dead, .dead, .dead, .dead, .dead, .dead, .dead, .dead, .dead, .dead, .dead, .dead, .dead, .dead, .dead, .dead]
def s26_b0 : SCode :=
  .seq (
    .seq (
      .region [
        ⟨some 7, none, [], .p (.mv (.t 6))⟩,
        ⟨some 8, none, [], .p (.faddr 7 (.t 2))⟩,
        ⟨some 9, none, [], .r (.load1 (.t 8))⟩,
        ⟨some 10, none, [], .p (.lenV true (.t 9))⟩,
        ⟨some 11, none, [], .p (.bin .lss (.t 7) (.t 10))⟩]) (
    .cond (.t 11) (
      .skip) (
      .exit 0))) (
  .seq (
    .block 1 (
      .seq (
        .region [
          ⟨some 14, none, [], .p (.faddr 7 (.t 2))⟩,
          ⟨some 15, none, [], .r (.load1 (.t 14))⟩,
          ⟨some 16, none, [], .p (.mv (.t 6))⟩,
          ⟨some 17, none, [], .p (.iaddrS 1 (.t 15) (.t 16))⟩,
          ⟨some 18, none, [], .r (.load1 (.t 17))⟩,
          ⟨some 19, none, [], .p (.mv (.t 1))⟩,
          ⟨some 20, none, [], .p (.bin .eql (.t 18) (.t 19))⟩]) (
      .cond (.t 20) (
        .region [
          ⟨some 21, none, [], .p (.mv (.t 5))⟩,
          ⟨some 22, none, [], .p (.bin .add (.t 21) (.c (.int .i64 1)))⟩,
          ⟨some 5, none, [], .p (.mv (.t 22))⟩]) (
        .skip)))) (
  .region [
    ⟨some 12, none, [], .p (.mv (.t 6))⟩,
    ⟨some 13, none, [], .p (.bin .add (.t 12) (.c (.int .i64 1)))⟩,
    ⟨some 6, none, [], .p (.mv (.t 13))⟩]))

def s26 : SFunc := ⟨
  .seq (
    .region [
      ⟨some 2, none, [], .a 0 (.box (.t 0))⟩,
      ⟨some 4, none, [], .p (.mv (.c (.int .i64 0)))⟩]) (
  .seq (
    .region [
      ⟨some 5, none, [], .p (.mv (.c (.int .i64 0)))⟩]) (
  .seq (
    .seq (
      .region [
        ⟨some 6, none, [], .p (.mv (.c (.int .i64 0)))⟩]) (
    .block 0 (
      .loop k26_0 a26_0 s26_b0))) (
  .seq (
    .region [
      ⟨some 23, none, [], .p (.mv (.t 5))⟩,
      ⟨some 4, none, [], .p (.mv (.t 23))⟩]) (
  .ret)))),
  24, [Sum.inl 4]⟩

theorem c26 : cFunc Try.prog quiet Try.f26 [[1, 2, 5, 6], [5]] = some s26 := by kernel_rfl

-- 27 calls []
def s27 : SFunc := ⟨
  .seq (
    .region [
      ⟨some 2, none, [], .p (.mv (.c (.ptr none)))⟩]) (
  .seq (
    .region [
      ⟨some 3, none, [], .p (.mv (.t 0))⟩,
      ⟨some 4, none, [], .p (.build [.str [], .int .i64 0] [(0, 1, .t 3)])⟩,
      ⟨some 5, none, [], .a 4008 (.box (.t 4))⟩,
      ⟨some 2, none, [], .p (.mv (.t 5))⟩]) (
  .ret)),
  6, [Sum.inl 2]⟩

theorem c27 : cFunc Try.prog quiet Try.f27 [] = some s27 := by kernel_rfl

-- 28 calls [37, 38]
def s28 : SFunc := ⟨
  .seq (
    .region [
      ⟨some 2, none, [], .p (.mv (.c (u64 0#64)))⟩]) (
  .seq (
    .region [
      ⟨some 7, none, [], .p (.mv (.t 0))⟩,
      ⟨some 8, none, [], .call 4004 4 false (.f 38) [.t 7, .c (u64 8#64)]⟩,
      ⟨some 9, none, [], .call 4008 4 true (.f 37) [.t 8]⟩,
      ⟨some 6, none, [], .p (.mv (.t 9))⟩,
      ⟨some 10, none, [], .p (.extract (.t 6) 0)⟩,
      ⟨some 11, none, [], .p (.extract (.t 6) 1)⟩,
      ⟨some 3, none, [], .p (.mv (.t 10))⟩,
      ⟨some 4, none, [], .p (.mv (.t 11))⟩]) (
  .seq (
    .seq (
      .region [
        ⟨some 12, none, [], .p (.mv (.t 3))⟩,
        ⟨some 13, none, [], .p (.lenV true (.t 12))⟩,
        ⟨some 14, none, [], .p (.bin .lss (.t 13) (.c (.int .i64 2)))⟩]) (
    .cond (.t 14) (
      .seq (
        .region [
          ⟨some 2, none, [], .p (.mv (.c (u64 0#64)))⟩]) (
      .ret)) (
      .skip))) (
  .seq (
    .region [
      ⟨some 15, none, [], .p (.mv (.t 3))⟩,
      ⟨some 16, none, [], .p (.arrPtr 2 (.t 15))⟩,
      ⟨some 17, none, [], .r (.loadN 2 (.t 16))⟩,
      ⟨some 5, none, [], .a 16012 (.alloc [u32 0#32, u32 0#32])⟩,
      ⟨none, none, [], .w (.storeN 2 (.t 5) (.t 17))⟩]) (
  .seq (
    .region [
      ⟨some 18, none, [], .p (.iaddrA 2 1 (.t 5) (.c (.int .i64 0)))⟩,
      ⟨some 19, none, [], .r (.load1 (.t 18))⟩,
      ⟨some 20, none, [], .p (.conv .u64 (.t 19))⟩,
      ⟨some 21, none, [], .p (.bin .shl (.t 20) (.c (u64 32#64)))⟩,
      ⟨some 22, none, [], .p (.iaddrA 2 1 (.t 5) (.c (.int .i64 1)))⟩,
      ⟨some 23, none, [], .r (.load1 (.t 22))⟩,
      ⟨some 24, none, [], .p (.conv .u64 (.t 23))⟩,
      ⟨some 25, none, [], .p (.bin .or (.t 21) (.t 24))⟩,
      ⟨some 2, none, [], .p (.mv (.t 25))⟩]) (
  .ret))))),
  26, [Sum.inl 2]⟩

theorem c28 : cFunc Try.prog quiet Try.f28 [] = some s28 := by kernel_rfl

-- 29 calls [28]
def s29 : SFunc := ⟨
  .seq (
    .region [
      ⟨some 4, none, [], .p (.mv (.c (.int .i64 0)))⟩]) (
  .seq (
    .region [
      ⟨some 6, none, [], .p (.mv (.t 0))⟩,
      ⟨some 7, none, [], .call 4004 4 false (.f 28) [.t 6]⟩,
      ⟨some 5, none, [], .p (.mv (.t 7))⟩]) (
  .seq (
    .seq (
      .region [
        ⟨some 8, none, [], .p (.mv (.t 0))⟩,
        ⟨some 9, none, [], .p (.eqn .ptr false (.t 8) (.c (.ptr none)))⟩,
        ⟨some 10, none, [], .p (.mv (.t 9))⟩,
        ⟨some 11, some (10, false), [], .p (.mv (.t 0))⟩,
        ⟨some 12, some (10, false), [], .p (.nilChk (.t 11))⟩,
        ⟨some 13, some (10, false), [], .p (.faddr 1 (.t 12))⟩,
        ⟨some 14, some (10, false), [], .r (.load1 (.t 13))⟩,
        ⟨some 15, some (10, false), [], .p (.bin .neq (.t 14) (.c (.int .i64 0)))⟩,
        ⟨some 16, none, [], .p (.pick (.t 10) (.c (.bool true)) (.t 15))⟩]) (
    .cond (.t 16) (
      .seq (
        .region [
          ⟨some 4, none, [], .p (.mv (.c (.int .i64 0)))⟩]) (
      .ret)) (
      .skip))) (
  .seq (
    .seq (
      .region [
        ⟨some 17, none, [], .p (.mv (.t 1))⟩,
        ⟨some 18, none, [], .p (.bin .lss (.t 17) (.c (.int .i64 1)))⟩,
        ⟨some 19, none, [], .p (.mv (.t 18))⟩,
        ⟨some 20, some (19, false), [], .p (.mv (.t 5))⟩,
        ⟨some 21, some (19, false), [], .p (.mv (.t 1))⟩,
        ⟨some 22, some (19, false), [], .p (.conv .u64 (.t 21))⟩,
        ⟨some 23, some (19, false), [], .p (.bin .geq (.t 20) (.t 22))⟩,
        ⟨some 24, none, [], .p (.pick (.t 19) (.c (.bool true)) (.t 23))⟩]) (
    .cond (.t 24) (
      .seq (
        .region [
          ⟨some 25, none, [], .p (.mv (.t 0))⟩,
          ⟨some 26, none, [], .p (.nilChk (.t 25))⟩,
          ⟨some 27, none, [], .p (.faddr 1 (.t 26))⟩,
          ⟨none, none, [], .w (.store1 (.t 27) (.c (.int .i64 4)))⟩]) (
      .seq (
        .region [
          ⟨some 4, none, [], .p (.mv (.c (.int .i64 0)))⟩]) (
      .ret))) (
      .skip))) (
  .seq (
    .region [
      ⟨some 28, none, [], .p (.mv (.t 5))⟩,
      ⟨some 29, none, [], .p (.conv .i64 (.t 28))⟩,
      ⟨some 4, none, [], .p (.mv (.t 29))⟩]) (
  .ret))))),
  30, [Sum.inl 4]⟩

theorem c29 : cFunc Try.prog quiet Try.f29 [] = some s29 := by kernel_rfl

-- 30 calls [29, 39]
def s30 : SFunc := ⟨
  .seq (
    .region [
      ⟨some 2, none, [], .a 0 (.alloc [.int .i64 0, .str [], .str []])⟩]) (
  .seq (
    .region [
      ⟨some 6, none, [], .p (.mv (.t 0))⟩,
      ⟨some 7, none, [], .call 4004 4 false (.f 29) [.t 6, .c (.int .i64 4)]⟩,
      ⟨some 3, none, [], .p (.mv (.t 7))⟩]) (
  .seq (
    .region [
      ⟨some 8, none, [], .p (.mv (.t 0))⟩,
      ⟨some 9, none, [], .call 8004 4 false (.f 39) [.t 8]⟩,
      ⟨some 4, none, [], .p (.mv (.t 9))⟩]) (
  .seq (
    .region [
      ⟨some 10, none, [], .p (.mv (.t 0))⟩,
      ⟨some 11, none, [], .call 12004 4 false (.f 39) [.t 10]⟩,
      ⟨some 5, none, [], .p (.mv (.t 11))⟩]) (
  .seq (
    .region [
      ⟨some 12, none, [], .p (.mv (.t 3))⟩,
      ⟨some 13, none, [], .p (.mv (.t 4))⟩,
      ⟨some 14, none, [], .p (.mv (.t 5))⟩,
      ⟨some 15, none, [], .p (.build [.int .i64 0, .str [], .str []] [(0, 1, .t 12), (1, 1, .t 13), (2, 1, .t 14)])⟩,
      ⟨none, none, [], .w (.storeN 3 (.t 2) (.t 15))⟩]) (
  .ret))))),
  16, [Sum.inr (2, 3, true)]⟩

theorem c30 : cFunc Try.prog quiet Try.f30 [] = some s30 := by kernel_rfl

-- 31 calls []
def s31 : SFunc := ⟨
  .seq (
    .region [
      ⟨some 2, none, [], .p (.mv (.c (.int .i64 0)))⟩]) (
  .seq (
    .block 0 (
      .seq (
        .region [
          ⟨some 4, none, [], .p (.mv (.t 0))⟩,
          ⟨some 5, none, [], .p (.eqn .ptr false (.t 4) (.c (.ptr none)))⟩,
          ⟨some 3, none, [], .p (.mv (.t 5))⟩]) (
      .cond (.t 3) (
        .seq (
          .region [
            ⟨some 2, none, [], .p (.mv (.c (.int .i64 1)))⟩]) (
        .ret)) (
        .seq (
          .region [
            ⟨some 7, none, [], .p (.mv (.t 0))⟩,
            ⟨some 8, none, [], .p (.nilChk (.t 7))⟩,
            ⟨some 9, none, [], .p (.faddr 1 (.t 8))⟩,
            ⟨some 10, none, [], .r (.load1 (.t 9))⟩,
            ⟨some 11, none, [], .p (.bin .neq (.t 10) (.c (.int .i64 0)))⟩,
            ⟨some 6, none, [], .p (.mv (.t 11))⟩]) (
        .cond (.t 6) (
          .seq (
            .region [
              ⟨some 12, none, [], .p (.mv (.t 0))⟩,
              ⟨some 13, none, [], .p (.nilChk (.t 12))⟩,
              ⟨some 14, none, [], .p (.faddr 1 (.t 13))⟩,
              ⟨some 15, none, [], .r (.load1 (.t 14))⟩,
              ⟨some 2, none, [], .p (.mv (.t 15))⟩]) (
          .ret)) (
          .seq (
            .region [
              ⟨some 17, none, [], .p (.mv (.t 0))⟩,
              ⟨some 18, none, [], .p (.nilChk (.t 17))⟩,
              ⟨some 19, none, [], .p (.faddr 0 (.t 18))⟩,
              ⟨some 20, none, [], .r (.load1 (.t 19))⟩,
              ⟨some 21, none, [], .p (.bin .neq (.t 20) (.c (.str [])))⟩,
              ⟨some 16, none, [], .p (.mv (.t 21))⟩]) (
          .cond (.t 16) (
            .seq (
              .region [
                ⟨some 2, none, [], .p (.mv (.c (.int .i64 5)))⟩]) (
            .ret)) (
            .skip)))))))) (
  .seq (
    .region [
      ⟨some 2, none, [], .p (.mv (.c (.int .i64 0)))⟩]) (
  .ret))),
  22, [Sum.inl 2]⟩

theorem c31 : cFunc Try.prog quiet Try.f31 [] = some s31 := by kernel_rfl

-- 32 calls []
def s32 : SFunc := ⟨
  .seq (
    .region [
      ⟨some 2, none, [], .p (.mv (.c (.slice none 0 0)))⟩]) (
  .seq (
    .seq (
      .region [
        ⟨some 3, none, [], .p (.mv (.t 0))⟩,
        ⟨some 4, none, [], .p (.eqn .slice false (.t 3) (.c (.slice none 0 0)))⟩]) (
    .cond (.t 4) (
      .seq (
        .region [
          ⟨some 2, none, [], .p (.mv (.c (.slice none 0 0)))⟩]) (
      .ret)) (
      .skip))) (
  .seq (
    .region [
      ⟨some 5, none, [], .a 12000 (.buildS 1 0 [.int .i64 0] [])⟩,
      ⟨some 6, none, [], .p (.mv (.t 0))⟩,
      ⟨some 7, none, [], .w (.append 12008 1 8 (.t 5) (.t 6))⟩,
      ⟨some 2, none, [], .p (.mv (.t 7))⟩]) (
  .ret))),
  8, [Sum.inl 2]⟩

theorem c32 : cFunc Try.prog quiet Try.f32 [] = some s32 := by kernel_rfl

-- 33 calls []
def s33 : SFunc := ⟨
  .seq (
    .region [
      ⟨some 2, none, [], .p (.mv (.c (.slice none 0 0)))⟩]) (
  .seq (
    .seq (
      .region [
        ⟨some 3, none, [], .p (.mv (.t 0))⟩,
        ⟨some 4, none, [], .p (.eqn .slice false (.t 3) (.c (.slice none 0 0)))⟩]) (
    .cond (.t 4) (
      .seq (
        .region [
          ⟨some 2, none, [], .p (.mv (.c (.slice none 0 0)))⟩]) (
      .ret)) (
      .skip))) (
  .seq (
    .region [
      ⟨some 5, none, [], .a 12000 (.buildS 3 0 [.int .i64 0, .str [], .str []] [])⟩,
      ⟨some 6, none, [], .p (.mv (.t 0))⟩,
      ⟨some 7, none, [], .w (.append 12008 3 40 (.t 5) (.t 6))⟩,
      ⟨some 2, none, [], .p (.mv (.t 7))⟩]) (
  .ret))),
  8, [Sum.inl 2]⟩

theorem c33 : cFunc Try.prog quiet Try.f33 [] = some s33 := by kernel_rfl

-- 35 calls []
abbrev k35_0 : List Nat := [3, 10, 11, 12]
abbrev a35_0 : List Nat := [3]
abbrev e35_0 (v3 v10 v11 v12 : AV) : Env := [.dead, .dead, .dead, v3, .dead, .dead, .dead, .dead, .dead, .dead, v10, v11, v12, .dead, .dead, .dead, .dead, .dead, .dead, .dead, .dead, .dead, .dead, .dead, .dead, .dead, .dead, .dead, .dead, .dead, .dead, .dead, .dead]
abbrev x35_0 (v3 : AV) : Env := [.dead, .dead, .dead, v3, .dead, .dead, .dead, .dead, .dead, .dead, .dead, .dead, .dead, .dead, .dead, .dead, .dead, .dead, .dead, .dead, .dead, .dead, .dead, .dead, .dead, .dead, .dead, .dead, .dead, .dead, .dead, .dead, .dead]
def s35_b0 : SCode :=
  .seq (
    .region [
      ⟨some 13, none, [], .p (.bin .lss (.t 12) (.t 11))⟩]) (
  .seq (
    .cond (.t 13) (
      .skip) (
      .exit 0)) (
  .seq (
    .block 1 (
      .seq (
        .region [
          ⟨some 14, none, [], .p (.iaddrS 1 (.t 10) (.t 12))⟩,
          ⟨some 15, none, [], .r (.load1 (.t 14))⟩,
          ⟨some 5, none, [], .p (.mv (.t 15))⟩]) (
      .region [
        ⟨some 16, none, [], .p (.mv (.t 3))⟩,
        ⟨some 17, none, [], .p (.mv (.t 5))⟩,
        ⟨some 18, none, [], .p (.bin .shr (.t 17) (.c (u64 24#64)))⟩,
        ⟨some 19, none, [], .p (.conv .u8 (.t 18))⟩,
        ⟨some 20, none, [], .p (.mv (.t 5))⟩,
        ⟨some 21, none, [], .p (.bin .shr (.t 20) (.c (u64 16#64)))⟩,
        ⟨some 22, none, [], .p (.conv .u8 (.t 21))⟩,
        ⟨some 23, none, [], .p (.mv (.t 5))⟩,
        ⟨some 24, none, [], .p (.bin .shr (.t 23) (.c (u64 8#64)))⟩,
        ⟨some 25, none, [], .p (.conv .u8 (.t 24))⟩,
        ⟨some 26, none, [], .p (.mv (.t 5))⟩,
        ⟨some 27, none, [], .p (.conv .u8 (.t 26))⟩,
        ⟨some 28, none, [], .a 20048 (.buildS 1 4 [byteAV 0] [(0, 1, .t 19), (1, 1, .t 22), (2, 1, .t 25), (3, 1, .t 27)])⟩,
        ⟨some 29, none, [], .w (.append 20052 1 1 (.t 16) (.t 28))⟩,
        ⟨some 3, none, [], .p (.mv (.t 29))⟩]))) (
  .region [
    ⟨some 30, none, [], .p (.bin .add (.t 12) (.c (.int .i64 1)))⟩,
    ⟨some 12, none, [], .p (.mv (.t 30))⟩])))

def s35 : SFunc := ⟨
  .seq (
    .region [
      ⟨some 2, none, [], .p (.mv (.c (.str [])))⟩]) (
  .seq (
    .region [
      ⟨some 6, none, [], .p (.mv (.t 0))⟩,
      ⟨some 7, none, [], .p (.lenV true (.t 6))⟩,
      ⟨some 8, none, [], .p (.bin .mul (.c (.int .i64 4)) (.t 7))⟩,
      ⟨some 9, none, [], .a 4012 (.mkSlice 1 1 [byteAV 0] (.c (.int .i64 0)) (.t 8))⟩,
      ⟨some 3, none, [], .p (.mv (.t 9))⟩]) (
  .seq (
    .seq (
      .region [
        ⟨some 10, none, [], .p (.mv (.t 0))⟩,
        ⟨some 11, none, [], .p (.lenV true (.t 10))⟩,
        ⟨some 12, none, [], .p (.mv (.c (.int .i64 0)))⟩]) (
    .block 0 (
      .loop k35_0 a35_0 s35_b0))) (
  .seq (
    .region [
      ⟨some 31, none, [], .p (.mv (.t 3))⟩,
      ⟨some 32, none, [], .r (.toStr (.t 31))⟩,
      ⟨some 2, none, [], .p (.mv (.t 32))⟩]) (
  .ret)))),
  33, [Sum.inl 2]⟩

theorem c35 : cFunc Try.prog quiet Try.f35 [[3, 10, 11, 12], [3]] = some s35 := by kernel_rfl

-- 36 calls [41]
def s36 : SFunc := ⟨
  .seq (
    .region [
      ⟨some 4, none, [], .p (.mv (.c (.bool false)))⟩]) (
  .seq (
    .region [
      ⟨some 5, none, [], .p (.mv (.t 0))⟩,
      ⟨some 6, none, [], .p (.mv (.t 1))⟩,
      ⟨some 7, none, [], .call 4008 4 true (.f 41) [.t 5, .t 6]⟩,
      ⟨some 8, none, [], .p (.bin .geq (.t 7) (.c (.int .i64 0)))⟩,
      ⟨some 4, none, [], .p (.mv (.t 8))⟩]) (
  .ret)),
  9, [Sum.inl 4]⟩

theorem c36 : cFunc Try.prog quiet Try.f36 [] = some s36 := by kernel_rfl

-- 37 calls [42, 43]
def s37 : SFunc := ⟨
  .seq (
    .region [
      ⟨some 2, none, [], .p (.mv (.c (.slice none 0 0)))⟩,
      ⟨some 3, none, [], .p (.mv (.c (.int .i64 0)))⟩]) (
  .seq (
    .region [
      ⟨some 4, none, [], .p (.mv (.t 0))⟩,
      ⟨some 5, none, [], .call 4004 4 true (.f 42) [.t 4, .f 43]⟩,
      ⟨some 6, none, [], .p (.extract (.t 5) 0)⟩,
      ⟨some 7, none, [], .p (.extract (.t 5) 1)⟩,
      ⟨some 2, none, [], .p (.mv (.t 6))⟩,
      ⟨some 3, none, [], .p (.mv (.t 7))⟩]) (
  .ret)),
  8, [Sum.inl 2, Sum.inl 3]⟩

theorem c37 : cFunc Try.prog quiet Try.f37 [] = some s37 := by kernel_rfl

-- 38 calls []
def s38 : SFunc := ⟨
  .seq (
    .region [
      ⟨some 4, none, [], .p (.mv (.c (.str [])))⟩]) (
  .seq (
    .seq (
      .region [
        ⟨some 6, none, [], .p (.mv (.t 0))⟩,
        ⟨some 7, none, [], .p (.eqn .ptr false (.t 6) (.c (.ptr none)))⟩]) (
    .cond (.t 7) (
      .seq (
        .region [
          ⟨some 4, none, [], .p (.mv (.c (.str [])))⟩]) (
      .ret)) (
      .skip))) (
  .seq (
    .seq (
      .region [
        ⟨some 8, none, [], .p (.mv (.t 0))⟩,
        ⟨some 9, none, [], .p (.nilChk (.t 8))⟩,
        ⟨some 10, none, [], .p (.faddr 1 (.t 9))⟩,
        ⟨some 11, none, [], .r (.load1 (.t 10))⟩,
        ⟨some 12, none, [], .p (.bin .eql (.t 11) (.c (.int .i64 0)))⟩,
        ⟨some 13, none, [], .p (.mv (.t 12))⟩,
        ⟨some 14, some (13, true), [], .p (.mv (.t 1))⟩,
        ⟨some 15, some (13, true), [], .p (.mv (.t 0))⟩,
        ⟨some 16, some (13, true), [], .p (.nilChk (.t 15))⟩,
        ⟨some 17, some (13, true), [], .p (.faddr 0 (.t 16))⟩,
        ⟨some 18, some (13, true), [], .r (.load1 (.t 17))⟩,
        ⟨some 19, some (13, true), [], .p (.lenV false (.t 18))⟩,
        ⟨some 20, some (13, true), [], .p (.conv .u64 (.t 19))⟩,
        ⟨some 21, some (13, true), [], .p (.bin .gtr (.t 14) (.t 20))⟩,
        ⟨some 22, none, [], .p (.pick (.t 13) (.t 21) (.c (.bool false)))⟩]) (
    .cond (.t 22) (
      .region [
        ⟨some 23, none, [], .p (.mv (.t 0))⟩,
        ⟨some 24, none, [], .p (.nilChk (.t 23))⟩,
        ⟨some 25, none, [], .p (.faddr 1 (.t 24))⟩,
        ⟨none, none, [], .w (.store1 (.t 25) (.c (.int .i64 3)))⟩]) (
      .skip))) (
  .seq (
    .seq (
      .region [
        ⟨some 26, none, [], .p (.mv (.t 0))⟩,
        ⟨some 27, none, [], .p (.nilChk (.t 26))⟩,
        ⟨some 28, none, [], .p (.faddr 1 (.t 27))⟩,
        ⟨some 29, none, [], .r (.load1 (.t 28))⟩,
        ⟨some 30, none, [], .p (.bin .neq (.t 29) (.c (.int .i64 0)))⟩]) (
    .cond (.t 30) (
      .seq (
        .region [
          ⟨some 4, none, [], .p (.mv (.c (.str [])))⟩]) (
      .ret)) (
      .skip))) (
  .seq (
    .region [
      ⟨some 31, none, [], .p (.mv (.t 0))⟩,
      ⟨some 32, none, [], .p (.nilChk (.t 31))⟩,
      ⟨some 33, none, [], .p (.faddr 0 (.t 32))⟩,
      ⟨some 34, none, [], .r (.load1 (.t 33))⟩,
      ⟨some 35, none, [], .p (.mv (.t 1))⟩,
      ⟨some 36, none, [], .p (.slcStr (.t 34) none (some (.t 35)))⟩,
      ⟨some 5, none, [], .p (.mv (.t 36))⟩]) (
  .seq (
    .region [
      ⟨some 37, none, [], .p (.mv (.t 0))⟩,
      ⟨some 38, none, [], .p (.mv (.t 0))⟩,
      ⟨some 39, none, [], .p (.nilChk (.t 38))⟩,
      ⟨some 40, none, [], .p (.faddr 0 (.t 39))⟩,
      ⟨some 41, none, [], .r (.load1 (.t 40))⟩,
      ⟨some 42, none, [], .p (.mv (.t 1))⟩,
      ⟨some 43, none, [], .p (.slcStr (.t 41) (some (.t 42)) none)⟩,
      ⟨some 44, none, [], .p (.nilChk (.t 37))⟩,
      ⟨some 45, none, [], .p (.faddr 0 (.t 44))⟩,
      ⟨none, none, [], .w (.store1 (.t 45) (.t 43))⟩]) (
  .seq (
    .region [
      ⟨some 46, none, [], .p (.mv (.t 5))⟩,
      ⟨some 4, none, [], .p (.mv (.t 46))⟩]) (
  .ret))))))),
  47, [Sum.inl 4]⟩

theorem c38 : cFunc Try.prog quiet Try.f38 [] = some s38 := by kernel_rfl

-- 39 calls [28, 38]
def s39 : SFunc := ⟨
  .seq (
    .region [
      ⟨some 2, none, [], .p (.mv (.c (.str [])))⟩]) (
  .seq (
    .region [
      ⟨some 3, none, [], .p (.mv (.t 0))⟩,
      ⟨some 4, none, [], .p (.mv (.t 0))⟩,
      ⟨some 5, none, [], .call 4008 4 false (.f 28) [.t 4]⟩,
      ⟨some 6, none, [], .call 4012 4 false (.f 38) [.t 3, .t 5]⟩,
      ⟨some 2, none, [], .p (.mv (.t 6))⟩]) (
  .ret)),
  7, [Sum.inl 2]⟩

theorem c39 : cFunc Try.prog quiet Try.f39 [] = some s39 := by kernel_rfl

-- 41 calls []
abbrev k41_0 : List Nat := [0, 1, 7, 8]
abbrev a41_0 : List Nat := [4]
abbrev e41_0 (v0 v1 v7 v8 : AV) : Env := [v0, v1, .dead, .dead, .dead, .dead, .dead, v7, v8, .dead, .dead, .dead, .dead, .dead, .dead, .dead, .dead, .dead, .dead]
abbrev x41_0 (v4 : AV) : Env := [.dead, .dead, .dead, .dead, v4, .dead, .dead, .dead, .dead, .dead, .dead, .dead, .dead, .dead, .dead, .dead, .dead, .dead, .dead]
def s41_b0 : SCode :=
  .seq (
    .region [
      ⟨some 9, none, [], .p (.bin .lss (.t 8) (.t 7))⟩]) (
  .seq (
    .cond (.t 9) (
      .skip) (
      .exit 0)) (
  .seq (
    .block 1 (
      .seq (
        .region [
          ⟨some 10, none, [], .p (.mv (.t 8))⟩,
          ⟨some 5, none, [], .p (.mv (.t 10))⟩]) (
      .seq (
        .region [
          ⟨some 11, none, [], .p (.mv (.t 1))⟩,
          ⟨some 12, none, [], .p (.mv (.t 0))⟩,
          ⟨some 13, none, [], .p (.mv (.t 5))⟩,
          ⟨some 14, none, [], .p (.iaddrS 1 (.t 12) (.t 13))⟩,
          ⟨some 15, none, [], .r (.load1 (.t 14))⟩,
          ⟨some 16, none, [], .p (.bin .eql (.t 11) (.t 15))⟩]) (
      .cond (.t 16) (
        .seq (
          .region [
            ⟨some 17, none, [], .p (.mv (.t 5))⟩,
            ⟨some 4, none, [], .p (.mv (.t 17))⟩]) (
        .ret)) (
        .skip))))) (
  .region [
    ⟨some 18, none, [], .p (.bin .add (.t 8) (.c (.int .i64 1)))⟩,
    ⟨some 8, none, [], .p (.mv (.t 18))⟩])))

def s41 : SFunc := ⟨
  .seq (
    .region [
      ⟨some 4, none, [], .p (.mv (.c (.int .i64 0)))⟩]) (
  .seq (
    .seq (
      .region [
        ⟨some 6, none, [], .p (.mv (.t 0))⟩,
        ⟨some 7, none, [], .p (.lenV true (.t 6))⟩,
        ⟨some 8, none, [], .p (.mv (.c (.int .i64 0)))⟩]) (
    .block 0 (
      .loop k41_0 a41_0 s41_b0))) (
  .seq (
    .region [
      ⟨some 4, none, [], .p (.mv (.c (.int .i64 (-1))))⟩]) (
  .ret))),
  19, [Sum.inl 4]⟩

theorem c41 : cFunc Try.prog quiet Try.f41 [[0, 1, 7, 8], [4]] = some s41 := by kernel_rfl

-- 42 calls []
abbrev k42_0 : List Nat := [0, 1, 6, 17, 18]
abbrev a42_0 : List Nat := [6]
abbrev e42_0 (v0 v1 v6 v17 v18 : AV) : Env := [v0, v1, .dead, .dead, .dead, .dead, v6, .dead, .dead, .dead, .dead, .dead, .dead, .dead, .dead, .dead, .dead, v17, v18, .dead, .dead, .dead, .dead, .dead, .dead, .dead, .dead, .dead, .dead, .dead, .dead, .dead, .dead, .dead, .dead, .dead, .dead, .dead, .dead, .dead, .dead, .dead, .dead, .dead, .dead, .dead, .dead, .dead, .dead, .dead, .dead]
abbrev x42_0 (v6 : AV) : Env := [.dead, .dead, .dead, .dead, .dead, .dead, v6, .dead, .dead, .dead, .dead, .dead, .dead, .dead, .dead, .dead, .dead, .dead, .dead, .dead, .dead, .dead, .dead, .dead, .dead, .dead, .dead, .dead, .dead, .dead, .dead, .dead, .dead, .dead, .dead, .dead, .dead, .dead, .dead, .dead, .dead, .dead, .dead, .dead, .dead, .dead, .dead, .dead, .dead, .dead, .dead]
def s42_b0 : SCode :=
  .seq (
    .region [
      ⟨some 19, none, [], .p (.bin .lss (.t 18) (.t 17))⟩]) (
  .seq (
    .cond (.t 19) (
      .skip) (
      .exit 0)) (
  .seq (
    .block 1 (
      .seq (
        .region [
          ⟨some 20, none, [], .p (.mv (.t 18))⟩,
          ⟨some 7, none, [], .p (.mv (.t 20))⟩]) (
      .region [
        ⟨some 21, none, [], .p (.mv (.t 6))⟩,
        ⟨some 22, none, [], .p (.mv (.t 7))⟩,
        ⟨some 23, none, [], .p (.mv (.t 1))⟩,
        ⟨some 24, none, [], .p (.mv (.t 0))⟩,
        ⟨some 25, none, [], .p (.mv (.t 7))⟩,
        ⟨some 26, none, [], .p (.bin .mul (.c (.int .i64 4)) (.t 25))⟩,
        ⟨some 27, none, [], .p (.idxStr (.t 24) (.t 26))⟩,
        ⟨some 28, none, [], .p (.conv .u32 (.t 27))⟩,
        ⟨some 29, none, [], .p (.mv (.t 0))⟩,
        ⟨some 30, none, [], .p (.mv (.t 7))⟩,
        ⟨some 31, none, [], .p (.bin .mul (.c (.int .i64 4)) (.t 30))⟩,
        ⟨some 32, none, [], .p (.bin .add (.t 31) (.c (.int .i64 1)))⟩,
        ⟨some 33, none, [], .p (.idxStr (.t 29) (.t 32))⟩,
        ⟨some 34, none, [], .p (.conv .u32 (.t 33))⟩,
        ⟨some 35, none, [], .p (.mv (.t 0))⟩,
        ⟨some 36, none, [], .p (.mv (.t 7))⟩,
        ⟨some 37, none, [], .p (.bin .mul (.c (.int .i64 4)) (.t 36))⟩,
        ⟨some 38, none, [], .p (.bin .add (.t 37) (.c (.int .i64 2)))⟩,
        ⟨some 39, none, [], .p (.idxStr (.t 35) (.t 38))⟩,
        ⟨some 40, none, [], .p (.conv .u32 (.t 39))⟩,
        ⟨some 41, none, [], .p (.mv (.t 0))⟩,
        ⟨some 42, none, [], .p (.mv (.t 7))⟩,
        ⟨some 43, none, [], .p (.bin .mul (.c (.int .i64 4)) (.t 42))⟩,
        ⟨some 44, none, [], .p (.bin .add (.t 43) (.c (.int .i64 3)))⟩,
        ⟨some 45, none, [], .p (.idxStr (.t 41) (.t 44))⟩,
        ⟨some 46, none, [], .p (.conv .u32 (.t 45))⟩,
        ⟨some 47, none, [], .call 28104 4 true (.t 23) [.t 28, .t 34, .t 40, .t 46]⟩,
        ⟨some 48, none, [], .p (.iaddrS 1 (.t 21) (.t 22))⟩,
        ⟨none, none, [], .w (.store1 (.t 48) (.t 47))⟩]))) (
  .region [
    ⟨some 49, none, [], .p (.bin .add (.t 18) (.c (.int .i64 1)))⟩,
    ⟨some 18, none, [], .p (.mv (.t 49))⟩])))

def s42 : SFunc := ⟨
  .seq (
    .region [
      ⟨some 4, none, [], .p (.mv (.c (.slice none 0 0)))⟩,
      ⟨some 5, none, [], .p (.mv (.c (.int .i64 0)))⟩]) (
  .seq (
    .seq (
      .region [
        ⟨some 8, none, [], .p (.mv (.t 0))⟩,
        ⟨some 9, none, [], .p (.lenV false (.t 8))⟩,
        ⟨some 10, none, [], .p (.bin .rem (.t 9) (.c (.int .i64 4)))⟩,
        ⟨some 11, none, [], .p (.bin .neq (.t 10) (.c (.int .i64 0)))⟩]) (
    .cond (.t 11) (
      .seq (
        .region [
          ⟨some 4, none, [], .p (.mv (.c (.slice none 0 0)))⟩,
          ⟨some 5, none, [], .p (.mv (.c (.int .i64 7)))⟩]) (
      .ret)) (
      .skip))) (
  .seq (
    .region [
      ⟨some 12, none, [], .p (.mv (.t 0))⟩,
      ⟨some 13, none, [], .p (.lenV false (.t 12))⟩,
      ⟨some 14, none, [], .p (.bin .quo (.t 13) (.c (.int .i64 4)))⟩,
      ⟨some 15, none, [], .a 12012 (.mkSlice 1 4 [u32 0#32] (.t 14) (.t 14))⟩,
      ⟨some 6, none, [], .p (.mv (.t 15))⟩]) (
  .seq (
    .seq (
      .region [
        ⟨some 16, none, [], .p (.mv (.t 6))⟩,
        ⟨some 17, none, [], .p (.lenV true (.t 16))⟩,
        ⟨some 18, none, [], .p (.mv (.c (.int .i64 0)))⟩]) (
    .block 0 (
      .loop k42_0 a42_0 s42_b0))) (
  .seq (
    .region [
      ⟨some 50, none, [], .p (.mv (.t 6))⟩,
      ⟨some 4, none, [], .p (.mv (.t 50))⟩,
      ⟨some 5, none, [], .p (.mv (.c (.int .i64 0)))⟩]) (
  .ret))))),
  51, [Sum.inl 4, Sum.inl 5]⟩

theorem c42 : cFunc Try.prog quiet Try.f42 [[0, 1, 6, 17, 18], [6]] = some s42 := by kernel_rfl

-- 43 calls []
def s43 : SFunc := ⟨
  .seq (
    .region [
      ⟨some 8, none, [], .p (.mv (.c (u32 0#32)))⟩]) (
  .seq (
    .region [
      ⟨some 9, none, [], .p (.mv (.t 0))⟩,
      ⟨some 10, none, [], .p (.bin .shl (.t 9) (.c (u64 24#64)))⟩,
      ⟨some 11, none, [], .p (.mv (.t 1))⟩,
      ⟨some 12, none, [], .p (.bin .shl (.t 11) (.c (u64 16#64)))⟩,
      ⟨some 13, none, [], .p (.bin .or (.t 10) (.t 12))⟩,
      ⟨some 14, none, [], .p (.mv (.t 2))⟩,
      ⟨some 15, none, [], .p (.bin .shl (.t 14) (.c (u64 8#64)))⟩,
      ⟨some 16, none, [], .p (.bin .or (.t 13) (.t 15))⟩,
      ⟨some 17, none, [], .p (.mv (.t 3))⟩,
      ⟨some 18, none, [], .p (.bin .or (.t 16) (.t 17))⟩,
      ⟨some 8, none, [], .p (.mv (.t 18))⟩]) (
  .ret)),
  19, [Sum.inl 8]⟩

theorem c43 : cFunc Try.prog quiet Try.f43 [] = some s43 := by kernel_rfl

def SP : SProg := tabP [(3, s3), (4, s4), (5, s5), (6, s6), (7, s7), (8, s8), (9, s9), (10, s10), (11, s11), (12, s12), (13, s13), (14, s14), (15, s15), (17, s17), (18, s18), (19, s19), (21, s21), (22, s22), (23, s23), (24, s24), (25, s25), (26, s26), (27, s27), (28, s28), (29, s29), (30, s30), (31, s31), (32, s32), (33, s33), (35, s35), (36, s36), (37, s37), (38, s38), (39, s39), (41, s41), (42, s42), (43, s43)]

theorem comp : Comp Try.prog SP := comp_of (by kernel_rfl) Try.bldOk ⟨⟨_, _, _, Try.func3, c3⟩, ⟨_, _, _, Try.func4, c4⟩, ⟨_, _, _, Try.func5, c5⟩, ⟨_, _, _, Try.func6, c6⟩, ⟨_, _, _, Try.func7, c7⟩, ⟨_, _, _, Try.func8, c8⟩, ⟨_, _, _, Try.func9, c9⟩, ⟨_, _, _, Try.func10, c10⟩, ⟨_, _, _, Try.func11, c11⟩, ⟨_, _, _, Try.func12, c12⟩, ⟨_, _, _, Try.func13, c13⟩, ⟨_, _, _, Try.func14, c14⟩, ⟨_, _, _, Try.func15, c15⟩, ⟨_, _, _, Try.func17, c17⟩, ⟨_, _, _, Try.func18, c18⟩, ⟨_, _, _, Try.func19, c19⟩, ⟨_, _, _, Try.func21, c21⟩, ⟨_, _, _, Try.func22, c22⟩, ⟨_, _, _, Try.func23, c23⟩, ⟨_, _, _, Try.func24, c24⟩, ⟨_, _, _, Try.func25, c25⟩, ⟨_, _, _, Try.func26, c26⟩, ⟨_, _, _, Try.func27, c27⟩, ⟨_, _, _, Try.func28, c28⟩, ⟨_, _, _, Try.func29, c29⟩, ⟨_, _, _, Try.func30, c30⟩, ⟨_, _, _, Try.func31, c31⟩, ⟨_, _, _, Try.func32, c32⟩, ⟨_, _, _, Try.func33, c33⟩, ⟨_, _, _, Try.func35, c35⟩, ⟨_, _, _, Try.func36, c36⟩, ⟨_, _, _, Try.func37, c37⟩, ⟨_, _, _, Try.func38, c38⟩, ⟨_, _, _, Try.func39, c39⟩, ⟨_, _, _, Try.func41, c41⟩, ⟨_, _, _, Try.func42, c42⟩, ⟨_, _, _, Try.func43, c43⟩, trivial⟩


end Go.Proofs.Ytaennaoaoahjmaa
