import Derived.Test.YtkgbceeonmdlgaaProg
import Derived.Test.YtkgbceeonmdlgaaDetQ
import Derived.KernelRfl
set_option maxRecDepth 100000
namespace Go.Proofs.Ytkgbceeonmdlgaa
open Go.Det

def quiet : Nat → Bool := (fun n => !([16, 18, 25, 26, 29, 30, 31, 32, 40] : List Nat).contains n)

-- 3 calls [13, 14, 15, 16, 17, 18]
abbrev k3_0 : List Nat := [7, 11, 64, 65]
abbrev a3_0 : List Nat := [6]
abbrev e3_0 (v7 v11 v64 v65 : AV) : Env := [.dead, .dead, .dead, .dead, .dead, .dead, .dead, v7, .dead, .dead, .dead, v11, .dead, .dead, .dead, .dead, .dead, .dead, .dead, .dead, .dead, .dead, .dead, .dead, .dead, .dead, .dead, .dead, .dead, .dead, .dead, .dead, .dead, .dead, .dead, .dead, .dead, .dead, .dead, .dead, .dead, .dead, .dead, .dead, .dead, .dead, .dead, .dead, .dead, .dead, .dead, .dead, .dead, .dead, .dead, .dead, .dead, .dead, .dead, .dead, .dead, .dead, .dead, .dead, v64, v65, .dead, .dead, .dead, .dead, .dead, .dead, .dead, .dead, .dead, .dead, .dead, .dead, .dead, .dead, .dead, .dead, .dead, .dead, .dead, .dead, .dead, .dead, .dead, .dead, .dead, .dead, .dead, .dead, .dead, .dead]
abbrev x3_0 (v6 : AV) : Env := [.dead, .dead, .dead, .dead, .dead, .dead, v6, .dead, .dead, .dead, .dead, .dead, .dead, .dead, .dead, .dead, .dead, .dead, .dead, .dead, .dead, .dead, .dead, .dead, .dead, .dead, .dead, .dead, .dead, .dead, .dead, .dead, .dead, .dead, .dead, .dead, .dead, .dead, .dead, .dead, .dead, .dead, .dead, .dead, .dead, .dead, .dead, .dead, .dead, .dead, .dead, .dead, .dead, .dead, .dead, .dead, .dead, .dead, .dead, .dead, .dead, .dead, .dead, .dead, .dead, .dead, .dead, .dead, .dead, .dead, .dead, .dead, .dead, .dead, .dead, .dead, .dead, .dead, .dead, .dead, .dead, .dead, .dead, .dead, .dead, .dead, .dead, .dead, .dead, .dead, .dead, .dead, .dead, .dead, .dead, .dead]
def s3_b0 : SCode :=
  .seq (
    .region [
      ⟨some 66, none, [], .p (.bin .lss (.t 65) (.t 64))⟩]) (
  .seq (
    .cond (.t 66) (
      .skip) (
      .exit 0)) (
  .seq (
    .block 1 (
      .seq (
        .region [
          ⟨some 68, none, [], .p (.mv (.t 7))⟩,
          ⟨some 69, none, [], .call 40004 4 false (.f 16) [.t 68]⟩,
          ⟨some 67, none, [], .p (.mv (.t 69))⟩,
          ⟨some 70, none, [], .p (.extract (.t 67) 0)⟩,
          ⟨some 71, none, [], .p (.extract (.t 67) 1)⟩,
          ⟨some 12, none, [], .p (.mv (.t 70))⟩,
          ⟨some 13, none, [], .p (.mv (.t 71))⟩]) (
      .seq (
        .region [
          ⟨some 73, none, [], .p (.mv (.t 11))⟩,
          ⟨some 74, none, [], .call 44004 4 false (.f 18) [.t 73]⟩,
          ⟨some 72, none, [], .p (.mv (.t 74))⟩,
          ⟨some 75, none, [], .p (.extract (.t 72) 0)⟩,
          ⟨some 76, none, [], .p (.extract (.t 72) 1)⟩,
          ⟨some 14, none, [], .p (.mv (.t 75))⟩,
          ⟨some 15, none, [], .p (.mv (.t 76))⟩]) (
      .seq (
        .region [
          ⟨some 77, none, [], .p (.mv (.t 12))⟩,
          ⟨some 78, none, [], .p (.mv (.t 14))⟩,
          ⟨some 79, none, [], .p (.bin .neq (.t 77) (.t 78))⟩,
          ⟨some 80, none, [], .p (.mv (.t 79))⟩,
          ⟨some 81, some (80, false), [], .p (.mv (.t 13))⟩,
          ⟨some 82, some (80, false), [], .p (.mv (.t 15))⟩,
          ⟨some 83, some (80, false), [], .p (.bin .neq (.t 81) (.t 82))⟩,
          ⟨some 84, none, [], .p (.pick (.t 80) (.c (.bool true)) (.t 83))⟩,
          ⟨some 85, none, [], .p (.mv (.t 84))⟩,
          ⟨some 86, some (85, false), [], .p (.mv (.t 7))⟩,
          ⟨some 87, some (85, false), [], .call 48040 4 true (.f 17) [.t 86]⟩,
          ⟨some 88, some (85, false), [], .p (.mv (.t 11))⟩,
          ⟨some 89, some (85, false), [], .p (.nilChk (.t 88))⟩,
          ⟨some 90, some (85, false), [], .p (.faddr 1 (.t 89))⟩,
          ⟨some 91, some (85, false), [48040, 48041, 48042, 48043], .r (.load1 (.t 90))⟩,
          ⟨some 92, some (85, false), [], .p (.bin .sub (.c (u64 4294967296#64)) (.t 91))⟩,
          ⟨some 93, some (85, false), [], .p (.bin .neq (.t 87) (.t 92))⟩,
          ⟨some 94, none, [], .p (.pick (.t 85) (.c (.bool true)) (.t 93))⟩]) (
      .cond (.t 94) (
        .seq (
          .region [
            ⟨some 6, none, [], .p (.mv (.c (.bool false)))⟩]) (
        .ret)) (
        .skip)))))) (
  .region [
    ⟨some 95, none, [], .p (.bin .add (.t 65) (.c (.int .i64 1)))⟩,
    ⟨some 65, none, [], .p (.mv (.t 95))⟩])))

def s3 : SFunc := ⟨
  .seq (
    .region [
      ⟨some 6, none, [], .p (.mv (.c (.bool false)))⟩]) (
  .seq (
    .region [
      ⟨some 17, none, [], .p (.mv (.t 0))⟩,
      ⟨some 18, none, [], .p (.mv (.t 1))⟩,
      ⟨some 19, none, [], .call 4008 4 true (.f 13) [.t 17, .t 18]⟩,
      ⟨some 16, none, [], .p (.mv (.t 19))⟩,
      ⟨some 20, none, [], .p (.extract (.t 16) 0)⟩,
      ⟨some 21, none, [], .p (.extract (.t 16) 1)⟩,
      ⟨some 7, none, [], .p (.mv (.t 20))⟩,
      ⟨some 8, none, [], .p (.mv (.t 21))⟩]) (
  .seq (
    .seq (
      .region [
        ⟨some 22, none, [], .call 8000 4 true (.f 14) []⟩,
        ⟨some 23, none, [], .p (.un .not (.t 22))⟩,
        ⟨some 24, none, [], .p (.mv (.t 23))⟩,
        ⟨some 25, some (24, false), [], .p (.mv (.t 8))⟩,
        ⟨some 26, some (24, false), [], .p (.bin .eql (.t 25) (.c (.int .i64 0)))⟩,
        ⟨some 27, some (24, false), [], .p (.mv (.t 0))⟩,
        ⟨some 28, some (24, false), [], .p (.mv (.t 1))⟩,
        ⟨some 29, some (24, false), [], .call 8028 4 true (.f 15) [.t 27, .t 28]⟩,
        ⟨some 30, some (24, false), [], .p (.eqb true (.t 26) (.t 29))⟩,
        ⟨some 31, none, [], .p (.pick (.t 24) (.c (.bool true)) (.t 30))⟩,
        ⟨some 32, none, [], .p (.mv (.t 31))⟩,
        ⟨some 33, some (32, false), [], .p (.mv (.t 8))⟩,
        ⟨some 34, some (32, false), [], .p (.bin .neq (.t 33) (.c (.int .i64 0)))⟩,
        ⟨some 35, some (32, false), [], .p (.mv (.t 34))⟩,
        ⟨some 36, some (35, true), [], .p (.mv (.t 8))⟩,
        ⟨some 37, some (35, true), [], .p (.bin .neq (.t 36) (.c (.int .i64 2)))⟩,
        ⟨some 38, some (32, false), [], .p (.pick (.t 35) (.t 37) (.c (.bool false)))⟩,
        ⟨some 39, none, [], .p (.pick (.t 32) (.c (.bool true)) (.t 38))⟩]) (
    .cond (.t 39) (
      .seq (
        .region [
          ⟨some 6, none, [], .p (.mv (.c (.bool false)))⟩]) (
      .ret)) (
      .skip))) (
  .seq (
    .seq (
      .region [
        ⟨some 40, none, [], .p (.mv (.t 8))⟩,
        ⟨some 41, none, [], .p (.bin .neq (.t 40) (.c (.int .i64 0)))⟩]) (
    .cond (.t 41) (
      .seq (
        .region [
          ⟨some 43, none, [], .p (.mv (.t 7))⟩,
          ⟨some 44, none, [], .call 20004 4 false (.f 16) [.t 43]⟩,
          ⟨some 42, none, [], .p (.mv (.t 44))⟩,
          ⟨some 45, none, [], .p (.extract (.t 42) 0)⟩,
          ⟨some 46, none, [], .p (.extract (.t 42) 1)⟩,
          ⟨some 9, none, [], .p (.mv (.t 45))⟩,
          ⟨some 10, none, [], .p (.mv (.t 46))⟩]) (
      .seq (
        .region [
          ⟨some 47, none, [], .p (.mv (.t 7))⟩,
          ⟨some 48, none, [], .p (.eqn .ptr false (.t 47) (.c (.ptr none)))⟩,
          ⟨some 49, none, [], .p (.mv (.t 48))⟩,
          ⟨some 50, some (49, true), [], .p (.mv (.t 10))⟩,
          ⟨some 51, some (49, true), [], .p (.bin .eql (.t 50) (.c (.int .i64 1)))⟩,
          ⟨some 52, none, [], .p (.pick (.t 49) (.t 51) (.c (.bool false)))⟩,
          ⟨some 53, none, [], .p (.mv (.t 52))⟩,
          ⟨some 54, some (53, true), [], .p (.mv (.t 7))⟩,
          ⟨some 55, some (53, true), [], .call 24032 4 true (.f 17) [.t 54]⟩,
          ⟨some 56, some (53, true), [], .p (.bin .eql (.t 55) (.c (u64 0#64)))⟩,
          ⟨some 57, none, [], .p (.pick (.t 53) (.t 56) (.c (.bool false)))⟩,
          ⟨some 6, none, [], .p (.mv (.t 57))⟩]) (
      .ret))) (
      .skip))) (
  .seq (
    .region [
      ⟨some 58, none, [], .p (.mv (.t 0))⟩,
      ⟨some 59, none, [], .p (.mv (.t 1))⟩,
      ⟨some 60, none, [], .p (.build [u64 0#64, u64 0#64] [(0, 1, .t 58), (1, 1, .t 59)])⟩,
      ⟨some 61, none, [], .a 28012 (.box (.t 60))⟩,
      ⟨some 11, none, [], .p (.mv (.t 61))⟩]) (
  .seq (
    .seq (
      .region [
        ⟨some 62, none, [], .p (.mv (.t 2))⟩,
        ⟨some 63, none, [], .p (.minmax true (.c (.int .i64 0)) (.t 62))⟩,
        ⟨some 64, none, [], .p (.bin .rem (.t 63) (.c (.int .i64 50)))⟩,
        ⟨some 65, none, [], .p (.mv (.c (.int .i64 0)))⟩]) (
    .block 0 (
      .loop k3_0 a3_0 s3_b0))) (
  .seq (
    .region [
      ⟨some 6, none, [], .p (.mv (.c (.bool true)))⟩]) (
  .ret))))))),
  96, [Sum.inl 6]⟩

theorem c3 : cFunc Try.prog quiet Try.f3 [[7, 11, 64, 65], [6]] = some s3 := by kernel_rfl

-- 4 calls [13, 14, 16, 17]
abbrev k4_1 : List Nat := [5, 6, 36]
abbrev a4_1 : List Nat := [4, 6]
abbrev e4_1 (v5 v6 v36 : AV) : Env := [.dead, .dead, .dead, .dead, .dead, v5, v6, .dead, .dead, .dead, .dead, .dead, .dead, .dead, .dead, .dead, .dead, .dead, .dead, .dead, .dead, .dead, .dead, .dead, .dead, .dead, .dead, .dead, .dead, .dead, .dead, .dead, .dead, .dead, .dead, .dead, v36, .dead, .dead, .dead, .dead, .dead, .dead, .dead, .dead, .dead, .dead, .dead, .dead, .dead, .dead, .dead, .dead, .dead, .dead, .dead, .dead, .dead, .dead, .dead]
abbrev x4_1 (v4 v6 : AV) : Env := [.dead, .dead, .dead, .dead, v4, .dead, v6, .dead, .dead, .dead, .dead, .dead, .dead, .dead, .dead, .dead, .dead, .dead, .dead, .dead, .dead, .dead, .dead, .dead, .dead, .dead, .dead, .dead, .dead, .dead, .dead, .dead, .dead, .dead, .dead, .dead, .dead, .dead, .dead, .dead, .dead, .dead, .dead, .dead, .dead, .dead, .dead, .dead, .dead, .dead, .dead, .dead, .dead, .dead, .dead, .dead, .dead, .dead, .dead, .dead]
def s4_b1 : SCode :=
  .seq (
    .region [
      ⟨some 37, none, [], .p (.bin .lss (.t 36) (.c (.int .i64 3)))⟩]) (
  .seq (
    .cond (.t 37) (
      .skip) (
      .exit 2)) (
  .seq (
    .block 3 (
      .seq (
        .region [
          ⟨some 39, none, [], .p (.mv (.t 5))⟩,
          ⟨some 40, none, [], .call 48004 4 false (.f 16) [.t 39]⟩,
          ⟨some 38, none, [], .p (.mv (.t 40))⟩,
          ⟨some 41, none, [], .p (.extract (.t 38) 0)⟩,
          ⟨some 42, none, [], .p (.extract (.t 38) 1)⟩,
          ⟨some 9, none, [], .p (.mv (.t 41))⟩,
          ⟨some 10, none, [], .p (.mv (.t 42))⟩]) (
      .seq (
        .region [
          ⟨some 43, none, [], .p (.mv (.t 10))⟩,
          ⟨some 44, none, [], .p (.bin .neq (.t 43) (.c (.int .i64 25)))⟩,
          ⟨some 45, none, [], .p (.mv (.t 44))⟩,
          ⟨some 46, some (45, false), [], .p (.mv (.t 9))⟩,
          ⟨some 47, some (45, false), [], .p (.bin .neq (.t 46) (.c (.str [])))⟩,
          ⟨some 48, none, [], .p (.pick (.t 45) (.c (.bool true)) (.t 47))⟩,
          ⟨some 49, none, [], .p (.mv (.t 48))⟩,
          ⟨some 50, some (49, false), [], .p (.mv (.t 5))⟩,
          ⟨some 51, some (49, false), [], .call 52032 4 true (.f 17) [.t 50]⟩,
          ⟨some 52, some (49, false), [], .p (.bin .neq (.t 51) (.c (u64 0#64)))⟩,
          ⟨some 53, none, [], .p (.pick (.t 49) (.c (.bool true)) (.t 52))⟩]) (
      .cond (.t 53) (
        .seq (
          .region [
            ⟨some 4, none, [], .p (.mv (.c (.bool false)))⟩]) (
        .ret)) (
        .skip))))) (
  .region [
    ⟨some 54, none, [], .p (.bin .add (.t 36) (.c (.int .i64 1)))⟩,
    ⟨some 36, none, [], .p (.mv (.t 54))⟩])))

abbrev k4_0 : List Nat := [5, 6, 25, 26]
abbrev a4_0 : List Nat := [4, 5, 6]
abbrev e4_0 (v5 v6 v25 v26 : AV) : Env := [.dead, .dead, .dead, .dead, .dead, v5, v6, .dead, .dead, .dead, .dead, .dead, .dead, .dead, .dead, .dead, .dead, .dead, .dead, .dead, .dead, .dead, .dead, .dead, .dead, v25, v26, .dead, .dead, .dead, .dead, .dead, .dead, .dead, .dead, .dead, .dead, .dead, .dead, .dead, .dead, .dead, .dead, .dead, .dead, .dead, .dead, .dead, .dead, .dead, .dead, .dead, .dead, .dead, .dead, .dead, .dead, .dead, .dead, .dead]
abbrev x4_0 (v4 v5 v6 : AV) : Env := [.dead, .dead, .dead, .dead, v4, v5, v6, .dead, .dead, .dead, .dead, .dead, .dead, .dead, .dead, .dead, .dead, .dead, .dead, .dead, .dead, .dead, .dead, .dead, .dead, .dead, .dead, .dead, .dead, .dead, .dead, .dead, .dead, .dead, .dead, .dead, .dead, .dead, .dead, .dead, .dead, .dead, .dead, .dead, .dead, .dead, .dead, .dead, .dead, .dead, .dead, .dead, .dead, .dead, .dead, .dead, .dead, .dead, .dead, .dead]
def s4_b0 : SCode :=
  .seq (
    .region [
      ⟨some 27, none, [], .p (.bin .lss (.t 26) (.t 25))⟩]) (
  .seq (
    .cond (.t 27) (
      .skip) (
      .exit 0)) (
  .seq (
    .block 1 (
      .seq (
        .region [
          ⟨some 29, none, [], .p (.mv (.t 5))⟩,
          ⟨some 30, none, [], .call 24004 4 false (.f 16) [.t 29]⟩,
          ⟨some 28, none, [], .p (.mv (.t 30))⟩,
          ⟨some 31, none, [], .p (.extract (.t 28) 0)⟩,
          ⟨some 32, none, [], .p (.extract (.t 28) 1)⟩,
          ⟨some 7, none, [], .p (.mv (.t 31))⟩,
          ⟨some 8, none, [], .p (.mv (.t 32))⟩]) (
      .seq (
        .region [
          ⟨some 33, none, [], .p (.mv (.t 8))⟩,
          ⟨some 34, none, [], .p (.bin .neq (.t 33) (.c (.int .i64 0)))⟩]) (
      .cond (.t 34) (
        .seq (
          .region [
            ⟨some 4, none, [], .p (.mv (.c (.bool false)))⟩]) (
        .ret)) (
        .skip))))) (
  .region [
    ⟨some 35, none, [], .p (.bin .add (.t 26) (.c (.int .i64 1)))⟩,
    ⟨some 26, none, [], .p (.mv (.t 35))⟩])))

def s4 : SFunc := ⟨
  .seq (
    .region [
      ⟨some 4, none, [], .p (.mv (.c (.bool false)))⟩]) (
  .seq (
    .seq (
      .region [
        ⟨some 11, none, [], .p (.mv (.t 0))⟩,
        ⟨some 12, none, [], .p (.bin .eql (.t 11) (.c (u32 0#32)))⟩]) (
    .cond (.t 12) (
      .seq (
        .region [
          ⟨some 13, none, [], .call 8000 4 true (.f 14) []⟩,
          ⟨some 4, none, [], .p (.mv (.t 13))⟩]) (
      .ret)) (
      .skip))) (
  .seq (
    .region [
      ⟨some 15, none, [], .p (.mv (.t 0))⟩,
      ⟨some 16, none, [], .p (.conv .u64 (.t 15))⟩,
      ⟨some 17, none, [], .p (.mv (.t 1))⟩,
      ⟨some 18, none, [], .p (.conv .u64 (.t 17))⟩,
      ⟨some 19, none, [], .p (.bin .sub (.c (u64 4294967295#64)) (.t 18))⟩,
      ⟨some 20, none, [], .call 12020 4 true (.f 13) [.t 16, .t 19]⟩,
      ⟨some 14, none, [], .p (.mv (.t 20))⟩,
      ⟨some 21, none, [], .p (.extract (.t 14) 0)⟩,
      ⟨some 22, none, [], .p (.extract (.t 14) 1)⟩,
      ⟨some 5, none, [], .p (.mv (.t 21))⟩,
      ⟨some 6, none, [], .p (.mv (.t 22))⟩]) (
  .seq (
    .seq (
      .region [
        ⟨some 23, none, [], .p (.mv (.t 1))⟩,
        ⟨some 24, none, [], .p (.conv .i64 (.t 23))⟩,
        ⟨some 25, none, [], .p (.bin .add (.t 24) (.c (.int .i64 1)))⟩,
        ⟨some 26, none, [], .p (.mv (.c (.int .i64 0)))⟩]) (
    .block 0 (
      .loop k4_0 a4_0 s4_b0))) (
  .seq (
    .seq (
      .region [
        ⟨some 36, none, [], .p (.mv (.c (.int .i64 0)))⟩]) (
    .block 2 (
      .loop k4_1 a4_1 s4_b1))) (
  .seq (
    .region [
      ⟨some 55, none, [], .call 64000 4 true (.f 14) []⟩,
      ⟨some 56, none, [], .p (.mv (.t 55))⟩,
      ⟨some 57, some (56, true), [], .p (.mv (.t 6))⟩,
      ⟨some 58, some (56, true), [], .p (.bin .eql (.t 57) (.c (.int .i64 0)))⟩,
      ⟨some 59, none, [], .p (.pick (.t 56) (.t 58) (.c (.bool false)))⟩,
      ⟨some 4, none, [], .p (.mv (.t 59))⟩]) (
  .ret)))))),
  60, [Sum.inl 4]⟩

theorem c4 : cFunc Try.prog quiet Try.f4 [[5, 6, 25, 26], [4, 5, 6], [5, 6, 36], [4, 6]] = some s4 := by kernel_rfl

-- 5 calls [19, 20, 21, 22, 23]
def s5 : SFunc := ⟨
  .seq (
    .region [
      ⟨some 4, none, [], .p (.mv (.c (.bool false)))⟩]) (
  .seq (
    .region [
      ⟨some 5, none, [], .p (.mv (.t 1))⟩,
      ⟨some 6, none, [], .p (.mv (.t 1))⟩,
      ⟨some 7, none, [], .p (.lenV false (.t 6))⟩,
      ⟨some 8, none, [], .p (.minmax false (.t 7) (.c (.int .i64 2000)))⟩,
      ⟨some 9, none, [], .p (.slcStr (.t 5) none (some (.t 8)))⟩,
      ⟨some 1, none, [], .p (.mv (.t 9))⟩]) (
  .seq (
    .region [
      ⟨some 10, none, [], .call 8000 4 true (.f 19) []⟩,
      ⟨some 11, none, [], .p (.mv (.t 10))⟩,
      ⟨some 12, some (11, true), [], .p (.mv (.t 0))⟩,
      ⟨some 13, some (11, true), [], .call 8012 4 true (.f 20) [.t 12]⟩,
      ⟨some 14, some (11, true), [], .p (.mv (.t 0))⟩,
      ⟨some 15, some (11, true), [], .call 8020 4 true (.f 21) [.t 14]⟩,
      ⟨some 16, some (11, true), [], .p (.bin .eql (.t 13) (.t 15))⟩,
      ⟨some 17, none, [], .p (.pick (.t 11) (.t 16) (.c (.bool false)))⟩,
      ⟨some 18, none, [], .p (.mv (.t 17))⟩,
      ⟨some 19, some (18, true), [], .p (.mv (.t 1))⟩,
      ⟨some 20, some (18, true), [], .call 8040 4 true (.f 22) [.t 19]⟩,
      ⟨some 21, some (18, true), [], .p (.mv (.t 1))⟩,
      ⟨some 22, some (18, true), [], .call 8048 4 true (.f 23) [.t 21]⟩,
      ⟨some 23, some (18, true), [], .p (.bin .eql (.t 20) (.t 22))⟩,
      ⟨some 24, none, [], .p (.pick (.t 18) (.t 23) (.c (.bool false)))⟩,
      ⟨some 4, none, [], .p (.mv (.t 24))⟩]) (
  .ret))),
  25, [Sum.inl 4]⟩

theorem c5 : cFunc Try.prog quiet Try.f5 [] = some s5 := by kernel_rfl

-- NOT COMPILED 6: none
-- 7 calls [19, 28]
abbrev k7_0 : List Nat := [0, 1, 5, 6, 27, 28]
abbrev a7_0 : List Nat := [0, 1, 5, 6]
abbrev e7_0 (v0 v1 v5 v6 v27 v28 : AV) : Env := [v0, v1, .dead, .dead, .dead, v5, v6, .dead, .dead, .dead, .dead, .dead, .dead, .dead, .dead, .dead, .dead, .dead, .dead, .dead, .dead, .dead, .dead, .dead, .dead, .dead, .dead, v27, v28, .dead, .dead, .dead, .dead, .dead, .dead, .dead, .dead, .dead, .dead, .dead, .dead, .dead, .dead, .dead, .dead, .dead, .dead, .dead, .dead, .dead, .dead, .dead, .dead, .dead, .dead, .dead, .dead, .dead, .dead, .dead, .dead, .dead, .dead, .dead, .dead, .dead, .dead, .dead, .dead, .dead]
abbrev x7_0 (v0 v1 v5 v6 : AV) : Env := [v0, v1, .dead, .dead, .dead, v5, v6, .dead, .dead, .dead, .dead, .dead, .dead, .dead, .dead, .dead, .dead, .dead, .dead, .dead, .dead, .dead, .dead, .dead, .dead, .dead, .dead, .dead, .dead, .dead, .dead, .dead, .dead, .dead, .dead, .dead, .dead, .dead, .dead, .dead, .dead, .dead, .dead, .dead, .dead, .dead, .dead, .dead, .dead, .dead, .dead, .dead, .dead, .dead, .dead, .dead, .dead, .dead, .dead, .dead, .dead, .dead, .dead, .dead, .dead, .dead, .dead, .dead, .dead, .dead]
def s7_b0 : SCode :=
  .seq (
    .region [
      ⟨some 29, none, [], .p (.bin .lss (.t 28) (.t 27))⟩]) (
  .seq (
    .cond (.t 29) (
      .skip) (
      .exit 0)) (
  .seq (
    .block 1 (
      .seq (
        .region [
          ⟨some 30, none, [], .p (.mv (.t 28))⟩,
          ⟨some 7, none, [], .p (.mv (.t 30))⟩]) (
      .region [
        ⟨some 31, none, [], .p (.mv (.t 6))⟩,
        ⟨some 32, none, [], .p (.mv (.t 31))⟩,
        ⟨some 33, some (32, true), [], .p (.mv (.t 0))⟩,
        ⟨some 34, some (32, true), [], .p (.mv (.t 7))⟩,
        ⟨some 35, some (32, true), [], .p (.iaddrS 1 (.t 33) (.t 34))⟩,
        ⟨some 36, some (32, true), [], .r (.load1 (.t 35))⟩,
        ⟨some 37, some (32, true), [], .p (.mv (.t 0))⟩,
        ⟨some 38, some (32, true), [], .p (.mv (.t 7))⟩,
        ⟨some 39, some (32, true), [], .p (.iaddrS 1 (.t 37) (.t 38))⟩,
        ⟨some 40, some (32, true), [], .r (.load1 (.t 39))⟩,
        ⟨some 41, some (32, true), [], .p (.lenV false (.t 40))⟩,
        ⟨some 42, some (32, true), [], .p (.minmax false (.t 41) (.c (.int .i64 100)))⟩,
        ⟨some 43, some (32, true), [], .p (.slcStr (.t 36) none (some (.t 42)))⟩,
        ⟨some 44, some (32, true), [], .p (.mv (.t 1))⟩,
        ⟨some 45, some (32, true), [], .p (.mv (.t 7))⟩,
        ⟨some 46, some (32, true), [], .p (.iaddrS 1 (.t 44) (.t 45))⟩,
        ⟨some 47, some (32, true), [], .r (.load1 (.t 46))⟩,
        ⟨some 48, some (32, true), [], .p (.mv (.t 1))⟩,
        ⟨some 49, some (32, true), [], .p (.mv (.t 7))⟩,
        ⟨some 50, some (32, true), [], .p (.iaddrS 1 (.t 48) (.t 49))⟩,
        ⟨some 51, some (32, true), [], .r (.load1 (.t 50))⟩,
        ⟨some 52, some (32, true), [], .p (.lenV false (.t 51))⟩,
        ⟨some 53, some (32, true), [], .p (.minmax false (.t 52) (.c (.int .i64 100)))⟩,
        ⟨some 54, some (32, true), [], .p (.slcStr (.t 47) none (some (.t 53)))⟩,
        ⟨some 55, some (32, true), [], .p (.bin .eql (.t 43) (.t 54))⟩,
        ⟨some 56, none, [], .p (.pick (.t 32) (.t 55) (.c (.bool false)))⟩,
        ⟨some 6, none, [], .p (.mv (.t 56))⟩]))) (
  .region [
    ⟨some 57, none, [], .p (.bin .add (.t 28) (.c (.int .i64 1)))⟩,
    ⟨some 28, none, [], .p (.mv (.t 57))⟩])))

def s7 : SFunc := ⟨
  .seq (
    .region [
      ⟨some 4, none, [], .p (.mv (.c (.bool false)))⟩]) (
  .seq (
    .region [
      ⟨some 8, none, [], .p (.mv (.t 0))⟩,
      ⟨some 9, none, [], .p (.mv (.t 0))⟩,
      ⟨some 10, none, [], .p (.lenV true (.t 9))⟩,
      ⟨some 11, none, [], .p (.minmax false (.t 10) (.c (.int .i64 10)))⟩,
      ⟨some 12, none, [], .p (.slcS 1 (.t 8) none (some (.t 11)) none)⟩,
      ⟨some 13, none, [], .p (.mv (.t 1))⟩,
      ⟨some 14, none, [], .p (.mv (.t 1))⟩,
      ⟨some 15, none, [], .p (.lenV true (.t 14))⟩,
      ⟨some 16, none, [], .p (.minmax false (.t 15) (.c (.int .i64 10)))⟩,
      ⟨some 17, none, [], .p (.slcS 1 (.t 13) none (some (.t 16)) none)⟩,
      ⟨some 0, none, [], .p (.mv (.t 12))⟩,
      ⟨some 1, none, [], .p (.mv (.t 17))⟩]) (
  .seq (
    .region [
      ⟨some 5, none, [], .p (.mv (.f 28))⟩]) (
  .seq (
    .region [
      ⟨some 18, none, [], .p (.mv (.t 0))⟩,
      ⟨some 19, none, [], .p (.lenV true (.t 18))⟩,
      ⟨some 20, none, [], .p (.mv (.t 1))⟩,
      ⟨some 21, none, [], .p (.lenV true (.t 20))⟩,
      ⟨some 22, none, [], .p (.bin .eql (.t 19) (.t 21))⟩,
      ⟨some 6, none, [], .p (.mv (.t 22))⟩]) (
  .seq (
    .seq (
      .region [
        ⟨some 23, none, [], .p (.mv (.t 0))⟩,
        ⟨some 24, none, [], .p (.lenV true (.t 23))⟩,
        ⟨some 25, none, [], .p (.mv (.t 1))⟩,
        ⟨some 26, none, [], .p (.lenV true (.t 25))⟩,
        ⟨some 27, none, [], .p (.minmax false (.t 24) (.t 26))⟩,
        ⟨some 28, none, [], .p (.mv (.c (.int .i64 0)))⟩]) (
    .block 0 (
      .loop k7_0 a7_0 s7_b0))) (
  .seq (
    .region [
      ⟨some 58, none, [], .call 36000 4 true (.f 19) []⟩,
      ⟨some 59, none, [], .p (.mv (.t 58))⟩,
      ⟨some 60, some (59, true), [], .p (.mv (.t 5))⟩,
      ⟨some 61, some (59, true), [], .p (.mv (.t 0))⟩,
      ⟨some 62, some (59, true), [], .call 36016 4 true (.t 60) [.t 61]⟩,
      ⟨some 63, some (59, true), [], .p (.mv (.t 5))⟩,
      ⟨some 64, some (59, true), [], .p (.mv (.t 1))⟩,
      ⟨some 65, some (59, true), [], .call 36028 4 true (.t 63) [.t 64]⟩,
      ⟨some 66, some (59, true), [], .p (.bin .eql (.t 62) (.t 65))⟩,
      ⟨some 67, some (59, true), [], .p (.mv (.t 6))⟩,
      ⟨some 68, some (59, true), [], .p (.eqb false (.t 66) (.t 67))⟩,
      ⟨some 69, none, [], .p (.pick (.t 59) (.t 68) (.c (.bool false)))⟩,
      ⟨some 4, none, [], .p (.mv (.t 69))⟩]) (
  .ret)))))),
  70, [Sum.inl 4]⟩

theorem c7 : cFunc Try.prog quiet Try.f7 [[0, 1, 5, 6, 27, 28], [0, 1, 5, 6]] = some s7 := by kernel_rfl

-- 8 calls [19, 24, 25, 26, 27, 29, 30, 31, 32, 33, 34]
abbrev k8_0 : List Nat := [0, 2, 7, 8, 22, 23, 24]
abbrev a8_0 : List Nat := [6]
abbrev e8_0 (v0 v2 v7 v8 v22 v23 v24 : AV) : Env := [v0, .dead, v2, .dead, .dead, .dead, .dead, v7, v8, .dead, .dead, .dead, .dead, .dead, .dead, .dead, .dead, .dead, .dead, .dead, .dead, .dead, v22, v23, v24, .dead, .dead, .dead, .dead, .dead, .dead, .dead, .dead, .dead, .dead, .dead, .dead, .dead, .dead, .dead, .dead, .dead, .dead, .dead, .dead, .dead, .dead, .dead, .dead, .dead, .dead, .dead, .dead, .dead, .dead, .dead, .dead, .dead, .dead, .dead, .dead, .dead, .dead, .dead, .dead, .dead, .dead, .dead, .dead, .dead, .dead]
abbrev x8_0 (v6 : AV) : Env := [.dead, .dead, .dead, .dead, .dead, .dead, v6, .dead, .dead, .dead, .dead, .dead, .dead, .dead, .dead, .dead, .dead, .dead, .dead, .dead, .dead, .dead, .dead, .dead, .dead, .dead, .dead, .dead, .dead, .dead, .dead, .dead, .dead, .dead, .dead, .dead, .dead, .dead, .dead, .dead, .dead, .dead, .dead, .dead, .dead, .dead, .dead, .dead, .dead, .dead, .dead, .dead, .dead, .dead, .dead, .dead, .dead, .dead, .dead, .dead, .dead, .dead, .dead, .dead, .dead, .dead, .dead, .dead, .dead, .dead, .dead]
def s8_b0 : SCode :=
  .seq (
    .region [
      ⟨some 25, none, [], .p (.bin .lss (.t 24) (.t 23))⟩]) (
  .seq (
    .cond (.t 25) (
      .skip) (
      .exit 0)) (
  .seq (
    .block 1 (
      .seq (
        .region [
          ⟨some 26, none, [], .p (.iaddrS 1 (.t 22) (.t 24))⟩,
          ⟨some 27, none, [], .r (.load1 (.t 26))⟩,
          ⟨some 10, none, [], .p (.mv (.t 27))⟩]) (
      .seq (
        .seq (
          .region [
            ⟨some 28, none, [], .p (.mv (.t 10))⟩,
            ⟨some 29, none, [], .p (.bin .rem (.t 28) (.c (.int .i64 4)))⟩]) (
        .block 2 (
          .seq (
            .seq (
              .region [
                ⟨some 36, none, [], .p (.bin .eql (.t 29) (.c (.int .i64 1)))⟩,
                ⟨some 35, none, [], .p (.mv (.t 36))⟩]) (
            .cond (.t 35) (
              .skip) (
              .region [
                ⟨some 37, none, [], .p (.bin .eql (.t 29) (.c (.int .i64 (-1))))⟩,
                ⟨some 35, none, [], .p (.mv (.t 37))⟩]))) (
          .cond (.t 35) (
            .seq (
              .region [
                ⟨some 38, none, [], .p (.mv (.t 7))⟩,
                ⟨some 39, none, [], .call 48004 4 false (.f 26) [.t 38]⟩,
                ⟨some 40, none, [], .p (.mv (.t 8))⟩,
                ⟨some 41, none, [], .call 48012 4 false (.f 29) [.t 40]⟩,
                ⟨some 42, none, [], .p (.bin .neq (.t 39) (.t 41))⟩]) (
            .cond (.t 42) (
              .seq (
                .region [
                  ⟨some 6, none, [], .p (.mv (.c (.bool false)))⟩]) (
              .ret)) (
              .skip))) (
            .seq (
              .seq (
                .region [
                  ⟨some 44, none, [], .p (.bin .eql (.t 29) (.c (.int .i64 2)))⟩,
                  ⟨some 43, none, [], .p (.mv (.t 44))⟩]) (
              .cond (.t 43) (
                .skip) (
                .region [
                  ⟨some 45, none, [], .p (.bin .eql (.t 29) (.c (.int .i64 (-2))))⟩,
                  ⟨some 43, none, [], .p (.mv (.t 45))⟩]))) (
            .cond (.t 43) (
              .seq (
                .region [
                  ⟨some 46, none, [], .p (.mv (.t 7))⟩,
                  ⟨some 47, none, [], .p (.mv (.t 2))⟩,
                  ⟨some 48, none, [], .call 64008 4 false (.f 30) [.t 46, .t 47]⟩,
                  ⟨some 49, none, [], .p (.mv (.t 8))⟩,
                  ⟨some 50, none, [], .p (.mv (.t 2))⟩,
                  ⟨some 51, none, [], .call 64020 4 false (.f 31) [.t 49, .t 50]⟩,
                  ⟨some 52, none, [], .p (.bin .neq (.t 48) (.t 51))⟩]) (
              .cond (.t 52) (
                .seq (
                  .region [
                    ⟨some 6, none, [], .p (.mv (.c (.bool false)))⟩]) (
                .ret)) (
                .skip))) (
              .seq (
                .region [
                  ⟨some 30, none, [], .p (.mv (.t 7))⟩,
                  ⟨some 31, none, [], .call 32004 4 false (.f 25) [.t 30]⟩,
                  ⟨some 32, none, [], .p (.mv (.t 8))⟩,
                  ⟨some 33, none, [], .call 32012 4 false (.f 32) [.t 32]⟩,
                  ⟨some 34, none, [], .p (.bin .neq (.t 31) (.t 33))⟩]) (
              .cond (.t 34) (
                .seq (
                  .region [
                    ⟨some 6, none, [], .p (.mv (.c (.bool false)))⟩]) (
                .ret)) (
                .skip))))))))) (
      .seq (
        .region [
          ⟨some 53, none, [], .p (.mv (.t 7))⟩,
          ⟨some 54, none, [], .call 72004 4 true (.f 27) [.t 53]⟩,
          ⟨some 55, none, [], .p (.mv (.t 8))⟩,
          ⟨some 56, none, [], .call 72012 4 true (.f 33) [.t 55]⟩,
          ⟨some 57, none, [], .p (.bin .neq (.t 54) (.t 56))⟩,
          ⟨some 58, none, [], .p (.mv (.t 57))⟩,
          ⟨some 59, some (58, false), [], .p (.mv (.t 7))⟩,
          ⟨some 60, some (58, false), [], .call 72028 4 true (.f 34) [.t 59]⟩,
          ⟨some 61, some (58, false), [], .p (.mv (.t 0))⟩,
          ⟨some 62, some (58, false), [], .p (.lenV false (.t 61))⟩,
          ⟨some 63, some (58, false), [], .p (.mv (.t 8))⟩,
          ⟨some 64, some (58, false), [], .p (.nilChk (.t 63))⟩,
          ⟨some 65, some (58, false), [], .p (.faddr 1 (.t 64))⟩,
          ⟨some 66, some (58, false), [72028, 72029, 72030, 72031], .r (.load1 (.t 65))⟩,
          ⟨some 67, some (58, false), [], .p (.bin .sub (.t 62) (.t 66))⟩,
          ⟨some 68, some (58, false), [], .p (.bin .neq (.t 60) (.t 67))⟩,
          ⟨some 69, none, [], .p (.pick (.t 58) (.c (.bool true)) (.t 68))⟩]) (
      .cond (.t 69) (
        .seq (
          .region [
            ⟨some 6, none, [], .p (.mv (.c (.bool false)))⟩]) (
        .ret)) (
        .skip)))))) (
  .region [
    ⟨some 70, none, [], .p (.bin .add (.t 24) (.c (.int .i64 1)))⟩,
    ⟨some 24, none, [], .p (.mv (.t 70))⟩])))

def s8 : SFunc := ⟨
  .seq (
    .region [
      ⟨some 6, none, [], .p (.mv (.c (.bool false)))⟩]) (
  .seq (
    .region [
      ⟨some 11, none, [], .p (.mv (.t 0))⟩,
      ⟨some 12, none, [], .call 4004 4 true (.f 24) [.t 11]⟩,
      ⟨some 13, none, [], .p (.mv (.t 0))⟩,
      ⟨some 14, none, [], .p (.build [.str [], .int .i64 0, .int .i64 0] [(0, 1, .t 13)])⟩,
      ⟨some 15, none, [], .a 4016 (.box (.t 14))⟩,
      ⟨some 7, none, [], .p (.mv (.t 12))⟩,
      ⟨some 8, none, [], .p (.mv (.t 15))⟩]) (
  .seq (
    .seq (
      .region [
        ⟨some 16, none, [], .call 8000 4 true (.f 19) []⟩,
        ⟨some 17, none, [], .p (.un .not (.t 16))⟩]) (
    .cond (.t 17) (
      .seq (
        .region [
          ⟨some 6, none, [], .p (.mv (.c (.bool false)))⟩]) (
      .ret)) (
      .skip))) (
  .seq (
    .seq (
      .region [
        ⟨some 18, none, [], .p (.mv (.t 1))⟩,
        ⟨some 19, none, [], .p (.mv (.t 1))⟩,
        ⟨some 20, none, [], .p (.lenV true (.t 19))⟩,
        ⟨some 21, none, [], .p (.minmax false (.t 20) (.c (.int .i64 40)))⟩,
        ⟨some 22, none, [], .p (.slcS 1 (.t 18) none (some (.t 21)) none)⟩,
        ⟨some 23, none, [], .p (.lenV true (.t 22))⟩,
        ⟨some 24, none, [], .p (.mv (.c (.int .i64 0)))⟩]) (
    .block 0 (
      .loop k8_0 a8_0 s8_b0))) (
  .seq (
    .region [
      ⟨some 6, none, [], .p (.mv (.c (.bool true)))⟩]) (
  .ret))))),
  71, [Sum.inl 6]⟩

theorem c8 : cFunc Try.prog quiet Try.f8 [[0, 2, 7, 8, 22, 23, 24], [6]] = some s8 := by kernel_rfl

-- 9 calls [19, 22, 24, 25, 26, 27, 30]
abbrev k9_1 : List Nat := [8, 50, 51]
abbrev a9_1 : List Nat := [8]
abbrev e9_1 (v8 v50 v51 : AV) : Env := [.dead, .dead, .dead, .dead, .dead, .dead, .dead, .dead, v8, .dead, .dead, .dead, .dead, .dead, .dead, .dead, .dead, .dead, .dead, .dead, .dead, .dead, .dead, .dead, .dead, .dead, .dead, .dead, .dead, .dead, .dead, .dead, .dead, .dead, .dead, .dead, .dead, .dead, .dead, .dead, .dead, .dead, .dead, .dead, .dead, .dead, .dead, .dead, .dead, .dead, v50, v51, .dead, .dead, .dead, .dead, .dead, .dead, .dead, .dead, .dead, .dead, .dead, .dead, .dead, .dead, .dead, .dead, .dead, .dead, .dead, .dead, .dead, .dead, .dead, .dead, .dead, .dead, .dead]
abbrev x9_1 (v8 : AV) : Env := [.dead, .dead, .dead, .dead, .dead, .dead, .dead, .dead, v8, .dead, .dead, .dead, .dead, .dead, .dead, .dead, .dead, .dead, .dead, .dead, .dead, .dead, .dead, .dead, .dead, .dead, .dead, .dead, .dead, .dead, .dead, .dead, .dead, .dead, .dead, .dead, .dead, .dead, .dead, .dead, .dead, .dead, .dead, .dead, .dead, .dead, .dead, .dead, .dead, .dead, .dead, .dead, .dead, .dead, .dead, .dead, .dead, .dead, .dead, .dead, .dead, .dead, .dead, .dead, .dead, .dead, .dead, .dead, .dead, .dead, .dead, .dead, .dead, .dead, .dead, .dead, .dead, .dead, .dead]
def s9_b1 : SCode :=
  .seq (
    .region [
      ⟨some 52, none, [], .p (.bin .lss (.t 51) (.t 50))⟩]) (
  .seq (
    .cond (.t 52) (
      .skip) (
      .exit 2)) (
  .seq (
    .block 3 (
      .region [
        ⟨some 53, none, [], .p (.mv (.t 8))⟩,
        ⟨some 54, none, [], .call 52004 4 false (.f 25) [.t 53]⟩])) (
  .region [
    ⟨some 55, none, [], .p (.bin .add (.t 51) (.c (.int .i64 1)))⟩,
    ⟨some 51, none, [], .p (.mv (.t 55))⟩])))

abbrev k9_0 : List Nat := [0, 1, 5, 14, 15, 16]
abbrev a9_0 : List Nat := [0, 1, 5]
abbrev e9_0 (v0 v1 v5 v14 v15 v16 : AV) : Env := [v0, v1, .dead, .dead, .dead, v5, .dead, .dead, .dead, .dead, .dead, .dead, .dead, .dead, v14, v15, v16, .dead, .dead, .dead, .dead, .dead, .dead, .dead, .dead, .dead, .dead, .dead, .dead, .dead, .dead, .dead, .dead, .dead, .dead, .dead, .dead, .dead, .dead, .dead, .dead, .dead, .dead, .dead, .dead, .dead, .dead, .dead, .dead, .dead, .dead, .dead, .dead, .dead, .dead, .dead, .dead, .dead, .dead, .dead, .dead, .dead, .dead, .dead, .dead, .dead, .dead, .dead, .dead, .dead, .dead, .dead, .dead, .dead, .dead, .dead, .dead, .dead, .dead]
abbrev x9_0 (v0 v1 v5 : AV) : Env := [v0, v1, .dead, .dead, .dead, v5, .dead, .dead, .dead, .dead, .dead, .dead, .dead, .dead, .dead, .dead, .dead, .dead, .dead, .dead, .dead, .dead, .dead, .dead, .dead, .dead, .dead, .dead, .dead, .dead, .dead, .dead, .dead, .dead, .dead, .dead, .dead, .dead, .dead, .dead, .dead, .dead, .dead, .dead, .dead, .dead, .dead, .dead, .dead, .dead, .dead, .dead, .dead, .dead, .dead, .dead, .dead, .dead, .dead, .dead, .dead, .dead, .dead, .dead, .dead, .dead, .dead, .dead, .dead, .dead, .dead, .dead, .dead, .dead, .dead, .dead, .dead, .dead, .dead]
def s9_b0 : SCode :=
  .seq (
    .region [
      ⟨some 17, none, [], .p (.bin .lss (.t 16) (.t 15))⟩]) (
  .seq (
    .cond (.t 17) (
      .skip) (
      .exit 0)) (
  .seq (
    .block 1 (
      .seq (
        .region [
          ⟨some 18, none, [], .p (.iaddrS 1 (.t 14) (.t 16))⟩,
          ⟨some 19, none, [], .r (.load1 (.t 18))⟩,
          ⟨some 7, none, [], .p (.mv (.t 19))⟩]) (
      .region [
        ⟨some 20, none, [], .p (.mv (.t 5))⟩,
        ⟨some 21, none, [], .p (.mv (.t 7))⟩,
        ⟨some 22, none, [], .p (.mv (.t 7))⟩,
        ⟨some 23, none, [], .p (.lenV false (.t 22))⟩,
        ⟨some 24, none, [], .p (.minmax false (.t 23) (.c (.int .i64 100)))⟩,
        ⟨some 25, none, [], .p (.slcStr (.t 21) none (some (.t 24)))⟩,
        ⟨some 26, none, [], .call 24024 4 true (.f 22) [.t 25]⟩,
        ⟨some 27, none, [], .p (.bin .add (.t 20) (.t 26))⟩,
        ⟨some 5, none, [], .p (.mv (.t 27))⟩]))) (
  .region [
    ⟨some 28, none, [], .p (.bin .add (.t 16) (.c (.int .i64 1)))⟩,
    ⟨some 16, none, [], .p (.mv (.t 28))⟩])))

def s9 : SFunc := ⟨
  .seq (
    .region [
      ⟨some 4, none, [], .p (.mv (.c (.bool false)))⟩]) (
  .seq (
    .region [
      ⟨some 9, none, [], .p (.mv (.t 0))⟩,
      ⟨some 10, none, [], .p (.mv (.t 0))⟩,
      ⟨some 11, none, [], .p (.lenV true (.t 10))⟩,
      ⟨some 12, none, [], .p (.minmax false (.t 11) (.c (.int .i64 10)))⟩,
      ⟨some 13, none, [], .p (.slcS 1 (.t 9) none (some (.t 12)) none)⟩,
      ⟨some 0, none, [], .p (.mv (.t 13))⟩]) (
  .seq (
    .region [
      ⟨some 5, none, [], .p (.mv (.c (.str [])))⟩]) (
  .seq (
    .seq (
      .region [
        ⟨some 14, none, [], .p (.mv (.t 0))⟩,
        ⟨some 15, none, [], .p (.lenV true (.t 14))⟩,
        ⟨some 16, none, [], .p (.mv (.c (.int .i64 0)))⟩]) (
    .block 0 (
      .loop k9_0 a9_0 s9_b0))) (
  .seq (
    .seq (
      .region [
        ⟨some 29, none, [], .call 32000 4 true (.f 19) []⟩,
        ⟨some 30, none, [], .p (.un .not (.t 29))⟩,
        ⟨some 31, none, [], .p (.mv (.t 30))⟩,
        ⟨some 32, some (31, false), [], .p (.mv (.t 5))⟩,
        ⟨some 33, some (31, false), [], .p (.bin .eql (.t 32) (.c (.str [])))⟩,
        ⟨some 34, none, [], .p (.pick (.t 31) (.c (.bool true)) (.t 33))⟩]) (
    .cond (.t 34) (
      .seq (
        .region [
          ⟨some 35, none, [], .call 36000 4 true (.f 19) []⟩,
          ⟨some 36, none, [], .p (.mv (.t 35))⟩,
          ⟨some 37, some (36, true), [], .p (.mv (.t 0))⟩,
          ⟨some 38, some (36, true), [], .p (.lenV true (.t 37))⟩,
          ⟨some 39, some (36, true), [], .p (.bin .eql (.t 38) (.c (.int .i64 0)))⟩,
          ⟨some 40, none, [], .p (.pick (.t 36) (.t 39) (.c (.bool false)))⟩,
          ⟨some 4, none, [], .p (.mv (.t 40))⟩]) (
      .ret)) (
      .skip))) (
  .seq (
    .region [
      ⟨some 41, none, [], .p (.mv (.t 5))⟩,
      ⟨some 42, none, [], .p (.mv (.t 1))⟩,
      ⟨some 43, none, [], .p (.minmax true (.c (.int .i64 0)) (.t 42))⟩,
      ⟨some 44, none, [], .p (.mv (.t 5))⟩,
      ⟨some 45, none, [], .p (.lenV false (.t 44))⟩,
      ⟨some 46, none, [], .p (.bin .rem (.t 43) (.t 45))⟩,
      ⟨some 47, none, [], .p (.slcStr (.t 41) none (some (.t 46)))⟩,
      ⟨some 48, none, [], .call 40028 4 true (.f 24) [.t 47]⟩,
      ⟨some 8, none, [], .p (.mv (.t 48))⟩]) (
  .seq (
    .seq (
      .region [
        ⟨some 49, none, [], .p (.mv (.t 0))⟩,
        ⟨some 50, none, [], .p (.lenV true (.t 49))⟩,
        ⟨some 51, none, [], .p (.mv (.c (.int .i64 0)))⟩]) (
    .block 2 (
      .loop k9_1 a9_1 s9_b1))) (
  .seq (
    .region [
      ⟨some 56, none, [], .p (.mv (.t 8))⟩,
      ⟨some 57, none, [], .call 60004 4 true (.f 27) [.t 56]⟩,
      ⟨some 58, none, [], .p (.bin .eql (.t 57) (.c (.int .i64 3)))⟩,
      ⟨some 59, none, [], .p (.mv (.t 58))⟩,
      ⟨some 60, some (59, true), [], .p (.mv (.t 8))⟩,
      ⟨some 61, some (59, true), [], .call 60020 4 false (.f 26) [.t 60]⟩,
      ⟨some 62, some (59, true), [], .p (.bin .eql (.t 61) (.c (u64 0#64)))⟩,
      ⟨some 63, none, [], .p (.pick (.t 59) (.t 62) (.c (.bool false)))⟩,
      ⟨some 64, none, [], .p (.mv (.t 63))⟩,
      ⟨some 65, some (64, true), [], .p (.mv (.t 8))⟩,
      ⟨some 66, some (64, true), [], .call 60040 4 false (.f 25) [.t 65]⟩,
      ⟨some 67, some (64, true), [], .p (.bin .eql (.t 66) (.c (.str [])))⟩,
      ⟨some 68, none, [], .p (.pick (.t 64) (.t 67) (.c (.bool false)))⟩,
      ⟨some 69, none, [], .p (.mv (.t 68))⟩,
      ⟨some 70, some (69, true), [], .p (.mv (.t 8))⟩,
      ⟨some 71, some (69, true), [], .call 60060 4 false (.f 30) [.t 70, .c (.int .i64 9)]⟩,
      ⟨some 72, some (69, true), [], .p (.bin .eql (.t 71) (.c (.int .i64 0)))⟩,
      ⟨some 73, none, [], .p (.pick (.t 69) (.t 72) (.c (.bool false)))⟩,
      ⟨some 74, none, [], .p (.mv (.t 73))⟩,
      ⟨some 75, some (74, true), [], .p (.mv (.t 8))⟩,
      ⟨some 76, some (74, true), [], .call 60080 4 true (.f 27) [.t 75]⟩,
      ⟨some 77, some (74, true), [], .p (.bin .eql (.t 76) (.c (.int .i64 3)))⟩,
      ⟨some 78, none, [], .p (.pick (.t 74) (.t 77) (.c (.bool false)))⟩,
      ⟨some 4, none, [], .p (.mv (.t 78))⟩]) (
  .ret)))))))),
  79, [Sum.inl 4]⟩

theorem c9 : cFunc Try.prog quiet Try.f9 [[0, 1, 5, 14, 15, 16], [0, 1, 5], [8, 50, 51], [8]] = some s9 := by kernel_rfl

-- 10 calls [19, 25, 26, 27, 30, 34]
def s10 : SFunc := ⟨
  .seq (
    .region [
      ⟨some 2, none, [], .p (.mv (.c (.bool false)))⟩]) (
  .seq (
    .region [
      ⟨some 3, none, [], .p (.mv (.c (.ptr none)))⟩]) (
  .seq (
    .region [
      ⟨some 4, none, [], .call 8000 4 true (.f 19) []⟩,
      ⟨some 5, none, [], .p (.mv (.t 4))⟩,
      ⟨some 6, some (5, true), [], .p (.mv (.t 3))⟩,
      ⟨some 7, some (5, true), [], .call 8012 4 false (.f 26) [.t 6]⟩,
      ⟨some 8, some (5, true), [], .p (.bin .eql (.t 7) (.c (u64 0#64)))⟩,
      ⟨some 9, none, [], .p (.pick (.t 5) (.t 8) (.c (.bool false)))⟩,
      ⟨some 10, none, [], .p (.mv (.t 9))⟩,
      ⟨some 11, some (10, true), [], .p (.mv (.t 3))⟩,
      ⟨some 12, some (10, true), [], .p (.mv (.t 0))⟩,
      ⟨some 13, some (10, true), [], .call 8036 4 false (.f 30) [.t 11, .t 12]⟩,
      ⟨some 14, some (10, true), [], .p (.bin .eql (.t 13) (.c (.int .i64 0)))⟩,
      ⟨some 15, none, [], .p (.pick (.t 10) (.t 14) (.c (.bool false)))⟩,
      ⟨some 16, none, [], .p (.mv (.t 15))⟩,
      ⟨some 17, some (16, true), [], .p (.mv (.t 3))⟩,
      ⟨some 18, some (16, true), [], .call 8056 4 false (.f 25) [.t 17]⟩,
      ⟨some 19, some (16, true), [], .p (.bin .eql (.t 18) (.c (.str [])))⟩,
      ⟨some 20, none, [], .p (.pick (.t 16) (.t 19) (.c (.bool false)))⟩,
      ⟨some 21, none, [], .p (.mv (.t 20))⟩,
      ⟨some 22, some (21, true), [], .p (.mv (.t 3))⟩,
      ⟨some 23, some (21, true), [], .call 8076 4 true (.f 34) [.t 22]⟩,
      ⟨some 24, some (21, true), [], .p (.bin .eql (.t 23) (.c (.int .i64 0)))⟩,
      ⟨some 25, none, [], .p (.pick (.t 21) (.t 24) (.c (.bool false)))⟩,
      ⟨some 26, none, [], .p (.mv (.t 25))⟩,
      ⟨some 27, some (26, true), [], .p (.mv (.t 3))⟩,
      ⟨some 28, some (26, true), [], .call 8096 4 true (.f 27) [.t 27]⟩,
      ⟨some 29, some (26, true), [], .p (.bin .eql (.t 28) (.c (.int .i64 1)))⟩,
      ⟨some 30, none, [], .p (.pick (.t 26) (.t 29) (.c (.bool false)))⟩,
      ⟨some 2, none, [], .p (.mv (.t 30))⟩]) (
  .ret))),
  31, [Sum.inl 2]⟩

theorem c10 : cFunc Try.prog quiet Try.f10 [] = some s10 := by kernel_rfl

-- 11 calls [14, 35, 36]
abbrev k11_0 : List Nat := [19, 20, 21]
abbrev a11_0 : List Nat := [4]
abbrev e11_0 (v19 v20 v21 : AV) : Env := [.dead, .dead, .dead, .dead, .dead, .dead, .dead, .dead, .dead, .dead, .dead, .dead, .dead, .dead, .dead, .dead, .dead, .dead, .dead, v19, v20, v21, .dead, .dead, .dead, .dead, .dead, .dead, .dead, .dead, .dead, .dead, .dead, .dead, .dead, .dead, .dead, .dead, .dead, .dead, .dead, .dead, .dead, .dead, .dead, .dead, .dead, .dead, .dead, .dead, .dead, .dead]
abbrev x11_0 (v4 : AV) : Env := [.dead, .dead, .dead, .dead, v4, .dead, .dead, .dead, .dead, .dead, .dead, .dead, .dead, .dead, .dead, .dead, .dead, .dead, .dead, .dead, .dead, .dead, .dead, .dead, .dead, .dead, .dead, .dead, .dead, .dead, .dead, .dead, .dead, .dead, .dead, .dead, .dead, .dead, .dead, .dead, .dead, .dead, .dead, .dead, .dead, .dead, .dead, .dead, .dead, .dead, .dead, .dead]
def s11_b0 : SCode :=
  .seq (
    .region [
      ⟨some 22, none, [], .p (.bin .lss (.t 21) (.t 20))⟩]) (
  .seq (
    .cond (.t 22) (
      .skip) (
      .exit 0)) (
  .seq (
    .block 1 (
      .seq (
        .region [
          ⟨some 23, none, [], .p (.iaddrS 1 (.t 19) (.t 21))⟩,
          ⟨some 24, none, [], .r (.load1 (.t 23))⟩,
          ⟨some 6, none, [], .p (.mv (.t 24))⟩]) (
      .seq (
        .region [
          ⟨some 26, none, [], .p (.mv (.t 6))⟩,
          ⟨some 27, none, [], .call 16004 4 true (.f 35) [.t 26]⟩,
          ⟨some 25, none, [], .p (.mv (.t 27))⟩,
          ⟨some 28, none, [], .p (.extract (.t 25) 0)⟩,
          ⟨some 29, none, [], .p (.extract (.t 25) 1)⟩,
          ⟨some 30, none, [], .p (.extract (.t 25) 2)⟩,
          ⟨some 7, none, [], .p (.mv (.t 28))⟩,
          ⟨some 8, none, [], .p (.mv (.t 29))⟩,
          ⟨some 9, none, [], .p (.mv (.t 30))⟩]) (
      .seq (
        .region [
          ⟨some 32, none, [], .p (.mv (.t 6))⟩,
          ⟨some 33, none, [], .call 20004 4 true (.f 36) [.t 32]⟩,
          ⟨some 31, none, [], .p (.mv (.t 33))⟩,
          ⟨some 34, none, [], .p (.extract (.t 31) 0)⟩,
          ⟨some 35, none, [], .p (.extract (.t 31) 1)⟩,
          ⟨some 36, none, [], .p (.extract (.t 31) 2)⟩,
          ⟨some 10, none, [], .p (.mv (.t 34))⟩,
          ⟨some 11, none, [], .p (.mv (.t 35))⟩,
          ⟨some 12, none, [], .p (.mv (.t 36))⟩]) (
      .seq (
        .region [
          ⟨some 37, none, [], .p (.mv (.t 7))⟩,
          ⟨some 38, none, [], .p (.mv (.t 10))⟩,
          ⟨some 39, none, [], .p (.bin .neq (.t 37) (.t 38))⟩,
          ⟨some 40, none, [], .p (.mv (.t 39))⟩,
          ⟨some 41, some (40, false), [], .p (.mv (.t 8))⟩,
          ⟨some 42, some (40, false), [], .p (.mv (.t 11))⟩,
          ⟨some 43, some (40, false), [], .p (.bin .neq (.t 41) (.t 42))⟩,
          ⟨some 44, none, [], .p (.pick (.t 40) (.c (.bool true)) (.t 43))⟩,
          ⟨some 45, none, [], .p (.mv (.t 44))⟩,
          ⟨some 46, some (45, false), [], .p (.mv (.t 9))⟩,
          ⟨some 47, some (45, false), [], .p (.mv (.t 12))⟩,
          ⟨some 48, some (45, false), [], .p (.bin .neq (.t 46) (.t 47))⟩,
          ⟨some 49, none, [], .p (.pick (.t 45) (.c (.bool true)) (.t 48))⟩]) (
      .cond (.t 49) (
        .seq (
          .region [
            ⟨some 4, none, [], .p (.mv (.c (.bool false)))⟩]) (
        .ret)) (
        .skip))))))) (
  .region [
    ⟨some 50, none, [], .p (.bin .add (.t 21) (.c (.int .i64 1)))⟩,
    ⟨some 21, none, [], .p (.mv (.t 50))⟩])))

def s11 : SFunc := ⟨
  .seq (
    .region [
      ⟨some 2, none, [], .a 0 (.box (.t 0))⟩,
      ⟨some 4, none, [], .p (.mv (.c (.bool false)))⟩]) (
  .seq (
    .seq (
      .region [
        ⟨some 13, none, [], .p (.slcA 12 1 (.t 2) none none)⟩,
        ⟨some 14, none, [], .r (.toStr (.t 13))⟩,
        ⟨some 15, none, [], .p (.mv (.t 1))⟩,
        ⟨some 16, none, [], .p (.slcA 12 1 (.t 2) (some (.c (.int .i64 4))) none)⟩,
        ⟨some 17, none, [], .r (.toStr (.t 16))⟩,
        ⟨some 18, none, [], .p (.bin .add (.c (.str [0, 0, 0, 0])) (.t 17))⟩,
        ⟨some 19, none, [], .a 4024 (.buildS 1 3 [.str []] [(0, 1, .t 14), (1, 1, .t 15), (2, 1, .t 18)])⟩,
        ⟨some 20, none, [], .p (.lenV true (.t 19))⟩,
        ⟨some 21, none, [], .p (.mv (.c (.int .i64 0)))⟩]) (
    .block 0 (
      .loop k11_0 a11_0 s11_b0))) (
  .seq (
    .region [
      ⟨some 51, none, [], .call 36000 4 true (.f 14) []⟩,
      ⟨some 4, none, [], .p (.mv (.t 51))⟩]) (
  .ret))),
  52, [Sum.inl 4]⟩

theorem c11 : cFunc Try.prog quiet Try.f11 [[19, 20, 21], [4]] = some s11 := by kernel_rfl

-- 12 calls [13, 14, 16, 17, 35]
abbrev k12_1 : List Nat := [1, 2, 7, 8, 10, 11, 25, 26, 27, 52, 53]
abbrev a12_1 : List Nat := [1, 2, 6, 7, 8, 25, 26, 27]
abbrev e12_1 (v1 v2 v7 v8 v10 v11 v25 v26 v27 v52 v53 : AV) : Env := [.dead, v1, v2, .dead, .dead, .dead, .dead, v7, v8, .dead, v10, v11, .dead, .dead, .dead, .dead, .dead, .dead, .dead, .dead, .dead, .dead, .dead, .dead, .dead, v25, v26, v27, .dead, .dead, .dead, .dead, .dead, .dead, .dead, .dead, .dead, .dead, .dead, .dead, .dead, .dead, .dead, .dead, .dead, .dead, .dead, .dead, .dead, .dead, .dead, .dead, v52, v53, .dead, .dead, .dead, .dead, .dead, .dead, .dead, .dead, .dead, .dead, .dead, .dead, .dead, .dead, .dead, .dead, .dead, .dead, .dead, .dead, .dead, .dead, .dead, .dead, .dead, .dead, .dead, .dead, .dead, .dead, .dead, .dead, .dead, .dead, .dead, .dead, .dead, .dead, .dead, .dead, .dead, .dead, .dead, .dead, .dead, .dead, .dead, .dead, .dead, .dead, .dead]
abbrev x12_1 (v1 v2 v6 v7 v8 v25 v26 v27 : AV) : Env := [.dead, v1, v2, .dead, .dead, .dead, v6, v7, v8, .dead, .dead, .dead, .dead, .dead, .dead, .dead, .dead, .dead, .dead, .dead, .dead, .dead, .dead, .dead, .dead, v25, v26, v27, .dead, .dead, .dead, .dead, .dead, .dead, .dead, .dead, .dead, .dead, .dead, .dead, .dead, .dead, .dead, .dead, .dead, .dead, .dead, .dead, .dead, .dead, .dead, .dead, .dead, .dead, .dead, .dead, .dead, .dead, .dead, .dead, .dead, .dead, .dead, .dead, .dead, .dead, .dead, .dead, .dead, .dead, .dead, .dead, .dead, .dead, .dead, .dead, .dead, .dead, .dead, .dead, .dead, .dead, .dead, .dead, .dead, .dead, .dead, .dead, .dead, .dead, .dead, .dead, .dead, .dead, .dead, .dead, .dead, .dead, .dead, .dead, .dead, .dead, .dead, .dead, .dead]
def s12_b1 : SCode :=
  .seq (
    .region [
      ⟨some 54, none, [], .p (.bin .lss (.t 53) (.t 52))⟩]) (
  .seq (
    .cond (.t 54) (
      .skip) (
      .exit 2)) (
  .seq (
    .block 3 (
      .seq (
        .region [
          ⟨some 55, none, [], .p (.mv (.t 53))⟩,
          ⟨some 13, none, [], .p (.mv (.t 55))⟩]) (
      .seq (
        .region [
          ⟨some 57, none, [], .p (.mv (.t 11))⟩,
          ⟨some 58, none, [], .call 52004 4 false (.f 16) [.t 57]⟩,
          ⟨some 56, none, [], .p (.mv (.t 58))⟩,
          ⟨some 59, none, [], .p (.extract (.t 56) 0)⟩,
          ⟨some 60, none, [], .p (.extract (.t 56) 1)⟩,
          ⟨some 14, none, [], .p (.mv (.t 59))⟩,
          ⟨some 15, none, [], .p (.mv (.t 60))⟩]) (
      .seq (
        .seq (
          .region [
            ⟨some 61, none, [], .p (.mv (.t 15))⟩,
            ⟨some 62, none, [], .p (.bin .eql (.t 61) (.c (.int .i64 25)))⟩,
            ⟨some 63, none, [], .p (.mv (.t 62))⟩,
            ⟨some 64, some (63, true), [], .p (.mv (.t 11))⟩,
            ⟨some 65, some (63, true), [], .call 56016 4 true (.f 17) [.t 64]⟩,
            ⟨some 66, some (63, true), [], .p (.bin .eql (.t 65) (.c (u64 0#64)))⟩,
            ⟨some 67, none, [], .p (.pick (.t 63) (.t 66) (.c (.bool false)))⟩]) (
        .cond (.t 67) (
          .exit 2) (
          .skip))) (
      .seq (
        .region [
          ⟨some 69, none, [], .p (.mv (.t 14))⟩,
          ⟨some 70, none, [], .call 60004 4 true (.f 35) [.t 69]⟩,
          ⟨some 68, none, [], .p (.mv (.t 70))⟩,
          ⟨some 71, none, [], .p (.extract (.t 68) 0)⟩,
          ⟨some 72, none, [], .p (.extract (.t 68) 1)⟩,
          ⟨some 73, none, [], .p (.extract (.t 68) 2)⟩,
          ⟨some 16, none, [], .p (.mv (.t 71))⟩,
          ⟨some 17, none, [], .p (.mv (.t 72))⟩,
          ⟨some 18, none, [], .p (.mv (.t 73))⟩]) (
      .seq (
        .seq (
          .region [
            ⟨some 74, none, [], .p (.mv (.t 15))⟩,
            ⟨some 75, none, [], .p (.bin .neq (.t 74) (.c (.int .i64 0)))⟩,
            ⟨some 76, none, [], .p (.mv (.t 75))⟩,
            ⟨some 77, some (76, false), [], .p (.mv (.t 18))⟩,
            ⟨some 78, some (76, false), [], .p (.bin .neq (.t 77) (.c (.int .i64 0)))⟩,
            ⟨some 79, none, [], .p (.pick (.t 76) (.c (.bool true)) (.t 78))⟩,
            ⟨some 80, none, [], .p (.mv (.t 79))⟩,
            ⟨some 81, some (80, false), [], .p (.mv (.t 7))⟩,
            ⟨some 82, some (80, false), [], .p (.mv (.t 14))⟩,
            ⟨some 83, some (80, false), [], .r (.lookup true (.bool false) (.t 81) (.t 82) false)⟩,
            ⟨some 84, none, [], .p (.pick (.t 80) (.c (.bool true)) (.t 83))⟩,
            ⟨some 85, none, [], .p (.mv (.t 84))⟩,
            ⟨some 86, some (85, false), [], .p (.mv (.t 16))⟩,
            ⟨some 87, some (85, false), [], .p (.mv (.t 10))⟩,
            ⟨some 88, some (85, false), [], .p (.conv .u64 (.t 87))⟩,
            ⟨some 89, some (85, false), [], .p (.bin .neq (.t 86) (.t 88))⟩,
            ⟨some 90, none, [], .p (.pick (.t 85) (.c (.bool true)) (.t 89))⟩,
            ⟨some 91, none, [], .p (.mv (.t 90))⟩,
            ⟨some 92, some (91, false), [], .p (.mv (.t 17))⟩,
            ⟨some 93, some (91, false), [], .p (.mv (.t 1))⟩,
            ⟨some 94, some (91, false), [], .p (.conv .u64 (.t 93))⟩,
            ⟨some 95, some (91, false), [], .p (.mv (.t 13))⟩,
            ⟨some 96, some (91, false), [], .p (.conv .u64 (.t 95))⟩,
            ⟨some 97, some (91, false), [], .p (.bin .add (.t 94) (.t 96))⟩,
            ⟨some 98, some (91, false), [], .p (.bin .neq (.t 92) (.t 97))⟩,
            ⟨some 99, none, [], .p (.pick (.t 91) (.c (.bool true)) (.t 98))⟩]) (
        .cond (.t 99) (
          .seq (
            .region [
              ⟨some 6, none, [], .p (.mv (.c (.bool false)))⟩]) (
          .ret)) (
          .skip))) (
      .region [
        ⟨some 100, none, [], .p (.mv (.t 7))⟩,
        ⟨some 101, none, [], .p (.mv (.t 14))⟩,
        ⟨none, none, [], .w (.mapSet true (.t 100) (.t 101) (.c (.bool true)))⟩]))))))) (
  .region [
    ⟨some 102, none, [], .p (.bin .add (.t 53) (.c (.int .i64 1)))⟩,
    ⟨some 53, none, [], .p (.mv (.t 102))⟩])))

abbrev k12_0 : List Nat := [1, 2, 7, 8, 25, 26, 27]
abbrev a12_0 : List Nat := [6]
abbrev e12_0 (v1 v2 v7 v8 v25 v26 v27 : AV) : Env := [.dead, v1, v2, .dead, .dead, .dead, .dead, v7, v8, .dead, .dead, .dead, .dead, .dead, .dead, .dead, .dead, .dead, .dead, .dead, .dead, .dead, .dead, .dead, .dead, v25, v26, v27, .dead, .dead, .dead, .dead, .dead, .dead, .dead, .dead, .dead, .dead, .dead, .dead, .dead, .dead, .dead, .dead, .dead, .dead, .dead, .dead, .dead, .dead, .dead, .dead, .dead, .dead, .dead, .dead, .dead, .dead, .dead, .dead, .dead, .dead, .dead, .dead, .dead, .dead, .dead, .dead, .dead, .dead, .dead, .dead, .dead, .dead, .dead, .dead, .dead, .dead, .dead, .dead, .dead, .dead, .dead, .dead, .dead, .dead, .dead, .dead, .dead, .dead, .dead, .dead, .dead, .dead, .dead, .dead, .dead, .dead, .dead, .dead, .dead, .dead, .dead, .dead, .dead]
abbrev x12_0 (v6 : AV) : Env := [.dead, .dead, .dead, .dead, .dead, .dead, v6, .dead, .dead, .dead, .dead, .dead, .dead, .dead, .dead, .dead, .dead, .dead, .dead, .dead, .dead, .dead, .dead, .dead, .dead, .dead, .dead, .dead, .dead, .dead, .dead, .dead, .dead, .dead, .dead, .dead, .dead, .dead, .dead, .dead, .dead, .dead, .dead, .dead, .dead, .dead, .dead, .dead, .dead, .dead, .dead, .dead, .dead, .dead, .dead, .dead, .dead, .dead, .dead, .dead, .dead, .dead, .dead, .dead, .dead, .dead, .dead, .dead, .dead, .dead, .dead, .dead, .dead, .dead, .dead, .dead, .dead, .dead, .dead, .dead, .dead, .dead, .dead, .dead, .dead, .dead, .dead, .dead, .dead, .dead, .dead, .dead, .dead, .dead, .dead, .dead, .dead, .dead, .dead, .dead, .dead, .dead, .dead, .dead, .dead]
def s12_b0 : SCode :=
  .seq (
    .region [
      ⟨some 28, none, [], .p (.bin .lss (.t 27) (.t 26))⟩]) (
  .seq (
    .cond (.t 28) (
      .skip) (
      .exit 0)) (
  .seq (
    .block 1 (
      .seq (
        .region [
          ⟨some 29, none, [], .p (.iaddrS 1 (.t 25) (.t 27))⟩,
          ⟨some 30, none, [], .r (.load1 (.t 29))⟩,
          ⟨some 10, none, [], .p (.mv (.t 30))⟩]) (
      .seq (
        .seq (
          .region [
            ⟨some 31, none, [], .p (.mv (.t 10))⟩,
            ⟨some 32, none, [], .p (.bin .eql (.t 31) (.c (u32 0#32)))⟩,
            ⟨some 33, none, [], .p (.mv (.t 32))⟩,
            ⟨some 34, some (33, false), [], .p (.mv (.t 8))⟩,
            ⟨some 35, some (33, false), [], .p (.mv (.t 10))⟩,
            ⟨some 36, some (33, false), [], .r (.lookup false (.bool false) (.t 34) (.t 35) false)⟩,
            ⟨some 37, none, [], .p (.pick (.t 33) (.c (.bool true)) (.t 36))⟩]) (
        .cond (.t 37) (
          .exit 1) (
          .skip))) (
      .seq (
        .region [
          ⟨some 38, none, [], .p (.mv (.t 8))⟩,
          ⟨some 39, none, [], .p (.mv (.t 10))⟩,
          ⟨none, none, [], .w (.mapSet false (.t 38) (.t 39) (.c (.bool true)))⟩]) (
      .seq (
        .region [
          ⟨some 41, none, [], .p (.mv (.t 10))⟩,
          ⟨some 42, none, [], .p (.conv .u64 (.t 41))⟩,
          ⟨some 43, none, [], .p (.mv (.t 1))⟩,
          ⟨some 44, none, [], .p (.conv .u64 (.t 43))⟩,
          ⟨some 45, none, [], .call 28016 4 true (.f 13) [.t 42, .t 44]⟩,
          ⟨some 40, none, [], .p (.mv (.t 45))⟩,
          ⟨some 46, none, [], .p (.extract (.t 40) 0)⟩,
          ⟨some 47, none, [], .p (.extract (.t 40) 1)⟩,
          ⟨some 11, none, [], .p (.mv (.t 46))⟩,
          ⟨some 12, none, [], .p (.mv (.t 47))⟩]) (
      .seq (
        .seq (
          .region [
            ⟨some 48, none, [], .p (.mv (.t 12))⟩,
            ⟨some 49, none, [], .p (.bin .neq (.t 48) (.c (.int .i64 0)))⟩]) (
        .cond (.t 49) (
          .seq (
            .region [
              ⟨some 6, none, [], .p (.mv (.c (.bool false)))⟩]) (
          .ret)) (
          .skip))) (
      .seq (
        .region [
          ⟨some 50, none, [], .p (.mv (.t 2))⟩,
          ⟨some 51, none, [], .p (.minmax true (.c (.int .i64 0)) (.t 50))⟩,
          ⟨some 52, none, [], .p (.bin .rem (.t 51) (.c (.int .i64 30)))⟩,
          ⟨some 53, none, [], .p (.mv (.c (.int .i64 0)))⟩]) (
      .block 2 (
        .loop k12_1 a12_1 s12_b1))))))))) (
  .region [
    ⟨some 103, none, [], .p (.bin .add (.t 27) (.c (.int .i64 1)))⟩,
    ⟨some 27, none, [], .p (.mv (.t 103))⟩])))

def s12 : SFunc := ⟨
  .seq (
    .region [
      ⟨some 6, none, [], .p (.mv (.c (.bool false)))⟩]) (
  .seq (
    .region [
      ⟨some 19, none, [], .a 4000 .mkMap⟩,
      ⟨some 20, none, [], .a 4004 .mkMap⟩,
      ⟨some 7, none, [], .p (.mv (.t 19))⟩,
      ⟨some 8, none, [], .p (.mv (.t 20))⟩]) (
  .seq (
    .seq (
      .region [
        ⟨some 21, none, [], .p (.mv (.t 0))⟩,
        ⟨some 22, none, [], .p (.mv (.t 0))⟩,
        ⟨some 23, none, [], .p (.lenV true (.t 22))⟩,
        ⟨some 24, none, [], .p (.minmax false (.t 23) (.c (.int .i64 10)))⟩,
        ⟨some 25, none, [], .p (.slcS 1 (.t 21) none (some (.t 24)) none)⟩,
        ⟨some 26, none, [], .p (.lenV true (.t 25))⟩,
        ⟨some 27, none, [], .p (.mv (.c (.int .i64 0)))⟩]) (
    .block 0 (
      .loop k12_0 a12_0 s12_b0))) (
  .seq (
    .region [
      ⟨some 104, none, [], .call 84000 4 true (.f 14) []⟩,
      ⟨some 6, none, [], .p (.mv (.t 104))⟩]) (
  .ret)))),
  105, [Sum.inl 6]⟩

theorem c12 : cFunc Try.prog quiet Try.f12 [[1, 2, 7, 8, 25, 26, 27], [6], [1, 2, 7, 8, 10, 11, 25, 26, 27, 52, 53], [1, 2, 6, 7, 8, 25, 26, 27]] = some s12 := by kernel_rfl

-- 13 calls [37]
def s13 : SFunc := ⟨
  .seq (
    .region [
      ⟨some 4, none, [], .p (.mv (.c (.ptr none)))⟩,
      ⟨some 5, none, [], .p (.mv (.c (.int .i64 0)))⟩]) (
  .seq (
    .seq (
      .region [
        ⟨some 6, none, [], .p (.mv (.t 0))⟩,
        ⟨some 7, none, [], .call 4004 4 true (.f 37) [.t 6]⟩,
        ⟨some 8, none, [], .p (.un .not (.t 7))⟩,
        ⟨some 9, none, [], .p (.mv (.t 8))⟩,
        ⟨some 10, some (9, false), [], .p (.mv (.t 1))⟩,
        ⟨some 11, some (9, false), [], .p (.bin .gtr (.t 10) (.c (u64 4294967295#64)))⟩,
        ⟨some 12, none, [], .p (.pick (.t 9) (.c (.bool true)) (.t 11))⟩]) (
    .cond (.t 12) (
      .seq (
        .region [
          ⟨some 4, none, [], .p (.mv (.c (.ptr none)))⟩,
          ⟨some 5, none, [], .p (.mv (.c (.int .i64 2)))⟩]) (
      .ret)) (
      .skip))) (
  .seq (
    .region [
      ⟨some 13, none, [], .p (.mv (.t 0))⟩,
      ⟨some 14, none, [], .p (.mv (.t 1))⟩,
      ⟨some 15, none, [], .p (.build [u64 0#64, u64 0#64] [(0, 1, .t 13), (1, 1, .t 14)])⟩,
      ⟨some 16, none, [], .a 12012 (.box (.t 15))⟩,
      ⟨some 4, none, [], .p (.mv (.t 16))⟩,
      ⟨some 5, none, [], .p (.mv (.c (.int .i64 0)))⟩]) (
  .ret))),
  17, [Sum.inl 4, Sum.inl 5]⟩

theorem c13 : cFunc Try.prog quiet Try.f13 [] = some s13 := by kernel_rfl

-- 14 calls [13, 16, 17]
def s14 : SFunc := ⟨
  .seq (
    .region [
      ⟨some 0, none, [], .p (.mv (.c (.bool false)))⟩]) (
  .seq (
    .region [
      ⟨some 6, none, [], .call 4000 4 true (.f 13) [.c (u64 1#64), .c (u64 0#64)]⟩,
      ⟨some 5, none, [], .p (.mv (.t 6))⟩,
      ⟨some 7, none, [], .p (.extract (.t 5) 0)⟩,
      ⟨some 8, none, [], .p (.extract (.t 5) 1)⟩,
      ⟨some 1, none, [], .p (.mv (.t 7))⟩,
      ⟨some 2, none, [], .p (.mv (.t 8))⟩]) (
  .seq (
    .region [
      ⟨some 10, none, [], .p (.mv (.t 1))⟩,
      ⟨some 11, none, [], .call 8004 4 false (.f 16) [.t 10]⟩,
      ⟨some 9, none, [], .p (.mv (.t 11))⟩,
      ⟨some 12, none, [], .p (.extract (.t 9) 0)⟩,
      ⟨some 13, none, [], .p (.extract (.t 9) 1)⟩,
      ⟨some 3, none, [], .p (.mv (.t 12))⟩,
      ⟨some 4, none, [], .p (.mv (.t 13))⟩]) (
  .seq (
    .region [
      ⟨some 14, none, [], .p (.mv (.t 2))⟩,
      ⟨some 15, none, [], .p (.bin .eql (.t 14) (.c (.int .i64 0)))⟩,
      ⟨some 16, none, [], .p (.mv (.t 15))⟩,
      ⟨some 17, some (16, true), [], .p (.mv (.t 4))⟩,
      ⟨some 18, some (16, true), [], .p (.bin .eql (.t 17) (.c (.int .i64 0)))⟩,
      ⟨some 19, none, [], .p (.pick (.t 16) (.t 18) (.c (.bool false)))⟩,
      ⟨some 20, none, [], .p (.mv (.t 19))⟩,
      ⟨some 21, some (20, true), [], .p (.mv (.t 3))⟩,
      ⟨some 22, some (20, true), [], .p (.bin .eql (.t 21) (.c (.str [0, 0, 0, 0, 0, 0, 0, 1, 0, 0, 0, 0])))⟩,
      ⟨some 23, none, [], .p (.pick (.t 20) (.t 22) (.c (.bool false)))⟩,
      ⟨some 24, none, [], .p (.mv (.t 23))⟩,
      ⟨some 25, some (24, true), [], .p (.mv (.t 1))⟩,
      ⟨some 26, some (24, true), [], .call 12048 4 true (.f 17) [.t 25]⟩,
      ⟨some 27, some (24, true), [], .p (.bin .eql (.t 26) (.c (u64 4294967295#64)))⟩,
      ⟨some 28, none, [], .p (.pick (.t 24) (.t 27) (.c (.bool false)))⟩,
      ⟨some 0, none, [], .p (.mv (.t 28))⟩]) (
  .ret)))),
  29, [Sum.inl 0]⟩

theorem c14 : cFunc Try.prog quiet Try.f14 [] = some s14 := by kernel_rfl

-- 15 calls []
def s15 : SFunc := ⟨
  .seq (
    .region [
      ⟨some 4, none, [], .p (.mv (.c (.bool false)))⟩]) (
  .seq (
    .region [
      ⟨some 5, none, [], .p (.mv (.t 0))⟩,
      ⟨some 6, none, [], .p (.bin .geq (.t 5) (.c (u64 1#64)))⟩,
      ⟨some 7, none, [], .p (.mv (.t 6))⟩,
      ⟨some 8, some (7, true), [], .p (.mv (.t 0))⟩,
      ⟨some 9, some (7, true), [], .p (.bin .leq (.t 8) (.c (u64 4294967295#64)))⟩,
      ⟨some 10, none, [], .p (.pick (.t 7) (.t 9) (.c (.bool false)))⟩,
      ⟨some 11, none, [], .p (.mv (.t 10))⟩,
      ⟨some 12, some (11, true), [], .p (.mv (.t 1))⟩,
      ⟨some 13, some (11, true), [], .p (.bin .leq (.t 12) (.c (u64 4294967295#64)))⟩,
      ⟨some 14, none, [], .p (.pick (.t 11) (.t 13) (.c (.bool false)))⟩,
      ⟨some 4, none, [], .p (.mv (.t 14))⟩]) (
  .ret)),
  15, [Sum.inl 4]⟩

theorem c15 : cFunc Try.prog quiet Try.f15 [] = some s15 := by kernel_rfl

-- 16 calls [20, 38]
def s16 : SFunc := ⟨
  .seq (
    .region [
      ⟨some 2, none, [], .p (.mv (.c (.str [])))⟩,
      ⟨some 3, none, [], .p (.mv (.c (.int .i64 0)))⟩]) (
  .seq (
    .block 0 (
      .seq (
        .region [
          ⟨some 6, none, [], .p (.mv (.t 0))⟩,
          ⟨some 7, none, [], .p (.eqn .ptr false (.t 6) (.c (.ptr none)))⟩,
          ⟨some 5, none, [], .p (.mv (.t 7))⟩]) (
      .cond (.t 5) (
        .seq (
          .region [
            ⟨some 2, none, [], .p (.mv (.c (.str [])))⟩,
            ⟨some 3, none, [], .p (.mv (.c (.int .i64 1)))⟩]) (
        .ret)) (
        .seq (
          .region [
            ⟨some 9, none, [], .p (.mv (.t 0))⟩,
            ⟨some 10, none, [], .p (.nilChk (.t 9))⟩,
            ⟨some 11, none, [], .p (.faddr 1 (.t 10))⟩,
            ⟨some 12, none, [], .r (.load1 (.t 11))⟩,
            ⟨some 13, none, [], .p (.bin .gtr (.t 12) (.c (u64 4294967295#64)))⟩,
            ⟨some 8, none, [], .p (.mv (.t 13))⟩]) (
        .cond (.t 8) (
          .seq (
            .region [
              ⟨some 2, none, [], .p (.mv (.c (.str [])))⟩,
              ⟨some 3, none, [], .p (.mv (.c (.int .i64 25)))⟩]) (
          .ret)) (
          .skip)))))) (
  .seq (
    .region [
      ⟨some 14, none, [], .p (.mv (.t 0))⟩,
      ⟨some 15, none, [], .p (.nilChk (.t 14))⟩,
      ⟨some 16, none, [], .p (.faddr 0 (.t 15))⟩,
      ⟨some 17, none, [20040], .r (.load1 (.t 16))⟩,
      ⟨some 18, none, [20040], .call 20016 4 true (.f 20) [.t 17]⟩,
      ⟨some 19, none, [], .p (.mv (.t 0))⟩,
      ⟨some 20, none, [], .p (.nilChk (.t 19))⟩,
      ⟨some 21, none, [], .p (.faddr 1 (.t 20))⟩,
      ⟨some 22, none, [20016, 20017, 20018, 20019], .r (.load1 (.t 21))⟩,
      ⟨some 23, none, [], .p (.conv .u32 (.t 22))⟩,
      ⟨some 24, none, [20016, 20017, 20018, 20019], .a 20040 (.buildS 1 1 [u32 0#32] [(0, 1, .t 23)])⟩,
      ⟨some 25, none, [], .call 20044 4 true (.f 38) [.t 24]⟩,
      ⟨some 26, none, [], .p (.bin .add (.t 18) (.t 25))⟩,
      ⟨some 4, none, [], .p (.mv (.t 26))⟩]) (
  .seq (
    .region [
      ⟨some 27, none, [], .p (.mv (.t 0))⟩,
      ⟨some 28, none, [], .p (.nilChk (.t 27))⟩,
      ⟨some 29, none, [], .p (.faddr 1 (.t 28))⟩,
      ⟨some 30, none, [], .r (.load1 (.t 29))⟩,
      ⟨some 31, none, [], .p (.bin .add (.t 30) (.c (u64 1#64)))⟩,
      ⟨some 32, none, [], .p (.nilChk (.t 27))⟩,
      ⟨some 33, none, [], .p (.faddr 1 (.t 32))⟩,
      ⟨none, none, [], .w (.store1 (.t 33) (.t 31))⟩]) (
  .seq (
    .region [
      ⟨some 34, none, [], .p (.mv (.t 4))⟩,
      ⟨some 2, none, [], .p (.mv (.t 34))⟩,
      ⟨some 3, none, [], .p (.mv (.c (.int .i64 0)))⟩]) (
  .ret))))),
  35, [Sum.inl 2, Sum.inl 3]⟩

theorem c16 : cFunc Try.prog quiet Try.f16 [] = some s16 := by kernel_rfl

-- 17 calls []
def s17 : SFunc := ⟨
  .seq (
    .region [
      ⟨some 2, none, [], .p (.mv (.c (u64 0#64)))⟩]) (
  .seq (
    .seq (
      .region [
        ⟨some 3, none, [], .p (.mv (.t 0))⟩,
        ⟨some 4, none, [], .p (.eqn .ptr false (.t 3) (.c (.ptr none)))⟩]) (
    .cond (.t 4) (
      .seq (
        .region [
          ⟨some 2, none, [], .p (.mv (.c (u64 0#64)))⟩]) (
      .ret)) (
      .skip))) (
  .seq (
    .region [
      ⟨some 5, none, [], .p (.mv (.t 0))⟩,
      ⟨some 6, none, [], .p (.nilChk (.t 5))⟩,
      ⟨some 7, none, [], .p (.faddr 1 (.t 6))⟩,
      ⟨some 8, none, [], .r (.load1 (.t 7))⟩,
      ⟨some 9, none, [], .p (.bin .sub (.c (u64 4294967296#64)) (.t 8))⟩,
      ⟨some 2, none, [], .p (.mv (.t 9))⟩]) (
  .ret))),
  10, [Sum.inl 2]⟩

theorem c17 : cFunc Try.prog quiet Try.f17 [] = some s17 := by kernel_rfl

-- 18 calls [39]
def s18 : SFunc := ⟨
  .seq (
    .region [
      ⟨some 2, none, [], .p (.mv (.c (.str [])))⟩,
      ⟨some 3, none, [], .p (.mv (.c (.int .i64 0)))⟩]) (
  .seq (
    .seq (
      .region [
        ⟨some 5, none, [], .p (.mv (.t 0))⟩,
        ⟨some 6, none, [], .p (.nilChk (.t 5))⟩,
        ⟨some 7, none, [], .p (.faddr 1 (.t 6))⟩,
        ⟨some 8, none, [], .r (.load1 (.t 7))⟩,
        ⟨some 9, none, [], .p (.bin .gtr (.t 8) (.c (u64 4294967295#64)))⟩]) (
    .cond (.t 9) (
      .seq (
        .region [
          ⟨some 2, none, [], .p (.mv (.c (.str [])))⟩,
          ⟨some 3, none, [], .p (.mv (.c (.int .i64 25)))⟩]) (
      .ret)) (
      .skip))) (
  .seq (
    .region [
      ⟨some 10, none, [], .p (.mv (.t 0))⟩,
      ⟨some 11, none, [], .p (.nilChk (.t 10))⟩,
      ⟨some 12, none, [], .p (.faddr 0 (.t 11))⟩,
      ⟨some 13, none, [], .r (.load1 (.t 12))⟩,
      ⟨some 14, none, [], .p (.mv (.t 0))⟩,
      ⟨some 15, none, [], .p (.nilChk (.t 14))⟩,
      ⟨some 16, none, [], .p (.faddr 1 (.t 15))⟩,
      ⟨some 17, none, [], .r (.load1 (.t 16))⟩,
      ⟨some 18, none, [], .call 12032 4 true (.f 39) [.t 13, .t 17]⟩,
      ⟨some 4, none, [], .p (.mv (.t 18))⟩]) (
  .seq (
    .region [
      ⟨some 19, none, [], .p (.mv (.t 0))⟩,
      ⟨some 20, none, [], .p (.mv (.t 0))⟩,
      ⟨some 21, none, [], .p (.nilChk (.t 20))⟩,
      ⟨some 22, none, [], .p (.faddr 1 (.t 21))⟩,
      ⟨some 23, none, [], .r (.load1 (.t 22))⟩,
      ⟨some 24, none, [], .p (.bin .add (.t 23) (.c (u64 1#64)))⟩,
      ⟨some 25, none, [], .p (.nilChk (.t 19))⟩,
      ⟨some 26, none, [], .p (.faddr 1 (.t 25))⟩,
      ⟨none, none, [], .w (.store1 (.t 26) (.t 24))⟩]) (
  .seq (
    .region [
      ⟨some 27, none, [], .p (.mv (.t 4))⟩,
      ⟨some 2, none, [], .p (.mv (.t 27))⟩,
      ⟨some 3, none, [], .p (.mv (.c (.int .i64 0)))⟩]) (
  .ret))))),
  28, [Sum.inl 2, Sum.inl 3]⟩

theorem c18 : cFunc Try.prog quiet Try.f18 [] = some s18 := by kernel_rfl

-- 19 calls [22, 24, 25, 27, 34]
def s19 : SFunc := ⟨
  .seq (
    .region [
      ⟨some 0, none, [], .p (.mv (.c (.bool false)))⟩]) (
  .seq (
    .region [
      ⟨some 4, none, [], .call 4000 4 true (.f 22) [.c (.str [97, 98])]⟩,
      ⟨some 1, none, [], .p (.mv (.t 4))⟩]) (
  .seq (
    .region [
      ⟨some 5, none, [], .p (.mv (.t 1))⟩,
      ⟨some 6, none, [], .call 8004 4 true (.f 24) [.t 5]⟩,
      ⟨some 2, none, [], .p (.mv (.t 6))⟩]) (
  .seq (
    .region [
      ⟨some 7, none, [], .p (.mv (.t 2))⟩,
      ⟨some 8, none, [], .call 12004 4 false (.f 25) [.t 7]⟩,
      ⟨some 3, none, [], .p (.mv (.t 8))⟩]) (
  .seq (
    .region [
      ⟨some 9, none, [], .p (.mv (.t 1))⟩,
      ⟨some 10, none, [], .p (.bin .eql (.t 9) (.c (.str [0, 0, 0, 0, 0, 0, 0, 2, 97, 98])))⟩,
      ⟨some 11, none, [], .p (.mv (.t 10))⟩,
      ⟨some 12, some (11, true), [], .p (.mv (.t 3))⟩,
      ⟨some 13, some (11, true), [], .p (.bin .eql (.t 12) (.c (.str [97, 98])))⟩,
      ⟨some 14, none, [], .p (.pick (.t 11) (.t 13) (.c (.bool false)))⟩,
      ⟨some 15, none, [], .p (.mv (.t 14))⟩,
      ⟨some 16, some (15, true), [], .p (.mv (.t 2))⟩,
      ⟨some 17, some (15, true), [], .call 16032 4 true (.f 34) [.t 16]⟩,
      ⟨some 18, some (15, true), [], .p (.bin .eql (.t 17) (.c (.int .i64 0)))⟩,
      ⟨some 19, none, [], .p (.pick (.t 15) (.t 18) (.c (.bool false)))⟩,
      ⟨some 20, none, [], .p (.mv (.t 19))⟩,
      ⟨some 21, some (20, true), [], .p (.mv (.t 2))⟩,
      ⟨some 22, some (20, true), [], .call 16052 4 true (.f 27) [.t 21]⟩,
      ⟨some 23, some (20, true), [], .p (.bin .eql (.t 22) (.c (.int .i64 0)))⟩,
      ⟨some 24, none, [], .p (.pick (.t 20) (.t 23) (.c (.bool false)))⟩,
      ⟨some 0, none, [], .p (.mv (.t 24))⟩]) (
  .ret))))),
  25, [Sum.inl 0]⟩

theorem c19 : cFunc Try.prog quiet Try.f19 [] = some s19 := by kernel_rfl

-- 20 calls [38]
def s20 : SFunc := ⟨
  .seq (
    .region [
      ⟨some 2, none, [], .p (.mv (.c (.str [])))⟩]) (
  .seq (
    .region [
      ⟨some 3, none, [], .p (.mv (.t 0))⟩,
      ⟨some 4, none, [], .p (.bin .shr (.t 3) (.c (u64 32#64)))⟩,
      ⟨some 5, none, [], .p (.conv .u32 (.t 4))⟩,
      ⟨some 6, none, [], .p (.mv (.t 0))⟩,
      ⟨some 7, none, [], .p (.conv .u32 (.t 6))⟩,
      ⟨some 8, none, [], .a 4020 (.buildS 1 2 [u32 0#32] [(0, 1, .t 5), (1, 1, .t 7)])⟩,
      ⟨some 9, none, [], .call 4024 4 true (.f 38) [.t 8]⟩,
      ⟨some 2, none, [], .p (.mv (.t 9))⟩]) (
  .ret)),
  10, [Sum.inl 2]⟩

theorem c20 : cFunc Try.prog quiet Try.f20 [] = some s20 := by kernel_rfl

-- 21 calls []
abbrev k21_0 : List Nat := [0, 3, 4]
abbrev a21_0 : List Nat := [3]
abbrev e21_0 (v0 v3 v4 : AV) : Env := [v0, .dead, .dead, v3, v4, .dead, .dead, .dead, .dead, .dead, .dead, .dead, .dead, .dead, .dead, .dead, .dead, .dead]
abbrev x21_0 (v3 : AV) : Env := [.dead, .dead, .dead, v3, .dead, .dead, .dead, .dead, .dead, .dead, .dead, .dead, .dead, .dead, .dead, .dead, .dead, .dead]
def s21_b0 : SCode :=
  .seq (
    .seq (
      .region [
        ⟨some 5, none, [], .p (.mv (.t 4))⟩,
        ⟨some 6, none, [], .p (.bin .geq (.t 5) (.c (.int .i64 0)))⟩]) (
    .cond (.t 6) (
      .skip) (
      .exit 0))) (
  .seq (
    .block 1 (
      .seq (
        .region [
          ⟨some 9, none, [], .p (.mv (.t 4))⟩,
          ⟨some 10, none, [], .p (.mv (.t 0))⟩,
          ⟨some 11, none, [], .p (.bin .rem (.t 10) (.c (u64 256#64)))⟩,
          ⟨some 12, none, [], .p (.conv .u8 (.t 11))⟩,
          ⟨some 13, none, [], .p (.iaddrA 8 1 (.t 3) (.t 9))⟩,
          ⟨none, none, [], .w (.store1 (.t 13) (.t 12))⟩]) (
      .region [
        ⟨some 14, none, [], .p (.mv (.t 0))⟩,
        ⟨some 15, none, [], .p (.bin .quo (.t 14) (.c (u64 256#64)))⟩,
        ⟨some 0, none, [], .p (.mv (.t 15))⟩]))) (
  .region [
    ⟨some 7, none, [], .p (.mv (.t 4))⟩,
    ⟨some 8, none, [], .p (.bin .sub (.t 7) (.c (.int .i64 1)))⟩,
    ⟨some 4, none, [], .p (.mv (.t 8))⟩]))

def s21 : SFunc := ⟨
  .seq (
    .region [
      ⟨some 2, none, [], .p (.mv (.c (.str [])))⟩]) (
  .seq (
    .region [
      ⟨some 3, none, [], .a 4000 (.alloc [byteAV 0, byteAV 0, byteAV 0, byteAV 0, byteAV 0, byteAV 0, byteAV 0, byteAV 0])⟩]) (
  .seq (
    .seq (
      .region [
        ⟨some 4, none, [], .p (.mv (.c (.int .i64 7)))⟩]) (
    .block 0 (
      .loop k21_0 a21_0 s21_b0))) (
  .seq (
    .region [
      ⟨some 16, none, [], .p (.slcA 8 1 (.t 3) none none)⟩,
      ⟨some 17, none, [], .r (.toStr (.t 16))⟩,
      ⟨some 2, none, [], .p (.mv (.t 17))⟩]) (
  .ret)))),
  18, [Sum.inl 2]⟩

theorem c21 : cFunc Try.prog quiet Try.f21 [[0, 3, 4], [3]] = some s21 := by kernel_rfl

-- 22 calls [20]
def s22 : SFunc := ⟨
  .seq (
    .region [
      ⟨some 2, none, [], .p (.mv (.c (.str [])))⟩]) (
  .seq (
    .region [
      ⟨some 3, none, [], .p (.mv (.t 0))⟩,
      ⟨some 4, none, [], .p (.lenV false (.t 3))⟩,
      ⟨some 5, none, [], .p (.conv .u64 (.t 4))⟩,
      ⟨some 6, none, [], .call 4012 4 true (.f 20) [.t 5]⟩,
      ⟨some 7, none, [], .p (.mv (.t 0))⟩,
      ⟨some 8, none, [], .p (.bin .add (.t 6) (.t 7))⟩,
      ⟨some 2, none, [], .p (.mv (.t 8))⟩]) (
  .ret)),
  9, [Sum.inl 2]⟩

theorem c22 : cFunc Try.prog quiet Try.f22 [] = some s22 := by kernel_rfl

-- 23 calls [21]
def s23 : SFunc := ⟨
  .seq (
    .region [
      ⟨some 2, none, [], .p (.mv (.c (.str [])))⟩]) (
  .seq (
    .region [
      ⟨some 4, none, [], .p (.mv (.t 0))⟩,
      ⟨some 5, none, [], .p (.lenV false (.t 4))⟩,
      ⟨some 6, none, [], .p (.conv .u64 (.t 5))⟩,
      ⟨some 7, none, [], .call 4012 4 true (.f 21) [.t 6]⟩,
      ⟨some 3, none, [], .p (.mv (.t 7))⟩]) (
  .seq (
    .region [
      ⟨some 8, none, [], .p (.mv (.t 3))⟩,
      ⟨some 9, none, [], .p (.mv (.t 0))⟩,
      ⟨some 10, none, [], .p (.bin .add (.t 8) (.t 9))⟩,
      ⟨some 2, none, [], .p (.mv (.t 10))⟩]) (
  .ret))),
  11, [Sum.inl 2]⟩

theorem c23 : cFunc Try.prog quiet Try.f23 [] = some s23 := by kernel_rfl

-- 24 calls []
def s24 : SFunc := ⟨
  .seq (
    .region [
      ⟨some 2, none, [], .p (.mv (.c (.ptr none)))⟩]) (
  .seq (
    .region [
      ⟨some 3, none, [], .p (.mv (.t 0))⟩,
      ⟨some 4, none, [], .p (.build [.str [], .int .i64 0] [(0, 1, .t 3)])⟩,
      ⟨some 5, none, [], .a 4008 (.box (.t 4))⟩,
      ⟨some 2, none, [], .p (.mv (.t 5))⟩]) (
  .ret)),
  6, [Sum.inl 2]⟩

theorem c24 : cFunc Try.prog quiet Try.f24 [] = some s24 := by kernel_rfl

-- 25 calls [26, 40]
def s25 : SFunc := ⟨
  .seq (
    .region [
      ⟨some 2, none, [], .p (.mv (.c (.str [])))⟩]) (
  .seq (
    .region [
      ⟨some 3, none, [], .p (.mv (.t 0))⟩,
      ⟨some 4, none, [], .p (.mv (.t 0))⟩,
      ⟨some 5, none, [], .call 4008 4 false (.f 26) [.t 4]⟩,
      ⟨some 6, none, [], .call 4012 4 false (.f 40) [.t 3, .t 5]⟩,
      ⟨some 2, none, [], .p (.mv (.t 6))⟩]) (
  .ret)),
  7, [Sum.inl 2]⟩

theorem c25 : cFunc Try.prog quiet Try.f25 [] = some s25 := by kernel_rfl

-- 26 calls [40, 41]
def s26 : SFunc := ⟨
  .seq (
    .region [
      ⟨some 2, none, [], .p (.mv (.c (u64 0#64)))⟩]) (
  .seq (
    .region [
      ⟨some 7, none, [], .p (.mv (.t 0))⟩,
      ⟨some 8, none, [], .call 4004 4 false (.f 40) [.t 7, .c (u64 8#64)]⟩,
      ⟨some 9, none, [], .call 4008 4 true (.f 41) [.t 8]⟩,
      ⟨some 6, none, [], .p (.mv (.t 9))⟩,
      ⟨some 10, none, [], .p (.extract (.t 6) 0)⟩,
      ⟨some 11, none, [], .p (.extract (.t 6) 1)⟩,
      ⟨some 3, none, [], .p (.mv (.t 10))⟩,
      ⟨some 4, none, [], .p (.mv (.t 11))⟩]) (
  .seq (
    .seq (
      .region [
        ⟨some 12, none, [], .p (.mv (.t 3))⟩,
        ⟨some 13, none, [], .p (.lenV true (.t 12))⟩,
        ⟨some 14, none, [], .p (.bin .lss (.t 13) (.c (.int .i64 2)))⟩]) (
    .cond (.t 14) (
      .seq (
        .region [
          ⟨some 2, none, [], .p (.mv (.c (u64 0#64)))⟩]) (
      .ret)) (
      .skip))) (
  .seq (
    .region [
      ⟨some 15, none, [], .p (.mv (.t 3))⟩,
      ⟨some 16, none, [], .p (.arrPtr 2 (.t 15))⟩,
      ⟨some 17, none, [], .r (.loadN 2 (.t 16))⟩,
      ⟨some 5, none, [], .a 16012 (.alloc [u32 0#32, u32 0#32])⟩,
      ⟨none, none, [], .w (.storeN 2 (.t 5) (.t 17))⟩]) (
  .seq (
    .region [
      ⟨some 18, none, [], .p (.iaddrA 2 1 (.t 5) (.c (.int .i64 0)))⟩,
      ⟨some 19, none, [], .r (.load1 (.t 18))⟩,
      ⟨some 20, none, [], .p (.conv .u64 (.t 19))⟩,
      ⟨some 21, none, [], .p (.bin .shl (.t 20) (.c (u64 32#64)))⟩,
      ⟨some 22, none, [], .p (.iaddrA 2 1 (.t 5) (.c (.int .i64 1)))⟩,
      ⟨some 23, none, [], .r (.load1 (.t 22))⟩,
      ⟨some 24, none, [], .p (.conv .u64 (.t 23))⟩,
      ⟨some 25, none, [], .p (.bin .or (.t 21) (.t 24))⟩,
      ⟨some 2, none, [], .p (.mv (.t 25))⟩]) (
  .ret))))),
  26, [Sum.inl 2]⟩

theorem c26 : cFunc Try.prog quiet Try.f26 [] = some s26 := by kernel_rfl

-- 27 calls []
def s27 : SFunc := ⟨
  .seq (
    .region [
      ⟨some 2, none, [], .p (.mv (.c (.int .i64 0)))⟩]) (
  .seq (
    .block 0 (
      .seq (
        .region [
          ⟨some 4, none, [], .p (.mv (.t 0))⟩,
          ⟨some 5, none, [], .p (.eqn .ptr false (.t 4) (.c (.ptr none)))⟩,
          ⟨some 3, none, [], .p (.mv (.t 5))⟩]) (
      .cond (.t 3) (
        .seq (
          .region [
            ⟨some 2, none, [], .p (.mv (.c (.int .i64 1)))⟩]) (
        .ret)) (
        .seq (
          .region [
            ⟨some 7, none, [], .p (.mv (.t 0))⟩,
            ⟨some 8, none, [], .p (.nilChk (.t 7))⟩,
            ⟨some 9, none, [], .p (.faddr 1 (.t 8))⟩,
            ⟨some 10, none, [], .r (.load1 (.t 9))⟩,
            ⟨some 11, none, [], .p (.bin .neq (.t 10) (.c (.int .i64 0)))⟩,
            ⟨some 6, none, [], .p (.mv (.t 11))⟩]) (
        .cond (.t 6) (
          .seq (
            .region [
              ⟨some 12, none, [], .p (.mv (.t 0))⟩,
              ⟨some 13, none, [], .p (.nilChk (.t 12))⟩,
              ⟨some 14, none, [], .p (.faddr 1 (.t 13))⟩,
              ⟨some 15, none, [], .r (.load1 (.t 14))⟩,
              ⟨some 2, none, [], .p (.mv (.t 15))⟩]) (
          .ret)) (
          .seq (
            .region [
              ⟨some 17, none, [], .p (.mv (.t 0))⟩,
              ⟨some 18, none, [], .p (.nilChk (.t 17))⟩,
              ⟨some 19, none, [], .p (.faddr 0 (.t 18))⟩,
              ⟨some 20, none, [], .r (.load1 (.t 19))⟩,
              ⟨some 21, none, [], .p (.bin .neq (.t 20) (.c (.str [])))⟩,
              ⟨some 16, none, [], .p (.mv (.t 21))⟩]) (
          .cond (.t 16) (
            .seq (
              .region [
                ⟨some 2, none, [], .p (.mv (.c (.int .i64 5)))⟩]) (
            .ret)) (
            .skip)))))))) (
  .seq (
    .region [
      ⟨some 2, none, [], .p (.mv (.c (.int .i64 0)))⟩]) (
  .ret))),
  22, [Sum.inl 2]⟩

theorem c27 : cFunc Try.prog quiet Try.f27 [] = some s27 := by kernel_rfl

-- 28 calls [22]
abbrev k28_0 : List Nat := [3, 6, 7, 8]
abbrev a28_0 : List Nat := [3]
abbrev e28_0 (v3 v6 v7 v8 : AV) : Env := [.dead, .dead, .dead, v3, .dead, .dead, v6, v7, v8, .dead, .dead, .dead, .dead, .dead, .dead, .dead, .dead, .dead, .dead, .dead, .dead, .dead]
abbrev x28_0 (v3 : AV) : Env := [.dead, .dead, .dead, v3, .dead, .dead, .dead, .dead, .dead, .dead, .dead, .dead, .dead, .dead, .dead, .dead, .dead, .dead, .dead, .dead, .dead, .dead]
def s28_b0 : SCode :=
  .seq (
    .region [
      ⟨some 9, none, [], .p (.bin .lss (.t 8) (.t 7))⟩]) (
  .seq (
    .cond (.t 9) (
      .skip) (
      .exit 0)) (
  .seq (
    .block 1 (
      .seq (
        .region [
          ⟨some 10, none, [], .p (.iaddrS 1 (.t 6) (.t 8))⟩,
          ⟨some 11, none, [], .r (.load1 (.t 10))⟩,
          ⟨some 5, none, [], .p (.mv (.t 11))⟩]) (
      .region [
        ⟨some 12, none, [], .p (.mv (.t 3))⟩,
        ⟨some 13, none, [], .p (.mv (.t 5))⟩,
        ⟨some 14, none, [], .p (.mv (.t 5))⟩,
        ⟨some 15, none, [], .p (.lenV false (.t 14))⟩,
        ⟨some 16, none, [], .p (.minmax false (.t 15) (.c (.int .i64 100)))⟩,
        ⟨some 17, none, [], .p (.slcStr (.t 13) none (some (.t 16)))⟩,
        ⟨some 18, none, [], .call 20024 4 true (.f 22) [.t 17]⟩,
        ⟨some 19, none, [], .p (.bin .add (.t 12) (.t 18))⟩,
        ⟨some 3, none, [], .p (.mv (.t 19))⟩]))) (
  .region [
    ⟨some 20, none, [], .p (.bin .add (.t 8) (.c (.int .i64 1)))⟩,
    ⟨some 8, none, [], .p (.mv (.t 20))⟩])))

def s28 : SFunc := ⟨
  .seq (
    .region [
      ⟨some 2, none, [], .p (.mv (.c (.str [])))⟩]) (
  .seq (
    .region [
      ⟨some 3, none, [], .p (.mv (.c (.str [])))⟩]) (
  .seq (
    .seq (
      .region [
        ⟨some 6, none, [], .p (.mv (.t 0))⟩,
        ⟨some 7, none, [], .p (.lenV true (.t 6))⟩,
        ⟨some 8, none, [], .p (.mv (.c (.int .i64 0)))⟩]) (
    .block 0 (
      .loop k28_0 a28_0 s28_b0))) (
  .seq (
    .region [
      ⟨some 21, none, [], .p (.mv (.t 3))⟩,
      ⟨some 2, none, [], .p (.mv (.t 21))⟩]) (
  .ret)))),
  22, [Sum.inl 2]⟩

theorem c28 : cFunc Try.prog quiet Try.f28 [[3, 6, 7, 8], [3]] = some s28 := by kernel_rfl

-- 29 calls []
abbrev k29_0 : List Nat := [0, 3, 4]
abbrev a29_0 : List Nat := [0, 3]
abbrev e29_0 (v0 v3 v4 : AV) : Env := [v0, .dead, .dead, v3, v4, .dead, .dead, .dead, .dead, .dead, .dead, .dead, .dead, .dead, .dead, .dead, .dead, .dead, .dead, .dead, .dead, .dead, .dead, .dead, .dead, .dead, .dead, .dead, .dead, .dead, .dead, .dead, .dead, .dead, .dead, .dead, .dead, .dead, .dead, .dead, .dead, .dead, .dead, .dead, .dead, .dead, .dead, .dead, .dead, .dead, .dead, .dead]
abbrev x29_0 (v0 v3 : AV) : Env := [v0, .dead, .dead, v3, .dead, .dead, .dead, .dead, .dead, .dead, .dead, .dead, .dead, .dead, .dead, .dead, .dead, .dead, .dead, .dead, .dead, .dead, .dead, .dead, .dead, .dead, .dead, .dead, .dead, .dead, .dead, .dead, .dead, .dead, .dead, .dead, .dead, .dead, .dead, .dead, .dead, .dead, .dead, .dead, .dead, .dead, .dead, .dead, .dead, .dead, .dead, .dead]
def s29_b0 : SCode :=
  .seq (
    .seq (
      .region [
        ⟨some 24, none, [], .p (.mv (.t 4))⟩,
        ⟨some 25, none, [], .p (.bin .lss (.t 24) (.c (.int .i64 8)))⟩]) (
    .cond (.t 25) (
      .skip) (
      .exit 0))) (
  .seq (
    .block 1 (
      .region [
        ⟨some 28, none, [], .p (.mv (.t 3))⟩,
        ⟨some 29, none, [], .p (.bin .mul (.c (u64 256#64)) (.t 28))⟩,
        ⟨some 30, none, [], .p (.mv (.t 0))⟩,
        ⟨some 31, none, [], .p (.nilChk (.t 30))⟩,
        ⟨some 32, none, [], .p (.faddr 0 (.t 31))⟩,
        ⟨some 33, none, [], .r (.load1 (.t 32))⟩,
        ⟨some 34, none, [], .p (.mv (.t 0))⟩,
        ⟨some 35, none, [], .p (.nilChk (.t 34))⟩,
        ⟨some 36, none, [], .p (.faddr 1 (.t 35))⟩,
        ⟨some 37, none, [], .r (.load1 (.t 36))⟩,
        ⟨some 38, none, [], .p (.mv (.t 4))⟩,
        ⟨some 39, none, [], .p (.bin .add (.t 37) (.t 38))⟩,
        ⟨some 40, none, [], .p (.idxStr (.t 33) (.t 39))⟩,
        ⟨some 41, none, [], .p (.conv .u64 (.t 40))⟩,
        ⟨some 42, none, [], .p (.bin .add (.t 29) (.t 41))⟩,
        ⟨some 3, none, [], .p (.mv (.t 42))⟩])) (
  .region [
    ⟨some 26, none, [], .p (.mv (.t 4))⟩,
    ⟨some 27, none, [], .p (.bin .add (.t 26) (.c (.int .i64 1)))⟩,
    ⟨some 4, none, [], .p (.mv (.t 27))⟩]))

def s29 : SFunc := ⟨
  .seq (
    .region [
      ⟨some 2, none, [], .p (.mv (.c (u64 0#64)))⟩]) (
  .seq (
    .seq (
      .region [
        ⟨some 5, none, [], .p (.mv (.t 0))⟩,
        ⟨some 6, none, [], .p (.nilChk (.t 5))⟩,
        ⟨some 7, none, [], .p (.faddr 2 (.t 6))⟩,
        ⟨some 8, none, [], .r (.load1 (.t 7))⟩,
        ⟨some 9, none, [], .p (.bin .neq (.t 8) (.c (.int .i64 0)))⟩]) (
    .cond (.t 9) (
      .seq (
        .region [
          ⟨some 2, none, [], .p (.mv (.c (u64 0#64)))⟩]) (
      .ret)) (
      .skip))) (
  .seq (
    .seq (
      .region [
        ⟨some 10, none, [], .p (.mv (.t 0))⟩,
        ⟨some 11, none, [], .p (.nilChk (.t 10))⟩,
        ⟨some 12, none, [], .p (.faddr 0 (.t 11))⟩,
        ⟨some 13, none, [], .r (.load1 (.t 12))⟩,
        ⟨some 14, none, [], .p (.lenV false (.t 13))⟩,
        ⟨some 15, none, [], .p (.mv (.t 0))⟩,
        ⟨some 16, none, [], .p (.nilChk (.t 15))⟩,
        ⟨some 17, none, [], .p (.faddr 1 (.t 16))⟩,
        ⟨some 18, none, [], .r (.load1 (.t 17))⟩,
        ⟨some 19, none, [], .p (.bin .sub (.t 14) (.t 18))⟩,
        ⟨some 20, none, [], .p (.bin .lss (.t 19) (.c (.int .i64 8)))⟩]) (
    .cond (.t 20) (
      .seq (
        .region [
          ⟨some 21, none, [], .p (.mv (.t 0))⟩,
          ⟨some 22, none, [], .p (.nilChk (.t 21))⟩,
          ⟨some 23, none, [], .p (.faddr 2 (.t 22))⟩,
          ⟨none, none, [], .w (.store1 (.t 23) (.c (.int .i64 3)))⟩]) (
      .seq (
        .region [
          ⟨some 2, none, [], .p (.mv (.c (u64 0#64)))⟩]) (
      .ret))) (
      .skip))) (
  .seq (
    .region [
      ⟨some 3, none, [], .p (.mv (.c (u64 0#64)))⟩]) (
  .seq (
    .seq (
      .region [
        ⟨some 4, none, [], .p (.mv (.c (.int .i64 0)))⟩]) (
    .block 0 (
      .loop k29_0 a29_0 s29_b0))) (
  .seq (
    .region [
      ⟨some 43, none, [], .p (.mv (.t 0))⟩,
      ⟨some 44, none, [], .p (.mv (.t 0))⟩,
      ⟨some 45, none, [], .p (.nilChk (.t 44))⟩,
      ⟨some 46, none, [], .p (.faddr 1 (.t 45))⟩,
      ⟨some 47, none, [], .r (.load1 (.t 46))⟩,
      ⟨some 48, none, [], .p (.bin .add (.t 47) (.c (.int .i64 8)))⟩,
      ⟨some 49, none, [], .p (.nilChk (.t 43))⟩,
      ⟨some 50, none, [], .p (.faddr 1 (.t 49))⟩,
      ⟨none, none, [], .w (.store1 (.t 50) (.t 48))⟩]) (
  .seq (
    .region [
      ⟨some 51, none, [], .p (.mv (.t 3))⟩,
      ⟨some 2, none, [], .p (.mv (.t 51))⟩]) (
  .ret))))))),
  52, [Sum.inl 2]⟩

theorem c29 : cFunc Try.prog quiet Try.f29 [[0, 3, 4], [0, 3]] = some s29 := by kernel_rfl

-- 30 calls [26]
def s30 : SFunc := ⟨
  .seq (
    .region [
      ⟨some 4, none, [], .p (.mv (.c (.int .i64 0)))⟩]) (
  .seq (
    .region [
      ⟨some 6, none, [], .p (.mv (.t 0))⟩,
      ⟨some 7, none, [], .call 4004 4 false (.f 26) [.t 6]⟩,
      ⟨some 5, none, [], .p (.mv (.t 7))⟩]) (
  .seq (
    .seq (
      .region [
        ⟨some 8, none, [], .p (.mv (.t 0))⟩,
        ⟨some 9, none, [], .p (.eqn .ptr false (.t 8) (.c (.ptr none)))⟩,
        ⟨some 10, none, [], .p (.mv (.t 9))⟩,
        ⟨some 11, some (10, false), [], .p (.mv (.t 0))⟩,
        ⟨some 12, some (10, false), [], .p (.nilChk (.t 11))⟩,
        ⟨some 13, some (10, false), [], .p (.faddr 1 (.t 12))⟩,
        ⟨some 14, some (10, false), [], .r (.load1 (.t 13))⟩,
        ⟨some 15, some (10, false), [], .p (.bin .neq (.t 14) (.c (.int .i64 0)))⟩,
        ⟨some 16, none, [], .p (.pick (.t 10) (.c (.bool true)) (.t 15))⟩]) (
    .cond (.t 16) (
      .seq (
        .region [
          ⟨some 4, none, [], .p (.mv (.c (.int .i64 0)))⟩]) (
      .ret)) (
      .skip))) (
  .seq (
    .seq (
      .region [
        ⟨some 17, none, [], .p (.mv (.t 1))⟩,
        ⟨some 18, none, [], .p (.bin .lss (.t 17) (.c (.int .i64 1)))⟩,
        ⟨some 19, none, [], .p (.mv (.t 18))⟩,
        ⟨some 20, some (19, false), [], .p (.mv (.t 5))⟩,
        ⟨some 21, some (19, false), [], .p (.mv (.t 1))⟩,
        ⟨some 22, some (19, false), [], .p (.conv .u64 (.t 21))⟩,
        ⟨some 23, some (19, false), [], .p (.bin .geq (.t 20) (.t 22))⟩,
        ⟨some 24, none, [], .p (.pick (.t 19) (.c (.bool true)) (.t 23))⟩]) (
    .cond (.t 24) (
      .seq (
        .region [
          ⟨some 25, none, [], .p (.mv (.t 0))⟩,
          ⟨some 26, none, [], .p (.nilChk (.t 25))⟩,
          ⟨some 27, none, [], .p (.faddr 1 (.t 26))⟩,
          ⟨none, none, [], .w (.store1 (.t 27) (.c (.int .i64 4)))⟩]) (
      .seq (
        .region [
          ⟨some 4, none, [], .p (.mv (.c (.int .i64 0)))⟩]) (
      .ret))) (
      .skip))) (
  .seq (
    .region [
      ⟨some 28, none, [], .p (.mv (.t 5))⟩,
      ⟨some 29, none, [], .p (.conv .i64 (.t 28))⟩,
      ⟨some 4, none, [], .p (.mv (.t 29))⟩]) (
  .ret))))),
  30, [Sum.inl 4]⟩

theorem c30 : cFunc Try.prog quiet Try.f30 [] = some s30 := by kernel_rfl

-- 31 calls [29]
def s31 : SFunc := ⟨
  .seq (
    .region [
      ⟨some 4, none, [], .p (.mv (.c (.int .i64 0)))⟩]) (
  .seq (
    .region [
      ⟨some 6, none, [], .p (.mv (.t 0))⟩,
      ⟨some 7, none, [], .call 4004 4 false (.f 29) [.t 6]⟩,
      ⟨some 5, none, [], .p (.mv (.t 7))⟩]) (
  .seq (
    .seq (
      .region [
        ⟨some 8, none, [], .p (.mv (.t 0))⟩,
        ⟨some 9, none, [], .p (.nilChk (.t 8))⟩,
        ⟨some 10, none, [], .p (.faddr 2 (.t 9))⟩,
        ⟨some 11, none, [], .r (.load1 (.t 10))⟩,
        ⟨some 12, none, [], .p (.bin .neq (.t 11) (.c (.int .i64 0)))⟩]) (
    .cond (.t 12) (
      .seq (
        .region [
          ⟨some 4, none, [], .p (.mv (.c (.int .i64 0)))⟩]) (
      .ret)) (
      .skip))) (
  .seq (
    .seq (
      .region [
        ⟨some 13, none, [], .p (.mv (.t 1))⟩,
        ⟨some 14, none, [], .p (.bin .lss (.t 13) (.c (.int .i64 1)))⟩,
        ⟨some 15, none, [], .p (.mv (.t 14))⟩,
        ⟨some 16, some (15, false), [], .p (.mv (.t 5))⟩,
        ⟨some 17, some (15, false), [], .p (.mv (.t 1))⟩,
        ⟨some 18, some (15, false), [], .p (.conv .u64 (.t 17))⟩,
        ⟨some 19, some (15, false), [], .p (.bin .geq (.t 16) (.t 18))⟩,
        ⟨some 20, none, [], .p (.pick (.t 15) (.c (.bool true)) (.t 19))⟩]) (
    .cond (.t 20) (
      .seq (
        .region [
          ⟨some 21, none, [], .p (.mv (.t 0))⟩,
          ⟨some 22, none, [], .p (.nilChk (.t 21))⟩,
          ⟨some 23, none, [], .p (.faddr 2 (.t 22))⟩,
          ⟨none, none, [], .w (.store1 (.t 23) (.c (.int .i64 4)))⟩]) (
      .seq (
        .region [
          ⟨some 4, none, [], .p (.mv (.c (.int .i64 0)))⟩]) (
      .ret))) (
      .skip))) (
  .seq (
    .region [
      ⟨some 24, none, [], .p (.mv (.t 5))⟩,
      ⟨some 25, none, [], .p (.conv .i64 (.t 24))⟩,
      ⟨some 4, none, [], .p (.mv (.t 25))⟩]) (
  .ret))))),
  26, [Sum.inl 4]⟩

theorem c31 : cFunc Try.prog quiet Try.f31 [] = some s31 := by kernel_rfl

-- 32 calls [29]
def s32 : SFunc := ⟨
  .seq (
    .region [
      ⟨some 2, none, [], .p (.mv (.c (.str [])))⟩]) (
  .seq (
    .region [
      ⟨some 5, none, [], .p (.mv (.t 0))⟩,
      ⟨some 6, none, [], .call 4004 4 false (.f 29) [.t 5]⟩,
      ⟨some 3, none, [], .p (.mv (.t 6))⟩]) (
  .seq (
    .seq (
      .region [
        ⟨some 7, none, [], .p (.mv (.t 0))⟩,
        ⟨some 8, none, [], .p (.nilChk (.t 7))⟩,
        ⟨some 9, none, [], .p (.faddr 2 (.t 8))⟩,
        ⟨some 10, none, [], .r (.load1 (.t 9))⟩,
        ⟨some 11, none, [], .p (.bin .neq (.t 10) (.c (.int .i64 0)))⟩]) (
    .cond (.t 11) (
      .seq (
        .region [
          ⟨some 2, none, [], .p (.mv (.c (.str [])))⟩]) (
      .ret)) (
      .skip))) (
  .seq (
    .seq (
      .region [
        ⟨some 12, none, [], .p (.mv (.t 3))⟩,
        ⟨some 13, none, [], .p (.mv (.t 0))⟩,
        ⟨some 14, none, [], .p (.nilChk (.t 13))⟩,
        ⟨some 15, none, [], .p (.faddr 0 (.t 14))⟩,
        ⟨some 16, none, [], .r (.load1 (.t 15))⟩,
        ⟨some 17, none, [], .p (.lenV false (.t 16))⟩,
        ⟨some 18, none, [], .p (.mv (.t 0))⟩,
        ⟨some 19, none, [], .p (.nilChk (.t 18))⟩,
        ⟨some 20, none, [], .p (.faddr 1 (.t 19))⟩,
        ⟨some 21, none, [], .r (.load1 (.t 20))⟩,
        ⟨some 22, none, [], .p (.bin .sub (.t 17) (.t 21))⟩,
        ⟨some 23, none, [], .p (.conv .u64 (.t 22))⟩,
        ⟨some 24, none, [], .p (.bin .gtr (.t 12) (.t 23))⟩]) (
    .cond (.t 24) (
      .seq (
        .region [
          ⟨some 25, none, [], .p (.mv (.t 0))⟩,
          ⟨some 26, none, [], .p (.nilChk (.t 25))⟩,
          ⟨some 27, none, [], .p (.faddr 2 (.t 26))⟩,
          ⟨none, none, [], .w (.store1 (.t 27) (.c (.int .i64 3)))⟩]) (
      .seq (
        .region [
          ⟨some 2, none, [], .p (.mv (.c (.str [])))⟩]) (
      .ret))) (
      .skip))) (
  .seq (
    .region [
      ⟨some 28, none, [], .p (.mv (.t 0))⟩,
      ⟨some 29, none, [], .p (.nilChk (.t 28))⟩,
      ⟨some 30, none, [], .p (.faddr 0 (.t 29))⟩,
      ⟨some 31, none, [], .r (.load1 (.t 30))⟩,
      ⟨some 32, none, [], .p (.mv (.t 0))⟩,
      ⟨some 33, none, [], .p (.nilChk (.t 32))⟩,
      ⟨some 34, none, [], .p (.faddr 1 (.t 33))⟩,
      ⟨some 35, none, [], .r (.load1 (.t 34))⟩,
      ⟨some 36, none, [], .p (.mv (.t 0))⟩,
      ⟨some 37, none, [], .p (.nilChk (.t 36))⟩,
      ⟨some 38, none, [], .p (.faddr 1 (.t 37))⟩,
      ⟨some 39, none, [], .r (.load1 (.t 38))⟩,
      ⟨some 40, none, [], .p (.mv (.t 3))⟩,
      ⟨some 41, none, [], .p (.conv .i64 (.t 40))⟩,
      ⟨some 42, none, [], .p (.bin .add (.t 39) (.t 41))⟩,
      ⟨some 43, none, [], .p (.slcStr (.t 31) (some (.t 35)) (some (.t 42)))⟩,
      ⟨some 4, none, [], .p (.mv (.t 43))⟩]) (
  .seq (
    .region [
      ⟨some 44, none, [], .p (.mv (.t 0))⟩,
      ⟨some 45, none, [], .p (.mv (.t 0))⟩,
      ⟨some 46, none, [], .p (.nilChk (.t 45))⟩,
      ⟨some 47, none, [], .p (.faddr 1 (.t 46))⟩,
      ⟨some 48, none, [], .r (.load1 (.t 47))⟩,
      ⟨some 49, none, [], .p (.mv (.t 3))⟩,
      ⟨some 50, none, [], .p (.conv .i64 (.t 49))⟩,
      ⟨some 51, none, [], .p (.bin .add (.t 48) (.t 50))⟩,
      ⟨some 52, none, [], .p (.nilChk (.t 44))⟩,
      ⟨some 53, none, [], .p (.faddr 1 (.t 52))⟩,
      ⟨none, none, [], .w (.store1 (.t 53) (.t 51))⟩]) (
  .seq (
    .region [
      ⟨some 54, none, [], .p (.mv (.t 4))⟩,
      ⟨some 2, none, [], .p (.mv (.t 54))⟩]) (
  .ret))))))),
  55, [Sum.inl 2]⟩

theorem c32 : cFunc Try.prog quiet Try.f32 [] = some s32 := by kernel_rfl

-- 33 calls []
def s33 : SFunc := ⟨
  .seq (
    .region [
      ⟨some 2, none, [], .p (.mv (.c (.int .i64 0)))⟩]) (
  .seq (
    .seq (
      .region [
        ⟨some 3, none, [], .p (.mv (.t 0))⟩,
        ⟨some 4, none, [], .p (.nilChk (.t 3))⟩,
        ⟨some 5, none, [], .p (.faddr 2 (.t 4))⟩,
        ⟨some 6, none, [], .r (.load1 (.t 5))⟩,
        ⟨some 7, none, [], .p (.bin .neq (.t 6) (.c (.int .i64 0)))⟩]) (
    .cond (.t 7) (
      .seq (
        .region [
          ⟨some 8, none, [], .p (.mv (.t 0))⟩,
          ⟨some 9, none, [], .p (.nilChk (.t 8))⟩,
          ⟨some 10, none, [], .p (.faddr 2 (.t 9))⟩,
          ⟨some 11, none, [], .r (.load1 (.t 10))⟩,
          ⟨some 2, none, [], .p (.mv (.t 11))⟩]) (
      .ret)) (
      .skip))) (
  .seq (
    .seq (
      .region [
        ⟨some 12, none, [], .p (.mv (.t 0))⟩,
        ⟨some 13, none, [], .p (.nilChk (.t 12))⟩,
        ⟨some 14, none, [], .p (.faddr 1 (.t 13))⟩,
        ⟨some 15, none, [], .r (.load1 (.t 14))⟩,
        ⟨some 16, none, [], .p (.mv (.t 0))⟩,
        ⟨some 17, none, [], .p (.nilChk (.t 16))⟩,
        ⟨some 18, none, [], .p (.faddr 0 (.t 17))⟩,
        ⟨some 19, none, [], .r (.load1 (.t 18))⟩,
        ⟨some 20, none, [], .p (.lenV false (.t 19))⟩,
        ⟨some 21, none, [], .p (.bin .lss (.t 15) (.t 20))⟩]) (
    .cond (.t 21) (
      .seq (
        .region [
          ⟨some 2, none, [], .p (.mv (.c (.int .i64 5)))⟩]) (
      .ret)) (
      .skip))) (
  .seq (
    .region [
      ⟨some 2, none, [], .p (.mv (.c (.int .i64 0)))⟩]) (
  .ret)))),
  22, [Sum.inl 2]⟩

theorem c33 : cFunc Try.prog quiet Try.f33 [] = some s33 := by kernel_rfl

-- 34 calls []
def s34 : SFunc := ⟨
  .seq (
    .region [
      ⟨some 2, none, [], .p (.mv (.c (.int .i64 0)))⟩]) (
  .seq (
    .seq (
      .region [
        ⟨some 3, none, [], .p (.mv (.t 0))⟩,
        ⟨some 4, none, [], .p (.eqn .ptr false (.t 3) (.c (.ptr none)))⟩]) (
    .cond (.t 4) (
      .seq (
        .region [
          ⟨some 2, none, [], .p (.mv (.c (.int .i64 0)))⟩]) (
      .ret)) (
      .skip))) (
  .seq (
    .region [
      ⟨some 5, none, [], .p (.mv (.t 0))⟩,
      ⟨some 6, none, [], .p (.nilChk (.t 5))⟩,
      ⟨some 7, none, [], .p (.faddr 0 (.t 6))⟩,
      ⟨some 8, none, [], .r (.load1 (.t 7))⟩,
      ⟨some 9, none, [], .p (.lenV false (.t 8))⟩,
      ⟨some 2, none, [], .p (.mv (.t 9))⟩]) (
  .ret))),
  10, [Sum.inl 2]⟩

theorem c34 : cFunc Try.prog quiet Try.f34 [] = some s34 := by kernel_rfl

-- 35 calls [24, 26, 37, 41]
def s35 : SFunc := ⟨
  .seq (
    .region [
      ⟨some 2, none, [], .p (.mv (.c (u64 0#64)))⟩,
      ⟨some 3, none, [], .p (.mv (.c (u64 0#64)))⟩,
      ⟨some 4, none, [], .p (.mv (.c (.int .i64 0)))⟩]) (
  .seq (
    .seq (
      .region [
        ⟨some 9, none, [], .p (.mv (.t 0))⟩,
        ⟨some 10, none, [], .p (.lenV false (.t 9))⟩,
        ⟨some 11, none, [], .p (.bin .neq (.t 10) (.c (.int .i64 12)))⟩]) (
    .cond (.t 11) (
      .seq (
        .region [
          ⟨some 2, none, [], .p (.mv (.c (u64 0#64)))⟩,
          ⟨some 3, none, [], .p (.mv (.c (u64 0#64)))⟩,
          ⟨some 4, none, [], .p (.mv (.c (.int .i64 7)))⟩]) (
      .ret)) (
      .skip))) (
  .seq (
    .region [
      ⟨some 12, none, [], .p (.mv (.t 0))⟩,
      ⟨some 13, none, [], .p (.slcStr (.t 12) none (some (.c (.int .i64 8))))⟩,
      ⟨some 14, none, [], .call 12008 4 true (.f 24) [.t 13]⟩,
      ⟨some 15, none, [], .call 12012 4 false (.f 26) [.t 14]⟩,
      ⟨some 5, none, [], .p (.mv (.t 15))⟩]) (
  .seq (
    .region [
      ⟨some 17, none, [], .p (.mv (.t 0))⟩,
      ⟨some 18, none, [], .p (.slcStr (.t 17) (some (.c (.int .i64 8))) none)⟩,
      ⟨some 19, none, [], .call 16008 4 true (.f 41) [.t 18]⟩,
      ⟨some 16, none, [], .p (.mv (.t 19))⟩,
      ⟨some 20, none, [], .p (.extract (.t 16) 0)⟩,
      ⟨some 21, none, [], .p (.extract (.t 16) 1)⟩,
      ⟨some 6, none, [], .p (.mv (.t 20))⟩,
      ⟨some 7, none, [], .p (.mv (.t 21))⟩]) (
  .seq (
    .seq (
      .region [
        ⟨some 22, none, [], .p (.mv (.t 5))⟩,
        ⟨some 23, none, [], .call 20004 4 true (.f 37) [.t 22]⟩,
        ⟨some 24, none, [], .p (.un .not (.t 23))⟩]) (
    .cond (.t 24) (
      .seq (
        .region [
          ⟨some 2, none, [], .p (.mv (.c (u64 0#64)))⟩,
          ⟨some 3, none, [], .p (.mv (.c (u64 0#64)))⟩,
          ⟨some 4, none, [], .p (.mv (.c (.int .i64 2)))⟩]) (
      .ret)) (
      .skip))) (
  .seq (
    .region [
      ⟨some 25, none, [], .p (.mv (.t 6))⟩,
      ⟨some 26, none, [], .p (.arrPtr 1 (.t 25))⟩,
      ⟨some 27, none, [], .r (.loadN 1 (.t 26))⟩,
      ⟨some 8, none, [], .a 28012 (.alloc [u32 0#32])⟩,
      ⟨none, none, [], .w (.storeN 1 (.t 8) (.t 27))⟩]) (
  .seq (
    .region [
      ⟨some 28, none, [], .p (.mv (.t 5))⟩,
      ⟨some 29, none, [], .p (.iaddrA 1 1 (.t 8) (.c (.int .i64 0)))⟩,
      ⟨some 30, none, [], .r (.load1 (.t 29))⟩,
      ⟨some 31, none, [], .p (.conv .u64 (.t 30))⟩,
      ⟨some 2, none, [], .p (.mv (.t 28))⟩,
      ⟨some 3, none, [], .p (.mv (.t 31))⟩,
      ⟨some 4, none, [], .p (.mv (.c (.int .i64 0)))⟩]) (
  .ret))))))),
  32, [Sum.inl 2, Sum.inl 3, Sum.inl 4]⟩

theorem c35 : cFunc Try.prog quiet Try.f35 [] = some s35 := by kernel_rfl

-- 36 calls [15]
abbrev k36_1 : List Nat := [0, 5, 7, 8]
abbrev a36_1 : List Nat := [5, 7]
abbrev e36_1 (v0 v5 v7 v8 : AV) : Env := [v0, .dead, .dead, .dead, .dead, v5, .dead, v7, v8, .dead, .dead, .dead, .dead, .dead, .dead, .dead, .dead, .dead, .dead, .dead, .dead, .dead, .dead, .dead, .dead, .dead, .dead, .dead, .dead, .dead, .dead, .dead, .dead, .dead, .dead, .dead, .dead, .dead, .dead, .dead, .dead, .dead]
abbrev x36_1 (v5 v7 : AV) : Env := [.dead, .dead, .dead, .dead, .dead, v5, .dead, v7, .dead, .dead, .dead, .dead, .dead, .dead, .dead, .dead, .dead, .dead, .dead, .dead, .dead, .dead, .dead, .dead, .dead, .dead, .dead, .dead, .dead, .dead, .dead, .dead, .dead, .dead, .dead, .dead, .dead, .dead, .dead, .dead, .dead, .dead]
def s36_b1 : SCode :=
  .seq (
    .seq (
      .region [
        ⟨some 24, none, [], .p (.mv (.t 8))⟩,
        ⟨some 25, none, [], .p (.bin .lss (.t 24) (.c (.int .i64 12)))⟩]) (
    .cond (.t 25) (
      .skip) (
      .exit 2))) (
  .seq (
    .block 3 (
      .region [
        ⟨some 28, none, [], .p (.mv (.t 7))⟩,
        ⟨some 29, none, [], .p (.bin .mul (.c (u64 256#64)) (.t 28))⟩,
        ⟨some 30, none, [], .p (.mv (.t 0))⟩,
        ⟨some 31, none, [], .p (.mv (.t 8))⟩,
        ⟨some 32, none, [], .p (.idxStr (.t 30) (.t 31))⟩,
        ⟨some 33, none, [], .p (.conv .u64 (.t 32))⟩,
        ⟨some 34, none, [], .p (.bin .add (.t 29) (.t 33))⟩,
        ⟨some 7, none, [], .p (.mv (.t 34))⟩])) (
  .region [
    ⟨some 26, none, [], .p (.mv (.t 8))⟩,
    ⟨some 27, none, [], .p (.bin .add (.t 26) (.c (.int .i64 1)))⟩,
    ⟨some 8, none, [], .p (.mv (.t 27))⟩]))

abbrev k36_0 : List Nat := [0, 5, 6]
abbrev a36_0 : List Nat := [0, 5]
abbrev e36_0 (v0 v5 v6 : AV) : Env := [v0, .dead, .dead, .dead, .dead, v5, v6, .dead, .dead, .dead, .dead, .dead, .dead, .dead, .dead, .dead, .dead, .dead, .dead, .dead, .dead, .dead, .dead, .dead, .dead, .dead, .dead, .dead, .dead, .dead, .dead, .dead, .dead, .dead, .dead, .dead, .dead, .dead, .dead, .dead, .dead, .dead]
abbrev x36_0 (v0 v5 : AV) : Env := [v0, .dead, .dead, .dead, .dead, v5, .dead, .dead, .dead, .dead, .dead, .dead, .dead, .dead, .dead, .dead, .dead, .dead, .dead, .dead, .dead, .dead, .dead, .dead, .dead, .dead, .dead, .dead, .dead, .dead, .dead, .dead, .dead, .dead, .dead, .dead, .dead, .dead, .dead, .dead, .dead, .dead]
def s36_b0 : SCode :=
  .seq (
    .seq (
      .region [
        ⟨some 13, none, [], .p (.mv (.t 6))⟩,
        ⟨some 14, none, [], .p (.bin .lss (.t 13) (.c (.int .i64 8)))⟩]) (
    .cond (.t 14) (
      .skip) (
      .exit 0))) (
  .seq (
    .block 1 (
      .region [
        ⟨some 17, none, [], .p (.mv (.t 5))⟩,
        ⟨some 18, none, [], .p (.bin .mul (.c (u64 256#64)) (.t 17))⟩,
        ⟨some 19, none, [], .p (.mv (.t 0))⟩,
        ⟨some 20, none, [], .p (.mv (.t 6))⟩,
        ⟨some 21, none, [], .p (.idxStr (.t 19) (.t 20))⟩,
        ⟨some 22, none, [], .p (.conv .u64 (.t 21))⟩,
        ⟨some 23, none, [], .p (.bin .add (.t 18) (.t 22))⟩,
        ⟨some 5, none, [], .p (.mv (.t 23))⟩])) (
  .region [
    ⟨some 15, none, [], .p (.mv (.t 6))⟩,
    ⟨some 16, none, [], .p (.bin .add (.t 15) (.c (.int .i64 1)))⟩,
    ⟨some 6, none, [], .p (.mv (.t 16))⟩]))

def s36 : SFunc := ⟨
  .seq (
    .region [
      ⟨some 2, none, [], .p (.mv (.c (u64 0#64)))⟩,
      ⟨some 3, none, [], .p (.mv (.c (u64 0#64)))⟩,
      ⟨some 4, none, [], .p (.mv (.c (.int .i64 0)))⟩]) (
  .seq (
    .seq (
      .region [
        ⟨some 10, none, [], .p (.mv (.t 0))⟩,
        ⟨some 11, none, [], .p (.lenV false (.t 10))⟩,
        ⟨some 12, none, [], .p (.bin .neq (.t 11) (.c (.int .i64 12)))⟩]) (
    .cond (.t 12) (
      .seq (
        .region [
          ⟨some 2, none, [], .p (.mv (.c (u64 0#64)))⟩,
          ⟨some 3, none, [], .p (.mv (.c (u64 0#64)))⟩,
          ⟨some 4, none, [], .p (.mv (.c (.int .i64 7)))⟩]) (
      .ret)) (
      .skip))) (
  .seq (
    .region [
      ⟨some 5, none, [], .p (.mv (.c (u64 0#64)))⟩]) (
  .seq (
    .seq (
      .region [
        ⟨some 6, none, [], .p (.mv (.c (.int .i64 0)))⟩]) (
    .block 0 (
      .loop k36_0 a36_0 s36_b0))) (
  .seq (
    .region [
      ⟨some 7, none, [], .p (.mv (.c (u64 0#64)))⟩]) (
  .seq (
    .seq (
      .region [
        ⟨some 8, none, [], .p (.mv (.c (.int .i64 8)))⟩]) (
    .block 2 (
      .loop k36_1 a36_1 s36_b1))) (
  .seq (
    .region [
      ⟨some 35, none, [], .p (.mv (.t 5))⟩,
      ⟨some 36, none, [], .p (.mv (.t 7))⟩,
      ⟨some 37, none, [], .call 52008 4 true (.f 15) [.t 35, .t 36]⟩,
      ⟨some 9, none, [], .p (.mv (.t 37))⟩]) (
  .seq (
    .seq (
      .region [
        ⟨some 38, none, [], .p (.mv (.t 9))⟩,
        ⟨some 39, none, [], .p (.un .not (.t 38))⟩]) (
    .cond (.t 39) (
      .seq (
        .region [
          ⟨some 2, none, [], .p (.mv (.c (u64 0#64)))⟩,
          ⟨some 3, none, [], .p (.mv (.c (u64 0#64)))⟩,
          ⟨some 4, none, [], .p (.mv (.c (.int .i64 2)))⟩]) (
      .ret)) (
      .skip))) (
  .seq (
    .region [
      ⟨some 40, none, [], .p (.mv (.t 5))⟩,
      ⟨some 41, none, [], .p (.mv (.t 7))⟩,
      ⟨some 2, none, [], .p (.mv (.t 40))⟩,
      ⟨some 3, none, [], .p (.mv (.t 41))⟩,
      ⟨some 4, none, [], .p (.mv (.c (.int .i64 0)))⟩]) (
  .ret))))))))),
  42, [Sum.inl 2, Sum.inl 3, Sum.inl 4]⟩

theorem c36 : cFunc Try.prog quiet Try.f36 [[0, 5, 6], [0, 5], [0, 5, 7, 8], [5, 7]] = some s36 := by kernel_rfl

-- 37 calls []
def s37 : SFunc := ⟨
  .seq (
    .region [
      ⟨some 2, none, [], .p (.mv (.c (.bool false)))⟩]) (
  .seq (
    .region [
      ⟨some 3, none, [], .p (.mv (.t 0))⟩,
      ⟨some 4, none, [], .p (.bin .geq (.t 3) (.c (u64 1#64)))⟩,
      ⟨some 5, none, [], .p (.mv (.t 4))⟩,
      ⟨some 6, some (5, true), [], .p (.mv (.t 0))⟩,
      ⟨some 7, some (5, true), [], .p (.bin .leq (.t 6) (.c (u64 4294967295#64)))⟩,
      ⟨some 8, none, [], .p (.pick (.t 5) (.t 7) (.c (.bool false)))⟩,
      ⟨some 2, none, [], .p (.mv (.t 8))⟩]) (
  .ret)),
  9, [Sum.inl 2]⟩

theorem c37 : cFunc Try.prog quiet Try.f37 [] = some s37 := by kernel_rfl

-- 38 calls []
abbrev k38_0 : List Nat := [3, 10, 11, 12]
abbrev a38_0 : List Nat := [3]
abbrev e38_0 (v3 v10 v11 v12 : AV) : Env := [.dead, .dead, .dead, v3, .dead, .dead, .dead, .dead, .dead, .dead, v10, v11, v12, .dead, .dead, .dead, .dead, .dead, .dead, .dead, .dead, .dead, .dead, .dead, .dead, .dead, .dead, .dead, .dead, .dead, .dead, .dead, .dead]
abbrev x38_0 (v3 : AV) : Env := [.dead, .dead, .dead, v3, .dead, .dead, .dead, .dead, .dead, .dead, .dead, .dead, .dead, .dead, .dead, .dead, .dead, .dead, .dead, .dead, .dead, .dead, .dead, .dead, .dead, .dead, .dead, .dead, .dead, .dead, .dead, .dead, .dead]
def s38_b0 : SCode :=
  .seq (
    .region [
      ⟨some 13, none, [], .p (.bin .lss (.t 12) (.t 11))⟩]) (
  .seq (
    .cond (.t 13) (
      .skip) (
      .exit 0)) (
  .seq (
    .block 1 (
      .seq (
        .region [
          ⟨some 14, none, [], .p (.iaddrS 1 (.t 10) (.t 12))⟩,
          ⟨some 15, none, [], .r (.load1 (.t 14))⟩,
          ⟨some 5, none, [], .p (.mv (.t 15))⟩]) (
      .region [
        ⟨some 16, none, [], .p (.mv (.t 3))⟩,
        ⟨some 17, none, [], .p (.mv (.t 5))⟩,
        ⟨some 18, none, [], .p (.bin .shr (.t 17) (.c (u64 24#64)))⟩,
        ⟨some 19, none, [], .p (.conv .u8 (.t 18))⟩,
        ⟨some 20, none, [], .p (.mv (.t 5))⟩,
        ⟨some 21, none, [], .p (.bin .shr (.t 20) (.c (u64 16#64)))⟩,
        ⟨some 22, none, [], .p (.conv .u8 (.t 21))⟩,
        ⟨some 23, none, [], .p (.mv (.t 5))⟩,
        ⟨some 24, none, [], .p (.bin .shr (.t 23) (.c (u64 8#64)))⟩,
        ⟨some 25, none, [], .p (.conv .u8 (.t 24))⟩,
        ⟨some 26, none, [], .p (.mv (.t 5))⟩,
        ⟨some 27, none, [], .p (.conv .u8 (.t 26))⟩,
        ⟨some 28, none, [], .a 20048 (.buildS 1 4 [byteAV 0] [(0, 1, .t 19), (1, 1, .t 22), (2, 1, .t 25), (3, 1, .t 27)])⟩,
        ⟨some 29, none, [], .w (.append 20052 1 1 (.t 16) (.t 28))⟩,
        ⟨some 3, none, [], .p (.mv (.t 29))⟩]))) (
  .region [
    ⟨some 30, none, [], .p (.bin .add (.t 12) (.c (.int .i64 1)))⟩,
    ⟨some 12, none, [], .p (.mv (.t 30))⟩])))

def s38 : SFunc := ⟨
  .seq (
    .region [
      ⟨some 2, none, [], .p (.mv (.c (.str [])))⟩]) (
  .seq (
    .region [
      ⟨some 6, none, [], .p (.mv (.t 0))⟩,
      ⟨some 7, none, [], .p (.lenV true (.t 6))⟩,
      ⟨some 8, none, [], .p (.bin .mul (.c (.int .i64 4)) (.t 7))⟩,
      ⟨some 9, none, [], .a 4012 (.mkSlice 1 1 [byteAV 0] (.c (.int .i64 0)) (.t 8))⟩,
      ⟨some 3, none, [], .p (.mv (.t 9))⟩]) (
  .seq (
    .seq (
      .region [
        ⟨some 10, none, [], .p (.mv (.t 0))⟩,
        ⟨some 11, none, [], .p (.lenV true (.t 10))⟩,
        ⟨some 12, none, [], .p (.mv (.c (.int .i64 0)))⟩]) (
    .block 0 (
      .loop k38_0 a38_0 s38_b0))) (
  .seq (
    .region [
      ⟨some 31, none, [], .p (.mv (.t 3))⟩,
      ⟨some 32, none, [], .r (.toStr (.t 31))⟩,
      ⟨some 2, none, [], .p (.mv (.t 32))⟩]) (
  .ret)))),
  33, [Sum.inl 2]⟩

theorem c38 : cFunc Try.prog quiet Try.f38 [[3, 10, 11, 12], [3]] = some s38 := by kernel_rfl

-- 39 calls [21, 42]
def s39 : SFunc := ⟨
  .seq (
    .region [
      ⟨some 4, none, [], .p (.mv (.c (.str [])))⟩]) (
  .seq (
    .region [
      ⟨some 7, none, [], .p (.mv (.t 0))⟩,
      ⟨some 8, none, [], .call 4004 4 true (.f 21) [.t 7]⟩,
      ⟨some 5, none, [], .p (.mv (.t 8))⟩]) (
  .seq (
    .region [
      ⟨some 9, none, [], .p (.mv (.t 1))⟩,
      ⟨some 10, none, [], .p (.conv .u32 (.t 9))⟩,
      ⟨some 11, none, [], .a 8008 (.buildS 1 1 [u32 0#32] [(0, 1, .t 10)])⟩,
      ⟨some 12, none, [], .call 8012 4 true (.f 42) [.t 11, .c (.bool true)]⟩,
      ⟨some 6, none, [], .p (.mv (.t 12))⟩]) (
  .seq (
    .region [
      ⟨some 13, none, [], .p (.mv (.t 5))⟩,
      ⟨some 14, none, [], .p (.mv (.t 6))⟩,
      ⟨some 15, none, [], .p (.bin .add (.t 13) (.t 14))⟩,
      ⟨some 4, none, [], .p (.mv (.t 15))⟩]) (
  .ret)))),
  16, [Sum.inl 4]⟩

theorem c39 : cFunc Try.prog quiet Try.f39 [] = some s39 := by kernel_rfl

-- 40 calls []
def s40 : SFunc := ⟨
  .seq (
    .region [
      ⟨some 4, none, [], .p (.mv (.c (.str [])))⟩]) (
  .seq (
    .seq (
      .region [
        ⟨some 6, none, [], .p (.mv (.t 0))⟩,
        ⟨some 7, none, [], .p (.eqn .ptr false (.t 6) (.c (.ptr none)))⟩]) (
    .cond (.t 7) (
      .seq (
        .region [
          ⟨some 4, none, [], .p (.mv (.c (.str [])))⟩]) (
      .ret)) (
      .skip))) (
  .seq (
    .seq (
      .region [
        ⟨some 8, none, [], .p (.mv (.t 0))⟩,
        ⟨some 9, none, [], .p (.nilChk (.t 8))⟩,
        ⟨some 10, none, [], .p (.faddr 1 (.t 9))⟩,
        ⟨some 11, none, [], .r (.load1 (.t 10))⟩,
        ⟨some 12, none, [], .p (.bin .eql (.t 11) (.c (.int .i64 0)))⟩,
        ⟨some 13, none, [], .p (.mv (.t 12))⟩,
        ⟨some 14, some (13, true), [], .p (.mv (.t 1))⟩,
        ⟨some 15, some (13, true), [], .p (.mv (.t 0))⟩,
        ⟨some 16, some (13, true), [], .p (.nilChk (.t 15))⟩,
        ⟨some 17, some (13, true), [], .p (.faddr 0 (.t 16))⟩,
        ⟨some 18, some (13, true), [], .r (.load1 (.t 17))⟩,
        ⟨some 19, some (13, true), [], .p (.lenV false (.t 18))⟩,
        ⟨some 20, some (13, true), [], .p (.conv .u64 (.t 19))⟩,
        ⟨some 21, some (13, true), [], .p (.bin .gtr (.t 14) (.t 20))⟩,
        ⟨some 22, none, [], .p (.pick (.t 13) (.t 21) (.c (.bool false)))⟩]) (
    .cond (.t 22) (
      .region [
        ⟨some 23, none, [], .p (.mv (.t 0))⟩,
        ⟨some 24, none, [], .p (.nilChk (.t 23))⟩,
        ⟨some 25, none, [], .p (.faddr 1 (.t 24))⟩,
        ⟨none, none, [], .w (.store1 (.t 25) (.c (.int .i64 3)))⟩]) (
      .skip))) (
  .seq (
    .seq (
      .region [
        ⟨some 26, none, [], .p (.mv (.t 0))⟩,
        ⟨some 27, none, [], .p (.nilChk (.t 26))⟩,
        ⟨some 28, none, [], .p (.faddr 1 (.t 27))⟩,
        ⟨some 29, none, [], .r (.load1 (.t 28))⟩,
        ⟨some 30, none, [], .p (.bin .neq (.t 29) (.c (.int .i64 0)))⟩]) (
    .cond (.t 30) (
      .seq (
        .region [
          ⟨some 4, none, [], .p (.mv (.c (.str [])))⟩]) (
      .ret)) (
      .skip))) (
  .seq (
    .region [
      ⟨some 31, none, [], .p (.mv (.t 0))⟩,
      ⟨some 32, none, [], .p (.nilChk (.t 31))⟩,
      ⟨some 33, none, [], .p (.faddr 0 (.t 32))⟩,
      ⟨some 34, none, [], .r (.load1 (.t 33))⟩,
      ⟨some 35, none, [], .p (.mv (.t 1))⟩,
      ⟨some 36, none, [], .p (.slcStr (.t 34) none (some (.t 35)))⟩,
      ⟨some 5, none, [], .p (.mv (.t 36))⟩]) (
  .seq (
    .region [
      ⟨some 37, none, [], .p (.mv (.t 0))⟩,
      ⟨some 38, none, [], .p (.mv (.t 0))⟩,
      ⟨some 39, none, [], .p (.nilChk (.t 38))⟩,
      ⟨some 40, none, [], .p (.faddr 0 (.t 39))⟩,
      ⟨some 41, none, [], .r (.load1 (.t 40))⟩,
      ⟨some 42, none, [], .p (.mv (.t 1))⟩,
      ⟨some 43, none, [], .p (.slcStr (.t 41) (some (.t 42)) none)⟩,
      ⟨some 44, none, [], .p (.nilChk (.t 37))⟩,
      ⟨some 45, none, [], .p (.faddr 0 (.t 44))⟩,
      ⟨none, none, [], .w (.store1 (.t 45) (.t 43))⟩]) (
  .seq (
    .region [
      ⟨some 46, none, [], .p (.mv (.t 5))⟩,
      ⟨some 4, none, [], .p (.mv (.t 46))⟩]) (
  .ret))))))),
  47, [Sum.inl 4]⟩

theorem c40 : cFunc Try.prog quiet Try.f40 [] = some s40 := by kernel_rfl

-- 41 calls [43, 44]
def s41 : SFunc := ⟨
  .seq (
    .region [
      ⟨some 2, none, [], .p (.mv (.c (.slice none 0 0)))⟩,
      ⟨some 3, none, [], .p (.mv (.c (.int .i64 0)))⟩]) (
  .seq (
    .region [
      ⟨some 4, none, [], .p (.mv (.t 0))⟩,
      ⟨some 5, none, [], .call 4004 4 true (.f 43) [.t 4, .f 44]⟩,
      ⟨some 6, none, [], .p (.extract (.t 5) 0)⟩,
      ⟨some 7, none, [], .p (.extract (.t 5) 1)⟩,
      ⟨some 2, none, [], .p (.mv (.t 6))⟩,
      ⟨some 3, none, [], .p (.mv (.t 7))⟩]) (
  .ret)),
  8, [Sum.inl 2, Sum.inl 3]⟩

theorem c41 : cFunc Try.prog quiet Try.f41 [] = some s41 := by kernel_rfl

-- 42 calls []
abbrev k42_2 : List Nat := [0, 1, 5, 6, 7, 11]
abbrev a42_2 : List Nat := [0, 1, 5, 6]
abbrev e42_2 (v0 v1 v5 v6 v7 v11 : AV) : Env := [v0, v1, .dead, .dead, .dead, v5, v6, v7, .dead, .dead, .dead, v11, .dead, .dead, .dead, .dead, .dead, .dead, .dead, .dead, .dead, .dead, .dead, .dead, .dead, .dead, .dead, .dead, .dead, .dead, .dead, .dead, .dead, .dead, .dead, .dead, .dead, .dead, .dead, .dead, .dead, .dead, .dead, .dead, .dead, .dead, .dead, .dead, .dead]
abbrev x42_2 (v0 v1 v5 v6 : AV) : Env := [v0, v1, .dead, .dead, .dead, v5, v6, .dead, .dead, .dead, .dead, .dead, .dead, .dead, .dead, .dead, .dead, .dead, .dead, .dead, .dead, .dead, .dead, .dead, .dead, .dead, .dead, .dead, .dead, .dead, .dead, .dead, .dead, .dead, .dead, .dead, .dead, .dead, .dead, .dead, .dead, .dead, .dead, .dead, .dead, .dead, .dead, .dead, .dead]
def s42_b2 : SCode :=
  .seq (
    .seq (
      .region [
        ⟨some 37, none, [], .p (.mv (.t 11))⟩,
        ⟨some 38, none, [], .p (.bin .lss (.t 37) (.c (.int .i64 4)))⟩]) (
    .cond (.t 38) (
      .skip) (
      .exit 4))) (
  .seq (
    .block 5 (
      .region [
        ⟨some 41, none, [], .p (.mv (.t 5))⟩,
        ⟨some 42, none, [], .p (.mv (.t 11))⟩,
        ⟨some 43, none, [], .p (.iaddrA 4 1 (.t 7) (.t 42))⟩,
        ⟨some 44, none, [], .r (.load1 (.t 43))⟩,
        ⟨some 45, none, [], .a 72016 (.buildS 1 1 [byteAV 0] [(0, 1, .t 44)])⟩,
        ⟨some 46, none, [], .w (.append 72020 1 1 (.t 41) (.t 45))⟩,
        ⟨some 5, none, [], .p (.mv (.t 46))⟩])) (
  .region [
    ⟨some 39, none, [], .p (.mv (.t 11))⟩,
    ⟨some 40, none, [], .p (.bin .add (.t 39) (.c (.int .i64 1)))⟩,
    ⟨some 11, none, [], .p (.mv (.t 40))⟩]))

abbrev k42_1 : List Nat := [0, 1, 5, 6, 7, 8, 9]
abbrev a42_1 : List Nat := [0, 1, 5, 6, 7]
abbrev e42_1 (v0 v1 v5 v6 v7 v8 v9 : AV) : Env := [v0, v1, .dead, .dead, .dead, v5, v6, v7, v8, v9, .dead, .dead, .dead, .dead, .dead, .dead, .dead, .dead, .dead, .dead, .dead, .dead, .dead, .dead, .dead, .dead, .dead, .dead, .dead, .dead, .dead, .dead, .dead, .dead, .dead, .dead, .dead, .dead, .dead, .dead, .dead, .dead, .dead, .dead, .dead, .dead, .dead, .dead, .dead]
abbrev x42_1 (v0 v1 v5 v6 v7 : AV) : Env := [v0, v1, .dead, .dead, .dead, v5, v6, v7, .dead, .dead, .dead, .dead, .dead, .dead, .dead, .dead, .dead, .dead, .dead, .dead, .dead, .dead, .dead, .dead, .dead, .dead, .dead, .dead, .dead, .dead, .dead, .dead, .dead, .dead, .dead, .dead, .dead, .dead, .dead, .dead, .dead, .dead, .dead, .dead, .dead, .dead, .dead, .dead, .dead]
def s42_b1 : SCode :=
  .seq (
    .seq (
      .region [
        ⟨some 22, none, [], .p (.mv (.t 9))⟩,
        ⟨some 23, none, [], .p (.bin .lss (.t 22) (.c (.int .i64 4)))⟩]) (
    .cond (.t 23) (
      .skip) (
      .exit 2))) (
  .seq (
    .block 3 (
      .seq (
        .region [
          ⟨some 26, none, [], .p (.mv (.t 9))⟩,
          ⟨some 10, none, [], .p (.mv (.t 26))⟩]) (
      .seq (
        .seq (
          .region [
            ⟨some 27, none, [], .p (.mv (.t 1))⟩]) (
        .cond (.t 27) (
          .region [
            ⟨some 28, none, [], .p (.mv (.t 9))⟩,
            ⟨some 29, none, [], .p (.bin .sub (.c (.int .i64 3)) (.t 28))⟩,
            ⟨some 10, none, [], .p (.mv (.t 29))⟩]) (
          .skip))) (
      .seq (
        .region [
          ⟨some 30, none, [], .p (.mv (.t 10))⟩,
          ⟨some 31, none, [], .p (.mv (.t 8))⟩,
          ⟨some 32, none, [], .p (.bin .rem (.t 31) (.c (u32 256#32)))⟩,
          ⟨some 33, none, [], .p (.conv .u8 (.t 32))⟩,
          ⟨some 34, none, [], .p (.iaddrA 4 1 (.t 7) (.t 30))⟩,
          ⟨none, none, [], .w (.store1 (.t 34) (.t 33))⟩]) (
      .region [
        ⟨some 35, none, [], .p (.mv (.t 8))⟩,
        ⟨some 36, none, [], .p (.bin .quo (.t 35) (.c (u32 256#32)))⟩,
        ⟨some 8, none, [], .p (.mv (.t 36))⟩]))))) (
  .region [
    ⟨some 24, none, [], .p (.mv (.t 9))⟩,
    ⟨some 25, none, [], .p (.bin .add (.t 24) (.c (.int .i64 1)))⟩,
    ⟨some 9, none, [], .p (.mv (.t 25))⟩]))

abbrev k42_0 : List Nat := [0, 1, 5, 6]
abbrev a42_0 : List Nat := [5]
abbrev e42_0 (v0 v1 v5 v6 : AV) : Env := [v0, v1, .dead, .dead, .dead, v5, v6, .dead, .dead, .dead, .dead, .dead, .dead, .dead, .dead, .dead, .dead, .dead, .dead, .dead, .dead, .dead, .dead, .dead, .dead, .dead, .dead, .dead, .dead, .dead, .dead, .dead, .dead, .dead, .dead, .dead, .dead, .dead, .dead, .dead, .dead, .dead, .dead, .dead, .dead, .dead, .dead, .dead, .dead]
abbrev x42_0 (v5 : AV) : Env := [.dead, .dead, .dead, .dead, .dead, v5, .dead, .dead, .dead, .dead, .dead, .dead, .dead, .dead, .dead, .dead, .dead, .dead, .dead, .dead, .dead, .dead, .dead, .dead, .dead, .dead, .dead, .dead, .dead, .dead, .dead, .dead, .dead, .dead, .dead, .dead, .dead, .dead, .dead, .dead, .dead, .dead, .dead, .dead, .dead, .dead, .dead, .dead, .dead]
def s42_b0 : SCode :=
  .seq (
    .seq (
      .region [
        ⟨some 12, none, [], .p (.mv (.t 6))⟩,
        ⟨some 13, none, [], .p (.mv (.t 0))⟩,
        ⟨some 14, none, [], .p (.lenV true (.t 13))⟩,
        ⟨some 15, none, [], .p (.bin .lss (.t 12) (.t 14))⟩]) (
    .cond (.t 15) (
      .skip) (
      .exit 0))) (
  .seq (
    .block 1 (
      .seq (
        .region [
          ⟨some 7, none, [], .a 20000 (.alloc [byteAV 0, byteAV 0, byteAV 0, byteAV 0])⟩]) (
      .seq (
        .region [
          ⟨some 18, none, [], .p (.mv (.t 0))⟩,
          ⟨some 19, none, [], .p (.mv (.t 6))⟩,
          ⟨some 20, none, [], .p (.iaddrS 1 (.t 18) (.t 19))⟩,
          ⟨some 21, none, [], .r (.load1 (.t 20))⟩,
          ⟨some 8, none, [], .p (.mv (.t 21))⟩]) (
      .seq (
        .seq (
          .region [
            ⟨some 9, none, [], .p (.mv (.c (.int .i64 0)))⟩]) (
        .block 2 (
          .loop k42_1 a42_1 s42_b1))) (
      .seq (
        .region [
          ⟨some 11, none, [], .p (.mv (.c (.int .i64 0)))⟩]) (
      .block 4 (
        .loop k42_2 a42_2 s42_b2))))))) (
  .region [
    ⟨some 16, none, [], .p (.mv (.t 6))⟩,
    ⟨some 17, none, [], .p (.bin .add (.t 16) (.c (.int .i64 1)))⟩,
    ⟨some 6, none, [], .p (.mv (.t 17))⟩]))

def s42 : SFunc := ⟨
  .seq (
    .region [
      ⟨some 4, none, [], .p (.mv (.c (.str [])))⟩]) (
  .seq (
    .region [
      ⟨some 5, none, [], .p (.mv (.c (.slice none 0 0)))⟩]) (
  .seq (
    .seq (
      .region [
        ⟨some 6, none, [], .p (.mv (.c (.int .i64 0)))⟩]) (
    .block 0 (
      .loop k42_0 a42_0 s42_b0))) (
  .seq (
    .region [
      ⟨some 47, none, [], .p (.mv (.t 5))⟩,
      ⟨some 48, none, [], .r (.toStr (.t 47))⟩,
      ⟨some 4, none, [], .p (.mv (.t 48))⟩]) (
  .ret)))),
  49, [Sum.inl 4]⟩

theorem c42 : cFunc Try.prog quiet Try.f42 [[0, 1, 5, 6], [5], [0, 1, 5, 6, 7, 8, 9], [0, 1, 5, 6, 7], [0, 1, 5, 6, 7, 11], [0, 1, 5, 6]] = some s42 := by kernel_rfl

-- 43 calls []
abbrev k43_0 : List Nat := [0, 1, 6, 17, 18]
abbrev a43_0 : List Nat := [6]
abbrev e43_0 (v0 v1 v6 v17 v18 : AV) : Env := [v0, v1, .dead, .dead, .dead, .dead, v6, .dead, .dead, .dead, .dead, .dead, .dead, .dead, .dead, .dead, .dead, v17, v18, .dead, .dead, .dead, .dead, .dead, .dead, .dead, .dead, .dead, .dead, .dead, .dead, .dead, .dead, .dead, .dead, .dead, .dead, .dead, .dead, .dead, .dead, .dead, .dead, .dead, .dead, .dead, .dead, .dead, .dead, .dead, .dead]
abbrev x43_0 (v6 : AV) : Env := [.dead, .dead, .dead, .dead, .dead, .dead, v6, .dead, .dead, .dead, .dead, .dead, .dead, .dead, .dead, .dead, .dead, .dead, .dead, .dead, .dead, .dead, .dead, .dead, .dead, .dead, .dead, .dead, .dead, .dead, .dead, .dead, .dead, .dead, .dead, .dead, .dead, .dead, .dead, .dead, .dead, .dead, .dead, .dead, .dead, .dead, .dead, .dead, .dead, .dead, .dead]
def s43_b0 : SCode :=
  .seq (
    .region [
      ⟨some 19, none, [], .p (.bin .lss (.t 18) (.t 17))⟩]) (
  .seq (
    .cond (.t 19) (
      .skip) (
      .exit 0)) (
  .seq (
    .block 1 (
      .seq (
        .region [
          ⟨some 20, none, [], .p (.mv (.t 18))⟩,
          ⟨some 7, none, [], .p (.mv (.t 20))⟩]) (
      .region [
        ⟨some 21, none, [], .p (.mv (.t 6))⟩,
        ⟨some 22, none, [], .p (.mv (.t 7))⟩,
        ⟨some 23, none, [], .p (.mv (.t 1))⟩,
        ⟨some 24, none, [], .p (.mv (.t 0))⟩,
        ⟨some 25, none, [], .p (.mv (.t 7))⟩,
        ⟨some 26, none, [], .p (.bin .mul (.c (.int .i64 4)) (.t 25))⟩,
        ⟨some 27, none, [], .p (.idxStr (.t 24) (.t 26))⟩,
        ⟨some 28, none, [], .p (.conv .u32 (.t 27))⟩,
        ⟨some 29, none, [], .p (.mv (.t 0))⟩,
        ⟨some 30, none, [], .p (.mv (.t 7))⟩,
        ⟨some 31, none, [], .p (.bin .mul (.c (.int .i64 4)) (.t 30))⟩,
        ⟨some 32, none, [], .p (.bin .add (.t 31) (.c (.int .i64 1)))⟩,
        ⟨some 33, none, [], .p (.idxStr (.t 29) (.t 32))⟩,
        ⟨some 34, none, [], .p (.conv .u32 (.t 33))⟩,
        ⟨some 35, none, [], .p (.mv (.t 0))⟩,
        ⟨some 36, none, [], .p (.mv (.t 7))⟩,
        ⟨some 37, none, [], .p (.bin .mul (.c (.int .i64 4)) (.t 36))⟩,
        ⟨some 38, none, [], .p (.bin .add (.t 37) (.c (.int .i64 2)))⟩,
        ⟨some 39, none, [], .p (.idxStr (.t 35) (.t 38))⟩,
        ⟨some 40, none, [], .p (.conv .u32 (.t 39))⟩,
        ⟨some 41, none, [], .p (.mv (.t 0))⟩,
        ⟨some 42, none, [], .p (.mv (.t 7))⟩,
        ⟨some 43, none, [], .p (.bin .mul (.c (.int .i64 4)) (.t 42))⟩,
        ⟨some 44, none, [], .p (.bin .add (.t 43) (.c (.int .i64 3)))⟩,
        ⟨some 45, none, [], .p (.idxStr (.t 41) (.t 44))⟩,
        ⟨some 46, none, [], .p (.conv .u32 (.t 45))⟩,
        ⟨some 47, none, [], .call 28104 4 true (.t 23) [.t 28, .t 34, .t 40, .t 46]⟩,
        ⟨some 48, none, [], .p (.iaddrS 1 (.t 21) (.t 22))⟩,
        ⟨none, none, [], .w (.store1 (.t 48) (.t 47))⟩]))) (
  .region [
    ⟨some 49, none, [], .p (.bin .add (.t 18) (.c (.int .i64 1)))⟩,
    ⟨some 18, none, [], .p (.mv (.t 49))⟩])))

def s43 : SFunc := ⟨
  .seq (
    .region [
      ⟨some 4, none, [], .p (.mv (.c (.slice none 0 0)))⟩,
      ⟨some 5, none, [], .p (.mv (.c (.int .i64 0)))⟩]) (
  .seq (
    .seq (
      .region [
        ⟨some 8, none, [], .p (.mv (.t 0))⟩,
        ⟨some 9, none, [], .p (.lenV false (.t 8))⟩,
        ⟨some 10, none, [], .p (.bin .rem (.t 9) (.c (.int .i64 4)))⟩,
        ⟨some 11, none, [], .p (.bin .neq (.t 10) (.c (.int .i64 0)))⟩]) (
    .cond (.t 11) (
      .seq (
        .region [
          ⟨some 4, none, [], .p (.mv (.c (.slice none 0 0)))⟩,
          ⟨some 5, none, [], .p (.mv (.c (.int .i64 7)))⟩]) (
      .ret)) (
      .skip))) (
  .seq (
    .region [
      ⟨some 12, none, [], .p (.mv (.t 0))⟩,
      ⟨some 13, none, [], .p (.lenV false (.t 12))⟩,
      ⟨some 14, none, [], .p (.bin .quo (.t 13) (.c (.int .i64 4)))⟩,
      ⟨some 15, none, [], .a 12012 (.mkSlice 1 4 [u32 0#32] (.t 14) (.t 14))⟩,
      ⟨some 6, none, [], .p (.mv (.t 15))⟩]) (
  .seq (
    .seq (
      .region [
        ⟨some 16, none, [], .p (.mv (.t 6))⟩,
        ⟨some 17, none, [], .p (.lenV true (.t 16))⟩,
        ⟨some 18, none, [], .p (.mv (.c (.int .i64 0)))⟩]) (
    .block 0 (
      .loop k43_0 a43_0 s43_b0))) (
  .seq (
    .region [
      ⟨some 50, none, [], .p (.mv (.t 6))⟩,
      ⟨some 4, none, [], .p (.mv (.t 50))⟩,
      ⟨some 5, none, [], .p (.mv (.c (.int .i64 0)))⟩]) (
  .ret))))),
  51, [Sum.inl 4, Sum.inl 5]⟩

theorem c43 : cFunc Try.prog quiet Try.f43 [[0, 1, 6, 17, 18], [6]] = some s43 := by kernel_rfl

-- 44 calls []
def s44 : SFunc := ⟨
  .seq (
    .region [
      ⟨some 8, none, [], .p (.mv (.c (u32 0#32)))⟩]) (
  .seq (
    .region [
      ⟨some 9, none, [], .p (.mv (.t 0))⟩,
      ⟨some 10, none, [], .p (.bin .shl (.t 9) (.c (u64 24#64)))⟩,
      ⟨some 11, none, [], .p (.mv (.t 1))⟩,
      ⟨some 12, none, [], .p (.bin .shl (.t 11) (.c (u64 16#64)))⟩,
      ⟨some 13, none, [], .p (.bin .or (.t 10) (.t 12))⟩,
      ⟨some 14, none, [], .p (.mv (.t 2))⟩,
      ⟨some 15, none, [], .p (.bin .shl (.t 14) (.c (u64 8#64)))⟩,
      ⟨some 16, none, [], .p (.bin .or (.t 13) (.t 15))⟩,
      ⟨some 17, none, [], .p (.mv (.t 3))⟩,
      ⟨some 18, none, [], .p (.bin .or (.t 16) (.t 17))⟩,
      ⟨some 8, none, [], .p (.mv (.t 18))⟩]) (
  .ret)),
  19, [Sum.inl 8]⟩

theorem c44 : cFunc Try.prog quiet Try.f44 [] = some s44 := by kernel_rfl

def SP : SProg := tabP [(3, s3), (4, s4), (5, s5), (7, s7), (8, s8), (9, s9), (10, s10), (11, s11), (12, s12), (13, s13), (14, s14), (15, s15), (16, s16), (17, s17), (18, s18), (19, s19), (20, s20), (21, s21), (22, s22), (23, s23), (24, s24), (25, s25), (26, s26), (27, s27), (28, s28), (29, s29), (30, s30), (31, s31), (32, s32), (33, s33), (34, s34), (35, s35), (36, s36), (37, s37), (38, s38), (39, s39), (40, s40), (41, s41), (42, s42), (43, s43), (44, s44)]

theorem comp : Comp Try.prog SP := comp_of (by kernel_rfl) ⟨⟨quiet, _, _, Try.func3, c3⟩, ⟨quiet, _, _, Try.func4, c4⟩, ⟨quiet, _, _, Try.func5, c5⟩, ⟨quiet, _, _, Try.func7, c7⟩, ⟨quiet, _, _, Try.func8, c8⟩, ⟨quiet, _, _, Try.func9, c9⟩, ⟨quiet, _, _, Try.func10, c10⟩, ⟨quiet, _, _, Try.func11, c11⟩, ⟨quiet, _, _, Try.func12, c12⟩, ⟨quiet, _, _, Try.func13, c13⟩, ⟨quiet, _, _, Try.func14, c14⟩, ⟨quiet, _, _, Try.func15, c15⟩, ⟨quiet, _, _, Try.func16, c16⟩, ⟨quiet, _, _, Try.func17, c17⟩, ⟨quiet, _, _, Try.func18, c18⟩, ⟨quiet, _, _, Try.func19, c19⟩, ⟨quiet, _, _, Try.func20, c20⟩, ⟨quiet, _, _, Try.func21, c21⟩, ⟨quiet, _, _, Try.func22, c22⟩, ⟨quiet, _, _, Try.func23, c23⟩, ⟨quiet, _, _, Try.func24, c24⟩, ⟨quiet, _, _, Try.func25, c25⟩, ⟨quiet, _, _, Try.func26, c26⟩, ⟨quiet, _, _, Try.func27, c27⟩, ⟨quiet, _, _, Try.func28, c28⟩, ⟨quiet, _, _, Try.func29, c29⟩, ⟨quiet, _, _, Try.func30, c30⟩, ⟨quiet, _, _, Try.func31, c31⟩, ⟨quiet, _, _, Try.func32, c32⟩, ⟨quiet, _, _, Try.func33, c33⟩, ⟨quiet, _, _, Try.func34, c34⟩, ⟨quiet, _, _, Try.func35, c35⟩, ⟨quiet, _, _, Try.func36, c36⟩, ⟨quiet, _, _, Try.func37, c37⟩, ⟨quiet, _, _, Try.func38, c38⟩, ⟨quiet, _, _, Try.func39, c39⟩, ⟨quiet, _, _, Try.func40, c40⟩, ⟨quiet, _, _, Try.func41, c41⟩, ⟨quiet, _, _, Try.func42, c42⟩, ⟨quiet, _, _, Try.func43, c43⟩, ⟨quiet, _, _, Try.func44, c44⟩, trivial⟩


end Go.Proofs.Ytkgbceeonmdlgaa
