import Derived.Test.YtpaagjjgmlmngaaProg
import Derived.Test.YtpaagjjgmlmngaaDetQ
import Derived.KernelRfl
set_option maxRecDepth 100000
namespace Go.Proofs.Ytpaagjjgmlmngaa
open Go.Det

def quiet : Nat → Bool := (fun _ => true)

-- 3 calls [15]
def s3 : SFunc := ⟨
  .seq (
    .region [
      ⟨some 4, none, [], .p (.mv (.c (.bool false)))⟩]) (
  .seq (
    .region [
      ⟨some 5, none, [], .call 4000 4 true (.f 15) [.c (.str [97, 98]), .c (.str [97, 98])]⟩,
      ⟨some 6, none, [], .p (.mv (.t 5))⟩,
      ⟨some 7, some (6, true), [], .call 4008 4 true (.f 15) [.c (.str [97, 98]), .c (.str [97, 99])]⟩,
      ⟨some 8, some (6, true), [], .p (.un .not (.t 7))⟩,
      ⟨some 9, none, [], .p (.pick (.t 6) (.t 8) (.c (.bool false)))⟩,
      ⟨some 10, none, [], .p (.mv (.t 9))⟩,
      ⟨some 11, some (10, true), [], .p (.mv (.t 0))⟩,
      ⟨some 12, some (10, true), [], .p (.mv (.t 1))⟩,
      ⟨some 13, some (10, true), [], .call 4032 4 true (.f 15) [.t 11, .t 12]⟩,
      ⟨some 14, some (10, true), [], .p (.mv (.t 0))⟩,
      ⟨some 15, some (10, true), [], .p (.mv (.t 1))⟩,
      ⟨some 16, some (10, true), [], .p (.bin .eql (.t 14) (.t 15))⟩,
      ⟨some 17, some (10, true), [], .p (.eqb false (.t 13) (.t 16))⟩,
      ⟨some 18, none, [], .p (.pick (.t 10) (.t 17) (.c (.bool false)))⟩,
      ⟨some 19, none, [], .p (.mv (.t 18))⟩,
      ⟨some 20, some (19, true), [], .p (.mv (.t 0))⟩,
      ⟨some 21, some (19, true), [], .p (.mv (.t 0))⟩,
      ⟨some 22, some (19, true), [], .call 4068 4 true (.f 15) [.t 20, .t 21]⟩,
      ⟨some 23, none, [], .p (.pick (.t 19) (.t 22) (.c (.bool false)))⟩,
      ⟨some 24, none, [], .p (.mv (.t 23))⟩,
      ⟨some 25, some (24, true), [], .p (.mv (.t 0))⟩,
      ⟨some 26, some (24, true), [], .p (.mv (.t 0))⟩,
      ⟨some 27, some (24, true), [], .p (.bin .add (.t 26) (.c (.str [120])))⟩,
      ⟨some 28, some (24, true), [], .call 4092 4 true (.f 15) [.t 25, .t 27]⟩,
      ⟨some 29, some (24, true), [], .p (.un .not (.t 28))⟩,
      ⟨some 30, none, [], .p (.pick (.t 24) (.t 29) (.c (.bool false)))⟩,
      ⟨some 4, none, [], .p (.mv (.t 30))⟩]) (
  .ret)),
  31, [Sum.inl 4]⟩

theorem c3 : cFunc Try.prog quiet Try.f3 [] = some s3 := by kernel_rfl

-- 15 calls []
abbrev k15_0 : List Nat := [0, 1, 5, 13, 14]
abbrev a15_0 : List Nat := [5]
abbrev e15_0 (v0 v1 v5 v13 v14 : AV) : Env := [v0, v1, .dead, .dead, .dead, v5, .dead, .dead, .dead, .dead, .dead, .dead, .dead, v13, v14, .dead, .dead, .dead, .dead, .dead, .dead, .dead, .dead, .dead, .dead, .dead, .dead, .dead, .dead]
abbrev x15_0 (v5 : AV) : Env := [.dead, .dead, .dead, .dead, .dead, v5, .dead, .dead, .dead, .dead, .dead, .dead, .dead, .dead, .dead, .dead, .dead, .dead, .dead, .dead, .dead, .dead, .dead, .dead, .dead, .dead, .dead, .dead, .dead]
def s15_b0 : SCode :=
  .seq (
    .region [
      ⟨some 15, none, [], .p (.bin .lss (.t 14) (.t 13))⟩]) (
  .seq (
    .cond (.t 15) (
      .skip) (
      .exit 0)) (
  .seq (
    .block 1 (
      .seq (
        .region [
          ⟨some 16, none, [], .p (.mv (.t 14))⟩,
          ⟨some 6, none, [], .p (.mv (.t 16))⟩]) (
      .region [
        ⟨some 17, none, [], .p (.mv (.t 5))⟩,
        ⟨some 18, none, [], .p (.mv (.t 0))⟩,
        ⟨some 19, none, [], .p (.mv (.t 6))⟩,
        ⟨some 20, none, [], .p (.idxStr (.t 18) (.t 19))⟩,
        ⟨some 21, none, [], .p (.mv (.t 1))⟩,
        ⟨some 22, none, [], .p (.mv (.t 6))⟩,
        ⟨some 23, none, [], .p (.idxStr (.t 21) (.t 22))⟩,
        ⟨some 24, none, [], .p (.bin .xor (.t 20) (.t 23))⟩,
        ⟨some 25, none, [], .p (.bin .or (.t 17) (.t 24))⟩,
        ⟨some 5, none, [], .p (.mv (.t 25))⟩]))) (
  .region [
    ⟨some 26, none, [], .p (.bin .add (.t 14) (.c (.int .i64 1)))⟩,
    ⟨some 14, none, [], .p (.mv (.t 26))⟩])))

def s15 : SFunc := ⟨
  .seq (
    .region [
      ⟨some 4, none, [], .p (.mv (.c (.bool false)))⟩]) (
  .seq (
    .seq (
      .region [
        ⟨some 7, none, [], .p (.mv (.t 0))⟩,
        ⟨some 8, none, [], .p (.lenV false (.t 7))⟩,
        ⟨some 9, none, [], .p (.mv (.t 1))⟩,
        ⟨some 10, none, [], .p (.lenV false (.t 9))⟩,
        ⟨some 11, none, [], .p (.bin .neq (.t 8) (.t 10))⟩]) (
    .cond (.t 11) (
      .seq (
        .region [
          ⟨some 4, none, [], .p (.mv (.c (.bool false)))⟩]) (
      .ret)) (
      .skip))) (
  .seq (
    .region [
      ⟨some 5, none, [], .p (.mv (.c (byteAV 0)))⟩]) (
  .seq (
    .seq (
      .region [
        ⟨some 12, none, [], .p (.mv (.t 0))⟩,
        ⟨some 13, none, [], .p (.lenV false (.t 12))⟩,
        ⟨some 14, none, [], .p (.mv (.c (.int .i64 0)))⟩]) (
    .block 0 (
      .loop k15_0 a15_0 s15_b0))) (
  .seq (
    .region [
      ⟨some 27, none, [], .p (.mv (.t 5))⟩,
      ⟨some 28, none, [], .p (.bin .eql (.t 27) (.c (byteAV 0)))⟩,
      ⟨some 4, none, [], .p (.mv (.t 28))⟩]) (
  .ret))))),
  29, [Sum.inl 4]⟩

theorem c15 : cFunc Try.prog quiet Try.f15 [[0, 1, 5, 13, 14], [5]] = some s15 := by kernel_rfl

def SP : SProg := tabP [(3, s3), (15, s15)]

theorem comp : Comp Try.prog SP := comp_of (by kernel_rfl) ⟨⟨quiet, _, _, Try.func3, c3⟩, ⟨quiet, _, _, Try.func15, c15⟩, trivial⟩


end Go.Proofs.Ytpaagjjgmlmngaa
