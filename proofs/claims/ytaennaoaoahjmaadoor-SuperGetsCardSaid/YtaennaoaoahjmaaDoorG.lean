import Derived.Test.YtaennaoaoahjmaaDoorProg
import Derived.Test.YtaennaoaoahjmaaDoorDetQ
import Derived.KernelRfl
import Derived.Test.YtaennaoaoahjmaaDoorShelf
import Derived.Test.YtaennaoaoahjmaaDoorBld
set_option maxRecDepth 100000
namespace Go.Proofs.YtaennaoaoahjmaaDoor
open Go.Det

def quiet : Qs := (⟨(fun n => !([5020032, 5040016, 5060052, 40, 31, 41, 51, 32, 35, 36, 43, 69, 78] : List Nat).contains n), fun _ => none⟩ : Qs)

-- 7 calls [20, 21, 22, 23, 24, 25]
def s7 : SFunc := ⟨
  .seq (
    .region [
      ⟨some 2, none, [], .p (.mv (.c (.bool false)))⟩]) (
  .seq (
    .region [
      ⟨some 7, none, [], .p (.mv (.t 0))⟩,
      ⟨some 8, none, [], .p (.mv (.t 0))⟩,
      ⟨some 9, none, [], .p (.lenV false (.t 8))⟩,
      ⟨some 10, none, [], .p (.minmax false (.t 9) (.c (.int .i64 1500)))⟩,
      ⟨some 11, none, [], .p (.slcStr (.t 7) none (some (.t 10)))⟩,
      ⟨some 0, none, [], .p (.mv (.t 11))⟩]) (
  .seq (
    .region [
      ⟨some 13, none, [], .p (.mv (.t 0))⟩,
      ⟨some 14, none, [], .call 8004 4 true (.f 20) [.t 13]⟩,
      ⟨some 12, none, [], .p (.mv (.t 14))⟩,
      ⟨some 15, none, [], .p (.extract (.t 12) 0)⟩,
      ⟨some 16, none, [], .p (.extract (.t 12) 1)⟩,
      ⟨some 3, none, [], .a 8020 (.alloc [u64 0#64, u64 0#64, .int .i64 0, .int .i64 0, .int .i64 0, .int .i64 0, .bool false, .slice none 0 0, .slice none 0 0])⟩,
      ⟨none, none, [], .w (.storeN 9 (.t 3) (.t 15))⟩,
      ⟨some 4, none, [], .p (.mv (.t 16))⟩]) (
  .seq (
    .region [
      ⟨some 18, none, [], .p (.mv (.t 0))⟩,
      ⟨some 19, none, [], .call 12004 4 true (.f 21) [.t 18]⟩,
      ⟨some 17, none, [], .p (.mv (.t 19))⟩,
      ⟨some 20, none, [], .p (.extract (.t 17) 0)⟩,
      ⟨some 21, none, [], .p (.extract (.t 17) 1)⟩,
      ⟨some 5, none, [], .a 12020 (.alloc [u64 0#64, u64 0#64, .int .i64 0, .int .i64 0, .int .i64 0, .int .i64 0, .bool false, .slice none 0 0, .slice none 0 0])⟩,
      ⟨none, none, [], .w (.storeN 9 (.t 5) (.t 20))⟩,
      ⟨some 6, none, [], .p (.mv (.t 21))⟩]) (
  .seq (
    .region [
      ⟨some 22, none, [], .call 16000 4 true (.f 22) []⟩,
      ⟨some 23, none, [], .p (.mv (.t 22))⟩,
      ⟨some 24, some (23, true), [], .p (.mv (.t 4))⟩,
      ⟨some 25, some (23, true), [], .p (.mv (.t 6))⟩,
      ⟨some 26, some (23, true), [], .p (.bin .eql (.t 24) (.t 25))⟩,
      ⟨some 27, none, [], .p (.pick (.t 23) (.t 26) (.c (.bool false)))⟩,
      ⟨some 28, none, [], .p (.mv (.t 27))⟩,
      ⟨some 29, some (28, true), [], .r (.loadN 9 (.t 3))⟩,
      ⟨some 30, some (28, true), [], .r (.loadN 9 (.t 5))⟩,
      ⟨some 31, some (28, true), [], .call 16036 4 true (.f 23) [.t 29, .t 30]⟩,
      ⟨some 32, none, [], .p (.pick (.t 28) (.t 31) (.c (.bool false)))⟩,
      ⟨some 33, none, [], .p (.mv (.t 32))⟩,
      ⟨some 34, some (33, true), [], .p (.mv (.t 0))⟩,
      ⟨some 35, some (33, true), [], .call 16052 4 true (.f 24) [.t 34]⟩,
      ⟨some 36, some (33, true), [], .p (.mv (.t 0))⟩,
      ⟨some 37, some (33, true), [], .call 16060 4 true (.f 25) [.t 36]⟩,
      ⟨some 38, some (33, true), [], .p (.bin .eql (.t 35) (.t 37))⟩,
      ⟨some 39, none, [], .p (.pick (.t 33) (.t 38) (.c (.bool false)))⟩,
      ⟨some 2, none, [], .p (.mv (.t 39))⟩]) (
  .ret))))),
  40, [Sum.inl 2]⟩

theorem c7 : cFunc Tryd.prog quiet Tryd.f7 [] = some s7 := by kernel_rfl

-- 20 calls [30, 31, 33, 40, 41, 42]
abbrev k20_2 : List Nat := [2, 4, 5, 46, 47]
abbrev a20_2 : List Nat := [2, 4, 5]
abbrev e20_2 (v2 v4 v5 v46 v47 : AV) : Env := [.dead, .dead, v2, .dead, v4, v5, .dead, .dead, .dead, .dead, .dead, .dead, .dead, .dead, .dead, .dead, .dead, .dead, .dead, .dead, .dead, .dead, .dead, .dead, .dead, .dead, .dead, .dead, .dead, .dead, .dead, .dead, .dead, .dead, .dead, .dead, .dead, .dead, .dead, .dead, .dead, .dead, .dead, .dead, .dead, .dead, v46, v47, .dead, .dead, .dead, .dead, .dead, .dead, .dead, .dead, .dead, .dead, .dead, .dead, .dead, .dead, .dead, .dead, .dead, .dead, .dead]
abbrev x20_2 (v2 v4 v5 : AV) : Env := [.dead, .dead, v2, .dead, v4, v5, .dead, .dead, .dead, .dead, .dead, .dead, .dead, .dead, .dead, .dead, .dead, .dead, .dead, .dead, .dead, .dead, .dead, .dead, .dead, .dead, .dead, .dead, .dead, .dead, .dead, .dead, .dead, .dead, .dead, .dead, .dead, .dead, .dead, .dead, .dead, .dead, .dead, .dead, .dead, .dead, .dead, .dead, .dead, .dead, .dead, .dead, .dead, .dead, .dead, .dead, .dead, .dead, .dead, .dead, .dead, .dead, .dead, .dead, .dead, .dead, .dead]
def s20_b2 : SCode :=
  .seq (
    .region [
      ⟨some 48, none, [], .p (.bin .lss (.t 47) (.t 46))⟩]) (
  .seq (
    .cond (.t 48) (
      .skip) (
      .exit 4)) (
  .seq (
    .block 5 (
      .region [
        ⟨some 49, none, [], .p (.faddr 8 (.t 5))⟩,
        ⟨some 50, none, [68012, 68013, 68014, 68015, 68016], .r (.loadT 8000 (.t 49))⟩,
        ⟨some 51, none, [], .p (.mv (.t 4))⟩,
        ⟨some 52, none, [8000], .call 68012 4 false (.f 41) [.t 51]⟩,
        ⟨some 53, none, [8000], .a 68016 (.buildS 3 1 [.int .i64 0, .str [], .str []] [(0, 3, .t 52)])⟩,
        ⟨some 54, none, [], .w (.append 68020 3 40 (.t 50) (.t 53))⟩,
        ⟨some 55, none, [], .p (.faddr 8 (.t 5))⟩,
        ⟨none, none, [], .w (.store1 (.t 55) (.t 54))⟩])) (
  .region [
    ⟨some 56, none, [], .p (.bin .add (.t 47) (.c (.int .i64 1)))⟩,
    ⟨some 47, none, [], .p (.mv (.t 56))⟩])))

abbrev k20_1 : List Nat := [2, 4, 5, 34, 35]
abbrev a20_1 : List Nat := [2, 4, 5]
abbrev e20_1 (v2 v4 v5 v34 v35 : AV) : Env := [.dead, .dead, v2, .dead, v4, v5, .dead, .dead, .dead, .dead, .dead, .dead, .dead, .dead, .dead, .dead, .dead, .dead, .dead, .dead, .dead, .dead, .dead, .dead, .dead, .dead, .dead, .dead, .dead, .dead, .dead, .dead, .dead, .dead, v34, v35, .dead, .dead, .dead, .dead, .dead, .dead, .dead, .dead, .dead, .dead, .dead, .dead, .dead, .dead, .dead, .dead, .dead, .dead, .dead, .dead, .dead, .dead, .dead, .dead, .dead, .dead, .dead, .dead, .dead, .dead, .dead]
abbrev x20_1 (v2 v4 v5 : AV) : Env := [.dead, .dead, v2, .dead, v4, v5, .dead, .dead, .dead, .dead, .dead, .dead, .dead, .dead, .dead, .dead, .dead, .dead, .dead, .dead, .dead, .dead, .dead, .dead, .dead, .dead, .dead, .dead, .dead, .dead, .dead, .dead, .dead, .dead, .dead, .dead, .dead, .dead, .dead, .dead, .dead, .dead, .dead, .dead, .dead, .dead, .dead, .dead, .dead, .dead, .dead, .dead, .dead, .dead, .dead, .dead, .dead, .dead, .dead, .dead, .dead, .dead, .dead, .dead, .dead, .dead, .dead]
def s20_b1 : SCode :=
  .seq (
    .region [
      ⟨some 36, none, [], .p (.bin .lss (.t 35) (.t 34))⟩]) (
  .seq (
    .cond (.t 36) (
      .skip) (
      .exit 2)) (
  .seq (
    .block 3 (
      .region [
        ⟨some 37, none, [], .p (.faddr 7 (.t 5))⟩,
        ⟨some 38, none, [52012, 52013, 52014, 52015, 52016], .r (.loadT 8000 (.t 37))⟩,
        ⟨some 39, none, [], .p (.mv (.t 4))⟩,
        ⟨some 40, none, [8000], .call 52012 4 false (.f 31) [.t 39, .c (.int .i64 12)]⟩,
        ⟨some 41, none, [8000], .a 52016 (.buildS 1 1 [.int .i64 0] [(0, 1, .t 40)])⟩,
        ⟨some 42, none, [], .w (.append 52020 1 8 (.t 38) (.t 41))⟩,
        ⟨some 43, none, [], .p (.faddr 7 (.t 5))⟩,
        ⟨none, none, [], .w (.store1 (.t 43) (.t 42))⟩])) (
  .region [
    ⟨some 44, none, [], .p (.bin .add (.t 35) (.c (.int .i64 1)))⟩,
    ⟨some 35, none, [], .p (.mv (.t 44))⟩])))

abbrev k20_0 : List Nat := [2, 4, 5, 20, 21]
abbrev a20_0 : List Nat := [2, 4, 5]
abbrev e20_0 (v2 v4 v5 v20 v21 : AV) : Env := [.dead, .dead, v2, .dead, v4, v5, .dead, .dead, .dead, .dead, .dead, .dead, .dead, .dead, .dead, .dead, .dead, .dead, .dead, .dead, v20, v21, .dead, .dead, .dead, .dead, .dead, .dead, .dead, .dead, .dead, .dead, .dead, .dead, .dead, .dead, .dead, .dead, .dead, .dead, .dead, .dead, .dead, .dead, .dead, .dead, .dead, .dead, .dead, .dead, .dead, .dead, .dead, .dead, .dead, .dead, .dead, .dead, .dead, .dead, .dead, .dead, .dead, .dead, .dead, .dead, .dead]
abbrev x20_0 (v2 v4 v5 : AV) : Env := [.dead, .dead, v2, .dead, v4, v5, .dead, .dead, .dead, .dead, .dead, .dead, .dead, .dead, .dead, .dead, .dead, .dead, .dead, .dead, .dead, .dead, .dead, .dead, .dead, .dead, .dead, .dead, .dead, .dead, .dead, .dead, .dead, .dead, .dead, .dead, .dead, .dead, .dead, .dead, .dead, .dead, .dead, .dead, .dead, .dead, .dead, .dead, .dead, .dead, .dead, .dead, .dead, .dead, .dead, .dead, .dead, .dead, .dead, .dead, .dead, .dead, .dead, .dead, .dead, .dead, .dead]
def s20_b0 : SCode :=
  .seq (
    .region [
      ⟨some 22, none, [], .p (.bin .lss (.t 21) (.c (.int .i64 4)))⟩]) (
  .seq (
    .cond (.t 22) (
      .skip) (
      .exit 0)) (
  .seq (
    .block 1 (
      .seq (
        .region [
          ⟨some 23, none, [], .p (.idxA 4 (.t 20) (.t 21))⟩,
          ⟨some 7, none, [], .p (.mv (.t 23))⟩]) (
      .region [
        ⟨some 24, none, [], .p (.mv (.t 7))⟩,
        ⟨some 25, none, [], .p (.mv (.t 4))⟩,
        ⟨some 26, none, [], .call 32008 4 false (.f 31) [.t 25, .c (.int .i64 17)]⟩,
        ⟨some 27, none, [], .p (.nilChk (.t 24))⟩,
        ⟨none, none, [], .w (.store1 (.t 27) (.t 26))⟩]))) (
  .region [
    ⟨some 28, none, [], .p (.bin .add (.t 21) (.c (.int .i64 1)))⟩,
    ⟨some 21, none, [], .p (.mv (.t 28))⟩])))

def s20 : SFunc := ⟨
  .seq (
    .region [
      ⟨some 2, none, [], .a 0 (.alloc [u64 0#64, u64 0#64, .int .i64 0, .int .i64 0, .int .i64 0, .int .i64 0, .bool false, .slice none 0 0, .slice none 0 0])⟩,
      ⟨some 3, none, [], .p (.mv (.c (.int .i64 0)))⟩]) (
  .seq (
    .region [
      ⟨some 8, none, [], .p (.mv (.t 0))⟩,
      ⟨some 9, none, [], .call 4004 4 true (.f 30) [.t 8]⟩,
      ⟨some 4, none, [], .p (.mv (.t 9))⟩]) (
  .seq (
    .region [
      ⟨some 5, none, [], .a 8000 (.alloc [u64 0#64, u64 0#64, .int .i64 0, .int .i64 0, .int .i64 0, .int .i64 0, .bool false, .slice none 0 0, .slice none 0 0])⟩]) (
  .seq (
    .region [
      ⟨some 10, none, [], .p (.mv (.t 4))⟩,
      ⟨some 11, none, [], .call 12004 4 false (.f 40) [.t 10]⟩,
      ⟨some 12, none, [], .p (.faddr 0 (.t 5))⟩,
      ⟨none, none, [], .w (.store1 (.t 12) (.t 11))⟩]) (
  .seq (
    .region [
      ⟨some 13, none, [], .p (.mv (.t 4))⟩,
      ⟨some 14, none, [], .call 16004 4 false (.f 40) [.t 13]⟩,
      ⟨some 15, none, [], .p (.faddr 1 (.t 5))⟩,
      ⟨none, none, [], .w (.store1 (.t 15) (.t 14))⟩]) (
  .seq (
    .seq (
      .region [
        ⟨some 16, none, [], .p (.faddr 2 (.t 5))⟩,
        ⟨some 17, none, [], .p (.faddr 3 (.t 5))⟩,
        ⟨some 18, none, [], .p (.faddr 4 (.t 5))⟩,
        ⟨some 19, none, [], .p (.faddr 5 (.t 5))⟩,
        ⟨some 20, none, [], .p (.build [.ptr none, .ptr none, .ptr none, .ptr none] [(0, 1, .t 16), (1, 1, .t 17), (2, 1, .t 18), (3, 1, .t 19)])⟩,
        ⟨some 21, none, [], .p (.mv (.c (.int .i64 0)))⟩]) (
    .block 0 (
      .loop k20_0 a20_0 s20_b0))) (
  .seq (
    .region [
      ⟨some 29, none, [], .p (.mv (.t 4))⟩,
      ⟨some 30, none, [], .call 40004 4 false (.f 31) [.t 29, .c (.int .i64 2)]⟩,
      ⟨some 31, none, [], .p (.bin .eql (.t 30) (.c (.int .i64 1)))⟩,
      ⟨some 32, none, [], .p (.faddr 6 (.t 5))⟩,
      ⟨none, none, [], .w (.store1 (.t 32) (.t 31))⟩]) (
  .seq (
    .seq (
      .region [
        ⟨some 33, none, [], .p (.mv (.t 4))⟩,
        ⟨some 34, none, [], .call 44004 4 false (.f 31) [.t 33, .c (.int .i64 13)]⟩,
        ⟨some 35, none, [], .p (.mv (.c (.int .i64 0)))⟩]) (
    .block 2 (
      .loop k20_1 a20_1 s20_b1))) (
  .seq (
    .seq (
      .region [
        ⟨some 45, none, [], .p (.mv (.t 4))⟩,
        ⟨some 46, none, [], .call 60004 4 false (.f 31) [.t 45, .c (.int .i64 13)]⟩,
        ⟨some 47, none, [], .p (.mv (.c (.int .i64 0)))⟩]) (
    .block 4 (
      .loop k20_2 a20_2 s20_b2))) (
  .seq (
    .seq (
      .region [
        ⟨some 57, none, [], .p (.mv (.t 4))⟩,
        ⟨some 58, none, [], .call 76004 4 true (.f 33) [.t 57]⟩,
        ⟨some 59, none, [], .p (.bin .neq (.t 58) (.c (.int .i64 0)))⟩,
        ⟨some 60, none, [], .p (.mv (.t 59))⟩,
        ⟨some 61, some (60, false), [], .r (.loadN 9 (.t 5))⟩,
        ⟨some 62, some (60, false), [], .call 76020 4 true (.f 42) [.t 61]⟩,
        ⟨some 63, some (60, false), [], .p (.un .not (.t 62))⟩,
        ⟨some 64, none, [], .p (.pick (.t 60) (.c (.bool true)) (.t 63))⟩]) (
    .cond (.t 64) (
      .seq (
        .region [
          ⟨some 65, none, [], .p (.build [u64 0#64, u64 0#64, .int .i64 0, .int .i64 0, .int .i64 0, .int .i64 0, .bool false, .slice none 0 0, .slice none 0 0] [])⟩,
          ⟨none, none, [], .w (.storeN 9 (.t 2) (.t 65))⟩,
          ⟨some 3, none, [], .p (.mv (.c (.int .i64 4)))⟩]) (
      .ret)) (
      .skip))) (
  .seq (
    .region [
      ⟨some 66, none, [], .r (.loadN 9 (.t 5))⟩,
      ⟨none, none, [], .w (.storeN 9 (.t 2) (.t 66))⟩,
      ⟨some 3, none, [], .p (.mv (.c (.int .i64 0)))⟩]) (
  .ret))))))))))),
  67, [Sum.inr (2, 9, true), Sum.inl 3]⟩

theorem c20 : cFunc Tryd.prog (⟨(fun n => !([5020032, 5040016, 5060052, 40, 31, 41, 51, 32, 35, 36, 43, 69, 78] : List Nat).contains n), fun n => if n = 52004 then some 8000 else if n = 68004 then some 8000 else  none⟩ : Qs) Tryd.f20 [[2, 4, 5, 20, 21], [2, 4, 5], [2, 4, 5, 34, 35], [2, 4, 5], [2, 4, 5, 46, 47], [2, 4, 5]] = some s20 := by kernel_rfl

-- 21 calls [35, 36, 43, 44]
abbrev k21_1 : List Nat := [0, 2, 4, 5, 10, 11]
abbrev a21_1 : List Nat := [0, 2, 5]
abbrev e21_1 (v0 v2 v4 v5 v10 v11 : AV) : Env := [v0, .dead, v2, .dead, v4, v5, .dead, .dead, .dead, .dead, v10, v11, .dead, .dead, .dead, .dead, .dead, .dead, .dead, .dead, .dead, .dead, .dead, .dead, .dead, .dead, .dead, .dead, .dead, .dead, .dead, .dead, .dead, .dead, .dead, .dead, .dead, .dead, .dead, .dead, .dead, .dead, .dead, .dead, .dead, .dead, .dead, .dead, .dead, .dead, .dead, .dead, .dead, .dead, .dead, .dead, .dead, .dead, .dead, .dead, .dead, .dead, .dead, .dead, .dead, .dead, .dead, .dead, .dead, .dead, .dead, .dead, .dead, .dead, .dead, .dead, .dead, .dead, .dead, .dead, .dead, .dead, .dead, .dead, .dead, .dead, .dead, .dead, .dead, .dead, .dead, .dead]
abbrev x21_1 (v0 v2 v5 : AV) : Env := [v0, .dead, v2, .dead, .dead, v5, .dead, .dead, .dead, .dead, .dead, .dead, .dead, .dead, .dead, .dead, .dead, .dead, .dead, .dead, .dead, .dead, .dead, .dead, .dead, .dead, .dead, .dead, .dead, .dead, .dead, .dead, .dead, .dead, .dead, .dead, .dead, .dead, .dead, .dead, .dead, .dead, .dead, .dead, .dead, .dead, .dead, .dead, .dead, .dead, .dead, .dead, .dead, .dead, .dead, .dead, .dead, .dead, .dead, .dead, .dead, .dead, .dead, .dead, .dead, .dead, .dead, .dead, .dead, .dead, .dead, .dead, .dead, .dead, .dead, .dead, .dead, .dead, .dead, .dead, .dead, .dead, .dead, .dead, .dead, .dead, .dead, .dead, .dead, .dead, .dead, .dead]
def s21_b1 : SCode :=
  .seq (
    .seq (
      .region [
        ⟨some 58, none, [], .p (.mv (.t 11))⟩,
        ⟨some 59, none, [], .p (.mv (.t 10))⟩,
        ⟨some 60, none, [], .p (.bin .lss (.t 58) (.t 59))⟩]) (
    .cond (.t 60) (
      .skip) (
      .exit 2))) (
  .seq (
    .block 3 (
      .seq (
        .region [
          ⟨some 12, none, [], .a 84000 (.alloc [.int .i64 0, .str [], .str []])⟩]) (
      .seq (
        .region [
          ⟨some 63, none, [], .p (.mv (.t 4))⟩,
          ⟨some 64, none, [], .call 88004 4 false (.f 43) [.t 63]⟩,
          ⟨some 65, none, [], .p (.faddr 0 (.t 12))⟩,
          ⟨none, none, [], .w (.store1 (.t 65) (.t 64))⟩]) (
      .seq (
        .region [
          ⟨some 66, none, [], .p (.mv (.t 4))⟩,
          ⟨some 67, none, [], .call 92004 4 false (.f 36) [.t 66]⟩,
          ⟨some 68, none, [], .p (.faddr 1 (.t 12))⟩,
          ⟨none, none, [], .w (.store1 (.t 68) (.t 67))⟩]) (
      .seq (
        .region [
          ⟨some 69, none, [], .p (.mv (.t 4))⟩,
          ⟨some 70, none, [], .call 96004 4 false (.f 36) [.t 69]⟩,
          ⟨some 71, none, [], .p (.faddr 2 (.t 12))⟩,
          ⟨none, none, [], .w (.store1 (.t 71) (.t 70))⟩]) (
      .region [
        ⟨some 72, none, [], .p (.faddr 8 (.t 5))⟩,
        ⟨some 73, none, [], .r (.load1 (.t 72))⟩,
        ⟨some 74, none, [], .r (.loadN 3 (.t 12))⟩,
        ⟨some 75, none, [], .a 100012 (.buildS 3 1 [.int .i64 0, .str [], .str []] [(0, 3, .t 74)])⟩,
        ⟨some 76, none, [], .w (.append 100016 3 40 (.t 73) (.t 75))⟩,
        ⟨some 77, none, [], .p (.faddr 8 (.t 5))⟩,
        ⟨none, none, [], .w (.store1 (.t 77) (.t 76))⟩])))))) (
  .region [
    ⟨some 61, none, [], .p (.mv (.t 11))⟩,
    ⟨some 62, none, [], .p (.bin .add (.t 61) (.c (.int .i64 1)))⟩,
    ⟨some 11, none, [], .p (.mv (.t 62))⟩]))

abbrev k21_0 : List Nat := [0, 2, 4, 5, 7, 8]
abbrev a21_0 : List Nat := [0, 2, 4, 5]
abbrev e21_0 (v0 v2 v4 v5 v7 v8 : AV) : Env := [v0, .dead, v2, .dead, v4, v5, .dead, v7, v8, .dead, .dead, .dead, .dead, .dead, .dead, .dead, .dead, .dead, .dead, .dead, .dead, .dead, .dead, .dead, .dead, .dead, .dead, .dead, .dead, .dead, .dead, .dead, .dead, .dead, .dead, .dead, .dead, .dead, .dead, .dead, .dead, .dead, .dead, .dead, .dead, .dead, .dead, .dead, .dead, .dead, .dead, .dead, .dead, .dead, .dead, .dead, .dead, .dead, .dead, .dead, .dead, .dead, .dead, .dead, .dead, .dead, .dead, .dead, .dead, .dead, .dead, .dead, .dead, .dead, .dead, .dead, .dead, .dead, .dead, .dead, .dead, .dead, .dead, .dead, .dead, .dead, .dead, .dead, .dead, .dead, .dead, .dead]
abbrev x21_0 (v0 v2 v4 v5 : AV) : Env := [v0, .dead, v2, .dead, v4, v5, .dead, .dead, .dead, .dead, .dead, .dead, .dead, .dead, .dead, .dead, .dead, .dead, .dead, .dead, .dead, .dead, .dead, .dead, .dead, .dead, .dead, .dead, .dead, .dead, .dead, .dead, .dead, .dead, .dead, .dead, .dead, .dead, .dead, .dead, .dead, .dead, .dead, .dead, .dead, .dead, .dead, .dead, .dead, .dead, .dead, .dead, .dead, .dead, .dead, .dead, .dead, .dead, .dead, .dead, .dead, .dead, .dead, .dead, .dead, .dead, .dead, .dead, .dead, .dead, .dead, .dead, .dead, .dead, .dead, .dead, .dead, .dead, .dead, .dead, .dead, .dead, .dead, .dead, .dead, .dead, .dead, .dead, .dead, .dead, .dead, .dead]
def s21_b0 : SCode :=
  .seq (
    .seq (
      .region [
        ⟨some 43, none, [], .p (.mv (.t 8))⟩,
        ⟨some 44, none, [], .p (.mv (.t 7))⟩,
        ⟨some 45, none, [], .p (.bin .lss (.t 43) (.t 44))⟩]) (
    .cond (.t 45) (
      .skip) (
      .exit 0))) (
  .seq (
    .block 1 (
      .seq (
        .region [
          ⟨some 48, none, [], .p (.mv (.t 4))⟩,
          ⟨some 49, none, [], .call 60004 4 false (.f 43) [.t 48]⟩,
          ⟨some 9, none, [], .p (.mv (.t 49))⟩]) (
      .region [
        ⟨some 50, none, [], .p (.faddr 7 (.t 5))⟩,
        ⟨some 51, none, [], .r (.load1 (.t 50))⟩,
        ⟨some 52, none, [], .p (.mv (.t 9))⟩,
        ⟨some 53, none, [], .a 64012 (.buildS 1 1 [.int .i64 0] [(0, 1, .t 52)])⟩,
        ⟨some 54, none, [], .w (.append 64016 1 8 (.t 51) (.t 53))⟩,
        ⟨some 55, none, [], .p (.faddr 7 (.t 5))⟩,
        ⟨none, none, [], .w (.store1 (.t 55) (.t 54))⟩]))) (
  .region [
    ⟨some 46, none, [], .p (.mv (.t 8))⟩,
    ⟨some 47, none, [], .p (.bin .add (.t 46) (.c (.int .i64 1)))⟩,
    ⟨some 8, none, [], .p (.mv (.t 47))⟩]))

def s21 : SFunc := ⟨
  .seq (
    .region [
      ⟨some 2, none, [], .a 0 (.alloc [u64 0#64, u64 0#64, .int .i64 0, .int .i64 0, .int .i64 0, .int .i64 0, .bool false, .slice none 0 0, .slice none 0 0])⟩,
      ⟨some 3, none, [], .p (.mv (.c (.int .i64 0)))⟩]) (
  .seq (
    .region [
      ⟨some 15, none, [], .p (.mv (.t 0))⟩,
      ⟨some 16, none, [], .p (.build [.str [], .int .i64 0, .int .i64 0] [(0, 1, .t 15)])⟩,
      ⟨some 17, none, [], .a 4008 (.box (.t 16))⟩,
      ⟨some 4, none, [], .p (.mv (.t 17))⟩]) (
  .seq (
    .region [
      ⟨some 5, none, [], .a 8000 (.alloc [u64 0#64, u64 0#64, .int .i64 0, .int .i64 0, .int .i64 0, .int .i64 0, .bool false, .slice none 0 0, .slice none 0 0])⟩]) (
  .seq (
    .region [
      ⟨some 18, none, [], .p (.mv (.t 4))⟩,
      ⟨some 19, none, [], .call 12004 4 false (.f 35) [.t 18]⟩,
      ⟨some 20, none, [], .p (.faddr 0 (.t 5))⟩,
      ⟨none, none, [], .w (.store1 (.t 20) (.t 19))⟩]) (
  .seq (
    .region [
      ⟨some 21, none, [], .p (.mv (.t 4))⟩,
      ⟨some 22, none, [], .call 16004 4 false (.f 35) [.t 21]⟩,
      ⟨some 23, none, [], .p (.faddr 1 (.t 5))⟩,
      ⟨none, none, [], .w (.store1 (.t 23) (.t 22))⟩]) (
  .seq (
    .region [
      ⟨some 24, none, [], .p (.mv (.t 4))⟩,
      ⟨some 25, none, [], .call 20004 4 false (.f 43) [.t 24]⟩,
      ⟨some 26, none, [], .p (.faddr 2 (.t 5))⟩,
      ⟨none, none, [], .w (.store1 (.t 26) (.t 25))⟩]) (
  .seq (
    .region [
      ⟨some 27, none, [], .p (.mv (.t 4))⟩,
      ⟨some 28, none, [], .call 24004 4 false (.f 43) [.t 27]⟩,
      ⟨some 29, none, [], .p (.faddr 3 (.t 5))⟩,
      ⟨none, none, [], .w (.store1 (.t 29) (.t 28))⟩]) (
  .seq (
    .region [
      ⟨some 30, none, [], .p (.mv (.t 4))⟩,
      ⟨some 31, none, [], .call 28004 4 false (.f 43) [.t 30]⟩,
      ⟨some 32, none, [], .p (.faddr 4 (.t 5))⟩,
      ⟨none, none, [], .w (.store1 (.t 32) (.t 31))⟩]) (
  .seq (
    .region [
      ⟨some 33, none, [], .p (.mv (.t 4))⟩,
      ⟨some 34, none, [], .call 32004 4 false (.f 43) [.t 33]⟩,
      ⟨some 35, none, [], .p (.faddr 5 (.t 5))⟩,
      ⟨none, none, [], .w (.store1 (.t 35) (.t 34))⟩]) (
  .seq (
    .region [
      ⟨some 36, none, [], .p (.mv (.t 4))⟩,
      ⟨some 37, none, [], .call 36004 4 false (.f 43) [.t 36]⟩,
      ⟨some 6, none, [], .p (.mv (.t 37))⟩]) (
  .seq (
    .region [
      ⟨some 38, none, [], .p (.mv (.t 6))⟩,
      ⟨some 39, none, [], .p (.bin .eql (.t 38) (.c (.int .i64 1)))⟩,
      ⟨some 40, none, [], .p (.faddr 6 (.t 5))⟩,
      ⟨none, none, [], .w (.store1 (.t 40) (.t 39))⟩]) (
  .seq (
    .region [
      ⟨some 41, none, [], .p (.mv (.t 4))⟩,
      ⟨some 42, none, [], .call 44004 4 false (.f 43) [.t 41]⟩,
      ⟨some 7, none, [], .p (.mv (.t 42))⟩]) (
  .seq (
    .seq (
      .region [
        ⟨some 8, none, [], .p (.mv (.c (.int .i64 0)))⟩]) (
    .block 0 (
      .loop k21_0 a21_0 s21_b0))) (
  .seq (
    .region [
      ⟨some 56, none, [], .p (.mv (.t 4))⟩,
      ⟨some 57, none, [], .call 68004 4 false (.f 43) [.t 56]⟩,
      ⟨some 10, none, [], .p (.mv (.t 57))⟩]) (
  .seq (
    .seq (
      .region [
        ⟨some 11, none, [], .p (.mv (.c (.int .i64 0)))⟩]) (
    .block 2 (
      .loop k21_1 a21_1 s21_b1))) (
  .seq (
    .region [
      ⟨some 79, none, [], .r (.loadN 9 (.t 5))⟩,
      ⟨some 80, none, [], .call 104004 4 true (.f 44) [.t 79]⟩,
      ⟨some 78, none, [], .p (.mv (.t 80))⟩,
      ⟨some 81, none, [], .p (.extract (.t 78) 0)⟩,
      ⟨some 82, none, [], .p (.extract (.t 78) 1)⟩,
      ⟨some 13, none, [], .p (.mv (.t 81))⟩,
      ⟨some 14, none, [], .p (.mv (.t 82))⟩]) (
  .seq (
    .seq (
      .region [
        ⟨some 83, none, [], .p (.mv (.t 14))⟩,
        ⟨some 84, none, [], .p (.bin .neq (.t 83) (.c (.int .i64 0)))⟩,
        ⟨some 85, none, [], .p (.mv (.t 84))⟩,
        ⟨some 86, some (85, false), [], .p (.mv (.t 13))⟩,
        ⟨some 87, some (85, false), [], .p (.mv (.t 0))⟩,
        ⟨some 88, some (85, false), [], .p (.bin .neq (.t 86) (.t 87))⟩,
        ⟨some 89, none, [], .p (.pick (.t 85) (.c (.bool true)) (.t 88))⟩]) (
    .cond (.t 89) (
      .seq (
        .region [
          ⟨some 90, none, [], .p (.build [u64 0#64, u64 0#64, .int .i64 0, .int .i64 0, .int .i64 0, .int .i64 0, .bool false, .slice none 0 0, .slice none 0 0] [])⟩,
          ⟨none, none, [], .w (.storeN 9 (.t 2) (.t 90))⟩,
          ⟨some 3, none, [], .p (.mv (.c (.int .i64 4)))⟩]) (
      .ret)) (
      .skip))) (
  .seq (
    .region [
      ⟨some 91, none, [], .r (.loadN 9 (.t 5))⟩,
      ⟨none, none, [], .w (.storeN 9 (.t 2) (.t 91))⟩,
      ⟨some 3, none, [], .p (.mv (.c (.int .i64 0)))⟩]) (
  .ret)))))))))))))))))),
  92, [Sum.inr (2, 9, true), Sum.inl 3]⟩

theorem c21 : cFunc Tryd.prog quiet Tryd.f21 [[0, 2, 4, 5, 7, 8], [0, 2, 4, 5], [0, 2, 4, 5, 10, 11], [0, 2, 5]] = some s21 := by kernel_rfl

-- 22 calls [20, 42, 45, 46]
def s22 : SFunc := ⟨
  .seq (
    .region [
      ⟨some 0, none, [], .p (.mv (.c (.bool false)))⟩]) (
  .seq (
    .region [
      ⟨some 8, none, [], .p (.build [.int .i64 0, byteAV 0, byteAV 0, .bool false] [(0, 1, .c (.int .i64 1))])⟩,
      ⟨some 1, none, [], .a 4004 (.alloc [.int .i64 0, byteAV 0, byteAV 0, .bool false])⟩,
      ⟨none, none, [], .w (.storeN 4 (.t 1) (.t 8))⟩]) (
  .seq (
    .region [
      ⟨some 10, none, [], .a 8000 (.buildS 1 4 [.int .i64 0] [(0, 1, .c (.int .i64 0)), (1, 1, .c (.int .i64 1)), (2, 1, .c (.int .i64 2)), (3, 1, .c (.int .i64 3))])⟩,
      ⟨some 11, none, [], .r (.loadN 4 (.t 1))⟩,
      ⟨some 12, none, [], .r (.loadN 4 (.t 1))⟩,
      ⟨some 13, none, [], .r (.loadN 4 (.t 1))⟩,
      ⟨some 14, none, [], .r (.loadN 4 (.t 1))⟩,
      ⟨some 15, none, [], .a 8020 (.buildS 4 4 [.int .i64 0, byteAV 0, byteAV 0, .bool false] [(0, 4, .t 11), (4, 4, .t 12), (8, 4, .t 13), (12, 4, .t 14)])⟩,
      ⟨some 16, none, [], .p (.build [u64 0#64, u64 0#64, .int .i64 0, .int .i64 0, .int .i64 0, .int .i64 0, .bool false, .slice none 0 0, .slice none 0 0] [(0, 1, .c (u64 7#64)), (2, 1, .c (.int .i64 2)), (3, 1, .c (.int .i64 4)), (7, 1, .t 10), (8, 1, .t 15)])⟩,
      ⟨some 17, none, [], .call 8028 4 true (.f 45) [.t 16]⟩,
      ⟨some 9, none, [], .p (.mv (.t 17))⟩,
      ⟨some 18, none, [], .p (.extract (.t 9) 0)⟩,
      ⟨some 19, none, [], .p (.extract (.t 9) 1)⟩,
      ⟨some 2, none, [], .a 8044 (.alloc [u64 0#64, u64 0#64, .int .i64 0, .int .i64 0, .int .i64 0, .int .i64 0, .bool false, .slice none 0 0, .slice none 0 0])⟩,
      ⟨some 3, none, [], .a 8048 (.alloc [u64 0#64, u64 0#64, .int .i64 0, .int .i64 0, .int .i64 0, .int .i64 0, .bool false, .slice none 0 0, .slice none 0 0])⟩,
      ⟨none, none, [], .w (.storeN 9 (.t 2) (.t 18))⟩,
      ⟨none, none, [], .w (.storeN 9 (.t 3) (.t 19))⟩]) (
  .seq (
    .region [
      ⟨some 21, none, [], .r (.loadN 9 (.t 2))⟩,
      ⟨some 22, none, [], .call 12004 4 true (.f 46) [.t 21]⟩,
      ⟨some 20, none, [], .p (.mv (.t 22))⟩,
      ⟨some 23, none, [], .p (.extract (.t 20) 0)⟩,
      ⟨some 24, none, [], .p (.extract (.t 20) 1)⟩,
      ⟨some 4, none, [], .p (.mv (.t 23))⟩,
      ⟨some 5, none, [], .p (.mv (.t 24))⟩]) (
  .seq (
    .region [
      ⟨some 26, none, [], .p (.mv (.t 4))⟩,
      ⟨some 27, none, [], .call 16004 4 true (.f 20) [.t 26]⟩,
      ⟨some 25, none, [], .p (.mv (.t 27))⟩,
      ⟨some 28, none, [], .p (.extract (.t 25) 0)⟩,
      ⟨some 29, none, [], .p (.extract (.t 25) 1)⟩,
      ⟨some 6, none, [], .a 16020 (.alloc [u64 0#64, u64 0#64, .int .i64 0, .int .i64 0, .int .i64 0, .int .i64 0, .bool false, .slice none 0 0, .slice none 0 0])⟩,
      ⟨none, none, [], .w (.storeN 9 (.t 6) (.t 28))⟩,
      ⟨some 7, none, [], .p (.mv (.t 29))⟩]) (
  .seq (
    .region [
      ⟨some 30, none, [], .r (.loadN 9 (.t 2))⟩,
      ⟨some 31, none, [], .call 20004 4 true (.f 42) [.t 30]⟩,
      ⟨some 32, none, [], .p (.mv (.t 31))⟩,
      ⟨some 33, some (32, true), [], .p (.mv (.t 5))⟩,
      ⟨some 34, some (32, true), [], .p (.bin .eql (.t 33) (.c (.int .i64 0)))⟩,
      ⟨some 35, none, [], .p (.pick (.t 32) (.t 34) (.c (.bool false)))⟩,
      ⟨some 36, none, [], .p (.mv (.t 35))⟩,
      ⟨some 37, some (36, true), [], .p (.mv (.t 7))⟩,
      ⟨some 38, some (36, true), [], .p (.bin .eql (.t 37) (.c (.int .i64 0)))⟩,
      ⟨some 39, none, [], .p (.pick (.t 36) (.t 38) (.c (.bool false)))⟩,
      ⟨some 40, none, [], .p (.mv (.t 39))⟩,
      ⟨some 41, some (40, true), [], .p (.mv (.t 4))⟩,
      ⟨some 42, some (40, true), [], .p (.lenV false (.t 41))⟩,
      ⟨some 43, some (40, true), [], .p (.bin .eql (.t 42) (.c (.int .i64 456)))⟩,
      ⟨some 44, none, [], .p (.pick (.t 40) (.t 43) (.c (.bool false)))⟩,
      ⟨some 45, none, [], .p (.mv (.t 44))⟩,
      ⟨some 46, some (45, true), [], .p (.faddr 0 (.t 6))⟩,
      ⟨some 47, some (45, true), [], .r (.load1 (.t 46))⟩,
      ⟨some 48, some (45, true), [], .p (.bin .eql (.t 47) (.c (u64 7#64)))⟩,
      ⟨some 49, none, [], .p (.pick (.t 45) (.t 48) (.c (.bool false)))⟩,
      ⟨some 50, none, [], .p (.mv (.t 49))⟩,
      ⟨some 51, some (50, true), [], .p (.faddr 7 (.t 6))⟩,
      ⟨some 52, some (50, true), [], .r (.load1 (.t 51))⟩,
      ⟨some 53, some (50, true), [], .p (.lenV true (.t 52))⟩,
      ⟨some 54, some (50, true), [], .p (.bin .eql (.t 53) (.c (.int .i64 4)))⟩,
      ⟨some 55, none, [], .p (.pick (.t 50) (.t 54) (.c (.bool false)))⟩,
      ⟨some 0, none, [], .p (.mv (.t 55))⟩]) (
  .ret)))))),
  56, [Sum.inl 0]⟩

theorem c22 : cFunc Tryd.prog quiet Tryd.f22 [] = some s22 := by kernel_rfl

-- 23 calls []
abbrev k23_1 : List Nat := [3, 93, 94, 95]
abbrev a23_1 : List Nat := [4]
abbrev e23_1 (v3 v93 v94 v95 : AV) : Env := [.dead, .dead, .dead, v3, .dead, .dead, .dead, .dead, .dead, .dead, .dead, .dead, .dead, .dead, .dead, .dead, .dead, .dead, .dead, .dead, .dead, .dead, .dead, .dead, .dead, .dead, .dead, .dead, .dead, .dead, .dead, .dead, .dead, .dead, .dead, .dead, .dead, .dead, .dead, .dead, .dead, .dead, .dead, .dead, .dead, .dead, .dead, .dead, .dead, .dead, .dead, .dead, .dead, .dead, .dead, .dead, .dead, .dead, .dead, .dead, .dead, .dead, .dead, .dead, .dead, .dead, .dead, .dead, .dead, .dead, .dead, .dead, .dead, .dead, .dead, .dead, .dead, .dead, .dead, .dead, .dead, .dead, .dead, .dead, .dead, .dead, .dead, .dead, .dead, .dead, .dead, .dead, .dead, v93, v94, v95, .dead, .dead, .dead, .dead, .dead, .dead, .dead, .dead, .dead, .dead, .dead, .dead, .dead, .dead, .dead, .dead, .dead, .dead, .dead, .dead, .dead, .dead, .dead, .dead, .dead, .dead, .dead, .dead, .dead]
abbrev x23_1 (v4 : AV) : Env := [.dead, .dead, .dead, .dead, v4, .dead, .dead, .dead, .dead, .dead, .dead, .dead, .dead, .dead, .dead, .dead, .dead, .dead, .dead, .dead, .dead, .dead, .dead, .dead, .dead, .dead, .dead, .dead, .dead, .dead, .dead, .dead, .dead, .dead, .dead, .dead, .dead, .dead, .dead, .dead, .dead, .dead, .dead, .dead, .dead, .dead, .dead, .dead, .dead, .dead, .dead, .dead, .dead, .dead, .dead, .dead, .dead, .dead, .dead, .dead, .dead, .dead, .dead, .dead, .dead, .dead, .dead, .dead, .dead, .dead, .dead, .dead, .dead, .dead, .dead, .dead, .dead, .dead, .dead, .dead, .dead, .dead, .dead, .dead, .dead, .dead, .dead, .dead, .dead, .dead, .dead, .dead, .dead, .dead, .dead, .dead, .dead, .dead, .dead, .dead, .dead, .dead, .dead, .dead, .dead, .dead, .dead, .dead, .dead, .dead, .dead, .dead, .dead, .dead, .dead, .dead, .dead, .dead, .dead, .dead, .dead, .dead, .dead, .dead, .dead]
def s23_b1 : SCode :=
  .seq (
    .region [
      ⟨some 96, none, [], .p (.bin .lss (.t 95) (.t 94))⟩]) (
  .seq (
    .cond (.t 96) (
      .skip) (
      .exit 2)) (
  .seq (
    .block 3 (
      .seq (
        .region [
          ⟨some 97, none, [], .p (.mv (.t 95))⟩,
          ⟨some 98, none, [], .p (.iaddrS 3 (.t 93) (.t 95))⟩,
          ⟨some 99, none, [], .r (.loadN 3 (.t 98))⟩,
          ⟨some 7, none, [], .a 44012 (.alloc [.int .i64 0, .str [], .str []])⟩,
          ⟨some 6, none, [], .p (.mv (.t 97))⟩,
          ⟨none, none, [], .w (.storeN 3 (.t 7) (.t 99))⟩]) (
      .seq (
        .region [
          ⟨some 100, none, [], .p (.faddr 8 (.t 3))⟩,
          ⟨some 101, none, [], .r (.load1 (.t 100))⟩,
          ⟨some 102, none, [], .p (.mv (.t 6))⟩,
          ⟨some 103, none, [], .p (.iaddrS 3 (.t 101) (.t 102))⟩,
          ⟨some 104, none, [], .r (.loadN 3 (.t 103))⟩,
          ⟨some 8, none, [], .a 48020 (.alloc [.int .i64 0, .str [], .str []])⟩,
          ⟨none, none, [], .w (.storeN 3 (.t 8) (.t 104))⟩]) (
      .seq (
        .region [
          ⟨some 105, none, [], .p (.faddr 0 (.t 7))⟩,
          ⟨some 106, none, [], .r (.load1 (.t 105))⟩,
          ⟨some 107, none, [], .p (.faddr 0 (.t 8))⟩,
          ⟨some 108, none, [], .r (.load1 (.t 107))⟩,
          ⟨some 109, none, [], .p (.bin .neq (.t 106) (.t 108))⟩,
          ⟨some 110, none, [], .p (.mv (.t 109))⟩,
          ⟨some 111, some (110, false), [], .p (.faddr 1 (.t 7))⟩,
          ⟨some 112, some (110, false), [], .r (.load1 (.t 111))⟩,
          ⟨some 113, some (110, false), [], .p (.faddr 1 (.t 8))⟩,
          ⟨some 114, some (110, false), [], .r (.load1 (.t 113))⟩,
          ⟨some 115, some (110, false), [], .p (.bin .neq (.t 112) (.t 114))⟩,
          ⟨some 116, none, [], .p (.pick (.t 110) (.c (.bool true)) (.t 115))⟩,
          ⟨some 117, none, [], .p (.mv (.t 116))⟩,
          ⟨some 118, some (117, false), [], .p (.faddr 2 (.t 7))⟩,
          ⟨some 119, some (117, false), [], .r (.load1 (.t 118))⟩,
          ⟨some 120, some (117, false), [], .p (.faddr 2 (.t 8))⟩,
          ⟨some 121, some (117, false), [], .r (.load1 (.t 120))⟩,
          ⟨some 122, some (117, false), [], .p (.bin .neq (.t 119) (.t 121))⟩,
          ⟨some 123, none, [], .p (.pick (.t 117) (.c (.bool true)) (.t 122))⟩]) (
      .cond (.t 123) (
        .seq (
          .region [
            ⟨some 4, none, [], .p (.mv (.c (.bool false)))⟩]) (
        .ret)) (
        .skip)))))) (
  .region [
    ⟨some 124, none, [], .p (.bin .add (.t 95) (.c (.int .i64 1)))⟩,
    ⟨some 95, none, [], .p (.mv (.t 124))⟩])))

abbrev k23_0 : List Nat := [2, 3, 76, 77]
abbrev a23_0 : List Nat := [2, 3, 4]
abbrev e23_0 (v2 v3 v76 v77 : AV) : Env := [.dead, .dead, v2, v3, .dead, .dead, .dead, .dead, .dead, .dead, .dead, .dead, .dead, .dead, .dead, .dead, .dead, .dead, .dead, .dead, .dead, .dead, .dead, .dead, .dead, .dead, .dead, .dead, .dead, .dead, .dead, .dead, .dead, .dead, .dead, .dead, .dead, .dead, .dead, .dead, .dead, .dead, .dead, .dead, .dead, .dead, .dead, .dead, .dead, .dead, .dead, .dead, .dead, .dead, .dead, .dead, .dead, .dead, .dead, .dead, .dead, .dead, .dead, .dead, .dead, .dead, .dead, .dead, .dead, .dead, .dead, .dead, .dead, .dead, .dead, .dead, v76, v77, .dead, .dead, .dead, .dead, .dead, .dead, .dead, .dead, .dead, .dead, .dead, .dead, .dead, .dead, .dead, .dead, .dead, .dead, .dead, .dead, .dead, .dead, .dead, .dead, .dead, .dead, .dead, .dead, .dead, .dead, .dead, .dead, .dead, .dead, .dead, .dead, .dead, .dead, .dead, .dead, .dead, .dead, .dead, .dead, .dead, .dead, .dead]
abbrev x23_0 (v2 v3 v4 : AV) : Env := [.dead, .dead, v2, v3, v4, .dead, .dead, .dead, .dead, .dead, .dead, .dead, .dead, .dead, .dead, .dead, .dead, .dead, .dead, .dead, .dead, .dead, .dead, .dead, .dead, .dead, .dead, .dead, .dead, .dead, .dead, .dead, .dead, .dead, .dead, .dead, .dead, .dead, .dead, .dead, .dead, .dead, .dead, .dead, .dead, .dead, .dead, .dead, .dead, .dead, .dead, .dead, .dead, .dead, .dead, .dead, .dead, .dead, .dead, .dead, .dead, .dead, .dead, .dead, .dead, .dead, .dead, .dead, .dead, .dead, .dead, .dead, .dead, .dead, .dead, .dead, .dead, .dead, .dead, .dead, .dead, .dead, .dead, .dead, .dead, .dead, .dead, .dead, .dead, .dead, .dead, .dead, .dead, .dead, .dead, .dead, .dead, .dead, .dead, .dead, .dead, .dead, .dead, .dead, .dead, .dead, .dead, .dead, .dead, .dead, .dead, .dead, .dead, .dead, .dead, .dead, .dead, .dead, .dead, .dead, .dead, .dead, .dead, .dead, .dead]
def s23_b0 : SCode :=
  .seq (
    .region [
      ⟨some 78, none, [], .p (.bin .lss (.t 77) (.t 76))⟩]) (
  .seq (
    .cond (.t 78) (
      .skip) (
      .exit 0)) (
  .seq (
    .block 1 (
      .seq (
        .region [
          ⟨some 79, none, [], .p (.mv (.t 77))⟩,
          ⟨some 5, none, [], .p (.mv (.t 79))⟩]) (
      .seq (
        .region [
          ⟨some 80, none, [], .p (.faddr 7 (.t 2))⟩,
          ⟨some 81, none, [], .r (.load1 (.t 80))⟩,
          ⟨some 82, none, [], .p (.mv (.t 5))⟩,
          ⟨some 83, none, [], .p (.iaddrS 1 (.t 81) (.t 82))⟩,
          ⟨some 84, none, [], .r (.load1 (.t 83))⟩,
          ⟨some 85, none, [], .p (.faddr 7 (.t 3))⟩,
          ⟨some 86, none, [], .r (.load1 (.t 85))⟩,
          ⟨some 87, none, [], .p (.mv (.t 5))⟩,
          ⟨some 88, none, [], .p (.iaddrS 1 (.t 86) (.t 87))⟩,
          ⟨some 89, none, [], .r (.load1 (.t 88))⟩,
          ⟨some 90, none, [], .p (.bin .neq (.t 84) (.t 89))⟩]) (
      .cond (.t 90) (
        .seq (
          .region [
            ⟨some 4, none, [], .p (.mv (.c (.bool false)))⟩]) (
        .ret)) (
        .skip))))) (
  .region [
    ⟨some 91, none, [], .p (.bin .add (.t 77) (.c (.int .i64 1)))⟩,
    ⟨some 77, none, [], .p (.mv (.t 91))⟩])))

def s23 : SFunc := ⟨
  .seq (
    .region [
      ⟨some 2, none, [], .a 0 (.box (.t 0))⟩,
      ⟨some 3, none, [], .a 4 (.box (.t 1))⟩,
      ⟨some 4, none, [], .p (.mv (.c (.bool false)))⟩]) (
  .seq (
    .seq (
      .region [
        ⟨some 9, none, [], .p (.faddr 0 (.t 2))⟩,
        ⟨some 10, none, [], .r (.load1 (.t 9))⟩,
        ⟨some 11, none, [], .p (.faddr 0 (.t 3))⟩,
        ⟨some 12, none, [], .r (.load1 (.t 11))⟩,
        ⟨some 13, none, [], .p (.bin .neq (.t 10) (.t 12))⟩,
        ⟨some 14, none, [], .p (.mv (.t 13))⟩,
        ⟨some 15, some (14, false), [], .p (.faddr 1 (.t 2))⟩,
        ⟨some 16, some (14, false), [], .r (.load1 (.t 15))⟩,
        ⟨some 17, some (14, false), [], .p (.faddr 1 (.t 3))⟩,
        ⟨some 18, some (14, false), [], .r (.load1 (.t 17))⟩,
        ⟨some 19, some (14, false), [], .p (.bin .neq (.t 16) (.t 18))⟩,
        ⟨some 20, none, [], .p (.pick (.t 14) (.c (.bool true)) (.t 19))⟩,
        ⟨some 21, none, [], .p (.mv (.t 20))⟩,
        ⟨some 22, some (21, false), [], .p (.faddr 2 (.t 2))⟩,
        ⟨some 23, some (21, false), [], .r (.load1 (.t 22))⟩,
        ⟨some 24, some (21, false), [], .p (.faddr 2 (.t 3))⟩,
        ⟨some 25, some (21, false), [], .r (.load1 (.t 24))⟩,
        ⟨some 26, some (21, false), [], .p (.bin .neq (.t 23) (.t 25))⟩,
        ⟨some 27, none, [], .p (.pick (.t 21) (.c (.bool true)) (.t 26))⟩,
        ⟨some 28, none, [], .p (.mv (.t 27))⟩,
        ⟨some 29, some (28, false), [], .p (.faddr 3 (.t 2))⟩,
        ⟨some 30, some (28, false), [], .r (.load1 (.t 29))⟩,
        ⟨some 31, some (28, false), [], .p (.faddr 3 (.t 3))⟩,
        ⟨some 32, some (28, false), [], .r (.load1 (.t 31))⟩,
        ⟨some 33, some (28, false), [], .p (.bin .neq (.t 30) (.t 32))⟩,
        ⟨some 34, none, [], .p (.pick (.t 28) (.c (.bool true)) (.t 33))⟩,
        ⟨some 35, none, [], .p (.mv (.t 34))⟩,
        ⟨some 36, some (35, false), [], .p (.faddr 4 (.t 2))⟩,
        ⟨some 37, some (35, false), [], .r (.load1 (.t 36))⟩,
        ⟨some 38, some (35, false), [], .p (.faddr 4 (.t 3))⟩,
        ⟨some 39, some (35, false), [], .r (.load1 (.t 38))⟩,
        ⟨some 40, some (35, false), [], .p (.bin .neq (.t 37) (.t 39))⟩,
        ⟨some 41, none, [], .p (.pick (.t 35) (.c (.bool true)) (.t 40))⟩,
        ⟨some 42, none, [], .p (.mv (.t 41))⟩,
        ⟨some 43, some (42, false), [], .p (.faddr 5 (.t 2))⟩,
        ⟨some 44, some (42, false), [], .r (.load1 (.t 43))⟩,
        ⟨some 45, some (42, false), [], .p (.faddr 5 (.t 3))⟩,
        ⟨some 46, some (42, false), [], .r (.load1 (.t 45))⟩,
        ⟨some 47, some (42, false), [], .p (.bin .neq (.t 44) (.t 46))⟩,
        ⟨some 48, none, [], .p (.pick (.t 42) (.c (.bool true)) (.t 47))⟩,
        ⟨some 49, none, [], .p (.mv (.t 48))⟩,
        ⟨some 50, some (49, false), [], .p (.faddr 6 (.t 2))⟩,
        ⟨some 51, some (49, false), [], .r (.load1 (.t 50))⟩,
        ⟨some 52, some (49, false), [], .p (.faddr 6 (.t 3))⟩,
        ⟨some 53, some (49, false), [], .r (.load1 (.t 52))⟩,
        ⟨some 54, some (49, false), [], .p (.eqb true (.t 51) (.t 53))⟩,
        ⟨some 55, none, [], .p (.pick (.t 49) (.c (.bool true)) (.t 54))⟩,
        ⟨some 56, none, [], .p (.mv (.t 55))⟩,
        ⟨some 57, some (56, false), [], .p (.faddr 7 (.t 2))⟩,
        ⟨some 58, some (56, false), [], .r (.load1 (.t 57))⟩,
        ⟨some 59, some (56, false), [], .p (.lenV true (.t 58))⟩,
        ⟨some 60, some (56, false), [], .p (.faddr 7 (.t 3))⟩,
        ⟨some 61, some (56, false), [], .r (.load1 (.t 60))⟩,
        ⟨some 62, some (56, false), [], .p (.lenV true (.t 61))⟩,
        ⟨some 63, some (56, false), [], .p (.bin .neq (.t 59) (.t 62))⟩,
        ⟨some 64, none, [], .p (.pick (.t 56) (.c (.bool true)) (.t 63))⟩,
        ⟨some 65, none, [], .p (.mv (.t 64))⟩,
        ⟨some 66, some (65, false), [], .p (.faddr 8 (.t 2))⟩,
        ⟨some 67, some (65, false), [], .r (.load1 (.t 66))⟩,
        ⟨some 68, some (65, false), [], .p (.lenV true (.t 67))⟩,
        ⟨some 69, some (65, false), [], .p (.faddr 8 (.t 3))⟩,
        ⟨some 70, some (65, false), [], .r (.load1 (.t 69))⟩,
        ⟨some 71, some (65, false), [], .p (.lenV true (.t 70))⟩,
        ⟨some 72, some (65, false), [], .p (.bin .neq (.t 68) (.t 71))⟩,
        ⟨some 73, none, [], .p (.pick (.t 65) (.c (.bool true)) (.t 72))⟩]) (
    .cond (.t 73) (
      .seq (
        .region [
          ⟨some 4, none, [], .p (.mv (.c (.bool false)))⟩]) (
      .ret)) (
      .skip))) (
  .seq (
    .seq (
      .region [
        ⟨some 74, none, [], .p (.faddr 7 (.t 2))⟩,
        ⟨some 75, none, [], .r (.load1 (.t 74))⟩,
        ⟨some 76, none, [], .p (.lenV true (.t 75))⟩,
        ⟨some 77, none, [], .p (.mv (.c (.int .i64 0)))⟩]) (
    .block 0 (
      .loop k23_0 a23_0 s23_b0))) (
  .seq (
    .seq (
      .region [
        ⟨some 92, none, [], .p (.faddr 8 (.t 2))⟩,
        ⟨some 93, none, [], .r (.load1 (.t 92))⟩,
        ⟨some 94, none, [], .p (.lenV true (.t 93))⟩,
        ⟨some 95, none, [], .p (.mv (.c (.int .i64 0)))⟩]) (
    .block 2 (
      .loop k23_1 a23_1 s23_b1))) (
  .seq (
    .region [
      ⟨some 4, none, [], .p (.mv (.c (.bool true)))⟩]) (
  .ret))))),
  125, [Sum.inl 4]⟩

theorem c23 : cFunc Tryd.prog quiet Tryd.f23 [[2, 3, 76, 77], [2, 3, 4], [3, 93, 94, 95], [4]] = some s23 := by kernel_rfl

-- 24 calls [47]
def s24 : SFunc := ⟨
  .seq (
    .region [
      ⟨some 2, none, [], .p (.mv (.c (.str [])))⟩]) (
  .seq (
    .region [
      ⟨some 3, none, [], .p (.mv (.t 0))⟩,
      ⟨some 4, none, [], .call 4004 4 true (.f 47) [.t 3]⟩,
      ⟨some 2, none, [], .p (.mv (.t 4))⟩]) (
  .ret)),
  5, [Sum.inl 2]⟩

theorem c24 : cFunc Tryd.prog quiet Tryd.f24 [] = some s24 := by kernel_rfl

-- 25 calls [27]
def s25 : SFunc := ⟨
  .seq (
    .region [
      ⟨some 2, none, [], .p (.mv (.c (.str [])))⟩]) (
  .seq (
    .region [
      ⟨some 3, none, [], .p (.mv (.t 0))⟩,
      ⟨some 4, none, [], .call 4004 4 true (.f 27) [.c (byteAV 2), .t 3]⟩,
      ⟨some 2, none, [], .p (.mv (.t 4))⟩]) (
  .ret)),
  5, [Sum.inl 2]⟩

theorem c25 : cFunc Tryd.prog quiet Tryd.f25 [] = some s25 := by kernel_rfl

-- 26 calls [28]
def s26 : SFunc := ⟨
  .seq (
    .region [
      ⟨some 2, none, [], .p (.mv (.c (.str [])))⟩]) (
  .seq (
    .region [
      ⟨some 4, none, [], .p (.mv (.t 0))⟩,
      ⟨some 5, none, [], .p (.lenV false (.t 4))⟩,
      ⟨some 6, none, [], .p (.conv .u64 (.t 5))⟩,
      ⟨some 7, none, [], .call 4012 4 true (.f 28) [.t 6]⟩,
      ⟨some 3, none, [], .p (.mv (.t 7))⟩]) (
  .seq (
    .region [
      ⟨some 8, none, [], .p (.mv (.t 3))⟩,
      ⟨some 9, none, [], .p (.mv (.t 0))⟩,
      ⟨some 10, none, [], .p (.bin .add (.t 8) (.t 9))⟩,
      ⟨some 2, none, [], .p (.mv (.t 10))⟩]) (
  .ret))),
  11, [Sum.inl 2]⟩

theorem c26 : cFunc Tryd.prog quiet Tryd.f26 [] = some s26 := by kernel_rfl

-- 27 calls [48]
def s27 : SFunc := ⟨
  .seq (
    .region [
      ⟨some 4, none, [], .p (.mv (.c (.str [])))⟩]) (
  .seq (
    .region [
      ⟨some 5, none, [], .p (.mv (.t 0))⟩,
      ⟨some 6, none, [], .a 4004 (.buildS 1 1 [byteAV 0] [(0, 1, .t 5)])⟩,
      ⟨some 7, none, [], .r (.toStr (.t 6))⟩,
      ⟨some 8, none, [], .p (.mv (.t 1))⟩,
      ⟨some 9, none, [], .p (.bin .add (.t 7) (.t 8))⟩,
      ⟨some 10, none, [], .call 4020 4 true (.f 48) [.t 9]⟩,
      ⟨some 4, none, [], .p (.mv (.t 10))⟩]) (
  .ret)),
  11, [Sum.inl 4]⟩

theorem c27 : cFunc Tryd.prog quiet Tryd.f27 [] = some s27 := by kernel_rfl

-- 28 calls []
abbrev k28_0 : List Nat := [0, 3, 4]
abbrev a28_0 : List Nat := [3]
abbrev e28_0 (v0 v3 v4 : AV) : Env := [v0, .dead, .dead, v3, v4, .dead, .dead, .dead, .dead, .dead, .dead, .dead, .dead, .dead, .dead, .dead, .dead, .dead]
abbrev x28_0 (v3 : AV) : Env := [.dead, .dead, .dead, v3, .dead, .dead, .dead, .dead, .dead, .dead, .dead, .dead, .dead, .dead, .dead, .dead, .dead, .dead]
def s28_b0 : SCode :=
  .seq (
    .seq (
      .region [
        ⟨some 5, none, [], .p (.mv (.t 4))⟩,
        ⟨some 6, none, [], .p (.bin .geq (.t 5) (.c (.int .i64 0)))⟩]) (
    .cond (.t 6) (
      .skip) (
      .exit 0))) (
  .seq (
    .block 1 (
      .seq (
        .region [
          ⟨some 9, none, [], .p (.mv (.t 4))⟩,
          ⟨some 10, none, [], .p (.mv (.t 0))⟩,
          ⟨some 11, none, [], .p (.bin .rem (.t 10) (.c (u64 256#64)))⟩,
          ⟨some 12, none, [], .p (.conv .u8 (.t 11))⟩,
          ⟨some 13, none, [], .p (.iaddrA 8 1 (.t 3) (.t 9))⟩,
          ⟨none, none, [], .w (.store1 (.t 13) (.t 12))⟩]) (
      .region [
        ⟨some 14, none, [], .p (.mv (.t 0))⟩,
        ⟨some 15, none, [], .p (.bin .quo (.t 14) (.c (u64 256#64)))⟩,
        ⟨some 0, none, [], .p (.mv (.t 15))⟩]))) (
  .region [
    ⟨some 7, none, [], .p (.mv (.t 4))⟩,
    ⟨some 8, none, [], .p (.bin .sub (.t 7) (.c (.int .i64 1)))⟩,
    ⟨some 4, none, [], .p (.mv (.t 8))⟩]))

def s28 : SFunc := ⟨
  .seq (
    .region [
      ⟨some 2, none, [], .p (.mv (.c (.str [])))⟩]) (
  .seq (
    .region [
      ⟨some 3, none, [], .a 4000 (.alloc [byteAV 0, byteAV 0, byteAV 0, byteAV 0, byteAV 0, byteAV 0, byteAV 0, byteAV 0])⟩]) (
  .seq (
    .seq (
      .region [
        ⟨some 4, none, [], .p (.mv (.c (.int .i64 7)))⟩]) (
    .block 0 (
      .loop k28_0 a28_0 s28_b0))) (
  .seq (
    .region [
      ⟨some 16, none, [], .p (.slcA 8 1 (.t 3) none none)⟩,
      ⟨some 17, none, [], .r (.toStr (.t 16))⟩,
      ⟨some 2, none, [], .p (.mv (.t 17))⟩]) (
  .ret)))),
  18, [Sum.inl 2]⟩

theorem c28 : cFunc Tryd.prog quiet Tryd.f28 [[0, 3, 4], [3]] = some s28 := by kernel_rfl

-- 30 calls []
def s30 : SFunc := ⟨
  .seq (
    .region [
      ⟨some 2, none, [], .p (.mv (.c (.ptr none)))⟩]) (
  .seq (
    .region [
      ⟨some 3, none, [], .p (.mv (.t 0))⟩,
      ⟨some 4, none, [], .p (.build [.str [], .int .i64 0] [(0, 1, .t 3)])⟩,
      ⟨some 5, none, [], .a 4008 (.box (.t 4))⟩,
      ⟨some 2, none, [], .p (.mv (.t 5))⟩]) (
  .ret)),
  6, [Sum.inl 2]⟩

theorem c30 : cFunc Tryd.prog quiet Tryd.f30 [] = some s30 := by kernel_rfl

-- 31 calls [40]
def s31 : SFunc := ⟨
  .seq (
    .region [
      ⟨some 4, none, [], .p (.mv (.c (.int .i64 0)))⟩]) (
  .seq (
    .region [
      ⟨some 6, none, [], .p (.mv (.t 0))⟩,
      ⟨some 7, none, [], .call 4004 4 false (.f 40) [.t 6]⟩,
      ⟨some 5, none, [], .p (.mv (.t 7))⟩]) (
  .seq (
    .seq (
      .region [
        ⟨some 8, none, [], .p (.mv (.t 0))⟩,
        ⟨some 9, none, [], .p (.eqn .ptr false (.t 8) (.c (.ptr none)))⟩,
        ⟨some 10, none, [], .p (.mv (.t 9))⟩,
        ⟨some 11, some (10, false), [], .p (.mv (.t 0))⟩,
        ⟨some 12, some (10, false), [], .p (.nilChk (.t 11))⟩,
        ⟨some 13, some (10, false), [], .p (.faddr 1 (.t 12))⟩,
        ⟨some 14, some (10, false), [], .r (.load1 (.t 13))⟩,
        ⟨some 15, some (10, false), [], .p (.bin .neq (.t 14) (.c (.int .i64 0)))⟩,
        ⟨some 16, none, [], .p (.pick (.t 10) (.c (.bool true)) (.t 15))⟩]) (
    .cond (.t 16) (
      .seq (
        .region [
          ⟨some 4, none, [], .p (.mv (.c (.int .i64 0)))⟩]) (
      .ret)) (
      .skip))) (
  .seq (
    .seq (
      .region [
        ⟨some 17, none, [], .p (.mv (.t 1))⟩,
        ⟨some 18, none, [], .p (.bin .lss (.t 17) (.c (.int .i64 1)))⟩,
        ⟨some 19, none, [], .p (.mv (.t 18))⟩,
        ⟨some 20, some (19, false), [], .p (.mv (.t 5))⟩,
        ⟨some 21, some (19, false), [], .p (.mv (.t 1))⟩,
        ⟨some 22, some (19, false), [], .p (.conv .u64 (.t 21))⟩,
        ⟨some 23, some (19, false), [], .p (.bin .geq (.t 20) (.t 22))⟩,
        ⟨some 24, none, [], .p (.pick (.t 19) (.c (.bool true)) (.t 23))⟩]) (
    .cond (.t 24) (
      .seq (
        .region [
          ⟨some 25, none, [], .p (.mv (.t 0))⟩,
          ⟨some 26, none, [], .p (.nilChk (.t 25))⟩,
          ⟨some 27, none, [], .p (.faddr 1 (.t 26))⟩,
          ⟨none, none, [], .w (.store1 (.t 27) (.c (.int .i64 4)))⟩]) (
      .seq (
        .region [
          ⟨some 4, none, [], .p (.mv (.c (.int .i64 0)))⟩]) (
      .ret))) (
      .skip))) (
  .seq (
    .region [
      ⟨some 28, none, [], .p (.mv (.t 5))⟩,
      ⟨some 29, none, [], .p (.conv .i64 (.t 28))⟩,
      ⟨some 4, none, [], .p (.mv (.t 29))⟩]) (
  .ret))))),
  30, [Sum.inl 4]⟩

theorem c31 : cFunc Tryd.prog quiet Tryd.f31 [] = some s31 := by kernel_rfl

-- 32 calls [40, 51]
def s32 : SFunc := ⟨
  .seq (
    .region [
      ⟨some 2, none, [], .p (.mv (.c (.str [])))⟩]) (
  .seq (
    .region [
      ⟨some 3, none, [], .p (.mv (.t 0))⟩,
      ⟨some 4, none, [], .p (.mv (.t 0))⟩,
      ⟨some 5, none, [], .call 4008 4 false (.f 40) [.t 4]⟩,
      ⟨some 6, none, [], .call 4012 4 false (.f 51) [.t 3, .t 5]⟩,
      ⟨some 2, none, [], .p (.mv (.t 6))⟩]) (
  .ret)),
  7, [Sum.inl 2]⟩

theorem c32 : cFunc Tryd.prog quiet Tryd.f32 [] = some s32 := by kernel_rfl

-- 33 calls []
def s33 : SFunc := ⟨
  .seq (
    .region [
      ⟨some 2, none, [], .p (.mv (.c (.int .i64 0)))⟩]) (
  .seq (
    .block 0 (
      .seq (
        .region [
          ⟨some 4, none, [], .p (.mv (.t 0))⟩,
          ⟨some 5, none, [], .p (.eqn .ptr false (.t 4) (.c (.ptr none)))⟩,
          ⟨some 3, none, [], .p (.mv (.t 5))⟩]) (
      .cond (.t 3) (
        .seq (
          .region [
            ⟨some 2, none, [], .p (.mv (.c (.int .i64 1)))⟩]) (
        .ret)) (
        .seq (
          .region [
            ⟨some 7, none, [], .p (.mv (.t 0))⟩,
            ⟨some 8, none, [], .p (.nilChk (.t 7))⟩,
            ⟨some 9, none, [], .p (.faddr 1 (.t 8))⟩,
            ⟨some 10, none, [], .r (.load1 (.t 9))⟩,
            ⟨some 11, none, [], .p (.bin .neq (.t 10) (.c (.int .i64 0)))⟩,
            ⟨some 6, none, [], .p (.mv (.t 11))⟩]) (
        .cond (.t 6) (
          .seq (
            .region [
              ⟨some 12, none, [], .p (.mv (.t 0))⟩,
              ⟨some 13, none, [], .p (.nilChk (.t 12))⟩,
              ⟨some 14, none, [], .p (.faddr 1 (.t 13))⟩,
              ⟨some 15, none, [], .r (.load1 (.t 14))⟩,
              ⟨some 2, none, [], .p (.mv (.t 15))⟩]) (
          .ret)) (
          .seq (
            .region [
              ⟨some 17, none, [], .p (.mv (.t 0))⟩,
              ⟨some 18, none, [], .p (.nilChk (.t 17))⟩,
              ⟨some 19, none, [], .p (.faddr 0 (.t 18))⟩,
              ⟨some 20, none, [], .r (.load1 (.t 19))⟩,
              ⟨some 21, none, [], .p (.bin .neq (.t 20) (.c (.str [])))⟩,
              ⟨some 16, none, [], .p (.mv (.t 21))⟩]) (
          .cond (.t 16) (
            .seq (
              .region [
                ⟨some 2, none, [], .p (.mv (.c (.int .i64 5)))⟩]) (
            .ret)) (
            .skip)))))))) (
  .seq (
    .region [
      ⟨some 2, none, [], .p (.mv (.c (.int .i64 0)))⟩]) (
  .ret))),
  22, [Sum.inl 2]⟩

theorem c33 : cFunc Tryd.prog quiet Tryd.f33 [] = some s33 := by kernel_rfl

-- 35 calls []
abbrev k35_0 : List Nat := [0, 3, 4]
abbrev a35_0 : List Nat := [0, 3]
abbrev e35_0 (v0 v3 v4 : AV) : Env := [v0, .dead, .dead, v3, v4, .dead, .dead, .dead, .dead, .dead, .dead, .dead, .dead, .dead, .dead, .dead, .dead, .dead, .dead, .dead, .dead, .dead, .dead, .dead, .dead, .dead, .dead, .dead, .dead, .dead, .dead, .dead, .dead, .dead, .dead, .dead, .dead, .dead, .dead, .dead, .dead, .dead, .dead, .dead, .dead, .dead, .dead, .dead, .dead, .dead, .dead, .dead]
abbrev x35_0 (v0 v3 : AV) : Env := [v0, .dead, .dead, v3, .dead, .dead, .dead, .dead, .dead, .dead, .dead, .dead, .dead, .dead, .dead, .dead, .dead, .dead, .dead, .dead, .dead, .dead, .dead, .dead, .dead, .dead, .dead, .dead, .dead, .dead, .dead, .dead, .dead, .dead, .dead, .dead, .dead, .dead, .dead, .dead, .dead, .dead, .dead, .dead, .dead, .dead, .dead, .dead, .dead, .dead, .dead, .dead]
def s35_b0 : SCode :=
  .seq (
    .seq (
      .region [
        ⟨some 24, none, [], .p (.mv (.t 4))⟩,
        ⟨some 25, none, [], .p (.bin .lss (.t 24) (.c (.int .i64 8)))⟩]) (
    .cond (.t 25) (
      .skip) (
      .exit 0))) (
  .seq (
    .block 1 (
      .region [
        ⟨some 28, none, [], .p (.mv (.t 3))⟩,
        ⟨some 29, none, [], .p (.bin .mul (.c (u64 256#64)) (.t 28))⟩,
        ⟨some 30, none, [], .p (.mv (.t 0))⟩,
        ⟨some 31, none, [], .p (.nilChk (.t 30))⟩,
        ⟨some 32, none, [], .p (.faddr 0 (.t 31))⟩,
        ⟨some 33, none, [], .r (.load1 (.t 32))⟩,
        ⟨some 34, none, [], .p (.mv (.t 0))⟩,
        ⟨some 35, none, [], .p (.nilChk (.t 34))⟩,
        ⟨some 36, none, [], .p (.faddr 1 (.t 35))⟩,
        ⟨some 37, none, [], .r (.load1 (.t 36))⟩,
        ⟨some 38, none, [], .p (.mv (.t 4))⟩,
        ⟨some 39, none, [], .p (.bin .add (.t 37) (.t 38))⟩,
        ⟨some 40, none, [], .p (.idxStr (.t 33) (.t 39))⟩,
        ⟨some 41, none, [], .p (.conv .u64 (.t 40))⟩,
        ⟨some 42, none, [], .p (.bin .add (.t 29) (.t 41))⟩,
        ⟨some 3, none, [], .p (.mv (.t 42))⟩])) (
  .region [
    ⟨some 26, none, [], .p (.mv (.t 4))⟩,
    ⟨some 27, none, [], .p (.bin .add (.t 26) (.c (.int .i64 1)))⟩,
    ⟨some 4, none, [], .p (.mv (.t 27))⟩]))

def s35 : SFunc := ⟨
  .seq (
    .region [
      ⟨some 2, none, [], .p (.mv (.c (u64 0#64)))⟩]) (
  .seq (
    .seq (
      .region [
        ⟨some 5, none, [], .p (.mv (.t 0))⟩,
        ⟨some 6, none, [], .p (.nilChk (.t 5))⟩,
        ⟨some 7, none, [], .p (.faddr 2 (.t 6))⟩,
        ⟨some 8, none, [], .r (.load1 (.t 7))⟩,
        ⟨some 9, none, [], .p (.bin .neq (.t 8) (.c (.int .i64 0)))⟩]) (
    .cond (.t 9) (
      .seq (
        .region [
          ⟨some 2, none, [], .p (.mv (.c (u64 0#64)))⟩]) (
      .ret)) (
      .skip))) (
  .seq (
    .seq (
      .region [
        ⟨some 10, none, [], .p (.mv (.t 0))⟩,
        ⟨some 11, none, [], .p (.nilChk (.t 10))⟩,
        ⟨some 12, none, [], .p (.faddr 0 (.t 11))⟩,
        ⟨some 13, none, [], .r (.load1 (.t 12))⟩,
        ⟨some 14, none, [], .p (.lenV false (.t 13))⟩,
        ⟨some 15, none, [], .p (.mv (.t 0))⟩,
        ⟨some 16, none, [], .p (.nilChk (.t 15))⟩,
        ⟨some 17, none, [], .p (.faddr 1 (.t 16))⟩,
        ⟨some 18, none, [], .r (.load1 (.t 17))⟩,
        ⟨some 19, none, [], .p (.bin .sub (.t 14) (.t 18))⟩,
        ⟨some 20, none, [], .p (.bin .lss (.t 19) (.c (.int .i64 8)))⟩]) (
    .cond (.t 20) (
      .seq (
        .region [
          ⟨some 21, none, [], .p (.mv (.t 0))⟩,
          ⟨some 22, none, [], .p (.nilChk (.t 21))⟩,
          ⟨some 23, none, [], .p (.faddr 2 (.t 22))⟩,
          ⟨none, none, [], .w (.store1 (.t 23) (.c (.int .i64 3)))⟩]) (
      .seq (
        .region [
          ⟨some 2, none, [], .p (.mv (.c (u64 0#64)))⟩]) (
      .ret))) (
      .skip))) (
  .seq (
    .region [
      ⟨some 3, none, [], .p (.mv (.c (u64 0#64)))⟩]) (
  .seq (
    .seq (
      .region [
        ⟨some 4, none, [], .p (.mv (.c (.int .i64 0)))⟩]) (
    .block 0 (
      .loop k35_0 a35_0 s35_b0))) (
  .seq (
    .region [
      ⟨some 43, none, [], .p (.mv (.t 0))⟩,
      ⟨some 44, none, [], .p (.mv (.t 0))⟩,
      ⟨some 45, none, [], .p (.nilChk (.t 44))⟩,
      ⟨some 46, none, [], .p (.faddr 1 (.t 45))⟩,
      ⟨some 47, none, [], .r (.load1 (.t 46))⟩,
      ⟨some 48, none, [], .p (.bin .add (.t 47) (.c (.int .i64 8)))⟩,
      ⟨some 49, none, [], .p (.nilChk (.t 43))⟩,
      ⟨some 50, none, [], .p (.faddr 1 (.t 49))⟩,
      ⟨none, none, [], .w (.store1 (.t 50) (.t 48))⟩]) (
  .seq (
    .region [
      ⟨some 51, none, [], .p (.mv (.t 3))⟩,
      ⟨some 2, none, [], .p (.mv (.t 51))⟩]) (
  .ret))))))),
  52, [Sum.inl 2]⟩

theorem c35 : cFunc Tryd.prog quiet Tryd.f35 [[0, 3, 4], [0, 3]] = some s35 := by kernel_rfl

-- 36 calls [35]
def s36 : SFunc := ⟨
  .seq (
    .region [
      ⟨some 2, none, [], .p (.mv (.c (.str [])))⟩]) (
  .seq (
    .region [
      ⟨some 5, none, [], .p (.mv (.t 0))⟩,
      ⟨some 6, none, [], .call 4004 4 false (.f 35) [.t 5]⟩,
      ⟨some 3, none, [], .p (.mv (.t 6))⟩]) (
  .seq (
    .seq (
      .region [
        ⟨some 7, none, [], .p (.mv (.t 0))⟩,
        ⟨some 8, none, [], .p (.nilChk (.t 7))⟩,
        ⟨some 9, none, [], .p (.faddr 2 (.t 8))⟩,
        ⟨some 10, none, [], .r (.load1 (.t 9))⟩,
        ⟨some 11, none, [], .p (.bin .neq (.t 10) (.c (.int .i64 0)))⟩]) (
    .cond (.t 11) (
      .seq (
        .region [
          ⟨some 2, none, [], .p (.mv (.c (.str [])))⟩]) (
      .ret)) (
      .skip))) (
  .seq (
    .seq (
      .region [
        ⟨some 12, none, [], .p (.mv (.t 3))⟩,
        ⟨some 13, none, [], .p (.mv (.t 0))⟩,
        ⟨some 14, none, [], .p (.nilChk (.t 13))⟩,
        ⟨some 15, none, [], .p (.faddr 0 (.t 14))⟩,
        ⟨some 16, none, [], .r (.load1 (.t 15))⟩,
        ⟨some 17, none, [], .p (.lenV false (.t 16))⟩,
        ⟨some 18, none, [], .p (.mv (.t 0))⟩,
        ⟨some 19, none, [], .p (.nilChk (.t 18))⟩,
        ⟨some 20, none, [], .p (.faddr 1 (.t 19))⟩,
        ⟨some 21, none, [], .r (.load1 (.t 20))⟩,
        ⟨some 22, none, [], .p (.bin .sub (.t 17) (.t 21))⟩,
        ⟨some 23, none, [], .p (.conv .u64 (.t 22))⟩,
        ⟨some 24, none, [], .p (.bin .gtr (.t 12) (.t 23))⟩]) (
    .cond (.t 24) (
      .seq (
        .region [
          ⟨some 25, none, [], .p (.mv (.t 0))⟩,
          ⟨some 26, none, [], .p (.nilChk (.t 25))⟩,
          ⟨some 27, none, [], .p (.faddr 2 (.t 26))⟩,
          ⟨none, none, [], .w (.store1 (.t 27) (.c (.int .i64 3)))⟩]) (
      .seq (
        .region [
          ⟨some 2, none, [], .p (.mv (.c (.str [])))⟩]) (
      .ret))) (
      .skip))) (
  .seq (
    .region [
      ⟨some 28, none, [], .p (.mv (.t 0))⟩,
      ⟨some 29, none, [], .p (.nilChk (.t 28))⟩,
      ⟨some 30, none, [], .p (.faddr 0 (.t 29))⟩,
      ⟨some 31, none, [], .r (.load1 (.t 30))⟩,
      ⟨some 32, none, [], .p (.mv (.t 0))⟩,
      ⟨some 33, none, [], .p (.nilChk (.t 32))⟩,
      ⟨some 34, none, [], .p (.faddr 1 (.t 33))⟩,
      ⟨some 35, none, [], .r (.load1 (.t 34))⟩,
      ⟨some 36, none, [], .p (.mv (.t 0))⟩,
      ⟨some 37, none, [], .p (.nilChk (.t 36))⟩,
      ⟨some 38, none, [], .p (.faddr 1 (.t 37))⟩,
      ⟨some 39, none, [], .r (.load1 (.t 38))⟩,
      ⟨some 40, none, [], .p (.mv (.t 3))⟩,
      ⟨some 41, none, [], .p (.conv .i64 (.t 40))⟩,
      ⟨some 42, none, [], .p (.bin .add (.t 39) (.t 41))⟩,
      ⟨some 43, none, [], .p (.slcStr (.t 31) (some (.t 35)) (some (.t 42)))⟩,
      ⟨some 4, none, [], .p (.mv (.t 43))⟩]) (
  .seq (
    .region [
      ⟨some 44, none, [], .p (.mv (.t 0))⟩,
      ⟨some 45, none, [], .p (.mv (.t 0))⟩,
      ⟨some 46, none, [], .p (.nilChk (.t 45))⟩,
      ⟨some 47, none, [], .p (.faddr 1 (.t 46))⟩,
      ⟨some 48, none, [], .r (.load1 (.t 47))⟩,
      ⟨some 49, none, [], .p (.mv (.t 3))⟩,
      ⟨some 50, none, [], .p (.conv .i64 (.t 49))⟩,
      ⟨some 51, none, [], .p (.bin .add (.t 48) (.t 50))⟩,
      ⟨some 52, none, [], .p (.nilChk (.t 44))⟩,
      ⟨some 53, none, [], .p (.faddr 1 (.t 52))⟩,
      ⟨none, none, [], .w (.store1 (.t 53) (.t 51))⟩]) (
  .seq (
    .region [
      ⟨some 54, none, [], .p (.mv (.t 4))⟩,
      ⟨some 2, none, [], .p (.mv (.t 54))⟩]) (
  .ret))))))),
  55, [Sum.inl 2]⟩

theorem c36 : cFunc Tryd.prog quiet Tryd.f36 [] = some s36 := by kernel_rfl

-- 38 calls [52]
def s38 : SFunc := ⟨
  .seq (
    .region [
      ⟨some 2, none, [], .p (.mv (.c (.str [])))⟩]) (
  .seq (
    .region [
      ⟨some 3, none, [], .p (.mv (.t 0))⟩,
      ⟨some 4, none, [], .p (.bin .shr (.t 3) (.c (u64 32#64)))⟩,
      ⟨some 5, none, [], .p (.conv .u32 (.t 4))⟩,
      ⟨some 6, none, [], .p (.mv (.t 0))⟩,
      ⟨some 7, none, [], .p (.conv .u32 (.t 6))⟩,
      ⟨some 8, none, [], .a 4020 (.buildS 1 2 [u32 0#32] [(0, 1, .t 5), (1, 1, .t 7)])⟩,
      ⟨some 9, none, [], .call 4024 4 true (.f 52) [.t 8]⟩,
      ⟨some 2, none, [], .p (.mv (.t 9))⟩]) (
  .ret)),
  10, [Sum.inl 2]⟩

theorem c38 : cFunc Tryd.prog quiet Tryd.f38 [] = some s38 := by kernel_rfl

-- 39 calls [38]
def s39 : SFunc := ⟨
  .seq (
    .region [
      ⟨some 2, none, [], .p (.mv (.c (.str [])))⟩]) (
  .seq (
    .region [
      ⟨some 3, none, [], .p (.mv (.t 0))⟩,
      ⟨some 4, none, [], .p (.lenV false (.t 3))⟩,
      ⟨some 5, none, [], .p (.conv .u64 (.t 4))⟩,
      ⟨some 6, none, [], .call 4012 4 true (.f 38) [.t 5]⟩,
      ⟨some 7, none, [], .p (.mv (.t 0))⟩,
      ⟨some 8, none, [], .p (.bin .add (.t 6) (.t 7))⟩,
      ⟨some 2, none, [], .p (.mv (.t 8))⟩]) (
  .ret)),
  9, [Sum.inl 2]⟩

theorem c39 : cFunc Tryd.prog quiet Tryd.f39 [] = some s39 := by kernel_rfl

-- 40 calls [51, 53]
def s40 : SFunc := ⟨
  .seq (
    .region [
      ⟨some 2, none, [], .p (.mv (.c (u64 0#64)))⟩]) (
  .seq (
    .region [
      ⟨some 7, none, [], .p (.mv (.t 0))⟩,
      ⟨some 8, none, [], .call 4004 4 false (.f 51) [.t 7, .c (u64 8#64)]⟩,
      ⟨some 9, none, [], .call 4008 4 true (.f 53) [.t 8]⟩,
      ⟨some 6, none, [], .p (.mv (.t 9))⟩,
      ⟨some 10, none, [], .p (.extract (.t 6) 0)⟩,
      ⟨some 11, none, [], .p (.extract (.t 6) 1)⟩,
      ⟨some 3, none, [], .p (.mv (.t 10))⟩,
      ⟨some 4, none, [], .p (.mv (.t 11))⟩]) (
  .seq (
    .seq (
      .region [
        ⟨some 12, none, [], .p (.mv (.t 3))⟩,
        ⟨some 13, none, [], .p (.lenV true (.t 12))⟩,
        ⟨some 14, none, [], .p (.bin .lss (.t 13) (.c (.int .i64 2)))⟩]) (
    .cond (.t 14) (
      .seq (
        .region [
          ⟨some 2, none, [], .p (.mv (.c (u64 0#64)))⟩]) (
      .ret)) (
      .skip))) (
  .seq (
    .region [
      ⟨some 15, none, [], .p (.mv (.t 3))⟩,
      ⟨some 16, none, [], .p (.arrPtr 2 (.t 15))⟩,
      ⟨some 17, none, [], .r (.loadN 2 (.t 16))⟩,
      ⟨some 5, none, [], .a 16012 (.alloc [u32 0#32, u32 0#32])⟩,
      ⟨none, none, [], .w (.storeN 2 (.t 5) (.t 17))⟩]) (
  .seq (
    .region [
      ⟨some 18, none, [], .p (.iaddrA 2 1 (.t 5) (.c (.int .i64 0)))⟩,
      ⟨some 19, none, [], .r (.load1 (.t 18))⟩,
      ⟨some 20, none, [], .p (.conv .u64 (.t 19))⟩,
      ⟨some 21, none, [], .p (.bin .shl (.t 20) (.c (u64 32#64)))⟩,
      ⟨some 22, none, [], .p (.iaddrA 2 1 (.t 5) (.c (.int .i64 1)))⟩,
      ⟨some 23, none, [], .r (.load1 (.t 22))⟩,
      ⟨some 24, none, [], .p (.conv .u64 (.t 23))⟩,
      ⟨some 25, none, [], .p (.bin .or (.t 21) (.t 24))⟩,
      ⟨some 2, none, [], .p (.mv (.t 25))⟩]) (
  .ret))))),
  26, [Sum.inl 2]⟩

theorem c40 : cFunc Tryd.prog quiet Tryd.f40 [] = some s40 := by kernel_rfl

-- 41 calls [31, 32]
def s41 : SFunc := ⟨
  .seq (
    .region [
      ⟨some 2, none, [], .a 0 (.alloc [.int .i64 0, .str [], .str []])⟩]) (
  .seq (
    .region [
      ⟨some 6, none, [], .p (.mv (.t 0))⟩,
      ⟨some 7, none, [], .call 4004 4 false (.f 31) [.t 6, .c (.int .i64 4)]⟩,
      ⟨some 3, none, [], .p (.mv (.t 7))⟩]) (
  .seq (
    .region [
      ⟨some 8, none, [], .p (.mv (.t 0))⟩,
      ⟨some 9, none, [], .call 8004 4 false (.f 32) [.t 8]⟩,
      ⟨some 4, none, [], .p (.mv (.t 9))⟩]) (
  .seq (
    .region [
      ⟨some 10, none, [], .p (.mv (.t 0))⟩,
      ⟨some 11, none, [], .call 12004 4 false (.f 32) [.t 10]⟩,
      ⟨some 5, none, [], .p (.mv (.t 11))⟩]) (
  .seq (
    .region [
      ⟨some 12, none, [], .p (.mv (.t 3))⟩,
      ⟨some 13, none, [], .p (.mv (.t 4))⟩,
      ⟨some 14, none, [], .p (.mv (.t 5))⟩,
      ⟨some 15, none, [], .p (.build [.int .i64 0, .str [], .str []] [(0, 1, .t 12), (1, 1, .t 13), (2, 1, .t 14)])⟩,
      ⟨none, none, [], .w (.storeN 3 (.t 2) (.t 15))⟩]) (
  .ret))))),
  16, [Sum.inr (2, 3, true)]⟩

theorem c41 : cFunc Tryd.prog quiet Tryd.f41 [] = some s41 := by kernel_rfl

-- 42 calls [54, 55, 56]
def s42 : SFunc := ⟨
  .seq (
    .region [
      ⟨some 1, none, [], .a 0 (.box (.t 0))⟩,
      ⟨some 2, none, [], .p (.mv (.c (.bool false)))⟩]) (
  .seq (
    .region [
      ⟨some 3, none, [], .r (.loadN 9 (.t 1))⟩,
      ⟨some 4, none, [], .call 4004 4 true (.f 54) [.t 3]⟩,
      ⟨some 5, none, [], .p (.mv (.t 4))⟩,
      ⟨some 6, some (5, true), [], .r (.loadN 9 (.t 1))⟩,
      ⟨some 7, some (5, true), [], .call 4016 4 true (.f 55) [.t 6]⟩,
      ⟨some 8, none, [], .p (.pick (.t 5) (.t 7) (.c (.bool false)))⟩,
      ⟨some 9, none, [], .p (.mv (.t 8))⟩,
      ⟨some 10, some (9, true), [], .r (.loadN 9 (.t 1))⟩,
      ⟨some 11, some (9, true), [], .call 4032 4 true (.f 56) [.t 10]⟩,
      ⟨some 12, none, [], .p (.pick (.t 9) (.t 11) (.c (.bool false)))⟩,
      ⟨some 2, none, [], .p (.mv (.t 12))⟩]) (
  .ret)),
  13, [Sum.inl 2]⟩

theorem c42 : cFunc Tryd.prog quiet Tryd.f42 [] = some s42 := by kernel_rfl

-- 43 calls [35]
def s43 : SFunc := ⟨
  .seq (
    .region [
      ⟨some 2, none, [], .p (.mv (.c (.int .i64 0)))⟩]) (
  .seq (
    .region [
      ⟨some 4, none, [], .p (.mv (.t 0))⟩,
      ⟨some 5, none, [], .call 4004 4 false (.f 35) [.t 4]⟩,
      ⟨some 3, none, [], .p (.mv (.t 5))⟩]) (
  .seq (
    .seq (
      .region [
        ⟨some 6, none, [], .p (.mv (.t 3))⟩,
        ⟨some 7, none, [], .p (.bin .gtr (.t 6) (.c (u64 100#64)))⟩]) (
    .cond (.t 7) (
      .seq (
        .region [
          ⟨some 2, none, [], .p (.mv (.c (.int .i64 (-1))))⟩]) (
      .ret)) (
      .skip))) (
  .seq (
    .region [
      ⟨some 8, none, [], .p (.mv (.t 3))⟩,
      ⟨some 9, none, [], .p (.conv .i64 (.t 8))⟩,
      ⟨some 2, none, [], .p (.mv (.t 9))⟩]) (
  .ret)))),
  10, [Sum.inl 2]⟩

theorem c43 : cFunc Tryd.prog quiet Tryd.f43 [] = some s43 := by kernel_rfl

-- 44 calls [26, 28, 57]
abbrev k44_2 : List Nat := [1, 8, 11]
abbrev a44_2 : List Nat := [8]
abbrev e44_2 (v1 v8 v11 : AV) : Env := [.dead, v1, .dead, .dead, .dead, .dead, .dead, .dead, v8, .dead, .dead, v11, .dead, .dead, .dead, .dead, .dead, .dead, .dead, .dead, .dead, .dead, .dead, .dead, .dead, .dead, .dead, .dead, .dead, .dead, .dead, .dead, .dead, .dead, .dead, .dead, .dead, .dead, .dead, .dead, .dead, .dead, .dead, .dead, .dead, .dead, .dead, .dead, .dead, .dead, .dead, .dead, .dead, .dead, .dead, .dead, .dead, .dead, .dead, .dead, .dead, .dead, .dead, .dead, .dead, .dead, .dead, .dead, .dead, .dead, .dead, .dead, .dead, .dead, .dead, .dead, .dead, .dead, .dead, .dead, .dead, .dead, .dead, .dead, .dead, .dead, .dead, .dead, .dead, .dead, .dead, .dead, .dead, .dead, .dead, .dead, .dead, .dead, .dead, .dead, .dead, .dead, .dead, .dead, .dead, .dead, .dead, .dead, .dead, .dead, .dead, .dead]
abbrev x44_2 (v8 : AV) : Env := [.dead, .dead, .dead, .dead, .dead, .dead, .dead, .dead, v8, .dead, .dead, .dead, .dead, .dead, .dead, .dead, .dead, .dead, .dead, .dead, .dead, .dead, .dead, .dead, .dead, .dead, .dead, .dead, .dead, .dead, .dead, .dead, .dead, .dead, .dead, .dead, .dead, .dead, .dead, .dead, .dead, .dead, .dead, .dead, .dead, .dead, .dead, .dead, .dead, .dead, .dead, .dead, .dead, .dead, .dead, .dead, .dead, .dead, .dead, .dead, .dead, .dead, .dead, .dead, .dead, .dead, .dead, .dead, .dead, .dead, .dead, .dead, .dead, .dead, .dead, .dead, .dead, .dead, .dead, .dead, .dead, .dead, .dead, .dead, .dead, .dead, .dead, .dead, .dead, .dead, .dead, .dead, .dead, .dead, .dead, .dead, .dead, .dead, .dead, .dead, .dead, .dead, .dead, .dead, .dead, .dead, .dead, .dead, .dead, .dead, .dead, .dead]
def s44_b2 : SCode :=
  .seq (
    .seq (
      .region [
        ⟨some 82, none, [], .p (.mv (.t 11))⟩,
        ⟨some 83, none, [], .p (.faddr 8 (.t 1))⟩,
        ⟨some 84, none, [], .r (.load1 (.t 83))⟩,
        ⟨some 85, none, [], .p (.lenV true (.t 84))⟩,
        ⟨some 86, none, [], .p (.bin .lss (.t 82) (.t 85))⟩]) (
    .cond (.t 86) (
      .skip) (
      .exit 4))) (
  .seq (
    .block 5 (
      .seq (
        .region [
          ⟨some 89, none, [], .p (.faddr 8 (.t 1))⟩,
          ⟨some 90, none, [], .r (.load1 (.t 89))⟩,
          ⟨some 91, none, [], .p (.mv (.t 11))⟩,
          ⟨some 92, none, [], .p (.iaddrS 3 (.t 90) (.t 91))⟩,
          ⟨some 93, none, [], .r (.loadN 3 (.t 92))⟩,
          ⟨some 12, none, [], .a 88020 (.alloc [.int .i64 0, .str [], .str []])⟩,
          ⟨none, none, [], .w (.storeN 3 (.t 12) (.t 93))⟩]) (
      .seq (
        .region [
          ⟨some 94, none, [], .p (.faddr 0 (.t 12))⟩,
          ⟨some 95, none, [], .r (.load1 (.t 94))⟩,
          ⟨some 96, none, [], .p (.conv .u64 (.t 95))⟩,
          ⟨some 97, none, [], .call 92012 4 true (.f 28) [.t 96]⟩,
          ⟨some 13, none, [], .p (.mv (.t 97))⟩]) (
      .seq (
        .region [
          ⟨some 98, none, [], .p (.faddr 1 (.t 12))⟩,
          ⟨some 99, none, [], .r (.load1 (.t 98))⟩,
          ⟨some 100, none, [], .call 96008 4 true (.f 26) [.t 99]⟩,
          ⟨some 14, none, [], .p (.mv (.t 100))⟩]) (
      .seq (
        .region [
          ⟨some 101, none, [], .p (.faddr 2 (.t 12))⟩,
          ⟨some 102, none, [], .r (.load1 (.t 101))⟩,
          ⟨some 103, none, [], .call 100008 4 true (.f 26) [.t 102]⟩,
          ⟨some 15, none, [], .p (.mv (.t 103))⟩]) (
      .region [
        ⟨some 104, none, [], .p (.mv (.t 8))⟩,
        ⟨some 105, none, [], .p (.mv (.t 13))⟩,
        ⟨some 106, none, [], .p (.bin .add (.t 104) (.t 105))⟩,
        ⟨some 107, none, [], .p (.mv (.t 14))⟩,
        ⟨some 108, none, [], .p (.bin .add (.t 106) (.t 107))⟩,
        ⟨some 109, none, [], .p (.mv (.t 15))⟩,
        ⟨some 110, none, [], .p (.bin .add (.t 108) (.t 109))⟩,
        ⟨some 8, none, [], .p (.mv (.t 110))⟩])))))) (
  .region [
    ⟨some 87, none, [], .p (.mv (.t 11))⟩,
    ⟨some 88, none, [], .p (.bin .add (.t 87) (.c (.int .i64 1)))⟩,
    ⟨some 11, none, [], .p (.mv (.t 88))⟩]))

abbrev k44_1 : List Nat := [1, 6, 8, 9]
abbrev a44_1 : List Nat := [1, 8]
abbrev e44_1 (v1 v6 v8 v9 : AV) : Env := [.dead, v1, .dead, .dead, .dead, .dead, v6, .dead, v8, v9, .dead, .dead, .dead, .dead, .dead, .dead, .dead, .dead, .dead, .dead, .dead, .dead, .dead, .dead, .dead, .dead, .dead, .dead, .dead, .dead, .dead, .dead, .dead, .dead, .dead, .dead, .dead, .dead, .dead, .dead, .dead, .dead, .dead, .dead, .dead, .dead, .dead, .dead, .dead, .dead, .dead, .dead, .dead, .dead, .dead, .dead, .dead, .dead, .dead, .dead, .dead, .dead, .dead, .dead, .dead, .dead, .dead, .dead, .dead, .dead, .dead, .dead, .dead, .dead, .dead, .dead, .dead, .dead, .dead, .dead, .dead, .dead, .dead, .dead, .dead, .dead, .dead, .dead, .dead, .dead, .dead, .dead, .dead, .dead, .dead, .dead, .dead, .dead, .dead, .dead, .dead, .dead, .dead, .dead, .dead, .dead, .dead, .dead, .dead, .dead, .dead, .dead]
abbrev x44_1 (v1 v8 : AV) : Env := [.dead, v1, .dead, .dead, .dead, .dead, .dead, .dead, v8, .dead, .dead, .dead, .dead, .dead, .dead, .dead, .dead, .dead, .dead, .dead, .dead, .dead, .dead, .dead, .dead, .dead, .dead, .dead, .dead, .dead, .dead, .dead, .dead, .dead, .dead, .dead, .dead, .dead, .dead, .dead, .dead, .dead, .dead, .dead, .dead, .dead, .dead, .dead, .dead, .dead, .dead, .dead, .dead, .dead, .dead, .dead, .dead, .dead, .dead, .dead, .dead, .dead, .dead, .dead, .dead, .dead, .dead, .dead, .dead, .dead, .dead, .dead, .dead, .dead, .dead, .dead, .dead, .dead, .dead, .dead, .dead, .dead, .dead, .dead, .dead, .dead, .dead, .dead, .dead, .dead, .dead, .dead, .dead, .dead, .dead, .dead, .dead, .dead, .dead, .dead, .dead, .dead, .dead, .dead, .dead, .dead, .dead, .dead, .dead, .dead, .dead, .dead]
def s44_b1 : SCode :=
  .seq (
    .seq (
      .region [
        ⟨some 68, none, [], .p (.mv (.t 9))⟩,
        ⟨some 69, none, [], .p (.mv (.t 6))⟩,
        ⟨some 70, none, [], .p (.lenV true (.t 69))⟩,
        ⟨some 71, none, [], .p (.bin .lss (.t 68) (.t 70))⟩]) (
    .cond (.t 71) (
      .skip) (
      .exit 2))) (
  .seq (
    .block 3 (
      .seq (
        .region [
          ⟨some 74, none, [], .p (.mv (.t 6))⟩,
          ⟨some 75, none, [], .p (.mv (.t 9))⟩,
          ⟨some 76, none, [], .p (.iaddrS 1 (.t 74) (.t 75))⟩,
          ⟨some 77, none, [], .r (.load1 (.t 76))⟩,
          ⟨some 78, none, [], .call 68016 4 true (.f 28) [.t 77]⟩,
          ⟨some 10, none, [], .p (.mv (.t 78))⟩]) (
      .region [
        ⟨some 79, none, [], .p (.mv (.t 8))⟩,
        ⟨some 80, none, [], .p (.mv (.t 10))⟩,
        ⟨some 81, none, [], .p (.bin .add (.t 79) (.t 80))⟩,
        ⟨some 8, none, [], .p (.mv (.t 81))⟩]))) (
  .region [
    ⟨some 72, none, [], .p (.mv (.t 9))⟩,
    ⟨some 73, none, [], .p (.bin .add (.t 72) (.c (.int .i64 1)))⟩,
    ⟨some 9, none, [], .p (.mv (.t 73))⟩]))

abbrev k44_0 : List Nat := [1, 6, 7]
abbrev a44_0 : List Nat := [1, 6]
abbrev e44_0 (v1 v6 v7 : AV) : Env := [.dead, v1, .dead, .dead, .dead, .dead, v6, v7, .dead, .dead, .dead, .dead, .dead, .dead, .dead, .dead, .dead, .dead, .dead, .dead, .dead, .dead, .dead, .dead, .dead, .dead, .dead, .dead, .dead, .dead, .dead, .dead, .dead, .dead, .dead, .dead, .dead, .dead, .dead, .dead, .dead, .dead, .dead, .dead, .dead, .dead, .dead, .dead, .dead, .dead, .dead, .dead, .dead, .dead, .dead, .dead, .dead, .dead, .dead, .dead, .dead, .dead, .dead, .dead, .dead, .dead, .dead, .dead, .dead, .dead, .dead, .dead, .dead, .dead, .dead, .dead, .dead, .dead, .dead, .dead, .dead, .dead, .dead, .dead, .dead, .dead, .dead, .dead, .dead, .dead, .dead, .dead, .dead, .dead, .dead, .dead, .dead, .dead, .dead, .dead, .dead, .dead, .dead, .dead, .dead, .dead, .dead, .dead, .dead, .dead, .dead, .dead]
abbrev x44_0 (v1 v6 : AV) : Env := [.dead, v1, .dead, .dead, .dead, .dead, v6, .dead, .dead, .dead, .dead, .dead, .dead, .dead, .dead, .dead, .dead, .dead, .dead, .dead, .dead, .dead, .dead, .dead, .dead, .dead, .dead, .dead, .dead, .dead, .dead, .dead, .dead, .dead, .dead, .dead, .dead, .dead, .dead, .dead, .dead, .dead, .dead, .dead, .dead, .dead, .dead, .dead, .dead, .dead, .dead, .dead, .dead, .dead, .dead, .dead, .dead, .dead, .dead, .dead, .dead, .dead, .dead, .dead, .dead, .dead, .dead, .dead, .dead, .dead, .dead, .dead, .dead, .dead, .dead, .dead, .dead, .dead, .dead, .dead, .dead, .dead, .dead, .dead, .dead, .dead, .dead, .dead, .dead, .dead, .dead, .dead, .dead, .dead, .dead, .dead, .dead, .dead, .dead, .dead, .dead, .dead, .dead, .dead, .dead, .dead, .dead, .dead, .dead, .dead, .dead, .dead]
def s44_b0 : SCode :=
  .seq (
    .seq (
      .region [
        ⟨some 45, none, [], .p (.mv (.t 7))⟩,
        ⟨some 46, none, [], .p (.faddr 7 (.t 1))⟩,
        ⟨some 47, none, [], .r (.load1 (.t 46))⟩,
        ⟨some 48, none, [], .p (.lenV true (.t 47))⟩,
        ⟨some 49, none, [], .p (.bin .lss (.t 45) (.t 48))⟩]) (
    .cond (.t 49) (
      .skip) (
      .exit 0))) (
  .seq (
    .block 1 (
      .region [
        ⟨some 52, none, [], .p (.mv (.t 6))⟩,
        ⟨some 53, none, [], .p (.faddr 7 (.t 1))⟩,
        ⟨some 54, none, [], .r (.load1 (.t 53))⟩,
        ⟨some 55, none, [], .p (.mv (.t 7))⟩,
        ⟨some 56, none, [], .p (.iaddrS 1 (.t 54) (.t 55))⟩,
        ⟨some 57, none, [], .r (.load1 (.t 56))⟩,
        ⟨some 58, none, [], .p (.conv .u64 (.t 57))⟩,
        ⟨some 59, none, [], .a 44028 (.buildS 1 1 [u64 0#64] [(0, 1, .t 58)])⟩,
        ⟨some 60, none, [], .w (.append 44032 1 8 (.t 52) (.t 59))⟩,
        ⟨some 6, none, [], .p (.mv (.t 60))⟩])) (
  .region [
    ⟨some 50, none, [], .p (.mv (.t 7))⟩,
    ⟨some 51, none, [], .p (.bin .add (.t 50) (.c (.int .i64 1)))⟩,
    ⟨some 7, none, [], .p (.mv (.t 51))⟩]))

def s44 : SFunc := ⟨
  .seq (
    .region [
      ⟨some 1, none, [], .a 0 (.box (.t 0))⟩,
      ⟨some 2, none, [], .p (.mv (.c (.str [])))⟩,
      ⟨some 3, none, [], .p (.mv (.c (.int .i64 0)))⟩]) (
  .seq (
    .region [
      ⟨some 16, none, [], .r (.loadN 9 (.t 1))⟩,
      ⟨some 17, none, [], .call 4004 4 true (.f 57) [.t 16]⟩,
      ⟨some 4, none, [], .p (.mv (.t 17))⟩]) (
  .seq (
    .seq (
      .region [
        ⟨some 18, none, [], .p (.mv (.t 4))⟩,
        ⟨some 19, none, [], .p (.un .not (.t 18))⟩]) (
    .cond (.t 19) (
      .seq (
        .region [
          ⟨some 2, none, [], .p (.mv (.c (.str [])))⟩,
          ⟨some 3, none, [], .p (.mv (.c (.int .i64 4)))⟩]) (
      .ret)) (
      .skip))) (
  .seq (
    .region [
      ⟨some 5, none, [], .p (.mv (.c (.int .i64 0)))⟩]) (
  .seq (
    .seq (
      .region [
        ⟨some 20, none, [], .p (.faddr 6 (.t 1))⟩,
        ⟨some 21, none, [], .r (.load1 (.t 20))⟩]) (
    .cond (.t 21) (
      .region [
        ⟨some 5, none, [], .p (.mv (.c (.int .i64 1)))⟩]) (
      .skip))) (
  .seq (
    .region [
      ⟨some 22, none, [], .p (.faddr 0 (.t 1))⟩,
      ⟨some 23, none, [], .r (.load1 (.t 22))⟩,
      ⟨some 24, none, [], .p (.faddr 1 (.t 1))⟩,
      ⟨some 25, none, [], .r (.load1 (.t 24))⟩,
      ⟨some 26, none, [], .p (.faddr 2 (.t 1))⟩,
      ⟨some 27, none, [], .r (.load1 (.t 26))⟩,
      ⟨some 28, none, [], .p (.conv .u64 (.t 27))⟩,
      ⟨some 29, none, [], .p (.faddr 3 (.t 1))⟩,
      ⟨some 30, none, [], .r (.load1 (.t 29))⟩,
      ⟨some 31, none, [], .p (.conv .u64 (.t 30))⟩,
      ⟨some 32, none, [], .p (.faddr 4 (.t 1))⟩,
      ⟨some 33, none, [], .r (.load1 (.t 32))⟩,
      ⟨some 34, none, [], .p (.conv .u64 (.t 33))⟩,
      ⟨some 35, none, [], .p (.faddr 5 (.t 1))⟩,
      ⟨some 36, none, [], .r (.load1 (.t 35))⟩,
      ⟨some 37, none, [], .p (.conv .u64 (.t 36))⟩,
      ⟨some 38, none, [], .p (.mv (.t 5))⟩,
      ⟨some 39, none, [], .p (.conv .u64 (.t 38))⟩,
      ⟨some 40, none, [], .p (.faddr 7 (.t 1))⟩,
      ⟨some 41, none, [], .r (.load1 (.t 40))⟩,
      ⟨some 42, none, [], .p (.lenV true (.t 41))⟩,
      ⟨some 43, none, [], .p (.conv .u64 (.t 42))⟩,
      ⟨some 44, none, [], .a 28088 (.buildS 1 8 [u64 0#64] [(0, 1, .t 23), (1, 1, .t 25), (2, 1, .t 28), (3, 1, .t 31), (4, 1, .t 34), (5, 1, .t 37), (6, 1, .t 39), (7, 1, .t 43)])⟩,
      ⟨some 6, none, [], .p (.mv (.t 44))⟩]) (
  .seq (
    .seq (
      .region [
        ⟨some 7, none, [], .p (.mv (.c (.int .i64 0)))⟩]) (
    .block 0 (
      .loop k44_0 a44_0 s44_b0))) (
  .seq (
    .region [
      ⟨some 61, none, [], .p (.mv (.t 6))⟩,
      ⟨some 62, none, [], .p (.faddr 8 (.t 1))⟩,
      ⟨some 63, none, [], .r (.load1 (.t 62))⟩,
      ⟨some 64, none, [], .p (.lenV true (.t 63))⟩,
      ⟨some 65, none, [], .p (.conv .u64 (.t 64))⟩,
      ⟨some 66, none, [], .a 48020 (.buildS 1 1 [u64 0#64] [(0, 1, .t 65)])⟩,
      ⟨some 67, none, [], .w (.append 48024 1 8 (.t 61) (.t 66))⟩,
      ⟨some 6, none, [], .p (.mv (.t 67))⟩]) (
  .seq (
    .region [
      ⟨some 8, none, [], .p (.mv (.c (.str [])))⟩]) (
  .seq (
    .seq (
      .region [
        ⟨some 9, none, [], .p (.mv (.c (.int .i64 0)))⟩]) (
    .block 2 (
      .loop k44_1 a44_1 s44_b1))) (
  .seq (
    .seq (
      .region [
        ⟨some 11, none, [], .p (.mv (.c (.int .i64 0)))⟩]) (
    .block 4 (
      .loop k44_2 a44_2 s44_b2))) (
  .seq (
    .region [
      ⟨some 111, none, [], .p (.mv (.t 8))⟩,
      ⟨some 2, none, [], .p (.mv (.t 111))⟩,
      ⟨some 3, none, [], .p (.mv (.c (.int .i64 0)))⟩]) (
  .ret)))))))))))),
  112, [Sum.inl 2, Sum.inl 3]⟩

theorem c44 : cFunc Tryd.prog quiet Tryd.f44 [[1, 6, 7], [1, 6], [1, 6, 8, 9], [1, 8], [1, 8, 11], [8]] = some s44 := by kernel_rfl

-- 45 calls []
abbrev k45_0 : List Nat := [2, 3, 4, 5, 60, 61, 62]
abbrev a45_0 : List Nat := [2, 3, 4, 5]
abbrev e45_0 (v2 v3 v4 v5 v60 v61 v62 : AV) : Env := [.dead, .dead, v2, v3, v4, v5, .dead, .dead, .dead, .dead, .dead, .dead, .dead, .dead, .dead, .dead, .dead, .dead, .dead, .dead, .dead, .dead, .dead, .dead, .dead, .dead, .dead, .dead, .dead, .dead, .dead, .dead, .dead, .dead, .dead, .dead, .dead, .dead, .dead, .dead, .dead, .dead, .dead, .dead, .dead, .dead, .dead, .dead, .dead, .dead, .dead, .dead, .dead, .dead, .dead, .dead, .dead, .dead, .dead, .dead, v60, v61, v62, .dead, .dead, .dead, .dead, .dead, .dead, .dead, .dead, .dead, .dead, .dead, .dead, .dead, .dead, .dead, .dead, .dead, .dead, .dead, .dead, .dead, .dead, .dead, .dead, .dead, .dead, .dead, .dead, .dead, .dead, .dead, .dead, .dead, .dead, .dead, .dead, .dead, .dead, .dead, .dead, .dead, .dead, .dead]
abbrev x45_0 (v2 v3 v4 v5 : AV) : Env := [.dead, .dead, v2, v3, v4, v5, .dead, .dead, .dead, .dead, .dead, .dead, .dead, .dead, .dead, .dead, .dead, .dead, .dead, .dead, .dead, .dead, .dead, .dead, .dead, .dead, .dead, .dead, .dead, .dead, .dead, .dead, .dead, .dead, .dead, .dead, .dead, .dead, .dead, .dead, .dead, .dead, .dead, .dead, .dead, .dead, .dead, .dead, .dead, .dead, .dead, .dead, .dead, .dead, .dead, .dead, .dead, .dead, .dead, .dead, .dead, .dead, .dead, .dead, .dead, .dead, .dead, .dead, .dead, .dead, .dead, .dead, .dead, .dead, .dead, .dead, .dead, .dead, .dead, .dead, .dead, .dead, .dead, .dead, .dead, .dead, .dead, .dead, .dead, .dead, .dead, .dead, .dead, .dead, .dead, .dead, .dead, .dead, .dead, .dead, .dead, .dead, .dead, .dead, .dead, .dead]
def s45_b0 : SCode :=
  .seq (
    .region [
      ⟨some 63, none, [], .p (.bin .lss (.t 62) (.t 61))⟩]) (
  .seq (
    .cond (.t 63) (
      .skip) (
      .exit 0)) (
  .seq (
    .block 1 (
      .seq (
        .region [
          ⟨some 64, none, [], .p (.iaddrS 4 (.t 60) (.t 62))⟩,
          ⟨some 65, none, [], .r (.loadN 4 (.t 64))⟩,
          ⟨some 7, none, [], .a 24008 (.alloc [.int .i64 0, byteAV 0, byteAV 0, .bool false])⟩,
          ⟨none, none, [], .w (.storeN 4 (.t 7) (.t 65))⟩]) (
      .seq (
        .region [
          ⟨some 8, none, [], .p (.mv (.c (.int .i64 31)))⟩]) (
      .seq (
        .seq (
          .region [
            ⟨some 66, none, [], .p (.faddr 3 (.t 7))⟩,
            ⟨some 67, none, [], .r (.load1 (.t 66))⟩]) (
        .cond (.t 67) (
          .region [
            ⟨some 8, none, [], .p (.mv (.c (.int .i64 30)))⟩]) (
          .skip))) (
      .seq (
        .region [
          ⟨some 68, none, [], .p (.faddr 1 (.t 7))⟩,
          ⟨some 69, none, [40020, 40040, 40048], .r (.load1 (.t 68))⟩,
          ⟨some 70, none, [40020, 40040, 40048], .a 40008 (.buildS 1 1 [byteAV 0] [(0, 1, .t 69)])⟩,
          ⟨some 71, none, [40020, 40040, 40048], .r (.toStr (.t 70))⟩,
          ⟨some 72, none, [], .p (.mv (.t 8))⟩,
          ⟨some 73, none, [40008, 40040, 40048], .a 40020 (.mkSlice 1 1 [byteAV 0] (.t 72) (.t 72))⟩,
          ⟨some 74, none, [40008, 40040, 40048], .r (.toStr (.t 73))⟩,
          ⟨some 75, none, [], .p (.bin .add (.t 71) (.t 74))⟩,
          ⟨some 76, none, [], .p (.faddr 2 (.t 7))⟩,
          ⟨some 77, none, [40008, 40020, 40048], .r (.load1 (.t 76))⟩,
          ⟨some 78, none, [40008, 40020, 40048], .a 40040 (.buildS 1 1 [byteAV 0] [(0, 1, .t 77)])⟩,
          ⟨some 79, none, [40008, 40020, 40048], .r (.toStr (.t 78))⟩,
          ⟨some 80, none, [40008, 40020, 40040], .a 40048 (.mkSlice 1 1 [byteAV 0] (.c (.int .i64 31)) (.c (.int .i64 31)))⟩,
          ⟨some 81, none, [40008, 40020, 40040], .r (.toStr (.t 80))⟩,
          ⟨some 82, none, [], .p (.bin .add (.t 79) (.t 81))⟩,
          ⟨some 9, none, [], .p (.mv (.t 75))⟩,
          ⟨some 10, none, [], .p (.mv (.t 82))⟩]) (
      .seq (
        .region [
          ⟨some 83, none, [], .p (.faddr 8 (.t 4))⟩,
          ⟨some 84, none, [], .r (.load1 (.t 83))⟩,
          ⟨some 85, none, [], .p (.faddr 0 (.t 7))⟩,
          ⟨some 86, none, [], .r (.load1 (.t 85))⟩,
          ⟨some 87, none, [], .p (.mv (.t 9))⟩,
          ⟨some 88, none, [], .p (.mv (.t 10))⟩,
          ⟨some 89, none, [], .p (.build [.int .i64 0, .str [], .str []] [(0, 1, .t 86), (1, 1, .t 87), (2, 1, .t 88)])⟩,
          ⟨some 90, none, [], .a 44028 (.buildS 3 1 [.int .i64 0, .str [], .str []] [(0, 3, .t 89)])⟩,
          ⟨some 91, none, [], .w (.append 44032 3 40 (.t 84) (.t 90))⟩,
          ⟨some 92, none, [], .p (.faddr 8 (.t 4))⟩,
          ⟨none, none, [], .w (.store1 (.t 92) (.t 91))⟩]) (
      .region [
        ⟨some 93, none, [], .p (.faddr 8 (.t 5))⟩,
        ⟨some 94, none, [], .r (.load1 (.t 93))⟩,
        ⟨some 95, none, [], .p (.faddr 0 (.t 7))⟩,
        ⟨some 96, none, [], .r (.load1 (.t 95))⟩,
        ⟨some 97, none, [], .p (.mv (.t 9))⟩,
        ⟨some 98, none, [], .p (.mv (.t 10))⟩,
        ⟨some 99, none, [], .p (.build [.int .i64 0, .str [], .str []] [(0, 1, .t 96), (1, 1, .t 97), (2, 1, .t 98)])⟩,
        ⟨some 100, none, [], .a 48028 (.buildS 3 1 [.int .i64 0, .str [], .str []] [(0, 3, .t 99)])⟩,
        ⟨some 101, none, [], .w (.append 48032 3 40 (.t 94) (.t 100))⟩,
        ⟨some 102, none, [], .p (.faddr 8 (.t 5))⟩,
        ⟨none, none, [], .w (.store1 (.t 102) (.t 101))⟩]))))))) (
  .region [
    ⟨some 103, none, [], .p (.bin .add (.t 62) (.c (.int .i64 1)))⟩,
    ⟨some 62, none, [], .p (.mv (.t 103))⟩])))

def s45 : SFunc := ⟨
  .seq (
    .region [
      ⟨some 1, none, [], .a 0 (.box (.t 0))⟩,
      ⟨some 2, none, [], .a 4 (.alloc [u64 0#64, u64 0#64, .int .i64 0, .int .i64 0, .int .i64 0, .int .i64 0, .bool false, .slice none 0 0, .slice none 0 0])⟩,
      ⟨some 3, none, [], .a 8 (.alloc [u64 0#64, u64 0#64, .int .i64 0, .int .i64 0, .int .i64 0, .int .i64 0, .bool false, .slice none 0 0, .slice none 0 0])⟩]) (
  .seq (
    .region [
      ⟨some 11, none, [], .p (.faddr 7 (.t 1))⟩,
      ⟨some 12, none, [], .r (.load1 (.t 11))⟩,
      ⟨some 13, none, [], .p (.faddr 7 (.t 1))⟩,
      ⟨some 14, none, [], .r (.load1 (.t 13))⟩,
      ⟨some 15, none, [], .p (.lenV true (.t 14))⟩,
      ⟨some 16, none, [], .p (.minmax false (.t 15) (.c (.int .i64 30)))⟩,
      ⟨some 17, none, [], .p (.slcS 1 (.t 12) none (some (.t 16)) none)⟩,
      ⟨some 18, none, [], .w (.append 4028 1 8 (.c (.slice none 0 0)) (.t 17))⟩,
      ⟨some 19, none, [], .p (.faddr 7 (.t 1))⟩,
      ⟨none, none, [], .w (.store1 (.t 19) (.t 18))⟩]) (
  .seq (
    .region [
      ⟨some 20, none, [], .p (.faddr 0 (.t 1))⟩,
      ⟨some 21, none, [], .r (.load1 (.t 20))⟩,
      ⟨some 22, none, [], .p (.faddr 1 (.t 1))⟩,
      ⟨some 23, none, [], .r (.load1 (.t 22))⟩,
      ⟨some 24, none, [], .p (.faddr 2 (.t 1))⟩,
      ⟨some 25, none, [], .r (.load1 (.t 24))⟩,
      ⟨some 26, none, [], .p (.faddr 3 (.t 1))⟩,
      ⟨some 27, none, [], .r (.load1 (.t 26))⟩,
      ⟨some 28, none, [], .p (.faddr 4 (.t 1))⟩,
      ⟨some 29, none, [], .r (.load1 (.t 28))⟩,
      ⟨some 30, none, [], .p (.faddr 5 (.t 1))⟩,
      ⟨some 31, none, [], .r (.load1 (.t 30))⟩,
      ⟨some 32, none, [], .p (.faddr 6 (.t 1))⟩,
      ⟨some 33, none, [], .r (.load1 (.t 32))⟩,
      ⟨some 34, none, [], .p (.faddr 7 (.t 1))⟩,
      ⟨some 35, none, [], .r (.load1 (.t 34))⟩,
      ⟨some 36, none, [], .p (.build [u64 0#64, u64 0#64, .int .i64 0, .int .i64 0, .int .i64 0, .int .i64 0, .bool false, .slice none 0 0, .slice none 0 0] [(0, 1, .t 21), (1, 1, .t 23), (2, 1, .t 25), (3, 1, .t 27), (4, 1, .t 29), (5, 1, .t 31), (6, 1, .t 33), (7, 1, .t 35)])⟩,
      ⟨some 4, none, [], .a 8068 (.alloc [u64 0#64, u64 0#64, .int .i64 0, .int .i64 0, .int .i64 0, .int .i64 0, .bool false, .slice none 0 0, .slice none 0 0])⟩,
      ⟨none, none, [], .w (.storeN 9 (.t 4) (.t 36))⟩]) (
  .seq (
    .region [
      ⟨some 37, none, [], .p (.faddr 0 (.t 1))⟩,
      ⟨some 38, none, [], .r (.load1 (.t 37))⟩,
      ⟨some 39, none, [], .p (.faddr 1 (.t 1))⟩,
      ⟨some 40, none, [], .r (.load1 (.t 39))⟩,
      ⟨some 41, none, [], .p (.faddr 2 (.t 1))⟩,
      ⟨some 42, none, [], .r (.load1 (.t 41))⟩,
      ⟨some 43, none, [], .p (.faddr 3 (.t 1))⟩,
      ⟨some 44, none, [], .r (.load1 (.t 43))⟩,
      ⟨some 45, none, [], .p (.faddr 4 (.t 1))⟩,
      ⟨some 46, none, [], .r (.load1 (.t 45))⟩,
      ⟨some 47, none, [], .p (.faddr 5 (.t 1))⟩,
      ⟨some 48, none, [], .r (.load1 (.t 47))⟩,
      ⟨some 49, none, [], .p (.faddr 6 (.t 1))⟩,
      ⟨some 50, none, [], .r (.load1 (.t 49))⟩,
      ⟨some 51, none, [], .p (.faddr 7 (.t 1))⟩,
      ⟨some 52, none, [], .r (.load1 (.t 51))⟩,
      ⟨some 53, none, [], .p (.build [u64 0#64, u64 0#64, .int .i64 0, .int .i64 0, .int .i64 0, .int .i64 0, .bool false, .slice none 0 0, .slice none 0 0] [(0, 1, .t 38), (1, 1, .t 40), (2, 1, .t 42), (3, 1, .t 44), (4, 1, .t 46), (5, 1, .t 48), (6, 1, .t 50), (7, 1, .t 52)])⟩,
      ⟨some 5, none, [], .a 12068 (.alloc [u64 0#64, u64 0#64, .int .i64 0, .int .i64 0, .int .i64 0, .int .i64 0, .bool false, .slice none 0 0, .slice none 0 0])⟩,
      ⟨none, none, [], .w (.storeN 9 (.t 5) (.t 53))⟩]) (
  .seq (
    .seq (
      .region [
        ⟨some 54, none, [], .p (.faddr 8 (.t 1))⟩,
        ⟨some 55, none, [], .r (.load1 (.t 54))⟩,
        ⟨some 56, none, [], .p (.faddr 8 (.t 1))⟩,
        ⟨some 57, none, [], .r (.load1 (.t 56))⟩,
        ⟨some 58, none, [], .p (.lenV true (.t 57))⟩,
        ⟨some 59, none, [], .p (.minmax false (.t 58) (.c (.int .i64 20)))⟩,
        ⟨some 60, none, [], .p (.slcS 4 (.t 55) none (some (.t 59)) none)⟩,
        ⟨some 61, none, [], .p (.lenV true (.t 60))⟩,
        ⟨some 62, none, [], .p (.mv (.c (.int .i64 0)))⟩]) (
    .block 0 (
      .loop k45_0 a45_0 s45_b0))) (
  .seq (
    .regionF [
      ⟨some 104, none, [], .r (.loadN 9 (.t 4))⟩,
      ⟨some 105, none, [], .r (.loadN 9 (.t 5))⟩,
      ⟨none, none, [], .w (.storeN 9 (.t 2) (.t 104))⟩,
      ⟨none, none, [], .w (.storeN 9 (.t 3) (.t 105))⟩] [(5, 2)]) (
  .ret)))))),
  106, [Sum.inr (2, 9, true), Sum.inr (3, 9, true)]⟩

theorem c45 : cFunc Tryd.prog quiet Tryd.f45 [[2, 3, 4, 5, 60, 61, 62], [2, 3, 4, 5]] = some s45 := by kernel_rfl

-- 46 calls [38, 39, 42, 49, 50, 58]
abbrev k46_1 : List Nat := [4, 5, 60, 61, 62]
abbrev a46_1 : List Nat := [4]
abbrev e46_1 (v4 v5 v60 v61 v62 : AV) : Env := [.dead, .dead, .dead, .dead, v4, v5, .dead, .dead, .dead, .dead, .dead, .dead, .dead, .dead, .dead, .dead, .dead, .dead, .dead, .dead, .dead, .dead, .dead, .dead, .dead, .dead, .dead, .dead, .dead, .dead, .dead, .dead, .dead, .dead, .dead, .dead, .dead, .dead, .dead, .dead, .dead, .dead, .dead, .dead, .dead, .dead, .dead, .dead, .dead, .dead, .dead, .dead, .dead, .dead, .dead, .dead, .dead, .dead, .dead, .dead, v60, v61, v62, .dead, .dead, .dead, .dead, .dead, .dead, .dead, .dead, .dead, .dead, .dead, .dead, .dead, .dead, .dead, .dead, .dead, .dead, .dead]
abbrev x46_1 (v4 : AV) : Env := [.dead, .dead, .dead, .dead, v4, .dead, .dead, .dead, .dead, .dead, .dead, .dead, .dead, .dead, .dead, .dead, .dead, .dead, .dead, .dead, .dead, .dead, .dead, .dead, .dead, .dead, .dead, .dead, .dead, .dead, .dead, .dead, .dead, .dead, .dead, .dead, .dead, .dead, .dead, .dead, .dead, .dead, .dead, .dead, .dead, .dead, .dead, .dead, .dead, .dead, .dead, .dead, .dead, .dead, .dead, .dead, .dead, .dead, .dead, .dead, .dead, .dead, .dead, .dead, .dead, .dead, .dead, .dead, .dead, .dead, .dead, .dead, .dead, .dead, .dead, .dead, .dead, .dead, .dead, .dead, .dead, .dead]
def s46_b1 : SCode :=
  .seq (
    .region [
      ⟨some 63, none, [], .p (.bin .lss (.t 62) (.t 61))⟩]) (
  .seq (
    .cond (.t 63) (
      .skip) (
      .exit 2)) (
  .seq (
    .block 3 (
      .seq (
        .region [
          ⟨some 64, none, [], .p (.iaddrS 3 (.t 60) (.t 62))⟩,
          ⟨some 65, none, [], .r (.loadN 3 (.t 64))⟩,
          ⟨some 10, none, [], .a 56008 (.alloc [.int .i64 0, .str [], .str []])⟩,
          ⟨none, none, [], .w (.storeN 3 (.t 10) (.t 65))⟩]) (
      .region [
        ⟨some 66, none, [], .p (.mv (.t 5))⟩,
        ⟨some 67, none, [], .p (.faddr 0 (.t 10))⟩,
        ⟨some 68, none, [], .r (.load1 (.t 67))⟩,
        ⟨some 69, none, [], .p (.conv .u64 (.t 68))⟩,
        ⟨some 70, none, [], .call 60016 4 true (.f 38) [.t 69]⟩,
        ⟨some 71, none, [], .p (.faddr 1 (.t 10))⟩,
        ⟨some 72, none, [60016, 60017, 60018, 60019], .r (.load1 (.t 71))⟩,
        ⟨some 73, none, [], .call 60028 4 true (.f 39) [.t 72]⟩,
        ⟨some 74, none, [], .p (.bin .add (.t 70) (.t 73))⟩,
        ⟨some 75, none, [], .p (.faddr 2 (.t 10))⟩,
        ⟨some 76, none, [60016, 60017, 60018, 60019, 60028, 60029, 60030, 60031], .r (.load1 (.t 75))⟩,
        ⟨some 77, none, [], .call 60044 4 true (.f 39) [.t 76]⟩,
        ⟨some 78, none, [], .p (.bin .add (.t 74) (.t 77))⟩,
        ⟨some 79, none, [], .b 60052 (.write 49 106 5 (.t 66) [.t 78])⟩]))) (
  .region [
    ⟨some 80, none, [], .p (.bin .add (.t 62) (.c (.int .i64 1)))⟩,
    ⟨some 62, none, [], .p (.mv (.t 80))⟩])))

abbrev k46_0 : List Nat := [1, 4, 5, 47, 48, 49]
abbrev a46_0 : List Nat := [1, 4, 5]
abbrev e46_0 (v1 v4 v5 v47 v48 v49 : AV) : Env := [.dead, v1, .dead, .dead, v4, v5, .dead, .dead, .dead, .dead, .dead, .dead, .dead, .dead, .dead, .dead, .dead, .dead, .dead, .dead, .dead, .dead, .dead, .dead, .dead, .dead, .dead, .dead, .dead, .dead, .dead, .dead, .dead, .dead, .dead, .dead, .dead, .dead, .dead, .dead, .dead, .dead, .dead, .dead, .dead, .dead, .dead, v47, v48, v49, .dead, .dead, .dead, .dead, .dead, .dead, .dead, .dead, .dead, .dead, .dead, .dead, .dead, .dead, .dead, .dead, .dead, .dead, .dead, .dead, .dead, .dead, .dead, .dead, .dead, .dead, .dead, .dead, .dead, .dead, .dead, .dead]
abbrev x46_0 (v1 v4 v5 : AV) : Env := [.dead, v1, .dead, .dead, v4, v5, .dead, .dead, .dead, .dead, .dead, .dead, .dead, .dead, .dead, .dead, .dead, .dead, .dead, .dead, .dead, .dead, .dead, .dead, .dead, .dead, .dead, .dead, .dead, .dead, .dead, .dead, .dead, .dead, .dead, .dead, .dead, .dead, .dead, .dead, .dead, .dead, .dead, .dead, .dead, .dead, .dead, .dead, .dead, .dead, .dead, .dead, .dead, .dead, .dead, .dead, .dead, .dead, .dead, .dead, .dead, .dead, .dead, .dead, .dead, .dead, .dead, .dead, .dead, .dead, .dead, .dead, .dead, .dead, .dead, .dead, .dead, .dead, .dead, .dead, .dead, .dead]
def s46_b0 : SCode :=
  .seq (
    .region [
      ⟨some 50, none, [], .p (.bin .lss (.t 49) (.t 48))⟩]) (
  .seq (
    .cond (.t 50) (
      .skip) (
      .exit 0)) (
  .seq (
    .block 1 (
      .seq (
        .region [
          ⟨some 51, none, [], .p (.iaddrS 1 (.t 47) (.t 49))⟩,
          ⟨some 52, none, [], .r (.load1 (.t 51))⟩,
          ⟨some 8, none, [], .p (.mv (.t 52))⟩]) (
      .region [
        ⟨some 53, none, [], .p (.mv (.t 5))⟩,
        ⟨some 54, none, [], .p (.mv (.t 8))⟩,
        ⟨some 55, none, [], .p (.conv .u64 (.t 54))⟩,
        ⟨some 56, none, [], .call 40012 4 true (.f 38) [.t 55]⟩,
        ⟨some 57, none, [], .b 40016 (.write 49 106 5 (.t 53) [.t 56])⟩]))) (
  .region [
    ⟨some 58, none, [], .p (.bin .add (.t 49) (.c (.int .i64 1)))⟩,
    ⟨some 49, none, [], .p (.mv (.t 58))⟩])))

def s46 : SFunc := ⟨
  .seq (
    .region [
      ⟨some 1, none, [], .a 0 (.box (.t 0))⟩,
      ⟨some 2, none, [], .p (.mv (.c (.str [])))⟩,
      ⟨some 3, none, [], .p (.mv (.c (.int .i64 0)))⟩]) (
  .seq (
    .seq (
      .region [
        ⟨some 11, none, [], .r (.loadN 9 (.t 1))⟩,
        ⟨some 12, none, [], .call 4004 4 true (.f 42) [.t 11]⟩,
        ⟨some 13, none, [], .p (.un .not (.t 12))⟩]) (
    .cond (.t 13) (
      .seq (
        .region [
          ⟨some 2, none, [], .p (.mv (.c (.str [])))⟩,
          ⟨some 3, none, [], .p (.mv (.c (.int .i64 4)))⟩]) (
      .ret)) (
      .skip))) (
  .seq (
    .region [
      ⟨some 4, none, [], .b 12000 (.new 106)⟩]) (
  .seq (
    .region [
      ⟨some 14, none, [], .p (.mkFunc 49 [.t 4] [])⟩,
      ⟨some 5, none, [], .p (.mv (.t 14))⟩]) (
  .seq (
    .region [
      ⟨some 15, none, [], .p (.mv (.t 5))⟩,
      ⟨some 16, none, [], .p (.faddr 0 (.t 1))⟩,
      ⟨some 17, none, [], .r (.load1 (.t 16))⟩,
      ⟨some 18, none, [], .call 20012 4 true (.f 38) [.t 17]⟩,
      ⟨some 19, none, [], .p (.faddr 1 (.t 1))⟩,
      ⟨some 20, none, [20012, 20013, 20014, 20015], .r (.load1 (.t 19))⟩,
      ⟨some 21, none, [], .call 20024 4 true (.f 38) [.t 20]⟩,
      ⟨some 22, none, [], .p (.bin .add (.t 18) (.t 21))⟩,
      ⟨some 23, none, [], .b 20032 (.write 49 106 5 (.t 15) [.t 22])⟩]) (
  .seq (
    .region [
      ⟨some 24, none, [], .p (.faddr 2 (.t 1))⟩,
      ⟨some 25, none, [24040, 24041, 24042, 24043], .r (.load1 (.t 24))⟩,
      ⟨some 26, none, [], .p (.faddr 3 (.t 1))⟩,
      ⟨some 27, none, [24040, 24041, 24042, 24043], .r (.load1 (.t 26))⟩,
      ⟨some 28, none, [], .p (.faddr 4 (.t 1))⟩,
      ⟨some 29, none, [24040, 24041, 24042, 24043], .r (.load1 (.t 28))⟩,
      ⟨some 30, none, [], .p (.faddr 5 (.t 1))⟩,
      ⟨some 31, none, [24040, 24041, 24042, 24043], .r (.load1 (.t 30))⟩,
      ⟨some 32, none, [], .p (.faddr 6 (.t 1))⟩,
      ⟨some 33, none, [], .r (.load1 (.t 32))⟩,
      ⟨some 34, none, [], .call 24040 4 true (.f 58) [.t 33]⟩,
      ⟨some 35, none, [], .p (.faddr 7 (.t 1))⟩,
      ⟨some 36, none, [24040, 24041, 24042, 24043], .r (.load1 (.t 35))⟩,
      ⟨some 37, none, [], .p (.lenV true (.t 36))⟩,
      ⟨some 38, none, [], .a 24056 (.buildS 1 6 [.int .i64 0] [(0, 1, .t 25), (1, 1, .t 27), (2, 1, .t 29), (3, 1, .t 31), (4, 1, .t 34), (5, 1, .t 37)])⟩,
      ⟨some 39, none, [], .p (.faddr 7 (.t 1))⟩,
      ⟨some 40, none, [24040, 24041, 24042, 24043, 24056], .r (.load1 (.t 39))⟩,
      ⟨some 41, none, [], .w (.append 24068 1 8 (.t 38) (.t 40))⟩,
      ⟨some 6, none, [], .p (.mv (.t 41))⟩]) (
  .seq (
    .seq (
      .region [
        ⟨some 42, none, [], .p (.mv (.t 6))⟩,
        ⟨some 43, none, [], .p (.faddr 8 (.t 1))⟩,
        ⟨some 44, none, [], .r (.load1 (.t 43))⟩,
        ⟨some 45, none, [], .p (.lenV true (.t 44))⟩,
        ⟨some 46, none, [], .a 28016 (.buildS 1 1 [.int .i64 0] [(0, 1, .t 45)])⟩,
        ⟨some 47, none, [], .w (.append 28020 1 8 (.t 42) (.t 46))⟩,
        ⟨some 48, none, [], .p (.lenV true (.t 47))⟩,
        ⟨some 49, none, [], .p (.mv (.c (.int .i64 0)))⟩]) (
    .block 0 (
      .loop k46_0 a46_0 s46_b0))) (
  .seq (
    .seq (
      .region [
        ⟨some 59, none, [], .p (.faddr 8 (.t 1))⟩,
        ⟨some 60, none, [], .r (.load1 (.t 59))⟩,
        ⟨some 61, none, [], .p (.lenV true (.t 60))⟩,
        ⟨some 62, none, [], .p (.mv (.c (.int .i64 0)))⟩]) (
    .block 2 (
      .loop k46_1 a46_1 s46_b1))) (
  .seq (
    .region [
      ⟨some 81, none, [], .b 68000 (.str 50 106 5 (.f 50) [.t 4])⟩,
      ⟨some 2, none, [], .p (.mv (.t 81))⟩,
      ⟨some 3, none, [], .p (.mv (.c (.int .i64 0)))⟩]) (
  .ret))))))))),
  82, [Sum.inl 2, Sum.inl 3]⟩

theorem c46 : cFunc Tryd.prog quiet Tryd.f46 [[1, 4, 5, 47, 48, 49], [1, 4, 5], [4, 5, 60, 61, 62], [4]] = some s46 := by kernel_rfl

-- 47 calls [59]
def s47 : SFunc := ⟨
  .seq (
    .region [
      ⟨some 2, none, [], .p (.mv (.c (.str [])))⟩]) (
  .seq (
    .region [
      ⟨some 3, none, [], .p (.mv (.t 0))⟩,
      ⟨some 4, none, [], .p (.bin .add (.c (.str [2])) (.t 3))⟩,
      ⟨some 5, none, [], .call 4008 4 true (.f 59) [.t 4]⟩,
      ⟨some 2, none, [], .p (.mv (.t 5))⟩]) (
  .ret)),
  6, [Sum.inl 2]⟩

theorem c47 : cFunc Tryd.prog quiet Tryd.f47 [] = some s47 := by kernel_rfl

-- 48 calls [60, 61, 62]
abbrev k48_1 : List Nat := [4, 6, 7]
abbrev a48_1 : List Nat := [6]
abbrev e48_1 (v4 v6 v7 : AV) : Env := [.dead, .dead, .dead, .dead, v4, .dead, v6, v7, .dead, .dead, .dead, .dead, .dead, .dead, .dead, .dead, .dead, .dead, .dead, .dead, .dead, .dead, .dead, .dead, .dead, .dead, .dead, .dead, .dead, .dead, .dead, .dead, .dead, .dead, .dead, .dead]
abbrev x48_1 (v6 : AV) : Env := [.dead, .dead, .dead, .dead, .dead, .dead, v6, .dead, .dead, .dead, .dead, .dead, .dead, .dead, .dead, .dead, .dead, .dead, .dead, .dead, .dead, .dead, .dead, .dead, .dead, .dead, .dead, .dead, .dead, .dead, .dead, .dead, .dead, .dead, .dead, .dead]
def s48_b1 : SCode :=
  .seq (
    .seq (
      .region [
        ⟨some 24, none, [], .p (.mv (.t 7))⟩,
        ⟨some 25, none, [], .p (.bin .lss (.t 24) (.c (.int .i64 8)))⟩]) (
    .cond (.t 25) (
      .skip) (
      .exit 2))) (
  .seq (
    .block 3 (
      .region [
        ⟨some 28, none, [], .p (.mv (.t 6))⟩,
        ⟨some 29, none, [], .p (.mv (.t 7))⟩,
        ⟨some 30, none, [], .p (.iaddrA 8 1 (.t 4) (.t 29))⟩,
        ⟨some 31, none, [], .r (.load1 (.t 30))⟩,
        ⟨some 32, none, [], .a 44016 (.buildS 1 1 [u32 0#32] [(0, 1, .t 31)])⟩,
        ⟨some 33, none, [], .w (.append 44020 1 4 (.t 28) (.t 32))⟩,
        ⟨some 6, none, [], .p (.mv (.t 33))⟩])) (
  .region [
    ⟨some 26, none, [], .p (.mv (.t 7))⟩,
    ⟨some 27, none, [], .p (.bin .add (.t 26) (.c (.int .i64 1)))⟩,
    ⟨some 7, none, [], .p (.mv (.t 27))⟩]))

abbrev k48_0 : List Nat := [3, 4, 5]
abbrev a48_0 : List Nat := [4]
abbrev e48_0 (v3 v4 v5 : AV) : Env := [.dead, .dead, .dead, v3, v4, v5, .dead, .dead, .dead, .dead, .dead, .dead, .dead, .dead, .dead, .dead, .dead, .dead, .dead, .dead, .dead, .dead, .dead, .dead, .dead, .dead, .dead, .dead, .dead, .dead, .dead, .dead, .dead, .dead, .dead, .dead]
abbrev x48_0 (v4 : AV) : Env := [.dead, .dead, .dead, .dead, v4, .dead, .dead, .dead, .dead, .dead, .dead, .dead, .dead, .dead, .dead, .dead, .dead, .dead, .dead, .dead, .dead, .dead, .dead, .dead, .dead, .dead, .dead, .dead, .dead, .dead, .dead, .dead, .dead, .dead, .dead, .dead]
def s48_b0 : SCode :=
  .seq (
    .seq (
      .region [
        ⟨some 11, none, [], .p (.mv (.t 5))⟩,
        ⟨some 12, none, [], .p (.mv (.t 3))⟩,
        ⟨some 13, none, [], .p (.lenV false (.t 12))⟩,
        ⟨some 14, none, [], .p (.bin .lss (.t 11) (.t 13))⟩]) (
    .cond (.t 14) (
      .skip) (
      .exit 0))) (
  .seq (
    .block 1 (
      .region [
        ⟨some 17, none, [], .r (.loadN 8 (.t 4))⟩,
        ⟨some 18, none, [], .p (.mv (.t 3))⟩,
        ⟨some 19, none, [], .p (.mv (.t 5))⟩,
        ⟨some 20, none, [], .p (.mv (.t 5))⟩,
        ⟨some 21, none, [], .p (.bin .add (.t 20) (.c (.int .i64 64)))⟩,
        ⟨some 22, none, [], .p (.slcStr (.t 18) (some (.t 19)) (some (.t 21)))⟩,
        ⟨some 23, none, [], .call 24024 4 true (.f 61) [.t 17, .t 22]⟩,
        ⟨none, none, [], .w (.storeN 8 (.t 4) (.t 23))⟩])) (
  .region [
    ⟨some 15, none, [], .p (.mv (.t 5))⟩,
    ⟨some 16, none, [], .p (.bin .add (.t 15) (.c (.int .i64 64)))⟩,
    ⟨some 5, none, [], .p (.mv (.t 16))⟩]))

def s48 : SFunc := ⟨
  .seq (
    .region [
      ⟨some 2, none, [], .p (.mv (.c (.str [])))⟩]) (
  .seq (
    .region [
      ⟨some 8, none, [], .p (.mv (.t 0))⟩,
      ⟨some 9, none, [], .call 4004 4 true (.f 60) [.t 8]⟩,
      ⟨some 3, none, [], .p (.mv (.t 9))⟩]) (
  .seq (
    .region [
      ⟨some 10, none, [], .r (.loadN 8 (.g 0 8))⟩,
      ⟨some 4, none, [], .a 8004 (.alloc [u32 0#32, u32 0#32, u32 0#32, u32 0#32, u32 0#32, u32 0#32, u32 0#32, u32 0#32])⟩,
      ⟨none, none, [], .w (.storeN 8 (.t 4) (.t 10))⟩]) (
  .seq (
    .seq (
      .region [
        ⟨some 5, none, [], .p (.mv (.c (.int .i64 0)))⟩]) (
    .block 0 (
      .loop k48_0 a48_0 s48_b0))) (
  .seq (
    .region [
      ⟨some 6, none, [], .p (.mv (.c (.slice none 0 0)))⟩]) (
  .seq (
    .seq (
      .region [
        ⟨some 7, none, [], .p (.mv (.c (.int .i64 0)))⟩]) (
    .block 2 (
      .loop k48_1 a48_1 s48_b1))) (
  .seq (
    .region [
      ⟨some 34, none, [], .p (.mv (.t 6))⟩,
      ⟨some 35, none, [], .call 48004 4 true (.f 62) [.t 34, .c (.bool true)]⟩,
      ⟨some 2, none, [], .p (.mv (.t 35))⟩]) (
  .ret))))))),
  36, [Sum.inl 2]⟩

theorem c48 : cFunc Tryd.prog quiet Tryd.f48 [[3, 4, 5], [4], [4, 6, 7], [6]] = some s48 := by kernel_rfl

-- 51 calls []
def s51 : SFunc := ⟨
  .seq (
    .region [
      ⟨some 4, none, [], .p (.mv (.c (.str [])))⟩]) (
  .seq (
    .seq (
      .region [
        ⟨some 6, none, [], .p (.mv (.t 0))⟩,
        ⟨some 7, none, [], .p (.eqn .ptr false (.t 6) (.c (.ptr none)))⟩]) (
    .cond (.t 7) (
      .seq (
        .region [
          ⟨some 4, none, [], .p (.mv (.c (.str [])))⟩]) (
      .ret)) (
      .skip))) (
  .seq (
    .seq (
      .region [
        ⟨some 8, none, [], .p (.mv (.t 0))⟩,
        ⟨some 9, none, [], .p (.nilChk (.t 8))⟩,
        ⟨some 10, none, [], .p (.faddr 1 (.t 9))⟩,
        ⟨some 11, none, [], .r (.load1 (.t 10))⟩,
        ⟨some 12, none, [], .p (.bin .eql (.t 11) (.c (.int .i64 0)))⟩,
        ⟨some 13, none, [], .p (.mv (.t 12))⟩,
        ⟨some 14, some (13, true), [], .p (.mv (.t 1))⟩,
        ⟨some 15, some (13, true), [], .p (.mv (.t 0))⟩,
        ⟨some 16, some (13, true), [], .p (.nilChk (.t 15))⟩,
        ⟨some 17, some (13, true), [], .p (.faddr 0 (.t 16))⟩,
        ⟨some 18, some (13, true), [], .r (.load1 (.t 17))⟩,
        ⟨some 19, some (13, true), [], .p (.lenV false (.t 18))⟩,
        ⟨some 20, some (13, true), [], .p (.conv .u64 (.t 19))⟩,
        ⟨some 21, some (13, true), [], .p (.bin .gtr (.t 14) (.t 20))⟩,
        ⟨some 22, none, [], .p (.pick (.t 13) (.t 21) (.c (.bool false)))⟩]) (
    .cond (.t 22) (
      .region [
        ⟨some 23, none, [], .p (.mv (.t 0))⟩,
        ⟨some 24, none, [], .p (.nilChk (.t 23))⟩,
        ⟨some 25, none, [], .p (.faddr 1 (.t 24))⟩,
        ⟨none, none, [], .w (.store1 (.t 25) (.c (.int .i64 3)))⟩]) (
      .skip))) (
  .seq (
    .seq (
      .region [
        ⟨some 26, none, [], .p (.mv (.t 0))⟩,
        ⟨some 27, none, [], .p (.nilChk (.t 26))⟩,
        ⟨some 28, none, [], .p (.faddr 1 (.t 27))⟩,
        ⟨some 29, none, [], .r (.load1 (.t 28))⟩,
        ⟨some 30, none, [], .p (.bin .neq (.t 29) (.c (.int .i64 0)))⟩]) (
    .cond (.t 30) (
      .seq (
        .region [
          ⟨some 4, none, [], .p (.mv (.c (.str [])))⟩]) (
      .ret)) (
      .skip))) (
  .seq (
    .region [
      ⟨some 31, none, [], .p (.mv (.t 0))⟩,
      ⟨some 32, none, [], .p (.nilChk (.t 31))⟩,
      ⟨some 33, none, [], .p (.faddr 0 (.t 32))⟩,
      ⟨some 34, none, [], .r (.load1 (.t 33))⟩,
      ⟨some 35, none, [], .p (.mv (.t 1))⟩,
      ⟨some 36, none, [], .p (.slcStr (.t 34) none (some (.t 35)))⟩,
      ⟨some 5, none, [], .p (.mv (.t 36))⟩]) (
  .seq (
    .region [
      ⟨some 37, none, [], .p (.mv (.t 0))⟩,
      ⟨some 38, none, [], .p (.mv (.t 0))⟩,
      ⟨some 39, none, [], .p (.nilChk (.t 38))⟩,
      ⟨some 40, none, [], .p (.faddr 0 (.t 39))⟩,
      ⟨some 41, none, [], .r (.load1 (.t 40))⟩,
      ⟨some 42, none, [], .p (.mv (.t 1))⟩,
      ⟨some 43, none, [], .p (.slcStr (.t 41) (some (.t 42)) none)⟩,
      ⟨some 44, none, [], .p (.nilChk (.t 37))⟩,
      ⟨some 45, none, [], .p (.faddr 0 (.t 44))⟩,
      ⟨none, none, [], .w (.store1 (.t 45) (.t 43))⟩]) (
  .seq (
    .region [
      ⟨some 46, none, [], .p (.mv (.t 5))⟩,
      ⟨some 4, none, [], .p (.mv (.t 46))⟩]) (
  .ret))))))),
  47, [Sum.inl 4]⟩

theorem c51 : cFunc Tryd.prog quiet Tryd.f51 [] = some s51 := by kernel_rfl

-- 52 calls []
abbrev k52_0 : List Nat := [3, 10, 11, 12]
abbrev a52_0 : List Nat := [3]
abbrev e52_0 (v3 v10 v11 v12 : AV) : Env := [.dead, .dead, .dead, v3, .dead, .dead, .dead, .dead, .dead, .dead, v10, v11, v12, .dead, .dead, .dead, .dead, .dead, .dead, .dead, .dead, .dead, .dead, .dead, .dead, .dead, .dead, .dead, .dead, .dead, .dead, .dead, .dead]
abbrev x52_0 (v3 : AV) : Env := [.dead, .dead, .dead, v3, .dead, .dead, .dead, .dead, .dead, .dead, .dead, .dead, .dead, .dead, .dead, .dead, .dead, .dead, .dead, .dead, .dead, .dead, .dead, .dead, .dead, .dead, .dead, .dead, .dead, .dead, .dead, .dead, .dead]
def s52_b0 : SCode :=
  .seq (
    .region [
      ⟨some 13, none, [], .p (.bin .lss (.t 12) (.t 11))⟩]) (
  .seq (
    .cond (.t 13) (
      .skip) (
      .exit 0)) (
  .seq (
    .block 1 (
      .seq (
        .region [
          ⟨some 14, none, [], .p (.iaddrS 1 (.t 10) (.t 12))⟩,
          ⟨some 15, none, [], .r (.load1 (.t 14))⟩,
          ⟨some 5, none, [], .p (.mv (.t 15))⟩]) (
      .region [
        ⟨some 16, none, [], .p (.mv (.t 3))⟩,
        ⟨some 17, none, [], .p (.mv (.t 5))⟩,
        ⟨some 18, none, [], .p (.bin .shr (.t 17) (.c (u64 24#64)))⟩,
        ⟨some 19, none, [], .p (.conv .u8 (.t 18))⟩,
        ⟨some 20, none, [], .p (.mv (.t 5))⟩,
        ⟨some 21, none, [], .p (.bin .shr (.t 20) (.c (u64 16#64)))⟩,
        ⟨some 22, none, [], .p (.conv .u8 (.t 21))⟩,
        ⟨some 23, none, [], .p (.mv (.t 5))⟩,
        ⟨some 24, none, [], .p (.bin .shr (.t 23) (.c (u64 8#64)))⟩,
        ⟨some 25, none, [], .p (.conv .u8 (.t 24))⟩,
        ⟨some 26, none, [], .p (.mv (.t 5))⟩,
        ⟨some 27, none, [], .p (.conv .u8 (.t 26))⟩,
        ⟨some 28, none, [], .a 20048 (.buildS 1 4 [byteAV 0] [(0, 1, .t 19), (1, 1, .t 22), (2, 1, .t 25), (3, 1, .t 27)])⟩,
        ⟨some 29, none, [], .w (.append 20052 1 1 (.t 16) (.t 28))⟩,
        ⟨some 3, none, [], .p (.mv (.t 29))⟩]))) (
  .region [
    ⟨some 30, none, [], .p (.bin .add (.t 12) (.c (.int .i64 1)))⟩,
    ⟨some 12, none, [], .p (.mv (.t 30))⟩])))

def s52 : SFunc := ⟨
  .seq (
    .region [
      ⟨some 2, none, [], .p (.mv (.c (.str [])))⟩]) (
  .seq (
    .region [
      ⟨some 6, none, [], .p (.mv (.t 0))⟩,
      ⟨some 7, none, [], .p (.lenV true (.t 6))⟩,
      ⟨some 8, none, [], .p (.bin .mul (.c (.int .i64 4)) (.t 7))⟩,
      ⟨some 9, none, [], .a 4012 (.mkSlice 1 1 [byteAV 0] (.c (.int .i64 0)) (.t 8))⟩,
      ⟨some 3, none, [], .p (.mv (.t 9))⟩]) (
  .seq (
    .seq (
      .region [
        ⟨some 10, none, [], .p (.mv (.t 0))⟩,
        ⟨some 11, none, [], .p (.lenV true (.t 10))⟩,
        ⟨some 12, none, [], .p (.mv (.c (.int .i64 0)))⟩]) (
    .block 0 (
      .loop k52_0 a52_0 s52_b0))) (
  .seq (
    .region [
      ⟨some 31, none, [], .p (.mv (.t 3))⟩,
      ⟨some 32, none, [], .r (.toStr (.t 31))⟩,
      ⟨some 2, none, [], .p (.mv (.t 32))⟩]) (
  .ret)))),
  33, [Sum.inl 2]⟩

theorem c52 : cFunc Tryd.prog quiet Tryd.f52 [[3, 10, 11, 12], [3]] = some s52 := by kernel_rfl

-- 53 calls [64, 65]
def s53 : SFunc := ⟨
  .seq (
    .region [
      ⟨some 2, none, [], .p (.mv (.c (.slice none 0 0)))⟩,
      ⟨some 3, none, [], .p (.mv (.c (.int .i64 0)))⟩]) (
  .seq (
    .region [
      ⟨some 4, none, [], .p (.mv (.t 0))⟩,
      ⟨some 5, none, [], .call 4004 4 true (.f 64) [.t 4, .f 65]⟩,
      ⟨some 6, none, [], .p (.extract (.t 5) 0)⟩,
      ⟨some 7, none, [], .p (.extract (.t 5) 1)⟩,
      ⟨some 2, none, [], .p (.mv (.t 6))⟩,
      ⟨some 3, none, [], .p (.mv (.t 7))⟩]) (
  .ret)),
  8, [Sum.inl 2, Sum.inl 3]⟩

theorem c53 : cFunc Tryd.prog quiet Tryd.f53 [] = some s53 := by kernel_rfl

-- 54 calls [66]
def s54 : SFunc := ⟨
  .seq (
    .region [
      ⟨some 1, none, [], .a 0 (.box (.t 0))⟩,
      ⟨some 2, none, [], .p (.mv (.c (.bool false)))⟩]) (
  .seq (
    .block 0 (
      .seq (
        .region [
          ⟨some 4, none, [], .p (.faddr 2 (.t 1))⟩,
          ⟨some 5, none, [], .r (.load1 (.t 4))⟩,
          ⟨some 6, none, [], .p (.bin .lss (.t 5) (.c (.int .i64 2)))⟩,
          ⟨some 7, none, [], .p (.mv (.t 6))⟩,
          ⟨some 8, some (7, false), [], .p (.faddr 2 (.t 1))⟩,
          ⟨some 9, some (7, false), [], .r (.load1 (.t 8))⟩,
          ⟨some 10, some (7, false), [], .p (.bin .gtr (.t 9) (.c (.int .i64 8)))⟩,
          ⟨some 11, none, [], .p (.pick (.t 7) (.c (.bool true)) (.t 10))⟩,
          ⟨some 12, none, [], .p (.mv (.t 11))⟩,
          ⟨some 13, some (12, false), [], .p (.faddr 6 (.t 1))⟩,
          ⟨some 14, some (12, false), [], .r (.load1 (.t 13))⟩,
          ⟨some 15, some (12, false), [], .p (.mv (.t 14))⟩,
          ⟨some 16, some (15, true), [], .p (.faddr 2 (.t 1))⟩,
          ⟨some 17, some (15, true), [], .r (.load1 (.t 16))⟩,
          ⟨some 18, some (15, true), [], .p (.bin .eql (.t 17) (.c (.int .i64 8)))⟩,
          ⟨some 19, some (12, false), [], .p (.pick (.t 15) (.t 18) (.c (.bool false)))⟩,
          ⟨some 20, none, [], .p (.pick (.t 12) (.c (.bool true)) (.t 19))⟩,
          ⟨some 3, none, [], .p (.mv (.t 20))⟩]) (
      .cond (.t 3) (
        .seq (
          .region [
            ⟨some 2, none, [], .p (.mv (.c (.bool false)))⟩]) (
        .ret)) (
        .seq (
          .region [
            ⟨some 22, none, [], .a 12000 (.buildS 1 4 [.int .i64 0] [(0, 1, .c (.int .i64 2)), (1, 1, .c (.int .i64 4)), (2, 1, .c (.int .i64 8)), (3, 1, .c (.int .i64 16))])⟩,
            ⟨some 23, none, [], .p (.faddr 3 (.t 1))⟩,
            ⟨some 24, none, [], .r (.load1 (.t 23))⟩,
            ⟨some 25, none, [], .call 12012 4 true (.f 66) [.t 22, .t 24]⟩,
            ⟨some 26, none, [], .p (.un .not (.t 25))⟩,
            ⟨some 21, none, [], .p (.mv (.t 26))⟩]) (
        .cond (.t 21) (
          .seq (
            .region [
              ⟨some 2, none, [], .p (.mv (.c (.bool false)))⟩]) (
          .ret)) (
          .seq (
            .region [
              ⟨some 28, none, [], .p (.faddr 4 (.t 1))⟩,
              ⟨some 29, none, [], .r (.load1 (.t 28))⟩,
              ⟨some 30, none, [], .p (.bin .lss (.t 29) (.c (.int .i64 0)))⟩,
              ⟨some 31, none, [], .p (.mv (.t 30))⟩,
              ⟨some 32, some (31, false), [], .p (.faddr 4 (.t 1))⟩,
              ⟨some 33, some (31, false), [], .r (.load1 (.t 32))⟩,
              ⟨some 34, some (31, false), [], .p (.faddr 3 (.t 1))⟩,
              ⟨some 35, some (31, false), [], .r (.load1 (.t 34))⟩,
              ⟨some 36, some (31, false), [], .p (.bin .gtr (.t 33) (.t 35))⟩,
              ⟨some 37, none, [], .p (.pick (.t 31) (.c (.bool true)) (.t 36))⟩,
              ⟨some 38, none, [], .p (.mv (.t 37))⟩,
              ⟨some 39, some (38, false), [], .p (.faddr 4 (.t 1))⟩,
              ⟨some 40, some (38, false), [], .r (.load1 (.t 39))⟩,
              ⟨some 41, some (38, false), [], .p (.bin .gtr (.t 40) (.c (.int .i64 0)))⟩,
              ⟨some 42, some (38, false), [], .p (.mv (.t 41))⟩,
              ⟨some 43, some (42, true), [], .p (.faddr 6 (.t 1))⟩,
              ⟨some 44, some (42, true), [], .r (.load1 (.t 43))⟩,
              ⟨some 45, some (42, true), [], .p (.un .not (.t 44))⟩,
              ⟨some 46, some (38, false), [], .p (.pick (.t 42) (.t 45) (.c (.bool false)))⟩,
              ⟨some 47, none, [], .p (.pick (.t 38) (.c (.bool true)) (.t 46))⟩,
              ⟨some 27, none, [], .p (.mv (.t 47))⟩]) (
          .cond (.t 27) (
            .seq (
              .region [
                ⟨some 2, none, [], .p (.mv (.c (.bool false)))⟩]) (
            .ret)) (
            .skip)))))))) (
  .seq (
    .region [
      ⟨some 48, none, [], .p (.faddr 5 (.t 1))⟩,
      ⟨some 49, none, [], .r (.load1 (.t 48))⟩,
      ⟨some 50, none, [], .p (.bin .geq (.t 49) (.c (.int .i64 0)))⟩,
      ⟨some 51, none, [], .p (.mv (.t 50))⟩,
      ⟨some 52, some (51, true), [], .p (.faddr 5 (.t 1))⟩,
      ⟨some 53, some (51, true), [], .r (.load1 (.t 52))⟩,
      ⟨some 54, some (51, true), [], .p (.faddr 3 (.t 1))⟩,
      ⟨some 55, some (51, true), [], .r (.load1 (.t 54))⟩,
      ⟨some 56, some (51, true), [], .p (.bin .leq (.t 53) (.t 55))⟩,
      ⟨some 57, none, [], .p (.pick (.t 51) (.t 56) (.c (.bool false)))⟩,
      ⟨some 58, none, [], .p (.mv (.t 57))⟩,
      ⟨some 59, some (58, true), [], .p (.faddr 8 (.t 1))⟩,
      ⟨some 60, some (58, true), [], .r (.load1 (.t 59))⟩,
      ⟨some 61, some (58, true), [], .p (.lenV true (.t 60))⟩,
      ⟨some 62, some (58, true), [], .p (.bin .geq (.t 61) (.c (.int .i64 1)))⟩,
      ⟨some 63, none, [], .p (.pick (.t 58) (.t 62) (.c (.bool false)))⟩,
      ⟨some 64, none, [], .p (.mv (.t 63))⟩,
      ⟨some 65, some (64, true), [], .p (.faddr 8 (.t 1))⟩,
      ⟨some 66, some (64, true), [], .r (.load1 (.t 65))⟩,
      ⟨some 67, some (64, true), [], .p (.lenV true (.t 66))⟩,
      ⟨some 68, some (64, true), [], .p (.bin .leq (.t 67) (.c (.int .i64 12)))⟩,
      ⟨some 69, none, [], .p (.pick (.t 64) (.t 68) (.c (.bool false)))⟩,
      ⟨some 2, none, [], .p (.mv (.t 69))⟩]) (
  .ret))),
  70, [Sum.inl 2]⟩

theorem c54 : cFunc Tryd.prog quiet Tryd.f54 [] = some s54 := by kernel_rfl

-- 55 calls []
abbrev k55_0 : List Nat := [1, 3, 7, 8, 9]
abbrev a55_0 : List Nat := [1, 2, 3]
abbrev e55_0 (v1 v3 v7 v8 v9 : AV) : Env := [.dead, v1, .dead, v3, .dead, .dead, .dead, v7, v8, v9, .dead, .dead, .dead, .dead, .dead, .dead, .dead, .dead, .dead, .dead, .dead, .dead, .dead, .dead, .dead, .dead, .dead, .dead, .dead, .dead, .dead, .dead, .dead, .dead, .dead, .dead, .dead, .dead, .dead, .dead, .dead, .dead, .dead, .dead, .dead, .dead, .dead, .dead, .dead, .dead]
abbrev x55_0 (v1 v2 v3 : AV) : Env := [.dead, v1, v2, v3, .dead, .dead, .dead, .dead, .dead, .dead, .dead, .dead, .dead, .dead, .dead, .dead, .dead, .dead, .dead, .dead, .dead, .dead, .dead, .dead, .dead, .dead, .dead, .dead, .dead, .dead, .dead, .dead, .dead, .dead, .dead, .dead, .dead, .dead, .dead, .dead, .dead, .dead, .dead, .dead, .dead, .dead, .dead, .dead, .dead, .dead]
def s55_b0 : SCode :=
  .seq (
    .region [
      ⟨some 10, none, [], .p (.bin .lss (.t 9) (.t 8))⟩]) (
  .seq (
    .cond (.t 10) (
      .skip) (
      .exit 0)) (
  .seq (
    .block 1 (
      .seq (
        .region [
          ⟨some 11, none, [], .p (.iaddrS 3 (.t 7) (.t 9))⟩,
          ⟨some 12, none, [], .r (.loadN 3 (.t 11))⟩,
          ⟨some 5, none, [], .a 16008 (.alloc [.int .i64 0, .str [], .str []])⟩,
          ⟨none, none, [], .w (.storeN 3 (.t 5) (.t 12))⟩]) (
      .seq (
        .seq (
          .region [
            ⟨some 13, none, [], .p (.faddr 0 (.t 5))⟩,
            ⟨some 14, none, [], .r (.load1 (.t 13))⟩,
            ⟨some 15, none, [], .p (.bin .lss (.t 14) (.c (.int .i64 0)))⟩,
            ⟨some 16, none, [], .p (.mv (.t 15))⟩,
            ⟨some 17, some (16, false), [], .p (.faddr 0 (.t 5))⟩,
            ⟨some 18, some (16, false), [], .r (.load1 (.t 17))⟩,
            ⟨some 19, some (16, false), [], .p (.bin .geq (.t 18) (.c (.int .i64 4)))⟩,
            ⟨some 20, none, [], .p (.pick (.t 16) (.c (.bool true)) (.t 19))⟩,
            ⟨some 21, none, [], .p (.mv (.t 20))⟩,
            ⟨some 22, some (21, false), [], .p (.faddr 1 (.t 5))⟩,
            ⟨some 23, some (21, false), [], .r (.load1 (.t 22))⟩,
            ⟨some 24, some (21, false), [], .p (.lenV false (.t 23))⟩,
            ⟨some 25, some (21, false), [], .p (.bin .neq (.t 24) (.c (.int .i64 32)))⟩,
            ⟨some 26, none, [], .p (.pick (.t 21) (.c (.bool true)) (.t 25))⟩,
            ⟨some 27, none, [], .p (.mv (.t 26))⟩,
            ⟨some 28, some (27, false), [], .p (.faddr 2 (.t 5))⟩,
            ⟨some 29, some (27, false), [], .r (.load1 (.t 28))⟩,
            ⟨some 30, some (27, false), [], .p (.lenV false (.t 29))⟩,
            ⟨some 31, some (27, false), [], .p (.bin .neq (.t 30) (.c (.int .i64 32)))⟩,
            ⟨some 32, none, [], .p (.pick (.t 27) (.c (.bool true)) (.t 31))⟩]) (
        .cond (.t 32) (
          .seq (
            .region [
              ⟨some 2, none, [], .p (.mv (.c (.bool false)))⟩]) (
          .ret)) (
          .skip))) (
      .seq (
        .region [
          ⟨some 33, none, [], .p (.faddr 0 (.t 5))⟩,
          ⟨some 34, none, [], .r (.load1 (.t 33))⟩,
          ⟨some 35, none, [], .p (.bin .eql (.t 34) (.c (.int .i64 3)))⟩]) (
      .cond (.t 35) (
        .region [
          ⟨some 36, none, [], .p (.mv (.t 3))⟩,
          ⟨some 37, none, [], .p (.bin .add (.t 36) (.c (.int .i64 1)))⟩,
          ⟨some 3, none, [], .p (.mv (.t 37))⟩]) (
        .skip)))))) (
  .region [
    ⟨some 38, none, [], .p (.bin .add (.t 9) (.c (.int .i64 1)))⟩,
    ⟨some 9, none, [], .p (.mv (.t 38))⟩])))

def s55 : SFunc := ⟨
  .seq (
    .region [
      ⟨some 1, none, [], .a 0 (.box (.t 0))⟩,
      ⟨some 2, none, [], .p (.mv (.c (.bool false)))⟩]) (
  .seq (
    .region [
      ⟨some 3, none, [], .p (.mv (.c (.int .i64 0)))⟩]) (
  .seq (
    .seq (
      .region [
        ⟨some 6, none, [], .p (.faddr 8 (.t 1))⟩,
        ⟨some 7, none, [], .r (.load1 (.t 6))⟩,
        ⟨some 8, none, [], .p (.lenV true (.t 7))⟩,
        ⟨some 9, none, [], .p (.mv (.c (.int .i64 0)))⟩]) (
    .block 0 (
      .loop k55_0 a55_0 s55_b0))) (
  .seq (
    .region [
      ⟨some 39, none, [], .p (.mv (.t 3))⟩,
      ⟨some 40, none, [], .p (.bin .eql (.t 39) (.c (.int .i64 1)))⟩,
      ⟨some 41, none, [], .p (.mv (.t 40))⟩,
      ⟨some 42, some (41, false), [], .p (.mv (.t 3))⟩,
      ⟨some 43, some (41, false), [], .p (.bin .eql (.t 42) (.c (.int .i64 0)))⟩,
      ⟨some 44, some (41, false), [], .p (.mv (.t 43))⟩,
      ⟨some 45, some (44, true), [], .p (.faddr 5 (.t 1))⟩,
      ⟨some 46, some (44, true), [], .r (.load1 (.t 45))⟩,
      ⟨some 47, some (44, true), [], .p (.bin .eql (.t 46) (.c (.int .i64 0)))⟩,
      ⟨some 48, some (41, false), [], .p (.pick (.t 44) (.t 47) (.c (.bool false)))⟩,
      ⟨some 49, none, [], .p (.pick (.t 41) (.c (.bool true)) (.t 48))⟩,
      ⟨some 2, none, [], .p (.mv (.t 49))⟩]) (
  .ret)))),
  50, [Sum.inl 2]⟩

theorem c55 : cFunc Tryd.prog quiet Tryd.f55 [[1, 3, 7, 8, 9], [1, 2, 3]] = some s55 := by kernel_rfl

-- 56 calls []
abbrev k56_1 : List Nat := [4, 47, 48, 49]
abbrev a56_1 : List Nat := [2]
abbrev e56_1 (v4 v47 v48 v49 : AV) : Env := [.dead, .dead, .dead, .dead, v4, .dead, .dead, .dead, .dead, .dead, .dead, .dead, .dead, .dead, .dead, .dead, .dead, .dead, .dead, .dead, .dead, .dead, .dead, .dead, .dead, .dead, .dead, .dead, .dead, .dead, .dead, .dead, .dead, .dead, .dead, .dead, .dead, .dead, .dead, .dead, .dead, .dead, .dead, .dead, .dead, .dead, .dead, v47, v48, v49, .dead, .dead, .dead, .dead, .dead, .dead, .dead, .dead, .dead, .dead, .dead, .dead, .dead, .dead, .dead, .dead, .dead]
abbrev x56_1 (v2 : AV) : Env := [.dead, .dead, v2, .dead, .dead, .dead, .dead, .dead, .dead, .dead, .dead, .dead, .dead, .dead, .dead, .dead, .dead, .dead, .dead, .dead, .dead, .dead, .dead, .dead, .dead, .dead, .dead, .dead, .dead, .dead, .dead, .dead, .dead, .dead, .dead, .dead, .dead, .dead, .dead, .dead, .dead, .dead, .dead, .dead, .dead, .dead, .dead, .dead, .dead, .dead, .dead, .dead, .dead, .dead, .dead, .dead, .dead, .dead, .dead, .dead, .dead, .dead, .dead, .dead, .dead, .dead, .dead]
def s56_b1 : SCode :=
  .seq (
    .region [
      ⟨some 50, none, [], .p (.bin .lss (.t 49) (.t 48))⟩]) (
  .seq (
    .cond (.t 50) (
      .skip) (
      .exit 2)) (
  .seq (
    .block 3 (
      .seq (
        .region [
          ⟨some 51, none, [], .p (.mv (.t 49))⟩,
          ⟨some 52, none, [], .p (.iaddrS 3 (.t 47) (.t 49))⟩,
          ⟨some 53, none, [], .r (.loadN 3 (.t 52))⟩,
          ⟨some 8, none, [], .a 64012 (.alloc [.int .i64 0, .str [], .str []])⟩,
          ⟨some 7, none, [], .p (.mv (.t 51))⟩,
          ⟨none, none, [], .w (.storeN 3 (.t 8) (.t 53))⟩]) (
      .seq (
        .region [
          ⟨some 54, none, [], .p (.faddr 0 (.t 8))⟩,
          ⟨some 55, none, [], .r (.load1 (.t 54))⟩,
          ⟨some 56, none, [], .p (.bin .neq (.t 55) (.c (.int .i64 2)))⟩,
          ⟨some 57, none, [], .p (.mv (.t 56))⟩,
          ⟨some 58, some (57, true), [], .p (.mv (.t 4))⟩,
          ⟨some 59, some (57, true), [], .p (.mv (.t 7))⟩,
          ⟨some 60, some (57, true), [], .r (.lookup false (.bool false) (.t 58) (.t 59) false)⟩,
          ⟨some 61, some (57, true), [], .p (.faddr 0 (.t 8))⟩,
          ⟨some 62, some (57, true), [], .r (.load1 (.t 61))⟩,
          ⟨some 63, some (57, true), [], .p (.bin .eql (.t 62) (.c (.int .i64 0)))⟩,
          ⟨some 64, some (57, true), [], .p (.eqb false (.t 60) (.t 63))⟩,
          ⟨some 65, none, [], .p (.pick (.t 57) (.t 64) (.c (.bool false)))⟩]) (
      .cond (.t 65) (
        .seq (
          .region [
            ⟨some 2, none, [], .p (.mv (.c (.bool false)))⟩]) (
        .ret)) (
        .skip))))) (
  .region [
    ⟨some 66, none, [], .p (.bin .add (.t 49) (.c (.int .i64 1)))⟩,
    ⟨some 49, none, [], .p (.mv (.t 66))⟩])))

abbrev k56_0 : List Nat := [1, 4, 23, 24, 25]
abbrev a56_0 : List Nat := [1, 2, 4]
abbrev e56_0 (v1 v4 v23 v24 v25 : AV) : Env := [.dead, v1, .dead, .dead, v4, .dead, .dead, .dead, .dead, .dead, .dead, .dead, .dead, .dead, .dead, .dead, .dead, .dead, .dead, .dead, .dead, .dead, .dead, v23, v24, v25, .dead, .dead, .dead, .dead, .dead, .dead, .dead, .dead, .dead, .dead, .dead, .dead, .dead, .dead, .dead, .dead, .dead, .dead, .dead, .dead, .dead, .dead, .dead, .dead, .dead, .dead, .dead, .dead, .dead, .dead, .dead, .dead, .dead, .dead, .dead, .dead, .dead, .dead, .dead, .dead, .dead]
abbrev x56_0 (v1 v2 v4 : AV) : Env := [.dead, v1, v2, .dead, v4, .dead, .dead, .dead, .dead, .dead, .dead, .dead, .dead, .dead, .dead, .dead, .dead, .dead, .dead, .dead, .dead, .dead, .dead, .dead, .dead, .dead, .dead, .dead, .dead, .dead, .dead, .dead, .dead, .dead, .dead, .dead, .dead, .dead, .dead, .dead, .dead, .dead, .dead, .dead, .dead, .dead, .dead, .dead, .dead, .dead, .dead, .dead, .dead, .dead, .dead, .dead, .dead, .dead, .dead, .dead, .dead, .dead, .dead, .dead, .dead, .dead, .dead]
def s56_b0 : SCode :=
  .seq (
    .region [
      ⟨some 26, none, [], .p (.bin .lss (.t 25) (.t 24))⟩]) (
  .seq (
    .cond (.t 26) (
      .skip) (
      .exit 0)) (
  .seq (
    .block 1 (
      .seq (
        .region [
          ⟨some 27, none, [], .p (.iaddrS 1 (.t 23) (.t 25))⟩,
          ⟨some 28, none, [], .r (.load1 (.t 27))⟩,
          ⟨some 6, none, [], .p (.mv (.t 28))⟩]) (
      .seq (
        .seq (
          .region [
            ⟨some 29, none, [], .p (.mv (.t 6))⟩,
            ⟨some 30, none, [], .p (.bin .lss (.t 29) (.c (.int .i64 0)))⟩,
            ⟨some 31, none, [], .p (.mv (.t 30))⟩,
            ⟨some 32, some (31, false), [], .p (.mv (.t 6))⟩,
            ⟨some 33, some (31, false), [], .p (.faddr 8 (.t 1))⟩,
            ⟨some 34, some (31, false), [], .r (.load1 (.t 33))⟩,
            ⟨some 35, some (31, false), [], .p (.lenV true (.t 34))⟩,
            ⟨some 36, some (31, false), [], .p (.bin .geq (.t 32) (.t 35))⟩,
            ⟨some 37, none, [], .p (.pick (.t 31) (.c (.bool true)) (.t 36))⟩,
            ⟨some 38, none, [], .p (.mv (.t 37))⟩,
            ⟨some 39, some (38, false), [], .p (.mv (.t 4))⟩,
            ⟨some 40, some (38, false), [], .p (.mv (.t 6))⟩,
            ⟨some 41, some (38, false), [], .r (.lookup false (.bool false) (.t 39) (.t 40) false)⟩,
            ⟨some 42, none, [], .p (.pick (.t 38) (.c (.bool true)) (.t 41))⟩]) (
        .cond (.t 42) (
          .seq (
            .region [
              ⟨some 2, none, [], .p (.mv (.c (.bool false)))⟩]) (
          .ret)) (
          .skip))) (
      .region [
        ⟨some 43, none, [], .p (.mv (.t 4))⟩,
        ⟨some 44, none, [], .p (.mv (.t 6))⟩,
        ⟨none, none, [], .w (.mapSet false (.t 43) (.t 44) (.c (.bool true)))⟩])))) (
  .region [
    ⟨some 45, none, [], .p (.bin .add (.t 25) (.c (.int .i64 1)))⟩,
    ⟨some 25, none, [], .p (.mv (.t 45))⟩])))

def s56 : SFunc := ⟨
  .seq (
    .region [
      ⟨some 1, none, [], .a 0 (.box (.t 0))⟩,
      ⟨some 2, none, [], .p (.mv (.c (.bool false)))⟩]) (
  .seq (
    .region [
      ⟨some 9, none, [], .p (.faddr 2 (.t 1))⟩,
      ⟨some 10, none, [], .r (.load1 (.t 9))⟩,
      ⟨some 11, none, [], .p (.bin .add (.t 10) (.c (.int .i64 2)))⟩,
      ⟨some 3, none, [], .p (.mv (.t 11))⟩]) (
  .seq (
    .seq (
      .region [
        ⟨some 12, none, [], .p (.faddr 6 (.t 1))⟩,
        ⟨some 13, none, [], .r (.load1 (.t 12))⟩]) (
    .cond (.t 13) (
      .region [
        ⟨some 14, none, [], .p (.mv (.t 3))⟩,
        ⟨some 15, none, [], .p (.bin .add (.t 14) (.c (.int .i64 1)))⟩,
        ⟨some 3, none, [], .p (.mv (.t 15))⟩]) (
      .skip))) (
  .seq (
    .seq (
      .region [
        ⟨some 16, none, [], .p (.faddr 7 (.t 1))⟩,
        ⟨some 17, none, [], .r (.load1 (.t 16))⟩,
        ⟨some 18, none, [], .p (.lenV true (.t 17))⟩,
        ⟨some 19, none, [], .p (.mv (.t 3))⟩,
        ⟨some 20, none, [], .p (.bin .neq (.t 18) (.t 19))⟩]) (
    .cond (.t 20) (
      .seq (
        .region [
          ⟨some 2, none, [], .p (.mv (.c (.bool false)))⟩]) (
      .ret)) (
      .skip))) (
  .seq (
    .region [
      ⟨some 21, none, [], .a 24000 .mkMap⟩,
      ⟨some 4, none, [], .p (.mv (.t 21))⟩]) (
  .seq (
    .seq (
      .region [
        ⟨some 22, none, [], .p (.faddr 7 (.t 1))⟩,
        ⟨some 23, none, [], .r (.load1 (.t 22))⟩,
        ⟨some 24, none, [], .p (.lenV true (.t 23))⟩,
        ⟨some 25, none, [], .p (.mv (.c (.int .i64 0)))⟩]) (
    .block 0 (
      .loop k56_0 a56_0 s56_b0))) (
  .seq (
    .seq (
      .region [
        ⟨some 46, none, [], .p (.faddr 8 (.t 1))⟩,
        ⟨some 47, none, [], .r (.load1 (.t 46))⟩,
        ⟨some 48, none, [], .p (.lenV true (.t 47))⟩,
        ⟨some 49, none, [], .p (.mv (.c (.int .i64 0)))⟩]) (
    .block 2 (
      .loop k56_1 a56_1 s56_b1))) (
  .seq (
    .region [
      ⟨some 2, none, [], .p (.mv (.c (.bool true)))⟩]) (
  .ret)))))))),
  67, [Sum.inl 2]⟩

theorem c56 : cFunc Tryd.prog quiet Tryd.f56 [[1, 4, 23, 24, 25], [1, 2, 4], [4, 47, 48, 49], [2]] = some s56 := by kernel_rfl

-- 57 calls [67]
abbrev k57_1 : List Nat := [1, 5, 9]
abbrev a57_1 : List Nat := [1, 2, 5]
abbrev e57_1 (v1 v5 v9 : AV) : Env := [.dead, v1, .dead, .dead, .dead, v5, .dead, .dead, .dead, v9, .dead, .dead, .dead, .dead, .dead, .dead, .dead, .dead, .dead, .dead, .dead, .dead, .dead, .dead, .dead, .dead, .dead, .dead, .dead, .dead, .dead, .dead, .dead, .dead, .dead, .dead, .dead, .dead, .dead, .dead, .dead, .dead, .dead, .dead, .dead, .dead, .dead, .dead, .dead, .dead, .dead, .dead, .dead, .dead, .dead, .dead, .dead, .dead, .dead, .dead, .dead, .dead, .dead, .dead, .dead, .dead, .dead, .dead, .dead, .dead, .dead, .dead, .dead, .dead, .dead, .dead, .dead, .dead, .dead, .dead, .dead, .dead, .dead, .dead, .dead, .dead, .dead, .dead, .dead, .dead, .dead, .dead, .dead, .dead, .dead, .dead, .dead, .dead, .dead, .dead, .dead, .dead, .dead, .dead, .dead, .dead, .dead, .dead, .dead, .dead, .dead, .dead, .dead, .dead, .dead, .dead, .dead, .dead, .dead, .dead, .dead, .dead, .dead, .dead, .dead, .dead, .dead, .dead, .dead, .dead, .dead, .dead, .dead, .dead, .dead, .dead, .dead, .dead, .dead, .dead, .dead, .dead, .dead, .dead, .dead, .dead, .dead, .dead, .dead, .dead, .dead, .dead, .dead, .dead, .dead, .dead, .dead, .dead, .dead, .dead, .dead, .dead, .dead, .dead, .dead, .dead, .dead, .dead, .dead, .dead, .dead, .dead, .dead, .dead, .dead, .dead, .dead, .dead, .dead, .dead, .dead, .dead, .dead, .dead, .dead, .dead, .dead, .dead, .dead, .dead, .dead, .dead]
abbrev x57_1 (v1 v2 v5 : AV) : Env := [.dead, v1, v2, .dead, .dead, v5, .dead, .dead, .dead, .dead, .dead, .dead, .dead, .dead, .dead, .dead, .dead, .dead, .dead, .dead, .dead, .dead, .dead, .dead, .dead, .dead, .dead, .dead, .dead, .dead, .dead, .dead, .dead, .dead, .dead, .dead, .dead, .dead, .dead, .dead, .dead, .dead, .dead, .dead, .dead, .dead, .dead, .dead, .dead, .dead, .dead, .dead, .dead, .dead, .dead, .dead, .dead, .dead, .dead, .dead, .dead, .dead, .dead, .dead, .dead, .dead, .dead, .dead, .dead, .dead, .dead, .dead, .dead, .dead, .dead, .dead, .dead, .dead, .dead, .dead, .dead, .dead, .dead, .dead, .dead, .dead, .dead, .dead, .dead, .dead, .dead, .dead, .dead, .dead, .dead, .dead, .dead, .dead, .dead, .dead, .dead, .dead, .dead, .dead, .dead, .dead, .dead, .dead, .dead, .dead, .dead, .dead, .dead, .dead, .dead, .dead, .dead, .dead, .dead, .dead, .dead, .dead, .dead, .dead, .dead, .dead, .dead, .dead, .dead, .dead, .dead, .dead, .dead, .dead, .dead, .dead, .dead, .dead, .dead, .dead, .dead, .dead, .dead, .dead, .dead, .dead, .dead, .dead, .dead, .dead, .dead, .dead, .dead, .dead, .dead, .dead, .dead, .dead, .dead, .dead, .dead, .dead, .dead, .dead, .dead, .dead, .dead, .dead, .dead, .dead, .dead, .dead, .dead, .dead, .dead, .dead, .dead, .dead, .dead, .dead, .dead, .dead, .dead, .dead, .dead, .dead, .dead, .dead, .dead, .dead, .dead, .dead]
def s57_b1 : SCode :=
  .seq (
    .seq (
      .region [
        ⟨some 157, none, [], .p (.mv (.t 9))⟩,
        ⟨some 158, none, [], .p (.faddr 7 (.t 1))⟩,
        ⟨some 159, none, [], .r (.load1 (.t 158))⟩,
        ⟨some 160, none, [], .p (.lenV true (.t 159))⟩,
        ⟨some 161, none, [], .p (.bin .lss (.t 157) (.t 160))⟩]) (
    .cond (.t 161) (
      .skip) (
      .exit 2))) (
  .seq (
    .block 3 (
      .seq (
        .region [
          ⟨some 164, none, [], .p (.faddr 7 (.t 1))⟩,
          ⟨some 165, none, [], .r (.load1 (.t 164))⟩,
          ⟨some 166, none, [], .p (.mv (.t 9))⟩,
          ⟨some 167, none, [], .p (.iaddrS 1 (.t 165) (.t 166))⟩,
          ⟨some 168, none, [], .r (.load1 (.t 167))⟩,
          ⟨some 169, none, [], .p (.bin .lss (.t 168) (.c (.int .i64 0)))⟩,
          ⟨some 170, none, [], .p (.mv (.t 169))⟩,
          ⟨some 171, some (170, false), [], .p (.faddr 7 (.t 1))⟩,
          ⟨some 172, some (170, false), [], .r (.load1 (.t 171))⟩,
          ⟨some 173, some (170, false), [], .p (.mv (.t 9))⟩,
          ⟨some 174, some (170, false), [], .p (.iaddrS 1 (.t 172) (.t 173))⟩,
          ⟨some 175, some (170, false), [], .r (.load1 (.t 174))⟩,
          ⟨some 176, some (170, false), [], .p (.faddr 8 (.t 1))⟩,
          ⟨some 177, some (170, false), [], .r (.load1 (.t 176))⟩,
          ⟨some 178, some (170, false), [], .p (.lenV true (.t 177))⟩,
          ⟨some 179, some (170, false), [], .p (.bin .geq (.t 175) (.t 178))⟩,
          ⟨some 180, none, [], .p (.pick (.t 170) (.c (.bool true)) (.t 179))⟩]) (
      .cond (.t 180) (
        .seq (
          .region [
            ⟨some 2, none, [], .p (.mv (.c (.bool false)))⟩]) (
        .ret)) (
        .skip)))) (
  .region [
    ⟨some 162, none, [], .p (.mv (.t 9))⟩,
    ⟨some 163, none, [], .p (.bin .add (.t 162) (.c (.int .i64 1)))⟩,
    ⟨some 9, none, [], .p (.mv (.t 163))⟩]))

abbrev k57_0 : List Nat := [1, 5, 6]
abbrev a57_0 : List Nat := [1, 2, 5]
abbrev e57_0 (v1 v5 v6 : AV) : Env := [.dead, v1, .dead, .dead, .dead, v5, v6, .dead, .dead, .dead, .dead, .dead, .dead, .dead, .dead, .dead, .dead, .dead, .dead, .dead, .dead, .dead, .dead, .dead, .dead, .dead, .dead, .dead, .dead, .dead, .dead, .dead, .dead, .dead, .dead, .dead, .dead, .dead, .dead, .dead, .dead, .dead, .dead, .dead, .dead, .dead, .dead, .dead, .dead, .dead, .dead, .dead, .dead, .dead, .dead, .dead, .dead, .dead, .dead, .dead, .dead, .dead, .dead, .dead, .dead, .dead, .dead, .dead, .dead, .dead, .dead, .dead, .dead, .dead, .dead, .dead, .dead, .dead, .dead, .dead, .dead, .dead, .dead, .dead, .dead, .dead, .dead, .dead, .dead, .dead, .dead, .dead, .dead, .dead, .dead, .dead, .dead, .dead, .dead, .dead, .dead, .dead, .dead, .dead, .dead, .dead, .dead, .dead, .dead, .dead, .dead, .dead, .dead, .dead, .dead, .dead, .dead, .dead, .dead, .dead, .dead, .dead, .dead, .dead, .dead, .dead, .dead, .dead, .dead, .dead, .dead, .dead, .dead, .dead, .dead, .dead, .dead, .dead, .dead, .dead, .dead, .dead, .dead, .dead, .dead, .dead, .dead, .dead, .dead, .dead, .dead, .dead, .dead, .dead, .dead, .dead, .dead, .dead, .dead, .dead, .dead, .dead, .dead, .dead, .dead, .dead, .dead, .dead, .dead, .dead, .dead, .dead, .dead, .dead, .dead, .dead, .dead, .dead, .dead, .dead, .dead, .dead, .dead, .dead, .dead, .dead, .dead, .dead, .dead, .dead, .dead, .dead]
abbrev x57_0 (v1 v2 v5 : AV) : Env := [.dead, v1, v2, .dead, .dead, v5, .dead, .dead, .dead, .dead, .dead, .dead, .dead, .dead, .dead, .dead, .dead, .dead, .dead, .dead, .dead, .dead, .dead, .dead, .dead, .dead, .dead, .dead, .dead, .dead, .dead, .dead, .dead, .dead, .dead, .dead, .dead, .dead, .dead, .dead, .dead, .dead, .dead, .dead, .dead, .dead, .dead, .dead, .dead, .dead, .dead, .dead, .dead, .dead, .dead, .dead, .dead, .dead, .dead, .dead, .dead, .dead, .dead, .dead, .dead, .dead, .dead, .dead, .dead, .dead, .dead, .dead, .dead, .dead, .dead, .dead, .dead, .dead, .dead, .dead, .dead, .dead, .dead, .dead, .dead, .dead, .dead, .dead, .dead, .dead, .dead, .dead, .dead, .dead, .dead, .dead, .dead, .dead, .dead, .dead, .dead, .dead, .dead, .dead, .dead, .dead, .dead, .dead, .dead, .dead, .dead, .dead, .dead, .dead, .dead, .dead, .dead, .dead, .dead, .dead, .dead, .dead, .dead, .dead, .dead, .dead, .dead, .dead, .dead, .dead, .dead, .dead, .dead, .dead, .dead, .dead, .dead, .dead, .dead, .dead, .dead, .dead, .dead, .dead, .dead, .dead, .dead, .dead, .dead, .dead, .dead, .dead, .dead, .dead, .dead, .dead, .dead, .dead, .dead, .dead, .dead, .dead, .dead, .dead, .dead, .dead, .dead, .dead, .dead, .dead, .dead, .dead, .dead, .dead, .dead, .dead, .dead, .dead, .dead, .dead, .dead, .dead, .dead, .dead, .dead, .dead, .dead, .dead, .dead, .dead, .dead, .dead]
def s57_b0 : SCode :=
  .seq (
    .seq (
      .region [
        ⟨some 94, none, [], .p (.mv (.t 6))⟩,
        ⟨some 95, none, [], .p (.faddr 8 (.t 1))⟩,
        ⟨some 96, none, [], .r (.load1 (.t 95))⟩,
        ⟨some 97, none, [], .p (.lenV true (.t 96))⟩,
        ⟨some 98, none, [], .p (.bin .lss (.t 94) (.t 97))⟩]) (
    .cond (.t 98) (
      .skip) (
      .exit 0))) (
  .seq (
    .block 1 (
      .seq (
        .region [
          ⟨some 101, none, [], .p (.faddr 8 (.t 1))⟩,
          ⟨some 102, none, [], .r (.load1 (.t 101))⟩,
          ⟨some 103, none, [], .p (.mv (.t 6))⟩,
          ⟨some 104, none, [], .p (.iaddrS 3 (.t 102) (.t 103))⟩,
          ⟨some 105, none, [], .r (.loadN 3 (.t 104))⟩,
          ⟨some 7, none, [], .a 72020 (.alloc [.int .i64 0, .str [], .str []])⟩,
          ⟨none, none, [], .w (.storeN 3 (.t 7) (.t 105))⟩]) (
      .seq (
        .region [
          ⟨some 106, none, [], .r (.loadN 9 (.t 1))⟩,
          ⟨some 107, none, [], .p (.mv (.t 6))⟩,
          ⟨some 108, none, [], .call 76008 4 true (.f 67) [.t 106, .t 107]⟩,
          ⟨some 8, none, [], .p (.mv (.t 108))⟩]) (
      .seq (
        .seq (
          .region [
            ⟨some 109, none, [], .p (.faddr 0 (.t 7))⟩,
            ⟨some 110, none, [], .r (.load1 (.t 109))⟩,
            ⟨some 111, none, [], .p (.bin .lss (.t 110) (.c (.int .i64 0)))⟩,
            ⟨some 112, none, [], .p (.mv (.t 111))⟩,
            ⟨some 113, some (112, false), [], .p (.faddr 0 (.t 7))⟩,
            ⟨some 114, some (112, false), [], .r (.load1 (.t 113))⟩,
            ⟨some 115, some (112, false), [], .p (.bin .gtr (.t 114) (.c (.int .i64 3)))⟩,
            ⟨some 116, none, [], .p (.pick (.t 112) (.c (.bool true)) (.t 115))⟩,
            ⟨some 117, none, [], .p (.mv (.t 116))⟩,
            ⟨some 118, some (117, false), [], .p (.faddr 1 (.t 7))⟩,
            ⟨some 119, some (117, false), [], .r (.load1 (.t 118))⟩,
            ⟨some 120, some (117, false), [], .p (.lenV false (.t 119))⟩,
            ⟨some 121, some (117, false), [], .p (.bin .neq (.t 120) (.c (.int .i64 32)))⟩,
            ⟨some 122, none, [], .p (.pick (.t 117) (.c (.bool true)) (.t 121))⟩,
            ⟨some 123, none, [], .p (.mv (.t 122))⟩,
            ⟨some 124, some (123, false), [], .p (.faddr 2 (.t 7))⟩,
            ⟨some 125, some (123, false), [], .r (.load1 (.t 124))⟩,
            ⟨some 126, some (123, false), [], .p (.lenV false (.t 125))⟩,
            ⟨some 127, some (123, false), [], .p (.bin .neq (.t 126) (.c (.int .i64 32)))⟩,
            ⟨some 128, none, [], .p (.pick (.t 123) (.c (.bool true)) (.t 127))⟩,
            ⟨some 129, none, [], .p (.mv (.t 128))⟩,
            ⟨some 130, some (129, false), [], .p (.mv (.t 8))⟩,
            ⟨some 131, some (129, false), [], .p (.bin .gtr (.t 130) (.c (.int .i64 1)))⟩,
            ⟨some 132, none, [], .p (.pick (.t 129) (.c (.bool true)) (.t 131))⟩]) (
        .cond (.t 132) (
          .seq (
            .region [
              ⟨some 2, none, [], .p (.mv (.c (.bool false)))⟩]) (
          .ret)) (
          .skip))) (
      .seq (
        .seq (
          .region [
            ⟨some 133, none, [], .p (.mv (.t 8))⟩,
            ⟨some 134, none, [], .p (.bin .eql (.t 133) (.c (.int .i64 1)))⟩,
            ⟨some 135, none, [], .p (.mv (.t 134))⟩,
            ⟨some 136, some (135, true), [], .p (.faddr 0 (.t 7))⟩,
            ⟨some 137, some (135, true), [], .r (.load1 (.t 136))⟩,
            ⟨some 138, some (135, true), [], .p (.bin .eql (.t 137) (.c (.int .i64 0)))⟩,
            ⟨some 139, none, [], .p (.pick (.t 135) (.t 138) (.c (.bool false)))⟩]) (
        .cond (.t 139) (
          .seq (
            .region [
              ⟨some 2, none, [], .p (.mv (.c (.bool false)))⟩]) (
          .ret)) (
          .skip))) (
      .seq (
        .seq (
          .region [
            ⟨some 140, none, [], .p (.mv (.t 8))⟩,
            ⟨some 141, none, [], .p (.bin .eql (.t 140) (.c (.int .i64 0)))⟩,
            ⟨some 142, none, [], .p (.mv (.t 141))⟩,
            ⟨some 143, some (142, true), [], .p (.faddr 0 (.t 7))⟩,
            ⟨some 144, some (142, true), [], .r (.load1 (.t 143))⟩,
            ⟨some 145, some (142, true), [], .p (.bin .eql (.t 144) (.c (.int .i64 1)))⟩,
            ⟨some 146, some (142, true), [], .p (.mv (.t 145))⟩,
            ⟨some 147, some (146, false), [], .p (.faddr 0 (.t 7))⟩,
            ⟨some 148, some (146, false), [], .r (.load1 (.t 147))⟩,
            ⟨some 149, some (146, false), [], .p (.bin .eql (.t 148) (.c (.int .i64 3)))⟩,
            ⟨some 150, some (142, true), [], .p (.pick (.t 146) (.c (.bool true)) (.t 149))⟩,
            ⟨some 151, none, [], .p (.pick (.t 142) (.t 150) (.c (.bool false)))⟩]) (
        .cond (.t 151) (
          .seq (
            .region [
              ⟨some 2, none, [], .p (.mv (.c (.bool false)))⟩]) (
          .ret)) (
          .skip))) (
      .seq (
        .region [
          ⟨some 152, none, [], .p (.faddr 0 (.t 7))⟩,
          ⟨some 153, none, [], .r (.load1 (.t 152))⟩,
          ⟨some 154, none, [], .p (.bin .eql (.t 153) (.c (.int .i64 3)))⟩]) (
      .cond (.t 154) (
        .region [
          ⟨some 155, none, [], .p (.mv (.t 5))⟩,
          ⟨some 156, none, [], .p (.bin .add (.t 155) (.c (.int .i64 1)))⟩,
          ⟨some 5, none, [], .p (.mv (.t 156))⟩]) (
        .skip))))))))) (
  .region [
    ⟨some 99, none, [], .p (.mv (.t 6))⟩,
    ⟨some 100, none, [], .p (.bin .add (.t 99) (.c (.int .i64 1)))⟩,
    ⟨some 6, none, [], .p (.mv (.t 100))⟩]))

def s57 : SFunc := ⟨
  .seq (
    .region [
      ⟨some 1, none, [], .a 0 (.box (.t 0))⟩,
      ⟨some 2, none, [], .p (.mv (.c (.bool false)))⟩]) (
  .seq (
    .region [
      ⟨some 3, none, [], .p (.mv (.c (.int .i64 8)))⟩]) (
  .seq (
    .region [
      ⟨some 10, none, [], .p (.faddr 2 (.t 1))⟩,
      ⟨some 11, none, [], .r (.load1 (.t 10))⟩,
      ⟨some 12, none, [], .p (.bin .add (.t 11) (.c (.int .i64 2)))⟩,
      ⟨some 4, none, [], .p (.mv (.t 12))⟩]) (
  .seq (
    .seq (
      .region [
        ⟨some 13, none, [], .p (.faddr 6 (.t 1))⟩,
        ⟨some 14, none, [], .r (.load1 (.t 13))⟩]) (
    .cond (.t 14) (
      .seq (
        .region [
          ⟨some 3, none, [], .p (.mv (.c (.int .i64 7)))⟩]) (
      .region [
        ⟨some 15, none, [], .p (.faddr 2 (.t 1))⟩,
        ⟨some 16, none, [], .r (.load1 (.t 15))⟩,
        ⟨some 17, none, [], .p (.bin .add (.t 16) (.c (.int .i64 3)))⟩,
        ⟨some 4, none, [], .p (.mv (.t 17))⟩])) (
      .skip))) (
  .seq (
    .seq (
      .region [
        ⟨some 18, none, [], .p (.faddr 2 (.t 1))⟩,
        ⟨some 19, none, [], .r (.load1 (.t 18))⟩,
        ⟨some 20, none, [], .p (.bin .lss (.t 19) (.c (.int .i64 2)))⟩,
        ⟨some 21, none, [], .p (.mv (.t 20))⟩,
        ⟨some 22, some (21, false), [], .p (.faddr 2 (.t 1))⟩,
        ⟨some 23, some (21, false), [], .r (.load1 (.t 22))⟩,
        ⟨some 24, some (21, false), [], .p (.mv (.t 3))⟩,
        ⟨some 25, some (21, false), [], .p (.bin .gtr (.t 23) (.t 24))⟩,
        ⟨some 26, none, [], .p (.pick (.t 21) (.c (.bool true)) (.t 25))⟩,
        ⟨some 27, none, [], .p (.mv (.t 26))⟩,
        ⟨some 28, some (27, false), [], .p (.faddr 7 (.t 1))⟩,
        ⟨some 29, some (27, false), [], .r (.load1 (.t 28))⟩,
        ⟨some 30, some (27, false), [], .p (.lenV true (.t 29))⟩,
        ⟨some 31, some (27, false), [], .p (.mv (.t 4))⟩,
        ⟨some 32, some (27, false), [], .p (.bin .neq (.t 30) (.t 31))⟩,
        ⟨some 33, none, [], .p (.pick (.t 27) (.c (.bool true)) (.t 32))⟩]) (
    .cond (.t 33) (
      .seq (
        .region [
          ⟨some 2, none, [], .p (.mv (.c (.bool false)))⟩]) (
      .ret)) (
      .skip))) (
  .seq (
    .seq (
      .region [
        ⟨some 34, none, [], .p (.faddr 3 (.t 1))⟩,
        ⟨some 35, none, [], .r (.load1 (.t 34))⟩,
        ⟨some 36, none, [], .p (.bin .neq (.t 35) (.c (.int .i64 2)))⟩,
        ⟨some 37, none, [], .p (.mv (.t 36))⟩,
        ⟨some 38, some (37, true), [], .p (.faddr 3 (.t 1))⟩,
        ⟨some 39, some (37, true), [], .r (.load1 (.t 38))⟩,
        ⟨some 40, some (37, true), [], .p (.bin .neq (.t 39) (.c (.int .i64 4)))⟩,
        ⟨some 41, none, [], .p (.pick (.t 37) (.t 40) (.c (.bool false)))⟩,
        ⟨some 42, none, [], .p (.mv (.t 41))⟩,
        ⟨some 43, some (42, true), [], .p (.faddr 3 (.t 1))⟩,
        ⟨some 44, some (42, true), [], .r (.load1 (.t 43))⟩,
        ⟨some 45, some (42, true), [], .p (.bin .neq (.t 44) (.c (.int .i64 8)))⟩,
        ⟨some 46, none, [], .p (.pick (.t 42) (.t 45) (.c (.bool false)))⟩,
        ⟨some 47, none, [], .p (.mv (.t 46))⟩,
        ⟨some 48, some (47, true), [], .p (.faddr 3 (.t 1))⟩,
        ⟨some 49, some (47, true), [], .r (.load1 (.t 48))⟩,
        ⟨some 50, some (47, true), [], .p (.bin .neq (.t 49) (.c (.int .i64 16)))⟩,
        ⟨some 51, none, [], .p (.pick (.t 47) (.t 50) (.c (.bool false)))⟩]) (
    .cond (.t 51) (
      .seq (
        .region [
          ⟨some 2, none, [], .p (.mv (.c (.bool false)))⟩]) (
      .ret)) (
      .skip))) (
  .seq (
    .seq (
      .region [
        ⟨some 52, none, [], .p (.faddr 4 (.t 1))⟩,
        ⟨some 53, none, [], .r (.load1 (.t 52))⟩,
        ⟨some 54, none, [], .p (.bin .lss (.t 53) (.c (.int .i64 0)))⟩,
        ⟨some 55, none, [], .p (.mv (.t 54))⟩,
        ⟨some 56, some (55, false), [], .p (.faddr 4 (.t 1))⟩,
        ⟨some 57, some (55, false), [], .r (.load1 (.t 56))⟩,
        ⟨some 58, some (55, false), [], .p (.faddr 3 (.t 1))⟩,
        ⟨some 59, some (55, false), [], .r (.load1 (.t 58))⟩,
        ⟨some 60, some (55, false), [], .p (.bin .gtr (.t 57) (.t 59))⟩,
        ⟨some 61, none, [], .p (.pick (.t 55) (.c (.bool true)) (.t 60))⟩,
        ⟨some 62, none, [], .p (.mv (.t 61))⟩,
        ⟨some 63, some (62, false), [], .p (.faddr 5 (.t 1))⟩,
        ⟨some 64, some (62, false), [], .r (.load1 (.t 63))⟩,
        ⟨some 65, some (62, false), [], .p (.bin .lss (.t 64) (.c (.int .i64 0)))⟩,
        ⟨some 66, none, [], .p (.pick (.t 62) (.c (.bool true)) (.t 65))⟩,
        ⟨some 67, none, [], .p (.mv (.t 66))⟩,
        ⟨some 68, some (67, false), [], .p (.faddr 5 (.t 1))⟩,
        ⟨some 69, some (67, false), [], .r (.load1 (.t 68))⟩,
        ⟨some 70, some (67, false), [], .p (.faddr 3 (.t 1))⟩,
        ⟨some 71, some (67, false), [], .r (.load1 (.t 70))⟩,
        ⟨some 72, some (67, false), [], .p (.bin .gtr (.t 69) (.t 71))⟩,
        ⟨some 73, none, [], .p (.pick (.t 67) (.c (.bool true)) (.t 72))⟩,
        ⟨some 74, none, [], .p (.mv (.t 73))⟩,
        ⟨some 75, some (74, false), [], .p (.faddr 4 (.t 1))⟩,
        ⟨some 76, some (74, false), [], .r (.load1 (.t 75))⟩,
        ⟨some 77, some (74, false), [], .p (.bin .gtr (.t 76) (.c (.int .i64 0)))⟩,
        ⟨some 78, some (74, false), [], .p (.mv (.t 77))⟩,
        ⟨some 79, some (78, true), [], .p (.faddr 6 (.t 1))⟩,
        ⟨some 80, some (78, true), [], .r (.load1 (.t 79))⟩,
        ⟨some 81, some (78, true), [], .p (.un .not (.t 80))⟩,
        ⟨some 82, some (74, false), [], .p (.pick (.t 78) (.t 81) (.c (.bool false)))⟩,
        ⟨some 83, none, [], .p (.pick (.t 74) (.c (.bool true)) (.t 82))⟩]) (
    .cond (.t 83) (
      .seq (
        .region [
          ⟨some 2, none, [], .p (.mv (.c (.bool false)))⟩]) (
      .ret)) (
      .skip))) (
  .seq (
    .seq (
      .region [
        ⟨some 84, none, [], .p (.faddr 8 (.t 1))⟩,
        ⟨some 85, none, [], .r (.load1 (.t 84))⟩,
        ⟨some 86, none, [], .p (.lenV true (.t 85))⟩,
        ⟨some 87, none, [], .p (.bin .lss (.t 86) (.c (.int .i64 1)))⟩,
        ⟨some 88, none, [], .p (.mv (.t 87))⟩,
        ⟨some 89, some (88, false), [], .p (.faddr 8 (.t 1))⟩,
        ⟨some 90, some (88, false), [], .r (.load1 (.t 89))⟩,
        ⟨some 91, some (88, false), [], .p (.lenV true (.t 90))⟩,
        ⟨some 92, some (88, false), [], .p (.bin .gtr (.t 91) (.c (.int .i64 12)))⟩,
        ⟨some 93, none, [], .p (.pick (.t 88) (.c (.bool true)) (.t 92))⟩]) (
    .cond (.t 93) (
      .seq (
        .region [
          ⟨some 2, none, [], .p (.mv (.c (.bool false)))⟩]) (
      .ret)) (
      .skip))) (
  .seq (
    .region [
      ⟨some 5, none, [], .p (.mv (.c (.int .i64 0)))⟩]) (
  .seq (
    .seq (
      .region [
        ⟨some 6, none, [], .p (.mv (.c (.int .i64 0)))⟩]) (
    .block 0 (
      .loop k57_0 a57_0 s57_b0))) (
  .seq (
    .seq (
      .region [
        ⟨some 9, none, [], .p (.mv (.c (.int .i64 0)))⟩]) (
    .block 2 (
      .loop k57_1 a57_1 s57_b1))) (
  .seq (
    .region [
      ⟨some 181, none, [], .p (.mv (.t 5))⟩,
      ⟨some 182, none, [], .p (.bin .eql (.t 181) (.c (.int .i64 1)))⟩,
      ⟨some 183, none, [], .p (.mv (.t 182))⟩,
      ⟨some 184, some (183, false), [], .p (.mv (.t 5))⟩,
      ⟨some 185, some (183, false), [], .p (.bin .eql (.t 184) (.c (.int .i64 0)))⟩,
      ⟨some 186, some (183, false), [], .p (.mv (.t 185))⟩,
      ⟨some 187, some (186, true), [], .p (.faddr 5 (.t 1))⟩,
      ⟨some 188, some (186, true), [], .r (.load1 (.t 187))⟩,
      ⟨some 189, some (186, true), [], .p (.bin .eql (.t 188) (.c (.int .i64 0)))⟩,
      ⟨some 190, some (183, false), [], .p (.pick (.t 186) (.t 189) (.c (.bool false)))⟩,
      ⟨some 191, none, [], .p (.pick (.t 183) (.c (.bool true)) (.t 190))⟩,
      ⟨some 2, none, [], .p (.mv (.t 191))⟩]) (
  .ret)))))))))))),
  192, [Sum.inl 2]⟩

theorem c57 : cFunc Tryd.prog quiet Tryd.f57 [[1, 5, 6], [1, 2, 5], [1, 5, 9], [1, 2, 5]] = some s57 := by kernel_rfl

-- 58 calls []
def s58 : SFunc := ⟨
  .seq (
    .region [
      ⟨some 2, none, [], .p (.mv (.c (.int .i64 0)))⟩]) (
  .seq (
    .seq (
      .region [
        ⟨some 3, none, [], .p (.mv (.t 0))⟩]) (
    .cond (.t 3) (
      .seq (
        .region [
          ⟨some 2, none, [], .p (.mv (.c (.int .i64 1)))⟩]) (
      .ret)) (
      .skip))) (
  .seq (
    .region [
      ⟨some 2, none, [], .p (.mv (.c (.int .i64 0)))⟩]) (
  .ret))),
  4, [Sum.inl 2]⟩

theorem c58 : cFunc Tryd.prog quiet Tryd.f58 [] = some s58 := by kernel_rfl

-- 59 calls [68, 69, 70]
def s59 : SFunc := ⟨
  .seq (
    .region [
      ⟨some 2, none, [], .p (.mv (.c (.str [])))⟩]) (
  .seq (
    .region [
      ⟨some 4, none, [], .call 4000 4 true (.f 68) []⟩,
      ⟨some 3, none, [], .p (.mv (.t 4))⟩]) (
  .seq (
    .region [
      ⟨some 5, none, [], .p (.mv (.t 3))⟩,
      ⟨some 6, none, [], .p (.mv (.t 0))⟩,
      ⟨some 7, none, [], .call 8008 4 false (.f 69) [.t 5, .t 6]⟩]) (
  .seq (
    .region [
      ⟨some 8, none, [], .p (.mv (.t 3))⟩,
      ⟨some 9, none, [], .call 12004 4 true (.f 70) [.t 8]⟩,
      ⟨some 2, none, [], .p (.mv (.t 9))⟩]) (
  .ret)))),
  10, [Sum.inl 2]⟩

theorem c59 : cFunc Tryd.prog quiet Tryd.f59 [] = some s59 := by kernel_rfl

-- 60 calls [62]
abbrev k60_0 : List Nat := [0, 3]
abbrev a60_0 : List Nat := [0, 3]
abbrev e60_0 (v0 v3 : AV) : Env := [v0, .dead, .dead, v3, .dead, .dead, .dead, .dead, .dead, .dead, .dead, .dead, .dead, .dead, .dead, .dead, .dead, .dead, .dead, .dead, .dead, .dead, .dead, .dead, .dead, .dead, .dead, .dead, .dead, .dead, .dead]
abbrev x60_0 (v0 v3 : AV) : Env := [v0, .dead, .dead, v3, .dead, .dead, .dead, .dead, .dead, .dead, .dead, .dead, .dead, .dead, .dead, .dead, .dead, .dead, .dead, .dead, .dead, .dead, .dead, .dead, .dead, .dead, .dead, .dead, .dead, .dead, .dead]
def s60_b0 : SCode :=
  .seq (
    .seq (
      .region [
        ⟨some 9, none, [], .p (.mv (.t 3))⟩,
        ⟨some 10, none, [], .p (.lenV true (.t 9))⟩,
        ⟨some 11, none, [], .p (.bin .rem (.t 10) (.c (.int .i64 64)))⟩,
        ⟨some 12, none, [], .p (.bin .neq (.t 11) (.c (.int .i64 56)))⟩]) (
    .cond (.t 12) (
      .skip) (
      .exit 0))) (
  .block 1 (
    .region [
      ⟨some 13, none, [], .p (.mv (.t 3))⟩,
      ⟨some 14, none, [], .a 12004 (.buildS 1 1 [byteAV 0] [(0, 1, .c (byteAV 0))])⟩,
      ⟨some 15, none, [], .w (.append 12008 1 1 (.t 13) (.t 14))⟩,
      ⟨some 3, none, [], .p (.mv (.t 15))⟩]))

def s60 : SFunc := ⟨
  .seq (
    .region [
      ⟨some 2, none, [], .p (.mv (.c (.str [])))⟩]) (
  .seq (
    .region [
      ⟨some 6, none, [], .p (.mv (.t 0))⟩,
      ⟨some 7, none, [], .p (.bin .add (.t 6) (.c (.str [128])))⟩,
      ⟨some 8, none, [], .a 4008 (.toBytes (.t 7))⟩,
      ⟨some 3, none, [], .p (.mv (.t 8))⟩]) (
  .seq (
    .block 0 (
      .loop k60_0 a60_0 s60_b0)) (
  .seq (
    .region [
      ⟨some 16, none, [], .p (.mv (.t 0))⟩,
      ⟨some 17, none, [], .p (.lenV false (.t 16))⟩,
      ⟨some 18, none, [], .p (.bin .mul (.c (.int .i64 8)) (.t 17))⟩,
      ⟨some 4, none, [], .p (.mv (.t 18))⟩]) (
  .seq (
    .region [
      ⟨some 19, none, [], .p (.mv (.t 4))⟩,
      ⟨some 20, none, [], .p (.bin .quo (.t 19) (.c (.int .i64 4294967296)))⟩,
      ⟨some 21, none, [], .p (.conv .u32 (.t 20))⟩,
      ⟨some 22, none, [], .p (.mv (.t 4))⟩,
      ⟨some 23, none, [], .p (.bin .rem (.t 22) (.c (.int .i64 4294967296)))⟩,
      ⟨some 24, none, [], .p (.conv .u32 (.t 23))⟩,
      ⟨some 25, none, [], .a 20024 (.buildS 1 2 [u32 0#32] [(0, 1, .t 21), (1, 1, .t 24)])⟩,
      ⟨some 26, none, [], .call 20028 4 true (.f 62) [.t 25, .c (.bool true)]⟩,
      ⟨some 5, none, [], .p (.mv (.t 26))⟩]) (
  .seq (
    .region [
      ⟨some 27, none, [], .p (.mv (.t 3))⟩,
      ⟨some 28, none, [], .r (.toStr (.t 27))⟩,
      ⟨some 29, none, [], .p (.mv (.t 5))⟩,
      ⟨some 30, none, [], .p (.bin .add (.t 28) (.t 29))⟩,
      ⟨some 2, none, [], .p (.mv (.t 30))⟩]) (
  .ret)))))),
  31, [Sum.inl 2]⟩

theorem c60 : cFunc Tryd.prog quiet Tryd.f60 [[0, 3], [0, 3]] = some s60 := by kernel_rfl

-- 61 calls [71, 72, 73, 74, 75]
abbrev k61_1 : List Nat := [2, 4, 5, 10, 11, 12, 13, 14, 15, 16, 17, 18]
abbrev a61_1 : List Nat := [2, 4, 10, 11, 12, 13, 14, 15, 16, 17]
abbrev e61_1 (v2 v4 v5 v10 v11 v12 v13 v14 v15 v16 v17 v18 : AV) : Env := [.dead, .dead, v2, .dead, v4, v5, .dead, .dead, .dead, .dead, v10, v11, v12, v13, v14, v15, v16, v17, v18, .dead, .dead, .dead, .dead, .dead, .dead, .dead, .dead, .dead, .dead, .dead, .dead, .dead, .dead, .dead, .dead, .dead, .dead, .dead, .dead, .dead, .dead, .dead, .dead, .dead, .dead, .dead, .dead, .dead, .dead, .dead, .dead, .dead, .dead, .dead, .dead, .dead, .dead, .dead, .dead, .dead, .dead, .dead, .dead, .dead, .dead, .dead, .dead, .dead, .dead, .dead, .dead, .dead, .dead, .dead, .dead, .dead, .dead, .dead, .dead, .dead, .dead, .dead, .dead, .dead, .dead, .dead, .dead, .dead, .dead, .dead, .dead, .dead, .dead, .dead, .dead, .dead, .dead, .dead, .dead, .dead, .dead, .dead, .dead, .dead, .dead, .dead, .dead, .dead, .dead, .dead, .dead, .dead, .dead, .dead, .dead, .dead, .dead, .dead, .dead, .dead, .dead, .dead, .dead, .dead, .dead, .dead, .dead, .dead, .dead, .dead, .dead, .dead, .dead, .dead, .dead, .dead, .dead, .dead, .dead, .dead, .dead, .dead, .dead, .dead, .dead, .dead, .dead, .dead, .dead, .dead, .dead, .dead, .dead, .dead, .dead, .dead, .dead, .dead]
abbrev x61_1 (v2 v4 v10 v11 v12 v13 v14 v15 v16 v17 : AV) : Env := [.dead, .dead, v2, .dead, v4, .dead, .dead, .dead, .dead, .dead, v10, v11, v12, v13, v14, v15, v16, v17, .dead, .dead, .dead, .dead, .dead, .dead, .dead, .dead, .dead, .dead, .dead, .dead, .dead, .dead, .dead, .dead, .dead, .dead, .dead, .dead, .dead, .dead, .dead, .dead, .dead, .dead, .dead, .dead, .dead, .dead, .dead, .dead, .dead, .dead, .dead, .dead, .dead, .dead, .dead, .dead, .dead, .dead, .dead, .dead, .dead, .dead, .dead, .dead, .dead, .dead, .dead, .dead, .dead, .dead, .dead, .dead, .dead, .dead, .dead, .dead, .dead, .dead, .dead, .dead, .dead, .dead, .dead, .dead, .dead, .dead, .dead, .dead, .dead, .dead, .dead, .dead, .dead, .dead, .dead, .dead, .dead, .dead, .dead, .dead, .dead, .dead, .dead, .dead, .dead, .dead, .dead, .dead, .dead, .dead, .dead, .dead, .dead, .dead, .dead, .dead, .dead, .dead, .dead, .dead, .dead, .dead, .dead, .dead, .dead, .dead, .dead, .dead, .dead, .dead, .dead, .dead, .dead, .dead, .dead, .dead, .dead, .dead, .dead, .dead, .dead, .dead, .dead, .dead, .dead, .dead, .dead, .dead, .dead, .dead, .dead, .dead, .dead, .dead, .dead, .dead]
def s61_b1 : SCode :=
  .seq (
    .seq (
      .region [
        ⟨some 80, none, [], .p (.mv (.t 18))⟩,
        ⟨some 81, none, [], .p (.bin .lss (.t 80) (.c (.int .i64 64)))⟩]) (
    .cond (.t 81) (
      .skip) (
      .exit 2))) (
  .seq (
    .block 3 (
      .seq (
        .region [
          ⟨some 84, none, [], .p (.mv (.t 14))⟩,
          ⟨some 85, none, [], .call 76004 4 true (.f 73) [.t 84, .c (.int .i64 6), .c (.int .i64 11), .c (.int .i64 25)]⟩,
          ⟨some 19, none, [], .p (.mv (.t 85))⟩]) (
      .seq (
        .region [
          ⟨some 86, none, [], .p (.mv (.t 10))⟩,
          ⟨some 87, none, [], .call 80004 4 true (.f 73) [.t 86, .c (.int .i64 2), .c (.int .i64 13), .c (.int .i64 22)]⟩,
          ⟨some 20, none, [], .p (.mv (.t 87))⟩]) (
      .seq (
        .region [
          ⟨some 88, none, [], .p (.mv (.t 14))⟩,
          ⟨some 89, none, [], .p (.mv (.t 15))⟩,
          ⟨some 90, none, [], .p (.mv (.t 16))⟩,
          ⟨some 91, none, [], .call 84012 4 true (.f 74) [.t 88, .t 89, .t 90]⟩,
          ⟨some 21, none, [], .p (.mv (.t 91))⟩]) (
      .seq (
        .region [
          ⟨some 92, none, [], .p (.mv (.t 10))⟩,
          ⟨some 93, none, [], .p (.mv (.t 11))⟩,
          ⟨some 94, none, [], .p (.mv (.t 12))⟩,
          ⟨some 95, none, [], .call 88012 4 true (.f 75) [.t 92, .t 93, .t 94]⟩,
          ⟨some 22, none, [], .p (.mv (.t 95))⟩]) (
      .seq (
        .region [
          ⟨some 96, none, [], .p (.mv (.t 17))⟩,
          ⟨some 97, none, [], .p (.mv (.t 19))⟩,
          ⟨some 98, none, [], .p (.bin .add (.t 96) (.t 97))⟩,
          ⟨some 99, none, [], .p (.mv (.t 21))⟩,
          ⟨some 100, none, [], .p (.bin .add (.t 98) (.t 99))⟩,
          ⟨some 101, none, [], .p (.mv (.t 18))⟩,
          ⟨some 102, none, [], .p (.iaddrA 64 1 (.g 1 64) (.t 101))⟩,
          ⟨some 103, none, [], .r (.load1 (.t 102))⟩,
          ⟨some 104, none, [], .p (.bin .add (.t 100) (.t 103))⟩,
          ⟨some 105, none, [], .p (.mv (.t 5))⟩,
          ⟨some 106, none, [], .p (.mv (.t 18))⟩,
          ⟨some 107, none, [], .p (.iaddrS 1 (.t 105) (.t 106))⟩,
          ⟨some 108, none, [], .r (.load1 (.t 107))⟩,
          ⟨some 109, none, [], .p (.bin .add (.t 104) (.t 108))⟩,
          ⟨some 23, none, [], .p (.mv (.t 109))⟩]) (
      .seq (
        .region [
          ⟨some 110, none, [], .p (.mv (.t 20))⟩,
          ⟨some 111, none, [], .p (.mv (.t 22))⟩,
          ⟨some 112, none, [], .p (.bin .add (.t 110) (.t 111))⟩,
          ⟨some 24, none, [], .p (.mv (.t 112))⟩]) (
      .seq (
        .region [
          ⟨some 113, none, [], .p (.mv (.t 16))⟩,
          ⟨some 17, none, [], .p (.mv (.t 113))⟩]) (
      .seq (
        .region [
          ⟨some 114, none, [], .p (.mv (.t 15))⟩,
          ⟨some 16, none, [], .p (.mv (.t 114))⟩]) (
      .seq (
        .region [
          ⟨some 115, none, [], .p (.mv (.t 14))⟩,
          ⟨some 15, none, [], .p (.mv (.t 115))⟩]) (
      .seq (
        .region [
          ⟨some 116, none, [], .p (.mv (.t 13))⟩,
          ⟨some 117, none, [], .p (.mv (.t 23))⟩,
          ⟨some 118, none, [], .p (.bin .add (.t 116) (.t 117))⟩,
          ⟨some 14, none, [], .p (.mv (.t 118))⟩]) (
      .seq (
        .region [
          ⟨some 119, none, [], .p (.mv (.t 12))⟩,
          ⟨some 13, none, [], .p (.mv (.t 119))⟩]) (
      .seq (
        .region [
          ⟨some 120, none, [], .p (.mv (.t 11))⟩,
          ⟨some 12, none, [], .p (.mv (.t 120))⟩]) (
      .seq (
        .region [
          ⟨some 121, none, [], .p (.mv (.t 10))⟩,
          ⟨some 11, none, [], .p (.mv (.t 121))⟩]) (
      .region [
        ⟨some 122, none, [], .p (.mv (.t 23))⟩,
        ⟨some 123, none, [], .p (.mv (.t 24))⟩,
        ⟨some 124, none, [], .p (.bin .add (.t 122) (.t 123))⟩,
        ⟨some 10, none, [], .p (.mv (.t 124))⟩]))))))))))))))) (
  .region [
    ⟨some 82, none, [], .p (.mv (.t 18))⟩,
    ⟨some 83, none, [], .p (.bin .add (.t 82) (.c (.int .i64 1)))⟩,
    ⟨some 18, none, [], .p (.mv (.t 83))⟩]))

abbrev k61_0 : List Nat := [2, 4, 5, 7]
abbrev a61_0 : List Nat := [2, 4, 5]
abbrev e61_0 (v2 v4 v5 v7 : AV) : Env := [.dead, .dead, v2, .dead, v4, v5, .dead, v7, .dead, .dead, .dead, .dead, .dead, .dead, .dead, .dead, .dead, .dead, .dead, .dead, .dead, .dead, .dead, .dead, .dead, .dead, .dead, .dead, .dead, .dead, .dead, .dead, .dead, .dead, .dead, .dead, .dead, .dead, .dead, .dead, .dead, .dead, .dead, .dead, .dead, .dead, .dead, .dead, .dead, .dead, .dead, .dead, .dead, .dead, .dead, .dead, .dead, .dead, .dead, .dead, .dead, .dead, .dead, .dead, .dead, .dead, .dead, .dead, .dead, .dead, .dead, .dead, .dead, .dead, .dead, .dead, .dead, .dead, .dead, .dead, .dead, .dead, .dead, .dead, .dead, .dead, .dead, .dead, .dead, .dead, .dead, .dead, .dead, .dead, .dead, .dead, .dead, .dead, .dead, .dead, .dead, .dead, .dead, .dead, .dead, .dead, .dead, .dead, .dead, .dead, .dead, .dead, .dead, .dead, .dead, .dead, .dead, .dead, .dead, .dead, .dead, .dead, .dead, .dead, .dead, .dead, .dead, .dead, .dead, .dead, .dead, .dead, .dead, .dead, .dead, .dead, .dead, .dead, .dead, .dead, .dead, .dead, .dead, .dead, .dead, .dead, .dead, .dead, .dead, .dead, .dead, .dead, .dead, .dead, .dead, .dead, .dead, .dead]
abbrev x61_0 (v2 v4 v5 : AV) : Env := [.dead, .dead, v2, .dead, v4, v5, .dead, .dead, .dead, .dead, .dead, .dead, .dead, .dead, .dead, .dead, .dead, .dead, .dead, .dead, .dead, .dead, .dead, .dead, .dead, .dead, .dead, .dead, .dead, .dead, .dead, .dead, .dead, .dead, .dead, .dead, .dead, .dead, .dead, .dead, .dead, .dead, .dead, .dead, .dead, .dead, .dead, .dead, .dead, .dead, .dead, .dead, .dead, .dead, .dead, .dead, .dead, .dead, .dead, .dead, .dead, .dead, .dead, .dead, .dead, .dead, .dead, .dead, .dead, .dead, .dead, .dead, .dead, .dead, .dead, .dead, .dead, .dead, .dead, .dead, .dead, .dead, .dead, .dead, .dead, .dead, .dead, .dead, .dead, .dead, .dead, .dead, .dead, .dead, .dead, .dead, .dead, .dead, .dead, .dead, .dead, .dead, .dead, .dead, .dead, .dead, .dead, .dead, .dead, .dead, .dead, .dead, .dead, .dead, .dead, .dead, .dead, .dead, .dead, .dead, .dead, .dead, .dead, .dead, .dead, .dead, .dead, .dead, .dead, .dead, .dead, .dead, .dead, .dead, .dead, .dead, .dead, .dead, .dead, .dead, .dead, .dead, .dead, .dead, .dead, .dead, .dead, .dead, .dead, .dead, .dead, .dead, .dead, .dead, .dead, .dead, .dead, .dead]
def s61_b0 : SCode :=
  .seq (
    .seq (
      .region [
        ⟨some 30, none, [], .p (.mv (.t 7))⟩,
        ⟨some 31, none, [], .p (.bin .lss (.t 30) (.c (.int .i64 64)))⟩]) (
    .cond (.t 31) (
      .skip) (
      .exit 0))) (
  .seq (
    .block 1 (
      .seq (
        .region [
          ⟨some 34, none, [], .p (.mv (.t 5))⟩,
          ⟨some 35, none, [], .p (.mv (.t 7))⟩,
          ⟨some 36, none, [], .p (.bin .sub (.t 35) (.c (.int .i64 15)))⟩,
          ⟨some 37, none, [], .p (.iaddrS 1 (.t 34) (.t 36))⟩,
          ⟨some 38, none, [], .r (.load1 (.t 37))⟩,
          ⟨some 39, none, [], .call 20020 4 true (.f 72) [.t 38, .c (.int .i64 7), .c (.int .i64 18), .c (u32 8#32)]⟩,
          ⟨some 8, none, [], .p (.mv (.t 39))⟩]) (
      .seq (
        .region [
          ⟨some 40, none, [], .p (.mv (.t 5))⟩,
          ⟨some 41, none, [], .p (.mv (.t 7))⟩,
          ⟨some 42, none, [], .p (.bin .sub (.t 41) (.c (.int .i64 2)))⟩,
          ⟨some 43, none, [], .p (.iaddrS 1 (.t 40) (.t 42))⟩,
          ⟨some 44, none, [], .r (.load1 (.t 43))⟩,
          ⟨some 45, none, [], .call 24020 4 true (.f 72) [.t 44, .c (.int .i64 17), .c (.int .i64 19), .c (u32 1024#32)]⟩,
          ⟨some 9, none, [], .p (.mv (.t 45))⟩]) (
      .region [
        ⟨some 46, none, [], .p (.mv (.t 5))⟩,
        ⟨some 47, none, [], .p (.mv (.t 9))⟩,
        ⟨some 48, none, [], .p (.mv (.t 5))⟩,
        ⟨some 49, none, [], .p (.mv (.t 7))⟩,
        ⟨some 50, none, [], .p (.bin .sub (.t 49) (.c (.int .i64 7)))⟩,
        ⟨some 51, none, [], .p (.iaddrS 1 (.t 48) (.t 50))⟩,
        ⟨some 52, none, [], .r (.load1 (.t 51))⟩,
        ⟨some 53, none, [], .p (.bin .add (.t 47) (.t 52))⟩,
        ⟨some 54, none, [], .p (.mv (.t 8))⟩,
        ⟨some 55, none, [], .p (.bin .add (.t 53) (.t 54))⟩,
        ⟨some 56, none, [], .p (.mv (.t 5))⟩,
        ⟨some 57, none, [], .p (.mv (.t 7))⟩,
        ⟨some 58, none, [], .p (.bin .sub (.t 57) (.c (.int .i64 16)))⟩,
        ⟨some 59, none, [], .p (.iaddrS 1 (.t 56) (.t 58))⟩,
        ⟨some 60, none, [], .r (.load1 (.t 59))⟩,
        ⟨some 61, none, [], .p (.bin .add (.t 55) (.t 60))⟩,
        ⟨some 62, none, [], .a 28064 (.buildS 1 1 [u32 0#32] [(0, 1, .t 61)])⟩,
        ⟨some 63, none, [], .w (.append 28068 1 4 (.t 46) (.t 62))⟩,
        ⟨some 5, none, [], .p (.mv (.t 63))⟩])))) (
  .region [
    ⟨some 32, none, [], .p (.mv (.t 7))⟩,
    ⟨some 33, none, [], .p (.bin .add (.t 32) (.c (.int .i64 1)))⟩,
    ⟨some 7, none, [], .p (.mv (.t 33))⟩]))

def s61 : SFunc := ⟨
  .seq (
    .region [
      ⟨some 2, none, [], .a 0 (.box (.t 0))⟩,
      ⟨some 4, none, [], .a 4 (.alloc [u32 0#32, u32 0#32, u32 0#32, u32 0#32, u32 0#32, u32 0#32, u32 0#32, u32 0#32])⟩]) (
  .seq (
    .region [
      ⟨some 26, none, [], .p (.mv (.t 1))⟩,
      ⟨some 27, none, [], .call 4004 4 true (.f 71) [.t 26, .c (.bool true)]⟩,
      ⟨some 25, none, [], .p (.mv (.t 27))⟩,
      ⟨some 28, none, [], .p (.extract (.t 25) 0)⟩,
      ⟨some 29, none, [], .p (.extract (.t 25) 1)⟩,
      ⟨some 5, none, [], .p (.mv (.t 28))⟩,
      ⟨some 6, none, [], .p (.mv (.t 29))⟩]) (
  .seq (
    .seq (
      .region [
        ⟨some 7, none, [], .p (.mv (.c (.int .i64 16)))⟩]) (
    .block 0 (
      .loop k61_0 a61_0 s61_b0))) (
  .seq (
    .region [
      ⟨some 64, none, [], .p (.iaddrA 8 1 (.t 2) (.c (.int .i64 0)))⟩,
      ⟨some 65, none, [], .r (.load1 (.t 64))⟩,
      ⟨some 10, none, [], .p (.mv (.t 65))⟩]) (
  .seq (
    .region [
      ⟨some 66, none, [], .p (.iaddrA 8 1 (.t 2) (.c (.int .i64 1)))⟩,
      ⟨some 67, none, [], .r (.load1 (.t 66))⟩,
      ⟨some 11, none, [], .p (.mv (.t 67))⟩]) (
  .seq (
    .region [
      ⟨some 68, none, [], .p (.iaddrA 8 1 (.t 2) (.c (.int .i64 2)))⟩,
      ⟨some 69, none, [], .r (.load1 (.t 68))⟩,
      ⟨some 12, none, [], .p (.mv (.t 69))⟩]) (
  .seq (
    .region [
      ⟨some 70, none, [], .p (.iaddrA 8 1 (.t 2) (.c (.int .i64 3)))⟩,
      ⟨some 71, none, [], .r (.load1 (.t 70))⟩,
      ⟨some 13, none, [], .p (.mv (.t 71))⟩]) (
  .seq (
    .region [
      ⟨some 72, none, [], .p (.iaddrA 8 1 (.t 2) (.c (.int .i64 4)))⟩,
      ⟨some 73, none, [], .r (.load1 (.t 72))⟩,
      ⟨some 14, none, [], .p (.mv (.t 73))⟩]) (
  .seq (
    .region [
      ⟨some 74, none, [], .p (.iaddrA 8 1 (.t 2) (.c (.int .i64 5)))⟩,
      ⟨some 75, none, [], .r (.load1 (.t 74))⟩,
      ⟨some 15, none, [], .p (.mv (.t 75))⟩]) (
  .seq (
    .region [
      ⟨some 76, none, [], .p (.iaddrA 8 1 (.t 2) (.c (.int .i64 6)))⟩,
      ⟨some 77, none, [], .r (.load1 (.t 76))⟩,
      ⟨some 16, none, [], .p (.mv (.t 77))⟩]) (
  .seq (
    .region [
      ⟨some 78, none, [], .p (.iaddrA 8 1 (.t 2) (.c (.int .i64 7)))⟩,
      ⟨some 79, none, [], .r (.load1 (.t 78))⟩,
      ⟨some 17, none, [], .p (.mv (.t 79))⟩]) (
  .seq (
    .seq (
      .region [
        ⟨some 18, none, [], .p (.mv (.c (.int .i64 0)))⟩]) (
    .block 2 (
      .loop k61_1 a61_1 s61_b1))) (
  .seq (
    .region [
      ⟨some 125, none, [], .p (.iaddrA 8 1 (.t 2) (.c (.int .i64 0)))⟩,
      ⟨some 126, none, [], .r (.load1 (.t 125))⟩,
      ⟨some 127, none, [], .p (.mv (.t 10))⟩,
      ⟨some 128, none, [], .p (.bin .add (.t 126) (.t 127))⟩,
      ⟨some 129, none, [], .p (.iaddrA 8 1 (.t 2) (.c (.int .i64 1)))⟩,
      ⟨some 130, none, [], .r (.load1 (.t 129))⟩,
      ⟨some 131, none, [], .p (.mv (.t 11))⟩,
      ⟨some 132, none, [], .p (.bin .add (.t 130) (.t 131))⟩,
      ⟨some 133, none, [], .p (.iaddrA 8 1 (.t 2) (.c (.int .i64 2)))⟩,
      ⟨some 134, none, [], .r (.load1 (.t 133))⟩,
      ⟨some 135, none, [], .p (.mv (.t 12))⟩,
      ⟨some 136, none, [], .p (.bin .add (.t 134) (.t 135))⟩,
      ⟨some 137, none, [], .p (.iaddrA 8 1 (.t 2) (.c (.int .i64 3)))⟩,
      ⟨some 138, none, [], .r (.load1 (.t 137))⟩,
      ⟨some 139, none, [], .p (.mv (.t 13))⟩,
      ⟨some 140, none, [], .p (.bin .add (.t 138) (.t 139))⟩,
      ⟨some 141, none, [], .p (.iaddrA 8 1 (.t 2) (.c (.int .i64 4)))⟩,
      ⟨some 142, none, [], .r (.load1 (.t 141))⟩,
      ⟨some 143, none, [], .p (.mv (.t 14))⟩,
      ⟨some 144, none, [], .p (.bin .add (.t 142) (.t 143))⟩,
      ⟨some 145, none, [], .p (.iaddrA 8 1 (.t 2) (.c (.int .i64 5)))⟩,
      ⟨some 146, none, [], .r (.load1 (.t 145))⟩,
      ⟨some 147, none, [], .p (.mv (.t 15))⟩,
      ⟨some 148, none, [], .p (.bin .add (.t 146) (.t 147))⟩,
      ⟨some 149, none, [], .p (.iaddrA 8 1 (.t 2) (.c (.int .i64 6)))⟩,
      ⟨some 150, none, [], .r (.load1 (.t 149))⟩,
      ⟨some 151, none, [], .p (.mv (.t 16))⟩,
      ⟨some 152, none, [], .p (.bin .add (.t 150) (.t 151))⟩,
      ⟨some 153, none, [], .p (.iaddrA 8 1 (.t 2) (.c (.int .i64 7)))⟩,
      ⟨some 154, none, [], .r (.load1 (.t 153))⟩,
      ⟨some 155, none, [], .p (.mv (.t 17))⟩,
      ⟨some 156, none, [], .p (.bin .add (.t 154) (.t 155))⟩,
      ⟨some 157, none, [], .p (.build [u32 0#32, u32 0#32, u32 0#32, u32 0#32, u32 0#32, u32 0#32, u32 0#32, u32 0#32] [(0, 1, .t 128), (1, 1, .t 132), (2, 1, .t 136), (3, 1, .t 140), (4, 1, .t 144), (5, 1, .t 148), (6, 1, .t 152), (7, 1, .t 156)])⟩,
      ⟨none, none, [], .w (.storeN 8 (.t 4) (.t 157))⟩]) (
  .ret))))))))))))),
  158, [Sum.inr (4, 8, true)]⟩

theorem c61 : cFunc Tryd.prog quiet Tryd.f61 [[2, 4, 5, 7], [2, 4, 5], [2, 4, 5, 10, 11, 12, 13, 14, 15, 16, 17, 18], [2, 4, 10, 11, 12, 13, 14, 15, 16, 17]] = some s61 := by kernel_rfl

-- 62 calls []
abbrev k62_2 : List Nat := [0, 1, 5, 6, 7, 11]
abbrev a62_2 : List Nat := [0, 1, 5, 6]
abbrev e62_2 (v0 v1 v5 v6 v7 v11 : AV) : Env := [v0, v1, .dead, .dead, .dead, v5, v6, v7, .dead, .dead, .dead, v11, .dead, .dead, .dead, .dead, .dead, .dead, .dead, .dead, .dead, .dead, .dead, .dead, .dead, .dead, .dead, .dead, .dead, .dead, .dead, .dead, .dead, .dead, .dead, .dead, .dead, .dead, .dead, .dead, .dead, .dead, .dead, .dead, .dead, .dead, .dead, .dead, .dead]
abbrev x62_2 (v0 v1 v5 v6 : AV) : Env := [v0, v1, .dead, .dead, .dead, v5, v6, .dead, .dead, .dead, .dead, .dead, .dead, .dead, .dead, .dead, .dead, .dead, .dead, .dead, .dead, .dead, .dead, .dead, .dead, .dead, .dead, .dead, .dead, .dead, .dead, .dead, .dead, .dead, .dead, .dead, .dead, .dead, .dead, .dead, .dead, .dead, .dead, .dead, .dead, .dead, .dead, .dead, .dead]
def s62_b2 : SCode :=
  .seq (
    .seq (
      .region [
        ⟨some 37, none, [], .p (.mv (.t 11))⟩,
        ⟨some 38, none, [], .p (.bin .lss (.t 37) (.c (.int .i64 4)))⟩]) (
    .cond (.t 38) (
      .skip) (
      .exit 4))) (
  .seq (
    .block 5 (
      .region [
        ⟨some 41, none, [], .p (.mv (.t 5))⟩,
        ⟨some 42, none, [], .p (.mv (.t 11))⟩,
        ⟨some 43, none, [], .p (.iaddrA 4 1 (.t 7) (.t 42))⟩,
        ⟨some 44, none, [], .r (.load1 (.t 43))⟩,
        ⟨some 45, none, [], .a 72016 (.buildS 1 1 [byteAV 0] [(0, 1, .t 44)])⟩,
        ⟨some 46, none, [], .w (.append 72020 1 1 (.t 41) (.t 45))⟩,
        ⟨some 5, none, [], .p (.mv (.t 46))⟩])) (
  .region [
    ⟨some 39, none, [], .p (.mv (.t 11))⟩,
    ⟨some 40, none, [], .p (.bin .add (.t 39) (.c (.int .i64 1)))⟩,
    ⟨some 11, none, [], .p (.mv (.t 40))⟩]))

abbrev k62_1 : List Nat := [0, 1, 5, 6, 7, 8, 9]
abbrev a62_1 : List Nat := [0, 1, 5, 6, 7]
abbrev e62_1 (v0 v1 v5 v6 v7 v8 v9 : AV) : Env := [v0, v1, .dead, .dead, .dead, v5, v6, v7, v8, v9, .dead, .dead, .dead, .dead, .dead, .dead, .dead, .dead, .dead, .dead, .dead, .dead, .dead, .dead, .dead, .dead, .dead, .dead, .dead, .dead, .dead, .dead, .dead, .dead, .dead, .dead, .dead, .dead, .dead, .dead, .dead, .dead, .dead, .dead, .dead, .dead, .dead, .dead, .dead]
abbrev x62_1 (v0 v1 v5 v6 v7 : AV) : Env := [v0, v1, .dead, .dead, .dead, v5, v6, v7, .dead, .dead, .dead, .dead, .dead, .dead, .dead, .dead, .dead, .dead, .dead, .dead, .dead, .dead, .dead, .dead, .dead, .dead, .dead, .dead, .dead, .dead, .dead, .dead, .dead, .dead, .dead, .dead, .dead, .dead, .dead, .dead, .dead, .dead, .dead, .dead, .dead, .dead, .dead, .dead, .dead]
def s62_b1 : SCode :=
  .seq (
    .seq (
      .region [
        ⟨some 22, none, [], .p (.mv (.t 9))⟩,
        ⟨some 23, none, [], .p (.bin .lss (.t 22) (.c (.int .i64 4)))⟩]) (
    .cond (.t 23) (
      .skip) (
      .exit 2))) (
  .seq (
    .block 3 (
      .seq (
        .region [
          ⟨some 26, none, [], .p (.mv (.t 9))⟩,
          ⟨some 10, none, [], .p (.mv (.t 26))⟩]) (
      .seq (
        .seq (
          .region [
            ⟨some 27, none, [], .p (.mv (.t 1))⟩]) (
        .cond (.t 27) (
          .region [
            ⟨some 28, none, [], .p (.mv (.t 9))⟩,
            ⟨some 29, none, [], .p (.bin .sub (.c (.int .i64 3)) (.t 28))⟩,
            ⟨some 10, none, [], .p (.mv (.t 29))⟩]) (
          .skip))) (
      .seq (
        .region [
          ⟨some 30, none, [], .p (.mv (.t 10))⟩,
          ⟨some 31, none, [], .p (.mv (.t 8))⟩,
          ⟨some 32, none, [], .p (.bin .rem (.t 31) (.c (u32 256#32)))⟩,
          ⟨some 33, none, [], .p (.conv .u8 (.t 32))⟩,
          ⟨some 34, none, [], .p (.iaddrA 4 1 (.t 7) (.t 30))⟩,
          ⟨none, none, [], .w (.store1 (.t 34) (.t 33))⟩]) (
      .region [
        ⟨some 35, none, [], .p (.mv (.t 8))⟩,
        ⟨some 36, none, [], .p (.bin .quo (.t 35) (.c (u32 256#32)))⟩,
        ⟨some 8, none, [], .p (.mv (.t 36))⟩]))))) (
  .region [
    ⟨some 24, none, [], .p (.mv (.t 9))⟩,
    ⟨some 25, none, [], .p (.bin .add (.t 24) (.c (.int .i64 1)))⟩,
    ⟨some 9, none, [], .p (.mv (.t 25))⟩]))

abbrev k62_0 : List Nat := [0, 1, 5, 6]
abbrev a62_0 : List Nat := [5]
abbrev e62_0 (v0 v1 v5 v6 : AV) : Env := [v0, v1, .dead, .dead, .dead, v5, v6, .dead, .dead, .dead, .dead, .dead, .dead, .dead, .dead, .dead, .dead, .dead, .dead, .dead, .dead, .dead, .dead, .dead, .dead, .dead, .dead, .dead, .dead, .dead, .dead, .dead, .dead, .dead, .dead, .dead, .dead, .dead, .dead, .dead, .dead, .dead, .dead, .dead, .dead, .dead, .dead, .dead, .dead]
abbrev x62_0 (v5 : AV) : Env := [.dead, .dead, .dead, .dead, .dead, v5, .dead, .dead, .dead, .dead, .dead, .dead, .dead, .dead, .dead, .dead, .dead, .dead, .dead, .dead, .dead, .dead, .dead, .dead, .dead, .dead, .dead, .dead, .dead, .dead, .dead, .dead, .dead, .dead, .dead, .dead, .dead, .dead, .dead, .dead, .dead, .dead, .dead, .dead, .dead, .dead, .dead, .dead, .dead]
def s62_b0 : SCode :=
  .seq (
    .seq (
      .region [
        ⟨some 12, none, [], .p (.mv (.t 6))⟩,
        ⟨some 13, none, [], .p (.mv (.t 0))⟩,
        ⟨some 14, none, [], .p (.lenV true (.t 13))⟩,
        ⟨some 15, none, [], .p (.bin .lss (.t 12) (.t 14))⟩]) (
    .cond (.t 15) (
      .skip) (
      .exit 0))) (
  .seq (
    .block 1 (
      .seq (
        .region [
          ⟨some 7, none, [], .a 20000 (.alloc [byteAV 0, byteAV 0, byteAV 0, byteAV 0])⟩]) (
      .seq (
        .region [
          ⟨some 18, none, [], .p (.mv (.t 0))⟩,
          ⟨some 19, none, [], .p (.mv (.t 6))⟩,
          ⟨some 20, none, [], .p (.iaddrS 1 (.t 18) (.t 19))⟩,
          ⟨some 21, none, [], .r (.load1 (.t 20))⟩,
          ⟨some 8, none, [], .p (.mv (.t 21))⟩]) (
      .seq (
        .seq (
          .region [
            ⟨some 9, none, [], .p (.mv (.c (.int .i64 0)))⟩]) (
        .block 2 (
          .loop k62_1 a62_1 s62_b1))) (
      .seq (
        .region [
          ⟨some 11, none, [], .p (.mv (.c (.int .i64 0)))⟩]) (
      .block 4 (
        .loop k62_2 a62_2 s62_b2))))))) (
  .region [
    ⟨some 16, none, [], .p (.mv (.t 6))⟩,
    ⟨some 17, none, [], .p (.bin .add (.t 16) (.c (.int .i64 1)))⟩,
    ⟨some 6, none, [], .p (.mv (.t 17))⟩]))

def s62 : SFunc := ⟨
  .seq (
    .region [
      ⟨some 4, none, [], .p (.mv (.c (.str [])))⟩]) (
  .seq (
    .region [
      ⟨some 5, none, [], .p (.mv (.c (.slice none 0 0)))⟩]) (
  .seq (
    .seq (
      .region [
        ⟨some 6, none, [], .p (.mv (.c (.int .i64 0)))⟩]) (
    .block 0 (
      .loop k62_0 a62_0 s62_b0))) (
  .seq (
    .region [
      ⟨some 47, none, [], .p (.mv (.t 5))⟩,
      ⟨some 48, none, [], .r (.toStr (.t 47))⟩,
      ⟨some 4, none, [], .p (.mv (.t 48))⟩]) (
  .ret)))),
  49, [Sum.inl 4]⟩

theorem c62 : cFunc Tryd.prog quiet Tryd.f62 [[0, 1, 5, 6], [5], [0, 1, 5, 6, 7, 8, 9], [0, 1, 5, 6, 7], [0, 1, 5, 6, 7, 11], [0, 1, 5, 6]] = some s62 := by kernel_rfl

-- 64 calls []
abbrev k64_0 : List Nat := [0, 1, 6, 17, 18]
abbrev a64_0 : List Nat := [6]
abbrev e64_0 (v0 v1 v6 v17 v18 : AV) : Env := [v0, v1, .dead, .dead, .dead, .dead, v6, .dead, .dead, .dead, .dead, .dead, .dead, .dead, .dead, .dead, .dead, v17, v18, .dead, .dead, .dead, .dead, .dead, .dead, .dead, .dead, .dead, .dead, .dead, .dead, .dead, .dead, .dead, .dead, .dead, .dead, .dead, .dead, .dead, .dead, .dead, .dead, .dead, .dead, .dead, .dead, .dead, .dead, .dead, .dead]
abbrev x64_0 (v6 : AV) : Env := [.dead, .dead, .dead, .dead, .dead, .dead, v6, .dead, .dead, .dead, .dead, .dead, .dead, .dead, .dead, .dead, .dead, .dead, .dead, .dead, .dead, .dead, .dead, .dead, .dead, .dead, .dead, .dead, .dead, .dead, .dead, .dead, .dead, .dead, .dead, .dead, .dead, .dead, .dead, .dead, .dead, .dead, .dead, .dead, .dead, .dead, .dead, .dead, .dead, .dead, .dead]
def s64_b0 : SCode :=
  .seq (
    .region [
      ⟨some 19, none, [], .p (.bin .lss (.t 18) (.t 17))⟩]) (
  .seq (
    .cond (.t 19) (
      .skip) (
      .exit 0)) (
  .seq (
    .block 1 (
      .seq (
        .region [
          ⟨some 20, none, [], .p (.mv (.t 18))⟩,
          ⟨some 7, none, [], .p (.mv (.t 20))⟩]) (
      .region [
        ⟨some 21, none, [], .p (.mv (.t 6))⟩,
        ⟨some 22, none, [], .p (.mv (.t 7))⟩,
        ⟨some 23, none, [], .p (.mv (.t 1))⟩,
        ⟨some 24, none, [], .p (.mv (.t 0))⟩,
        ⟨some 25, none, [], .p (.mv (.t 7))⟩,
        ⟨some 26, none, [], .p (.bin .mul (.c (.int .i64 4)) (.t 25))⟩,
        ⟨some 27, none, [], .p (.idxStr (.t 24) (.t 26))⟩,
        ⟨some 28, none, [], .p (.conv .u32 (.t 27))⟩,
        ⟨some 29, none, [], .p (.mv (.t 0))⟩,
        ⟨some 30, none, [], .p (.mv (.t 7))⟩,
        ⟨some 31, none, [], .p (.bin .mul (.c (.int .i64 4)) (.t 30))⟩,
        ⟨some 32, none, [], .p (.bin .add (.t 31) (.c (.int .i64 1)))⟩,
        ⟨some 33, none, [], .p (.idxStr (.t 29) (.t 32))⟩,
        ⟨some 34, none, [], .p (.conv .u32 (.t 33))⟩,
        ⟨some 35, none, [], .p (.mv (.t 0))⟩,
        ⟨some 36, none, [], .p (.mv (.t 7))⟩,
        ⟨some 37, none, [], .p (.bin .mul (.c (.int .i64 4)) (.t 36))⟩,
        ⟨some 38, none, [], .p (.bin .add (.t 37) (.c (.int .i64 2)))⟩,
        ⟨some 39, none, [], .p (.idxStr (.t 35) (.t 38))⟩,
        ⟨some 40, none, [], .p (.conv .u32 (.t 39))⟩,
        ⟨some 41, none, [], .p (.mv (.t 0))⟩,
        ⟨some 42, none, [], .p (.mv (.t 7))⟩,
        ⟨some 43, none, [], .p (.bin .mul (.c (.int .i64 4)) (.t 42))⟩,
        ⟨some 44, none, [], .p (.bin .add (.t 43) (.c (.int .i64 3)))⟩,
        ⟨some 45, none, [], .p (.idxStr (.t 41) (.t 44))⟩,
        ⟨some 46, none, [], .p (.conv .u32 (.t 45))⟩,
        ⟨some 47, none, [], .call 28104 4 true (.t 23) [.t 28, .t 34, .t 40, .t 46]⟩,
        ⟨some 48, none, [], .p (.iaddrS 1 (.t 21) (.t 22))⟩,
        ⟨none, none, [], .w (.store1 (.t 48) (.t 47))⟩]))) (
  .region [
    ⟨some 49, none, [], .p (.bin .add (.t 18) (.c (.int .i64 1)))⟩,
    ⟨some 18, none, [], .p (.mv (.t 49))⟩])))

def s64 : SFunc := ⟨
  .seq (
    .region [
      ⟨some 4, none, [], .p (.mv (.c (.slice none 0 0)))⟩,
      ⟨some 5, none, [], .p (.mv (.c (.int .i64 0)))⟩]) (
  .seq (
    .seq (
      .region [
        ⟨some 8, none, [], .p (.mv (.t 0))⟩,
        ⟨some 9, none, [], .p (.lenV false (.t 8))⟩,
        ⟨some 10, none, [], .p (.bin .rem (.t 9) (.c (.int .i64 4)))⟩,
        ⟨some 11, none, [], .p (.bin .neq (.t 10) (.c (.int .i64 0)))⟩]) (
    .cond (.t 11) (
      .seq (
        .region [
          ⟨some 4, none, [], .p (.mv (.c (.slice none 0 0)))⟩,
          ⟨some 5, none, [], .p (.mv (.c (.int .i64 7)))⟩]) (
      .ret)) (
      .skip))) (
  .seq (
    .region [
      ⟨some 12, none, [], .p (.mv (.t 0))⟩,
      ⟨some 13, none, [], .p (.lenV false (.t 12))⟩,
      ⟨some 14, none, [], .p (.bin .quo (.t 13) (.c (.int .i64 4)))⟩,
      ⟨some 15, none, [], .a 12012 (.mkSlice 1 4 [u32 0#32] (.t 14) (.t 14))⟩,
      ⟨some 6, none, [], .p (.mv (.t 15))⟩]) (
  .seq (
    .seq (
      .region [
        ⟨some 16, none, [], .p (.mv (.t 6))⟩,
        ⟨some 17, none, [], .p (.lenV true (.t 16))⟩,
        ⟨some 18, none, [], .p (.mv (.c (.int .i64 0)))⟩]) (
    .block 0 (
      .loop k64_0 a64_0 s64_b0))) (
  .seq (
    .region [
      ⟨some 50, none, [], .p (.mv (.t 6))⟩,
      ⟨some 4, none, [], .p (.mv (.t 50))⟩,
      ⟨some 5, none, [], .p (.mv (.c (.int .i64 0)))⟩]) (
  .ret))))),
  51, [Sum.inl 4, Sum.inl 5]⟩

theorem c64 : cFunc Tryd.prog quiet Tryd.f64 [[0, 1, 6, 17, 18], [6]] = some s64 := by kernel_rfl

-- 65 calls []
def s65 : SFunc := ⟨
  .seq (
    .region [
      ⟨some 8, none, [], .p (.mv (.c (u32 0#32)))⟩]) (
  .seq (
    .region [
      ⟨some 9, none, [], .p (.mv (.t 0))⟩,
      ⟨some 10, none, [], .p (.bin .shl (.t 9) (.c (u64 24#64)))⟩,
      ⟨some 11, none, [], .p (.mv (.t 1))⟩,
      ⟨some 12, none, [], .p (.bin .shl (.t 11) (.c (u64 16#64)))⟩,
      ⟨some 13, none, [], .p (.bin .or (.t 10) (.t 12))⟩,
      ⟨some 14, none, [], .p (.mv (.t 2))⟩,
      ⟨some 15, none, [], .p (.bin .shl (.t 14) (.c (u64 8#64)))⟩,
      ⟨some 16, none, [], .p (.bin .or (.t 13) (.t 15))⟩,
      ⟨some 17, none, [], .p (.mv (.t 3))⟩,
      ⟨some 18, none, [], .p (.bin .or (.t 16) (.t 17))⟩,
      ⟨some 8, none, [], .p (.mv (.t 18))⟩]) (
  .ret)),
  19, [Sum.inl 8]⟩

theorem c65 : cFunc Tryd.prog quiet Tryd.f65 [] = some s65 := by kernel_rfl

-- 66 calls [77]
def s66 : SFunc := ⟨
  .seq (
    .region [
      ⟨some 4, none, [], .p (.mv (.c (.bool false)))⟩]) (
  .seq (
    .region [
      ⟨some 5, none, [], .p (.mv (.t 0))⟩,
      ⟨some 6, none, [], .p (.mv (.t 1))⟩,
      ⟨some 7, none, [], .call 4008 4 true (.f 77) [.t 5, .t 6]⟩,
      ⟨some 8, none, [], .p (.bin .geq (.t 7) (.c (.int .i64 0)))⟩,
      ⟨some 4, none, [], .p (.mv (.t 8))⟩]) (
  .ret)),
  9, [Sum.inl 4]⟩

theorem c66 : cFunc Tryd.prog quiet Tryd.f66 [] = some s66 := by kernel_rfl

-- 67 calls []
abbrev k67_0 : List Nat := [1, 2, 5, 6]
abbrev a67_0 : List Nat := [5]
abbrev e67_0 (v1 v2 v5 v6 : AV) : Env := [.dead, v1, v2, .dead, .dead, v5, v6, .dead, .dead, .dead, .dead, .dead, .dead, .dead, .dead, .dead, .dead, .dead, .dead, .dead, .dead, .dead, .dead, .dead]
abbrev x67_0 (v5 : AV) : Env := [.dead, .dead, .dead, .dead, .dead, v5, .dead, .dead, .dead, .dead, .dead, .dead, .dead, .dead, .dead, .dead, .dead, .dead, .dead, .dead, .dead, .dead, .dead, .dead]
def s67_b0 : SCode :=
  .seq (
    .seq (
      .region [
        ⟨some 7, none, [], .p (.mv (.t 6))⟩,
        ⟨some 8, none, [], .p (.faddr 7 (.t 2))⟩,
        ⟨some 9, none, [], .r (.load1 (.t 8))⟩,
        ⟨some 10, none, [], .p (.lenV true (.t 9))⟩,
        ⟨some 11, none, [], .p (.bin .lss (.t 7) (.t 10))⟩]) (
    .cond (.t 11) (
      .skip) (
      .exit 0))) (
  .seq (
    .block 1 (
      .seq (
        .region [
          ⟨some 14, none, [], .p (.faddr 7 (.t 2))⟩,
          ⟨some 15, none, [], .r (.load1 (.t 14))⟩,
          ⟨some 16, none, [], .p (.mv (.t 6))⟩,
          ⟨some 17, none, [], .p (.iaddrS 1 (.t 15) (.t 16))⟩,
          ⟨some 18, none, [], .r (.load1 (.t 17))⟩,
          ⟨some 19, none, [], .p (.mv (.t 1))⟩,
          ⟨some 20, none, [], .p (.bin .eql (.t 18) (.t 19))⟩]) (
      .cond (.t 20) (
        .region [
          ⟨some 21, none, [], .p (.mv (.t 5))⟩,
          ⟨some 22, none, [], .p (.bin .add (.t 21) (.c (.int .i64 1)))⟩,
          ⟨some 5, none, [], .p (.mv (.t 22))⟩]) (
        .skip)))) (
  .region [
    ⟨some 12, none, [], .p (.mv (.t 6))⟩,
    ⟨some 13, none, [], .p (.bin .add (.t 12) (.c (.int .i64 1)))⟩,
    ⟨some 6, none, [], .p (.mv (.t 13))⟩]))

def s67 : SFunc := ⟨
  .seq (
    .region [
      ⟨some 2, none, [], .a 0 (.box (.t 0))⟩,
      ⟨some 4, none, [], .p (.mv (.c (.int .i64 0)))⟩]) (
  .seq (
    .region [
      ⟨some 5, none, [], .p (.mv (.c (.int .i64 0)))⟩]) (
  .seq (
    .seq (
      .region [
        ⟨some 6, none, [], .p (.mv (.c (.int .i64 0)))⟩]) (
    .block 0 (
      .loop k67_0 a67_0 s67_b0))) (
  .seq (
    .region [
      ⟨some 23, none, [], .p (.mv (.t 5))⟩,
      ⟨some 4, none, [], .p (.mv (.t 23))⟩]) (
  .ret)))),
  24, [Sum.inl 4]⟩

theorem c67 : cFunc Tryd.prog quiet Tryd.f67 [[1, 2, 5, 6], [5]] = some s67 := by kernel_rfl

-- 68 calls []
def s68 : SFunc := ⟨
  .seq (
    .region [
      ⟨some 0, none, [], .p (.mv (.c (.ptr none)))⟩]) (
  .seq (
    .region [
      ⟨some 1, none, [], .r (.loadN 8 (.g 2 8))⟩,
      ⟨some 2, none, [], .p (.build [u32 0#32, u32 0#32, u32 0#32, u32 0#32, u32 0#32, u32 0#32, u32 0#32, u32 0#32, .str [], .int .i64 0] [(0, 8, .t 1)])⟩,
      ⟨some 3, none, [], .a 4008 (.box (.t 2))⟩,
      ⟨some 0, none, [], .p (.mv (.t 3))⟩]) (
  .ret)),
  4, [Sum.inl 0]⟩

theorem c68 : cFunc Tryd.prog quiet Tryd.f68 [] = some s68 := by kernel_rfl

-- 69 calls [78]
abbrev k69_0 : List Nat := [0, 1]
abbrev a69_0 : List Nat := [0, 1]
abbrev e69_0 (v0 v1 : AV) : Env := [v0, v1, .dead, .dead, .dead, .dead, .dead, .dead, .dead, .dead, .dead, .dead, .dead, .dead, .dead, .dead, .dead, .dead, .dead, .dead, .dead, .dead, .dead, .dead, .dead, .dead, .dead, .dead, .dead, .dead, .dead, .dead, .dead, .dead]
abbrev x69_0 (v0 v1 : AV) : Env := [v0, v1, .dead, .dead, .dead, .dead, .dead, .dead, .dead, .dead, .dead, .dead, .dead, .dead, .dead, .dead, .dead, .dead, .dead, .dead, .dead, .dead, .dead, .dead, .dead, .dead, .dead, .dead, .dead, .dead, .dead, .dead, .dead, .dead]
def s69_b0 : SCode :=
  .seq (
    .seq (
      .region [
        ⟨some 21, none, [], .p (.mv (.t 1))⟩,
        ⟨some 22, none, [], .p (.lenV false (.t 21))⟩,
        ⟨some 23, none, [], .p (.bin .geq (.t 22) (.c (.int .i64 64)))⟩]) (
    .cond (.t 23) (
      .skip) (
      .exit 0))) (
  .block 1 (
    .seq (
      .region [
        ⟨some 24, none, [], .p (.mv (.t 0))⟩,
        ⟨some 25, none, [], .p (.mv (.t 1))⟩,
        ⟨some 26, none, [], .p (.slcStr (.t 25) none (some (.c (.int .i64 64))))⟩,
        ⟨some 27, none, [], .call 16012 4 false (.f 78) [.t 24, .t 26]⟩]) (
    .region [
      ⟨some 28, none, [], .p (.mv (.t 1))⟩,
      ⟨some 29, none, [], .p (.slcStr (.t 28) (some (.c (.int .i64 64))) none)⟩,
      ⟨some 1, none, [], .p (.mv (.t 29))⟩])))

def s69 : SFunc := ⟨
  .seq (
    .seq (
      .region [
        ⟨some 4, none, [], .p (.mv (.t 0))⟩,
        ⟨some 5, none, [], .p (.eqn .ptr false (.t 4) (.c (.ptr none)))⟩]) (
    .cond (.t 5) (
      .ret) (
      .skip))) (
  .seq (
    .region [
      ⟨some 6, none, [], .p (.mv (.t 0))⟩,
      ⟨some 7, none, [], .p (.nilChk (.t 6))⟩,
      ⟨some 8, none, [], .p (.faddr 9 (.t 7))⟩,
      ⟨some 9, none, [], .r (.load1 (.t 8))⟩,
      ⟨some 10, none, [], .p (.mv (.t 1))⟩,
      ⟨some 11, none, [], .p (.lenV false (.t 10))⟩,
      ⟨some 12, none, [], .p (.bin .add (.t 9) (.t 11))⟩,
      ⟨some 13, none, [], .p (.nilChk (.t 6))⟩,
      ⟨some 14, none, [], .p (.faddr 9 (.t 13))⟩,
      ⟨none, none, [], .w (.store1 (.t 14) (.t 12))⟩]) (
  .seq (
    .region [
      ⟨some 15, none, [], .p (.mv (.t 0))⟩,
      ⟨some 16, none, [], .p (.nilChk (.t 15))⟩,
      ⟨some 17, none, [], .p (.faddr 8 (.t 16))⟩,
      ⟨some 18, none, [], .r (.load1 (.t 17))⟩,
      ⟨some 19, none, [], .p (.mv (.t 1))⟩,
      ⟨some 20, none, [], .p (.bin .add (.t 18) (.t 19))⟩,
      ⟨some 1, none, [], .p (.mv (.t 20))⟩]) (
  .seq (
    .block 0 (
      .loop k69_0 a69_0 s69_b0)) (
  .region [
    ⟨some 30, none, [], .p (.mv (.t 0))⟩,
    ⟨some 31, none, [], .p (.mv (.t 1))⟩,
    ⟨some 32, none, [], .p (.nilChk (.t 30))⟩,
    ⟨some 33, none, [], .p (.faddr 8 (.t 32))⟩,
    ⟨none, none, [], .w (.store1 (.t 33) (.t 31))⟩])))),
  34, []⟩

theorem c69 : cFunc Tryd.prog quiet Tryd.f69 [[0, 1], [0, 1]] = some s69 := by kernel_rfl

-- 70 calls [52, 69, 79]
def s70 : SFunc := ⟨
  .seq (
    .region [
      ⟨some 2, none, [], .p (.mv (.c (.str [])))⟩]) (
  .seq (
    .seq (
      .region [
        ⟨some 6, none, [], .p (.mv (.t 0))⟩,
        ⟨some 7, none, [], .p (.eqn .ptr false (.t 6) (.c (.ptr none)))⟩]) (
    .cond (.t 7) (
      .seq (
        .region [
          ⟨some 2, none, [], .p (.mv (.c (.str [])))⟩]) (
      .ret)) (
      .skip))) (
  .seq (
    .region [
      ⟨some 8, none, [], .p (.mv (.t 0))⟩,
      ⟨some 9, none, [], .p (.nilChk (.t 8))⟩,
      ⟨some 10, none, [], .r (.loadN 10 (.t 9))⟩,
      ⟨some 3, none, [], .a 12012 (.alloc [u32 0#32, u32 0#32, u32 0#32, u32 0#32, u32 0#32, u32 0#32, u32 0#32, u32 0#32, .str [], .int .i64 0])⟩,
      ⟨none, none, [], .w (.storeN 10 (.t 3) (.t 10))⟩]) (
  .seq (
    .region [
      ⟨some 11, none, [], .p (.mv (.t 0))⟩,
      ⟨some 12, none, [], .p (.nilChk (.t 11))⟩,
      ⟨some 13, none, [], .p (.faddr 9 (.t 12))⟩,
      ⟨some 14, none, [], .r (.load1 (.t 13))⟩,
      ⟨some 15, none, [], .p (.conv .u64 (.t 14))⟩,
      ⟨some 16, none, [], .p (.bin .mul (.t 15) (.c (u64 8#64)))⟩,
      ⟨some 4, none, [], .p (.mv (.t 16))⟩]) (
  .seq (
    .region [
      ⟨some 17, none, [], .p (.mv (.t 0))⟩,
      ⟨some 18, none, [], .p (.nilChk (.t 17))⟩,
      ⟨some 19, none, [], .p (.faddr 8 (.t 18))⟩,
      ⟨some 20, none, [], .r (.load1 (.t 19))⟩,
      ⟨some 21, none, [], .p (.lenV false (.t 20))⟩,
      ⟨some 22, none, [], .p (.bin .sub (.c (.int .i64 119)) (.t 21))⟩,
      ⟨some 23, none, [], .p (.bin .rem (.t 22) (.c (.int .i64 64)))⟩,
      ⟨some 5, none, [], .p (.mv (.t 23))⟩]) (
  .seq (
    .region [
      ⟨some 24, none, [], .p (.mv (.t 5))⟩,
      ⟨some 25, none, [], .call 24004 4 true (.f 79) [.c (.str [0]), .t 24]⟩,
      ⟨some 26, none, [], .p (.bin .add (.c (.str [128])) (.t 25))⟩,
      ⟨some 27, none, [], .p (.mv (.t 4))⟩,
      ⟨some 28, none, [], .p (.bin .shr (.t 27) (.c (u64 32#64)))⟩,
      ⟨some 29, none, [], .p (.conv .u32 (.t 28))⟩,
      ⟨some 30, none, [], .p (.mv (.t 4))⟩,
      ⟨some 31, none, [], .p (.conv .u32 (.t 30))⟩,
      ⟨some 32, none, [], .a 24032 (.buildS 1 2 [u32 0#32] [(0, 1, .t 29), (1, 1, .t 31)])⟩,
      ⟨some 33, none, [], .call 24036 4 true (.f 52) [.t 32]⟩,
      ⟨some 34, none, [], .p (.bin .add (.t 26) (.t 33))⟩,
      ⟨some 35, none, [], .call 24044 4 false (.f 69) [.t 3, .t 34]⟩]) (
  .seq (
    .region [
      ⟨some 36, none, [], .p (.faddr 0 (.t 3))⟩,
      ⟨some 37, none, [], .p (.slcA 8 1 (.t 36) none none)⟩,
      ⟨some 38, none, [], .call 28008 4 true (.f 52) [.t 37]⟩,
      ⟨some 2, none, [], .p (.mv (.t 38))⟩]) (
  .ret))))))),
  39, [Sum.inl 2]⟩

theorem c70 : cFunc Tryd.prog quiet Tryd.f70 [] = some s70 := by kernel_rfl

-- 71 calls []
abbrev k71_1 : List Nat := [0, 1, 6, 7, 8, 9]
abbrev a71_1 : List Nat := [0, 1, 6, 7, 8]
abbrev e71_1 (v0 v1 v6 v7 v8 v9 : AV) : Env := [v0, v1, .dead, .dead, .dead, .dead, v6, v7, v8, v9, .dead, .dead, .dead, .dead, .dead, .dead, .dead, .dead, .dead, .dead, .dead, .dead, .dead, .dead, .dead, .dead, .dead, .dead, .dead, .dead, .dead, .dead, .dead, .dead, .dead, .dead, .dead, .dead, .dead, .dead, .dead, .dead, .dead, .dead, .dead]
abbrev x71_1 (v0 v1 v6 v7 v8 : AV) : Env := [v0, v1, .dead, .dead, .dead, .dead, v6, v7, v8, .dead, .dead, .dead, .dead, .dead, .dead, .dead, .dead, .dead, .dead, .dead, .dead, .dead, .dead, .dead, .dead, .dead, .dead, .dead, .dead, .dead, .dead, .dead, .dead, .dead, .dead, .dead, .dead, .dead, .dead, .dead, .dead, .dead, .dead, .dead, .dead]
def s71_b1 : SCode :=
  .seq (
    .seq (
      .region [
        ⟨some 21, none, [], .p (.mv (.t 9))⟩,
        ⟨some 22, none, [], .p (.bin .lss (.t 21) (.c (.int .i64 4)))⟩]) (
    .cond (.t 22) (
      .skip) (
      .exit 2))) (
  .seq (
    .block 3 (
      .seq (
        .region [
          ⟨some 25, none, [], .p (.mv (.t 7))⟩,
          ⟨some 26, none, [], .p (.bin .add (.t 25) (.c (.int .i64 3)))⟩,
          ⟨some 27, none, [], .p (.mv (.t 9))⟩,
          ⟨some 28, none, [], .p (.bin .sub (.t 26) (.t 27))⟩,
          ⟨some 10, none, [], .p (.mv (.t 28))⟩]) (
      .seq (
        .seq (
          .region [
            ⟨some 29, none, [], .p (.mv (.t 1))⟩]) (
        .cond (.t 29) (
          .region [
            ⟨some 30, none, [], .p (.mv (.t 7))⟩,
            ⟨some 31, none, [], .p (.mv (.t 9))⟩,
            ⟨some 32, none, [], .p (.bin .add (.t 30) (.t 31))⟩,
            ⟨some 10, none, [], .p (.mv (.t 32))⟩]) (
          .skip))) (
      .region [
        ⟨some 33, none, [], .p (.mv (.t 8))⟩,
        ⟨some 34, none, [], .p (.bin .mul (.c (u32 256#32)) (.t 33))⟩,
        ⟨some 35, none, [], .p (.mv (.t 0))⟩,
        ⟨some 36, none, [], .p (.mv (.t 10))⟩,
        ⟨some 37, none, [], .p (.idxStr (.t 35) (.t 36))⟩,
        ⟨some 38, none, [], .p (.conv .u32 (.t 37))⟩,
        ⟨some 39, none, [], .p (.bin .add (.t 34) (.t 38))⟩,
        ⟨some 8, none, [], .p (.mv (.t 39))⟩])))) (
  .region [
    ⟨some 23, none, [], .p (.mv (.t 9))⟩,
    ⟨some 24, none, [], .p (.bin .add (.t 23) (.c (.int .i64 1)))⟩,
    ⟨some 9, none, [], .p (.mv (.t 24))⟩]))

abbrev k71_0 : List Nat := [0, 1, 6, 7]
abbrev a71_0 : List Nat := [6]
abbrev e71_0 (v0 v1 v6 v7 : AV) : Env := [v0, v1, .dead, .dead, .dead, .dead, v6, v7, .dead, .dead, .dead, .dead, .dead, .dead, .dead, .dead, .dead, .dead, .dead, .dead, .dead, .dead, .dead, .dead, .dead, .dead, .dead, .dead, .dead, .dead, .dead, .dead, .dead, .dead, .dead, .dead, .dead, .dead, .dead, .dead, .dead, .dead, .dead, .dead, .dead]
abbrev x71_0 (v6 : AV) : Env := [.dead, .dead, .dead, .dead, .dead, .dead, v6, .dead, .dead, .dead, .dead, .dead, .dead, .dead, .dead, .dead, .dead, .dead, .dead, .dead, .dead, .dead, .dead, .dead, .dead, .dead, .dead, .dead, .dead, .dead, .dead, .dead, .dead, .dead, .dead, .dead, .dead, .dead, .dead, .dead, .dead, .dead, .dead, .dead, .dead]
def s71_b0 : SCode :=
  .seq (
    .seq (
      .region [
        ⟨some 15, none, [], .p (.mv (.t 7))⟩,
        ⟨some 16, none, [], .p (.mv (.t 0))⟩,
        ⟨some 17, none, [], .p (.lenV false (.t 16))⟩,
        ⟨some 18, none, [], .p (.bin .lss (.t 15) (.t 17))⟩]) (
    .cond (.t 18) (
      .skip) (
      .exit 0))) (
  .seq (
    .block 1 (
      .seq (
        .region [
          ⟨some 8, none, [], .p (.mv (.c (u32 0#32)))⟩]) (
      .seq (
        .seq (
          .region [
            ⟨some 9, none, [], .p (.mv (.c (.int .i64 0)))⟩]) (
        .block 2 (
          .loop k71_1 a71_1 s71_b1))) (
      .region [
        ⟨some 40, none, [], .p (.mv (.t 6))⟩,
        ⟨some 41, none, [], .p (.mv (.t 8))⟩,
        ⟨some 42, none, [], .a 60008 (.buildS 1 1 [u32 0#32] [(0, 1, .t 41)])⟩,
        ⟨some 43, none, [], .w (.append 60012 1 4 (.t 40) (.t 42))⟩,
        ⟨some 6, none, [], .p (.mv (.t 43))⟩])))) (
  .region [
    ⟨some 19, none, [], .p (.mv (.t 7))⟩,
    ⟨some 20, none, [], .p (.bin .add (.t 19) (.c (.int .i64 4)))⟩,
    ⟨some 7, none, [], .p (.mv (.t 20))⟩]))

def s71 : SFunc := ⟨
  .seq (
    .region [
      ⟨some 4, none, [], .p (.mv (.c (.slice none 0 0)))⟩,
      ⟨some 5, none, [], .p (.mv (.c (.int .i64 0)))⟩]) (
  .seq (
    .seq (
      .region [
        ⟨some 11, none, [], .p (.mv (.t 0))⟩,
        ⟨some 12, none, [], .p (.lenV false (.t 11))⟩,
        ⟨some 13, none, [], .p (.bin .rem (.t 12) (.c (.int .i64 4)))⟩,
        ⟨some 14, none, [], .p (.bin .neq (.t 13) (.c (.int .i64 0)))⟩]) (
    .cond (.t 14) (
      .seq (
        .region [
          ⟨some 4, none, [], .p (.mv (.c (.slice none 0 0)))⟩,
          ⟨some 5, none, [], .p (.mv (.c (.int .i64 7)))⟩]) (
      .ret)) (
      .skip))) (
  .seq (
    .region [
      ⟨some 6, none, [], .p (.mv (.c (.slice none 0 0)))⟩]) (
  .seq (
    .seq (
      .region [
        ⟨some 7, none, [], .p (.mv (.c (.int .i64 0)))⟩]) (
    .block 0 (
      .loop k71_0 a71_0 s71_b0))) (
  .seq (
    .region [
      ⟨some 44, none, [], .p (.mv (.t 6))⟩,
      ⟨some 4, none, [], .p (.mv (.t 44))⟩,
      ⟨some 5, none, [], .p (.mv (.c (.int .i64 0)))⟩]) (
  .ret))))),
  45, [Sum.inl 4, Sum.inl 5]⟩

theorem c71 : cFunc Tryd.prog quiet Tryd.f71 [[0, 1, 6, 7], [6], [0, 1, 6, 7, 8, 9], [0, 1, 6, 7, 8]] = some s71 := by kernel_rfl

-- 72 calls [80]
def s72 : SFunc := ⟨
  .seq (
    .region [
      ⟨some 8, none, [], .p (.mv (.c (u32 0#32)))⟩]) (
  .seq (
    .region [
      ⟨some 11, none, [], .p (.mv (.t 0))⟩,
      ⟨some 12, none, [], .p (.mv (.t 1))⟩,
      ⟨some 13, none, [], .call 4008 4 true (.f 80) [.t 11, .t 12]⟩,
      ⟨some 9, none, [], .p (.mv (.t 13))⟩]) (
  .seq (
    .region [
      ⟨some 14, none, [], .p (.mv (.t 0))⟩,
      ⟨some 15, none, [], .p (.mv (.t 2))⟩,
      ⟨some 16, none, [], .call 8008 4 true (.f 80) [.t 14, .t 15]⟩,
      ⟨some 10, none, [], .p (.mv (.t 16))⟩]) (
  .seq (
    .region [
      ⟨some 17, none, [], .p (.mv (.t 9))⟩,
      ⟨some 18, none, [], .p (.mv (.t 10))⟩,
      ⟨some 19, none, [], .p (.bin .xor (.t 17) (.t 18))⟩,
      ⟨some 20, none, [], .p (.mv (.t 0))⟩,
      ⟨some 21, none, [], .p (.mv (.t 3))⟩,
      ⟨some 22, none, [], .p (.bin .quo (.t 20) (.t 21))⟩,
      ⟨some 23, none, [], .p (.bin .xor (.t 19) (.t 22))⟩,
      ⟨some 8, none, [], .p (.mv (.t 23))⟩]) (
  .ret)))),
  24, [Sum.inl 8]⟩

theorem c72 : cFunc Tryd.prog quiet Tryd.f72 [] = some s72 := by kernel_rfl

-- 73 calls [80]
def s73 : SFunc := ⟨
  .seq (
    .region [
      ⟨some 8, none, [], .p (.mv (.c (u32 0#32)))⟩]) (
  .seq (
    .region [
      ⟨some 12, none, [], .p (.mv (.t 0))⟩,
      ⟨some 13, none, [], .p (.mv (.t 1))⟩,
      ⟨some 14, none, [], .call 4008 4 true (.f 80) [.t 12, .t 13]⟩,
      ⟨some 9, none, [], .p (.mv (.t 14))⟩]) (
  .seq (
    .region [
      ⟨some 15, none, [], .p (.mv (.t 0))⟩,
      ⟨some 16, none, [], .p (.mv (.t 2))⟩,
      ⟨some 17, none, [], .call 8008 4 true (.f 80) [.t 15, .t 16]⟩,
      ⟨some 10, none, [], .p (.mv (.t 17))⟩]) (
  .seq (
    .region [
      ⟨some 18, none, [], .p (.mv (.t 0))⟩,
      ⟨some 19, none, [], .p (.mv (.t 3))⟩,
      ⟨some 20, none, [], .call 12008 4 true (.f 80) [.t 18, .t 19]⟩,
      ⟨some 11, none, [], .p (.mv (.t 20))⟩]) (
  .seq (
    .region [
      ⟨some 21, none, [], .p (.mv (.t 9))⟩,
      ⟨some 22, none, [], .p (.mv (.t 10))⟩,
      ⟨some 23, none, [], .p (.bin .xor (.t 21) (.t 22))⟩,
      ⟨some 24, none, [], .p (.mv (.t 11))⟩,
      ⟨some 25, none, [], .p (.bin .xor (.t 23) (.t 24))⟩,
      ⟨some 8, none, [], .p (.mv (.t 25))⟩]) (
  .ret))))),
  26, [Sum.inl 8]⟩

theorem c73 : cFunc Tryd.prog quiet Tryd.f73 [] = some s73 := by kernel_rfl

-- 74 calls []
def s74 : SFunc := ⟨
  .seq (
    .region [
      ⟨some 6, none, [], .p (.mv (.c (u32 0#32)))⟩]) (
  .seq (
    .region [
      ⟨some 7, none, [], .p (.mv (.t 0))⟩,
      ⟨some 8, none, [], .p (.mv (.t 1))⟩,
      ⟨some 9, none, [], .p (.bin .and (.t 7) (.t 8))⟩,
      ⟨some 10, none, [], .p (.mv (.t 0))⟩,
      ⟨some 11, none, [], .p (.bin .sub (.c (u32 4294967295#32)) (.t 10))⟩,
      ⟨some 12, none, [], .p (.mv (.t 2))⟩,
      ⟨some 13, none, [], .p (.bin .and (.t 11) (.t 12))⟩,
      ⟨some 14, none, [], .p (.bin .xor (.t 9) (.t 13))⟩,
      ⟨some 6, none, [], .p (.mv (.t 14))⟩]) (
  .ret)),
  15, [Sum.inl 6]⟩

theorem c74 : cFunc Tryd.prog quiet Tryd.f74 [] = some s74 := by kernel_rfl

-- 75 calls []
def s75 : SFunc := ⟨
  .seq (
    .region [
      ⟨some 6, none, [], .p (.mv (.c (u32 0#32)))⟩]) (
  .seq (
    .region [
      ⟨some 7, none, [], .p (.mv (.t 0))⟩,
      ⟨some 8, none, [], .p (.mv (.t 1))⟩,
      ⟨some 9, none, [], .p (.bin .and (.t 7) (.t 8))⟩,
      ⟨some 10, none, [], .p (.mv (.t 0))⟩,
      ⟨some 11, none, [], .p (.mv (.t 2))⟩,
      ⟨some 12, none, [], .p (.bin .and (.t 10) (.t 11))⟩,
      ⟨some 13, none, [], .p (.bin .xor (.t 9) (.t 12))⟩,
      ⟨some 14, none, [], .p (.mv (.t 1))⟩,
      ⟨some 15, none, [], .p (.mv (.t 2))⟩,
      ⟨some 16, none, [], .p (.bin .and (.t 14) (.t 15))⟩,
      ⟨some 17, none, [], .p (.bin .xor (.t 13) (.t 16))⟩,
      ⟨some 6, none, [], .p (.mv (.t 17))⟩]) (
  .ret)),
  18, [Sum.inl 6]⟩

theorem c75 : cFunc Tryd.prog quiet Tryd.f75 [] = some s75 := by kernel_rfl

-- 77 calls []
abbrev k77_0 : List Nat := [0, 1, 7, 8]
abbrev a77_0 : List Nat := [4]
abbrev e77_0 (v0 v1 v7 v8 : AV) : Env := [v0, v1, .dead, .dead, .dead, .dead, .dead, v7, v8, .dead, .dead, .dead, .dead, .dead, .dead, .dead, .dead, .dead, .dead]
abbrev x77_0 (v4 : AV) : Env := [.dead, .dead, .dead, .dead, v4, .dead, .dead, .dead, .dead, .dead, .dead, .dead, .dead, .dead, .dead, .dead, .dead, .dead, .dead]
def s77_b0 : SCode :=
  .seq (
    .region [
      ⟨some 9, none, [], .p (.bin .lss (.t 8) (.t 7))⟩]) (
  .seq (
    .cond (.t 9) (
      .skip) (
      .exit 0)) (
  .seq (
    .block 1 (
      .seq (
        .region [
          ⟨some 10, none, [], .p (.mv (.t 8))⟩,
          ⟨some 5, none, [], .p (.mv (.t 10))⟩]) (
      .seq (
        .region [
          ⟨some 11, none, [], .p (.mv (.t 1))⟩,
          ⟨some 12, none, [], .p (.mv (.t 0))⟩,
          ⟨some 13, none, [], .p (.mv (.t 5))⟩,
          ⟨some 14, none, [], .p (.iaddrS 1 (.t 12) (.t 13))⟩,
          ⟨some 15, none, [], .r (.load1 (.t 14))⟩,
          ⟨some 16, none, [], .p (.bin .eql (.t 11) (.t 15))⟩]) (
      .cond (.t 16) (
        .seq (
          .region [
            ⟨some 17, none, [], .p (.mv (.t 5))⟩,
            ⟨some 4, none, [], .p (.mv (.t 17))⟩]) (
        .ret)) (
        .skip))))) (
  .region [
    ⟨some 18, none, [], .p (.bin .add (.t 8) (.c (.int .i64 1)))⟩,
    ⟨some 8, none, [], .p (.mv (.t 18))⟩])))

def s77 : SFunc := ⟨
  .seq (
    .region [
      ⟨some 4, none, [], .p (.mv (.c (.int .i64 0)))⟩]) (
  .seq (
    .seq (
      .region [
        ⟨some 6, none, [], .p (.mv (.t 0))⟩,
        ⟨some 7, none, [], .p (.lenV true (.t 6))⟩,
        ⟨some 8, none, [], .p (.mv (.c (.int .i64 0)))⟩]) (
    .block 0 (
      .loop k77_0 a77_0 s77_b0))) (
  .seq (
    .region [
      ⟨some 4, none, [], .p (.mv (.c (.int .i64 (-1))))⟩]) (
  .ret))),
  19, [Sum.inl 4]⟩

theorem c77 : cFunc Tryd.prog quiet Tryd.f77 [[0, 1, 7, 8], [4]] = some s77 := by kernel_rfl

-- 78 calls [81, 82]
abbrev k78_1 : List Nat := [0, 98, 99]
abbrev a78_1 : List Nat := []
abbrev e78_1 (v0 v98 v99 : AV) : Env := [v0, .dead, .dead, .dead, .dead, .dead, .dead, .dead, .dead, .dead, .dead, .dead, .dead, .dead, .dead, .dead, .dead, .dead, .dead, .dead, .dead, .dead, .dead, .dead, .dead, .dead, .dead, .dead, .dead, .dead, .dead, .dead, .dead, .dead, .dead, .dead, .dead, .dead, .dead, .dead, .dead, .dead, .dead, .dead, .dead, .dead, .dead, .dead, .dead, .dead, .dead, .dead, .dead, .dead, .dead, .dead, .dead, .dead, .dead, .dead, .dead, .dead, .dead, .dead, .dead, .dead, .dead, .dead, .dead, .dead, .dead, .dead, .dead, .dead, .dead, .dead, .dead, .dead, .dead, .dead, .dead, .dead, .dead, .dead, .dead, .dead, .dead, .dead, .dead, .dead, .dead, .dead, .dead, .dead, .dead, .dead, .dead, .dead, v98, v99, .dead, .dead, .dead, .dead, .dead, .dead, .dead, .dead, .dead, .dead, .dead, .dead, .dead, .dead, .dead]
abbrev x78_1 : Env := [.dead, .dead, .dead, .dead, .dead, .dead, .dead, .dead, .dead, .dead, .dead, .dead, .dead, .dead, .dead, .dead, .dead, .dead, .dead, .dead, .dead, .dead, .dead, .dead, .dead, .dead, .dead, .dead, .dead, .dead, .dead, .dead, .dead, .dead, .dead, .dead, .dead, .dead, .dead, .dead, .dead, .dead, .dead, .dead, .dead, .dead, .dead, .dead, .dead, .dead, .dead, .dead, .dead, .dead, .dead, .dead, .dead, .dead, .dead, .dead, .dead, .dead, .dead, .dead, .dead, .dead, .dead, .dead, .dead, .dead, .dead, .dead, .dead, .dead, .dead, .dead, .dead, .dead, .dead, .dead, .dead, .dead, .dead, .dead, .dead, .dead, .dead, .dead, .dead, .dead, .dead, .dead, .dead, .dead, .dead, .dead, .dead, .dead, .dead, .dead, .dead, .dead, .dead, .dead, .dead, .dead, .dead, .dead, .dead, .dead, .dead, .dead, .dead, .dead, .dead]
def s78_b1 : SCode :=
  .seq (
    .region [
      ⟨some 100, none, [], .p (.bin .lss (.t 99) (.c (.int .i64 8)))⟩]) (
  .seq (
    .cond (.t 100) (
      .skip) (
      .exit 2)) (
  .seq (
    .block 3 (
      .seq (
        .region [
          ⟨some 101, none, [], .p (.mv (.t 99))⟩,
          ⟨some 102, none, [], .p (.idxA 8 (.t 98) (.t 99))⟩,
          ⟨some 14, none, [], .p (.mv (.t 101))⟩,
          ⟨some 15, none, [], .p (.mv (.t 102))⟩]) (
      .region [
        ⟨some 103, none, [], .p (.mv (.t 0))⟩,
        ⟨some 104, none, [], .p (.mv (.t 14))⟩,
        ⟨some 105, none, [], .p (.nilChk (.t 103))⟩,
        ⟨some 106, none, [], .p (.faddr 0 (.t 105))⟩,
        ⟨some 107, none, [], .p (.iaddrA 8 1 (.t 106) (.t 104))⟩,
        ⟨some 108, none, [], .r (.load1 (.t 107))⟩,
        ⟨some 109, none, [], .p (.mv (.t 15))⟩,
        ⟨some 110, none, [], .p (.bin .add (.t 108) (.t 109))⟩,
        ⟨some 111, none, [], .p (.nilChk (.t 103))⟩,
        ⟨some 112, none, [], .p (.faddr 0 (.t 111))⟩,
        ⟨some 113, none, [], .p (.iaddrA 8 1 (.t 112) (.t 104))⟩,
        ⟨none, none, [], .w (.store1 (.t 113) (.t 110))⟩]))) (
  .region [
    ⟨some 114, none, [], .p (.bin .add (.t 99) (.c (.int .i64 1)))⟩,
    ⟨some 99, none, [], .p (.mv (.t 114))⟩])))

abbrev k78_0 : List Nat := [0, 4, 5, 22, 23]
abbrev a78_0 : List Nat := [0, 5]
abbrev e78_0 (v0 v4 v5 v22 v23 : AV) : Env := [v0, .dead, .dead, .dead, v4, v5, .dead, .dead, .dead, .dead, .dead, .dead, .dead, .dead, .dead, .dead, .dead, .dead, .dead, .dead, .dead, .dead, v22, v23, .dead, .dead, .dead, .dead, .dead, .dead, .dead, .dead, .dead, .dead, .dead, .dead, .dead, .dead, .dead, .dead, .dead, .dead, .dead, .dead, .dead, .dead, .dead, .dead, .dead, .dead, .dead, .dead, .dead, .dead, .dead, .dead, .dead, .dead, .dead, .dead, .dead, .dead, .dead, .dead, .dead, .dead, .dead, .dead, .dead, .dead, .dead, .dead, .dead, .dead, .dead, .dead, .dead, .dead, .dead, .dead, .dead, .dead, .dead, .dead, .dead, .dead, .dead, .dead, .dead, .dead, .dead, .dead, .dead, .dead, .dead, .dead, .dead, .dead, .dead, .dead, .dead, .dead, .dead, .dead, .dead, .dead, .dead, .dead, .dead, .dead, .dead, .dead, .dead, .dead, .dead]
abbrev x78_0 (v0 v5 : AV) : Env := [v0, .dead, .dead, .dead, .dead, v5, .dead, .dead, .dead, .dead, .dead, .dead, .dead, .dead, .dead, .dead, .dead, .dead, .dead, .dead, .dead, .dead, .dead, .dead, .dead, .dead, .dead, .dead, .dead, .dead, .dead, .dead, .dead, .dead, .dead, .dead, .dead, .dead, .dead, .dead, .dead, .dead, .dead, .dead, .dead, .dead, .dead, .dead, .dead, .dead, .dead, .dead, .dead, .dead, .dead, .dead, .dead, .dead, .dead, .dead, .dead, .dead, .dead, .dead, .dead, .dead, .dead, .dead, .dead, .dead, .dead, .dead, .dead, .dead, .dead, .dead, .dead, .dead, .dead, .dead, .dead, .dead, .dead, .dead, .dead, .dead, .dead, .dead, .dead, .dead, .dead, .dead, .dead, .dead, .dead, .dead, .dead, .dead, .dead, .dead, .dead, .dead, .dead, .dead, .dead, .dead, .dead, .dead, .dead, .dead, .dead, .dead, .dead, .dead, .dead]
def s78_b0 : SCode :=
  .seq (
    .region [
      ⟨some 24, none, [], .p (.bin .lss (.t 23) (.c (.int .i64 64)))⟩]) (
  .seq (
    .cond (.t 24) (
      .skip) (
      .exit 0)) (
  .seq (
    .block 1 (
      .seq (
        .region [
          ⟨some 25, none, [], .p (.mv (.t 23))⟩,
          ⟨some 26, none, [], .p (.idxA 64 (.t 22) (.t 23))⟩,
          ⟨some 6, none, [], .p (.mv (.t 25))⟩,
          ⟨some 7, none, [], .p (.mv (.t 26))⟩]) (
      .seq (
        .region [
          ⟨some 27, none, [], .p (.iaddrA 8 1 (.t 5) (.c (.int .i64 0)))⟩,
          ⟨some 28, none, [], .r (.load1 (.t 27))⟩,
          ⟨some 29, none, [], .p (.iaddrA 8 1 (.t 5) (.c (.int .i64 4)))⟩,
          ⟨some 30, none, [], .r (.load1 (.t 29))⟩,
          ⟨some 8, none, [], .p (.mv (.t 28))⟩,
          ⟨some 9, none, [], .p (.mv (.t 30))⟩]) (
      .seq (
        .region [
          ⟨some 31, none, [], .p (.mv (.t 9))⟩,
          ⟨some 32, none, [], .call 20004 4 true (.f 82) [.t 31, .c (.int .i64 6)]⟩,
          ⟨some 33, none, [], .p (.mv (.t 9))⟩,
          ⟨some 34, none, [], .call 20012 4 true (.f 82) [.t 33, .c (.int .i64 11)]⟩,
          ⟨some 35, none, [], .p (.bin .xor (.t 32) (.t 34))⟩,
          ⟨some 36, none, [], .p (.mv (.t 9))⟩,
          ⟨some 37, none, [], .call 20024 4 true (.f 82) [.t 36, .c (.int .i64 25)]⟩,
          ⟨some 38, none, [], .p (.bin .xor (.t 35) (.t 37))⟩,
          ⟨some 10, none, [], .p (.mv (.t 38))⟩]) (
      .seq (
        .region [
          ⟨some 39, none, [], .p (.mv (.t 8))⟩,
          ⟨some 40, none, [], .call 24004 4 true (.f 82) [.t 39, .c (.int .i64 2)]⟩,
          ⟨some 41, none, [], .p (.mv (.t 8))⟩,
          ⟨some 42, none, [], .call 24012 4 true (.f 82) [.t 41, .c (.int .i64 13)]⟩,
          ⟨some 43, none, [], .p (.bin .xor (.t 40) (.t 42))⟩,
          ⟨some 44, none, [], .p (.mv (.t 8))⟩,
          ⟨some 45, none, [], .call 24024 4 true (.f 82) [.t 44, .c (.int .i64 22)]⟩,
          ⟨some 46, none, [], .p (.bin .xor (.t 43) (.t 45))⟩,
          ⟨some 11, none, [], .p (.mv (.t 46))⟩]) (
      .seq (
        .region [
          ⟨some 47, none, [], .p (.iaddrA 8 1 (.t 5) (.c (.int .i64 7)))⟩,
          ⟨some 48, none, [], .r (.load1 (.t 47))⟩,
          ⟨some 49, none, [], .p (.mv (.t 10))⟩,
          ⟨some 50, none, [], .p (.bin .add (.t 48) (.t 49))⟩,
          ⟨some 51, none, [], .p (.mv (.t 9))⟩,
          ⟨some 52, none, [], .p (.iaddrA 8 1 (.t 5) (.c (.int .i64 5)))⟩,
          ⟨some 53, none, [], .r (.load1 (.t 52))⟩,
          ⟨some 54, none, [], .p (.bin .and (.t 51) (.t 53))⟩,
          ⟨some 55, none, [], .p (.mv (.t 9))⟩,
          ⟨some 56, none, [], .p (.un .xor (.t 55))⟩,
          ⟨some 57, none, [], .p (.iaddrA 8 1 (.t 5) (.c (.int .i64 6)))⟩,
          ⟨some 58, none, [], .r (.load1 (.t 57))⟩,
          ⟨some 59, none, [], .p (.bin .and (.t 56) (.t 58))⟩,
          ⟨some 60, none, [], .p (.bin .xor (.t 54) (.t 59))⟩,
          ⟨some 61, none, [], .p (.bin .add (.t 50) (.t 60))⟩,
          ⟨some 62, none, [], .p (.mv (.t 7))⟩,
          ⟨some 63, none, [], .p (.bin .add (.t 61) (.t 62))⟩,
          ⟨some 64, none, [], .p (.mv (.t 6))⟩,
          ⟨some 65, none, [], .p (.iaddrA 64 1 (.t 4) (.t 64))⟩,
          ⟨some 66, none, [], .r (.load1 (.t 65))⟩,
          ⟨some 67, none, [], .p (.bin .add (.t 63) (.t 66))⟩,
          ⟨some 12, none, [], .p (.mv (.t 67))⟩]) (
      .seq (
        .region [
          ⟨some 68, none, [], .p (.mv (.t 11))⟩,
          ⟨some 69, none, [], .p (.mv (.t 8))⟩,
          ⟨some 70, none, [], .p (.iaddrA 8 1 (.t 5) (.c (.int .i64 1)))⟩,
          ⟨some 71, none, [], .r (.load1 (.t 70))⟩,
          ⟨some 72, none, [], .p (.bin .and (.t 69) (.t 71))⟩,
          ⟨some 73, none, [], .p (.mv (.t 8))⟩,
          ⟨some 74, none, [], .p (.iaddrA 8 1 (.t 5) (.c (.int .i64 2)))⟩,
          ⟨some 75, none, [], .r (.load1 (.t 74))⟩,
          ⟨some 76, none, [], .p (.bin .and (.t 73) (.t 75))⟩,
          ⟨some 77, none, [], .p (.bin .xor (.t 72) (.t 76))⟩,
          ⟨some 78, none, [], .p (.iaddrA 8 1 (.t 5) (.c (.int .i64 1)))⟩,
          ⟨some 79, none, [], .r (.load1 (.t 78))⟩,
          ⟨some 80, none, [], .p (.iaddrA 8 1 (.t 5) (.c (.int .i64 2)))⟩,
          ⟨some 81, none, [], .r (.load1 (.t 80))⟩,
          ⟨some 82, none, [], .p (.bin .and (.t 79) (.t 81))⟩,
          ⟨some 83, none, [], .p (.bin .xor (.t 77) (.t 82))⟩,
          ⟨some 84, none, [], .p (.bin .add (.t 68) (.t 83))⟩,
          ⟨some 13, none, [], .p (.mv (.t 84))⟩]) (
      .seq (
        .region [
          ⟨some 85, none, [], .p (.slcA 8 1 (.t 5) (some (.c (.int .i64 1))) none)⟩,
          ⟨some 86, none, [], .p (.slcA 8 1 (.t 5) none (some (.c (.int .i64 7))))⟩,
          ⟨some 87, none, [], .w (.copy 1 (.t 85) (.t 86))⟩]) (
      .region [
        ⟨some 88, none, [], .p (.mv (.t 12))⟩,
        ⟨some 89, none, [], .p (.mv (.t 13))⟩,
        ⟨some 90, none, [], .p (.bin .add (.t 88) (.t 89))⟩,
        ⟨some 91, none, [], .p (.iaddrA 8 1 (.t 5) (.c (.int .i64 4)))⟩,
        ⟨some 92, none, [], .r (.load1 (.t 91))⟩,
        ⟨some 93, none, [], .p (.mv (.t 12))⟩,
        ⟨some 94, none, [], .p (.bin .add (.t 92) (.t 93))⟩,
        ⟨some 95, none, [], .p (.iaddrA 8 1 (.t 5) (.c (.int .i64 0)))⟩,
        ⟨none, none, [], .w (.store1 (.t 95) (.t 90))⟩,
        ⟨some 96, none, [], .p (.iaddrA 8 1 (.t 5) (.c (.int .i64 4)))⟩,
        ⟨none, none, [], .w (.store1 (.t 96) (.t 94))⟩]))))))))) (
  .region [
    ⟨some 97, none, [], .p (.bin .add (.t 23) (.c (.int .i64 1)))⟩,
    ⟨some 23, none, [], .p (.mv (.t 97))⟩])))

def s78 : SFunc := ⟨
  .seq (
    .regionF [
      ⟨some 16, none, [], .p (.mv (.t 1))⟩,
      ⟨some 17, none, [24, 28], .call 4 4 true (.f 81) [.t 16]⟩,
      ⟨some 18, none, [], .p (.mv (.t 0))⟩,
      ⟨some 19, none, [], .p (.nilChk (.t 18))⟩,
      ⟨some 20, none, [], .p (.faddr 0 (.t 19))⟩,
      ⟨some 21, none, [4, 5, 6, 7, 24, 28], .r (.loadN 8 (.t 20))⟩,
      ⟨some 4, none, [4, 5, 6, 7, 28], .a 24 (.alloc [u32 0#32, u32 0#32, u32 0#32, u32 0#32, u32 0#32, u32 0#32, u32 0#32, u32 0#32, u32 0#32, u32 0#32, u32 0#32, u32 0#32, u32 0#32, u32 0#32, u32 0#32, u32 0#32, u32 0#32, u32 0#32, u32 0#32, u32 0#32, u32 0#32, u32 0#32, u32 0#32, u32 0#32, u32 0#32, u32 0#32, u32 0#32, u32 0#32, u32 0#32, u32 0#32, u32 0#32, u32 0#32, u32 0#32, u32 0#32, u32 0#32, u32 0#32, u32 0#32, u32 0#32, u32 0#32, u32 0#32, u32 0#32, u32 0#32, u32 0#32, u32 0#32, u32 0#32, u32 0#32, u32 0#32, u32 0#32, u32 0#32, u32 0#32, u32 0#32, u32 0#32, u32 0#32, u32 0#32, u32 0#32, u32 0#32, u32 0#32, u32 0#32, u32 0#32, u32 0#32, u32 0#32, u32 0#32, u32 0#32, u32 0#32])⟩,
      ⟨some 5, none, [4, 5, 6, 7, 24], .a 28 (.alloc [u32 0#32, u32 0#32, u32 0#32, u32 0#32, u32 0#32, u32 0#32, u32 0#32, u32 0#32])⟩,
      ⟨none, none, [], .w (.storeN 64 (.t 4) (.t 17))⟩,
      ⟨none, none, [], .w (.storeN 8 (.t 5) (.t 21))⟩] [(20, 4)]) (
  .seq (
    .seq (
      .region [
        ⟨some 22, none, [], .r (.loadN 64 (.g 3 64))⟩,
        ⟨some 23, none, [], .p (.mv (.c (.int .i64 0)))⟩]) (
    .block 0 (
      .loop k78_0 a78_0 s78_b0))) (
  .seq (
    .region [
      ⟨some 98, none, [], .r (.loadN 8 (.t 5))⟩,
      ⟨some 99, none, [], .p (.mv (.c (.int .i64 0)))⟩]) (
  .block 2 (
    .loop k78_1 a78_1 s78_b1)))),
  115, []⟩

theorem c78 : cFunc Tryd.prog quiet Tryd.f78 [[0, 4, 5, 22, 23], [0, 5], [0, 98, 99], []] = some s78 := by kernel_rfl

-- 80 calls []
abbrev k80_0 : List Nat := [0, 5, 6]
abbrev a80_0 : List Nat := [0]
abbrev e80_0 (v0 v5 v6 : AV) : Env := [v0, .dead, .dead, .dead, .dead, v5, v6, .dead, .dead, .dead, .dead, .dead, .dead, .dead, .dead, .dead, .dead, .dead, .dead, .dead, .dead, .dead, .dead, .dead, .dead, .dead, .dead]
abbrev x80_0 (v0 : AV) : Env := [v0, .dead, .dead, .dead, .dead, .dead, .dead, .dead, .dead, .dead, .dead, .dead, .dead, .dead, .dead, .dead, .dead, .dead, .dead, .dead, .dead, .dead, .dead, .dead, .dead, .dead, .dead]
def s80_b0 : SCode :=
  .seq (
    .seq (
      .region [
        ⟨some 14, none, [], .p (.mv (.t 6))⟩,
        ⟨some 15, none, [], .p (.mv (.t 5))⟩,
        ⟨some 16, none, [], .p (.bin .lss (.t 14) (.t 15))⟩]) (
    .cond (.t 16) (
      .skip) (
      .exit 0))) (
  .seq (
    .block 1 (
      .seq (
        .region [
          ⟨some 19, none, [], .p (.mv (.t 0))⟩,
          ⟨some 20, none, [], .p (.bin .rem (.t 19) (.c (u32 2#32)))⟩,
          ⟨some 7, none, [], .p (.mv (.t 20))⟩]) (
      .region [
        ⟨some 21, none, [], .p (.mv (.t 0))⟩,
        ⟨some 22, none, [], .p (.bin .quo (.t 21) (.c (u32 2#32)))⟩,
        ⟨some 23, none, [], .p (.mv (.t 7))⟩,
        ⟨some 24, none, [], .p (.bin .mul (.t 23) (.c (u32 2147483648#32)))⟩,
        ⟨some 25, none, [], .p (.bin .add (.t 22) (.t 24))⟩,
        ⟨some 0, none, [], .p (.mv (.t 25))⟩]))) (
  .region [
    ⟨some 17, none, [], .p (.mv (.t 6))⟩,
    ⟨some 18, none, [], .p (.bin .add (.t 17) (.c (.int .i64 1)))⟩,
    ⟨some 6, none, [], .p (.mv (.t 18))⟩]))

def s80 : SFunc := ⟨
  .seq (
    .region [
      ⟨some 4, none, [], .p (.mv (.c (u32 0#32)))⟩]) (
  .seq (
    .region [
      ⟨some 8, none, [], .p (.mv (.t 1))⟩,
      ⟨some 9, none, [], .p (.bin .rem (.t 8) (.c (.int .i64 32)))⟩,
      ⟨some 5, none, [], .p (.mv (.t 9))⟩]) (
  .seq (
    .seq (
      .region [
        ⟨some 10, none, [], .p (.mv (.t 5))⟩,
        ⟨some 11, none, [], .p (.bin .lss (.t 10) (.c (.int .i64 0)))⟩]) (
    .cond (.t 11) (
      .region [
        ⟨some 12, none, [], .p (.mv (.t 5))⟩,
        ⟨some 13, none, [], .p (.bin .add (.t 12) (.c (.int .i64 32)))⟩,
        ⟨some 5, none, [], .p (.mv (.t 13))⟩]) (
      .skip))) (
  .seq (
    .seq (
      .region [
        ⟨some 6, none, [], .p (.mv (.c (.int .i64 0)))⟩]) (
    .block 0 (
      .loop k80_0 a80_0 s80_b0))) (
  .seq (
    .region [
      ⟨some 26, none, [], .p (.mv (.t 0))⟩,
      ⟨some 4, none, [], .p (.mv (.t 26))⟩]) (
  .ret))))),
  27, [Sum.inl 4]⟩

theorem c80 : cFunc Tryd.prog quiet Tryd.f80 [[0, 5, 6], [0]] = some s80 := by kernel_rfl

-- 81 calls [53, 82]
abbrev k81_0 : List Nat := [2, 3, 6]
abbrev a81_0 : List Nat := [2, 3]
abbrev e81_0 (v2 v3 v6 : AV) : Env := [.dead, .dead, v2, v3, .dead, .dead, v6, .dead, .dead, .dead, .dead, .dead, .dead, .dead, .dead, .dead, .dead, .dead, .dead, .dead, .dead, .dead, .dead, .dead, .dead, .dead, .dead, .dead, .dead, .dead, .dead, .dead, .dead, .dead, .dead, .dead, .dead, .dead, .dead, .dead, .dead, .dead, .dead, .dead, .dead, .dead, .dead, .dead, .dead, .dead, .dead, .dead, .dead, .dead, .dead, .dead, .dead, .dead, .dead, .dead, .dead, .dead, .dead]
abbrev x81_0 (v2 v3 : AV) : Env := [.dead, .dead, v2, v3, .dead, .dead, .dead, .dead, .dead, .dead, .dead, .dead, .dead, .dead, .dead, .dead, .dead, .dead, .dead, .dead, .dead, .dead, .dead, .dead, .dead, .dead, .dead, .dead, .dead, .dead, .dead, .dead, .dead, .dead, .dead, .dead, .dead, .dead, .dead, .dead, .dead, .dead, .dead, .dead, .dead, .dead, .dead, .dead, .dead, .dead, .dead, .dead, .dead, .dead, .dead, .dead, .dead, .dead, .dead, .dead, .dead, .dead, .dead]
def s81_b0 : SCode :=
  .seq (
    .seq (
      .region [
        ⟨some 19, none, [], .p (.mv (.t 6))⟩,
        ⟨some 20, none, [], .p (.bin .lss (.t 19) (.c (.int .i64 64)))⟩]) (
    .cond (.t 20) (
      .skip) (
      .exit 0))) (
  .seq (
    .block 1 (
      .seq (
        .region [
          ⟨some 23, none, [], .p (.mv (.t 6))⟩,
          ⟨some 24, none, [], .p (.bin .sub (.t 23) (.c (.int .i64 15)))⟩,
          ⟨some 25, none, [], .p (.iaddrA 64 1 (.t 3) (.t 24))⟩,
          ⟨some 26, none, [], .r (.load1 (.t 25))⟩,
          ⟨some 27, none, [], .p (.mv (.t 6))⟩,
          ⟨some 28, none, [], .p (.bin .sub (.t 27) (.c (.int .i64 2)))⟩,
          ⟨some 29, none, [], .p (.iaddrA 64 1 (.t 3) (.t 28))⟩,
          ⟨some 30, none, [], .r (.load1 (.t 29))⟩,
          ⟨some 7, none, [], .p (.mv (.t 26))⟩,
          ⟨some 8, none, [], .p (.mv (.t 30))⟩]) (
      .seq (
        .region [
          ⟨some 31, none, [], .p (.mv (.t 7))⟩,
          ⟨some 32, none, [], .call 32004 4 true (.f 82) [.t 31, .c (.int .i64 7)]⟩,
          ⟨some 33, none, [], .p (.mv (.t 7))⟩,
          ⟨some 34, none, [], .call 32012 4 true (.f 82) [.t 33, .c (.int .i64 18)]⟩,
          ⟨some 35, none, [], .p (.bin .xor (.t 32) (.t 34))⟩,
          ⟨some 36, none, [], .p (.mv (.t 7))⟩,
          ⟨some 37, none, [], .p (.bin .shr (.t 36) (.c (u64 3#64)))⟩,
          ⟨some 38, none, [], .p (.bin .xor (.t 35) (.t 37))⟩,
          ⟨some 9, none, [], .p (.mv (.t 38))⟩]) (
      .seq (
        .region [
          ⟨some 39, none, [], .p (.mv (.t 8))⟩,
          ⟨some 40, none, [], .call 36004 4 true (.f 82) [.t 39, .c (.int .i64 17)]⟩,
          ⟨some 41, none, [], .p (.mv (.t 8))⟩,
          ⟨some 42, none, [], .call 36012 4 true (.f 82) [.t 41, .c (.int .i64 19)]⟩,
          ⟨some 43, none, [], .p (.bin .xor (.t 40) (.t 42))⟩,
          ⟨some 44, none, [], .p (.mv (.t 8))⟩,
          ⟨some 45, none, [], .p (.bin .shr (.t 44) (.c (u64 10#64)))⟩,
          ⟨some 46, none, [], .p (.bin .xor (.t 43) (.t 45))⟩,
          ⟨some 10, none, [], .p (.mv (.t 46))⟩]) (
      .region [
        ⟨some 47, none, [], .p (.mv (.t 6))⟩,
        ⟨some 48, none, [], .p (.mv (.t 6))⟩,
        ⟨some 49, none, [], .p (.bin .sub (.t 48) (.c (.int .i64 16)))⟩,
        ⟨some 50, none, [], .p (.iaddrA 64 1 (.t 3) (.t 49))⟩,
        ⟨some 51, none, [], .r (.load1 (.t 50))⟩,
        ⟨some 52, none, [], .p (.mv (.t 9))⟩,
        ⟨some 53, none, [], .p (.bin .add (.t 51) (.t 52))⟩,
        ⟨some 54, none, [], .p (.mv (.t 6))⟩,
        ⟨some 55, none, [], .p (.bin .sub (.t 54) (.c (.int .i64 7)))⟩,
        ⟨some 56, none, [], .p (.iaddrA 64 1 (.t 3) (.t 55))⟩,
        ⟨some 57, none, [], .r (.load1 (.t 56))⟩,
        ⟨some 58, none, [], .p (.bin .add (.t 53) (.t 57))⟩,
        ⟨some 59, none, [], .p (.mv (.t 10))⟩,
        ⟨some 60, none, [], .p (.bin .add (.t 58) (.t 59))⟩,
        ⟨some 61, none, [], .p (.iaddrA 64 1 (.t 3) (.t 47))⟩,
        ⟨none, none, [], .w (.store1 (.t 61) (.t 60))⟩]))))) (
  .region [
    ⟨some 21, none, [], .p (.mv (.t 6))⟩,
    ⟨some 22, none, [], .p (.bin .add (.t 21) (.c (.int .i64 1)))⟩,
    ⟨some 6, none, [], .p (.mv (.t 22))⟩]))

def s81 : SFunc := ⟨
  .seq (
    .region [
      ⟨some 2, none, [], .a 0 (.alloc [u32 0#32, u32 0#32, u32 0#32, u32 0#32, u32 0#32, u32 0#32, u32 0#32, u32 0#32, u32 0#32, u32 0#32, u32 0#32, u32 0#32, u32 0#32, u32 0#32, u32 0#32, u32 0#32, u32 0#32, u32 0#32, u32 0#32, u32 0#32, u32 0#32, u32 0#32, u32 0#32, u32 0#32, u32 0#32, u32 0#32, u32 0#32, u32 0#32, u32 0#32, u32 0#32, u32 0#32, u32 0#32, u32 0#32, u32 0#32, u32 0#32, u32 0#32, u32 0#32, u32 0#32, u32 0#32, u32 0#32, u32 0#32, u32 0#32, u32 0#32, u32 0#32, u32 0#32, u32 0#32, u32 0#32, u32 0#32, u32 0#32, u32 0#32, u32 0#32, u32 0#32, u32 0#32, u32 0#32, u32 0#32, u32 0#32, u32 0#32, u32 0#32, u32 0#32, u32 0#32, u32 0#32, u32 0#32, u32 0#32, u32 0#32])⟩]) (
  .seq (
    .region [
      ⟨some 3, none, [], .a 4000 (.alloc [u32 0#32, u32 0#32, u32 0#32, u32 0#32, u32 0#32, u32 0#32, u32 0#32, u32 0#32, u32 0#32, u32 0#32, u32 0#32, u32 0#32, u32 0#32, u32 0#32, u32 0#32, u32 0#32, u32 0#32, u32 0#32, u32 0#32, u32 0#32, u32 0#32, u32 0#32, u32 0#32, u32 0#32, u32 0#32, u32 0#32, u32 0#32, u32 0#32, u32 0#32, u32 0#32, u32 0#32, u32 0#32, u32 0#32, u32 0#32, u32 0#32, u32 0#32, u32 0#32, u32 0#32, u32 0#32, u32 0#32, u32 0#32, u32 0#32, u32 0#32, u32 0#32, u32 0#32, u32 0#32, u32 0#32, u32 0#32, u32 0#32, u32 0#32, u32 0#32, u32 0#32, u32 0#32, u32 0#32, u32 0#32, u32 0#32, u32 0#32, u32 0#32, u32 0#32, u32 0#32, u32 0#32, u32 0#32, u32 0#32, u32 0#32])⟩]) (
  .seq (
    .region [
      ⟨some 12, none, [], .p (.mv (.t 0))⟩,
      ⟨some 13, none, [], .call 8004 4 true (.f 53) [.t 12]⟩,
      ⟨some 11, none, [], .p (.mv (.t 13))⟩,
      ⟨some 14, none, [], .p (.extract (.t 11) 0)⟩,
      ⟨some 15, none, [], .p (.extract (.t 11) 1)⟩,
      ⟨some 4, none, [], .p (.mv (.t 14))⟩,
      ⟨some 5, none, [], .p (.mv (.t 15))⟩]) (
  .seq (
    .region [
      ⟨some 16, none, [], .p (.slcA 64 1 (.t 3) none none)⟩,
      ⟨some 17, none, [], .p (.mv (.t 4))⟩,
      ⟨some 18, none, [], .w (.copy 1 (.t 16) (.t 17))⟩]) (
  .seq (
    .seq (
      .region [
        ⟨some 6, none, [], .p (.mv (.c (.int .i64 16)))⟩]) (
    .block 0 (
      .loop k81_0 a81_0 s81_b0))) (
  .seq (
    .region [
      ⟨some 62, none, [], .r (.loadN 64 (.t 3))⟩,
      ⟨none, none, [], .w (.storeN 64 (.t 2) (.t 62))⟩]) (
  .ret)))))),
  63, [Sum.inr (2, 64, true)]⟩

theorem c81 : cFunc Tryd.prog quiet Tryd.f81 [[2, 3, 6], [2, 3]] = some s81 := by kernel_rfl

-- 82 calls [87]
def s82 : SFunc := ⟨
  .seq (
    .region [
      ⟨some 4, none, [], .p (.mv (.c (u32 0#32)))⟩]) (
  .seq (
    .region [
      ⟨some 5, none, [], .p (.mv (.t 0))⟩,
      ⟨some 6, none, [], .p (.mv (.t 1))⟩,
      ⟨some 7, none, [], .p (.conv .u64 (.t 6))⟩,
      ⟨some 8, none, [], .p (.bin .rem (.t 7) (.c (u64 32#64)))⟩,
      ⟨some 9, none, [], .p (.conv .i64 (.t 8))⟩,
      ⟨some 10, none, [], .p (.bin .sub (.c (.int .i64 32)) (.t 9))⟩,
      ⟨some 11, none, [], .call 4024 4 true (.f 87) [.t 5, .t 10]⟩,
      ⟨some 4, none, [], .p (.mv (.t 11))⟩]) (
  .ret)),
  12, [Sum.inl 4]⟩

theorem c82 : cFunc Tryd.prog quiet Tryd.f82 [] = some s82 := by kernel_rfl

-- 87 calls []
def s87 : SFunc := ⟨
  .seq (
    .region [
      ⟨some 4, none, [], .p (.mv (.c (u32 0#32)))⟩]) (
  .seq (
    .region [
      ⟨some 6, none, [], .p (.mv (.t 1))⟩,
      ⟨some 7, none, [], .p (.conv .u64 (.t 6))⟩,
      ⟨some 8, none, [], .p (.bin .rem (.t 7) (.c (u64 32#64)))⟩,
      ⟨some 5, none, [], .p (.mv (.t 8))⟩]) (
  .seq (
    .region [
      ⟨some 9, none, [], .p (.mv (.t 0))⟩,
      ⟨some 10, none, [], .p (.mv (.t 5))⟩,
      ⟨some 11, none, [], .p (.bin .shl (.t 9) (.t 10))⟩,
      ⟨some 12, none, [], .p (.mv (.t 0))⟩,
      ⟨some 13, none, [], .p (.mv (.t 5))⟩,
      ⟨some 14, none, [], .p (.bin .sub (.c (u64 32#64)) (.t 13))⟩,
      ⟨some 15, none, [], .p (.bin .shr (.t 12) (.t 14))⟩,
      ⟨some 16, none, [], .p (.bin .or (.t 11) (.t 15))⟩,
      ⟨some 4, none, [], .p (.mv (.t 16))⟩]) (
  .ret))),
  17, [Sum.inl 4]⟩

theorem c87 : cFunc Tryd.prog quiet Tryd.f87 [] = some s87 := by kernel_rfl

def SP : SProg := tabO [(7, s7), (20, s20), (21, s21), (22, s22), (23, s23), (24, s24), (25, s25), (26, s26), (27, s27), (28, s28), (30, s30), (31, s31), (32, s32), (33, s33), (35, s35), (36, s36), (38, s38), (39, s39), (40, s40), (41, s41), (42, s42), (43, s43), (44, s44), (45, s45), (46, s46), (47, s47), (48, s48), (51, s51), (52, s52), (53, s53), (54, s54), (55, s55), (56, s56), (57, s57), (58, s58), (59, s59), (60, s60), (61, s61), (62, s62), (64, s64), (65, s65), (66, s66), (67, s67), (68, s68), (69, s69), (70, s70), (71, s71), (72, s72), (73, s73), (74, s74), (75, s75), (77, s77), (78, s78), (80, s80), (81, s81), (82, s82), (87, s87)] (repO 79)

theorem comp : Comp Tryd.prog SP := comp_ofO (by kernel_rfl) ⟨⟨_, _, _, Tryd.func7, c7⟩, ⟨_, _, _, Tryd.func20, c20⟩, ⟨_, _, _, Tryd.func21, c21⟩, ⟨_, _, _, Tryd.func22, c22⟩, ⟨_, _, _, Tryd.func23, c23⟩, ⟨_, _, _, Tryd.func24, c24⟩, ⟨_, _, _, Tryd.func25, c25⟩, ⟨_, _, _, Tryd.func26, c26⟩, ⟨_, _, _, Tryd.func27, c27⟩, ⟨_, _, _, Tryd.func28, c28⟩, ⟨_, _, _, Tryd.func30, c30⟩, ⟨_, _, _, Tryd.func31, c31⟩, ⟨_, _, _, Tryd.func32, c32⟩, ⟨_, _, _, Tryd.func33, c33⟩, ⟨_, _, _, Tryd.func35, c35⟩, ⟨_, _, _, Tryd.func36, c36⟩, ⟨_, _, _, Tryd.func38, c38⟩, ⟨_, _, _, Tryd.func39, c39⟩, ⟨_, _, _, Tryd.func40, c40⟩, ⟨_, _, _, Tryd.func41, c41⟩, ⟨_, _, _, Tryd.func42, c42⟩, ⟨_, _, _, Tryd.func43, c43⟩, ⟨_, _, _, Tryd.func44, c44⟩, ⟨_, _, _, Tryd.func45, c45⟩, ⟨_, _, _, Tryd.func46, c46⟩, ⟨_, _, _, Tryd.func47, c47⟩, ⟨_, _, _, Tryd.func48, c48⟩, ⟨_, _, _, Tryd.func51, c51⟩, ⟨_, _, _, Tryd.func52, c52⟩, ⟨_, _, _, Tryd.func53, c53⟩, ⟨_, _, _, Tryd.func54, c54⟩, ⟨_, _, _, Tryd.func55, c55⟩, ⟨_, _, _, Tryd.func56, c56⟩, ⟨_, _, _, Tryd.func57, c57⟩, ⟨_, _, _, Tryd.func58, c58⟩, ⟨_, _, _, Tryd.func59, c59⟩, ⟨_, _, _, Tryd.func60, c60⟩, ⟨_, _, _, Tryd.func61, c61⟩, ⟨_, _, _, Tryd.func62, c62⟩, ⟨_, _, _, Tryd.func64, c64⟩, ⟨_, _, _, Tryd.func65, c65⟩, ⟨_, _, _, Tryd.func66, c66⟩, ⟨_, _, _, Tryd.func67, c67⟩, ⟨_, _, _, Tryd.func68, c68⟩, ⟨_, _, _, Tryd.func69, c69⟩, ⟨_, _, _, Tryd.func70, c70⟩, ⟨_, _, _, Tryd.func71, c71⟩, ⟨_, _, _, Tryd.func72, c72⟩, ⟨_, _, _, Tryd.func73, c73⟩, ⟨_, _, _, Tryd.func74, c74⟩, ⟨_, _, _, Tryd.func75, c75⟩, ⟨_, _, _, Tryd.func77, c77⟩, ⟨_, _, _, Tryd.func78, c78⟩, ⟨_, _, _, Tryd.func80, c80⟩, ⟨_, _, _, Tryd.func81, c81⟩, ⟨_, _, _, Tryd.func82, c82⟩, ⟨_, _, _, Tryd.func87, c87⟩, trivial⟩ (repO_ok Tryd.bldOk Tryd.rep)


end Go.Proofs.YtaennaoaoahjmaaDoor
