/-
  LIB, poly: the document's numbers.
-/
import Derived.Test.YtpaagjjgmlmngaaLibPF
set_option maxRecDepth 100000
set_option maxHeartbeats 4000000
set_option linter.unusedSimpArgs false
set_option linter.unusedVariables false
namespace Go.Det.PR
open Go.Det Go.Det.P

-- 55 calls []
abbrev k55_0 : List Nat := [1, 3]
abbrev a55_0 : List Nat := [1, 2]
abbrev e55_0 (v1 v3 : AV) : Env := [.dead, v1, .dead, v3, .dead, .dead, .dead, .dead, .dead, .dead, .dead, .dead, .dead, .dead, .dead, .dead, .dead, .dead, .dead, .dead, .dead]
abbrev x55_0 (v1 v2 : AV) : Env := [.dead, v1, v2, .dead, .dead, .dead, .dead, .dead, .dead, .dead, .dead, .dead, .dead, .dead, .dead, .dead, .dead, .dead, .dead, .dead, .dead]
def s55_b0 : SCode :=
  .seq (
    .seq (
      .region [
        ⟨some 10, none, [], .p (.mv (.t 3))⟩,
        ⟨some 11, none, [], .p (.bin .geq (.t 10) (.c (.int .i64 1)))⟩]) (
    .cond (.t 11) (
      .skip) (
      .exit 0))) (
  .seq (
    .block 1 (
      .seq (
        .region [
          ⟨some 14, none, [], .p (.mv (.t 3))⟩,
          ⟨some 15, none, [], .p (.iaddrA 17 1 (.t 1) (.t 14))⟩,
          ⟨some 16, none, [], .r (.load1 (.t 15))⟩,
          ⟨some 17, none, [], .p (.bin .neq (.t 16) (.c (.int .i64 255)))⟩]) (
      .cond (.t 17) (
        .seq (
          .region [
            ⟨some 2, none, [], .p (.mv (.c (.bool true)))⟩]) (
        .ret)) (
        .skip)))) (
  .region [
    ⟨some 12, none, [], .p (.mv (.t 3))⟩,
    ⟨some 13, none, [], .p (.bin .sub (.t 12) (.c (.int .i64 1)))⟩,
    ⟨some 3, none, [], .p (.mv (.t 13))⟩]))

def s55 : SFunc := ⟨
  .seq (
    .region [
      ⟨some 1, none, [], .a 0 (.box (.t 0))⟩,
      ⟨some 2, none, [], .p (.mv (.c (.bool false)))⟩]) (
  .seq (
    .seq (
      .region [
        ⟨some 4, none, [], .p (.iaddrA 17 1 (.t 1) (.c (.int .i64 16)))⟩,
        ⟨some 5, none, [], .r (.load1 (.t 4))⟩,
        ⟨some 6, none, [], .p (.bin .neq (.t 5) (.c (.int .i64 3)))⟩]) (
    .cond (.t 6) (
      .seq (
        .region [
          ⟨some 7, none, [], .p (.iaddrA 17 1 (.t 1) (.c (.int .i64 16)))⟩,
          ⟨some 8, none, [], .r (.load1 (.t 7))⟩,
          ⟨some 9, none, [], .p (.bin .lss (.t 8) (.c (.int .i64 3)))⟩,
          ⟨some 2, none, [], .p (.mv (.t 9))⟩]) (
      .ret)) (
      .skip))) (
  .seq (
    .seq (
      .region [
        ⟨some 3, none, [], .p (.mv (.c (.int .i64 15)))⟩]) (
    .block 0 (
      .loop k55_0 a55_0 s55_b0))) (
  .seq (
    .region [
      ⟨some 18, none, [], .p (.iaddrA 17 1 (.t 1) (.c (.int .i64 0)))⟩,
      ⟨some 19, none, [], .r (.load1 (.t 18))⟩,
      ⟨some 20, none, [], .p (.bin .lss (.t 19) (.c (.int .i64 251)))⟩,
      ⟨some 2, none, [], .p (.mv (.t 20))⟩]) (
  .ret)))),
  21, [Sum.inl 2]⟩

-- 43 calls [55]
abbrev k43_1 : List Nat := [1, 2, 3, 5, 6]
abbrev a43_1 : List Nat := [1, 2, 3]
abbrev e43_1 (v1 v2 v3 v5 v6 : AV) : Env := [.dead, v1, v2, v3, .dead, v5, v6, .dead, .dead, .dead, .dead, .dead, .dead, .dead, .dead, .dead, .dead, .dead, .dead, .dead, .dead, .dead, .dead, .dead, .dead, .dead, .dead, .dead, .dead, .dead, .dead, .dead, .dead, .dead, .dead, .dead, .dead, .dead, .dead, .dead]
abbrev x43_1 (v1 v2 v3 : AV) : Env := [.dead, v1, v2, v3, .dead, .dead, .dead, .dead, .dead, .dead, .dead, .dead, .dead, .dead, .dead, .dead, .dead, .dead, .dead, .dead, .dead, .dead, .dead, .dead, .dead, .dead, .dead, .dead, .dead, .dead, .dead, .dead, .dead, .dead, .dead, .dead, .dead, .dead, .dead, .dead]
def s43_b1 : SCode :=
  .seq (
    .seq (
      .region [
        ⟨some 17, none, [], .p (.mv (.t 6))⟩,
        ⟨some 18, none, [], .p (.bin .lss (.t 17) (.c (.int .i64 17)))⟩]) (
    .cond (.t 18) (
      .skip) (
      .exit 2))) (
  .seq (
    .block 3 (
      .seq (
        .region [
          ⟨some 7, none, [], .p (.mv (.c (.int .i64 255)))⟩]) (
      .seq (
        .seq (
          .region [
            ⟨some 21, none, [], .p (.mv (.t 6))⟩,
            ⟨some 22, none, [], .p (.bin .eql (.t 21) (.c (.int .i64 0)))⟩]) (
        .cond (.t 22) (
          .region [
            ⟨some 7, none, [], .p (.mv (.c (.int .i64 251)))⟩]) (
          .skip))) (
      .seq (
        .seq (
          .region [
            ⟨some 23, none, [], .p (.mv (.t 6))⟩,
            ⟨some 24, none, [], .p (.bin .eql (.t 23) (.c (.int .i64 16)))⟩]) (
        .cond (.t 24) (
          .region [
            ⟨some 7, none, [], .p (.mv (.c (.int .i64 3)))⟩]) (
          .skip))) (
      .seq (
        .region [
          ⟨some 25, none, [], .p (.mv (.t 6))⟩,
          ⟨some 26, none, [], .p (.iaddrA 17 1 (.t 1) (.t 25))⟩,
          ⟨some 27, none, [], .r (.load1 (.t 26))⟩,
          ⟨some 28, none, [], .p (.mv (.t 7))⟩,
          ⟨some 29, none, [], .p (.bin .sub (.t 27) (.t 28))⟩,
          ⟨some 30, none, [], .p (.mv (.t 5))⟩,
          ⟨some 31, none, [], .p (.bin .sub (.t 29) (.t 30))⟩,
          ⟨some 8, none, [], .p (.mv (.t 31))⟩]) (
      .seq (
        .region [
          ⟨some 5, none, [], .p (.mv (.c (.int .i64 0)))⟩]) (
      .seq (
        .seq (
          .region [
            ⟨some 32, none, [], .p (.mv (.t 8))⟩,
            ⟨some 33, none, [], .p (.bin .lss (.t 32) (.c (.int .i64 0)))⟩]) (
        .cond (.t 33) (
          .seq (
            .region [
              ⟨some 34, none, [], .p (.mv (.t 8))⟩,
              ⟨some 35, none, [], .p (.bin .add (.t 34) (.c (.int .i64 256)))⟩,
              ⟨some 8, none, [], .p (.mv (.t 35))⟩]) (
          .region [
            ⟨some 5, none, [], .p (.mv (.c (.int .i64 1)))⟩])) (
          .skip))) (
      .region [
        ⟨some 36, none, [], .p (.mv (.t 6))⟩,
        ⟨some 37, none, [], .p (.mv (.t 8))⟩,
        ⟨some 38, none, [], .p (.iaddrA 17 1 (.t 1) (.t 36))⟩,
        ⟨none, none, [], .w (.store1 (.t 38) (.t 37))⟩])))))))) (
  .region [
    ⟨some 19, none, [], .p (.mv (.t 6))⟩,
    ⟨some 20, none, [], .p (.bin .add (.t 19) (.c (.int .i64 1)))⟩,
    ⟨some 6, none, [], .p (.mv (.t 20))⟩]))

abbrev k43_0 : List Nat := [1, 2, 3]
abbrev a43_0 : List Nat := [1, 2]
abbrev e43_0 (v1 v2 v3 : AV) : Env := [.dead, v1, v2, v3, .dead, .dead, .dead, .dead, .dead, .dead, .dead, .dead, .dead, .dead, .dead, .dead, .dead, .dead, .dead, .dead, .dead, .dead, .dead, .dead, .dead, .dead, .dead, .dead, .dead, .dead, .dead, .dead, .dead, .dead, .dead, .dead, .dead, .dead, .dead, .dead]
abbrev x43_0 (v1 v2 : AV) : Env := [.dead, v1, v2, .dead, .dead, .dead, .dead, .dead, .dead, .dead, .dead, .dead, .dead, .dead, .dead, .dead, .dead, .dead, .dead, .dead, .dead, .dead, .dead, .dead, .dead, .dead, .dead, .dead, .dead, .dead, .dead, .dead, .dead, .dead, .dead, .dead, .dead, .dead, .dead, .dead]
def s43_b0 (n55 : Nat) : SCode :=
  .seq (
    .seq (
      .region [
        ⟨some 9, none, [], .p (.mv (.t 3))⟩,
        ⟨some 10, none, [], .p (.bin .lss (.t 9) (.c (.int .i64 64)))⟩]) (
    .cond (.t 10) (
      .skip) (
      .exit 0))) (
  .seq (
    .block 1 (
      .seq (
        .region [
          ⟨some 13, none, [], .r (.loadN 17 (.t 1))⟩,
          ⟨some 14, none, [], .call 16004 4 true (.f n55) [.t 13]⟩,
          ⟨some 4, none, [], .p (.mv (.t 14))⟩]) (
      .seq (
        .seq (
          .region [
            ⟨some 15, none, [], .p (.mv (.t 4))⟩]) (
        .cond (.t 15) (
          .seq (
            .region [
              ⟨some 16, none, [], .r (.loadN 17 (.t 1))⟩,
              ⟨none, none, [], .w (.storeN 17 (.t 2) (.t 16))⟩]) (
          .ret)) (
          .skip))) (
      .seq (
        .region [
          ⟨some 5, none, [], .p (.mv (.c (.int .i64 0)))⟩]) (
      .seq (
        .region [
          ⟨some 6, none, [], .p (.mv (.c (.int .i64 0)))⟩]) (
      .block 2 (
        .loop k43_1 a43_1 s43_b1))))))) (
  .region [
    ⟨some 11, none, [], .p (.mv (.t 3))⟩,
    ⟨some 12, none, [], .p (.bin .add (.t 11) (.c (.int .i64 1)))⟩,
    ⟨some 3, none, [], .p (.mv (.t 12))⟩]))

def s43 (n55 : Nat) : SFunc := ⟨
  .seq (
    .region [
      ⟨some 1, none, [], .a 0 (.box (.t 0))⟩,
      ⟨some 2, none, [], .a 4 (.alloc [.int .i64 0, .int .i64 0, .int .i64 0, .int .i64 0, .int .i64 0, .int .i64 0, .int .i64 0, .int .i64 0, .int .i64 0, .int .i64 0, .int .i64 0, .int .i64 0, .int .i64 0, .int .i64 0, .int .i64 0, .int .i64 0, .int .i64 0])⟩]) (
  .seq (
    .seq (
      .region [
        ⟨some 3, none, [], .p (.mv (.c (.int .i64 0)))⟩]) (
    .block 0 (
      .loop k43_0 a43_0 (s43_b0 n55)))) (
  .seq (
    .region [
      ⟨some 39, none, [], .r (.loadN 17 (.t 1))⟩,
      ⟨none, none, [], .w (.storeN 17 (.t 2) (.t 39))⟩]) (
  .ret))),
  40, [Sum.inr (2, 17, true)]⟩

-- 33 calls [43]
abbrev k33_0 : List Nat := [2, 3, 4, 5, 6]
abbrev a33_0 : List Nat := [2, 4]
abbrev e33_0 (v2 v3 v4 v5 v6 : AV) : Env := [.dead, .dead, v2, v3, v4, v5, v6, .dead, .dead, .dead, .dead, .dead, .dead, .dead, .dead, .dead, .dead, .dead, .dead, .dead, .dead, .dead, .dead, .dead, .dead, .dead, .dead, .dead]
abbrev x33_0 (v2 v4 : AV) : Env := [.dead, .dead, v2, .dead, v4, .dead, .dead, .dead, .dead, .dead, .dead, .dead, .dead, .dead, .dead, .dead, .dead, .dead, .dead, .dead, .dead, .dead, .dead, .dead, .dead, .dead, .dead, .dead]
def s33_b0 : SCode :=
  .seq (
    .seq (
      .region [
        ⟨some 7, none, [], .p (.mv (.t 6))⟩,
        ⟨some 8, none, [], .p (.bin .lss (.t 7) (.c (.int .i64 17)))⟩]) (
    .cond (.t 8) (
      .skip) (
      .exit 0))) (
  .seq (
    .block 1 (
      .seq (
        .region [
          ⟨some 11, none, [], .p (.mv (.t 5))⟩,
          ⟨some 12, none, [], .p (.mv (.t 6))⟩,
          ⟨some 13, none, [], .p (.iaddrA 17 1 (.t 2) (.t 12))⟩,
          ⟨some 14, none, [], .r (.load1 (.t 13))⟩,
          ⟨some 15, none, [], .p (.bin .add (.t 11) (.t 14))⟩,
          ⟨some 16, none, [], .p (.mv (.t 6))⟩,
          ⟨some 17, none, [], .p (.iaddrA 17 1 (.t 3) (.t 16))⟩,
          ⟨some 18, none, [], .r (.load1 (.t 17))⟩,
          ⟨some 19, none, [], .p (.bin .add (.t 15) (.t 18))⟩,
          ⟨some 5, none, [], .p (.mv (.t 19))⟩]) (
      .seq (
        .region [
          ⟨some 20, none, [], .p (.mv (.t 6))⟩,
          ⟨some 21, none, [], .p (.mv (.t 5))⟩,
          ⟨some 22, none, [], .p (.bin .rem (.t 21) (.c (.int .i64 256)))⟩,
          ⟨some 23, none, [], .p (.iaddrA 17 1 (.t 2) (.t 20))⟩,
          ⟨none, none, [], .w (.store1 (.t 23) (.t 22))⟩]) (
      .region [
        ⟨some 24, none, [], .p (.mv (.t 5))⟩,
        ⟨some 25, none, [], .p (.bin .quo (.t 24) (.c (.int .i64 256)))⟩,
        ⟨some 5, none, [], .p (.mv (.t 25))⟩])))) (
  .region [
    ⟨some 9, none, [], .p (.mv (.t 6))⟩,
    ⟨some 10, none, [], .p (.bin .add (.t 9) (.c (.int .i64 1)))⟩,
    ⟨some 6, none, [], .p (.mv (.t 10))⟩]))

def s33 (n43 : Nat) : SFunc := ⟨
  .seq (
    .region [
      ⟨some 2, none, [], .a 0 (.box (.t 0))⟩,
      ⟨some 3, none, [], .a 4 (.box (.t 1))⟩,
      ⟨some 4, none, [], .a 8 (.alloc [.int .i64 0, .int .i64 0, .int .i64 0, .int .i64 0, .int .i64 0, .int .i64 0, .int .i64 0, .int .i64 0, .int .i64 0, .int .i64 0, .int .i64 0, .int .i64 0, .int .i64 0, .int .i64 0, .int .i64 0, .int .i64 0, .int .i64 0])⟩]) (
  .seq (
    .region [
      ⟨some 5, none, [], .p (.mv (.c (.int .i64 0)))⟩]) (
  .seq (
    .seq (
      .region [
        ⟨some 6, none, [], .p (.mv (.c (.int .i64 0)))⟩]) (
    .block 0 (
      .loop k33_0 a33_0 s33_b0))) (
  .seq (
    .region [
      ⟨some 26, none, [], .r (.loadN 17 (.t 2))⟩,
      ⟨some 27, none, [], .call 32004 4 true (.f n43) [.t 26]⟩,
      ⟨none, none, [], .w (.storeN 17 (.t 4) (.t 27))⟩]) (
  .ret)))),
  28, [Sum.inr (4, 17, true)]⟩

-- 34 calls [33]
abbrev k34_1 : List Nat := [2, 3, 4, 5, 6, 7, 8]
abbrev a34_1 : List Nat := [2, 3, 4, 5, 6]
abbrev e34_1 (v2 v3 v4 v5 v6 v7 v8 : AV) : Env := [.dead, .dead, v2, v3, v4, v5, v6, v7, v8, .dead, .dead, .dead, .dead, .dead, .dead, .dead, .dead, .dead, .dead, .dead, .dead, .dead, .dead, .dead, .dead, .dead, .dead, .dead, .dead, .dead, .dead, .dead, .dead]
abbrev x34_1 (v2 v3 v4 v5 v6 : AV) : Env := [.dead, .dead, v2, v3, v4, v5, v6, .dead, .dead, .dead, .dead, .dead, .dead, .dead, .dead, .dead, .dead, .dead, .dead, .dead, .dead, .dead, .dead, .dead, .dead, .dead, .dead, .dead, .dead, .dead, .dead, .dead, .dead]
def s34_b1 (n33 : Nat) : SCode :=
  .seq (
    .seq (
      .region [
        ⟨some 13, none, [], .p (.mv (.t 8))⟩,
        ⟨some 14, none, [], .p (.bin .lss (.t 13) (.c (.int .i64 8)))⟩]) (
    .cond (.t 14) (
      .skip) (
      .exit 2))) (
  .seq (
    .block 3 (
      .seq (
        .region [
          ⟨some 17, none, [], .r (.loadN 17 (.t 5))⟩,
          ⟨some 18, none, [], .r (.loadN 17 (.t 5))⟩,
          ⟨some 19, none, [], .call 36008 4 true (.f n33) [.t 17, .t 18]⟩,
          ⟨none, none, [], .w (.storeN 17 (.t 5) (.t 19))⟩]) (
      .seq (
        .seq (
          .region [
            ⟨some 20, none, [], .p (.mv (.t 6))⟩,
            ⟨some 21, none, [], .p (.iaddrA 17 1 (.t 3) (.t 20))⟩,
            ⟨some 22, none, [], .r (.load1 (.t 21))⟩,
            ⟨some 23, none, [], .p (.mv (.t 7))⟩,
            ⟨some 24, none, [], .p (.bin .quo (.t 22) (.t 23))⟩,
            ⟨some 25, none, [], .p (.bin .rem (.t 24) (.c (.int .i64 2)))⟩,
            ⟨some 26, none, [], .p (.bin .eql (.t 25) (.c (.int .i64 1)))⟩]) (
        .cond (.t 26) (
          .region [
            ⟨some 27, none, [], .r (.loadN 17 (.t 5))⟩,
            ⟨some 28, none, [], .r (.loadN 17 (.t 2))⟩,
            ⟨some 29, none, [], .call 44008 4 true (.f n33) [.t 27, .t 28]⟩,
            ⟨none, none, [], .w (.storeN 17 (.t 5) (.t 29))⟩]) (
          .skip))) (
      .region [
        ⟨some 30, none, [], .p (.mv (.t 7))⟩,
        ⟨some 31, none, [], .p (.bin .quo (.t 30) (.c (.int .i64 2)))⟩,
        ⟨some 7, none, [], .p (.mv (.t 31))⟩])))) (
  .region [
    ⟨some 15, none, [], .p (.mv (.t 8))⟩,
    ⟨some 16, none, [], .p (.bin .add (.t 15) (.c (.int .i64 1)))⟩,
    ⟨some 8, none, [], .p (.mv (.t 16))⟩]))

abbrev k34_0 : List Nat := [2, 3, 4, 5, 6]
abbrev a34_0 : List Nat := [4, 5]
abbrev e34_0 (v2 v3 v4 v5 v6 : AV) : Env := [.dead, .dead, v2, v3, v4, v5, v6, .dead, .dead, .dead, .dead, .dead, .dead, .dead, .dead, .dead, .dead, .dead, .dead, .dead, .dead, .dead, .dead, .dead, .dead, .dead, .dead, .dead, .dead, .dead, .dead, .dead, .dead]
abbrev x34_0 (v4 v5 : AV) : Env := [.dead, .dead, .dead, .dead, v4, v5, .dead, .dead, .dead, .dead, .dead, .dead, .dead, .dead, .dead, .dead, .dead, .dead, .dead, .dead, .dead, .dead, .dead, .dead, .dead, .dead, .dead, .dead, .dead, .dead, .dead, .dead, .dead]
def s34_b0 (n33 : Nat) : SCode :=
  .seq (
    .seq (
      .region [
        ⟨some 9, none, [], .p (.mv (.t 6))⟩,
        ⟨some 10, none, [], .p (.bin .geq (.t 9) (.c (.int .i64 0)))⟩]) (
    .cond (.t 10) (
      .skip) (
      .exit 0))) (
  .seq (
    .block 1 (
      .seq (
        .region [
          ⟨some 7, none, [], .p (.mv (.c (.int .i64 128)))⟩]) (
      .seq (
        .region [
          ⟨some 8, none, [], .p (.mv (.c (.int .i64 0)))⟩]) (
      .block 2 (
        .loop k34_1 a34_1 (s34_b1 n33)))))) (
  .region [
    ⟨some 11, none, [], .p (.mv (.t 6))⟩,
    ⟨some 12, none, [], .p (.bin .sub (.t 11) (.c (.int .i64 1)))⟩,
    ⟨some 6, none, [], .p (.mv (.t 12))⟩]))

def s34 (n33 : Nat) : SFunc := ⟨
  .seq (
    .region [
      ⟨some 2, none, [], .a 0 (.box (.t 0))⟩,
      ⟨some 3, none, [], .a 4 (.box (.t 1))⟩,
      ⟨some 4, none, [], .a 8 (.alloc [.int .i64 0, .int .i64 0, .int .i64 0, .int .i64 0, .int .i64 0, .int .i64 0, .int .i64 0, .int .i64 0, .int .i64 0, .int .i64 0, .int .i64 0, .int .i64 0, .int .i64 0, .int .i64 0, .int .i64 0, .int .i64 0, .int .i64 0])⟩]) (
  .seq (
    .region [
      ⟨some 5, none, [], .a 4000 (.alloc [.int .i64 0, .int .i64 0, .int .i64 0, .int .i64 0, .int .i64 0, .int .i64 0, .int .i64 0, .int .i64 0, .int .i64 0, .int .i64 0, .int .i64 0, .int .i64 0, .int .i64 0, .int .i64 0, .int .i64 0, .int .i64 0, .int .i64 0])⟩]) (
  .seq (
    .seq (
      .region [
        ⟨some 6, none, [], .p (.mv (.c (.int .i64 16)))⟩]) (
    .block 0 (
      .loop k34_0 a34_0 (s34_b0 n33)))) (
  .seq (
    .region [
      ⟨some 32, none, [], .r (.loadN 17 (.t 5))⟩,
      ⟨none, none, [], .w (.storeN 17 (.t 4) (.t 32))⟩]) (
  .ret)))),
  33, [Sum.inr (4, 17, true)]⟩

-- 17 calls []
abbrev k17_1 : List Nat := [4, 6]
abbrev a17_1 : List Nat := [4]
abbrev e17_1 (v4 v6 : AV) : Env := [.dead, .dead, .dead, .dead, v4, .dead, v6, .dead, .dead, .dead, .dead, .dead, .dead, .dead, .dead, .dead, .dead, .dead, .dead, .dead, .dead, .dead, .dead, .dead, .dead, .dead, .dead, .dead, .dead, .dead, .dead, .dead, .dead, .dead, .dead, .dead, .dead, .dead, .dead, .dead, .dead, .dead, .dead]
abbrev x17_1 (v4 : AV) : Env := [.dead, .dead, .dead, .dead, v4, .dead, .dead, .dead, .dead, .dead, .dead, .dead, .dead, .dead, .dead, .dead, .dead, .dead, .dead, .dead, .dead, .dead, .dead, .dead, .dead, .dead, .dead, .dead, .dead, .dead, .dead, .dead, .dead, .dead, .dead, .dead, .dead, .dead, .dead, .dead, .dead, .dead, .dead]
def s17_b1 : SCode :=
  .seq (
    .seq (
      .region [
        ⟨some 24, none, [], .p (.mv (.t 6))⟩,
        ⟨some 25, none, [], .p (.bin .lss (.t 24) (.c (.int .i64 16)))⟩]) (
    .cond (.t 25) (
      .skip) (
      .exit 2))) (
  .seq (
    .block 3 (
      .region [
        ⟨some 28, none, [], .p (.mv (.t 4))⟩,
        ⟨some 29, none, [], .p (.mv (.t 6))⟩,
        ⟨some 30, none, [], .p (.mv (.t 4))⟩,
        ⟨some 31, none, [], .p (.mv (.t 6))⟩,
        ⟨some 32, none, [], .p (.iaddrS 1 (.t 30) (.t 31))⟩,
        ⟨some 33, none, [], .r (.load1 (.t 32))⟩,
        ⟨some 34, none, [], .p (.mv (.t 4))⟩,
        ⟨some 35, none, [], .p (.mv (.t 6))⟩,
        ⟨some 36, none, [], .p (.iaddrS 1 (.t 34) (.t 35))⟩,
        ⟨some 37, none, [], .r (.load1 (.t 36))⟩,
        ⟨some 38, none, [], .p (.bin .rem (.t 37) (.c (byteAV 4)))⟩,
        ⟨some 39, none, [], .p (.bin .sub (.t 33) (.t 38))⟩,
        ⟨some 40, none, [], .p (.iaddrS 1 (.t 28) (.t 29))⟩,
        ⟨none, none, [], .w (.store1 (.t 40) (.t 39))⟩])) (
  .region [
    ⟨some 26, none, [], .p (.mv (.t 6))⟩,
    ⟨some 27, none, [], .p (.bin .add (.t 26) (.c (.int .i64 4)))⟩,
    ⟨some 6, none, [], .p (.mv (.t 27))⟩]))

abbrev k17_0 : List Nat := [4, 5]
abbrev a17_0 : List Nat := [4]
abbrev e17_0 (v4 v5 : AV) : Env := [.dead, .dead, .dead, .dead, v4, v5, .dead, .dead, .dead, .dead, .dead, .dead, .dead, .dead, .dead, .dead, .dead, .dead, .dead, .dead, .dead, .dead, .dead, .dead, .dead, .dead, .dead, .dead, .dead, .dead, .dead, .dead, .dead, .dead, .dead, .dead, .dead, .dead, .dead, .dead, .dead, .dead, .dead]
abbrev x17_0 (v4 : AV) : Env := [.dead, .dead, .dead, .dead, v4, .dead, .dead, .dead, .dead, .dead, .dead, .dead, .dead, .dead, .dead, .dead, .dead, .dead, .dead, .dead, .dead, .dead, .dead, .dead, .dead, .dead, .dead, .dead, .dead, .dead, .dead, .dead, .dead, .dead, .dead, .dead, .dead, .dead, .dead, .dead, .dead, .dead, .dead]
def s17_b0 : SCode :=
  .seq (
    .seq (
      .region [
        ⟨some 12, none, [], .p (.mv (.t 5))⟩,
        ⟨some 13, none, [], .p (.bin .lss (.t 12) (.c (.int .i64 16)))⟩]) (
    .cond (.t 13) (
      .skip) (
      .exit 0))) (
  .seq (
    .block 1 (
      .region [
        ⟨some 16, none, [], .p (.mv (.t 4))⟩,
        ⟨some 17, none, [], .p (.mv (.t 5))⟩,
        ⟨some 18, none, [], .p (.mv (.t 4))⟩,
        ⟨some 19, none, [], .p (.mv (.t 5))⟩,
        ⟨some 20, none, [], .p (.iaddrS 1 (.t 18) (.t 19))⟩,
        ⟨some 21, none, [], .r (.load1 (.t 20))⟩,
        ⟨some 22, none, [], .p (.bin .rem (.t 21) (.c (byteAV 16)))⟩,
        ⟨some 23, none, [], .p (.iaddrS 1 (.t 16) (.t 17))⟩,
        ⟨none, none, [], .w (.store1 (.t 23) (.t 22))⟩])) (
  .region [
    ⟨some 14, none, [], .p (.mv (.t 5))⟩,
    ⟨some 15, none, [], .p (.bin .add (.t 14) (.c (.int .i64 4)))⟩,
    ⟨some 5, none, [], .p (.mv (.t 15))⟩]))

def s17 : SFunc := ⟨
  .seq (
    .region [
      ⟨some 2, none, [], .p (.mv (.c (.str [])))⟩,
      ⟨some 3, none, [], .p (.mv (.c (.int .i64 0)))⟩]) (
  .seq (
    .seq (
      .region [
        ⟨some 7, none, [], .p (.mv (.t 0))⟩,
        ⟨some 8, none, [], .p (.lenV false (.t 7))⟩,
        ⟨some 9, none, [], .p (.bin .neq (.t 8) (.c (.int .i64 16)))⟩]) (
    .cond (.t 9) (
      .seq (
        .region [
          ⟨some 2, none, [], .p (.mv (.c (.str [])))⟩,
          ⟨some 3, none, [], .p (.mv (.c (.int .i64 7)))⟩]) (
      .ret)) (
      .skip))) (
  .seq (
    .region [
      ⟨some 10, none, [], .p (.mv (.t 0))⟩,
      ⟨some 11, none, [], .a 12004 (.toBytes (.t 10))⟩,
      ⟨some 4, none, [], .p (.mv (.t 11))⟩]) (
  .seq (
    .seq (
      .region [
        ⟨some 5, none, [], .p (.mv (.c (.int .i64 3)))⟩]) (
    .block 0 (
      .loop k17_0 a17_0 s17_b0))) (
  .seq (
    .seq (
      .region [
        ⟨some 6, none, [], .p (.mv (.c (.int .i64 4)))⟩]) (
    .block 2 (
      .loop k17_1 a17_1 s17_b1))) (
  .seq (
    .region [
      ⟨some 41, none, [], .p (.mv (.t 4))⟩,
      ⟨some 42, none, [], .r (.toStr (.t 41))⟩,
      ⟨some 2, none, [], .p (.mv (.t 42))⟩,
      ⟨some 3, none, [], .p (.mv (.c (.int .i64 0)))⟩]) (
  .ret)))))),
  43, [Sum.inl 2, Sum.inl 3]⟩

-- 20 calls [17, 33, 34]
abbrev k20_3 : List Nat := [0, 9, 14, 15, 16]
abbrev a20_3 : List Nat := [14]
abbrev e20_3 (v0 v9 v14 v15 v16 : AV) : Env := [v0, .dead, .dead, .dead, .dead, .dead, .dead, .dead, .dead, v9, .dead, .dead, .dead, .dead, v14, v15, v16, .dead, .dead, .dead, .dead, .dead, .dead, .dead, .dead, .dead, .dead, .dead, .dead, .dead, .dead, .dead, .dead, .dead, .dead, .dead, .dead, .dead, .dead, .dead, .dead, .dead, .dead, .dead, .dead, .dead, .dead, .dead, .dead, .dead, .dead, .dead, .dead, .dead, .dead, .dead, .dead, .dead, .dead, .dead, .dead, .dead, .dead, .dead, .dead, .dead, .dead, .dead, .dead, .dead, .dead, .dead, .dead, .dead, .dead, .dead, .dead, .dead, .dead, .dead, .dead, .dead, .dead, .dead, .dead, .dead, .dead, .dead, .dead, .dead, .dead, .dead, .dead, .dead, .dead, .dead, .dead, .dead]
abbrev x20_3 (v14 : AV) : Env := [.dead, .dead, .dead, .dead, .dead, .dead, .dead, .dead, .dead, .dead, .dead, .dead, .dead, .dead, v14, .dead, .dead, .dead, .dead, .dead, .dead, .dead, .dead, .dead, .dead, .dead, .dead, .dead, .dead, .dead, .dead, .dead, .dead, .dead, .dead, .dead, .dead, .dead, .dead, .dead, .dead, .dead, .dead, .dead, .dead, .dead, .dead, .dead, .dead, .dead, .dead, .dead, .dead, .dead, .dead, .dead, .dead, .dead, .dead, .dead, .dead, .dead, .dead, .dead, .dead, .dead, .dead, .dead, .dead, .dead, .dead, .dead, .dead, .dead, .dead, .dead, .dead, .dead, .dead, .dead, .dead, .dead, .dead, .dead, .dead, .dead, .dead, .dead, .dead, .dead, .dead, .dead, .dead, .dead, .dead, .dead, .dead, .dead]
def s20_b3 : SCode :=
  .seq (
    .seq (
      .region [
        ⟨some 73, none, [], .p (.mv (.t 16))⟩,
        ⟨some 74, none, [], .p (.bin .lss (.t 73) (.c (.int .i64 16)))⟩]) (
    .cond (.t 74) (
      .skip) (
      .exit 6))) (
  .seq (
    .block 7 (
      .seq (
        .region [
          ⟨some 77, none, [], .p (.mv (.t 15))⟩,
          ⟨some 78, none, [], .p (.mv (.t 16))⟩,
          ⟨some 79, none, [], .p (.iaddrA 17 1 (.t 9) (.t 78))⟩,
          ⟨some 80, none, [], .r (.load1 (.t 79))⟩,
          ⟨some 81, none, [], .p (.bin .add (.t 77) (.t 80))⟩,
          ⟨some 82, none, [], .p (.mv (.t 0))⟩,
          ⟨some 83, none, [], .p (.mv (.t 16))⟩,
          ⟨some 84, none, [], .p (.bin .add (.c (.int .i64 16)) (.t 83))⟩,
          ⟨some 85, none, [], .p (.idxStr (.t 82) (.t 84))⟩,
          ⟨some 86, none, [], .p (.conv .i64 (.t 85))⟩,
          ⟨some 87, none, [], .p (.bin .add (.t 81) (.t 86))⟩,
          ⟨some 15, none, [], .p (.mv (.t 87))⟩]) (
      .seq (
        .region [
          ⟨some 88, none, [], .p (.mv (.t 14))⟩,
          ⟨some 89, none, [], .p (.mv (.t 15))⟩,
          ⟨some 90, none, [], .p (.bin .rem (.t 89) (.c (.int .i64 256)))⟩,
          ⟨some 91, none, [], .p (.conv .u8 (.t 90))⟩,
          ⟨some 92, none, [], .a 112016 (.buildS 1 1 [byteAV 0] [(0, 1, .t 91)])⟩,
          ⟨some 93, none, [], .w (.append 112020 1 1 (.t 88) (.t 92))⟩,
          ⟨some 14, none, [], .p (.mv (.t 93))⟩]) (
      .region [
        ⟨some 94, none, [], .p (.mv (.t 15))⟩,
        ⟨some 95, none, [], .p (.bin .quo (.t 94) (.c (.int .i64 256)))⟩,
        ⟨some 15, none, [], .p (.mv (.t 95))⟩])))) (
  .region [
    ⟨some 75, none, [], .p (.mv (.t 16))⟩,
    ⟨some 76, none, [], .p (.bin .add (.t 75) (.c (.int .i64 1)))⟩,
    ⟨some 16, none, [], .p (.mv (.t 76))⟩]))

abbrev k20_2 : List Nat := [0, 1, 8, 9, 11, 12, 13]
abbrev a20_2 : List Nat := [0, 1, 8, 9, 11, 12, 13]
abbrev e20_2 (v0 v1 v8 v9 v11 v12 v13 : AV) : Env := [v0, v1, .dead, .dead, .dead, .dead, .dead, .dead, v8, v9, .dead, v11, v12, v13, .dead, .dead, .dead, .dead, .dead, .dead, .dead, .dead, .dead, .dead, .dead, .dead, .dead, .dead, .dead, .dead, .dead, .dead, .dead, .dead, .dead, .dead, .dead, .dead, .dead, .dead, .dead, .dead, .dead, .dead, .dead, .dead, .dead, .dead, .dead, .dead, .dead, .dead, .dead, .dead, .dead, .dead, .dead, .dead, .dead, .dead, .dead, .dead, .dead, .dead, .dead, .dead, .dead, .dead, .dead, .dead, .dead, .dead, .dead, .dead, .dead, .dead, .dead, .dead, .dead, .dead, .dead, .dead, .dead, .dead, .dead, .dead, .dead, .dead, .dead, .dead, .dead, .dead, .dead, .dead, .dead, .dead, .dead, .dead]
abbrev x20_2 (v0 v1 v8 v9 v11 v12 v13 : AV) : Env := [v0, v1, .dead, .dead, .dead, .dead, .dead, .dead, v8, v9, .dead, v11, v12, v13, .dead, .dead, .dead, .dead, .dead, .dead, .dead, .dead, .dead, .dead, .dead, .dead, .dead, .dead, .dead, .dead, .dead, .dead, .dead, .dead, .dead, .dead, .dead, .dead, .dead, .dead, .dead, .dead, .dead, .dead, .dead, .dead, .dead, .dead, .dead, .dead, .dead, .dead, .dead, .dead, .dead, .dead, .dead, .dead, .dead, .dead, .dead, .dead, .dead, .dead, .dead, .dead, .dead, .dead, .dead, .dead, .dead, .dead, .dead, .dead, .dead, .dead, .dead, .dead, .dead, .dead, .dead, .dead, .dead, .dead, .dead, .dead, .dead, .dead, .dead, .dead, .dead, .dead, .dead, .dead, .dead, .dead, .dead, .dead]
def s20_b2 : SCode :=
  .seq (
    .seq (
      .region [
        ⟨some 45, none, [], .p (.mv (.t 13))⟩,
        ⟨some 46, none, [], .p (.bin .lss (.t 45) (.c (.int .i64 16)))⟩,
        ⟨some 47, none, [], .p (.mv (.t 46))⟩,
        ⟨some 48, some (47, true), [], .p (.mv (.t 11))⟩,
        ⟨some 49, some (47, true), [], .p (.mv (.t 13))⟩,
        ⟨some 50, some (47, true), [], .p (.bin .add (.t 48) (.t 49))⟩,
        ⟨some 51, some (47, true), [], .p (.mv (.t 1))⟩,
        ⟨some 52, some (47, true), [], .p (.lenV false (.t 51))⟩,
        ⟨some 53, some (47, true), [], .p (.bin .lss (.t 50) (.t 52))⟩,
        ⟨some 54, none, [], .p (.pick (.t 47) (.t 53) (.c (.bool false)))⟩]) (
    .cond (.t 54) (
      .skip) (
      .exit 4))) (
  .block 5 (
    .seq (
      .region [
        ⟨some 55, none, [], .p (.mv (.t 13))⟩,
        ⟨some 56, none, [], .p (.mv (.t 1))⟩,
        ⟨some 57, none, [], .p (.mv (.t 11))⟩,
        ⟨some 58, none, [], .p (.mv (.t 13))⟩,
        ⟨some 59, none, [], .p (.bin .add (.t 57) (.t 58))⟩,
        ⟨some 60, none, [], .p (.idxStr (.t 56) (.t 59))⟩,
        ⟨some 61, none, [], .p (.conv .i64 (.t 60))⟩,
        ⟨some 62, none, [], .p (.iaddrA 17 1 (.t 12) (.t 55))⟩,
        ⟨none, none, [], .w (.store1 (.t 62) (.t 61))⟩]) (
    .region [
      ⟨some 63, none, [], .p (.mv (.t 13))⟩,
      ⟨some 64, none, [], .p (.bin .add (.t 63) (.c (.int .i64 1)))⟩,
      ⟨some 13, none, [], .p (.mv (.t 64))⟩])))

abbrev k20_1 : List Nat := [0, 1, 8, 9, 11]
abbrev a20_1 : List Nat := [0, 9]
abbrev e20_1 (v0 v1 v8 v9 v11 : AV) : Env := [v0, v1, .dead, .dead, .dead, .dead, .dead, .dead, v8, v9, .dead, v11, .dead, .dead, .dead, .dead, .dead, .dead, .dead, .dead, .dead, .dead, .dead, .dead, .dead, .dead, .dead, .dead, .dead, .dead, .dead, .dead, .dead, .dead, .dead, .dead, .dead, .dead, .dead, .dead, .dead, .dead, .dead, .dead, .dead, .dead, .dead, .dead, .dead, .dead, .dead, .dead, .dead, .dead, .dead, .dead, .dead, .dead, .dead, .dead, .dead, .dead, .dead, .dead, .dead, .dead, .dead, .dead, .dead, .dead, .dead, .dead, .dead, .dead, .dead, .dead, .dead, .dead, .dead, .dead, .dead, .dead, .dead, .dead, .dead, .dead, .dead, .dead, .dead, .dead, .dead, .dead, .dead, .dead, .dead, .dead, .dead, .dead]
abbrev x20_1 (v0 v9 : AV) : Env := [v0, .dead, .dead, .dead, .dead, .dead, .dead, .dead, .dead, v9, .dead, .dead, .dead, .dead, .dead, .dead, .dead, .dead, .dead, .dead, .dead, .dead, .dead, .dead, .dead, .dead, .dead, .dead, .dead, .dead, .dead, .dead, .dead, .dead, .dead, .dead, .dead, .dead, .dead, .dead, .dead, .dead, .dead, .dead, .dead, .dead, .dead, .dead, .dead, .dead, .dead, .dead, .dead, .dead, .dead, .dead, .dead, .dead, .dead, .dead, .dead, .dead, .dead, .dead, .dead, .dead, .dead, .dead, .dead, .dead, .dead, .dead, .dead, .dead, .dead, .dead, .dead, .dead, .dead, .dead, .dead, .dead, .dead, .dead, .dead, .dead, .dead, .dead, .dead, .dead, .dead, .dead, .dead, .dead, .dead, .dead, .dead, .dead]
def s20_b1 (n33 n34 : Nat) : SCode :=
  .seq (
    .seq (
      .region [
        ⟨some 39, none, [], .p (.mv (.t 11))⟩,
        ⟨some 40, none, [], .p (.mv (.t 1))⟩,
        ⟨some 41, none, [], .p (.lenV false (.t 40))⟩,
        ⟨some 42, none, [], .p (.bin .lss (.t 39) (.t 41))⟩]) (
    .cond (.t 42) (
      .skip) (
      .exit 2))) (
  .seq (
    .block 3 (
      .seq (
        .region [
          ⟨some 12, none, [], .a 56000 (.alloc [.int .i64 0, .int .i64 0, .int .i64 0, .int .i64 0, .int .i64 0, .int .i64 0, .int .i64 0, .int .i64 0, .int .i64 0, .int .i64 0, .int .i64 0, .int .i64 0, .int .i64 0, .int .i64 0, .int .i64 0, .int .i64 0, .int .i64 0])⟩]) (
      .seq (
        .region [
          ⟨some 13, none, [], .p (.mv (.c (.int .i64 0)))⟩]) (
      .seq (
        .block 4 (
          .loop k20_2 a20_2 s20_b2)) (
      .seq (
        .region [
          ⟨some 65, none, [], .p (.mv (.t 13))⟩,
          ⟨some 66, none, [], .p (.iaddrA 17 1 (.t 12) (.t 65))⟩,
          ⟨none, none, [], .w (.store1 (.t 66) (.c (.int .i64 1)))⟩]) (
      .seq (
        .region [
          ⟨some 67, none, [], .r (.loadN 17 (.t 9))⟩,
          ⟨some 68, none, [], .r (.loadN 17 (.t 12))⟩,
          ⟨some 69, none, [], .call 80008 4 true (.f n33) [.t 67, .t 68]⟩,
          ⟨none, none, [], .w (.storeN 17 (.t 9) (.t 69))⟩]) (
      .region [
        ⟨some 70, none, [], .r (.loadN 17 (.t 9))⟩,
        ⟨some 71, none, [], .r (.loadN 17 (.t 8))⟩,
        ⟨some 72, none, [], .call 84008 4 true (.f n34) [.t 70, .t 71]⟩,
        ⟨none, none, [], .w (.storeN 17 (.t 9) (.t 72))⟩]))))))) (
  .region [
    ⟨some 43, none, [], .p (.mv (.t 11))⟩,
    ⟨some 44, none, [], .p (.bin .add (.t 43) (.c (.int .i64 16)))⟩,
    ⟨some 11, none, [], .p (.mv (.t 44))⟩]))

abbrev k20_0 : List Nat := [0, 1, 6, 8, 9, 10]
abbrev a20_0 : List Nat := [0, 1, 8, 9]
abbrev e20_0 (v0 v1 v6 v8 v9 v10 : AV) : Env := [v0, v1, .dead, .dead, .dead, .dead, v6, .dead, v8, v9, v10, .dead, .dead, .dead, .dead, .dead, .dead, .dead, .dead, .dead, .dead, .dead, .dead, .dead, .dead, .dead, .dead, .dead, .dead, .dead, .dead, .dead, .dead, .dead, .dead, .dead, .dead, .dead, .dead, .dead, .dead, .dead, .dead, .dead, .dead, .dead, .dead, .dead, .dead, .dead, .dead, .dead, .dead, .dead, .dead, .dead, .dead, .dead, .dead, .dead, .dead, .dead, .dead, .dead, .dead, .dead, .dead, .dead, .dead, .dead, .dead, .dead, .dead, .dead, .dead, .dead, .dead, .dead, .dead, .dead, .dead, .dead, .dead, .dead, .dead, .dead, .dead, .dead, .dead, .dead, .dead, .dead, .dead, .dead, .dead, .dead, .dead, .dead]
abbrev x20_0 (v0 v1 v8 v9 : AV) : Env := [v0, v1, .dead, .dead, .dead, .dead, .dead, .dead, v8, v9, .dead, .dead, .dead, .dead, .dead, .dead, .dead, .dead, .dead, .dead, .dead, .dead, .dead, .dead, .dead, .dead, .dead, .dead, .dead, .dead, .dead, .dead, .dead, .dead, .dead, .dead, .dead, .dead, .dead, .dead, .dead, .dead, .dead, .dead, .dead, .dead, .dead, .dead, .dead, .dead, .dead, .dead, .dead, .dead, .dead, .dead, .dead, .dead, .dead, .dead, .dead, .dead, .dead, .dead, .dead, .dead, .dead, .dead, .dead, .dead, .dead, .dead, .dead, .dead, .dead, .dead, .dead, .dead, .dead, .dead, .dead, .dead, .dead, .dead, .dead, .dead, .dead, .dead, .dead, .dead, .dead, .dead, .dead, .dead, .dead, .dead, .dead, .dead]
def s20_b0 : SCode :=
  .seq (
    .seq (
      .region [
        ⟨some 29, none, [], .p (.mv (.t 10))⟩,
        ⟨some 30, none, [], .p (.bin .lss (.t 29) (.c (.int .i64 16)))⟩]) (
    .cond (.t 30) (
      .skip) (
      .exit 0))) (
  .seq (
    .block 1 (
      .region [
        ⟨some 33, none, [], .p (.mv (.t 10))⟩,
        ⟨some 34, none, [], .p (.mv (.t 6))⟩,
        ⟨some 35, none, [], .p (.mv (.t 10))⟩,
        ⟨some 36, none, [], .p (.idxStr (.t 34) (.t 35))⟩,
        ⟨some 37, none, [], .p (.conv .i64 (.t 36))⟩,
        ⟨some 38, none, [], .p (.iaddrA 17 1 (.t 8) (.t 33))⟩,
        ⟨none, none, [], .w (.store1 (.t 38) (.t 37))⟩])) (
  .region [
    ⟨some 31, none, [], .p (.mv (.t 10))⟩,
    ⟨some 32, none, [], .p (.bin .add (.t 31) (.c (.int .i64 1)))⟩,
    ⟨some 10, none, [], .p (.mv (.t 32))⟩]))

def s20 (n17 n33 n34 : Nat) : SFunc := ⟨
  .seq (
    .region [
      ⟨some 4, none, [], .p (.mv (.c (.str [])))⟩,
      ⟨some 5, none, [], .p (.mv (.c (.int .i64 0)))⟩]) (
  .seq (
    .seq (
      .region [
        ⟨some 17, none, [], .p (.mv (.t 0))⟩,
        ⟨some 18, none, [], .p (.lenV false (.t 17))⟩,
        ⟨some 19, none, [], .p (.bin .neq (.t 18) (.c (.int .i64 32)))⟩]) (
    .cond (.t 19) (
      .seq (
        .region [
          ⟨some 4, none, [], .p (.mv (.c (.str [])))⟩,
          ⟨some 5, none, [], .p (.mv (.c (.int .i64 7)))⟩]) (
      .ret)) (
      .skip))) (
  .seq (
    .seq (
      .region [
        ⟨some 20, none, [], .p (.mv (.t 1))⟩,
        ⟨some 21, none, [], .p (.lenV false (.t 20))⟩,
        ⟨some 22, none, [], .p (.bin .gtr (.t 21) (.c (.int .i64 65536)))⟩]) (
    .cond (.t 22) (
      .seq (
        .region [
          ⟨some 4, none, [], .p (.mv (.c (.str [])))⟩,
          ⟨some 5, none, [], .p (.mv (.c (.int .i64 5)))⟩]) (
      .ret)) (
      .skip))) (
  .seq (
    .region [
      ⟨some 24, none, [], .p (.mv (.t 0))⟩,
      ⟨some 25, none, [], .p (.slcStr (.t 24) none (some (.c (.int .i64 16))))⟩,
      ⟨some 26, none, [], .call 20008 4 true (.f n17) [.t 25]⟩,
      ⟨some 23, none, [], .p (.mv (.t 26))⟩,
      ⟨some 27, none, [], .p (.extract (.t 23) 0)⟩,
      ⟨some 28, none, [], .p (.extract (.t 23) 1)⟩,
      ⟨some 6, none, [], .p (.mv (.t 27))⟩,
      ⟨some 7, none, [], .p (.mv (.t 28))⟩]) (
  .seq (
    .region [
      ⟨some 8, none, [], .a 24000 (.alloc [.int .i64 0, .int .i64 0, .int .i64 0, .int .i64 0, .int .i64 0, .int .i64 0, .int .i64 0, .int .i64 0, .int .i64 0, .int .i64 0, .int .i64 0, .int .i64 0, .int .i64 0, .int .i64 0, .int .i64 0, .int .i64 0, .int .i64 0])⟩,
      ⟨some 9, none, [], .a 24004 (.alloc [.int .i64 0, .int .i64 0, .int .i64 0, .int .i64 0, .int .i64 0, .int .i64 0, .int .i64 0, .int .i64 0, .int .i64 0, .int .i64 0, .int .i64 0, .int .i64 0, .int .i64 0, .int .i64 0, .int .i64 0, .int .i64 0, .int .i64 0])⟩]) (
  .seq (
    .seq (
      .region [
        ⟨some 10, none, [], .p (.mv (.c (.int .i64 0)))⟩]) (
    .block 0 (
      .loop k20_0 a20_0 s20_b0))) (
  .seq (
    .seq (
      .region [
        ⟨some 11, none, [], .p (.mv (.c (.int .i64 0)))⟩]) (
    .block 2 (
      .loop k20_1 a20_1 (s20_b1 n33 n34)))) (
  .seq (
    .region [
      ⟨some 14, none, [], .p (.mv (.c (.slice none 0 0)))⟩]) (
  .seq (
    .region [
      ⟨some 15, none, [], .p (.mv (.c (.int .i64 0)))⟩]) (
  .seq (
    .seq (
      .region [
        ⟨some 16, none, [], .p (.mv (.c (.int .i64 0)))⟩]) (
    .block 6 (
      .loop k20_3 a20_3 s20_b3))) (
  .seq (
    .region [
      ⟨some 96, none, [], .p (.mv (.t 14))⟩,
      ⟨some 97, none, [], .r (.toStr (.t 96))⟩,
      ⟨some 4, none, [], .p (.mv (.t 97))⟩,
      ⟨some 5, none, [], .p (.mv (.c (.int .i64 0)))⟩]) (
  .ret))))))))))),
  98, [Sum.inl 4, Sum.inl 5]⟩


/-! ### the document's Clamp -/
/-- Bytes 3, 7, .. below the place i. -/
def c3 (r : List UInt8) (i : Nat) : List UInt8 := tab (fun p => if p % 4 = 3 ∧ p < i then nth r p % 16 else nth r p) 16
/-- And bytes 4, 8, .. below the place i. -/
def c4 (r : List UInt8) (i : Nat) : List UInt8 := tab (fun p => if p % 4 = 3 then nth r p % 16 else if p % 4 = 0 ∧ 0 < p ∧ p < i then nth r p - nth r p % 4 else nth r p) 16
theorem c3_len (r : List UInt8) (i : Nat) : (c3 r i).length = 16 := by simp [c3]
theorem c4_len (r : List UInt8) (i : Nat) : (c4 r i).length = 16 := by simp [c4]
theorem c3_first (r : List UInt8) (h : r.length = 16) : c3 r 3 = r := tab_eq _ _ _ h fun i hi => by rw [if_neg (by omega)]
theorem c34 (r : List UInt8) : c3 r 19 = c4 r 4 := tab_congr _ _ _ fun p hp => by
  by_cases h : p % 4 = 3
  · rw [if_pos ⟨h, by omega⟩, if_pos h]
  · rw [if_neg (by omega), if_neg h, if_neg (by omega)]
theorem mod16 (b : UInt8) : b % 16 = b &&& 15 := by
  apply UInt8.toNat_inj.1
  rw [UInt8.toNat_mod, UInt8.toNat_and]
  exact (Nat.and_two_pow_sub_one_eq_mod b.toNat 4).symm
theorem sub4 : ∀ b : UInt8, b - b % 4 = b &&& 252 := by
  intro b
  have h : ∀ n : Fin 256, (UInt8.ofNat n.val) - (UInt8.ofNat n.val) % 4 = (UInt8.ofNat n.val) &&& 252 := by decide +kernel
  have hb := b.toNat_lt
  have := h ⟨b.toNat, hb⟩
  simpa using this
theorem c4_all (r : List UInt8) : c4 r 16 = clampB r := tab_congr _ _ _ fun p hp => by
  rw [cl]
  by_cases h : p % 4 = 3
  · rw [if_pos h, if_pos h, mod16]
  · rw [if_neg h, if_neg h]
    by_cases h0 : p % 4 = 0 ∧ 0 < p
    · rw [if_pos ⟨h0.1, h0.2, hp⟩, if_pos h0, sub4]
    · rw [if_neg (by omega), if_neg h0]
theorem c3_nth (r : List UInt8) (i : Nat) (h : i < 16) : nth (c3 r i) i = nth r i := by rw [c3, nth_tab _ _ _ h, if_neg (by omega)]
theorem c3_set (r : List UInt8) (i : Nat) (h : i < 16) (h3 : i % 4 = 3) : (c3 r i).set i (nth r i % 16) = c3 r (i + 4) := by
  refine nth_ext (by simp [c3]) fun k hk => ?_
  simp [c3] at hk
  rw [nth_set _ _ _ _ (by rw [c3_len]; omega), c3, nth_tab _ _ _ hk, c3, nth_tab _ _ _ hk]
  by_cases h1 : i = k
  · subst h1
    rw [if_pos rfl, if_pos ⟨h3, by omega⟩]
  · rw [if_neg h1]
    by_cases h2 : k % 4 = 3 ∧ k < i
    · rw [if_pos h2, if_pos (by omega)]
    · rw [if_neg h2, if_neg (by omega)]
theorem c4_nth (r : List UInt8) (i : Nat) (h : i < 16) (h0 : i % 4 = 0) : nth (c4 r i) i = nth r i := by rw [c4, nth_tab _ _ _ h, if_neg (by omega), if_neg (by omega)]
theorem c4_set (r : List UInt8) (i : Nat) (h : i < 16) (h0 : i % 4 = 0) (hp : 0 < i) : (c4 r i).set i (nth r i - nth r i % 4) = c4 r (i + 4) := by
  refine nth_ext (by simp [c4]) fun k hk => ?_
  simp [c4] at hk
  rw [nth_set _ _ _ _ (by rw [c4_len]; omega), c4, nth_tab _ _ _ hk, c4, nth_tab _ _ _ hk]
  by_cases h1 : i = k
  · subst h1
    rw [if_pos rfl, if_neg (by omega), if_pos (by omega)]
  · rw [if_neg h1]
    by_cases h2 : k % 4 = 3
    · rw [if_pos h2, if_pos h2]
    · rw [if_neg h2, if_neg h2]
      by_cases h4 : k % 4 = 0 ∧ 0 < k ∧ k < i
      · rw [if_pos h4, if_pos (by omega)]
      · rw [if_neg h4, if_neg (by omega)]

theorem l17_0 (C : Det.Calls) (M : Mem) (r : List UInt8) (j : Nat) : ∀ (i n : Nat), i + 4 * j = 19 → j < n →
    fgt a17_0 (rnd0 (some (e17_0 (.slice (some ⟨M.length, 12004, 16, 0⟩) 16 1) (.int .i64 i), mk [(12004, .cells ((c3 r i).map byteAV) true true)] :: M)) k17_0 C s17_b0 n) =
      some (.exit 0, x17_0 (.slice (some ⟨M.length, 12004, 16, 0⟩) 16 1), mk [(12004, .cells ((c3 r 19).map byteAV) true true)] :: M) := by
  induction j with
  | zero =>
    intro i n h hn
    obtain rfl : i = 19 := by omega
    rw [rnd0_some]
    conv => lhs; arg 2; arg 1; rw [s17_b0]
    generalize c3 r 19 = Z
    simp
  | succ j ih0 =>
    intro i n h hn
    obtain ⟨n, rfl⟩ : ∃ m, n = m + 1 := ⟨n - 1, by omega⟩
    have ih := ih0 (i + 4) n (by omega) (by omega)
    have hi : (i : Int) < 16 := by omega
    have hi2 : i < 16 := by omega
    have hl := c3_len r i
    have g : ((c3 r i).map byteAV)[i]? = some (byteAV (nth r i)) := by rw [List.getElem?_map, getElem?_nth _ i (by omega), c3_nth r i hi2]; rfl
    have hs : ((c3 r i).map byteAV).set i (byteAV (nth r i % 16)) = (c3 r (i + 4)).map byteAV := by rw [← c3_set r i hi2 (by omega), List.map_set]
    generalize c3 r (i + 4) = Z2 at *
    generalize c3 r i = Z at *
    rw [rnd0_some]
    conv => lhs; arg 2; arg 1; rw [s17_b0]
    simpa (disch := omega) [-List.getElem?_map, -List.map_set, hi, hi2, hl, g, hs, if_pos, IntWalk.i64_in] using ih

theorem l17_1 (C : Det.Calls) (M : Mem) (r : List UInt8) (j : Nat) : ∀ (i n : Nat), i + 4 * j = 16 → j < n → 0 < i →
    fgt a17_1 (rnd0 (some (e17_1 (.slice (some ⟨M.length, 12004, 16, 0⟩) 16 1) (.int .i64 i), mk [(12004, .cells ((c4 r i).map byteAV) true true)] :: M)) k17_1 C s17_b1 n) =
      some (.exit 2, x17_1 (.slice (some ⟨M.length, 12004, 16, 0⟩) 16 1), mk [(12004, .cells ((c4 r 16).map byteAV) true true)] :: M) := by
  induction j with
  | zero =>
    intro i n h hn hp
    obtain rfl : i = 16 := by omega
    rw [rnd0_some]
    conv => lhs; arg 2; arg 1; rw [s17_b1]
    generalize c4 r 16 = Z
    simp
  | succ j ih0 =>
    intro i n h hn hp
    obtain ⟨n, rfl⟩ : ∃ m, n = m + 1 := ⟨n - 1, by omega⟩
    have ih := ih0 (i + 4) n (by omega) (by omega) (by omega)
    have hi : (i : Int) < 16 := by omega
    have hi2 : i < 16 := by omega
    have hl := c4_len r i
    have g : ((c4 r i).map byteAV)[i]? = some (byteAV (nth r i)) := by rw [List.getElem?_map, getElem?_nth _ i (by omega), c4_nth r i hi2 (by omega)]; rfl
    have hs : ((c4 r i).map byteAV).set i (byteAV (nth r i - nth r i % 4)) = (c4 r (i + 4)).map byteAV := by rw [← c4_set r i hi2 (by omega) hp, List.map_set]
    generalize c4 r (i + 4) = Z2 at *
    generalize c4 r i = Z at *
    rw [rnd0_some]
    conv => lhs; arg 2; arg 1; rw [s17_b1]
    simpa (disch := omega) [-List.getElem?_map, -List.map_set, hi, hi2, hl, g, hs, if_pos, IntWalk.i64_in] using ih

theorem refclamp_ev {SP : SProg} {n17 : Nat} (h17 : SP.fn n17 = some s17) (k : Nat) (M : Mem) (r : List UInt8) : callFn SP (k + 1) n17 [.str r] M = some (.tuple [.str (clampR r).1, .int .i64 (clampR r).2], [], M) := by
  rw [call_fn (h17.trans rfl) (by simp)]
  rw [clampR]
  by_cases h : r.length = 16
  · have h2 : (r.length : Int) = 16 := by omega
    have q := l17_0 (callFn SP k) M r 4 3 5 rfl (by omega)
    rw [c3_first r h, c34] at q
    have q1 := l17_1 (callFn SP k) M r 3 4 4 rfl (by omega) (by omega)
    rw [c4_all] at q1
    have hl := clampB_len r
    rw [if_pos h]
    generalize clampB r = Z at *
    generalize c4 r 4 = Y at *
    simp (disch := omega) [h, h2, if_pos]
    rw [ev_loop 5 (by simp) q (by omega)]
    simp (disch := omega) []
    rw [ev_loop 4 (by simp) q1 (by omega)]
    simp (disch := omega) [hl]
  · have h2 : ¬ (r.length : Int) = 16 := by omega
    simp (disch := omega) [h, h2, if_pos]
end Go.Det.PR
