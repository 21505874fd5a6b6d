/-
  bursarlaw18.QuotaApart answers true and leaves its arguments as they were, for inputs of bulk at most 1048576 (the given second form; no other condition). Part 15 of 26 of the proof.
-/
import Derived.Test.YtnjblinbdimkjaaGreatDoorM14
import Derived.Test.YtnjblinbdimkjaaGreatDoorM9
import Derived.Shelf.Small.Strs
import Derived.Shelf.Strings.SplitCore
import Derived.Shelf.Strings.Search3
import Derived.Shelf.Strings.Count
import Derived.Shelf.Strings.LastIndex
import Derived.Test.YtnjblinbdimkjaaGreatDoorProg
import Derived.Test.YtnjblinbdimkjaaGreatDoorM10
import Derived.Lib.SplitLaws
namespace Go.Proofs.YtnjblinbdimkjaaGreatDoor
open Go Go.Am
-- 159 bursar/label.Name (38 slots, 1 parameters)
def c159r0 : List AOper := [
  ⟨some 2, none, .mov (.k (.p (.val (.bool false))))⟩]
def c159r1 : List AOper := [
  ⟨some 5, none, .mov (.t 0)⟩,
  ⟨some 6, none, .lens (.t 5)⟩,
  ⟨some 7, none, .bin .lss 3 (.t 6) (.k (.p (.val (.int .i64 1))))⟩,
  ⟨some 8, none, .mov (.t 7)⟩,
  ⟨some 9, some (8, false), .mov (.t 0)⟩,
  ⟨some 10, some (8, false), .lens (.t 9)⟩,
  ⟨some 11, some (8, false), .bin .gtr 3 (.t 10) (.k (.p (.val (.int .i64 32))))⟩,
  ⟨some 12, none, .pick (.t 8) (.k (.p (.val (.bool true)))) (.t 11)⟩,
  ⟨some 13, none, .mov (.t 12)⟩,
  ⟨some 14, some (13, false), .mov (.t 0)⟩,
  ⟨some 15, some (13, false), .ixs (.t 14) (.k (.p (.val (.int .i64 0))))⟩,
  ⟨some 16, some (13, false), .bin .eql 5 (.t 15) (.k (.p (.val (.int .u8 45))))⟩,
  ⟨some 17, none, .pick (.t 13) (.k (.p (.val (.bool true)))) (.t 16)⟩,
  ⟨some 18, none, .mov (.t 17)⟩,
  ⟨some 19, some (18, false), .mov (.t 0)⟩,
  ⟨some 20, some (18, false), .mov (.t 0)⟩,
  ⟨some 21, some (18, false), .lens (.t 20)⟩,
  ⟨some 22, some (18, false), .bin .sub 3 (.t 21) (.k (.p (.val (.int .i64 1))))⟩,
  ⟨some 23, some (18, false), .ixs (.t 19) (.t 22)⟩,
  ⟨some 24, some (18, false), .bin .eql 5 (.t 23) (.k (.p (.val (.int .u8 45))))⟩,
  ⟨some 25, none, .pick (.t 18) (.k (.p (.val (.bool true)))) (.t 24)⟩]
def c159r2 : List AOper := [
  ⟨some 2, none, .mov (.k (.p (.val (.bool false))))⟩]
def c159r3 : List AOper := [
  ⟨some 26, none, .mov (.t 0)⟩,
  ⟨some 27, none, .prim (.range 9 (.tmp 26)) [(.t 26)]⟩]
def c159r4 : List AOper := [
  ⟨some 28, none, .prim (.next (.tmp 27) true) [(.t 27)]⟩,
  ⟨some 29, none, .ext (.t 28) 0⟩]
def c159r5 : List AOper := [
  ⟨some 30, none, .ext (.t 28) 2⟩,
  ⟨some 4, none, .mov (.t 30)⟩]
def c159r6 : List AOper := [
  ⟨some 31, none, .mov (.t 4)⟩,
  ⟨some 32, none, .call 200 [(.t 31)]⟩,
  ⟨some 33, none, .un .not (.t 32)⟩,
  ⟨some 34, none, .mov (.t 33)⟩,
  ⟨some 35, some (34, true), .mov (.t 4)⟩,
  ⟨some 36, some (34, true), .bin .neq 21 (.t 35) (.k (.p (.val (.int .i32 45))))⟩,
  ⟨some 37, none, .pick (.t 34) (.t 36) (.k (.p (.val (.bool false))))⟩]
def c159r7 : List AOper := [
  ⟨some 2, none, .mov (.k (.p (.val (.bool false))))⟩]
def c159l8 : ACode := (.seq (.reg c159r4) (.seq (.cond (.t 29) .skip (.exit 0)) (.block 1 (.seq (.reg c159r5) (.seq (.reg c159r6) (.cond (.t 37) (.seq (.reg c159r7) .ret) .skip))))))
def c159r9 : List AOper := [
  ⟨some 2, none, .mov (.k (.p (.val (.bool true))))⟩]
def c159 : ACode := (.seq (.reg c159r0) (.seq (.seq (.reg c159r1) (.cond (.t 25) (.seq (.reg c159r2) .ret) .skip)) (.seq (.seq (.reg c159r3) (.block 0 (.loop c159l8))) (.seq (.reg c159r9) .ret))))
theorem c159_eq : (Tryz.f159.body).map (tr Tryz.prog gls 38) = some c159 := by kernel_rfl
theorem k159 {S : Am.Spec} (hargs : ∀ rs φ K, S rs φ K → rs.length ≤ 38) (h : Shows Tryz.prog gls c159 [.t 2] S) : Snd Tryz.prog gls 159 S :=
  snd_code Tryz.func159 c159_eq (by kernel_rfl) (by kernel_rfl) Tryz.ntmps159 hargs h
-- 180 strings.Split (8 slots, 2 parameters)
def c180r0 : List AOper := [
  ⟨some 4, none, .mov (.k (.p (.val (.slice none 0 0))))⟩]
def c180r1 : List AOper := [
  ⟨some 5, none, .mov (.t 0)⟩,
  ⟨some 6, none, .mov (.t 1)⟩,
  ⟨some 7, none, .call 208 [(.t 5), (.t 6), (.k (.p (.val (.int .i64 0)))), (.k (.p (.val (.int .i64 (-1)))))]⟩,
  ⟨some 4, none, .mov (.t 7)⟩]
def c180 : ACode := (.seq (.reg c180r0) (.seq (.reg c180r1) .ret))
theorem c180_eq : (Tryz.f180.body).map (tr Tryz.prog gls 8) = some c180 := by kernel_rfl
theorem k180 {S : Am.Spec} (hargs : ∀ rs φ K, S rs φ K → rs.length ≤ 8) (h : Shows Tryz.prog gls c180 [.t 4] S) : Snd Tryz.prog gls 180 S :=
  snd_code Tryz.func180 c180_eq (by kernel_rfl) (by kernel_rfl) Tryz.ntmps180 hargs h
-- 124 bursar/label.Split (39 slots, 1 parameters)
def c124r0 : List AOper := [
  ⟨some 2, none, .mov (.k (.p (.val (.slice none 0 0))))⟩,
  ⟨some 3, none, .mov (.k (.p (.val (.int .i64 0))))⟩]
def c124r1 : List AOper := [
  ⟨some 9, none, .mov (.t 0)⟩,
  ⟨some 10, none, .bin .eql 9 (.t 9) (.k (.p (.val (.string ⟨#[47]⟩))))⟩]
def c124r2 : List AOper := [
  ⟨some 2, none, .mov (.k (.p (.val (.slice none 0 0))))⟩,
  ⟨some 3, none, .mov (.k (.p (.val (.int .i64 0))))⟩]
def c124r3 : List AOper := [
  ⟨some 12, none, .mov (.t 0)⟩,
  ⟨some 13, none, .call 144 [(.t 12), (.k (.p (.val (.string ⟨#[47]⟩))))]⟩,
  ⟨some 11, none, .mov (.t 13)⟩,
  ⟨some 14, none, .ext (.t 11) 0⟩,
  ⟨some 15, none, .ext (.t 11) 1⟩,
  ⟨some 4, none, .mov (.t 14)⟩,
  ⟨some 5, none, .mov (.t 15)⟩]
def c124r4 : List AOper := [
  ⟨some 16, none, .mov (.t 5)⟩,
  ⟨some 17, none, .un .not (.t 16)⟩,
  ⟨some 18, none, .mov (.t 17)⟩,
  ⟨some 19, some (18, false), .mov (.t 0)⟩,
  ⟨some 20, some (18, false), .lens (.t 19)⟩,
  ⟨some 21, some (18, false), .bin .gtr 3 (.t 20) (.k (.p (.val (.int .i64 64))))⟩,
  ⟨some 22, none, .pick (.t 18) (.k (.p (.val (.bool true)))) (.t 21)⟩]
def c124r5 : List AOper := [
  ⟨some 2, none, .mov (.k (.p (.val (.slice none 0 0))))⟩,
  ⟨some 3, none, .mov (.k (.p (.val (.int .i64 41))))⟩]
def c124r6 : List AOper := [
  ⟨some 23, none, .mov (.t 4)⟩,
  ⟨some 24, none, .call 180 [(.t 23), (.k (.p (.val (.string ⟨#[47]⟩))))]⟩,
  ⟨some 6, none, .mov (.t 24)⟩]
def c124r7 : List AOper := [
  ⟨some 25, none, .mov (.t 6)⟩,
  ⟨some 26, none, .len (.t 25)⟩,
  ⟨some 27, none, .bin .gtr 3 (.t 26) (.k (.p (.val (.int .i64 8))))⟩]
def c124r8 : List AOper := [
  ⟨some 2, none, .mov (.k (.p (.val (.slice none 0 0))))⟩,
  ⟨some 3, none, .mov (.k (.p (.val (.int .i64 41))))⟩]
def c124r9 : List AOper := [
  ⟨some 28, none, .mov (.t 6)⟩,
  ⟨some 29, none, .len (.t 28)⟩,
  ⟨some 30, none, .mov (.k (.p (.val (.int .i64 0))))⟩]
def c124r10 : List AOper := [
  ⟨some 31, none, .bin .lss 3 (.t 30) (.t 29)⟩]
def c124r11 : List AOper := [
  ⟨some 32, none, .iad 1 (.t 28) (.t 30)⟩,
  ⟨some 33, none, .load false 1 (.t 32)⟩,
  ⟨some 8, none, .mov (.t 33)⟩]
def c124r12 : List AOper := [
  ⟨some 34, none, .mov (.t 8)⟩,
  ⟨some 35, none, .call 159 [(.t 34)]⟩,
  ⟨some 36, none, .un .not (.t 35)⟩]
def c124r13 : List AOper := [
  ⟨some 2, none, .mov (.k (.p (.val (.slice none 0 0))))⟩,
  ⟨some 3, none, .mov (.k (.p (.val (.int .i64 41))))⟩]
def c124r14 : List AOper := [
  ⟨some 37, none, .bin .add 3 (.t 30) (.k (.p (.val (.int .i64 1))))⟩,
  ⟨some 30, none, .mov (.t 37)⟩]
def c124l15 : ACode := (.seq (.reg c124r10) (.seq (.cond (.t 31) .skip (.exit 0)) (.seq (.block 1 (.seq (.reg c124r11) (.seq (.reg c124r12) (.cond (.t 36) (.seq (.reg c124r13) .ret) .skip)))) (.reg c124r14))))
def c124r16 : List AOper := [
  ⟨some 38, none, .mov (.t 6)⟩,
  ⟨some 2, none, .mov (.t 38)⟩,
  ⟨some 3, none, .mov (.k (.p (.val (.int .i64 0))))⟩]
def c124 : ACode := (.seq (.reg c124r0) (.seq (.seq (.reg c124r1) (.cond (.t 10) (.seq (.reg c124r2) .ret) .skip)) (.seq (.reg c124r3) (.seq (.seq (.reg c124r4) (.cond (.t 22) (.seq (.reg c124r5) .ret) .skip)) (.seq (.reg c124r6) (.seq (.seq (.reg c124r7) (.cond (.t 27) (.seq (.reg c124r8) .ret) .skip)) (.seq (.seq (.reg c124r9) (.block 0 (.loop c124l15))) (.seq (.reg c124r16) .ret))))))))
theorem c124_eq : (Tryz.f124.body).map (tr Tryz.prog gls 39) = some c124 := by kernel_rfl
theorem k124 {S : Am.Spec} (hargs : ∀ rs φ K, S rs φ K → rs.length ≤ 39) (h : Shows Tryz.prog gls c124 [.t 2, .t 3] S) : Snd Tryz.prog gls 124 S :=
  snd_code Tryz.func124 c124_eq (by kernel_rfl) (by kernel_rfl) Tryz.ntmps124 hargs h
-- 73 bursar/label.Path (11 slots, 1 parameters)
def c73r0 : List AOper := [
  ⟨some 2, none, .mov (.k (.p (.val (.int .i64 0))))⟩]
def c73r1 : List AOper := [
  ⟨some 6, none, .mov (.t 0)⟩,
  ⟨some 7, none, .call 124 [(.t 6)]⟩,
  ⟨some 5, none, .mov (.t 7)⟩,
  ⟨some 8, none, .ext (.t 5) 0⟩,
  ⟨some 9, none, .ext (.t 5) 1⟩,
  ⟨some 3, none, .mov (.t 8)⟩,
  ⟨some 4, none, .mov (.t 9)⟩]
def c73r2 : List AOper := [
  ⟨some 10, none, .mov (.t 4)⟩,
  ⟨some 2, none, .mov (.t 10)⟩]
def c73 : ACode := (.seq (.reg c73r0) (.seq (.reg c73r1) (.seq (.reg c73r2) .ret)))
theorem c73_eq : (Tryz.f73.body).map (tr Tryz.prog gls 11) = some c73 := by kernel_rfl
theorem k73 {S : Am.Spec} (hargs : ∀ rs φ K, S rs φ K → rs.length ≤ 11) (h : Shows Tryz.prog gls c73 [.t 2] S) : Snd Tryz.prog gls 73 S :=
  snd_code Tryz.func73 c73_eq (by kernel_rfl) (by kernel_rfl) Tryz.ntmps73 hargs h
-- 201 bursar/label.value (9 slots, 1 parameters)
def c201r0 : List AOper := [
  ⟨some 2, none, .mov (.k (.p (.val (.bool false))))⟩]
def c201r1 : List AOper := [
  ⟨some 3, none, .mov (.t 0)⟩,
  ⟨some 4, none, .bin .eql 9 (.t 3) (.k (.p (.val (.string ⟨#[]⟩))))⟩,
  ⟨some 5, none, .mov (.t 4)⟩,
  ⟨some 6, some (5, false), .mov (.t 0)⟩,
  ⟨some 7, some (5, false), .call 159 [(.t 6)]⟩,
  ⟨some 8, none, .pick (.t 5) (.k (.p (.val (.bool true)))) (.t 7)⟩,
  ⟨some 2, none, .mov (.t 8)⟩]
def c201 : ACode := (.seq (.reg c201r0) (.seq (.reg c201r1) .ret))
theorem c201_eq : (Tryz.f201.body).map (tr Tryz.prog gls 9) = some c201 := by kernel_rfl
theorem k201 {S : Am.Spec} (hargs : ∀ rs φ K, S rs φ K → rs.length ≤ 9) (h : Shows Tryz.prog gls c201 [.t 2] S) : Snd Tryz.prog gls 201 S :=
  snd_code Tryz.func201 c201_eq (by kernel_rfl) (by kernel_rfl) Tryz.ntmps201 hargs h
-- 160 bursar/label.Valid (41 slots, 1 parameters)
def c160r0 : List AOper := [
  ⟨some 2, none, .mov (.k (.p (.val (.int .i64 0))))⟩]
def c160r1 : List AOper := [
  ⟨some 5, none, .mov (.t 0)⟩,
  ⟨some 6, none, .len (.t 5)⟩,
  ⟨some 7, none, .bin .gtr 3 (.t 6) (.k (.p (.val (.int .i64 16))))⟩]
def c160r2 : List AOper := [
  ⟨some 2, none, .mov (.k (.p (.val (.int .i64 42))))⟩]
def c160r3 : List AOper := [
  ⟨some 8, none, .mov (.t 0)⟩,
  ⟨some 9, none, .len (.t 8)⟩,
  ⟨some 10, none, .mov (.k (.p (.val (.int .i64 0))))⟩]
def c160r4 : List AOper := [
  ⟨some 11, none, .bin .lss 3 (.t 10) (.t 9)⟩]
def c160r5 : List AOper := [
  ⟨some 12, none, .mov (.t 10)⟩,
  ⟨some 13, none, .iad 2 (.t 8) (.t 10)⟩,
  ⟨some 14, none, .load true 2 (.t 13)⟩,
  ⟨some 4, none, .alloc [(.val (.string ⟨#[]⟩)), (.val (.string ⟨#[]⟩))]⟩,
  ⟨some 3, none, .mov (.t 12)⟩,
  ⟨none, none, .store 2 (.t 4) (.t 14)⟩]
def c160r6 : List AOper := [
  ⟨some 15, none, .fad 0 (.t 4)⟩,
  ⟨some 16, none, .load false 1 (.t 15)⟩,
  ⟨some 17, none, .callq 159 [(.t 16)]⟩,
  ⟨some 18, none, .un .not (.t 17)⟩,
  ⟨some 19, none, .mov (.t 18)⟩,
  ⟨some 20, some (19, false), .fad 1 (.t 4)⟩,
  ⟨some 21, some (19, false), .load false 1 (.t 20)⟩,
  ⟨some 22, some (19, false), .callq 201 [(.t 21)]⟩,
  ⟨some 23, some (19, false), .un .not (.t 22)⟩,
  ⟨some 24, none, .pick (.t 19) (.k (.p (.val (.bool true)))) (.t 23)⟩,
  ⟨some 25, none, .mov (.t 24)⟩,
  ⟨some 26, some (25, false), .mov (.t 3)⟩,
  ⟨some 27, some (25, false), .bin .gtr 3 (.t 26) (.k (.p (.val (.int .i64 0))))⟩,
  ⟨some 28, some (25, false), .mov (.t 27)⟩,
  ⟨some 29, some (28, true), .mov (.t 0)⟩,
  ⟨some 30, some (28, true), .mov (.t 3)⟩,
  ⟨some 31, some (28, true), .bin .sub 3 (.t 30) (.k (.p (.val (.int .i64 1))))⟩,
  ⟨some 32, some (28, true), .iad 2 (.t 29) (.t 31)⟩,
  ⟨some 33, some (28, true), .fad 0 (.t 32)⟩,
  ⟨some 34, some (28, true), .load false 1 (.t 33)⟩,
  ⟨some 35, some (28, true), .fad 0 (.t 4)⟩,
  ⟨some 36, some (28, true), .load false 1 (.t 35)⟩,
  ⟨some 37, some (28, true), .bin .geq 9 (.t 34) (.t 36)⟩,
  ⟨some 38, some (25, false), .pick (.t 28) (.t 37) (.k (.p (.val (.bool false))))⟩,
  ⟨some 39, none, .pick (.t 25) (.k (.p (.val (.bool true)))) (.t 38)⟩]
def c160r7 : List AOper := [
  ⟨some 2, none, .mov (.k (.p (.val (.int .i64 42))))⟩]
def c160r8 : List AOper := [
  ⟨some 40, none, .bin .add 3 (.t 10) (.k (.p (.val (.int .i64 1))))⟩,
  ⟨some 10, none, .mov (.t 40)⟩]
def c160l9 : ACode := (.seq (.reg c160r4) (.seq (.cond (.t 11) .skip (.exit 0)) (.seq (.block 1 (.seq (.reg c160r5) (.seq (.reg c160r6) (.cond (.t 39) (.seq (.reg c160r7) .ret) .skip)))) (.reg c160r8))))
def c160r10 : List AOper := [
  ⟨some 2, none, .mov (.k (.p (.val (.int .i64 0))))⟩]
def c160 : ACode := (.seq (.reg c160r0) (.seq (.seq (.reg c160r1) (.cond (.t 7) (.seq (.reg c160r2) .ret) .skip)) (.seq (.seq (.reg c160r3) (.block 0 (.loop c160l9))) (.seq (.reg c160r10) .ret))))
theorem c160_eq : (Tryz.f160.body).map (tr Tryz.prog gls 41) = some c160 := by kernel_rfl
theorem k160 {S : Am.Spec} (hargs : ∀ rs φ K, S rs φ K → rs.length ≤ 41) (h : Shows Tryz.prog gls c160 [.t 2] S) : Snd Tryz.prog gls 160 S :=
  snd_code Tryz.func160 c160_eq (by kernel_rfl) (by kernel_rfl) Tryz.ntmps160 hargs h
-- 202 bursar/quant.resource (51 slots, 1 parameters)
def c202r0 : List AOper := [
  ⟨some 2, none, .mov (.k (.p (.val (.bool false))))⟩]
def c202r1 : List AOper := [
  ⟨some 6, none, .mov (.t 0)⟩,
  ⟨some 7, none, .lens (.t 6)⟩,
  ⟨some 8, none, .bin .gtr 3 (.t 7) (.k (.p (.val (.int .i64 48))))⟩]
def c202r2 : List AOper := [
  ⟨some 2, none, .mov (.k (.p (.val (.bool false))))⟩]
def c202r3 : List AOper := [
  ⟨some 9, none, .mov (.t 0)⟩,
  ⟨some 10, none, .call 180 [(.t 9), (.k (.p (.val (.string ⟨#[46]⟩))))]⟩,
  ⟨some 11, none, .len (.t 10)⟩,
  ⟨some 12, none, .mov (.k (.p (.val (.int .i64 0))))⟩]
def c202r4 : List AOper := [
  ⟨some 13, none, .bin .lss 3 (.t 12) (.t 11)⟩]
def c202r5 : List AOper := [
  ⟨some 14, none, .iad 1 (.t 10) (.t 12)⟩,
  ⟨some 15, none, .load false 1 (.t 14)⟩,
  ⟨some 4, none, .mov (.t 15)⟩]
def c202r6 : List AOper := [
  ⟨some 16, none, .mov (.t 4)⟩,
  ⟨some 17, none, .bin .eql 9 (.t 16) (.k (.p (.val (.string ⟨#[]⟩))))⟩,
  ⟨some 18, none, .mov (.t 17)⟩,
  ⟨some 19, some (18, false), .mov (.t 4)⟩,
  ⟨some 20, some (18, false), .ixs (.t 19) (.k (.p (.val (.int .i64 0))))⟩,
  ⟨some 21, some (18, false), .call 214 [(.t 20)]⟩,
  ⟨some 22, some (18, false), .un .not (.t 21)⟩,
  ⟨some 23, none, .pick (.t 18) (.k (.p (.val (.bool true)))) (.t 22)⟩,
  ⟨some 24, none, .mov (.t 23)⟩,
  ⟨some 25, some (24, false), .mov (.t 4)⟩,
  ⟨some 26, some (24, false), .mov (.t 4)⟩,
  ⟨some 27, some (24, false), .lens (.t 26)⟩,
  ⟨some 28, some (24, false), .bin .sub 3 (.t 27) (.k (.p (.val (.int .i64 1))))⟩,
  ⟨some 29, some (24, false), .ixs (.t 25) (.t 28)⟩,
  ⟨some 30, some (24, false), .call 214 [(.t 29)]⟩,
  ⟨some 31, some (24, false), .un .not (.t 30)⟩,
  ⟨some 32, none, .pick (.t 24) (.k (.p (.val (.bool true)))) (.t 31)⟩]
def c202r7 : List AOper := [
  ⟨some 2, none, .mov (.k (.p (.val (.bool false))))⟩]
def c202r8 : List AOper := [
  ⟨some 33, none, .mov (.t 4)⟩,
  ⟨some 34, none, .lens (.t 33)⟩,
  ⟨some 35, none, .mov (.k (.p (.val (.int .i64 0))))⟩]
def c202r9 : List AOper := [
  ⟨some 36, none, .bin .lss 3 (.t 35) (.t 34)⟩]
def c202r10 : List AOper := [
  ⟨some 37, none, .mov (.t 35)⟩,
  ⟨some 5, none, .mov (.t 37)⟩]
def c202r11 : List AOper := [
  ⟨some 38, none, .mov (.t 4)⟩,
  ⟨some 39, none, .mov (.t 5)⟩,
  ⟨some 40, none, .ixs (.t 38) (.t 39)⟩,
  ⟨some 41, none, .call 214 [(.t 40)]⟩,
  ⟨some 42, none, .un .not (.t 41)⟩,
  ⟨some 43, none, .mov (.t 42)⟩,
  ⟨some 44, some (43, true), .mov (.t 4)⟩,
  ⟨some 45, some (43, true), .mov (.t 5)⟩,
  ⟨some 46, some (43, true), .ixs (.t 44) (.t 45)⟩,
  ⟨some 47, some (43, true), .bin .neq 5 (.t 46) (.k (.p (.val (.int .u8 45))))⟩,
  ⟨some 48, none, .pick (.t 43) (.t 47) (.k (.p (.val (.bool false))))⟩]
def c202r12 : List AOper := [
  ⟨some 2, none, .mov (.k (.p (.val (.bool false))))⟩]
def c202r13 : List AOper := [
  ⟨some 49, none, .bin .add 3 (.t 35) (.k (.p (.val (.int .i64 1))))⟩,
  ⟨some 35, none, .mov (.t 49)⟩]
def c202l14 : ACode := (.seq (.reg c202r9) (.seq (.cond (.t 36) .skip (.exit 2)) (.seq (.block 3 (.seq (.reg c202r10) (.seq (.reg c202r11) (.cond (.t 48) (.seq (.reg c202r12) .ret) .skip)))) (.reg c202r13))))
def c202r15 : List AOper := [
  ⟨some 50, none, .bin .add 3 (.t 12) (.k (.p (.val (.int .i64 1))))⟩,
  ⟨some 12, none, .mov (.t 50)⟩]
def c202l16 : ACode := (.seq (.reg c202r4) (.seq (.cond (.t 13) .skip (.exit 0)) (.seq (.block 1 (.seq (.reg c202r5) (.seq (.seq (.reg c202r6) (.cond (.t 32) (.seq (.reg c202r7) .ret) .skip)) (.seq (.reg c202r8) (.block 2 (.loop c202l14)))))) (.reg c202r15))))
def c202r17 : List AOper := [
  ⟨some 2, none, .mov (.k (.p (.val (.bool true))))⟩]
def c202 : ACode := (.seq (.reg c202r0) (.seq (.seq (.reg c202r1) (.cond (.t 8) (.seq (.reg c202r2) .ret) .skip)) (.seq (.seq (.reg c202r3) (.block 0 (.loop c202l16))) (.seq (.reg c202r17) .ret))))
theorem c202_eq : (Tryz.f202.body).map (tr Tryz.prog gls 51) = some c202 := by kernel_rfl
theorem k202 {S : Am.Spec} (hargs : ∀ rs φ K, S rs φ K → rs.length ≤ 51) (h : Shows Tryz.prog gls c202 [.t 2] S) : Snd Tryz.prog gls 202 S :=
  snd_code Tryz.func202 c202_eq (by kernel_rfl) (by kernel_rfl) Tryz.ntmps202 hargs h
-- 162 bursar/quant.Valid (40 slots, 1 parameters)
def c162r0 : List AOper := [
  ⟨some 2, none, .mov (.k (.p (.val (.int .i64 0))))⟩]
def c162r1 : List AOper := [
  ⟨some 5, none, .mov (.t 0)⟩,
  ⟨some 6, none, .len (.t 5)⟩,
  ⟨some 7, none, .bin .gtr 3 (.t 6) (.k (.p (.val (.int .i64 16))))⟩]
def c162r2 : List AOper := [
  ⟨some 2, none, .mov (.k (.p (.val (.int .i64 23))))⟩]
def c162r3 : List AOper := [
  ⟨some 8, none, .mov (.t 0)⟩,
  ⟨some 9, none, .len (.t 8)⟩,
  ⟨some 10, none, .mov (.k (.p (.val (.int .i64 0))))⟩]
def c162r4 : List AOper := [
  ⟨some 11, none, .bin .lss 3 (.t 10) (.t 9)⟩]
def c162r5 : List AOper := [
  ⟨some 12, none, .mov (.t 10)⟩,
  ⟨some 13, none, .iad 2 (.t 8) (.t 10)⟩,
  ⟨some 14, none, .load true 2 (.t 13)⟩,
  ⟨some 4, none, .alloc [(.val (.string ⟨#[]⟩)), (.val (.int .i64 0))]⟩,
  ⟨some 3, none, .mov (.t 12)⟩,
  ⟨none, none, .store 2 (.t 4) (.t 14)⟩]
def c162r6 : List AOper := [
  ⟨some 15, none, .fad 0 (.t 4)⟩,
  ⟨some 16, none, .load false 1 (.t 15)⟩,
  ⟨some 17, none, .callq 202 [(.t 16)]⟩,
  ⟨some 18, none, .un .not (.t 17)⟩,
  ⟨some 19, none, .mov (.t 18)⟩,
  ⟨some 20, some (19, false), .fad 1 (.t 4)⟩,
  ⟨some 21, some (19, false), .load false 1 (.t 20)⟩,
  ⟨some 22, some (19, false), .bin .lss 2 (.t 21) (.k (.p (.val (.int .i64 0))))⟩,
  ⟨some 23, none, .pick (.t 19) (.k (.p (.val (.bool true)))) (.t 22)⟩,
  ⟨some 24, none, .mov (.t 23)⟩,
  ⟨some 25, some (24, false), .mov (.t 3)⟩,
  ⟨some 26, some (24, false), .bin .gtr 3 (.t 25) (.k (.p (.val (.int .i64 0))))⟩,
  ⟨some 27, some (24, false), .mov (.t 26)⟩,
  ⟨some 28, some (27, true), .fad 0 (.t 4)⟩,
  ⟨some 29, some (27, true), .load false 1 (.t 28)⟩,
  ⟨some 30, some (27, true), .mov (.t 0)⟩,
  ⟨some 31, some (27, true), .mov (.t 3)⟩,
  ⟨some 32, some (27, true), .bin .sub 3 (.t 31) (.k (.p (.val (.int .i64 1))))⟩,
  ⟨some 33, some (27, true), .iad 2 (.t 30) (.t 32)⟩,
  ⟨some 34, some (27, true), .fad 0 (.t 33)⟩,
  ⟨some 35, some (27, true), .load false 1 (.t 34)⟩,
  ⟨some 36, some (27, true), .bin .leq 9 (.t 29) (.t 35)⟩,
  ⟨some 37, some (24, false), .pick (.t 27) (.t 36) (.k (.p (.val (.bool false))))⟩,
  ⟨some 38, none, .pick (.t 24) (.k (.p (.val (.bool true)))) (.t 37)⟩]
def c162r7 : List AOper := [
  ⟨some 2, none, .mov (.k (.p (.val (.int .i64 31))))⟩]
def c162r8 : List AOper := [
  ⟨some 39, none, .bin .add 3 (.t 10) (.k (.p (.val (.int .i64 1))))⟩,
  ⟨some 10, none, .mov (.t 39)⟩]
def c162l9 : ACode := (.seq (.reg c162r4) (.seq (.cond (.t 11) .skip (.exit 0)) (.seq (.block 1 (.seq (.reg c162r5) (.seq (.reg c162r6) (.cond (.t 38) (.seq (.reg c162r7) .ret) .skip)))) (.reg c162r8))))
def c162r10 : List AOper := [
  ⟨some 2, none, .mov (.k (.p (.val (.int .i64 0))))⟩]
def c162 : ACode := (.seq (.reg c162r0) (.seq (.seq (.reg c162r1) (.cond (.t 7) (.seq (.reg c162r2) .ret) .skip)) (.seq (.seq (.reg c162r3) (.block 0 (.loop c162l9))) (.seq (.reg c162r10) .ret))))
theorem c162_eq : (Tryz.f162.body).map (tr Tryz.prog gls 40) = some c162 := by kernel_rfl
theorem k162 {S : Am.Spec} (hargs : ∀ rs φ K, S rs φ K → rs.length ≤ 40) (h : Shows Tryz.prog gls c162 [.t 2] S) : Snd Tryz.prog gls 162 S :=
  snd_code Tryz.func162 c162_eq (by kernel_rfl) (by kernel_rfl) Tryz.ntmps162 hargs h
-- 211 bursar/object.resource (8 slots, 1 parameters)
def c211r0 : List AOper := [
  ⟨some 2, none, .mov (.k (.p (.val (.bool false))))⟩]
def c211r1 : List AOper := [
  ⟨some 3, none, .mov (.t 0)⟩,
  ⟨some 4, none, .build [(.val (.string ⟨#[]⟩)), (.val (.int .i64 0))] [(0, 1, (.t 3))]⟩,
  ⟨some 5, none, .bslice 76 2 1 [(.val (.string ⟨#[]⟩)), (.val (.int .i64 0))] [(0, 2, (.t 4))]⟩,
  ⟨some 6, none, .call 162 [(.t 5)]⟩,
  ⟨some 7, none, .bin .eql 38 (.t 6) (.k (.p (.val (.int .i64 0))))⟩,
  ⟨some 2, none, .mov (.t 7)⟩]
def c211 : ACode := (.seq (.reg c211r0) (.seq (.reg c211r1) .ret))
theorem c211_eq : (Tryz.f211.body).map (tr Tryz.prog gls 8) = some c211 := by kernel_rfl
theorem k211 {S : Am.Spec} (hargs : ∀ rs φ K, S rs φ K → rs.length ≤ 8) (h : Shows Tryz.prog gls c211 [.t 2] S) : Snd Tryz.prog gls 211 S :=
  snd_code Tryz.func211 c211_eq (by kernel_rfl) (by kernel_rfl) Tryz.ntmps211 hargs h
-- 187 bursar/object.hard (25 slots, 1 parameters)
def c187r0 : List AOper := [
  ⟨some 2, none, .mov (.k (.p (.val (.bool false))))⟩]
def c187r1 : List AOper := [
  ⟨some 7, none, .mov (.t 0)⟩,
  ⟨some 8, none, .bin .eql 9 (.t 7) (.k (.p (.val (.string ⟨#[99, 111, 117, 110, 116]⟩))))⟩]
def c187r2 : List AOper := [
  ⟨some 2, none, .mov (.k (.p (.val (.bool true))))⟩]
def c187r3 : List AOper := [
  ⟨some 9, none, .bslice 9 1 2 [(.val (.string ⟨#[]⟩))] [(0, 1, (.k (.p (.val (.string ⟨#[114, 101, 113, 117, 101, 115, 116, 115, 46]⟩))))), (1, 1, (.k (.p (.val (.string ⟨#[108, 105, 109, 105, 116, 115, 46]⟩)))))]⟩,
  ⟨some 10, none, .len (.t 9)⟩,
  ⟨some 11, none, .mov (.k (.p (.val (.int .i64 0))))⟩]
def c187r4 : List AOper := [
  ⟨some 12, none, .bin .lss 3 (.t 11) (.t 10)⟩]
def c187r5 : List AOper := [
  ⟨some 13, none, .iad 1 (.t 9) (.t 11)⟩,
  ⟨some 14, none, .load false 1 (.t 13)⟩,
  ⟨some 4, none, .mov (.t 14)⟩]
def c187r6 : List AOper := [
  ⟨some 16, none, .mov (.t 0)⟩,
  ⟨some 17, none, .mov (.t 4)⟩,
  ⟨some 18, none, .call 144 [(.t 16), (.t 17)]⟩,
  ⟨some 15, none, .mov (.t 18)⟩,
  ⟨some 19, none, .ext (.t 15) 0⟩,
  ⟨some 20, none, .ext (.t 15) 1⟩,
  ⟨some 5, none, .mov (.t 19)⟩,
  ⟨some 6, none, .mov (.t 20)⟩]
def c187r7 : List AOper := [
  ⟨some 21, none, .mov (.t 6)⟩]
def c187r8 : List AOper := [
  ⟨some 22, none, .mov (.t 5)⟩,
  ⟨some 23, none, .call 211 [(.t 22)]⟩,
  ⟨some 2, none, .mov (.t 23)⟩]
def c187r9 : List AOper := [
  ⟨some 24, none, .bin .add 3 (.t 11) (.k (.p (.val (.int .i64 1))))⟩,
  ⟨some 11, none, .mov (.t 24)⟩]
def c187l10 : ACode := (.seq (.reg c187r4) (.seq (.cond (.t 12) .skip (.exit 0)) (.seq (.block 1 (.seq (.reg c187r5) (.seq (.reg c187r6) (.seq (.reg c187r7) (.cond (.t 21) (.seq (.reg c187r8) .ret) .skip))))) (.reg c187r9))))
def c187r11 : List AOper := [
  ⟨some 2, none, .mov (.k (.p (.val (.bool false))))⟩]
def c187 : ACode := (.seq (.reg c187r0) (.seq (.seq (.reg c187r1) (.cond (.t 8) (.seq (.reg c187r2) .ret) .skip)) (.seq (.seq (.reg c187r3) (.block 0 (.loop c187l10))) (.seq (.reg c187r11) .ret))))
theorem c187_eq : (Tryz.f187.body).map (tr Tryz.prog gls 25) = some c187 := by kernel_rfl
theorem k187 {S : Am.Spec} (hargs : ∀ rs φ K, S rs φ K → rs.length ≤ 25) (h : Shows Tryz.prog gls c187 [.t 2] S) : Snd Tryz.prog gls 187 S :=
  snd_code Tryz.func187 c187_eq (by kernel_rfl) (by kernel_rfl) Tryz.ntmps187 hargs h
-- 31 bursar/label.Under (26 slots, 2 parameters)
def c31r0 : List AOper := [
  ⟨some 4, none, .mov (.k (.p (.val (.bool false))))⟩]
def c31r1 : List AOper := [
  ⟨some 5, none, .mov (.t 0)⟩,
  ⟨some 6, none, .call 73 [(.t 5)]⟩,
  ⟨some 7, none, .bin .neq 38 (.t 6) (.k (.p (.val (.int .i64 0))))⟩,
  ⟨some 8, none, .mov (.t 7)⟩,
  ⟨some 9, some (8, false), .mov (.t 1)⟩,
  ⟨some 10, some (8, false), .call 73 [(.t 9)]⟩,
  ⟨some 11, some (8, false), .bin .neq 38 (.t 10) (.k (.p (.val (.int .i64 0))))⟩,
  ⟨some 12, none, .pick (.t 8) (.k (.p (.val (.bool true)))) (.t 11)⟩]
def c31r2 : List AOper := [
  ⟨some 4, none, .mov (.k (.p (.val (.bool false))))⟩]
def c31r3 : List AOper := [
  ⟨some 13, none, .mov (.t 1)⟩,
  ⟨some 14, none, .bin .eql 9 (.t 13) (.k (.p (.val (.string ⟨#[47]⟩))))⟩,
  ⟨some 15, none, .mov (.t 14)⟩,
  ⟨some 16, some (15, false), .mov (.t 0)⟩,
  ⟨some 17, some (15, false), .mov (.t 1)⟩,
  ⟨some 18, some (15, false), .bin .eql 9 (.t 16) (.t 17)⟩,
  ⟨some 19, none, .pick (.t 15) (.k (.p (.val (.bool true)))) (.t 18)⟩,
  ⟨some 20, none, .mov (.t 19)⟩,
  ⟨some 21, some (20, false), .mov (.t 0)⟩,
  ⟨some 22, some (20, false), .mov (.t 1)⟩,
  ⟨some 23, some (20, false), .bin .add 9 (.t 22) (.k (.p (.val (.string ⟨#[47]⟩))))⟩,
  ⟨some 24, some (20, false), .call 74 [(.t 21), (.t 23)]⟩,
  ⟨some 25, none, .pick (.t 20) (.k (.p (.val (.bool true)))) (.t 24)⟩,
  ⟨some 4, none, .mov (.t 25)⟩]
def c31 : ACode := (.seq (.reg c31r0) (.seq (.seq (.reg c31r1) (.cond (.t 12) (.seq (.reg c31r2) .ret) .skip)) (.seq (.reg c31r3) .ret)))
theorem c31_eq : (Tryz.f31.body).map (tr Tryz.prog gls 26) = some c31 := by kernel_rfl
theorem k31 {S : Am.Spec} (hargs : ∀ rs φ K, S rs φ K → rs.length ≤ 26) (h : Shows Tryz.prog gls c31 [.t 4] S) : Snd Tryz.prog gls 31 S :=
  snd_code Tryz.func31 c31_eq (by kernel_rfl) (by kernel_rfl) Tryz.ntmps31 hargs h
-- 138 bursar/label.Line (22 slots, 1 parameters)
def c138r0 : List AOper := [
  ⟨some 2, none, .mov (.k (.p (.val (.slice none 0 0))))⟩,
  ⟨some 3, none, .mov (.k (.p (.val (.int .i64 0))))⟩]
def c138r1 : List AOper := [
  ⟨some 6, none, .mov (.t 0)⟩,
  ⟨some 7, none, .call 73 [(.t 6)]⟩,
  ⟨some 4, none, .mov (.t 7)⟩]
def c138r2 : List AOper := [
  ⟨some 8, none, .mov (.t 4)⟩,
  ⟨some 9, none, .bin .neq 38 (.t 8) (.k (.p (.val (.int .i64 0))))⟩]
def c138r3 : List AOper := [
  ⟨some 10, none, .mov (.t 4)⟩,
  ⟨some 2, none, .mov (.k (.p (.val (.slice none 0 0))))⟩,
  ⟨some 3, none, .mov (.t 10)⟩]
def c138r4 : List AOper := [
  ⟨some 11, none, .mov (.t 0)⟩,
  ⟨some 12, none, .bslice 9 1 1 [(.val (.string ⟨#[]⟩))] [(0, 1, (.t 11))]⟩,
  ⟨some 5, none, .mov (.t 12)⟩]
def c138r5 : List AOper := [
  ⟨some 13, none, .mov (.t 0)⟩,
  ⟨some 14, none, .bin .neq 9 (.t 13) (.k (.p (.val (.string ⟨#[47]⟩))))⟩]
def c138r6 : List AOper := [
  ⟨some 15, none, .mov (.t 0)⟩,
  ⟨some 16, none, .call 189 [(.t 15)]⟩,
  ⟨some 0, none, .mov (.t 16)⟩]
def c138r7 : List AOper := [
  ⟨some 17, none, .mov (.t 5)⟩,
  ⟨some 18, none, .mov (.t 0)⟩,
  ⟨some 19, none, .bslice 9 1 1 [(.val (.string ⟨#[]⟩))] [(0, 1, (.t 18))]⟩,
  ⟨some 20, none, .app 9 1 16 (.t 17) (.t 19)⟩,
  ⟨some 5, none, .mov (.t 20)⟩]
def c138l8 : ACode := (.seq (.seq (.reg c138r5) (.cond (.t 14) .skip (.exit 0))) (.block 1 (.seq (.reg c138r6) (.reg c138r7))))
def c138r9 : List AOper := [
  ⟨some 21, none, .mov (.t 5)⟩,
  ⟨some 2, none, .mov (.t 21)⟩,
  ⟨some 3, none, .mov (.k (.p (.val (.int .i64 0))))⟩]
def c138 : ACode := (.seq (.reg c138r0) (.seq (.seq (.reg c138r1) (.seq (.reg c138r2) (.cond (.t 9) (.seq (.reg c138r3) .ret) .skip))) (.seq (.reg c138r4) (.seq (.block 0 (.loop c138l8)) (.seq (.reg c138r9) .ret)))))
theorem c138_eq : (Tryz.f138.body).map (tr Tryz.prog gls 22) = some c138 := by kernel_rfl
theorem k138 {S : Am.Spec} (hargs : ∀ rs φ K, S rs φ K → rs.length ≤ 22) (h : Shows Tryz.prog gls c138 [.t 2, .t 3] S) : Snd Tryz.prog gls 138 S :=
  snd_code Tryz.func138 c138_eq (by kernel_rfl) (by kernel_rfl) Tryz.ntmps138 hargs h
-- 189 bursar/label.above (8 slots, 1 parameters)
def c189r0 : List AOper := [
  ⟨some 2, none, .mov (.k (.p (.val (.string ⟨#[]⟩))))⟩]
def c189r1 : List AOper := [
  ⟨some 3, none, .mov (.t 0)⟩,
  ⟨some 4, none, .mov (.t 0)⟩,
  ⟨some 5, none, .call 212 [(.t 4), (.k (.p (.val (.string ⟨#[47]⟩))))]⟩,
  ⟨some 6, none, .mm true (.k (.p (.val (.int .i64 1)))) (.t 5)⟩,
  ⟨some 7, none, .slcs (.t 3) none (some (.t 6))⟩,
  ⟨some 2, none, .mov (.t 7)⟩]
def c189 : ACode := (.seq (.reg c189r0) (.seq (.reg c189r1) .ret))
theorem c189_eq : (Tryz.f189.body).map (tr Tryz.prog gls 8) = some c189 := by kernel_rfl
theorem k189 {S : Am.Spec} (hargs : ∀ rs φ K, S rs φ K → rs.length ≤ 8) (h : Shows Tryz.prog gls c189 [.t 2] S) : Snd Tryz.prog gls 189 S :=
  snd_code Tryz.func189 c189_eq (by kernel_rfl) (by kernel_rfl) Tryz.ntmps189 hargs h
end Go.Proofs.YtnjblinbdimkjaaGreatDoor

namespace Go.Proofs.YtnjblinbdimkjaaGreatDoor
open Go Go.Am
set_option linter.unusedSimpArgs false

/-- a byte of a string -/
def byteI (s : ByteArray) (i : Nat) : Int := ((s.get! i).toNat : Int)
def chOK (c : Int) : Bool := plainF c || decide (c = 45)
theorem chHigh {c : Int} (h : 128 ≤ c) : chOK c = false := by
  have a : ¬ c ≤ 122 := by omega
  have b : ¬ c ≤ 57 := by omega
  have d : ¬ c = 45 := by omega
  simp [chOK, plainF, a, b, d]
/-- label.Name -/
def nameF (s : ByteArray) : Bool := decide (1 ≤ s.size) && decide (s.size ≤ 32) && !decide (byteI s 0 = 45) && !decide (byteI s (s.size - 1) = 45) && (List.range s.size).all fun i => chOK (byteI s i)

theorem decode_low {s : ByteArray} {i : Nat} (h : (s.get! i).toNat < 128) : Utf8.decode s i = ((s.get! i).toNat, 1) := by
  have e : s.get! (i + 0) = s.get! i := rfl
  simp only [Utf8.decode, e]
  rw [if_pos (by omega)]
theorem decode_high {s : ByteArray} {i : Nat} (h : ¬ (s.get! i).toNat < 128) : 128 ≤ (Utf8.decode s i).1 := by
  have e : s.get! (i + 0) = s.get! i := rfl
  simp only [Utf8.decode, e]
  rw [if_neg (by omega)]
  repeat' split
  all_goals (simp only [Utf8.runeError, ge_iff_le, Bool.and_eq_true, decide_eq_true_eq] at *; omega)
def SStrB (f : ByteArray → Bool) : Am.Spec := fun rs φ K => ∃ s : ByteArray, rs = [rS s] ∧ K (.one (rB (f s))) φ
theorem d159 : Snd Tryz.prog gls 159 (SStrB nameF) := by
  refine Snd.drop (S := fun rs φ K => ∃ s : ByteArray, rs = [rS s] ∧ ∀ φ', Drops φ' φ → K (.one (rB (nameF s))) φ') ?_ (by rintro rs φ K ⟨s, rfl, hK⟩; exact ⟨s, rfl, fun φ' hd => ⟨φ, hd, hK⟩⟩)
  refine k159 (by rintro rs φ K ⟨s, rfl, -⟩; simp) ?_
  rintro rs φ K ⟨s, rfl, hK⟩
  simp -implicitDefEqProofs only [go_sem, Nat.reduceBEq, Nat.reduceAdd, c159, c159r0, c159r1, c159r2, c159r3, decide_eq_true_eq, decide_eq_false_iff_not]
  have no : nameF s = false → ∀ φ', Drops φ' φ → K (.one (rB false)) φ' := fun e φ' hd => by have := hK φ' hd; rwa [e] at this
  have dr := Drops.refl φ
  refine ⟨fun a1 => ⟨fun a2 => ⟨by omega, by omega, fun a3 => ?_, fun a3 => no ?_ φ dr⟩, fun a2 => no ?_ φ dr⟩, fun a1 => no ?_ φ dr⟩
  · have hw : IntKind.i64.wrap ((s.size : Int) - 1) = ((s.size - 1 : Nat) : Int) := by rw [Am.wrap_small (by omega) (by omega)]; omega
    rw [hw]
    simp only [Int.toNat_natCast]
    refine ⟨by omega, by omega, fun a4 => no ?_ φ dr, fun a4 => ?_⟩
    · simp [nameF, byteI, a4]
    · refine primS_of (range_str (by exact Tryz.underlying9)) ⟨s, rfl, fun b => ?_⟩
      simp -implicitDefEqProofs only [go_sem, Nat.reduceBEq, Nat.reduceAdd]
      refine inv_loop (X := Nat) (fun p => p ≤ s.size ∧ ∀ i, i < p → chOK (byteI s i) = true) (fun p => ⟨[(0, vS s), (27, .p (.val (.pointer (some ⟨b, 0, none⟩))))], [], [], (Res.iter b s p).sep φ⟩) (fun p => s.size - p) 0 ⟨by omega, fun i hi => by omega⟩ ?_ ?_
      · refine Gho.sub ?_ ?_ ?_ ?_ rfl
        · simp [subFr, go_sem, leAV]
        · simp [subB]
        · simp [subB]
        · simp [refsOK]
      · rintro p Q' ⟨hp, hall⟩ hn hq
        simp -implicitDefEqProofs only [go_sem, Nat.reduceBEq, Nat.reduceAdd, c159l8, c159r4]
        refine primS_of next_str ⟨b, s, p, φ, rfl, rfl, fun hlt => ?_, fun hge => ?_⟩
        · simp -implicitDefEqProofs only [go_sem, Nat.reduceBEq, Nat.reduceAdd, c159r5, c159r6, c159r7, List.getElem?_cons_zero, List.getElem?_cons_succ]
          refine callS_of d200 ⟨_, rfl, ?_⟩
          simp -implicitDefEqProofs only [go_sem, Nat.reduceBEq, Nat.reduceAdd]
          have bad : chOK (byteI s p) = false → nameF s = false := fun h => by
            unfold nameF
            have : (List.range s.size).all (fun i => chOK (byteI s i)) = false := by
              rw [List.all_eq_false]
              exact ⟨p, by simpa using hlt, by simp [h]⟩
            simp [this]
          have good : ∀ fr, subFr fr [(0, vS s), (27, .p (.val (.pointer (some ⟨b, 0, none⟩))))] → chOK (byteI s p) = true → (Utf8.decode s p).2 = 1 → Q' .normal ⟨fr, [], [], (Res.iter b s (p + (Utf8.decode s p).2)).sep φ⟩ := fun fr hs h h1 => by
            rw [h1]
            refine hn _ (p + 1) ⟨by omega, fun i hi => ?_⟩ (by omega) (Gho.sub hs trivial trivial (by simp [refsOK]) rfl)
            by_cases e : i = p
            · subst e; exact h
            · exact hall i (by omega)
          have hc : (chOK (((Utf8.decode s p).1 : Nat) : Int) = true → chOK (byteI s p) = true ∧ (Utf8.decode s p).2 = 1) ∧ (chOK (((Utf8.decode s p).1 : Nat) : Int) = false → chOK (byteI s p) = false) := by
            by_cases hl : (s.get! p).toNat < 128
            · rw [decode_low hl]; exact ⟨fun h => ⟨h, rfl⟩, fun h => h⟩
            · have h1 := decode_high hl
              have f1 : chOK (((Utf8.decode s p).1 : Nat) : Int) = false := chHigh (by omega)
              have f2 : chOK (byteI s p) = false := chHigh (by simp only [byteI]; omega)
              rw [f1, f2]; simp
          refine ⟨fun g1 => ⟨fun g2 => ?_, fun g2 => ?_⟩, fun g1 => ?_⟩
          · have hb : nameF s = false := bad (hc.2 (by simp at g1 g2; simp [chOK, g1]; omega))
            refine hq _ _ (by simp) ?_
            simp -implicitDefEqProofs only [go_sem, Nat.reduceBEq]
            exact no hb _ (Drops.sep _ φ)
          · obtain ⟨h1, h2⟩ := hc.1 (by simp at g2; simp [chOK]; omega)
            exact good _ (by simp [subFr, go_sem, leAV]) h1 h2
          · obtain ⟨h1, h2⟩ := hc.1 (by simp at g1; simp [chOK, g1])
            exact good _ (by simp [subFr, go_sem, leAV]) h1 h2
        · simp -implicitDefEqProofs only [go_sem, Nat.reduceBEq, Nat.reduceAdd, List.getElem?_cons_zero, List.getElem?_cons_succ]
          refine hq _ _ (by simp) ?_
          simp -implicitDefEqProofs only [go_sem, Nat.reduceBEq, Nat.reduceAdd, c159r9]
          have : nameF s = true := by
            have h1 : (List.range s.size).all (fun i => chOK (byteI s i)) = true := by
              rw [List.all_eq_true]; intro i hi; rw [List.mem_range] at hi; exact hall i (by omega)
            have a3' : ¬ byteI s 0 = 45 := a3
            have a4' : ¬ byteI s (s.size - 1) = 45 := a4
            simp only [nameF, h1, a3', a4', decide_false, Bool.not_false, Bool.and_true, Bool.and_eq_true, decide_eq_true_eq]; omega
          have hk := hK _ (Drops.sep (Res.iter b s p) φ)
          rwa [this] at hk
  · have a3' : byteI s 0 = 45 := a3
    simp [nameF, a3']
  · simp [nameF]; omega
  · simp [nameF]; omega
end Go.Proofs.YtnjblinbdimkjaaGreatDoor

/-
  DERIVED: THE SHELF's CONTRACTS AT THIS DUMP, IN PLAIN WORDS (tools/lay-plain.mjs out of 'TryzShelf.lean', which tools/lay-shelf.mjs wrote): THE SAME DECLARATIONS UNDER THE SAME NAMES: 'import', 'namespace', 'open', 'def', 'theorem' AND NOTHING ELSE: no command of the shelf's: FOR A HAND-IN. Each laying: the table of numbers ('.._ren') and one theorem, a field a fact of the dump's own or the kernel's comparison; each contract: ONE APPLICATION.
-/
namespace Go.Proofs
open Go.Shelf
def Tryz.lays106_ren : Go.Shelf.Ren := ⟨fun | 106 => 68 | 213 => 122 | 265 => 179 | n => n, fun | 9 => 9 | 3 => 3 | n => n, fun | n => n⟩
theorem Tryz.lays106 : Go.Proofs.Lays.n106 Tryz.prog Tryz.lays106_ren := {
  mixed := by kernel_rfl
  f106 := Tryz.func68.trans (congrArg some (by kernel_rfl))
  f213 := Tryz.func122.trans (congrArg some (by kernel_rfl))
  f265 := Tryz.func179.trans (congrArg some (by kernel_rfl))
  t3 := Tryz.underlying3
  a3 := Tryz.isAgg3
  z3 := Tryz.sizeOf3
  v3 := Tryz.zeroValue3
  t9 := Tryz.underlying9
  a9 := Tryz.isAgg9
  z9 := Tryz.sizeOf9
  v9 := Tryz.zeroValue9 }
def Tryz.lays221_ren : Go.Shelf.Ren := ⟨fun | 221 => 208 | 268 => 216 | 138 => 217 | 143 => 218 | 195 => 222 | 197 => 223 | 218 => 224 | 219 => 225 | 260 => 228 | 217 => 229 | 225 => 230 | 224 => 231 | 267 => 232 | 266 => 233 | 314 => 234 | n => n, fun | 9 => 9 | 3 => 3 | 31 => 142 | 4 => 4 | 0 => 0 | 105 => 263 | 21 => 21 | 5 => 5 | 46 => 52 | 119 => 268 | 139 => 271 | 138 => 270 | 146 => 265 | 51 => 235 | n => n, fun | 1 => 2 | 3 => 3 | 4 => 4 | n => n⟩
theorem Tryz.lays221 : Go.Proofs.Lays.n221 Tryz.prog Tryz.lays221_ren := {
  mixed := by kernel_rfl
  f138 := Tryz.func217.trans (congrArg some (by kernel_rfl))
  f143 := Tryz.func218.trans (congrArg some (by kernel_rfl))
  f195 := Tryz.func222.trans (congrArg some (by kernel_rfl))
  f197 := Tryz.func223.trans (congrArg some (by kernel_rfl))
  f217 := Tryz.func229.trans (congrArg some (by kernel_rfl))
  f218 := Tryz.func224.trans (congrArg some (by kernel_rfl))
  f219 := Tryz.func225.trans (congrArg some (by kernel_rfl))
  f221 := Tryz.func208.trans (congrArg some (by kernel_rfl))
  f224 := Tryz.func231.trans (congrArg some (by kernel_rfl))
  f225 := Tryz.func230.trans (congrArg some (by kernel_rfl))
  f260 := Tryz.func228.trans (congrArg some (by kernel_rfl))
  f266 := Tryz.func233.trans (congrArg some (by kernel_rfl))
  f267 := Tryz.func232.trans (congrArg some (by kernel_rfl))
  f268 := Tryz.func216.trans (congrArg some (by kernel_rfl))
  f314 := Tryz.func234.trans (congrArg some (by kernel_rfl))
  t0 := Tryz.underlying0
  a0 := Tryz.isAgg0
  z0 := Tryz.sizeOf0
  v0 := Tryz.zeroValue0
  t3 := Tryz.underlying3
  a3 := Tryz.isAgg3
  z3 := Tryz.sizeOf3
  v3 := Tryz.zeroValue3
  t4 := Tryz.underlying4
  a4 := Tryz.isAgg4
  z4 := Tryz.sizeOf4
  v4 := Tryz.zeroValue4
  t5 := Tryz.underlying5
  a5 := Tryz.isAgg5
  z5 := Tryz.sizeOf5
  v5 := Tryz.zeroValue5
  t9 := Tryz.underlying9
  a9 := Tryz.isAgg9
  z9 := Tryz.sizeOf9
  v9 := Tryz.zeroValue9
  t21 := Tryz.underlying21
  a21 := Tryz.isAgg21
  z21 := Tryz.sizeOf21
  v21 := Tryz.zeroValue21
  t31 := Tryz.underlying142
  a31 := Tryz.isAgg142
  z31 := Tryz.sizeOf142
  v31 := Tryz.zeroValue142
  t46 := Tryz.underlying52
  a46 := Tryz.isAgg52
  z46 := Tryz.sizeOf52
  v46 := Tryz.zeroValue52
  t51 := Tryz.underlying235
  a51 := Tryz.isAgg235
  z51 := Tryz.sizeOf235
  v51 := Tryz.zeroValue235
  t105 := Tryz.underlying263
  a105 := Tryz.isAgg263
  z105 := Tryz.sizeOf263
  v105 := Tryz.zeroValue263
  t119 := Tryz.underlying268
  a119 := Tryz.isAgg268
  z119 := Tryz.sizeOf268
  t138 := Tryz.underlying270
  a138 := Tryz.isAgg270
  z138 := Tryz.sizeOf270
  v138 := Tryz.zeroValue270
  t139 := Tryz.underlying271
  a139 := Tryz.isAgg271
  z139 := Tryz.sizeOf271
  v139 := Tryz.zeroValue271
  t146 := Tryz.underlying265
  a146 := Tryz.isAgg265
  z146 := Tryz.sizeOf265
  v146 := Tryz.zeroValue265
  g1 := by kernel_rfl
  g3 := by kernel_rfl
  g4 := by kernel_rfl }
def Tryz.lays148_ren : Go.Shelf.Ren := ⟨fun | 148 => 212 | 222 => 220 | 223 => 221 | 269 => 227 | n => n, fun | 9 => 9 | 3 => 3 | 4 => 4 | 5 => 5 | 146 => 265 | 51 => 235 | 46 => 52 | n => n, fun | n => n⟩
theorem Tryz.lays148 : Go.Proofs.Lays.n148 Tryz.prog Tryz.lays148_ren := {
  mixed := by kernel_rfl
  f148 := Tryz.func212.trans (congrArg some (by kernel_rfl))
  f222 := Tryz.func220.trans (congrArg some (by kernel_rfl))
  f223 := Tryz.func221.trans (congrArg some (by kernel_rfl))
  f269 := Tryz.func227.trans (congrArg some (by kernel_rfl))
  t3 := Tryz.underlying3
  a3 := Tryz.isAgg3
  z3 := Tryz.sizeOf3
  v3 := Tryz.zeroValue3
  t4 := Tryz.underlying4
  a4 := Tryz.isAgg4
  z4 := Tryz.sizeOf4
  v4 := Tryz.zeroValue4
  t5 := Tryz.underlying5
  a5 := Tryz.isAgg5
  z5 := Tryz.sizeOf5
  v5 := Tryz.zeroValue5
  t9 := Tryz.underlying9
  a9 := Tryz.isAgg9
  z9 := Tryz.sizeOf9
  v9 := Tryz.zeroValue9
  t46 := Tryz.underlying52
  a46 := Tryz.isAgg52
  z46 := Tryz.sizeOf52
  v46 := Tryz.zeroValue52
  t51 := Tryz.underlying235
  a51 := Tryz.isAgg235
  z51 := Tryz.sizeOf235
  v51 := Tryz.zeroValue235
  t146 := Tryz.underlying265
  a146 := Tryz.isAgg265
  z146 := Tryz.sizeOf265
  v146 := Tryz.zeroValue265 }
def Tryz.lays143_ren : Go.Shelf.Ren := ⟨fun | 143 => 218 | 219 => 225 | 217 => 229 | 225 => 230 | 224 => 231 | 267 => 232 | 266 => 233 | 314 => 234 | n => n, fun | 9 => 9 | 3 => 3 | 4 => 4 | 5 => 5 | 46 => 52 | 146 => 265 | 51 => 235 | n => n, fun | 1 => 2 | n => n⟩
theorem Tryz.lays143 : Go.Proofs.Lays.n143 Tryz.prog Tryz.lays143_ren := {
  mixed := by kernel_rfl
  f143 := Tryz.func218.trans (congrArg some (by kernel_rfl))
  f217 := Tryz.func229.trans (congrArg some (by kernel_rfl))
  f219 := Tryz.func225.trans (congrArg some (by kernel_rfl))
  f224 := Tryz.func231.trans (congrArg some (by kernel_rfl))
  f225 := Tryz.func230.trans (congrArg some (by kernel_rfl))
  f266 := Tryz.func233.trans (congrArg some (by kernel_rfl))
  f267 := Tryz.func232.trans (congrArg some (by kernel_rfl))
  f314 := Tryz.func234.trans (congrArg some (by kernel_rfl))
  t3 := Tryz.underlying3
  a3 := Tryz.isAgg3
  z3 := Tryz.sizeOf3
  v3 := Tryz.zeroValue3
  t4 := Tryz.underlying4
  a4 := Tryz.isAgg4
  z4 := Tryz.sizeOf4
  v4 := Tryz.zeroValue4
  t5 := Tryz.underlying5
  a5 := Tryz.isAgg5
  z5 := Tryz.sizeOf5
  v5 := Tryz.zeroValue5
  t9 := Tryz.underlying9
  a9 := Tryz.isAgg9
  z9 := Tryz.sizeOf9
  v9 := Tryz.zeroValue9
  t46 := Tryz.underlying52
  a46 := Tryz.isAgg52
  z46 := Tryz.sizeOf52
  v46 := Tryz.zeroValue52
  t51 := Tryz.underlying235
  a51 := Tryz.isAgg235
  z51 := Tryz.sizeOf235
  v51 := Tryz.zeroValue235
  t146 := Tryz.underlying265
  a146 := Tryz.isAgg265
  z146 := Tryz.sizeOf265
  v146 := Tryz.zeroValue265
  g1 := by kernel_rfl }
def Tryz.lays138_ren : Go.Shelf.Ren := ⟨fun | 138 => 217 | 195 => 222 | 218 => 224 | 143 => 218 | 219 => 225 | 217 => 229 | 225 => 230 | 224 => 231 | 267 => 232 | 266 => 233 | 314 => 234 | n => n, fun | 9 => 9 | 3 => 3 | 4 => 4 | 5 => 5 | 0 => 0 | 46 => 52 | 146 => 265 | 51 => 235 | n => n, fun | 1 => 2 | n => n⟩
theorem Tryz.lays138 : Go.Proofs.Lays.n138 Tryz.prog Tryz.lays138_ren := {
  mixed := by kernel_rfl
  f138 := Tryz.func217.trans (congrArg some (by kernel_rfl))
  f143 := Tryz.func218.trans (congrArg some (by kernel_rfl))
  f195 := Tryz.func222.trans (congrArg some (by kernel_rfl))
  f217 := Tryz.func229.trans (congrArg some (by kernel_rfl))
  f218 := Tryz.func224.trans (congrArg some (by kernel_rfl))
  f219 := Tryz.func225.trans (congrArg some (by kernel_rfl))
  f224 := Tryz.func231.trans (congrArg some (by kernel_rfl))
  f225 := Tryz.func230.trans (congrArg some (by kernel_rfl))
  f266 := Tryz.func233.trans (congrArg some (by kernel_rfl))
  f267 := Tryz.func232.trans (congrArg some (by kernel_rfl))
  f314 := Tryz.func234.trans (congrArg some (by kernel_rfl))
  t0 := Tryz.underlying0
  a0 := Tryz.isAgg0
  z0 := Tryz.sizeOf0
  v0 := Tryz.zeroValue0
  t3 := Tryz.underlying3
  a3 := Tryz.isAgg3
  z3 := Tryz.sizeOf3
  v3 := Tryz.zeroValue3
  t4 := Tryz.underlying4
  a4 := Tryz.isAgg4
  z4 := Tryz.sizeOf4
  v4 := Tryz.zeroValue4
  t5 := Tryz.underlying5
  a5 := Tryz.isAgg5
  z5 := Tryz.sizeOf5
  v5 := Tryz.zeroValue5
  t9 := Tryz.underlying9
  a9 := Tryz.isAgg9
  z9 := Tryz.sizeOf9
  v9 := Tryz.zeroValue9
  t46 := Tryz.underlying52
  a46 := Tryz.isAgg52
  z46 := Tryz.sizeOf52
  v46 := Tryz.zeroValue52
  t51 := Tryz.underlying235
  a51 := Tryz.isAgg235
  z51 := Tryz.sizeOf235
  v51 := Tryz.zeroValue235
  t146 := Tryz.underlying265
  a146 := Tryz.isAgg265
  z146 := Tryz.sizeOf265
  v146 := Tryz.zeroValue265
  g1 := by kernel_rfl }
end Go.Proofs

namespace Go.Proofs.YtnjblinbdimkjaaGreatDoor
open Go Go.Am
set_option linter.unusedSimpArgs false

/-! ### Go's library on strings -/
theorem ent68 : Enterable Tryz.prog 68 := ⟨_, Tryz.func68, by kernel_rfl, by kernel_rfl⟩
theorem ent208 : Enterable Tryz.prog 208 := ⟨_, Tryz.func208, by kernel_rfl, by kernel_rfl⟩
theorem ent212 : Enterable Tryz.prog 212 := ⟨_, Tryz.func212, by kernel_rfl, by kernel_rfl⟩

/-- strings.Compare -/
def cmpF (a b : ByteArray) : Int := Lib.compareBytes a.data.toList b.data.toList
def S68 : Am.Spec := fun rs φ K => ∃ a b : ByteArray, rs = [rS a, rS b] ∧ K (.one (rI (cmpF a b))) φ
theorem d68 : Snd Tryz.prog gls 68 S68 := Snd.pure ent68 (by
  rintro rs φ K ⟨a, b, rfl, hK⟩
  refine ⟨_, hK, fun F vs h => ?_⟩
  obtain ⟨v, u, rfl, h1, h2⟩ := arg2 h
  rw [argV h1, argV h2]
  exact ⟨.int .i64 (cmpF a b), RepP.val rfl, fun w => Any.strings_Compare Tryz.lays106 a b w⟩)

/-- strings.LastIndex of one byte -/
def sep1 (c : UInt8) : ByteArray := ⟨#[c]⟩
def lastF (s : ByteArray) (c : UInt8) : Int := Lib.lastIndexByte s (c.toNat : Int)
def S212 : Am.Spec := fun rs φ K => ∃ (s : ByteArray) (c : UInt8), rs = [rS s, rS (sep1 c)] ∧ s.size < 4611686018427387904 ∧ K (.one (rI (lastF s c))) φ
theorem d212 : Snd Tryz.prog gls 212 S212 := Snd.pure ent212 (by
  rintro rs φ K ⟨s, c, rfl, hs, hK⟩
  refine ⟨_, hK, fun F vs h => ?_⟩
  obtain ⟨v, u, rfl, h1, h2⟩ := arg2 h
  rw [argV h1, argV h2]
  exact ⟨.int .i64 (lastF s c), RepP.val rfl, fun w => Any.strings_LastIndex_one Tryz.lays148 s (sep1 c) rfl hs w⟩)

/-- strings.Split at one byte -/
def splitF (s : ByteArray) (c : UInt8) : List ByteArray := Lib.splitB (sep1 c) 0 (Lib.countB s (sep1 c)) s
def strSl (l : List ByteArray) : PV := .sl (l.map fun p => [PV.val (.string p)]) l.length
theorem splitF_len (s : ByteArray) (c : UInt8) : (splitF s c).length = Lib.countB s (sep1 c) + 1 := Lib.splitB_all (sep1 c) (Nat.le_refl 1) 0 _ s rfl
theorem countB_one (s : ByteArray) (c : UInt8) : Lib.countB s (sep1 c) = Lib.countByte s.data.toList c := Lib.count_one c s.data.toList
theorem strs_rep {F : Facts} : ∀ (l : List ByteArray), RepL F (l.map fun p => [PV.val (.string p)]).flatten (l.map Value.string)
  | [] => .nil
  | _ :: l => .cons (.val rfl) (strs_rep l)

def S208 : Am.Spec := fun rs φ K => ∃ (s : ByteArray) (c : UInt8), rs = [rS s, rS (sep1 c), rI 0, rI (-1)] ∧ s.size < 4294967281 ∧ K (.one (.p (strSl (splitF s c)))) φ
theorem d208 : Snd Tryz.prog gls 208 S208 := Snd.newRow ent208 (by
  rintro rs φ K ⟨s, c, rfl, hs, hK⟩
  have hle := Lib.countB_le (sep1 c) (Nat.le_refl 1) s.size s (Nat.le_refl _)
  have hlen := splitF_len s c
  refine ⟨(splitF s c).map fun p => [PV.val (.string p)], 1, 9, ?_, ?_, ?_, fun F vs h => ?_⟩
  · intro e he
    obtain ⟨p, _, rfl⟩ := List.mem_map.1 he
    rfl
  · simp only [List.length_map, hlen, LIM]; omega
  · rw [List.length_map]; exact hK
  · refine ⟨(splitF s c).map Value.string, strs_rep _, fun w => ?_⟩
    have hv : vs = [.string s, .string (sep1 c), .int .i64 0, .int .i64 (-1)] := by
      cases h with
      | cons h1 t => cases t with
        | cons h2 t => cases t with
          | cons h3 t => cases t with
            | cons h4 t => cases t; rw [argV h1, argV h2, argV h3, argV h4]
    subst hv
    have hcore := Any.strings_genSplit_core Tryz.lays221 (by kernel_rfl) s (sep1 c) 0 (-1) (Lib.countB s (sep1 c) + 1) w hs (Nat.le_refl 1) (Nat.zero_le _)
      (fun x cc _ => by
        have := Any.strings_Index_one { Tryz.lays221 with } x c (w.alloc (.cells cc (Tryz.lays221_ren.t 9)))
        have e : Lib.indexB x (sep1 c) = Lib.indexByte x.data.toList c := Lib.index_one x.data.toList c
        rw [e]; exact this)
      (by rw [countB_one]; exact Any.strings_Count_one { Tryz.lays221 with } s c w)
      (by decide) (by decide) (by rw [if_pos (by decide)]; omega)
    rw [Nat.add_sub_cancel, show Lib.splitB (sep1 c) 0 (Lib.countB s (sep1 c)) s = splitF s c from rfl, ← hlen, Lib.cellsOf_full] at hcore
    rw [List.length_map]
    exact hcore)
theorem d180 : Snd Tryz.prog gls 180 (fun rs φ K => ∃ (s : ByteArray) (c : UInt8), rs = [rS s, rS (sep1 c)] ∧ s.size < 4294967281 ∧ K (.one (.p (strSl (splitF s c)))) φ) := by
  refine k180 (by rintro rs φ K ⟨s, c, rfl, -⟩; simp) ?_
  rintro rs φ K ⟨s, c, rfl, hs, hK⟩
  simp -implicitDefEqProofs only [go_sem, Nat.reduceBEq, Nat.reduceAdd, c180, c180r0, c180r1]
  refine callS_of d208 ⟨s, c, rfl, hs, ?_⟩
  simp -implicitDefEqProofs only [go_sem, Nat.reduceBEq]
  exact hK
end Go.Proofs.YtnjblinbdimkjaaGreatDoor

namespace Go.Proofs.YtnjblinbdimkjaaGreatDoor
open Go Go.Am
set_option linter.unusedSimpArgs false

/-! ### paths and labels -/
def slash : ByteArray := ⟨#[47]⟩
theorem cutF_le (s p : ByteArray) : (cutF s p).1.size ≤ s.size := by
  unfold cutF
  split
  · simp only [ByteArray.size_extract]; omega
  · exact Nat.le_refl _
theorem all_take_next {α : Type} {l : List α} {p : α → Bool} {k : Nat} {a : α} (h : (l.take k).all p = true) (ha : l[k]? = some a) (hp : p a = true) : (l.take (k + 1)).all p = true := by
  rw [List.take_add_one, ha, List.all_append, h]; simp [hp]
theorem all_of_false {α : Type} {l : List α} {p : α → Bool} {k : Nat} {a : α} (ha : l[k]? = some a) (hp : p a = false) : l.all p = false := by
  rw [List.all_eq_false]; exact ⟨a, List.mem_of_getElem? ha, by simp [hp]⟩
/-- label.Split -/
def splitPF (s : ByteArray) : List ByteArray × Int :=
  if s = slash then ([], 0) else if (cutF s slash).2 = false then ([], 41) else if 64 < s.size then ([], 41) else
    if 8 < (splitF (cutF s slash).1 47).length then ([], 41) else if (splitF (cutF s slash).1 47).all nameF then (splitF (cutF s slash).1 47, 0) else ([], 41)
def S124 : Am.Spec := fun rs φ K => ∃ s : ByteArray, rs = [rS s] ∧ K (.tup [.p (strSl (splitPF s).1), rI (splitPF s).2]) φ
theorem d124 : Snd Tryz.prog gls 124 S124 := by
  refine k124 (by rintro rs φ K ⟨s, rfl, -⟩; simp) ?_
  rintro rs φ K ⟨s, rfl, hK⟩
  have fin : ∀ l e, splitPF s = (l, e) → K (.tup [.p (strSl l), rI e]) φ := fun l e h => by rw [h] at hK; exact hK
  clear hK
  simp -implicitDefEqProofs only [go_sem, Nat.reduceBEq, Nat.reduceAdd, c124, c124r0, c124r1, c124r2, c124r3, c124r4, c124r5, c124r6, c124r7, c124r8, c124r9, decide_eq_true_eq, decide_eq_false_iff_not]
  refine ⟨fun h => fin [] 0 (by simp [splitPF, slash, h]), fun h => callS_of d144 ⟨s, slash, rfl, ?_⟩⟩
  simp -implicitDefEqProofs only [go_sem, Nat.reduceBEq, Nat.reduceAdd, List.getElem?_cons_zero, List.getElem?_cons_succ, decide_eq_true_eq, decide_eq_false_iff_not]
  simp only [Bool.not_eq_true', Bool.not_eq_false']
  have hle := cutF_le s slash
  have hs : ¬ s = slash := h
  refine ⟨fun h1 => ⟨fun h2 => fin [] 41 ?_, fun h2 => callS_of d180 ⟨_, 47, rfl, by omega, ?_⟩⟩, fun h1 => fin [] 41 ?_⟩
  · have h2' : 64 < s.size := by omega
    unfold splitPF; rw [if_neg hs, if_neg (by rw [h1]; decide), if_pos h2']
  · generalize hl : splitF (cutF s slash).1 47 = l
    simp -implicitDefEqProofs only [go_sem, Nat.reduceBEq, Nat.reduceAdd, strSl, decide_eq_true_eq, decide_eq_false_iff_not]
    have h2' : ¬ 64 < s.size := by omega
    intro hlim
    refine ⟨fun h3 => fin [] 41 ?_, fun h3 _ => ?_⟩
    · have h3' : 8 < l.length := by omega
      unfold splitPF; rw [if_neg hs, if_neg (by rw [h1]; decide), if_neg h2', hl, if_pos h3']
    · have h3' : ¬ 8 < l.length := by omega
      refine range_loop rfl (by decide) l.length hlim (fun _ => [(28, .p (strSl l)), (6, .p (strSl l))]) (fun _ => []) (fun _ => []) (fun _ => φ) (fun k => (l.take k).all nameF = true) (Gho.sub ?_ trivial trivial ?_ rfl) (by simp) ?_ ?_
      · simp [subFr, go_sem, leAV, headSt, strSl]
      · simp [refsOK, headSt]
      · intro k Q' hk hI hn hc hq
        obtain ⟨p, hp⟩ : ∃ p, l[k]? = some p := ⟨l[k], by simp [hk]⟩
        simp -implicitDefEqProofs only [go_sem, Nat.reduceBEq, Nat.reduceAdd, c124r11, c124r12, c124r13, strSl, Int.toNat_natCast, List.getElem?_map, hp, Option.map_some, Option.some.injEq, exists_eq_left', List.length_cons, List.length_nil, Nat.le_refl, true_and]
        refine ⟨by omega, by omega, callS_of d159 ⟨p, rfl, ?_⟩⟩
        simp -implicitDefEqProofs only [go_sem, Nat.reduceBEq, Nat.reduceAdd, Bool.not_eq_true', Bool.not_eq_false']
        refine ⟨fun hb => hq _ _ (by simp) (by simp) ?_, fun hb => hn _ (all_take_next hI hp hb) ⟨by simp only [go_sem, Nat.reduceBEq], Gho.sub ?_ trivial trivial ?_ rfl⟩⟩
        · simp -implicitDefEqProofs only [go_sem, Nat.reduceBEq, Nat.reduceAdd]
          refine fin [] 41 ?_
          have := all_of_false hp hb
          unfold splitPF; rw [if_neg hs, if_neg (by rw [h1]; decide), if_neg h2', hl, if_neg h3', if_neg (by rw [this]; decide)]
        · simp [subFr, go_sem, leAV, headSt, strSl]
        · simp [refsOK, headSt]
      · intro hI
        simp -implicitDefEqProofs only [go_sem, Nat.reduceBEq, Nat.reduceAdd, c124r16, strSl]
        refine fin l 0 ?_
        rw [List.take_length] at hI
        unfold splitPF; rw [if_neg hs, if_neg (by rw [h1]; decide), if_neg h2', hl, if_neg h3', if_pos hI]
  · unfold splitPF; rw [if_neg hs, if_pos h1]

/-- label.Path -/
def pathF (s : ByteArray) : Int := (splitPF s).2
def SStrI (f : ByteArray → Int) : Am.Spec := fun rs φ K => ∃ s : ByteArray, rs = [rS s] ∧ K (.one (rI (f s))) φ
theorem d73 : Snd Tryz.prog gls 73 (SStrI pathF) := by
  refine k73 (by rintro rs φ K ⟨s, rfl, -⟩; simp) ?_
  rintro rs φ K ⟨s, rfl, hK⟩
  simp -implicitDefEqProofs only [go_sem, Nat.reduceBEq, Nat.reduceAdd, c73, c73r0, c73r1, c73r2]
  refine callS_of d124 ⟨s, rfl, ?_⟩
  simp -implicitDefEqProofs only [go_sem, Nat.reduceBEq, Nat.reduceAdd, List.getElem?_cons_zero, List.getElem?_cons_succ]
  exact hK

/-- label.value -/
def valueF (s : ByteArray) : Bool := decide (s = ⟨#[]⟩) || nameF s
theorem d201 : Snd Tryz.prog gls 201 (SStrB valueF) := by
  refine k201 (by rintro rs φ K ⟨s, rfl, -⟩; simp) ?_
  rintro rs φ K ⟨s, rfl, hK⟩
  simp -implicitDefEqProofs only [go_sem, Nat.reduceBEq, Nat.reduceAdd, c201, c201r0, c201r1, decide_eq_true_eq, decide_eq_false_iff_not]
  refine ⟨fun h => callS_of d159 ⟨s, rfl, ?_⟩, fun h => ?_⟩
  · simp -implicitDefEqProofs only [go_sem, Nat.reduceBEq, Nat.reduceAdd]
    exact K_bool hK (by simp [valueF, h])
  · exact K_bool hK (by simp [valueF, h])
end Go.Proofs.YtnjblinbdimkjaaGreatDoor
