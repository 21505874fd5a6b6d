/-
  bursarlaw18.QuotaApart answers true and leaves its arguments as they were, for inputs of bulk at most 1048576 (the given second form; no other condition). Part 24 of 26 of the proof.
-/
import Derived.Test.YtnjblinbdimkjaaGreatDoorM23
namespace Go.Proofs.YtnjblinbdimkjaaGreatDoor
open Go Go.Am
-- 46 bursar/bursarlaw18.plain (23 slots, 3 parameters)
def m46r0 : List AOper := [
  ⟨some 6, none, .alloc [(.val (.string ⟨#[]⟩)), (.val (.string ⟨#[]⟩)), (.sl [] 0), (.val (.int .i64 0)), (.val (.int .i64 0)), (.sl [] 0), (.val (.int .i64 0))]⟩]
def m46r1 : List AOper := [
  ⟨some 8, none, .mov (.t 0)⟩,
  ⟨some 9, none, .mov (.t 1)⟩,
  ⟨some 10, none, .build [(.val (.string ⟨#[]⟩)), (.sl [] 0), (.sl [] 0)] [(0, 1, (.k (.p (.val (.string ⟨#[109, 97, 105, 110]⟩)))))]⟩,
  ⟨some 11, none, .prim (.buildSlice 25 1 #[(0, (.tmp 10))]) [(.t 10)]⟩,
  ⟨some 12, none, .build [(.val (.string ⟨#[]⟩)), (.val (.string ⟨#[]⟩)), (.sl [] 0), (.val (.int .i64 0)), (.val (.int .i64 0)), (.sl [] 0), (.val (.int .i64 0))] [(0, 1, (.t 8)), (1, 1, (.t 9)), (5, 1, (.t 11))]⟩,
  ⟨some 7, none, .alloc [(.val (.string ⟨#[]⟩)), (.val (.string ⟨#[]⟩)), (.sl [] 0), (.val (.int .i64 0)), (.val (.int .i64 0)), (.sl [] 0), (.val (.int .i64 0))]⟩,
  ⟨none, none, .store 7 (.t 7) (.t 12)⟩]
def m46r2 : List AOper := [
  ⟨some 13, none, .mov (.t 2)⟩,
  ⟨some 14, none, .bin .geq 2 (.t 13) (.k (.p (.val (.int .i64 0))))⟩]
def m46r3 : List AOper := [
  ⟨some 15, none, .fad 5 (.t 7)⟩,
  ⟨some 16, none, .load false 1 (.t 15)⟩,
  ⟨some 17, none, .mov (.t 2)⟩,
  ⟨some 18, none, .build [(.val (.string ⟨#[]⟩)), (.val (.int .i64 0))] [(0, 1, (.k (.p (.val (.string ⟨#[99, 112, 117]⟩))))), (1, 1, (.t 17))]⟩,
  ⟨some 19, none, .bslice 76 2 1 [(.val (.string ⟨#[]⟩)), (.val (.int .i64 0))] [(0, 2, (.t 18))]⟩,
  ⟨some 20, none, .iad 3 (.t 16) (.k (.p (.val (.int .i64 0))))⟩,
  ⟨some 21, none, .fad 1 (.t 20)⟩,
  ⟨none, none, .store 1 (.t 21) (.t 19)⟩]
def m46r4 : List AOper := [
  ⟨some 22, none, .load true 7 (.t 7)⟩,
  ⟨none, none, .store 7 (.t 6) (.t 22)⟩]
def m46 : ACode := (.seq (.reg m46r0) (.seq (.reg m46r1) (.seq (.seq (.reg m46r2) (.cond (.t 14) (.reg m46r3) .skip)) (.seq (.reg m46r4) .ret))))
theorem m46_eq : (Tryz.f46.body).map (tr Tryz.prog (glX gls [11]) 23) = some m46 := by kernel_rfl
theorem mk46 {S : Am.Spec} (hargs : ∀ rs φ K, S rs φ K → rs.length ≤ 23) (h : Shows Tryz.prog (glX gls [11]) m46 [.c 6 true 7] S) : Snd Tryz.prog gls 46 S :=
  Snd.down <| snd_code Tryz.func46 m46_eq (by kernel_rfl) (by kernel_rfl) Tryz.ntmps46 hargs h
-- 11 bursar/bursarlaw18.known (92 slots, 0 parameters)
def c11r0 : List AOper := [
  ⟨some 0, none, .mov (.k (.p (.val (.bool false))))⟩]
def c11r1 : List AOper := [
  ⟨some 12, none, .call 46 [(.k (.p (.val (.string ⟨#[47, 97]⟩)))), (.k (.p (.val (.string ⟨#[120]⟩)))), (.k (.p (.val (.int .i64 500))))]⟩,
  ⟨some 13, none, .bslice 27 7 1 [(.val (.string ⟨#[]⟩)), (.val (.string ⟨#[]⟩)), (.sl [] 0), (.val (.int .i64 0)), (.val (.int .i64 0)), (.sl [] 0), (.val (.int .i64 0))] [(0, 7, (.t 12))]⟩,
  ⟨some 14, none, .call 45 [(.t 13)]⟩,
  ⟨some 11, none, .mov (.t 14)⟩,
  ⟨some 15, none, .ext (.t 11) 0⟩,
  ⟨some 16, none, .ext (.t 11) 1⟩,
  ⟨some 1, none, .mov (.t 15)⟩,
  ⟨some 2, none, .mov (.t 16)⟩]
def c11r2 : List AOper := [
  ⟨some 17, none, .mov (.t 1)⟩,
  ⟨some 18, none, .isnil false (.t 17)⟩,
  ⟨some 19, none, .mov (.t 18)⟩,
  ⟨some 20, some (19, false), .mov (.t 2)⟩,
  ⟨some 21, some (19, false), .bin .neq 38 (.t 20) (.k (.p (.val (.int .i64 0))))⟩,
  ⟨some 22, none, .pick (.t 19) (.k (.p (.val (.bool true)))) (.t 21)⟩]
def c11r3 : List AOper := [
  ⟨some 0, none, .mov (.k (.p (.val (.bool false))))⟩]
def c11r4 : List AOper := [
  ⟨some 23, none, .build [(.val (.string ⟨#[]⟩)), (.val (.int .i64 0))] [(0, 1, (.k (.p (.val (.string ⟨#[114, 101, 113, 117, 101, 115, 116, 115, 46, 99, 112, 117]⟩))))), (1, 1, (.k (.p (.val (.int .i64 1000)))))]⟩,
  ⟨some 24, none, .bslice 76 2 1 [(.val (.string ⟨#[]⟩)), (.val (.int .i64 0))] [(0, 2, (.t 23))]⟩,
  ⟨some 25, none, .build [(.val (.string ⟨#[]⟩)), (.val (.string ⟨#[]⟩)), (.val (.int .i64 0)), (.val (.int .i64 0)), (.sl [] 0)] [(0, 1, (.k (.p (.val (.string ⟨#[47, 97]⟩))))), (1, 1, (.k (.p (.val (.string ⟨#[113]⟩))))), (4, 1, (.t 24))]⟩,
  ⟨some 26, none, .bslice 62 5 1 [(.val (.string ⟨#[]⟩)), (.val (.string ⟨#[]⟩)), (.val (.int .i64 0)), (.val (.int .i64 0)), (.sl [] 0)] [(0, 5, (.t 25))]⟩,
  ⟨some 27, none, .bslice 71 1 1 [(.sl [] 0)] [(0, 1, (.t 26))]⟩,
  ⟨some 3, none, .mov (.t 27)⟩]
def c11r5 : List AOper := [
  ⟨some 29, none, .mov (.t 1)⟩,
  ⟨some 30, none, .mov (.t 3)⟩,
  ⟨some 31, none, .call 46 [(.k (.p (.val (.string ⟨#[47, 97]⟩)))), (.k (.p (.val (.string ⟨#[121]⟩)))), (.k (.p (.val (.int .i64 500))))]⟩,
  ⟨some 32, none, .call 16 [(.t 29), (.t 30), (.k (.p (.val (.slice none 0 0)))), (.t 31)]⟩,
  ⟨some 28, none, .mov (.t 32)⟩,
  ⟨some 33, none, .ext (.t 28) 0⟩,
  ⟨some 34, none, .ext (.t 28) 1⟩,
  ⟨some 4, none, .alloc [(.val (.string ⟨#[]⟩)), (.val (.string ⟨#[]⟩)), (.val (.string ⟨#[]⟩)), (.val (.string ⟨#[]⟩))]⟩,
  ⟨none, none, .store 4 (.t 4) (.t 33)⟩,
  ⟨some 2, none, .mov (.t 34)⟩]
def c11r6 : List AOper := [
  ⟨some 36, none, .mov (.t 1)⟩,
  ⟨some 37, none, .mov (.t 3)⟩,
  ⟨some 38, none, .call 46 [(.k (.p (.val (.string ⟨#[47, 97]⟩)))), (.k (.p (.val (.string ⟨#[121]⟩)))), (.k (.p (.val (.int .i64 501))))]⟩,
  ⟨some 39, none, .call 16 [(.t 36), (.t 37), (.k (.p (.val (.slice none 0 0)))), (.t 38)]⟩,
  ⟨some 35, none, .mov (.t 39)⟩,
  ⟨some 40, none, .ext (.t 35) 0⟩,
  ⟨some 41, none, .ext (.t 35) 1⟩,
  ⟨some 5, none, .alloc [(.val (.string ⟨#[]⟩)), (.val (.string ⟨#[]⟩)), (.val (.string ⟨#[]⟩)), (.val (.string ⟨#[]⟩))]⟩,
  ⟨none, none, .store 4 (.t 5) (.t 40)⟩,
  ⟨some 6, none, .mov (.t 41)⟩]
def c11r7 : List AOper := [
  ⟨some 43, none, .mov (.t 1)⟩,
  ⟨some 44, none, .mov (.t 3)⟩,
  ⟨some 45, none, .call 46 [(.k (.p (.val (.string ⟨#[47, 97]⟩)))), (.k (.p (.val (.string ⟨#[121]⟩)))), (.k (.p (.val (.int .i64 (-1)))))]⟩,
  ⟨some 46, none, .call 16 [(.t 43), (.t 44), (.k (.p (.val (.slice none 0 0)))), (.t 45)]⟩,
  ⟨some 42, none, .mov (.t 46)⟩,
  ⟨some 47, none, .ext (.t 42) 0⟩,
  ⟨some 48, none, .ext (.t 42) 1⟩,
  ⟨some 7, none, .alloc [(.val (.string ⟨#[]⟩)), (.val (.string ⟨#[]⟩)), (.val (.string ⟨#[]⟩)), (.val (.string ⟨#[]⟩))]⟩,
  ⟨none, none, .store 4 (.t 7) (.t 47)⟩,
  ⟨some 8, none, .mov (.t 48)⟩]
def c11r8 : List AOper := [
  ⟨some 50, none, .mov (.t 1)⟩,
  ⟨some 51, none, .mov (.t 3)⟩,
  ⟨some 52, none, .call 46 [(.k (.p (.val (.string ⟨#[47, 97]⟩)))), (.k (.p (.val (.string ⟨#[120]⟩)))), (.k (.p (.val (.int .i64 500))))]⟩,
  ⟨some 53, none, .bslice 27 7 1 [(.val (.string ⟨#[]⟩)), (.val (.string ⟨#[]⟩)), (.sl [] 0), (.val (.int .i64 0)), (.val (.int .i64 0)), (.sl [] 0), (.val (.int .i64 0))] [(0, 7, (.t 52))]⟩,
  ⟨some 54, none, .call 46 [(.k (.p (.val (.string ⟨#[47, 97]⟩)))), (.k (.p (.val (.string ⟨#[120]⟩)))), (.k (.p (.val (.int .i64 1000))))]⟩,
  ⟨some 55, none, .call 16 [(.t 50), (.t 51), (.t 53), (.t 54)]⟩,
  ⟨some 49, none, .mov (.t 55)⟩,
  ⟨some 56, none, .ext (.t 49) 0⟩,
  ⟨some 57, none, .ext (.t 49) 1⟩,
  ⟨some 9, none, .alloc [(.val (.string ⟨#[]⟩)), (.val (.string ⟨#[]⟩)), (.val (.string ⟨#[]⟩)), (.val (.string ⟨#[]⟩))]⟩,
  ⟨none, none, .store 4 (.t 9) (.t 56)⟩,
  ⟨some 10, none, .mov (.t 57)⟩]
def c11r9 : List AOper := [
  ⟨some 58, none, .mov (.t 2)⟩,
  ⟨some 59, none, .bin .eql 38 (.t 58) (.k (.p (.val (.int .i64 0))))⟩,
  ⟨some 60, none, .mov (.t 59)⟩,
  ⟨some 61, some (60, true), .load true 4 (.t 4)⟩,
  ⟨some 62, some (60, true), .build [(.val (.string ⟨#[]⟩)), (.val (.string ⟨#[]⟩)), (.val (.string ⟨#[]⟩)), (.val (.string ⟨#[]⟩))] []⟩,
  ⟨some 63, some (60, true), .beq false [.str, .str, .str, .str] (.t 61) (.t 62)⟩,
  ⟨some 64, none, .pick (.t 60) (.t 63) (.k (.p (.val (.bool false))))⟩,
  ⟨some 65, none, .mov (.t 64)⟩,
  ⟨some 66, some (65, true), .mov (.t 6)⟩,
  ⟨some 67, some (65, true), .bin .eql 38 (.t 66) (.k (.p (.val (.int .i64 180))))⟩,
  ⟨some 68, none, .pick (.t 65) (.t 67) (.k (.p (.val (.bool false))))⟩,
  ⟨some 69, none, .mov (.t 68)⟩,
  ⟨some 70, some (69, true), .load true 4 (.t 5)⟩,
  ⟨some 71, some (69, true), .build [(.val (.string ⟨#[]⟩)), (.val (.string ⟨#[]⟩)), (.val (.string ⟨#[]⟩)), (.val (.string ⟨#[]⟩))] [(0, 1, (.k (.p (.val (.string ⟨#[47, 97]⟩))))), (1, 1, (.k (.p (.val (.string ⟨#[113]⟩))))), (3, 1, (.k (.p (.val (.string ⟨#[114, 101, 113, 117, 101, 115, 116, 115, 46, 99, 112, 117]⟩)))))]⟩,
  ⟨some 72, some (69, true), .beq false [.str, .str, .str, .str] (.t 70) (.t 71)⟩,
  ⟨some 73, none, .pick (.t 69) (.t 72) (.k (.p (.val (.bool false))))⟩,
  ⟨some 74, none, .mov (.t 73)⟩,
  ⟨some 75, some (74, true), .mov (.t 8)⟩,
  ⟨some 76, some (74, true), .bin .eql 38 (.t 75) (.k (.p (.val (.int .i64 181))))⟩,
  ⟨some 77, none, .pick (.t 74) (.t 76) (.k (.p (.val (.bool false))))⟩,
  ⟨some 78, none, .mov (.t 77)⟩,
  ⟨some 79, some (78, true), .load true 4 (.t 7)⟩,
  ⟨some 80, some (78, true), .build [(.val (.string ⟨#[]⟩)), (.val (.string ⟨#[]⟩)), (.val (.string ⟨#[]⟩)), (.val (.string ⟨#[]⟩))] [(0, 1, (.k (.p (.val (.string ⟨#[47, 97]⟩))))), (1, 1, (.k (.p (.val (.string ⟨#[113]⟩))))), (2, 1, (.k (.p (.val (.string ⟨#[109, 97, 105, 110]⟩))))), (3, 1, (.k (.p (.val (.string ⟨#[114, 101, 113, 117, 101, 115, 116, 115, 46, 99, 112, 117]⟩)))))]⟩,
  ⟨some 81, some (78, true), .beq false [.str, .str, .str, .str] (.t 79) (.t 80)⟩,
  ⟨some 82, none, .pick (.t 78) (.t 81) (.k (.p (.val (.bool false))))⟩,
  ⟨some 83, none, .mov (.t 82)⟩,
  ⟨some 84, some (83, true), .mov (.t 10)⟩,
  ⟨some 85, some (83, true), .bin .eql 38 (.t 84) (.k (.p (.val (.int .i64 0))))⟩,
  ⟨some 86, none, .pick (.t 83) (.t 85) (.k (.p (.val (.bool false))))⟩,
  ⟨some 87, none, .mov (.t 86)⟩,
  ⟨some 88, some (87, true), .load true 4 (.t 9)⟩,
  ⟨some 89, some (87, true), .build [(.val (.string ⟨#[]⟩)), (.val (.string ⟨#[]⟩)), (.val (.string ⟨#[]⟩)), (.val (.string ⟨#[]⟩))] []⟩,
  ⟨some 90, some (87, true), .beq false [.str, .str, .str, .str] (.t 88) (.t 89)⟩,
  ⟨some 91, none, .pick (.t 87) (.t 90) (.k (.p (.val (.bool false))))⟩,
  ⟨some 0, none, .mov (.t 91)⟩]
def c11 : ACode := (.seq (.reg c11r0) (.seq (.reg c11r1) (.seq (.seq (.reg c11r2) (.cond (.t 22) (.seq (.reg c11r3) .ret) .skip)) (.seq (.reg c11r4) (.seq (.reg c11r5) (.seq (.reg c11r6) (.seq (.reg c11r7) (.seq (.reg c11r8) (.seq (.reg c11r9) .ret)))))))))
theorem c11_eq : (Tryz.f11.body).map (tr Tryz.prog gls 92) = some c11 := by kernel_rfl
theorem k11 {S : Am.Spec} (hargs : ∀ rs φ K, S rs φ K → rs.length ≤ 92) (h : Shows Tryz.prog gls c11 [.t 0] S) : Snd Tryz.prog gls 11 S :=
  snd_code Tryz.func11 c11_eq (by kernel_rfl) (by kernel_rfl) Tryz.ntmps11 hargs h
-- 20 bursar/bursarlaw18.taken (44 slots, 1 parameters)
def c20r0 : List AOper := [
  ⟨some 2, none, .mov (.k (.p (.val (.pointer none))))⟩,
  ⟨some 3, none, .mov (.k (.p (.val (.slice none 0 0))))⟩]
def c20r1 : List AOper := [
  ⟨some 7, none, .call 40 []⟩,
  ⟨some 4, none, .mov (.t 7)⟩]
def c20r2 : List AOper := [
  ⟨some 5, none, .mov (.k (.p (.val (.slice none 0 0))))⟩]
def c20r3 : List AOper := [
  ⟨some 6, none, .mov (.k (.p (.val (.int .i64 0))))⟩]
def c20r4 : List AOper := [
  ⟨some 8, none, .mov (.t 6)⟩,
  ⟨some 9, none, .mov (.t 0)⟩,
  ⟨some 10, none, .len (.t 9)⟩,
  ⟨some 11, none, .bin .lss 3 (.t 8) (.t 10)⟩,
  ⟨some 12, none, .mov (.t 11)⟩,
  ⟨some 13, some (12, true), .mov (.t 4)⟩,
  ⟨some 14, some (12, true), .isnil true (.t 13)⟩,
  ⟨some 15, none, .pick (.t 12) (.t 14) (.k (.p (.val (.bool false))))⟩]
def c20r5 : List AOper := [
  ⟨some 18, none, .mov (.t 0)⟩,
  ⟨some 19, none, .mov (.t 6)⟩,
  ⟨some 20, none, .iad 7 (.t 18) (.t 19)⟩,
  ⟨some 21, none, .load true 7 (.t 20)⟩,
  ⟨some 22, none, .call 15 [(.t 21)]⟩,
  ⟨some 23, none, .call 23 [(.t 22)]⟩,
  ⟨some 24, none, .bin .eql 38 (.t 23) (.k (.p (.val (.int .i64 0))))⟩,
  ⟨some 25, none, .mov (.t 24)⟩,
  ⟨some 26, some (25, true), .mov (.t 4)⟩,
  ⟨some 27, some (25, true), .mov (.t 0)⟩,
  ⟨some 28, some (25, true), .mov (.t 6)⟩,
  ⟨some 29, some (25, true), .iad 7 (.t 27) (.t 28)⟩,
  ⟨some 30, some (25, true), .load true 7 (.t 29)⟩,
  ⟨some 31, some (25, true), .call 15 [(.t 30)]⟩,
  ⟨some 32, some (25, true), .call 48 [(.t 26), (.t 31)]⟩,
  ⟨some 33, some (25, true), .bin .eql 38 (.t 32) (.k (.p (.val (.int .i64 0))))⟩,
  ⟨some 34, none, .pick (.t 25) (.t 33) (.k (.p (.val (.bool false))))⟩]
def c20r6 : List AOper := [
  ⟨some 35, none, .mov (.t 5)⟩,
  ⟨some 36, none, .mov (.t 0)⟩,
  ⟨some 37, none, .mov (.t 6)⟩,
  ⟨some 38, none, .iad 7 (.t 36) (.t 37)⟩,
  ⟨some 39, none, .load true 7 (.t 38)⟩,
  ⟨some 40, none, .bslice 27 7 1 [(.val (.string ⟨#[]⟩)), (.val (.string ⟨#[]⟩)), (.sl [] 0), (.val (.int .i64 0)), (.val (.int .i64 0)), (.sl [] 0), (.val (.int .i64 0))] [(0, 7, (.t 39))]⟩,
  ⟨some 41, none, .app 27 7 104 (.t 35) (.t 40)⟩,
  ⟨some 5, none, .mov (.t 41)⟩]
def c20r7 : List AOper := [
  ⟨some 16, none, .mov (.t 6)⟩,
  ⟨some 17, none, .bin .add 3 (.t 16) (.k (.p (.val (.int .i64 1))))⟩,
  ⟨some 6, none, .mov (.t 17)⟩]
def c20l8 : ACode := (.seq (.seq (.reg c20r4) (.cond (.t 15) .skip (.exit 0))) (.seq (.block 1 (.seq (.reg c20r5) (.cond (.t 34) (.reg c20r6) .skip))) (.reg c20r7)))
def c20r9 : List AOper := [
  ⟨some 42, none, .mov (.t 4)⟩,
  ⟨some 43, none, .mov (.t 5)⟩,
  ⟨some 2, none, .mov (.t 42)⟩,
  ⟨some 3, none, .mov (.t 43)⟩]
def c20 : ACode := (.seq (.reg c20r0) (.seq (.reg c20r1) (.seq (.reg c20r2) (.seq (.seq (.reg c20r3) (.block 0 (.loop c20l8))) (.seq (.reg c20r9) .ret)))))
theorem c20_eq : (Tryz.f20.body).map (tr Tryz.prog gls 44) = some c20 := by kernel_rfl
theorem k20 {S : Am.Spec} (hargs : ∀ rs φ K, S rs φ K → rs.length ≤ 44) (h : Shows Tryz.prog gls c20 [.t 2, .t 3] S) : Snd Tryz.prog gls 20 S :=
  snd_code Tryz.func20 c20_eq (by kernel_rfl) (by kernel_rfl) Tryz.ntmps20 hargs h
-- 21 bursar/bursarlaw18.less (29 slots, 2 parameters)
def c21r0 : List AOper := [
  ⟨some 4, none, .mov (.k (.p (.val (.slice none 0 0))))⟩]
def c21r1 : List AOper := [
  ⟨some 5, none, .mov (.k (.p (.val (.slice none 0 0))))⟩]
def c21r2 : List AOper := [
  ⟨some 6, none, .mov (.k (.p (.val (.int .i64 0))))⟩]
def c21r3 : List AOper := [
  ⟨some 8, none, .mov (.t 6)⟩,
  ⟨some 9, none, .mov (.t 0)⟩,
  ⟨some 10, none, .len (.t 9)⟩,
  ⟨some 11, none, .bin .lss 3 (.t 8) (.t 10)⟩]
def c21r4 : List AOper := [
  ⟨some 14, none, .mov (.t 0)⟩,
  ⟨some 15, none, .mov (.t 6)⟩,
  ⟨some 16, none, .iad 2 (.t 14) (.t 15)⟩,
  ⟨some 17, none, .load true 2 (.t 16)⟩,
  ⟨some 7, none, .alloc [(.val (.string ⟨#[]⟩)), (.val (.int .i64 0))]⟩,
  ⟨none, none, .store 2 (.t 7) (.t 17)⟩]
def c21r5 : List AOper := [
  ⟨some 18, none, .fad 1 (.t 7)⟩,
  ⟨some 19, none, .load false 1 (.t 18)⟩,
  ⟨some 20, none, .mov (.t 1)⟩,
  ⟨some 21, none, .bin .gtr 2 (.t 19) (.t 20)⟩]
def c21r6 : List AOper := [
  ⟨some 22, none, .mov (.t 1)⟩,
  ⟨some 23, none, .fad 1 (.t 7)⟩,
  ⟨none, none, .store 1 (.t 23) (.t 22)⟩]
def c21r7 : List AOper := [
  ⟨some 24, none, .mov (.t 5)⟩,
  ⟨some 25, none, .load true 2 (.t 7)⟩,
  ⟨some 26, none, .bslice 76 2 1 [(.val (.string ⟨#[]⟩)), (.val (.int .i64 0))] [(0, 2, (.t 25))]⟩,
  ⟨some 27, none, .app 76 2 24 (.t 24) (.t 26)⟩,
  ⟨some 5, none, .mov (.t 27)⟩]
def c21r8 : List AOper := [
  ⟨some 12, none, .mov (.t 6)⟩,
  ⟨some 13, none, .bin .add 3 (.t 12) (.k (.p (.val (.int .i64 1))))⟩,
  ⟨some 6, none, .mov (.t 13)⟩]
def c21l9 : ACode := (.seq (.seq (.reg c21r3) (.cond (.t 11) .skip (.exit 0))) (.seq (.block 1 (.seq (.reg c21r4) (.seq (.seq (.reg c21r5) (.cond (.t 21) (.reg c21r6) .skip)) (.reg c21r7)))) (.reg c21r8)))
def c21r10 : List AOper := [
  ⟨some 28, none, .mov (.t 5)⟩,
  ⟨some 4, none, .mov (.t 28)⟩]
def c21 : ACode := (.seq (.reg c21r0) (.seq (.reg c21r1) (.seq (.seq (.reg c21r2) (.block 0 (.loop c21l9))) (.seq (.reg c21r10) .ret))))
theorem c21_eq : (Tryz.f21.body).map (tr Tryz.prog gls 29) = some c21 := by kernel_rfl
theorem k21 {S : Am.Spec} (hargs : ∀ rs φ K, S rs φ K → rs.length ≤ 29) (h : Shows Tryz.prog gls c21 [.t 4] S) : Snd Tryz.prog gls 21 S :=
  snd_code Tryz.func21 c21_eq (by kernel_rfl) (by kernel_rfl) Tryz.ntmps21 hargs h
-- 22 bursar/bursarlaw18.valid (30 slots, 1 parameters)
def c22r0 : List AOper := [
  ⟨some 2, none, .mov (.k (.p (.val (.bool false))))⟩]
def c22r1 : List AOper := [
  ⟨some 3, none, .mov (.k (.p (.val (.int .i64 0))))⟩]
def c22r2 : List AOper := [
  ⟨some 5, none, .mov (.t 3)⟩,
  ⟨some 6, none, .mov (.t 0)⟩,
  ⟨some 7, none, .len (.t 6)⟩,
  ⟨some 8, none, .bin .lss 3 (.t 5) (.t 7)⟩]
def c22r3 : List AOper := [
  ⟨some 4, none, .mov (.k (.p (.val (.int .i64 0))))⟩]
def c22r4 : List AOper := [
  ⟨some 11, none, .mov (.t 4)⟩,
  ⟨some 12, none, .mov (.t 0)⟩,
  ⟨some 13, none, .mov (.t 3)⟩,
  ⟨some 14, none, .iad 1 (.t 12) (.t 13)⟩,
  ⟨some 15, none, .load false 1 (.t 14)⟩,
  ⟨some 16, none, .len (.t 15)⟩,
  ⟨some 17, none, .bin .lss 3 (.t 11) (.t 16)⟩]
def c22r5 : List AOper := [
  ⟨some 20, none, .mov (.t 0)⟩,
  ⟨some 21, none, .mov (.t 3)⟩,
  ⟨some 22, none, .iad 1 (.t 20) (.t 21)⟩,
  ⟨some 23, none, .load false 1 (.t 22)⟩,
  ⟨some 24, none, .mov (.t 4)⟩,
  ⟨some 25, none, .iad 5 (.t 23) (.t 24)⟩,
  ⟨some 26, none, .load true 5 (.t 25)⟩,
  ⟨some 27, none, .call 26 [(.t 26)]⟩,
  ⟨some 28, none, .call 41 [(.t 27)]⟩,
  ⟨some 29, none, .bin .neq 38 (.t 28) (.k (.p (.val (.int .i64 0))))⟩]
def c22r6 : List AOper := [
  ⟨some 2, none, .mov (.k (.p (.val (.bool false))))⟩]
def c22r7 : List AOper := [
  ⟨some 18, none, .mov (.t 4)⟩,
  ⟨some 19, none, .bin .add 3 (.t 18) (.k (.p (.val (.int .i64 1))))⟩,
  ⟨some 4, none, .mov (.t 19)⟩]
def c22l8 : ACode := (.seq (.seq (.reg c22r4) (.cond (.t 17) .skip (.exit 2))) (.seq (.block 3 (.seq (.reg c22r5) (.cond (.t 29) (.seq (.reg c22r6) .ret) .skip))) (.reg c22r7)))
def c22r9 : List AOper := [
  ⟨some 9, none, .mov (.t 3)⟩,
  ⟨some 10, none, .bin .add 3 (.t 9) (.k (.p (.val (.int .i64 1))))⟩,
  ⟨some 3, none, .mov (.t 10)⟩]
def c22l10 : ACode := (.seq (.seq (.reg c22r2) (.cond (.t 8) .skip (.exit 0))) (.seq (.block 1 (.seq (.reg c22r3) (.block 2 (.loop c22l8)))) (.reg c22r9)))
def c22r11 : List AOper := [
  ⟨some 2, none, .mov (.k (.p (.val (.bool true))))⟩]
def c22 : ACode := (.seq (.reg c22r0) (.seq (.seq (.reg c22r1) (.block 0 (.loop c22l10))) (.seq (.reg c22r11) .ret)))
theorem c22_eq : (Tryz.f22.body).map (tr Tryz.prog gls 30) = some c22 := by kernel_rfl
theorem k22 {S : Am.Spec} (hargs : ∀ rs φ K, S rs φ K → rs.length ≤ 30) (h : Shows Tryz.prog gls c22 [.t 2] S) : Snd Tryz.prog gls 22 S :=
  snd_code Tryz.func22 c22_eq (by kernel_rfl) (by kernel_rfl) Tryz.ntmps22 hargs h
end Go.Proofs.YtnjblinbdimkjaaGreatDoor

namespace Go.Proofs.YtnjblinbdimkjaaGreatDoor
open Go Go.Am
set_option linter.unusedSimpArgs false

/-! ### the law's own: plain -/
def mainB : ByteArray := ⟨#[109, 97, 105, 110]⟩
def cpuB : ByteArray := ⟨#[99, 112, 117]⟩
def plainO (p n : ByteArray) (v : Int) : Obj := ⟨p, n, [], 0, 0, [⟨mainB, if 0 ≤ v then [⟨cpuB, v⟩] else [], []⟩], 0⟩
def rqC (v : Int) : PV := if 0 ≤ v then .sl [[.val (.string cpuB), .val (.int .i64 v)]] 1 else .sl [] 0
def plainC (p n : ByteArray) (v : Int) : List PV := [.val (.string p), .val (.string n), .sl [] 0, .val (.int .i64 0), .val (.int .i64 0), .sl [[.val (.string mainB), rqC v, .sl [] 0]] 1, .val (.int .i64 0)]
theorem plainC_is {p n : ByteArray} {v : Int} (hv : inI v) : IsObj (plainO p n v) (plainC p n v) := by
  have h0 : inI 0 := by unfold inI; omega
  refine ⟨_, _, rfl, ⟨[], rfl, by simp [plainO], .nil⟩, ⟨_, rfl, by simp [plainO, BIG], .cons ⟨_, _, rfl, ?_, ⟨[], rfl, by simp, .nil⟩⟩ .nil⟩, h0, h0, h0⟩
  unfold rqC
  by_cases h : 0 ≤ v
  · rw [if_pos h]
    simp only [if_pos h]
    exact ⟨_, rfl, by simp [BIG], .cons ⟨rfl, hv⟩ .nil⟩
  · rw [if_neg h]
    simp only [if_neg h]
    exact ⟨[], rfl, by simp, .nil⟩
def S46 : Am.Spec := fun rs φ K => ∃ p n v, rs = [rS p, rS n, rI v] ∧ inI v ∧ K (.one (.agg (plainC p n v))) φ
def S46r : Am.Spec := fun rs φ K => ∃ p n v, rs = [rS p, rS n, rI v] ∧ inI v ∧ ∀ b, K (.one (.agg [.val (.string p), .val (.string n), .sl [] 0, .val (.int .i64 0), .val (.int .i64 0), .val (hdr b 1 1), .val (.int .i64 0)])) ((Res.own (hdr b 1 1) 50 3 [[.val (.string mainB), rqC v, .sl [] 0]]).sep φ)
theorem info50 : Tryz.prog.info? 50 = some Tryz.t50 := by kernel_rfl
theorem d46r : Snd Tryz.prog gls 46 S46r := by
  refine mk46 (by rintro rs φ K ⟨p, n, v, rfl, -⟩; simp) ?_
  rintro rs φ K ⟨p, n, v, rfl, hv, hK⟩
  simp -implicitDefEqProofs only [go_sem, Nat.reduceBEq, Nat.reduceAdd, m46, m46r0, m46r1, List.drop_succ_cons, List.drop_zero, Nat.reduceLeDiff, true_and, List.length_cons, List.length_nil, Nat.ble, List.take_succ_cons, List.take_zero, Nat.zero_add, Nat.le_refl]
  refine primS_of (born_slice Tryz.underlying25 info50 rfl rfl) ⟨rfl, by decide, by decide, by decide, _, _, rfl, rfl, fun b => ?_⟩
  simp -implicitDefEqProofs only [go_sem, Nat.reduceBEq, Nat.reduceAdd, m46r2, m46r3, m46r4, List.drop_succ_cons, List.drop_zero, Nat.reduceLeDiff, true_and, List.length_cons, List.length_nil, Nat.ble, List.take_succ_cons, List.take_zero, Nat.zero_add, Nat.le_refl, chunks, decide_eq_true_eq, decide_eq_false_iff_not]
  refine ⟨fun h => ⟨by decide, by decide, by decide, by decide, by decide, _, PhStore.l (store_own (i := 0) (j := 1) (e := [.val (.string mainB), .sl [] 0, .sl [] 0]) rfl rfl (by show 2 ≤ 3; omega)), ?_⟩, fun h => ?_⟩
  · have hk := hK b
    unfold rqC at hk
    rw [if_pos h] at hk
    exact hk
  · have hk := hK b
    unfold rqC at hk
    rw [if_neg h] at hk
    exact hk
theorem d46 : Snd Tryz.prog gls 46 S46 := Snd.post d46r (by
  rintro rs φ K ⟨p, n, v, rfl, hv, hK⟩
  refine ⟨p, n, v, rfl, hv, fun b => ⟨φ, _, melt_out (r' := .one (.agg (plainC p n v))) ?_, hK⟩⟩
  exact .cons (.inl rfl) (.cons (.inl rfl) (.cons (.inl rfl) (.cons (.inl rfl) (.cons (.inl rfl) (.cons (.inr ⟨rfl, rfl⟩) (.cons (.inl rfl) .nil)))))))
end Go.Proofs.YtnjblinbdimkjaaGreatDoor

namespace Go.Proofs.YtnjblinbdimkjaaGreatDoor
open Go Go.Am
set_option linter.unusedSimpArgs false

/-! ### known -/
def pA : ByteArray := ⟨#[47, 97]⟩
def oX (n : UInt8) (v : Int) : Obj := plainO pA ⟨#[n]⟩ v
def rcpu : ByteArray := ⟨#[114, 101, 113, 117, 101, 115, 116, 115, 46, 99, 112, 117]⟩
def kQ : Quo := ⟨pA, ⟨#[113]⟩, (0, 0), [⟨rcpu, 1000⟩]⟩
def kF : Place → Int := (ofL [oX 120 500] fun _ => 0).2
set_option maxRecDepth 10000 in
theorem kn1 : (ofL [oX 120 500] fun _ => 0).1 = 0 := by kernel_rfl
theorem kn2 : fitF kF [[kQ]] [] (oX 121 500) = (Det.none, 0) := by kernel_rfl
theorem kn3 : fitF kF [[kQ]] [] (oX 121 501) = (⟨pA, ⟨#[113]⟩, e0, rcpu⟩, 180) := by kernel_rfl
theorem kn4 : fitF kF [[kQ]] [] (oX 121 (-1)) = (⟨pA, ⟨#[113]⟩, mainB, rcpu⟩, 181) := by kernel_rfl
theorem kn5 : fitF kF [[kQ]] [oX 120 500] (oX 120 1000) = (Det.none, 0) := by kernel_rfl
def okSz (o : Obj) : Bool := Nat.ble (allU o).length 1073741824 && (allU o).all (fun a => Nat.ble a.name.size 2147483648) && Nat.ble (lineF o.path).length 1073741824 && Nat.ble (usesF o).1.length 1073741824 && Nat.ble (shF o (usesF o).1 (lineF o.path)).length 1073741824
theorem okSz_L {o : Obj} (h : okSz o = true) : SzL o ∧ SzU o := by
  unfold okSz at h
  simp only [Bool.and_eq_true, List.all_eq_true] at h
  obtain ⟨⟨⟨⟨h1, h2⟩, h3⟩, h4⟩, h5⟩ := h
  have hS : SzO o := ⟨Nat.le_of_ble_eq_true h1, fun a ha => Nat.le_of_ble_eq_true (h2 a ha)⟩
  exact ⟨⟨hS, Nat.le_of_ble_eq_true h3, Nat.le_of_ble_eq_true h4, Nat.le_of_ble_eq_true h5⟩, hS, Nat.le_of_ble_eq_true h4⟩
theorem sz1 : okSz (oX 120 500) = true := by kernel_rfl
theorem sz2 : okSz (oX 121 500) = true := by kernel_rfl
theorem sz3 : okSz (oX 121 501) = true := by kernel_rfl
theorem sz4 : okSz (oX 121 (-1)) = true := by kernel_rfl
theorem sz5 : okSz (oX 120 1000) = true := by kernel_rfl
def xC (n : UInt8) (v : Int) : List PV := plainC pA ⟨#[n]⟩ v
theorem xC_is (n : UInt8) (v : Int) (hv : inI v) : IsObj (oX n v) (xC n v) := plainC_is hv
def kqC : List PV := [.val (.string pA), .val (.string ⟨#[113]⟩), .val (.int .i64 0), .val (.int .i64 0), .sl [[.val (.string rcpu), .val (.int .i64 1000)]] 1]
theorem kqC_is : IsQuo kQ kqC := by
  refine ⟨_, rfl, ⟨_, rfl, by simp [kQ, BIG], .cons ⟨rfl, by unfold inI; simp⟩ .nil⟩, by simp [kQ, inI], by simp [kQ, inI]⟩
theorem kln_is : SlR IsRow [[kQ]] (.sl [[.sl [kqC] 1]] 1) := ⟨_, rfl, by simp [BIG], .cons ⟨_, rfl, ⟨_, rfl, by simp [BIG], .cons kqC_is .nil⟩⟩ .nil⟩

def S11 : Am.Spec := fun rs φ K => rs = [] ∧ K (.one (rB true)) φ
theorem d11 : Snd Tryz.prog gls 11 S11 := by
  refine Snd.drop (S := fun rs φ K => rs = [] ∧ ∀ φ', Drops φ' φ → K (.one (rB true)) φ') (k11 (by rintro rs φ K ⟨rfl, -⟩; simp) ?_) (by rintro rs φ K ⟨rfl, hK⟩; exact ⟨rfl, fun φ' hd => ⟨φ, hd, hK⟩⟩)
  rintro rs φ K ⟨rfl, hK⟩
  have i1 : inI 500 := by unfold inI; omega
  have i2 : inI 501 := by unfold inI; omega
  have i3 : inI (-1) := by unfold inI; omega
  have i4 : inI 1000 := by unfold inI; omega
  simp -implicitDefEqProofs only [go_sem, Nat.reduceBEq, Nat.reduceAdd, c11, c11r0, c11r1, List.drop_succ_cons, List.drop_zero, Nat.reduceLeDiff, true_and, List.length_cons, List.length_nil, Nat.ble, List.take_succ_cons, List.take_zero, Nat.zero_add, Nat.le_refl]
  refine callS_of d46 ⟨pA, ⟨#[120]⟩, 500, rfl, i1, ?_⟩
  simp -implicitDefEqProofs only [go_sem, Nat.reduceBEq, Nat.reduceAdd, List.drop_succ_cons, List.drop_zero, Nat.reduceLeDiff, true_and, List.length_cons, List.length_nil, Nat.ble, List.take_succ_cons, List.take_zero, Nat.zero_add, Nat.le_refl, plainC, Nat.reduceMul]
  have hs1 := okSz_L sz1
  refine ⟨by omega, by omega, callS_of d45 ⟨[oX 120 500], _, rfl, ⟨_, rfl, by simp [BIG], .cons (xC_is 120 500 i1) .nil⟩, fun o ho => ?_, fun h => absurd kn1 h, fun _ b b1 b2 m c n d hw hm => ?_⟩⟩
  · rw [List.mem_singleton] at ho; subst ho; exact hs1.1
  have hf : (fun k => eget k m) = kF := funext hm
  have hlg : Lg (Led b b1 b2 m c n d φ) b kF := by rw [← hf]; exact led_lg
  have hbd : ∀ k, 0 ≤ kF k ∧ kF k ≤ maxI := fun k => by rw [← hf]; exact hw.s k
  simp -implicitDefEqProofs only [go_sem, Nat.reduceBEq, Nat.reduceAdd, List.drop_succ_cons, List.drop_zero, Nat.reduceLeDiff, true_and, List.length_cons, List.length_nil, Nat.ble, List.take_succ_cons, List.take_zero, Nat.zero_add, Nat.le_refl, c11r2, c11r3, c11r4, decide_true, Bool.not_true]
  refine ⟨by omega, by omega, by omega, by omega, by omega, by omega, by omega, by omega, by omega, ?_⟩
  simp -implicitDefEqProofs only [go_sem, Nat.reduceBEq, Nat.reduceAdd, c11r5, List.drop_succ_cons, List.drop_zero, Nat.reduceLeDiff, true_and, List.length_cons, List.length_nil, Nat.ble, List.take_succ_cons, List.take_zero, Nat.zero_add, Nat.le_refl]
  refine callS_of d46 ⟨pA, ⟨#[121]⟩, 500, rfl, i1, ?_⟩
  simp -implicitDefEqProofs only [go_sem, Nat.reduceBEq, Nat.reduceAdd, List.drop_succ_cons, List.drop_zero, Nat.reduceLeDiff, true_and, List.length_cons, List.length_nil, Nat.ble, List.take_succ_cons, List.take_zero, Nat.zero_add, Nat.le_refl, plainC, Nat.reduceMul]
  refine callS_of d16 ⟨b, kF, [[kQ]], _, [], [], oX 121 500, _, rfl, hlg, hbd, kln_is, by simp, .nil, xC_is 121 500 i1, fun o ho => by rw [List.mem_singleton] at ho; subst ho; exact (okSz_L sz2).2, ?_⟩
  rw [kn2]
  simp -implicitDefEqProofs only [go_sem, Nat.reduceBEq, Nat.reduceAdd, c11r6, List.drop_succ_cons, List.drop_zero, Nat.reduceLeDiff, true_and, List.length_cons, List.length_nil, Nat.ble, List.take_succ_cons, List.take_zero, Nat.zero_add, Nat.le_refl, detC, Det.none]
  refine callS_of d46 ⟨pA, ⟨#[121]⟩, 501, rfl, i2, ?_⟩
  simp -implicitDefEqProofs only [go_sem, Nat.reduceBEq, Nat.reduceAdd, List.drop_succ_cons, List.drop_zero, Nat.reduceLeDiff, true_and, List.length_cons, List.length_nil, Nat.ble, List.take_succ_cons, List.take_zero, Nat.zero_add, Nat.le_refl, plainC, Nat.reduceMul]
  refine callS_of d16 ⟨b, kF, [[kQ]], _, [], [], oX 121 501, _, rfl, hlg, hbd, kln_is, by simp, .nil, xC_is 121 501 i2, fun o ho => by rw [List.mem_singleton] at ho; subst ho; exact (okSz_L sz3).2, ?_⟩
  rw [kn3]
  simp -implicitDefEqProofs only [go_sem, Nat.reduceBEq, Nat.reduceAdd, c11r7, List.drop_succ_cons, List.drop_zero, Nat.reduceLeDiff, true_and, List.length_cons, List.length_nil, Nat.ble, List.take_succ_cons, List.take_zero, Nat.zero_add, Nat.le_refl, detC, Det.none]
  refine callS_of d46 ⟨pA, ⟨#[121]⟩, (-1), rfl, i3, ?_⟩
  simp -implicitDefEqProofs only [go_sem, Nat.reduceBEq, Nat.reduceAdd, List.drop_succ_cons, List.drop_zero, Nat.reduceLeDiff, true_and, List.length_cons, List.length_nil, Nat.ble, List.take_succ_cons, List.take_zero, Nat.zero_add, Nat.le_refl, plainC, Nat.reduceMul]
  refine callS_of d16 ⟨b, kF, [[kQ]], _, [], [], oX 121 (-1), _, rfl, hlg, hbd, kln_is, by simp, .nil, xC_is 121 (-1) i3, fun o ho => by rw [List.mem_singleton] at ho; subst ho; exact (okSz_L sz4).2, ?_⟩
  rw [kn4]
  simp -implicitDefEqProofs only [go_sem, Nat.reduceBEq, Nat.reduceAdd, c11r8, List.drop_succ_cons, List.drop_zero, Nat.reduceLeDiff, true_and, List.length_cons, List.length_nil, Nat.ble, List.take_succ_cons, List.take_zero, Nat.zero_add, Nat.le_refl, detC, Det.none]
  refine callS_of d46 ⟨pA, ⟨#[120]⟩, 500, rfl, i1, ?_⟩
  simp -implicitDefEqProofs only [go_sem, Nat.reduceBEq, Nat.reduceAdd, List.drop_succ_cons, List.drop_zero, Nat.reduceLeDiff, true_and, List.length_cons, List.length_nil, Nat.ble, List.take_succ_cons, List.take_zero, Nat.zero_add, Nat.le_refl, plainC, Nat.reduceMul]
  refine ⟨by omega, by omega, callS_of d46 ⟨pA, ⟨#[120]⟩, 1000, rfl, i4, ?_⟩⟩
  simp -implicitDefEqProofs only [go_sem, Nat.reduceBEq, Nat.reduceAdd, List.drop_succ_cons, List.drop_zero, Nat.reduceLeDiff, true_and, List.length_cons, List.length_nil, Nat.ble, List.take_succ_cons, List.take_zero, Nat.zero_add, Nat.le_refl, plainC, Nat.reduceMul]
  refine callS_of d16 ⟨b, kF, [[kQ]], _, [xC 120 500], [oX 120 500], oX 120 1000, _, rfl, hlg, hbd, kln_is, by simp, .cons (xC_is 120 500 i1) .nil, xC_is 120 1000 i4, fun o ho => ?_, ?_⟩
  · rcases List.mem_cons.1 ho with rfl | ho
    · exact (okSz_L sz5).2
    · rw [List.mem_singleton] at ho; subst ho; exact hs1.2
  rw [kn5]
  simp -implicitDefEqProofs only [go_sem, Nat.reduceBEq, Nat.reduceAdd, c11r9, List.drop_succ_cons, List.drop_zero, Nat.reduceLeDiff, true_and, List.length_cons, List.length_nil, Nat.ble, List.take_succ_cons, List.take_zero, Nat.zero_add, Nat.le_refl, detC, Det.none, pA, e0, mainB, rcpu, decide_true, Bool.true_and]
  exact hK _ led_drops
end Go.Proofs.YtnjblinbdimkjaaGreatDoor

namespace Go.Proofs.YtnjblinbdimkjaaGreatDoor
open Go Go.Am
set_option linter.unusedSimpArgs false

/-! ### what is valid is small -/
theorem flatMap_len {α β : Type} {f : α → List β} {m : Nat} : ∀ (l : List α), (∀ a ∈ l, (f a).length ≤ m) → (l.flatMap f).length ≤ l.length * m
  | [], _ => by simp
  | a :: l, h => by
    have h1 := flatMap_len l fun x hx => h x (List.mem_cons_of_mem _ hx)
    have h2 := h a List.mem_cons_self
    rw [List.flatMap_cons, List.length_append, List.length_cons, Nat.add_mul, Nat.one_mul]; omega
theorem lineGo_len : ∀ (n : Nat) (p : ByteArray), (lineGo n p).length ≤ n + 1
  | 0, p => by simp [lineGo]
  | n + 1, p => by
    rw [lineGo]
    split
    · simp
    · have := lineGo_len n (aboveF p)
      simp; omega
theorem usesF_len (o : Obj) : (usesF o).1.length ≤ 1 + (allU o).length := by
  unfold usesF
  split
  · simp
  · split
    · simp
    · rename_i m hm
      have h1 := sumU_len _ _ _ hm (by simp)
      have h2 := (insSort_perm (m.map fun p => ⟨p.1, p.2⟩)).length_eq
      simp only [List.length_map, List.length_cons, List.length_nil] at h1 h2
      show (sortU m).length ≤ _
      unfold sortU
      omega
theorem enc_sz {o : Obj} (h : encF o = 0) : SzL o ∧ SzU o := by
  have hf : formObjF o = true := by
    unfold encF at h
    split at h
    · assumption
    · cases h
  obtain ⟨-, -, hp8, -, -, hpk⟩ := formObjF_le hf
  have hpa : pathF o.path = 0 := by
    simp only [formObjF, Bool.and_eq_true, decide_eq_true_eq] at hf
    exact hf.1.1.1.1.1.1.1.1.1
  have hpart : ∀ p ∈ o.parts, (partU p).length ≤ 32 ∧ ∀ a ∈ partU p, a.name.size ≤ 100 := by
    intro p hp
    have hk := hpk p hp
    simp only [partOK, Bool.and_eq_true, decide_eq_true_eq] at hk
    obtain ⟨r1, r2⟩ := amtsF_all hk.1.2
    obtain ⟨l1, l2⟩ := amtsF_all hk.2
    refine ⟨by simp only [partU, preA, List.length_append, List.length_map]; omega, ?_⟩
    intro a ha
    simp only [partU, preA, List.mem_append, List.mem_map] at ha
    have hr : reqP.size = 9 := rfl
    have hl : limP.size = 7 := rfl
    rcases ha with ⟨b, hb, rfl⟩ | ⟨b, hb, rfl⟩
    · have := (r2 b hb).2
      simp only [size_add]
      unfold amtLen textLen at this
      omega
    · have := (l2 b hb).2
      simp only [size_add]
      unfold amtLen textLen at this
      omega
  have hall : (allU o).length ≤ 256 := by
    have := flatMap_len (f := partU) (m := 32) o.parts fun p hp => (hpart p hp).1
    have h2 : o.parts.length * 32 ≤ 8 * 32 := Nat.mul_le_mul_right 32 hp8
    unfold allU; omega
  have hu := usesF_len o
  have hln : (lineF o.path).length ≤ 65 := by
    have := lineGo_len o.path.size o.path
    have := path_size hpa
    unfold lineF; omega
  have hS : SzO o := ⟨by unfold BIG; omega, fun a ha => by
    obtain ⟨p, hp, ha⟩ := List.mem_flatMap.1 ha
    have := (hpart p hp).2 a ha
    omega⟩
  have hsh : (shF o (usesF o).1 (lineF o.path)).length ≤ 100230 := by
    have h1 : ∀ p ∈ lineF o.path, (shS o (usesF o).1 p).length ≤ 1542 := fun p _ => by
      have h2 : ∀ s ∈ scF o 6, (shU (usesF o).1 p s).length ≤ 257 := fun s _ => by
        unfold shU; rw [List.length_map]; omega
      have h3 := flatMap_len (f := shU (usesF o).1 p) (m := 257) (scF o 6) h2
      have h4 : (scF o 6).length * 257 ≤ 1542 := by have := scF_len o 6; omega
      unfold shS; omega
    have h5 := flatMap_len (f := shS o (usesF o).1) (m := 1542) (lineF o.path) h1
    have h6 : (lineF o.path).length * 1542 ≤ 100230 := by omega
    unfold shF; omega
  exact ⟨⟨hS, by unfold BIG; omega, by unfold BIG; omega, by unfold BIG; omega⟩, hS, by unfold BIG; omega⟩
end Go.Proofs.YtnjblinbdimkjaaGreatDoor

namespace Go.Proofs.YtnjblinbdimkjaaGreatDoor
open Go Go.Am
set_option linter.unusedSimpArgs false

/-! ### taken -/
def tkF : List Obj → (Place → Int) → List Obj × (Place → Int)
  | [], f => ([], f)
  | o :: l, f => if encF o = 0 ∧ chE f o = 0 then (o :: (tkF l (chF f o)).1, (tkF l (chF f o)).2) else tkF l f
def S20 : Am.Spec := fun rs φ K => ∃ l x, rs = [.p x] ∧ SlR IsObj l x ∧ ∀ b b1 b2 m c n d es', LW 1152921504606846976 m c n d → (∀ k, eget k m = (tkF l fun _ => 0).2 k) → es'.length = (tkF l fun _ => 0).1.length → All2 IsObj (tkF l fun _ => 0).1 es' →
  K (.tup [rP b, .p (.sl es' (tkF l fun _ => 0).1.length)]) (Led b b1 b2 m c n d φ)
theorem d20 : Snd Tryz.prog gls 20 S20 := by
  refine k20 (by rintro rs φ K ⟨l, x, rfl, -⟩; simp) ?_
  rintro rs φ K ⟨l, x, rfl, ⟨es, rfl, hb, hl⟩, hK⟩
  have hb' : l.length ≤ 1073741824 := hb
  simp -implicitDefEqProofs only [go_sem, Nat.reduceBEq, Nat.reduceAdd, c20, c20r0, c20r1]
  refine callS_of d40 ⟨rfl, fun b b1 b2 => ?_⟩
  simp -implicitDefEqProofs only [go_sem, Nat.reduceBEq, Nat.reduceAdd, c20r2, c20r3]
  refine inv_loop (X := Nat × EM Place × Nat × EM ByteArray × Nat × List Obj × List (List PV))
    (fun x => x.1 ≤ l.length ∧ LW (x.1 * 1073741824) x.2.1 x.2.2.1 x.2.2.2.1 x.2.2.2.2.1 ∧ x.2.2.2.2.2.2.length ≤ x.1 ∧ All2 IsObj x.2.2.2.2.2.1 x.2.2.2.2.2.2 ∧ (tkF l fun _ => 0) = (x.2.2.2.2.2.1 ++ (tkF (l.drop x.1) (fun k => eget k x.2.1)).1, (tkF (l.drop x.1) (fun k => eget k x.2.1)).2))
    (fun x => ⟨[(6, vI x.1), (0, .p (.sl es l.length)), (4, .p (.val (.pointer (some ⟨b, 0, none⟩)))), (5, .row 41 x.2.2.2.2.2.2.length)], [], [(41, 27, 7, x.2.2.2.2.2.2)], Led b b1 b2 x.2.1 x.2.2.1 x.2.2.2.1 x.2.2.2.2.1 φ⟩) (fun x => l.length - x.1) (0, [], 0, [], 0, [], [])
    ⟨Nat.zero_le _, ⟨ewf_nil, ewf_nil, fun k => by simp [eget, evals, mget, maxI], fun p => by simp [eget, evals, mget]⟩, by simp, .nil, rfl⟩ ?_ ?_
  · refine (Gho.mkRow (s := 5) (r := 41) (T := 27) (k := 7) ?_ rfl).trans (Gho.sub ?_ ?_ ?_ ?_ rfl)
    · simp only [go_sem, Nat.reduceBEq]
    · simp [subFr, go_sem, leAV, St.mkRow]
    · simp [subB]
    · simp [subB, go_sem, St.mkRow]
    · simp [refsOK, go_sem]
  · rintro ⟨k, m, c, n, d, acc, es'⟩ Q' ⟨hk, hw, hel, hall, hg⟩ hnx hq
    replace hk : k ≤ l.length := hk
    replace hw : LW (k * 1073741824) m c n d := hw
    replace hel : es'.length ≤ k := hel
    replace hall : All2 IsObj acc es' := hall
    replace hg : (tkF l fun _ => 0) = (acc ++ (tkF (l.drop k) (fun q => eget q m)).1, (tkF (l.drop k) (fun q => eget q m)).2) := hg
    simp -implicitDefEqProofs only [go_sem, Nat.reduceBEq, Nat.reduceAdd, c20l8, c20r4, decide_eq_true_eq, decide_eq_false_iff_not]
    intro hL
    refine ⟨fun hlt => ?_, fun hge => ?_⟩
    · have hlt : k < l.length := by omega
      obtain ⟨o, e, ho, he, hO⟩ := SlR.at hl hlt
      have h7 := obj_len hO
      have hO2 := copyC_is hO
      have h7' := obj_len hO2
      have htk7 : e.take 7 = e := List.take_of_length_le (by omega)
      have htk7' : (copyC e).take 7 = copyC e := List.take_of_length_le (by omega)
      have hd0 : l.drop k = o :: l.drop (k + 1) := by
        rw [List.drop_eq_getElem_cons hlt]
        have : l[k] = o := by rw [List.getElem?_eq_getElem hlt] at ho; exact Option.some.inj ho
        rw [this]
      rw [hd0, tkF] at hg
      simp -implicitDefEqProofs only [go_sem, Nat.reduceBEq, Nat.reduceAdd, c20r5, Int.toNat_natCast, he, Option.some.injEq, exists_eq_left', List.drop_succ_cons, List.drop_zero, Nat.reduceLeDiff, true_and, List.length_cons, List.length_nil, Nat.ble, List.take_succ_cons, List.take_zero, Nat.zero_add, Nat.le_refl, h7, htk7]
      refine ⟨by omega, by omega, callS_of d15 ⟨o, e, rfl, hO, ?_⟩⟩
      simp -implicitDefEqProofs only [go_sem, Nat.reduceBEq, Nat.reduceAdd, List.drop_succ_cons, List.drop_zero, Nat.reduceLeDiff, true_and, List.length_cons, List.length_nil, Nat.ble, List.take_succ_cons, List.take_zero, Nat.zero_add, Nat.le_refl]
      refine callS_of d23 ⟨o, _, rfl, hO2, ?_⟩
      simp -implicitDefEqProofs only [go_sem, Nat.reduceBEq, Nat.reduceAdd, Int.toNat_natCast, he, Option.some.injEq, exists_eq_left', List.drop_succ_cons, List.drop_zero, Nat.reduceLeDiff, true_and, List.length_cons, List.length_nil, Nat.ble, List.take_succ_cons, List.take_zero, Nat.zero_add, Nat.le_refl, h7, htk7, decide_eq_true_eq, decide_eq_false_iff_not]
      refine ⟨fun h0 => ?_, fun h0 => ?_⟩
      · refine ⟨by omega, by omega, callS_of d15 ⟨o, e, rfl, hO, ?_⟩⟩
        simp -implicitDefEqProofs only [go_sem, Nat.reduceBEq, Nat.reduceAdd, List.drop_succ_cons, List.drop_zero, Nat.reduceLeDiff, true_and, List.length_cons, List.length_nil, Nat.ble, List.take_succ_cons, List.take_zero, Nat.zero_add, Nat.le_refl]
        refine callS_of d48 ⟨b, b1, b2, m, c, n, d, _, o, copyC e, φ, rfl, rfl, hw, by omega, hO2, (enc_sz h0).1, fun h => ?_, fun h m' c' n' d' w g1 _ => ?_⟩
        · have hno : ¬ (encF o = 0 ∧ chE (fun q => eget q m) o = 0) := fun h2 => h h2.2
          simp -implicitDefEqProofs only [go_sem, Nat.reduceBEq, Nat.reduceAdd, c20r6, c20r7, List.drop_succ_cons, List.drop_zero, Nat.reduceLeDiff, true_and, List.length_cons, List.length_nil, Nat.ble, List.take_succ_cons, List.take_zero, Nat.zero_add, Nat.le_refl, next_i hlt hb', decide_eq_true_eq, decide_eq_false_iff_not]
          refine ⟨fun h2 => absurd h2 h, fun _ => ?_⟩
          refine hnx _ (k + 1, m, c, n, d, acc, es') ⟨by omega, ?_, by show es'.length ≤ k + 1; omega, hall, by rw [hg, if_neg hno]⟩ (by simp only; omega) ?_
          · refine ⟨hw.wm, hw.wn, hw.s, fun p => ?_⟩
            have := hw.c p
            show 0 ≤ eget p n ∧ eget p n ≤ ((k + 1 : Nat) : Int) * 1073741824
            omega
          · refine Gho.sub ?_ ?_ ?_ ?_ rfl
            · simp [subFr, go_sem, leAV]
            · simp [subB]
            · simp [subB, go_sem]
            · simp [refsOK, go_sem]
        · have hyes : encF o = 0 ∧ chE (fun q => eget q m) o = 0 := ⟨h0, h⟩
          rw [if_pos hyes] at hg
          have hfe : (fun q => eget q m') = chF (fun q => eget q m) o := funext g1
          simp -implicitDefEqProofs only [go_sem, Nat.reduceBEq, Nat.reduceAdd, c20r6, c20r7, List.drop_succ_cons, List.drop_zero, Nat.reduceLeDiff, true_and, List.length_cons, List.length_nil, Nat.ble, List.take_succ_cons, List.take_zero, Nat.zero_add, Nat.le_refl, next_i hlt hb', decide_true, Int.toNat_natCast, he, Option.some.injEq, exists_eq_left', h7, htk7, allK, Nat.reduceMul]
          refine ⟨by omega, by omega, by omega, by omega, by intro e1 he1; rw [List.mem_singleton] at he1; rw [he1]; exact h7, by omega, by simp only [LIM]; omega, ?_⟩
          have hN : ((k + 1 : Nat) : Int) * 1073741824 = (k : Int) * 1073741824 + 1073741824 := by omega
          refine hnx _ (k + 1, m', c', n', d', acc ++ [o], es' ++ [e]) ⟨by omega, by show LW (((k + 1 : Nat) : Int) * 1073741824) m' c' n' d'; rw [hN]; exact w, by show (es' ++ [e]).length ≤ k + 1; rw [List.length_append, List.length_singleton]; omega, hall.app (.cons hO .nil), ?_⟩ (by simp only; omega) ?_
          · rw [hg]
            show _ = ((acc ++ [o]) ++ (tkF (l.drop (k + 1)) (fun q => eget q m')).1, (tkF (l.drop (k + 1)) (fun q => eget q m')).2)
            rw [hfe, List.append_assoc]; rfl
          · refine Gho.sub ?_ ?_ ?_ ?_ rfl
            · simp [subFr, go_sem, leAV]
            · simp [subB]
            · simp [subB, go_sem]
            · simp [refsOK, go_sem]
      · have hno : ¬ (encF o = 0 ∧ chE (fun q => eget q m) o = 0) := fun h => h0 h.1
        simp -implicitDefEqProofs only [go_sem, Nat.reduceBEq, Nat.reduceAdd, c20r7, List.drop_succ_cons, List.drop_zero, Nat.reduceLeDiff, true_and, List.length_cons, List.length_nil, Nat.ble, List.take_succ_cons, List.take_zero, Nat.zero_add, Nat.le_refl, next_i hlt hb']
        refine hnx _ (k + 1, m, c, n, d, acc, es') ⟨by omega, ?_, by show es'.length ≤ k + 1; omega, hall, by rw [hg, if_neg hno]⟩ (by simp only; omega) ?_
        · refine ⟨hw.wm, hw.wn, hw.s, fun p => ?_⟩
          have := hw.c p
          show 0 ≤ eget p n ∧ eget p n ≤ ((k + 1 : Nat) : Int) * 1073741824
          omega
        · refine Gho.sub ?_ ?_ ?_ ?_ rfl
          · simp [subFr, go_sem, leAV]
          · simp [subB]
          · simp [subB, go_sem]
          · simp [refsOK, go_sem]
    · have hkk : k = l.length := by omega
      subst hkk
      rw [List.drop_length, tkF, List.append_nil] at hg
      rw [hg] at hK
      refine hq _ _ (by simp) ?_
      simp -implicitDefEqProofs only [go_sem, Nat.reduceBEq, Nat.reduceAdd, c20r9]
      have hlen : acc.length = es'.length := hall.len
      have hw' : LW 1152921504606846976 m c n d := ⟨hw.wm, hw.wn, hw.s, fun p => by have := hw.c p; omega⟩
      have := hK b b1 b2 m c n d es' hw' (fun _ => rfl) hlen.symm hall
      rw [hlen] at this
      exact this
end Go.Proofs.YtnjblinbdimkjaaGreatDoor
