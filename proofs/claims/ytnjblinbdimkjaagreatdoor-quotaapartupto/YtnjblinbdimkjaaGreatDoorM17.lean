/-
  bursarlaw18.QuotaApart answers true and leaves its arguments as they were, for inputs of bulk at most 1048576 (the given second form; no other condition). Part 17 of 26 of the proof.
-/
import Derived.Test.YtnjblinbdimkjaaGreatDoorM16
import Derived.Test.YtnjblinbdimkjaaGreatDoorM10
namespace Go.Proofs.YtnjblinbdimkjaaGreatDoor
open Go Go.Am
-- 111 bursar/object.formedObject (82 slots, 1 parameters)
def c111r0 : List AOper := [
  ⟨some 1, none, .box (.t 0)⟩,
  ⟨some 2, none, .mov (.k (.p (.val (.bool false))))⟩]
def c111r1 : List AOper := [
  ⟨some 5, none, .fad 0 (.t 1)⟩,
  ⟨some 6, none, .load false 1 (.t 5)⟩,
  ⟨some 7, none, .call 73 [(.t 6)]⟩,
  ⟨some 8, none, .bin .neq 38 (.t 7) (.k (.p (.val (.int .i64 0))))⟩,
  ⟨some 9, none, .mov (.t 8)⟩,
  ⟨some 10, some (9, false), .fad 1 (.t 1)⟩,
  ⟨some 11, some (9, false), .load false 1 (.t 10)⟩,
  ⟨some 12, some (9, false), .call 159 [(.t 11)]⟩,
  ⟨some 13, some (9, false), .un .not (.t 12)⟩,
  ⟨some 14, none, .pick (.t 9) (.k (.p (.val (.bool true)))) (.t 13)⟩,
  ⟨some 15, none, .mov (.t 14)⟩,
  ⟨some 16, some (15, false), .fad 2 (.t 1)⟩,
  ⟨some 17, some (15, false), .load false 1 (.t 16)⟩,
  ⟨some 18, some (15, false), .call 160 [(.t 17)]⟩,
  ⟨some 19, some (15, false), .bin .neq 38 (.t 18) (.k (.p (.val (.int .i64 0))))⟩,
  ⟨some 20, none, .pick (.t 15) (.k (.p (.val (.bool true)))) (.t 19)⟩]
def c111r2 : List AOper := [
  ⟨some 2, none, .mov (.k (.p (.val (.bool false))))⟩]
def c111r3 : List AOper := [
  ⟨some 21, none, .fad 3 (.t 1)⟩,
  ⟨some 22, none, .load false 1 (.t 21)⟩,
  ⟨some 23, none, .bin .lss 3 (.t 22) (.k (.p (.val (.int .i64 0))))⟩,
  ⟨some 24, none, .mov (.t 23)⟩,
  ⟨some 25, some (24, false), .fad 3 (.t 1)⟩,
  ⟨some 26, some (24, false), .load false 1 (.t 25)⟩,
  ⟨some 27, some (24, false), .bin .gtr 3 (.t 26) (.k (.p (.val (.int .i64 9))))⟩,
  ⟨some 28, none, .pick (.t 24) (.k (.p (.val (.bool true)))) (.t 27)⟩,
  ⟨some 29, none, .mov (.t 28)⟩,
  ⟨some 30, some (29, false), .fad 4 (.t 1)⟩,
  ⟨some 31, some (29, false), .load false 1 (.t 30)⟩,
  ⟨some 32, some (29, false), .call 161 [(.t 31), (.k (.p (.val (.int .i64 0)))), (.k (.p (.val (.int .i64 1152921504606846976))))]⟩,
  ⟨some 33, some (29, false), .un .not (.t 32)⟩,
  ⟨some 34, none, .pick (.t 29) (.k (.p (.val (.bool true)))) (.t 33)⟩,
  ⟨some 35, none, .mov (.t 34)⟩,
  ⟨some 36, some (35, false), .fad 6 (.t 1)⟩,
  ⟨some 37, some (35, false), .load false 1 (.t 36)⟩,
  ⟨some 38, some (35, false), .call 161 [(.t 37), (.k (.p (.val (.int .i64 0)))), (.k (.p (.val (.int .i64 1152921504606846976))))]⟩,
  ⟨some 39, some (35, false), .un .not (.t 38)⟩,
  ⟨some 40, none, .pick (.t 35) (.k (.p (.val (.bool true)))) (.t 39)⟩,
  ⟨some 41, none, .mov (.t 40)⟩,
  ⟨some 42, some (41, false), .fad 5 (.t 1)⟩,
  ⟨some 43, some (41, false), .load false 1 (.t 42)⟩,
  ⟨some 44, some (41, false), .len (.t 43)⟩,
  ⟨some 45, some (41, false), .bin .lss 3 (.t 44) (.k (.p (.val (.int .i64 1))))⟩,
  ⟨some 46, none, .pick (.t 41) (.k (.p (.val (.bool true)))) (.t 45)⟩,
  ⟨some 47, none, .mov (.t 46)⟩,
  ⟨some 48, some (47, false), .fad 5 (.t 1)⟩,
  ⟨some 49, some (47, false), .load false 1 (.t 48)⟩,
  ⟨some 50, some (47, false), .len (.t 49)⟩,
  ⟨some 51, some (47, false), .bin .gtr 3 (.t 50) (.k (.p (.val (.int .i64 8))))⟩,
  ⟨some 52, none, .pick (.t 47) (.k (.p (.val (.bool true)))) (.t 51)⟩]
def c111r4 : List AOper := [
  ⟨some 2, none, .mov (.k (.p (.val (.bool false))))⟩]
def c111r5 : List AOper := [
  ⟨some 53, none, .fad 5 (.t 1)⟩,
  ⟨some 54, none, .load false 1 (.t 53)⟩,
  ⟨some 55, none, .len (.t 54)⟩,
  ⟨some 56, none, .mov (.k (.p (.val (.int .i64 0))))⟩]
def c111r6 : List AOper := [
  ⟨some 57, none, .bin .lss 3 (.t 56) (.t 55)⟩]
def c111r7 : List AOper := [
  ⟨some 58, none, .iad 3 (.t 54) (.t 56)⟩,
  ⟨some 59, none, .load true 3 (.t 58)⟩,
  ⟨some 4, none, .alloc [(.val (.string ⟨#[]⟩)), (.sl [] 0), (.sl [] 0)]⟩,
  ⟨none, none, .store 3 (.t 4) (.t 59)⟩]
def c111r8 : List AOper := [
  ⟨some 60, none, .fad 0 (.t 4)⟩,
  ⟨some 61, none, .load false 1 (.t 60)⟩,
  ⟨some 62, none, .call 159 [(.t 61)]⟩,
  ⟨some 63, none, .un .not (.t 62)⟩,
  ⟨some 64, none, .mov (.t 63)⟩,
  ⟨some 65, some (64, false), .fad 1 (.t 4)⟩,
  ⟨some 66, some (64, false), .load false 1 (.t 65)⟩,
  ⟨some 67, some (64, false), .call 162 [(.t 66)]⟩,
  ⟨some 68, some (64, false), .bin .neq 38 (.t 67) (.k (.p (.val (.int .i64 0))))⟩,
  ⟨some 69, none, .pick (.t 64) (.k (.p (.val (.bool true)))) (.t 68)⟩,
  ⟨some 70, none, .mov (.t 69)⟩,
  ⟨some 71, some (70, false), .fad 2 (.t 4)⟩,
  ⟨some 72, some (70, false), .load false 1 (.t 71)⟩,
  ⟨some 73, some (70, false), .call 162 [(.t 72)]⟩,
  ⟨some 74, some (70, false), .bin .neq 38 (.t 73) (.k (.p (.val (.int .i64 0))))⟩,
  ⟨some 75, none, .pick (.t 70) (.k (.p (.val (.bool true)))) (.t 74)⟩]
def c111r9 : List AOper := [
  ⟨some 2, none, .mov (.k (.p (.val (.bool false))))⟩]
def c111r10 : List AOper := [
  ⟨some 76, none, .bin .add 3 (.t 56) (.k (.p (.val (.int .i64 1))))⟩,
  ⟨some 56, none, .mov (.t 76)⟩]
def c111l11 : ACode := (.seq (.reg c111r6) (.seq (.cond (.t 57) .skip (.exit 0)) (.seq (.block 1 (.seq (.reg c111r7) (.seq (.reg c111r8) (.cond (.t 75) (.seq (.reg c111r9) .ret) .skip)))) (.reg c111r10))))
def c111r12 : List AOper := [
  ⟨some 77, none, .fad 5 (.t 1)⟩,
  ⟨some 78, none, .load false 1 (.t 77)⟩,
  ⟨some 79, none, .len (.t 78)⟩,
  ⟨some 80, none, .mkf 164 [(.t 1)]⟩,
  ⟨some 81, none, .call 163 [(.t 79), (.t 80)]⟩,
  ⟨some 2, none, .mov (.t 81)⟩]
def c111 : ACode := (.seq (.reg c111r0) (.seq (.seq (.reg c111r1) (.cond (.t 20) (.seq (.reg c111r2) .ret) .skip)) (.seq (.seq (.reg c111r3) (.cond (.t 52) (.seq (.reg c111r4) .ret) .skip)) (.seq (.seq (.reg c111r5) (.block 0 (.loop c111l11))) (.seq (.reg c111r12) .ret)))))
theorem c111_eq : (Tryz.f111.body).map (tr Tryz.prog gls 82) = some c111 := by kernel_rfl
theorem k111 {S : Am.Spec} (hargs : ∀ rs φ K, S rs φ K → rs.length ≤ 82) (h : Shows Tryz.prog gls c111 [.t 2] S) : Snd Tryz.prog gls 111 S :=
  snd_code Tryz.func111 c111_eq (by kernel_rfl) (by kernel_rfl) Tryz.ntmps111 hargs h
-- 136 bursar/object.formedQuota (77 slots, 1 parameters)
def c136r0 : List AOper := [
  ⟨some 1, none, .box (.t 0)⟩,
  ⟨some 2, none, .mov (.k (.p (.val (.bool false))))⟩]
def c136r1 : List AOper := [
  ⟨some 6, none, .fad 0 (.t 1)⟩,
  ⟨some 7, none, .load false 1 (.t 6)⟩,
  ⟨some 8, none, .call 73 [(.t 7)]⟩,
  ⟨some 9, none, .bin .neq 38 (.t 8) (.k (.p (.val (.int .i64 0))))⟩,
  ⟨some 10, none, .mov (.t 9)⟩,
  ⟨some 11, some (10, false), .fad 1 (.t 1)⟩,
  ⟨some 12, some (10, false), .load false 1 (.t 11)⟩,
  ⟨some 13, some (10, false), .call 159 [(.t 12)]⟩,
  ⟨some 14, some (10, false), .un .not (.t 13)⟩,
  ⟨some 15, none, .pick (.t 10) (.k (.p (.val (.bool true)))) (.t 14)⟩,
  ⟨some 16, none, .mov (.t 15)⟩,
  ⟨some 17, some (16, false), .fad 4 (.t 1)⟩,
  ⟨some 18, some (16, false), .load false 1 (.t 17)⟩,
  ⟨some 19, some (16, false), .len (.t 18)⟩,
  ⟨some 20, some (16, false), .bin .lss 3 (.t 19) (.k (.p (.val (.int .i64 1))))⟩,
  ⟨some 21, none, .pick (.t 16) (.k (.p (.val (.bool true)))) (.t 20)⟩,
  ⟨some 22, none, .mov (.t 21)⟩,
  ⟨some 23, some (22, false), .fad 4 (.t 1)⟩,
  ⟨some 24, some (22, false), .load false 1 (.t 23)⟩,
  ⟨some 25, some (22, false), .len (.t 24)⟩,
  ⟨some 26, some (22, false), .bin .gtr 3 (.t 25) (.k (.p (.val (.int .i64 16))))⟩,
  ⟨some 27, none, .pick (.t 22) (.k (.p (.val (.bool true)))) (.t 26)⟩]
def c136r2 : List AOper := [
  ⟨some 2, none, .mov (.k (.p (.val (.bool false))))⟩]
def c136r3 : List AOper := [
  ⟨some 3, none, .mov (.k (.p (.val (.int .i64 0))))⟩]
def c136r4 : List AOper := [
  ⟨some 28, none, .fad 2 (.t 1)⟩,
  ⟨some 29, none, .fad 0 (.t 28)⟩,
  ⟨some 30, none, .load false 1 (.t 29)⟩,
  ⟨some 31, none, .bin .eql 3 (.t 30) (.k (.p (.val (.int .i64 5))))⟩]
def c136r5 : List AOper := [
  ⟨some 3, none, .mov (.k (.p (.val (.int .i64 9))))⟩]
def c136r6 : List AOper := [
  ⟨some 32, none, .fad 2 (.t 1)⟩,
  ⟨some 33, none, .fad 0 (.t 32)⟩,
  ⟨some 34, none, .load false 1 (.t 33)⟩,
  ⟨some 35, none, .bin .lss 3 (.t 34) (.k (.p (.val (.int .i64 0))))⟩,
  ⟨some 36, none, .mov (.t 35)⟩,
  ⟨some 37, some (36, false), .fad 2 (.t 1)⟩,
  ⟨some 38, some (36, false), .fad 0 (.t 37)⟩,
  ⟨some 39, some (36, false), .load false 1 (.t 38)⟩,
  ⟨some 40, some (36, false), .bin .gtr 3 (.t 39) (.k (.p (.val (.int .i64 5))))⟩,
  ⟨some 41, none, .pick (.t 36) (.k (.p (.val (.bool true)))) (.t 40)⟩,
  ⟨some 42, none, .mov (.t 41)⟩,
  ⟨some 43, some (42, false), .fad 2 (.t 1)⟩,
  ⟨some 44, some (42, false), .fad 1 (.t 43)⟩,
  ⟨some 45, some (42, false), .load false 1 (.t 44)⟩,
  ⟨some 46, some (42, false), .bin .lss 3 (.t 45) (.k (.p (.val (.int .i64 0))))⟩,
  ⟨some 47, none, .pick (.t 42) (.k (.p (.val (.bool true)))) (.t 46)⟩,
  ⟨some 48, none, .mov (.t 47)⟩,
  ⟨some 49, some (48, false), .fad 2 (.t 1)⟩,
  ⟨some 50, some (48, false), .fad 1 (.t 49)⟩,
  ⟨some 51, some (48, false), .load false 1 (.t 50)⟩,
  ⟨some 52, some (48, false), .mov (.t 3)⟩,
  ⟨some 53, some (48, false), .bin .gtr 3 (.t 51) (.t 52)⟩,
  ⟨some 54, none, .pick (.t 48) (.k (.p (.val (.bool true)))) (.t 53)⟩]
def c136r7 : List AOper := [
  ⟨some 2, none, .mov (.k (.p (.val (.bool false))))⟩]
def c136r8 : List AOper := [
  ⟨some 55, none, .fad 4 (.t 1)⟩,
  ⟨some 56, none, .load false 1 (.t 55)⟩,
  ⟨some 57, none, .len (.t 56)⟩,
  ⟨some 58, none, .mov (.k (.p (.val (.int .i64 0))))⟩]
def c136r9 : List AOper := [
  ⟨some 59, none, .bin .lss 3 (.t 58) (.t 57)⟩]
def c136r10 : List AOper := [
  ⟨some 60, none, .iad 2 (.t 56) (.t 58)⟩,
  ⟨some 61, none, .load true 2 (.t 60)⟩,
  ⟨some 5, none, .alloc [(.val (.string ⟨#[]⟩)), (.val (.int .i64 0))]⟩,
  ⟨none, none, .store 2 (.t 5) (.t 61)⟩]
def c136r11 : List AOper := [
  ⟨some 62, none, .fad 0 (.t 5)⟩,
  ⟨some 63, none, .load false 1 (.t 62)⟩,
  ⟨some 64, none, .call 187 [(.t 63)]⟩,
  ⟨some 65, none, .un .not (.t 64)⟩,
  ⟨some 66, none, .mov (.t 65)⟩,
  ⟨some 67, some (66, false), .fad 1 (.t 5)⟩,
  ⟨some 68, some (66, false), .load false 1 (.t 67)⟩,
  ⟨some 69, some (66, false), .bin .lss 2 (.t 68) (.k (.p (.val (.int .i64 0))))⟩,
  ⟨some 70, none, .pick (.t 66) (.k (.p (.val (.bool true)))) (.t 69)⟩]
def c136r12 : List AOper := [
  ⟨some 2, none, .mov (.k (.p (.val (.bool false))))⟩]
def c136r13 : List AOper := [
  ⟨some 71, none, .bin .add 3 (.t 58) (.k (.p (.val (.int .i64 1))))⟩,
  ⟨some 58, none, .mov (.t 71)⟩]
def c136l14 : ACode := (.seq (.reg c136r9) (.seq (.cond (.t 59) .skip (.exit 0)) (.seq (.block 1 (.seq (.reg c136r10) (.seq (.reg c136r11) (.cond (.t 70) (.seq (.reg c136r12) .ret) .skip)))) (.reg c136r13))))
def c136r15 : List AOper := [
  ⟨some 72, none, .fad 4 (.t 1)⟩,
  ⟨some 73, none, .load false 1 (.t 72)⟩,
  ⟨some 74, none, .len (.t 73)⟩,
  ⟨some 75, none, .mkf 188 [(.t 1)]⟩,
  ⟨some 76, none, .call 163 [(.t 74), (.t 75)]⟩,
  ⟨some 2, none, .mov (.t 76)⟩]
def c136 : ACode := (.seq (.reg c136r0) (.seq (.seq (.reg c136r1) (.cond (.t 27) (.seq (.reg c136r2) .ret) .skip)) (.seq (.reg c136r3) (.seq (.seq (.reg c136r4) (.cond (.t 31) (.reg c136r5) .skip)) (.seq (.seq (.reg c136r6) (.cond (.t 54) (.seq (.reg c136r7) .ret) .skip)) (.seq (.seq (.reg c136r8) (.block 0 (.loop c136l14))) (.seq (.reg c136r15) .ret)))))))
theorem c136_eq : (Tryz.f136.body).map (tr Tryz.prog gls 77) = some c136 := by kernel_rfl
theorem k136 {S : Am.Spec} (hargs : ∀ rs φ K, S rs φ K → rs.length ≤ 77) (h : Shows Tryz.prog gls c136 [.t 2] S) : Snd Tryz.prog gls 136 S :=
  snd_code Tryz.func136 c136_eq (by kernel_rfl) (by kernel_rfl) Tryz.ntmps136 hargs h
-- 165 bursar/pack.NewWriter (8 slots, 1 parameters)
def c165r0 : List AOper := [
  ⟨some 2, none, .mov (.k (.p (.val (.pointer none))))⟩]
def c165r1 : List AOper := [
  ⟨some 3, none, .mov (.t 0)⟩,
  ⟨some 4, none, .mm true (.t 3) (.k (.p (.val (.int .i64 0))))⟩,
  ⟨some 5, none, .mm false (.t 4) (.k (.p (.val (.int .i64 1048576))))⟩,
  ⟨some 6, none, .prim (.build 221 #[(0, (.tmp 5))]) [(.t 5)]⟩,
  ⟨some 7, none, .prim (.box 221 (.tmp 6)) [(.t 6)]⟩,
  ⟨some 2, none, .mov (.t 7)⟩]
def c165 : ACode := (.seq (.reg c165r0) (.seq (.reg c165r1) .ret))
theorem c165_eq : (Tryz.f165.body).map (tr Tryz.prog (glX gls [6, 7]) 8) = some c165 := by kernel_rfl
theorem k165 {S : Am.Spec} (hargs : ∀ rs φ K, S rs φ K → rs.length ≤ 8) (h : Shows Tryz.prog (glX gls [6, 7]) c165 [.t 2] S) : Snd Tryz.prog gls 165 S :=
  Snd.down <| snd_code Tryz.func165 c165_eq (by kernel_rfl) (by kernel_rfl) Tryz.ntmps165 hargs h
-- 167 bursar/pack.number (19 slots, 1 parameters)
def c167r0 : List AOper := [
  ⟨some 2, none, .mov (.k (.p (.val (.slice none 0 0))))⟩]
def c167r1 : List AOper := [
  ⟨some 3, none, .mov (.k (.p (.val (.slice none 0 0))))⟩]
def c167r2 : List AOper := [
  ⟨some 4, none, .mov (.t 0)⟩,
  ⟨some 5, none, .bin .geq 120 (.t 4) (.k (.p (.val (.int .u64 128))))⟩]
def c167r3 : List AOper := [
  ⟨some 6, none, .mov (.t 3)⟩,
  ⟨some 7, none, .mov (.t 0)⟩,
  ⟨some 8, none, .cv .u8 (.t 7)⟩,
  ⟨some 9, none, .bin .or 5 (.t 8) (.k (.p (.val (.int .u8 128))))⟩,
  ⟨some 10, none, .bslice 5 1 1 [(.val (.int .u8 0))] [(0, 1, (.t 9))]⟩,
  ⟨some 11, none, .app 5 1 1 (.t 6) (.t 10)⟩,
  ⟨some 3, none, .mov (.t 11)⟩]
def c167r4 : List AOper := [
  ⟨some 12, none, .mov (.t 0)⟩,
  ⟨some 13, none, .shf false (.t 12) (.k (.p (.val (.int .u64 7))))⟩,
  ⟨some 0, none, .mov (.t 13)⟩]
def c167l5 : ACode := (.seq (.seq (.reg c167r2) (.cond (.t 5) .skip (.exit 0))) (.block 1 (.seq (.reg c167r3) (.reg c167r4))))
def c167r6 : List AOper := [
  ⟨some 14, none, .mov (.t 3)⟩,
  ⟨some 15, none, .mov (.t 0)⟩,
  ⟨some 16, none, .cv .u8 (.t 15)⟩,
  ⟨some 17, none, .bslice 5 1 1 [(.val (.int .u8 0))] [(0, 1, (.t 16))]⟩,
  ⟨some 18, none, .app 5 1 1 (.t 14) (.t 17)⟩,
  ⟨some 2, none, .mov (.t 18)⟩]
def c167 : ACode := (.seq (.reg c167r0) (.seq (.reg c167r1) (.seq (.block 0 (.loop c167l5)) (.seq (.reg c167r6) .ret))))
theorem c167_eq : (Tryz.f167.body).map (tr Tryz.prog gls 19) = some c167 := by kernel_rfl
theorem k167 {S : Am.Spec} (hargs : ∀ rs φ K, S rs φ K → rs.length ≤ 19) (h : Shows Tryz.prog gls c167 [.t 2] S) : Snd Tryz.prog gls 167 S :=
  snd_code Tryz.func167 c167_eq (by kernel_rfl) (by kernel_rfl) Tryz.ntmps167 hargs h
-- 166 (*bursar/pack.Writer).lay (56 slots, 3 parameters)
def c166r0 : List AOper := [
  ⟨some 6, none, .mov (.t 0)⟩,
  ⟨some 7, none, .chk (.t 6)⟩,
  ⟨some 8, none, .fad 2 (.t 7)⟩,
  ⟨some 9, none, .load false 1 (.t 8)⟩,
  ⟨some 10, none, .bin .neq 38 (.t 9) (.k (.p (.val (.int .i64 0))))⟩]
def c166r1 : List AOper := [
  ⟨some 11, none, .mov (.t 1)⟩,
  ⟨some 12, none, .lenq (.t 11)⟩,
  ⟨some 13, none, .mov (.t 0)⟩,
  ⟨some 14, none, .chk (.t 13)⟩,
  ⟨some 15, none, .fad 0 (.t 14)⟩,
  ⟨some 16, none, .load false 1 (.t 15)⟩,
  ⟨some 17, none, .mov (.t 0)⟩,
  ⟨some 18, none, .chk (.t 17)⟩,
  ⟨some 19, none, .fad 1 (.t 18)⟩,
  ⟨some 20, none, .load false 1 (.t 19)⟩,
  ⟨some 21, none, .lenq (.t 20)⟩,
  ⟨some 22, none, .bin .sub 3 (.t 16) (.t 21)⟩,
  ⟨some 23, none, .bin .gtr 3 (.t 12) (.t 22)⟩,
  ⟨some 24, none, .mov (.t 23)⟩,
  ⟨some 25, some (24, false), .mov (.t 2)⟩,
  ⟨some 26, some (24, false), .lens (.t 25)⟩,
  ⟨some 27, some (24, false), .mov (.t 0)⟩,
  ⟨some 28, some (24, false), .chk (.t 27)⟩,
  ⟨some 29, some (24, false), .fad 0 (.t 28)⟩,
  ⟨some 30, some (24, false), .load false 1 (.t 29)⟩,
  ⟨some 31, some (24, false), .mov (.t 0)⟩,
  ⟨some 32, some (24, false), .chk (.t 31)⟩,
  ⟨some 33, some (24, false), .fad 1 (.t 32)⟩,
  ⟨some 34, some (24, false), .load false 1 (.t 33)⟩,
  ⟨some 35, some (24, false), .lenq (.t 34)⟩,
  ⟨some 36, some (24, false), .bin .sub 3 (.t 30) (.t 35)⟩,
  ⟨some 37, some (24, false), .mov (.t 1)⟩,
  ⟨some 38, some (24, false), .lenq (.t 37)⟩,
  ⟨some 39, some (24, false), .bin .sub 3 (.t 36) (.t 38)⟩,
  ⟨some 40, some (24, false), .bin .gtr 3 (.t 26) (.t 39)⟩,
  ⟨some 41, none, .pick (.t 24) (.k (.p (.val (.bool true)))) (.t 40)⟩]
def c166r2 : List AOper := [
  ⟨some 42, none, .mov (.t 0)⟩,
  ⟨some 43, none, .chk (.t 42)⟩,
  ⟨some 44, none, .fad 2 (.t 43)⟩,
  ⟨none, none, .store 1 (.t 44) (.k (.p (.val (.int .i64 23))))⟩]
def c166r3 : List AOper := [
  ⟨some 45, none, .mov (.t 0)⟩,
  ⟨some 46, none, .mov (.t 0)⟩,
  ⟨some 47, none, .chk (.t 46)⟩,
  ⟨some 48, none, .fad 1 (.t 47)⟩,
  ⟨some 49, none, .load false 1 (.t 48)⟩,
  ⟨some 50, none, .mov (.t 1)⟩,
  ⟨some 51, none, .prim (.call { callee := .builtin .append, args := #[(.tmp 49), (.tmp 50)], argTypes := #[212, 212] }) [(.t 49), (.t 50)]⟩,
  ⟨some 52, none, .mov (.t 2)⟩,
  ⟨some 53, none, .prim (.call { callee := .builtin .append, args := #[(.tmp 51), (.tmp 52)], argTypes := #[212, 9] }) [(.t 51), (.t 52)]⟩,
  ⟨some 54, none, .chk (.t 45)⟩,
  ⟨some 55, none, .fad 1 (.t 54)⟩,
  ⟨none, none, .store 1 (.t 55) (.t 53)⟩]
def c166 : ACode := (.seq (.seq (.reg c166r0) (.cond (.t 10) .ret .skip)) (.seq (.seq (.reg c166r1) (.cond (.t 41) (.seq (.reg c166r2) .ret) .skip)) (.reg c166r3)))
theorem c166_eq : (Tryz.f166.body).map (tr Tryz.prog (glX gls [51]) 56) = some c166 := by kernel_rfl
theorem k166 {S : Am.Spec} (hargs : ∀ rs φ K, S rs φ K → rs.length ≤ 56) (h : Shows Tryz.prog (glX gls [51]) c166 [] S) : Snd Tryz.prog gls 166 S :=
  Snd.down <| snd_code Tryz.func166 c166_eq (by kernel_rfl) (by kernel_rfl) Tryz.ntmps166 hargs h
-- 116 (*bursar/pack.Writer).Uint (8 slots, 2 parameters)
def c116r0 : List AOper := [
  ⟨some 4, none, .mov (.t 0)⟩,
  ⟨some 5, none, .mov (.t 1)⟩,
  ⟨some 6, none, .call 167 [(.t 5)]⟩,
  ⟨some 7, none, .call 166 [(.t 4), (.t 6), (.k (.p (.val (.string ⟨#[]⟩))))]⟩]
def c116 : ACode := (.reg c116r0)
theorem c116_eq : (Tryz.f116.body).map (tr Tryz.prog gls 8) = some c116 := by kernel_rfl
theorem k116 {S : Am.Spec} (hargs : ∀ rs φ K, S rs φ K → rs.length ≤ 8) (h : Shows Tryz.prog gls c116 [] S) : Snd Tryz.prog gls 116 S :=
  snd_code Tryz.func116 c116_eq (by kernel_rfl) (by kernel_rfl) Tryz.ntmps116 hargs h
-- 115 (*bursar/pack.Writer).Byte (8 slots, 2 parameters)
def c115r0 : List AOper := [
  ⟨some 4, none, .mov (.t 0)⟩,
  ⟨some 5, none, .mov (.t 1)⟩,
  ⟨some 6, none, .bslice 5 1 1 [(.val (.int .u8 0))] [(0, 1, (.t 5))]⟩,
  ⟨some 7, none, .call 166 [(.t 4), (.t 6), (.k (.p (.val (.string ⟨#[]⟩))))]⟩]
def c115 : ACode := (.reg c115r0)
theorem c115_eq : (Tryz.f115.body).map (tr Tryz.prog gls 8) = some c115 := by kernel_rfl
theorem k115 {S : Am.Spec} (hargs : ∀ rs φ K, S rs φ K → rs.length ≤ 8) (h : Shows Tryz.prog gls c115 [] S) : Snd Tryz.prog gls 115 S :=
  snd_code Tryz.func115 c115_eq (by kernel_rfl) (by kernel_rfl) Tryz.ntmps115 hargs h
-- 114 (*bursar/pack.Writer).Text (11 slots, 2 parameters)
def c114r0 : List AOper := [
  ⟨some 4, none, .mov (.t 0)⟩,
  ⟨some 5, none, .mov (.t 1)⟩,
  ⟨some 6, none, .lens (.t 5)⟩,
  ⟨some 7, none, .cv .u64 (.t 6)⟩,
  ⟨some 8, none, .call 167 [(.t 7)]⟩,
  ⟨some 9, none, .mov (.t 1)⟩,
  ⟨some 10, none, .call 166 [(.t 4), (.t 8), (.t 9)]⟩]
def c114 : ACode := (.reg c114r0)
theorem c114_eq : (Tryz.f114.body).map (tr Tryz.prog gls 11) = some c114 := by kernel_rfl
theorem k114 {S : Am.Spec} (hargs : ∀ rs φ K, S rs φ K → rs.length ≤ 11) (h : Shows Tryz.prog gls c114 [] S) : Snd Tryz.prog gls 114 S :=
  snd_code Tryz.func114 c114_eq (by kernel_rfl) (by kernel_rfl) Tryz.ntmps114 hargs h
-- 113 (*bursar/pack.Writer).Count (25 slots, 2 parameters)
def c113r0 : List AOper := [
  ⟨some 4, none, .mov (.t 0)⟩,
  ⟨some 5, none, .chk (.t 4)⟩,
  ⟨some 6, none, .fad 2 (.t 5)⟩,
  ⟨some 7, none, .load false 1 (.t 6)⟩,
  ⟨some 8, none, .bin .eql 38 (.t 7) (.k (.p (.val (.int .i64 0))))⟩,
  ⟨some 9, none, .mov (.t 8)⟩,
  ⟨some 10, some (9, true), .mov (.t 1)⟩,
  ⟨some 11, some (9, true), .bin .lss 3 (.t 10) (.k (.p (.val (.int .i64 0))))⟩,
  ⟨some 12, some (9, true), .mov (.t 11)⟩,
  ⟨some 13, some (12, false), .mov (.t 1)⟩,
  ⟨some 14, some (12, false), .bin .gtr 3 (.t 13) (.k (.p (.val (.int .i64 4096))))⟩,
  ⟨some 15, some (9, true), .pick (.t 12) (.k (.p (.val (.bool true)))) (.t 14)⟩,
  ⟨some 16, none, .pick (.t 9) (.t 15) (.k (.p (.val (.bool false))))⟩]
def c113r1 : List AOper := [
  ⟨some 17, none, .mov (.t 0)⟩,
  ⟨some 18, none, .chk (.t 17)⟩,
  ⟨some 19, none, .fad 2 (.t 18)⟩,
  ⟨none, none, .store 1 (.t 19) (.k (.p (.val (.int .i64 1))))⟩]
def c113r2 : List AOper := [
  ⟨some 20, none, .mov (.t 0)⟩,
  ⟨some 21, none, .mov (.t 1)⟩,
  ⟨some 22, none, .cv .u64 (.t 21)⟩,
  ⟨some 23, none, .call 167 [(.t 22)]⟩,
  ⟨some 24, none, .call 166 [(.t 20), (.t 23), (.k (.p (.val (.string ⟨#[]⟩))))]⟩]
def c113 : ACode := (.seq (.seq (.reg c113r0) (.cond (.t 16) (.reg c113r1) .skip)) (.reg c113r2))
theorem c113_eq : (Tryz.f113.body).map (tr Tryz.prog gls 25) = some c113 := by kernel_rfl
theorem k113 {S : Am.Spec} (hargs : ∀ rs φ K, S rs φ K → rs.length ≤ 25) (h : Shows Tryz.prog gls c113 [] S) : Snd Tryz.prog gls 113 S :=
  snd_code Tryz.func113 c113_eq (by kernel_rfl) (by kernel_rfl) Tryz.ntmps113 hargs h
-- 168 (*bursar/pack.Writer).Out (18 slots, 1 parameters)
def c168r0 : List AOper := [
  ⟨some 2, none, .mov (.k (.p (.val (.slice none 0 0))))⟩,
  ⟨some 3, none, .mov (.k (.p (.val (.int .i64 0))))⟩]
def c168r1 : List AOper := [
  ⟨some 4, none, .mov (.t 0)⟩,
  ⟨some 5, none, .chk (.t 4)⟩,
  ⟨some 6, none, .fad 2 (.t 5)⟩,
  ⟨some 7, none, .load false 1 (.t 6)⟩,
  ⟨some 8, none, .bin .neq 38 (.t 7) (.k (.p (.val (.int .i64 0))))⟩]
def c168r2 : List AOper := [
  ⟨some 9, none, .mov (.t 0)⟩,
  ⟨some 10, none, .chk (.t 9)⟩,
  ⟨some 11, none, .fad 2 (.t 10)⟩,
  ⟨some 12, none, .load false 1 (.t 11)⟩,
  ⟨some 2, none, .mov (.k (.p (.val (.slice none 0 0))))⟩,
  ⟨some 3, none, .mov (.t 12)⟩]
def c168r3 : List AOper := [
  ⟨some 13, none, .mov (.t 0)⟩,
  ⟨some 14, none, .chk (.t 13)⟩,
  ⟨some 15, none, .fad 1 (.t 14)⟩,
  ⟨some 16, none, .load false 1 (.t 15)⟩,
  ⟨some 17, none, .prim (.call { callee := .builtin .append, args := #[(.const (.slice none 0 0)), (.tmp 16)], argTypes := #[212, 212] }) [(.k (.p (.val (.slice none 0 0)))), (.t 16)]⟩,
  ⟨some 2, none, .mov (.t 17)⟩,
  ⟨some 3, none, .mov (.k (.p (.val (.int .i64 0))))⟩]
def c168 : ACode := (.seq (.reg c168r0) (.seq (.seq (.reg c168r1) (.cond (.t 8) (.seq (.reg c168r2) .ret) .skip)) (.seq (.reg c168r3) .ret)))
theorem c168_eq : (Tryz.f168.body).map (tr Tryz.prog (glX gls [17]) 18) = some c168 := by kernel_rfl
theorem k168 {S : Am.Spec} (hargs : ∀ rs φ K, S rs φ K → rs.length ≤ 18) (h : Shows Tryz.prog (glX gls [17]) c168 [.t 2, .t 3] S) : Snd Tryz.prog gls 168 S :=
  Snd.down <| snd_code Tryz.func168 c168_eq (by kernel_rfl) (by kernel_rfl) Tryz.ntmps168 hargs h
-- 112 bursar/object.begun (21 slots, 3 parameters)
def c112r0 : List AOper := [
  ⟨some 6, none, .mov (.k (.p (.val (.pointer none))))⟩]
def c112r1 : List AOper := [
  ⟨some 8, none, .call 165 [(.k (.p (.val (.int .i64 1048576))))]⟩,
  ⟨some 7, none, .mov (.t 8)⟩]
def c112r2 : List AOper := [
  ⟨some 9, none, .mov (.t 7)⟩,
  ⟨some 10, none, .mov (.t 0)⟩,
  ⟨some 11, none, .call 115 [(.t 9), (.t 10)]⟩]
def c112r3 : List AOper := [
  ⟨some 12, none, .mov (.t 7)⟩,
  ⟨some 13, none, .call 115 [(.t 12), (.k (.p (.val (.int .u8 1))))]⟩]
def c112r4 : List AOper := [
  ⟨some 14, none, .mov (.t 7)⟩,
  ⟨some 15, none, .mov (.t 1)⟩,
  ⟨some 16, none, .call 114 [(.t 14), (.t 15)]⟩]
def c112r5 : List AOper := [
  ⟨some 17, none, .mov (.t 7)⟩,
  ⟨some 18, none, .mov (.t 2)⟩,
  ⟨some 19, none, .call 114 [(.t 17), (.t 18)]⟩]
def c112r6 : List AOper := [
  ⟨some 20, none, .mov (.t 7)⟩,
  ⟨some 6, none, .mov (.t 20)⟩]
def c112 : ACode := (.seq (.reg c112r0) (.seq (.reg c112r1) (.seq (.reg c112r2) (.seq (.reg c112r3) (.seq (.reg c112r4) (.seq (.reg c112r5) (.seq (.reg c112r6) .ret)))))))
theorem c112_eq : (Tryz.f112.body).map (tr Tryz.prog gls 21) = some c112 := by kernel_rfl
theorem k112 {S : Am.Spec} (hargs : ∀ rs φ K, S rs φ K → rs.length ≤ 21) (h : Shows Tryz.prog gls c112 [.t 6] S) : Snd Tryz.prog gls 112 S :=
  snd_code Tryz.func112 c112_eq (by kernel_rfl) (by kernel_rfl) Tryz.ntmps112 hargs h
-- 117 bursar/object.amounts (26 slots, 2 parameters)
def c117r0 : List AOper := [
  ⟨some 6, none, .mov (.t 0)⟩,
  ⟨some 7, none, .mov (.t 1)⟩,
  ⟨some 8, none, .len (.t 7)⟩,
  ⟨some 9, none, .call 113 [(.t 6), (.t 8)]⟩]
def c117r1 : List AOper := [
  ⟨some 10, none, .mov (.t 1)⟩,
  ⟨some 11, none, .len (.t 10)⟩,
  ⟨some 12, none, .mov (.k (.p (.val (.int .i64 0))))⟩]
def c117r2 : List AOper := [
  ⟨some 13, none, .bin .lss 3 (.t 12) (.t 11)⟩]
def c117r3 : List AOper := [
  ⟨some 14, none, .iad 2 (.t 10) (.t 12)⟩,
  ⟨some 15, none, .load true 2 (.t 14)⟩,
  ⟨some 5, none, .alloc [(.val (.string ⟨#[]⟩)), (.val (.int .i64 0))]⟩,
  ⟨none, none, .store 2 (.t 5) (.t 15)⟩]
def c117r4 : List AOper := [
  ⟨some 16, none, .mov (.t 0)⟩,
  ⟨some 17, none, .fad 0 (.t 5)⟩,
  ⟨some 18, none, .load false 1 (.t 17)⟩,
  ⟨some 19, none, .call 114 [(.t 16), (.t 18)]⟩]
def c117r5 : List AOper := [
  ⟨some 20, none, .mov (.t 0)⟩,
  ⟨some 21, none, .fad 1 (.t 5)⟩,
  ⟨some 22, none, .load false 1 (.t 21)⟩,
  ⟨some 23, none, .cv .u64 (.t 22)⟩,
  ⟨some 24, none, .call 116 [(.t 20), (.t 23)]⟩]
def c117r6 : List AOper := [
  ⟨some 25, none, .bin .add 3 (.t 12) (.k (.p (.val (.int .i64 1))))⟩,
  ⟨some 12, none, .mov (.t 25)⟩]
def c117l7 : ACode := (.seq (.reg c117r2) (.seq (.cond (.t 13) .skip (.exit 0)) (.seq (.block 1 (.seq (.reg c117r3) (.seq (.reg c117r4) (.reg c117r5)))) (.reg c117r6))))
def c117 : ACode := (.seq (.reg c117r0) (.seq (.reg c117r1) (.block 0 (.loop c117l7))))
theorem c117_eq : (Tryz.f117.body).map (tr Tryz.prog gls 26) = some c117 := by kernel_rfl
theorem k117 {S : Am.Spec} (hargs : ∀ rs φ K, S rs φ K → rs.length ≤ 26) (h : Shows Tryz.prog gls c117 [] S) : Snd Tryz.prog gls 117 S :=
  snd_code Tryz.func117 c117_eq (by kernel_rfl) (by kernel_rfl) Tryz.ntmps117 hargs h
-- 118 bursar/object.done (20 slots, 1 parameters)
def c118r0 : List AOper := [
  ⟨some 2, none, .mov (.k (.p (.val (.string ⟨#[]⟩))))⟩,
  ⟨some 3, none, .mov (.k (.p (.val (.int .i64 0))))⟩]
def c118r1 : List AOper := [
  ⟨some 7, none, .mov (.t 0)⟩,
  ⟨some 8, none, .call 168 [(.t 7)]⟩,
  ⟨some 6, none, .mov (.t 8)⟩,
  ⟨some 9, none, .ext (.t 6) 0⟩,
  ⟨some 10, none, .ext (.t 6) 1⟩,
  ⟨some 4, none, .mov (.t 9)⟩,
  ⟨some 5, none, .mov (.t 10)⟩]
def c118r2 : List AOper := [
  ⟨some 11, none, .mov (.t 5)⟩,
  ⟨some 12, none, .bin .neq 38 (.t 11) (.k (.p (.val (.int .i64 0))))⟩,
  ⟨some 13, none, .mov (.t 12)⟩,
  ⟨some 14, some (13, false), .mov (.t 4)⟩,
  ⟨some 15, some (13, false), .len (.t 14)⟩,
  ⟨some 16, some (13, false), .bin .gtr 3 (.t 15) (.k (.p (.val (.int .i64 8192))))⟩,
  ⟨some 17, none, .pick (.t 13) (.k (.p (.val (.bool true)))) (.t 16)⟩]
def c118r3 : List AOper := [
  ⟨some 2, none, .mov (.k (.p (.val (.string ⟨#[]⟩))))⟩,
  ⟨some 3, none, .mov (.k (.p (.val (.int .i64 23))))⟩]
def c118r4 : List AOper := [
  ⟨some 18, none, .mov (.t 4)⟩,
  ⟨some 19, none, .prim (.convert 212 9 (.tmp 18)) [(.t 18)]⟩,
  ⟨some 2, none, .mov (.t 19)⟩,
  ⟨some 3, none, .mov (.k (.p (.val (.int .i64 0))))⟩]
def c118 : ACode := (.seq (.reg c118r0) (.seq (.reg c118r1) (.seq (.seq (.reg c118r2) (.cond (.t 17) (.seq (.reg c118r3) .ret) .skip)) (.seq (.reg c118r4) .ret))))
theorem c118_eq : (Tryz.f118.body).map (tr Tryz.prog gls 20) = some c118 := by kernel_rfl
theorem k118 {S : Am.Spec} (hargs : ∀ rs φ K, S rs φ K → rs.length ≤ 20) (h : Shows Tryz.prog gls c118 [.t 2, .t 3] S) : Snd Tryz.prog gls 118 S :=
  snd_code Tryz.func118 c118_eq (by kernel_rfl) (by kernel_rfl) Tryz.ntmps118 hargs h
-- 62 bursar/object.EncodeObject (84 slots, 1 parameters)
def c62r0 : List AOper := [
  ⟨some 1, none, .box (.t 0)⟩,
  ⟨some 2, none, .mov (.k (.p (.val (.string ⟨#[]⟩))))⟩,
  ⟨some 3, none, .mov (.k (.p (.val (.int .i64 0))))⟩]
def c62r1 : List AOper := [
  ⟨some 9, none, .load true 7 (.t 1)⟩,
  ⟨some 10, none, .call 111 [(.t 9)]⟩,
  ⟨some 11, none, .un .not (.t 10)⟩]
def c62r2 : List AOper := [
  ⟨some 2, none, .mov (.k (.p (.val (.string ⟨#[]⟩))))⟩,
  ⟨some 3, none, .mov (.k (.p (.val (.int .i64 130))))⟩]
def c62r3 : List AOper := [
  ⟨some 12, none, .iada 1 5 (.k (.p (.ip [(.val (.int .u8 0)), (.val (.int .u8 81)), (.val (.int .u8 76)), (.val (.int .u8 79)), (.val (.int .u8 66))]))) (.k (.p (.val (.int .i64 3))))⟩,
  ⟨some 13, none, .load false 1 (.t 12)⟩,
  ⟨some 14, none, .fad 0 (.t 1)⟩,
  ⟨some 15, none, .load false 1 (.t 14)⟩,
  ⟨some 16, none, .fad 1 (.t 1)⟩,
  ⟨some 17, none, .load false 1 (.t 16)⟩,
  ⟨some 18, none, .call 112 [(.t 13), (.t 15), (.t 17)]⟩,
  ⟨some 4, none, .mov (.t 18)⟩]
def c62r4 : List AOper := [
  ⟨some 19, none, .mov (.t 4)⟩,
  ⟨some 20, none, .fad 2 (.t 1)⟩,
  ⟨some 21, none, .load false 1 (.t 20)⟩,
  ⟨some 22, none, .len (.t 21)⟩,
  ⟨some 23, none, .call 113 [(.t 19), (.t 22)]⟩]
def c62r5 : List AOper := [
  ⟨some 24, none, .fad 2 (.t 1)⟩,
  ⟨some 25, none, .load false 1 (.t 24)⟩,
  ⟨some 26, none, .len (.t 25)⟩,
  ⟨some 27, none, .mov (.k (.p (.val (.int .i64 0))))⟩]
def c62r6 : List AOper := [
  ⟨some 28, none, .bin .lss 3 (.t 27) (.t 26)⟩]
def c62r7 : List AOper := [
  ⟨some 29, none, .iad 2 (.t 25) (.t 27)⟩,
  ⟨some 30, none, .load true 2 (.t 29)⟩,
  ⟨some 6, none, .alloc [(.val (.string ⟨#[]⟩)), (.val (.string ⟨#[]⟩))]⟩,
  ⟨none, none, .store 2 (.t 6) (.t 30)⟩]
def c62r8 : List AOper := [
  ⟨some 31, none, .mov (.t 4)⟩,
  ⟨some 32, none, .fad 0 (.t 6)⟩,
  ⟨some 33, none, .load false 1 (.t 32)⟩,
  ⟨some 34, none, .call 114 [(.t 31), (.t 33)]⟩]
def c62r9 : List AOper := [
  ⟨some 35, none, .mov (.t 4)⟩,
  ⟨some 36, none, .fad 1 (.t 6)⟩,
  ⟨some 37, none, .load false 1 (.t 36)⟩,
  ⟨some 38, none, .call 114 [(.t 35), (.t 37)]⟩]
def c62r10 : List AOper := [
  ⟨some 39, none, .bin .add 3 (.t 27) (.k (.p (.val (.int .i64 1))))⟩,
  ⟨some 27, none, .mov (.t 39)⟩]
def c62l11 : ACode := (.seq (.reg c62r6) (.seq (.cond (.t 28) .skip (.exit 0)) (.seq (.block 1 (.seq (.reg c62r7) (.seq (.reg c62r8) (.reg c62r9)))) (.reg c62r10))))
def c62r12 : List AOper := [
  ⟨some 40, none, .mov (.t 4)⟩,
  ⟨some 41, none, .fad 3 (.t 1)⟩,
  ⟨some 42, none, .load false 1 (.t 41)⟩,
  ⟨some 43, none, .cv .u8 (.t 42)⟩,
  ⟨some 44, none, .call 115 [(.t 40), (.t 43)]⟩]
def c62r13 : List AOper := [
  ⟨some 45, none, .mov (.t 4)⟩,
  ⟨some 46, none, .fad 4 (.t 1)⟩,
  ⟨some 47, none, .load false 1 (.t 46)⟩,
  ⟨some 48, none, .cv .u64 (.t 47)⟩,
  ⟨some 49, none, .call 116 [(.t 45), (.t 48)]⟩]
def c62r14 : List AOper := [
  ⟨some 50, none, .mov (.t 4)⟩,
  ⟨some 51, none, .fad 5 (.t 1)⟩,
  ⟨some 52, none, .load false 1 (.t 51)⟩,
  ⟨some 53, none, .len (.t 52)⟩,
  ⟨some 54, none, .call 113 [(.t 50), (.t 53)]⟩]
def c62r15 : List AOper := [
  ⟨some 55, none, .fad 5 (.t 1)⟩,
  ⟨some 56, none, .load false 1 (.t 55)⟩,
  ⟨some 57, none, .len (.t 56)⟩,
  ⟨some 58, none, .mov (.k (.p (.val (.int .i64 0))))⟩]
def c62r16 : List AOper := [
  ⟨some 59, none, .bin .lss 3 (.t 58) (.t 57)⟩]
def c62r17 : List AOper := [
  ⟨some 60, none, .iad 3 (.t 56) (.t 58)⟩,
  ⟨some 61, none, .load true 3 (.t 60)⟩,
  ⟨some 8, none, .alloc [(.val (.string ⟨#[]⟩)), (.sl [] 0), (.sl [] 0)]⟩,
  ⟨none, none, .store 3 (.t 8) (.t 61)⟩]
def c62r18 : List AOper := [
  ⟨some 62, none, .mov (.t 4)⟩,
  ⟨some 63, none, .fad 0 (.t 8)⟩,
  ⟨some 64, none, .load false 1 (.t 63)⟩,
  ⟨some 65, none, .call 114 [(.t 62), (.t 64)]⟩]
def c62r19 : List AOper := [
  ⟨some 66, none, .mov (.t 4)⟩,
  ⟨some 67, none, .fad 1 (.t 8)⟩,
  ⟨some 68, none, .load false 1 (.t 67)⟩,
  ⟨some 69, none, .call 117 [(.t 66), (.t 68)]⟩]
def c62r20 : List AOper := [
  ⟨some 70, none, .mov (.t 4)⟩,
  ⟨some 71, none, .fad 2 (.t 8)⟩,
  ⟨some 72, none, .load false 1 (.t 71)⟩,
  ⟨some 73, none, .call 117 [(.t 70), (.t 72)]⟩]
def c62r21 : List AOper := [
  ⟨some 74, none, .bin .add 3 (.t 58) (.k (.p (.val (.int .i64 1))))⟩,
  ⟨some 58, none, .mov (.t 74)⟩]
def c62l22 : ACode := (.seq (.reg c62r16) (.seq (.cond (.t 59) .skip (.exit 2)) (.seq (.block 3 (.seq (.reg c62r17) (.seq (.reg c62r18) (.seq (.reg c62r19) (.reg c62r20))))) (.reg c62r21))))
def c62r23 : List AOper := [
  ⟨some 75, none, .mov (.t 4)⟩,
  ⟨some 76, none, .fad 6 (.t 1)⟩,
  ⟨some 77, none, .load false 1 (.t 76)⟩,
  ⟨some 78, none, .cv .u64 (.t 77)⟩,
  ⟨some 79, none, .call 116 [(.t 75), (.t 78)]⟩]
def c62r24 : List AOper := [
  ⟨some 80, none, .mov (.t 4)⟩,
  ⟨some 81, none, .call 118 [(.t 80)]⟩,
  ⟨some 82, none, .ext (.t 81) 0⟩,
  ⟨some 83, none, .ext (.t 81) 1⟩,
  ⟨some 2, none, .mov (.t 82)⟩,
  ⟨some 3, none, .mov (.t 83)⟩]
def c62 : ACode := (.seq (.reg c62r0) (.seq (.seq (.reg c62r1) (.cond (.t 11) (.seq (.reg c62r2) .ret) .skip)) (.seq (.reg c62r3) (.seq (.reg c62r4) (.seq (.seq (.reg c62r5) (.block 0 (.loop c62l11))) (.seq (.reg c62r12) (.seq (.reg c62r13) (.seq (.reg c62r14) (.seq (.seq (.reg c62r15) (.block 2 (.loop c62l22))) (.seq (.reg c62r23) (.seq (.reg c62r24) .ret)))))))))))
theorem c62_eq : (Tryz.f62.body).map (tr Tryz.prog gls 84) = some c62 := by kernel_rfl
theorem k62 {S : Am.Spec} (hargs : ∀ rs φ K, S rs φ K → rs.length ≤ 84) (h : Shows Tryz.prog gls c62 [.t 2, .t 3] S) : Snd Tryz.prog gls 62 S :=
  snd_code Tryz.func62 c62_eq (by kernel_rfl) (by kernel_rfl) Tryz.ntmps62 hargs h
-- 83 bursar/object.EncodeQuota (35 slots, 1 parameters)
def c83r0 : List AOper := [
  ⟨some 1, none, .box (.t 0)⟩,
  ⟨some 2, none, .mov (.k (.p (.val (.string ⟨#[]⟩))))⟩,
  ⟨some 3, none, .mov (.k (.p (.val (.int .i64 0))))⟩]
def c83r1 : List AOper := [
  ⟨some 5, none, .load true 5 (.t 1)⟩,
  ⟨some 6, none, .call 136 [(.t 5)]⟩,
  ⟨some 7, none, .un .not (.t 6)⟩]
def c83r2 : List AOper := [
  ⟨some 2, none, .mov (.k (.p (.val (.string ⟨#[]⟩))))⟩,
  ⟨some 3, none, .mov (.k (.p (.val (.int .i64 130))))⟩]
def c83r3 : List AOper := [
  ⟨some 8, none, .iada 1 5 (.k (.p (.ip [(.val (.int .u8 0)), (.val (.int .u8 81)), (.val (.int .u8 76)), (.val (.int .u8 79)), (.val (.int .u8 66))]))) (.k (.p (.val (.int .i64 1))))⟩,
  ⟨some 9, none, .load false 1 (.t 8)⟩,
  ⟨some 10, none, .fad 0 (.t 1)⟩,
  ⟨some 11, none, .load false 1 (.t 10)⟩,
  ⟨some 12, none, .fad 1 (.t 1)⟩,
  ⟨some 13, none, .load false 1 (.t 12)⟩,
  ⟨some 14, none, .call 112 [(.t 9), (.t 11), (.t 13)]⟩,
  ⟨some 4, none, .mov (.t 14)⟩]
def c83r4 : List AOper := [
  ⟨some 15, none, .mov (.t 4)⟩,
  ⟨some 16, none, .fad 2 (.t 1)⟩,
  ⟨some 17, none, .fad 0 (.t 16)⟩,
  ⟨some 18, none, .load false 1 (.t 17)⟩,
  ⟨some 19, none, .cv .u8 (.t 18)⟩,
  ⟨some 20, none, .call 115 [(.t 15), (.t 19)]⟩]
def c83r5 : List AOper := [
  ⟨some 21, none, .mov (.t 4)⟩,
  ⟨some 22, none, .fad 2 (.t 1)⟩,
  ⟨some 23, none, .fad 1 (.t 22)⟩,
  ⟨some 24, none, .load false 1 (.t 23)⟩,
  ⟨some 25, none, .cv .u8 (.t 24)⟩,
  ⟨some 26, none, .call 115 [(.t 21), (.t 25)]⟩]
def c83r6 : List AOper := [
  ⟨some 27, none, .mov (.t 4)⟩,
  ⟨some 28, none, .fad 4 (.t 1)⟩,
  ⟨some 29, none, .load false 1 (.t 28)⟩,
  ⟨some 30, none, .call 117 [(.t 27), (.t 29)]⟩]
def c83r7 : List AOper := [
  ⟨some 31, none, .mov (.t 4)⟩,
  ⟨some 32, none, .call 118 [(.t 31)]⟩,
  ⟨some 33, none, .ext (.t 32) 0⟩,
  ⟨some 34, none, .ext (.t 32) 1⟩,
  ⟨some 2, none, .mov (.t 33)⟩,
  ⟨some 3, none, .mov (.t 34)⟩]
def c83 : ACode := (.seq (.reg c83r0) (.seq (.seq (.reg c83r1) (.cond (.t 7) (.seq (.reg c83r2) .ret) .skip)) (.seq (.reg c83r3) (.seq (.reg c83r4) (.seq (.reg c83r5) (.seq (.reg c83r6) (.seq (.reg c83r7) .ret)))))))
theorem c83_eq : (Tryz.f83.body).map (tr Tryz.prog gls 35) = some c83 := by kernel_rfl
theorem k83 {S : Am.Spec} (hargs : ∀ rs φ K, S rs φ K → rs.length ≤ 35) (h : Shows Tryz.prog gls c83 [.t 2, .t 3] S) : Snd Tryz.prog gls 83 S :=
  snd_code Tryz.func83 c83_eq (by kernel_rfl) (by kernel_rfl) Tryz.ntmps83 hargs h
-- 23 bursar/object.ValidObject (11 slots, 1 parameters)
def c23r0 : List AOper := [
  ⟨some 1, none, .box (.t 0)⟩,
  ⟨some 2, none, .mov (.k (.p (.val (.int .i64 0))))⟩]
def c23r1 : List AOper := [
  ⟨some 6, none, .load true 7 (.t 1)⟩,
  ⟨some 7, none, .call 62 [(.t 6)]⟩,
  ⟨some 5, none, .mov (.t 7)⟩,
  ⟨some 8, none, .ext (.t 5) 0⟩,
  ⟨some 9, none, .ext (.t 5) 1⟩,
  ⟨some 3, none, .mov (.t 8)⟩,
  ⟨some 4, none, .mov (.t 9)⟩]
def c23r2 : List AOper := [
  ⟨some 10, none, .mov (.t 4)⟩,
  ⟨some 2, none, .mov (.t 10)⟩]
def c23 : ACode := (.seq (.reg c23r0) (.seq (.reg c23r1) (.seq (.reg c23r2) .ret)))
theorem c23_eq : (Tryz.f23.body).map (tr Tryz.prog gls 11) = some c23 := by kernel_rfl
theorem k23 {S : Am.Spec} (hargs : ∀ rs φ K, S rs φ K → rs.length ≤ 11) (h : Shows Tryz.prog gls c23 [.t 2] S) : Snd Tryz.prog gls 23 S :=
  snd_code Tryz.func23 c23_eq (by kernel_rfl) (by kernel_rfl) Tryz.ntmps23 hargs h
-- 41 bursar/object.ValidQuota (11 slots, 1 parameters)
def c41r0 : List AOper := [
  ⟨some 1, none, .box (.t 0)⟩,
  ⟨some 2, none, .mov (.k (.p (.val (.int .i64 0))))⟩]
def c41r1 : List AOper := [
  ⟨some 6, none, .load true 5 (.t 1)⟩,
  ⟨some 7, none, .call 83 [(.t 6)]⟩,
  ⟨some 5, none, .mov (.t 7)⟩,
  ⟨some 8, none, .ext (.t 5) 0⟩,
  ⟨some 9, none, .ext (.t 5) 1⟩,
  ⟨some 3, none, .mov (.t 8)⟩,
  ⟨some 4, none, .mov (.t 9)⟩]
def c41r2 : List AOper := [
  ⟨some 10, none, .mov (.t 4)⟩,
  ⟨some 2, none, .mov (.t 10)⟩]
def c41 : ACode := (.seq (.reg c41r0) (.seq (.reg c41r1) (.seq (.reg c41r2) .ret)))
theorem c41_eq : (Tryz.f41.body).map (tr Tryz.prog gls 11) = some c41 := by kernel_rfl
theorem k41 {S : Am.Spec} (hargs : ∀ rs φ K, S rs φ K → rs.length ≤ 11) (h : Shows Tryz.prog gls c41 [.t 2] S) : Snd Tryz.prog gls 41 S :=
  snd_code Tryz.func41 c41_eq (by kernel_rfl) (by kernel_rfl) Tryz.ntmps41 hargs h
end Go.Proofs.YtnjblinbdimkjaaGreatDoor

namespace Go.Proofs.YtnjblinbdimkjaaGreatDoor
open Go Go.Am
set_option linter.unusedSimpArgs false

/-! ### well formed objects and quotas -/
def partName (o : Obj) (i : Nat) : ByteArray := match o.parts[i]? with | some p => p.name | none => ⟨#[]⟩
def hardName (q : Quo) (i : Nat) : ByteArray := match q.hard[i]? with | some p => p.name | none => ⟨#[]⟩
def S164 : Am.Spec := fun rs φ K => ∃ (o : Obj) (cs : List PV) (i : Nat), rs = [rI i, .p (.ip cs)] ∧ IsObj o cs ∧ i < o.parts.length ∧ K (.one (rS (partName o i))) φ
theorem d164 : Snd Tryz.prog gls 164 S164 := by
  refine k164 (by rintro rs φ K ⟨o, cs, i, rfl, -⟩; simp) ?_
  rintro rs φ K ⟨o, cs, i, rfl, ⟨x, y, rfl, hx, ⟨es, rfl, -, h2⟩, hp, hd, hv⟩, hi, hK⟩
  obtain ⟨p, e, ha, he, x', y', rfl, -⟩ := SlR.at h2 hi
  simp -implicitDefEqProofs only [go_sem, Nat.reduceBEq, Nat.reduceAdd, c164, c164r0, c164r1, List.drop_succ_cons, List.drop_zero, Nat.reduceLeDiff, true_and, Int.toNat_natCast, he, Option.some.injEq, exists_eq_left', List.length_cons, List.length_nil]
  exact ⟨by omega, by omega, by simpa [partName, ha] using hK⟩
def S188 : Am.Spec := fun rs φ K => ∃ (q : Quo) (cs : List PV) (i : Nat), rs = [rI i, .p (.ip cs)] ∧ IsQuo q cs ∧ i < q.hard.length ∧ K (.one (rS (hardName q i))) φ
theorem d188 : Snd Tryz.prog gls 188 S188 := by
  refine k188 (by rintro rs φ K ⟨o, cs, i, rfl, -⟩; simp) ?_
  rintro rs φ K ⟨q, cs, i, rfl, ⟨x, rfl, ⟨es, rfl, -, h2⟩, hk, ha'⟩, hi, hK⟩
  obtain ⟨p, e, ha, he, rfl, -⟩ := SlR.at h2 hi
  simp -implicitDefEqProofs only [go_sem, Nat.reduceBEq, Nat.reduceAdd, c188, c188r0, c188r1, List.drop_succ_cons, List.drop_zero, Nat.reduceLeDiff, true_and, Int.toNat_natCast, he, Option.some.injEq, exists_eq_left', List.length_cons, List.length_nil]
  exact ⟨by omega, by omega, by simpa [hardName, ha] using hK⟩

def partOK (p : Part) : Bool := nameF p.name && decide (amtsF p.req = 0) && decide (amtsF p.lim = 0)
def STAMP : Int := 1152921504606846976
/-- object.formedObject -/
def formObjF (o : Obj) : Bool := decide (pathF o.path = 0) && nameF o.name && labF o.labels && (decide (0 ≤ o.priority) && decide (o.priority ≤ 9)) && (decide (0 ≤ o.deadline) && decide (o.deadline ≤ STAMP)) && (decide (0 ≤ o.version) && decide (o.version ≤ STAMP)) &&
  decide (1 ≤ o.parts.length) && decide (o.parts.length ≤ 8) && o.parts.all partOK && namedF (partName o) o.parts.length
theorem d111 : Snd Tryz.prog gls 111 (SObjB formObjF) := by
  refine k111 (by rintro rs φ K ⟨p, cs, rfl, -⟩; simp) ?_
  rintro rs φ K ⟨o, cs, rfl, hO, hK⟩
  have hO' := hO
  obtain ⟨x, y, rfl, hx, hy, hp, hd, hv⟩ := hO'
  obtain ⟨es, rfl, hbig, h2⟩ := hy
  obtain ⟨ls, rfl, hlb, hl⟩ := hx
  have fin : ∀ b, formObjF o = b → K (.one (rB b)) φ := fun b h => by rw [h] at hK; exact hK
  clear hK
  simp -implicitDefEqProofs only [go_sem, Nat.reduceBEq, Nat.reduceAdd, c111, c111r0, c111r1, c111r2, List.drop_succ_cons, List.drop_zero, Nat.reduceLeDiff, true_and, List.length_cons, List.length_nil, Nat.ble]
  refine callS_of d73 ⟨_, rfl, ?_⟩
  simp -implicitDefEqProofs only [go_sem, Nat.reduceBEq, Nat.reduceAdd, List.drop_succ_cons, List.drop_zero, Nat.reduceLeDiff, true_and, List.length_cons, List.length_nil, Nat.ble]
  simp only [Bool.not_eq_true', Bool.not_eq_false', decide_eq_true_eq, decide_eq_false_iff_not, bne_eq_false_iff_eq, bne_iff_ne, ne_eq]
  refine ⟨fun h1 => callS_of d159 ⟨_, rfl, ?_⟩, fun h1 => fin false (by simp [formObjF, h1])⟩
  simp -implicitDefEqProofs only [go_sem, Nat.reduceBEq, Nat.reduceAdd, List.drop_succ_cons, List.drop_zero, Nat.reduceLeDiff, true_and, List.length_cons, List.length_nil, Nat.ble]
  simp only [Bool.not_eq_true', Bool.not_eq_false', decide_eq_true_eq, decide_eq_false_iff_not, bne_eq_false_iff_eq, bne_iff_ne, ne_eq]
  refine ⟨fun h2' => callS_of d160 ⟨_, _, rfl, ⟨ls, rfl, hlb, hl⟩, ?_⟩, fun h2' => fin false (by simp [formObjF, h2'])⟩
  simp -implicitDefEqProofs only [go_sem, Nat.reduceBEq, Nat.reduceAdd, c111r3, c111r4, List.drop_succ_cons, List.drop_zero, Nat.reduceLeDiff, true_and, List.length_cons, List.length_nil, Nat.ble]
  simp only [Bool.not_eq_true', Bool.not_eq_false', decide_eq_true_eq, decide_eq_false_iff_not, bne_eq_false_iff_eq, bne_iff_ne, ne_eq]
  have hlab : ∀ b, labF o.labels = b → ((if labF o.labels = true then (0 : Int) else 42) = 0 ↔ b = true) := by
    rintro b rfl; cases labF o.labels <;> simp
  refine ⟨fun h3 => fin false (by cases hc : labF o.labels with
    | true => exact absurd ((hlab _ rfl).2 hc) h3
    | false => simp [formObjF, hc]), fun h3 => ⟨fun h4 => ⟨fun h5 => callS_of d161 ⟨_, _, _, rfl, ?_⟩, fun h5 => fin false ?_⟩, fun h4 => fin false ?_⟩⟩
  rotate_left
  · have : ¬ o.priority ≤ 9 := by omega
    simp [formObjF, this]
  · have : ¬ 0 ≤ o.priority := by omega
    simp [formObjF, this]
  simp -implicitDefEqProofs only [go_sem, Nat.reduceBEq, Nat.reduceAdd, List.drop_succ_cons, List.drop_zero, Nat.reduceLeDiff, true_and, List.length_cons, List.length_nil, Nat.ble]
  simp only [Bool.not_eq_true', Bool.not_eq_false', decide_eq_true_eq, decide_eq_false_iff_not, bne_eq_false_iff_eq, bne_iff_ne, ne_eq]
  refine ⟨fun h6 => callS_of d161 ⟨_, _, _, rfl, ?_⟩, fun h6 => fin false ?_⟩
  rotate_left
  · cases hh : formObjF o with
    | false => rfl
    | true =>
      simp only [formObjF, Bool.and_eq_true, decide_eq_true_eq] at hh
      simp only [STAMP] at hh
      simp only [Bool.and_eq_false_iff, decide_eq_false_iff_not] at h6
      omega
  simp -implicitDefEqProofs only [go_sem, Nat.reduceBEq, Nat.reduceAdd, List.drop_succ_cons, List.drop_zero, Nat.reduceLeDiff, true_and, List.length_cons, List.length_nil, Nat.ble]
  simp only [Bool.not_eq_true', Bool.not_eq_false', decide_eq_true_eq, decide_eq_false_iff_not, bne_eq_false_iff_eq, bne_iff_ne, ne_eq]
  refine ⟨fun h7 => ?_, fun h7 => fin false ?_⟩
  rotate_left
  · cases hh : formObjF o with
    | false => rfl
    | true =>
      simp only [formObjF, Bool.and_eq_true, decide_eq_true_eq] at hh
      simp only [STAMP] at hh
      simp only [Bool.and_eq_false_iff, decide_eq_false_iff_not] at h7
      omega
  intro hL
  refine ⟨fun h8 _ => ⟨fun h9 => fin false ?_, fun h9 => ?_⟩, fun h8 => fin false ?_⟩
  · have : ¬ o.parts.length ≤ 8 := by omega
    simp [formObjF, this]
  rotate_left
  · have : ¬ 1 ≤ o.parts.length := by omega
    simp [formObjF, this]
  simp -implicitDefEqProofs only [go_sem, Nat.reduceBEq, Nat.reduceAdd, c111r5, List.drop_succ_cons, List.drop_zero, Nat.reduceLeDiff, true_and, List.length_cons, List.length_nil, Nat.ble]
  intro _
  have h6' : 0 ≤ o.deadline ∧ o.deadline ≤ STAMP := by simp only [Bool.and_eq_true, decide_eq_true_eq] at h6; simp only [STAMP]; exact h6
  have h7' : 0 ≤ o.version ∧ o.version ≤ STAMP := by simp only [Bool.and_eq_true, decide_eq_true_eq] at h7; simp only [STAMP]; exact h7
  have hlt : labF o.labels = true := (hlab _ rfl).1 h3
  have rest : formObjF o = (o.parts.all partOK && namedF (partName o) o.parts.length) := by
    have a1 : 0 ≤ o.priority := by omega
    have a2 : o.priority ≤ 9 := by omega
    have a3 : 1 ≤ o.parts.length := by omega
    have a4 : o.parts.length ≤ 8 := by omega
    simp [formObjF, h1, h2', hlt, h6', h7', a1, a2, a3, a4]
  refine range_loop rfl (by decide) o.parts.length hL (fun _ => [(1, .ref 1 0), (54, .p (.sl es o.parts.length))]) (fun _ => [(1, [.val (.string o.path), .val (.string o.name), .sl ls o.labels.length, .val (.int .i64 o.priority), .val (.int .i64 o.deadline), .sl es o.parts.length, .val (.int .i64 o.version)])]) (fun _ => []) (fun _ => φ) (fun k => (o.parts.take k).all partOK = true) (Gho.sub ?_ ?_ ?_ ?_ rfl) (by simp) ?_ ?_
  · simp [subFr, go_sem, leAV, headSt]
  · simp [subB, go_sem, headSt]
  · simp [subB, headSt]
  · simp [refsOK, headSt, go_sem]
  · intro k Q' hk hI hn hc hq
    obtain ⟨p, e, ha, he, px, py, rfl, ⟨rs, rfl, hrb, hr⟩, ⟨ms, rfl, hmb, hm⟩⟩ := SlR.at h2 hk
    have bad : partOK p = false → ∀ fr bx rw, Q' .ret ⟨(2, .p (.val (.bool false))) :: fr, bx, rw, φ⟩ := fun h fr bx rw => hq _ _ (by simp) (by simp) (by
      simp -implicitDefEqProofs only [go_sem, Nat.reduceBEq]
      exact fin false (by rw [rest, all_of_false ha h]; rfl))
    simp -implicitDefEqProofs only [go_sem, Nat.reduceBEq, Nat.reduceAdd, c111r7, c111r8, c111r9, Int.toNat_natCast, he, Option.some.injEq, exists_eq_left', Nat.reduceLeDiff, List.length_cons, List.length_nil, Nat.le_refl, true_and, List.drop_succ_cons, List.drop_zero, List.take_succ_cons, List.take_zero, Nat.ble]
    refine ⟨by omega, by omega, callS_of d159 ⟨_, rfl, ?_⟩⟩
    simp -implicitDefEqProofs only [go_sem, Nat.reduceBEq, Nat.reduceAdd, List.drop_succ_cons, List.drop_zero, Nat.reduceLeDiff, true_and, List.length_cons, List.length_nil, Nat.ble]
    simp only [Bool.not_eq_true', Bool.not_eq_false', decide_eq_true_eq, decide_eq_false_iff_not, bne_eq_false_iff_eq, bne_iff_ne, ne_eq]
    refine ⟨fun g1 => callS_of d162 ⟨_, _, rfl, ⟨rs, rfl, hrb, hr⟩, ?_⟩, fun g1 => bad (by simp [partOK, g1]) _ _ _⟩
    simp -implicitDefEqProofs only [go_sem, Nat.reduceBEq, Nat.reduceAdd, List.drop_succ_cons, List.drop_zero, Nat.reduceLeDiff, true_and, List.length_cons, List.length_nil, Nat.ble]
    simp only [Bool.not_eq_true', Bool.not_eq_false', decide_eq_true_eq, decide_eq_false_iff_not, bne_eq_false_iff_eq, bne_iff_ne, ne_eq]
    refine ⟨fun g2 => callS_of d162 ⟨_, _, rfl, ⟨ms, rfl, hmb, hm⟩, ?_⟩, fun g2 => bad (by simp [partOK, g2]) _ _ _⟩
    simp -implicitDefEqProofs only [go_sem, Nat.reduceBEq, Nat.reduceAdd, List.drop_succ_cons, List.drop_zero, Nat.reduceLeDiff, true_and, List.length_cons, List.length_nil, Nat.ble]
    simp only [Bool.not_eq_true', Bool.not_eq_false', decide_eq_true_eq, decide_eq_false_iff_not, bne_eq_false_iff_eq, bne_iff_ne, ne_eq]
    refine ⟨fun g3 => bad (by simp [partOK, g3]) _ _ _, fun g3 => hn _ (all_take_next hI ha (by simp [partOK, g1, g2, g3])) ⟨by simp only [go_sem, Nat.reduceBEq], Gho.sub ?_ ?_ ?_ ?_ rfl⟩⟩
    · simp [subFr, go_sem, leAV, headSt]
    · simp [subB, go_sem, headSt]
    · simp [subB, headSt]
    · simp [refsOK, headSt, go_sem]
  · intro hI
    rw [List.take_length] at hI
    simp -implicitDefEqProofs only [go_sem, Nat.reduceBEq, Nat.reduceAdd, c111r12, List.drop_succ_cons, List.drop_zero, Nat.reduceLeDiff, true_and, List.length_cons, List.length_nil, Nat.ble]
    refine fun _ => callS_of d163 ⟨o.parts.length, 164, _, partName o, rfl, hbig, fun i hi => brings_of d164 ⟨o, _, i, rfl, hO, hi, rfl, rfl⟩, ?_⟩
    simp -implicitDefEqProofs only [go_sem, Nat.reduceBEq, Nat.reduceAdd]
    exact fin _ (by rw [rest, hI]; rfl)
end Go.Proofs.YtnjblinbdimkjaaGreatDoor

namespace Go.Proofs.YtnjblinbdimkjaaGreatDoor
open Go Go.Am
set_option linter.unusedSimpArgs false

def hardOK (a : Amt) : Bool := hardF a.name && decide (0 ≤ a.value)
/-- object.formedQuota -/
def formQuoF (q : Quo) : Bool := decide (pathF q.path = 0) && nameF q.name && decide (1 ≤ q.hard.length) && decide (q.hard.length ≤ 16) && validF q.scope && q.hard.all hardOK && namedF (hardName q) q.hard.length
def SQuoB (f : Quo → Bool) : Am.Spec := fun rs φ K => ∃ q cs, rs = [.agg cs] ∧ IsQuo q cs ∧ K (.one (rB (f q))) φ
theorem d136 : Snd Tryz.prog gls 136 (SQuoB formQuoF) := by
  refine k136 (by rintro rs φ K ⟨p, cs, rfl, -⟩; simp) ?_
  rintro rs φ K ⟨q, cs, rfl, hO, hK⟩
  have hO' := hO
  obtain ⟨x, rfl, ⟨es, rfl, hbig, h2⟩, hk1, hk2⟩ := hO'
  have fin : ∀ b, formQuoF q = b → K (.one (rB b)) φ := fun b h => by rw [h] at hK; exact hK
  clear hK
  simp -implicitDefEqProofs only [go_sem, Nat.reduceBEq, Nat.reduceAdd, c136, c136r0, c136r1, c136r2, List.drop_succ_cons, List.drop_zero, Nat.reduceLeDiff, true_and, List.length_cons, List.length_nil, Nat.ble]
  refine callS_of d73 ⟨_, rfl, ?_⟩
  simp -implicitDefEqProofs only [go_sem, Nat.reduceBEq, Nat.reduceAdd, List.drop_succ_cons, List.drop_zero, Nat.reduceLeDiff, true_and, List.length_cons, List.length_nil, Nat.ble]
  simp only [Bool.not_eq_true', Bool.not_eq_false', decide_eq_true_eq, decide_eq_false_iff_not, bne_eq_false_iff_eq, bne_iff_ne, ne_eq]
  refine ⟨fun h1 => callS_of d159 ⟨_, rfl, ?_⟩, fun h1 => fin false (by simp [formQuoF, h1])⟩
  simp -implicitDefEqProofs only [go_sem, Nat.reduceBEq, Nat.reduceAdd, List.drop_succ_cons, List.drop_zero, Nat.reduceLeDiff, true_and, List.length_cons, List.length_nil, Nat.ble]
  simp only [Bool.not_eq_true', Bool.not_eq_false', decide_eq_true_eq, decide_eq_false_iff_not, bne_eq_false_iff_eq, bne_iff_ne, ne_eq]
  refine ⟨fun h3 hL => ⟨fun h4 _ => ⟨fun h5 => fin false ?_, fun h5 => ?_⟩, fun h4 => fin false ?_⟩, fun h3 => fin false (by simp [formQuoF, h3])⟩
  · have : ¬ q.hard.length ≤ 16 := by omega
    simp [formQuoF, this]
  rotate_left
  · have : ¬ 1 ≤ q.hard.length := by omega
    simp [formQuoF, this]
  have rest : validF q.scope = true → ∀ fr, getT 1 fr = some (.ref 1 0) → aops Tryz.prog gls c136r8 (thenQ (awp Tryz.prog gls (ACode.block 0 c136l14.loop) (thenQ (awp Tryz.prog gls ((ACode.reg c136r15).seq ACode.ret) (endQ K [ResV.t 2])) (endQ K [ResV.t 2])))
      (thenQ (awp Tryz.prog gls ((ACode.reg c136r15).seq ACode.ret) (endQ K [ResV.t 2])) (endQ K [ResV.t 2])) Ex.normal)
      ⟨fr, [(1, [.val (.string q.path), .val (.string q.name), .val (.int .i64 q.scope.1), .val (.int .i64 q.scope.2), .sl es q.hard.length])], [], φ⟩ := by
    intro hval fr hfr
    have rest : formQuoF q = (q.hard.all hardOK && namedF (hardName q) q.hard.length) := by
      have a3 : 1 ≤ q.hard.length := by omega
      have a4 : q.hard.length ≤ 16 := by omega
      simp [formQuoF, h1, h3, hval, a3, a4]
    simp -implicitDefEqProofs only [go_sem, Nat.reduceBEq, Nat.reduceAdd, c136r8, hfr, List.drop_succ_cons, List.drop_zero, Nat.reduceLeDiff, true_and, List.length_cons, List.length_nil, Nat.ble]
    intro _
    refine range_loop rfl (by decide) q.hard.length hL (fun _ => [(1, .ref 1 0), (56, .p (.sl es q.hard.length))]) (fun _ => [(1, [.val (.string q.path), .val (.string q.name), .val (.int .i64 q.scope.1), .val (.int .i64 q.scope.2), .sl es q.hard.length])]) (fun _ => []) (fun _ => φ) (fun k => (q.hard.take k).all hardOK = true) (Gho.sub ?_ ?_ ?_ ?_ rfl) (by simp) ?_ ?_
    · simp [subFr, go_sem, leAV, headSt, hfr]
    · simp [subB, go_sem, headSt]
    · simp [subB, headSt]
    · simp [refsOK, headSt, go_sem]
    · intro k Q' hk hI hn hc hq
      obtain ⟨p, e, ha, he, rfl, -⟩ := SlR.at h2 hk
      have bad : hardOK p = false → ∀ fr bx rw, Q' .ret ⟨(2, .p (.val (.bool false))) :: fr, bx, rw, φ⟩ := fun h fr bx rw => hq _ _ (by simp) (by simp) (by
        simp -implicitDefEqProofs only [go_sem, Nat.reduceBEq]
        exact fin false (by rw [rest, all_of_false ha h]; rfl))
      simp -implicitDefEqProofs only [go_sem, Nat.reduceBEq, Nat.reduceAdd, c136r10, c136r11, c136r12, Int.toNat_natCast, he, Option.some.injEq, exists_eq_left', Nat.reduceLeDiff, List.length_cons, List.length_nil, Nat.le_refl, true_and, List.drop_succ_cons, List.drop_zero, List.take_succ_cons, List.take_zero, Nat.ble]
      refine ⟨by omega, by omega, callS_of d187 ⟨_, rfl, ?_⟩⟩
      simp -implicitDefEqProofs only [go_sem, Nat.reduceBEq, Nat.reduceAdd, List.drop_succ_cons, List.drop_zero, Nat.reduceLeDiff, true_and, List.length_cons, List.length_nil, Nat.ble]
      simp only [Bool.not_eq_true', Bool.not_eq_false', decide_eq_true_eq, decide_eq_false_iff_not, bne_eq_false_iff_eq, bne_iff_ne, ne_eq]
      refine ⟨fun g1 => ⟨fun g2 => bad ?_ _ _ _, fun g2 => hn _ (all_take_next hI ha ?_) ⟨by simp only [go_sem, Nat.reduceBEq], Gho.sub ?_ ?_ ?_ ?_ rfl⟩⟩, fun g1 => bad (by simp [hardOK, g1]) _ _ _⟩
      · have : ¬ 0 ≤ p.value := by omega
        simp [hardOK, this]
      · have : 0 ≤ p.value := by omega
        simp [hardOK, this, g1]
      · simp [subFr, go_sem, leAV, headSt]
      · simp [subB, go_sem, headSt]
      · simp [subB, headSt]
      · simp [refsOK, headSt, go_sem]
    · intro hI
      rw [List.take_length] at hI
      simp -implicitDefEqProofs only [go_sem, Nat.reduceBEq, Nat.reduceAdd, c136r15, List.drop_succ_cons, List.drop_zero, Nat.reduceLeDiff, true_and, List.length_cons, List.length_nil, Nat.ble]
      refine fun _ => callS_of d163 ⟨q.hard.length, 188, _, hardName q, rfl, hbig, fun i hi => brings_of d188 ⟨q, _, i, rfl, hO, hi, rfl, rfl⟩, ?_⟩
      simp -implicitDefEqProofs only [go_sem, Nat.reduceBEq, Nat.reduceAdd]
      exact fin _ (by rw [rest, hI]; rfl)
  have nov : validF q.scope = false → K (.one (rB false)) φ := fun h => fin false (by simp [formQuoF, h])
  simp -implicitDefEqProofs only [go_sem, Nat.reduceBEq, Nat.reduceAdd, c136r3, c136r4, c136r5, c136r6, c136r7, List.drop_succ_cons, List.drop_zero, Nat.reduceLeDiff, true_and, List.length_cons, List.length_nil, Nat.ble]
  simp only [Bool.not_eq_true', Bool.not_eq_false', decide_eq_true_eq, decide_eq_false_iff_not, bne_eq_false_iff_eq, bne_iff_ne, ne_eq]
  have v0 : q.scope.1 < 0 → validF q.scope = false := fun h => by
    have : ¬ 0 ≤ q.scope.1 := by omega
    simp [validF, this]
  have v5 : 5 < q.scope.1 → validF q.scope = false := fun h => by
    have : ¬ q.scope.1 < 6 := by omega
    simp [validF, this]
  have vn : q.scope.2 < 0 → validF q.scope = false := fun h => by
    have a1 : ¬ 0 ≤ q.scope.2 := by omega
    have a2 : ¬ q.scope.2 = 0 := by omega
    simp [validF, a1, a2]
  refine ⟨fun k5 => ⟨fun k0 => ⟨fun k6 => ⟨fun kn => ⟨fun k9 => nov ?_, fun k9 => rest ?_ _ (by simp only [go_sem, Nat.reduceBEq])⟩, fun kn => nov (vn kn)⟩, fun k6 => nov (v5 k6)⟩, fun k0 => nov (v0 k0)⟩,
    fun k5 => ⟨fun k0 => ⟨fun k6 => ⟨fun kn => ⟨fun k9 => nov ?_, fun k9 => rest ?_ _ (by simp only [go_sem, Nat.reduceBEq])⟩, fun kn => nov (vn kn)⟩, fun k6 => nov (v5 k6)⟩, fun k0 => nov (v0 k0)⟩⟩
  · have a1 : ¬ q.scope.2 < 10 := by omega
    simp [validF, a1, k5]
  · have a1 : q.scope.2 < 10 := by omega
    have a2 : 0 ≤ q.scope.2 := by omega
    simp [validF, a1, a2, k5]
  · have a1 : ¬ q.scope.2 = 0 := by omega
    simp [validF, a1, k5]
  · have a1 : q.scope.2 = 0 := by omega
    have a2 : 0 ≤ q.scope.1 := by omega
    have a3 : q.scope.1 < 6 := by omega
    simp [validF, a1, a2, a3, k5]
end Go.Proofs.YtnjblinbdimkjaaGreatDoor
