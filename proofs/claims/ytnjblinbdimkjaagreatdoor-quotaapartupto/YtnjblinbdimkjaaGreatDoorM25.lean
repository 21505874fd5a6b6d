/-
  bursarlaw18.QuotaApart answers true and leaves its arguments as they were, for inputs of bulk at most 1048576 (the given second form; no other condition). Part 25 of 26 of the proof.
-/
import Derived.Test.YtnjblinbdimkjaaGreatDoorM24
import Derived.Test.YtnjblinbdimkjaaGreatDoorM12
namespace Go.Proofs.YtnjblinbdimkjaaGreatDoor
open Go Go.Am
-- 27 bursar/quota.Lines (40 slots, 2 parameters)
def m27r0 : List AOper := [
  ⟨some 3, none, .box (.t 1)⟩,
  ⟨some 4, none, .mov (.k (.p (.val (.slice none 0 0))))⟩]
def m27r1 : List AOper := [
  ⟨some 8, none, .mov (.t 0)⟩,
  ⟨some 9, none, .isnil false (.t 8)⟩,
  ⟨some 10, none, .mov (.t 9)⟩,
  ⟨some 11, some (10, false), .load true 5 (.t 3)⟩,
  ⟨some 12, some (10, false), .call 41 [(.t 11)]⟩,
  ⟨some 13, some (10, false), .bin .neq 38 (.t 12) (.k (.p (.val (.int .i64 0))))⟩,
  ⟨some 14, none, .pick (.t 10) (.k (.p (.val (.bool true)))) (.t 13)⟩]
def m27r2 : List AOper := [
  ⟨some 4, none, .mov (.k (.p (.val (.slice none 0 0))))⟩]
def m27r3 : List AOper := [
  ⟨some 5, none, .mov (.k (.p (.val (.slice none 0 0))))⟩]
def m27r4 : List AOper := [
  ⟨some 15, none, .fad 4 (.t 3)⟩,
  ⟨some 16, none, .load false 1 (.t 15)⟩,
  ⟨some 17, none, .len (.t 16)⟩,
  ⟨some 18, none, .mov (.k (.p (.val (.int .i64 0))))⟩]
def m27r5 : List AOper := [
  ⟨some 19, none, .bin .lss 3 (.t 18) (.t 17)⟩]
def m27r6 : List AOper := [
  ⟨some 20, none, .iad 2 (.t 16) (.t 18)⟩,
  ⟨some 21, none, .load true 2 (.t 20)⟩,
  ⟨some 7, none, .alloc [(.val (.string ⟨#[]⟩)), (.val (.int .i64 0))]⟩,
  ⟨none, none, .store 2 (.t 7) (.t 21)⟩]
def m27r7 : List AOper := [
  ⟨some 22, none, .mov (.t 5)⟩,
  ⟨some 23, none, .fad 0 (.t 7)⟩,
  ⟨some 24, none, .load false 1 (.t 23)⟩,
  ⟨some 25, none, .fad 1 (.t 7)⟩,
  ⟨some 26, none, .load false 1 (.t 25)⟩,
  ⟨some 27, none, .mov (.t 0)⟩,
  ⟨some 28, none, .fad 0 (.t 3)⟩,
  ⟨some 29, none, .load false 1 (.t 28)⟩,
  ⟨some 30, none, .fad 2 (.t 3)⟩,
  ⟨some 31, none, .load true 2 (.t 30)⟩,
  ⟨some 32, none, .fad 0 (.t 7)⟩,
  ⟨some 33, none, .load false 1 (.t 32)⟩,
  ⟨some 34, none, .callq 72 [(.t 27), (.t 29), (.t 31), (.t 33)]⟩,
  ⟨some 35, none, .buildq [(.val (.string ⟨#[]⟩)), (.val (.int .i64 0)), (.val (.int .i64 0))] [(0, 1, (.t 24)), (1, 1, (.t 26)), (2, 1, (.t 34))]⟩,
  ⟨some 36, none, .bslice 68 3 1 [(.val (.string ⟨#[]⟩)), (.val (.int .i64 0)), (.val (.int .i64 0))] [(0, 3, (.t 35))]⟩,
  ⟨some 37, none, .prim (.call { callee := .builtin .append, args := #[(.tmp 22), (.tmp 36)], argTypes := #[64, 64] }) [(.t 22), (.t 36)]⟩,
  ⟨some 5, none, .mov (.t 37)⟩]
def m27r8 : List AOper := [
  ⟨some 38, none, .bin .add 3 (.t 18) (.k (.p (.val (.int .i64 1))))⟩,
  ⟨some 18, none, .mov (.t 38)⟩]
def m27l9 : ACode := (.seq (.reg m27r5) (.seq (.cond (.t 19) .skip (.exit 0)) (.seq (.block 1 (.seq (.reg m27r6) (.reg m27r7))) (.reg m27r8))))
def m27r10 : List AOper := [
  ⟨some 39, none, .mov (.t 5)⟩,
  ⟨some 4, none, .mov (.t 39)⟩]
def m27 : ACode := (.seq (.reg m27r0) (.seq (.seq (.reg m27r1) (.cond (.t 14) (.seq (.reg m27r2) .ret) .skip)) (.seq (.reg m27r3) (.seq (.seq (.reg m27r4) (.block 0 (.loop m27l9))) (.seq (.reg m27r10) .ret)))))
theorem m27_eq : (Tryz.f27.body).map (tr Tryz.prog (glX gls [37]) 40) = some m27 := by kernel_rfl
theorem mk27 {S : Am.Spec} (hargs : ∀ rs φ K, S rs φ K → rs.length ≤ 40) (h : Shows Tryz.prog (glX gls [37]) m27 [.t 4] S) : Snd Tryz.prog gls 27 S :=
  Snd.down <| snd_code Tryz.func27 m27_eq (by kernel_rfl) (by kernel_rfl) Tryz.ntmps27 hargs h
-- 28 bursar/bursarlaw18.sameLines (26 slots, 2 parameters)
def c28r0 : List AOper := [
  ⟨some 4, none, .mov (.k (.p (.val (.bool false))))⟩]
def c28r1 : List AOper := [
  ⟨some 6, none, .mov (.t 0)⟩,
  ⟨some 7, none, .len (.t 6)⟩,
  ⟨some 8, none, .mov (.t 1)⟩,
  ⟨some 9, none, .len (.t 8)⟩,
  ⟨some 10, none, .bin .neq 3 (.t 7) (.t 9)⟩]
def c28r2 : List AOper := [
  ⟨some 4, none, .mov (.k (.p (.val (.bool false))))⟩]
def c28r3 : List AOper := [
  ⟨some 5, none, .mov (.k (.p (.val (.int .i64 0))))⟩]
def c28r4 : List AOper := [
  ⟨some 11, none, .mov (.t 5)⟩,
  ⟨some 12, none, .mov (.t 0)⟩,
  ⟨some 13, none, .len (.t 12)⟩,
  ⟨some 14, none, .bin .lss 3 (.t 11) (.t 13)⟩]
def c28r5 : List AOper := [
  ⟨some 17, none, .mov (.t 0)⟩,
  ⟨some 18, none, .mov (.t 5)⟩,
  ⟨some 19, none, .iad 3 (.t 17) (.t 18)⟩,
  ⟨some 20, none, .load true 3 (.t 19)⟩,
  ⟨some 21, none, .mov (.t 1)⟩,
  ⟨some 22, none, .mov (.t 5)⟩,
  ⟨some 23, none, .iad 3 (.t 21) (.t 22)⟩,
  ⟨some 24, none, .load true 3 (.t 23)⟩,
  ⟨some 25, none, .beq true [.str, .int, .int] (.t 20) (.t 24)⟩]
def c28r6 : List AOper := [
  ⟨some 4, none, .mov (.k (.p (.val (.bool false))))⟩]
def c28r7 : List AOper := [
  ⟨some 15, none, .mov (.t 5)⟩,
  ⟨some 16, none, .bin .add 3 (.t 15) (.k (.p (.val (.int .i64 1))))⟩,
  ⟨some 5, none, .mov (.t 16)⟩]
def c28l8 : ACode := (.seq (.seq (.reg c28r4) (.cond (.t 14) .skip (.exit 0))) (.seq (.block 1 (.seq (.reg c28r5) (.cond (.t 25) (.seq (.reg c28r6) .ret) .skip))) (.reg c28r7)))
def c28r9 : List AOper := [
  ⟨some 4, none, .mov (.k (.p (.val (.bool true))))⟩]
def c28 : ACode := (.seq (.reg c28r0) (.seq (.seq (.reg c28r1) (.cond (.t 10) (.seq (.reg c28r2) .ret) .skip)) (.seq (.seq (.reg c28r3) (.block 0 (.loop c28l8))) (.seq (.reg c28r9) .ret))))
theorem c28_eq : (Tryz.f28.body).map (tr Tryz.prog gls 26) = some c28 := by kernel_rfl
theorem k28 {S : Am.Spec} (hargs : ∀ rs φ K, S rs φ K → rs.length ≤ 26) (h : Shows Tryz.prog gls c28 [.t 4] S) : Snd Tryz.prog gls 28 S :=
  snd_code Tryz.func28 c28_eq (by kernel_rfl) (by kernel_rfl) Tryz.ntmps28 hargs h
-- 29 bursar/bursarlaw18.sameQuota (68 slots, 2 parameters)
def c29r0 : List AOper := [
  ⟨some 2, none, .box (.t 0)⟩,
  ⟨some 3, none, .box (.t 1)⟩,
  ⟨some 4, none, .mov (.k (.p (.val (.bool false))))⟩]
def c29r1 : List AOper := [
  ⟨some 6, none, .fad 0 (.t 2)⟩,
  ⟨some 7, none, .load false 1 (.t 6)⟩,
  ⟨some 8, none, .fad 0 (.t 3)⟩,
  ⟨some 9, none, .load false 1 (.t 8)⟩,
  ⟨some 10, none, .bin .neq 9 (.t 7) (.t 9)⟩,
  ⟨some 11, none, .mov (.t 10)⟩,
  ⟨some 12, some (11, false), .fad 1 (.t 2)⟩,
  ⟨some 13, some (11, false), .load false 1 (.t 12)⟩,
  ⟨some 14, some (11, false), .fad 1 (.t 3)⟩,
  ⟨some 15, some (11, false), .load false 1 (.t 14)⟩,
  ⟨some 16, some (11, false), .bin .neq 9 (.t 13) (.t 15)⟩,
  ⟨some 17, none, .pick (.t 11) (.k (.p (.val (.bool true)))) (.t 16)⟩,
  ⟨some 18, none, .mov (.t 17)⟩,
  ⟨some 19, some (18, false), .fad 2 (.t 2)⟩,
  ⟨some 20, some (18, false), .load true 2 (.t 19)⟩,
  ⟨some 21, some (18, false), .fad 2 (.t 3)⟩,
  ⟨some 22, some (18, false), .load true 2 (.t 21)⟩,
  ⟨some 23, some (18, false), .beq true [.int, .int] (.t 20) (.t 22)⟩,
  ⟨some 24, none, .pick (.t 18) (.k (.p (.val (.bool true)))) (.t 23)⟩,
  ⟨some 25, none, .mov (.t 24)⟩,
  ⟨some 26, some (25, false), .fad 4 (.t 2)⟩,
  ⟨some 27, some (25, false), .load false 1 (.t 26)⟩,
  ⟨some 28, some (25, false), .lenq (.t 27)⟩,
  ⟨some 29, some (25, false), .fad 4 (.t 3)⟩,
  ⟨some 30, some (25, false), .load false 1 (.t 29)⟩,
  ⟨some 31, some (25, false), .lenq (.t 30)⟩,
  ⟨some 32, some (25, false), .bin .neq 3 (.t 28) (.t 31)⟩,
  ⟨some 33, none, .pick (.t 25) (.k (.p (.val (.bool true)))) (.t 32)⟩,
  ⟨some 34, none, .mov (.t 33)⟩,
  ⟨some 35, some (34, false), .fad 4 (.t 2)⟩,
  ⟨some 36, some (34, false), .load false 1 (.t 35)⟩,
  ⟨some 37, some (34, false), .fad 4 (.t 2)⟩,
  ⟨some 38, some (34, false), .load false 1 (.t 37)⟩,
  ⟨some 39, some (34, false), .lenq (.t 38)⟩,
  ⟨some 40, some (34, false), .bin .add 3 (.t 39) (.k (.p (.val (.int .i64 1))))⟩,
  ⟨some 41, some (34, false), .slcq 2 (.t 36) none (some (.t 40))⟩,
  ⟨some 42, some (34, false), .fad 4 (.t 2)⟩,
  ⟨some 43, some (34, false), .load false 1 (.t 42)⟩,
  ⟨some 44, some (34, false), .lenq (.t 43)⟩,
  ⟨some 45, some (34, false), .iad 2 (.t 41) (.t 44)⟩,
  ⟨some 46, some (34, false), .fad 1 (.t 45)⟩,
  ⟨some 47, some (34, false), .load false 1 (.t 46)⟩,
  ⟨some 48, some (34, false), .bin .neq 2 (.t 47) (.k (.p (.val (.int .i64 7))))⟩,
  ⟨some 49, none, .pick (.t 34) (.k (.p (.val (.bool true)))) (.t 48)⟩]
def c29r2 : List AOper := [
  ⟨some 4, none, .mov (.k (.p (.val (.bool false))))⟩]
def c29r3 : List AOper := [
  ⟨some 5, none, .mov (.k (.p (.val (.int .i64 0))))⟩]
def c29r4 : List AOper := [
  ⟨some 50, none, .mov (.t 5)⟩,
  ⟨some 51, none, .fad 4 (.t 2)⟩,
  ⟨some 52, none, .load false 1 (.t 51)⟩,
  ⟨some 53, none, .len (.t 52)⟩,
  ⟨some 54, none, .bin .lss 3 (.t 50) (.t 53)⟩]
def c29r5 : List AOper := [
  ⟨some 57, none, .fad 4 (.t 2)⟩,
  ⟨some 58, none, .load false 1 (.t 57)⟩,
  ⟨some 59, none, .mov (.t 5)⟩,
  ⟨some 60, none, .iad 2 (.t 58) (.t 59)⟩,
  ⟨some 61, none, .load true 2 (.t 60)⟩,
  ⟨some 62, none, .fad 4 (.t 3)⟩,
  ⟨some 63, none, .load false 1 (.t 62)⟩,
  ⟨some 64, none, .mov (.t 5)⟩,
  ⟨some 65, none, .iad 2 (.t 63) (.t 64)⟩,
  ⟨some 66, none, .load true 2 (.t 65)⟩,
  ⟨some 67, none, .beq true [.str, .int] (.t 61) (.t 66)⟩]
def c29r6 : List AOper := [
  ⟨some 4, none, .mov (.k (.p (.val (.bool false))))⟩]
def c29r7 : List AOper := [
  ⟨some 55, none, .mov (.t 5)⟩,
  ⟨some 56, none, .bin .add 3 (.t 55) (.k (.p (.val (.int .i64 1))))⟩,
  ⟨some 5, none, .mov (.t 56)⟩]
def c29l8 : ACode := (.seq (.seq (.reg c29r4) (.cond (.t 54) .skip (.exit 0))) (.seq (.block 1 (.seq (.reg c29r5) (.cond (.t 67) (.seq (.reg c29r6) .ret) .skip))) (.reg c29r7)))
def c29r9 : List AOper := [
  ⟨some 4, none, .mov (.k (.p (.val (.bool true))))⟩]
def c29 : ACode := (.seq (.reg c29r0) (.seq (.seq (.reg c29r1) (.cond (.t 49) (.seq (.reg c29r2) .ret) .skip)) (.seq (.seq (.reg c29r3) (.block 0 (.loop c29l8))) (.seq (.reg c29r9) .ret))))
theorem c29_eq : (Tryz.f29.body).map (tr Tryz.prog gls 68) = some c29 := by kernel_rfl
theorem k29 {S : Am.Spec} (hargs : ∀ rs φ K, S rs φ K → rs.length ≤ 68) (h : Shows Tryz.prog gls c29 [.t 4] S) : Snd Tryz.prog gls 29 S :=
  snd_code Tryz.func29 c29_eq (by kernel_rfl) (by kernel_rfl) Tryz.ntmps29 hargs h
-- 6 bursar/bursarlaw18.QuotaApart (110 slots, 2 parameters)
def c6r0 : List AOper := [
  ⟨some 3, none, .box (.t 1)⟩,
  ⟨some 4, none, .mov (.k (.p (.val (.bool false))))⟩]
def c6r1 : List AOper := [
  ⟨some 17, none, .call 11 []⟩,
  ⟨some 18, none, .un .not (.t 17)⟩]
def c6r2 : List AOper := [
  ⟨some 4, none, .mov (.k (.p (.val (.bool false))))⟩]
def c6r3 : List AOper := [
  ⟨some 20, none, .mov (.t 0)⟩,
  ⟨some 21, none, .call 20 [(.t 20)]⟩,
  ⟨some 19, none, .mov (.t 21)⟩,
  ⟨some 22, none, .ext (.t 19) 0⟩,
  ⟨some 23, none, .ext (.t 19) 1⟩,
  ⟨some 5, none, .mov (.t 22)⟩,
  ⟨some 6, none, .mov (.t 23)⟩]
def c6r4 : List AOper := [
  ⟨some 24, none, .mov (.t 5)⟩,
  ⟨some 25, none, .isnil false (.t 24)⟩]
def c6r5 : List AOper := [
  ⟨some 4, none, .mov (.k (.p (.val (.bool false))))⟩]
def c6r6 : List AOper := [
  ⟨some 26, none, .load true 5 (.t 3)⟩,
  ⟨some 27, none, .call 26 [(.t 26)]⟩,
  ⟨some 7, none, .alloc [(.val (.string ⟨#[]⟩)), (.val (.string ⟨#[]⟩)), (.val (.int .i64 0)), (.val (.int .i64 0)), (.sl [] 0)]⟩,
  ⟨none, none, .store 5 (.t 7) (.t 27)⟩]
def c6r7 : List AOper := [
  ⟨some 28, none, .mov (.t 5)⟩,
  ⟨some 29, none, .load true 5 (.t 7)⟩,
  ⟨some 30, none, .call 27 [(.t 28), (.t 29)]⟩,
  ⟨some 8, none, .mov (.t 30)⟩]
def c6r8 : List AOper := [
  ⟨some 31, none, .mov (.t 5)⟩,
  ⟨some 32, none, .load true 5 (.t 7)⟩,
  ⟨some 33, none, .call 27 [(.t 31), (.t 32)]⟩,
  ⟨some 9, none, .mov (.t 33)⟩]
def c6r9 : List AOper := [
  ⟨some 34, none, .mov (.t 8)⟩,
  ⟨some 35, none, .len (.t 34)⟩,
  ⟨some 10, none, .mov (.t 35)⟩]
def c6r10 : List AOper := [
  ⟨some 36, none, .mov (.t 8)⟩,
  ⟨some 37, none, .mov (.t 9)⟩,
  ⟨some 38, none, .call 28 [(.t 36), (.t 37)]⟩,
  ⟨some 39, none, .un .not (.t 38)⟩]
def c6r11 : List AOper := [
  ⟨some 4, none, .mov (.k (.p (.val (.bool false))))⟩]
def c6r12 : List AOper := [
  ⟨some 11, none, .mov (.k (.p (.val (.slice none 0 0))))⟩]
def c6r13 : List AOper := [
  ⟨some 40, none, .mov (.t 11)⟩,
  ⟨some 41, none, .mov (.t 9)⟩,
  ⟨some 42, none, .app 68 3 32 (.t 40) (.t 41)⟩,
  ⟨some 11, none, .mov (.t 42)⟩]
def c6r14 : List AOper := [
  ⟨some 43, none, .mov (.t 8)⟩,
  ⟨some 12, none, .mov (.t 43)⟩]
def c6r15 : List AOper := [
  ⟨some 13, none, .mov (.k (.p (.val (.int .i64 0))))⟩]
def c6r16 : List AOper := [
  ⟨some 44, none, .mov (.t 13)⟩,
  ⟨some 45, none, .mov (.t 10)⟩,
  ⟨some 46, none, .bin .lss 3 (.t 44) (.t 45)⟩]
def c6r17 : List AOper := [
  ⟨some 49, none, .mov (.t 8)⟩,
  ⟨some 50, none, .mov (.t 13)⟩,
  ⟨some 51, none, .build [(.val (.string ⟨#[]⟩)), (.val (.int .i64 0)), (.val (.int .i64 0))] [(0, 1, (.k (.p (.val (.string ⟨#[119]⟩))))), (2, 1, (.k (.p (.val (.int .i64 5)))))]⟩,
  ⟨some 52, none, .iad 3 (.t 49) (.t 50)⟩,
  ⟨none, none, .store 3 (.t 52) (.t 51)⟩]
def c6r18 : List AOper := [
  ⟨some 47, none, .mov (.t 13)⟩,
  ⟨some 48, none, .bin .add 3 (.t 47) (.k (.p (.val (.int .i64 1))))⟩,
  ⟨some 13, none, .mov (.t 48)⟩]
def c6l19 : ACode := (.seq (.seq (.reg c6r16) (.cond (.t 46) .skip (.exit 0))) (.seq (.block 1 (.reg c6r17)) (.reg c6r18)))
def c6r20 : List AOper := [
  ⟨some 53, none, .mov (.t 5)⟩,
  ⟨some 54, none, .load true 5 (.t 7)⟩,
  ⟨some 55, none, .call 27 [(.t 53), (.t 54)]⟩,
  ⟨some 14, none, .mov (.t 55)⟩]
def c6r21 : List AOper := [
  ⟨some 15, none, .mov (.k (.p (.val (.int .i64 0))))⟩]
def c6r22 : List AOper := [
  ⟨some 56, none, .mov (.t 15)⟩,
  ⟨some 57, none, .mov (.t 10)⟩,
  ⟨some 58, none, .bin .lss 3 (.t 56) (.t 57)⟩]
def c6r23 : List AOper := [
  ⟨some 61, none, .mov (.t 12)⟩,
  ⟨some 62, none, .mov (.t 15)⟩,
  ⟨some 63, none, .iad 3 (.t 61) (.t 62)⟩,
  ⟨some 64, none, .load true 3 (.t 63)⟩,
  ⟨some 65, none, .build [(.val (.string ⟨#[]⟩)), (.val (.int .i64 0)), (.val (.int .i64 0))] [(0, 1, (.k (.p (.val (.string ⟨#[119]⟩))))), (2, 1, (.k (.p (.val (.int .i64 5)))))]⟩,
  ⟨some 66, none, .beq true [.str, .int, .int] (.t 64) (.t 65)⟩]
def c6r24 : List AOper := [
  ⟨some 4, none, .mov (.k (.p (.val (.bool false))))⟩]
def c6r25 : List AOper := [
  ⟨some 59, none, .mov (.t 15)⟩,
  ⟨some 60, none, .bin .add 3 (.t 59) (.k (.p (.val (.int .i64 1))))⟩,
  ⟨some 15, none, .mov (.t 60)⟩]
def c6l26 : ACode := (.seq (.seq (.reg c6r22) (.cond (.t 58) .skip (.exit 2))) (.seq (.block 3 (.seq (.reg c6r23) (.cond (.t 66) (.seq (.reg c6r24) .ret) .skip))) (.reg c6r25)))
def c6r27 : List AOper := [
  ⟨some 67, none, .mov (.t 9)⟩,
  ⟨some 68, none, .mov (.t 11)⟩,
  ⟨some 69, none, .call 28 [(.t 67), (.t 68)]⟩,
  ⟨some 70, none, .un .not (.t 69)⟩,
  ⟨some 71, none, .mov (.t 70)⟩,
  ⟨some 72, some (71, false), .mov (.t 14)⟩,
  ⟨some 73, some (71, false), .mov (.t 11)⟩,
  ⟨some 74, some (71, false), .call 28 [(.t 72), (.t 73)]⟩,
  ⟨some 75, some (71, false), .un .not (.t 74)⟩,
  ⟨some 76, none, .pick (.t 71) (.k (.p (.val (.bool true)))) (.t 75)⟩]
def c6r28 : List AOper := [
  ⟨some 4, none, .mov (.k (.p (.val (.bool false))))⟩]
def c6r29 : List AOper := [
  ⟨some 77, none, .mov (.t 8)⟩,
  ⟨some 78, none, .build [(.val (.string ⟨#[]⟩)), (.val (.int .i64 0)), (.val (.int .i64 0))] [(0, 1, (.k (.p (.val (.string ⟨#[118]⟩)))))]⟩,
  ⟨some 79, none, .build [(.val (.string ⟨#[]⟩)), (.val (.int .i64 0)), (.val (.int .i64 0))] [(0, 1, (.k (.p (.val (.string ⟨#[117]⟩)))))]⟩,
  ⟨some 80, none, .bslice 68 3 2 [(.val (.string ⟨#[]⟩)), (.val (.int .i64 0)), (.val (.int .i64 0))] [(0, 3, (.t 78)), (3, 3, (.t 79))]⟩,
  ⟨some 81, none, .prim (.call { callee := .builtin .append, args := #[(.tmp 77), (.tmp 80)], argTypes := #[64, 64] }) [(.t 77), (.t 80)]⟩,
  ⟨some 8, none, .mov (.t 81)⟩]
def c6r30 : List AOper := [
  ⟨some 16, none, .mov (.k (.p (.val (.int .i64 0))))⟩]
def c6r31 : List AOper := [
  ⟨some 82, none, .mov (.t 16)⟩,
  ⟨some 83, none, .mov (.t 10)⟩,
  ⟨some 84, none, .bin .lss 3 (.t 82) (.t 83)⟩]
def c6r32 : List AOper := [
  ⟨some 87, none, .mov (.t 8)⟩,
  ⟨some 88, none, .mov (.t 16)⟩,
  ⟨some 89, none, .iad 3 (.t 87) (.t 88)⟩,
  ⟨some 90, none, .load true 3 (.t 89)⟩,
  ⟨some 91, none, .build [(.val (.string ⟨#[]⟩)), (.val (.int .i64 0)), (.val (.int .i64 0))] [(0, 1, (.k (.p (.val (.string ⟨#[119]⟩))))), (2, 1, (.k (.p (.val (.int .i64 5)))))]⟩,
  ⟨some 92, none, .beq true [.str, .int, .int] (.t 90) (.t 91)⟩]
def c6r33 : List AOper := [
  ⟨some 4, none, .mov (.k (.p (.val (.bool false))))⟩]
def c6r34 : List AOper := [
  ⟨some 85, none, .mov (.t 16)⟩,
  ⟨some 86, none, .bin .add 3 (.t 85) (.k (.p (.val (.int .i64 1))))⟩,
  ⟨some 16, none, .mov (.t 86)⟩]
def c6l35 : ACode := (.seq (.seq (.reg c6r31) (.cond (.t 84) .skip (.exit 4))) (.seq (.block 5 (.seq (.reg c6r32) (.cond (.t 92) (.seq (.reg c6r33) .ret) .skip))) (.reg c6r34)))
def c6r36 : List AOper := [
  ⟨some 93, none, .mov (.t 8)⟩,
  ⟨some 94, none, .len (.t 93)⟩,
  ⟨some 95, none, .mov (.t 10)⟩,
  ⟨some 96, none, .bin .add 3 (.t 95) (.k (.p (.val (.int .i64 2))))⟩,
  ⟨some 97, none, .bin .eql 3 (.t 94) (.t 96)⟩,
  ⟨some 98, none, .mov (.t 97)⟩,
  ⟨some 99, some (98, true), .mov (.t 9)⟩,
  ⟨some 100, some (98, true), .mov (.t 5)⟩,
  ⟨some 101, some (98, true), .load true 5 (.t 7)⟩,
  ⟨some 102, some (98, true), .call 27 [(.t 100), (.t 101)]⟩,
  ⟨some 103, some (98, true), .call 28 [(.t 99), (.t 102)]⟩,
  ⟨some 104, none, .pick (.t 98) (.t 103) (.k (.p (.val (.bool false))))⟩,
  ⟨some 105, none, .mov (.t 104)⟩,
  ⟨some 106, some (105, true), .load true 5 (.t 7)⟩,
  ⟨some 107, some (105, true), .load true 5 (.t 3)⟩,
  ⟨some 108, some (105, true), .call 29 [(.t 106), (.t 107)]⟩,
  ⟨some 109, none, .pick (.t 105) (.t 108) (.k (.p (.val (.bool false))))⟩,
  ⟨some 4, none, .mov (.t 109)⟩]
def c6 : ACode := (.seq (.reg c6r0) (.seq (.seq (.reg c6r1) (.cond (.t 18) (.seq (.reg c6r2) .ret) .skip)) (.seq (.reg c6r3) (.seq (.seq (.reg c6r4) (.cond (.t 25) (.seq (.reg c6r5) .ret) .skip)) (.seq (.reg c6r6) (.seq (.reg c6r7) (.seq (.reg c6r8) (.seq (.reg c6r9) (.seq (.seq (.reg c6r10) (.cond (.t 39) (.seq (.reg c6r11) .ret) .skip)) (.seq (.reg c6r12) (.seq (.reg c6r13) (.seq (.reg c6r14) (.seq (.seq (.reg c6r15) (.block 0 (.loop c6l19))) (.seq (.reg c6r20) (.seq (.seq (.reg c6r21) (.block 2 (.loop c6l26))) (.seq (.seq (.reg c6r27) (.cond (.t 76) (.seq (.reg c6r28) .ret) .skip)) (.seq (.reg c6r29) (.seq (.seq (.reg c6r30) (.block 4 (.loop c6l35))) (.seq (.reg c6r36) .ret)))))))))))))))))))
theorem c6_eq : (Tryz.f6.body).map (tr Tryz.prog (glX gls [81]) 110) = some c6 := by kernel_rfl
theorem k6 {S : Am.Spec} (hargs : ∀ rs φ K, S rs φ K → rs.length ≤ 110) (h : Shows Tryz.prog (glX gls [81]) c6 [.t 4] S) : Snd Tryz.prog gls 6 S :=
  Snd.down <| snd_code Tryz.func6 c6_eq (by kernel_rfl) (by kernel_rfl) Tryz.ntmps6 hargs h
end Go.Proofs.YtnjblinbdimkjaaGreatDoor

namespace Go.Proofs.YtnjblinbdimkjaaGreatDoor
open Go Go.Am
set_option linter.unusedSimpArgs false

/-! ### quota.Lines -/
structure Lin where
  res : ByteArray
  hard : Int
  used : Int
  deriving DecidableEq
def linC (x : Lin) : List PV := [.val (.string x.res), .val (.int .i64 x.hard), .val (.int .i64 x.used)]
def linA (f : Place → Int) (q : Quo) (a : Amt) : Lin := ⟨a.name, a.value, f ⟨q.path, q.scope, a.name⟩⟩
def linesF (f : Place → Int) (q : Quo) : List Lin := if encQ q = 0 then q.hard.map (linA f q) else []
theorem info68 : Tryz.prog.info? 68 = some Tryz.t68 := by kernel_rfl
theorem Lg.r {ψ φ : Res} {b : Nat} {f : Place → Int} (h : Lg φ b f) : Lg (ψ.sep φ) b f := by
  obtain ⟨b1, m, c, h1, h2, h3⟩ := h
  exact ⟨b1, m, c, h1.r, h2.r, h3⟩
theorem mk27R {S : Am.Spec} (hargs : ∀ rs φ K, S rs φ K → rs.length ≤ 40) (h : ∀ rs φ (K : Out → Res → Prop), S rs φ K → awp Tryz.prog (glX gls [37]) m27 (endR K 4) (startSt rs φ)) : Snd Tryz.prog gls 27 S :=
  Snd.down <| snd_codeR Tryz.func27 m27_eq (by kernel_rfl) (by kernel_rfl) Tryz.ntmps27 hargs h
def S27r : Am.Spec := fun rs φ K => ∃ b f q qs, rs = [rP b, .agg qs] ∧ Lg φ b f ∧ IsQuo q qs ∧ ((linesF f q = [] → K (.one (.p (.val (.slice none 0 0)))) φ) ∧ (linesF f q ≠ [] → ∀ g c, K (.one (.p (.val (hdr g (linesF f q).length c)))) ((Res.own (hdr g (linesF f q).length c) 68 3 ((linesF f q).map linC)).sep φ)))
theorem d27r : Snd Tryz.prog gls 27 S27r := by
  refine mk27R (by rintro rs φ K ⟨b, f, q, qs, rfl, -⟩; simp) ?_
  rintro rs φ K ⟨b, f, q, qs, rfl, hLg, hQ, hKn, hKo⟩
  have hQ' := hQ
  obtain ⟨x, rfl, ⟨es, rfl, hb, hl⟩, hk1, hk2⟩ := hQ'
  have hb' : q.hard.length ≤ 1073741824 := hb
  simp -implicitDefEqProofs only [go_sem, Nat.reduceBEq, Nat.reduceAdd, m27, m27r0, m27r1, m27r2, List.drop_succ_cons, List.drop_zero, Nat.reduceLeDiff, true_and, List.length_cons, List.length_nil, Nat.ble, List.take_succ_cons, List.take_zero, Nat.zero_add, Nat.le_refl]
  refine callS_of (d41.up) ⟨q, _, rfl, hQ, ?_⟩
  simp -implicitDefEqProofs only [go_sem, Nat.reduceBEq, Nat.reduceAdd, List.drop_succ_cons, List.drop_zero, Nat.reduceLeDiff, true_and, List.length_cons, List.length_nil, Nat.ble, List.take_succ_cons, List.take_zero, Nat.zero_add, Nat.le_refl, decide_eq_true_eq, decide_eq_false_iff_not, Bool.not_eq_true', Bool.not_eq_false']
  refine ⟨fun h => ?_, fun h => ?_⟩
  · have e1 : linesF f q = [] := by rw [linesF, if_neg (by simpa using h)]
    exact hKn e1
  · have h0 : encQ q = 0 := by simpa using h
    have e1 : linesF f q = q.hard.map (linA f q) := by rw [linesF, if_pos h0]
    rw [e1] at hKn hKo
    simp -implicitDefEqProofs only [go_sem, Nat.reduceBEq, Nat.reduceAdd, m27r3, m27r4, List.drop_succ_cons, List.drop_zero, Nat.reduceLeDiff, true_and, List.length_cons, List.length_nil, Nat.ble, List.take_succ_cons, List.take_zero, Nat.zero_add, Nat.le_refl]
    intro hL
    have hml : ((q.hard.map (linA f q)).map linC).length = q.hard.length := by simp
    refine inv_loop (X := Nat × Value × Res) (fun x => x.1 ≤ q.hard.length ∧ ((x.1 = 0 ∧ x.2.1 = .slice none 0 0 ∧ x.2.2 = φ) ∨ (0 < x.1 ∧ ∃ g c, x.2.1 = hdr g x.1 c ∧ x.2.2 = (Res.own (hdr g x.1 c) 68 3 (((q.hard.map (linA f q)).take x.1).map linC)).sep φ)))
      (fun x => ⟨[(18, vI x.1), (17, vI q.hard.length), (16, .p (.sl es q.hard.length)), (5, .p (.val x.2.1)), (0, .p (.val (.pointer (some ⟨b, 0, none⟩)))), (3, .ref 3 0)], [(3, [.val (.string q.path), .val (.string q.name), .val (.int .i64 q.scope.1), .val (.int .i64 q.scope.2), .sl es q.hard.length])], [], x.2.2⟩) (fun x => q.hard.length - x.1) (0, .slice none 0 0, φ) ⟨Nat.zero_le _, .inl ⟨rfl, rfl, rfl⟩⟩ (Gho.sub ?_ ?_ trivial ?_ rfl) ?_
    · simp [subFr, go_sem, leAV]
    · simp [subB, go_sem]
    · simp [refsOK, go_sem]
    · rintro ⟨k, v, ρ⟩ Q' ⟨hk, hv⟩ hnx hq
      replace hk : k ≤ q.hard.length := hk
      replace hv : (k = 0 ∧ v = .slice none 0 0 ∧ ρ = φ) ∨ (0 < k ∧ ∃ g c, v = hdr g k c ∧ ρ = (Res.own (hdr g k c) 68 3 (((q.hard.map (linA f q)).take k).map linC)).sep φ) := hv
      have hLr : Lg ρ b f := by
        rcases hv with ⟨-, -, rfl⟩ | ⟨-, g, c, -, rfl⟩
        · exact hLg
        · exact hLg.r
      simp -implicitDefEqProofs only [go_sem, Nat.reduceBEq, Nat.reduceAdd, m27l9, m27r5, decide_eq_true_eq, decide_eq_false_iff_not]
      refine ⟨fun hlt => ?_, fun hge => ?_⟩
      · have hlt : k < q.hard.length := by omega
        obtain ⟨a, e, ha, he, rfl, hav⟩ := SlR.at hl hlt
        simp -implicitDefEqProofs only [go_sem, Nat.reduceBEq, Nat.reduceAdd, m27r6, m27r7, m27r8, Int.toNat_natCast, he, Option.some.injEq, exists_eq_left', List.drop_succ_cons, List.drop_zero, Nat.reduceLeDiff, true_and, List.length_cons, List.length_nil, Nat.ble, List.take_succ_cons, List.take_zero, Nat.zero_add, Nat.le_refl]
        refine ⟨by omega, by omega, callqA_of rfl d72.up ⟨b, f, q.path, q.scope, a.name, rfl, hLr, rfl, rfl⟩ ?_⟩
        simp -implicitDefEqProofs only [go_sem, Nat.reduceBEq, Nat.reduceAdd, List.drop_succ_cons, List.drop_zero, Nat.reduceLeDiff, true_and, List.length_cons, List.length_nil, Nat.ble, List.take_succ_cons, List.take_zero, Nat.zero_add, Nat.le_refl, allK, Nat.reduceMul]
        have htl : (((q.hard.map (linA f q)).take k).map linC).length = k := by simp; omega
        have hnew : ((q.hard.map (linA f q)).take (k + 1)).map linC = ((q.hard.map (linA f q)).take k).map linC ++ [linC (linA f q a)] := by
          rw [List.take_add_one, List.getElem?_map, ha]; simp
        refine ⟨by omega, by omega, primS_of (app_own Tryz.underlying64 info68 rfl rfl (by decide)) ⟨v, ((q.hard.map (linA f q)).take k).map linC, _, 1, φ, rfl, ?_, ?_, by simp, by simp only [Tryz.t68, htl]; omega, by simp only [LIM, htl]; omega, fun v' g1 _ => ?_⟩⟩
        · rcases hv with ⟨rfl, rfl, rfl⟩ | ⟨_, g, c, rfl, rfl⟩
          · exact .inr ⟨rfl, rfl, rfl⟩
          · exact .inl rfl
        · intro e he; simp at he; subst he; rfl
        · obtain ⟨g, c, rfl⟩ := g1 (by omega)
          simp -implicitDefEqProofs only [go_sem, Nat.reduceBEq, Nat.reduceAdd, List.drop_succ_cons, List.drop_zero, Nat.reduceLeDiff, true_and, List.length_cons, List.length_nil, Nat.ble, List.take_succ_cons, List.take_zero, Nat.zero_add, Nat.le_refl, next_i hlt hb']
          refine hnx _ (k + 1, hdr g (k + 1) c, (Res.own (hdr g (k + 1) c) 68 3 (((q.hard.map (linA f q)).take (k + 1)).map linC)).sep φ) ⟨by omega, .inr ⟨by omega, g, c, rfl, rfl⟩⟩ (by simp only; omega) ?_
          refine Gho.sub ?_ ?_ trivial ?_ ?_
          · simp [subFr, go_sem, leAV]
            omega
          · simp [subB, go_sem]
          · simp [refsOK, go_sem]
          · show _ = (Res.own _ _ _ _).sep φ
            rw [hnew, htl]; rfl
      · have hkk : k = q.hard.length := by omega
        subst hkk
        refine hq _ _ (by simp) ?_
        simp -implicitDefEqProofs only [go_sem, Nat.reduceBEq, Nat.reduceAdd, m27r10]
        rcases hv with ⟨h1, rfl, rfl⟩ | ⟨h1, g, c, rfl, rfl⟩
        · exact hKn (by rw [List.length_eq_zero_iff.1 h1]; rfl)
        · have h2 : (q.hard.map (linA f q)).length = q.hard.length := List.length_map ..
          have h3 := hKo (fun e => by rw [List.map_eq_nil_iff] at e; rw [e] at h1; simp at h1) g c
          rw [h2] at h3
          have h4 : (q.hard.map (linA f q)).take q.hard.length = q.hard.map (linA f q) := List.take_of_length_le (by omega)
          rw [h4]
          exact h3
def linSl (l : List Lin) : PV := .sl (l.map linC) l.length
def S27 : Am.Spec := fun rs φ K => ∃ b f q qs, rs = [rP b, .agg qs] ∧ Lg φ b f ∧ IsQuo q qs ∧ K (.one (.p (linSl (linesF f q)))) φ
theorem d27 : Snd Tryz.prog gls 27 S27 := Snd.post d27r (by
  rintro rs φ K ⟨b, f, q, qs, rfl, hLg, hQ, hK⟩
  refine ⟨b, f, q, qs, rfl, hLg, hQ, fun h => ⟨φ, .one (.p (.sl [] 0)), Melt.refl φ fun F v hv => nilSl_rep hv, by rw [h] at hK; exact hK⟩, fun h g c => ⟨φ, _, melt_out (r' := .one (.p (linSl (linesF f q)))) ?_, hK⟩⟩
  refine .inr ⟨rfl, ?_⟩
  unfold linSl
  rw [List.length_map])
end Go.Proofs.YtnjblinbdimkjaaGreatDoor

namespace Go.Proofs.YtnjblinbdimkjaaGreatDoor
open Go Go.Am
set_option linter.unusedSimpArgs false

/-! ### sameLines -/
def IsLin (a : Lin) (cs : List PV) : Prop := cs = linC a
theorem linSl_is {l : List Lin} (h : l.length ≤ BIG) : SlR IsLin l (linSl l) := by
  have hl : (l.map linC).length = l.length := List.length_map ..
  refine ⟨_, rfl, h, ?_⟩
  rw [← hl, List.take_length]
  have : ∀ l : List Lin, All2 IsLin l (l.map linC) := by
    intro l
    induction l with
    | nil => exact .nil
    | cons a l ih => exact .cons rfl ih
  exact this l
theorem same_upto {α : Type} {l m : List α} (hl : l.length = m.length) (h : ∀ i, i < l.length → l[i]? = m[i]?) : l = m := by
  apply List.ext_getElem?
  intro i
  by_cases hi : i < l.length
  · exact h i hi
  · rw [List.getElem?_eq_none (by omega), List.getElem?_eq_none (by omega)]
theorem lin_eq (a b : Lin) : (decide (a.res = b.res) && (decide (a.hard = b.hard) && (decide (a.used = b.used) && true))) = decide (a = b) := by
  obtain ⟨a1, a2, a3⟩ := a
  obtain ⟨b1, b2, b3⟩ := b
  by_cases h1 : a1 = b1 <;> by_cases h2 : a2 = b2 <;> by_cases h3 : a3 = b3 <;> simp [h1, h2, h3]
def S28 : Am.Spec := fun rs φ K => ∃ l m x y, rs = [.p x, .p y] ∧ SlR IsLin l x ∧ SlR IsLin m y ∧ K (.one (rB (decide (l = m)))) φ
theorem d28 : Snd Tryz.prog gls 28 S28 := by
  refine k28 (by rintro rs φ K ⟨l, m, x, y, rfl, -⟩; simp) ?_
  rintro rs φ K ⟨l, m, x, y, rfl, ⟨xs, rfl, hb, hl⟩, ⟨ys, rfl, hb2, hm⟩, hK⟩
  have hb' : l.length ≤ 1073741824 := hb
  simp -implicitDefEqProofs only [go_sem, Nat.reduceBEq, Nat.reduceAdd, c28, c28r0, c28r1, c28r2, List.drop_succ_cons, List.drop_zero, Nat.reduceLeDiff, true_and, List.length_cons, List.length_nil, Nat.ble, List.take_succ_cons, List.take_zero, Nat.zero_add, Nat.le_refl, decide_eq_true_eq, decide_eq_false_iff_not, Bool.not_eq_true', Bool.not_eq_false']
  refine fun hL1 hL2 => ⟨fun h => ?_, fun h => ?_⟩
  · refine K_bool hK ?_
    refine decide_eq_false fun (e : l = m) => ?_
    rw [e] at h
    simp at h
  · have hlen : l.length = m.length := by omega
    simp -implicitDefEqProofs only [go_sem, Nat.reduceBEq, Nat.reduceAdd, c28r3]
    refine inv_loop (X := Nat) (fun k => k ≤ l.length ∧ ∀ i, i < k → l[i]? = m[i]?) (fun k => ⟨[(5, vI k), (0, .p (.sl xs l.length)), (1, .p (.sl ys m.length))], [], [], φ⟩) (fun k => l.length - k) 0 ⟨Nat.zero_le _, fun i hi => by omega⟩ (Gho.sub ?_ trivial trivial ?_ rfl) ?_
    · simp [subFr, go_sem, leAV]
    · simp [refsOK]
    · rintro k Q' ⟨hk, hI⟩ hnx hq
      simp -implicitDefEqProofs only [go_sem, Nat.reduceBEq, Nat.reduceAdd, c28l8, c28r4, decide_eq_true_eq, decide_eq_false_iff_not]
      refine fun _ => ⟨fun hlt => ?_, fun hge => ?_⟩
      · have hlt : k < l.length := by omega
        obtain ⟨a, e, ha, he, rfl⟩ := SlR.at hl hlt
        obtain ⟨a', e', ha', he', rfl⟩ := SlR.at hm (k := k) (by omega)
        unfold linC at he he'
        simp -implicitDefEqProofs only [go_sem, Nat.reduceBEq, Nat.reduceAdd, c28r5, c28r6, c28r7, Int.toNat_natCast, he, he', Option.some.injEq, exists_eq_left', List.drop_succ_cons, List.drop_zero, Nat.reduceLeDiff, true_and, List.length_cons, List.length_nil, Nat.ble, List.take_succ_cons, List.take_zero, Nat.zero_add, Nat.le_refl, next_i hlt hb']
        simp only [lin_eq, Bool.not_eq_true', Bool.not_eq_false', decide_eq_true_eq, decide_eq_false_iff_not]
        refine ⟨by omega, by omega, by omega, by omega, fun hne => ?_, fun heq => ?_⟩
        · refine hq _ _ (by simp) ?_
          simp -implicitDefEqProofs only [go_sem, Nat.reduceBEq]
          refine K_bool hK ?_
          refine decide_eq_false fun (e : l = m) => hne ?_
          rw [e, ha'] at ha
          exact (Option.some.inj ha).symm
        · refine hnx _ (k + 1) ⟨by omega, fun i hi => ?_⟩ (by omega) (Gho.sub ?_ trivial trivial ?_ rfl)
          · by_cases e : i = k
            · subst e; rw [ha, ha', heq]
            · exact hI i (by omega)
          · simp [subFr, go_sem, leAV]
          · simp [refsOK]
      · have hkk : k = l.length := by omega
        subst hkk
        refine hq _ _ (by simp) ?_
        simp -implicitDefEqProofs only [go_sem, Nat.reduceBEq, Nat.reduceAdd, c28r9]
        refine K_bool hK ?_
        exact decide_eq_true (same_upto hlen hI)

/-- the same, the first row one's own -/
def S28r : Am.Spec := fun rs φ K => ∃ (b c : Nat) (l m : List Lin) (y : PV) (ψ : Res), rs = [.p (.val (hdr b (List.length l) c)), .p y] ∧ φ = (Res.own (hdr b (List.length l) c) 68 3 (l.map linC)).sep ψ ∧ List.length l ≤ BIG ∧ SlR IsLin m y ∧ K (.one (rB (decide (l = m)))) φ
theorem lin_load {b c : Nat} {l : List Lin} {ψ : Res} {k : Nat} {a : Lin} (ha : l[k]? = some a) : PhLoad ((Res.own (hdr b l.length c) 68 3 (l.map linC)).sep ψ) b (k * 3) 3 (linC a) := by
  have h := (load_own (b := b) (n := l.length) (c := c) (T := 68) (k := 3) (i := k) (j := 0) (m := 3) (es := l.map linC) (e := linC a) (by rw [List.getElem?_map, ha]; rfl) rfl (by omega)).l (φ := ψ)
  exact h
theorem d28r : Snd Tryz.prog gls 28 S28r := by
  refine k28 (by rintro rs φ K ⟨b, c, l, m, y, ψ, rfl, -⟩; simp) ?_
  rintro rs φ K ⟨b, c, l, m, y, ψ, rfl, rfl, hb, ⟨ys, rfl, hb2, hm⟩, hK⟩
  have hb' : l.length ≤ 1073741824 := hb
  simp -implicitDefEqProofs only [go_sem, Nat.reduceBEq, Nat.reduceAdd, c28, c28r0, c28r1, c28r2, List.drop_succ_cons, List.drop_zero, Nat.reduceLeDiff, true_and, List.length_cons, List.length_nil, Nat.ble, List.take_succ_cons, List.take_zero, Nat.zero_add, Nat.le_refl, decide_eq_true_eq, decide_eq_false_iff_not, Bool.not_eq_true', Bool.not_eq_false', hdr]
  refine fun hL2 => ⟨fun h => ?_, fun h => ?_⟩
  · refine K_bool hK ?_
    refine decide_eq_false fun (e : l = m) => ?_
    rw [e] at h
    simp at h
  · have hlen : l.length = m.length := by omega
    simp -implicitDefEqProofs only [go_sem, Nat.reduceBEq, Nat.reduceAdd, c28r3]
    refine inv_loop (X := Nat) (fun k => k ≤ l.length ∧ ∀ i, i < k → l[i]? = m[i]?) (fun k => ⟨[(5, vI k), (0, .p (.val (hdr b l.length c))), (1, .p (.sl ys m.length))], [], [], (Res.own (hdr b l.length c) 68 3 (l.map linC)).sep ψ⟩) (fun k => l.length - k) 0 ⟨Nat.zero_le _, fun i hi => by omega⟩ (Gho.sub ?_ trivial trivial ?_ rfl) ?_
    · simp [subFr, go_sem, leAV]
    · simp [refsOK]
    · rintro k Q' ⟨hk, hI⟩ hnx hq
      simp -implicitDefEqProofs only [go_sem, Nat.reduceBEq, Nat.reduceAdd, c28l8, c28r4, decide_eq_true_eq, decide_eq_false_iff_not, hdr]
      refine ⟨fun hlt => ?_, fun hge => ?_⟩
      · have hlt : k < l.length := by omega
        obtain ⟨a, ha⟩ : ∃ a, l[k]? = some a := ⟨l[k], by simp [hlt]⟩
        obtain ⟨a', e', ha', he', rfl⟩ := SlR.at hm (k := k) (by omega)
        unfold linC at he'
        simp -implicitDefEqProofs only [go_sem, Nat.reduceBEq, Nat.reduceAdd, c28r5, c28r6, c28r7, Int.toNat_natCast, he', Option.some.injEq, exists_eq_left', List.drop_succ_cons, List.drop_zero, Nat.reduceLeDiff, true_and, List.length_cons, List.length_nil, Nat.ble, List.take_succ_cons, List.take_zero, Nat.zero_add, Nat.le_refl, next_i hlt hb']
        refine ⟨by omega, by omega, _, lin_load ha, by omega, by omega, ?_⟩
        simp -implicitDefEqProofs only [go_sem, Nat.reduceBEq, Nat.reduceAdd, c28r5, c28r6, c28r7, linC, List.drop_succ_cons, List.drop_zero, Nat.reduceLeDiff, true_and, List.length_cons, List.length_nil, Nat.ble, List.take_succ_cons, List.take_zero, Nat.zero_add, Nat.le_refl, next_i hlt hb', lin_eq, Bool.not_eq_true', Bool.not_eq_false', decide_eq_true_eq, decide_eq_false_iff_not]
        refine ⟨fun hne => ?_, fun heq => ?_⟩
        · refine hq _ _ (by simp) ?_
          simp -implicitDefEqProofs only [go_sem, Nat.reduceBEq]
          refine K_bool hK ?_
          refine decide_eq_false fun (e : l = m) => hne ?_
          rw [e, ha'] at ha
          exact (Option.some.inj ha).symm
        · refine hnx _ (k + 1) ⟨by omega, fun i hi => ?_⟩ (by omega) (Gho.sub ?_ trivial trivial ?_ rfl)
          · by_cases e : i = k
            · subst e; rw [ha, ha', heq]
            · exact hI i (by omega)
          · simp [subFr, go_sem, leAV, hdr]
          · simp [refsOK]
      · have hkk : k = l.length := by omega
        subst hkk
        refine hq _ _ (by simp) ?_
        simp -implicitDefEqProofs only [go_sem, Nat.reduceBEq, Nat.reduceAdd, c28r9]
        refine K_bool hK ?_
        exact decide_eq_true (same_upto hlen hI)
end Go.Proofs.YtnjblinbdimkjaaGreatDoor

namespace Go.Proofs.YtnjblinbdimkjaaGreatDoor
open Go Go.Am
set_option linter.unusedSimpArgs false

/-! ### sameQuota, of a quota and its marked copy -/
def S29 : Am.Spec := fun rs φ K => ∃ q cs bs, rs = [.agg (hardC cs), .agg bs] ∧ IsQuo q cs ∧ IsQuo q bs ∧ K (.one (rB true)) φ
theorem d29 : Snd Tryz.prog gls 29 S29 := by
  refine k29 (by rintro rs φ K ⟨q, cs, bs, rfl, -⟩; simp) ?_
  rintro rs φ K ⟨q, cs, bs, rfl, ⟨x, rfl, ⟨xs, rfl, hb, hx⟩, hk1, hk2⟩, ⟨y, rfl, ⟨ys, rfl, hb2, hy⟩, -, -⟩, hK⟩
  have hb' : q.hard.length ≤ 1073741824 := hb
  have hxl : (xs.take q.hard.length).length = q.hard.length := hx.len.symm
  have hal : (xs.take q.hard.length ++ [markC]).length = q.hard.length + 1 := by rw [List.length_append, hxl]; rfl
  have hmk : (xs.take q.hard.length ++ [markC])[q.hard.length]? = some markC := by
    rw [List.getElem?_append_right (by omega), hxl]; simp
  simp -implicitDefEqProofs only [go_sem, Nat.reduceBEq, Nat.reduceAdd, c29, c29r0, c29r1, c29r2, List.drop_succ_cons, List.drop_zero, Nat.reduceLeDiff, true_and, List.length_cons, List.length_nil, Nat.ble, List.take_succ_cons, List.take_zero, Nat.zero_add, Nat.le_refl, hardC, markSl, decide_true, Bool.not_true, Bool.and_true]
  have hwr : IntKind.i64.wrap ((q.hard.length : Int) + 1) = (q.hard.length : Int) + 1 := Am.wrap_small (by omega) (by omega)
  have h2 := amt_len hx
  refine ⟨fun e he => ?_, by omega, by omega, by rw [hwr, hal]; omega, by omega, by rw [hwr]; omega, markC, by rw [Int.toNat_natCast]; exact hmk, rfl, ?_⟩
  · rcases List.mem_append.1 he with he | he
    · exact h2 e he
    · rw [List.mem_singleton] at he; subst he; rfl
  simp -implicitDefEqProofs only [go_sem, Nat.reduceBEq, Nat.reduceAdd, c29r3, List.drop_succ_cons, List.drop_zero, Nat.reduceLeDiff, true_and, List.length_cons, List.length_nil, Nat.ble, List.take_succ_cons, List.take_zero, Nat.zero_add, Nat.le_refl, markC, decide_true, Bool.not_true, Bool.and_true]
  refine inv_loop (X := Nat) (fun k => k ≤ q.hard.length) (fun k => ⟨[(5, vI k), (2, .ref 2 0), (3, .ref 3 0)], [(3, [.val (.string q.path), .val (.string q.name), .val (.int .i64 q.scope.1), .val (.int .i64 q.scope.2), .sl ys q.hard.length]), (2, [.val (.string q.path), .val (.string q.name), .val (.int .i64 q.scope.1), .val (.int .i64 q.scope.2), .sl (xs.take q.hard.length ++ [markC]) q.hard.length])], [], φ⟩) (fun k => q.hard.length - k) 0 (Nat.zero_le _) (Gho.sub ?_ ?_ trivial ?_ rfl) ?_
  · simp [subFr, go_sem, leAV]
  · simp [subB, go_sem, markC]
  · simp [refsOK, go_sem]
  · rintro k Q' hk hnx hq
    simp -implicitDefEqProofs only [go_sem, Nat.reduceBEq, Nat.reduceAdd, c29l8, c29r4, List.drop_succ_cons, List.drop_zero, Nat.reduceLeDiff, true_and, List.length_cons, List.length_nil, Nat.ble, List.take_succ_cons, List.take_zero, Nat.zero_add, Nat.le_refl, decide_eq_true_eq, decide_eq_false_iff_not]
    refine fun _ => ⟨fun hlt => ?_, fun hge => ?_⟩
    · have hlt : k < q.hard.length := by omega
      obtain ⟨a, e, ha, he, rfl, -⟩ := SlR.at hx hlt
      obtain ⟨a', e', ha', he', rfl, -⟩ := SlR.at hy hlt
      rw [ha] at ha'
      cases ha'
      have hAe : (xs.take q.hard.length ++ [markC])[k]? = some [.val (.string a.name), .val (.int .i64 a.value)] := by
        rw [List.getElem?_append_left (by omega), List.getElem?_take, if_pos hlt]; exact he
      simp -implicitDefEqProofs only [go_sem, Nat.reduceBEq, Nat.reduceAdd, c29r5, c29r6, c29r7, Int.toNat_natCast, hAe, he', Option.some.injEq, exists_eq_left', List.drop_succ_cons, List.drop_zero, Nat.reduceLeDiff, true_and, List.length_cons, List.length_nil, Nat.ble, List.take_succ_cons, List.take_zero, Nat.zero_add, Nat.le_refl, next_i hlt hb', decide_true, Bool.and_true, Bool.not_true]
      refine ⟨by omega, by omega, by omega, by omega, hnx _ (k + 1) (by omega) (by omega) (Gho.sub ?_ ?_ trivial ?_ rfl)⟩
      · simp [subFr, go_sem, leAV]
      · simp [subB, go_sem]
      · simp [refsOK, go_sem]
    · refine hq _ _ (by simp) ?_
      simp -implicitDefEqProofs only [go_sem, Nat.reduceBEq, Nat.reduceAdd, c29r9]
      exact hK
end Go.Proofs.YtnjblinbdimkjaaGreatDoor
