/-
  bursarlaw18.QuotaApart answers true and leaves its arguments as they were, for inputs of bulk at most 1048576 (the given second form; no other condition). Part 14 of 26 of the proof.
-/
import Derived.Test.YtnjblinbdimkjaaGreatDoorM13
namespace Go.Proofs.YtnjblinbdimkjaaGreatDoor
open Go Go.Am
-- 38 bursar/scope.Of (25 slots, 1 parameters)
def c38r0 : List AOper := [
  ⟨some 1, none, .box (.t 0)⟩,
  ⟨some 2, none, .mov (.k (.p (.val (.slice none 0 0))))⟩]
def c38r1 : List AOper := [
  ⟨some 3, none, .mov (.k (.p (.val (.slice none 0 0))))⟩]
def c38r2 : List AOper := [
  ⟨some 6, none, .mov (.k (.p (.val (.int .i64 0))))⟩]
def c38r3 : List AOper := [
  ⟨some 7, none, .bin .lss 3 (.t 6) (.k (.p (.val (.int .i64 6))))⟩]
def c38r4 : List AOper := [
  ⟨some 8, none, .mov (.t 6)⟩,
  ⟨some 4, none, .mov (.t 8)⟩]
def c38r5 : List AOper := [
  ⟨some 9, none, .mov (.t 4)⟩,
  ⟨some 10, none, .build [(.val (.int .i64 0)), (.val (.int .i64 0))] [(0, 1, (.t 9))]⟩,
  ⟨some 5, none, .alloc [(.val (.int .i64 0)), (.val (.int .i64 0))]⟩,
  ⟨none, none, .store 2 (.t 5) (.t 10)⟩]
def c38r6 : List AOper := [
  ⟨some 11, none, .mov (.t 4)⟩,
  ⟨some 12, none, .bin .eql 3 (.t 11) (.k (.p (.val (.int .i64 5))))⟩]
def c38r7 : List AOper := [
  ⟨some 13, none, .fad 3 (.t 1)⟩,
  ⟨some 14, none, .load false 1 (.t 13)⟩,
  ⟨some 15, none, .fad 1 (.t 5)⟩,
  ⟨none, none, .store 1 (.t 15) (.t 14)⟩]
def c38r8 : List AOper := [
  ⟨some 16, none, .load true 7 (.t 1)⟩,
  ⟨some 17, none, .load true 2 (.t 5)⟩,
  ⟨some 18, none, .call 33 [(.t 16), (.t 17)]⟩]
def c38r9 : List AOper := [
  ⟨some 19, none, .mov (.t 3)⟩,
  ⟨some 20, none, .load true 2 (.t 5)⟩,
  ⟨some 21, none, .bslice 60 2 1 [(.val (.int .i64 0)), (.val (.int .i64 0))] [(0, 2, (.t 20))]⟩,
  ⟨some 22, none, .app 60 2 16 (.t 19) (.t 21)⟩,
  ⟨some 3, none, .mov (.t 22)⟩]
def c38r10 : List AOper := [
  ⟨some 23, none, .bin .add 3 (.t 6) (.k (.p (.val (.int .i64 1))))⟩,
  ⟨some 6, none, .mov (.t 23)⟩]
def c38l11 : ACode := (.seq (.reg c38r3) (.seq (.cond (.t 7) .skip (.exit 0)) (.seq (.block 1 (.seq (.reg c38r4) (.seq (.reg c38r5) (.seq (.seq (.reg c38r6) (.cond (.t 12) (.reg c38r7) .skip)) (.seq (.reg c38r8) (.cond (.t 18) (.reg c38r9) .skip)))))) (.reg c38r10))))
def c38r12 : List AOper := [
  ⟨some 24, none, .mov (.t 3)⟩,
  ⟨some 2, none, .mov (.t 24)⟩]
def c38 : ACode := (.seq (.reg c38r0) (.seq (.reg c38r1) (.seq (.seq (.reg c38r2) (.block 0 (.loop c38l11))) (.seq (.reg c38r12) .ret))))
theorem c38_eq : (Tryz.f38.body).map (tr Tryz.prog gls 25) = some c38 := by kernel_rfl
theorem k38 {S : Am.Spec} (hargs : ∀ rs φ K, S rs φ K → rs.length ≤ 25) (h : Shows Tryz.prog gls c38 [.t 2] S) : Snd Tryz.prog gls 38 S :=
  snd_code Tryz.func38 c38_eq (by kernel_rfl) (by kernel_rfl) Tryz.ntmps38 hargs h
-- 46 bursar/bursarlaw18.plain (23 slots, 3 parameters)
def c46r0 : List AOper := [
  ⟨some 6, none, .alloc [(.val (.string ⟨#[]⟩)), (.val (.string ⟨#[]⟩)), (.sl [] 0), (.val (.int .i64 0)), (.val (.int .i64 0)), (.sl [] 0), (.val (.int .i64 0))]⟩]
def c46r1 : List AOper := [
  ⟨some 8, none, .mov (.t 0)⟩,
  ⟨some 9, none, .mov (.t 1)⟩,
  ⟨some 10, none, .build [(.val (.string ⟨#[]⟩)), (.sl [] 0), (.sl [] 0)] [(0, 1, (.k (.p (.val (.string ⟨#[109, 97, 105, 110]⟩)))))]⟩,
  ⟨some 11, none, .bslice 50 3 1 [(.val (.string ⟨#[]⟩)), (.sl [] 0), (.sl [] 0)] [(0, 3, (.t 10))]⟩,
  ⟨some 12, none, .build [(.val (.string ⟨#[]⟩)), (.val (.string ⟨#[]⟩)), (.sl [] 0), (.val (.int .i64 0)), (.val (.int .i64 0)), (.sl [] 0), (.val (.int .i64 0))] [(0, 1, (.t 8)), (1, 1, (.t 9)), (5, 1, (.t 11))]⟩,
  ⟨some 7, none, .alloc [(.val (.string ⟨#[]⟩)), (.val (.string ⟨#[]⟩)), (.sl [] 0), (.val (.int .i64 0)), (.val (.int .i64 0)), (.sl [] 0), (.val (.int .i64 0))]⟩,
  ⟨none, none, .store 7 (.t 7) (.t 12)⟩]
def c46r2 : List AOper := [
  ⟨some 13, none, .mov (.t 2)⟩,
  ⟨some 14, none, .bin .geq 2 (.t 13) (.k (.p (.val (.int .i64 0))))⟩]
def c46r3 : List AOper := [
  ⟨some 15, none, .fad 5 (.t 7)⟩,
  ⟨some 16, none, .load false 1 (.t 15)⟩,
  ⟨some 17, none, .mov (.t 2)⟩,
  ⟨some 18, none, .build [(.val (.string ⟨#[]⟩)), (.val (.int .i64 0))] [(0, 1, (.k (.p (.val (.string ⟨#[99, 112, 117]⟩))))), (1, 1, (.t 17))]⟩,
  ⟨some 19, none, .bslice 76 2 1 [(.val (.string ⟨#[]⟩)), (.val (.int .i64 0))] [(0, 2, (.t 18))]⟩,
  ⟨some 20, none, .iad 3 (.t 16) (.k (.p (.val (.int .i64 0))))⟩,
  ⟨some 21, none, .fad 1 (.t 20)⟩,
  ⟨none, none, .store 1 (.t 21) (.t 19)⟩]
def c46r4 : List AOper := [
  ⟨some 22, none, .load true 7 (.t 7)⟩,
  ⟨none, none, .store 7 (.t 6) (.t 22)⟩]
def c46 : ACode := (.seq (.reg c46r0) (.seq (.reg c46r1) (.seq (.seq (.reg c46r2) (.cond (.t 14) (.reg c46r3) .skip)) (.seq (.reg c46r4) .ret))))
theorem c46_eq : (Tryz.f46.body).map (tr Tryz.prog gls 23) = some c46 := by kernel_rfl
theorem k46 {S : Am.Spec} (hargs : ∀ rs φ K, S rs φ K → rs.length ≤ 23) (h : Shows Tryz.prog gls c46 [.c 6 true 7] S) : Snd Tryz.prog gls 46 S :=
  snd_code Tryz.func46 c46_eq (by kernel_rfl) (by kernel_rfl) Tryz.ntmps46 hargs h
-- 50 bursar/bursarlaw18.amounts (8 slots, 1 parameters)
def c50r0 : List AOper := [
  ⟨some 2, none, .mov (.k (.p (.val (.slice none 0 0))))⟩]
def c50r1 : List AOper := [
  ⟨some 3, none, .mov (.k (.p (.val (.slice none 0 0))))⟩]
def c50r2 : List AOper := [
  ⟨some 4, none, .mov (.t 3)⟩,
  ⟨some 5, none, .mov (.t 0)⟩,
  ⟨some 6, none, .app 76 2 24 (.t 4) (.t 5)⟩,
  ⟨some 3, none, .mov (.t 6)⟩]
def c50r3 : List AOper := [
  ⟨some 7, none, .mov (.t 3)⟩,
  ⟨some 2, none, .mov (.t 7)⟩]
def c50 : ACode := (.seq (.reg c50r0) (.seq (.reg c50r1) (.seq (.reg c50r2) (.seq (.reg c50r3) .ret))))
theorem c50_eq : (Tryz.f50.body).map (tr Tryz.prog gls 8) = some c50 := by kernel_rfl
theorem k50 {S : Am.Spec} (hargs : ∀ rs φ K, S rs φ K → rs.length ≤ 8) (h : Shows Tryz.prog gls c50 [.t 2] S) : Snd Tryz.prog gls 50 S :=
  snd_code Tryz.func50 c50_eq (by kernel_rfl) (by kernel_rfl) Tryz.ntmps50 hargs h
-- 15 bursar/bursarlaw18.copied (46 slots, 1 parameters)
def c15r0 : List AOper := [
  ⟨some 1, none, .box (.t 0)⟩,
  ⟨some 2, none, .alloc [(.val (.string ⟨#[]⟩)), (.val (.string ⟨#[]⟩)), (.sl [] 0), (.val (.int .i64 0)), (.val (.int .i64 0)), (.sl [] 0), (.val (.int .i64 0))]⟩]
def c15r1 : List AOper := [
  ⟨some 3, none, .mov (.k (.p (.val (.slice none 0 0))))⟩]
def c15r2 : List AOper := [
  ⟨some 6, none, .mov (.t 3)⟩,
  ⟨some 7, none, .fad 2 (.t 1)⟩,
  ⟨some 8, none, .load false 1 (.t 7)⟩,
  ⟨some 9, none, .app 180 2 32 (.t 6) (.t 8)⟩,
  ⟨some 3, none, .mov (.t 9)⟩]
def c15r3 : List AOper := [
  ⟨some 10, none, .mov (.t 3)⟩,
  ⟨some 11, none, .fad 2 (.t 1)⟩,
  ⟨none, none, .store 1 (.t 11) (.t 10)⟩]
def c15r4 : List AOper := [
  ⟨some 4, none, .mov (.k (.p (.val (.slice none 0 0))))⟩]
def c15r5 : List AOper := [
  ⟨some 5, none, .mov (.k (.p (.val (.int .i64 0))))⟩]
def c15r6 : List AOper := [
  ⟨some 12, none, .mov (.t 5)⟩,
  ⟨some 13, none, .fad 5 (.t 1)⟩,
  ⟨some 14, none, .load false 1 (.t 13)⟩,
  ⟨some 15, none, .len (.t 14)⟩,
  ⟨some 16, none, .bin .lss 3 (.t 12) (.t 15)⟩]
def c15r7 : List AOper := [
  ⟨some 19, none, .mov (.t 4)⟩,
  ⟨some 20, none, .fad 5 (.t 1)⟩,
  ⟨some 21, none, .load false 1 (.t 20)⟩,
  ⟨some 22, none, .mov (.t 5)⟩,
  ⟨some 23, none, .iad 3 (.t 21) (.t 22)⟩,
  ⟨some 24, none, .fad 0 (.t 23)⟩,
  ⟨some 25, none, .load false 1 (.t 24)⟩,
  ⟨some 26, none, .fad 5 (.t 1)⟩,
  ⟨some 27, none, .load false 1 (.t 26)⟩,
  ⟨some 28, none, .mov (.t 5)⟩,
  ⟨some 29, none, .iad 3 (.t 27) (.t 28)⟩,
  ⟨some 30, none, .fad 1 (.t 29)⟩,
  ⟨some 31, none, .load false 1 (.t 30)⟩,
  ⟨some 32, none, .callq 50 [(.t 31)]⟩,
  ⟨some 33, none, .fad 5 (.t 1)⟩,
  ⟨some 34, none, .load false 1 (.t 33)⟩,
  ⟨some 35, none, .mov (.t 5)⟩,
  ⟨some 36, none, .iad 3 (.t 34) (.t 35)⟩,
  ⟨some 37, none, .fad 2 (.t 36)⟩,
  ⟨some 38, none, .load false 1 (.t 37)⟩,
  ⟨some 39, none, .callq 50 [(.t 38)]⟩,
  ⟨some 40, none, .buildq [(.val (.string ⟨#[]⟩)), (.sl [] 0), (.sl [] 0)] [(0, 1, (.t 25)), (1, 1, (.t 32)), (2, 1, (.t 39))]⟩,
  ⟨some 41, none, .bslice 50 3 1 [(.val (.string ⟨#[]⟩)), (.sl [] 0), (.sl [] 0)] [(0, 3, (.t 40))]⟩,
  ⟨some 42, none, .app 50 3 64 (.t 19) (.t 41)⟩,
  ⟨some 4, none, .mov (.t 42)⟩]
def c15r8 : List AOper := [
  ⟨some 17, none, .mov (.t 5)⟩,
  ⟨some 18, none, .bin .add 3 (.t 17) (.k (.p (.val (.int .i64 1))))⟩,
  ⟨some 5, none, .mov (.t 18)⟩]
def c15l9 : ACode := (.seq (.seq (.reg c15r6) (.cond (.t 16) .skip (.exit 0))) (.seq (.block 1 (.reg c15r7)) (.reg c15r8)))
def c15r10 : List AOper := [
  ⟨some 43, none, .mov (.t 4)⟩,
  ⟨some 44, none, .fad 5 (.t 1)⟩,
  ⟨none, none, .store 1 (.t 44) (.t 43)⟩]
def c15r11 : List AOper := [
  ⟨some 45, none, .load true 7 (.t 1)⟩,
  ⟨none, none, .store 7 (.t 2) (.t 45)⟩]
def c15 : ACode := (.seq (.reg c15r0) (.seq (.reg c15r1) (.seq (.reg c15r2) (.seq (.reg c15r3) (.seq (.reg c15r4) (.seq (.seq (.reg c15r5) (.block 0 (.loop c15l9))) (.seq (.reg c15r10) (.seq (.reg c15r11) .ret))))))))
theorem c15_eq : (Tryz.f15.body).map (tr Tryz.prog gls 46) = some c15 := by kernel_rfl
theorem k15 {S : Am.Spec} (hargs : ∀ rs φ K, S rs φ K → rs.length ≤ 46) (h : Shows Tryz.prog gls c15 [.c 2 true 7] S) : Snd Tryz.prog gls 15 S :=
  snd_code Tryz.func15 c15_eq (by kernel_rfl) (by kernel_rfl) Tryz.ntmps15 hargs h
-- 26 bursar/bursarlaw18.hards (19 slots, 1 parameters)
def c26r0 : List AOper := [
  ⟨some 1, none, .box (.t 0)⟩,
  ⟨some 2, none, .alloc [(.val (.string ⟨#[]⟩)), (.val (.string ⟨#[]⟩)), (.val (.int .i64 0)), (.val (.int .i64 0)), (.sl [] 0)]⟩]
def c26r1 : List AOper := [
  ⟨some 3, none, .mov (.k (.p (.val (.slice none 0 0))))⟩]
def c26r2 : List AOper := [
  ⟨some 4, none, .mov (.t 3)⟩,
  ⟨some 5, none, .fad 4 (.t 1)⟩,
  ⟨some 6, none, .load false 1 (.t 5)⟩,
  ⟨some 7, none, .app 76 2 24 (.t 4) (.t 6)⟩,
  ⟨some 3, none, .mov (.t 7)⟩]
def c26r3 : List AOper := [
  ⟨some 8, none, .mov (.t 3)⟩,
  ⟨some 9, none, .build [(.val (.string ⟨#[]⟩)), (.val (.int .i64 0))] [(0, 1, (.k (.p (.val (.string ⟨#[109, 97, 114, 107]⟩))))), (1, 1, (.k (.p (.val (.int .i64 7)))))]⟩,
  ⟨some 10, none, .bslice 76 2 1 [(.val (.string ⟨#[]⟩)), (.val (.int .i64 0))] [(0, 2, (.t 9))]⟩,
  ⟨some 11, none, .app 76 2 24 (.t 8) (.t 10)⟩,
  ⟨some 3, none, .mov (.t 11)⟩]
def c26r4 : List AOper := [
  ⟨some 12, none, .mov (.t 3)⟩,
  ⟨some 13, none, .fad 4 (.t 1)⟩,
  ⟨some 14, none, .load false 1 (.t 13)⟩,
  ⟨some 15, none, .len (.t 14)⟩,
  ⟨some 16, none, .slc 2 (.t 12) none (some (.t 15))⟩,
  ⟨some 17, none, .fad 4 (.t 1)⟩,
  ⟨none, none, .store 1 (.t 17) (.t 16)⟩]
def c26r5 : List AOper := [
  ⟨some 18, none, .load true 5 (.t 1)⟩,
  ⟨none, none, .store 5 (.t 2) (.t 18)⟩]
def c26 : ACode := (.seq (.reg c26r0) (.seq (.reg c26r1) (.seq (.reg c26r2) (.seq (.reg c26r3) (.seq (.reg c26r4) (.seq (.reg c26r5) .ret))))))
theorem c26_eq : (Tryz.f26.body).map (tr Tryz.prog gls 19) = some c26 := by kernel_rfl
theorem k26 {S : Am.Spec} (hargs : ∀ rs φ K, S rs φ K → rs.length ≤ 19) (h : Shows Tryz.prog gls c26 [.c 2 true 5] S) : Snd Tryz.prog gls 26 S :=
  snd_code Tryz.func26 c26_eq (by kernel_rfl) (by kernel_rfl) Tryz.ntmps26 hargs h
-- 13 bursar/bursarlaw18.lined (40 slots, 1 parameters)
def c13r0 : List AOper := [
  ⟨some 2, none, .mov (.k (.p (.val (.slice none 0 0))))⟩]
def c13r1 : List AOper := [
  ⟨some 3, none, .mov (.k (.p (.val (.slice none 0 0))))⟩]
def c13r2 : List AOper := [
  ⟨some 4, none, .mov (.k (.p (.val (.int .i64 0))))⟩]
def c13r3 : List AOper := [
  ⟨some 8, none, .mov (.t 4)⟩,
  ⟨some 9, none, .mov (.t 0)⟩,
  ⟨some 10, none, .len (.t 9)⟩,
  ⟨some 11, none, .bin .lss 3 (.t 8) (.t 10)⟩]
def c13r4 : List AOper := [
  ⟨some 5, none, .mov (.k (.p (.val (.slice none 0 0))))⟩]
def c13r5 : List AOper := [
  ⟨some 6, none, .mov (.k (.p (.val (.int .i64 0))))⟩]
def c13r6 : List AOper := [
  ⟨some 14, none, .mov (.t 6)⟩,
  ⟨some 15, none, .mov (.t 0)⟩,
  ⟨some 16, none, .mov (.t 4)⟩,
  ⟨some 17, none, .iad 1 (.t 15) (.t 16)⟩,
  ⟨some 18, none, .load false 1 (.t 17)⟩,
  ⟨some 19, none, .len (.t 18)⟩,
  ⟨some 20, none, .bin .lss 3 (.t 14) (.t 19)⟩]
def c13r7 : List AOper := [
  ⟨some 23, none, .mov (.t 0)⟩,
  ⟨some 24, none, .mov (.t 4)⟩,
  ⟨some 25, none, .iad 1 (.t 23) (.t 24)⟩,
  ⟨some 26, none, .load false 1 (.t 25)⟩,
  ⟨some 27, none, .mov (.t 6)⟩,
  ⟨some 28, none, .iad 5 (.t 26) (.t 27)⟩,
  ⟨some 29, none, .load true 5 (.t 28)⟩,
  ⟨some 30, none, .call 26 [(.t 29)]⟩,
  ⟨some 7, none, .alloc [(.val (.string ⟨#[]⟩)), (.val (.string ⟨#[]⟩)), (.val (.int .i64 0)), (.val (.int .i64 0)), (.sl [] 0)]⟩,
  ⟨none, none, .store 5 (.t 7) (.t 30)⟩]
def c13r8 : List AOper := [
  ⟨some 31, none, .mov (.t 5)⟩,
  ⟨some 32, none, .load true 5 (.t 7)⟩,
  ⟨some 33, none, .bslice 62 5 1 [(.val (.string ⟨#[]⟩)), (.val (.string ⟨#[]⟩)), (.val (.int .i64 0)), (.val (.int .i64 0)), (.sl [] 0)] [(0, 5, (.t 32))]⟩,
  ⟨some 34, none, .app 62 5 72 (.t 31) (.t 33)⟩,
  ⟨some 5, none, .mov (.t 34)⟩]
def c13r9 : List AOper := [
  ⟨some 21, none, .mov (.t 6)⟩,
  ⟨some 22, none, .bin .add 3 (.t 21) (.k (.p (.val (.int .i64 1))))⟩,
  ⟨some 6, none, .mov (.t 22)⟩]
def c13l10 : ACode := (.seq (.seq (.reg c13r6) (.cond (.t 20) .skip (.exit 2))) (.seq (.block 3 (.seq (.reg c13r7) (.reg c13r8))) (.reg c13r9)))
def c13r11 : List AOper := [
  ⟨some 35, none, .mov (.t 3)⟩,
  ⟨some 36, none, .mov (.t 5)⟩,
  ⟨some 37, none, .bslice 71 1 1 [(.sl [] 0)] [(0, 1, (.t 36))]⟩,
  ⟨some 38, none, .app 71 1 24 (.t 35) (.t 37)⟩,
  ⟨some 3, none, .mov (.t 38)⟩]
def c13r12 : List AOper := [
  ⟨some 12, none, .mov (.t 4)⟩,
  ⟨some 13, none, .bin .add 3 (.t 12) (.k (.p (.val (.int .i64 1))))⟩,
  ⟨some 4, none, .mov (.t 13)⟩]
def c13l13 : ACode := (.seq (.seq (.reg c13r3) (.cond (.t 11) .skip (.exit 0))) (.seq (.block 1 (.seq (.reg c13r4) (.seq (.seq (.reg c13r5) (.block 2 (.loop c13l10))) (.reg c13r11)))) (.reg c13r12)))
def c13r14 : List AOper := [
  ⟨some 39, none, .mov (.t 3)⟩,
  ⟨some 2, none, .mov (.t 39)⟩]
def c13 : ACode := (.seq (.reg c13r0) (.seq (.reg c13r1) (.seq (.seq (.reg c13r2) (.block 0 (.loop c13l13))) (.seq (.reg c13r14) .ret))))
theorem c13_eq : (Tryz.f13.body).map (tr Tryz.prog gls 40) = some c13 := by kernel_rfl
theorem k13 {S : Am.Spec} (hargs : ∀ rs φ K, S rs φ K → rs.length ≤ 40) (h : Shows Tryz.prog gls c13 [.t 2] S) : Snd Tryz.prog gls 13 S :=
  snd_code Tryz.func13 c13_eq (by kernel_rfl) (by kernel_rfl) Tryz.ntmps13 hargs h
-- 14 bursar/bursarlaw18.olds (22 slots, 1 parameters)
def c14r0 : List AOper := [
  ⟨some 2, none, .mov (.k (.p (.val (.slice none 0 0))))⟩]
def c14r1 : List AOper := [
  ⟨some 3, none, .mov (.k (.p (.val (.slice none 0 0))))⟩]
def c14r2 : List AOper := [
  ⟨some 4, none, .mov (.k (.p (.val (.int .i64 0))))⟩]
def c14r3 : List AOper := [
  ⟨some 6, none, .mov (.t 4)⟩,
  ⟨some 7, none, .mov (.t 0)⟩,
  ⟨some 8, none, .len (.t 7)⟩,
  ⟨some 9, none, .bin .lss 3 (.t 6) (.t 8)⟩]
def c14r4 : List AOper := [
  ⟨some 12, none, .mov (.t 0)⟩,
  ⟨some 13, none, .mov (.t 4)⟩,
  ⟨some 14, none, .iad 7 (.t 12) (.t 13)⟩,
  ⟨some 15, none, .load true 7 (.t 14)⟩,
  ⟨some 16, none, .call 15 [(.t 15)]⟩,
  ⟨some 5, none, .alloc [(.val (.string ⟨#[]⟩)), (.val (.string ⟨#[]⟩)), (.sl [] 0), (.val (.int .i64 0)), (.val (.int .i64 0)), (.sl [] 0), (.val (.int .i64 0))]⟩,
  ⟨none, none, .store 7 (.t 5) (.t 16)⟩]
def c14r5 : List AOper := [
  ⟨some 17, none, .mov (.t 3)⟩,
  ⟨some 18, none, .load true 7 (.t 5)⟩,
  ⟨some 19, none, .bslice 27 7 1 [(.val (.string ⟨#[]⟩)), (.val (.string ⟨#[]⟩)), (.sl [] 0), (.val (.int .i64 0)), (.val (.int .i64 0)), (.sl [] 0), (.val (.int .i64 0))] [(0, 7, (.t 18))]⟩,
  ⟨some 20, none, .app 27 7 104 (.t 17) (.t 19)⟩,
  ⟨some 3, none, .mov (.t 20)⟩]
def c14r6 : List AOper := [
  ⟨some 10, none, .mov (.t 4)⟩,
  ⟨some 11, none, .bin .add 3 (.t 10) (.k (.p (.val (.int .i64 1))))⟩,
  ⟨some 4, none, .mov (.t 11)⟩]
def c14l7 : ACode := (.seq (.seq (.reg c14r3) (.cond (.t 9) .skip (.exit 0))) (.seq (.block 1 (.seq (.reg c14r4) (.reg c14r5))) (.reg c14r6)))
def c14r8 : List AOper := [
  ⟨some 21, none, .mov (.t 3)⟩,
  ⟨some 2, none, .mov (.t 21)⟩]
def c14 : ACode := (.seq (.reg c14r0) (.seq (.reg c14r1) (.seq (.seq (.reg c14r2) (.block 0 (.loop c14l7))) (.seq (.reg c14r8) .ret))))
theorem c14_eq : (Tryz.f14.body).map (tr Tryz.prog gls 22) = some c14 := by kernel_rfl
theorem k14 {S : Am.Spec} (hargs : ∀ rs φ K, S rs φ K → rs.length ≤ 22) (h : Shows Tryz.prog gls c14 [.t 2] S) : Snd Tryz.prog gls 14 S :=
  snd_code Tryz.func14 c14_eq (by kernel_rfl) (by kernel_rfl) Tryz.ntmps14 hargs h
end Go.Proofs.YtnjblinbdimkjaaGreatDoor

namespace Go.Proofs.YtnjblinbdimkjaaGreatDoor
open Go Go.Am
set_option linter.unusedSimpArgs false

/-- quota.of -/
def ofF : List Amt → ByteArray → Int
  | [], _ => 0
  | a :: l, n => if a.name = n then a.value else ofF l n
def S100 : Am.Spec := fun rs φ K => ∃ l x name, rs = [.p x, rS name] ∧ SlR IsAmt l x ∧ K (.one (rI (ofF l name))) φ
theorem d100 : Snd Tryz.prog gls 100 S100 := by
  refine k100 (by rintro rs φ K ⟨l, x, name, rfl, -⟩; simp) ?_
  rintro rs φ K ⟨l, x, name, rfl, ⟨es, rfl, hbig, hes⟩, hK⟩
  simp -implicitDefEqProofs only [go_sem, Nat.reduceBEq, Nat.reduceAdd, c100, c100r0, c100r1]
  intro hL
  refine range_loop rfl (by decide) l.length hL (fun _ => [(7, .p (.sl es l.length)), (1, vS name)]) (fun _ => []) (fun _ => []) (fun _ => φ) (fun k => ofF l name = ofF (l.drop k) name) (Gho.sub ?_ trivial trivial ?_ rfl) rfl ?_ ?_
  · simp [subFr, go_sem, leAV, headSt]
  · simp [refsOK, headSt]
  · intro k Q' hk hof hn hc hq
    obtain ⟨a, ha⟩ : ∃ a, l[k]? = some a := ⟨l[k], by simp [hk]⟩
    obtain ⟨e, he, hR, hin⟩ := hes.get ha
    subst hR
    rw [List.getElem?_take, if_pos hk] at he
    have hd : l.drop k = a :: l.drop (k + 1) := by
      rw [List.drop_eq_getElem_cons hk]; congr 1; simpa [hk] using ha
    rw [hd] at hof
    simp -implicitDefEqProofs only [go_sem, Nat.reduceBEq, Nat.reduceAdd, c100r3, c100r4, c100r5, Int.toNat_natCast, he, Option.some.injEq, exists_eq_left', Nat.reduceLeDiff, decide_eq_true_eq, decide_eq_false_iff_not]
    refine ⟨by omega, by omega, fun e => ?_, fun e => ?_⟩
    · refine hq _ _ (by simp) (by simp) ?_
      simp -implicitDefEqProofs only [go_sem, Nat.reduceBEq]
      rw [ofF, if_pos e] at hof
      rw [← hof]; exact hK
    · refine hn _ ?_ ⟨by simp only [go_sem, Nat.reduceBEq], Gho.sub ?_ trivial trivial ?_ rfl⟩
      · rw [ofF, if_neg e] at hof; exact hof
      · simp [subFr, go_sem, leAV, headSt]
      · simp [refsOK, headSt]
  · intro hof
    simp -implicitDefEqProofs only [go_sem, Nat.reduceBEq, c100r8]
    rw [List.drop_length] at hof
    rw [hof] at hK; exact hK

/-- amounts: a copy -/
def S50 : Am.Spec := fun rs φ K => ∃ es n, rs = [.p (.sl es n)] ∧ n ≤ BIG ∧ (∀ e ∈ es.take n, e.length = 2) ∧ n ≤ es.length ∧ K (.one (.p (.sl (es.take n) n))) φ
theorem d50 : Snd Tryz.prog gls 50 S50 := by
  refine k50 (by rintro rs φ K ⟨es, n, rfl, -⟩; simp) ?_
  rintro rs φ K ⟨es, n, rfl, hb, h2, hle, hK⟩
  simp only [BIG] at hb
  have hlen : (es.take n).length = n := by simp; omega
  simp -implicitDefEqProofs only [go_sem, Nat.reduceBEq, Nat.reduceAdd, c50, c50r0, c50r1, c50r2, c50r3, hlen]
  exact ⟨h2, by omega, by simp [LIM]; omega, hK⟩
end Go.Proofs.YtnjblinbdimkjaaGreatDoor

namespace Go.Proofs.YtnjblinbdimkjaaGreatDoor
open Go Go.Am
set_option linter.unusedSimpArgs false

/-- a fresh slice of the same elements -/
def trimSl : PV → PV
  | .sl es n => .sl (es.take n) n
  | x => x
def copyP : List PV → List PV
  | [nm, x, y] => [nm, trimSl x, trimSl y]
  | l => l
def copyC : List PV → List PV
  | [p, n, l, pr, d, .sl es m, v] => [p, n, trimSl l, pr, d, .sl ((es.take m).map copyP) m, v]
  | l => l

theorem SlR.trim {α : Type} {R : α → List PV → Prop} {l : List α} {x : PV} (h : SlR R l x) : SlR R l (trimSl x) := by
  obtain ⟨es, rfl, hb, h⟩ := h
  exact ⟨es.take l.length, rfl, hb, by rw [List.take_take, Nat.min_self]; exact h⟩
theorem copyP_is {p : Part} {cs : List PV} (h : IsPart p cs) : IsPart p (copyP cs) := by
  obtain ⟨x, y, rfl, hx, hy⟩ := h
  exact ⟨_, _, rfl, hx.trim, hy.trim⟩
theorem copyC_is {o : Obj} {cs : List PV} (h : IsObj o cs) : IsObj o (copyC cs) := by
  obtain ⟨x, y, rfl, hx, ⟨es, rfl, hb, hy⟩, rest⟩ := h
  refine ⟨_, _, rfl, hx.trim, ⟨_, rfl, hb, ?_⟩, rest⟩
  have hl : ((es.take o.parts.length).map copyP).length = o.parts.length := by rw [List.length_map, ← hy.len]
  rw [List.take_of_length_le (by omega)]
  exact All2.mapr hy fun a b => copyP_is

theorem amt_len {l : List Amt} {es : List (List PV)} (h : All2 IsAmt l es) : ∀ e ∈ es, e.length = 2 := by
  intro e he
  obtain ⟨i, hi⟩ := List.getElem?_of_mem he
  obtain ⟨a, _, ha, _⟩ := h.get' hi
  rw [ha]; rfl

def S15 : Am.Spec := fun rs φ K => ∃ o cs, rs = [.agg cs] ∧ IsObj o cs ∧ K (.one (.agg (copyC cs))) φ
theorem d15 : Snd Tryz.prog gls 15 S15 := by
  refine k15 (by rintro rs φ K ⟨o, cs, rfl, -⟩; simp) ?_
  rintro rs φ K ⟨o, cs, rfl, ⟨x, y, rfl, ⟨ls, rfl, hlb, hl⟩, ⟨es, rfl, hpb, hp⟩, -⟩, hK⟩
  have hll : (ls.take o.labels.length).length = o.labels.length := hl.len.symm
  have hpl : o.parts.length ≤ es.length := SlR.le hp
  simp only [BIG] at hlb hpb
  have hlk : ∀ e ∈ ls.take o.labels.length, e.length = 2 := by
    intro e he
    obtain ⟨i, hi⟩ := List.getElem?_of_mem he
    obtain ⟨a, _, ha⟩ := hl.get' hi
    rw [ha]; rfl
  simp -implicitDefEqProofs only [go_sem, Nat.reduceBEq, Nat.reduceAdd, c15, c15r0, c15r1, c15r2, c15r3, c15r4, c15r5, hll, Nat.reduceLeDiff, allK]
  refine ⟨hlk, by omega, by simp [LIM]; omega, ?_⟩
  have hpk : ∀ (k : Nat) e, (es.take o.parts.length)[k]? = some e → e.length = 3 := by
    intro k e he
    obtain ⟨a, _, ha⟩ := hp.get' he
    obtain ⟨_, _, rfl, _⟩ := ha
    rfl
  refine inv_loop (X := Nat) (fun k => k ≤ o.parts.length) (fun k => ⟨[(1, .ref 1 0), (2, .ref 2 0), (5, vI k), (4, .row 42 k)],
    [(2, [PV.val (.string ⟨#[]⟩), .val (.string ⟨#[]⟩), .sl [] 0, .val (.int .i64 0), .val (.int .i64 0), .sl [] 0, .val (.int .i64 0)]),
     (1, [.val (.string o.path), .val (.string o.name), .sl (ls.take o.labels.length) o.labels.length, .val (.int .i64 o.priority), .val (.int .i64 o.deadline), .sl es o.parts.length, .val (.int .i64 o.version)])],
    [(42, 50, 3, (es.take k).map copyP)], φ⟩) (fun k => o.parts.length - k) 0 (by omega) ?_ ?_
  · refine (Gho.mkRow (s := 4) (r := 42) (T := 50) (k := 3) ?_ rfl).trans (Gho.sub ?_ ?_ ?_ ?_ rfl)
    · simp only [go_sem, Nat.reduceBEq]
    · simp [subFr, go_sem, leAV, St.mkRow]
    · simp [subB, go_sem, St.mkRow]
    · simp [subB, go_sem, St.mkRow]
    · simp [refsOK, go_sem]
  · intro k Q' hk hn hq
    simp -implicitDefEqProofs only [go_sem, Nat.reduceBEq, Nat.reduceAdd, c15l9, c15r6, Nat.reduceLeDiff, true_and, decide_eq_true_eq, decide_eq_false_iff_not]
    intro hL
    refine ⟨fun hlt => ?_, fun hge => ?_⟩
    · have hlt : k < o.parts.length := by omega
      obtain ⟨e, he⟩ : ∃ e, es[k]? = some e := ⟨es[k]'(by omega), by simp⟩
      obtain ⟨p, _, x, y, rfl, ⟨e1, rfl, hb1, ha1⟩, ⟨e2, rfl, hb2, ha2⟩⟩ := hp.get' (i := k) (b := e) (by rw [List.getElem?_take, if_pos hlt]; exact he)
      have hcl : ((es.take k).map copyP).length = k := by simp; omega
      simp -implicitDefEqProofs only [go_sem, Nat.reduceBEq, Nat.reduceAdd, c15r7, Int.toNat_natCast, he, Option.some.injEq, exists_eq_left', Nat.reduceLeDiff]
      refine ⟨by omega, by omega, by omega, by omega, ?_⟩
      refine callqA_of rfl d50 ⟨e1, _, rfl, hb1, amt_len ha1, SlR.le ha1, rfl, rfl⟩ ?_
      simp -implicitDefEqProofs only [go_sem, Nat.reduceBEq, Nat.reduceAdd, Int.toNat_natCast, he, Option.some.injEq, exists_eq_left', Nat.reduceLeDiff]
      refine ⟨by omega, by omega, ?_⟩
      refine callqA_of rfl d50 ⟨e2, _, rfl, hb2, amt_len ha2, SlR.le ha2, rfl, rfl⟩ ?_
      simp -implicitDefEqProofs only [go_sem, Nat.reduceBEq, Nat.reduceAdd, Nat.reduceLeDiff, hcl, Nat.ble, Nat.reduceMul, c15r8]
      have hw : IntKind.i64.wrap ((k : Int) + 1) = ((k + 1 : Nat) : Int) := by rw [Am.wrap_small (by omega) (by omega)]; omega
      have htk : (es.take (k + 1)).map copyP = (es.take k).map copyP ++ [[.val (.string p.name), .sl (e1.take p.req.length) p.req.length, .sl (e2.take p.lim.length) p.lim.length]] := by
        rw [List.take_add_one, he]; simp [copyP, trimSl]
      refine ⟨by omega, by omega, by omega, by simp only [LIM]; omega, hn _ (k + 1) (by omega) (by omega) ?_⟩
      rw [hw, htk]
      refine Gho.sub ?_ ?_ ?_ ?_ rfl
      · simp [subFr, go_sem, leAV]
      · simp [subB, go_sem]
      · simp [subB, go_sem]
      · simp [refsOK, go_sem]
    · have hkk : k = o.parts.length := by omega
      subst hkk
      have hcl : ((es.take o.parts.length).map copyP).length = o.parts.length := by simp; omega
      refine hq _ _ (by simp) ?_
      simp -implicitDefEqProofs only [go_sem, Nat.reduceBEq, Nat.reduceAdd, c15r10, c15r11, hcl, Nat.reduceLeDiff]
      exact hK
end Go.Proofs.YtnjblinbdimkjaaGreatDoor

namespace Go.Proofs.YtnjblinbdimkjaaGreatDoor
open Go Go.Am
set_option linter.unusedSimpArgs false

/-- hards: a copy with a mark behind the end -/
def markC : List PV := [.val (.string ⟨#[109, 97, 114, 107]⟩), .val (.int .i64 7)]
def markSl : PV → PV
  | .sl es n => .sl (es.take n ++ [markC]) n
  | x => x
def hardC : List PV → List PV
  | [p, n, k, a, x] => [p, n, k, a, markSl x]
  | l => l
theorem markSl_is {l : List Amt} {x : PV} (h : SlR IsAmt l x) : SlR IsAmt l (markSl x) := by
  obtain ⟨es, rfl, hb, h⟩ := h
  have hl : (es.take l.length).length = l.length := h.len.symm
  refine ⟨_, rfl, hb, ?_⟩
  rw [List.take_append_of_le_length (by omega), List.take_take, Nat.min_self]
  exact h
theorem hardC_is {q : Quo} {cs : List PV} (h : IsQuo q cs) : IsQuo q (hardC cs) := by
  obtain ⟨x, rfl, hx, rest⟩ := h
  exact ⟨_, rfl, markSl_is hx, rest⟩
def S26 : Am.Spec := fun rs φ K => ∃ q cs, rs = [.agg cs] ∧ IsQuo q cs ∧ K (.one (.agg (hardC cs))) φ
theorem d26 : Snd Tryz.prog gls 26 S26 := by
  refine k26 (by rintro rs φ K ⟨o, cs, rfl, -⟩; simp) ?_
  rintro rs φ K ⟨q, cs, rfl, ⟨x, rfl, ⟨es, rfl, hb, hes⟩, hk, ha⟩, hK⟩
  have hl : (es.take q.hard.length).length = q.hard.length := hes.len.symm
  have h2 := amt_len hes
  simp only [BIG] at hb
  simp -implicitDefEqProofs only [go_sem, Nat.reduceBEq, Nat.reduceAdd, c26, c26r0, c26r1, c26r2, c26r3, c26r4, c26r5, hl, Nat.reduceLeDiff, allK, Nat.ble, Nat.reduceMul, List.length_append, Int.toNat_zero, Int.toNat_natCast, Int.sub_zero]
  have h3 : ∀ e ∈ [[PV.val (Value.string ⟨#[109, 97, 114, 107]⟩), PV.val (Value.int IntKind.i64 7)]], e.length = 2 := by intro e he; simp at he; subst he; rfl
  refine ⟨h2, by omega, by simp only [LIM]; omega, by omega, by omega, h3, by omega, by simp only [LIM]; omega, fun _ => ⟨fun e he => ?_, by omega, by omega, by omega, ?_⟩⟩
  · rcases List.mem_append.1 he with he | he
    · exact h2 e he
    · exact h3 e he
  · exact hK
end Go.Proofs.YtnjblinbdimkjaaGreatDoor

namespace Go.Proofs.YtnjblinbdimkjaaGreatDoor
open Go Go.Am
set_option linter.unusedSimpArgs false

theorem obj_len {o : Obj} {cs : List PV} (h : IsObj o cs) : cs.length = 7 := by obtain ⟨x, y, rfl, -⟩ := h; rfl
theorem copyC_len {o : Obj} {cs : List PV} (h : IsObj o cs) : (copyC cs).length = 7 := obj_len (copyC_is h)
theorem next_i {k n : Nat} (hk : k < n) (hn : n ≤ 1073741824) : IntKind.i64.wrap ((k : Int) + 1) = ((k + 1 : Nat) : Int) := by rw [Am.wrap_small (by omega) (by omega)]; omega

/-- olds: every one a copy -/
def S14 : Am.Spec := fun rs φ K => ∃ l es, rs = [.p (.sl es (List.length l))] ∧ List.length l ≤ BIG ∧ All2 IsObj l (es.take (List.length l)) ∧ K (.one (.p (.sl ((es.take (List.length l)).map copyC) (List.length l)))) φ
theorem d14 : Snd Tryz.prog gls 14 S14 := by
  refine k14 (by rintro rs φ K ⟨l, es, rfl, -⟩; simp) ?_
  rintro rs φ K ⟨l, es, rfl, hb, hes, hK⟩
  have hle : l.length ≤ es.length := SlR.le hes
  simp only [BIG] at hb
  simp -implicitDefEqProofs only [go_sem, Nat.reduceBEq, Nat.reduceAdd, c14, c14r0, c14r1, c14r2]
  refine inv_loop (X := Nat) (fun k => k ≤ l.length) (fun k => ⟨[(0, .p (.sl es l.length)), (4, vI k), (3, .row 20 k)], [], [(20, 27, 7, (es.take k).map copyC)], φ⟩) (fun k => l.length - k) 0 (by omega) ?_ ?_
  · refine (Gho.mkRow (s := 3) (r := 20) (T := 27) (k := 7) ?_ rfl).trans (Gho.sub ?_ ?_ ?_ ?_ rfl)
    · simp only [go_sem, Nat.reduceBEq]
    · simp [subFr, go_sem, leAV, St.mkRow]
    · simp [subB]
    · simp [subB, go_sem, St.mkRow]
    · simp [refsOK, go_sem]
  · intro k Q' hk hn hq
    simp -implicitDefEqProofs only [go_sem, Nat.reduceBEq, Nat.reduceAdd, c14l7, c14r3, decide_eq_true_eq, decide_eq_false_iff_not]
    intro hL
    have hcl : ((es.take k).map copyC).length = k := by simp; omega
    refine ⟨fun hlt => ?_, fun hge => ?_⟩
    · have hlt : k < l.length := by omega
      obtain ⟨e, he⟩ : ∃ e, es[k]? = some e := ⟨es[k]'(by omega), by simp⟩
      obtain ⟨o, _, ho⟩ := hes.get' (i := k) (b := e) (by rw [List.getElem?_take, if_pos hlt]; exact he)
      have h7 := obj_len ho
      have h7' := copyC_len ho
      have htk7 : e.take 7 = e := List.take_of_length_le (by omega)
      have htk7' : (copyC e).take 7 = copyC e := List.take_of_length_le (by omega)
      simp -implicitDefEqProofs only [go_sem, Nat.reduceBEq, Nat.reduceAdd, c14r4, c14r5, c14r6, Int.toNat_natCast, he, Option.some.injEq, exists_eq_left', Nat.reduceLeDiff, h7, Nat.le_refl, htk7]
      refine ⟨by omega, by omega, callS_of d15 ⟨o, e, rfl, ho, ?_⟩⟩
      simp -implicitDefEqProofs only [go_sem, Nat.reduceBEq, Nat.reduceAdd, Nat.reduceLeDiff, h7', Nat.le_refl, List.drop_of_length_le, htk7', hcl, Nat.ble, Nat.reduceMul]
      have htk : (es.take (k + 1)).map copyC = (es.take k).map copyC ++ [copyC e] := by rw [List.take_add_one, he]; simp
      refine ⟨by omega, by omega, by omega, by simp only [LIM]; omega, hn _ (k + 1) (by omega) (by omega) ?_⟩
      rw [next_i hlt hb, htk]
      refine Gho.sub ?_ ?_ ?_ ?_ rfl
      · simp [subFr, go_sem, leAV]
      · simp [subB]
      · simp [subB, go_sem]
      · simp [refsOK, go_sem]
    · have hkk : k = l.length := by omega
      subst hkk
      refine hq _ _ (by simp) ?_
      simp -implicitDefEqProofs only [go_sem, Nat.reduceBEq, Nat.reduceAdd, c14r8, hcl, Nat.reduceLeDiff]
      exact hK
end Go.Proofs.YtnjblinbdimkjaaGreatDoor

namespace Go.Proofs.YtnjblinbdimkjaaGreatDoor
open Go Go.Am
set_option linter.unusedSimpArgs false

theorem quo_len {q : Quo} {cs : List PV} (h : IsQuo q cs) : cs.length = 5 := by obtain ⟨x, rfl, -⟩ := h; rfl
theorem hardC_len {q : Quo} {cs : List PV} (h : IsQuo q cs) : (hardC cs).length = 5 := quo_len (hardC_is h)

/-- a row of quotas -/
def IsRow (l : List Quo) (cs : List PV) : Prop := ∃ x, cs = [x] ∧ SlR IsQuo l x
def rowC : List PV → List PV
  | [.sl es n] => [.sl ((es.take n).map hardC) n]
  | l => l
/-- lined: every quota a copy with its mark -/
def S13 : Am.Spec := fun rs φ K => ∃ l es, rs = [.p (.sl es (List.length l))] ∧ List.length l ≤ BIG ∧ All2 IsRow l (es.take (List.length l)) ∧ K (.one (.p (.sl ((es.take (List.length l)).map rowC) (List.length l)))) φ
theorem d13 : Snd Tryz.prog gls 13 S13 := by
  refine k13 (by rintro rs φ K ⟨l, es, rfl, -⟩; simp) ?_
  rintro rs φ K ⟨l, es, rfl, hb, hes, hK⟩
  have hle : l.length ≤ es.length := SlR.le hes
  simp only [BIG] at hb
  simp -implicitDefEqProofs only [go_sem, Nat.reduceBEq, Nat.reduceAdd, c13, c13r0, c13r1, c13r2]
  refine inv_loop (X := Nat) (fun k => k ≤ l.length) (fun k => ⟨[(0, .p (.sl es l.length)), (4, vI k), (3, .row 38 k)], [], [(38, 71, 1, (es.take k).map rowC)], φ⟩) (fun k => l.length - k) 0 (by omega) ?_ ?_
  · refine (Gho.mkRow (s := 3) (r := 38) (T := 71) (k := 1) ?_ rfl).trans (Gho.sub ?_ ?_ ?_ ?_ rfl)
    · simp only [go_sem, Nat.reduceBEq]
    · simp [subFr, go_sem, leAV, St.mkRow]
    · simp [subB]
    · simp [subB, go_sem, St.mkRow]
    · simp [refsOK, go_sem]
  · intro k Q' hk hn hq
    simp -implicitDefEqProofs only [go_sem, Nat.reduceBEq, Nat.reduceAdd, c13l13, c13r3, decide_eq_true_eq, decide_eq_false_iff_not]
    intro hL
    have hcl : ((es.take k).map rowC).length = k := by simp; omega
    refine ⟨fun hlt => ?_, fun hge => ?_⟩
    · have hlt : k < l.length := by omega
      obtain ⟨e, he⟩ : ∃ e, es[k]? = some e := ⟨es[k]'(by omega), by simp⟩
      obtain ⟨qs, _, _, rfl, ⟨is, rfl, hqb, hqs⟩⟩ := hes.get' (i := k) (b := e) (by rw [List.getElem?_take, if_pos hlt]; exact he)
      have hqle : qs.length ≤ is.length := SlR.le hqs
      simp only [BIG] at hqb
      simp -implicitDefEqProofs only [go_sem, Nat.reduceBEq, Nat.reduceAdd, c13r4, c13r5]
      refine inv_loop (X := Nat) (fun j => j ≤ qs.length) (fun j => ⟨[(0, .p (.sl es l.length)), (4, vI k), (3, .row 38 k), (6, vI j), (5, .row 34 j)], [], [(38, 71, 1, (es.take k).map rowC), (34, 62, 5, (is.take j).map hardC)], φ⟩) (fun j => qs.length - j) 0 (by omega) ?_ ?_
      · refine (Gho.mkRow (s := 5) (r := 34) (T := 62) (k := 5) ?_ ?_).trans (Gho.sub ?_ ?_ ?_ ?_ rfl)
        · simp only [go_sem, Nat.reduceBEq]
        · simp only [go_sem, Nat.reduceBEq]
        · simp [subFr, go_sem, leAV, St.mkRow]
        · simp [subB]
        · simp [subB, go_sem, St.mkRow]
        · simp [refsOK, go_sem]
      · intro j Q2 hj hn2 hq2
        simp -implicitDefEqProofs only [go_sem, Nat.reduceBEq, Nat.reduceAdd, c13l10, c13r6, Int.toNat_natCast, he, Option.some.injEq, exists_eq_left', decide_eq_true_eq, decide_eq_false_iff_not]
        refine ⟨by omega, by omega, fun hL2 => ⟨fun hlt2 => ?_, fun hge2 => ?_⟩⟩
        · have hlt2 : j < qs.length := by omega
          obtain ⟨i, hi⟩ : ∃ i, is[j]? = some i := ⟨is[j]'(by omega), by simp⟩
          obtain ⟨q, _, hqq⟩ := hqs.get' (i := j) (b := i) (by rw [List.getElem?_take, if_pos hlt2]; exact hi)
          have h5 := quo_len hqq
          have h5' := hardC_len hqq
          have htk5 : i.take 5 = i := List.take_of_length_le (by omega)
          have htk5' : (hardC i).take 5 = hardC i := List.take_of_length_le (by omega)
          have hcl2 : ((is.take j).map hardC).length = j := by simp; omega
          simp -implicitDefEqProofs only [go_sem, Nat.reduceBEq, Nat.reduceAdd, c13r7, c13r8, c13r9, Int.toNat_natCast, he, hi, Option.some.injEq, exists_eq_left', Nat.reduceLeDiff, h5, Nat.le_refl, htk5]
          refine ⟨by omega, by omega, by omega, by omega, callS_of d26 ⟨q, i, rfl, hqq, ?_⟩⟩
          simp -implicitDefEqProofs only [go_sem, Nat.reduceBEq, Nat.reduceAdd, Nat.reduceLeDiff, h5', Nat.le_refl, List.drop_of_length_le, htk5', hcl2, Nat.ble, Nat.reduceMul]
          have htk : (is.take (j + 1)).map hardC = (is.take j).map hardC ++ [hardC i] := by rw [List.take_add_one, hi]; simp
          refine ⟨by omega, by omega, by omega, by simp only [LIM]; omega, hn2 _ (j + 1) (by omega) (by omega) ?_⟩
          rw [next_i hlt2 hqb, htk]
          refine Gho.sub ?_ ?_ ?_ ?_ rfl
          · simp [subFr, go_sem, leAV]
          · simp [subB]
          · simp [subB, go_sem]
          · simp [refsOK, go_sem]
        · have hjj : j = qs.length := by omega
          subst hjj
          have hcl2 : ((is.take qs.length).map hardC).length = qs.length := by simp; omega
          refine hq2 _ _ (by simp) ?_
          simp -implicitDefEqProofs only [go_sem, Nat.reduceBEq, Nat.reduceAdd, c13r11, c13r12, hcl2, hcl, Nat.reduceLeDiff, Nat.ble, Nat.reduceMul]
          have htk : (es.take (k + 1)).map rowC = (es.take k).map rowC ++ [[.sl ((is.take qs.length).map hardC) qs.length]] := by rw [List.take_add_one, he]; simp [rowC]
          refine ⟨by omega, by omega, by omega, by simp only [LIM]; omega, hn _ (k + 1) (by omega) (by omega) ?_⟩
          rw [next_i hlt hb, htk]
          refine Gho.sub ?_ ?_ ?_ ?_ rfl
          · simp [subFr, go_sem, leAV]
          · simp [subB]
          · simp [subB, go_sem]
          · simp [refsOK, go_sem]
    · have hkk : k = l.length := by omega
      subst hkk
      refine hq _ _ (by simp) ?_
      simp -implicitDefEqProofs only [go_sem, Nat.reduceBEq, Nat.reduceAdd, c13r14, hcl, Nat.reduceLeDiff]
      exact hK
end Go.Proofs.YtnjblinbdimkjaaGreatDoor

namespace Go.Proofs.YtnjblinbdimkjaaGreatDoor
open Go Go.Am
set_option linter.unusedSimpArgs false

/-- a ≤ b -/
def leqB (a b : ByteArray) : Bool := Op.bytesLess a.toList b.toList || decide (a = b)
/-- rising names -/
def namedF (nm : Nat → ByteArray) (n : Nat) : Bool := (List.range n).all fun i => decide (i = 0) || !leqB (nm i) (nm (i - 1))
def S163 : Am.Spec := fun rs φ K => ∃ (n : Nat) (f : FuncId) (caps : List PV) (nm : Nat → ByteArray), rs = [rI n, .p (.fn f caps)] ∧ n ≤ BIG ∧ (∀ i : Nat, i < n → Brings Tryz.prog gls f caps [rI i] φ (.one (rS (nm i)))) ∧ K (.one (rB (namedF nm n))) φ
theorem d163 : Snd Tryz.prog gls 163 S163 := by
  refine k163 (by rintro rs φ K ⟨n, f, caps, nm, rfl, -⟩; simp) ?_
  rintro rs φ K ⟨n, f, caps, nm, rfl, hb, hf, hK⟩
  simp only [BIG] at hb
  simp -implicitDefEqProofs only [go_sem, Nat.reduceBEq, Nat.reduceAdd, c163, c163r0, c163r1]
  refine inv_loop (X := Nat) (fun k => 1 ≤ k ∧ (1 ≤ n → k ≤ n) ∧ ∀ i, i < k → (decide (i = 0) || !leqB (nm i) (nm (i - 1))) = true) (fun k => ⟨[(0, vI n), (1, .p (.fn f caps)), (5, vI k)], [], [], φ⟩) (fun k => n + 1 - k) 1 ⟨by omega, fun h => h, fun i hi => (by simp [show i = 0 by omega])⟩ ?_ ?_
  · refine Gho.sub ?_ ?_ ?_ ?_ rfl
    · simp [subFr, go_sem, leAV]
    · simp [subB]
    · simp [subB]
    · simp [refsOK]
  · rintro k Q' ⟨h1, h2, hall⟩ hn hq
    simp -implicitDefEqProofs only [go_sem, Nat.reduceBEq, Nat.reduceAdd, c163l6, c163r2, decide_eq_true_eq, decide_eq_false_iff_not]
    refine ⟨fun hlt => ?_, fun hge => ?_⟩
    · have hlt : k < n := by omega
      simp -implicitDefEqProofs only [go_sem, Nat.reduceBEq, Nat.reduceAdd, c163r3, c163r4, c163r5]
      refine Brings.go (hf k hlt) ?_
      have hw : IntKind.i64.wrap ((k : Int) - 1) = ((k - 1 : Nat) : Int) := by rw [Am.wrap_small (by omega) (by omega)]; omega
      simp -implicitDefEqProofs only [go_sem, Nat.reduceBEq, Nat.reduceAdd, hw]
      refine Brings.go (hf (k - 1) (by omega)) ?_
      simp -implicitDefEqProofs only [go_sem, Nat.reduceBEq, Nat.reduceAdd]
      refine ⟨fun h => ?_, fun h => ?_⟩
      · refine hq _ _ (by simp) ?_
        simp -implicitDefEqProofs only [go_sem, Nat.reduceBEq]
        refine K_bool hK ?_
        unfold namedF
        rw [List.all_eq_false]
        refine ⟨k, by simpa using hlt, ?_⟩
        have : leqB (nm k) (nm (k - 1)) = true := h
        simp [this]; omega
      · refine hn _ (k + 1) ⟨by omega, fun _ => by omega, fun i hi => ?_⟩ (by omega) ?_
        · by_cases e : i = k
          · subst e
            have : leqB (nm i) (nm (i - 1)) = false := h
            simp [this]
          · exact hall i (by omega)
        · rw [next_i hlt hb]
          refine Gho.sub ?_ ?_ ?_ ?_ rfl
          · simp [subFr, go_sem, leAV]
          · simp [subB]
          · simp [subB]
          · simp [refsOK]
    · refine hq _ _ (by simp) ?_
      simp -implicitDefEqProofs only [go_sem, Nat.reduceBEq, c163r7]
      refine K_bool hK ?_
      unfold namedF
      rw [List.all_eq_true]
      intro i hi
      rw [List.mem_range] at hi
      exact hall i (by omega)
end Go.Proofs.YtnjblinbdimkjaaGreatDoor
