/-
  bursarlaw18.QuotaApart answers true and leaves its arguments as they were, for inputs of bulk at most 1048576 (the given second form; no other condition). Part 20 of 26 of the proof.
-/
import Derived.Test.YtnjblinbdimkjaaGreatDoorM19
namespace Go.Proofs.YtnjblinbdimkjaaGreatDoor
open Go Go.Am
-- 24 bursar/scope.Uses (104 slots, 1 parameters)
def c24r0 : List AOper := [
  ⟨some 1, none, .box (.t 0)⟩,
  ⟨some 2, none, .mov (.k (.p (.val (.slice none 0 0))))⟩,
  ⟨some 3, none, .mov (.k (.p (.val (.int .i64 0))))⟩]
def c24r1 : List AOper := [
  ⟨some 4, none, .mov (.k (.p (.val (.slice none 0 0))))⟩]
def c24r2 : List AOper := [
  ⟨some 19, none, .fad 5 (.t 1)⟩,
  ⟨some 20, none, .load false 1 (.t 19)⟩,
  ⟨some 21, none, .len (.t 20)⟩,
  ⟨some 22, none, .mov (.k (.p (.val (.int .i64 0))))⟩]
def c24r3 : List AOper := [
  ⟨some 23, none, .bin .lss 3 (.t 22) (.t 21)⟩]
def c24r4 : List AOper := [
  ⟨some 24, none, .iad 3 (.t 20) (.t 22)⟩,
  ⟨some 25, none, .load true 3 (.t 24)⟩,
  ⟨some 6, none, .alloc [(.val (.string ⟨#[]⟩)), (.sl [] 0), (.sl [] 0)]⟩,
  ⟨none, none, .store 3 (.t 6) (.t 25)⟩]
def c24r5 : List AOper := [
  ⟨some 26, none, .fad 1 (.t 6)⟩,
  ⟨some 27, none, .load false 1 (.t 26)⟩,
  ⟨some 28, none, .len (.t 27)⟩,
  ⟨some 29, none, .mov (.k (.p (.val (.int .i64 0))))⟩]
def c24r6 : List AOper := [
  ⟨some 30, none, .bin .lss 3 (.t 29) (.t 28)⟩]
def c24r7 : List AOper := [
  ⟨some 31, none, .iad 2 (.t 27) (.t 29)⟩,
  ⟨some 32, none, .load true 2 (.t 31)⟩,
  ⟨some 8, none, .alloc [(.val (.string ⟨#[]⟩)), (.val (.int .i64 0))]⟩,
  ⟨none, none, .store 2 (.t 8) (.t 32)⟩]
def c24r8 : List AOper := [
  ⟨some 33, none, .mov (.t 4)⟩,
  ⟨some 34, none, .fad 0 (.t 8)⟩,
  ⟨some 35, none, .load false 1 (.t 34)⟩,
  ⟨some 36, none, .bin .add 9 (.k (.p (.val (.string ⟨#[114, 101, 113, 117, 101, 115, 116, 115, 46]⟩)))) (.t 35)⟩,
  ⟨some 37, none, .fad 1 (.t 8)⟩,
  ⟨some 38, none, .load false 1 (.t 37)⟩,
  ⟨some 39, none, .build [(.val (.string ⟨#[]⟩)), (.val (.int .i64 0))] [(0, 1, (.t 36)), (1, 1, (.t 38))]⟩,
  ⟨some 40, none, .bslice 76 2 1 [(.val (.string ⟨#[]⟩)), (.val (.int .i64 0))] [(0, 2, (.t 39))]⟩,
  ⟨some 41, none, .app 76 2 24 (.t 33) (.t 40)⟩,
  ⟨some 4, none, .mov (.t 41)⟩]
def c24r9 : List AOper := [
  ⟨some 42, none, .bin .add 3 (.t 29) (.k (.p (.val (.int .i64 1))))⟩,
  ⟨some 29, none, .mov (.t 42)⟩]
def c24l10 : ACode := (.seq (.reg c24r6) (.seq (.cond (.t 30) .skip (.exit 2)) (.seq (.block 3 (.seq (.reg c24r7) (.reg c24r8))) (.reg c24r9))))
def c24r11 : List AOper := [
  ⟨some 43, none, .fad 2 (.t 6)⟩,
  ⟨some 44, none, .load false 1 (.t 43)⟩,
  ⟨some 45, none, .len (.t 44)⟩,
  ⟨some 46, none, .mov (.k (.p (.val (.int .i64 0))))⟩]
def c24r12 : List AOper := [
  ⟨some 47, none, .bin .lss 3 (.t 46) (.t 45)⟩]
def c24r13 : List AOper := [
  ⟨some 48, none, .iad 2 (.t 44) (.t 46)⟩,
  ⟨some 49, none, .load true 2 (.t 48)⟩,
  ⟨some 10, none, .alloc [(.val (.string ⟨#[]⟩)), (.val (.int .i64 0))]⟩,
  ⟨none, none, .store 2 (.t 10) (.t 49)⟩]
def c24r14 : List AOper := [
  ⟨some 50, none, .mov (.t 4)⟩,
  ⟨some 51, none, .fad 0 (.t 10)⟩,
  ⟨some 52, none, .load false 1 (.t 51)⟩,
  ⟨some 53, none, .bin .add 9 (.k (.p (.val (.string ⟨#[108, 105, 109, 105, 116, 115, 46]⟩)))) (.t 52)⟩,
  ⟨some 54, none, .fad 1 (.t 10)⟩,
  ⟨some 55, none, .load false 1 (.t 54)⟩,
  ⟨some 56, none, .build [(.val (.string ⟨#[]⟩)), (.val (.int .i64 0))] [(0, 1, (.t 53)), (1, 1, (.t 55))]⟩,
  ⟨some 57, none, .bslice 76 2 1 [(.val (.string ⟨#[]⟩)), (.val (.int .i64 0))] [(0, 2, (.t 56))]⟩,
  ⟨some 58, none, .app 76 2 24 (.t 50) (.t 57)⟩,
  ⟨some 4, none, .mov (.t 58)⟩]
def c24r15 : List AOper := [
  ⟨some 59, none, .bin .add 3 (.t 46) (.k (.p (.val (.int .i64 1))))⟩,
  ⟨some 46, none, .mov (.t 59)⟩]
def c24l16 : ACode := (.seq (.reg c24r12) (.seq (.cond (.t 47) .skip (.exit 4)) (.seq (.block 5 (.seq (.reg c24r13) (.reg c24r14))) (.reg c24r15))))
def c24r17 : List AOper := [
  ⟨some 60, none, .bin .add 3 (.t 22) (.k (.p (.val (.int .i64 1))))⟩,
  ⟨some 22, none, .mov (.t 60)⟩]
def c24l18 : ACode := (.seq (.reg c24r3) (.seq (.cond (.t 23) .skip (.exit 0)) (.seq (.block 1 (.seq (.reg c24r4) (.seq (.seq (.reg c24r5) (.block 2 (.loop c24l10))) (.seq (.reg c24r11) (.block 4 (.loop c24l16)))))) (.reg c24r17))))
def c24r19 : List AOper := [
  ⟨some 61, none, .mov (.t 4)⟩,
  ⟨some 62, none, .call 63 [(.t 61), (.k (.p (.fn 64 [])))]⟩]
def c24r20 : List AOper := [
  ⟨some 2, none, .mov (.k (.p (.val (.slice none 0 0))))⟩,
  ⟨some 3, none, .mov (.k (.p (.val (.int .i64 1))))⟩]
def c24r21 : List AOper := [
  ⟨some 63, none, .prim (.makeMap 114 none) []⟩,
  ⟨none, none, .prim (.insert 114 (.tmp 63) (.const (.string ⟨#[99, 111, 117, 110, 116]⟩)) (.const (.int .i64 1000))) [(.t 63), (.k (.p (.val (.string ⟨#[99, 111, 117, 110, 116]⟩)))), (.k (.p (.val (.int .i64 1000))))]⟩,
  ⟨some 64, none, .mov (.t 63)⟩,
  ⟨some 11, none, .mov (.t 64)⟩]
def c24r22 : List AOper := [
  ⟨some 65, none, .mov (.t 4)⟩,
  ⟨some 66, none, .len (.t 65)⟩,
  ⟨some 67, none, .mov (.k (.p (.val (.int .i64 0))))⟩]
def c24r23 : List AOper := [
  ⟨some 68, none, .bin .lss 3 (.t 67) (.t 66)⟩]
def c24r24 : List AOper := [
  ⟨some 69, none, .iad 2 (.t 65) (.t 67)⟩,
  ⟨some 70, none, .load true 2 (.t 69)⟩,
  ⟨some 13, none, .alloc [(.val (.string ⟨#[]⟩)), (.val (.int .i64 0))]⟩,
  ⟨none, none, .store 2 (.t 13) (.t 70)⟩]
def c24r25 : List AOper := [
  ⟨some 72, none, .mov (.t 11)⟩,
  ⟨some 73, none, .fad 0 (.t 13)⟩,
  ⟨some 74, none, .load false 1 (.t 73)⟩,
  ⟨some 75, none, .prim (.lookup 114 (.tmp 72) (.tmp 74) false) [(.t 72), (.t 74)]⟩,
  ⟨some 76, none, .fad 1 (.t 13)⟩,
  ⟨some 77, none, .load false 1 (.t 76)⟩,
  ⟨some 78, none, .call 65 [(.t 75), (.t 77)]⟩,
  ⟨some 71, none, .mov (.t 78)⟩,
  ⟨some 79, none, .ext (.t 71) 0⟩,
  ⟨some 80, none, .ext (.t 71) 1⟩,
  ⟨some 14, none, .mov (.t 79)⟩,
  ⟨some 15, none, .mov (.t 80)⟩]
def c24r26 : List AOper := [
  ⟨some 81, none, .mov (.t 15)⟩,
  ⟨some 82, none, .bin .neq 38 (.t 81) (.k (.p (.val (.int .i64 0))))⟩]
def c24r27 : List AOper := [
  ⟨some 2, none, .mov (.k (.p (.val (.slice none 0 0))))⟩,
  ⟨some 3, none, .mov (.k (.p (.val (.int .i64 7))))⟩]
def c24r28 : List AOper := [
  ⟨some 83, none, .mov (.t 11)⟩,
  ⟨some 84, none, .fad 0 (.t 13)⟩,
  ⟨some 85, none, .load false 1 (.t 84)⟩,
  ⟨some 86, none, .mov (.t 14)⟩,
  ⟨none, none, .prim (.mapUpdate 114 (.tmp 83) (.tmp 85) (.tmp 86)) [(.t 83), (.t 85), (.t 86)]⟩]
def c24r29 : List AOper := [
  ⟨some 87, none, .bin .add 3 (.t 67) (.k (.p (.val (.int .i64 1))))⟩,
  ⟨some 67, none, .mov (.t 87)⟩]
def c24l30 : ACode := (.seq (.reg c24r23) (.seq (.cond (.t 68) .skip (.exit 6)) (.seq (.block 7 (.seq (.reg c24r24) (.seq (.reg c24r25) (.seq (.seq (.reg c24r26) (.cond (.t 82) (.seq (.reg c24r27) .ret) .skip)) (.reg c24r28))))) (.reg c24r29))))
def c24r31 : List AOper := [
  ⟨some 16, none, .mov (.k (.p (.val (.slice none 0 0))))⟩]
def c24r32 : List AOper := [
  ⟨some 88, none, .mov (.t 11)⟩,
  ⟨some 89, none, .prim (.range 114 (.tmp 88)) [(.t 88)]⟩]
def c24r33 : List AOper := [
  ⟨some 90, none, .prim (.next (.tmp 89) false) [(.t 89)]⟩,
  ⟨some 91, none, .ext (.t 90) 0⟩]
def c24r34 : List AOper := [
  ⟨some 92, none, .prim (.entry (.tmp 89)) [(.t 89)]⟩,
  ⟨some 93, none, .ext (.t 92) 0⟩,
  ⟨some 94, none, .ext (.t 92) 1⟩,
  ⟨some 17, none, .mov (.t 93)⟩,
  ⟨some 18, none, .mov (.t 94)⟩]
def c24r35 : List AOper := [
  ⟨some 95, none, .mov (.t 16)⟩,
  ⟨some 96, none, .mov (.t 17)⟩,
  ⟨some 97, none, .mov (.t 18)⟩,
  ⟨some 98, none, .build [(.val (.string ⟨#[]⟩)), (.val (.int .i64 0))] [(0, 1, (.t 96)), (1, 1, (.t 97))]⟩,
  ⟨some 99, none, .bslice 76 2 1 [(.val (.string ⟨#[]⟩)), (.val (.int .i64 0))] [(0, 2, (.t 98))]⟩,
  ⟨some 100, none, .prim (.call { callee := .builtin .append, args := #[(.tmp 95), (.tmp 99)], argTypes := #[47, 47] }) [(.t 95), (.t 99)]⟩,
  ⟨some 16, none, .mov (.t 100)⟩]
def c24l36 : ACode := (.seq (.reg c24r33) (.seq (.cond (.t 91) .skip (.exit 8)) (.block 9 (.seq (.reg c24r34) (.reg c24r35)))))
def c24r37 : List AOper := [
  ⟨some 101, none, .mov (.t 16)⟩,
  ⟨some 102, none, .call 66 [(.t 101), (.k (.p (.fn 67 [])))]⟩]
def c24r38 : List AOper := [
  ⟨some 103, none, .mov (.t 16)⟩,
  ⟨some 2, none, .mov (.t 103)⟩,
  ⟨some 3, none, .mov (.k (.p (.val (.int .i64 0))))⟩]
def c24 : ACode := (.seq (.reg c24r0) (.seq (.reg c24r1) (.seq (.seq (.reg c24r2) (.block 0 (.loop c24l18))) (.seq (.seq (.reg c24r19) (.cond (.t 62) (.seq (.reg c24r20) .ret) .skip)) (.seq (.reg c24r21) (.seq (.seq (.reg c24r22) (.block 6 (.loop c24l30))) (.seq (.reg c24r31) (.seq (.seq (.reg c24r32) (.block 8 (.loop c24l36))) (.seq (.reg c24r37) (.seq (.reg c24r38) .ret))))))))))
theorem c24_eq : (Tryz.f24.body).map (tr Tryz.prog (glX gls [100]) 104) = some c24 := by kernel_rfl
theorem k24 {S : Am.Spec} (hargs : ∀ rs φ K, S rs φ K → rs.length ≤ 104) (h : Shows Tryz.prog (glX gls [100]) c24 [.t 2, .t 3] S) : Snd Tryz.prog gls 24 S :=
  Snd.down <| snd_code Tryz.func24 c24_eq (by kernel_rfl) (by kernel_rfl) Tryz.ntmps24 hargs h
-- 75 bursar/quant.Of (21 slots, 2 parameters)
def c75r0 : List AOper := [
  ⟨some 4, none, .mov (.k (.p (.val (.int .i64 0))))⟩,
  ⟨some 5, none, .mov (.k (.p (.val (.bool false))))⟩]
def c75r1 : List AOper := [
  ⟨some 8, none, .mov (.t 0)⟩,
  ⟨some 9, none, .len (.t 8)⟩,
  ⟨some 10, none, .mov (.k (.p (.val (.int .i64 0))))⟩]
def c75r2 : List AOper := [
  ⟨some 11, none, .bin .lss 3 (.t 10) (.t 9)⟩]
def c75r3 : List AOper := [
  ⟨some 12, none, .iad 2 (.t 8) (.t 10)⟩,
  ⟨some 13, none, .load true 2 (.t 12)⟩,
  ⟨some 7, none, .alloc [(.val (.string ⟨#[]⟩)), (.val (.int .i64 0))]⟩,
  ⟨none, none, .store 2 (.t 7) (.t 13)⟩]
def c75r4 : List AOper := [
  ⟨some 14, none, .fad 0 (.t 7)⟩,
  ⟨some 15, none, .load false 1 (.t 14)⟩,
  ⟨some 16, none, .mov (.t 1)⟩,
  ⟨some 17, none, .bin .eql 9 (.t 15) (.t 16)⟩]
def c75r5 : List AOper := [
  ⟨some 18, none, .fad 1 (.t 7)⟩,
  ⟨some 19, none, .load false 1 (.t 18)⟩,
  ⟨some 4, none, .mov (.t 19)⟩,
  ⟨some 5, none, .mov (.k (.p (.val (.bool true))))⟩]
def c75r6 : List AOper := [
  ⟨some 20, none, .bin .add 3 (.t 10) (.k (.p (.val (.int .i64 1))))⟩,
  ⟨some 10, none, .mov (.t 20)⟩]
def c75l7 : ACode := (.seq (.reg c75r2) (.seq (.cond (.t 11) .skip (.exit 0)) (.seq (.block 1 (.seq (.reg c75r3) (.seq (.reg c75r4) (.cond (.t 17) (.seq (.reg c75r5) .ret) .skip)))) (.reg c75r6))))
def c75r8 : List AOper := [
  ⟨some 4, none, .mov (.k (.p (.val (.int .i64 0))))⟩,
  ⟨some 5, none, .mov (.k (.p (.val (.bool false))))⟩]
def c75 : ACode := (.seq (.reg c75r0) (.seq (.seq (.reg c75r1) (.block 0 (.loop c75l7))) (.seq (.reg c75r8) .ret)))
theorem c75_eq : (Tryz.f75.body).map (tr Tryz.prog gls 21) = some c75 := by kernel_rfl
theorem k75 {S : Am.Spec} (hargs : ∀ rs φ K, S rs φ K → rs.length ≤ 21) (h : Shows Tryz.prog gls c75 [.t 4, .t 5] S) : Snd Tryz.prog gls 75 S :=
  snd_code Tryz.func75 c75_eq (by kernel_rfl) (by kernel_rfl) Tryz.ntmps75 hargs h
-- 88 bursar/ledger.shares (66 slots, 1 parameters)
def c88r0 : List AOper := [
  ⟨some 1, none, .box (.t 0)⟩,
  ⟨some 2, none, .mov (.k (.p (.val (.slice none 0 0))))⟩,
  ⟨some 3, none, .mov (.k (.p (.val (.slice none 0 0))))⟩,
  ⟨some 4, none, .mov (.k (.p (.val (.int .i64 0))))⟩]
def c88r1 : List AOper := [
  ⟨some 16, none, .fad 0 (.t 1)⟩,
  ⟨some 17, none, .load false 1 (.t 16)⟩,
  ⟨some 18, none, .call 138 [(.t 17)]⟩,
  ⟨some 15, none, .mov (.t 18)⟩,
  ⟨some 19, none, .ext (.t 15) 0⟩,
  ⟨some 20, none, .ext (.t 15) 1⟩,
  ⟨some 5, none, .mov (.t 19)⟩,
  ⟨some 6, none, .mov (.t 20)⟩]
def c88r2 : List AOper := [
  ⟨some 21, none, .mov (.t 6)⟩,
  ⟨some 22, none, .bin .neq 38 (.t 21) (.k (.p (.val (.int .i64 0))))⟩]
def c88r3 : List AOper := [
  ⟨some 2, none, .mov (.k (.p (.val (.slice none 0 0))))⟩,
  ⟨some 3, none, .mov (.k (.p (.val (.slice none 0 0))))⟩,
  ⟨some 4, none, .mov (.k (.p (.val (.int .i64 41))))⟩]
def c88r4 : List AOper := [
  ⟨some 24, none, .load true 7 (.t 1)⟩,
  ⟨some 25, none, .call 24 [(.t 24)]⟩,
  ⟨some 23, none, .mov (.t 25)⟩,
  ⟨some 26, none, .ext (.t 23) 0⟩,
  ⟨some 27, none, .ext (.t 23) 1⟩,
  ⟨some 7, none, .mov (.t 26)⟩,
  ⟨some 6, none, .mov (.t 27)⟩]
def c88r5 : List AOper := [
  ⟨some 28, none, .mov (.t 6)⟩,
  ⟨some 29, none, .bin .neq 38 (.t 28) (.k (.p (.val (.int .i64 0))))⟩]
def c88r6 : List AOper := [
  ⟨some 30, none, .mov (.t 6)⟩,
  ⟨some 2, none, .mov (.k (.p (.val (.slice none 0 0))))⟩,
  ⟨some 3, none, .mov (.k (.p (.val (.slice none 0 0))))⟩,
  ⟨some 4, none, .mov (.t 30)⟩]
def c88r7 : List AOper := [
  ⟨some 8, none, .mov (.k (.p (.val (.slice none 0 0))))⟩]
def c88r8 : List AOper := [
  ⟨some 31, none, .mov (.t 5)⟩,
  ⟨some 32, none, .len (.t 31)⟩,
  ⟨some 33, none, .mov (.k (.p (.val (.int .i64 0))))⟩]
def c88r9 : List AOper := [
  ⟨some 34, none, .bin .lss 3 (.t 33) (.t 32)⟩]
def c88r10 : List AOper := [
  ⟨some 35, none, .iad 1 (.t 31) (.t 33)⟩,
  ⟨some 36, none, .load false 1 (.t 35)⟩,
  ⟨some 10, none, .mov (.t 36)⟩]
def c88r11 : List AOper := [
  ⟨some 37, none, .load true 7 (.t 1)⟩,
  ⟨some 38, none, .call 38 [(.t 37)]⟩,
  ⟨some 39, none, .len (.t 38)⟩,
  ⟨some 40, none, .mov (.k (.p (.val (.int .i64 0))))⟩]
def c88r12 : List AOper := [
  ⟨some 41, none, .bin .lss 3 (.t 40) (.t 39)⟩]
def c88r13 : List AOper := [
  ⟨some 42, none, .iad 2 (.t 38) (.t 40)⟩,
  ⟨some 43, none, .load true 2 (.t 42)⟩,
  ⟨some 12, none, .alloc [(.val (.int .i64 0)), (.val (.int .i64 0))]⟩,
  ⟨none, none, .store 2 (.t 12) (.t 43)⟩]
def c88r14 : List AOper := [
  ⟨some 44, none, .mov (.t 7)⟩,
  ⟨some 45, none, .len (.t 44)⟩,
  ⟨some 46, none, .mov (.k (.p (.val (.int .i64 0))))⟩]
def c88r15 : List AOper := [
  ⟨some 47, none, .bin .lss 3 (.t 46) (.t 45)⟩]
def c88r16 : List AOper := [
  ⟨some 48, none, .iad 2 (.t 44) (.t 46)⟩,
  ⟨some 49, none, .load true 2 (.t 48)⟩,
  ⟨some 14, none, .alloc [(.val (.string ⟨#[]⟩)), (.val (.int .i64 0))]⟩,
  ⟨none, none, .store 2 (.t 14) (.t 49)⟩]
def c88r17 : List AOper := [
  ⟨some 50, none, .mov (.t 8)⟩,
  ⟨some 51, none, .mov (.t 10)⟩,
  ⟨some 52, none, .load true 2 (.t 12)⟩,
  ⟨some 53, none, .fad 0 (.t 14)⟩,
  ⟨some 54, none, .load false 1 (.t 53)⟩,
  ⟨some 55, none, .build [(.val (.string ⟨#[]⟩)), (.val (.int .i64 0)), (.val (.int .i64 0)), (.val (.string ⟨#[]⟩))] [(0, 1, (.t 51)), (1, 2, (.t 52)), (3, 1, (.t 54))]⟩,
  ⟨some 56, none, .fad 1 (.t 14)⟩,
  ⟨some 57, none, .load false 1 (.t 56)⟩,
  ⟨some 58, none, .build [(.val (.string ⟨#[]⟩)), (.val (.int .i64 0)), (.val (.int .i64 0)), (.val (.string ⟨#[]⟩)), (.val (.int .i64 0))] [(0, 4, (.t 55)), (4, 1, (.t 57))]⟩,
  ⟨some 59, none, .bslice 200 5 1 [(.val (.string ⟨#[]⟩)), (.val (.int .i64 0)), (.val (.int .i64 0)), (.val (.string ⟨#[]⟩)), (.val (.int .i64 0))] [(0, 5, (.t 58))]⟩,
  ⟨some 60, none, .app 200 5 56 (.t 50) (.t 59)⟩,
  ⟨some 8, none, .mov (.t 60)⟩]
def c88r18 : List AOper := [
  ⟨some 61, none, .bin .add 3 (.t 46) (.k (.p (.val (.int .i64 1))))⟩,
  ⟨some 46, none, .mov (.t 61)⟩]
def c88l19 : ACode := (.seq (.reg c88r15) (.seq (.cond (.t 47) .skip (.exit 4)) (.seq (.block 5 (.seq (.reg c88r16) (.reg c88r17))) (.reg c88r18))))
def c88r20 : List AOper := [
  ⟨some 62, none, .bin .add 3 (.t 40) (.k (.p (.val (.int .i64 1))))⟩,
  ⟨some 40, none, .mov (.t 62)⟩]
def c88l21 : ACode := (.seq (.reg c88r12) (.seq (.cond (.t 41) .skip (.exit 2)) (.seq (.block 3 (.seq (.reg c88r13) (.seq (.reg c88r14) (.block 4 (.loop c88l19))))) (.reg c88r20))))
def c88r22 : List AOper := [
  ⟨some 63, none, .bin .add 3 (.t 33) (.k (.p (.val (.int .i64 1))))⟩,
  ⟨some 33, none, .mov (.t 63)⟩]
def c88l23 : ACode := (.seq (.reg c88r9) (.seq (.cond (.t 34) .skip (.exit 0)) (.seq (.block 1 (.seq (.reg c88r10) (.seq (.reg c88r11) (.block 2 (.loop c88l21))))) (.reg c88r22))))
def c88r24 : List AOper := [
  ⟨some 64, none, .mov (.t 5)⟩,
  ⟨some 65, none, .mov (.t 8)⟩,
  ⟨some 2, none, .mov (.t 64)⟩,
  ⟨some 3, none, .mov (.t 65)⟩,
  ⟨some 4, none, .mov (.k (.p (.val (.int .i64 0))))⟩]
def c88 : ACode := (.seq (.reg c88r0) (.seq (.reg c88r1) (.seq (.seq (.reg c88r2) (.cond (.t 22) (.seq (.reg c88r3) .ret) .skip)) (.seq (.reg c88r4) (.seq (.seq (.reg c88r5) (.cond (.t 29) (.seq (.reg c88r6) .ret) .skip)) (.seq (.reg c88r7) (.seq (.seq (.reg c88r8) (.block 0 (.loop c88l23))) (.seq (.reg c88r24) .ret))))))))
theorem c88_eq : (Tryz.f88.body).map (tr Tryz.prog gls 66) = some c88 := by kernel_rfl
theorem k88 {S : Am.Spec} (hargs : ∀ rs φ K, S rs φ K → rs.length ≤ 66) (h : Shows Tryz.prog gls c88 [.t 2, .t 3, .t 4] S) : Snd Tryz.prog gls 88 S :=
  snd_code Tryz.func88 c88_eq (by kernel_rfl) (by kernel_rfl) Tryz.ntmps88 hargs h
-- 90 (*bursar/ledger.Ledger).above (16 slots, 2 parameters)
def c90r0 : List AOper := [
  ⟨some 3, none, .box (.t 1)⟩,
  ⟨some 4, none, .mov (.k (.p (.val (.int .i64 0))))⟩]
def c90r1 : List AOper := [
  ⟨some 5, none, .mov (.t 0)⟩,
  ⟨some 6, none, .chk (.t 5)⟩,
  ⟨some 7, none, .fad 0 (.t 6)⟩,
  ⟨some 8, none, .load false 1 (.t 7)⟩,
  ⟨some 9, none, .fad 0 (.t 3)⟩,
  ⟨some 10, none, .load true 4 (.t 9)⟩,
  ⟨some 11, none, .primq (.lookup 137 (.tmp 8) (.tmp 10) false) [(.t 8), (.t 10)]⟩,
  ⟨some 12, none, .fad 4 (.t 3)⟩,
  ⟨some 13, none, .load false 1 (.t 12)⟩,
  ⟨some 14, none, .bin .sub 2 (.k (.p (.val (.int .i64 9223372036854775807)))) (.t 13)⟩,
  ⟨some 15, none, .bin .gtr 2 (.t 11) (.t 14)⟩]
def c90r2 : List AOper := [
  ⟨some 4, none, .mov (.k (.p (.val (.int .i64 7))))⟩]
def c90r3 : List AOper := [
  ⟨some 4, none, .mov (.k (.p (.val (.int .i64 0))))⟩]
def c90 : ACode := (.seq (.reg c90r0) (.seq (.seq (.reg c90r1) (.cond (.t 15) (.seq (.reg c90r2) .ret) .skip)) (.seq (.reg c90r3) .ret)))
theorem c90_eq : (Tryz.f90.body).map (tr Tryz.prog gls 16) = some c90 := by kernel_rfl
theorem k90 {S : Am.Spec} (hargs : ∀ rs φ K, S rs φ K → rs.length ≤ 16) (h : Shows Tryz.prog gls c90 [.t 4] S) : Snd Tryz.prog gls 90 S :=
  snd_code Tryz.func90 c90_eq (by kernel_rfl) (by kernel_rfl) Tryz.ntmps90 hargs h
-- 89 (*bursar/ledger.Ledger).judged (24 slots, 3 parameters)
def c89r0 : List AOper := [
  ⟨some 6, none, .mov (.k (.p (.val (.int .i64 0))))⟩]
def c89r1 : List AOper := [
  ⟨some 10, none, .mov (.t 1)⟩,
  ⟨some 11, none, .len (.t 10)⟩,
  ⟨some 12, none, .mov (.k (.p (.val (.int .i64 0))))⟩]
def c89r2 : List AOper := [
  ⟨some 13, none, .bin .lss 3 (.t 12) (.t 11)⟩]
def c89r3 : List AOper := [
  ⟨some 14, none, .iad 5 (.t 10) (.t 12)⟩,
  ⟨some 15, none, .load true 5 (.t 14)⟩,
  ⟨some 8, none, .alloc [(.val (.string ⟨#[]⟩)), (.val (.int .i64 0)), (.val (.int .i64 0)), (.val (.string ⟨#[]⟩)), (.val (.int .i64 0))]⟩,
  ⟨none, none, .store 5 (.t 8) (.t 15)⟩]
def c89r4 : List AOper := [
  ⟨some 16, none, .mov (.t 2)⟩,
  ⟨some 17, none, .mov (.t 0)⟩,
  ⟨some 18, none, .load true 5 (.t 8)⟩,
  ⟨some 19, none, .callv (.t 16) [(.t 17), (.t 18)]⟩,
  ⟨some 9, none, .mov (.t 19)⟩]
def c89r5 : List AOper := [
  ⟨some 20, none, .mov (.t 9)⟩,
  ⟨some 21, none, .bin .neq 38 (.t 20) (.k (.p (.val (.int .i64 0))))⟩]
def c89r6 : List AOper := [
  ⟨some 22, none, .mov (.t 9)⟩,
  ⟨some 6, none, .mov (.t 22)⟩]
def c89r7 : List AOper := [
  ⟨some 23, none, .bin .add 3 (.t 12) (.k (.p (.val (.int .i64 1))))⟩,
  ⟨some 12, none, .mov (.t 23)⟩]
def c89l8 : ACode := (.seq (.reg c89r2) (.seq (.cond (.t 13) .skip (.exit 0)) (.seq (.block 1 (.seq (.reg c89r3) (.seq (.reg c89r4) (.seq (.reg c89r5) (.cond (.t 21) (.seq (.reg c89r6) .ret) .skip))))) (.reg c89r7))))
def c89r9 : List AOper := [
  ⟨some 6, none, .mov (.k (.p (.val (.int .i64 0))))⟩]
def c89 : ACode := (.seq (.reg c89r0) (.seq (.seq (.reg c89r1) (.block 0 (.loop c89l8))) (.seq (.reg c89r9) .ret)))
theorem c89_eq : (Tryz.f89.body).map (tr Tryz.prog gls 24) = some c89 := by kernel_rfl
theorem k89 {S : Am.Spec} (hargs : ∀ rs φ K, S rs φ K → rs.length ≤ 24) (h : Shows Tryz.prog gls c89 [.t 6] S) : Snd Tryz.prog gls 89 S :=
  snd_code Tryz.func89 c89_eq (by kernel_rfl) (by kernel_rfl) Tryz.ntmps89 hargs h
-- 72 (*bursar/ledger.Ledger).Used (18 slots, 4 parameters)
def c72r0 : List AOper := [
  ⟨some 6, none, .box (.t 2)⟩,
  ⟨some 8, none, .mov (.k (.p (.val (.int .i64 0))))⟩]
def c72r1 : List AOper := [
  ⟨some 9, none, .mov (.t 0)⟩,
  ⟨some 10, none, .chk (.t 9)⟩,
  ⟨some 11, none, .fad 0 (.t 10)⟩,
  ⟨some 12, none, .load false 1 (.t 11)⟩,
  ⟨some 13, none, .mov (.t 1)⟩,
  ⟨some 14, none, .load true 2 (.t 6)⟩,
  ⟨some 15, none, .mov (.t 3)⟩,
  ⟨some 16, none, .buildq [(.val (.string ⟨#[]⟩)), (.val (.int .i64 0)), (.val (.int .i64 0)), (.val (.string ⟨#[]⟩))] [(0, 1, (.t 13)), (1, 2, (.t 14)), (3, 1, (.t 15))]⟩,
  ⟨some 17, none, .primq (.lookup 137 (.tmp 12) (.tmp 16) false) [(.t 12), (.t 16)]⟩,
  ⟨some 8, none, .mov (.t 17)⟩]
def c72 : ACode := (.seq (.reg c72r0) (.seq (.reg c72r1) .ret))
theorem c72_eq : (Tryz.f72.body).map (tr Tryz.prog gls 18) = some c72 := by kernel_rfl
theorem k72 {S : Am.Spec} (hargs : ∀ rs φ K, S rs φ K → rs.length ≤ 18) (h : Shows Tryz.prog gls c72 [.t 8] S) : Snd Tryz.prog gls 72 S :=
  snd_code Tryz.func72 c72_eq (by kernel_rfl) (by kernel_rfl) Tryz.ntmps72 hargs h
-- 40 bursar/ledger.New (5 slots, 0 parameters)
def c40r0 : List AOper := [
  ⟨some 0, none, .mov (.k (.p (.val (.pointer none))))⟩]
def c40r1 : List AOper := [
  ⟨some 1, none, .prim (.makeMap 137 none) []⟩,
  ⟨some 2, none, .prim (.makeMap 138 none) []⟩,
  ⟨some 3, none, .build [(.val (.map none)), (.val (.map none))] [(0, 1, (.t 1)), (1, 1, (.t 2))]⟩,
  ⟨some 4, none, .prim (.box 140 (.tmp 3)) [(.t 3)]⟩,
  ⟨some 0, none, .mov (.t 4)⟩]
def c40 : ACode := (.seq (.reg c40r0) (.seq (.reg c40r1) .ret))
theorem c40_eq : (Tryz.f40.body).map (tr Tryz.prog (glX gls [4]) 5) = some c40 := by kernel_rfl
theorem k40 {S : Am.Spec} (hargs : ∀ rs φ K, S rs φ K → rs.length ≤ 5) (h : Shows Tryz.prog (glX gls [4]) c40 [.t 0] S) : Snd Tryz.prog gls 40 S :=
  Snd.down <| snd_code Tryz.func40 c40_eq (by kernel_rfl) (by kernel_rfl) Tryz.ntmps40 hargs h
-- 85 (*bursar/ledger.Ledger).move (74 slots, 4 parameters)
def c85r0 : List AOper := [
  ⟨some 12, none, .mov (.t 1)⟩,
  ⟨some 13, none, .len (.t 12)⟩,
  ⟨some 14, none, .mov (.k (.p (.val (.int .i64 0))))⟩]
def c85r1 : List AOper := [
  ⟨some 15, none, .bin .lss 3 (.t 14) (.t 13)⟩]
def c85r2 : List AOper := [
  ⟨some 16, none, .iad 1 (.t 12) (.t 14)⟩,
  ⟨some 17, none, .load false 1 (.t 16)⟩,
  ⟨some 9, none, .mov (.t 17)⟩]
def c85r3 : List AOper := [
  ⟨some 18, none, .mov (.t 0)⟩,
  ⟨some 19, none, .chk (.t 18)⟩,
  ⟨some 20, none, .fad 1 (.t 19)⟩,
  ⟨some 21, none, .load false 1 (.t 20)⟩,
  ⟨some 22, none, .mov (.t 9)⟩,
  ⟨some 23, none, .prim (.lookup 138 (.tmp 21) (.tmp 22) false) [(.t 21), (.t 22)]⟩,
  ⟨some 24, none, .mov (.t 3)⟩,
  ⟨some 25, none, .bin .add 3 (.t 23) (.t 24)⟩,
  ⟨none, none, .prim (.mapUpdate 138 (.tmp 21) (.tmp 22) (.tmp 25)) [(.t 21), (.t 22), (.t 25)]⟩]
def c85r4 : List AOper := [
  ⟨some 26, none, .mov (.t 0)⟩,
  ⟨some 27, none, .chk (.t 26)⟩,
  ⟨some 28, none, .fad 1 (.t 27)⟩,
  ⟨some 29, none, .load false 1 (.t 28)⟩,
  ⟨some 30, none, .mov (.t 9)⟩,
  ⟨some 31, none, .prim (.lookup 138 (.tmp 29) (.tmp 30) false) [(.t 29), (.t 30)]⟩,
  ⟨some 32, none, .bin .eql 3 (.t 31) (.k (.p (.val (.int .i64 0))))⟩]
def c85r5 : List AOper := [
  ⟨some 33, none, .mov (.t 0)⟩,
  ⟨some 34, none, .chk (.t 33)⟩,
  ⟨some 35, none, .fad 1 (.t 34)⟩,
  ⟨some 36, none, .load false 1 (.t 35)⟩,
  ⟨some 37, none, .mov (.t 9)⟩,
  ⟨none, none, .prim (.call { callee := .builtin .delete, args := #[(.tmp 36), (.tmp 37)], argTypes := #[138, 9] }) [(.t 36), (.t 37)]⟩]
def c85r6 : List AOper := [
  ⟨some 38, none, .bin .add 3 (.t 14) (.k (.p (.val (.int .i64 1))))⟩,
  ⟨some 14, none, .mov (.t 38)⟩]
def c85l7 : ACode := (.seq (.reg c85r1) (.seq (.cond (.t 15) .skip (.exit 0)) (.seq (.block 1 (.seq (.reg c85r2) (.seq (.reg c85r3) (.seq (.reg c85r4) (.cond (.t 32) (.reg c85r5) .skip))))) (.reg c85r6))))
def c85r8 : List AOper := [
  ⟨some 39, none, .mov (.t 2)⟩,
  ⟨some 40, none, .len (.t 39)⟩,
  ⟨some 41, none, .mov (.k (.p (.val (.int .i64 0))))⟩]
def c85r9 : List AOper := [
  ⟨some 42, none, .bin .lss 3 (.t 41) (.t 40)⟩]
def c85r10 : List AOper := [
  ⟨some 43, none, .iad 5 (.t 39) (.t 41)⟩,
  ⟨some 44, none, .load true 5 (.t 43)⟩,
  ⟨some 11, none, .alloc [(.val (.string ⟨#[]⟩)), (.val (.int .i64 0)), (.val (.int .i64 0)), (.val (.string ⟨#[]⟩)), (.val (.int .i64 0))]⟩,
  ⟨none, none, .store 5 (.t 11) (.t 44)⟩]
def c85r11 : List AOper := [
  ⟨some 45, none, .mov (.t 0)⟩,
  ⟨some 46, none, .chk (.t 45)⟩,
  ⟨some 47, none, .fad 0 (.t 46)⟩,
  ⟨some 48, none, .load false 1 (.t 47)⟩,
  ⟨some 49, none, .fad 0 (.t 11)⟩,
  ⟨some 50, none, .load true 4 (.t 49)⟩,
  ⟨some 51, none, .primq (.lookup 137 (.tmp 48) (.tmp 50) false) [(.t 48), (.t 50)]⟩,
  ⟨some 52, none, .mov (.t 3)⟩,
  ⟨some 53, none, .fad 4 (.t 11)⟩,
  ⟨some 54, none, .load false 1 (.t 53)⟩,
  ⟨some 55, none, .bin .mul 2 (.t 52) (.t 54)⟩,
  ⟨some 56, none, .bin .add 2 (.t 51) (.t 55)⟩,
  ⟨some 57, none, .primq (.mapEntry 137 (.tmp 48) (.tmp 50)) [(.t 48), (.t 50)]⟩,
  ⟨some 58, none, .ext (.t 57) 1⟩,
  ⟨none, none, .prim (.entryStore 137 (.tmp 48) (.tmp 58) (.tmp 56)) [(.t 48), (.t 58), (.t 56)]⟩]
def c85r12 : List AOper := [
  ⟨some 59, none, .mov (.t 0)⟩,
  ⟨some 60, none, .chk (.t 59)⟩,
  ⟨some 61, none, .fad 0 (.t 60)⟩,
  ⟨some 62, none, .load false 1 (.t 61)⟩,
  ⟨some 63, none, .fad 0 (.t 11)⟩,
  ⟨some 64, none, .load true 4 (.t 63)⟩,
  ⟨some 65, none, .primq (.lookup 137 (.tmp 62) (.tmp 64) false) [(.t 62), (.t 64)]⟩,
  ⟨some 66, none, .bin .eql 2 (.t 65) (.k (.p (.val (.int .i64 0))))⟩]
def c85r13 : List AOper := [
  ⟨some 67, none, .mov (.t 0)⟩,
  ⟨some 68, none, .chk (.t 67)⟩,
  ⟨some 69, none, .fad 0 (.t 68)⟩,
  ⟨some 70, none, .load false 1 (.t 69)⟩,
  ⟨some 71, none, .fad 0 (.t 11)⟩,
  ⟨some 72, none, .load true 4 (.t 71)⟩,
  ⟨none, none, .prim (.call { callee := .builtin .delete, args := #[(.tmp 70), (.tmp 72)], argTypes := #[137, 192] }) [(.t 70), (.t 72)]⟩]
def c85r14 : List AOper := [
  ⟨some 73, none, .bin .add 3 (.t 41) (.k (.p (.val (.int .i64 1))))⟩,
  ⟨some 41, none, .mov (.t 73)⟩]
def c85l15 : ACode := (.seq (.reg c85r9) (.seq (.cond (.t 42) .skip (.exit 2)) (.seq (.block 3 (.seq (.reg c85r10) (.seq (.rege c85r11 12) (.seq (.reg c85r12) (.cond (.t 66) (.reg c85r13) .skip))))) (.reg c85r14))))
def c85 : ACode := (.seq (.seq (.reg c85r0) (.block 0 (.loop c85l7))) (.seq (.reg c85r8) (.block 2 (.loop c85l15))))
theorem c85_eq : (Tryz.f85.body).map (tr Tryz.prog gls 74) = some c85 := by kernel_rfl
theorem k85 {S : Am.Spec} (hargs : ∀ rs φ K, S rs φ K → rs.length ≤ 74) (h : Shows Tryz.prog gls c85 [] S) : Snd Tryz.prog gls 85 S :=
  snd_code Tryz.func85 c85_eq (by kernel_rfl) (by kernel_rfl) Tryz.ntmps85 hargs h
-- 48 (*bursar/ledger.Ledger).Charge (28 slots, 2 parameters)
def c48r0 : List AOper := [
  ⟨some 3, none, .box (.t 1)⟩,
  ⟨some 4, none, .mov (.k (.p (.val (.int .i64 0))))⟩]
def c48r1 : List AOper := [
  ⟨some 10, none, .load true 7 (.t 3)⟩,
  ⟨some 11, none, .call 88 [(.t 10)]⟩,
  ⟨some 9, none, .mov (.t 11)⟩,
  ⟨some 12, none, .ext (.t 9) 0⟩,
  ⟨some 13, none, .ext (.t 9) 1⟩,
  ⟨some 14, none, .ext (.t 9) 2⟩,
  ⟨some 5, none, .mov (.t 12)⟩,
  ⟨some 6, none, .mov (.t 13)⟩,
  ⟨some 7, none, .mov (.t 14)⟩]
def c48r2 : List AOper := [
  ⟨some 15, none, .mov (.t 7)⟩,
  ⟨some 16, none, .bin .neq 38 (.t 15) (.k (.p (.val (.int .i64 0))))⟩]
def c48r3 : List AOper := [
  ⟨some 17, none, .mov (.t 7)⟩,
  ⟨some 4, none, .mov (.t 17)⟩]
def c48r4 : List AOper := [
  ⟨some 18, none, .mov (.t 0)⟩,
  ⟨some 19, none, .mov (.t 6)⟩,
  ⟨some 20, none, .call 89 [(.t 18), (.t 19), (.k (.p (.fn 90 [])))]⟩,
  ⟨some 8, none, .mov (.t 20)⟩]
def c48r5 : List AOper := [
  ⟨some 21, none, .mov (.t 8)⟩,
  ⟨some 22, none, .bin .neq 38 (.t 21) (.k (.p (.val (.int .i64 0))))⟩]
def c48r6 : List AOper := [
  ⟨some 23, none, .mov (.t 8)⟩,
  ⟨some 4, none, .mov (.t 23)⟩]
def c48r7 : List AOper := [
  ⟨some 24, none, .mov (.t 0)⟩,
  ⟨some 25, none, .mov (.t 5)⟩,
  ⟨some 26, none, .mov (.t 6)⟩,
  ⟨some 27, none, .call 85 [(.t 24), (.t 25), (.t 26), (.k (.p (.val (.int .i64 1))))]⟩]
def c48r8 : List AOper := [
  ⟨some 4, none, .mov (.k (.p (.val (.int .i64 0))))⟩]
def c48 : ACode := (.seq (.reg c48r0) (.seq (.reg c48r1) (.seq (.seq (.reg c48r2) (.cond (.t 16) (.seq (.reg c48r3) .ret) .skip)) (.seq (.seq (.reg c48r4) (.seq (.reg c48r5) (.cond (.t 22) (.seq (.reg c48r6) .ret) .skip))) (.seq (.reg c48r7) (.seq (.reg c48r8) .ret))))))
theorem c48_eq : (Tryz.f48.body).map (tr Tryz.prog gls 28) = some c48 := by kernel_rfl
theorem k48 {S : Am.Spec} (hargs : ∀ rs φ K, S rs φ K → rs.length ≤ 28) (h : Shows Tryz.prog gls c48 [.t 4] S) : Snd Tryz.prog gls 48 S :=
  snd_code Tryz.func48 c48_eq (by kernel_rfl) (by kernel_rfl) Tryz.ntmps48 hargs h
-- 45 bursar/ledger.Of (23 slots, 1 parameters)
def c45r0 : List AOper := [
  ⟨some 2, none, .mov (.k (.p (.val (.pointer none))))⟩,
  ⟨some 3, none, .mov (.k (.p (.val (.int .i64 0))))⟩]
def c45r1 : List AOper := [
  ⟨some 8, none, .call 40 []⟩,
  ⟨some 4, none, .mov (.t 8)⟩]
def c45r2 : List AOper := [
  ⟨some 9, none, .mov (.t 0)⟩,
  ⟨some 10, none, .len (.t 9)⟩,
  ⟨some 11, none, .mov (.k (.p (.val (.int .i64 0))))⟩]
def c45r3 : List AOper := [
  ⟨some 12, none, .bin .lss 3 (.t 11) (.t 10)⟩]
def c45r4 : List AOper := [
  ⟨some 13, none, .iad 7 (.t 9) (.t 11)⟩,
  ⟨some 14, none, .load true 7 (.t 13)⟩,
  ⟨some 6, none, .alloc [(.val (.string ⟨#[]⟩)), (.val (.string ⟨#[]⟩)), (.sl [] 0), (.val (.int .i64 0)), (.val (.int .i64 0)), (.sl [] 0), (.val (.int .i64 0))]⟩,
  ⟨none, none, .store 7 (.t 6) (.t 14)⟩]
def c45r5 : List AOper := [
  ⟨some 15, none, .mov (.t 4)⟩,
  ⟨some 16, none, .load true 7 (.t 6)⟩,
  ⟨some 17, none, .call 48 [(.t 15), (.t 16)]⟩,
  ⟨some 7, none, .mov (.t 17)⟩]
def c45r6 : List AOper := [
  ⟨some 18, none, .mov (.t 7)⟩,
  ⟨some 19, none, .bin .neq 38 (.t 18) (.k (.p (.val (.int .i64 0))))⟩]
def c45r7 : List AOper := [
  ⟨some 20, none, .mov (.t 7)⟩,
  ⟨some 2, none, .mov (.k (.p (.val (.pointer none))))⟩,
  ⟨some 3, none, .mov (.t 20)⟩]
def c45r8 : List AOper := [
  ⟨some 21, none, .bin .add 3 (.t 11) (.k (.p (.val (.int .i64 1))))⟩,
  ⟨some 11, none, .mov (.t 21)⟩]
def c45l9 : ACode := (.seq (.reg c45r3) (.seq (.cond (.t 12) .skip (.exit 0)) (.seq (.block 1 (.seq (.reg c45r4) (.seq (.reg c45r5) (.seq (.reg c45r6) (.cond (.t 19) (.seq (.reg c45r7) .ret) .skip))))) (.reg c45r8))))
def c45r10 : List AOper := [
  ⟨some 22, none, .mov (.t 4)⟩,
  ⟨some 2, none, .mov (.t 22)⟩,
  ⟨some 3, none, .mov (.k (.p (.val (.int .i64 0))))⟩]
def c45 : ACode := (.seq (.reg c45r0) (.seq (.reg c45r1) (.seq (.seq (.reg c45r2) (.block 0 (.loop c45l9))) (.seq (.reg c45r10) .ret))))
theorem c45_eq : (Tryz.f45.body).map (tr Tryz.prog gls 23) = some c45 := by kernel_rfl
theorem k45 {S : Am.Spec} (hargs : ∀ rs φ K, S rs φ K → rs.length ≤ 23) (h : Shows Tryz.prog gls c45 [.t 2, .t 3] S) : Snd Tryz.prog gls 45 S :=
  snd_code Tryz.func45 c45_eq (by kernel_rfl) (by kernel_rfl) Tryz.ntmps45 hargs h
-- 146 bursar/quota.has (8 slots, 2 parameters)
def c146r0 : List AOper := [
  ⟨some 3, none, .box (.t 1)⟩,
  ⟨some 4, none, .mov (.k (.p (.val (.bool false))))⟩]
def c146r1 : List AOper := [
  ⟨some 5, none, .mov (.t 0)⟩,
  ⟨some 6, none, .mkf 196 [(.t 3)]⟩,
  ⟨some 7, none, .call 63 [(.t 5), (.t 6)]⟩,
  ⟨some 4, none, .mov (.t 7)⟩]
def c146 : ACode := (.seq (.reg c146r0) (.seq (.reg c146r1) .ret))
theorem c146_eq : (Tryz.f146.body).map (tr Tryz.prog gls 8) = some c146 := by kernel_rfl
theorem k146 {S : Am.Spec} (hargs : ∀ rs φ K, S rs φ K → rs.length ≤ 8) (h : Shows Tryz.prog gls c146 [.t 4] S) : Snd Tryz.prog gls 146 S :=
  snd_code Tryz.func146 c146_eq (by kernel_rfl) (by kernel_rfl) Tryz.ntmps146 hargs h
-- 97 bursar/quota.lacks (41 slots, 2 parameters)
def c97r0 : List AOper := [
  ⟨some 2, none, .box (.t 0)⟩,
  ⟨some 4, none, .mov (.k (.p (.val (.string ⟨#[]⟩))))⟩,
  ⟨some 5, none, .mov (.k (.p (.val (.bool false))))⟩]
def c97r1 : List AOper := [
  ⟨some 11, none, .mov (.t 1)⟩,
  ⟨some 12, none, .bin .eql 9 (.t 11) (.k (.p (.val (.string ⟨#[99, 111, 117, 110, 116]⟩))))⟩]
def c97r2 : List AOper := [
  ⟨some 4, none, .mov (.k (.p (.val (.string ⟨#[]⟩))))⟩,
  ⟨some 5, none, .mov (.k (.p (.val (.bool false))))⟩]
def c97r3 : List AOper := [
  ⟨some 14, none, .mov (.t 1)⟩,
  ⟨some 15, none, .call 144 [(.t 14), (.k (.p (.val (.string ⟨#[114, 101, 113, 117, 101, 115, 116, 115, 46]⟩))))]⟩,
  ⟨some 13, none, .mov (.t 15)⟩,
  ⟨some 16, none, .ext (.t 13) 0⟩,
  ⟨some 17, none, .ext (.t 13) 1⟩,
  ⟨some 6, none, .mov (.t 16)⟩,
  ⟨some 7, none, .mov (.t 17)⟩]
def c97r4 : List AOper := [
  ⟨some 18, none, .mov (.t 7)⟩,
  ⟨some 19, none, .un .not (.t 18)⟩]
def c97r5 : List AOper := [
  ⟨some 20, none, .mov (.t 1)⟩,
  ⟨some 21, none, .call 145 [(.t 20), (.k (.p (.val (.string ⟨#[108, 105, 109, 105, 116, 115, 46]⟩))))]⟩,
  ⟨some 6, none, .mov (.t 21)⟩]
def c97r6 : List AOper := [
  ⟨some 22, none, .fad 5 (.t 2)⟩,
  ⟨some 23, none, .load false 1 (.t 22)⟩,
  ⟨some 24, none, .len (.t 23)⟩,
  ⟨some 25, none, .mov (.k (.p (.val (.int .i64 0))))⟩]
def c97r7 : List AOper := [
  ⟨some 26, none, .bin .lss 3 (.t 25) (.t 24)⟩]
def c97r8 : List AOper := [
  ⟨some 27, none, .iad 3 (.t 23) (.t 25)⟩,
  ⟨some 28, none, .load true 3 (.t 27)⟩,
  ⟨some 9, none, .alloc [(.val (.string ⟨#[]⟩)), (.sl [] 0), (.sl [] 0)]⟩,
  ⟨none, none, .store 3 (.t 9) (.t 28)⟩]
def c97r9 : List AOper := [
  ⟨some 29, none, .fad 2 (.t 9)⟩,
  ⟨some 30, none, .load false 1 (.t 29)⟩,
  ⟨some 10, none, .mov (.t 30)⟩]
def c97r10 : List AOper := [
  ⟨some 31, none, .mov (.t 7)⟩]
def c97r11 : List AOper := [
  ⟨some 32, none, .fad 1 (.t 9)⟩,
  ⟨some 33, none, .load false 1 (.t 32)⟩,
  ⟨some 10, none, .mov (.t 33)⟩]
def c97r12 : List AOper := [
  ⟨some 34, none, .mov (.t 10)⟩,
  ⟨some 35, none, .mov (.t 6)⟩,
  ⟨some 36, none, .call 146 [(.t 34), (.t 35)]⟩,
  ⟨some 37, none, .un .not (.t 36)⟩]
def c97r13 : List AOper := [
  ⟨some 38, none, .fad 0 (.t 9)⟩,
  ⟨some 39, none, .load false 1 (.t 38)⟩,
  ⟨some 4, none, .mov (.t 39)⟩,
  ⟨some 5, none, .mov (.k (.p (.val (.bool true))))⟩]
def c97r14 : List AOper := [
  ⟨some 40, none, .bin .add 3 (.t 25) (.k (.p (.val (.int .i64 1))))⟩,
  ⟨some 25, none, .mov (.t 40)⟩]
def c97l15 : ACode := (.seq (.reg c97r7) (.seq (.cond (.t 26) .skip (.exit 0)) (.seq (.block 1 (.seq (.reg c97r8) (.seq (.reg c97r9) (.seq (.seq (.reg c97r10) (.cond (.t 31) (.reg c97r11) .skip)) (.seq (.reg c97r12) (.cond (.t 37) (.seq (.reg c97r13) .ret) .skip)))))) (.reg c97r14))))
def c97r16 : List AOper := [
  ⟨some 4, none, .mov (.k (.p (.val (.string ⟨#[]⟩))))⟩,
  ⟨some 5, none, .mov (.k (.p (.val (.bool false))))⟩]
def c97 : ACode := (.seq (.reg c97r0) (.seq (.seq (.reg c97r1) (.cond (.t 12) (.seq (.reg c97r2) .ret) .skip)) (.seq (.reg c97r3) (.seq (.seq (.reg c97r4) (.cond (.t 19) (.reg c97r5) .skip)) (.seq (.seq (.reg c97r6) (.block 0 (.loop c97l15))) (.seq (.reg c97r16) .ret))))))
theorem c97_eq : (Tryz.f97.body).map (tr Tryz.prog gls 41) = some c97 := by kernel_rfl
theorem k97 {S : Am.Spec} (hargs : ∀ rs φ K, S rs φ K → rs.length ≤ 41) (h : Shows Tryz.prog gls c97 [.t 4, .t 5] S) : Snd Tryz.prog gls 97 S :=
  snd_code Tryz.func97 c97_eq (by kernel_rfl) (by kernel_rfl) Tryz.ntmps97 hargs h
-- 98 (bursar/quota.owner).share (26 slots, 3 parameters)
def c98r0 : List AOper := [
  ⟨some 3, none, .box (.t 0)⟩,
  ⟨some 4, none, .box (.t 1)⟩,
  ⟨some 6, none, .mov (.k (.p (.val (.int .i64 0))))⟩]
def c98r1 : List AOper := [
  ⟨some 7, none, .fad 0 (.t 3)⟩,
  ⟨some 8, none, .load true 7 (.t 7)⟩,
  ⟨some 9, none, .fad 2 (.t 4)⟩,
  ⟨some 10, none, .load true 2 (.t 9)⟩,
  ⟨some 11, none, .call 33 [(.t 8), (.t 10)]⟩,
  ⟨some 12, none, .un .not (.t 11)⟩,
  ⟨some 13, none, .mov (.t 12)⟩,
  ⟨some 14, some (13, false), .fad 0 (.t 3)⟩,
  ⟨some 15, some (13, false), .fad 0 (.t 14)⟩,
  ⟨some 16, some (13, false), .load false 1 (.t 15)⟩,
  ⟨some 17, some (13, false), .fad 0 (.t 4)⟩,
  ⟨some 18, some (13, false), .load false 1 (.t 17)⟩,
  ⟨some 19, some (13, false), .call 31 [(.t 16), (.t 18)]⟩,
  ⟨some 20, some (13, false), .un .not (.t 19)⟩,
  ⟨some 21, none, .pick (.t 13) (.k (.p (.val (.bool true)))) (.t 20)⟩]
def c98r2 : List AOper := [
  ⟨some 6, none, .mov (.k (.p (.val (.int .i64 0))))⟩]
def c98r3 : List AOper := [
  ⟨some 22, none, .fad 7 (.t 3)⟩,
  ⟨some 23, none, .load false 1 (.t 22)⟩,
  ⟨some 24, none, .mov (.t 2)⟩,
  ⟨some 25, none, .call 100 [(.t 23), (.t 24)]⟩,
  ⟨some 6, none, .mov (.t 25)⟩]
def c98 : ACode := (.seq (.reg c98r0) (.seq (.seq (.reg c98r1) (.cond (.t 21) (.seq (.reg c98r2) .ret) .skip)) (.seq (.reg c98r3) .ret)))
theorem c98_eq : (Tryz.f98.body).map (tr Tryz.prog gls 26) = some c98 := by kernel_rfl
theorem k98 {S : Am.Spec} (hargs : ∀ rs φ K, S rs φ K → rs.length ≤ 26) (h : Shows Tryz.prog gls c98 [.t 6] S) : Snd Tryz.prog gls 98 S :=
  snd_code Tryz.func98 c98_eq (by kernel_rfl) (by kernel_rfl) Tryz.ntmps98 hargs h
-- 54 bursar/quota.owners (30 slots, 1 parameters)
def c54r0 : List AOper := [
  ⟨some 2, none, .mov (.k (.p (.val (.slice none 0 0))))⟩,
  ⟨some 3, none, .mov (.k (.p (.val (.int .i64 0))))⟩]
def c54r1 : List AOper := [
  ⟨some 4, none, .mov (.k (.p (.val (.slice none 0 0))))⟩]
def c54r2 : List AOper := [
  ⟨some 9, none, .mov (.t 0)⟩,
  ⟨some 10, none, .len (.t 9)⟩,
  ⟨some 11, none, .mov (.k (.p (.val (.int .i64 0))))⟩]
def c54r3 : List AOper := [
  ⟨some 12, none, .bin .lss 3 (.t 11) (.t 10)⟩]
def c54r4 : List AOper := [
  ⟨some 13, none, .iad 7 (.t 9) (.t 11)⟩,
  ⟨some 14, none, .load true 7 (.t 13)⟩,
  ⟨some 6, none, .alloc [(.val (.string ⟨#[]⟩)), (.val (.string ⟨#[]⟩)), (.sl [] 0), (.val (.int .i64 0)), (.val (.int .i64 0)), (.sl [] 0), (.val (.int .i64 0))]⟩,
  ⟨none, none, .store 7 (.t 6) (.t 14)⟩]
def c54r5 : List AOper := [
  ⟨some 16, none, .load true 7 (.t 6)⟩,
  ⟨some 17, none, .call 24 [(.t 16)]⟩,
  ⟨some 15, none, .mov (.t 17)⟩,
  ⟨some 18, none, .ext (.t 15) 0⟩,
  ⟨some 19, none, .ext (.t 15) 1⟩,
  ⟨some 7, none, .mov (.t 18)⟩,
  ⟨some 8, none, .mov (.t 19)⟩]
def c54r6 : List AOper := [
  ⟨some 20, none, .mov (.t 8)⟩,
  ⟨some 21, none, .bin .neq 38 (.t 20) (.k (.p (.val (.int .i64 0))))⟩]
def c54r7 : List AOper := [
  ⟨some 2, none, .mov (.k (.p (.val (.slice none 0 0))))⟩,
  ⟨some 3, none, .mov (.k (.p (.val (.int .i64 7))))⟩]
def c54r8 : List AOper := [
  ⟨some 22, none, .mov (.t 4)⟩,
  ⟨some 23, none, .load true 7 (.t 6)⟩,
  ⟨some 24, none, .mov (.t 7)⟩,
  ⟨some 25, none, .build [(.val (.string ⟨#[]⟩)), (.val (.string ⟨#[]⟩)), (.sl [] 0), (.val (.int .i64 0)), (.val (.int .i64 0)), (.sl [] 0), (.val (.int .i64 0)), (.sl [] 0)] [(0, 7, (.t 23)), (7, 1, (.t 24))]⟩,
  ⟨some 26, none, .bslice 107 8 1 [(.val (.string ⟨#[]⟩)), (.val (.string ⟨#[]⟩)), (.sl [] 0), (.val (.int .i64 0)), (.val (.int .i64 0)), (.sl [] 0), (.val (.int .i64 0)), (.sl [] 0)] [(0, 8, (.t 25))]⟩,
  ⟨some 27, none, .app 107 8 128 (.t 22) (.t 26)⟩,
  ⟨some 4, none, .mov (.t 27)⟩]
def c54r9 : List AOper := [
  ⟨some 28, none, .bin .add 3 (.t 11) (.k (.p (.val (.int .i64 1))))⟩,
  ⟨some 11, none, .mov (.t 28)⟩]
def c54l10 : ACode := (.seq (.reg c54r3) (.seq (.cond (.t 12) .skip (.exit 0)) (.seq (.block 1 (.seq (.reg c54r4) (.seq (.reg c54r5) (.seq (.seq (.reg c54r6) (.cond (.t 21) (.seq (.reg c54r7) .ret) .skip)) (.reg c54r8))))) (.reg c54r9))))
def c54r11 : List AOper := [
  ⟨some 29, none, .mov (.t 4)⟩,
  ⟨some 2, none, .mov (.t 29)⟩,
  ⟨some 3, none, .mov (.k (.p (.val (.int .i64 0))))⟩]
def c54 : ACode := (.seq (.reg c54r0) (.seq (.reg c54r1) (.seq (.seq (.reg c54r2) (.block 0 (.loop c54l10))) (.seq (.reg c54r11) .ret))))
theorem c54_eq : (Tryz.f54.body).map (tr Tryz.prog gls 30) = some c54 := by kernel_rfl
theorem k54 {S : Am.Spec} (hargs : ∀ rs φ K, S rs φ K → rs.length ≤ 30) (h : Shows Tryz.prog gls c54 [.t 2, .t 3] S) : Snd Tryz.prog gls 54 S :=
  snd_code Tryz.func54 c54_eq (by kernel_rfl) (by kernel_rfl) Tryz.ntmps54 hargs h
-- 99 bursar/quota.above (42 slots, 4 parameters)
def c99r0 : List AOper := [
  ⟨some 8, none, .mov (.k (.p (.val (.bool false))))⟩]
def c99r1 : List AOper := [
  ⟨some 14, none, .mov (.t 0)⟩,
  ⟨some 15, none, .cv .u64 (.t 14)⟩,
  ⟨some 16, none, .mov (.t 2)⟩,
  ⟨some 17, none, .cv .u64 (.t 16)⟩,
  ⟨some 18, none, .call 123 [(.t 15), (.t 17), (.k (.p (.val (.int .u64 0))))]⟩,
  ⟨some 13, none, .mov (.t 18)⟩,
  ⟨some 19, none, .ext (.t 13) 0⟩,
  ⟨some 20, none, .ext (.t 13) 1⟩,
  ⟨some 9, none, .mov (.t 19)⟩,
  ⟨some 10, none, .mov (.t 20)⟩]
def c99r2 : List AOper := [
  ⟨some 22, none, .mov (.t 3)⟩,
  ⟨some 23, none, .cv .u64 (.t 22)⟩,
  ⟨some 24, none, .mov (.t 1)⟩,
  ⟨some 25, none, .cv .u64 (.t 24)⟩,
  ⟨some 26, none, .call 123 [(.t 23), (.t 25), (.k (.p (.val (.int .u64 0))))]⟩,
  ⟨some 21, none, .mov (.t 26)⟩,
  ⟨some 27, none, .ext (.t 21) 0⟩,
  ⟨some 28, none, .ext (.t 21) 1⟩,
  ⟨some 11, none, .mov (.t 27)⟩,
  ⟨some 12, none, .mov (.t 28)⟩]
def c99r3 : List AOper := [
  ⟨some 29, none, .mov (.t 10)⟩,
  ⟨some 30, none, .mov (.t 12)⟩,
  ⟨some 31, none, .bin .gtr 120 (.t 29) (.t 30)⟩,
  ⟨some 32, none, .mov (.t 31)⟩,
  ⟨some 33, some (32, false), .mov (.t 10)⟩,
  ⟨some 34, some (32, false), .mov (.t 12)⟩,
  ⟨some 35, some (32, false), .bin .eql 120 (.t 33) (.t 34)⟩,
  ⟨some 36, some (32, false), .mov (.t 35)⟩,
  ⟨some 37, some (36, true), .mov (.t 9)⟩,
  ⟨some 38, some (36, true), .mov (.t 11)⟩,
  ⟨some 39, some (36, true), .bin .gtr 120 (.t 37) (.t 38)⟩,
  ⟨some 40, some (32, false), .pick (.t 36) (.t 39) (.k (.p (.val (.bool false))))⟩,
  ⟨some 41, none, .pick (.t 32) (.k (.p (.val (.bool true)))) (.t 40)⟩,
  ⟨some 8, none, .mov (.t 41)⟩]
def c99 : ACode := (.seq (.reg c99r0) (.seq (.reg c99r1) (.seq (.reg c99r2) (.seq (.reg c99r3) .ret))))
theorem c99_eq : (Tryz.f99.body).map (tr Tryz.prog gls 42) = some c99 := by kernel_rfl
theorem k99 {S : Am.Spec} (hargs : ∀ rs φ K, S rs φ K → rs.length ≤ 42) (h : Shows Tryz.prog gls c99 [.t 8] S) : Snd Tryz.prog gls 99 S :=
  snd_code Tryz.func99 c99_eq (by kernel_rfl) (by kernel_rfl) Tryz.ntmps99 hargs h
-- 53 bursar/quota.valid (14 slots, 1 parameters)
def c53r0 : List AOper := [
  ⟨some 2, none, .mov (.k (.p (.val (.bool false))))⟩]
def c53r1 : List AOper := [
  ⟨some 5, none, .mov (.t 0)⟩,
  ⟨some 6, none, .len (.t 5)⟩,
  ⟨some 7, none, .mov (.k (.p (.val (.int .i64 0))))⟩]
def c53r2 : List AOper := [
  ⟨some 8, none, .bin .lss 3 (.t 7) (.t 6)⟩]
def c53r3 : List AOper := [
  ⟨some 9, none, .iad 1 (.t 5) (.t 7)⟩,
  ⟨some 10, none, .load false 1 (.t 9)⟩,
  ⟨some 4, none, .mov (.t 10)⟩]
def c53r4 : List AOper := [
  ⟨some 11, none, .mov (.t 4)⟩,
  ⟨some 12, none, .call 95 [(.t 11), (.k (.p (.fn 96 [])))]⟩]
def c53r5 : List AOper := [
  ⟨some 2, none, .mov (.k (.p (.val (.bool false))))⟩]
def c53r6 : List AOper := [
  ⟨some 13, none, .bin .add 3 (.t 7) (.k (.p (.val (.int .i64 1))))⟩,
  ⟨some 7, none, .mov (.t 13)⟩]
def c53l7 : ACode := (.seq (.reg c53r2) (.seq (.cond (.t 8) .skip (.exit 0)) (.seq (.block 1 (.seq (.reg c53r3) (.seq (.reg c53r4) (.cond (.t 12) (.seq (.reg c53r5) .ret) .skip)))) (.reg c53r6))))
def c53r8 : List AOper := [
  ⟨some 2, none, .mov (.k (.p (.val (.bool true))))⟩]
def c53 : ACode := (.seq (.reg c53r0) (.seq (.seq (.reg c53r1) (.block 0 (.loop c53l7))) (.seq (.reg c53r8) .ret)))
theorem c53_eq : (Tryz.f53.body).map (tr Tryz.prog gls 14) = some c53 := by kernel_rfl
theorem k53 {S : Am.Spec} (hargs : ∀ rs φ K, S rs φ K → rs.length ≤ 14) (h : Shows Tryz.prog gls c53 [.t 2] S) : Snd Tryz.prog gls 53 S :=
  snd_code Tryz.func53 c53_eq (by kernel_rfl) (by kernel_rfl) Tryz.ntmps53 hargs h
-- 55 bursar/quota.fits (77 slots, 4 parameters)
def c55r0 : List AOper := [
  ⟨some 5, none, .box (.t 1)⟩,
  ⟨some 7, none, .box (.t 3)⟩,
  ⟨some 8, none, .alloc [(.val (.string ⟨#[]⟩)), (.val (.string ⟨#[]⟩)), (.val (.string ⟨#[]⟩)), (.val (.string ⟨#[]⟩))]⟩,
  ⟨some 9, none, .mov (.k (.p (.val (.int .i64 0))))⟩]
def c55r1 : List AOper := [
  ⟨some 18, none, .fad 0 (.t 5)⟩,
  ⟨some 19, none, .load false 1 (.t 18)⟩,
  ⟨some 20, none, .fad 1 (.t 5)⟩,
  ⟨some 21, none, .load false 1 (.t 20)⟩,
  ⟨some 22, none, .build [(.val (.string ⟨#[]⟩)), (.val (.string ⟨#[]⟩)), (.val (.string ⟨#[]⟩)), (.val (.string ⟨#[]⟩))] [(0, 1, (.t 19)), (1, 1, (.t 21))]⟩,
  ⟨some 10, none, .alloc [(.val (.string ⟨#[]⟩)), (.val (.string ⟨#[]⟩)), (.val (.string ⟨#[]⟩)), (.val (.string ⟨#[]⟩))]⟩,
  ⟨none, none, .store 4 (.t 10) (.t 22)⟩]
def c55r2 : List AOper := [
  ⟨some 23, none, .fad 4 (.t 5)⟩,
  ⟨some 24, none, .load false 1 (.t 23)⟩,
  ⟨some 25, none, .len (.t 24)⟩,
  ⟨some 26, none, .mov (.k (.p (.val (.int .i64 0))))⟩]
def c55r3 : List AOper := [
  ⟨some 27, none, .bin .lss 3 (.t 26) (.t 25)⟩]
def c55r4 : List AOper := [
  ⟨some 28, none, .iad 2 (.t 24) (.t 26)⟩,
  ⟨some 29, none, .load true 2 (.t 28)⟩,
  ⟨some 12, none, .alloc [(.val (.string ⟨#[]⟩)), (.val (.int .i64 0))]⟩,
  ⟨none, none, .store 2 (.t 12) (.t 29)⟩]
def c55r5 : List AOper := [
  ⟨some 30, none, .fad 0 (.t 12)⟩,
  ⟨some 31, none, .load false 1 (.t 30)⟩,
  ⟨some 32, none, .fad 3 (.t 10)⟩,
  ⟨none, none, .store 1 (.t 32) (.t 31)⟩]
def c55r6 : List AOper := [
  ⟨some 34, none, .fad 0 (.t 7)⟩,
  ⟨some 35, none, .load true 7 (.t 34)⟩,
  ⟨some 36, none, .fad 0 (.t 12)⟩,
  ⟨some 37, none, .load false 1 (.t 36)⟩,
  ⟨some 38, none, .call 97 [(.t 35), (.t 37)]⟩,
  ⟨some 33, none, .mov (.t 38)⟩,
  ⟨some 39, none, .ext (.t 33) 0⟩,
  ⟨some 40, none, .ext (.t 33) 1⟩,
  ⟨some 13, none, .mov (.t 39)⟩,
  ⟨some 14, none, .mov (.t 40)⟩]
def c55r7 : List AOper := [
  ⟨some 41, none, .mov (.t 14)⟩]
def c55r8 : List AOper := [
  ⟨some 42, none, .mov (.t 13)⟩,
  ⟨some 43, none, .fad 2 (.t 10)⟩,
  ⟨none, none, .store 1 (.t 43) (.t 42)⟩]
def c55r9 : List AOper := [
  ⟨some 44, none, .load true 4 (.t 10)⟩,
  ⟨none, none, .store 4 (.t 8) (.t 44)⟩,
  ⟨some 9, none, .mov (.k (.p (.val (.int .i64 181))))⟩]
def c55r10 : List AOper := [
  ⟨some 15, none, .mov (.k (.p (.val (.int .i64 0))))⟩]
def c55r11 : List AOper := [
  ⟨some 45, none, .mov (.t 2)⟩,
  ⟨some 46, none, .len (.t 45)⟩,
  ⟨some 47, none, .mov (.k (.p (.val (.int .i64 0))))⟩]
def c55r12 : List AOper := [
  ⟨some 48, none, .bin .lss 3 (.t 47) (.t 46)⟩]
def c55r13 : List AOper := [
  ⟨some 49, none, .iad 8 (.t 45) (.t 47)⟩,
  ⟨some 50, none, .load true 8 (.t 49)⟩,
  ⟨some 17, none, .alloc [(.val (.string ⟨#[]⟩)), (.val (.string ⟨#[]⟩)), (.sl [] 0), (.val (.int .i64 0)), (.val (.int .i64 0)), (.sl [] 0), (.val (.int .i64 0)), (.sl [] 0)]⟩,
  ⟨none, none, .store 8 (.t 17) (.t 50)⟩]
def c55r14 : List AOper := [
  ⟨some 51, none, .load true 8 (.t 17)⟩,
  ⟨some 52, none, .load true 5 (.t 5)⟩,
  ⟨some 53, none, .fad 0 (.t 12)⟩,
  ⟨some 54, none, .load false 1 (.t 53)⟩,
  ⟨some 55, none, .call 98 [(.t 51), (.t 52), (.t 54)]⟩,
  ⟨some 15, none, .mov (.t 55)⟩]
def c55r15 : List AOper := [
  ⟨some 56, none, .bin .add 3 (.t 47) (.k (.p (.val (.int .i64 1))))⟩,
  ⟨some 47, none, .mov (.t 56)⟩]
def c55l16 : ACode := (.seq (.reg c55r12) (.seq (.cond (.t 48) .skip (.exit 2)) (.seq (.block 3 (.seq (.reg c55r13) (.reg c55r14))) (.reg c55r15))))
def c55r17 : List AOper := [
  ⟨some 57, none, .mov (.t 0)⟩,
  ⟨some 58, none, .fad 0 (.t 5)⟩,
  ⟨some 59, none, .load false 1 (.t 58)⟩,
  ⟨some 60, none, .fad 2 (.t 5)⟩,
  ⟨some 61, none, .load true 2 (.t 60)⟩,
  ⟨some 62, none, .fad 0 (.t 12)⟩,
  ⟨some 63, none, .load false 1 (.t 62)⟩,
  ⟨some 64, none, .callq 72 [(.t 57), (.t 59), (.t 61), (.t 63)]⟩,
  ⟨some 65, none, .mov (.t 15)⟩,
  ⟨some 66, none, .fad 7 (.t 7)⟩,
  ⟨some 67, none, .load false 1 (.t 66)⟩,
  ⟨some 68, none, .fad 0 (.t 12)⟩,
  ⟨some 69, none, .load false 1 (.t 68)⟩,
  ⟨some 70, none, .callq 100 [(.t 67), (.t 69)]⟩,
  ⟨some 71, none, .fad 1 (.t 12)⟩,
  ⟨some 72, none, .load false 1 (.t 71)⟩,
  ⟨some 73, none, .callq 99 [(.t 64), (.t 65), (.t 70), (.t 72)]⟩]
def c55r18 : List AOper := [
  ⟨some 74, none, .load true 4 (.t 10)⟩,
  ⟨none, none, .store 4 (.t 8) (.t 74)⟩,
  ⟨some 9, none, .mov (.k (.p (.val (.int .i64 180))))⟩]
def c55r19 : List AOper := [
  ⟨some 75, none, .bin .add 3 (.t 26) (.k (.p (.val (.int .i64 1))))⟩,
  ⟨some 26, none, .mov (.t 75)⟩]
def c55l20 : ACode := (.seq (.reg c55r3) (.seq (.cond (.t 27) .skip (.exit 0)) (.seq (.block 1 (.seq (.reg c55r4) (.seq (.reg c55r5) (.seq (.seq (.reg c55r6) (.seq (.reg c55r7) (.cond (.t 41) (.seq (.reg c55r8) (.seq (.reg c55r9) .ret)) .skip))) (.seq (.reg c55r10) (.seq (.seq (.reg c55r11) (.block 2 (.loop c55l16))) (.seq (.reg c55r17) (.cond (.t 73) (.seq (.reg c55r18) .ret) .skip)))))))) (.reg c55r19))))
def c55r21 : List AOper := [
  ⟨some 76, none, .build [(.val (.string ⟨#[]⟩)), (.val (.string ⟨#[]⟩)), (.val (.string ⟨#[]⟩)), (.val (.string ⟨#[]⟩))] []⟩,
  ⟨none, none, .store 4 (.t 8) (.t 76)⟩,
  ⟨some 9, none, .mov (.k (.p (.val (.int .i64 0))))⟩]
def c55 : ACode := (.seq (.reg c55r0) (.seq (.reg c55r1) (.seq (.seq (.reg c55r2) (.block 0 (.loop c55l20))) (.seq (.reg c55r21) .ret))))
theorem c55_eq : (Tryz.f55.body).map (tr Tryz.prog gls 77) = some c55 := by kernel_rfl
theorem k55 {S : Am.Spec} (hargs : ∀ rs φ K, S rs φ K → rs.length ≤ 77) (h : Shows Tryz.prog gls c55 [.c 8 true 4, .t 9] S) : Snd Tryz.prog gls 55 S :=
  snd_code Tryz.func55 c55_eq (by kernel_rfl) (by kernel_rfl) Tryz.ntmps55 hargs h
-- 16 bursar/quota.Fits (83 slots, 4 parameters)
def c16r0 : List AOper := [
  ⟨some 7, none, .box (.t 3)⟩,
  ⟨some 8, none, .alloc [(.val (.string ⟨#[]⟩)), (.val (.string ⟨#[]⟩)), (.val (.string ⟨#[]⟩)), (.val (.string ⟨#[]⟩))]⟩,
  ⟨some 9, none, .mov (.k (.p (.val (.int .i64 0))))⟩]
def c16r1 : List AOper := [
  ⟨some 19, none, .mov (.t 0)⟩,
  ⟨some 20, none, .isnil false (.t 19)⟩,
  ⟨some 21, none, .mov (.t 20)⟩,
  ⟨some 22, some (21, false), .mov (.t 2)⟩,
  ⟨some 23, some (21, false), .len (.t 22)⟩,
  ⟨some 24, some (21, false), .bin .gtr 3 (.t 23) (.k (.p (.val (.int .i64 1))))⟩,
  ⟨some 25, none, .pick (.t 21) (.k (.p (.val (.bool true)))) (.t 24)⟩]
def c16r2 : List AOper := [
  ⟨some 26, none, .build [(.val (.string ⟨#[]⟩)), (.val (.string ⟨#[]⟩)), (.val (.string ⟨#[]⟩)), (.val (.string ⟨#[]⟩))] []⟩,
  ⟨none, none, .store 4 (.t 8) (.t 26)⟩,
  ⟨some 9, none, .mov (.k (.p (.val (.int .i64 1))))⟩]
def c16r3 : List AOper := [
  ⟨some 27, none, .load true 7 (.t 7)⟩,
  ⟨some 28, none, .bslice 27 7 1 [(.val (.string ⟨#[]⟩)), (.val (.string ⟨#[]⟩)), (.sl [] 0), (.val (.int .i64 0)), (.val (.int .i64 0)), (.sl [] 0), (.val (.int .i64 0))] [(0, 7, (.t 27))]⟩,
  ⟨some 29, none, .mov (.t 2)⟩,
  ⟨some 30, none, .app 27 7 104 (.t 28) (.t 29)⟩,
  ⟨some 10, none, .mov (.t 30)⟩]
def c16r4 : List AOper := [
  ⟨some 31, none, .mov (.t 10)⟩,
  ⟨some 32, none, .call 51 [(.t 31), (.k (.p (.fn 52 [])))]⟩,
  ⟨some 33, none, .mov (.t 32)⟩,
  ⟨some 34, some (33, false), .mov (.t 1)⟩,
  ⟨some 35, some (33, false), .call 53 [(.t 34)]⟩,
  ⟨some 36, some (33, false), .un .not (.t 35)⟩,
  ⟨some 37, none, .pick (.t 33) (.k (.p (.val (.bool true)))) (.t 36)⟩]
def c16r5 : List AOper := [
  ⟨some 38, none, .build [(.val (.string ⟨#[]⟩)), (.val (.string ⟨#[]⟩)), (.val (.string ⟨#[]⟩)), (.val (.string ⟨#[]⟩))] []⟩,
  ⟨none, none, .store 4 (.t 8) (.t 38)⟩,
  ⟨some 9, none, .mov (.k (.p (.val (.int .i64 130))))⟩]
def c16r6 : List AOper := [
  ⟨some 40, none, .mov (.t 10)⟩,
  ⟨some 41, none, .call 54 [(.t 40)]⟩,
  ⟨some 39, none, .mov (.t 41)⟩,
  ⟨some 42, none, .ext (.t 39) 0⟩,
  ⟨some 43, none, .ext (.t 39) 1⟩,
  ⟨some 11, none, .mov (.t 42)⟩,
  ⟨some 12, none, .mov (.t 43)⟩]
def c16r7 : List AOper := [
  ⟨some 44, none, .mov (.t 12)⟩,
  ⟨some 45, none, .bin .neq 38 (.t 44) (.k (.p (.val (.int .i64 0))))⟩]
def c16r8 : List AOper := [
  ⟨some 46, none, .build [(.val (.string ⟨#[]⟩)), (.val (.string ⟨#[]⟩)), (.val (.string ⟨#[]⟩)), (.val (.string ⟨#[]⟩))] []⟩,
  ⟨some 47, none, .mov (.t 12)⟩,
  ⟨none, none, .store 4 (.t 8) (.t 46)⟩,
  ⟨some 9, none, .mov (.t 47)⟩]
def c16r9 : List AOper := [
  ⟨some 48, none, .mov (.t 1)⟩,
  ⟨some 49, none, .len (.t 48)⟩,
  ⟨some 50, none, .mov (.k (.p (.val (.int .i64 0))))⟩]
def c16r10 : List AOper := [
  ⟨some 51, none, .bin .lss 3 (.t 50) (.t 49)⟩]
def c16r11 : List AOper := [
  ⟨some 52, none, .iad 1 (.t 48) (.t 50)⟩,
  ⟨some 53, none, .load false 1 (.t 52)⟩,
  ⟨some 14, none, .mov (.t 53)⟩]
def c16r12 : List AOper := [
  ⟨some 54, none, .mov (.t 14)⟩,
  ⟨some 55, none, .len (.t 54)⟩,
  ⟨some 56, none, .mov (.k (.p (.val (.int .i64 0))))⟩]
def c16r13 : List AOper := [
  ⟨some 57, none, .bin .lss 3 (.t 56) (.t 55)⟩]
def c16r14 : List AOper := [
  ⟨some 58, none, .iad 5 (.t 54) (.t 56)⟩,
  ⟨some 59, none, .load true 5 (.t 58)⟩,
  ⟨some 16, none, .alloc [(.val (.string ⟨#[]⟩)), (.val (.string ⟨#[]⟩)), (.val (.int .i64 0)), (.val (.int .i64 0)), (.sl [] 0)]⟩,
  ⟨none, none, .store 5 (.t 16) (.t 59)⟩]
def c16r15 : List AOper := [
  ⟨some 60, none, .load true 7 (.t 7)⟩,
  ⟨some 61, none, .fad 2 (.t 16)⟩,
  ⟨some 62, none, .load true 2 (.t 61)⟩,
  ⟨some 63, none, .call 33 [(.t 60), (.t 62)]⟩,
  ⟨some 64, none, .un .not (.t 63)⟩]
def c16r16 : List AOper := [
  ⟨some 66, none, .mov (.t 0)⟩,
  ⟨some 67, none, .load true 5 (.t 16)⟩,
  ⟨some 68, none, .mov (.t 11)⟩,
  ⟨some 69, none, .slcq 8 (.t 68) (some (.k (.p (.val (.int .i64 1))))) none⟩,
  ⟨some 70, none, .mov (.t 11)⟩,
  ⟨some 71, none, .iad 8 (.t 70) (.k (.p (.val (.int .i64 0))))⟩,
  ⟨some 72, none, .load true 8 (.t 71)⟩,
  ⟨some 73, none, .callq 55 [(.t 66), (.t 67), (.t 69), (.t 72)]⟩,
  ⟨some 65, none, .mov (.t 73)⟩,
  ⟨some 74, none, .ext (.t 65) 0⟩,
  ⟨some 75, none, .ext (.t 65) 1⟩,
  ⟨some 17, none, .alloc [(.val (.string ⟨#[]⟩)), (.val (.string ⟨#[]⟩)), (.val (.string ⟨#[]⟩)), (.val (.string ⟨#[]⟩))]⟩,
  ⟨none, none, .store 4 (.t 17) (.t 74)⟩,
  ⟨some 18, none, .mov (.t 75)⟩]
def c16r17 : List AOper := [
  ⟨some 76, none, .mov (.t 18)⟩,
  ⟨some 77, none, .bin .neq 38 (.t 76) (.k (.p (.val (.int .i64 0))))⟩]
def c16r18 : List AOper := [
  ⟨some 78, none, .load true 4 (.t 17)⟩,
  ⟨some 79, none, .mov (.t 18)⟩,
  ⟨none, none, .store 4 (.t 8) (.t 78)⟩,
  ⟨some 9, none, .mov (.t 79)⟩]
def c16r19 : List AOper := [
  ⟨some 80, none, .bin .add 3 (.t 56) (.k (.p (.val (.int .i64 1))))⟩,
  ⟨some 56, none, .mov (.t 80)⟩]
def c16l20 : ACode := (.seq (.reg c16r13) (.seq (.cond (.t 57) .skip (.exit 2)) (.seq (.block 3 (.seq (.reg c16r14) (.seq (.seq (.reg c16r15) (.cond (.t 64) (.exit 3) .skip)) (.seq (.reg c16r16) (.seq (.reg c16r17) (.cond (.t 77) (.seq (.reg c16r18) .ret) .skip)))))) (.reg c16r19))))
def c16r21 : List AOper := [
  ⟨some 81, none, .bin .add 3 (.t 50) (.k (.p (.val (.int .i64 1))))⟩,
  ⟨some 50, none, .mov (.t 81)⟩]
def c16l22 : ACode := (.seq (.reg c16r10) (.seq (.cond (.t 51) .skip (.exit 0)) (.seq (.block 1 (.seq (.reg c16r11) (.seq (.reg c16r12) (.block 2 (.loop c16l20))))) (.reg c16r21))))
def c16r23 : List AOper := [
  ⟨some 82, none, .build [(.val (.string ⟨#[]⟩)), (.val (.string ⟨#[]⟩)), (.val (.string ⟨#[]⟩)), (.val (.string ⟨#[]⟩))] []⟩,
  ⟨none, none, .store 4 (.t 8) (.t 82)⟩,
  ⟨some 9, none, .mov (.k (.p (.val (.int .i64 0))))⟩]
def c16 : ACode := (.seq (.reg c16r0) (.seq (.seq (.reg c16r1) (.cond (.t 25) (.seq (.reg c16r2) .ret) .skip)) (.seq (.reg c16r3) (.seq (.seq (.reg c16r4) (.cond (.t 37) (.seq (.reg c16r5) .ret) .skip)) (.seq (.reg c16r6) (.seq (.seq (.reg c16r7) (.cond (.t 45) (.seq (.reg c16r8) .ret) .skip)) (.seq (.seq (.reg c16r9) (.block 0 (.loop c16l22))) (.seq (.reg c16r23) .ret))))))))
theorem c16_eq : (Tryz.f16.body).map (tr Tryz.prog gls 83) = some c16 := by kernel_rfl
theorem k16 {S : Am.Spec} (hargs : ∀ rs φ K, S rs φ K → rs.length ≤ 83) (h : Shows Tryz.prog gls c16 [.c 8 true 4, .t 9] S) : Snd Tryz.prog gls 16 S :=
  snd_code Tryz.func16 c16_eq (by kernel_rfl) (by kernel_rfl) Tryz.ntmps16 hargs h
-- 27 bursar/quota.Lines (40 slots, 2 parameters)
def c27r0 : List AOper := [
  ⟨some 3, none, .box (.t 1)⟩,
  ⟨some 4, none, .mov (.k (.p (.val (.slice none 0 0))))⟩]
def c27r1 : List AOper := [
  ⟨some 8, none, .mov (.t 0)⟩,
  ⟨some 9, none, .isnil false (.t 8)⟩,
  ⟨some 10, none, .mov (.t 9)⟩,
  ⟨some 11, some (10, false), .load true 5 (.t 3)⟩,
  ⟨some 12, some (10, false), .call 41 [(.t 11)]⟩,
  ⟨some 13, some (10, false), .bin .neq 38 (.t 12) (.k (.p (.val (.int .i64 0))))⟩,
  ⟨some 14, none, .pick (.t 10) (.k (.p (.val (.bool true)))) (.t 13)⟩]
def c27r2 : List AOper := [
  ⟨some 4, none, .mov (.k (.p (.val (.slice none 0 0))))⟩]
def c27r3 : List AOper := [
  ⟨some 5, none, .mov (.k (.p (.val (.slice none 0 0))))⟩]
def c27r4 : List AOper := [
  ⟨some 15, none, .fad 4 (.t 3)⟩,
  ⟨some 16, none, .load false 1 (.t 15)⟩,
  ⟨some 17, none, .len (.t 16)⟩,
  ⟨some 18, none, .mov (.k (.p (.val (.int .i64 0))))⟩]
def c27r5 : List AOper := [
  ⟨some 19, none, .bin .lss 3 (.t 18) (.t 17)⟩]
def c27r6 : List AOper := [
  ⟨some 20, none, .iad 2 (.t 16) (.t 18)⟩,
  ⟨some 21, none, .load true 2 (.t 20)⟩,
  ⟨some 7, none, .alloc [(.val (.string ⟨#[]⟩)), (.val (.int .i64 0))]⟩,
  ⟨none, none, .store 2 (.t 7) (.t 21)⟩]
def c27r7 : List AOper := [
  ⟨some 22, none, .mov (.t 5)⟩,
  ⟨some 23, none, .fad 0 (.t 7)⟩,
  ⟨some 24, none, .load false 1 (.t 23)⟩,
  ⟨some 25, none, .fad 1 (.t 7)⟩,
  ⟨some 26, none, .load false 1 (.t 25)⟩,
  ⟨some 27, none, .mov (.t 0)⟩,
  ⟨some 28, none, .fad 0 (.t 3)⟩,
  ⟨some 29, none, .load false 1 (.t 28)⟩,
  ⟨some 30, none, .fad 2 (.t 3)⟩,
  ⟨some 31, none, .load true 2 (.t 30)⟩,
  ⟨some 32, none, .fad 0 (.t 7)⟩,
  ⟨some 33, none, .load false 1 (.t 32)⟩,
  ⟨some 34, none, .callq 72 [(.t 27), (.t 29), (.t 31), (.t 33)]⟩,
  ⟨some 35, none, .buildq [(.val (.string ⟨#[]⟩)), (.val (.int .i64 0)), (.val (.int .i64 0))] [(0, 1, (.t 24)), (1, 1, (.t 26)), (2, 1, (.t 34))]⟩,
  ⟨some 36, none, .bslice 68 3 1 [(.val (.string ⟨#[]⟩)), (.val (.int .i64 0)), (.val (.int .i64 0))] [(0, 3, (.t 35))]⟩,
  ⟨some 37, none, .app 68 3 32 (.t 22) (.t 36)⟩,
  ⟨some 5, none, .mov (.t 37)⟩]
def c27r8 : List AOper := [
  ⟨some 38, none, .bin .add 3 (.t 18) (.k (.p (.val (.int .i64 1))))⟩,
  ⟨some 18, none, .mov (.t 38)⟩]
def c27l9 : ACode := (.seq (.reg c27r5) (.seq (.cond (.t 19) .skip (.exit 0)) (.seq (.block 1 (.seq (.reg c27r6) (.reg c27r7))) (.reg c27r8))))
def c27r10 : List AOper := [
  ⟨some 39, none, .mov (.t 5)⟩,
  ⟨some 4, none, .mov (.t 39)⟩]
def c27 : ACode := (.seq (.reg c27r0) (.seq (.seq (.reg c27r1) (.cond (.t 14) (.seq (.reg c27r2) .ret) .skip)) (.seq (.reg c27r3) (.seq (.seq (.reg c27r4) (.block 0 (.loop c27l9))) (.seq (.reg c27r10) .ret)))))
theorem c27_eq : (Tryz.f27.body).map (tr Tryz.prog gls 40) = some c27 := by kernel_rfl
theorem k27 {S : Am.Spec} (hargs : ∀ rs φ K, S rs φ K → rs.length ≤ 40) (h : Shows Tryz.prog gls c27 [.t 4] S) : Snd Tryz.prog gls 27 S :=
  snd_code Tryz.func27 c27_eq (by kernel_rfl) (by kernel_rfl) Tryz.ntmps27 hargs h
-- 30 bursar/quota.Below (37 slots, 2 parameters)
def c30r0 : List AOper := [
  ⟨some 3, none, .box (.t 1)⟩,
  ⟨some 4, none, .alloc [(.val (.string ⟨#[]⟩)), (.val (.string ⟨#[]⟩)), (.val (.string ⟨#[]⟩)), (.val (.string ⟨#[]⟩))]⟩,
  ⟨some 5, none, .mov (.k (.p (.val (.int .i64 0))))⟩]
def c30r1 : List AOper := [
  ⟨some 8, none, .mov (.t 0)⟩,
  ⟨some 9, none, .isnil false (.t 8)⟩]
def c30r2 : List AOper := [
  ⟨some 10, none, .build [(.val (.string ⟨#[]⟩)), (.val (.string ⟨#[]⟩)), (.val (.string ⟨#[]⟩)), (.val (.string ⟨#[]⟩))] []⟩,
  ⟨none, none, .store 4 (.t 4) (.t 10)⟩,
  ⟨some 5, none, .mov (.k (.p (.val (.int .i64 1))))⟩]
def c30r3 : List AOper := [
  ⟨some 11, none, .load true 5 (.t 3)⟩,
  ⟨some 12, none, .call 41 [(.t 11)]⟩,
  ⟨some 13, none, .bin .neq 38 (.t 12) (.k (.p (.val (.int .i64 0))))⟩]
def c30r4 : List AOper := [
  ⟨some 14, none, .build [(.val (.string ⟨#[]⟩)), (.val (.string ⟨#[]⟩)), (.val (.string ⟨#[]⟩)), (.val (.string ⟨#[]⟩))] []⟩,
  ⟨none, none, .store 4 (.t 4) (.t 14)⟩,
  ⟨some 5, none, .mov (.k (.p (.val (.int .i64 130))))⟩]
def c30r5 : List AOper := [
  ⟨some 15, none, .mov (.t 0)⟩,
  ⟨some 16, none, .load true 5 (.t 3)⟩,
  ⟨some 17, none, .call 27 [(.t 15), (.t 16)]⟩,
  ⟨some 18, none, .len (.t 17)⟩,
  ⟨some 19, none, .mov (.k (.p (.val (.int .i64 0))))⟩]
def c30r6 : List AOper := [
  ⟨some 20, none, .bin .lss 3 (.t 19) (.t 18)⟩]
def c30r7 : List AOper := [
  ⟨some 21, none, .iad 3 (.t 17) (.t 19)⟩,
  ⟨some 22, none, .load true 3 (.t 21)⟩,
  ⟨some 7, none, .alloc [(.val (.string ⟨#[]⟩)), (.val (.int .i64 0)), (.val (.int .i64 0))]⟩,
  ⟨none, none, .store 3 (.t 7) (.t 22)⟩]
def c30r8 : List AOper := [
  ⟨some 23, none, .fad 2 (.t 7)⟩,
  ⟨some 24, none, .load false 1 (.t 23)⟩,
  ⟨some 25, none, .fad 1 (.t 7)⟩,
  ⟨some 26, none, .load false 1 (.t 25)⟩,
  ⟨some 27, none, .bin .gtr 2 (.t 24) (.t 26)⟩]
def c30r9 : List AOper := [
  ⟨some 28, none, .fad 0 (.t 3)⟩,
  ⟨some 29, none, .load false 1 (.t 28)⟩,
  ⟨some 30, none, .fad 1 (.t 3)⟩,
  ⟨some 31, none, .load false 1 (.t 30)⟩,
  ⟨some 32, none, .fad 0 (.t 7)⟩,
  ⟨some 33, none, .load false 1 (.t 32)⟩,
  ⟨some 34, none, .build [(.val (.string ⟨#[]⟩)), (.val (.string ⟨#[]⟩)), (.val (.string ⟨#[]⟩)), (.val (.string ⟨#[]⟩))] [(0, 1, (.t 29)), (1, 1, (.t 31)), (3, 1, (.t 33))]⟩,
  ⟨none, none, .store 4 (.t 4) (.t 34)⟩,
  ⟨some 5, none, .mov (.k (.p (.val (.int .i64 182))))⟩]
def c30r10 : List AOper := [
  ⟨some 35, none, .bin .add 3 (.t 19) (.k (.p (.val (.int .i64 1))))⟩,
  ⟨some 19, none, .mov (.t 35)⟩]
def c30l11 : ACode := (.seq (.reg c30r6) (.seq (.cond (.t 20) .skip (.exit 0)) (.seq (.block 1 (.seq (.reg c30r7) (.seq (.reg c30r8) (.cond (.t 27) (.seq (.reg c30r9) .ret) .skip)))) (.reg c30r10))))
def c30r12 : List AOper := [
  ⟨some 36, none, .build [(.val (.string ⟨#[]⟩)), (.val (.string ⟨#[]⟩)), (.val (.string ⟨#[]⟩)), (.val (.string ⟨#[]⟩))] []⟩,
  ⟨none, none, .store 4 (.t 4) (.t 36)⟩,
  ⟨some 5, none, .mov (.k (.p (.val (.int .i64 0))))⟩]
def c30 : ACode := (.seq (.reg c30r0) (.seq (.seq (.reg c30r1) (.cond (.t 9) (.seq (.reg c30r2) .ret) .skip)) (.seq (.seq (.reg c30r3) (.cond (.t 13) (.seq (.reg c30r4) .ret) .skip)) (.seq (.seq (.reg c30r5) (.block 0 (.loop c30l11))) (.seq (.reg c30r12) .ret)))))
theorem c30_eq : (Tryz.f30.body).map (tr Tryz.prog gls 37) = some c30 := by kernel_rfl
theorem k30 {S : Am.Spec} (hargs : ∀ rs φ K, S rs φ K → rs.length ≤ 37) (h : Shows Tryz.prog gls c30 [.c 4 true 4, .t 5] S) : Snd Tryz.prog gls 30 S :=
  snd_code Tryz.func30 c30_eq (by kernel_rfl) (by kernel_rfl) Tryz.ntmps30 hargs h
end Go.Proofs.YtnjblinbdimkjaaGreatDoor
