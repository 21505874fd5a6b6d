/-
  bursarlaw18.QuotaApart answers true and leaves its arguments as they were, for inputs of bulk at most 1048576 (the given second form; no other condition). Part 13 of 26 of the proof.
-/
import Derived.Test.YtnjblinbdimkjaaGreatDoorM12
namespace Go.Proofs.YtnjblinbdimkjaaGreatDoor
open Go Go.Am
-- 119 slices.IndexFunc[[]bursar/api.Amount,bursar/api.Amount] (19 slots, 2 parameters)
def c119r0 : List AOper := [
  ⟨some 4, none, .mov (.k (.p (.val (.int .i64 0))))⟩]
def c119r1 : List AOper := [
  ⟨some 6, none, .mov (.t 0)⟩,
  ⟨some 7, none, .len (.t 6)⟩,
  ⟨some 8, none, .mov (.k (.p (.val (.int .i64 0))))⟩]
def c119r2 : List AOper := [
  ⟨some 9, none, .bin .lss 3 (.t 8) (.t 7)⟩]
def c119r3 : List AOper := [
  ⟨some 10, none, .mov (.t 8)⟩,
  ⟨some 5, none, .mov (.t 10)⟩]
def c119r4 : List AOper := [
  ⟨some 11, none, .mov (.t 1)⟩,
  ⟨some 12, none, .mov (.t 0)⟩,
  ⟨some 13, none, .mov (.t 5)⟩,
  ⟨some 14, none, .iad 2 (.t 12) (.t 13)⟩,
  ⟨some 15, none, .load true 2 (.t 14)⟩,
  ⟨some 16, none, .callv (.t 11) [(.t 15)]⟩]
def c119r5 : List AOper := [
  ⟨some 17, none, .mov (.t 5)⟩,
  ⟨some 4, none, .mov (.t 17)⟩]
def c119r6 : List AOper := [
  ⟨some 18, none, .bin .add 3 (.t 8) (.k (.p (.val (.int .i64 1))))⟩,
  ⟨some 8, none, .mov (.t 18)⟩]
def c119l7 : ACode := (.seq (.reg c119r2) (.seq (.cond (.t 9) .skip (.exit 0)) (.seq (.block 1 (.seq (.reg c119r3) (.seq (.reg c119r4) (.cond (.t 16) (.seq (.reg c119r5) .ret) .skip)))) (.reg c119r6))))
def c119r8 : List AOper := [
  ⟨some 4, none, .mov (.k (.p (.val (.int .i64 (-1)))))⟩]
def c119 : ACode := (.seq (.reg c119r0) (.seq (.seq (.reg c119r1) (.block 0 (.loop c119l7))) (.seq (.reg c119r8) .ret)))
theorem c119_eq : (Tryz.f119.body).map (tr Tryz.prog gls 19) = some c119 := by kernel_rfl
theorem k119 {S : Am.Spec} (hargs : ∀ rs φ K, S rs φ K → rs.length ≤ 19) (h : Shows Tryz.prog gls c119 [.t 4] S) : Snd Tryz.prog gls 119 S :=
  snd_code Tryz.func119 c119_eq (by kernel_rfl) (by kernel_rfl) Tryz.ntmps119 hargs h
-- 63 slices.ContainsFunc[[]bursar/api.Amount,bursar/api.Amount] (9 slots, 2 parameters)
def c63r0 : List AOper := [
  ⟨some 4, none, .mov (.k (.p (.val (.bool false))))⟩]
def c63r1 : List AOper := [
  ⟨some 5, none, .mov (.t 0)⟩,
  ⟨some 6, none, .mov (.t 1)⟩,
  ⟨some 7, none, .call 119 [(.t 5), (.t 6)]⟩,
  ⟨some 8, none, .bin .geq 3 (.t 7) (.k (.p (.val (.int .i64 0))))⟩,
  ⟨some 4, none, .mov (.t 8)⟩]
def c63 : ACode := (.seq (.reg c63r0) (.seq (.reg c63r1) .ret))
theorem c63_eq : (Tryz.f63.body).map (tr Tryz.prog gls 9) = some c63 := by kernel_rfl
theorem k63 {S : Am.Spec} (hargs : ∀ rs φ K, S rs φ K → rs.length ≤ 9) (h : Shows Tryz.prog gls c63 [.t 4] S) : Snd Tryz.prog gls 63 S :=
  snd_code Tryz.func63 c63_eq (by kernel_rfl) (by kernel_rfl) Tryz.ntmps63 hargs h
-- 94 slices.IndexFunc[[]bursar/api.Object,bursar/api.Object] (19 slots, 2 parameters)
def c94r0 : List AOper := [
  ⟨some 4, none, .mov (.k (.p (.val (.int .i64 0))))⟩]
def c94r1 : List AOper := [
  ⟨some 6, none, .mov (.t 0)⟩,
  ⟨some 7, none, .len (.t 6)⟩,
  ⟨some 8, none, .mov (.k (.p (.val (.int .i64 0))))⟩]
def c94r2 : List AOper := [
  ⟨some 9, none, .bin .lss 3 (.t 8) (.t 7)⟩]
def c94r3 : List AOper := [
  ⟨some 10, none, .mov (.t 8)⟩,
  ⟨some 5, none, .mov (.t 10)⟩]
def c94r4 : List AOper := [
  ⟨some 11, none, .mov (.t 1)⟩,
  ⟨some 12, none, .mov (.t 0)⟩,
  ⟨some 13, none, .mov (.t 5)⟩,
  ⟨some 14, none, .iad 7 (.t 12) (.t 13)⟩,
  ⟨some 15, none, .load true 7 (.t 14)⟩,
  ⟨some 16, none, .callv (.t 11) [(.t 15)]⟩]
def c94r5 : List AOper := [
  ⟨some 17, none, .mov (.t 5)⟩,
  ⟨some 4, none, .mov (.t 17)⟩]
def c94r6 : List AOper := [
  ⟨some 18, none, .bin .add 3 (.t 8) (.k (.p (.val (.int .i64 1))))⟩,
  ⟨some 8, none, .mov (.t 18)⟩]
def c94l7 : ACode := (.seq (.reg c94r2) (.seq (.cond (.t 9) .skip (.exit 0)) (.seq (.block 1 (.seq (.reg c94r3) (.seq (.reg c94r4) (.cond (.t 16) (.seq (.reg c94r5) .ret) .skip)))) (.reg c94r6))))
def c94r8 : List AOper := [
  ⟨some 4, none, .mov (.k (.p (.val (.int .i64 (-1)))))⟩]
def c94 : ACode := (.seq (.reg c94r0) (.seq (.seq (.reg c94r1) (.block 0 (.loop c94l7))) (.seq (.reg c94r8) .ret)))
theorem c94_eq : (Tryz.f94.body).map (tr Tryz.prog gls 19) = some c94 := by kernel_rfl
theorem k94 {S : Am.Spec} (hargs : ∀ rs φ K, S rs φ K → rs.length ≤ 19) (h : Shows Tryz.prog gls c94 [.t 4] S) : Snd Tryz.prog gls 94 S :=
  snd_code Tryz.func94 c94_eq (by kernel_rfl) (by kernel_rfl) Tryz.ntmps94 hargs h
-- 51 slices.ContainsFunc[[]bursar/api.Object,bursar/api.Object] (9 slots, 2 parameters)
def c51r0 : List AOper := [
  ⟨some 4, none, .mov (.k (.p (.val (.bool false))))⟩]
def c51r1 : List AOper := [
  ⟨some 5, none, .mov (.t 0)⟩,
  ⟨some 6, none, .mov (.t 1)⟩,
  ⟨some 7, none, .call 94 [(.t 5), (.t 6)]⟩,
  ⟨some 8, none, .bin .geq 3 (.t 7) (.k (.p (.val (.int .i64 0))))⟩,
  ⟨some 4, none, .mov (.t 8)⟩]
def c51 : ACode := (.seq (.reg c51r0) (.seq (.reg c51r1) .ret))
theorem c51_eq : (Tryz.f51.body).map (tr Tryz.prog gls 9) = some c51 := by kernel_rfl
theorem k51 {S : Am.Spec} (hargs : ∀ rs φ K, S rs φ K → rs.length ≤ 9) (h : Shows Tryz.prog gls c51 [.t 4] S) : Snd Tryz.prog gls 51 S :=
  snd_code Tryz.func51 c51_eq (by kernel_rfl) (by kernel_rfl) Tryz.ntmps51 hargs h
-- 143 slices.IndexFunc[[]bursar/api.Quota,bursar/api.Quota] (19 slots, 2 parameters)
def c143r0 : List AOper := [
  ⟨some 4, none, .mov (.k (.p (.val (.int .i64 0))))⟩]
def c143r1 : List AOper := [
  ⟨some 6, none, .mov (.t 0)⟩,
  ⟨some 7, none, .len (.t 6)⟩,
  ⟨some 8, none, .mov (.k (.p (.val (.int .i64 0))))⟩]
def c143r2 : List AOper := [
  ⟨some 9, none, .bin .lss 3 (.t 8) (.t 7)⟩]
def c143r3 : List AOper := [
  ⟨some 10, none, .mov (.t 8)⟩,
  ⟨some 5, none, .mov (.t 10)⟩]
def c143r4 : List AOper := [
  ⟨some 11, none, .mov (.t 1)⟩,
  ⟨some 12, none, .mov (.t 0)⟩,
  ⟨some 13, none, .mov (.t 5)⟩,
  ⟨some 14, none, .iad 5 (.t 12) (.t 13)⟩,
  ⟨some 15, none, .load true 5 (.t 14)⟩,
  ⟨some 16, none, .callv (.t 11) [(.t 15)]⟩]
def c143r5 : List AOper := [
  ⟨some 17, none, .mov (.t 5)⟩,
  ⟨some 4, none, .mov (.t 17)⟩]
def c143r6 : List AOper := [
  ⟨some 18, none, .bin .add 3 (.t 8) (.k (.p (.val (.int .i64 1))))⟩,
  ⟨some 8, none, .mov (.t 18)⟩]
def c143l7 : ACode := (.seq (.reg c143r2) (.seq (.cond (.t 9) .skip (.exit 0)) (.seq (.block 1 (.seq (.reg c143r3) (.seq (.reg c143r4) (.cond (.t 16) (.seq (.reg c143r5) .ret) .skip)))) (.reg c143r6))))
def c143r8 : List AOper := [
  ⟨some 4, none, .mov (.k (.p (.val (.int .i64 (-1)))))⟩]
def c143 : ACode := (.seq (.reg c143r0) (.seq (.seq (.reg c143r1) (.block 0 (.loop c143l7))) (.seq (.reg c143r8) .ret)))
theorem c143_eq : (Tryz.f143.body).map (tr Tryz.prog gls 19) = some c143 := by kernel_rfl
theorem k143 {S : Am.Spec} (hargs : ∀ rs φ K, S rs φ K → rs.length ≤ 19) (h : Shows Tryz.prog gls c143 [.t 4] S) : Snd Tryz.prog gls 143 S :=
  snd_code Tryz.func143 c143_eq (by kernel_rfl) (by kernel_rfl) Tryz.ntmps143 hargs h
-- 95 slices.ContainsFunc[[]bursar/api.Quota,bursar/api.Quota] (9 slots, 2 parameters)
def c95r0 : List AOper := [
  ⟨some 4, none, .mov (.k (.p (.val (.bool false))))⟩]
def c95r1 : List AOper := [
  ⟨some 5, none, .mov (.t 0)⟩,
  ⟨some 6, none, .mov (.t 1)⟩,
  ⟨some 7, none, .call 143 [(.t 5), (.t 6)]⟩,
  ⟨some 8, none, .bin .geq 3 (.t 7) (.k (.p (.val (.int .i64 0))))⟩,
  ⟨some 4, none, .mov (.t 8)⟩]
def c95 : ACode := (.seq (.reg c95r0) (.seq (.reg c95r1) .ret))
theorem c95_eq : (Tryz.f95.body).map (tr Tryz.prog gls 9) = some c95 := by kernel_rfl
theorem k95 {S : Am.Spec} (hargs : ∀ rs φ K, S rs φ K → rs.length ≤ 9) (h : Shows Tryz.prog gls c95 [.t 4] S) : Snd Tryz.prog gls 95 S :=
  snd_code Tryz.func95 c95_eq (by kernel_rfl) (by kernel_rfl) Tryz.ntmps95 hargs h
-- 209 slices.IndexFunc[[]bursar/api.Part,bursar/api.Part] (19 slots, 2 parameters)
def c209r0 : List AOper := [
  ⟨some 4, none, .mov (.k (.p (.val (.int .i64 0))))⟩]
def c209r1 : List AOper := [
  ⟨some 6, none, .mov (.t 0)⟩,
  ⟨some 7, none, .len (.t 6)⟩,
  ⟨some 8, none, .mov (.k (.p (.val (.int .i64 0))))⟩]
def c209r2 : List AOper := [
  ⟨some 9, none, .bin .lss 3 (.t 8) (.t 7)⟩]
def c209r3 : List AOper := [
  ⟨some 10, none, .mov (.t 8)⟩,
  ⟨some 5, none, .mov (.t 10)⟩]
def c209r4 : List AOper := [
  ⟨some 11, none, .mov (.t 1)⟩,
  ⟨some 12, none, .mov (.t 0)⟩,
  ⟨some 13, none, .mov (.t 5)⟩,
  ⟨some 14, none, .iad 3 (.t 12) (.t 13)⟩,
  ⟨some 15, none, .load true 3 (.t 14)⟩,
  ⟨some 16, none, .callv (.t 11) [(.t 15)]⟩]
def c209r5 : List AOper := [
  ⟨some 17, none, .mov (.t 5)⟩,
  ⟨some 4, none, .mov (.t 17)⟩]
def c209r6 : List AOper := [
  ⟨some 18, none, .bin .add 3 (.t 8) (.k (.p (.val (.int .i64 1))))⟩,
  ⟨some 8, none, .mov (.t 18)⟩]
def c209l7 : ACode := (.seq (.reg c209r2) (.seq (.cond (.t 9) .skip (.exit 0)) (.seq (.block 1 (.seq (.reg c209r3) (.seq (.reg c209r4) (.cond (.t 16) (.seq (.reg c209r5) .ret) .skip)))) (.reg c209r6))))
def c209r8 : List AOper := [
  ⟨some 4, none, .mov (.k (.p (.val (.int .i64 (-1)))))⟩]
def c209 : ACode := (.seq (.reg c209r0) (.seq (.seq (.reg c209r1) (.block 0 (.loop c209l7))) (.seq (.reg c209r8) .ret)))
theorem c209_eq : (Tryz.f209.body).map (tr Tryz.prog gls 19) = some c209 := by kernel_rfl
theorem k209 {S : Am.Spec} (hargs : ∀ rs φ K, S rs φ K → rs.length ≤ 19) (h : Shows Tryz.prog gls c209 [.t 4] S) : Snd Tryz.prog gls 209 S :=
  snd_code Tryz.func209 c209_eq (by kernel_rfl) (by kernel_rfl) Tryz.ntmps209 hargs h
-- 181 slices.ContainsFunc[[]bursar/api.Part,bursar/api.Part] (9 slots, 2 parameters)
def c181r0 : List AOper := [
  ⟨some 4, none, .mov (.k (.p (.val (.bool false))))⟩]
def c181r1 : List AOper := [
  ⟨some 5, none, .mov (.t 0)⟩,
  ⟨some 6, none, .mov (.t 1)⟩,
  ⟨some 7, none, .call 209 [(.t 5), (.t 6)]⟩,
  ⟨some 8, none, .bin .geq 3 (.t 7) (.k (.p (.val (.int .i64 0))))⟩,
  ⟨some 4, none, .mov (.t 8)⟩]
def c181 : ACode := (.seq (.reg c181r0) (.seq (.reg c181r1) .ret))
theorem c181_eq : (Tryz.f181.body).map (tr Tryz.prog gls 9) = some c181 := by kernel_rfl
theorem k181 {S : Am.Spec} (hargs : ∀ rs φ K, S rs φ K → rs.length ≤ 9) (h : Shows Tryz.prog gls c181 [.t 4] S) : Snd Tryz.prog gls 181 S :=
  snd_code Tryz.func181 c181_eq (by kernel_rfl) (by kernel_rfl) Tryz.ntmps181 hargs h
-- 182 bursar/scope.names$1 (11 slots, 1 parameters)
def c182r0 : List AOper := [
  ⟨some 1, none, .box (.t 0)⟩,
  ⟨some 2, none, .mov (.k (.p (.val (.bool false))))⟩]
def c182r1 : List AOper := [
  ⟨some 3, none, .fad 1 (.t 1)⟩,
  ⟨some 4, none, .load false 1 (.t 3)⟩,
  ⟨some 5, none, .len (.t 4)⟩,
  ⟨some 6, none, .fad 2 (.t 1)⟩,
  ⟨some 7, none, .load false 1 (.t 6)⟩,
  ⟨some 8, none, .len (.t 7)⟩,
  ⟨some 9, none, .bin .add 3 (.t 5) (.t 8)⟩,
  ⟨some 10, none, .bin .gtr 3 (.t 9) (.k (.p (.val (.int .i64 0))))⟩,
  ⟨some 2, none, .mov (.t 10)⟩]
def c182 : ACode := (.seq (.reg c182r0) (.seq (.reg c182r1) .ret))
theorem c182_eq : (Tryz.f182.body).map (tr Tryz.prog gls 11) = some c182 := by kernel_rfl
theorem k182 {S : Am.Spec} (hargs : ∀ rs φ K, S rs φ K → rs.length ≤ 11) (h : Shows Tryz.prog gls c182 [.t 2] S) : Snd Tryz.prog gls 182 S :=
  snd_code Tryz.func182 c182_eq (by kernel_rfl) (by kernel_rfl) Tryz.ntmps182 hargs h
-- 127 bursar/scope.names (6 slots, 1 parameters)
def c127r0 : List AOper := [
  ⟨some 1, none, .box (.t 0)⟩,
  ⟨some 2, none, .mov (.k (.p (.val (.bool false))))⟩]
def c127r1 : List AOper := [
  ⟨some 3, none, .fad 5 (.t 1)⟩,
  ⟨some 4, none, .load false 1 (.t 3)⟩,
  ⟨some 5, none, .call 181 [(.t 4), (.k (.p (.fn 182 [])))]⟩,
  ⟨some 2, none, .mov (.t 5)⟩]
def c127 : ACode := (.seq (.reg c127r0) (.seq (.reg c127r1) .ret))
theorem c127_eq : (Tryz.f127.body).map (tr Tryz.prog gls 6) = some c127 := by kernel_rfl
theorem k127 {S : Am.Spec} (hargs : ∀ rs φ K, S rs φ K → rs.length ≤ 6) (h : Shows Tryz.prog gls c127 [.t 2] S) : Snd Tryz.prog gls 127 S :=
  snd_code Tryz.func127 c127_eq (by kernel_rfl) (by kernel_rfl) Tryz.ntmps127 hargs h
-- 126 bursar/scope.kindOf$1 (8 slots, 2 parameters)
def c126r0 : List AOper := [
  ⟨some 2, none, .box (.t 0)⟩,
  ⟨some 4, none, .mov (.k (.p (.val (.bool false))))⟩]
def c126r1 : List AOper := [
  ⟨some 5, none, .load true 7 (.t 2)⟩,
  ⟨some 6, none, .call 127 [(.t 5)]⟩,
  ⟨some 7, none, .un .not (.t 6)⟩,
  ⟨some 4, none, .mov (.t 7)⟩]
def c126 : ACode := (.seq (.reg c126r0) (.seq (.reg c126r1) .ret))
theorem c126_eq : (Tryz.f126.body).map (tr Tryz.prog gls 8) = some c126 := by kernel_rfl
theorem k126 {S : Am.Spec} (hargs : ∀ rs φ K, S rs φ K → rs.length ≤ 8) (h : Shows Tryz.prog gls c126 [.t 4] S) : Snd Tryz.prog gls 126 S :=
  snd_code Tryz.func126 c126_eq (by kernel_rfl) (by kernel_rfl) Tryz.ntmps126 hargs h
-- 128 bursar/scope.kindOf$2 (7 slots, 2 parameters)
def c128r0 : List AOper := [
  ⟨some 2, none, .box (.t 0)⟩,
  ⟨some 4, none, .mov (.k (.p (.val (.bool false))))⟩]
def c128r1 : List AOper := [
  ⟨some 5, none, .load true 7 (.t 2)⟩,
  ⟨some 6, none, .call 127 [(.t 5)]⟩,
  ⟨some 4, none, .mov (.t 6)⟩]
def c128 : ACode := (.seq (.reg c128r0) (.seq (.reg c128r1) .ret))
theorem c128_eq : (Tryz.f128.body).map (tr Tryz.prog gls 7) = some c128 := by kernel_rfl
theorem k128 {S : Am.Spec} (hargs : ∀ rs φ K, S rs φ K → rs.length ≤ 7) (h : Shows Tryz.prog gls c128 [.t 4] S) : Snd Tryz.prog gls 128 S :=
  snd_code Tryz.func128 c128_eq (by kernel_rfl) (by kernel_rfl) Tryz.ntmps128 hargs h
-- 129 bursar/scope.kindOf$3 (8 slots, 2 parameters)
def c129r0 : List AOper := [
  ⟨some 2, none, .box (.t 0)⟩,
  ⟨some 4, none, .mov (.k (.p (.val (.bool false))))⟩]
def c129r1 : List AOper := [
  ⟨some 5, none, .fad 4 (.t 2)⟩,
  ⟨some 6, none, .load false 1 (.t 5)⟩,
  ⟨some 7, none, .bin .gtr 2 (.t 6) (.k (.p (.val (.int .i64 0))))⟩,
  ⟨some 4, none, .mov (.t 7)⟩]
def c129 : ACode := (.seq (.reg c129r0) (.seq (.reg c129r1) .ret))
theorem c129_eq : (Tryz.f129.body).map (tr Tryz.prog gls 8) = some c129 := by kernel_rfl
theorem k129 {S : Am.Spec} (hargs : ∀ rs φ K, S rs φ K → rs.length ≤ 8) (h : Shows Tryz.prog gls c129 [.t 4] S) : Snd Tryz.prog gls 129 S :=
  snd_code Tryz.func129 c129_eq (by kernel_rfl) (by kernel_rfl) Tryz.ntmps129 hargs h
-- 130 bursar/scope.kindOf$4 (8 slots, 2 parameters)
def c130r0 : List AOper := [
  ⟨some 2, none, .box (.t 0)⟩,
  ⟨some 4, none, .mov (.k (.p (.val (.bool false))))⟩]
def c130r1 : List AOper := [
  ⟨some 5, none, .fad 4 (.t 2)⟩,
  ⟨some 6, none, .load false 1 (.t 5)⟩,
  ⟨some 7, none, .bin .leq 2 (.t 6) (.k (.p (.val (.int .i64 0))))⟩,
  ⟨some 4, none, .mov (.t 7)⟩]
def c130 : ACode := (.seq (.reg c130r0) (.seq (.reg c130r1) .ret))
theorem c130_eq : (Tryz.f130.body).map (tr Tryz.prog gls 8) = some c130 := by kernel_rfl
theorem k130 {S : Am.Spec} (hargs : ∀ rs φ K, S rs φ K → rs.length ≤ 8) (h : Shows Tryz.prog gls c130 [.t 4] S) : Snd Tryz.prog gls 130 S :=
  snd_code Tryz.func130 c130_eq (by kernel_rfl) (by kernel_rfl) Tryz.ntmps130 hargs h
-- 131 bursar/scope.kindOf$5 (9 slots, 2 parameters)
def c131r0 : List AOper := [
  ⟨some 2, none, .box (.t 0)⟩,
  ⟨some 4, none, .mov (.k (.p (.val (.bool false))))⟩]
def c131r1 : List AOper := [
  ⟨some 5, none, .fad 3 (.t 2)⟩,
  ⟨some 6, none, .load false 1 (.t 5)⟩,
  ⟨some 7, none, .mov (.t 1)⟩,
  ⟨some 8, none, .bin .eql 3 (.t 6) (.t 7)⟩,
  ⟨some 4, none, .mov (.t 8)⟩]
def c131 : ACode := (.seq (.reg c131r0) (.seq (.reg c131r1) .ret))
theorem c131_eq : (Tryz.f131.body).map (tr Tryz.prog gls 9) = some c131 := by kernel_rfl
theorem k131 {S : Am.Spec} (hargs : ∀ rs φ K, S rs φ K → rs.length ≤ 9) (h : Shows Tryz.prog gls c131 [.t 4] S) : Snd Tryz.prog gls 131 S :=
  snd_code Tryz.func131 c131_eq (by kernel_rfl) (by kernel_rfl) Tryz.ntmps131 hargs h
-- 132 bursar/scope.kindOf$6 (5 slots, 2 parameters)
def c132r0 : List AOper := [
  ⟨some 2, none, .box (.t 0)⟩,
  ⟨some 4, none, .mov (.k (.p (.val (.bool false))))⟩]
def c132r1 : List AOper := [
  ⟨some 4, none, .mov (.k (.p (.val (.bool true))))⟩]
def c132 : ACode := (.seq (.reg c132r0) (.seq (.reg c132r1) .ret))
theorem c132_eq : (Tryz.f132.body).map (tr Tryz.prog gls 5) = some c132 := by kernel_rfl
theorem k132 {S : Am.Spec} (hargs : ∀ rs φ K, S rs φ K → rs.length ≤ 5) (h : Shows Tryz.prog gls c132 [.t 4] S) : Snd Tryz.prog gls 132 S :=
  snd_code Tryz.func132 c132_eq (by kernel_rfl) (by kernel_rfl) Tryz.ntmps132 hargs h
-- 77 bursar/scope.kindOf (38 slots, 1 parameters)
def c77r0 : List AOper := [
  ⟨some 2, none, .alloc [(.val (.string ⟨#[]⟩)), (.val .nilFunc)]⟩]
def c77r1 : List AOper := [
  ⟨some 3, none, .mov (.t 0)⟩]
def c77r2 : List AOper := [
  ⟨some 5, none, .bin .eql 3 (.t 3) (.k (.p (.val (.int .i64 1))))⟩,
  ⟨some 4, none, .mov (.t 5)⟩]
def c77r3 : List AOper := [
  ⟨some 6, none, .mov (.t 0)⟩,
  ⟨some 7, none, .iada 1 6 (.k (.p (.ip [(.val (.string ⟨#[97, 108, 108]⟩)), (.val (.string ⟨#[98, 101, 115, 116]⟩)), (.val (.string ⟨#[110, 111, 116, 98, 101, 115, 116]⟩)), (.val (.string ⟨#[101, 110, 100, 115]⟩)), (.val (.string ⟨#[110, 111, 116, 101, 110, 100, 115]⟩)), (.val (.string ⟨#[112, 114, 105, 111, 114, 105, 116, 121, 61]⟩))]))) (.t 6)⟩,
  ⟨some 8, none, .load false 1 (.t 7)⟩,
  ⟨some 9, none, .build [(.val (.string ⟨#[]⟩)), (.val .nilFunc)] [(0, 1, (.t 8)), (1, 1, (.k (.p (.fn 126 []))))]⟩,
  ⟨none, none, .store 2 (.t 2) (.t 9)⟩]
def c77r4 : List AOper := [
  ⟨some 11, none, .bin .eql 3 (.t 3) (.k (.p (.val (.int .i64 2))))⟩,
  ⟨some 10, none, .mov (.t 11)⟩]
def c77r5 : List AOper := [
  ⟨some 12, none, .mov (.t 0)⟩,
  ⟨some 13, none, .iada 1 6 (.k (.p (.ip [(.val (.string ⟨#[97, 108, 108]⟩)), (.val (.string ⟨#[98, 101, 115, 116]⟩)), (.val (.string ⟨#[110, 111, 116, 98, 101, 115, 116]⟩)), (.val (.string ⟨#[101, 110, 100, 115]⟩)), (.val (.string ⟨#[110, 111, 116, 101, 110, 100, 115]⟩)), (.val (.string ⟨#[112, 114, 105, 111, 114, 105, 116, 121, 61]⟩))]))) (.t 12)⟩,
  ⟨some 14, none, .load false 1 (.t 13)⟩,
  ⟨some 15, none, .build [(.val (.string ⟨#[]⟩)), (.val .nilFunc)] [(0, 1, (.t 14)), (1, 1, (.k (.p (.fn 128 []))))]⟩,
  ⟨none, none, .store 2 (.t 2) (.t 15)⟩]
def c77r6 : List AOper := [
  ⟨some 17, none, .bin .eql 3 (.t 3) (.k (.p (.val (.int .i64 3))))⟩,
  ⟨some 16, none, .mov (.t 17)⟩]
def c77r7 : List AOper := [
  ⟨some 18, none, .mov (.t 0)⟩,
  ⟨some 19, none, .iada 1 6 (.k (.p (.ip [(.val (.string ⟨#[97, 108, 108]⟩)), (.val (.string ⟨#[98, 101, 115, 116]⟩)), (.val (.string ⟨#[110, 111, 116, 98, 101, 115, 116]⟩)), (.val (.string ⟨#[101, 110, 100, 115]⟩)), (.val (.string ⟨#[110, 111, 116, 101, 110, 100, 115]⟩)), (.val (.string ⟨#[112, 114, 105, 111, 114, 105, 116, 121, 61]⟩))]))) (.t 18)⟩,
  ⟨some 20, none, .load false 1 (.t 19)⟩,
  ⟨some 21, none, .build [(.val (.string ⟨#[]⟩)), (.val .nilFunc)] [(0, 1, (.t 20)), (1, 1, (.k (.p (.fn 129 []))))]⟩,
  ⟨none, none, .store 2 (.t 2) (.t 21)⟩]
def c77r8 : List AOper := [
  ⟨some 23, none, .bin .eql 3 (.t 3) (.k (.p (.val (.int .i64 4))))⟩,
  ⟨some 22, none, .mov (.t 23)⟩]
def c77r9 : List AOper := [
  ⟨some 24, none, .mov (.t 0)⟩,
  ⟨some 25, none, .iada 1 6 (.k (.p (.ip [(.val (.string ⟨#[97, 108, 108]⟩)), (.val (.string ⟨#[98, 101, 115, 116]⟩)), (.val (.string ⟨#[110, 111, 116, 98, 101, 115, 116]⟩)), (.val (.string ⟨#[101, 110, 100, 115]⟩)), (.val (.string ⟨#[110, 111, 116, 101, 110, 100, 115]⟩)), (.val (.string ⟨#[112, 114, 105, 111, 114, 105, 116, 121, 61]⟩))]))) (.t 24)⟩,
  ⟨some 26, none, .load false 1 (.t 25)⟩,
  ⟨some 27, none, .build [(.val (.string ⟨#[]⟩)), (.val .nilFunc)] [(0, 1, (.t 26)), (1, 1, (.k (.p (.fn 130 []))))]⟩,
  ⟨none, none, .store 2 (.t 2) (.t 27)⟩]
def c77r10 : List AOper := [
  ⟨some 29, none, .bin .eql 3 (.t 3) (.k (.p (.val (.int .i64 5))))⟩,
  ⟨some 28, none, .mov (.t 29)⟩]
def c77r11 : List AOper := [
  ⟨some 30, none, .mov (.t 0)⟩,
  ⟨some 31, none, .iada 1 6 (.k (.p (.ip [(.val (.string ⟨#[97, 108, 108]⟩)), (.val (.string ⟨#[98, 101, 115, 116]⟩)), (.val (.string ⟨#[110, 111, 116, 98, 101, 115, 116]⟩)), (.val (.string ⟨#[101, 110, 100, 115]⟩)), (.val (.string ⟨#[110, 111, 116, 101, 110, 100, 115]⟩)), (.val (.string ⟨#[112, 114, 105, 111, 114, 105, 116, 121, 61]⟩))]))) (.t 30)⟩,
  ⟨some 32, none, .load false 1 (.t 31)⟩,
  ⟨some 33, none, .build [(.val (.string ⟨#[]⟩)), (.val .nilFunc)] [(0, 1, (.t 32)), (1, 1, (.k (.p (.fn 131 []))))]⟩,
  ⟨none, none, .store 2 (.t 2) (.t 33)⟩]
def c77r12 : List AOper := [
  ⟨some 34, none, .mov (.t 0)⟩,
  ⟨some 35, none, .iada 1 6 (.k (.p (.ip [(.val (.string ⟨#[97, 108, 108]⟩)), (.val (.string ⟨#[98, 101, 115, 116]⟩)), (.val (.string ⟨#[110, 111, 116, 98, 101, 115, 116]⟩)), (.val (.string ⟨#[101, 110, 100, 115]⟩)), (.val (.string ⟨#[110, 111, 116, 101, 110, 100, 115]⟩)), (.val (.string ⟨#[112, 114, 105, 111, 114, 105, 116, 121, 61]⟩))]))) (.t 34)⟩,
  ⟨some 36, none, .load false 1 (.t 35)⟩,
  ⟨some 37, none, .build [(.val (.string ⟨#[]⟩)), (.val .nilFunc)] [(0, 1, (.t 36)), (1, 1, (.k (.p (.fn 132 []))))]⟩,
  ⟨none, none, .store 2 (.t 2) (.t 37)⟩]
def c77 : ACode := (.seq (.reg c77r0) (.seq (.seq (.reg c77r1) (.block 0 (.seq (.reg c77r2) (.cond (.t 4) (.seq (.reg c77r3) .ret) (.seq (.reg c77r4) (.cond (.t 10) (.seq (.reg c77r5) .ret) (.seq (.reg c77r6) (.cond (.t 16) (.seq (.reg c77r7) .ret) (.seq (.reg c77r8) (.cond (.t 22) (.seq (.reg c77r9) .ret) (.seq (.reg c77r10) (.cond (.t 28) (.seq (.reg c77r11) .ret) .skip)))))))))))) (.seq (.reg c77r12) .ret)))
theorem c77_eq : (Tryz.f77.body).map (tr Tryz.prog gls 38) = some c77 := by kernel_rfl
theorem k77 {S : Am.Spec} (hargs : ∀ rs φ K, S rs φ K → rs.length ≤ 38) (h : Shows Tryz.prog gls c77 [.c 2 true 2] S) : Snd Tryz.prog gls 77 S :=
  snd_code Tryz.func77 c77_eq (by kernel_rfl) (by kernel_rfl) Tryz.ntmps77 hargs h
-- 33 bursar/scope.In (17 slots, 2 parameters)
def c33r0 : List AOper := [
  ⟨some 2, none, .box (.t 0)⟩,
  ⟨some 3, none, .box (.t 1)⟩,
  ⟨some 4, none, .mov (.k (.p (.val (.bool false))))⟩]
def c33r1 : List AOper := [
  ⟨some 5, none, .load true 2 (.t 3)⟩,
  ⟨some 6, none, .callq 76 [(.t 5)]⟩,
  ⟨some 7, none, .mov (.t 6)⟩,
  ⟨some 8, some (7, true), .fad 0 (.t 3)⟩,
  ⟨some 9, some (7, true), .load false 1 (.t 8)⟩,
  ⟨some 10, some (7, true), .callq 77 [(.t 9)]⟩,
  ⟨some 11, some (7, true), .fld false 1 1 (.t 10)⟩,
  ⟨some 12, some (7, true), .load true 7 (.t 2)⟩,
  ⟨some 13, some (7, true), .fad 1 (.t 3)⟩,
  ⟨some 14, some (7, true), .load false 1 (.t 13)⟩,
  ⟨some 15, some (7, true), .callv (.t 11) [(.t 12), (.t 14)]⟩,
  ⟨some 16, none, .pick (.t 7) (.t 15) (.k (.p (.val (.bool false))))⟩,
  ⟨some 4, none, .mov (.t 16)⟩]
def c33 : ACode := (.seq (.reg c33r0) (.seq (.reg c33r1) .ret))
theorem c33_eq : (Tryz.f33.body).map (tr Tryz.prog gls 17) = some c33 := by kernel_rfl
theorem k33 {S : Am.Spec} (hargs : ∀ rs φ K, S rs φ K → rs.length ≤ 17) (h : Shows Tryz.prog gls c33 [.t 4] S) : Snd Tryz.prog gls 33 S :=
  snd_code Tryz.func33 c33_eq (by kernel_rfl) (by kernel_rfl) Tryz.ntmps33 hargs h
end Go.Proofs.YtnjblinbdimkjaaGreatDoor

namespace Go.Proofs.YtnjblinbdimkjaaGreatDoor
open Go Go.Am
set_option linter.unusedSimpArgs false

/-- where the first true stands -/
def idxB (l : List Bool) : Int := match l.findIdx? id with
  | some i => i
  | none => -1
theorem idxB_ge {l : List Bool} : decide (0 ≤ idxB l) = l.any id := by
  unfold idxB
  cases h : l.findIdx? id with
  | none =>
    have := List.findIdx?_eq_none_iff.1 h
    symm
    simp only [show decide ((0:Int) ≤ -1) = false from rfl]
    rw [List.any_eq_false]
    intro x hx
    simpa using this x hx
  | some i =>
    have hi := List.findIdx?_eq_some_iff_getElem.1 h
    obtain ⟨hl, hp, _⟩ := hi
    have : l.any id = true := List.any_eq_true.2 ⟨l[i], List.getElem_mem hl, hp⟩
    rw [this]; simp

def Asks (w : Nat) (f : FuncId) (caps : List PV) (φ : Res) (e : List PV) (b : Bool) : Prop := e.length = w ∧ Brings Tryz.prog gls f caps [.agg e] φ (.one (rB b))

/-- slices.IndexFunc over elements of w cells -/
def SIdx (w : Nat) : Am.Spec := fun rs φ K => ∃ es n f caps bs, rs = [.p (.sl es n), .p (.fn f caps)] ∧ n ≤ es.length ∧ All2 (Asks w f caps φ) (es.take n) bs ∧ K (.one (rI (idxB bs))) φ
def SCon (w : Nat) : Am.Spec := fun rs φ K => ∃ es n f caps bs, rs = [.p (.sl es n), .p (.fn f caps)] ∧ n ≤ es.length ∧ All2 (Asks w f caps φ) (es.take n) bs ∧ K (.one (rB (bs.any id))) φ

theorem d119 : Snd Tryz.prog gls 119 (SIdx 2) := by
  refine k119 (by rintro rs φ K ⟨es, n, f, caps, p, rfl, -⟩; simp) ?_
  rintro rs φ K ⟨es, n, f, caps, bs, rfl, hn, hf, hK⟩
  have hbl : bs.length = n := by rw [← hf.len]; simp; omega
  simp -implicitDefEqProofs only [go_sem, Nat.reduceBEq, Nat.reduceAdd, c119, c119r0, c119r1]
  intro hL
  refine range_loop rfl (by decide) n hL (fun _ => [(0, .p (.sl es n)), (1, .p (.fn f caps))]) (fun _ => []) (fun _ => []) (fun _ => φ) (fun k => ∀ b ∈ bs.take k, b = false) (Gho.sub ?_ trivial trivial ?_ rfl) (by simp) ?_ ?_
  · simp [subFr, go_sem, leAV, headSt]
  · simp [refsOK, headSt]
  · intro k Q' hk hof hn' hc hq
    have hke : k < es.length := by omega
    obtain ⟨e, he⟩ : ∃ e, es[k]? = some e := ⟨es[k], by simp [hke]⟩
    obtain ⟨b, hb1, hw, hb⟩ := hf.get (i := k) (a := e) (by rw [List.getElem?_take, if_pos hk]; exact he)
    simp -implicitDefEqProofs only [go_sem, Nat.reduceBEq, Nat.reduceAdd, c119r3, c119r4, c119r5, Int.toNat_natCast, he, Option.some.injEq, exists_eq_left', hw, Nat.le_refl]
    refine ⟨by omega, by omega, ?_⟩
    have htk : e.take 2 = e := List.take_of_length_le (by omega)
    rw [htk]
    refine Brings.go hb ?_
    simp -implicitDefEqProofs only [go_sem, Nat.reduceBEq]
    refine ⟨fun h => ?_, fun h => ?_⟩
    · refine hq _ _ (by simp) (by simp) ?_
      simp -implicitDefEqProofs only [go_sem, Nat.reduceBEq]
      refine K_int hK ?_
      subst h
      have : bs.findIdx? id = some k := by
        rw [List.findIdx?_eq_some_iff_getElem]
        obtain ⟨hlt, hbk⟩ := List.getElem?_eq_some_iff.1 hb1
        refine ⟨hlt, hbk, fun j hj => ?_⟩
        have h2 := hof bs[j] (by
          have : bs[j] = (bs.take k)[j]'(by simp; omega) := by simp
          rw [this]; exact List.getElem_mem _)
        simp [h2]
      simp [idxB, this]
    · refine hn' _ (fun x hx => ?_) ⟨by simp only [go_sem, Nat.reduceBEq], Gho.sub ?_ trivial trivial ?_ rfl⟩
      · rw [List.take_add_one, hb1, Option.toList_some, List.mem_append] at hx
        rcases hx with hx | hx
        · exact hof x hx
        · simp at hx; subst hx; exact h
      · simp [subFr, go_sem, leAV, headSt]
      · simp [refsOK, headSt]
  · intro hof
    simp -implicitDefEqProofs only [go_sem, Nat.reduceBEq, c119r8]
    refine K_int hK ?_
    rw [← hbl, List.take_length] at hof
    have : bs.findIdx? id = none := List.findIdx?_eq_none_iff.2 fun x hx => by simp [hof x hx]
    simp [idxB, this]

theorem d63 : Snd Tryz.prog gls 63 (SCon 2) := by
  refine k63 (by rintro rs φ K ⟨es, n, f, caps, p, rfl, -⟩; simp) ?_
  rintro rs φ K ⟨es, n, f, caps, bs, rfl, hn, hf, hK⟩
  simp -implicitDefEqProofs only [go_sem, Nat.reduceBEq, Nat.reduceAdd, c63, c63r0, c63r1]
  refine callS_of d119 ⟨es, n, f, caps, bs, rfl, hn, hf, ?_⟩
  simp -implicitDefEqProofs only [go_sem, Nat.reduceBEq]
  exact K_bool hK idxB_ge.symm
theorem d94 : Snd Tryz.prog gls 94 (SIdx 7) := by
  refine k94 (by rintro rs φ K ⟨es, n, f, caps, p, rfl, -⟩; simp) ?_
  rintro rs φ K ⟨es, n, f, caps, bs, rfl, hn, hf, hK⟩
  have hbl : bs.length = n := by rw [← hf.len]; simp; omega
  simp -implicitDefEqProofs only [go_sem, Nat.reduceBEq, Nat.reduceAdd, c94, c94r0, c94r1]
  intro hL
  refine range_loop rfl (by decide) n hL (fun _ => [(0, .p (.sl es n)), (1, .p (.fn f caps))]) (fun _ => []) (fun _ => []) (fun _ => φ) (fun k => ∀ b ∈ bs.take k, b = false) (Gho.sub ?_ trivial trivial ?_ rfl) (by simp) ?_ ?_
  · simp [subFr, go_sem, leAV, headSt]
  · simp [refsOK, headSt]
  · intro k Q' hk hof hn' hc hq
    have hke : k < es.length := by omega
    obtain ⟨e, he⟩ : ∃ e, es[k]? = some e := ⟨es[k], by simp [hke]⟩
    obtain ⟨b, hb1, hw, hb⟩ := hf.get (i := k) (a := e) (by rw [List.getElem?_take, if_pos hk]; exact he)
    simp -implicitDefEqProofs only [go_sem, Nat.reduceBEq, Nat.reduceAdd, c94r3, c94r4, c94r5, Int.toNat_natCast, he, Option.some.injEq, exists_eq_left', hw, Nat.le_refl]
    refine ⟨by omega, by omega, ?_⟩
    have htk : e.take 7 = e := List.take_of_length_le (by omega)
    rw [htk]
    refine Brings.go hb ?_
    simp -implicitDefEqProofs only [go_sem, Nat.reduceBEq]
    refine ⟨fun h => ?_, fun h => ?_⟩
    · refine hq _ _ (by simp) (by simp) ?_
      simp -implicitDefEqProofs only [go_sem, Nat.reduceBEq]
      refine K_int hK ?_
      subst h
      have : bs.findIdx? id = some k := by
        rw [List.findIdx?_eq_some_iff_getElem]
        obtain ⟨hlt, hbk⟩ := List.getElem?_eq_some_iff.1 hb1
        refine ⟨hlt, hbk, fun j hj => ?_⟩
        have h2 := hof bs[j] (by
          have : bs[j] = (bs.take k)[j]'(by simp; omega) := by simp
          rw [this]; exact List.getElem_mem _)
        simp [h2]
      simp [idxB, this]
    · refine hn' _ (fun x hx => ?_) ⟨by simp only [go_sem, Nat.reduceBEq], Gho.sub ?_ trivial trivial ?_ rfl⟩
      · rw [List.take_add_one, hb1, Option.toList_some, List.mem_append] at hx
        rcases hx with hx | hx
        · exact hof x hx
        · simp at hx; subst hx; exact h
      · simp [subFr, go_sem, leAV, headSt]
      · simp [refsOK, headSt]
  · intro hof
    simp -implicitDefEqProofs only [go_sem, Nat.reduceBEq, c94r8]
    refine K_int hK ?_
    rw [← hbl, List.take_length] at hof
    have : bs.findIdx? id = none := List.findIdx?_eq_none_iff.2 fun x hx => by simp [hof x hx]
    simp [idxB, this]

theorem d51 : Snd Tryz.prog gls 51 (SCon 7) := by
  refine k51 (by rintro rs φ K ⟨es, n, f, caps, p, rfl, -⟩; simp) ?_
  rintro rs φ K ⟨es, n, f, caps, bs, rfl, hn, hf, hK⟩
  simp -implicitDefEqProofs only [go_sem, Nat.reduceBEq, Nat.reduceAdd, c51, c51r0, c51r1]
  refine callS_of d94 ⟨es, n, f, caps, bs, rfl, hn, hf, ?_⟩
  simp -implicitDefEqProofs only [go_sem, Nat.reduceBEq]
  exact K_bool hK idxB_ge.symm
theorem d143 : Snd Tryz.prog gls 143 (SIdx 5) := by
  refine k143 (by rintro rs φ K ⟨es, n, f, caps, p, rfl, -⟩; simp) ?_
  rintro rs φ K ⟨es, n, f, caps, bs, rfl, hn, hf, hK⟩
  have hbl : bs.length = n := by rw [← hf.len]; simp; omega
  simp -implicitDefEqProofs only [go_sem, Nat.reduceBEq, Nat.reduceAdd, c143, c143r0, c143r1]
  intro hL
  refine range_loop rfl (by decide) n hL (fun _ => [(0, .p (.sl es n)), (1, .p (.fn f caps))]) (fun _ => []) (fun _ => []) (fun _ => φ) (fun k => ∀ b ∈ bs.take k, b = false) (Gho.sub ?_ trivial trivial ?_ rfl) (by simp) ?_ ?_
  · simp [subFr, go_sem, leAV, headSt]
  · simp [refsOK, headSt]
  · intro k Q' hk hof hn' hc hq
    have hke : k < es.length := by omega
    obtain ⟨e, he⟩ : ∃ e, es[k]? = some e := ⟨es[k], by simp [hke]⟩
    obtain ⟨b, hb1, hw, hb⟩ := hf.get (i := k) (a := e) (by rw [List.getElem?_take, if_pos hk]; exact he)
    simp -implicitDefEqProofs only [go_sem, Nat.reduceBEq, Nat.reduceAdd, c143r3, c143r4, c143r5, Int.toNat_natCast, he, Option.some.injEq, exists_eq_left', hw, Nat.le_refl]
    refine ⟨by omega, by omega, ?_⟩
    have htk : e.take 5 = e := List.take_of_length_le (by omega)
    rw [htk]
    refine Brings.go hb ?_
    simp -implicitDefEqProofs only [go_sem, Nat.reduceBEq]
    refine ⟨fun h => ?_, fun h => ?_⟩
    · refine hq _ _ (by simp) (by simp) ?_
      simp -implicitDefEqProofs only [go_sem, Nat.reduceBEq]
      refine K_int hK ?_
      subst h
      have : bs.findIdx? id = some k := by
        rw [List.findIdx?_eq_some_iff_getElem]
        obtain ⟨hlt, hbk⟩ := List.getElem?_eq_some_iff.1 hb1
        refine ⟨hlt, hbk, fun j hj => ?_⟩
        have h2 := hof bs[j] (by
          have : bs[j] = (bs.take k)[j]'(by simp; omega) := by simp
          rw [this]; exact List.getElem_mem _)
        simp [h2]
      simp [idxB, this]
    · refine hn' _ (fun x hx => ?_) ⟨by simp only [go_sem, Nat.reduceBEq], Gho.sub ?_ trivial trivial ?_ rfl⟩
      · rw [List.take_add_one, hb1, Option.toList_some, List.mem_append] at hx
        rcases hx with hx | hx
        · exact hof x hx
        · simp at hx; subst hx; exact h
      · simp [subFr, go_sem, leAV, headSt]
      · simp [refsOK, headSt]
  · intro hof
    simp -implicitDefEqProofs only [go_sem, Nat.reduceBEq, c143r8]
    refine K_int hK ?_
    rw [← hbl, List.take_length] at hof
    have : bs.findIdx? id = none := List.findIdx?_eq_none_iff.2 fun x hx => by simp [hof x hx]
    simp [idxB, this]

theorem d95 : Snd Tryz.prog gls 95 (SCon 5) := by
  refine k95 (by rintro rs φ K ⟨es, n, f, caps, p, rfl, -⟩; simp) ?_
  rintro rs φ K ⟨es, n, f, caps, bs, rfl, hn, hf, hK⟩
  simp -implicitDefEqProofs only [go_sem, Nat.reduceBEq, Nat.reduceAdd, c95, c95r0, c95r1]
  refine callS_of d143 ⟨es, n, f, caps, bs, rfl, hn, hf, ?_⟩
  simp -implicitDefEqProofs only [go_sem, Nat.reduceBEq]
  exact K_bool hK idxB_ge.symm
theorem d209 : Snd Tryz.prog gls 209 (SIdx 3) := by
  refine k209 (by rintro rs φ K ⟨es, n, f, caps, p, rfl, -⟩; simp) ?_
  rintro rs φ K ⟨es, n, f, caps, bs, rfl, hn, hf, hK⟩
  have hbl : bs.length = n := by rw [← hf.len]; simp; omega
  simp -implicitDefEqProofs only [go_sem, Nat.reduceBEq, Nat.reduceAdd, c209, c209r0, c209r1]
  intro hL
  refine range_loop rfl (by decide) n hL (fun _ => [(0, .p (.sl es n)), (1, .p (.fn f caps))]) (fun _ => []) (fun _ => []) (fun _ => φ) (fun k => ∀ b ∈ bs.take k, b = false) (Gho.sub ?_ trivial trivial ?_ rfl) (by simp) ?_ ?_
  · simp [subFr, go_sem, leAV, headSt]
  · simp [refsOK, headSt]
  · intro k Q' hk hof hn' hc hq
    have hke : k < es.length := by omega
    obtain ⟨e, he⟩ : ∃ e, es[k]? = some e := ⟨es[k], by simp [hke]⟩
    obtain ⟨b, hb1, hw, hb⟩ := hf.get (i := k) (a := e) (by rw [List.getElem?_take, if_pos hk]; exact he)
    simp -implicitDefEqProofs only [go_sem, Nat.reduceBEq, Nat.reduceAdd, c209r3, c209r4, c209r5, Int.toNat_natCast, he, Option.some.injEq, exists_eq_left', hw, Nat.le_refl]
    refine ⟨by omega, by omega, ?_⟩
    have htk : e.take 3 = e := List.take_of_length_le (by omega)
    rw [htk]
    refine Brings.go hb ?_
    simp -implicitDefEqProofs only [go_sem, Nat.reduceBEq]
    refine ⟨fun h => ?_, fun h => ?_⟩
    · refine hq _ _ (by simp) (by simp) ?_
      simp -implicitDefEqProofs only [go_sem, Nat.reduceBEq]
      refine K_int hK ?_
      subst h
      have : bs.findIdx? id = some k := by
        rw [List.findIdx?_eq_some_iff_getElem]
        obtain ⟨hlt, hbk⟩ := List.getElem?_eq_some_iff.1 hb1
        refine ⟨hlt, hbk, fun j hj => ?_⟩
        have h2 := hof bs[j] (by
          have : bs[j] = (bs.take k)[j]'(by simp; omega) := by simp
          rw [this]; exact List.getElem_mem _)
        simp [h2]
      simp [idxB, this]
    · refine hn' _ (fun x hx => ?_) ⟨by simp only [go_sem, Nat.reduceBEq], Gho.sub ?_ trivial trivial ?_ rfl⟩
      · rw [List.take_add_one, hb1, Option.toList_some, List.mem_append] at hx
        rcases hx with hx | hx
        · exact hof x hx
        · simp at hx; subst hx; exact h
      · simp [subFr, go_sem, leAV, headSt]
      · simp [refsOK, headSt]
  · intro hof
    simp -implicitDefEqProofs only [go_sem, Nat.reduceBEq, c209r8]
    refine K_int hK ?_
    rw [← hbl, List.take_length] at hof
    have : bs.findIdx? id = none := List.findIdx?_eq_none_iff.2 fun x hx => by simp [hof x hx]
    simp [idxB, this]

theorem d181 : Snd Tryz.prog gls 181 (SCon 3) := by
  refine k181 (by rintro rs φ K ⟨es, n, f, caps, p, rfl, -⟩; simp) ?_
  rintro rs φ K ⟨es, n, f, caps, bs, rfl, hn, hf, hK⟩
  simp -implicitDefEqProofs only [go_sem, Nat.reduceBEq, Nat.reduceAdd, c181, c181r0, c181r1]
  refine callS_of d209 ⟨es, n, f, caps, bs, rfl, hn, hf, ?_⟩
  simp -implicitDefEqProofs only [go_sem, Nat.reduceBEq]
  exact K_bool hK idxB_ge.symm
end Go.Proofs.YtnjblinbdimkjaaGreatDoor

namespace Go.Proofs.YtnjblinbdimkjaaGreatDoor
open Go Go.Am
set_option linter.unusedSimpArgs false

/-! ### the things -/
def inI (n : Int) : Prop := -9223372036854775808 ≤ n ∧ n ≤ 9223372036854775807
structure Amt where
  name : ByteArray
  value : Int
structure Lab where
  key : ByteArray
  value : ByteArray
structure Part where
  name : ByteArray
  req : List Amt
  lim : List Amt
structure Obj where
  path : ByteArray
  name : ByteArray
  labels : List Lab
  priority : Int
  deadline : Int
  parts : List Part
  version : Int
structure Quo where
  path : ByteArray
  name : ByteArray
  scope : Scope
  hard : List Amt

/-- a slice whose elements are R -/
def BIG : Nat := 1073741824
def SlR {α : Type} (R : α → List PV → Prop) (l : List α) (x : PV) : Prop := ∃ es, x = .sl es l.length ∧ l.length ≤ BIG ∧ All2 R l (es.take l.length)
def IsAmt (a : Amt) (cs : List PV) : Prop := cs = [.val (.string a.name), .val (.int .i64 a.value)] ∧ inI a.value
def IsLab (a : Lab) (cs : List PV) : Prop := cs = [.val (.string a.key), .val (.string a.value)]
def IsPart (p : Part) (cs : List PV) : Prop := ∃ x y, cs = [.val (.string p.name), x, y] ∧ SlR IsAmt p.req x ∧ SlR IsAmt p.lim y
def IsObj (o : Obj) (cs : List PV) : Prop := ∃ x y, cs = [.val (.string o.path), .val (.string o.name), x, .val (.int .i64 o.priority), .val (.int .i64 o.deadline), y, .val (.int .i64 o.version)] ∧ SlR IsLab o.labels x ∧ SlR IsPart o.parts y ∧
  inI o.priority ∧ inI o.deadline ∧ inI o.version
def IsQuo (q : Quo) (cs : List PV) : Prop := ∃ x, cs = [.val (.string q.path), .val (.string q.name), .val (.int .i64 q.scope.1), .val (.int .i64 q.scope.2), x] ∧ SlR IsAmt q.hard x ∧ inI q.scope.1 ∧ inI q.scope.2

theorem SlR.le {α : Type} {R : α → List PV → Prop} {l : List α} {es : List (List PV)} (h : All2 R l (es.take l.length)) : l.length ≤ es.length := by
  have := h.len; simp at this; omega

theorem All2.swap {α β : Type} {R : α → β → Prop} {l : List α} {m : List β} (h : All2 R l m) : All2 (fun b a => R a b) m l := by
  induction h with
  | nil => exact .nil
  | cons h _ ih => exact .cons h ih
theorem All2.mapr {α β γ : Type} {R : α → β → Prop} {S : α → γ → Prop} {f : β → γ} {l : List α} {m : List β} (h : All2 R l m) (hf : ∀ a b, R a b → S a (f b)) : All2 S l (m.map f) := by
  induction h with
  | nil => exact .nil
  | cons h _ ih => exact .cons (hf _ _ h) ih

theorem brings_of {f : FuncId} {caps : List PV} {args : List RV} {φ : Res} {r : Out} {S : Am.Spec} (hs : Snd Tryz.prog gls f S) (h : S (args ++ caps.map fun x => .p (nilSl x)) φ (fun r' φ' => r' = r ∧ φ' = φ)) : Brings Tryz.prog gls f caps args φ r := ⟨S, hs, h⟩

/-! ### scope -/
def partF (p : Part) : Bool := decide (0 < p.req.length + p.lim.length)
def namesF (o : Obj) : Bool := o.parts.any partF
def S182 : Am.Spec := fun rs φ K => ∃ p cs, rs = [.agg cs] ∧ IsPart p cs ∧ K (.one (rB (partF p))) φ
theorem d182 : Snd Tryz.prog gls 182 S182 := by
  refine k182 (by rintro rs φ K ⟨p, cs, rfl, -⟩; simp) ?_
  rintro rs φ K ⟨p, cs, rfl, ⟨x, y, rfl, ⟨es, rfl, h1⟩, ⟨es', rfl, h2⟩⟩, hK⟩
  simp -implicitDefEqProofs only [go_sem, Nat.reduceBEq, Nat.reduceAdd, c182, c182r0, c182r1]
  intro l1 l2
  rw [Am.wrap_small (by simp only [LIM] at l1 l2; omega) (by simp only [LIM] at l1 l2; omega)]
  refine K_bool hK ?_
  simp only [partF, decide_eq_decide]
  omega

def SObjB (f : Obj → Bool) : Am.Spec := fun rs φ K => ∃ o cs, rs = [.agg cs] ∧ IsObj o cs ∧ K (.one (rB (f o))) φ
theorem d127 : Snd Tryz.prog gls 127 (SObjB namesF) := by
  refine k127 (by rintro rs φ K ⟨p, cs, rfl, -⟩; simp) ?_
  rintro rs φ K ⟨o, cs, rfl, ⟨x, y, rfl, hx, ⟨es, rfl, -, h2⟩, hp, hd, hv⟩, hK⟩
  simp -implicitDefEqProofs only [go_sem, Nat.reduceBEq, Nat.reduceAdd, c127, c127r0, c127r1]
  refine callS_of d181 ⟨es, _, 182, [], o.parts.map partF, rfl, SlR.le h2, ?_, ?_⟩
  · refine All2.mapr (All2.swap h2) fun e p h => ⟨?_, brings_of d182 ⟨p, e, rfl, h, rfl, rfl⟩⟩
    obtain ⟨_, _, rfl, _⟩ := h; rfl
  · simp -implicitDefEqProofs only [go_sem, Nat.reduceBEq]
    refine K_bool hK ?_
    simp [namesF, List.any_map]

/-- what asks whether an object is of a kind -/
def SLies (f : Obj → Int → Bool) : Am.Spec := fun rs φ K => ∃ o cs n, rs = [.agg cs, rI n] ∧ IsObj o cs ∧ K (.one (rB (f o n))) φ
theorem d126 : Snd Tryz.prog gls 126 (SLies fun o _ => !namesF o) := by
  refine k126 (by rintro rs φ K ⟨p, cs, n, rfl, -⟩; simp) ?_
  rintro rs φ K ⟨o, cs, n, rfl, h, hK⟩
  have h' := h
  obtain ⟨x, y, rfl, -⟩ := h'
  simp -implicitDefEqProofs only [go_sem, Nat.reduceBEq, Nat.reduceAdd, c126, c126r0, c126r1]
  refine ⟨by simp, callS_of d127 ⟨o, _, rfl, h, ?_⟩⟩
  simp -implicitDefEqProofs only [go_sem, Nat.reduceBEq]
  exact hK
theorem d128 : Snd Tryz.prog gls 128 (SLies fun o _ => namesF o) := by
  refine k128 (by rintro rs φ K ⟨p, cs, n, rfl, -⟩; simp) ?_
  rintro rs φ K ⟨o, cs, n, rfl, h, hK⟩
  have h' := h
  obtain ⟨x, y, rfl, -⟩ := h'
  simp -implicitDefEqProofs only [go_sem, Nat.reduceBEq, Nat.reduceAdd, c128, c128r0, c128r1]
  refine ⟨by simp, callS_of d127 ⟨o, _, rfl, h, ?_⟩⟩
  simp -implicitDefEqProofs only [go_sem, Nat.reduceBEq]
  exact hK
theorem d129 : Snd Tryz.prog gls 129 (SLies fun o _ => decide (0 < o.deadline)) := by
  refine k129 (by rintro rs φ K ⟨p, cs, n, rfl, -⟩; simp) ?_
  rintro rs φ K ⟨o, cs, n, rfl, ⟨x, y, rfl, -⟩, hK⟩
  simp -implicitDefEqProofs only [go_sem, Nat.reduceBEq, Nat.reduceAdd, c129, c129r0, c129r1]
  exact hK
theorem d130 : Snd Tryz.prog gls 130 (SLies fun o _ => decide (o.deadline ≤ 0)) := by
  refine k130 (by rintro rs φ K ⟨p, cs, n, rfl, -⟩; simp) ?_
  rintro rs φ K ⟨o, cs, n, rfl, ⟨x, y, rfl, -⟩, hK⟩
  simp -implicitDefEqProofs only [go_sem, Nat.reduceBEq, Nat.reduceAdd, c130, c130r0, c130r1]
  exact hK
theorem d131 : Snd Tryz.prog gls 131 (SLies fun o n => decide (o.priority = n)) := by
  refine k131 (by rintro rs φ K ⟨p, cs, n, rfl, -⟩; simp) ?_
  rintro rs φ K ⟨o, cs, n, rfl, ⟨x, y, rfl, -⟩, hK⟩
  simp -implicitDefEqProofs only [go_sem, Nat.reduceBEq, Nat.reduceAdd, c131, c131r0, c131r1]
  exact hK
theorem d132 : Snd Tryz.prog gls 132 (SLies fun _ _ => true) := by
  refine k132 (by rintro rs φ K ⟨p, cs, n, rfl, -⟩; simp) ?_
  rintro rs φ K ⟨o, cs, n, rfl, ⟨x, y, rfl, -⟩, hK⟩
  simp -implicitDefEqProofs only [go_sem, Nat.reduceBEq, Nat.reduceAdd, c132, c132r0, c132r1]
  exact hK
end Go.Proofs.YtnjblinbdimkjaaGreatDoor

namespace Go.Proofs.YtnjblinbdimkjaaGreatDoor
open Go Go.Am
set_option linter.unusedSimpArgs false

def kindFn (k : Int) : Nat := if k = 1 then 126 else if k = 2 then 128 else if k = 3 then 129 else if k = 4 then 130 else if k = 5 then 131 else 132
def liesF (o : Obj) (k n : Int) : Bool := if k = 1 then !namesF o else if k = 2 then namesF o else if k = 3 then decide (0 < o.deadline) else if k = 4 then decide (o.deadline ≤ 0) else if k = 5 then decide (o.priority = n) else true
def inF (o : Obj) (s : Scope) : Bool := validF s && liesF o s.1 s.2
def textF (k : Nat) : ByteArray := match List.drop (k * 1) [PV.val (.string ⟨#[97, 108, 108]⟩), .val (.string ⟨#[98, 101, 115, 116]⟩), .val (.string ⟨#[110, 111, 116, 98, 101, 115, 116]⟩), .val (.string ⟨#[101, 110, 100, 115]⟩), .val (.string ⟨#[110, 111, 116, 101, 110, 100, 115]⟩), .val (.string ⟨#[112, 114, 105, 111, 114, 105, 116, 121, 61]⟩)] with
  | .val (.string t) :: _ => t
  | _ => ⟨#[]⟩
def S77 : Am.Spec := fun rs φ K => ∃ k, rs = [rI k] ∧ 0 ≤ k ∧ k < 6 ∧ K (.one (.agg [.val (.string (textF k.toNat)), .fn (kindFn k) []])) φ

theorem texts_get {k : Nat} (h : k < 6) : ∃ l, List.drop (k * 1) [PV.val (.string ⟨#[97, 108, 108]⟩), .val (.string ⟨#[98, 101, 115, 116]⟩), .val (.string ⟨#[110, 111, 116, 98, 101, 115, 116]⟩), .val (.string ⟨#[101, 110, 100, 115]⟩), .val (.string ⟨#[110, 111, 116, 101, 110, 100, 115]⟩), .val (.string ⟨#[112, 114, 105, 111, 114, 105, 116, 121, 61]⟩)] = .val (.string (textF k)) :: l := by
  match k, h with
  | 0, _ => exact ⟨_, rfl⟩
  | 1, _ => exact ⟨_, rfl⟩
  | 2, _ => exact ⟨_, rfl⟩
  | 3, _ => exact ⟨_, rfl⟩
  | 4, _ => exact ⟨_, rfl⟩
  | 5, _ => exact ⟨_, rfl⟩
  | n + 6, h => omega

theorem d77 : Snd Tryz.prog gls 77 S77 := by
  refine k77 (by rintro rs φ K ⟨k, rfl, -⟩; simp) ?_
  rintro rs φ K ⟨k, rfl, h0, h6, hK⟩
  obtain ⟨l, ht⟩ := texts_get (k := k.toNat) (by omega)
  simp -implicitDefEqProofs only [go_sem, Nat.reduceBEq, Nat.reduceAdd, c77, c77r0, c77r1, c77r2, c77r3, c77r4, c77r5, c77r6, c77r7, c77r8, c77r9, c77r10, c77r11, c77r12, ht, Nat.reduceLeDiff, decide_eq_true_eq, decide_eq_false_iff_not, Nat.ble, Nat.reduceMul]
  have fin : ∀ n, kindFn k = n → (0 ≤ k ∧ k < ((6 : Nat) : Int) ∧ K (.one (.agg [.val (.string (textF k.toNat)), .fn n []])) φ) := fun n e => ⟨h0, h6, by rw [← e]; exact hK⟩
  exact ⟨fun h1 => fin _ (by simp [kindFn, h1]), fun h1 => ⟨fun h2 => fin _ (by simp [kindFn, h2]), fun h2 => ⟨fun h3 => fin _ (by simp [kindFn, h3]), fun h3 => ⟨fun h4 => fin _ (by simp [kindFn, h4]), fun h4 => ⟨fun h5 => fin _ (by simp [kindFn, h5]), fun h5 => fin _ (by simp [kindFn, h1, h2, h3, h4, h5])⟩⟩⟩⟩⟩

theorem lies_brings {o : Obj} {cs : List PV} (h : IsObj o cs) (k n : Int) (φ : Res) : Brings Tryz.prog gls (kindFn k) [] [.agg cs, rI n] φ (.one (rB (liesF o k n))) := by
  unfold kindFn liesF
  split
  · exact brings_of d126 ⟨o, cs, n, rfl, h, rfl, rfl⟩
  split
  · exact brings_of d128 ⟨o, cs, n, rfl, h, rfl, rfl⟩
  split
  · exact brings_of d129 ⟨o, cs, n, rfl, h, rfl, rfl⟩
  split
  · exact brings_of d130 ⟨o, cs, n, rfl, h, rfl, rfl⟩
  split
  · exact brings_of d131 ⟨o, cs, n, rfl, h, rfl, rfl⟩
  · exact brings_of d132 ⟨o, cs, n, rfl, h, rfl, rfl⟩

/-- scope.In -/
def S33 : Am.Spec := fun rs φ K => ∃ o cs s, rs = [.agg cs, .agg (encSc s)] ∧ IsObj o cs ∧ K (.one (rB (inF o s))) φ
theorem d33 : Snd Tryz.prog gls 33 S33 := by
  refine k33 (by rintro rs φ K ⟨o, cs, s, rfl, -⟩; simp) ?_
  rintro rs φ K ⟨o, cs, s, rfl, h, hK⟩
  have h' := h
  obtain ⟨x, y, hcs, -⟩ := h'
  have hlen : cs.length = 7 := by rw [hcs]; rfl
  obtain ⟨a, b⟩ := s
  simp -implicitDefEqProofs only [go_sem, Nat.reduceBEq, Nat.reduceAdd, c33, c33r0, c33r1, encSc, Nat.reduceLeDiff, hlen, Nat.le_refl]
  refine callqA_of rfl d76 ⟨(a, b), rfl, rfl, rfl⟩ ?_
  simp -implicitDefEqProofs only [go_sem, Nat.reduceBEq, Nat.reduceAdd, encSc, Nat.reduceLeDiff, hlen, Nat.le_refl]
  refine ⟨fun hv => ?_, fun hv => ?_⟩
  · have hab : 0 ≤ a ∧ a < 6 := by simp [validF] at hv; omega
    refine callqA_of rfl d77 ⟨a, rfl, hab.1, hab.2, rfl, rfl⟩ ?_
    simp -implicitDefEqProofs only [go_sem, Nat.reduceBEq, Nat.reduceAdd, Nat.reduceLeDiff, hlen, Nat.le_refl]
    have htk : cs.take 7 = cs := List.take_of_length_le (by simp [hlen])
    rw [htk]
    refine Brings.goS (lies_brings h a b φ) ?_
    simp -implicitDefEqProofs only [go_sem, Nat.reduceBEq]
    exact K_bool hK (by simp [inF, hv])
  · exact K_bool hK (by simp [inF, hv])
end Go.Proofs.YtnjblinbdimkjaaGreatDoor
