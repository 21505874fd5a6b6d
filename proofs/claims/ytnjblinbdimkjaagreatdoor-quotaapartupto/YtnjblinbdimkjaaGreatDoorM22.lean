/-
  bursarlaw18.QuotaApart answers true and leaves its arguments as they were, for inputs of bulk at most 1048576 (the given second form; no other condition). Part 22 of 26 of the proof.
-/
import Derived.Test.YtnjblinbdimkjaaGreatDoorM21
import Derived.Laws.Externs
namespace Go.Proofs.YtnjblinbdimkjaaGreatDoor
open Go Go.Am
set_option linter.unusedSimpArgs false

/-! ### ledger.shares -/
theorem fm_succ {α β : Type} {f : α → List β} {l : List α} {k : Nat} {a : α} (h : l[k]? = some a) : (l.take (k + 1)).flatMap f = (l.take k).flatMap f ++ f a := by rw [List.take_add_one, h]; simp
theorem fm_le {α β : Type} {f : α → List β} (l : List α) (k : Nat) : ((l.take k).flatMap f).length ≤ (l.flatMap f).length := by
  have : l.flatMap f = (l.take k).flatMap f ++ (l.drop k).flatMap f := by rw [← List.flatMap_append, List.take_append_drop]
  rw [this]; simp
def shU (us : List Amt) (p : ByteArray) (s : Scope) : List (Place × Int) := us.map fun u => (⟨p, s, u.name⟩, u.value)
def shS (o : Obj) (us : List Amt) (p : ByteArray) : List (Place × Int) := (scF o 6).flatMap (shU us p)
def shF (o : Obj) (us : List Amt) (line : List ByteArray) : List (Place × Int) := line.flatMap (shS o us)
def sharesF (o : Obj) : List ByteArray × List (Place × Int) × Int :=
  if pathF o.path ≠ 0 then ([], [], 41) else if (usesF o).2 ≠ 0 then ([], [], (usesF o).2) else (lineF o.path, shF o (usesF o).1 (lineF o.path), 0)
def SzL (o : Obj) : Prop := SzO o ∧ (lineF o.path).length ≤ BIG ∧ (usesF o).1.length ≤ BIG ∧ (shF o (usesF o).1 (lineF o.path)).length ≤ BIG
def shSl (l : List (Place × Int)) : PV := .sl (l.map shE) l.length
def S88 : Am.Spec := fun rs φ K => ∃ o cs, rs = [.agg cs] ∧ IsObj o cs ∧ SzL o ∧ K (.tup [.p (strSl (sharesF o).1), .p (shSl (sharesF o).2.1), rI (sharesF o).2.2]) φ
theorem d88 : Snd Tryz.prog gls 88 S88 := by
  refine k88 (by rintro rs φ K ⟨o, cs, rfl, -⟩; simp) ?_
  rintro rs φ K ⟨o, cs, rfl, hO, ⟨hSz, hb1, hb2, hb3⟩, hK⟩
  have hO' := hO
  obtain ⟨x, y, rfl, -⟩ := hO'
  simp -implicitDefEqProofs only [go_sem, Nat.reduceBEq, Nat.reduceAdd, c88, c88r0, c88r1, List.drop_succ_cons, List.drop_zero, Nat.reduceLeDiff, true_and, List.length_cons, List.length_nil, Nat.ble, List.take_succ_cons, List.take_zero, Nat.zero_add, Nat.le_refl]
  refine callS_of d138 ⟨o.path, rfl, ?_⟩
  simp -implicitDefEqProofs only [go_sem, Nat.reduceBEq, Nat.reduceAdd, c88r2, c88r3, List.drop_succ_cons, List.drop_zero, Nat.reduceLeDiff, true_and, List.length_cons, List.length_nil, Nat.ble, List.take_succ_cons, List.take_zero, Nat.zero_add, Nat.le_refl, decide_eq_true_eq, decide_eq_false_iff_not, Bool.not_eq_true', Bool.not_eq_false']
  refine ⟨fun h => ?_, fun h => ?_⟩
  · have e1 : sharesF o = ([], [], 41) := by rw [sharesF, if_pos h]
    rw [e1] at hK
    exact hK
  · have hp0 : pathF o.path = 0 := by simpa using h
    simp -implicitDefEqProofs only [go_sem, Nat.reduceBEq, Nat.reduceAdd, c88r4, List.drop_succ_cons, List.drop_zero, Nat.reduceLeDiff, true_and, List.length_cons, List.length_nil, Nat.ble, List.take_succ_cons, List.take_zero, Nat.zero_add, Nat.le_refl]
    refine callS_of d24 ⟨o, _, rfl, hO, hSz, ?_⟩
    simp -implicitDefEqProofs only [go_sem, Nat.reduceBEq, Nat.reduceAdd, c88r5, c88r6, List.drop_succ_cons, List.drop_zero, Nat.reduceLeDiff, true_and, List.length_cons, List.length_nil, Nat.ble, List.take_succ_cons, List.take_zero, Nat.zero_add, Nat.le_refl, decide_eq_true_eq, decide_eq_false_iff_not, Bool.not_eq_true', Bool.not_eq_false']
    refine ⟨fun h2 => ?_, fun h2 => ?_⟩
    · have e1 : sharesF o = ([], [], (usesF o).2) := by rw [sharesF, if_neg (by simp [hp0]), if_pos h2]
      rw [e1] at hK
      exact hK
    · have h20 : (usesF o).2 = 0 := by simpa using h2
      have e1 : sharesF o = (lineF o.path, shF o (usesF o).1 (lineF o.path), 0) := by rw [sharesF, if_neg (by simp [hp0]), if_neg (by simp [h20])]
      rw [e1] at hK
      generalize (usesF o).1 = us at hK hb2 hb3
      rw [if_pos hp0]
      generalize lineF o.path = ln at hK hb1 hb3
      have hb1' : ln.length ≤ 1073741824 := hb1
      have hb2' : us.length ≤ 1073741824 := hb2
      have hb3' : (shF o us ln).length ≤ 1073741824 := hb3
      have hsl : (scF o 6).length ≤ 6 := scF_len o 6
      have hlm : (ln.map fun p => [PV.val (.string p)]).length = ln.length := List.length_map ..
      simp -implicitDefEqProofs only [go_sem, Nat.reduceBEq, Nat.reduceAdd, c88r7, c88r8, List.drop_succ_cons, List.drop_zero, Nat.reduceLeDiff, true_and, List.length_cons, List.length_nil, Nat.ble, List.take_succ_cons, List.take_zero, Nat.zero_add, Nat.le_refl, strSl, amtSl]
      intro hL
      refine range_loop rfl (by decide) ln.length hL (fun i => [(31, .p (strSl ln)), (1, .ref 1 0), (7, .p (amtSl us)), (5, .p (strSl ln)), (8, .row 60 ((ln.take i).flatMap (shS o us)).length)]) (fun _ => [(1, [.val (.string o.path), .val (.string o.name), x, .val (.int .i64 o.priority), .val (.int .i64 o.deadline), y, .val (.int .i64 o.version)])]) (fun i => [(60, 200, 5, ((ln.take i).flatMap (shS o us)).map shE)]) (fun _ => φ) (fun _ => True) ?_ trivial ?_ ?_
      · refine (Gho.mkRow (s := 8) (r := 60) (T := 200) (k := 5) ?_ rfl).trans (Gho.sub ?_ ?_ ?_ ?_ rfl)
        · simp only [go_sem, Nat.reduceBEq]
        · simp [subFr, go_sem, leAV, St.mkRow, headSt, strSl, amtSl]
        · simp [subB, go_sem, St.mkRow, headSt]
        · simp [subB, go_sem, St.mkRow, headSt]
        · simp [refsOK, go_sem, headSt]
      · rintro i Q' hi - hn - hq
        obtain ⟨p, hp⟩ : ∃ p, ln[i]? = some p := ⟨ln[i], by simp [hi]⟩
        have he : (ln.map fun p => [PV.val (.string p)])[i]? = some [.val (.string p)] := by rw [List.getElem?_map, hp]; rfl
        have hA1 := fm_succ (f := shS o us) hp
        have hA2 := fm_le (f := shS o us) ln (i + 1)
        have hA3 : (ln.flatMap (shS o us)).length ≤ 1073741824 := hb3'
        rw [hA1, List.length_append] at hA2
        simp -implicitDefEqProofs only [go_sem, Nat.reduceBEq, Nat.reduceAdd, c88r10, c88r11, strSl, Int.toNat_natCast, he, Option.some.injEq, exists_eq_left', List.drop_succ_cons, List.drop_zero, Nat.reduceLeDiff, true_and, List.length_cons, List.length_nil, Nat.ble, List.take_succ_cons, List.take_zero, Nat.zero_add, Nat.le_refl]
        refine ⟨by omega, by omega, callS_of d38 ⟨o, _, rfl, hO, ?_⟩⟩
        simp -implicitDefEqProofs only [go_sem, Nat.reduceBEq, Nat.reduceAdd, List.drop_succ_cons, List.drop_zero, Nat.reduceLeDiff, true_and, List.length_cons, List.length_nil, Nat.ble, List.take_succ_cons, List.take_zero, Nat.zero_add, Nat.le_refl]
        intro hL2
        obtain ⟨A, hA⟩ : ∃ A, A = (ln.take i).flatMap (shS o us) := ⟨_, rfl⟩
        rw [← hA] at hA1 hA2 ⊢
        refine range_loop rfl (by decide) (scF o 6).length hL2 (fun j => [(38, .p (.sl ((scF o 6).map encSc) (scF o 6).length)), (10, .p (.val (.string p))), (33, vI i), (32, vI ln.length), (31, .p (strSl ln)), (1, .ref 1 0), (7, .p (amtSl us)), (5, .p (strSl ln)), (8, .row 60 (A ++ ((scF o 6).take j).flatMap (shU us p)).length)]) (fun _ => [(1, [.val (.string o.path), .val (.string o.name), x, .val (.int .i64 o.priority), .val (.int .i64 o.deadline), y, .val (.int .i64 o.version)])]) (fun j => [(60, 200, 5, (A ++ ((scF o 6).take j).flatMap (shU us p)).map shE)]) (fun _ => φ) (fun _ => True) (Gho.sub ?_ ?_ ?_ ?_ rfl) trivial ?_ ?_
        · simp [subFr, go_sem, leAV, headSt, strSl, amtSl]
        · simp [subB, go_sem, headSt]
        · simp [subB, go_sem, headSt]
        · simp [refsOK, go_sem, headSt]
        · rintro j Q2 hj - hn2 - hq2
          obtain ⟨s, hs⟩ : ∃ s, (scF o 6)[j]? = some s := ⟨(scF o 6)[j], by simp [hj]⟩
          have hes : ((scF o 6).map encSc)[j]? = some [.val (.int .i64 s.1), .val (.int .i64 s.2)] := by rw [List.getElem?_map, hs]; rfl
          have hB1 := fm_succ (f := shU us p) hs
          have hB2 := fm_le (f := shU us p) (scF o 6) (j + 1)
          rw [hB1, List.length_append] at hB2
          replace hB2 : (((scF o 6).take j).flatMap (shU us p)).length + (shU us p s).length ≤ (shS o us p).length := hB2
          simp -implicitDefEqProofs only [go_sem, Nat.reduceBEq, Nat.reduceAdd, c88r13, c88r14, amtSl, Int.toNat_natCast, hes, Option.some.injEq, exists_eq_left', List.drop_succ_cons, List.drop_zero, Nat.reduceLeDiff, true_and, List.length_cons, List.length_nil, Nat.ble, List.take_succ_cons, List.take_zero, Nat.zero_add, Nat.le_refl]
          refine ⟨by omega, by omega, fun hL3 => ?_⟩
          obtain ⟨B, hB⟩ : ∃ B, B = A ++ ((scF o 6).take j).flatMap (shU us p) := ⟨_, rfl⟩
          have hBl : B.length = A.length + (((scF o 6).take j).flatMap (shU us p)).length := by rw [hB, List.length_append]
          rw [← hB]
          have hUl : (shU us p s).length = us.length := List.length_map ..
          refine range_loop rfl (by decide) us.length hL3 (fun k => [(44, .p (amtSl us)), (12, .ref 12 0), (40, vI j), (39, vI (scF o 6).length), (38, .p (.sl ((scF o 6).map encSc) (scF o 6).length)), (10, .p (.val (.string p))), (33, vI i), (32, vI ln.length), (31, .p (strSl ln)), (1, .ref 1 0), (7, .p (amtSl us)), (5, .p (strSl ln)), (8, .row 60 (B ++ shU (us.take k) p s).length)]) (fun _ => [(12, [.val (.int .i64 s.1), .val (.int .i64 s.2)]), (1, [.val (.string o.path), .val (.string o.name), x, .val (.int .i64 o.priority), .val (.int .i64 o.deadline), y, .val (.int .i64 o.version)])]) (fun k => [(60, 200, 5, (B ++ shU (us.take k) p s).map shE)]) (fun _ => φ) (fun _ => True) (Gho.sub ?_ ?_ ?_ ?_ rfl) trivial ?_ ?_
          · simp [subFr, go_sem, leAV, headSt, strSl, amtSl, shU]
          · simp [subB, go_sem, headSt]
          · simp [subB, go_sem, headSt, shU]
          · simp [refsOK, go_sem, headSt]
          · rintro k Q3 hk - hn3 - hq3
            obtain ⟨u, hu⟩ : ∃ u, us[k]? = some u := ⟨us[k], by simp [hk]⟩
            have heu : (us.map amtE)[k]? = some [.val (.string u.name), .val (.int .i64 u.value)] := by rw [List.getElem?_map, hu]; rfl
            have hC1 : shU (us.take (k + 1)) p s = shU (us.take k) p s ++ [(⟨p, s, u.name⟩, u.value)] := by unfold shU; rw [List.take_add_one, hu]; simp
            have hCl : (shU (us.take k) p s).length = k := by unfold shU; simp; omega
            have hml : ((B ++ shU (us.take k) p s).map shE).length = (B ++ shU (us.take k) p s).length := List.length_map ..
            have hal : (B ++ shU (us.take k) p s).length = B.length + k := by rw [List.length_append, hCl]
            simp -implicitDefEqProofs only [go_sem, Nat.reduceBEq, Nat.reduceAdd, c88r16, c88r17, amtSl, Int.toNat_natCast, heu, Option.some.injEq, exists_eq_left', List.drop_succ_cons, List.drop_zero, Nat.reduceLeDiff, true_and, List.length_cons, List.length_nil, Nat.ble, List.take_succ_cons, List.take_zero, Nat.zero_add, Nat.le_refl, allK, Nat.reduceMul, hml]
            refine ⟨by omega, by omega, by omega, by omega, ?_, by omega, by simp only [LIM]; omega, hn3 _ trivial ⟨by simp [go_sem], Gho.sub ?_ ?_ ?_ ?_ rfl⟩⟩
            · intro e he; simp at he; subst he; rfl
            · simp [subFr, go_sem, leAV, headSt, strSl, amtSl, hC1, Nat.add_assoc]
            · simp [subB, go_sem, headSt]
            · simp [subB, go_sem, headSt, hC1, shE]
            · simp [refsOK, go_sem, headSt]
          · intro _
            rw [List.take_length]
            have hBe : B ++ shU us p s = A ++ ((scF o 6).take (j + 1)).flatMap (shU us p) := by rw [hB, hB1, List.append_assoc]
            rw [hBe]
            simp -implicitDefEqProofs only [go_sem, Nat.reduceBEq]
            refine hn2 _ trivial ⟨by simp [go_sem], Gho.sub ?_ ?_ ?_ ?_ rfl⟩
            · simp [subFr, go_sem, leAV, headSt]
            · simp [subB, go_sem, headSt]
            · simp [subB, go_sem, headSt]
            · simp [refsOK, go_sem, headSt]
        · intro _
          rw [List.take_length]
          have hAe : A ++ (scF o 6).flatMap (shU us p) = (ln.take (i + 1)).flatMap (shS o us) := by rw [hA1]; rfl
          rw [hAe]
          simp -implicitDefEqProofs only [go_sem, Nat.reduceBEq]
          refine hn _ trivial ⟨by simp [go_sem], Gho.sub ?_ ?_ ?_ ?_ rfl⟩
          · simp [subFr, go_sem, leAV, headSt]
          · simp [subB, go_sem, headSt]
          · simp [subB, go_sem, headSt]
          · simp [refsOK, go_sem, headSt]
      · intro _
        rw [List.take_length]
        have hml : ((ln.flatMap (shS o us)).map shE).length = (ln.flatMap (shS o us)).length := List.length_map ..
        simp -implicitDefEqProofs only [go_sem, Nat.reduceBEq, Nat.reduceAdd, c88r24, strSl, hml]
        exact hK
end Go.Proofs.YtnjblinbdimkjaaGreatDoor

namespace Go.Proofs.YtnjblinbdimkjaaGreatDoor
open Go Go.Am
set_option linter.unusedSimpArgs false

/-! ### the ledger, to be written -/
def Led (b b1 b2 : Nat) (m : EM Place) (c : Nat) (n : EM ByteArray) (d : Nat) (ψ : Res) : Res :=
  (Res.box b [.val (.map (some b1)), .val (.map (some b2))]).sep ((Res.mapB Value.string b2 n d).sep ((Res.mapB encPl b1 m c).sep ψ))
section
variable {b b1 b2 c d c' d' : Nat} {m m' : EM Place} {n n' : EM ByteArray} {ψ : Res}
theorem led_l0 : PhLoad (Led b b1 b2 m c n d ψ) b 0 1 [.val (.map (some b1))] := (load_box (o := 0) (k := 1) (by simp)).l
theorem led_l1 : PhLoad (Led b b1 b2 m c n d ψ) b 1 1 [.val (.map (some b2))] := (load_box (o := 1) (k := 1) (by simp)).l
theorem led_m : PhB (Led b b1 b2 m c n d ψ) encPl b1 m c := phB.l.r.r
theorem led_n : PhB (Led b b1 b2 m c n d ψ) Value.string b2 n d := phB.l.r
theorem led_sm : PhBSet (Led b b1 b2 m c n d ψ) encPl b1 m' c' (Led b b1 b2 m' c' n d ψ) := by
  refine PhBSet.r (Or.inr (Or.inl rfl)) (PhBSet.r (Or.inl rfl) (PhBSet.l rfl phBset))
theorem led_sn : PhBSet (Led b b1 b2 m c n d ψ) Value.string b2 n' d' (Led b b1 b2 m c n' d' ψ) := PhBSet.r (Or.inl rfl) (PhBSet.l rfl phBset)
theorem led_lg : Lg (Led b b1 b2 m c n d ψ) b (fun k => eget k m) := ⟨b1, m, c, led_l0, led_m, fun _ => rfl⟩
end

/-- ledger.New -/
def S40 : Am.Spec := fun rs φ K => rs = [] ∧ ∀ b b1 b2, K (.one (rP b)) (Led b b1 b2 [] 0 [] 0 φ)
theorem d40 : Snd Tryz.prog gls 40 S40 := by
  refine k40 (by rintro rs φ K ⟨rfl, -⟩; simp) ?_
  rintro rs φ K ⟨rfl, hK⟩
  simp -implicitDefEqProofs only [go_sem, Nat.reduceBEq, Nat.reduceAdd, c40, c40r0, c40r1]
  refine primS_of (emakeB (enc := encPl)) ⟨rfl, fun b1 => ?_⟩
  simp -implicitDefEqProofs only [go_sem, Nat.reduceBEq, Nat.reduceAdd]
  refine primS_of (emakeB (enc := Value.string)) ⟨rfl, fun b2 => ?_⟩
  simp -implicitDefEqProofs only [go_sem, Nat.reduceBEq, Nat.reduceAdd, List.drop_succ_cons, List.drop_zero, Nat.reduceLeDiff, true_and, List.length_cons, List.length_nil, Nat.ble, List.take_succ_cons, List.take_zero, Nat.zero_add, Nat.le_refl]
  refine primS_of born_box ⟨_, rfl, fun b => ?_⟩
  simp -implicitDefEqProofs only [go_sem, Nat.reduceBEq, Nat.reduceAdd, List.drop_succ_cons, List.drop_zero, Nat.reduceLeDiff, true_and, List.length_cons, List.length_nil, Nat.ble, List.take_succ_cons, List.take_zero, Nat.zero_add, Nat.le_refl]
  exact hK b b1 b2

/-! ### Ledger.move -/
def cntAt (p : ByteArray) (l : List ByteArray) : Int := ((l.filter (fun x => decide (x = p))).length : Nat)
def sumAt (k : Place) (l : List (Place × Int)) : Int := ((l.filter (fun x => decide (x.1 = k))).map (·.2)).sum
theorem cntAt_snoc {p x : ByteArray} {l : List ByteArray} : cntAt p (l ++ [x]) = cntAt p l + (if x = p then 1 else 0) := by
  unfold cntAt
  by_cases h : x = p <;> simp [List.filter_append, h]
theorem sumAt_snoc {k : Place} {x : Place × Int} {l : List (Place × Int)} : sumAt k (l ++ [x]) = sumAt k l + (if x.1 = k then x.2 else 0) := by
  unfold sumAt
  by_cases h : x.1 = k <;> simp [List.filter_append, h]

def S85 : Am.Spec := fun rs φ K => ∃ (b b1 b2 : Nat) (m : EM Place) (c : Nat) (n : EM ByteArray) (d : Nat) (ln : List ByteArray) (l : List (Place × Int)) (by' : Int) (ψ : Res), rs = [rP b, .p (strSl ln), .p (shSl l), rI by'] ∧ φ = Led b b1 b2 m c n d ψ ∧ EWf m c ∧ EWf n d ∧ (by' = 1 ∨ by' = -1) ∧
  ln.length ≤ BIG ∧ l.length ≤ BIG ∧ (∀ s ∈ l, 0 ≤ s.2 ∧ s.2 ≤ maxI) ∧ (∀ i ≤ ln.length, ∀ p, inI (eget p n + by' * cntAt p (ln.take i))) ∧ (∀ i ≤ l.length, ∀ k, inI (eget k m + by' * sumAt k (l.take i))) ∧
  ∀ m' c' n' d', EWf m' c' → EWf n' d' → (∀ k, eget k m' = eget k m + by' * sumAt k l) → (∀ p, eget p n' = eget p n + by' * cntAt p ln) → K (.tup []) (Led b b1 b2 m' c' n' d' ψ)
theorem inI_wrap {n : Int} (h : inI n) : IntKind.i64.wrap n = n := Am.wrap_small h.1 h.2
theorem d85 : Snd Tryz.prog gls 85 S85 := by
  refine k85 (by rintro rs φ K ⟨b, b1, b2, m, c, n, d, ln, l, by', ψ, rfl, -⟩; simp) ?_
  rintro rs φ K ⟨b, b1, b2, m, c, n, d, ln, l, by', ψ, rfl, rfl, hm, hn, hby, hb1, hb2, hs, hcn, hcs, hK⟩
  have hb1' : ln.length ≤ 1073741824 := hb1
  have hb2' : l.length ≤ 1073741824 := hb2
  simp -implicitDefEqProofs only [go_sem, Nat.reduceBEq, Nat.reduceAdd, c85, c85r0, strSl, shSl]
  intro hL
  refine inv_loop (X := Nat × EM ByteArray × Nat) (fun x => x.1 ≤ ln.length ∧ EWf x.2.1 x.2.2 ∧ ∀ p, eget p x.2.1 = eget p n + by' * cntAt p (ln.take x.1))
    (fun x => ⟨[(14, vI x.1), (13, vI ln.length), (12, .p (strSl ln)), (0, .p (.val (.pointer (some ⟨b, 0, none⟩)))), (2, .p (shSl l)), (3, .p (.val (.int .i64 by')))], [], [], Led b b1 b2 m c x.2.1 x.2.2 ψ⟩) (fun x => ln.length - x.1) (0, n, d) ⟨Nat.zero_le _, hn, fun p => by simp [cntAt]⟩ (Gho.sub ?_ trivial trivial ?_ rfl) ?_
  · simp [subFr, go_sem, leAV, strSl, shSl]
  · simp [refsOK]
  · rintro ⟨k, nk, dk⟩ Q' ⟨hk, hw, hg⟩ hnx hq
    replace hk : k ≤ ln.length := hk
    replace hw : EWf nk dk := hw
    replace hg : ∀ p, eget p nk = eget p n + by' * cntAt p (ln.take k) := hg
    simp -implicitDefEqProofs only [go_sem, Nat.reduceBEq, Nat.reduceAdd, c85l7, c85r1, decide_eq_true_eq, decide_eq_false_iff_not]
    refine ⟨fun hlt => ?_, fun hge => ?_⟩
    · have hlt : k < ln.length := by omega
      obtain ⟨p, hp⟩ : ∃ p, ln[k]? = some p := ⟨ln[k], by simp [hlt]⟩
      have he : (ln.map fun p => [PV.val (.string p)])[k]? = some [.val (.string p)] := by rw [List.getElem?_map, hp]; rfl
      have hc1 : ∀ q, cntAt q (ln.take (k + 1)) = cntAt q (ln.take k) + (if p = q then 1 else 0) := fun q => by rw [List.take_add_one, hp]; exact cntAt_snoc
      have hin := hcn (k + 1) (by omega) p
      rw [hc1 p, if_pos rfl] at hin
      have hval : eget p nk + by' = eget p n + by' * (cntAt p (ln.take k) + 1) := by rw [hg p, Int.mul_add]; omega
      have hwr : IntKind.i64.wrap (eget p nk + by') = eget p nk + by' := by rw [hval]; exact inI_wrap hin
      obtain ⟨w1, w2⟩ := eput_spec (k := p) (v := eget p nk + by') hw
      obtain ⟨n1, hn1⟩ : ∃ n1, n1 = (eput p (eget p nk + by') nk dk).1 := ⟨_, rfl⟩
      obtain ⟨d1, hd1⟩ : ∃ d1, d1 = (eput p (eget p nk + by') nk dk).2 := ⟨_, rfl⟩
      simp -implicitDefEqProofs only [go_sem, Nat.reduceBEq, Nat.reduceAdd, c85r2, c85r3, strSl, Int.toNat_natCast, he, Option.some.injEq, exists_eq_left', List.drop_succ_cons, List.drop_zero, Nat.reduceLeDiff, true_and, List.length_cons, List.length_nil, Nat.ble, List.take_succ_cons, List.take_zero, Nat.zero_add, Nat.le_refl]
      refine ⟨by omega, by omega, _, led_l1, ?_⟩
      simp -implicitDefEqProofs only [go_sem, Nat.reduceBEq, Nat.reduceAdd, List.drop_succ_cons, List.drop_zero, Nat.reduceLeDiff, true_and, List.length_cons, List.length_nil, Nat.ble, List.take_succ_cons, List.take_zero, Nat.zero_add, Nat.le_refl]
      refine primS_of (elookB key9 Tryz.underlying138 info3) ⟨b2, p, nk, dk, rfl, led_n, ?_⟩
      simp -implicitDefEqProofs only [go_sem, Nat.reduceBEq, Nat.reduceAdd, List.drop_succ_cons, List.drop_zero, Nat.reduceLeDiff, true_and, List.length_cons, List.length_nil, Nat.ble, List.take_succ_cons, List.take_zero, Nat.zero_add, Nat.le_refl, hwr]
      refine primS_of (eputB key9 Tryz.underlying138) ⟨b2, p, _, nk, dk, Led b b1 b2 m c n1 d1 ψ, rfl, led_n, by rw [hn1, hd1]; exact led_sn, ?_⟩
      simp -implicitDefEqProofs only [go_sem, Nat.reduceBEq, Nat.reduceAdd, List.drop_succ_cons, List.drop_zero, Nat.reduceLeDiff, true_and, List.length_cons, List.length_nil, Nat.ble, List.take_succ_cons, List.take_zero, Nat.zero_add, Nat.le_refl, c85r4]
      refine ⟨_, led_l1, ?_⟩
      simp -implicitDefEqProofs only [go_sem, Nat.reduceBEq, Nat.reduceAdd, List.drop_succ_cons, List.drop_zero, Nat.reduceLeDiff, true_and, List.length_cons, List.length_nil, Nat.ble, List.take_succ_cons, List.take_zero, Nat.zero_add, Nat.le_refl]
      rw [← hn1] at w1 w2
      rw [← hd1] at w1
      refine primS_of (elookB key9 Tryz.underlying138 info3) ⟨b2, p, n1, d1, rfl, led_n, ?_⟩
      have hself := w2 p
      rw [if_pos rfl] at hself
      have hnew : ∀ q, eget q n1 = eget q n + by' * cntAt q (ln.take (k + 1)) := fun q => by
        rw [w2 q, hc1 q]
        by_cases e : q = p
        · subst e; rw [if_pos rfl, if_pos rfl, hval]
        · rw [if_neg e, if_neg (Ne.symm e), hg q, Int.add_zero]
      simp -implicitDefEqProofs only [go_sem, Nat.reduceBEq, Nat.reduceAdd, List.drop_succ_cons, List.drop_zero, Nat.reduceLeDiff, true_and, List.length_cons, List.length_nil, Nat.ble, List.take_succ_cons, List.take_zero, Nat.zero_add, Nat.le_refl, c85r5, c85r6, hself, next_i hlt hb1', decide_eq_true_eq, decide_eq_false_iff_not]
      refine ⟨fun h0 => ?_, fun h0 => ?_⟩
      · refine ⟨_, led_l1, ?_⟩
        simp -implicitDefEqProofs only [go_sem, Nat.reduceBEq, Nat.reduceAdd, List.drop_succ_cons, List.drop_zero, Nat.reduceLeDiff, true_and, List.length_cons, List.length_nil, Nat.ble, List.take_succ_cons, List.take_zero, Nat.zero_add, Nat.le_refl]
        refine primS_of (edelB key9 Tryz.underlying138) ⟨b2, p, n1, d1, Led b b1 b2 m c (edel p n1) d1 ψ, rfl, led_n, led_sn, ?_⟩
        obtain ⟨x1, x2⟩ := edel_spec (k := p) w1
        simp -implicitDefEqProofs only [go_sem, Nat.reduceBEq, Nat.reduceAdd, List.drop_succ_cons, List.drop_zero, Nat.reduceLeDiff, true_and, List.length_cons, List.length_nil, Nat.ble, List.take_succ_cons, List.take_zero, Nat.zero_add, Nat.le_refl, next_i hlt hb1']
        refine hnx _ (k + 1, edel p n1, d1) ⟨by omega, x1, fun q => ?_⟩ (by simp only; omega) (Gho.sub ?_ trivial trivial ?_ rfl)
        · show eget q (edel p n1) = eget q n + by' * cntAt q (ln.take (k + 1))
          rw [x2 q, ← hnew q]
          by_cases e : q = p
          · subst e; rw [if_pos rfl, hself, h0]
          · rw [if_neg e]
        · simp [subFr, go_sem, leAV, strSl, shSl]
        · simp [refsOK]
      · refine hnx _ (k + 1, n1, d1) ⟨by omega, w1, hnew⟩ (by simp only; omega) (Gho.sub ?_ trivial trivial ?_ rfl)
        · simp [subFr, go_sem, leAV, strSl, shSl]
        · simp [refsOK]
    · have hkk : k = ln.length := by omega
      subst hkk
      rw [List.take_length] at hg
      refine hq _ _ (by simp) ?_
      simp -implicitDefEqProofs only [go_sem, Nat.reduceBEq, Nat.reduceAdd, c85r8, shSl]
      intro hL2
      refine inv_loop (X := Nat × EM Place × Nat) (fun x => x.1 ≤ l.length ∧ EWf x.2.1 x.2.2 ∧ ∀ q, eget q x.2.1 = eget q m + by' * sumAt q (l.take x.1))
        (fun x => ⟨[(41, vI x.1), (40, vI l.length), (39, .p (shSl l)), (0, .p (.val (.pointer (some ⟨b, 0, none⟩)))), (3, .p (.val (.int .i64 by')))], [], [], Led b b1 b2 x.2.1 x.2.2 nk dk ψ⟩) (fun x => l.length - x.1) (0, m, c) ⟨Nat.zero_le _, hm, fun q => by simp [sumAt]⟩ (Gho.sub ?_ trivial trivial ?_ rfl) ?_
      · simp [subFr, go_sem, leAV, strSl, shSl]
      · simp [refsOK]
      · rintro ⟨k, mk, ck⟩ Q2 ⟨hk2, hw2, hg2⟩ hnx2 hq2
        replace hk2 : k ≤ l.length := hk2
        replace hw2 : EWf mk ck := hw2
        replace hg2 : ∀ q, eget q mk = eget q m + by' * sumAt q (l.take k) := hg2
        simp -implicitDefEqProofs only [go_sem, Nat.reduceBEq, Nat.reduceAdd, c85l15, c85r9, decide_eq_true_eq, decide_eq_false_iff_not]
        refine ⟨fun hlt => ?_, fun hge => ?_⟩
        · have hlt : k < l.length := by omega
          obtain ⟨s, hsk⟩ : ∃ s, l[k]? = some s := ⟨l[k], by simp [hlt]⟩
          have he : (l.map shE)[k]? = some [.val (.string s.1.path), .val (.int .i64 s.1.scope.1), .val (.int .i64 s.1.scope.2), .val (.string s.1.res), .val (.int .i64 s.2)] := by rw [List.getElem?_map, hsk]; rfl
          simp -implicitDefEqProofs only [go_sem, Nat.reduceBEq, Nat.reduceAdd, c85r10, shSl, Int.toNat_natCast, he, Option.some.injEq, exists_eq_left', List.drop_succ_cons, List.drop_zero, Nat.reduceLeDiff, true_and, List.length_cons, List.length_nil, Nat.ble, List.take_succ_cons, List.take_zero, Nat.zero_add, Nat.le_refl]
          have hsv := hs s (List.mem_of_getElem? hsk)
          have hc1 : ∀ q, sumAt q (l.take (k + 1)) = sumAt q (l.take k) + (if s.1 = q then s.2 else 0) := fun q => by rw [List.take_add_one, hsk]; exact sumAt_snoc
          have hin := hcs (k + 1) (by omega) s.1
          rw [hc1 s.1, if_pos rfl] at hin
          have hmul : IntKind.i64.wrap (by' * s.2) = by' * s.2 := by
            refine Am.wrap_small ?_ ?_ <;> (unfold maxI at hsv; rcases hby with rfl | rfl <;> omega)
          have hval : eget s.1 mk + by' * s.2 = eget s.1 m + by' * (sumAt s.1 (l.take k) + s.2) := by rw [hg2 s.1, Int.mul_add]; omega
          have hwr : IntKind.i64.wrap (eget s.1 mk + by' * s.2) = eget s.1 mk + by' * s.2 := by rw [hval]; exact inI_wrap hin
          obtain ⟨w1, w2, w3, w4, w5, w6⟩ := eent_spec (k := s.1) (v := eget s.1 mk + by' * s.2) hw2
          obtain ⟨m1, hm1⟩ : ∃ m1, m1 = (eent s.1 mk ck).1 := ⟨_, rfl⟩
          obtain ⟨c1, hcc1⟩ : ∃ c1, c1 = (eent s.1 mk ck).2 := ⟨_, rfl⟩
          obtain ⟨st, hst⟩ : ∃ st, st = estamp s.1 mk ck := ⟨_, rfl⟩
          rw [← hm1, ← hst] at w1 w2 w3 w6
          rw [← hcc1] at w1 w6
          rw [← hm1, ← hcc1] at w4
          rw [← hm1] at w5
          refine ⟨by omega, by omega, Led b b1 b2 m1 c1 nk dk ψ, ?_⟩
          apply Exists.intro
          refine ⟨.tup [.p (.val (.int .i64 (eget s.1 mk))), .p (.val (.int .i64 st))], _, rfl, ?_⟩
          simp -implicitDefEqProofs only [go_sem, Nat.reduceBEq, Nat.reduceAdd, c85r11]
          refine ⟨⟨_, led_l0, by omega, primqA_of rfl (elookB key192 Tryz.underlying137 info2) ⟨b1, s.1, mk, ck, rfl, led_m, rfl, rfl⟩ ?_⟩, ⟨_, led_l0, by omega, primqA_of rfl (elookB key192 Tryz.underlying137 info2) ⟨b1, s.1, m1, c1, rfl, led_m, rfl, rfl⟩ ?_⟩, ?_, ?_, ?_⟩
          · simp -implicitDefEqProofs only [go_sem, Nat.reduceBEq, Nat.reduceAdd, List.drop_succ_cons, List.drop_zero, Nat.reduceLeDiff, true_and, List.length_cons, List.length_nil, Nat.ble, List.take_succ_cons, List.take_zero, Nat.zero_add, Nat.le_refl, hmul, hwr]
            rfl
          · simp -implicitDefEqProofs only [go_sem, Nat.reduceBEq, Nat.reduceAdd, List.drop_succ_cons, List.drop_zero, Nat.reduceLeDiff, true_and, List.length_cons, List.length_nil, Nat.ble, List.take_succ_cons, List.take_zero, Nat.zero_add, Nat.le_refl, hmul, w5, hwr]
          · simp -implicitDefEqProofs only [go_sem, Nat.reduceBEq, Nat.reduceAdd, List.drop_succ_cons, List.drop_zero, Nat.reduceLeDiff, true_and, List.length_cons, List.length_nil, Nat.ble, List.take_succ_cons, List.take_zero, Nat.zero_add, Nat.le_refl]
            refine ⟨_, rfl, _, eentB key192 Tryz.underlying137 info2, b1, s.1, mk, ck, Led b b1 b2 m1 c1 nk dk ψ, rfl, led_m, by rw [← hm1, ← hcc1]; exact led_sm, by rw [hst], rfl⟩
          · simp -implicitDefEqProofs only [go_sem, Nat.reduceBEq, Nat.reduceAdd, List.drop_succ_cons, List.drop_zero, Nat.reduceLeDiff, true_and, List.length_cons, List.length_nil, Nat.ble, List.take_succ_cons, List.take_zero, Nat.zero_add, Nat.le_refl]
            refine ⟨_, rfl, _, eentB key192 Tryz.underlying137 info2, b1, s.1, m1, c1, Led b b1 b2 m1 c1 nk dk ψ, rfl, led_m, by rw [w4, ← hm1, ← hcc1]; exact led_sm, by rw [w5, w6], rfl⟩
          · simp -implicitDefEqProofs only [go_sem, Nat.reduceBEq, Nat.reduceAdd, List.drop_succ_cons, List.drop_zero, Nat.reduceLeDiff, true_and, List.length_cons, List.length_nil, Nat.ble, List.take_succ_cons, List.take_zero, Nat.zero_add, Nat.le_refl]
            refine primS_of (estoreB (enc := encPl)) ⟨b1, st, _, m1, c1, Led b b1 b2 (eset st (eget s.1 mk + by' * s.2) m1) c1 nk dk ψ, rfl, led_m, w3, led_sm, ?_⟩
            obtain ⟨m2, hm2⟩ : ∃ m2, m2 = eset st (eget s.1 mk + by' * s.2) m1 := ⟨_, rfl⟩
            rw [← hm2] at w1 w2 ⊢
            have hself := w2 s.1
            rw [if_pos rfl] at hself
            have hnew : ∀ q, eget q m2 = eget q m + by' * sumAt q (l.take (k + 1)) := fun q => by
              rw [w2 q, hc1 q]
              by_cases e : q = s.1
              · subst e; rw [if_pos rfl, if_pos rfl, hval]
              · rw [if_neg e, if_neg (Ne.symm e), hg2 q, Int.add_zero]
            simp -implicitDefEqProofs only [go_sem, Nat.reduceBEq, Nat.reduceAdd, List.drop_succ_cons, List.drop_zero, Nat.reduceLeDiff, true_and, List.length_cons, List.length_nil, Nat.ble, List.take_succ_cons, List.take_zero, Nat.zero_add, Nat.le_refl, c85r12]
            refine ⟨_, led_l0, primqA_of rfl (elookB key192 Tryz.underlying137 info2) ⟨b1, s.1, m2, c1, rfl, led_m, rfl, rfl⟩ ?_⟩
            simp -implicitDefEqProofs only [go_sem, Nat.reduceBEq, Nat.reduceAdd, List.drop_succ_cons, List.drop_zero, Nat.reduceLeDiff, true_and, List.length_cons, List.length_nil, Nat.ble, List.take_succ_cons, List.take_zero, Nat.zero_add, Nat.le_refl, c85r13, c85r14, hself, next_i hlt hb2', decide_eq_true_eq, decide_eq_false_iff_not]
            refine ⟨fun h0 => ?_, fun h0 => ?_⟩
            · refine ⟨_, led_l0, ?_⟩
              simp -implicitDefEqProofs only [go_sem, Nat.reduceBEq, Nat.reduceAdd, List.drop_succ_cons, List.drop_zero, Nat.reduceLeDiff, true_and, List.length_cons, List.length_nil, Nat.ble, List.take_succ_cons, List.take_zero, Nat.zero_add, Nat.le_refl]
              refine primS_of (edelB key192 Tryz.underlying137) ⟨b1, s.1, m2, c1, Led b b1 b2 (edel s.1 m2) c1 nk dk ψ, rfl, led_m, led_sm, ?_⟩
              obtain ⟨x1, x2⟩ := edel_spec (k := s.1) w1
              simp -implicitDefEqProofs only [go_sem, Nat.reduceBEq, Nat.reduceAdd, List.drop_succ_cons, List.drop_zero, Nat.reduceLeDiff, true_and, List.length_cons, List.length_nil, Nat.ble, List.take_succ_cons, List.take_zero, Nat.zero_add, Nat.le_refl, next_i hlt hb2']
              refine hnx2 _ (k + 1, edel s.1 m2, c1) ⟨by omega, x1, fun q => ?_⟩ (by simp only; omega) (Gho.sub ?_ trivial trivial ?_ rfl)
              · show eget q (edel s.1 m2) = eget q m + by' * sumAt q (l.take (k + 1))
                rw [x2 q, ← hnew q]
                by_cases e : q = s.1
                · subst e; rw [if_pos rfl, hself, h0]
                · rw [if_neg e]
              · simp [subFr, go_sem, leAV, strSl, shSl]
              · simp [refsOK]
            · refine hnx2 _ (k + 1, m2, c1) ⟨by omega, w1, hnew⟩ (by simp only; omega) (Gho.sub ?_ trivial trivial ?_ rfl)
              · simp [subFr, go_sem, leAV, strSl, shSl]
              · simp [refsOK]
        · have hkk : k = l.length := by omega
          subst hkk
          rw [List.take_length] at hg2
          refine hq2 _ _ (by simp) ?_
          simp -implicitDefEqProofs only [go_sem, Nat.reduceBEq, Nat.reduceAdd]
          exact hK _ _ _ _ hw2 hw hg2 hg
end Go.Proofs.YtnjblinbdimkjaaGreatDoor

namespace Go.Proofs.YtnjblinbdimkjaaGreatDoor
open Go Go.Am
set_option linter.unusedSimpArgs false

/-! ### no place twice -/
theorem scF_nodup (o : Obj) : (scF o 6).Nodup := by
  unfold scF
  refine List.Nodup.sublist List.filter_sublist ?_
  rw [List.nodup_iff_pairwise_ne, List.pairwise_map]
  refine (List.nodup_iff_pairwise_ne.1 List.nodup_range).imp fun h e => h ?_
  simp only [scAt, Prod.mk.injEq] at e
  omega
theorem usesF_names (o : Obj) : ((usesF o).1.map (·.name)).Nodup := by
  unfold usesF
  split
  · simp
  · split
    · simp
    · rename_i m hm
      have h1 := sumU_keys _ _ _ hm (by simp)
      have hp : (sortU m).Perm (m.map fun p => ⟨p.1, p.2⟩) := insSort_perm _
      have h2 := hp.map (·.name)
      rw [List.map_map] at h2
      exact h2.nodup_iff.2 h1
theorem usesF_vals (o : Obj) : ∀ a ∈ (usesF o).1, 0 ≤ a.value ∧ a.value ≤ maxI := by
  unfold usesF
  split
  · simp
  · split
    · simp
    · rename_i m hm
      have h1 := sumU_sane _ _ _ hm (by intro p hp; simp at hp; subst hp; simp [maxI])
      have hp : (sortU m).Perm (m.map fun p => ⟨p.1, p.2⟩) := insSort_perm _
      intro a ha
      have := hp.mem_iff.1 ha
      obtain ⟨p, hp, rfl⟩ := List.mem_map.1 this
      exact h1 p hp
theorem shF_apart {o : Obj} {us : List Amt} {ln : List ByteArray} (h1 : ln.Nodup) (h2 : (us.map (·.name)).Nodup) : (shF o us ln).Pairwise (fun x y => x.1 ≠ y.1) := by
  unfold shF
  rw [List.pairwise_flatMap]
  constructor
  · intro p _
    unfold shS
    rw [List.pairwise_flatMap]
    constructor
    · intro s _
      unfold shU
      rw [List.pairwise_map]
      rw [List.nodup_iff_pairwise_ne, List.pairwise_map] at h2
      exact h2.imp fun h e => h (by simp only [Place.mk.injEq] at e; exact e.2.2)
    · refine (List.nodup_iff_pairwise_ne.1 (scF_nodup o)).imp fun {s s'} h x hx y hy e => ?_
      obtain ⟨u, _, rfl⟩ := List.mem_map.1 hx
      obtain ⟨u', _, rfl⟩ := List.mem_map.1 hy
      simp only [Place.mk.injEq] at e
      exact h e.2.1
  · refine (List.nodup_iff_pairwise_ne.1 h1).imp fun {p p'} h x hx y hy e => ?_
    obtain ⟨s, _, hx⟩ := List.mem_flatMap.1 hx
    obtain ⟨s', _, hy⟩ := List.mem_flatMap.1 hy
    obtain ⟨u, _, rfl⟩ := List.mem_map.1 hx
    obtain ⟨u', _, rfl⟩ := List.mem_map.1 hy
    simp only [Place.mk.injEq] at e
    exact h e.1
theorem sumAt_none {k : Place} {l : List (Place × Int)} (h : ∀ x ∈ l, x.1 ≠ k) : sumAt k l = 0 := by
  unfold sumAt
  have : l.filter (fun x => decide (x.1 = k)) = [] := by
    rw [List.filter_eq_nil_iff]; intro x hx; simpa using h x hx
  rw [this]; rfl
theorem sumAt_le {k : Place} : ∀ {l : List (Place × Int)}, l.Pairwise (fun x y => x.1 ≠ y.1) → (∀ s ∈ l, 0 ≤ s.2) → ∀ i, sumAt k (l.take i) = 0 ∨ ∃ s ∈ l, s.1 = k ∧ sumAt k (l.take i) = s.2
  | [], _, _, i => .inl (by simp [sumAt])
  | a :: l, h, hv, 0 => .inl (by simp [sumAt])
  | a :: l, h, hv, i + 1 => by
    rw [List.pairwise_cons] at h
    have e : sumAt k ((a :: l).take (i + 1)) = (if a.1 = k then a.2 else 0) + sumAt k (l.take i) := by
      unfold sumAt
      by_cases h : a.1 = k <;> simp [h]
    rw [e]
    by_cases hk : a.1 = k
    · right
      refine ⟨a, List.mem_cons_self, hk, ?_⟩
      rw [if_pos hk, sumAt_none, Int.add_zero]
      intro x hx e
      exact h.1 x (List.mem_of_mem_take hx) (hk.trans e.symm)
    · rw [if_neg hk, Int.zero_add]
      rcases sumAt_le (k := k) h.2 (fun s hs => hv s (List.mem_cons_of_mem _ hs)) i with h0 | ⟨s, hs, h1, h2⟩
      · exact .inl h0
      · exact .inr ⟨s, List.mem_cons_of_mem _ hs, h1, h2⟩
theorem judF_zero {g : Place × Int → Int} : ∀ {l : List (Place × Int)}, judF g l = 0 → ∀ s ∈ l, g s = 0
  | [], _, s, hs => by cases hs
  | a :: l, h, s, hs => by
    rw [judF] at h
    split at h
    · rename_i h0; exact absurd h h0
    · rename_i h0
      rcases List.mem_cons.1 hs with rfl | hs
      · simpa using h0
      · exact judF_zero h s hs
theorem cntAt_le (p : ByteArray) (l : List ByteArray) : 0 ≤ cntAt p l ∧ cntAt p l ≤ l.length := by
  unfold cntAt
  have := List.length_filter_le (fun x => decide (x = p)) l
  omega

theorem path_pre {s : ByteArray} (h : pathF s = 0) : preF s slash = true := by
  rcases pathF_ok h with rfl | h
  · decide
  · exact h.1
theorem lineGo_nodup : ∀ (n : Nat) (p : ByteArray), preF p slash = true → (lineGo n p).Nodup ∧ ∀ x ∈ lineGo n p, x.size ≤ p.size
  | 0, p, _ => by simp [lineGo]
  | n + 1, p, h => by
    rw [lineGo]
    split
    · simp
    · rename_i hs
      obtain ⟨h1, h2⟩ := above_pre h hs
      obtain ⟨g1, g2⟩ := lineGo_nodup n (aboveF p) h1
      refine ⟨List.nodup_cons.2 ⟨fun hc => ?_, g1⟩, ?_⟩
      · have := g2 p hc; omega
      · intro x hx
        rcases List.mem_cons.1 hx with rfl | hx
        · exact Nat.le_refl _
        · have := g2 x hx; omega
theorem shares_apart (o : Obj) : (sharesF o).2.1.Pairwise (fun x y => x.1 ≠ y.1) ∧ ∀ s ∈ (sharesF o).2.1, 0 ≤ s.2 ∧ s.2 ≤ maxI := by
  unfold sharesF
  split
  · simp
  · rename_i hp
    split
    · simp
    · have hp0 : pathF o.path = 0 := by simpa using hp
      refine ⟨shF_apart (lineGo_nodup _ _ (path_pre hp0)).1 (usesF_names o), ?_⟩
      intro s hs
      obtain ⟨p, _, hs⟩ := List.mem_flatMap.1 hs
      obtain ⟨c, _, hs⟩ := List.mem_flatMap.1 hs
      obtain ⟨u, hu, rfl⟩ := List.mem_map.1 hs
      exact usesF_vals o u hu

/-! ### Ledger.Charge -/
structure LW (N : Int) (m : EM Place) (c : Nat) (n : EM ByteArray) (d : Nat) : Prop where
  wm : EWf m c
  wn : EWf n d
  s : ∀ k, 0 ≤ eget k m ∧ eget k m ≤ maxI
  c : ∀ p, 0 ≤ eget p n ∧ eget p n ≤ N
def chE (f : Place → Int) (o : Obj) : Int := if (sharesF o).2.2 ≠ 0 then (sharesF o).2.2 else judF (aboveL f) (sharesF o).2.1
def chF (f : Place → Int) (o : Obj) : Place → Int := fun k => f k + sumAt k (sharesF o).2.1
def S48 : Am.Spec := fun rs φ K => ∃ b b1 b2 m c n d N o cs ψ, rs = [rP b, .agg cs] ∧ φ = Led b b1 b2 m c n d ψ ∧ LW N m c n d ∧ N ≤ 2305843009213693952 ∧ IsObj o cs ∧ SzL o ∧
  (chE (fun k => eget k m) o ≠ 0 → K (.one (rI (chE (fun k => eget k m) o))) φ) ∧
  (chE (fun k => eget k m) o = 0 → ∀ m' c' n' d', LW (N + 1073741824) m' c' n' d' → (∀ k, eget k m' = chF (fun k => eget k m) o k) → (∀ p, eget p n' = eget p n + cntAt p (sharesF o).1) → K (.one (rI 0)) (Led b b1 b2 m' c' n' d' ψ))
theorem d48 : Snd Tryz.prog gls 48 S48 := by
  refine k48 (by rintro rs φ K ⟨b, b1, b2, m, c, n, d, N, o, cs, ψ, rfl, -⟩; simp) ?_
  rintro rs φ K ⟨b, b1, b2, m, c, n, d, N, o, cs, ψ, rfl, rfl, hw, hN, hO, hSz, hKe, hKo⟩
  have hlen : cs.length = 7 := obj_len hO
  have htk : cs.take 7 = cs := List.take_of_length_le (by omega)
  simp -implicitDefEqProofs only [go_sem, Nat.reduceBEq, Nat.reduceAdd, c48, c48r0, c48r1, List.drop_succ_cons, List.drop_zero, Nat.reduceLeDiff, true_and, List.length_cons, List.length_nil, Nat.ble, List.take_succ_cons, List.take_zero, Nat.zero_add, Nat.le_refl, hlen, htk]
  refine callS_of d88 ⟨o, _, rfl, hO, hSz, ?_⟩
  obtain ⟨hap, hvals⟩ := shares_apart o
  simp -implicitDefEqProofs only [go_sem, Nat.reduceBEq, Nat.reduceAdd, c48r2, c48r3, List.drop_succ_cons, List.drop_zero, Nat.reduceLeDiff, true_and, List.length_cons, List.length_nil, Nat.ble, List.take_succ_cons, List.take_zero, Nat.zero_add, Nat.le_refl, decide_eq_true_eq, decide_eq_false_iff_not, Bool.not_eq_true', Bool.not_eq_false']
  have hbl : (sharesF o).1.length ≤ BIG ∧ (sharesF o).2.1.length ≤ BIG := by
    unfold sharesF
    split
    · simp
    · split
      · simp
      · exact ⟨hSz.2.1, hSz.2.2.2⟩
  refine ⟨fun h => ?_, fun h => ?_⟩
  · have e1 : chE (fun k => eget k m) o = (sharesF o).2.2 := by rw [chE, if_pos h]
    rw [e1] at hKe
    exact hKe h
  · have e1 : chE (fun k => eget k m) o = judF (aboveL (fun k => eget k m)) (sharesF o).2.1 := by rw [chE, if_neg (by simp [h])]
    rw [e1] at hKe hKo
    have hbr : ∀ s ∈ (sharesF o).2.1, Brings Tryz.prog gls 90 [] [rP b, .agg (shE s)] (Led b b1 b2 m c n d ψ) (.one (rI (aboveL (fun k => eget k m) s))) := fun s hs =>
      brings_of d90 ⟨b, _, s, rfl, led_lg, (hvals s hs).1, (hvals s hs).2, rfl, rfl⟩
    simp -implicitDefEqProofs only [go_sem, Nat.reduceBEq, Nat.reduceAdd, c48r4, List.drop_succ_cons, List.drop_zero, Nat.reduceLeDiff, true_and, List.length_cons, List.length_nil, Nat.ble, List.take_succ_cons, List.take_zero, Nat.zero_add, Nat.le_refl]
    refine callS_of d89 ⟨b, (sharesF o).2.1, 90, [], _, rfl, hbl.2, hbr, ?_⟩
    simp -implicitDefEqProofs only [go_sem, Nat.reduceBEq, Nat.reduceAdd, c48r5, c48r6, List.drop_succ_cons, List.drop_zero, Nat.reduceLeDiff, true_and, List.length_cons, List.length_nil, Nat.ble, List.take_succ_cons, List.take_zero, Nat.zero_add, Nat.le_refl, decide_eq_true_eq, decide_eq_false_iff_not, Bool.not_eq_true', Bool.not_eq_false']
    refine ⟨fun h2 => hKe h2, fun h2 => ?_⟩
    have h20 : judF (aboveL (fun k => eget k m)) (sharesF o).2.1 = 0 := by simpa using h2
    have hj := judF_zero h20
    simp -implicitDefEqProofs only [go_sem, Nat.reduceBEq, Nat.reduceAdd, c48r7, c48r8, List.drop_succ_cons, List.drop_zero, Nat.reduceLeDiff, true_and, List.length_cons, List.length_nil, Nat.ble, List.take_succ_cons, List.take_zero, Nat.zero_add, Nat.le_refl]
    have hsum : ∀ i k, 0 ≤ sumAt k ((sharesF o).2.1.take i) ∧ eget k m + sumAt k ((sharesF o).2.1.take i) ≤ maxI := fun i k => by
      have h1 := hw.s k
      rcases sumAt_le (k := k) hap (fun s hs => (hvals s hs).1) i with h0 | ⟨s, hs, rfl, h0⟩
      · rw [h0]; omega
      · rw [h0]
        have h2 := hj s hs
        have h3 := (hvals s hs).1
        unfold aboveL at h2
        dsimp only at h2
        split at h2
        · cases h2
        · omega
    have hbl1 : (sharesF o).1.length ≤ 1073741824 := hbl.1
    have hmx : maxI = 9223372036854775807 := rfl
    refine callS_of d85 ⟨b, b1, b2, m, c, n, d, (sharesF o).1, (sharesF o).2.1, 1, ψ, rfl, rfl, hw.wm, hw.wn, .inl rfl, hbl.1, hbl.2, hvals, fun i _ p => ?_, fun i _ k => ?_, fun m' c' n' d' w1 w2 g1 g2 => ?_⟩
    · have h1 := hw.c p
      have h3 := cntAt_le p ((sharesF o).1.take i)
      have h4 : ((sharesF o).1.take i).length ≤ (sharesF o).1.length := by rw [List.length_take]; omega
      rw [Int.one_mul]
      exact ⟨by omega, by omega⟩
    · have h1 := hw.s k
      have h3 := hsum i k
      rw [Int.one_mul]
      exact ⟨by omega, by omega⟩
    · simp only [Int.one_mul] at g1 g2
      refine hKo h20 m' c' n' d' ⟨w1, w2, fun k => ?_, fun p => ?_⟩ g1 g2
      · have h1 := hw.s k
        have h3 := hsum (sharesF o).2.1.length k
        rw [List.take_length] at h3
        rw [g1 k]; omega
      · have h1 := hw.c p
        have h3 := cntAt_le p (sharesF o).1
        rw [g2 p]; omega
end Go.Proofs.YtnjblinbdimkjaaGreatDoor

namespace Go.Proofs.YtnjblinbdimkjaaGreatDoor
open Go Go.Am
set_option linter.unusedSimpArgs false

/-! ### ledger.Of -/
def ofL : List Obj → (Place → Int) → Int × (Place → Int)
  | [], f => (0, f)
  | o :: l, f => if chE f o ≠ 0 then (chE f o, f) else ofL l (chF f o)
def S45 : Am.Spec := fun rs φ K => ∃ l x, rs = [.p x] ∧ SlR IsObj l x ∧ (∀ o ∈ l, SzL o) ∧ ((ofL l fun _ => 0).1 ≠ 0 → ∀ φ', Drops φ' φ → K (.tup [.p (.val (.pointer none)), rI (ofL l fun _ => 0).1]) φ') ∧
  ((ofL l fun _ => 0).1 = 0 → ∀ b b1 b2 m c n d, LW 1152921504606846976 m c n d → (∀ k, eget k m = (ofL l fun _ => 0).2 k) → K (.tup [rP b, rI 0]) (Led b b1 b2 m c n d φ))
theorem led_drops {b b1 b2 c d : Nat} {m : EM Place} {n : EM ByteArray} {ψ : Res} : Drops (Led b b1 b2 m c n d ψ) ψ := (Drops.sep _ _).trans ((Drops.sep _ _).trans (Drops.sep _ _))
theorem d45 : Snd Tryz.prog gls 45 S45 := by
  refine k45 (by rintro rs φ K ⟨l, x, rfl, -⟩; simp) ?_
  rintro rs φ K ⟨l, x, rfl, ⟨es, rfl, hb, hl⟩, hSz, hKe, hKo⟩
  have hb' : l.length ≤ 1073741824 := hb
  simp -implicitDefEqProofs only [go_sem, Nat.reduceBEq, Nat.reduceAdd, c45, c45r0, c45r1]
  refine callS_of d40 ⟨rfl, fun b b1 b2 => ?_⟩
  simp -implicitDefEqProofs only [go_sem, Nat.reduceBEq, Nat.reduceAdd, c45r2]
  intro hL
  refine inv_loop (X := Nat × EM Place × Nat × EM ByteArray × Nat) (fun x => x.1 ≤ l.length ∧ LW (x.1 * 1073741824) x.2.1 x.2.2.1 x.2.2.2.1 x.2.2.2.2 ∧ (ofL l fun _ => 0) = ofL (l.drop x.1) (fun k => eget k x.2.1))
    (fun x => ⟨[(11, vI x.1), (10, vI l.length), (9, .p (.sl es l.length)), (4, .p (.val (.pointer (some ⟨b, 0, none⟩))))], [], [], Led b b1 b2 x.2.1 x.2.2.1 x.2.2.2.1 x.2.2.2.2 φ⟩) (fun x => l.length - x.1) (0, [], 0, [], 0)
    ⟨Nat.zero_le _, ⟨ewf_nil, ewf_nil, fun k => by simp [eget, evals, mget, maxI], fun p => by simp [eget, evals, mget]⟩, rfl⟩ (Gho.sub ?_ trivial trivial ?_ rfl) ?_
  · simp [subFr, go_sem, leAV]
  · simp [refsOK]
  · rintro ⟨k, m, c, n, d⟩ Q' ⟨hk, hw, hg⟩ hnx hq
    replace hk : k ≤ l.length := hk
    replace hw : LW (k * 1073741824) m c n d := hw
    replace hg : (ofL l fun _ => 0) = ofL (l.drop k) (fun q => eget q m) := hg
    simp -implicitDefEqProofs only [go_sem, Nat.reduceBEq, Nat.reduceAdd, c45l9, c45r3, decide_eq_true_eq, decide_eq_false_iff_not]
    refine ⟨fun hlt => ?_, fun hge => ?_⟩
    · have hlt : k < l.length := by omega
      obtain ⟨o, e, ho, he, hO⟩ := SlR.at hl hlt
      have hlen : e.length = 7 := obj_len hO
      have htk : e.take 7 = e := List.take_of_length_le (by omega)
      have hd0 : l.drop k = o :: l.drop (k + 1) := by
        rw [List.drop_eq_getElem_cons hlt]
        have : l[k] = o := by rw [List.getElem?_eq_getElem hlt] at ho; exact Option.some.inj ho
        rw [this]
      rw [hd0, ofL] at hg
      simp -implicitDefEqProofs only [go_sem, Nat.reduceBEq, Nat.reduceAdd, c45r4, c45r5, Int.toNat_natCast, he, Option.some.injEq, exists_eq_left', List.drop_succ_cons, List.drop_zero, Nat.reduceLeDiff, true_and, List.length_cons, List.length_nil, Nat.ble, List.take_succ_cons, List.take_zero, Nat.zero_add, Nat.le_refl, hlen, htk]
      refine ⟨by omega, by omega, callS_of d48 ⟨b, b1, b2, m, c, n, d, _, o, e, φ, rfl, rfl, hw, by omega, hO, hSz o (List.mem_of_getElem? ho), fun h => ?_, fun h m' c' n' d' w g1 _ => ?_⟩⟩
      · simp -implicitDefEqProofs only [go_sem, Nat.reduceBEq, Nat.reduceAdd, c45r6, c45r7, List.drop_succ_cons, List.drop_zero, Nat.reduceLeDiff, true_and, List.length_cons, List.length_nil, Nat.ble, List.take_succ_cons, List.take_zero, Nat.zero_add, Nat.le_refl, decide_eq_true_eq, decide_eq_false_iff_not, Bool.not_eq_true', Bool.not_eq_false']
        refine ⟨fun _ => ?_, fun h2 => absurd h2 h⟩
        refine hq _ _ (by simp) ?_
        rw [if_pos h] at hg
        rw [hg] at hKe
        simp -implicitDefEqProofs only [go_sem, Nat.reduceBEq, Nat.reduceAdd]
        exact hKe h _ led_drops
      · simp -implicitDefEqProofs only [go_sem, Nat.reduceBEq, Nat.reduceAdd, c45r6, c45r7, c45r8, List.drop_succ_cons, List.drop_zero, Nat.reduceLeDiff, true_and, List.length_cons, List.length_nil, Nat.ble, List.take_succ_cons, List.take_zero, Nat.zero_add, Nat.le_refl, decide_eq_true_eq, decide_eq_false_iff_not, Bool.not_eq_true', Bool.not_eq_false', next_i hlt hb']
        refine ⟨fun h2 => absurd trivial h2, ?_⟩
        rw [if_neg (by simp [h])] at hg
        have hfe : (fun q => eget q m') = chF (fun q => eget q m) o := funext g1
        refine hnx _ (k + 1, m', c', n', d') ⟨by omega, ?_, by rw [hg]; show _ = ofL (l.drop (k + 1)) (fun q => eget q m'); rw [hfe]⟩ (by simp only; omega) (Gho.sub ?_ trivial trivial ?_ rfl)
        · show LW (((k + 1 : Nat) : Int) * 1073741824) m' c' n' d'
          have : ((k + 1 : Nat) : Int) * 1073741824 = (k : Int) * 1073741824 + 1073741824 := by omega
          rw [this]; exact w
        · simp [subFr, go_sem, leAV]
        · simp [refsOK]
    · have hkk : k = l.length := by omega
      subst hkk
      rw [List.drop_length, ofL] at hg
      rw [hg] at hKo
      refine hq _ _ (by simp) ?_
      simp -implicitDefEqProofs only [go_sem, Nat.reduceBEq, Nat.reduceAdd, c45r10]
      refine hKo rfl b b1 b2 m c n d ⟨hw.wm, hw.wn, hw.s, fun p => ?_⟩ fun _ => rfl
      have := hw.c p
      omega
end Go.Proofs.YtnjblinbdimkjaaGreatDoor

namespace Go.Proofs.YtnjblinbdimkjaaGreatDoor
open Go Go.Am
set_option linter.unusedSimpArgs false

/-! ### quota -/
abbrev rW (n : Int) : RV := .p (.val (.int .u64 n))
def S123 : Am.Spec := fun rs φ K => ∃ a b : Int, rs = [rW a, rW b, rW 0] ∧ 0 ≤ a ∧ 0 ≤ b ∧ a + b < 18446744073709551616 ∧ K (.tup [rW (a + b), rW 0]) φ
theorem d123 : Snd Tryz.prog gls 123 S123 := Snd.run (by
  rintro rs φ K ⟨a, b, rfl, h0, h1, h2, hK⟩
  refine ⟨_, hK, fun F vs h => ?_⟩
  obtain ⟨v, u, x, rfl, g1, g2, g3⟩ := arg3 h
  rw [argV g1, argV g2, argV g3]
  refine ⟨.tuple #[.int .u64 (a + b), .int .u64 0], ⟨[.int .u64 (a + b), .int .u64 0], rfl, .cons (.val rfl) (.cons (.val rfl) .nil)⟩, fun w => ?_⟩
  rw [run_callFunc_extern (e := add64Entry) Tryz.func123 (by kernel_rfl) (by kernel_rfl) (by kernel_rfl) (by kernel_rfl)]
  have := run_add64 (P := Tryz.prog) a b 0 h0 h1 (by omega) (by omega) w
  show ((add64Entry #[.int .u64 a, .int .u64 b, .int .u64 0]).run Tryz.prog w).andThen _ = _
  rw [this]
  rw [show (a + b + 0) % 18446744073709551616 = a + b by omega, show (a + b + 0) / 18446744073709551616 = 0 by omega]
  rfl)

/-- quota.above, of what is from 0 on -/
def S99 : Am.Spec := fun rs φ K => ∃ u s m h : Int, rs = [rI u, rI s, rI m, rI h] ∧ (0 ≤ u ∧ u ≤ maxI) ∧ (0 ≤ s ∧ s ≤ maxI) ∧ (0 ≤ m ∧ m ≤ maxI) ∧ (0 ≤ h ∧ h ≤ maxI) ∧ K (.one (rB (decide (h + s < u + m)))) φ
theorem d99 : Snd Tryz.prog gls 99 S99 := by
  refine k99 (by rintro rs φ K ⟨u, s, m, h, rfl, -⟩; simp) ?_
  rintro rs φ K ⟨u, s, m, h, rfl, ⟨u0, u1⟩, ⟨s0, s1⟩, ⟨m0, m1⟩, ⟨h0, h1⟩, hK⟩
  have hmx : maxI = 9223372036854775807 := rfl
  have hw : ∀ n : Int, 0 ≤ n → n ≤ maxI → IntKind.u64.wrap n = n := fun n a b => by rw [u64_wrap a (by omega)]; omega
  simp -implicitDefEqProofs only [go_sem, Nat.reduceBEq, Nat.reduceAdd, c99, c99r0, c99r1, hw u u0 u1, hw m m0 m1]
  refine callS_of d123 ⟨u, m, rfl, u0, m0, by omega, ?_⟩
  simp -implicitDefEqProofs only [go_sem, Nat.reduceBEq, Nat.reduceAdd, c99r2, List.drop_succ_cons, List.drop_zero, Nat.reduceLeDiff, true_and, List.length_cons, List.length_nil, Nat.ble, List.take_succ_cons, List.take_zero, Nat.zero_add, Nat.le_refl, hw s s0 s1, hw h h0 h1]
  refine callS_of d123 ⟨h, s, rfl, h0, s0, by omega, ?_⟩
  simp -implicitDefEqProofs only [go_sem, Nat.reduceBEq, Nat.reduceAdd, c99r3, List.drop_succ_cons, List.drop_zero, Nat.reduceLeDiff, true_and, List.length_cons, List.length_nil, Nat.ble, List.take_succ_cons, List.take_zero, Nat.zero_add, Nat.le_refl]
  exact ⟨fun _ => ⟨fun _ => hK, fun e => by simp at e⟩, fun e => by simp at e⟩

def S196 : Am.Spec := fun rs φ K => ∃ a cs r, rs = [.agg cs, .p (.ip [.val (.string r)])] ∧ IsAmt a cs ∧ K (.one (rB (decide (a.name = r)))) φ
theorem d196 : Snd Tryz.prog gls 196 S196 := by
  refine k196 (by rintro rs φ K ⟨a, cs, r, rfl, -⟩; simp) ?_
  rintro rs φ K ⟨a, cs, r, rfl, ⟨rfl, -⟩, hK⟩
  simp -implicitDefEqProofs only [go_sem, Nat.reduceBEq, Nat.reduceAdd, c196, c196r0, c196r1, List.drop_succ_cons, List.drop_zero, Nat.reduceLeDiff, true_and, List.length_cons, List.length_nil, Nat.ble, List.take_succ_cons, List.take_zero, Nat.zero_add, Nat.le_refl]
  exact K_bool hK rfl
def hasF (l : List Amt) (r : ByteArray) : Bool := l.any fun a => decide (a.name = r)
def S146 : Am.Spec := fun rs φ K => ∃ l x r, rs = [.p x, rS r] ∧ SlR IsAmt l x ∧ K (.one (rB (hasF l r))) φ
theorem asks196 {φ : Res} {r : ByteArray} : ∀ {l : List Amt} {es : List (List PV)}, All2 IsAmt l es → All2 (Asks 2 196 [.ip [.val (.string r)]] φ) es (l.map fun a => decide (a.name = r))
  | _, _, .nil => .nil
  | _, _, .cons h t => .cons ⟨by rw [h.1]; rfl, brings_of d196 ⟨_, _, r, rfl, h, rfl, rfl⟩⟩ (asks196 t)
theorem d146 : Snd Tryz.prog gls 146 S146 := by
  refine k146 (by rintro rs φ K ⟨a, cs, r, rfl, -⟩; simp) ?_
  rintro rs φ K ⟨l, x, r, rfl, ⟨es, rfl, hb, hl⟩, hK⟩
  simp -implicitDefEqProofs only [go_sem, Nat.reduceBEq, Nat.reduceAdd, c146, c146r0, c146r1, List.drop_succ_cons, List.drop_zero, Nat.reduceLeDiff, true_and, List.length_cons, List.length_nil, Nat.ble, List.take_succ_cons, List.take_zero, Nat.zero_add, Nat.le_refl]
  refine callS_of d63 ⟨es, l.length, 196, [.ip [.val (.string r)]], _, rfl, SlR.le hl, asks196 hl, ?_⟩
  simp -implicitDefEqProofs only [go_sem, Nat.reduceBEq, Nat.reduceAdd]
  refine K_bool hK ?_
  unfold hasF
  rw [List.any_map]; rfl
end Go.Proofs.YtnjblinbdimkjaaGreatDoor
