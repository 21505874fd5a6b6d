/-
  bursarlaw18.QuotaApart answers true and leaves its arguments as they were, for inputs of bulk at most 1048576 (the given second form; no other condition). Part 26 of 26 of the proof.
-/
import Derived.Test.YtnjblinbdimkjaaGreatDoorM25
import Derived.Test.YtnjblinbdimkjaaGreatDoorCards
import Derived.Test.YtnjblinbdimkjaaGreatDoorTie
import Derived.ReadAgain
import Derived.Deep.Slices
import Derived.WalkKit
import Derived.ProofKit
import Derived.OpenShut
import Derived.Deep.DeepHandedRow
import Derived.Lib.LaidTab
import Derived.Deep.DeepLaidRun
namespace Go.Proofs.YtnjblinbdimkjaaGreatDoor
open Go Go.Am
set_option linter.unusedSimpArgs false

theorem Snd.or {P : Program} {gl : Nat → Option (List PV)} {f : FuncId} {S T : Am.Spec} (h : Snd P gl f S) (k : Snd P gl f T) : Snd P gl f (fun rs φ K => S rs φ K ∨ T rs φ K) where
  calls := fun rs φ K hS => hS.elim (h.calls rs φ K) (k.calls rs φ K)

/-! ### QuotaApart -/
def wL : Lin := ⟨⟨#[119]⟩, 0, 5⟩
/-- a row of lines of one's own, nil if there is none -/
def RawL (v : Value) (PH : List Lin → Res) (l : List Lin) (φ : Res) : Prop :=
  (l = [] ∧ v = .slice none 0 0 ∧ PH = fun _ => φ) ∨ (∃ g c, 0 < l.length ∧ v = hdr g l.length c ∧ PH = fun rows => (Res.own (hdr g l.length c) 68 3 (rows.map linC)).sep φ)
theorem RawL.lg {v : Value} {PH : List Lin → Res} {l rows : List Lin} {φ : Res} {b : Nat} {f : Place → Int} (h : RawL v PH l φ) (hl : Lg φ b f) : Lg (PH rows) b f := by
  rcases h with ⟨-, -, rfl⟩ | ⟨g, c, -, -, rfl⟩
  · exact hl
  · exact hl.r
theorem RawL.sl {v : Value} {PH : List Lin → Res} {l : List Lin} {φ : Res} (h : RawL v PH l φ) : ∃ ao c, v = .slice ao l.length c := by
  rcases h with ⟨rfl, rfl, -⟩ | ⟨g, c, -, rfl, -⟩
  · exact ⟨_, _, rfl⟩
  · exact ⟨_, _, rfl⟩
theorem raw28 {v : Value} {PH : List Lin → Res} {l m : List Lin} {φ : Res} {y : PV} {K : Out → Res → Prop} (h : RawL v PH l φ) (hl : l.length ≤ BIG) (hm : SlR IsLin m y) (hK : K (.one (rB (decide (l = m)))) (PH l)) :
    S28 [.p (nilSl (.val v)), .p y] (PH l) K ∨ S28r [.p (nilSl (.val v)), .p y] (PH l) K := by
  rcases h with ⟨rfl, rfl, rfl⟩ | ⟨g, c, -, rfl, rfl⟩
  · exact .inl ⟨[], m, _, y, rfl, ⟨[], rfl, by simp, .nil⟩, hm, hK⟩
  · exact .inr ⟨g, c, l, m, y, φ, rfl, rfl, hl, hm, hK⟩
def wrF (ln : List Lin) (k : Nat) : List Lin := List.replicate k wL ++ ln.drop k
theorem wrF_len {ln : List Lin} {k : Nat} (h : k ≤ ln.length) : (wrF ln k).length = ln.length := by simp [wrF]; omega
theorem wrF_get {ln : List Lin} {k : Nat} (h : k < ln.length) : (wrF ln k)[k]? = some ln[k] := by
  unfold wrF
  rw [List.getElem?_append_right (by simp)]
  simp [h]
theorem wrF_set {ln : List Lin} {k : Nat} (h : k < ln.length) : (wrF ln k).set k wL = wrF ln (k + 1) := by
  unfold wrF
  rw [List.set_append_right _ _ (by simp), List.length_replicate, Nat.sub_self, List.drop_eq_getElem_cons h, List.set_cons_zero, List.replicate_succ', List.append_assoc]
  rfl
theorem wrF_all {ln : List Lin} : wrF ln ln.length = List.replicate ln.length wL := by simp [wrF]
theorem RawL.load {v : Value} {PH : List Lin → Res} {l rows : List Lin} {φ : Res} {g n c k : Nat} {a : Lin} (h : RawL v PH l φ) (hv : v = hdr g n c) (hk : rows[k]? = some a) (hkl : k < l.length) : PhLoad (PH rows) g (k * 3) 3 (linC a) := by
  rcases h with ⟨rfl, -, -⟩ | ⟨g', c', -, rfl, rfl⟩
  · simp at hkl
  · simp only [hdr, Value.slice.injEq, Option.some.injEq, Addr.mk.injEq] at hv
    obtain ⟨⟨rfl, -⟩, rfl, rfl⟩ := hv
    exact (load_own (b := g') (n := l.length) (c := c') (T := 68) (k := 3) (i := k) (j := 0) (m := 3) (es := rows.map linC) (e := linC a) (by rw [List.getElem?_map, hk]; rfl) rfl (by omega)).l (φ := φ)
theorem RawL.hdr {PH : List Lin → Res} {l : List Lin} {φ : Res} {ao : Option Addr} {c k : Nat} (h : RawL (.slice ao l.length c) PH l φ) (hk : k < l.length) : ∃ g, ao = some ⟨g, 0, none⟩ := by
  rcases h with ⟨rfl, -, -⟩ | ⟨g', c', -, hv, -⟩
  · simp at hk
  · simp only [Am.hdr, Value.slice.injEq] at hv
    exact ⟨g', hv.1⟩
def S6 : Am.Spec := fun rs φ K => ∃ l x q qs, rs = [.p x, .agg qs] ∧ SlR IsObj l x ∧ IsQuo q qs ∧ ∀ φ', Drops φ' φ → K (.one (rB true)) φ'
theorem d6 : Snd Tryz.prog gls 6 S6 := by
  refine k6 (by rintro rs φ K ⟨l, x, q, qs, rfl, -⟩; simp) ?_
  rintro rs φ K ⟨ol, x, q, qs, rfl, hx, hQ, hK⟩
  have hQ' := hQ
  obtain ⟨y, rfl, ⟨ys, rfl, hb, -⟩, -⟩ := hQ'
  obtain ⟨xs, rfl, -⟩ := id hx
  have hQ2 := hardC_is hQ
  simp -implicitDefEqProofs only [go_sem, Nat.reduceBEq, Nat.reduceAdd, c6, c6r0, c6r1, List.drop_succ_cons, List.drop_zero, Nat.reduceLeDiff, true_and, List.length_cons, List.length_nil, Nat.ble, List.take_succ_cons, List.take_zero, Nat.zero_add, Nat.le_refl]
  refine callS_of (d11.up) ⟨rfl, ?_⟩
  simp -implicitDefEqProofs only [go_sem, Nat.reduceBEq, Nat.reduceAdd, c6r2, c6r3, List.drop_succ_cons, List.drop_zero, Nat.reduceLeDiff, true_and, List.length_cons, List.length_nil, Nat.ble, List.take_succ_cons, List.take_zero, Nat.zero_add, Nat.le_refl, Bool.not_true]
  refine callS_of (d20.up) ⟨ol, _, rfl, hx, fun b b1 b2 m c n d es' hw hm hel hall => ?_⟩
  have hlg : Lg (Led b b1 b2 m c n d φ) b (fun k => eget k m) := led_lg
  obtain ⟨f, hf⟩ : ∃ f : Place → Int, f = fun k => eget k m := ⟨_, rfl⟩
  rw [← hf] at hlg
  obtain ⟨φ0, hφ0⟩ : ∃ φ0, φ0 = Led b b1 b2 m c n d φ := ⟨_, rfl⟩
  have hdr0 : Drops φ0 φ := by rw [hφ0]; exact led_drops
  rw [← hφ0] at hlg ⊢
  simp -implicitDefEqProofs only [go_sem, Nat.reduceBEq, Nat.reduceAdd, c6r4, c6r5, c6r6, List.drop_succ_cons, List.drop_zero, Nat.reduceLeDiff, true_and, List.length_cons, List.length_nil, Nat.ble, List.take_succ_cons, List.take_zero, Nat.zero_add, Nat.le_refl]
  refine callS_of (d26.up) ⟨q, _, rfl, hQ, ?_⟩
  simp -implicitDefEqProofs only [go_sem, Nat.reduceBEq, Nat.reduceAdd, hardC, List.drop_succ_cons, List.drop_zero, Nat.reduceLeDiff, true_and, List.length_cons, List.length_nil, Nat.ble, List.take_succ_cons, List.take_zero, Nat.zero_add, Nat.le_refl, c6r7]
  have cont : ∀ (v : Value) (PH : List Lin → Res), RawL v PH (linesF f q) φ0 → ∀ (fr : List (Nat × AV)), getT 8 fr = some (.p (.val v)) → getT 5 fr = some (.p (.val (.pointer (some ⟨b, 0, none⟩)))) → getT 3 fr = some (.ref 3 0) → getT 7 fr = some (.ref 7 0) →
      aops Tryz.prog (glX gls [81]) c6r8 (thenQ (awp Tryz.prog (glX gls [81])
        ((ACode.reg c6r9).seq (((ACode.reg c6r10).seq (ACode.cond (Opd.t 39) ((ACode.reg c6r11).seq ACode.ret) ACode.skip)).seq ((ACode.reg c6r12).seq ((ACode.reg c6r13).seq ((ACode.reg c6r14).seq
          (((ACode.reg c6r15).seq (ACode.block 0 c6l19.loop)).seq ((ACode.reg c6r20).seq (((ACode.reg c6r21).seq (ACode.block 2 c6l26.loop)).seq (((ACode.reg c6r27).seq (ACode.cond (Opd.t 76) ((ACode.reg c6r28).seq ACode.ret) ACode.skip)).seq
            ((ACode.reg c6r29).seq (((ACode.reg c6r30).seq (ACode.block 4 c6l35.loop)).seq ((ACode.reg c6r36).seq ACode.ret)))))))))))) (endQ K [ResV.t 4])) (endQ K [ResV.t 4]) Ex.normal)
        ⟨fr, [(7, [.val (.string q.path), .val (.string q.name), .val (.int .i64 q.scope.1), .val (.int .i64 q.scope.2), markSl (.sl ys q.hard.length)]), (3, [.val (.string q.path), .val (.string q.name), .val (.int .i64 q.scope.1), .val (.int .i64 q.scope.2), .sl ys q.hard.length])], [], PH (linesF f q)⟩ := by
    intro v PH hR fr f8 f5 f3 f7
    have hlin : (linesF f q).length ≤ q.hard.length := by unfold linesF; split <;> simp
    have hb' : q.hard.length ≤ 1073741824 := hb
    have hli : SlR IsLin (linesF f q) (linSl (linesF f q)) := linSl_is (by unfold BIG; omega)
    have hmk : markSl (.sl ys q.hard.length) = .sl (ys.take q.hard.length ++ [markC]) q.hard.length := rfl
    obtain ⟨ln, hln⟩ : ∃ ln, ln = linesF f q := ⟨_, rfl⟩
    have hl1 : ln.length ≤ 1073741824 := by rw [hln]; omega
    simp -implicitDefEqProofs only [go_sem, Nat.reduceBEq, Nat.reduceAdd, List.drop_succ_cons, List.drop_zero, Nat.reduceLeDiff, true_and, List.length_cons, List.length_nil, Nat.ble, List.take_succ_cons, List.take_zero, Nat.zero_add, Nat.le_refl, c6r8, f8, f5, f3, f7]
    refine callS_of (d27.up) ⟨b, f, q, _, rfl, hR.lg hlg, hQ2, ?_⟩
    rw [← hln] at hR hli ⊢
    simp -implicitDefEqProofs only [go_sem, Nat.reduceBEq, Nat.reduceAdd, List.drop_succ_cons, List.drop_zero, Nat.reduceLeDiff, true_and, List.length_cons, List.length_nil, Nat.ble, List.take_succ_cons, List.take_zero, Nat.zero_add, Nat.le_refl, c6r9, linSl, f8]
    obtain ⟨ao, cc, hv⟩ := hR.sl
    subst hv
    have hlb : ln.length ≤ BIG := hl1
    simp -implicitDefEqProofs only [go_sem, Nat.reduceBEq, Nat.reduceAdd, List.drop_succ_cons, List.drop_zero, Nat.reduceLeDiff, true_and, List.length_cons, List.length_nil, Nat.ble, List.take_succ_cons, List.take_zero, Nat.zero_add, Nat.le_refl, c6r10, f8, f5, f3, f7, optGetD_some]
    refine callS_of ((Snd.or d28 d28r).up) (raw28 hR hlb hli ?_)
    rw [decide_eq_true (rfl : ln = ln)]
    simp -implicitDefEqProofs only [go_sem, Nat.reduceBEq, Nat.reduceAdd, List.drop_succ_cons, List.drop_zero, Nat.reduceLeDiff, true_and, List.length_cons, List.length_nil, Nat.ble, List.take_succ_cons, List.take_zero, Nat.zero_add, Nat.le_refl, f8, f5, f3, f7, optGetD_some, c6r11, c6r12, c6r13, c6r14, Bool.not_true, allK, Nat.reduceMul, List.nil_append]
    have hml : (ln.map linC).length = ln.length := List.length_map ..
    have htk : List.take ln.length (ln.map linC) = ln.map linC := List.take_of_length_le (by omega)
    have h3 : ∀ e ∈ ln.map linC, e.length = 3 := fun e he => by obtain ⟨a, -, rfl⟩ := List.mem_map.1 he; rfl
    rw [htk, hml]
    refine ⟨h3, by omega, by simp only [LIM]; omega, ?_⟩
    simp -implicitDefEqProofs only [go_sem, Nat.reduceBEq, Nat.reduceAdd, List.drop_succ_cons, List.drop_zero, Nat.reduceLeDiff, true_and, List.length_cons, List.length_nil, Nat.ble, List.take_succ_cons, List.take_zero, Nat.zero_add, Nat.le_refl, c6r15]
    refine inv_loop (X := Nat) (fun k => k ≤ ln.length) (fun k => ⟨[(13, vI k), (10, vI ln.length), (8, .p (.val (.slice ao ln.length cc))), (12, .p (.val (.slice ao ln.length cc))), (9, .p (linSl ln)), (11, .row 42 ln.length), (5, .p (.val (.pointer (some ⟨b, 0, none⟩)))), (3, .ref 3 0), (7, .ref 7 0)], [(7, [.val (.string q.path), .val (.string q.name), .val (.int .i64 q.scope.1), .val (.int .i64 q.scope.2), markSl (.sl ys q.hard.length)]), (3, [.val (.string q.path), .val (.string q.name), .val (.int .i64 q.scope.1), .val (.int .i64 q.scope.2), .sl ys q.hard.length])], [(42, 68, 3, ln.map linC)], PH (wrF ln k)⟩) (fun k => ln.length - k) 0 (Nat.zero_le _) (Gho.sub ?_ ?_ ?_ ?_ ?_) ?_
    · simp [subFr, go_sem, leAV, f8, f5, f3, f7, linSl]
    · simp [subB, go_sem]
    · simp [subB, go_sem]
    · simp [refsOK, go_sem]
    · simp [wrF]
    · rintro k Q' hk hnx hq
      replace hk : k ≤ ln.length := hk
      simp -implicitDefEqProofs only [go_sem, Nat.reduceBEq, Nat.reduceAdd, c6l19, c6r16, decide_eq_true_eq, decide_eq_false_iff_not]
      refine ⟨fun hlt => ?_, fun hge => ?_⟩
      · have hlt : k < ln.length := by omega
        rcases hR with ⟨rfl, -, -⟩ | ⟨g, c', hpos, hvv, hPH⟩
        · simp at hlt
        · simp only [hdr, Value.slice.injEq, true_and] at hvv
          obtain ⟨rfl, rfl⟩ := hvv
          subst hPH
          simp -implicitDefEqProofs only [go_sem, Nat.reduceBEq, Nat.reduceAdd, List.drop_succ_cons, List.drop_zero, Nat.reduceLeDiff, true_and, List.length_cons, List.length_nil, Nat.ble, List.take_succ_cons, List.take_zero, Nat.zero_add, Nat.le_refl, c6r17, c6r18, Int.toNat_natCast, next_i hlt hl1]
          have hst := (store_own (b := g) (n := ln.length) (c := cc) (T := 68) (k := 3) (i := k) (j := 0) (es := (wrF ln k).map linC) (e := linC ln[k]) (zs := linC wL) (by rw [List.getElem?_map, wrF_get hlt]; rfl) rfl (by show 0 + 3 ≤ 3; omega)).l (φ := φ0)
          have hes : ((wrF ln k).map linC).set k (splice (linC ln[k]) 0 (linC wL)) = (wrF ln (k + 1)).map linC := by
            rw [← wrF_set hlt, List.map_set]; rfl
          rw [hes] at hst
          refine ⟨by omega, by omega, ?_⟩
          unfold storeA
          simp only [cellsOf]
          refine ⟨_, rfl, hst, ?_⟩
          simp -implicitDefEqProofs only [go_sem, Nat.reduceBEq, Nat.reduceAdd, List.drop_succ_cons, List.drop_zero, Nat.reduceLeDiff, true_and, List.length_cons, List.length_nil, Nat.ble, List.take_succ_cons, List.take_zero, Nat.zero_add, Nat.le_refl, next_i hlt hl1]
          refine hnx _ (k + 1) (by omega) (by omega) (Gho.sub ?_ ?_ ?_ ?_ rfl)
          · simp [subFr, go_sem, leAV]
          · simp [subB, go_sem]
          · simp [subB, go_sem]
          · simp [refsOK, go_sem]
      · have hkk : k = ln.length := by omega
        subst hkk
        refine hq _ _ (by simp) ?_
        rw [wrF_all]
        obtain ⟨ww, hww⟩ : ∃ ww, ww = List.replicate ln.length wL := ⟨_, rfl⟩
        have hwl : ww.length = ln.length := by rw [hww]; simp
        have hwg : ∀ i, i < ln.length → ww[i]? = some wL := fun i hi => by rw [hww]; simp [hi]
        rw [← hww]
        simp -implicitDefEqProofs only [go_sem, Nat.reduceBEq, Nat.reduceAdd, List.drop_succ_cons, List.drop_zero, Nat.reduceLeDiff, true_and, List.length_cons, List.length_nil, Nat.ble, List.take_succ_cons, List.take_zero, Nat.zero_add, Nat.le_refl, c6r20]
        refine callS_of (d27.up) ⟨b, f, q, _, rfl, hR.lg hlg, hQ2, ?_⟩
        rw [← hln]
        simp -implicitDefEqProofs only [go_sem, Nat.reduceBEq, Nat.reduceAdd, List.drop_succ_cons, List.drop_zero, Nat.reduceLeDiff, true_and, List.length_cons, List.length_nil, Nat.ble, List.take_succ_cons, List.take_zero, Nat.zero_add, Nat.le_refl, c6r21, linSl]
        refine inv_loop (X := Nat) (fun k => k ≤ ln.length) (fun k => ⟨[(15, vI k), (14, .p (linSl ln)), (10, vI ln.length), (8, .p (.val (.slice ao ln.length cc))), (12, .p (.val (.slice ao ln.length cc))), (9, .p (linSl ln)), (11, .row 42 ln.length), (5, .p (.val (.pointer (some ⟨b, 0, none⟩)))), (3, .ref 3 0), (7, .ref 7 0)], [(7, [.val (.string q.path), .val (.string q.name), .val (.int .i64 q.scope.1), .val (.int .i64 q.scope.2), markSl (.sl ys q.hard.length)]), (3, [.val (.string q.path), .val (.string q.name), .val (.int .i64 q.scope.1), .val (.int .i64 q.scope.2), .sl ys q.hard.length])], [(42, 68, 3, ln.map linC)], PH ww⟩) (fun k => ln.length - k) 0 (Nat.zero_le _) (Gho.sub ?_ ?_ ?_ ?_ rfl) ?_
        · simp [subFr, go_sem, leAV, linSl]
        · simp [subB, go_sem]
        · simp [subB, go_sem]
        · simp [refsOK, go_sem]
        · rintro k Q2 hk hnx2 hq2
          replace hk : k ≤ ln.length := hk
          simp -implicitDefEqProofs only [go_sem, Nat.reduceBEq, Nat.reduceAdd, c6l26, c6r22, decide_eq_true_eq, decide_eq_false_iff_not]
          refine ⟨fun hlt => ?_, fun hge => ?_⟩
          · have hlt : k < ln.length := by omega
            obtain ⟨g, rfl⟩ := hR.hdr hlt
            have hld := hR.load (rows := ww) rfl (hwg k hlt) hlt
            simp -implicitDefEqProofs only [go_sem, Nat.reduceBEq, Nat.reduceAdd, List.drop_succ_cons, List.drop_zero, Nat.reduceLeDiff, true_and, List.length_cons, List.length_nil, Nat.ble, List.take_succ_cons, List.take_zero, Nat.zero_add, Nat.le_refl, c6r23, c6r24, c6r25, Int.toNat_natCast, next_i hlt hl1]
            refine ⟨by omega, by omega, _, hld, ?_⟩
            simp -implicitDefEqProofs only [go_sem, Nat.reduceBEq, Nat.reduceAdd, List.drop_succ_cons, List.drop_zero, Nat.reduceLeDiff, true_and, List.length_cons, List.length_nil, Nat.ble, List.take_succ_cons, List.take_zero, Nat.zero_add, Nat.le_refl, linC, wL, c6r24, c6r25, decide_true, Bool.and_true, Bool.not_true, next_i hlt hl1]
            refine hnx2 _ (k + 1) (by omega) (by omega) (Gho.sub ?_ ?_ ?_ ?_ rfl)
            · simp [subFr, go_sem, leAV]
            · simp [subB, go_sem]
            · simp [subB, go_sem, linC]
            · simp [refsOK, go_sem]
          · refine hq2 _ _ (by simp) ?_
            simp -implicitDefEqProofs only [go_sem, Nat.reduceBEq, Nat.reduceAdd, List.drop_succ_cons, List.drop_zero, Nat.reduceLeDiff, true_and, List.length_cons, List.length_nil, Nat.ble, List.take_succ_cons, List.take_zero, Nat.zero_add, Nat.le_refl, c6r27, linSl, hml]
            refine callS_of (d28.up) ⟨ln, ln, _, _, rfl, hli, hli, ?_⟩
            rw [decide_eq_true (rfl : ln = ln)]
            simp -implicitDefEqProofs only [go_sem, Nat.reduceBEq, Nat.reduceAdd, List.drop_succ_cons, List.drop_zero, Nat.reduceLeDiff, true_and, List.length_cons, List.length_nil, Nat.ble, List.take_succ_cons, List.take_zero, Nat.zero_add, Nat.le_refl, Bool.not_true]
            refine callS_of (d28.up) ⟨ln, ln, _, _, rfl, hli, hli, ?_⟩
            rw [decide_eq_true (rfl : ln = ln)]
            simp -implicitDefEqProofs only [go_sem, Nat.reduceBEq, Nat.reduceAdd, List.drop_succ_cons, List.drop_zero, Nat.reduceLeDiff, true_and, List.length_cons, List.length_nil, Nat.ble, List.take_succ_cons, List.take_zero, Nat.zero_add, Nat.le_refl, Bool.not_true, c6r28, c6r29, chunks]
            have hwml : (ww.map linC).length = ln.length := by rw [List.length_map]; exact hwl
            refine ⟨by omega, by omega, by omega, primS_of (app_own Tryz.underlying64 info68 rfl rfl (by decide)) ⟨_, ww.map linC, _, 2, φ0, rfl, ?_, ?_, by simp, by rw [hwml]; simp only [Tryz.t68]; omega, by rw [hwml]; simp only [LIM]; omega, fun v' g1 _ => ?_⟩⟩
            · rcases hR with ⟨h0, hv0, rfl⟩ | ⟨g, c', -, hv0, rfl⟩
              · refine .inr ⟨hv0, ?_, rfl⟩
                rw [List.eq_nil_of_length_eq_zero (by rw [hwl, h0]; rfl : ww.length = 0)]; rfl
              · rw [hv0]; exact .inl rfl
            · intro e he
              simp at he
              rcases he with rfl | rfl <;> rfl
            · obtain ⟨g, c', rfl⟩ := g1 (by omega)
              rw [hwml]
              obtain ⟨rw2, hrw2⟩ : ∃ rw2, rw2 = ww.map linC ++ List.take 2 [[PV.val (.string ⟨#[118]⟩), .val (.int .i64 0), .val (.int .i64 0)], [.val (.string ⟨#[117]⟩), .val (.int .i64 0), .val (.int .i64 0)]] := ⟨_, rfl⟩
              rw [← hrw2]
              have hld : ∀ k, k < ln.length → PhLoad ((Res.own (hdr g (ln.length + 2) c') 68 3 rw2).sep φ0) g (k * 3) 3 (linC wL) := fun k hk =>
                (load_own (b := g) (n := ln.length + 2) (c := c') (T := 68) (k := 3) (i := k) (j := 0) (m := 3) (es := rw2) (e := linC wL) (by rw [hrw2, List.getElem?_append_left (by omega), List.getElem?_map, hwg k hk]; rfl) rfl (by omega)).l
              simp -implicitDefEqProofs only [go_sem, Nat.reduceBEq, Nat.reduceAdd, List.drop_succ_cons, List.drop_zero, Nat.reduceLeDiff, true_and, List.length_cons, List.length_nil, Nat.ble, List.take_succ_cons, List.take_zero, Nat.zero_add, Nat.le_refl, c6r30]
              have hlg2 : Lg ((Res.own (hdr g (ln.length + 2) c') 68 3 rw2).sep φ0) b f := hlg.r
              refine inv_loop (X := Nat) (fun k => k ≤ ln.length) (fun k => ⟨[(16, vI k), (10, vI ln.length), (8, .p (.val (hdr g (ln.length + 2) c'))), (9, .p (linSl ln)), (5, .p (.val (.pointer (some ⟨b, 0, none⟩)))), (3, .ref 3 0), (7, .ref 7 0)], [(7, [.val (.string q.path), .val (.string q.name), .val (.int .i64 q.scope.1), .val (.int .i64 q.scope.2), markSl (.sl ys q.hard.length)]), (3, [.val (.string q.path), .val (.string q.name), .val (.int .i64 q.scope.1), .val (.int .i64 q.scope.2), .sl ys q.hard.length])], [], (Res.own (hdr g (ln.length + 2) c') 68 3 rw2).sep φ0⟩) (fun k => ln.length - k) 0 (Nat.zero_le _) (Gho.sub ?_ ?_ trivial ?_ rfl) ?_
              · simp [subFr, go_sem, leAV, linSl]
              · simp [subB, go_sem]
              · simp [refsOK, go_sem]
              · rintro k Q3 hk hnx3 hq3
                replace hk : k ≤ ln.length := hk
                simp -implicitDefEqProofs only [go_sem, Nat.reduceBEq, Nat.reduceAdd, c6l35, c6r31, decide_eq_true_eq, decide_eq_false_iff_not, hdr]
                refine ⟨fun hlt => ?_, fun hge => ?_⟩
                · have hlt : k < ln.length := by omega
                  simp -implicitDefEqProofs only [go_sem, Nat.reduceBEq, Nat.reduceAdd, List.drop_succ_cons, List.drop_zero, Nat.reduceLeDiff, true_and, List.length_cons, List.length_nil, Nat.ble, List.take_succ_cons, List.take_zero, Nat.zero_add, Nat.le_refl, c6r32, c6r33, c6r34, Int.toNat_natCast, next_i hlt hl1]
                  refine ⟨by omega, by omega, _, hld k hlt, ?_⟩
                  simp -implicitDefEqProofs only [go_sem, Nat.reduceBEq, Nat.reduceAdd, List.drop_succ_cons, List.drop_zero, Nat.reduceLeDiff, true_and, List.length_cons, List.length_nil, Nat.ble, List.take_succ_cons, List.take_zero, Nat.zero_add, Nat.le_refl, linC, wL, c6r33, c6r34, decide_true, Bool.and_true, Bool.not_true, next_i hlt hl1]
                  refine hnx3 _ (k + 1) (by omega) (by omega) (Gho.sub ?_ ?_ trivial ?_ rfl)
                  · simp [subFr, go_sem, leAV]
                  · simp [subB, go_sem]
                  · simp [refsOK, go_sem]
                · refine hq3 _ _ (by simp) ?_
                  have hwr : IntKind.i64.wrap ((ln.length : Int) + 2) = (ln.length : Int) + 2 := Am.wrap_small (by omega) (by omega)
                  simp -implicitDefEqProofs only [go_sem, Nat.reduceBEq, Nat.reduceAdd, List.drop_succ_cons, List.drop_zero, Nat.reduceLeDiff, true_and, List.length_cons, List.length_nil, Nat.ble, List.take_succ_cons, List.take_zero, Nat.zero_add, Nat.le_refl, c6r36, linSl, hwr]
                  refine ⟨fun _ => ?_, fun h => absurd h (by simp)⟩
                  refine callS_of (d27.up) ⟨b, f, q, _, rfl, hlg2, hQ2, ?_⟩
                  rw [← hln]
                  simp -implicitDefEqProofs only [go_sem, Nat.reduceBEq, Nat.reduceAdd, List.drop_succ_cons, List.drop_zero, Nat.reduceLeDiff, true_and, List.length_cons, List.length_nil, Nat.ble, List.take_succ_cons, List.take_zero, Nat.zero_add, Nat.le_refl, linSl]
                  refine callS_of (d28.up) ⟨ln, ln, _, _, rfl, hli, hli, ?_⟩
                  rw [decide_eq_true (rfl : ln = ln)]
                  simp -implicitDefEqProofs only [go_sem, Nat.reduceBEq, Nat.reduceAdd, List.drop_succ_cons, List.drop_zero, Nat.reduceLeDiff, true_and, List.length_cons, List.length_nil, Nat.ble, List.take_succ_cons, List.take_zero, Nat.zero_add, Nat.le_refl]
                  refine callS_of (d29.up) ⟨q, _, _, rfl, hQ, hQ, ?_⟩
                  simp -implicitDefEqProofs only [go_sem, Nat.reduceBEq, Nat.reduceAdd, List.drop_succ_cons, List.drop_zero, Nat.reduceLeDiff, true_and, List.length_cons, List.length_nil, Nat.ble, List.take_succ_cons, List.take_zero, Nat.zero_add, Nat.le_refl]
                  exact hK _ ((Drops.sep _ _).trans hdr0)
  refine callS_of (d27r.up) ⟨b, f, q, _, rfl, hlg, hQ2, fun hl0 => ?_, fun hln g c => ?_⟩
  · simp -implicitDefEqProofs only [go_sem, Nat.reduceBEq, Nat.reduceAdd, List.drop_succ_cons, List.drop_zero, Nat.reduceLeDiff, true_and, List.length_cons, List.length_nil, Nat.ble, List.take_succ_cons, List.take_zero, Nat.zero_add, Nat.le_refl]
    refine cont _ (fun _ => φ0) (.inl ⟨hl0, rfl, rfl⟩) _ ?_ ?_ ?_ ?_ <;> simp [go_sem]
  · simp -implicitDefEqProofs only [go_sem, Nat.reduceBEq, Nat.reduceAdd, List.drop_succ_cons, List.drop_zero, Nat.reduceLeDiff, true_and, List.length_cons, List.length_nil, Nat.ble, List.take_succ_cons, List.take_zero, Nat.zero_add, Nat.le_refl]
    refine cont _ (fun rows => (Res.own (hdr g (linesF f q).length c) 68 3 (rows.map linC)).sep φ0) (.inr ⟨g, c, List.length_pos_iff.2 hln, rfl, rfl⟩) _ ?_ ?_ ?_ ?_ <;> simp [go_sem]
end Go.Proofs.YtnjblinbdimkjaaGreatDoor

/-
  From what a reading says of memory to what AM asks of its arguments.
-/
namespace Go.Proofs.YtnjblinbdimkjaaGreatDoor
open Go Go.Am Go.Deep Go.ChangeShapes Go.WideShapes
set_option linter.unusedSimpArgs false

/-- all that memory holds -/
def memF (W : World) : Facts := fun b o => W.cell? ⟨b, o, none⟩

instance : Inhabited Amt := ⟨⟨default, 0⟩⟩
instance : Inhabited Lab := ⟨⟨default, default⟩⟩
instance : Inhabited Part := ⟨⟨default, [], []⟩⟩
instance : Inhabited Obj := ⟨⟨default, default, [], 0, 0, [], 0⟩⟩
instance : Inhabited Quo := ⟨⟨default, default, (0, 0), []⟩⟩

theorem bulk_one {H : Type} (d : DataW H) : 1 ≤ Rows.uptoBulk d := by
  cases d with
  | lit l => cases l <;> simp [Rows.uptoBulk]
  | nil => simp [Rows.uptoBulk]
  | ptr d => simp [Rows.uptoBulk]
  | slice elems spare => simp [Rows.uptoBulk]
  | agg parts => simp [Rows.uptoBulk]
  | iface t d => simp [Rows.uptoBulk]
  | map entries => simp [Rows.uptoBulk]
  | held h => simp [Rows.uptoBulk]
theorem bulk_part {H : Type} {d : DataW H} {l : List (DataW H)} (h : d ∈ l) : Rows.uptoBulk d ≤ Rows.uptoBulkAll l := by
  induction l with
  | nil => cases h
  | cons x r ih =>
    simp only [Rows.uptoBulkAll]
    cases List.mem_cons.1 h with
    | inl e => subst e; omega
    | inr e => have := ih e; omega
theorem bulk_len {H : Type} (l : List (DataW H)) : l.length ≤ Rows.uptoBulkAll l := by
  induction l with
  | nil => simp [Rows.uptoBulkAll]
  | cons x r ih => have := bulk_one x; simp only [Rows.uptoBulkAll, List.length_cons]; omega

section
variable {H : Type} {enc : TypeId × Value → H} {W : World}

theorem rd_slice {α : Type} [Inhabited α] {R : α → List PV → Prop} {t e k : Nat} (ht : Tryz.prog.underlying t = some (.slice e)) (hk : Tryz.prog.cellsOf e = k) (hpos : 0 < k)
    (hE : ∀ n cs x, DataW.trod enc Tryz.prog W 0 (fun _ => true) true n e cs = some x → Rows.uptoBulk x.1 ≤ 1048576 → ∃ a ps, R a ps ∧ RepL (memF W) ps cs)
    {n : Nat} {cs : List Value} {x : DataW H × List MemPlace} (h : DataW.trod enc Tryz.prog W 0 (fun _ => true) true n t cs = some x) (hb : Rows.uptoBulk x.1 ≤ 1048576) :
    ∃ l v px, cs = [v] ∧ SlR R l px ∧ RepP (memF W) px v := by
  rcases open_slice ht h with ⟨rfl, -⟩ | ⟨a, len, cap, m, n', D, Pl, rfl, -, hlc, -, hm, rfl, hx⟩
  · exact ⟨[], _, .sl [] 0, rfl, ⟨[], rfl, by simp [BIG], .nil⟩, .nil⟩
  simp only [if_true] at hm
  subst hm
  rw [hk] at hx
  simp only [Rows.uptoBulk] at hb
  have hl1 := bulk_len ((List.range len).map D)
  rw [List.length_map, List.length_range] at hl1
  by_cases hcap : m = 0
  · subst hcap
    obtain rfl : len = 0 := by omega
    exact ⟨[], _, .sl [] 0, rfl, ⟨[], rfl, by simp [BIG], .nil⟩, .nil0⟩
  have hsp : a.spot = none := by
    obtain ⟨cs', h1, -⟩ := hx 0 (by omega)
    obtain ⟨-, h2, h3⟩ := World.cells?_some h1
    have := h3 0 hpos
    rw [List.getElem?_eq_getElem (by omega), Nat.zero_mul] at this
    simp only [Addr.add, if_true, World.cell?] at this
    split at this
    · split at this
      · cases this
      · rename_i hs
        simpa using hs
    · cases this
  obtain ⟨b, o, s⟩ := a
  simp only at hsp
  subst hsp
  obtain ⟨A, hA⟩ := choose_lt (α := α × List PV) (n := len) (p := fun i q => R q.1 q.2 ∧ ∃ cs', W.cells? 0 ((⟨b, o, none⟩ : Addr).add (i * k)) k = some cs' ∧ RepL (memF W) q.2 cs') (fun i hi => by
    obtain ⟨cs', h1, h2⟩ := hx i (by omega)
    obtain ⟨q, ps, h3, h4⟩ := hE _ _ _ h2 (by
      have := bulk_part (d := D i) (l := (List.range len).map D) (List.mem_map.2 ⟨i, List.mem_range.2 hi, rfl⟩)
      show Rows.uptoBulk (D i) ≤ _
      omega)
    exact ⟨(q, ps), h3, cs', h1, h4⟩)
  have hlen : ((List.range len).map fun i => (A i).1).length = len := by simp
  have hcell : ∀ (i j : Nat) (e : List PV) (x : PV), ((List.range len).map fun i => (A i).2)[i]? = some e → e[j]? = some x → ∃ v, W.cell? ⟨b, o + (i * k + j), none⟩ = some v ∧ RepP (memF W) x v := by
    intro i j e x he hx'
    have hi : i < len := by have := (List.getElem?_eq_some_iff.1 he).1; simpa using this
    obtain ⟨-, cs', h1, h2⟩ := hA i hi
    have hee : e = (A i).2 := by simpa [hi] using he.symm
    subst hee
    obtain ⟨v, hv, hr⟩ := h2.get hx'
    obtain ⟨-, h3, h4⟩ := World.cells?_some h1
    have hj : j < k := by rw [← h3]; exact (List.getElem?_eq_some_iff.1 hv).1
    refine ⟨v, ?_, hr⟩
    have := h4 j hj
    rw [Go.Am.addr_add, Go.Am.addr_add, hv, Nat.add_assoc] at this
    exact this
  refine ⟨(List.range len).map fun i => (A i).1, _, .sl ((List.range len).map fun i => (A i).2) len, rfl, ⟨_, by rw [hlen], by rw [hlen]; simp only [BIG]; omega, ?_⟩, ?_⟩
  · rw [hlen, List.take_of_length_le (by simp)]
    refine All2.of_get (by simp) fun i x y h1 h2 => ?_
    have hi : i < len := by have := (List.getElem?_eq_some_iff.1 h1).1; simpa using this
    have e1 : x = (A i).1 := by simpa [hi] using h1.symm
    have e2 : y = (A i).2 := by simpa [hi] using h2.symm
    rw [e1, e2]
    exact (hA i hi).1
  · refine .sl (fun i j => (W.cell? ⟨b, o + (i * k + j), none⟩).getD undef) k (by simp) (by simpa using hlc) (by simp only [List.length_map, List.length_range, LIM]; omega) ?_ ?_ ?_
    · intro e he
      obtain ⟨i, hi, rfl⟩ := List.mem_map.1 he
      obtain ⟨-, cs', h1, h2⟩ := hA i (List.mem_range.1 hi)
      obtain ⟨-, h3, -⟩ := World.cells?_some h1
      exact h2.len.trans h3
    · intro i j e x he hx'
      obtain ⟨v, hv, -⟩ := hcell i j e x he hx'
      simp only [memF, hv, Option.getD_some]
    · intro i j e x he hx'
      obtain ⟨v, hv, hr⟩ := hcell i j e x he hx'
      simpa only [hv, Option.getD_some] using hr

theorem rd_int {t n : Nat} {cs : List Value} {x : DataW H × List MemPlace} (ht : Tryz.prog.underlying t = some (.int .i64)) (h : DataW.trod enc Tryz.prog W 0 (fun _ => true) true n t cs = some x) : ∃ z : Int, cs = [.int .i64 z] ∧ inI z := by
  obtain ⟨z, rfl, -, hw⟩ := DataW.trod_int ht h
  refine ⟨z, rfl, ?_⟩
  simp only [Lit.wf, Bool.and_eq_true] at hw
  have e1 : IntKind.i64.min = -9223372036854775808 := by decide
  have e2 : IntKind.i64.max = 9223372036854775807 := by decide
  rw [e1, e2] at hw
  exact ⟨of_decide_eq_true hw.1, of_decide_eq_true hw.2⟩
theorem rd_string {n : Nat} {cs : List Value} {x : DataW H × List MemPlace} (h : DataW.trod enc Tryz.prog W 0 (fun _ => true) true n 9 cs = some x) : ∃ s, cs = [.string s] := by
  obtain ⟨s, rfl, -⟩ := DataW.trod_string Tryz.underlying9 h
  exact ⟨s, rfl⟩

theorem len2 {α : Type} {l : List α} (h : l.length = 2) : ∃ a0 a1, l = [a0, a1] := by
  match l, h with
  | [a0, a1], _ => exact ⟨a0, a1, rfl⟩
theorem len3 {α : Type} {l : List α} (h : l.length = 3) : ∃ a0 a1 a2, l = [a0, a1, a2] := by
  match l, h with
  | [a0, a1, a2], _ => exact ⟨a0, a1, a2, rfl⟩
theorem len4 {α : Type} {l : List α} (h : l.length = 4) : ∃ a0 a1 a2 a3, l = [a0, a1, a2, a3] := by
  match l, h with
  | [a0, a1, a2, a3], _ => exact ⟨a0, a1, a2, a3, rfl⟩
theorem len5 {α : Type} {l : List α} (h : l.length = 5) : ∃ a0 a1 a2 a3 a4, l = [a0, a1, a2, a3, a4] := by
  match l, h with
  | [a0, a1, a2, a3, a4], _ => exact ⟨a0, a1, a2, a3, a4, rfl⟩
theorem len7 {α : Type} {l : List α} (h : l.length = 7) : ∃ a0 a1 a2 a3 a4 a5 a6, l = [a0, a1, a2, a3, a4, a5, a6] := by
  match l, h with
  | [a0, a1, a2, a3, a4, a5, a6], _ => exact ⟨a0, a1, a2, a3, a4, a5, a6, rfl⟩
theorem repv {v : Value} (h : v.oneCell' = true) : RepP (memF W) (.val v) v := .val h

theorem c9 : Tryz.prog.cellsOf 9 = 1 := by kernel_rfl
theorem c2_ : Tryz.prog.cellsOf 2 = 1 := by kernel_rfl
theorem c3_ : Tryz.prog.cellsOf 3 = 1 := by kernel_rfl
theorem c24_ : Tryz.prog.cellsOf 24 = 1 := by kernel_rfl
theorem c25_ : Tryz.prog.cellsOf 25 = 1 := by kernel_rfl
theorem c47_ : Tryz.prog.cellsOf 47 = 1 := by kernel_rfl
theorem c76_ : Tryz.prog.cellsOf 76 = 2 := by kernel_rfl
theorem c180_ : Tryz.prog.cellsOf 180 = 2 := by kernel_rfl
theorem c50_ : Tryz.prog.cellsOf 50 = 3 := by kernel_rfl
theorem c27_ : Tryz.prog.cellsOf 27 = 7 := by kernel_rfl
theorem c60_ : Tryz.prog.cellsOf 60 = 2 := by kernel_rfl
theorem c62_ : Tryz.prog.cellsOf 62 = 5 := by kernel_rfl

theorem rd_amt {n : Nat} {cs : List Value} {x : DataW H × List MemPlace} (h : DataW.trod enc Tryz.prog W 0 (fun _ => true) true n 76 cs = some x) (_ : Rows.uptoBulk x.1 ≤ 1048576) : ∃ a ps, IsAmt a ps ∧ RepL (memF W) ps cs := by
  obtain ⟨xs, m, -, rfl, hl, hx, hf⟩ := DataW.trod_struct Tryz.underlying76 h
  rw [c76_] at hl
  obtain ⟨v0, v1, rfl⟩ := len2 hl
  obtain ⟨y0, y1, rfl⟩ := len2 hx
  have f0 := hf 0 _ rfl
  have f1 := hf 1 _ rfl
  simp only [c9, c2_, List.drop_zero, List.drop_succ_cons, List.take_succ_cons, List.take_zero, List.getElem?_cons_zero, List.getElem?_cons_succ, List.getElem_toArray, List.getElem_cons_zero, List.getElem_cons_succ] at f0 f1
  obtain ⟨s, e⟩ := rd_string f0
  obtain ⟨z, e', hz⟩ := rd_int Tryz.underlying2 f1
  simp only [List.cons.injEq, and_true] at e e'
  subst e e'
  exact ⟨⟨s, z⟩, _, ⟨rfl, hz⟩, .cons (.val rfl) (.cons (.val rfl) .nil)⟩

theorem rd_lab {n : Nat} {cs : List Value} {x : DataW H × List MemPlace} (h : DataW.trod enc Tryz.prog W 0 (fun _ => true) true n 180 cs = some x) (_ : Rows.uptoBulk x.1 ≤ 1048576) : ∃ a ps, IsLab a ps ∧ RepL (memF W) ps cs := by
  obtain ⟨xs, m, -, rfl, hl, hx, hf⟩ := DataW.trod_struct Tryz.underlying180 h
  rw [c180_] at hl
  obtain ⟨v0, v1, rfl⟩ := len2 hl
  obtain ⟨y0, y1, rfl⟩ := len2 hx
  have f0 := hf 0 _ rfl
  have f1 := hf 1 _ rfl
  simp only [c9, List.drop_zero, List.drop_succ_cons, List.take_succ_cons, List.take_zero, List.getElem?_cons_zero, List.getElem?_cons_succ, List.getElem_toArray, List.getElem_cons_zero, List.getElem_cons_succ] at f0 f1
  obtain ⟨s, e⟩ := rd_string f0
  obtain ⟨s', e'⟩ := rd_string f1
  simp only [List.cons.injEq, and_true] at e e'
  subst e e'
  exact ⟨⟨s, s'⟩, _, rfl, .cons (.val rfl) (.cons (.val rfl) .nil)⟩

theorem rd_amts {n : Nat} {cs : List Value} {x : DataW H × List MemPlace} (h : DataW.trod enc Tryz.prog W 0 (fun _ => true) true n 47 cs = some x) (hb : Rows.uptoBulk x.1 ≤ 1048576) :
    ∃ l v px, cs = [v] ∧ SlR IsAmt l px ∧ RepP (memF W) px v := rd_slice Tryz.underlying47 c76_ (by decide) (fun n cs x => rd_amt) h hb
theorem rd_labs {n : Nat} {cs : List Value} {x : DataW H × List MemPlace} (h : DataW.trod enc Tryz.prog W 0 (fun _ => true) true n 24 cs = some x) (hb : Rows.uptoBulk x.1 ≤ 1048576) :
    ∃ l v px, cs = [v] ∧ SlR IsLab l px ∧ RepP (memF W) px v := rd_slice Tryz.underlying24 c180_ (by decide) (fun n cs x => rd_lab) h hb

theorem rd_part {n : Nat} {cs : List Value} {x : DataW H × List MemPlace} (h : DataW.trod enc Tryz.prog W 0 (fun _ => true) true n 50 cs = some x) (hb : Rows.uptoBulk x.1 ≤ 1048576) : ∃ a ps, IsPart a ps ∧ RepL (memF W) ps cs := by
  obtain ⟨xs, m, -, rfl, hl, hx, hf⟩ := DataW.trod_struct Tryz.underlying50 h
  rw [c50_] at hl
  obtain ⟨v0, v1, v2, rfl⟩ := len3 hl
  obtain ⟨y0, y1, y2, rfl⟩ := len3 hx
  have f0 := hf 0 _ rfl
  have f1 := hf 1 _ rfl
  have f2 := hf 2 _ rfl
  simp only [c9, c47_, List.drop_zero, List.drop_succ_cons, List.take_succ_cons, List.take_zero, List.getElem?_cons_zero, List.getElem?_cons_succ, List.getElem_toArray, List.getElem_cons_zero, List.getElem_cons_succ] at f0 f1 f2
  simp only [List.map_cons, List.map_nil, Rows.uptoBulk, Rows.uptoBulkAll] at hb
  obtain ⟨s, e⟩ := rd_string f0
  obtain ⟨l1, w1, p1, e1, h1, r1⟩ := rd_amts f1 (by omega)
  obtain ⟨l2, w2, p2, e2, h2, r2⟩ := rd_amts f2 (by omega)
  simp only [List.cons.injEq, and_true] at e e1 e2
  subst e e1 e2
  exact ⟨⟨s, l1, l2⟩, _, ⟨p1, p2, rfl, h1, h2⟩, .cons (.val rfl) (.cons r1 (.cons r2 .nil))⟩
theorem rd_parts {n : Nat} {cs : List Value} {x : DataW H × List MemPlace} (h : DataW.trod enc Tryz.prog W 0 (fun _ => true) true n 25 cs = some x) (hb : Rows.uptoBulk x.1 ≤ 1048576) :
    ∃ l v px, cs = [v] ∧ SlR IsPart l px ∧ RepP (memF W) px v := rd_slice Tryz.underlying25 c50_ (by decide) (fun n cs x => rd_part) h hb

theorem rd_obj {n : Nat} {cs : List Value} {x : DataW H × List MemPlace} (h : DataW.trod enc Tryz.prog W 0 (fun _ => true) true n 27 cs = some x) (hb : Rows.uptoBulk x.1 ≤ 1048576) : ∃ a ps, IsObj a ps ∧ RepL (memF W) ps cs := by
  obtain ⟨xs, m, -, rfl, hl, hx, hf⟩ := DataW.trod_struct Tryz.underlying27 h
  rw [c27_] at hl
  obtain ⟨v0, v1, v2, v3, v4, v5, v6, rfl⟩ := len7 hl
  obtain ⟨y0, y1, y2, y3, y4, y5, y6, rfl⟩ := len7 hx
  have f0 := hf 0 _ rfl
  have f1 := hf 1 _ rfl
  have f2 := hf 2 _ rfl
  have f3 := hf 3 _ rfl
  have f4 := hf 4 _ rfl
  have f5 := hf 5 _ rfl
  have f6 := hf 6 _ rfl
  simp only [c9, c24_, c25_, c2_, c3_, List.drop_zero, List.drop_succ_cons, List.take_succ_cons, List.take_zero, List.getElem?_cons_zero, List.getElem?_cons_succ, List.getElem_toArray, List.getElem_cons_zero, List.getElem_cons_succ] at f0 f1 f2 f3 f4 f5 f6
  simp only [List.map_cons, List.map_nil, Rows.uptoBulk, Rows.uptoBulkAll] at hb
  obtain ⟨s, e⟩ := rd_string f0
  obtain ⟨s', e'⟩ := rd_string f1
  obtain ⟨l1, w1, p1, e1, h1, r1⟩ := rd_labs f2 (by omega)
  obtain ⟨z3, e3, h3⟩ := rd_int Tryz.underlying3 f3
  obtain ⟨z4, e4, h4⟩ := rd_int Tryz.underlying2 f4
  obtain ⟨l2, w2, p2, e2, h2, r2⟩ := rd_parts f5 (by omega)
  obtain ⟨z6, e6, h6⟩ := rd_int Tryz.underlying2 f6
  simp only [List.cons.injEq, and_true] at e e' e1 e2 e3 e4 e6
  subst e e' e1 e2 e3 e4 e6
  exact ⟨⟨s, s', l1, z3, z4, l2, z6⟩, _, ⟨p1, p2, rfl, h1, h2, h3, h4, h6⟩, .cons (.val rfl) (.cons (.val rfl) (.cons r1 (.cons (.val rfl) (.cons (.val rfl) (.cons r2 (.cons (.val rfl) .nil))))))⟩
theorem rd_objs {n : Nat} {cs : List Value} {x : DataW H × List MemPlace} (h : DataW.trod enc Tryz.prog W 0 (fun _ => true) true n 22 cs = some x) (hb : Rows.uptoBulk x.1 ≤ 1048576) :
    ∃ l v px, cs = [v] ∧ SlR IsObj l px ∧ RepP (memF W) px v := rd_slice Tryz.underlying22 c27_ (by decide) (fun n cs x => rd_obj) h hb

theorem rd_scope {n : Nat} {cs : List Value} {x : DataW H × List MemPlace} (h : DataW.trod enc Tryz.prog W 0 (fun _ => true) true n 60 cs = some x) : ∃ z z', cs = [.int .i64 z, .int .i64 z'] ∧ inI z ∧ inI z' := by
  obtain ⟨xs, m, -, rfl, hl, hx, hf⟩ := DataW.trod_struct Tryz.underlying60 h
  rw [c60_] at hl
  obtain ⟨v0, v1, rfl⟩ := len2 hl
  obtain ⟨y0, y1, rfl⟩ := len2 hx
  have f0 := hf 0 _ rfl
  have f1 := hf 1 _ rfl
  simp only [c3_, List.drop_zero, List.drop_succ_cons, List.take_succ_cons, List.take_zero, List.getElem?_cons_zero, List.getElem?_cons_succ, List.getElem_toArray, List.getElem_cons_zero, List.getElem_cons_succ] at f0 f1
  obtain ⟨z, e, hz⟩ := rd_int Tryz.underlying3 f0
  obtain ⟨z', e', hz'⟩ := rd_int Tryz.underlying3 f1
  simp only [List.cons.injEq, and_true] at e e'
  subst e e'
  exact ⟨z, z', rfl, hz, hz'⟩

theorem rd_quo {n : Nat} {cs : List Value} {x : DataW H × List MemPlace} (h : DataW.trod enc Tryz.prog W 0 (fun _ => true) true n 62 cs = some x) (hb : Rows.uptoBulk x.1 ≤ 1048576) : ∃ a ps, IsQuo a ps ∧ RepL (memF W) ps cs := by
  obtain ⟨xs, m, -, rfl, hl, hx, hf⟩ := DataW.trod_struct Tryz.underlying62 h
  rw [c62_] at hl
  obtain ⟨v0, v1, v2, v3, v4, rfl⟩ := len5 hl
  obtain ⟨y0, y1, y2, y3, rfl⟩ := len4 hx
  have f0 := hf 0 _ rfl
  have f1 := hf 1 _ rfl
  have f2 := hf 2 _ rfl
  have f3 := hf 3 _ rfl
  simp only [c9, c60_, c47_, List.drop_zero, List.drop_succ_cons, List.take_succ_cons, List.take_zero, List.getElem?_cons_zero, List.getElem?_cons_succ, List.getElem_toArray, List.getElem_cons_zero, List.getElem_cons_succ] at f0 f1 f2 f3
  simp only [List.map_cons, List.map_nil, Rows.uptoBulk, Rows.uptoBulkAll] at hb
  obtain ⟨s, e⟩ := rd_string f0
  obtain ⟨s', e'⟩ := rd_string f1
  obtain ⟨z, z', e2, hz, hz'⟩ := rd_scope f2
  obtain ⟨l1, w1, p1, e1, h1, r1⟩ := rd_amts f3 (by omega)
  simp only [List.cons.injEq, and_true] at e e' e1 e2
  obtain ⟨rfl, rfl⟩ := e2
  subst e e' e1
  exact ⟨⟨s, s', (z, z'), l1⟩, _, ⟨p1, rfl, h1, hz, hz'⟩, .cons (.val rfl) (.cons (.val rfl) (.cons (.val rfl) (.cons (.val rfl) (.cons r1 .nil))))⟩
end
end Go.Proofs.YtnjblinbdimkjaaGreatDoor

/-
  The package variables behind the contracts; what a call that keeps all memory says of the row.
-/
namespace Go.Proofs.YtnjblinbdimkjaaGreatDoor
open Go Go.Am Go.Deep Go.ChangeShapes Go.WideShapes
set_option linter.unusedSimpArgs false

theorem gLet : Tryz.prog.globalNamed "bursar/object.letters" = some 0 := by kernel_rfl
theorem gLetT : (Tryz.prog.globals[0]?).map (·.type) = some 177 := by kernel_rfl
theorem gTex : Tryz.prog.globalNamed "bursar/scope.texts" = some 1 := by kernel_rfl
theorem gTexT : (Tryz.prog.globals[1]?).map (·.type) = some 136 := by kernel_rfl
theorem c177_ : Tryz.prog.cellsOf 177 = 5 := by kernel_rfl
theorem c136_ : Tryz.prog.cellsOf 136 = 6 := by kernel_rfl
theorem c5_ : Tryz.prog.cellsOf 5 = 1 := by kernel_rfl

abbrev seatLaid : List (String × DataW Unit) := [("unicode/utf8.acceptRanges", Rows.laid_unicode_utf8_acceptRanges), ("bursar/object.letters", Rows.laid_bursar_object_letters), ("bursar/scope.texts", Rows.laid_bursar_scope_texts), ("unicode/utf8.first", Rows.laid_unicode_utf8_first)]

theorem laid_one {W : World} {n : String} {d : DataW Unit} (hd : d.handleName?.isSome = false) (h : laidMetH Tryz.prog [(n, d)] W) : laidMet Tryz.prog [(n, d)] W := by
  unfold laidMetH at h
  simp only [List.filter, hd] at h
  exact h

theorem letters {W : World} (h : laidMetH Tryz.prog seatLaid W) : Lib.TabIs Tryz.prog W "bursar/object.letters" .u8 [0, 81, 76, 79, 66] := by
  have h1 := h.filter fun x => x.1 == "bursar/object.letters"
  have e : seatLaid.filter (fun x => x.1 == "bursar/object.letters") = [("bursar/object.letters", Rows.laid_bursar_object_letters)] := rfl
  rw [e] at h1
  exact Lib.tabIs_of_head (rest := []) gLet gLetT Tryz.underlying177 Tryz.underlying5 c5_ c177_ (laid_one rfl h1)

theorem str_eq {s : ByteArray} {t : String} (h : s.data.toList = t.toUTF8.data.toList) : s = t.toUTF8 := by
  cases s; congr 1
  exact Array.toList_inj.1 h

theorem texts {W : World} (h : laidMetH Tryz.prog seatLaid W) : W.var? Tryz.prog "bursar/scope.texts" = some (["all", "best", "notbest", "ends", "notends", "priority="].map fun s => Value.string s.toUTF8).toArray := by
  have h1 := h.filter fun x => x.1 == "bursar/scope.texts"
  have e : seatLaid.filter (fun x => x.1 == "bursar/scope.texts") = [("bursar/scope.texts", Rows.laid_bursar_scope_texts)] := rfl
  rw [e] at h1
  obtain ⟨ps, ⟨g', t', cs, fuel, p, q, hg', ht', hvar, hd, -, -⟩, -⟩ := laid_one rfl h1
  obtain rfl := Option.some.inj (gTex.symm.trans hg')
  obtain rfl := Option.some.inj (gTexT.symm.trans ht')
  obtain ⟨xs, m, -, hx, hl, hlen, hf⟩ := DataW.trod_array Tryz.underlying136 hd
  rw [c136_] at hl
  rw [hvar]
  congr 1
  simp only [Prod.mk.injEq, Rows.laid_bursar_scope_texts, DataW.agg.injEq] at hx
  have hx := hx.1
  obtain ⟨y0, y1, y2, y3, y4, y5, rfl⟩ : ∃ y0 y1 y2 y3 y4 y5, xs = [y0, y1, y2, y3, y4, y5] := by
    match xs, hlen with
    | [y0, y1, y2, y3, y4, y5], _ => exact ⟨y0, y1, y2, y3, y4, y5, rfl⟩
  obtain ⟨v0, v1, v2, v3, v4, v5, hcs⟩ : ∃ y0 y1 y2 y3 y4 y5, cs.toList = [y0, y1, y2, y3, y4, y5] := by
    match cs.toList, hl with
    | [y0, y1, y2, y3, y4, y5], _ => exact ⟨y0, y1, y2, y3, y4, y5, rfl⟩
  rw [hcs] at hf
  simp only [List.map_cons, List.map_nil, List.cons.injEq, and_true] at hx
  obtain ⟨h0, h1, h2, h3, h4, h5⟩ := hx
  have f0 := hf 0 (by decide)
  have f1 := hf 1 (by decide)
  have f2 := hf 2 (by decide)
  have f3 := hf 3 (by decide)
  have f4 := hf 4 (by decide)
  have f5 := hf 5 (by decide)
  simp only [c9, Nat.mul_one, List.drop_zero, List.drop_succ_cons, List.take_succ_cons, List.take_zero, List.getElem?_cons_zero, List.getElem?_cons_succ] at f0 f1 f2 f3 f4 f5
  have one : ∀ {v : Value} {y : DataW Unit × List MemPlace} {bs : List UInt8} {t : String}, DataW.trod (fun _ => ()) Tryz.prog W 0 (fun _ => true) false m 9 [v] = some y → DataW.lit (.string bs) = y.1 → bs = t.toUTF8.data.toList → v = .string t.toUTF8 := by
    intro v y bs t h1 h2 h3
    obtain ⟨s, e1, rfl, -⟩ := DataW.trod_string Tryz.underlying9 h1
    simp only [List.cons.injEq, and_true] at e1
    subst e1
    simp only [DataW.lit.injEq, Lit.string.injEq] at h2
    rw [str_eq (h2.symm.trans h3)]
  have e0 := one (t := "all") f0 h0 (by decide)
  have e1 := one (t := "best") f1 h1 (by decide)
  have e2 := one (t := "notbest") f2 h2 (by decide)
  have e3 := one (t := "ends") f3 h3 (by decide)
  have e4 := one (t := "notends") f4 h4 (by decide)
  have e5 := one (t := "priority=") f5 h5 (by decide)
  subst e0 e1 e2 e3 e4 e5
  apply Array.toList_inj.1
  rw [hcs]
  rfl

theorem glOK {W : World} (h : laidMetH Tryz.prog seatLaid W) : GlOK gls (memF W) := by
  intro g cs hg
  unfold gls at hg
  split at hg
  · simp only [Option.some.injEq] at hg
    subst hg
    have hc := fun i hi => (letters h).cell gLet i hi
    refine .ip (fun j => .int .u8 ([0, 81, 76, 79, 66].getD j 0)) (fun j x hx => ?_) (fun j x hx => ?_)
    · have hj := (List.getElem?_eq_some_iff.1 hx).1
      simp only [memF, Nat.zero_add]
      exact hc j (by simpa using hj)
    · match j, hx with
      | 0, hx => simp only [List.getElem?_cons_zero, Option.some.injEq] at hx; subst hx; exact .val rfl
      | 1, hx => simp only [List.getElem?_cons_zero, List.getElem?_cons_succ, Option.some.injEq] at hx; subst hx; exact .val rfl
      | 2, hx => simp only [List.getElem?_cons_zero, List.getElem?_cons_succ, Option.some.injEq] at hx; subst hx; exact .val rfl
      | 3, hx => simp only [List.getElem?_cons_zero, List.getElem?_cons_succ, Option.some.injEq] at hx; subst hx; exact .val rfl
      | 4, hx => simp only [List.getElem?_cons_zero, List.getElem?_cons_succ, Option.some.injEq] at hx; subst hx; exact .val rfl
      | j + 5, hx => simp at hx
  · simp only [Option.some.injEq] at hg
    subst hg
    have hc := fun i => World.var?_cell gTex (texts h) i
    refine .ip (fun j => (["all", "best", "notbest", "ends", "notends", "priority="].map fun s => Value.string s.toUTF8).getD j undef) (fun j x hx => ?_) (fun j x hx => ?_)
    · have hj := (List.getElem?_eq_some_iff.1 hx).1
      simp only [memF, Nat.zero_add]
      rw [hc j]
      have hj' : j < (["all", "best", "notbest", "ends", "notends", "priority="].map fun s => Value.string s.toUTF8).length := by simpa using hj
      rw [List.getElem?_toArray, List.getD_eq_getElem?_getD, List.getElem?_eq_getElem hj', Option.getD_some]
    · match j, hx with
      | 0, hx => simp only [List.getElem?_cons_zero, Option.some.injEq] at hx; subst hx; exact .val rfl
      | 1, hx => simp only [List.getElem?_cons_zero, List.getElem?_cons_succ, Option.some.injEq] at hx; subst hx; exact .val rfl
      | 2, hx => simp only [List.getElem?_cons_zero, List.getElem?_cons_succ, Option.some.injEq] at hx; subst hx; exact .val rfl
      | 3, hx => simp only [List.getElem?_cons_zero, List.getElem?_cons_succ, Option.some.injEq] at hx; subst hx; exact .val rfl
      | 4, hx => simp only [List.getElem?_cons_zero, List.getElem?_cons_succ, Option.some.injEq] at hx; subst hx; exact .val rfl
      | 5, hx => simp only [List.getElem?_cons_zero, List.getElem?_cons_succ, Option.some.injEq] at hx; subst hx; exact .val rfl
      | j + 6, hx => simp at hx
  · cases hg

theorem seatKids : Kids Tryz.prog (· < Tryz.prog.types.size) := kids_rows (by kernel_rfl) (by kernel_rfl)
theorem seatFull : ∀ t e, t < Tryz.prog.types.size → Tryz.prog.underlying t = some (.slice e) → 0 < Tryz.prog.cellsOf e := slices_full_of Tryz.prog (by kernel_rfl)

section
variable {H : Type} {enc : TypeId × Value → H}

theorem trodAll_carry {P : Program} {w w' : World} {base : Nat} {sp : Nat → Bool} {held : Bool} : ∀ {ts : List TypeId} {vs : List Value} {ds : List (DataW H)} {ps : List MemPlace}, DataW.TrodAll enc P w base sp held ts vs ds ps → (∀ p ∈ ps, w.sameAt w' p) →
    DataW.TrodAll enc P w' base sp held ts vs ds ps
  | [], [], [], _, h, _ => h
  | _ :: _, _ :: _, _ :: _, _, ⟨p, q, ⟨n, h1⟩, h2, e⟩, hs => ⟨p, q, ⟨n, DataW.trod_carry n _ _ _ h1 (fun x hx => hs x (by rw [e]; exact List.mem_append_left _ hx))⟩, trodAll_carry h2 (fun x hx => hs x (by rw [e]; exact List.mem_append_right _ hx)), e⟩

/-- A call that has kept all that was there: the arguments read as they did. -/
theorem post_kept {P : Program} (hKids : Kids P (· < P.types.size)) (hFull : ∀ t e, t < P.types.size → P.underlying t = some (.slice e) → 0 < P.cellsOf e) {f : Func} {s : ChangeSpec} {apart fresh handsOn again : Bool} {W W' : World} {args : Array Value} {v : Value} {ds gs : List (DataW H)} {before : List MemPlace}
    (hW : DataW.Whole enc P f.params.toList s.vars apart W args.toList ds gs before) (hv : s.vars = [])
    (hres : ∀ (b : Nat) (sp : Nat → Bool) (hd : Bool), DataW.TrodAll enc P W' b sp hd f.resultTypes.toList (v.resultList f.resultTypes.size) (s.fn H (ds ++ gs)).results [])
    (hargs : (s.fn H (ds ++ gs)).args = ds) (hvars : (s.fn H (ds ++ gs)).vars = []) (hk : Kept (fun _ => False) W W') (hT : ∀ t ∈ f.params.toList, t < P.types.size)
    (hok : ∀ (j : Nat) (t : TypeId) (r : Value), f.resultTypes[j]? = some t → (v.resultList f.resultTypes.size)[j]? = some r → Value.okWide P W' .any 0 t r) :
    s.post enc P f apart fresh handsOn again W args v W' := by
  have hlt : ∀ p ∈ before, p.block < W.heap.size := fun p hp => hW.lt p hp
  have hb : ∀ b, b < W.heap.size → W'.heap[b]? = W.heap[b]? := fun b h => hk.block b h (fun e => e)
  have hsame : ∀ p ∈ before, W.sameAt W' p := fun p hp => by
    have := hb p.block (hlt p hp)
    cases p with
    | cell b o => simp only [World.sameAt, World.cell?]; simp only [MemPlace.block] at this; rw [this]
    | map b => exact this
  obtain ⟨p, q, h1, h2, e, hz, hn⟩ := id hW
  rw [hv] at h2
  obtain ⟨rfl, rfl⟩ := trodVars_none h2
  rw [List.append_nil] at e
  subst e
  have ha : ∀ sp : Nat → Bool, (∀ p ∈ before, sp p.block = true) → DataW.TrodAll enc P W' 0 sp true f.params.toList args.toList (s.fn H (ds ++ [])).args before := fun sp hsp => by
    rw [hargs]
    exact DataW.TrodAll.respare hKids hFull hT (trodAll_carry h1 hsame) hsp
  have hvv : ∀ sp : Nat → Bool, DataW.TrodVars enc P W' sp s.vars (s.fn H (ds ++ [])).vars [] := fun sp => by rw [hvars, hv]; rfl
  have hkb : ∀ may, W.keptBut W' may := fun may => by
    refine ⟨hk.os, hk.output, fun i hi => ?_⟩
    rw [hb i hi]
    exact (World.keptBut_refl W may).2.2 i hi
  have A1 := ha (fun b => decide (b < W.heap.size)) (fun p hp => by
    have := hlt p hp
    simp only [this, decide_true])
  have A2 : DataW.TrodAll enc P W' 0 (fun _ => true) true (f.resultTypes.toList ++ f.params.toList) (v.resultList f.resultTypes.size ++ args.toList) ((s.fn H (ds ++ [])).results ++ (s.fn H (ds ++ [])).args) ([] ++ before) :=
    trodAll_append (ha _ (fun _ _ => rfl)) (hres _ _ _)
  have A3 := hkb (fun p => p ∈ before ∧ (p ∈ ([] : List MemPlace) ∨ p ∈ before ∨ p ∈ ([] : List MemPlace)))
  unfold ChangeSpec.post
  refine ⟨ds, [], before, [], before, [], hW, hres _ _ _, A1, hvv _, A3, fun _ => ⟨hok, _, _, ([] ++ before) ++ [], ⟨[] ++ before, [], A2, hvv _, rfl, ?_, ?_⟩, ?_⟩⟩
  · intro b off hp
    have hp : MemPlace.cell b off ∈ before := by simpa using hp
    have := hz b off hp
    simp only [World.frozen?] at this ⊢
    rw [hb b (hlt _ hp)]
    exact this
  · intro h
    simpa using hn h
  · intro p hp _
    simpa using hp
end
end Go.Proofs.YtnjblinbdimkjaaGreatDoor

/-
  QuotaApart: the contract, the witness, the row, the card.
-/
namespace Go.Proofs.YtnjblinbdimkjaaGreatDoor
open Go Go.Am Go.Deep Go.ChangeShapes Go.WideShapes Go.ChangeAt Go.RowKit
set_option linter.unusedSimpArgs false

theorem seatOwn : ownKnob Tryz.prog.godebug = none := by kernel_rfl
theorem seatSize : 62 < Tryz.prog.types.size := of_decide_eq_true (by kernel_rfl)

theorem Snd.enters {P : Program} {f : FuncId} {args : Array Value} {w : World} {R : Ending → World → Prop} (hE : Enterable P f) (h : CallsX P f args w R) : Calls P f args w R := by
  rcases h with ⟨-, h⟩ | ⟨v, w', h, -⟩
  · exact h
  · rw [run_callFunc hE] at h
    cases h

set_option maxRecDepth 100000 in
theorem apart_contract (H : Type) (enc : TypeId × Value → H) (W : World) (base : Nat) (args : Array Value) (ds gs : List (DataW H)) (before : List MemPlace)
    (hval : ∀ (j : Nat) t v, Tryz.f6.params[j]? = some t → args[j]? = some v → Value.okWide Tryz.prog W .any base t v)
    (hW : DataW.Whole enc Tryz.prog Tryz.f6.params.toList Rows.quotaApartSpec.vars false W args.toList ds gs before) (hk : Rows.uptoSmall H (ds ++ gs) = true) (hL : laidMetH Tryz.prog seatLaid W) :
    Calls Tryz.prog 6 args W fun e W' => ∃ v, e = .returned v ∧ Rows.quotaApartSpec.post enc Tryz.prog Tryz.f6 false true false false W args v W' := by
  have hW' := hW
  obtain ⟨p, q, hA0, hV, rfl, hfz, hnd⟩ := hW
  have hA : DataW.TrodAll enc Tryz.prog W 0 (fun _ => true) true Tryz.f6.params.toList args.toList ds p := hA0
  rw [Tryz.params6] at hA hval
  obtain ⟨v0, v1, d0, d1, p0, p1, rfl, rfl, rfl, h0, h1⟩ := trodAll_two hA
  obtain ⟨rfl, rfl⟩ := trodVars_none hV
  obtain ⟨a0, len, cap, rfl⟩ := okWide_slice Tryz.underlying22 (hval 0 22 v0 (by simp) (by simp))
  obtain ⟨cs, rfl, hcs⟩ := okWide_struct Tryz.underlying62 (hval 1 62 v1 (by simp) (by simp))
  obtain ⟨fuel0, hf0⟩ := h0
  obtain ⟨fuel1, hf1⟩ := h1
  unfold Rows.uptoSmall at hk
  have hb := of_decide_eq_true hk
  simp only [List.cons_append, List.nil_append, Rows.uptoBulkAll] at hb
  obtain ⟨ol, w0, px, e0, hx, hr0⟩ := rd_objs hf0 (show Rows.uptoBulk d0 ≤ _ by omega)
  obtain ⟨qq, qs, hq, hr1⟩ := rd_quo hf1 (show Rows.uptoBulk d1 ≤ _ by omega)
  simp only [Value.cells, List.cons.injEq, and_true] at e0
  subst e0
  have hE : Enterable Tryz.prog 6 := ⟨_, Tryz.func6, by kernel_rfl, by kernel_rfl⟩
  have hc := Snd.enters hE (d6.calls [.p px, .agg qs] Res.emp (fun r _ => r = .one (rB true)) ⟨ol, px, qq, qs, rfl, hx, hq, fun _ _ => rfl⟩ (memF W) W [.slice a0 len cap, .agg cs] (glOK hL)
    (fun _ _ _ h => h) trivial (fun _ _ h => h.elim) (fun _ h => h.elim) (.cons hr0 (.cons ⟨cs.toList, rfl, hr1⟩ .nil)))
  refine hc.mono fun e W' ⟨v, r, φ', F', he, hr, hrep, _, _, _, hkept, _⟩ => ?_
  subst he hr
  have hv : v = .bool true := by
    have h : RepP F' (.val (.bool true)) v := hrep
    cases h
    rfl
  subst hv
  exact ⟨_, rfl, post_kept seatKids seatFull hW' rfl (fun _ _ _ => trodAll_mk1 (shut_bool Tryz.underlying4 true)) rfl rfl hkept
    (by
      rw [Tryz.params6]
      intro t ht
      have := seatSize
      simp only [List.mem_cons, List.mem_nil_iff, or_false] at ht
      rcases ht with rfl | rfl
      · exact Nat.lt_trans (by decide) this
      · exact this)
    (ok_one (by kernel_rfl) rfl (okWide_bool_mk Tryz.underlying4 _))⟩

/-! ### the witness -/
def setG (g : Nat) (cs : Array Value) (w : World) : World := { w with heap := w.heap.modify g fun
      | .cells _ t frozen => .cells cs t frozen
      | o => o }
noncomputable def laidWorld (os : Os) : World :=
  setG 4 #[.int .u8 128, .int .u8 191, .int .u8 160, .int .u8 191, .int .u8 128, .int .u8 159, .int .u8 144, .int .u8 191, .int .u8 128, .int .u8 143, .int .u8 0, .int .u8 0, .int .u8 0, .int .u8 0, .int .u8 0, .int .u8 0, .int .u8 0, .int .u8 0, .int .u8 0, .int .u8 0, .int .u8 0, .int .u8 0, .int .u8 0, .int .u8 0, .int .u8 0, .int .u8 0, .int .u8 0, .int .u8 0, .int .u8 0, .int .u8 0, .int .u8 0, .int .u8 0]
    (setG 0 #[.int .u8 0, .int .u8 81, .int .u8 76, .int .u8 79, .int .u8 66]
      (setG 1 #[.string "all".toUTF8, .string "best".toUTF8, .string "notbest".toUTF8, .string "ends".toUTF8, .string "notends".toUTF8, .string "priority=".toUTF8]
        (setG 3 (Go.Pinned.utf8FirstZ.map fun n => Value.int .u8 (Int.ofNat n)).toArray (World.holding Tryz.prog os ⟨#[], #[], []⟩))))
def apartArgs : Array Value := #[.slice none 0 0, .agg #[.string ByteArray.empty, .string ByteArray.empty, .int .i64 0, .int .i64 0, .slice none 0 0]]
set_option maxRecDepth 100000 in
theorem apart_met (os : Os) : laidMet Tryz.prog seatLaid ((laidWorld os).forCall (fun _ _ => 0) ⟨#[], apartArgs, []⟩).memory :=
  laidMet_of_run3 8 (by kernel_rfl) (by kernel_rfl) (by kernel_rfl)
theorem apart_reads (os : Os) {H : Type} (enc : TypeId × Value → H) : ∃ places, DataW.whole enc Tryz.prog ((laidWorld os).forCall (fun _ _ => 0) ⟨#[], apartArgs, []⟩).memory Tryz.f6.params.toList Rows.quotaApartSpec.vars false apartArgs.toList 8 =
    some ([.nil, .agg [.lit (.string []), .lit (.string []), .agg [.lit (.int .i64 0), .lit (.int .i64 0)], .nil]], [], places) :=
  ⟨[], by kernel_rfl⟩

set_option maxRecDepth 100000 in
theorem apart_lifted (os : Os) (started : os.Started) (H : Type) (enc : TypeId × Value → H) (F : Stop.Interp) :
    ReturnsInHanded {} Tryz.checked os 6 .any ((Rows.OpenSpec.upto Rows.quotaApartSpec).preRow enc Tryz.prog Tryz.f6 Rows.quotaApartUptoRow.domain false Rows.quotaApartUptoRow.laid) (((Rows.OpenSpec.upto Rows.quotaApartSpec).at F).post enc Tryz.prog Tryz.f6 false true false false) := by
  obtain ⟨places, hx⟩ := apart_reads os enc
  refine returnsInHanded_of_row (C := Tryz.checked) (s := Rows.OpenSpec.upto Rows.quotaApartSpec) seatOwn started (by kernel_rfl) Tryz.func6
    (witness_row_at (enc := enc) (C := Tryz.checked) false (laidWorld os) apartArgs rfl (by kernel_rfl) (by kernel_rfl) (by kernel_rfl)
      (OpenSpec.preRow_of_cond 8 hx (by kernel_rfl) (fun k hk => by cases hk; kernel_rfl) (by kernel_rfl) (apart_met os))) ?_
  intro W base args ds gs before hval hW _ hcond _ hL _ _
  exact apart_contract H enc W base args ds gs before hval hW (hcond _ rfl) hL

theorem apart_saidUpto : Rows.QuotaApartUptoSaid :=
  OpenClaim.holds_of_cond 6 Tryz.f6 rfl rfl rfl rfl rfl rfl rfl ⟨rfl, rfl, rfl, rfl, rfl⟩ rfl rfl rfl rfl rfl (by kernel_rfl) Tryz.func6 (by kernel_rfl)
    (of_decide_eq_true (by kernel_rfl)) (by unfold Func.isWrapper; first | (rw [if_pos (by decide +kernel)]; kernel_rfl) | (rw [if_neg (by decide +kernel)]; exact ⟨rfl, rfl⟩))
    (fun os started H enc _ F => by rw [OpenClaim.pre_eq_preRow]; exact apart_lifted os started H enc F)

/-- No parameter wants a stand-in; the program's own looks are off. -/
theorem apart_plain (f : FuncId) (fn : Func) (hf : Tryz.pinned.checked.prog.funcNamed "bursar/bursarlaw18.QuotaApart" = some f) (hfn : Tryz.pinned.checked.prog.funcs[f]? = some fn) :
    false = Tryz.pinned.checked.prog.looks [] ∧ ∀ (j : Nat) t, fn.params[j]? = some t → Tryz.pinned.checked.prog.wantsStandIn t = false := by
  obtain rfl : f = 6 := Option.some.inj ((show Tryz.prog.funcNamed "bursar/bursarlaw18.QuotaApart" = some 6 by kernel_rfl).symm.trans hf) |>.symm
  obtain rfl : fn = Tryz.f6 := (Option.some.inj (Tryz.func6.symm.trans hfn)).symm
  refine ⟨by kernel_rfl, fun j t ht => ?_⟩
  rw [Tryz.params6] at ht
  have h22 : Tryz.prog.wantsStandIn 22 = false := by kernel_rfl
  have h62 : Tryz.prog.wantsStandIn 62 = false := by kernel_rfl
  have : t = 22 ∨ t = 62 := by simpa using Array.mem_of_getElem? ht
  rcases this with rfl | rfl
  · exact h22
  · exact h62

/-- THE SECOND FORM's CARD. -/
theorem quotaApartUpto_holds : Rows.QuotaApartUptoCardSaid :=
  Claim7.holds_tied_plain_at .later [] _ _ _ _ apart_saidUpto (fun _ h => by cases h) (by kernel_rfl) (fun _ h => by cases h) quotaApartUpto_row_tie rfl ⟨rfl, rfl⟩ (by kernel_rfl) rfl apart_plain (by kernel_rfl)
end Go.Proofs.YtnjblinbdimkjaaGreatDoor
