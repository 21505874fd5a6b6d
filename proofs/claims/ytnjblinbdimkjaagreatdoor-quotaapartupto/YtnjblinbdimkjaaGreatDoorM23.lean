/-
  bursarlaw18.QuotaApart answers true and leaves its arguments as they were, for inputs of bulk at most 1048576 (the given second form; no other condition). Part 23 of 26 of the proof.
-/
import Derived.Test.YtnjblinbdimkjaaGreatDoorM22
namespace Go.Proofs.YtnjblinbdimkjaaGreatDoor
open Go Go.Am
set_option linter.unusedSimpArgs false

/-- quota.lacks -/
def askF (name : ByteArray) : Bool := (cutF name reqP).2
def nameOf (name : ByteArray) : ByteArray := if askF name = true then (cutF name reqP).1 else (cutF name limP).1
def lackP (name : ByteArray) (p : Part) : Bool := !hasF (if askF name = true then p.req else p.lim) (nameOf name)
def lacksF (o : Obj) (name : ByteArray) : ByteArray × Bool := if name = countB then (⟨#[]⟩, false) else match o.parts.find? (lackP name) with
  | some p => (p.name, true)
  | none => (⟨#[]⟩, false)
theorem find_skip {α : Type} {f : α → Bool} : ∀ (l : List α) (k : Nat), (∀ a ∈ l.take k, f a = false) → l.find? f = (l.drop k).find? f
  | _, 0, _ => rfl
  | [], k + 1, _ => rfl
  | a :: l, k + 1, h => by
    rw [List.drop_succ_cons, ← find_skip l k fun b hb => h b (by rw [List.take_succ_cons]; exact List.mem_cons_of_mem _ hb)]
    rw [List.find?_cons, h a (by rw [List.take_succ_cons]; exact List.mem_cons_self)]
def S97 : Am.Spec := fun rs φ K => ∃ o cs name, rs = [.agg cs, rS name] ∧ IsObj o cs ∧ K (.tup [rS (lacksF o name).1, rB (lacksF o name).2]) φ
theorem d97 : Snd Tryz.prog gls 97 S97 := by
  refine k97 (by rintro rs φ K ⟨o, cs, name, rfl, -⟩; simp) ?_
  rintro rs φ K ⟨o, cs, name, rfl, ⟨x, y, rfl, -, ⟨es, rfl, hb, hl⟩, -⟩, hK⟩
  have hb' : o.parts.length ≤ 1073741824 := hb
  simp -implicitDefEqProofs only [go_sem, Nat.reduceBEq, Nat.reduceAdd, c97, c97r0, c97r1, c97r2, List.drop_succ_cons, List.drop_zero, Nat.reduceLeDiff, true_and, List.length_cons, List.length_nil, Nat.ble, List.take_succ_cons, List.take_zero, Nat.zero_add, Nat.le_refl, decide_eq_true_eq, decide_eq_false_iff_not]
  refine ⟨fun h => ?_, fun h => ?_⟩
  · have e1 : lacksF o name = (⟨#[]⟩, false) := by rw [lacksF, if_pos (show name = countB from h)]
    rw [e1] at hK; exact hK
  · have e0 : lacksF o name = (match o.parts.find? (lackP name) with | some p => (p.name, true) | none => (⟨#[]⟩, false)) := by rw [lacksF, if_neg (show ¬ name = countB from h)]
    have cont : ∀ (fr : List (Nat × AV)), getT 2 fr = some (.ref 2 0) → getT 6 fr = some (.p (.val (.string (nameOf name)))) → getT 7 fr = some (.p (.val (.bool (askF name)))) →
        aops Tryz.prog gls c97r6 (thenQ (awp Tryz.prog gls (ACode.block 0 c97l15.loop) (thenQ (awp Tryz.prog gls ((ACode.reg c97r16).seq ACode.ret) (endQ K [ResV.t 4, ResV.t 5])) (endQ K [ResV.t 4, ResV.t 5]))) (thenQ (awp Tryz.prog gls ((ACode.reg c97r16).seq ACode.ret) (endQ K [ResV.t 4, ResV.t 5])) (endQ K [ResV.t 4, ResV.t 5])) Ex.normal)
          ⟨fr, [(2, [.val (.string o.path), .val (.string o.name), x, .val (.int .i64 o.priority), .val (.int .i64 o.deadline), .sl es o.parts.length, .val (.int .i64 o.version)])], [], φ⟩ := by
      intro fr f2 f6 f7
      simp -implicitDefEqProofs only [go_sem, Nat.reduceBEq, Nat.reduceAdd, c97r6, List.drop_succ_cons, List.drop_zero, Nat.reduceLeDiff, true_and, List.length_cons, List.length_nil, Nat.ble, List.take_succ_cons, List.take_zero, Nat.zero_add, Nat.le_refl, f2]
      intro hL
      refine range_loop rfl (by decide) o.parts.length hL (fun _ => [(23, .p (.sl es o.parts.length)), (6, .p (.val (.string (nameOf name)))), (7, .p (.val (.bool (askF name))))]) (fun _ => []) (fun _ => []) (fun _ => φ) (fun k => ∀ p ∈ o.parts.take k, lackP name p = false) (Gho.sub ?_ trivial trivial ?_ rfl) (by simp) ?_ ?_
      · simp [subFr, go_sem, leAV, headSt, f6, f7]
      · simp [refsOK, headSt]
      · rintro k Q' hk hI hn - hq
        obtain ⟨p, e, hp, he, ux, uy, rfl, hr, hm⟩ := SlR.at hl hk
        have hr' := hr
        have hm' := hm
        obtain ⟨rs, rfl, -⟩ := hr'
        obtain ⟨ms, rfl, -⟩ := hm'
        have hnext : lackP name p = false → ∀ a ∈ o.parts.take (k + 1), lackP name a = false := fun hlk a ha => by
          rw [List.take_add_one, hp] at ha
          simp only [Option.toList_some, List.mem_append, List.mem_cons, List.not_mem_nil, or_false] at ha
          rcases ha with ha | rfl
          · exact hI a ha
          · exact hlk
        simp -implicitDefEqProofs only [go_sem, Nat.reduceBEq, Nat.reduceAdd, c97r8, c97r9, c97r10, Int.toNat_natCast, he, Option.some.injEq, exists_eq_left', List.drop_succ_cons, List.drop_zero, Nat.reduceLeDiff, true_and, List.length_cons, List.length_nil, Nat.ble, List.take_succ_cons, List.take_zero, Nat.zero_add, Nat.le_refl]
        refine ⟨by omega, by omega, fun hask => ?_, fun hask => ?_⟩
        · have hlp : lackP name p = !hasF p.req (nameOf name) := by rw [lackP, if_pos hask]
          simp -implicitDefEqProofs only [go_sem, Nat.reduceBEq, Nat.reduceAdd, c97r11, c97r12, List.drop_succ_cons, List.drop_zero, Nat.reduceLeDiff, true_and, List.length_cons, List.length_nil, Nat.ble, List.take_succ_cons, List.take_zero, Nat.zero_add, Nat.le_refl]
          refine callS_of d146 ⟨p.req, _, nameOf name, rfl, hr, ?_⟩
          simp -implicitDefEqProofs only [go_sem, Nat.reduceBEq, Nat.reduceAdd, List.drop_succ_cons, List.drop_zero, Nat.reduceLeDiff, true_and, List.length_cons, List.length_nil, Nat.ble, List.take_succ_cons, List.take_zero, Nat.zero_add, Nat.le_refl, Bool.not_eq_true', Bool.not_eq_false']
          refine ⟨fun h2 => ?_, fun h2 => ?_⟩
          · have hlk : lackP name p = true := by rw [hlp, h2]; rfl
            have e1 : lacksF o name = (p.name, true) := by
              rw [e0, find_skip o.parts k hI, List.drop_eq_getElem_cons hk]
              have : o.parts[k] = p := by rw [List.getElem?_eq_getElem hk] at hp; exact Option.some.inj hp
              rw [this, List.find?_cons, hlk]
            rw [e1] at hK
            simp -implicitDefEqProofs only [go_sem, Nat.reduceBEq, Nat.reduceAdd, c97r13, List.drop_succ_cons, List.drop_zero, Nat.reduceLeDiff, true_and, List.length_cons, List.length_nil, Nat.ble, List.take_succ_cons, List.take_zero, Nat.zero_add, Nat.le_refl]
            refine hq _ _ (by simp) (by simp) ?_
            simp -implicitDefEqProofs only [go_sem, Nat.reduceBEq, Nat.reduceAdd]
            exact hK
          · have hlk : lackP name p = false := by rw [hlp, h2]; rfl
            refine hn _ (hnext hlk) ⟨by simp [go_sem], Gho.sub ?_ trivial trivial ?_ rfl⟩
            · simp [subFr, go_sem, leAV, headSt]
            · simp [refsOK, headSt]
        · have hlp : lackP name p = !hasF p.lim (nameOf name) := by rw [lackP, if_neg (by rw [hask]; simp)]
          simp -implicitDefEqProofs only [go_sem, Nat.reduceBEq, Nat.reduceAdd, c97r12, List.drop_succ_cons, List.drop_zero, Nat.reduceLeDiff, true_and, List.length_cons, List.length_nil, Nat.ble, List.take_succ_cons, List.take_zero, Nat.zero_add, Nat.le_refl]
          refine callS_of d146 ⟨p.lim, _, nameOf name, rfl, hm, ?_⟩
          simp -implicitDefEqProofs only [go_sem, Nat.reduceBEq, Nat.reduceAdd, List.drop_succ_cons, List.drop_zero, Nat.reduceLeDiff, true_and, List.length_cons, List.length_nil, Nat.ble, List.take_succ_cons, List.take_zero, Nat.zero_add, Nat.le_refl, Bool.not_eq_true', Bool.not_eq_false']
          refine ⟨fun h2 => ?_, fun h2 => ?_⟩
          · have hlk : lackP name p = true := by rw [hlp, h2]; rfl
            have e1 : lacksF o name = (p.name, true) := by
              rw [e0, find_skip o.parts k hI, List.drop_eq_getElem_cons hk]
              have : o.parts[k] = p := by rw [List.getElem?_eq_getElem hk] at hp; exact Option.some.inj hp
              rw [this, List.find?_cons, hlk]
            rw [e1] at hK
            simp -implicitDefEqProofs only [go_sem, Nat.reduceBEq, Nat.reduceAdd, c97r13, List.drop_succ_cons, List.drop_zero, Nat.reduceLeDiff, true_and, List.length_cons, List.length_nil, Nat.ble, List.take_succ_cons, List.take_zero, Nat.zero_add, Nat.le_refl]
            refine hq _ _ (by simp) (by simp) ?_
            simp -implicitDefEqProofs only [go_sem, Nat.reduceBEq, Nat.reduceAdd]
            exact hK
          · have hlk : lackP name p = false := by rw [hlp, h2]; rfl
            refine hn _ (hnext hlk) ⟨by simp [go_sem], Gho.sub ?_ trivial trivial ?_ rfl⟩
            · simp [subFr, go_sem, leAV, headSt]
            · simp [refsOK, headSt]
      · intro hI
        rw [List.take_length] at hI
        have e1 : lacksF o name = (⟨#[]⟩, false) := by
          rw [e0, find_skip o.parts o.parts.length (by rw [List.take_length]; exact hI), List.drop_length]; rfl
        rw [e1] at hK
        simp -implicitDefEqProofs only [go_sem, Nat.reduceBEq, Nat.reduceAdd, c97r16]
        exact hK
    simp -implicitDefEqProofs only [go_sem, Nat.reduceBEq, Nat.reduceAdd, c97r3, List.drop_succ_cons, List.drop_zero, Nat.reduceLeDiff, true_and, List.length_cons, List.length_nil, Nat.ble, List.take_succ_cons, List.take_zero, Nat.zero_add, Nat.le_refl]
    refine callS_of d144 ⟨name, reqP, rfl, ?_⟩
    simp -implicitDefEqProofs only [go_sem, Nat.reduceBEq, Nat.reduceAdd, c97r4, c97r5, List.drop_succ_cons, List.drop_zero, Nat.reduceLeDiff, true_and, List.length_cons, List.length_nil, Nat.ble, List.take_succ_cons, List.take_zero, Nat.zero_add, Nat.le_refl]
    refine ⟨fun ha => ?_, fun ha => ?_⟩
    · have hask : askF name = false := by simpa [askF] using ha
      refine callS_of d145 ⟨name, limP, rfl, ?_⟩
      simp -implicitDefEqProofs only [go_sem, Nat.reduceBEq, Nat.reduceAdd, List.drop_succ_cons, List.drop_zero, Nat.reduceLeDiff, true_and, List.length_cons, List.length_nil, Nat.ble, List.take_succ_cons, List.take_zero, Nat.zero_add, Nat.le_refl]
      refine cont _ ?_ ?_ ?_
      · simp [go_sem]
      · simp [go_sem, nameOf, hask]
      · simp [go_sem, askF]
    · have hask : askF name = true := by simpa [askF] using ha
      refine cont _ ?_ ?_ ?_
      · simp [go_sem]
      · simp [go_sem, nameOf, hask]
      · simp [go_sem, askF]
end Go.Proofs.YtnjblinbdimkjaaGreatDoor

namespace Go.Proofs.YtnjblinbdimkjaaGreatDoor
open Go Go.Am
set_option linter.unusedSimpArgs false

/-- an object with what it uses -/
def IsOwn (o : Obj) (us : List Amt) (cs : List PV) : Prop := ∃ e x, cs = e ++ [x] ∧ IsObj o e ∧ SlR IsAmt us x
theorem IsOwn.len {o : Obj} {us : List Amt} {cs : List PV} (h : IsOwn o us cs) : cs.length = 8 := by
  obtain ⟨e, x, rfl, h, -⟩ := h
  have := obj_len h
  simp [this]
theorem amtSl_is {us : List Amt} (hb : us.length ≤ BIG) (hv : ∀ a ∈ us, inI a.value) : SlR IsAmt us (amtSl us) := by
  refine ⟨us.map amtE, rfl, hb, ?_⟩
  have hl : (us.map amtE).length = us.length := List.length_map ..
  rw [← hl, List.take_length]
  have : ∀ us : List Amt, (∀ a ∈ us, inI a.value) → All2 IsAmt us (us.map amtE) := by
    intro us
    induction us with
    | nil => intro _; exact .nil
    | cons a us ih => intro h; exact .cons ⟨rfl, h a List.mem_cons_self⟩ (ih fun b hb => h b (List.mem_cons_of_mem _ hb))
  exact this us hv
theorem uses_is {o : Obj} (h : (usesF o).1.length ≤ BIG) : SlR IsAmt (usesF o).1 (amtSl (usesF o).1) :=
  amtSl_is h fun a ha => by
    have := usesF_vals o a ha
    exact ⟨by omega, by simpa [maxI] using this.2⟩

/-- owner.share -/
def shareF (o : Obj) (us : List Amt) (q : Quo) (name : ByteArray) : Int := if inF o q.scope = true ∧ underF o.path q.path = true then ofF us name else 0
def S98 : Am.Spec := fun rs φ K => ∃ o us cs q qs name, rs = [.agg cs, .agg qs, rS name] ∧ IsOwn o us cs ∧ IsQuo q qs ∧ K (.one (rI (shareF o us q name))) φ
theorem d98 : Snd Tryz.prog gls 98 S98 := by
  refine k98 (by rintro rs φ K ⟨o, us, cs, q, qs, name, rfl, -⟩; simp) ?_
  rintro rs φ K ⟨o, us, cs, q, qs, name, rfl, ⟨e, x, rfl, hO, hU⟩, ⟨y, rfl, hh, hk, ha⟩, hK⟩
  have hO' := hO
  obtain ⟨u, v, rfl, -⟩ := hO'
  have hU' := hU
  obtain ⟨xs, rfl, -⟩ := hU'
  obtain ⟨qp, qn, ⟨s1, s2⟩, qh⟩ := q
  simp -implicitDefEqProofs only [go_sem, Nat.reduceBEq, Nat.reduceAdd, c98, c98r0, c98r1, List.cons_append, List.nil_append, List.drop_succ_cons, List.drop_zero, Nat.reduceLeDiff, true_and, List.length_cons, List.length_nil, Nat.ble, List.take_succ_cons, List.take_zero, Nat.zero_add, Nat.le_refl]
  refine callS_of d33 ⟨o, _, (s1, s2), rfl, hO, ?_⟩
  simp -implicitDefEqProofs only [go_sem, Nat.reduceBEq, Nat.reduceAdd, List.drop_succ_cons, List.drop_zero, Nat.reduceLeDiff, true_and, List.length_cons, List.length_nil, Nat.ble, List.take_succ_cons, List.take_zero, Nat.zero_add, Nat.le_refl, Bool.not_eq_true', Bool.not_eq_false']
  refine ⟨fun h => ?_, fun h => ?_⟩
  · refine callS_of d31 ⟨o.path, qp, rfl, ?_⟩
    simp -implicitDefEqProofs only [go_sem, Nat.reduceBEq, Nat.reduceAdd, c98r2, c98r3, List.drop_succ_cons, List.drop_zero, Nat.reduceLeDiff, true_and, List.length_cons, List.length_nil, Nat.ble, List.take_succ_cons, List.take_zero, Nat.zero_add, Nat.le_refl, Bool.not_eq_true', Bool.not_eq_false']
    refine ⟨fun h2 => ?_, fun h2 => ?_⟩
    · have e1 : shareF o us ⟨qp, qn, (s1, s2), qh⟩ name = 0 := by rw [shareF, if_neg]; simp [h2]
      rw [e1] at hK; exact hK
    · have e1 : shareF o us ⟨qp, qn, (s1, s2), qh⟩ name = ofF us name := by rw [shareF, if_pos ⟨h, h2⟩]
      rw [e1] at hK
      refine callS_of d100 ⟨us, _, name, rfl, hU, ?_⟩
      simp -implicitDefEqProofs only [go_sem, Nat.reduceBEq, Nat.reduceAdd]
      exact hK
  · have e1 : shareF o us ⟨qp, qn, (s1, s2), qh⟩ name = 0 := by rw [shareF, if_neg]; simp [h]
    rw [e1] at hK
    simp -implicitDefEqProofs only [go_sem, Nat.reduceBEq, Nat.reduceAdd, c98r2]
    exact hK

theorem d96 : Snd Tryz.prog gls 96 (fun rs φ K => ∃ q cs, rs = [.agg cs] ∧ IsQuo q cs ∧ K (.one (rB (decide (encQ q ≠ 0)))) φ) := by
  refine k96 (by rintro rs φ K ⟨q, cs, rfl, -⟩; simp) ?_
  rintro rs φ K ⟨q, cs, rfl, h, hK⟩
  have hlen := quo_len h
  have htk : cs.take 5 = cs := List.take_of_length_le (by omega)
  simp -implicitDefEqProofs only [go_sem, Nat.reduceBEq, Nat.reduceAdd, c96, c96r0, c96r1, List.drop_succ_cons, List.drop_zero, Nat.reduceLeDiff, true_and, List.length_cons, List.length_nil, Nat.ble, List.take_succ_cons, List.take_zero, Nat.zero_add, Nat.le_refl, hlen, htk]
  refine callS_of d41 ⟨q, cs, rfl, h, ?_⟩
  simp -implicitDefEqProofs only [go_sem, Nat.reduceBEq, Nat.reduceAdd]
  refine K_bool hK ?_
  simp
theorem d52 : Snd Tryz.prog gls 52 (fun rs φ K => ∃ o cs, rs = [.agg cs] ∧ IsObj o cs ∧ K (.one (rB (decide (encF o ≠ 0)))) φ) := by
  refine k52 (by rintro rs φ K ⟨q, cs, rfl, -⟩; simp) ?_
  rintro rs φ K ⟨q, cs, rfl, h, hK⟩
  have hlen := obj_len h
  have htk : cs.take 7 = cs := List.take_of_length_le (by omega)
  simp -implicitDefEqProofs only [go_sem, Nat.reduceBEq, Nat.reduceAdd, c52, c52r0, c52r1, List.drop_succ_cons, List.drop_zero, Nat.reduceLeDiff, true_and, List.length_cons, List.length_nil, Nat.ble, List.take_succ_cons, List.take_zero, Nat.zero_add, Nat.le_refl, hlen, htk]
  refine callS_of d23 ⟨q, cs, rfl, h, ?_⟩
  simp -implicitDefEqProofs only [go_sem, Nat.reduceBEq, Nat.reduceAdd]
  refine K_bool hK ?_
  simp

/-- quota.valid -/
def goodR (l : List Quo) : Bool := l.all fun q => decide (encQ q = 0)
def goodL (ln : List (List Quo)) : Bool := ln.all goodR
theorem asks96 {φ : Res} : ∀ {l : List Quo} {es : List (List PV)}, All2 IsQuo l es → All2 (Asks 5 96 [] φ) es (l.map fun q => decide (encQ q ≠ 0))
  | _, _, .nil => .nil
  | _, _, .cons h t => .cons ⟨quo_len h, brings_of d96 ⟨_, _, rfl, h, rfl, rfl⟩⟩ (asks96 t)
theorem asks52 {φ : Res} : ∀ {l : List Obj} {es : List (List PV)}, All2 IsObj l es → All2 (Asks 7 52 [] φ) es (l.map fun o => decide (encF o ≠ 0))
  | _, _, .nil => .nil
  | _, _, .cons h t => .cons ⟨obj_len h, brings_of d52 ⟨_, _, rfl, h, rfl, rfl⟩⟩ (asks52 t)
theorem goodR_any (l : List Quo) : ((l.map fun q => decide (encQ q ≠ 0)).any id) = !goodR l := by
  unfold goodR
  induction l with
  | nil => rfl
  | cons q l ih =>
    simp only [List.map_cons, List.any_cons, List.all_cons, ih, id]
    by_cases h : encQ q = 0 <;> simp [h]
def S53 : Am.Spec := fun rs φ K => ∃ ln x, rs = [.p x] ∧ SlR IsRow ln x ∧ K (.one (rB (goodL ln))) φ
theorem d53 : Snd Tryz.prog gls 53 S53 := by
  refine k53 (by rintro rs φ K ⟨q, cs, rfl, -⟩; simp) ?_
  rintro rs φ K ⟨ln, x, rfl, ⟨es, rfl, hb, hl⟩, hK⟩
  have hb' : ln.length ≤ 1073741824 := hb
  simp -implicitDefEqProofs only [go_sem, Nat.reduceBEq, Nat.reduceAdd, c53, c53r0, c53r1, List.drop_succ_cons, List.drop_zero, Nat.reduceLeDiff, true_and, List.length_cons, List.length_nil, Nat.ble, List.take_succ_cons, List.take_zero, Nat.zero_add, Nat.le_refl]
  intro hL
  refine range_loop rfl (by decide) ln.length hL (fun _ => [(5, .p (.sl es ln.length))]) (fun _ => []) (fun _ => []) (fun _ => φ) (fun k => ∀ r ∈ ln.take k, goodR r = true) (Gho.sub ?_ trivial trivial ?_ rfl) (by simp) ?_ ?_
  · simp [subFr, go_sem, leAV, headSt]
  · simp [refsOK, headSt]
  · rintro k Q' hk hI hn - hq
    obtain ⟨r, e, hr, he, y, rfl, ⟨rs, rfl, hrb, hrl⟩⟩ := SlR.at hl hk
    simp -implicitDefEqProofs only [go_sem, Nat.reduceBEq, Nat.reduceAdd, c53r3, c53r4, Int.toNat_natCast, he, Option.some.injEq, exists_eq_left', List.drop_succ_cons, List.drop_zero, Nat.reduceLeDiff, true_and, List.length_cons, List.length_nil, Nat.ble, List.take_succ_cons, List.take_zero, Nat.zero_add, Nat.le_refl]
    refine ⟨by omega, by omega, callS_of d95 ⟨rs, r.length, 96, [], _, rfl, SlR.le hrl, asks96 hrl, ?_⟩⟩
    rw [goodR_any]
    simp -implicitDefEqProofs only [go_sem, Nat.reduceBEq, Nat.reduceAdd, c53r5, List.drop_succ_cons, List.drop_zero, Nat.reduceLeDiff, true_and, List.length_cons, List.length_nil, Nat.ble, List.take_succ_cons, List.take_zero, Nat.zero_add, Nat.le_refl, Bool.not_eq_true', Bool.not_eq_false']
    refine ⟨fun h => ?_, fun h => ?_⟩
    · refine hq _ _ (by simp) (by simp) ?_
      simp -implicitDefEqProofs only [go_sem, Nat.reduceBEq, Nat.reduceAdd]
      refine K_bool hK ?_
      unfold goodL
      rw [List.all_eq_false]
      exact ⟨r, List.mem_of_getElem? hr, by rw [h]; simp⟩
    · refine hn _ ?_ ⟨by simp [go_sem], Gho.sub ?_ trivial trivial ?_ rfl⟩
      · rw [List.take_add_one, hr]
        intro a ha
        simp only [Option.toList_some, List.mem_append, List.mem_cons, List.not_mem_nil, or_false] at ha
        rcases ha with ha | rfl
        · exact hI a ha
        · exact h
      · simp [subFr, go_sem, leAV, headSt]
      · simp [refsOK, headSt]
  · intro hI
    rw [List.take_length] at hI
    simp -implicitDefEqProofs only [go_sem, Nat.reduceBEq, Nat.reduceAdd, c53r8]
    refine K_bool hK ?_
    unfold goodL
    rw [List.all_eq_true]
    exact hI

/-- quota.owners -/
def ownE (o : Obj) (e : List PV) : List PV := e ++ [amtSl (usesF o).1]
def badU (l : List Obj) : Bool := l.any fun o => decide ((usesF o).2 ≠ 0)
theorem ownE_len {o : Obj} {e : List PV} (h : IsObj o e) : (ownE o e).length = 8 := by
  have := obj_len h
  simp [ownE, this]
def S54 : Am.Spec := fun rs φ K => ∃ l es, rs = [.p (.sl es (List.length l))] ∧ List.length l ≤ BIG ∧ All2 IsObj l (es.take (List.length l)) ∧ (∀ o ∈ l, SzO o) ∧
  K (if badU l = true then .tup [.p (.sl [] 0), rI 7] else .tup [.p (.sl (List.zipWith ownE l es) l.length), rI 0]) φ
theorem d54 : Snd Tryz.prog gls 54 S54 := by
  refine k54 (by rintro rs φ K ⟨q, cs, rfl, -⟩; simp) ?_
  rintro rs φ K ⟨l, es, rfl, hb, hl, hSz, hK⟩
  have hb' : l.length ≤ 1073741824 := hb
  have hle : l.length ≤ es.length := SlR.le hl
  have hzl : (List.zipWith ownE l es).length = l.length := by simp; omega
  simp -implicitDefEqProofs only [go_sem, Nat.reduceBEq, Nat.reduceAdd, c54, c54r0, c54r1, c54r2, List.drop_succ_cons, List.drop_zero, Nat.reduceLeDiff, true_and, List.length_cons, List.length_nil, Nat.ble, List.take_succ_cons, List.take_zero, Nat.zero_add, Nat.le_refl]
  intro hL
  refine range_loop rfl (by decide) l.length hL (fun k => [(9, .p (.sl es l.length)), (4, .row 27 k)]) (fun _ => []) (fun k => [(27, 107, 8, (List.zipWith ownE l es).take k)]) (fun _ => φ) (fun k => ∀ o ∈ l.take k, (usesF o).2 = 0) ?_ (by simp) ?_ ?_
  · refine (Gho.mkRow (s := 4) (r := 27) (T := 107) (k := 8) ?_ rfl).trans (Gho.sub ?_ ?_ ?_ ?_ rfl)
    · simp only [go_sem, Nat.reduceBEq]
    · simp [subFr, go_sem, leAV, St.mkRow, headSt]
    · simp [subB, headSt]
    · simp [subB, go_sem, St.mkRow, headSt]
    · simp [refsOK, go_sem, headSt]
  · rintro k Q' hk hI hn - hq
    obtain ⟨o, e, ho, he, hO⟩ := SlR.at hl hk
    have h8 := ownE_len hO
    have hzk : (List.zipWith ownE l es)[k]? = some (ownE o e) := by rw [List.getElem?_zipWith, ho, he]
    have hzs : (List.zipWith ownE l es).take (k + 1) = (List.zipWith ownE l es).take k ++ [ownE o e] := by rw [List.take_add_one, hzk]; rfl
    have hztl : ((List.zipWith ownE l es).take k).length = k := by rw [List.length_take]; omega
    have hO' := hO
    obtain ⟨ux, uy, rfl, -⟩ := hO'
    simp -implicitDefEqProofs only [go_sem, Nat.reduceBEq, Nat.reduceAdd, c54r4, c54r5, Int.toNat_natCast, he, Option.some.injEq, exists_eq_left', List.drop_succ_cons, List.drop_zero, Nat.reduceLeDiff, true_and, List.length_cons, List.length_nil, Nat.ble, List.take_succ_cons, List.take_zero, Nat.zero_add, Nat.le_refl]
    refine ⟨by omega, by omega, callS_of d24 ⟨o, _, rfl, hO, hSz o (List.mem_of_getElem? ho), ?_⟩⟩
    simp -implicitDefEqProofs only [go_sem, Nat.reduceBEq, Nat.reduceAdd, c54r6, c54r7, List.drop_succ_cons, List.drop_zero, Nat.reduceLeDiff, true_and, List.length_cons, List.length_nil, Nat.ble, List.take_succ_cons, List.take_zero, Nat.zero_add, Nat.le_refl, decide_eq_true_eq, decide_eq_false_iff_not, Bool.not_eq_true', Bool.not_eq_false']
    refine ⟨fun h => ?_, fun h => ?_⟩
    · have hbad : badU l = true := by
        unfold badU
        rw [List.any_eq_true]
        exact ⟨o, List.mem_of_getElem? ho, by simpa using h⟩
      rw [if_pos hbad] at hK
      refine hq _ _ (by simp) (by simp) ?_
      simp -implicitDefEqProofs only [go_sem, Nat.reduceBEq, Nat.reduceAdd]
      exact hK
    · have h0 : (usesF o).2 = 0 := by simpa using h
      simp -implicitDefEqProofs only [go_sem, Nat.reduceBEq, Nat.reduceAdd, c54r8, List.drop_succ_cons, List.drop_zero, Nat.reduceLeDiff, true_and, List.length_cons, List.length_nil, Nat.ble, List.take_succ_cons, List.take_zero, Nat.zero_add, Nat.le_refl, amtSl, hztl, allK, Nat.reduceMul, List.cons_append, List.nil_append]
      refine ⟨by omega, by omega, ?_, by omega, by simp only [LIM]; omega, hn _ ?_ ⟨by simp [go_sem], Gho.sub ?_ ?_ ?_ ?_ rfl⟩⟩
      · intro e he; simp at he; subst he; rfl
      · rw [List.take_add_one, ho]
        intro a ha
        simp only [Option.toList_some, List.mem_append, List.mem_cons, List.not_mem_nil, or_false] at ha
        rcases ha with ha | rfl
        · exact hI a ha
        · exact h0
      · simp [subFr, go_sem, leAV, headSt]
      · simp [subB, go_sem, headSt]
      · simp [subB, go_sem, headSt, hzs, ownE, amtSl]
      · simp [refsOK, go_sem, headSt]
  · intro hI
    rw [List.take_length] at hI
    have hbad : badU l = false := by
      unfold badU
      rw [List.any_eq_false]
      intro o ho
      simpa using hI o ho
    rw [if_neg (by rw [hbad]; simp)] at hK
    have hfl : (List.zipWith ownE l es).take l.length = List.zipWith ownE l es := List.take_of_length_le (by omega)
    rw [hfl]
    simp -implicitDefEqProofs only [go_sem, Nat.reduceBEq, Nat.reduceAdd, c54r11, hzl, List.drop_succ_cons, List.drop_zero, Nat.reduceLeDiff, true_and, List.length_cons, List.length_nil, Nat.ble, List.take_succ_cons, List.take_zero, Nat.zero_add, Nat.le_refl]
    exact hK
end Go.Proofs.YtnjblinbdimkjaaGreatDoor

namespace Go.Proofs.YtnjblinbdimkjaaGreatDoor
open Go Go.Am
set_option linter.unusedSimpArgs false

/-! ### quota.fits -/
structure Det where
  path : ByteArray
  name : ByteArray
  part : ByteArray
  res : ByteArray
def e0 : ByteArray := ⟨#[]⟩
def Det.none : Det := ⟨e0, e0, e0, e0⟩
def detC (d : Det) : List PV := [.val (.string d.path), .val (.string d.name), .val (.string d.part), .val (.string d.res)]
abbrev Own := Obj × List Amt
def shareO (q : Quo) (name : ByteArray) : List Own → Int → Int
  | [], s => s
  | p :: l, _ => shareO q name l (shareF p.1 p.2 q name)
theorem shareO_snoc (q : Quo) (name : ByteArray) : ∀ (l : List Own) (p : Own) (s : Int), shareO q name (l ++ [p]) s = shareF p.1 p.2 q name
  | [], _, _ => rfl
  | _ :: l, p, _ => shareO_snoc q name l p _
def fitA (f : Place → Int) (q : Quo) (olds : List Own) (now : Own) (a : Amt) : Option (Det × Int) :=
  if (lacksF now.1 a.name).2 = true then some (⟨q.path, q.name, (lacksF now.1 a.name).1, a.name⟩, 181)
  else if a.value + shareO q a.name olds 0 < f ⟨q.path, q.scope, a.name⟩ + ofF now.2 a.name then some (⟨q.path, q.name, e0, a.name⟩, 180) else none
def fitsF (f : Place → Int) (q : Quo) (olds : List Own) (now : Own) : Det × Int := (q.hard.findSome? (fitA f q olds now)).getD (Det.none, 0)
def IsOwn2 (p : Own) (cs : List PV) : Prop := IsOwn p.1 p.2 cs
/-- what its uses are worth -/
def UsOK (us : List Amt) : Prop := ∀ a ∈ us, 0 ≤ a.value ∧ a.value ≤ maxI
theorem ofF_ok {us : List Amt} (h : UsOK us) (r : ByteArray) : 0 ≤ ofF us r ∧ ofF us r ≤ maxI := by
  induction us with
  | nil => simp [ofF, maxI]
  | cons a us ih =>
    rw [ofF]
    split
    · exact h a List.mem_cons_self
    · exact ih fun b hb => h b (List.mem_cons_of_mem _ hb)
theorem shareF_ok {o : Obj} {us : List Amt} (h : UsOK us) (q : Quo) (r : ByteArray) : 0 ≤ shareF o us q r ∧ shareF o us q r ≤ maxI := by
  unfold shareF
  split
  · exact ofF_ok h r
  · simp [maxI]
theorem shareO_ok {q : Quo} {r : ByteArray} : ∀ {l : List Own} {s : Int}, (∀ p ∈ l, UsOK p.2) → (0 ≤ s ∧ s ≤ maxI) → 0 ≤ shareO q r l s ∧ shareO q r l s ≤ maxI
  | [], _, _, hs => hs
  | p :: l, _, h, _ => by
    rw [shareO]
    exact shareO_ok (l := l) (fun x hx => h x (List.mem_cons_of_mem _ hx)) (shareF_ok (h p List.mem_cons_self) q r)
theorem fs_skip {α β : Type} {f : α → Option β} : ∀ (l : List α) (k : Nat), (∀ a ∈ l.take k, f a = none) → l.findSome? f = (l.drop k).findSome? f
  | _, 0, _ => rfl
  | [], k + 1, _ => rfl
  | a :: l, k + 1, h => by
    rw [List.drop_succ_cons, ← fs_skip l k fun b hb => h b (by rw [List.take_succ_cons]; exact List.mem_cons_of_mem _ hb)]
    rw [List.findSome?_cons, h a (by rw [List.take_succ_cons]; exact List.mem_cons_self)]
def lastN (l : List Amt) : Nat → ByteArray
  | 0 => ⟨#[]⟩
  | k + 1 => ((l[k]?).map (·.name)).getD ⟨#[]⟩

def S55 : Am.Spec := fun rs φ K => ∃ b f q qs os olds now ns, rs = [rP b, .agg qs, .p (.sl os (List.length olds)), .agg ns] ∧ Lg φ b f ∧ (∀ k, 0 ≤ f k ∧ f k ≤ maxI) ∧ IsQuo q qs ∧ (∀ a ∈ q.hard, 0 ≤ a.value ∧ a.value ≤ maxI) ∧
  List.length olds ≤ BIG ∧ All2 IsOwn2 olds (os.take (List.length olds)) ∧ (∀ p ∈ olds, UsOK p.2) ∧ IsOwn2 now ns ∧ UsOK now.2 ∧ K (.tup [.agg (detC (fitsF f q olds now).1), rI (fitsF f q olds now).2]) φ
theorem d55 : Snd Tryz.prog gls 55 S55 := by
  refine k55 (by rintro rs φ K ⟨b, f, q, qs, os, olds, now, ns, rfl, -⟩; simp) ?_
  rintro rs φ K ⟨b, f, q, qs, os, olds, now, ns, rfl, hLg, hf, hQ, hard, hob, hol, hou, hN, hnu, hK⟩
  have hQ' := hQ
  obtain ⟨x, rfl, ⟨es, rfl, hb, hl⟩, hk1, hk2⟩ := hQ
  have hN' := hN
  obtain ⟨ne, nx, rfl, hNO, hNU⟩ := hN
  have hNO' := hNO
  obtain ⟨u, v, rfl, -⟩ := hNO
  have hNU' := hNU
  obtain ⟨xs, rfl, -⟩ := hNU
  obtain ⟨qp, qn, ⟨s1, s2⟩, qh⟩ := q
  have hb' : qh.length ≤ 1073741824 := hb
  have hob' : olds.length ≤ 1073741824 := hob
  simp -implicitDefEqProofs only [go_sem, Nat.reduceBEq, Nat.reduceAdd, c55, c55r0, c55r1, c55r2, List.cons_append, List.nil_append, List.drop_succ_cons, List.drop_zero, Nat.reduceLeDiff, true_and, List.length_cons, List.length_nil, Nat.ble, List.take_succ_cons, List.take_zero, Nat.zero_add, Nat.le_refl]
  intro hL
  refine range_loop rfl (by decide) qh.length hL (fun _ => [(24, .p (.sl es qh.length)), (0, .p (.val (.pointer (some ⟨b, 0, none⟩)))), (2, .p (.sl os olds.length)), (5, .ref 5 0), (7, .ref 7 0), (8, .ref 8 0), (10, .ref 10 0)])
    (fun k => [(10, [.val (.string qp), .val (.string qn), .val (.string ⟨#[]⟩), .val (.string (lastN qh k))]), (8, [.val (.string ⟨#[]⟩), .val (.string ⟨#[]⟩), .val (.string ⟨#[]⟩), .val (.string ⟨#[]⟩)]),
      (7, [.val (.string now.1.path), .val (.string now.1.name), u, .val (.int .i64 now.1.priority), .val (.int .i64 now.1.deadline), v, .val (.int .i64 now.1.version), .sl xs now.2.length]),
      (5, [.val (.string qp), .val (.string qn), .val (.int .i64 s1), .val (.int .i64 s2), .sl es qh.length])]) (fun _ => []) (fun _ => φ) (fun k => ∀ a ∈ qh.take k, fitA f ⟨qp, qn, (s1, s2), qh⟩ olds now a = none) (Gho.sub ?_ ?_ trivial ?_ rfl) (by simp) ?_ ?_
  · simp [subFr, go_sem, leAV, headSt]
  · simp [subB, go_sem, headSt, lastN]
  · simp [refsOK, go_sem, headSt]
  · rintro k Q' hk hI hn - hq
    obtain ⟨a, e, ha, he, rfl, hav⟩ := SlR.at hl hk
    have hlast : lastN qh (k + 1) = a.name := by simp [lastN, ha]
    have hskip : (fitsF f ⟨qp, qn, (s1, s2), qh⟩ olds now) = ((fitA f ⟨qp, qn, (s1, s2), qh⟩ olds now a).getD ((qh.drop (k + 1)).findSome? (fitA f ⟨qp, qn, (s1, s2), qh⟩ olds now) |>.getD (Det.none, 0))) := by
      unfold fitsF
      show ((qh.findSome? (fitA f ⟨qp, qn, (s1, s2), qh⟩ olds now)).getD (Det.none, 0)) = _
      rw [fs_skip qh k hI, List.drop_eq_getElem_cons hk]
      have : qh[k] = a := by rw [List.getElem?_eq_getElem hk] at ha; exact Option.some.inj ha
      rw [this, List.findSome?_cons]
      cases fitA f ⟨qp, qn, (s1, s2), qh⟩ olds now a <;> rfl
    simp -implicitDefEqProofs only [go_sem, Nat.reduceBEq, Nat.reduceAdd, c55r4, c55r5, c55r6, Int.toNat_natCast, he, Option.some.injEq, exists_eq_left', List.drop_succ_cons, List.drop_zero, Nat.reduceLeDiff, true_and, List.length_cons, List.length_nil, Nat.ble, List.take_succ_cons, List.take_zero, Nat.zero_add, Nat.le_refl]
    refine ⟨by omega, by omega, callS_of d97 ⟨now.1, _, a.name, rfl, hNO', ?_⟩⟩
    simp -implicitDefEqProofs only [go_sem, Nat.reduceBEq, Nat.reduceAdd, c55r7, c55r8, c55r9, List.drop_succ_cons, List.drop_zero, Nat.reduceLeDiff, true_and, List.length_cons, List.length_nil, Nat.ble, List.take_succ_cons, List.take_zero, Nat.zero_add, Nat.le_refl]
    refine ⟨fun h => ?_, fun h => ?_⟩
    · refine hq _ _ (by simp) (by simp) ?_
      have e1 : fitA f ⟨qp, qn, (s1, s2), qh⟩ olds now a = some (⟨qp, qn, (lacksF now.1 a.name).1, a.name⟩, 181) := by rw [fitA, if_pos h]
      rw [hskip, e1] at hK
      simp -implicitDefEqProofs only [go_sem, Nat.reduceBEq, Nat.reduceAdd, List.drop_succ_cons, List.drop_zero, Nat.reduceLeDiff, true_and, List.length_cons, List.length_nil, Nat.ble, List.take_succ_cons, List.take_zero, Nat.zero_add, Nat.le_refl]
      exact hK
    · simp -implicitDefEqProofs only [go_sem, Nat.reduceBEq, Nat.reduceAdd, c55r10, c55r11, List.drop_succ_cons, List.drop_zero, Nat.reduceLeDiff, true_and, List.length_cons, List.length_nil, Nat.ble, List.take_succ_cons, List.take_zero, Nat.zero_add, Nat.le_refl]
      intro hL2
      refine range_loop rfl (by decide) olds.length hL2 (fun j => [(45, .p (.sl os olds.length)), (15, .p (.val (.int .i64 (shareO ⟨qp, qn, (s1, s2), qh⟩ a.name (olds.take j) 0)))), (12, .ref 12 0), (26, vI k), (25, vI qh.length), (24, .p (.sl es qh.length)), (0, .p (.val (.pointer (some ⟨b, 0, none⟩)))), (2, .p (.sl os olds.length)), (5, .ref 5 0), (7, .ref 7 0), (8, .ref 8 0), (10, .ref 10 0)])
        (fun _ => [(12, [.val (.string a.name), .val (.int .i64 a.value)]), (10, [.val (.string qp), .val (.string qn), .val (.string ⟨#[]⟩), .val (.string a.name)]), (8, [.val (.string ⟨#[]⟩), .val (.string ⟨#[]⟩), .val (.string ⟨#[]⟩), .val (.string ⟨#[]⟩)]),
        (7, [.val (.string now.1.path), .val (.string now.1.name), u, .val (.int .i64 now.1.priority), .val (.int .i64 now.1.deadline), v, .val (.int .i64 now.1.version), .sl xs now.2.length]),
        (5, [.val (.string qp), .val (.string qn), .val (.int .i64 s1), .val (.int .i64 s2), .sl es qh.length])]) (fun _ => []) (fun _ => φ) (fun _ => True) (Gho.sub ?_ ?_ trivial ?_ rfl) trivial ?_ ?_
      · simp [subFr, go_sem, leAV, headSt, shareO]
      · simp [subB, go_sem, headSt]
      · simp [refsOK, go_sem, headSt]
      · rintro j Q2 hj - hn2 - hq2
        obtain ⟨p, e, hp, he2, hpe⟩ := SlR.at hol hj
        have h8 : e.length = 8 := IsOwn.len hpe
        have htk : e.take 8 = e := List.take_of_length_le (by omega)
        have hsn : shareO ⟨qp, qn, (s1, s2), qh⟩ a.name (olds.take (j + 1)) 0 = shareF p.1 p.2 ⟨qp, qn, (s1, s2), qh⟩ a.name := by
          rw [List.take_add_one, hp]; exact shareO_snoc _ _ _ _ _
        simp -implicitDefEqProofs only [go_sem, Nat.reduceBEq, Nat.reduceAdd, c55r13, c55r14, Int.toNat_natCast, he2, Option.some.injEq, exists_eq_left', List.drop_succ_cons, List.drop_zero, Nat.reduceLeDiff, true_and, List.length_cons, List.length_nil, Nat.ble, List.take_succ_cons, List.take_zero, Nat.zero_add, Nat.le_refl, h8, htk]
        refine ⟨by omega, by omega, callS_of d98 ⟨p.1, p.2, e, ⟨qp, qn, (s1, s2), qh⟩, _, a.name, rfl, hpe, hQ', ?_⟩⟩
        simp -implicitDefEqProofs only [go_sem, Nat.reduceBEq, Nat.reduceAdd, List.drop_succ_cons, List.drop_zero, Nat.reduceLeDiff, true_and, List.length_cons, List.length_nil, Nat.ble, List.take_succ_cons, List.take_zero, Nat.zero_add, Nat.le_refl]
        refine hn2 _ trivial ⟨by simp [go_sem], Gho.sub ?_ ?_ trivial ?_ rfl⟩
        · simp [subFr, go_sem, leAV, headSt, hsn]
        · simp [subB, go_sem, headSt]
        · simp [refsOK, go_sem, headSt]
      · intro _
        rw [List.take_length]
        have hs0 := shareO_ok (q := ⟨qp, qn, (s1, s2), qh⟩) (r := a.name) (s := 0) hou ⟨by omega, by simp [maxI]⟩
        simp -implicitDefEqProofs only [go_sem, Nat.reduceBEq, Nat.reduceAdd, c55r17, List.drop_succ_cons, List.drop_zero, Nat.reduceLeDiff, true_and, List.length_cons, List.length_nil, Nat.ble, List.take_succ_cons, List.take_zero, Nat.zero_add, Nat.le_refl]
        refine callqA_of rfl d72 ⟨b, f, qp, (s1, s2), a.name, rfl, hLg, rfl, rfl⟩ ?_
        simp -implicitDefEqProofs only [go_sem, Nat.reduceBEq, Nat.reduceAdd, List.drop_succ_cons, List.drop_zero, Nat.reduceLeDiff, true_and, List.length_cons, List.length_nil, Nat.ble, List.take_succ_cons, List.take_zero, Nat.zero_add, Nat.le_refl]
        refine callqA_of rfl d100 ⟨now.2, _, a.name, rfl, hNU', rfl, rfl⟩ ?_
        simp -implicitDefEqProofs only [go_sem, Nat.reduceBEq, Nat.reduceAdd, List.drop_succ_cons, List.drop_zero, Nat.reduceLeDiff, true_and, List.length_cons, List.length_nil, Nat.ble, List.take_succ_cons, List.take_zero, Nat.zero_add, Nat.le_refl]
        refine callqA_of rfl d99 ⟨f ⟨qp, (s1, s2), a.name⟩, shareO ⟨qp, qn, (s1, s2), qh⟩ a.name olds 0, ofF now.2 a.name, a.value, rfl, hf _, hs0, ofF_ok hnu _, hard a (List.mem_of_getElem? ha), rfl, rfl⟩ ?_
        simp -implicitDefEqProofs only [go_sem, Nat.reduceBEq, Nat.reduceAdd, c55r18, List.drop_succ_cons, List.drop_zero, Nat.reduceLeDiff, true_and, List.length_cons, List.length_nil, Nat.ble, List.take_succ_cons, List.take_zero, Nat.zero_add, Nat.le_refl, decide_eq_true_eq, decide_eq_false_iff_not]
        refine ⟨fun h2 => ?_, fun h2 => ?_⟩
        · refine hq _ _ (by simp) (by simp) ?_
          have e1 : fitA f ⟨qp, qn, (s1, s2), qh⟩ olds now a = some (⟨qp, qn, e0, a.name⟩, 180) := by rw [fitA, if_neg (by rw [h]; simp), if_pos h2]
          rw [hskip, e1] at hK
          simp -implicitDefEqProofs only [go_sem, Nat.reduceBEq, Nat.reduceAdd, List.drop_succ_cons, List.drop_zero, Nat.reduceLeDiff, true_and, List.length_cons, List.length_nil, Nat.ble, List.take_succ_cons, List.take_zero, Nat.zero_add, Nat.le_refl]
          exact hK
        · have e1 : fitA f ⟨qp, qn, (s1, s2), qh⟩ olds now a = none := by rw [fitA, if_neg (by rw [h]; simp), if_neg h2]
          refine hn _ ?_ ⟨by simp [go_sem], Gho.sub ?_ ?_ trivial ?_ rfl⟩
          · rw [List.take_add_one, ha]
            intro c hc
            simp only [Option.toList_some, List.mem_append, List.mem_cons, List.not_mem_nil, or_false] at hc
            rcases hc with hc | rfl
            · exact hI c hc
            · exact e1
          · simp [subFr, go_sem, leAV, headSt]
          · simp [subB, go_sem, headSt, hlast]
          · simp [refsOK, go_sem, headSt]
  · intro hI
    rw [List.take_length] at hI
    have e1 : fitsF f ⟨qp, qn, (s1, s2), qh⟩ olds now = (Det.none, 0) := by
      unfold fitsF
      show ((qh.findSome? (fitA f ⟨qp, qn, (s1, s2), qh⟩ olds now)).getD (Det.none, 0)) = _
      rw [fs_skip qh qh.length (by rw [List.take_length]; exact hI), List.drop_length]; rfl
    rw [e1] at hK
    simp -implicitDefEqProofs only [go_sem, Nat.reduceBEq, Nat.reduceAdd, c55r21, List.drop_succ_cons, List.drop_zero, Nat.reduceLeDiff, true_and, List.length_cons, List.length_nil, Nat.ble, List.take_succ_cons, List.take_zero, Nat.zero_add, Nat.le_refl]
    exact hK
end Go.Proofs.YtnjblinbdimkjaaGreatDoor

namespace Go.Proofs.YtnjblinbdimkjaaGreatDoor
open Go Go.Am
set_option linter.unusedSimpArgs false

/-! ### quota.Fits -/
def ownO (o : Obj) : Own := (o, (usesF o).1)
def stepQ (f : Place → Int) (olds : List Obj) (now : Obj) (q : Quo) : Option (Det × Int) :=
  if inF now q.scope = true then (if (fitsF f q (olds.map ownO) (ownO now)).2 ≠ 0 then some (fitsF f q (olds.map ownO) (ownO now)) else none) else none
def walkQ (f : Place → Int) (ln : List (List Quo)) (olds : List Obj) (now : Obj) : Det × Int := (ln.findSome? fun r => r.findSome? (stepQ f olds now)).getD (Det.none, 0)
def badO (l : List Obj) : Bool := l.any fun o => decide (encF o ≠ 0)
def fitF (f : Place → Int) (ln : List (List Quo)) (olds : List Obj) (now : Obj) : Det × Int :=
  if 1 < olds.length then (Det.none, 1) else if badO (now :: olds) = true ∨ goodL ln = false then (Det.none, 130) else if badU (now :: olds) = true then (Det.none, 7) else walkQ f ln olds now
def SzU (o : Obj) : Prop := SzO o ∧ (usesF o).1.length ≤ BIG
theorem own_is {o : Obj} {e : List PV} (h : IsObj o e) (hs : SzU o) : IsOwn2 (ownO o) (ownE o e) := ⟨e, _, rfl, h, uses_is hs.2⟩
theorem goodQ {q : Quo} {cs : List PV} (h : IsQuo q cs) (hg : encQ q = 0) : ∀ a ∈ q.hard, 0 ≤ a.value ∧ a.value ≤ maxI := by
  have hf : formQuoF q = true := by
    unfold encQ at hg
    split at hg
    · assumption
    · cases hg
  obtain ⟨x, rfl, ⟨es, rfl, -, hl⟩, -⟩ := h
  intro a ha
  obtain ⟨k, hk, rfl⟩ := List.getElem_of_mem ha
  obtain ⟨a', _, ha', -, -, hv⟩ := SlR.at hl hk
  rw [List.getElem?_eq_getElem hk] at ha'
  cases ha'
  simp only [formQuoF, Bool.and_eq_true, List.all_eq_true] at hf
  have := hf.1.2 _ (List.getElem_mem hk)
  simp only [hardOK, Bool.and_eq_true, decide_eq_true_eq] at this
  exact ⟨this.2, by unfold maxI; exact hv.2⟩
def S16 : Am.Spec := fun rs φ K => ∃ b f ln x os olds now ns, rs = [rP b, .p x, .p (.sl os (List.length olds)), .agg ns] ∧ Lg φ b f ∧ (∀ k, 0 ≤ f k ∧ f k ≤ maxI) ∧ SlR IsRow ln x ∧ List.length olds ≤ 1048576 ∧ All2 IsObj olds (os.take (List.length olds)) ∧
  IsObj now ns ∧ (∀ o ∈ now :: olds, SzU o) ∧ K (.tup [.agg (detC (fitF f ln olds now).1), rI (fitF f ln olds now).2]) φ
theorem d16 : Snd Tryz.prog gls 16 S16 := by
  refine k16 (by rintro rs φ K ⟨b, f, ln, x, os, olds, now, ns, rfl, -⟩; simp) ?_
  rintro rs φ K ⟨b, f, ln, x, os, olds, now, ns, rfl, hLg, hf, ⟨es, rfl, hb, hl⟩, hob, hol, hO, hSz, hK⟩
  have hle : olds.length ≤ os.length := SlR.le hol
  have hb' : ln.length ≤ 1073741824 := hb
  have hO' := hO
  obtain ⟨u, v, rfl, -⟩ := hO'
  simp -implicitDefEqProofs only [go_sem, Nat.reduceBEq, Nat.reduceAdd, c16, c16r0, c16r1, c16r2, List.drop_succ_cons, List.drop_zero, Nat.reduceLeDiff, true_and, List.length_cons, List.length_nil, Nat.ble, List.take_succ_cons, List.take_zero, Nat.zero_add, Nat.le_refl, decide_eq_true_eq, decide_eq_false_iff_not]
  intro hL
  refine ⟨fun h1 => ?_, fun h1 => ?_⟩
  · have e1 : fitF f ln olds now = (Det.none, 1) := by rw [fitF, if_pos (by omega)]
    rw [e1] at hK; exact hK
  · have n1 : ¬ 1 < olds.length := by omega
    simp -implicitDefEqProofs only [go_sem, Nat.reduceBEq, Nat.reduceAdd, c16r3, List.drop_succ_cons, List.drop_zero, Nat.reduceLeDiff, true_and, List.length_cons, List.length_nil, Nat.ble, List.take_succ_cons, List.take_zero, Nat.zero_add, Nat.le_refl, allK, Nat.reduceMul, List.cons_append, List.nil_append]
    have htl : (List.take olds.length os).length = olds.length := by rw [List.length_take]; omega
    have hnum : 1 + (List.take olds.length os).length = (now :: olds).length := by rw [htl, List.length_cons]; omega
    obtain ⟨es2, hes2⟩ : ∃ es2, es2 = [PV.val (.string now.path), .val (.string now.name), u, .val (.int .i64 now.priority), .val (.int .i64 now.deadline), v, .val (.int .i64 now.version)] :: os.take olds.length := ⟨_, rfl⟩
    have hall : All2 IsObj (now :: olds) es2 := by rw [hes2]; exact .cons hO hol
    have hl2 : es2.length = (now :: olds).length := hall.len.symm
    have htk2 : es2.take (now :: olds).length = es2 := List.take_of_length_le (by omega)
    have hnb : (now :: olds).length ≤ 1048577 := by rw [List.length_cons]; omega
    rw [hnum, ← hes2]
    refine ⟨by omega, by omega, fun e he => ?_, by omega, by simp only [LIM]; omega, ?_⟩
    · obtain ⟨i, hi⟩ := List.getElem?_of_mem he
      obtain ⟨o', _, ho'⟩ := hol.get' (i := i) (b := e) hi
      exact obj_len ho'
    generalize hcnt : (now :: olds).length = cnt at hl2 htk2 hnb hnum
    simp -implicitDefEqProofs only [go_sem, Nat.reduceBEq, Nat.reduceAdd, c16r4, List.drop_succ_cons, List.drop_zero, Nat.reduceLeDiff, true_and, List.length_nil, Nat.ble, List.take_succ_cons, List.take_zero, Nat.zero_add, Nat.le_refl, hl2, ite_true, eq_self, true_and]
    refine callS_of d51 ⟨es2, cnt, 52, [], _, rfl, by omega, by rw [htk2]; exact asks52 hall, ?_⟩
    have hbo : ((now :: olds).map fun o => decide (encF o ≠ 0)).any id = badO (now :: olds) := by rw [List.any_map]; rfl
    rw [hbo]
    have h16e : badO (now :: olds) = true ∨ goodL ln = false → fitF f ln olds now = (Det.none, 130) := fun h => by rw [fitF, if_neg n1, if_pos h]
    simp -implicitDefEqProofs only [go_sem, Nat.reduceBEq, Nat.reduceAdd, List.drop_succ_cons, List.drop_zero, Nat.reduceLeDiff, true_and, List.length_nil, Nat.ble, List.take_succ_cons, List.take_zero, Nat.zero_add, Nat.le_refl]
    refine ⟨fun hb2 => ?_, fun hb2 => ?_⟩
    · refine callS_of d53 ⟨ln, _, rfl, ⟨es, rfl, hb, hl⟩, ?_⟩
      simp -implicitDefEqProofs only [go_sem, Nat.reduceBEq, Nat.reduceAdd, c16r5, List.drop_succ_cons, List.drop_zero, Nat.reduceLeDiff, true_and, List.length_nil, Nat.ble, List.take_succ_cons, List.take_zero, Nat.zero_add, Nat.le_refl, Bool.not_eq_true', Bool.not_eq_false']
      refine ⟨fun h => ?_, fun hgood => ?_⟩
      · rw [h16e (.inr h)] at hK
        exact hK
      · have hno : ¬ (badO (now :: olds) = true ∨ goodL ln = false) := by rw [hb2, hgood]; simp
        simp -implicitDefEqProofs only [go_sem, Nat.reduceBEq, Nat.reduceAdd, c16r6, List.drop_succ_cons, List.drop_zero, Nat.reduceLeDiff, true_and, List.length_nil, Nat.ble, List.take_succ_cons, List.take_zero, Nat.zero_add, Nat.le_refl]
        by_cases hbu : badU (now :: olds) = true
        · refine callS_of d54 ⟨now :: olds, es2, by rw [hcnt], by rw [hcnt]; unfold BIG; omega, by rw [hcnt, htk2]; exact hall, fun o ho => (hSz o ho).1, ?_⟩
          rw [if_pos hbu]
          have e1 : fitF f ln olds now = (Det.none, 7) := by rw [fitF, if_neg n1, if_neg hno, if_pos hbu]
          rw [e1] at hK
          simp -implicitDefEqProofs only [go_sem, Nat.reduceBEq, Nat.reduceAdd, c16r7, c16r8, List.drop_succ_cons, List.drop_zero, Nat.reduceLeDiff, true_and, List.length_nil, Nat.ble, List.take_succ_cons, List.take_zero, Nat.zero_add, Nat.le_refl, Int.reduceEq, decide_false, Bool.not_false]
          exact hK
        · have e1 : fitF f ln olds now = walkQ f ln olds now := by rw [fitF, if_neg n1, if_neg hno, if_neg hbu]
          rw [e1] at hK
          refine callS_of d54 ⟨now :: olds, es2, by rw [hcnt], by rw [hcnt]; unfold BIG; omega, by rw [hcnt, htk2]; exact hall, fun o ho => (hSz o ho).1, ?_⟩
          rw [if_neg hbu, hcnt]
          simp -implicitDefEqProofs only [go_sem, Nat.reduceBEq, Nat.reduceAdd, c16r7, c16r8, List.drop_succ_cons, List.drop_zero, Nat.reduceLeDiff, true_and, List.length_nil, Nat.ble, List.take_succ_cons, List.take_zero, Nat.zero_add, Nat.le_refl, Int.reduceEq, decide_true, Bool.not_true]
          obtain ⟨W, hW⟩ : ∃ W, W = List.zipWith ownE olds (os.take olds.length) := ⟨_, rfl⟩
          obtain ⟨nw, hnw⟩ : ∃ nw, nw = ownE now ([.val (.string now.path), .val (.string now.name), u, .val (.int .i64 now.priority), .val (.int .i64 now.deadline), v, .val (.int .i64 now.version)] : List PV) := ⟨_, rfl⟩
          have hzz : List.zipWith ownE (now :: olds) es2 = nw :: W := by rw [hes2, hW, hnw]; rfl
          rw [hzz]
          have hnwI : IsOwn2 (ownO now) nw := by rw [hnw]; exact own_is hO (hSz now List.mem_cons_self)
          have hWI : All2 IsOwn2 (olds.map ownO) W := by
            rw [hW]
            have : ∀ (l : List Obj) (es : List (List PV)), All2 IsObj l es → (∀ o ∈ l, SzU o) → All2 IsOwn2 (l.map ownO) (List.zipWith ownE l es) := by
              intro l es h
              induction h with
              | nil => intro _; exact .nil
              | cons h _ ih => intro hs; exact .cons (own_is h (hs _ List.mem_cons_self)) (ih fun o ho => hs o (List.mem_cons_of_mem _ ho))
            exact this _ _ hol fun o ho => hSz o (List.mem_cons_of_mem _ ho)
          have hWl : W.length = olds.length := by rw [← hWI.len, List.length_map]
          have hcl : cnt = olds.length + 1 := by rw [← hcnt, List.length_cons]
          have hnl : nw.length = 8 := IsOwn.len hnwI
          have hntk : nw.take 8 = nw := List.take_of_length_le (by omega)
          have hml : (olds.map ownO).length = olds.length := List.length_map ..
          have hWtk : W.take olds.length = W := List.take_of_length_le (by omega)
          have hgd : ∀ r ∈ ln, ∀ q ∈ r, encQ q = 0 := fun r hr q hq => by
            unfold goodL at hgood
            have := List.all_eq_true.1 hgood r hr
            unfold goodR at this
            simpa using List.all_eq_true.1 this q hq
          have huo : ∀ o : Obj, UsOK (ownO o).2 := fun o => usesF_vals o
          simp -implicitDefEqProofs only [go_sem, Nat.reduceBEq, Nat.reduceAdd, c16r9, List.drop_succ_cons, List.drop_zero, Nat.reduceLeDiff, true_and, List.length_cons, List.length_nil, Nat.ble, List.take_succ_cons, List.take_zero, Nat.zero_add, Nat.le_refl]
          intro hL3
          refine range_loop rfl (by decide) ln.length hL3 (fun _ => [(48, .p (.sl es ln.length)), (0, .p (.val (.pointer (some ⟨b, 0, none⟩)))), (7, .ref 7 0), (8, .ref 8 0), (11, .p (.sl (nw :: W) cnt))]) (fun _ => [(8, [.val (.string ⟨#[]⟩), .val (.string ⟨#[]⟩), .val (.string ⟨#[]⟩), .val (.string ⟨#[]⟩)]), (7, [.val (.string now.path), .val (.string now.name), u, .val (.int .i64 now.priority), .val (.int .i64 now.deadline), v, .val (.int .i64 now.version)])]) (fun _ => []) (fun _ => φ) (fun k => ∀ r ∈ ln.take k, r.findSome? (stepQ f olds now) = none) (Gho.sub ?_ ?_ trivial ?_ rfl) (by simp) ?_ ?_
          · simp [subFr, go_sem, leAV, headSt]
          · simp [subB, go_sem, headSt]
          · simp [refsOK, go_sem, headSt]
          · rintro k Q' hk hI hn - hq
            obtain ⟨r, e, hr, he, y, rfl, ⟨rs, rfl, hrb, hrl⟩⟩ := SlR.at hl hk
            have hrb' : r.length ≤ 1073741824 := hrb
            have hskip : walkQ f ln olds now = ((r.findSome? (stepQ f olds now)).getD ((ln.drop (k + 1)).findSome? (fun r => r.findSome? (stepQ f olds now)) |>.getD (Det.none, 0))) := by
              unfold walkQ
              rw [fs_skip ln k hI, List.drop_eq_getElem_cons hk]
              have : ln[k] = r := by rw [List.getElem?_eq_getElem hk] at hr; exact Option.some.inj hr
              rw [this, List.findSome?_cons]
              cases r.findSome? (stepQ f olds now) <;> rfl
            simp -implicitDefEqProofs only [go_sem, Nat.reduceBEq, Nat.reduceAdd, c16r11, c16r12, Int.toNat_natCast, he, Option.some.injEq, exists_eq_left', List.drop_succ_cons, List.drop_zero, Nat.reduceLeDiff, true_and, List.length_cons, List.length_nil, Nat.ble, List.take_succ_cons, List.take_zero, Nat.zero_add, Nat.le_refl]
            refine ⟨by omega, by omega, fun hL4 => ?_⟩
            refine range_loop rfl (by decide) r.length hL4 (fun _ => [(54, .p (.sl rs r.length)), (50, vI k), (49, vI ln.length), (48, .p (.sl es ln.length)), (0, .p (.val (.pointer (some ⟨b, 0, none⟩)))), (7, .ref 7 0), (8, .ref 8 0), (11, .p (.sl (nw :: W) cnt))]) (fun _ => [(8, [.val (.string ⟨#[]⟩), .val (.string ⟨#[]⟩), .val (.string ⟨#[]⟩), .val (.string ⟨#[]⟩)]), (7, [.val (.string now.path), .val (.string now.name), u, .val (.int .i64 now.priority), .val (.int .i64 now.deadline), v, .val (.int .i64 now.version)])]) (fun _ => []) (fun _ => φ) (fun j => ∀ q ∈ r.take j, stepQ f olds now q = none) (Gho.sub ?_ ?_ trivial ?_ rfl) (by simp) ?_ ?_
            · simp [subFr, go_sem, leAV, headSt]
            · simp [subB, go_sem, headSt]
            · simp [refsOK, go_sem, headSt]
            · rintro j Q2 hj hI2 hn2 hc2 hq2
              obtain ⟨q, e, hqj, heq, hqq⟩ := SlR.at hrl hj
              have hqq' := hqq
              obtain ⟨y, rfl, ⟨ys, rfl, -⟩, -⟩ := hqq'
              have hgq := hgd r (List.mem_of_getElem? hr) q (List.mem_of_getElem? hqj)
              have hskip2 : r.findSome? (stepQ f olds now) = (match stepQ f olds now q with | some z => some z | none => (r.drop (j + 1)).findSome? (stepQ f olds now)) := by
                rw [fs_skip r j hI2, List.drop_eq_getElem_cons hj]
                have : r[j] = q := by rw [List.getElem?_eq_getElem hj] at hqj; exact Option.some.inj hqj
                rw [this, List.findSome?_cons]
                cases stepQ f olds now q <;> rfl
              have hnext : stepQ f olds now q = none → ∀ a ∈ r.take (j + 1), stepQ f olds now a = none := fun hlk a ha => by
                rw [List.take_add_one, hqj] at ha
                simp only [Option.toList_some, List.mem_append, List.mem_cons, List.not_mem_nil, or_false] at ha
                rcases ha with ha | rfl
                · exact hI2 a ha
                · exact hlk
              simp -implicitDefEqProofs only [go_sem, Nat.reduceBEq, Nat.reduceAdd, c16r14, c16r15, Int.toNat_natCast, heq, Option.some.injEq, exists_eq_left', List.drop_succ_cons, List.drop_zero, Nat.reduceLeDiff, true_and, List.length_cons, List.length_nil, Nat.ble, List.take_succ_cons, List.take_zero, Nat.zero_add, Nat.le_refl]
              refine ⟨by omega, by omega, callS_of d33 ⟨now, _, q.scope, rfl, hO, ?_⟩⟩
              simp -implicitDefEqProofs only [go_sem, Nat.reduceBEq, Nat.reduceAdd, List.drop_succ_cons, List.drop_zero, Nat.reduceLeDiff, true_and, List.length_cons, List.length_nil, Nat.ble, List.take_succ_cons, List.take_zero, Nat.zero_add, Nat.le_refl, Bool.not_eq_true', Bool.not_eq_false']
              refine ⟨fun hin => ?_, fun hin => ?_⟩
              · have e2 : stepQ f olds now q = none := by rw [stepQ, if_neg (by rw [hin]; simp)]
                refine hc2 _ (hnext e2) ⟨by simp [go_sem], Gho.sub ?_ ?_ trivial ?_ rfl⟩
                · simp [subFr, go_sem, leAV, headSt]
                · simp [subB, go_sem, headSt]
                · simp [refsOK, go_sem, headSt]
              · simp -implicitDefEqProofs only [go_sem, Nat.reduceBEq, Nat.reduceAdd, c16r16, List.drop_succ_cons, List.drop_zero, Nat.reduceLeDiff, true_and, List.length_cons, List.length_nil, Nat.ble, List.take_succ_cons, List.take_zero, Nat.zero_add, Nat.le_refl]
                have hal8 : allK 8 W := fun e he => by
                  obtain ⟨i, hi⟩ := List.getElem?_of_mem he
                  obtain ⟨p, _, hp⟩ := hWI.get' (i := i) (b := e) hi
                  exact IsOwn.len hp
                have hdr : ((cnt : Int) - 1).toNat = olds.length := by omega
                refine ⟨⟨hnl, hal8⟩, by omega, by omega, by omega, by omega, by omega, nw, rfl, hnl, by omega, ?_⟩
                have hst : stepQ f olds now q = if (fitsF f q (olds.map ownO) (ownO now)).2 ≠ 0 then some (fitsF f q (olds.map ownO) (ownO now)) else none := by rw [stepQ, if_pos hin]
                simp -implicitDefEqProofs only [go_sem, hdr, hntk, Int.reduceToNat, List.drop_succ_cons, List.drop_zero, Nat.reduceLeDiff, true_and, List.length_cons, List.length_nil, Nat.ble, List.take_succ_cons, List.take_zero, Nat.zero_add, Nat.le_refl]
                refine callqA_of rfl d55 ⟨b, f, q, _, W, olds.map ownO, ownO now, nw, by rw [hml]; rfl, hLg, hf, hqq, goodQ hqq hgq, by rw [hml]; unfold BIG; omega, by rw [hml, hWtk]; exact hWI, fun p hp => ?_, hnwI, huo now, rfl, rfl⟩ ?_
                · obtain ⟨o', _, rfl⟩ := List.mem_map.1 hp
                  exact huo o'
                simp -implicitDefEqProofs only [go_sem, Nat.reduceBEq, Nat.reduceAdd, c16r17, c16r18, List.drop_succ_cons, List.drop_zero, Nat.reduceLeDiff, true_and, List.length_cons, List.length_nil, Nat.ble, List.take_succ_cons, List.take_zero, Nat.zero_add, Nat.le_refl, detC, decide_eq_true_eq, decide_eq_false_iff_not, Bool.not_eq_true', Bool.not_eq_false']
                refine ⟨fun h => ?_, fun h => ?_⟩
                · rw [if_pos h] at hst
                  rw [hskip, hskip2, hst] at hK
                  refine hq2 _ _ (by simp) (by simp) ?_
                  simp -implicitDefEqProofs only [go_sem, Nat.reduceBEq, Nat.reduceAdd, List.drop_succ_cons, List.drop_zero, Nat.reduceLeDiff, true_and, List.length_cons, List.length_nil, Nat.ble, List.take_succ_cons, List.take_zero, Nat.zero_add, Nat.le_refl]
                  refine hq _ _ (by simp) (by simp) ?_
                  simp -implicitDefEqProofs only [go_sem, Nat.reduceBEq, Nat.reduceAdd, List.drop_succ_cons, List.drop_zero, Nat.reduceLeDiff, true_and, List.length_cons, List.length_nil, Nat.ble, List.take_succ_cons, List.take_zero, Nat.zero_add, Nat.le_refl]
                  exact hK
                · rw [if_neg (by simpa using h)] at hst
                  refine hn2 _ (hnext hst) ⟨by simp [go_sem], Gho.sub ?_ ?_ trivial ?_ rfl⟩
                  · simp [subFr, go_sem, leAV, headSt]
                  · simp [subB, go_sem, headSt]
                  · simp [refsOK, go_sem, headSt]
            · intro hI2
              rw [List.take_length] at hI2
              simp -implicitDefEqProofs only [go_sem, Nat.reduceBEq]
              refine hn _ ?_ ⟨by simp [go_sem], Gho.sub ?_ ?_ trivial ?_ rfl⟩
              · rw [List.take_add_one, hr]
                intro a ha
                simp only [Option.toList_some, List.mem_append, List.mem_cons, List.not_mem_nil, or_false] at ha
                rcases ha with ha | rfl
                · exact hI a ha
                · rw [List.findSome?_eq_none_iff]; exact hI2
              · simp [subFr, go_sem, leAV, headSt]
              · simp [subB, go_sem, headSt]
              · simp [refsOK, go_sem, headSt]
          · intro hI
            rw [List.take_length] at hI
            have e2 : walkQ f ln olds now = (Det.none, 0) := by
              unfold walkQ
              rw [List.findSome?_eq_none_iff.2 hI]; rfl
            rw [e2] at hK
            simp -implicitDefEqProofs only [go_sem, Nat.reduceBEq, Nat.reduceAdd, c16r23, List.drop_succ_cons, List.drop_zero, Nat.reduceLeDiff, true_and, List.length_cons, List.length_nil, Nat.ble, List.take_succ_cons, List.take_zero, Nat.zero_add, Nat.le_refl]
            exact hK
    · rw [h16e (.inl hb2)] at hK
      simp -implicitDefEqProofs only [go_sem, Nat.reduceBEq, Nat.reduceAdd, c16r5, List.drop_succ_cons, List.drop_zero, Nat.reduceLeDiff, true_and, List.length_nil, Nat.ble, List.take_succ_cons, List.take_zero, Nat.zero_add, Nat.le_refl]
      exact hK
end Go.Proofs.YtnjblinbdimkjaaGreatDoor
