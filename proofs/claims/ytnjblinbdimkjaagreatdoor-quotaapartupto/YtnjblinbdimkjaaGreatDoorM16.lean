/-
  bursarlaw18.QuotaApart answers true and leaves its arguments as they were, for inputs of bulk at most 1048576 (the given second form; no other condition). Part 16 of 26 of the proof.
-/
import Derived.Test.YtnjblinbdimkjaaGreatDoorM15
namespace Go.Proofs.YtnjblinbdimkjaaGreatDoor
open Go Go.Am
set_option linter.unusedSimpArgs false

theorem SlR.at {α : Type} {R : α → List PV → Prop} {l : List α} {es : List (List PV)} (h : All2 R l (es.take l.length)) {k : Nat} (hk : k < l.length) : ∃ a e, l[k]? = some a ∧ es[k]? = some e ∧ R a e := by
  obtain ⟨a, ha⟩ : ∃ a, l[k]? = some a := ⟨l[k], by simp [hk]⟩
  obtain ⟨e, he, hR⟩ := h.get ha
  rw [List.getElem?_take, if_pos hk] at he
  exact ⟨a, e, ha, he, hR⟩
theorem range_all_next {p : Nat → Bool} {k : Nat} (h : (List.range k).all p = true) (hp : p k = true) : (List.range (k + 1)).all p = true := by
  rw [List.range_succ, List.all_append, h]; simp [hp]
theorem range_all_false {p : Nat → Bool} {n k : Nat} (hk : k < n) (hp : p k = false) : (List.range n).all p = false := by
  rw [List.all_eq_false]; exact ⟨k, by simpa using hk, by simp [hp]⟩

/-- a < b -/
def ltB (a b : ByteArray) : Bool := Op.bytesLess a.toList b.toList
def labI (l : List Lab) (i : Nat) : Bool := match l[i]? with
  | some x => nameF x.key && valueF x.value && (decide (i = 0) || match l[i - 1]? with | some y => ltB y.key x.key | none => true)
  | none => true
/-- label.Valid -/
def labF (l : List Lab) : Bool := decide (l.length ≤ 16) && (List.range l.length).all (labI l)
def S160 : Am.Spec := fun rs φ K => ∃ l x, rs = [.p x] ∧ SlR IsLab l x ∧ K (.one (rI (if labF l = true then 0 else 42))) φ
theorem d160 : Snd Tryz.prog gls 160 S160 := by
  refine k160 (by rintro rs φ K ⟨l, x, rfl, -⟩; simp) ?_
  rintro rs φ K ⟨l, x, rfl, ⟨es, rfl, hbig, hes⟩, hK⟩
  have yes : labF l = true → K (.one (rI 0)) φ := fun h => by rw [h] at hK; exact hK
  have no : labF l = false → K (.one (rI 42)) φ := fun h => by rw [h] at hK; exact hK
  clear hK
  simp -implicitDefEqProofs only [go_sem, Nat.reduceBEq, Nat.reduceAdd, c160, c160r0, c160r1, c160r2, c160r3, decide_eq_true_eq, decide_eq_false_iff_not]
  refine fun hL => ⟨fun h => no ?_, fun h _ => ?_⟩
  · have : ¬ l.length ≤ 16 := by omega
    simp [labF, this]
  · have h16 : l.length ≤ 16 := by omega
    refine range_loop rfl (by decide) l.length hL (fun _ => [(0, .p (.sl es l.length)), (8, .p (.sl es l.length))]) (fun _ => []) (fun _ => []) (fun _ => φ) (fun k => (List.range k).all (labI l) = true) (Gho.sub ?_ trivial trivial ?_ rfl) (by simp) ?_ ?_
    · simp [subFr, go_sem, leAV, headSt]
    · simp [refsOK, headSt]
    · intro k Q' hk hI hn hc hq
      obtain ⟨a, e, ha, he, rfl⟩ := SlR.at hes hk
      have hw : IntKind.i64.wrap ((k : Int) - 1) = (k : Int) - 1 := Am.wrap_small (by omega) (by omega)
      simp -implicitDefEqProofs only [go_sem, Nat.reduceBEq, Nat.reduceAdd, c160r5, c160r6, c160r7, Int.toNat_natCast, he, Option.some.injEq, exists_eq_left', Nat.reduceLeDiff, List.length_cons, List.length_nil, Nat.le_refl, true_and, List.drop_succ_cons, List.drop_zero, List.take_succ_cons, List.take_zero]
      refine ⟨by omega, by omega, callqA_of rfl d159 ⟨_, rfl, rfl, rfl⟩ ?_⟩
      have bad : labI l k = false → ∀ fr bx rw, Q' .ret ⟨(2, .p (.val (.int .i64 42))) :: fr, bx, rw, φ⟩ := fun h fr bx rw => hq _ _ (by simp) (by simp) (by
        simp -implicitDefEqProofs only [go_sem, Nat.reduceBEq]
        exact no (by simp [labF, range_all_false hk h]))
      simp -implicitDefEqProofs only [go_sem, Nat.reduceBEq, Nat.reduceAdd, Bool.not_eq_true', Bool.not_eq_false', Nat.reduceLeDiff, true_and, List.drop_succ_cons, List.drop_zero, Nat.ble]
      refine ⟨fun h1 => callqA_of rfl d201 ⟨_, rfl, rfl, rfl⟩ ?_, fun h1 => bad (by simp [labI, ha, h1]) _ _ _⟩
      simp -implicitDefEqProofs only [go_sem, Nat.reduceBEq, Nat.reduceAdd, Bool.not_eq_true', Bool.not_eq_false', Nat.reduceLeDiff, true_and, List.drop_succ_cons, List.drop_zero, Nat.ble, hw, decide_eq_true_eq, decide_eq_false_iff_not]
      refine ⟨fun h2 => ⟨fun h3 => ⟨by omega, by omega, ?_⟩, fun h3 => ?_⟩, fun h2 => bad (by simp [labI, ha, h2]) _ _ _⟩
      · obtain ⟨a', e', ha', he', rfl⟩ := SlR.at hes (k := k - 1) (by omega)
        refine ⟨_, by rw [show ((k : Int) - 1).toNat = k - 1 by omega]; exact he', rfl, ?_⟩
        have h0 : ¬ k = 0 := by omega
        simp -implicitDefEqProofs only [go_sem, Nat.reduceBEq, Nat.reduceAdd, Bool.not_eq_true', Bool.not_eq_false', Nat.reduceLeDiff, true_and, List.drop_succ_cons, List.drop_zero, Nat.ble, List.length_cons, List.length_nil]
        refine ⟨fun h4 => bad (by simp [labI, ha, ha', ltB, h4, h0]) _ _ _, fun h4 => hn _ (range_all_next hI (by simp [labI, ha, ha', h1, h2, ltB, h4])) ⟨by simp only [go_sem, Nat.reduceBEq], Gho.sub (by simp [subFr, go_sem, leAV, headSt]) trivial trivial (by simp [refsOK, headSt]) rfl⟩⟩
      · have h0 : k = 0 := by omega
        exact hn _ (range_all_next hI (by unfold labI; rw [ha]; simp [h1, h2, h0])) ⟨by simp only [go_sem, Nat.reduceBEq], Gho.sub (by simp [subFr, go_sem, leAV, headSt]) trivial trivial (by simp [refsOK, headSt]) rfl⟩
    · intro hI
      simp -implicitDefEqProofs only [go_sem, Nat.reduceBEq, Nat.reduceAdd, c160r10]
      refine yes ?_
      simp [labF, h16, hI]

/-! ### resource names -/
theorem splitB_le (sep : ByteArray) : ∀ (k : Nat) (s x : ByteArray), x ∈ Lib.splitB sep 0 k s → x.size ≤ s.size
  | 0, s, x, h => by
    have : x = s := by simpa [Lib.splitB] using h
    rw [this]; exact Nat.le_refl _
  | k + 1, s, x, h => by
    unfold Lib.splitB at h
    split at h
    · have : x = s := by simpa using h
      rw [this]; exact Nat.le_refl _
    · rcases List.mem_cons.1 h with rfl | h
      · simp only [ByteArray.size_extract]; omega
      · have := splitB_le sep k _ x h
        simp only [ByteArray.size_extract] at this; omega
theorem splitF_le {s x : ByteArray} {c : UInt8} (h : x ∈ splitF s c) : x.size ≤ s.size := splitB_le _ _ _ _ h
theorem size_pos {p : ByteArray} (h : ¬ p = ⟨#[]⟩) : 0 < p.size := by
  obtain ⟨⟨l⟩⟩ := p
  cases l with
  | nil => exact absurd rfl h
  | cons _ _ => simp [ByteArray.size]
theorem size_pos' {p : ByteArray} (h : 0 < p.size) : ¬ p = ⟨#[]⟩ := by
  rintro rfl
  simp [ByteArray.size] at h
/-- quant.resource: one piece -/
def pieceF (p : ByteArray) : Bool := !decide (p = ⟨#[]⟩) && plainF (byteI p 0) && plainF (byteI p (p.size - 1)) && (List.range p.size).all fun i => chOK (byteI p i)
def resF (s : ByteArray) : Bool := decide (s.size ≤ 48) && (splitF s 46).all pieceF
theorem d202 : Snd Tryz.prog gls 202 (SStrB resF) := by
  refine k202 (by rintro rs φ K ⟨s, rfl, -⟩; simp) ?_
  rintro rs φ K ⟨s, rfl, hK⟩
  have yes : resF s = true → K (.one (rB true)) φ := fun h => by rw [h] at hK; exact hK
  have no : resF s = false → K (.one (rB false)) φ := fun h => by rw [h] at hK; exact hK
  clear hK
  simp -implicitDefEqProofs only [go_sem, Nat.reduceBEq, Nat.reduceAdd, c202, c202r0, c202r1, c202r2, c202r3, decide_eq_true_eq, decide_eq_false_iff_not]
  refine ⟨fun h => no ?_, fun h => callS_of d180 ⟨s, 46, rfl, by omega, ?_⟩⟩
  · have : ¬ s.size ≤ 48 := by omega
    simp [resF, this]
  · have h48 : s.size ≤ 48 := by omega
    generalize hl : splitF s 46 = l
    simp -implicitDefEqProofs only [go_sem, Nat.reduceBEq, Nat.reduceAdd, strSl]
    intro hL
    refine range_loop rfl (by decide) l.length hL (fun _ => [(10, .p (strSl l))]) (fun _ => []) (fun _ => []) (fun _ => φ) (fun k => (l.take k).all pieceF = true) (Gho.sub ?_ trivial trivial ?_ rfl) (by simp) ?_ ?_
    · simp [subFr, go_sem, leAV, headSt, strSl]
    · simp [refsOK, headSt]
    · intro k Q' hk hI hn hc hq
      obtain ⟨p, hp⟩ : ∃ p, l[k]? = some p := ⟨l[k], by simp [hk]⟩
      have hpl : p.size ≤ s.size := splitF_le (c := 46) (by rw [hl]; exact List.mem_of_getElem? hp)
      have bad : pieceF p = false → ∀ fr bx rw, Q' .ret ⟨(2, .p (.val (.bool false))) :: fr, bx, rw, φ⟩ := fun h fr bx rw => hq _ _ (by simp) (by simp) (by
        simp -implicitDefEqProofs only [go_sem, Nat.reduceBEq]
        exact no (by simp only [resF, hl, all_of_false hp h, Bool.and_false]))
      simp -implicitDefEqProofs only [go_sem, Nat.reduceBEq, Nat.reduceAdd, c202r5, c202r6, c202r7, strSl, Int.toNat_natCast, List.getElem?_map, hp, Option.map_some, Option.some.injEq, exists_eq_left', List.length_cons, List.length_nil, Nat.le_refl, true_and, decide_eq_true_eq, decide_eq_false_iff_not]
      refine ⟨by omega, by omega, fun h1 => ⟨by omega, by have := size_pos h1; omega, callS_of d214 ⟨_, rfl, ?_⟩⟩, fun h1 => bad (by simp [pieceF, h1]) _ _ _⟩
      have h1' := size_pos h1
      have hw : IntKind.i64.wrap ((p.size : Int) - 1) = ((p.size - 1 : Nat) : Int) := by rw [Am.wrap_small (by omega) (by omega)]; omega
      simp -implicitDefEqProofs only [go_sem, Nat.reduceBEq, Nat.reduceAdd, Bool.not_eq_true', Bool.not_eq_false', hw, Int.toNat_natCast]
      refine ⟨fun h2 => ⟨by omega, by omega, callS_of d214 ⟨_, rfl, ?_⟩⟩, fun h2 => bad ?_ _ _ _⟩
      · simp -implicitDefEqProofs only [go_sem, Nat.reduceBEq, Nat.reduceAdd, Bool.not_eq_true', Bool.not_eq_false', c202r8]
        refine ⟨fun h3 => bad ?_ _ _ _, fun h3 => ?_⟩
        · have : plainF (byteI p (p.size - 1)) = false := h3
          simp [pieceF, this]
        · refine range_loop rfl (by decide) p.size (by simp only [LIM]; omega) (fun _ => [(12, vI k), (11, vI l.length), (4, vS p), (10, .p (strSl l))]) (fun _ => []) (fun _ => []) (fun _ => φ) (fun j => (List.range j).all (fun i => chOK (byteI p i)) = true) (Gho.sub ?_ trivial trivial ?_ rfl) (by simp) ?_ ?_
          · simp [subFr, go_sem, leAV, headSt, strSl]
          · simp [refsOK, headSt]
          · intro j Q2 hj hJ hn2 hc2 hq2
            have bad2 : chOK (byteI p j) = false → ∀ fr bx rw, Q2 .ret ⟨(2, .p (.val (.bool false))) :: fr, bx, rw, φ⟩ := fun h fr bx rw => hq2 _ _ (by simp) (by simp) (bad (by simp only [pieceF, range_all_false (p := fun i => chOK (byteI p i)) hj h, Bool.and_false]) _ _ _)
            simp -implicitDefEqProofs only [go_sem, Nat.reduceBEq, Nat.reduceAdd, Int.toNat_natCast, c202r10, c202r11, c202r12, true_and]
            refine ⟨by omega, by omega, callS_of d214 ⟨_, rfl, ?_⟩⟩
            simp -implicitDefEqProofs only [go_sem, Nat.reduceBEq, Nat.reduceAdd, Int.toNat_natCast, Bool.not_eq_true', Bool.not_eq_false', true_and]
            refine ⟨fun h4 => ⟨by omega, by omega, ?_⟩, fun h4 => ?_⟩
            · refine ⟨fun h5 => bad2 ?_ _ _ _, fun h5 => hn2 _ (range_all_next hJ ?_) ⟨by simp only [go_sem, Nat.reduceBEq], Gho.sub (by simp [subFr, go_sem, leAV, headSt, strSl]) trivial trivial (by simp [refsOK, headSt]) rfl⟩⟩
              · have h4' : plainF (byteI p j) = false := h4
                have h5' : ¬ byteI p j = 45 := by simpa [byteI] using h5
                simp [chOK, h4', h5']
              · have h5' : byteI p j = 45 := by simpa [byteI] using h5
                simp [chOK, h5']
            · refine hn2 _ (range_all_next hJ ?_) ⟨by simp only [go_sem, Nat.reduceBEq], Gho.sub (by simp [subFr, go_sem, leAV, headSt, strSl]) trivial trivial (by simp [refsOK, headSt]) rfl⟩
              have h4' : plainF (byteI p j) = true := h4
              simp [chOK, h4']
          · intro hJ
            simp -implicitDefEqProofs only [go_sem, Nat.reduceBEq, Nat.reduceAdd]
            refine hn _ (all_take_next hI hp ?_) ⟨by simp only [go_sem, Nat.reduceBEq], Gho.sub (by simp [subFr, go_sem, leAV, headSt, strSl]) trivial trivial (by simp [refsOK, headSt]) rfl⟩
            have h2' : plainF (byteI p 0) = true := h2
            have h3' : plainF (byteI p (p.size - 1)) = true := h3
            simp only [pieceF, h1, h2', h3', hJ, decide_false, Bool.not_false, Bool.and_true]
      · have : plainF (byteI p 0) = false := h2
        simp [pieceF, this]
    · intro hI
      simp -implicitDefEqProofs only [go_sem, Nat.reduceBEq, Nat.reduceAdd, c202r17]
      refine yes ?_
      rw [List.take_length] at hI
      simp [resF, h48, hl, hI]
end Go.Proofs.YtnjblinbdimkjaaGreatDoor

namespace Go.Proofs.YtnjblinbdimkjaaGreatDoor
open Go Go.Am
set_option linter.unusedSimpArgs false

/-! ### amounts -/
def amtI (l : List Amt) (i : Nat) : Bool := match l[i]? with
  | some x => resF x.name && decide (0 ≤ x.value) && (decide (i = 0) || match l[i - 1]? with | some y => !leqB x.name y.name | none => true)
  | none => true
/-- quant.Valid -/
def amtsF (l : List Amt) : Int := if 16 < l.length then 23 else if (List.range l.length).all (amtI l) = true then 0 else 31
def S162 : Am.Spec := fun rs φ K => ∃ l x, rs = [.p x] ∧ SlR IsAmt l x ∧ K (.one (rI (amtsF l))) φ
theorem d162 : Snd Tryz.prog gls 162 S162 := by
  refine k162 (by rintro rs φ K ⟨l, x, rfl, -⟩; simp) ?_
  rintro rs φ K ⟨l, x, rfl, ⟨es, rfl, hbig, hes⟩, hK⟩
  have fin : ∀ n, amtsF l = n → K (.one (rI n)) φ := fun n h => by rw [h] at hK; exact hK
  clear hK
  simp -implicitDefEqProofs only [go_sem, Nat.reduceBEq, Nat.reduceAdd, c162, c162r0, c162r1, c162r2, c162r3, decide_eq_true_eq, decide_eq_false_iff_not]
  refine fun hL => ⟨fun h => fin 23 ?_, fun h _ => ?_⟩
  · have : 16 < l.length := by omega
    simp [amtsF, this]
  · have h16 : ¬ 16 < l.length := by omega
    refine range_loop rfl (by decide) l.length hL (fun _ => [(0, .p (.sl es l.length)), (8, .p (.sl es l.length))]) (fun _ => []) (fun _ => []) (fun _ => φ) (fun k => (List.range k).all (amtI l) = true) (Gho.sub ?_ trivial trivial ?_ rfl) (by simp) ?_ ?_
    · simp [subFr, go_sem, leAV, headSt]
    · simp [refsOK, headSt]
    · intro k Q' hk hI hn hc hq
      obtain ⟨a, e, ha, he, rfl, -⟩ := SlR.at hes hk
      have hw : IntKind.i64.wrap ((k : Int) - 1) = (k : Int) - 1 := Am.wrap_small (by omega) (by omega)
      have bad : amtI l k = false → ∀ fr bx rw, Q' .ret ⟨(2, .p (.val (.int .i64 31))) :: fr, bx, rw, φ⟩ := fun h fr bx rw => hq _ _ (by simp) (by simp) (by
        simp -implicitDefEqProofs only [go_sem, Nat.reduceBEq]
        exact fin 31 (by unfold amtsF; rw [if_neg h16, if_neg (by rw [range_all_false hk h]; decide)]))
      simp -implicitDefEqProofs only [go_sem, Nat.reduceBEq, Nat.reduceAdd, c162r5, c162r6, c162r7, Int.toNat_natCast, he, Option.some.injEq, exists_eq_left', Nat.reduceLeDiff, List.length_cons, List.length_nil, Nat.le_refl, true_and, List.drop_succ_cons, List.drop_zero, List.take_succ_cons, List.take_zero]
      refine ⟨by omega, by omega, callqA_of rfl d202 ⟨_, rfl, rfl, rfl⟩ ?_⟩
      simp -implicitDefEqProofs only [go_sem, Nat.reduceBEq, Nat.reduceAdd, Bool.not_eq_true', Bool.not_eq_false', Nat.reduceLeDiff, true_and, List.drop_succ_cons, List.drop_zero, Nat.ble, hw, decide_eq_true_eq, decide_eq_false_iff_not]
      refine ⟨fun h1 => ⟨fun h2 => ⟨fun h3 => ⟨by omega, by omega, ?_⟩, fun h3 => ?_⟩, fun h2 => bad ?_ _ _ _⟩, fun h1 => bad (by simp [amtI, ha, h1]) _ _ _⟩
      · obtain ⟨a', e', ha', he', rfl, -⟩ := SlR.at hes (k := k - 1) (by omega)
        refine ⟨_, by rw [show ((k : Int) - 1).toNat = k - 1 by omega]; exact he', rfl, ?_⟩
        have h0 : ¬ k = 0 := by omega
        simp -implicitDefEqProofs only [go_sem, Nat.reduceBEq, Nat.reduceAdd, Bool.not_eq_true', Bool.not_eq_false', Nat.reduceLeDiff, true_and, List.drop_succ_cons, List.drop_zero, Nat.ble, List.length_cons, List.length_nil]
        refine ⟨fun h4 => bad ?_ _ _ _, fun h4 => hn _ (range_all_next hI ?_) ⟨by simp only [go_sem, Nat.reduceBEq], Gho.sub (by simp [subFr, go_sem, leAV, headSt]) trivial trivial (by simp [refsOK, headSt]) rfl⟩⟩
        · have h4' : leqB a.name a'.name = true := h4
          simp [amtI, ha, ha', h4', h0]
        · have h4' : leqB a.name a'.name = false := h4
          have h2' : 0 ≤ a.value := by omega
          simp [amtI, ha, ha', h4', h1, h2']
      · have h0 : k = 0 := by omega
        have h2' : 0 ≤ a.value := by omega
        exact hn _ (range_all_next hI (by unfold amtI; rw [ha]; simp [h1, h2', h0])) ⟨by simp only [go_sem, Nat.reduceBEq], Gho.sub (by simp [subFr, go_sem, leAV, headSt]) trivial trivial (by simp [refsOK, headSt]) rfl⟩
      · have h2' : ¬ 0 ≤ a.value := by omega
        simp [amtI, ha, h2']
    · intro hI
      simp -implicitDefEqProofs only [go_sem, Nat.reduceBEq, Nat.reduceAdd, c162r10]
      refine fin 0 ?_
      unfold amtsF; rw [if_neg h16, if_pos hI]

theorem amtsF_one (s : ByteArray) : amtsF [⟨s, 0⟩] = if resF s = true then 0 else 31 := by
  simp [amtsF, amtI]
/-- object.resource -/
theorem d211 : Snd Tryz.prog gls 211 (SStrB resF) := by
  refine k211 (by rintro rs φ K ⟨s, rfl, -⟩; simp) ?_
  rintro rs φ K ⟨s, rfl, hK⟩
  simp -implicitDefEqProofs only [go_sem, Nat.reduceBEq, Nat.reduceAdd, c211, c211r0, c211r1, Nat.ble, chunks, repl, List.length_cons, List.length_nil, Nat.reduceLeDiff, Nat.reduceMul]
  refine ⟨by omega, by omega, callS_of d162 ⟨[⟨s, 0⟩], _, rfl, ⟨_, rfl, by simp [BIG], .cons ⟨rfl, by simp [inI]⟩ .nil⟩, ?_⟩⟩
  simp -implicitDefEqProofs only [go_sem, Nat.reduceBEq, Nat.reduceAdd]
  refine K_bool hK ?_
  rw [amtsF_one]
  cases resF s <;> rfl

/-- object.hard -/
def countB : ByteArray := ⟨#[99, 111, 117, 110, 116]⟩
def reqB : ByteArray := ⟨#[114, 101, 113, 117, 101, 115, 116, 115, 46]⟩
def limB : ByteArray := ⟨#[108, 105, 109, 105, 116, 115, 46]⟩
def hardF (s : ByteArray) : Bool := if s = countB then true else if preF s reqB = true then resF (cutF s reqB).1 else if preF s limB = true then resF (cutF s limB).1 else false
theorem d187 : Snd Tryz.prog gls 187 (SStrB hardF) := by
  refine k187 (by rintro rs φ K ⟨s, rfl, -⟩; simp) ?_
  rintro rs φ K ⟨s, rfl, hK⟩
  have fin : ∀ b, hardF s = b → K (.one (rB b)) φ := fun b h => by rw [h] at hK; exact hK
  clear hK
  simp -implicitDefEqProofs only [go_sem, Nat.reduceBEq, Nat.reduceAdd, c187, c187r0, c187r1, c187r2, c187r3, decide_eq_true_eq, decide_eq_false_iff_not, Nat.ble, chunks, repl, List.length_cons, List.length_nil, Nat.reduceLeDiff, Nat.reduceMul]
  refine ⟨fun h => fin true (by have h' : s = countB := h; unfold hardF; rw [if_pos h']), fun h => ⟨by omega, by omega, ?_⟩⟩
  have hc : ¬ s = countB := h
  intro hL
  refine range_loop rfl (by decide) 2 (by simp [LIM]) (fun _ => [(0, vS s), (9, .p (.sl [[.val (.string reqB)], [.val (.string limB)]] 2))]) (fun _ => []) (fun _ => []) (fun _ => φ) (fun k => (0 < k → preF s reqB = false) ∧ (1 < k → preF s limB = false)) ((Gho.frzRow (r := 9) (T := 9) (k := 1) rfl).trans (Gho.sub ?_ trivial trivial ?_ rfl)) ⟨fun h => absurd h (by omega), fun h => absurd h (by omega)⟩ ?_ ?_
  · simp [subFr, go_sem, leAV, headSt, St.frzRow, reqB, limB]
  · simp [refsOK, headSt]
  · rintro k Q' hk ⟨hI1, hI2⟩ hn hc2 hq
    have step : ∀ (hd : ByteArray), [[PV.val (.string reqB)], [PV.val (.string limB)]][k]? = some [.val (.string hd)] → (preF s hd = false → (0 < k + 1 → preF s reqB = false) ∧ (1 < k + 1 → preF s limB = false)) → (preF s hd = true → hardF s = resF (cutF s hd).1) →
        awp Tryz.prog gls (.seq (.reg c187r5) (.seq (.reg c187r6) (.seq (.reg c187r7) (.cond (.t 21) (.seq (.reg c187r8) .ret) .skip)))) Q' ⟨(12, vB true) :: (11, vI k) :: (10, vI 2) :: [(0, vS s), (9, .p (.sl [[.val (.string reqB)], [.val (.string limB)]] 2))], [], [], φ⟩ := fun hd he hno hyes => by
      simp -implicitDefEqProofs only [go_sem, Nat.reduceBEq, Nat.reduceAdd, c187r5, c187r6, c187r7, Int.toNat_natCast, he, Option.some.injEq, exists_eq_left', List.length_cons, List.length_nil, Nat.le_refl, true_and]
      refine ⟨by omega, by omega, callS_of d144 ⟨s, hd, rfl, ?_⟩⟩
      have hcut : (cutF s hd).2 = preF s hd := by unfold cutF; cases preF s hd <;> rfl
      simp -implicitDefEqProofs only [go_sem, Nat.reduceBEq, Nat.reduceAdd, List.getElem?_cons_zero, List.getElem?_cons_succ, c187r8, hcut]
      refine ⟨fun h1 => callS_of d211 ⟨_, rfl, ?_⟩, fun h1 => hn _ (hno h1) ⟨by simp only [go_sem, Nat.reduceBEq], Gho.sub (by simp [subFr, go_sem, leAV, headSt]) trivial trivial (by simp [refsOK, headSt]) rfl⟩⟩
      simp -implicitDefEqProofs only [go_sem, Nat.reduceBEq, Nat.reduceAdd]
      refine hq _ _ (by simp) (by simp) ?_
      simp -implicitDefEqProofs only [go_sem, Nat.reduceBEq, Nat.reduceAdd]
      exact fin _ (hyes h1)
    match k, hk with
    | 0, _ => exact step reqB rfl (fun h => ⟨fun _ => h, fun h2 => absurd h2 (by omega)⟩) (fun h => by unfold hardF; rw [if_neg hc, if_pos h])
    | 1, _ => exact step limB rfl (fun h => ⟨fun _ => hI1 (by omega), fun _ => h⟩) (fun h => by unfold hardF; rw [if_neg hc, if_neg (by rw [hI1 (by omega)]; decide), if_pos h])
    | k + 2, hk => omega
  · rintro ⟨hI1, hI2⟩
    simp -implicitDefEqProofs only [go_sem, Nat.reduceBEq, Nat.reduceAdd, c187r11]
    exact fin false (by unfold hardF; rw [if_neg hc, if_neg (by rw [hI1 (by omega)]; decide), if_neg (by rw [hI2 (by omega)]; decide)])

/-! ### above, line, under -/
theorem pathF_ok {s : ByteArray} (h : pathF s = 0) : s = slash ∨ (preF s slash = true ∧ s.size ≤ 64) := by
  unfold pathF splitPF at h
  split at h
  · exact .inl ‹_›
  · right
    split at h
    · cases h
    · rename_i hc
      split at h
      · cases h
      · refine ⟨?_, by omega⟩
        unfold cutF at hc
        cases hp : preF s slash with
        | true => rfl
        | false => rw [hp] at hc; exact absurd rfl hc
theorem slash_size : slash.size = 1 := rfl
theorem path_size {s : ByteArray} (h : pathF s = 0) : s.size ≤ 64 := by
  rcases pathF_ok h with rfl | h
  · rw [slash_size]; omega
  · exact h.2
/-- label.above -/
def aboveF (s : ByteArray) : ByteArray := s.extract 0 (if lastF s 47 > 1 then lastF s 47 else 1).toNat
theorem lastF_lt (s : ByteArray) (c : UInt8) : lastF s c < (s.size : Int) ∧ -1 ≤ lastF s c := by
  unfold lastF Lib.lastIndexByte
  rcases Lib.lastIdx_spec s (c.toNat : Int) s.size with ⟨h, _⟩ | ⟨i, h, h', _⟩
  · rw [h]; omega
  · rw [h']; omega
theorem aboveF_size {s : ByteArray} (h : 1 ≤ s.size) : (aboveF s).size = (if lastF s 47 > 1 then lastF s 47 else 1).toNat := by
  have := lastF_lt s 47
  simp only [aboveF, ByteArray.size_extract]
  split <;> omega
def S189 : Am.Spec := fun rs φ K => ∃ s : ByteArray, rs = [rS s] ∧ 1 ≤ s.size ∧ s.size < 4611686018427387904 ∧ K (.one (rS (aboveF s))) φ
theorem d189 : Snd Tryz.prog gls 189 S189 := by
  refine k189 (by rintro rs φ K ⟨s, rfl, -⟩; simp) ?_
  rintro rs φ K ⟨s, rfl, h1, h2, hK⟩
  simp -implicitDefEqProofs only [go_sem, Nat.reduceBEq, Nat.reduceAdd, c189, c189r0, c189r1]
  refine callS_of d212 ⟨s, 47, rfl, h2, ?_⟩
  have := lastF_lt s 47
  simp -implicitDefEqProofs only [go_sem, Nat.reduceBEq, Nat.reduceAdd]
  refine ⟨by omega, by split <;> omega, by split <;> omega, hK⟩

/-- label.Line -/
def lineGo : Nat → ByteArray → List ByteArray
  | 0, p => [p]
  | n + 1, p => if p = slash then [p] else p :: lineGo n (aboveF p)
def lineF (s : ByteArray) : List ByteArray := lineGo s.size s
theorem pre_get {p : ByteArray} (h : preF p slash = true) : 1 ≤ p.size ∧ p.extract 0 1 = slash := by
  unfold preF at h
  rw [Bool.and_eq_true] at h
  exact ⟨of_decide_eq_true h.1, of_decide_eq_true h.2⟩
theorem above_pre {p : ByteArray} (h : preF p slash = true) (hs : ¬ p = slash) : preF (aboveF p) slash = true ∧ (aboveF p).size < p.size := by
  obtain ⟨h1, h2⟩ := pre_get h
  have hsz := aboveF_size h1
  have hl := lastF_lt p 47
  have h3 : 1 < p.size := by
    by_cases e : p.size = 1
    · exfalso; apply hs
      rw [← h2, ← e, ByteArray.extract_zero_size]
    · omega
  have hm : 1 ≤ (if lastF p 47 > 1 then lastF p 47 else 1).toNat ∧ (if lastF p 47 > 1 then lastF p 47 else 1).toNat < p.size := by
    by_cases hc : lastF p 47 > 1
    · rw [if_pos hc]; omega
    · rw [if_neg hc]; omega
  rw [← hsz] at hm
  refine ⟨?_, hm.2⟩
  unfold preF
  rw [Bool.and_eq_true]
  refine ⟨decide_eq_true hm.1, decide_eq_true ?_⟩
  rw [hsz] at hm
  unfold aboveF
  generalize (if lastF p 47 > 1 then lastF p 47 else 1).toNat = m at hm
  show (p.extract 0 m).extract 0 1 = slash
  rw [← h2, ByteArray.extract_extract, Nat.zero_add, Nat.zero_add, Nat.min_eq_left hm.1]
def S138 : Am.Spec := fun rs φ K => ∃ s : ByteArray, rs = [rS s] ∧ K (.tup [.p (strSl (if pathF s = 0 then lineF s else [])), rI (pathF s)]) φ
theorem d138 : Snd Tryz.prog gls 138 S138 := by
  refine k138 (by rintro rs φ K ⟨s, rfl, -⟩; simp) ?_
  rintro rs φ K ⟨s, rfl, hK⟩
  simp -implicitDefEqProofs only [go_sem, Nat.reduceBEq, Nat.reduceAdd, c138, c138r0, c138r1, c138r2, c138r3, c138r4]
  refine callS_of d73 ⟨s, rfl, ?_⟩
  simp -implicitDefEqProofs only [go_sem, Nat.reduceBEq, Nat.reduceAdd, Nat.ble, chunks, repl, List.length_cons, List.length_nil, Nat.reduceLeDiff, Nat.reduceMul]
  simp only [Bool.not_eq_true', Bool.not_eq_false', decide_eq_true_eq, decide_eq_false_iff_not, bne_eq_false_iff_eq, bne_iff_ne, ne_eq]
  refine ⟨fun h => by rw [if_neg h] at hK; exact hK, fun h => ⟨by omega, by omega, ?_⟩⟩
  rw [if_pos h, h] at hK
  have hp : preF s slash = true ∧ s.size ≤ 64 := by
    rcases pathF_ok h with rfl | h
    · exact ⟨by decide, by decide⟩
    · exact h
  refine inv_loop (X := List ByteArray × ByteArray × Nat) (fun x => preF x.2.1 slash = true ∧ x.2.1.size ≤ x.2.2 ∧ x.1.length + x.2.2 ≤ 64 ∧ x.2.1.size ≤ 64 ∧ x.1 ++ lineGo x.2.2 x.2.1 = lineF s)
    (fun x => ⟨[(0, vS x.2.1), (5, .row 12 (x.1.length + 1))], [], [(12, 9, 1, (x.1 ++ [x.2.1]).map fun p => [PV.val (.string p)])], φ⟩) (fun x => x.2.1.size) ([], s, s.size) ⟨hp.1, Nat.le_refl _, by simp; omega, hp.2, rfl⟩ ?_ ?_
  · refine Gho.sub ?_ trivial ?_ ?_ rfl
    · simp [subFr, go_sem, leAV]
    · simp [subB, go_sem]
    · simp [refsOK, go_sem]
  · rintro ⟨pre, p, n⟩ Q' ⟨g1, g2, g3, g4, g5⟩ hn hq
    simp -implicitDefEqProofs only [go_sem, Nat.reduceBEq, Nat.reduceAdd, c138l8, c138r5, c138r6, c138r7]
    simp only [Bool.not_eq_true', Bool.not_eq_false', decide_eq_true_eq, decide_eq_false_iff_not]
    replace g4 : p.size ≤ 64 := g4
    replace g3 : pre.length + n ≤ 64 := g3
    replace g2 : p.size ≤ n := g2
    replace g1 : preF p slash = true := g1
    replace g5 : pre ++ lineGo n p = lineF s := g5
    have hp1 := (pre_get g1).1
    refine ⟨fun hne => callS_of d189 ⟨p, rfl, hp1, by omega, ?_⟩, fun he => ?_⟩
    · have hne' : ¬ p = slash := hne
      obtain ⟨a1, a2⟩ := above_pre g1 hne'
      simp -implicitDefEqProofs only [go_sem, Nat.reduceBEq, Nat.reduceAdd, Nat.ble, chunks, repl, List.length_cons, List.length_nil, Nat.reduceLeDiff, Nat.reduceMul, List.length_map, List.length_append]
      obtain ⟨m, rfl⟩ : ∃ m, n = m + 1 := ⟨n - 1, by omega⟩
      rw [lineGo, if_neg hne'] at g5
      refine ⟨by omega, by omega, by omega, by simp only [LIM]; omega, hn _ (pre ++ [p], aboveF p, m) ⟨a1, ?_, ?_, ?_, ?_⟩ a2 ?_⟩
      · show (aboveF p).size ≤ m; omega
      · show (pre ++ [p]).length + m ≤ 64; simp; omega
      · show (aboveF p).size ≤ 64; omega
      · rw [← g5]; simp
      · refine Gho.sub ?_ trivial ?_ ?_ rfl
        · simp [subFr, go_sem, leAV]
        · simp [subB, go_sem]
        · simp [refsOK, go_sem]
    · have he' : p = slash := he
      refine hq _ _ (by simp) ?_
      simp -implicitDefEqProofs only [go_sem, Nat.reduceBEq, Nat.reduceAdd, c138r9, List.length_map, List.length_append, List.length_cons, List.length_nil]
      have hl : lineF s = pre ++ [p] := by
        rw [← g5]
        cases n with
        | zero => rfl
        | succ n => rw [lineGo, if_pos he']
      rw [hl] at hK
      simpa [strSl] using hK

/-- label.Under -/
def underF (p t : ByteArray) : Bool := decide (pathF p = 0) && decide (pathF t = 0) && (decide (t = slash) || decide (p = t) || preF p (t ++ slash))
def S31 : Am.Spec := fun rs φ K => ∃ p t : ByteArray, rs = [rS p, rS t] ∧ K (.one (rB (underF p t))) φ
theorem d31 : Snd Tryz.prog gls 31 S31 := by
  refine k31 (by rintro rs φ K ⟨s, t, rfl, -⟩; simp) ?_
  rintro rs φ K ⟨p, t, rfl, hK⟩
  simp -implicitDefEqProofs only [go_sem, Nat.reduceBEq, Nat.reduceAdd, c31, c31r0, c31r1, c31r2, c31r3]
  refine callS_of d73 ⟨p, rfl, ?_⟩
  simp -implicitDefEqProofs only [go_sem, Nat.reduceBEq, Nat.reduceAdd]
  simp only [Bool.not_eq_true', Bool.not_eq_false', decide_eq_true_eq, decide_eq_false_iff_not, bne_eq_false_iff_eq, bne_iff_ne, ne_eq]
  refine ⟨fun h1 => callS_of d73 ⟨t, rfl, ?_⟩, fun h1 => ?_⟩
  · simp -implicitDefEqProofs only [go_sem, Nat.reduceBEq, Nat.reduceAdd]
    simp only [Bool.not_eq_true', Bool.not_eq_false', decide_eq_true_eq, decide_eq_false_iff_not, bne_eq_false_iff_eq, bne_iff_ne, ne_eq]
    refine ⟨fun h2 => K_bool hK (by simp [underF, h2]), fun h2 => ⟨fun h3 => ⟨fun h4 => ⟨?_, callS_of d74 ⟨_, _, rfl, ?_⟩⟩, fun h4 => ?_⟩, fun h3 => ?_⟩⟩
    · have h5 := path_size h2
      have h6 : IntKind.i64.max = 9223372036854775807 := by decide
      have h7 : (#[(47 : UInt8)] : Array UInt8).size = 1 := rfl
      rw [h6, h7]; omega
    · simp -implicitDefEqProofs only [go_sem, Nat.reduceBEq, Nat.reduceAdd]
      have h3' : ¬ t = slash := h3
      exact K_bool hK (by unfold underF; rw [decide_eq_true h1, decide_eq_true h2, decide_eq_false h3', decide_eq_false h4]; rfl)
    · exact K_bool hK (by simp [underF, h1, h2, h4])
    · have h3' : t = slash := h3
      exact K_bool hK (by unfold underF; rw [decide_eq_true h1, decide_eq_true h2, decide_eq_true h3']; rfl)
  · exact K_bool hK (by simp [underF, h1])
end Go.Proofs.YtnjblinbdimkjaaGreatDoor
