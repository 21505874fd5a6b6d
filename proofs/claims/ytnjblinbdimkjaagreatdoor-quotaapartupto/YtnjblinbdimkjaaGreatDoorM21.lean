/-
  bursarlaw18.QuotaApart answers true and leaves its arguments as they were, for inputs of bulk at most 1048576 (the given second form; no other condition). Part 21 of 26 of the proof.
-/
import Derived.Test.YtnjblinbdimkjaaGreatDoorM20
import Derived.Test.YtnjblinbdimkjaaGreatDoorM12
namespace Go.Proofs.YtnjblinbdimkjaaGreatDoor
open Go Go.Am
set_option linter.unusedSimpArgs false

/-! ### scope.Of -/
def scAt (o : Obj) (i : Nat) : Scope := ((i : Int), if i = 5 then o.priority else 0)
def scF (o : Obj) (k : Nat) : List Scope := ((List.range k).map (scAt o)).filter (inF o)
theorem scF_succ (o : Obj) (k : Nat) : scF o (k + 1) = scF o k ++ (if inF o (scAt o k) = true then [scAt o k] else []) := by
  unfold scF
  rw [List.range_succ, List.map_append, List.filter_append]
  congr 1
  simp only [List.map_cons, List.map_nil, List.filter_cons, List.filter_nil]
theorem scF_len (o : Obj) (k : Nat) : (scF o k).length ≤ k := by
  unfold scF
  exact Nat.le_trans (List.length_filter_le ..) (by simp)
def S38 : Am.Spec := fun rs φ K => ∃ o cs, rs = [.agg cs] ∧ IsObj o cs ∧ K (.one (.p (.sl ((scF o 6).map encSc) (scF o 6).length))) φ
theorem d38 : Snd Tryz.prog gls 38 S38 := by
  refine k38 (by rintro rs φ K ⟨o, cs, rfl, -⟩; simp) ?_
  rintro rs φ K ⟨o, cs, rfl, h, hK⟩
  have h' := h
  obtain ⟨x, y, hcs, -⟩ := h'
  have hlen : cs.length = 7 := by rw [hcs]; rfl
  simp -implicitDefEqProofs only [go_sem, Nat.reduceBEq, Nat.reduceAdd, c38, c38r0, c38r1, c38r2]
  refine inv_loop (X := Nat) (fun k => k ≤ 6) (fun k => ⟨[(1, .ref 1 0), (6, vI k), (3, .row 22 (scF o k).length)], [(1, cs)], [(22, 60, 2, (scF o k).map encSc)], φ⟩) (fun k => 6 - k) 0 (by omega) ?_ ?_
  · refine (Gho.mkRow (s := 3) (r := 22) (T := 60) (k := 2) ?_ rfl).trans (Gho.sub ?_ ?_ ?_ ?_ rfl)
    · simp only [go_sem, Nat.reduceBEq]
    · simp [subFr, go_sem, leAV, St.mkRow, scF]
    · simp [subB, go_sem, St.mkRow]
    · simp [subB, go_sem, St.mkRow, scF]
    · simp [refsOK, go_sem]
  · intro k Q' hk hn hq
    simp -implicitDefEqProofs only [go_sem, Nat.reduceBEq, Nat.reduceAdd, c38l11, c38r3, decide_eq_true_eq, decide_eq_false_iff_not]
    refine ⟨fun hlt => ?_, fun hge => ?_⟩
    · have hlt : k < 6 := by omega
      have hsl := scF_len o k
      have hml : ((scF o k).map encSc).length = (scF o k).length := by simp
      simp -implicitDefEqProofs only [go_sem, Nat.reduceBEq, Nat.reduceAdd, c38r4, c38r5, c38r6, List.drop_succ_cons, List.drop_zero, Nat.reduceLeDiff, true_and, List.length_cons, List.length_nil, Nat.ble, List.take_succ_cons, List.take_zero, Nat.zero_add, Nat.le_refl, decide_eq_true_eq, decide_eq_false_iff_not]
      refine ⟨fun h5 => ?_, fun h5 => ?_⟩
      · have hsc : scAt o k = ((k : Int), o.priority) := by simp [scAt, show k = 5 by omega]
        simp -implicitDefEqProofs only [go_sem, Nat.reduceBEq, Nat.reduceAdd, c38r7, c38r8, c38r9, c38r10, List.drop_succ_cons, List.drop_zero, Nat.reduceLeDiff, true_and, List.length_cons, List.length_nil, Nat.ble, List.take_succ_cons, List.take_zero, Nat.zero_add, Nat.le_refl, hcs]
        refine callS_of d33 ⟨o, _, ((k : Int), o.priority), rfl, by rw [← hcs]; exact h, ?_⟩
        simp -implicitDefEqProofs only [go_sem, Nat.reduceBEq, Nat.reduceAdd, List.drop_succ_cons, List.drop_zero, Nat.reduceLeDiff, true_and, List.length_cons, List.length_nil, Nat.ble, List.take_succ_cons, List.take_zero, Nat.zero_add, Nat.le_refl, next_i hlt (Nat.le_of_ble_eq_true rfl)]
        refine ⟨fun hin => ?_, fun hin => ?_⟩
        · have e1 : scF o (k + 1) = scF o k ++ [((k : Int), o.priority)] := by rw [scF_succ, hsc, if_pos hin]
          simp -implicitDefEqProofs only [go_sem, Nat.reduceBEq, Nat.reduceAdd, List.drop_succ_cons, List.drop_zero, Nat.reduceLeDiff, true_and, List.length_cons, List.length_nil, Nat.ble, List.take_succ_cons, List.take_zero, Nat.zero_add, Nat.le_refl, next_i hlt (Nat.le_of_ble_eq_true rfl), hml, allK, Nat.reduceMul]
          refine ⟨by omega, by omega, by omega, by simp only [LIM]; omega, hn _ (k + 1) (by omega) (by omega) ?_⟩
          rw [e1]
          refine Gho.sub ?_ ?_ ?_ ?_ rfl
          · simp [subFr, go_sem, leAV]
          · simp [subB, go_sem, hcs]
          · simp [subB, go_sem, encSc]
          · simp [refsOK, go_sem]
        · have e1 : scF o (k + 1) = scF o k := by rw [scF_succ, hsc, if_neg (by rw [hin]; simp), List.append_nil]
          refine hn _ (k + 1) (by omega) (by omega) ?_
          rw [e1]
          refine Gho.sub ?_ ?_ ?_ ?_ rfl
          · simp [subFr, go_sem, leAV]
          · simp [subB, go_sem, hcs]
          · simp [subB, go_sem]
          · simp [refsOK, go_sem]
      · have hsc : scAt o k = ((k : Int), 0) := by simp [scAt, show k ≠ 5 by omega]
        simp -implicitDefEqProofs only [go_sem, Nat.reduceBEq, Nat.reduceAdd, c38r7, c38r8, c38r9, c38r10, List.drop_succ_cons, List.drop_zero, Nat.reduceLeDiff, true_and, List.length_cons, List.length_nil, Nat.ble, List.take_succ_cons, List.take_zero, Nat.zero_add, Nat.le_refl, hcs]
        refine callS_of d33 ⟨o, _, ((k : Int), 0), rfl, by rw [← hcs]; exact h, ?_⟩
        simp -implicitDefEqProofs only [go_sem, Nat.reduceBEq, Nat.reduceAdd, List.drop_succ_cons, List.drop_zero, Nat.reduceLeDiff, true_and, List.length_cons, List.length_nil, Nat.ble, List.take_succ_cons, List.take_zero, Nat.zero_add, Nat.le_refl, next_i hlt (Nat.le_of_ble_eq_true rfl)]
        refine ⟨fun hin => ?_, fun hin => ?_⟩
        · have e1 : scF o (k + 1) = scF o k ++ [((k : Int), 0)] := by rw [scF_succ, hsc, if_pos hin]
          simp -implicitDefEqProofs only [go_sem, Nat.reduceBEq, Nat.reduceAdd, List.drop_succ_cons, List.drop_zero, Nat.reduceLeDiff, true_and, List.length_cons, List.length_nil, Nat.ble, List.take_succ_cons, List.take_zero, Nat.zero_add, Nat.le_refl, next_i hlt (Nat.le_of_ble_eq_true rfl), hml, allK, Nat.reduceMul]
          refine ⟨by omega, by omega, by omega, by simp only [LIM]; omega, hn _ (k + 1) (by omega) (by omega) ?_⟩
          rw [e1]
          refine Gho.sub ?_ ?_ ?_ ?_ rfl
          · simp [subFr, go_sem, leAV]
          · simp [subB, go_sem, hcs]
          · simp [subB, go_sem, encSc]
          · simp [refsOK, go_sem]
        · have e1 : scF o (k + 1) = scF o k := by rw [scF_succ, hsc, if_neg (by rw [hin]; simp), List.append_nil]
          refine hn _ (k + 1) (by omega) (by omega) ?_
          rw [e1]
          refine Gho.sub ?_ ?_ ?_ ?_ rfl
          · simp [subFr, go_sem, leAV]
          · simp [subB, go_sem, hcs]
          · simp [subB, go_sem]
          · simp [refsOK, go_sem]
    · have hkk : k = 6 := by omega
      subst hkk
      refine hq _ _ (by simp) ?_
      simp -implicitDefEqProofs only [go_sem, Nat.reduceBEq, Nat.reduceAdd, c38r12, List.length_map]
      exact hK
end Go.Proofs.YtnjblinbdimkjaaGreatDoor

namespace Go.Proofs.YtnjblinbdimkjaaGreatDoor
open Go Go.Am
set_option linter.unusedSimpArgs false

def S64 : Am.Spec := fun rs φ K => ∃ a cs, rs = [.agg cs] ∧ IsAmt a cs ∧ K (.one (rB (decide (a.value < 0)))) φ
theorem d64 : Snd Tryz.prog gls 64 S64 := by
  refine k64 (by rintro rs φ K ⟨o, cs, rfl, -⟩; simp) ?_
  rintro rs φ K ⟨a, cs, rfl, ⟨rfl, -⟩, hK⟩
  simp -implicitDefEqProofs only [go_sem, Nat.reduceBEq, Nat.reduceAdd, c64, c64r0, c64r1, List.drop_succ_cons, List.drop_zero, Nat.reduceLeDiff, true_and, List.length_cons, List.length_nil, Nat.ble, List.take_succ_cons, List.take_zero, Nat.zero_add, Nat.le_refl]
  exact K_bool hK rfl

end Go.Proofs.YtnjblinbdimkjaaGreatDoor

namespace Go.Proofs.YtnjblinbdimkjaaGreatDoor
open Go Go.Am
set_option linter.unusedSimpArgs false

/-! ### scope.Uses -/
def reqP : ByteArray := ⟨#[114, 101, 113, 117, 101, 115, 116, 115, 46]⟩
def limP : ByteArray := ⟨#[108, 105, 109, 105, 116, 115, 46]⟩
def preA (p : ByteArray) (l : List Amt) : List Amt := l.map fun a => ⟨p ++ a.name, a.value⟩
def partU (p : Part) : List Amt := preA reqP p.req ++ preA limP p.lim
def allU (o : Obj) : List Amt := o.parts.flatMap partU
def sumU : List Amt → List (ByteArray × Int) → Option (List (ByteArray × Int))
  | [], m => some m
  | a :: l, m => if (addF (mget a.name m) a.value).2 = 0 then sumU l (mput a.name (addF (mget a.name m) a.value).1 m) else none
def leA (a b : Amt) : Bool := !decide (amtCmp b a < 0)
def insA (a : Amt) : List Amt → List Amt
  | [] => [a]
  | b :: l => if leA a b = true then a :: b :: l else b :: insA a l
def insSort : List Amt → List Amt
  | [] => []
  | a :: l => insA a (insSort l)
theorem insA_perm (a : Amt) : ∀ l : List Amt, (insA a l).Perm (a :: l)
  | [] => List.Perm.refl _
  | b :: l => by
    rw [insA]
    split
    · exact List.Perm.refl _
    · exact ((insA_perm a l).cons b).trans (List.Perm.swap a b l)
theorem insSort_perm : ∀ l : List Amt, (insSort l).Perm l
  | [] => List.Perm.refl _
  | a :: l => (insA_perm a _).trans ((insSort_perm l).cons a)
theorem insA_pw (tr : ∀ a b c : Amt, leA a b = true → leA b c = true → leA a c = true) (tot : ∀ a b : Amt, (leA a b || leA b a) = true) (a : Amt) : ∀ l : List Amt, l.Pairwise (fun a b => leA a b = true) → (insA a l).Pairwise (fun a b => leA a b = true)
  | [], _ => by simp [insA]
  | b :: l, h => by
    rw [List.pairwise_cons] at h
    rw [insA]
    split
    · rename_i hab
      exact List.pairwise_cons.2 ⟨fun c hc => by
        rcases List.mem_cons.1 hc with rfl | hc
        · exact hab
        · exact tr a b c hab (h.1 c hc), List.pairwise_cons.2 h⟩
    · rename_i hab
      have hba : leA b a = true := by
        have := tot a b
        rw [Bool.or_eq_true] at this
        exact this.resolve_left hab
      refine List.pairwise_cons.2 ⟨fun c hc => ?_, insA_pw tr tot a l h.2⟩
      rcases List.mem_cons.1 ((insA_perm a l).mem_iff.1 hc) with rfl | hc
      · exact hba
      · exact h.1 c hc
theorem insSort_pw (tr : ∀ a b c : Amt, leA a b = true → leA b c = true → leA a c = true) (tot : ∀ a b : Amt, (leA a b || leA b a) = true) : ∀ l : List Amt, (insSort l).Pairwise (fun a b => leA a b = true)
  | [] => .nil
  | a :: l => insA_pw tr tot a _ (insSort_pw tr tot l)
def sortU (m : List (ByteArray × Int)) : List Amt := insSort (m.map fun p => ⟨p.1, p.2⟩)
def usesF (o : Obj) : List Amt × Int := if (allU o).any (fun a => decide (a.value < 0)) = true then ([], 1) else match sumU (allU o) [(countB, 1000)] with
  | none => ([], 7)
  | some m => (sortU m, 0)

theorem mput_keys {k : ByteArray} {v : Int} : ∀ (m : List (ByteArray × Int)), (m.map (·.1)).Nodup → ((mput k v m).map (·.1)).Nodup ∧ ∀ x ∈ (mput k v m).map (·.1), x = k ∨ x ∈ m.map (·.1)
  | [], _ => by simp [mput]
  | p :: l, h => by
    simp only [List.map_cons, List.nodup_cons] at h
    rw [mput]
    split
    · rename_i e
      subst e
      exact ⟨by simpa using h, by simp⟩
    · rename_i e
      obtain ⟨h1, h2⟩ := mput_keys l h.2
      refine ⟨?_, ?_⟩
      · simp only [List.map_cons, List.nodup_cons]
        refine ⟨fun hc => ?_, h1⟩
        rcases h2 _ hc with e' | e'
        · exact e e'
        · exact h.1 e'
      · intro x hx
        simp only [List.map_cons, List.mem_cons] at hx ⊢
        rcases hx with rfl | hx
        · exact .inr (.inl rfl)
        · exact (h2 x hx).imp id .inr
theorem sumU_keys : ∀ (l : List Amt) (m m' : List (ByteArray × Int)), sumU l m = some m' → (m.map (·.1)).Nodup → (m'.map (·.1)).Nodup
  | [], m, m', h, hn => by cases h; exact hn
  | a :: l, m, m', h, hn => by
    rw [sumU] at h
    split at h
    · exact sumU_keys l _ _ h (mput_keys m hn).1
    · cases h
theorem sumU_snoc : ∀ (l : List Amt) (a : Amt) (m : List (ByteArray × Int)), sumU (l ++ [a]) m = (sumU l m).bind fun m' => sumU [a] m'
  | [], a, m => by simp [sumU]
  | b :: l, a, m => by
    rw [List.cons_append, sumU, sumU]
    split
    · exact sumU_snoc l a _
    · rfl
theorem sumU_stop {l : List Amt} {m : List (ByteArray × Int)} : ∀ (r : List Amt), sumU l m = none → sumU (l ++ r) m = none := by
  intro r
  induction l generalizing m with
  | nil => intro h; cases h
  | cons a l ih =>
    intro h
    rw [sumU] at h
    rw [List.cons_append, sumU]
    split at h
    · rw [if_pos ‹_›]; exact ih h
    · rw [if_neg ‹_›]

/-- what a map holds -/
def Sane (m : List (ByteArray × Int)) : Prop := ∀ p ∈ m, 0 ≤ p.2 ∧ p.2 ≤ maxI
theorem Sane.get {m : List (ByteArray × Int)} (h : Sane m) (k : ByteArray) : 0 ≤ mget k m ∧ mget k m ≤ maxI := by
  induction m with
  | nil => simp [mget, maxI]
  | cons p l ih =>
    rw [mget]
    split
    · exact h p List.mem_cons_self
    · exact ih fun q hq => h q (List.mem_cons_of_mem _ hq)
theorem Sane.put {m : List (ByteArray × Int)} (h : Sane m) {k : ByteArray} {v : Int} (hv : 0 ≤ v ∧ v ≤ maxI) : Sane (mput k v m) := by
  induction m with
  | nil => intro p hp; simp [mput] at hp; subst hp; exact hv
  | cons p l ih =>
    intro q hq
    rw [mput] at hq
    split at hq
    · rcases List.mem_cons.1 hq with rfl | hq
      · exact hv
      · exact h q (List.mem_cons_of_mem _ hq)
    · rcases List.mem_cons.1 hq with rfl | hq
      · exact h _ List.mem_cons_self
      · exact ih (fun q hq => h q (List.mem_cons_of_mem _ hq)) q hq
theorem addF_sane {a b : Int} (h : (addF a b).2 = 0) : 0 ≤ (addF a b).1 ∧ (addF a b).1 ≤ maxI := by
  unfold addF at *
  split at h
  · cases h
  · split at h
    · cases h
    · rename_i h1 h2
      rw [if_neg h1, if_neg h2]
      simp only
      omega
theorem sumU_sane : ∀ (l : List Amt) (m m' : List (ByteArray × Int)), sumU l m = some m' → Sane m → Sane m'
  | [], m, m', h, hn => by cases h; exact hn
  | a :: l, m, m', h, hn => by
    rw [sumU] at h
    split at h
    · rename_i h0
      exact sumU_sane l _ _ h (hn.put (addF_sane h0))
    · cases h

theorem sortU_uniq {m : List (ByteArray × Int)} {l : List Amt} (hn : (m.map (·.1)).Nodup) (hp : l.Perm (m.map fun p => ⟨p.1, p.2⟩)) (hs : l.Pairwise (fun a b => ¬ amtCmp b a < 0)) : l = sortU m := by
  have tr : ∀ a b c : Amt, leA a b = true → leA b c = true → leA a c = true := by
    intro a b c h1 h2
    simp only [leA, Bool.not_eq_true', decide_eq_false_iff_not] at *
    exact (cmpL_tri c.name.data.toList b.name.data.toList a.name.data.toList).2 h2 h1
  have tot : ∀ a b : Amt, (leA a b || leA b a) = true := by
    intro a b
    have h := swo_amt.irrefl a
    have h2 := swo_amt.trans a b a
    simp only [Bool.or_eq_true, leA, Bool.not_eq_true', decide_eq_false_iff_not]
    by_cases h1 : amtCmp b a < 0
    · right
      intro h3
      have h4 := h2 (decide_eq_true h3) (decide_eq_true h1)
      rw [h] at h4; cases h4
    · exact .inl h1
  have hms : (sortU m).Perm (m.map fun p => ⟨p.1, p.2⟩) := insSort_perm _
  have hpw : (sortU m).Pairwise (fun a b => leA a b = true) := insSort_pw tr tot _
  have hl : l.Pairwise (fun a b => leA a b = true) := hs.imp fun h => by simpa [leA] using h
  have hnd : ((m.map fun p => (⟨p.1, p.2⟩ : Amt)).map (·.name)).Nodup := by simpa [List.map_map, Function.comp_def] using hn
  refine List.Perm.eq_of_pairwise (le := fun a b => leA a b = true) ?_ hl hpw (hp.trans hms.symm)
  intro a b ha hb h1 h2
  simp only [leA, Bool.not_eq_true', decide_eq_false_iff_not] at h1 h2
  have hname : a.name = b.name := by
    have : Lib.compareBytes a.name.data.toList b.name.data.toList = 0 := by
      have e1 : ¬ Lib.compareBytes a.name.data.toList b.name.data.toList < 0 := h2
      have e2 : ¬ Lib.compareBytes b.name.data.toList a.name.data.toList < 0 := h1
      have anti : ∀ x y : List UInt8, ¬ Lib.compareBytes x y < 0 → ¬ Lib.compareBytes y x < 0 → Lib.compareBytes x y = 0 := by
        intro x
        induction x with
        | nil => intro y; cases y <;> simp [Lib.compareBytes]
        | cons c x ih =>
          intro y
          cases y with
          | nil => simp [Lib.compareBytes]
          | cons d y =>
            simp only [Lib.compareBytes, UInt8.lt_iff_toNat_lt]
            intro h1 h2
            repeat' split at h1
            all_goals repeat' split at h2
            all_goals repeat' split
            all_goals first | omega | (exact ih y h1 h2) | skip
      exact anti _ _ e1 e2
    have := cmpL_eq0 _ _ this
    exact ByteArray.ext (Array.toList_inj.1 this)
  have ha' := hp.mem_iff.1 ha
  have hb' := hms.mem_iff.1 hb
  obtain ⟨i, hi, rfl⟩ := List.getElem_of_mem ha'
  obtain ⟨j, hj, rfl⟩ := List.getElem_of_mem hb'
  have hi' : i < ((m.map fun p => (⟨p.1, p.2⟩ : Amt)).map (·.name)).length := by simpa using hi
  have hj' : j < ((m.map fun p => (⟨p.1, p.2⟩ : Amt)).map (·.name)).length := by simpa using hj
  have : ((m.map fun p => (⟨p.1, p.2⟩ : Amt)).map (·.name))[i] = ((m.map fun p => (⟨p.1, p.2⟩ : Amt)).map (·.name))[j] := by simpa using hname
  have hij := (List.getElem_inj hnd).1 this
  subst hij
  rfl
end Go.Proofs.YtnjblinbdimkjaaGreatDoor

namespace Go.Proofs.YtnjblinbdimkjaaGreatDoor
open Go Go.Am
set_option linter.unusedSimpArgs false

/-- of a size that may be counted -/
def SzO (o : Obj) : Prop := (allU o).length ≤ BIG ∧ ∀ a ∈ allU o, a.name.size ≤ 2147483648
theorem SzO.req {o : Obj} (_ : SzO o) {p : Part} {a : Amt} (hp : p ∈ o.parts) (ha : a ∈ p.req) : (⟨reqP ++ a.name, a.value⟩ : Amt) ∈ allU o :=
  List.mem_flatMap.2 ⟨p, hp, List.mem_append_left _ (List.mem_map_of_mem ha)⟩
theorem SzO.lim {o : Obj} (_ : SzO o) {p : Part} {a : Amt} (hp : p ∈ o.parts) (ha : a ∈ p.lim) : (⟨limP ++ a.name, a.value⟩ : Amt) ∈ allU o :=
  List.mem_flatMap.2 ⟨p, hp, List.mem_append_right _ (List.mem_map_of_mem ha)⟩
theorem size_add (a b : ByteArray) : (a ++ b).size = a.size + b.size := ByteArray.size_append

def S24r : Am.Spec := fun rs φ K => ∃ o cs, rs = [.agg cs] ∧ IsObj o cs ∧ SzO o ∧ ((usesF o).2 ≠ 0 → ∀ φ', Drops φ' φ → K (.tup [.p (.sl [] 0), rI (usesF o).2]) φ') ∧
  ((usesF o).2 = 0 → ∀ v ψ, Drops ψ φ → K (.tup [.p (.val v), rI 0]) ((Res.own v 76 2 ((usesF o).1.map amtE)).sep ψ))

def upU (o : Obj) (k : Nat) : List Amt := (o.parts.take k).flatMap partU
theorem upU_succ {o : Obj} {k : Nat} {p : Part} (h : o.parts[k]? = some p) : upU o (k + 1) = upU o k ++ partU p := by
  unfold upU; rw [List.take_add_one, h]; simp
theorem upU_le (o : Obj) (k : Nat) : (upU o k).length ≤ (allU o).length := by
  have : allU o = upU o k ++ (o.parts.drop k).flatMap partU := by
    unfold allU upU; rw [← List.flatMap_append, List.take_append_drop]
  rw [this]; simp

theorem allU_in {o : Obj} {cs : List PV} (h : IsObj o cs) : ∀ a ∈ allU o, inI a.value := by
  obtain ⟨x, y, rfl, -, ⟨es, rfl, -, hp⟩, -⟩ := h
  intro a ha
  obtain ⟨p, hpm, hap⟩ := List.mem_flatMap.1 ha
  obtain ⟨k, hk, rfl⟩ := List.getElem_of_mem hpm
  obtain ⟨p', e, hp', he, hpart⟩ := SlR.at hp hk
  rw [List.getElem?_eq_getElem hk] at hp'
  cases hp'
  obtain ⟨x, y, rfl, ⟨rs, rfl, -, hr⟩, ⟨ms, rfl, -, hm⟩⟩ := hpart
  simp only [partU, preA, List.mem_append, List.mem_map] at hap
  rcases hap with ⟨b, hb, rfl⟩ | ⟨b, hb, rfl⟩
  · obtain ⟨j, hj, rfl⟩ := List.getElem_of_mem hb
    obtain ⟨b, _, hb', -, -, hv⟩ := SlR.at hr hj
    rw [List.getElem?_eq_getElem hj] at hb'
    cases hb'; exact hv
  · obtain ⟨j, hj, rfl⟩ := List.getElem_of_mem hb
    obtain ⟨b, _, hb', -, -, hv⟩ := SlR.at hm hj
    rw [List.getElem?_eq_getElem hj] at hb'
    cases hb'; exact hv
theorem asks64 {φ : Res} : ∀ (l : List Amt), (∀ a ∈ l, inI a.value) → All2 (Asks 2 64 [] φ) (l.map amtE) (l.map fun a => decide (a.value < 0))
  | [], _ => .nil
  | a :: l, h => .cons ⟨rfl, brings_of d64 ⟨a, amtE a, rfl, ⟨rfl, h a List.mem_cons_self⟩, rfl, rfl⟩⟩ (asks64 l fun b hb => h b (List.mem_cons_of_mem _ hb))
theorem key9 : KeyOK Tryz.prog 9 Value.string strK := keys_str Tryz.underlying9

theorem usesF_none {o : Obj} (h : ((allU o).any fun a => decide (a.value < 0)) = false) (h2 : sumU (allU o) [(countB, 1000)] = none) : usesF o = ([], 7) := by
  rw [usesF, if_neg (by rw [h]; simp), h2]
theorem usesF_some {o : Obj} {m : List (ByteArray × Int)} (h : ((allU o).any fun a => decide (a.value < 0)) = false) (h2 : sumU (allU o) [(countB, 1000)] = some m) : usesF o = (sortU m, 0) := by
  rw [usesF, if_neg (by rw [h]; simp), h2]

theorem info76 : Tryz.prog.info? 76 = some Tryz.t76 := by kernel_rfl
theorem mput_len {k : ByteArray} {v : Int} : ∀ m : List (ByteArray × Int), 0 < (mput k v m).length ∧ (mput k v m).length ≤ m.length + 1
  | [] => by simp [mput]
  | p :: l => by
    have := (mput_len (k := k) (v := v) l).2
    rw [mput]
    split
    · simp
    · simpa using this
theorem sumU_len : ∀ (l : List Amt) (m m' : List (ByteArray × Int)), sumU l m = some m' → 0 < m.length → 0 < m'.length ∧ m'.length ≤ m.length + l.length
  | [], m, m', h, hn => by cases h; exact ⟨hn, by simp⟩
  | a :: l, m, m', h, hn => by
    rw [sumU] at h
    split at h
    · have h1 := mput_len (k := a.name) (v := (addF (mget a.name m) a.value).1) m
      have h2 := sumU_len l _ _ h h1.1
      exact ⟨h2.1, by simp only [List.length_cons]; omega⟩
    · cases h
def toP (a : Amt) : ByteArray × Int := (a.name, a.value)
def ofP (p : ByteArray × Int) : Amt := ⟨p.1, p.2⟩

theorem d24r : Snd Tryz.prog gls 24 S24r := by
  refine k24 (by rintro rs φ K ⟨o, cs, rfl, -⟩; simp) ?_
  rintro rs φ K ⟨o, cs, rfl, hO, hSz, hKe, hKo⟩
  have hO' := hO
  obtain ⟨x, y, rfl, ⟨ls, rfl, hlb, hl⟩, ⟨es, rfl, hpb, hp⟩, hpr, hd, hv⟩ := hO'
  have hpb' : o.parts.length ≤ 1073741824 := hpb
  have hB' : (allU o).length ≤ 1073741824 := hSz.1
  simp -implicitDefEqProofs only [go_sem, Nat.reduceBEq, Nat.reduceAdd, c24, c24r0, c24r1, c24r2, List.drop_succ_cons, List.drop_zero, Nat.reduceLeDiff, true_and, List.length_cons, List.length_nil, Nat.ble, List.take_succ_cons, List.take_zero, Nat.zero_add, Nat.le_refl]
  intro hL
  refine range_loop rfl (by decide) o.parts.length hL (fun k => [(20, .p (.sl es o.parts.length)), (4, .row 41 (upU o k).length)]) (fun _ => []) (fun k => [(41, 76, 2, (upU o k).map amtE)]) (fun _ => φ) (fun _ => True) ?_ trivial ?_ ?_
  · refine (Gho.mkRow (s := 4) (r := 41) (T := 76) (k := 2) ?_ rfl).trans (Gho.sub ?_ ?_ ?_ ?_ rfl)
    · simp only [go_sem, Nat.reduceBEq]
    · simp [subFr, go_sem, leAV, St.mkRow, upU, headSt]
    · simp [subB, headSt]
    · simp [subB, go_sem, St.mkRow, upU, headSt]
    · simp [refsOK, go_sem, headSt]
  · rintro k Q' hk - hn - hq
    obtain ⟨p, e, hpk, he, x, y, rfl, ⟨rs, rfl, hrb, hr⟩, ⟨ms, rfl, hmb, hm⟩⟩ := SlR.at hp hk
    have hu1 := upU_succ hpk
    have hu2 := upU_le o (k + 1)
    have hrb' : p.req.length ≤ 1073741824 := hrb
    have hmb' : p.lim.length ≤ 1073741824 := hmb
    simp -implicitDefEqProofs only [go_sem, Nat.reduceBEq, Nat.reduceAdd, c24r4, c24r5, Int.toNat_natCast, he, Option.some.injEq, exists_eq_left', List.drop_succ_cons, List.drop_zero, Nat.reduceLeDiff, true_and, List.length_cons, List.length_nil, Nat.ble, List.take_succ_cons, List.take_zero, Nat.zero_add, Nat.le_refl]
    refine ⟨by omega, by omega, fun hL1 => ?_⟩
    obtain ⟨U1, hU1⟩ : ∃ U1 : Nat → List Amt, U1 = fun j => upU o k ++ preA reqP (p.req.take j) := ⟨_, rfl⟩
    have hU10 : U1 0 = upU o k := by simp [hU1, preA]
    have hU1l : ∀ j, (U1 j).length = (upU o k).length + min j p.req.length := by intro j; simp [hU1, preA]
    have hpl : (partU p).length = p.req.length + p.lim.length := by simp [partU, preA]
    have hul : (upU o (k + 1)).length = (upU o k).length + (p.req.length + p.lim.length) := by rw [hu1, List.length_append, hpl]
    refine range_loop rfl (by decide) p.req.length hL1 (fun j => [(27, .p (.sl rs p.req.length)), (6, .ref 6 0), (22, vI k), (21, vI o.parts.length), (20, .p (.sl es o.parts.length)), (4, .row 41 (U1 j).length)]) (fun _ => [(6, [.val (.string p.name), .sl rs p.req.length, .sl ms p.lim.length])]) (fun j => [(41, 76, 2, (U1 j).map amtE)]) (fun _ => φ) (fun _ => True) (Gho.sub ?_ ?_ ?_ ?_ rfl) trivial ?_ ?_
    · simp [subFr, go_sem, leAV, headSt, hU10]
    · simp [subB, go_sem, headSt]
    · simp [subB, go_sem, headSt, hU10]
    · simp [refsOK, go_sem, headSt]
    · rintro j Q2 hj - hn2 - hq2
      obtain ⟨a, e1, ha, he1, rfl, hav⟩ := SlR.at hr hj
      have hUs : U1 (j + 1) = U1 j ++ [⟨reqP ++ a.name, a.value⟩] := by simp only [hU1]; rw [List.take_add_one, ha]; simp [preA]
      have hUj := hU1l j
      have hUm : ((U1 j).map amtE).length = (U1 j).length := List.length_map ..
      simp -implicitDefEqProofs only [go_sem, Nat.reduceBEq, Nat.reduceAdd, c24r7, c24r8, Int.toNat_natCast, he1, Option.some.injEq, exists_eq_left', List.drop_succ_cons, List.drop_zero, Nat.reduceLeDiff, true_and, List.length_cons, List.length_nil, Nat.ble, List.take_succ_cons, List.take_zero, Nat.zero_add, Nat.le_refl, allK, Nat.reduceMul, hUm]
      have hn63 : (reqP ++ a.name).size ≤ 2147483648 := hSz.2 _ (hSz.req (List.mem_of_getElem? hpk) (List.mem_of_getElem? ha))
      have hmax : IntKind.i64.max = 9223372036854775807 := rfl
      rw [size_add, show reqP.size = #[(114 : UInt8), 101, 113, 117, 101, 115, 116, 115, 46].size from rfl] at hn63
      refine ⟨by omega, by omega, by rw [hmax]; omega, by omega, by omega, by intro e he; simp at he; subst he; rfl, by omega, by simp only [LIM]; omega, hn2 _ trivial ⟨by simp [go_sem], Gho.sub ?_ ?_ ?_ ?_ rfl⟩⟩
      · simp [subFr, go_sem, leAV, headSt, hUs]
      · simp [subB, go_sem, headSt]
      · simp [subB, go_sem, headSt, hUs, amtE, reqP]
      · simp [refsOK, go_sem, headSt]
    · intro _
      have hU1e : U1 p.req.length = upU o k ++ preA reqP p.req := by simp [hU1]
      simp -implicitDefEqProofs only [go_sem, Nat.reduceBEq, Nat.reduceAdd, c24r11, List.drop_succ_cons, List.drop_zero, Nat.reduceLeDiff, true_and, List.length_cons, List.length_nil, Nat.ble, List.take_succ_cons, List.take_zero, Nat.zero_add, Nat.le_refl, Nat.reduceMul]
      intro hL2
      obtain ⟨U2, hU2⟩ : ∃ U2 : Nat → List Amt, U2 = fun j => upU o k ++ preA reqP p.req ++ preA limP (p.lim.take j) := ⟨_, rfl⟩
      have hU20 : U2 0 = U1 p.req.length := by simp [hU2, hU1e, preA]
      have hU2l : ∀ j, (U2 j).length = (upU o k).length + p.req.length + min j p.lim.length := by intro j; simp [hU2, preA]; omega
      have hU2e : U2 p.lim.length = upU o (k + 1) := by simp [hU2, hu1, partU]
      refine range_loop rfl (by decide) p.lim.length hL2 (fun j => [(44, .p (.sl ms p.lim.length)), (22, vI k), (21, vI o.parts.length), (20, .p (.sl es o.parts.length)), (4, .row 41 (U2 j).length)]) (fun _ => []) (fun j => [(41, 76, 2, (U2 j).map amtE)]) (fun _ => φ) (fun _ => True) (Gho.sub ?_ ?_ ?_ ?_ rfl) trivial ?_ ?_
      · simp [subFr, go_sem, leAV, headSt, hU20]
      · simp [subB, go_sem, headSt]
      · simp [subB, go_sem, headSt, hU20]
      · simp [refsOK, go_sem, headSt]
      · rintro j Q3 hj - hn3 - hq3
        obtain ⟨a, e1, ha, he1, rfl, hav⟩ := SlR.at hm hj
        have hUs : U2 (j + 1) = U2 j ++ [⟨limP ++ a.name, a.value⟩] := by simp only [hU2]; rw [List.take_add_one, ha]; simp [preA]
        have hUj := hU2l j
        have hUm : ((U2 j).map amtE).length = (U2 j).length := List.length_map ..
        simp -implicitDefEqProofs only [go_sem, Nat.reduceBEq, Nat.reduceAdd, c24r13, c24r14, Int.toNat_natCast, he1, Option.some.injEq, exists_eq_left', List.drop_succ_cons, List.drop_zero, Nat.reduceLeDiff, true_and, List.length_cons, List.length_nil, Nat.ble, List.take_succ_cons, List.take_zero, Nat.zero_add, Nat.le_refl, allK, Nat.reduceMul, hUm]
        have hn63 : (limP ++ a.name).size ≤ 2147483648 := hSz.2 _ (hSz.lim (List.mem_of_getElem? hpk) (List.mem_of_getElem? ha))
        have hmax : IntKind.i64.max = 9223372036854775807 := rfl
        rw [size_add, show limP.size = #[(108 : UInt8), 105, 109, 105, 116, 115, 46].size from rfl] at hn63
        refine ⟨by omega, by omega, by rw [hmax]; omega, by omega, by omega, by intro e he; simp at he; subst he; rfl, by omega, by simp only [LIM]; omega, hn3 _ trivial ⟨by simp [go_sem], Gho.sub ?_ ?_ ?_ ?_ rfl⟩⟩
        · simp [subFr, go_sem, leAV, headSt, hUs]
        · simp [subB, go_sem, headSt]
        · simp [subB, go_sem, headSt, hUs, amtE, limP]
        · simp [refsOK, go_sem, headSt]
      · intro _
        simp -implicitDefEqProofs only [go_sem, Nat.reduceBEq]
        refine hn _ trivial ⟨by simp [go_sem], Gho.sub ?_ ?_ ?_ ?_ rfl⟩
        · simp [subFr, go_sem, leAV, headSt, hU2e]
        · simp [subB, go_sem, headSt]
        · simp [subB, go_sem, headSt, hU2e]
        · simp [refsOK, go_sem, headSt]
  · intro _
    have hfull : upU o o.parts.length = allU o := by simp [upU, allU]
    rw [hfull]
    have hUm : ((allU o).map amtE).length = (allU o).length := List.length_map ..
    simp -implicitDefEqProofs only [go_sem, Nat.reduceBEq, Nat.reduceAdd, c24r19, Nat.reduceMul, hUm]
    have hin := allU_in hO
    refine callS_of (d63.up) ⟨(allU o).map amtE, (allU o).length, 64, [], (allU o).map fun a => decide (a.value < 0), rfl, by rw [hUm]; exact Nat.le_refl _, by rw [← hUm, List.take_length]; exact asks64 _ hin, ?_⟩
    have hany : ((allU o).map fun a => decide (a.value < 0)).any id = (allU o).any fun a => decide (a.value < 0) := by rw [List.any_map]; rfl
    rw [hany]
    simp -implicitDefEqProofs only [go_sem, Nat.reduceBEq, Nat.reduceAdd]
    refine ⟨fun h => ?_, fun h => ?_⟩
    · have e1 : usesF o = ([], 1) := by rw [usesF, if_pos h]
      rw [e1] at hKe
      simp -implicitDefEqProofs only [go_sem, Nat.reduceBEq, Nat.reduceAdd, c24r20]
      exact hKe (by simp) φ (Drops.refl φ)
    · have hge : ∀ a ∈ allU o, 0 ≤ a.value ∧ a.value ≤ maxI := fun a ha => by
        have h1 := List.any_eq_false.1 h a ha
        have h2 := hin a ha
        simp only [decide_eq_true_eq] at h1
        exact ⟨by omega, h2.2⟩
      simp -implicitDefEqProofs only [go_sem, Nat.reduceBEq, Nat.reduceAdd, c24r21]
      refine primS_of (make_map (enc := Value.string)) ⟨rfl, fun b => ?_⟩
      simp -implicitDefEqProofs only [go_sem, Nat.reduceBEq, Nat.reduceAdd]
      refine primS_of (ins_map key9 Tryz.underlying114) ⟨b, countB, 1000, [], _, rfl, phmap.l, (phset phmap).l rfl, ?_⟩
      simp -implicitDefEqProofs only [go_sem, Nat.reduceBEq, Nat.reduceAdd]
      obtain ⟨mAt, hmAt⟩ : ∃ mAt : Nat → List (ByteArray × Int), mAt = fun k => (sumU ((allU o).take k) [(countB, 1000)]).getD [] := ⟨_, rfl⟩
      have hm0 : mAt 0 = mput countB 1000 [] := by simp [hmAt, sumU, mput]
      simp -implicitDefEqProofs only [go_sem, Nat.reduceBEq, Nat.reduceAdd, c24r22]
      intro hLu
      refine range_loop rfl (by decide) (allU o).length hLu (fun _ => [(65, .p (.sl ((allU o).map amtE) (allU o).length)), (11, .p (.val (.map (some b))))]) (fun _ => []) (fun _ => []) (fun k => (Res.map Value.string b (mAt k)).sep φ) (fun k => sumU ((allU o).take k) [(countB, 1000)] = some (mAt k)) (Gho.sub ?_ trivial trivial ?_ (by rw [hm0]; rfl)) (by simp [hm0, sumU, mput]) ?_ ?_
      · simp [subFr, go_sem, leAV, headSt]
      · simp [refsOK, headSt]
      · rintro k Q' hk hI hn - hq
        obtain ⟨a, ha⟩ : ∃ a, (allU o)[k]? = some a := ⟨(allU o)[k], by simp [hk]⟩
        have he : ((allU o).map amtE)[k]? = some [.val (.string a.name), .val (.int .i64 a.value)] := by rw [List.getElem?_map, ha]; rfl
        have hsane : Sane (mAt k) := sumU_sane _ _ _ hI (by intro p hp; simp at hp; subst hp; simp [maxI])
        have hg := hsane.get a.name
        have hav := hge a (List.mem_of_getElem? ha)
        have hs1 : sumU ((allU o).take (k + 1)) [(countB, 1000)] = sumU [a] (mAt k) := by
          rw [List.take_add_one, ha, Option.toList_some, sumU_snoc, hI]; rfl
        simp -implicitDefEqProofs only [go_sem, Nat.reduceBEq, Nat.reduceAdd, c24r24, c24r25, Int.toNat_natCast, he, Option.some.injEq, exists_eq_left', List.drop_succ_cons, List.drop_zero, Nat.reduceLeDiff, true_and, List.length_cons, List.length_nil, Nat.ble, List.take_succ_cons, List.take_zero, Nat.zero_add, Nat.le_refl]
        refine ⟨by omega, by omega, primS_of (look_map key9 Tryz.underlying114 (by kernel_rfl)) ⟨b, a.name, mAt k, rfl, phmap.l, ?_⟩⟩
        simp -implicitDefEqProofs only [go_sem, Nat.reduceBEq, Nat.reduceAdd, List.drop_succ_cons, List.drop_zero, Nat.reduceLeDiff, true_and, List.length_cons, List.length_nil, Nat.ble, List.take_succ_cons, List.take_zero, Nat.zero_add, Nat.le_refl]
        refine callS_of (d65.up) ⟨_, _, rfl, hg.2, hav.2, ?_⟩
        simp -implicitDefEqProofs only [go_sem, Nat.reduceBEq, Nat.reduceAdd, c24r26, List.drop_succ_cons, List.drop_zero, Nat.reduceLeDiff, true_and, List.length_cons, List.length_nil, Nat.ble, List.take_succ_cons, List.take_zero, Nat.zero_add, Nat.le_refl, decide_eq_true_eq, decide_eq_false_iff_not, Bool.not_eq_true', Bool.not_eq_false']
        refine ⟨fun h7 => ?_, fun h7 => ?_⟩
        · refine hq _ _ (by simp) (by simp) ?_
          have hnone : sumU ((allU o).take (k + 1)) [(countB, 1000)] = none := by rw [hs1, sumU, if_neg h7]
          have hall : sumU (allU o) [(countB, 1000)] = none := by
            rw [← List.take_append_drop (k + 1) (allU o)]; exact sumU_stop _ hnone
          have e1 : usesF o = ([], 7) := usesF_none h hall
          rw [e1] at hKe
          simp -implicitDefEqProofs only [go_sem, Nat.reduceBEq, Nat.reduceAdd, c24r27]
          exact hKe (by simp) _ (Drops.sep _ φ)
        · have hsome : sumU ((allU o).take (k + 1)) [(countB, 1000)] = some (mput a.name (addF (mget a.name (mAt k)) a.value).1 (mAt k)) := by rw [hs1, sumU, if_pos h7]; rfl
          have hmk : mAt (k + 1) = mput a.name (addF (mget a.name (mAt k)) a.value).1 (mAt k) := by
            have := congrFun hmAt (k + 1)
            simp only [hsome] at this
            exact this
          simp -implicitDefEqProofs only [go_sem, Nat.reduceBEq, Nat.reduceAdd, c24r28, List.drop_succ_cons, List.drop_zero, Nat.reduceLeDiff, true_and, List.length_cons, List.length_nil, Nat.ble, List.take_succ_cons, List.take_zero, Nat.zero_add, Nat.le_refl]
          refine primS_of (put_map key9 Tryz.underlying114) ⟨b, a.name, _, mAt k, _, rfl, phmap.l, (phset phmap).l rfl, ?_⟩
          simp -implicitDefEqProofs only [go_sem, Nat.reduceBEq, Nat.reduceAdd, List.drop_succ_cons, List.drop_zero, Nat.reduceLeDiff, true_and, List.length_cons, List.length_nil, Nat.ble, List.take_succ_cons, List.take_zero, Nat.zero_add, Nat.le_refl]
          refine hn _ (by rw [hsome, hmk]) ⟨by simp [go_sem], ?_⟩
          rw [hmk]
          refine Gho.sub ?_ trivial trivial ?_ rfl
          · simp [subFr, go_sem, leAV, headSt]
          · simp [refsOK, headSt]
      · intro hI
        rw [List.take_length] at hI
        have e1 : usesF o = (sortU (mAt (allU o).length), 0) := usesF_some h hI
        rw [e1] at hKo
        replace hKo := hKo rfl
        generalize mAt (allU o).length = m at hI hKo
        simp -implicitDefEqProofs only [go_sem, Nat.reduceBEq, Nat.reduceAdd, c24r31, c24r32]
        have hml := sumU_len _ _ _ hI (by simp)
        have hmn := sumU_keys _ _ _ hI (by simp)
        simp only [List.length_cons, List.length_nil] at hml
        refine primS_of (range_map Tryz.underlying114).dr ⟨_, Drops.refl _, b, m, φ, rfl, rfl, fun r => ⟨_, Drops.nilOwn (T := 76) (k := 2), ?_⟩⟩
        simp -implicitDefEqProofs only [go_sem, Nat.reduceBEq, Nat.reduceAdd]
        refine inv_loop (X := List Amt × List (ByteArray × Int) × Value × Option (ByteArray × Int)) (fun x => (x.1.map toP ++ x.2.1).Perm m ∧ (0 < x.1.length → ∃ b c, x.2.2.1 = hdr b x.1.length c))
          (fun x => ⟨[(89, .p (.val (.pointer (some ⟨r, 0, none⟩)))), (16, .p (.val x.2.2.1))], [], [], (Res.own x.2.2.1 76 2 (x.1.map amtE)).sep ((Res.walk r b m x.2.1 x.2.2.2).sep φ)⟩)
          (fun x => x.2.1.length) ([], m, .slice none 0 0, none) ⟨by simp, fun h => absurd h (by simp)⟩ (Gho.sub ?_ trivial trivial ?_ rfl) ?_
        · simp [subFr, go_sem, leAV]
        · simp [refsOK]
        · rintro ⟨acc, left, v, cur⟩ Q' ⟨hI2, hvh⟩ hn hq
          replace hvh : 0 < acc.length → ∃ b c, v = hdr b acc.length c := hvh
          replace hI2 : (acc.map toP ++ left).Perm m := hI2
          have hpl := hI2.length_eq
          simp only [List.length_append, List.length_map] at hpl
          simp -implicitDefEqProofs only [go_sem, Nat.reduceBEq, Nat.reduceAdd, c24l36, c24r33]
          refine primS_of next_map.dr ⟨_, Drops.swap, r, b, m, left, cur, (Res.own v 76 2 (acc.map amtE)).sep φ, rfl, rfl, fun hnil => ⟨_, Drops.swap, ?_⟩, fun l1 p l2 hl => ⟨_, Drops.swap, ?_⟩⟩
          · subst hnil
            simp -implicitDefEqProofs only [go_sem, Nat.reduceBEq, Nat.reduceAdd, List.drop_succ_cons, List.drop_zero, Nat.reduceLeDiff, true_and, List.length_cons, List.length_nil, Nat.ble, List.take_succ_cons, List.take_zero, Nat.zero_add, Nat.le_refl]
            refine hq _ _ (by simp) ?_
            simp -implicitDefEqProofs only [go_sem, Nat.reduceBEq, Nat.reduceAdd, c24r37, List.drop_succ_cons, List.drop_zero, Nat.reduceLeDiff, true_and, List.length_cons, List.length_nil, Nat.ble, List.take_succ_cons, List.take_zero, Nat.zero_add, Nat.le_refl]
            obtain ⟨gb, gc, rfl⟩ := hvh (by simp only [List.length_nil] at hpl; omega)
            refine callS_of (d66.up) ⟨_, acc, (Res.walk r b m [] cur).sep φ, rfl, rfl, by simp only [List.length_nil] at hpl; omega, fun as' hp1 hp2 => ?_⟩
            simp -implicitDefEqProofs only [go_sem, Nat.reduceBEq, Nat.reduceAdd, c24r38, List.drop_succ_cons, List.drop_zero, Nat.reduceLeDiff, true_and, List.length_cons, List.length_nil, Nat.ble, List.take_succ_cons, List.take_zero, Nat.zero_add, Nat.le_refl]
            have hfin : as' = sortU m := by
              refine sortU_uniq hmn ?_ hp2
              refine hp1.trans ?_
              rw [List.append_nil] at hI2
              have h3 := hI2.map ofP
              rw [List.map_map] at h3
              have h4 : (ofP ∘ toP) = id := rfl
              rw [h4, List.map_id] at h3
              exact h3
            subst hfin
            exact hKo _ _ (Drops.sep _ φ)
          · subst hl
            simp only [List.length_append, List.length_cons] at hpl
            have hal : (acc.map amtE).length = acc.length := List.length_map ..
            simp -implicitDefEqProofs only [go_sem, Nat.reduceBEq, Nat.reduceAdd, c24r34, c24r35, List.drop_succ_cons, List.drop_zero, Nat.reduceLeDiff, true_and, List.length_cons, List.length_nil, Nat.ble, List.take_succ_cons, List.take_zero, Nat.zero_add, Nat.le_refl]
            refine primS_of entry_map.dr ⟨_, Drops.swap, r, b, m, l1 ++ l2, p, (Res.own v 76 2 (acc.map amtE)).sep φ, rfl, rfl, ⟨_, Drops.swap, ?_⟩⟩
            simp -implicitDefEqProofs only [go_sem, Nat.reduceBEq, Nat.reduceAdd, List.drop_succ_cons, List.drop_zero, Nat.reduceLeDiff, true_and, List.length_cons, List.length_nil, Nat.ble, List.take_succ_cons, List.take_zero, Nat.zero_add, Nat.le_refl, allK, Nat.reduceMul]
            refine ⟨by omega, by omega, ?_⟩
            refine primS_of (app_own Tryz.underlying47 info76 rfl rfl (by decide)) ⟨v, acc.map amtE, _, 1, _, rfl, .inl rfl, ?_, by simp, by simp only [Tryz.t76, hal]; omega, by simp only [LIM, hal]; omega, fun v' g1 _ => ?_⟩
            · intro e he
              simp at he; subst he; rfl
            obtain ⟨gb, gc, rfl⟩ := g1 (by omega)
            simp -implicitDefEqProofs only [go_sem, Nat.reduceBEq, Nat.reduceAdd]
            refine hn _ (acc ++ [ofP p], l1 ++ l2, hdr gb ((acc.map amtE).length + 1) gc, some p) ⟨?_, fun _ => ⟨gb, gc, by simp⟩⟩ (by simp) ?_
            · simp only [List.map_append, List.map_cons, List.map_nil]
              have e5 : toP (ofP p) = p := rfl
              rw [e5, List.append_assoc]
              refine List.Perm.trans (List.Perm.append_left _ ?_) hI2
              show (p :: (l1 ++ l2)).Perm (l1 ++ p :: l2)
              exact List.perm_middle.symm
            · refine Gho.sub ?_ trivial trivial ?_ ?_
              · simp [subFr, go_sem, leAV]
              · simp [refsOK]
              · simp [amtE, ofP]
                rfl

def amtSl (l : List Amt) : PV := .sl (l.map amtE) l.length
def S24 : Am.Spec := fun rs φ K => ∃ o cs, rs = [.agg cs] ∧ IsObj o cs ∧ SzO o ∧ K (.tup [.p (amtSl (usesF o).1), rI (usesF o).2]) φ
theorem usesF_bad {o : Obj} (h : (usesF o).2 ≠ 0) : (usesF o).1 = [] := by
  unfold usesF at h ⊢
  split
  · rfl
  · rename_i h0
    rw [if_neg h0] at h
    split at h
    · rfl
    · exact absurd rfl h
theorem d24 : Snd Tryz.prog gls 24 S24 := Snd.post d24r (by
  rintro rs φ K ⟨o, cs, rfl, hO, hSz, hK⟩
  refine ⟨o, cs, rfl, hO, hSz, fun h φ' hd => ?_, fun h v ψ hd => ?_⟩
  · refine ⟨φ, _, hd.melt fun F v hv => hv, ?_⟩
    rw [usesF_bad h] at hK
    exact hK
  · rw [h] at hK
    have hl : ((usesF o).1.map amtE).length = (usesF o).1.length := List.length_map ..
    refine ⟨φ, _, (melt_out (r := .tup [.p (.val v), rI 0]) (r' := .tup [.p (amtSl (usesF o).1), rI 0]) ?_).trans (hd.melt (X := fun F F' => F = F') fun F => rfl) ?_, hK⟩
    · refine .cons (.inr ⟨rfl, ?_⟩) (.cons (.inl rfl) .nil)
      unfold amtSl; rw [hl]
    · rintro F G H - - h1 rfl u hu
      exact h1 u hu)
end Go.Proofs.YtnjblinbdimkjaaGreatDoor

namespace Go.Proofs.YtnjblinbdimkjaaGreatDoor
open Go Go.Am
set_option linter.unusedSimpArgs false

/-! ### where a sum stands -/
structure Place where
  path : ByteArray
  scope : Scope
  res : ByteArray
  deriving DecidableEq
def plE (p : Place) : List PV := [.val (.string p.path), .val (.int .i64 p.scope.1), .val (.int .i64 p.scope.2), .val (.string p.res)]
def encPl (p : Place) : Value := .agg #[.string p.path, .int .i64 p.scope.1, .int .i64 p.scope.2, .string p.res]
theorem fields60 : Tryz.prog.fieldsOf 60 = #[{ name := "Kind", type := 3, offset := 0, embedded := false, tag := "", pkgPath := "", byteOffset := 0 }, { name := "Arg", type := 3, offset := 1, embedded := false, tag := "", pkgPath := "", byteOffset := 8 }] := by
  simp [Program.fieldsOf, Tryz.underlying60]
theorem fields192 : Tryz.prog.fieldsOf 192 = #[{ name := "path", type := 9, offset := 0, embedded := false, tag := "", pkgPath := "bursar/ledger", byteOffset := 0 },
          { name := "scope", type := 60, offset := 1, embedded := false, tag := "", pkgPath := "bursar/ledger", byteOffset := 16 },
          { name := "resource", type := 9, offset := 3, embedded := false, tag := "", pkgPath := "bursar/ledger", byteOffset := 32 }] := by
  simp [Program.fieldsOf, Tryz.underlying192]
theorem eq60 (a b c d : Int) (w : World) (n : Nat) : (Op.equalIn (n + 2) 60 (.agg #[.int .i64 a, .int .i64 b]) (.agg #[.int .i64 c, .int .i64 d])).run Tryz.prog w = .ok (decide ((a, b) = (c, d))) w := by
  rw [run_equalIn_struct w (n + 1) 60 _ _ (by rw [fields60]; exact Tryz.underlying60) (by kernel_rfl), fields60]
  have p1 : ∀ (xs : Array Value) (o : Nat) (v : Value), xs[o]? = some v → (part 3 xs o).run Tryz.prog w = .ok v w := fun xs o v h => by simp [part, Tryz.isAgg3, h]
  have a1 : ∀ a b, (part 3 #[.int .i64 a, .int .i64 b] 0).run Tryz.prog w = .ok (.int .i64 a) w := fun a b => p1 _ 0 _ rfl
  have a3 : ∀ a b, (part 3 #[.int .i64 a, .int .i64 b] 1).run Tryz.prog w = .ok (.int .i64 b) w := fun a b => p1 _ 1 _ rfl
  have a5 := fun x y => run_equalIn_int w n 3 .i64 .i64 x y Tryz.underlying3
  by_cases h1 : a = c
  · subst h1
    simp [Op.eqFields, a1, a3, a5]
    by_cases h2 : b = d <;> simp [h2]
  · have e1 : (a == c) = false := by simp [h1]
    simp [Op.eqFields, a1, a3, a5, e1, h1]
theorem eq192 (p q : Place) (w : World) : (Op.equal 192 (encPl p) (encPl q)).run Tryz.prog w = .ok (decide (p = q)) w := by
  obtain ⟨p1, ⟨p2, p3⟩, p4⟩ := p
  obtain ⟨q1, ⟨q2, q3⟩, q4⟩ := q
  unfold Op.equal encPl
  rw [show Op.maxDepth = 9997 + 3 from rfl, run_equalIn_struct w (9997 + 2) 192 _ _ (by rw [fields192]; exact Tryz.underlying192) (by kernel_rfl), fields192]
  have hp : ∀ (xs : Array Value) (o : Nat) (v : Value), xs[o]? = some v → (part 9 xs o).run Tryz.prog w = .ok v w := fun xs o v h => by simp [part, Tryz.isAgg9, h]
  have hs : ∀ (a b : Value) (c d : Int), (part 60 #[a, .int .i64 c, .int .i64 d, b] 1).run Tryz.prog w = .ok (.agg #[.int .i64 c, .int .i64 d]) w := fun a b c d => by
    simp [part, Tryz.isAgg60, Tryz.sizeOf60]
  have b1 : ∀ (a b : ByteArray) (c d : Int), (part 9 #[.string a, .int .i64 c, .int .i64 d, .string b] 0).run Tryz.prog w = .ok (.string a) w := fun a b c d => hp _ 0 _ rfl
  have b3 : ∀ (a b : ByteArray) (c d : Int), (part 9 #[.string a, .int .i64 c, .int .i64 d, .string b] 3).run Tryz.prog w = .ok (.string b) w := fun a b c d => hp _ 3 _ rfl
  have b5 := fun x y => run_equalIn_string w 9998 9 x y Tryz.underlying9
  have b6 := eq60 p2 p3 q2 q3 w 9997
  by_cases h1 : p1 = q1
  · subst h1
    by_cases h2 : (p2, p3) = (q2, q3)
    · have e2 : decide ((p2, p3) = (q2, q3)) = true := decide_eq_true h2
      rw [e2] at b6
      simp [Op.eqFields, b1, b3, b5, b6, hs, bytes_eq]
      simp only [Prod.mk.injEq] at h2
      by_cases h4 : p4 = q4 <;> simp [h2, h4]
    · have e2 : decide ((p2, p3) = (q2, q3)) = false := decide_eq_false h2
      rw [e2] at b6
      simp [Op.eqFields, b1, b3, b5, b6, hs, bytes_eq]
      simp only [Prod.mk.injEq] at h2
      exact fun e1 e2 => absurd ⟨e1, e2⟩ h2
  · have e1 : (p1.toList == q1.toList) = false := by rw [bytes_eq]; simp [h1]
    simp [Op.eqFields, b1, b3, b5, hs, h1, e1]

theorem chk3 (e : Bool) (n : Nat) (a : Int) (w : World) : (Instr.checkKey e (n + 1) 3 (.int .i64 a)).run Tryz.prog w = .ok () w := by simp [Instr.checkKey, run_underlying Tryz.underlying3]
theorem chk9 (e : Bool) (n : Nat) (a : ByteArray) (w : World) : (Instr.checkKey e (n + 1) 9 (.string a)).run Tryz.prog w = .ok () w := by simp [Instr.checkKey, run_underlying Tryz.underlying9]
theorem chk60 (e : Bool) (n : Nat) (a b : Int) (w : World) : (Instr.checkKey e (n + 2) 60 (.agg #[.int .i64 a, .int .i64 b])).run Tryz.prog w = .ok () w := by
  have p1 : ∀ (xs : Array Value) (o : Nat) (v : Value), xs[o]? = some v → (part 3 xs o).run Tryz.prog w = .ok v w := fun xs o v h => by simp [part, Tryz.isAgg3, h]
  have a1 : ∀ a b, (part 3 #[.int .i64 a, .int .i64 b] 0).run Tryz.prog w = .ok (.int .i64 a) w := fun a b => p1 _ 0 _ rfl
  have a3 : ∀ a b, (part 3 #[.int .i64 a, .int .i64 b] 1).run Tryz.prog w = .ok (.int .i64 b) w := fun a b => p1 _ 1 _ rfl
  simp [Instr.checkKey, run_underlying Tryz.underlying60, a1, a3, chk3]
theorem chk192 (w : World) (e : Bool) (p : Place) : (Instr.checkKey e 10000 192 (encPl p)).run Tryz.prog w = .ok () w := by
  obtain ⟨p1, ⟨p2, p3⟩, p4⟩ := p
  have hp : ∀ (xs : Array Value) (o : Nat) (v : Value), xs[o]? = some v → (part 9 xs o).run Tryz.prog w = .ok v w := fun xs o v h => by simp [part, Tryz.isAgg9, h]
  have hs : ∀ (a b : Value) (c d : Int), (part 60 #[a, .int .i64 c, .int .i64 d, b] 1).run Tryz.prog w = .ok (.agg #[.int .i64 c, .int .i64 d]) w := fun a b c d => by
    simp [part, Tryz.isAgg60, Tryz.sizeOf60]
  have b1 : ∀ (a b : ByteArray) (c d : Int), (part 9 #[.string a, .int .i64 c, .int .i64 d, .string b] 0).run Tryz.prog w = .ok (.string a) w := fun a b c d => hp _ 0 _ rfl
  have b3 : ∀ (a b : ByteArray) (c d : Int), (part 9 #[.string a, .int .i64 c, .int .i64 d, .string b] 3).run Tryz.prog w = .ok (.string b) w := fun a b c d => hp _ 3 _ rfl
  unfold encPl
  rw [show (10000 : Nat) = 9997 + 3 from rfl]
  have c1 := fun a => chk9 e 9998 a w
  have c2 := fun a b => chk60 e 9997 a b w
  unfold Instr.checkKey
  simp only [Sem.run_bind, run_underlying Tryz.underlying192, Result.andThen]
  simp [b1, b3, hs, c1, c2]
theorem key192 : KeyOK Tryz.prog 192 encPl (fun p => .agg (plE p)) where
  rep := by
    rintro F ⟨p1, ⟨p2, p3⟩, p4⟩ v ⟨l, rfl, h⟩
    cases h with
    | cons h1 t => cases t with
      | cons h2 t => cases t with
        | cons h3 t => cases t with
          | cons h4 t =>
            cases t; cases h1; cases h2; cases h3; cases h4; rfl
  find := by
    intro w k es m h
    rw [run_findKey_eq w (by rw [Tryz.underlying192])]
    have : ∀ (es : List MapEntry) (m : List (Place × Int)) (i : Nat), es.map (fun e => (e.key, e.val)) = m.map (fun p => (encPl p.1, Value.int .i64 p.2)) → (Instr.findAsking 192 (encPl k) es i).run Tryz.prog w = .ok (mfind k m i) w := by
      intro es
      induction es with
      | nil => intro m i h; cases m with
        | nil => rfl
        | cons _ _ => cases h
      | cons e es ih => intro m i h; cases m with
        | nil => cases h
        | cons p m =>
          simp only [List.map_cons, List.cons.injEq, Prod.mk.injEq] at h
          obtain ⟨⟨h1, h2⟩, h3⟩ := h
          by_cases hp : p.1 = k
          · have e1 : decide (k = p.1) = true := decide_eq_true hp.symm
            simp [Instr.findAsking, h1, h2, eq192, mfind, hp]
          · have e1 : decide (k = p.1) = false := decide_eq_false fun e => hp e.symm
            simp [Instr.findAsking, h1, eq192, mfind, hp, e1, ih m (i + 1) h3]
    exact this es m 0 h
  check := chk192
  bits := fun k => by
    unfold encPl
    rw [show (10000 : Nat) = 9999 + 1 from rfl]
    simp [Instr.sameBits, eqBytes]
end Go.Proofs.YtnjblinbdimkjaaGreatDoor

namespace Go.Proofs.YtnjblinbdimkjaaGreatDoor
open Go Go.Am
set_option linter.unusedSimpArgs false

/-! ### the ledger -/
def shE (s : Place × Int) : List PV := [.val (.string s.1.path), .val (.int .i64 s.1.scope.1), .val (.int .i64 s.1.scope.2), .val (.string s.1.res), .val (.int .i64 s.2)]
/-- a ledger to be read -/
def Lg (φ : Res) (b : Nat) (f : Place → Int) : Prop := ∃ b1 m c, PhLoad φ b 0 1 [.val (.map (some b1))] ∧ PhB φ encPl b1 m c ∧ ∀ k, eget k m = f k
theorem info2 : (Tryz.prog.info? 2).bind (·.zero) = some (.int .i64 0) := by kernel_rfl
theorem info3 : (Tryz.prog.info? 3).bind (·.zero) = some (.int .i64 0) := by kernel_rfl

def aboveL (f : Place → Int) (s : Place × Int) : Int := if maxI - s.2 < f s.1 then 7 else 0
def S90 : Am.Spec := fun rs φ K => ∃ b f s, rs = [rP b, .agg (shE s)] ∧ Lg φ b f ∧ 0 ≤ s.2 ∧ s.2 ≤ maxI ∧ K (.one (rI (aboveL f s))) φ
theorem d90 : Snd Tryz.prog gls 90 S90 := by
  refine k90 (by rintro rs φ K ⟨b, f, s, rfl, -⟩; simp) ?_
  rintro rs φ K ⟨b, f, s, rfl, ⟨b1, m, c, hl, hm, hf⟩, h0, h1, hK⟩
  simp -implicitDefEqProofs only [go_sem, Nat.reduceBEq, Nat.reduceAdd, c90, c90r0, c90r1, List.drop_succ_cons, List.drop_zero, Nat.reduceLeDiff, true_and, List.length_cons, List.length_nil, Nat.ble, List.take_succ_cons, List.take_zero, Nat.zero_add, Nat.le_refl, shE]
  refine ⟨_, hl, primqA_of rfl (elookB key192 Tryz.underlying137 info2) ⟨b1, s.1, m, c, rfl, hm, rfl, rfl⟩ ?_⟩
  have hw : IntKind.i64.wrap (9223372036854775807 - s.2) = maxI - s.2 := by unfold maxI at *; exact Am.wrap_small (by omega) (by omega)
  simp -implicitDefEqProofs only [go_sem, Nat.reduceBEq, Nat.reduceAdd, c90r2, c90r3, List.drop_succ_cons, List.drop_zero, Nat.reduceLeDiff, true_and, List.length_cons, List.length_nil, Nat.ble, List.take_succ_cons, List.take_zero, Nat.zero_add, Nat.le_refl, hw, hf, decide_eq_true_eq, decide_eq_false_iff_not]
  unfold aboveL at hK
  refine ⟨fun h => ?_, fun h => ?_⟩
  · rw [if_pos h] at hK; exact hK
  · rw [if_neg h] at hK; exact hK

/-- Ledger.Used -/
def S72 : Am.Spec := fun rs φ K => ∃ b f p s r, rs = [rP b, rS p, .agg (encSc s), rS r] ∧ Lg φ b f ∧ K (.one (rI (f ⟨p, s, r⟩))) φ
theorem d72 : Snd Tryz.prog gls 72 S72 := by
  refine k72 (by rintro rs φ K ⟨b, f, p, s, r, rfl, -⟩; simp) ?_
  rintro rs φ K ⟨b, f, p, ⟨s1, s2⟩, r, rfl, ⟨b1, m, c, hl, hm, hf⟩, hK⟩
  simp -implicitDefEqProofs only [go_sem, Nat.reduceBEq, Nat.reduceAdd, c72, c72r0, c72r1, List.drop_succ_cons, List.drop_zero, Nat.reduceLeDiff, true_and, List.length_cons, List.length_nil, Nat.ble, List.take_succ_cons, List.take_zero, Nat.zero_add, Nat.le_refl, encSc]
  refine ⟨_, hl, ?_⟩
  simp -implicitDefEqProofs only [go_sem, Nat.reduceBEq, Nat.reduceAdd, List.drop_succ_cons, List.drop_zero, Nat.reduceLeDiff, true_and, List.length_cons, List.length_nil, Nat.ble, List.take_succ_cons, List.take_zero, Nat.zero_add, Nat.le_refl]
  refine primqA_of rfl (elookB key192 Tryz.underlying137 info2) ⟨b1, ⟨p, (s1, s2), r⟩, m, c, rfl, hm, rfl, rfl⟩ ?_
  simp -implicitDefEqProofs only [go_sem, Nat.reduceBEq, Nat.reduceAdd, hf]
  exact hK

/-- Ledger.judged -/
def judF (g : Place × Int → Int) : List (Place × Int) → Int
  | [] => 0
  | s :: l => if g s ≠ 0 then g s else judF g l
theorem judF_skip {g : Place × Int → Int} : ∀ (l : List (Place × Int)) (k : Nat), (∀ a ∈ l.take k, g a = 0) → judF g l = judF g (l.drop k)
  | _, 0, _ => rfl
  | [], k + 1, _ => rfl
  | a :: l, k + 1, h => by
    rw [List.drop_succ_cons, ← judF_skip l k fun b hb => h b (by rw [List.take_succ_cons]; exact List.mem_cons_of_mem _ hb)]
    rw [judF, if_neg (by rw [h a (by rw [List.take_succ_cons]; exact List.mem_cons_self)]; simp)]
def S89 : Am.Spec := fun rs φ K => ∃ (b : Nat) (l : List (Place × Int)) (f : FuncId) (caps : List PV) (g : Place × Int → Int), rs = [rP b, .p (.sl (l.map shE) l.length), .p (.fn f caps)] ∧ l.length ≤ BIG ∧
  (∀ s ∈ l, Brings Tryz.prog gls f caps [rP b, .agg (shE s)] φ (.one (rI (g s)))) ∧ K (.one (rI (judF g l))) φ
theorem d89 : Snd Tryz.prog gls 89 S89 := by
  refine k89 (by rintro rs φ K ⟨b, l, f, caps, g, rfl, -⟩; simp) ?_
  rintro rs φ K ⟨b, l, f, caps, g, rfl, hb, hg, hK⟩
  have hb' : l.length ≤ 1073741824 := hb
  simp -implicitDefEqProofs only [go_sem, Nat.reduceBEq, Nat.reduceAdd, c89, c89r0, c89r1]
  intro hL
  refine range_loop rfl (by decide) l.length hL (fun _ => [(10, .p (.sl (l.map shE) l.length)), (0, .p (.val (.pointer (some ⟨b, 0, none⟩)))), (2, .p (.fn f caps))]) (fun _ => []) (fun _ => []) (fun _ => φ) (fun k => ∀ a ∈ l.take k, g a = 0) (Gho.sub ?_ trivial trivial ?_ rfl) (by simp) ?_ ?_
  · simp [subFr, go_sem, leAV, headSt]
  · simp [refsOK, headSt]
  · rintro k Q' hk hI hn - hq
    obtain ⟨s, hs⟩ : ∃ s, l[k]? = some s := ⟨l[k], by simp [hk]⟩
    have he : (l.map shE)[k]? = some [.val (.string s.1.path), .val (.int .i64 s.1.scope.1), .val (.int .i64 s.1.scope.2), .val (.string s.1.res), .val (.int .i64 s.2)] := by rw [List.getElem?_map, hs]; rfl
    simp -implicitDefEqProofs only [go_sem, Nat.reduceBEq, Nat.reduceAdd, c89r3, c89r4, Int.toNat_natCast, he, Option.some.injEq, exists_eq_left', List.drop_succ_cons, List.drop_zero, Nat.reduceLeDiff, true_and, List.length_cons, List.length_nil, Nat.ble, List.take_succ_cons, List.take_zero, Nat.zero_add, Nat.le_refl]
    refine ⟨by omega, by omega, Brings.go (hg s (List.mem_of_getElem? hs)) ?_⟩
    simp -implicitDefEqProofs only [go_sem, Nat.reduceBEq, Nat.reduceAdd, c89r5, c89r6, decide_eq_true_eq, decide_eq_false_iff_not, Bool.not_eq_true', Bool.not_eq_false']
    refine ⟨fun h => ?_, fun h => ?_⟩
    · refine hq _ _ (by simp) (by simp) ?_
      have e1 : judF g l = g s := by
        rw [judF_skip l k hI, List.drop_eq_getElem_cons hk]
        have : l[k] = s := by rw [List.getElem?_eq_getElem hk] at hs; exact Option.some.inj hs
        rw [this, judF, if_pos h]
      rw [e1] at hK
      simp -implicitDefEqProofs only [go_sem, Nat.reduceBEq]
      exact hK
    · refine hn _ ?_ ⟨by simp [go_sem], Gho.sub ?_ trivial trivial ?_ rfl⟩
      · rw [List.take_add_one, hs]
        intro a ha
        simp only [Option.toList_some, List.mem_append, List.mem_cons, List.not_mem_nil, or_false] at ha
        rcases ha with ha | rfl
        · exact hI a ha
        · simpa using h
      · simp [subFr, go_sem, leAV, headSt]
      · simp [refsOK, headSt]
  · intro hI
    simp -implicitDefEqProofs only [go_sem, Nat.reduceBEq, Nat.reduceAdd, c89r9]
    rw [judF_skip l l.length hI, List.drop_length] at hK
    exact hK
end Go.Proofs.YtnjblinbdimkjaaGreatDoor
