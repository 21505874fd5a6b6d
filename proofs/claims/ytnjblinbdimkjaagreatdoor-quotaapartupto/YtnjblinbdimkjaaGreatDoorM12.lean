/-
  bursarlaw18.QuotaApart answers true and leaves its arguments as they were, for inputs of bulk at most 1048576 (the given second form; no other condition). Part 12 of 26 of the proof.
-/
import Derived.Test.YtnjblinbdimkjaaGreatDoorM11
import Derived.Test.YtnjblinbdimkjaaGreatDoorM9
import Derived.Test.YtnjblinbdimkjaaGreatDoorProg
/-
  AM: maps, every entry and its stamp known: what the operations do.
-/
namespace Go.Am
open Go
set_option linter.unusedSectionVars false
set_option linter.unusedVariables false

variable {P : Program} {gl : Nat → Option (List PV)} {κ : Type} [DecidableEq κ]

def toE (enc : κ → Value) (x : κ × Int × Nat) : MapEntry := { key := enc x.1, val := .int .i64 x.2.1, born := x.2.2 }
def obE (enc : κ → Value) (m : EM κ) (c : Nat) : Obj := .map (m.map (toE enc)).toArray c

def Res.mapB (enc : κ → Value) (b : Nat) (m : EM κ) (c : Nat) : Res where
  fp := fun x => x = b
  ok := fun _ w => w.heap[b]? = some (obE enc m c)
  stable := by
    rintro F F' w w' hF hb h
    rw [hb b rfl]; exact h

def PhB (φ : Res) (enc : κ → Value) (b : Nat) (m : EM κ) (c : Nat) : Prop := φ.fp b ∧ ∀ F w, φ.ok F w → w.heap[b]? = some (obE enc m c)
def PhBSet (φ : Res) (enc : κ → Value) (b : Nat) (m : EM κ) (c : Nat) (φ' : Res) : Prop := (∀ x, φ'.fp x ↔ φ.fp x) ∧ ∀ F w, φ.ok F w → φ'.ok F (setMap w b (obE enc m c))

variable {enc : κ → Value} {rv : κ → RV} {kt : TypeId} {φ ψ φ' ψ' : Res} {b c c' : Nat} {m m' : EM κ}

theorem phB : PhB (Res.mapB enc b m c) enc b m c := ⟨rfl, fun _ _ h => h⟩
theorem PhB.l (h : PhB ψ enc b m c) : PhB (ψ.sep φ) enc b m c := ⟨.inl h.1, fun F w hok => h.2 F w hok.1⟩
theorem PhB.r (h : PhB φ enc b m c) : PhB (ψ.sep φ) enc b m c := ⟨.inr h.1, fun F w hok => h.2 F w hok.2.1⟩
theorem phBset : PhBSet (Res.mapB enc b m c) enc b m' c' (Res.mapB enc b m' c') := ⟨fun _ => Iff.rfl, fun F w hok => setMap_eq hok⟩
theorem PhBSet.l (hb : ψ.fp b) (h : PhBSet ψ enc b m c ψ') : PhBSet (ψ.sep φ) enc b m c (ψ'.sep φ) :=
  ⟨fun x => by simp [Res.sep, h.1 x], fun F w hok => ⟨h.2 F w hok.1, φ.stable _ _ _ _ (Facts.le_refl _) (fun x hx => setMap_ne (fun e => hok.2.2 b hb (e ▸ hx))) hok.2.1, fun x hx => hok.2.2 x ((h.1 x).1 hx)⟩⟩
theorem PhBSet.r (hb : φ.fp b) (h : PhBSet φ enc b m c φ') : PhBSet (ψ.sep φ) enc b m c (ψ.sep φ') :=
  ⟨fun x => by simp [Res.sep, h.1 x], fun F w hok => ⟨ψ.stable _ _ _ _ (Facts.le_refl _) (fun x hx => setMap_ne (fun e => hok.2.2 x hx (e ▸ hb))) hok.1, h.2 F w hok.2.1, fun x hx hp => hok.2.2 x hx ((h.1 x).1 hp)⟩⟩

theorem pairsB : (m.map (toE enc)).toArray.toList.map (fun e => (e.key, e.val)) = (evals m).map (fun p => (enc p.1, Value.int .i64 p.2)) := by
  simp [evals, toE, List.map_map, Function.comp_def]

def SMakeB (enc : κ → Value) : Am.Spec := fun rs φ K => rs = [] ∧ ∀ b, K (.one (.p (.val (.map (some b))))) ((Res.mapB enc b [] 0).sep φ)
theorem emakeB {T : TypeId} : SndP P (.makeMap T none) (SMakeB enc) where
  runs := by
    rintro rs φ K ⟨rfl, hK⟩ o ρ F w ho hF hph hphF hphl hargs
    have hrun : (execOp ρ o).run P w = .ok (.value (.map (some w.heap.size))) (w.alloc (.map #[] 0)) := by
      simp [execOp, ho, Instr.makeMap, newObj, Sem.run]
    have hkp := Kept.alloc w (.map #[] 0)
    refine ⟨_, _, _, hrun, .inl rfl, _, _, F, hK w.heap.size, .val rfl, Facts.le_refl _, hF.keep fun b hb _ => hkp.block b hb (fun e => e), fun _ _ _ _ => rfl,
      ⟨hkp.os, hkp.tape, hkp.output, hkp.size, fun b hb _ => hkp.block b hb (fun e => e)⟩, ⟨heap_alloc_new w _, ?_, ?_⟩, ?_, ?_, ?_⟩
    · exact φ.stable _ _ _ _ (Facts.le_refl _) (fun b hb => hkp.block b (hphl b hb) (fun e => e)) hph
    · rintro b rfl hp
      have := hphl _ hp; omega
    · rintro b o' (rfl | hb)
      · exact facts_none hF o'
      · exact hphF b o' hb
    · rintro b (rfl | hb)
      · exact .inr (Nat.le_refl _)
      · exact .inl hb
    · rintro b (rfl | hb)
      · show w.heap.size < (w.heap.push _).size; simp
      · exact Nat.lt_of_lt_of_le (hphl b hb) hkp.size

def SLookB (enc : κ → Value) (rv : κ → RV) : Am.Spec := fun rs φ K => ∃ b k m c, rs = [.p (.val (.map (some b))), rv k] ∧ PhB φ enc b m c ∧ K (.one (.p (.val (.int .i64 (eget k m))))) φ
theorem run_zero {e : TypeId} {w : World} (hz : (P.info? e).bind (·.zero) = some (.int .i64 0)) : (zeroValue e).run P w = .ok (.int .i64 0) w := by
  cases hi : P.info? e with
  | none => simp [hi] at hz
  | some i =>
    have hz' : i.zero = some (.int .i64 0) := by simpa [hi] using hz
    simp [zeroValue, typeInfo, hi, hz']
theorem elookB {T e : TypeId} {x y : Operand} (hk : KeyOK P kt enc rv) (hu : P.underlying T = some (.map kt e)) (hz : (P.info? e).bind (·.zero) = some (.int .i64 0)) : SndP P (.lookup T x y false) (SLookB enc rv) where
  runs := by
    rintro rs φ K ⟨b, k, m, c, rfl, hm, hK⟩ o ρ F w ho hF hph hphF hphl hargs
    have hargs' : All2 (RepR F) [.p (.val (.map (some b))), rv k] [ρ x, ρ y] := by simpa [Op.operands] using hargs
    obtain ⟨v, u, e, h1, h2⟩ := arg2 hargs'
    cases e
    have hx := mapV h1
    have hy := hk.rep _ _ _ h2
    have hb := hm.2 F w hph
    unfold obE at hb
    have hf := hk.find w k _ (evals m) (pairsB (enc := enc) (m := m))
    have hrun : (execOp ρ o).run P w = .ok (.value (.int .i64 (eget k m))) w := by
      rcases emfind k m with ⟨g1, g2, -⟩ | ⟨j, n, g1, g2, -, g4⟩
      · rw [g1] at hf
        simp only [] at hf
        simp [execOp, ho, hx, hy, Instr.lookup, run_underlying hu, getObj, Sem.run, hb, hk.check, hf, run_zero hz, g2]
      · rw [g1] at hf
        simp only [] at hf
        simp [execOp, ho, hx, hy, Instr.lookup, run_underlying hu, getObj, Sem.run, hb, hk.check, hf, g4]
    exact ⟨_, _, _, hrun, .inl rfl, _, _, F, hK, .val rfl, Facts.le_refl _, hF, fun _ _ _ _ => rfl, Kept.refl _ w, hph, hphF, fun b h => .inl h, hphl⟩

theorem mapB_end {v : Value} {o : Oper} {K : Out → Res → Prop} {F : Facts} {w : World} {ρ : Operand → Value} {nx : Next} {r : Out} (hF : FactsOK F w) (hph : φ.ok F w) (hphF : ∀ b o, φ.fp b → F b o = none) (hphl : ∀ b, φ.fp b → b < w.heap.size)
    (hb : φ.fp b) (hrun : (execOp ρ o).run P w = .ok nx (setMap w b (obE enc m c))) (hnx : nx = .value v ∨ (nx = .skip ∧ v = undef)) (hset : PhBSet φ enc b m c φ') (hK : K r φ') (hr : RepO F r v) :
    ∃ nx v w', (execOp ρ o).run P w = .ok nx w' ∧ (nx = .value v ∨ (nx = .skip ∧ v = undef)) ∧ ∃ r φ' F', K r φ' ∧ RepO F' r v ∧ Facts.le F F' ∧ FactsOK F' w' ∧ (∀ b o, b < w.heap.size → ¬ φ.fp b → F' b o = F b o) ∧ Kept φ.fp w w' ∧
      φ'.ok F' w' ∧ (∀ b o, φ'.fp b → F' b o = none) ∧ (∀ b, φ'.fp b → φ.fp b ∨ w.heap.size ≤ b) ∧ (∀ b, φ'.fp b → b < w'.heap.size) := by
  have hkp : Kept φ.fp w (setMap w b (obE enc m c)) := ⟨rfl, rfl, rfl, by simp [setMap], fun i hi hn => setMap_ne (fun e => hn (e ▸ hb))⟩
  refine ⟨_, _, _, hrun, hnx, _, _, F, hK, hr, Facts.le_refl _, ?_, fun _ _ _ _ => rfl, hkp, hset.2 F w hph, fun x o' hx => hphF x o' ((hset.1 x).1 hx), fun x hx => .inl ((hset.1 x).1 hx), fun x hx => Nat.lt_of_lt_of_le (hphl x ((hset.1 x).1 hx)) hkp.size⟩
  intro b' o' v hv
  have hne : ¬ φ.fp b' := fun e => by rw [hphF _ o' e] at hv; cases hv
  exact (World.cell?_of_block (w := w) (a := ⟨b', o', none⟩) (hkp.block b' (hF.lt hv) hne)).trans (hF b' o' v hv)

theorem modB (f : MapEntry → MapEntry) (g : κ × Int × Nat → κ × Int × Nat) (h : ∀ x, f (toE enc x) = toE enc (g x)) (m : EM κ) (j : Nat) : ((m.map (toE enc)).toArray.modify j f) = ((m.modify j g).map (toE enc)).toArray := by
  apply Array.toList_inj.1
  rw [Array.toList_modify]
  have : ∀ (m : EM κ) (j : Nat), (m.map (toE enc)).modify j f = (m.modify j g).map (toE enc) := by
    intro m
    induction m with
    | nil => intro j; simp
    | cons x m ih => intro j; cases j with
      | zero => simp [h]
      | succ j => simp [List.modify_succ_cons, ih]
  exact this m j
theorem getB_ {j : Nat} {x : κ × Int × Nat} (h : m[j]? = some x) : (m.map (toE enc)).toArray[j]? = some (toE enc x) := by simp [h]
theorem pushB (x : κ × Int × Nat) : (m.map (toE enc)).toArray.push (toE enc x) = ((m ++ [x]).map (toE enc)).toArray := by simp
theorem run_setB {w : World} {o' : Obj} (h : w.heap[b]? = some (obE enc m c)) : (setObj b o').run P w = .ok () (setMap w b o') := run_setMap h ⟨_, _, rfl⟩

def SPutB (enc : κ → Value) (rv : κ → RV) : Am.Spec := fun rs φ K => ∃ b k v m c φ', rs = [.p (.val (.map (some b))), rv k, .p (.val (.int .i64 v))] ∧ PhB φ enc b m c ∧ PhBSet φ enc b (eput k v m c).1 (eput k v m c).2 φ' ∧ K (.tup []) φ'
theorem eputB {T e : TypeId} {x y z : Operand} (hk : KeyOK P kt enc rv) (hu : P.underlying T = some (.map kt e)) : SndP P (.mapUpdate T x y z) (SPutB enc rv) where
  runs := by
    rintro rs φ K ⟨b, k, v, m, c, φ', rfl, hm, hset, hK⟩ o ρ F w ho hF hph hphF hphl hargs
    have hargs' : All2 (RepR F) [.p (.val (.map (some b))), rv k, .p (.val (.int .i64 v))] [ρ x, ρ y, ρ z] := by simpa [Op.operands] using hargs
    obtain ⟨v1, v2, v3, e, h1, h2, h3⟩ := arg3 hargs'
    cases e
    have hx := mapV h1
    have hy := hk.rep _ _ _ h2
    have hz := mapV h3
    have hb := hm.2 F w hph
    have hb' := hb
    unfold obE at hb
    have hf := hk.find w k _ (evals m) (pairsB (enc := enc) (m := m))
    refine mapB_end (v := undef) hF hph hphF hphl hm.1 ?_ (.inr ⟨rfl, rfl⟩) hset hK rep_undef
    rcases emfind k m with ⟨g1, g2, g3⟩ | ⟨j, n, g1, g2, g3, g4⟩
    · rw [g1] at hf
      have e1 : eput k v m c = (m ++ [(k, v, c)], c + 1) := by unfold eput; rw [g1]
      rw [e1]
      have e2 : ({ key := enc k, val := .int .i64 v, born := c } : MapEntry) = toE enc (k, v, c) := rfl
      simp [execOp, ho, hx, hy, hz, Instr.mapUpdate, run_underlying hu, getObj, Sem.run, hb, hk.check, hf, run_setB hb', e2, obE]
    · rw [g1] at hf
      have e1 : eput k v m c = (m.modify j (fun x => (x.1, v, x.2.2)), c) := by unfold eput; rw [g1]
      rw [e1]
      have hold : ((((m.map (toE enc)).toArray)[j]?).map (·.key)).getD (enc k) = enc k := by rw [getB_ g2]; simp [toE, g3]
      have hmod := modB (enc := enc) (fun e => { e with key := enc k, val := .int .i64 v }) (fun x => (if x.1 = k then (x.1, v, x.2.2) else (k, v, x.2.2))) (fun x => by
        by_cases h : x.1 = k
        · simp [toE, h]
        · simp [toE, h]) m j
      have hmm : m.modify j (fun x => (if x.1 = k then (x.1, v, x.2.2) else (k, v, x.2.2))) = m.modify j (fun x => (x.1, v, x.2.2)) := by
        have : ∀ (m : EM κ) (j : Nat), m[j]? = some n → m.modify j (fun x => (if x.1 = k then (x.1, v, x.2.2) else (k, v, x.2.2))) = m.modify j (fun x => (x.1, v, x.2.2)) := by
          intro m
          induction m with
          | nil => intro j h; simp at h
          | cons p m ih => intro j h; cases j with
            | zero => simp at h; subst h; simp [g3]
            | succ j => simp at h; simp [List.modify_succ_cons, ih j h]
        exact this m j g2
      rw [hmm] at hmod
      have hold' : (Option.map (fun x => x.key) (Option.map (toE enc) m[j]?)).getD (enc k) = enc k := by rw [g2]; simp [toE, g3]
      simp only [List.getElem?_toArray, List.getElem?_map] at hold
      simp [execOp, ho, hx, hy, hz, Instr.mapUpdate, run_underlying hu, getObj, Sem.run, hb, hk.check, hf, run_setB hb', obE, Instr.keyThatStays, hk.bits, g2, toE, g3]
      rw [← hmod, List.modify_toArray]

def SEntB (enc : κ → Value) (rv : κ → RV) : Am.Spec := fun rs φ K => ∃ b k m c φ', rs = [.p (.val (.map (some b))), rv k] ∧ PhB φ enc b m c ∧ PhBSet φ enc b (eent k m c).1 (eent k m c).2 φ' ∧ K (.tup [.p (.val (.int .i64 (eget k m))), .p (.val (.int .i64 (estamp k m c)))]) φ'
theorem eentB {T e : TypeId} {x y : Operand} (hk : KeyOK P kt enc rv) (hu : P.underlying T = some (.map kt e)) (hz : (P.info? e).bind (·.zero) = some (.int .i64 0)) : SndP P (.mapEntry T x y) (SEntB enc rv) where
  runs := by
    rintro rs φ K ⟨b, k, m, c, φ', rfl, hm, hset, hK⟩ o ρ F w ho hF hph hphF hphl hargs
    have hargs' : All2 (RepR F) [.p (.val (.map (some b))), rv k] [ρ x, ρ y] := by simpa [Op.operands] using hargs
    obtain ⟨v1, v2, e, h1, h2⟩ := arg2 hargs'
    cases e
    have hx := mapV h1
    have hy := hk.rep _ _ _ h2
    have hb := hm.2 F w hph
    have hb' := hb
    unfold obE at hb
    have hf := hk.find w k _ (evals m) (pairsB (enc := enc) (m := m))
    refine mapB_end (v := .tuple #[.int .i64 (eget k m), .int .i64 (estamp k m c)]) hF hph hphF hphl hm.1 ?_ (.inl rfl) hset hK ⟨[.int .i64 (eget k m), .int .i64 (estamp k m c)], rfl, .cons (.val rfl) (.cons (.val rfl) .nil)⟩
    rcases emfind k m with ⟨g1, g2, g3⟩ | ⟨j, n, g1, g2, g3, g4⟩
    · rw [g1] at hf
      have e1 : eent k m c = (m ++ [(k, 0, c)], c + 1) := by unfold eent; rw [g1]
      have e3 : estamp k m c = c := by unfold estamp; rw [g1]
      rw [e1, e3, g2]
      have e2 : ({ key := enc k, val := .int .i64 0, born := c } : MapEntry) = toE enc (k, 0, c) := rfl
      simp [execOp, ho, hx, hy, Instr.mapEntry, run_underlying hu, getObj, Sem.run, hb, hk.check, hf, run_setB hb', e2, obE, run_zero hz, goInt]
    · rw [g1] at hf
      have e1 : eent k m c = (m, c) := by unfold eent; rw [g1]
      have e3 : estamp k m c = n.2.2 := by unfold estamp; rw [g1]; simp [g2]
      rw [e1, e3, g4]
      have hmod := modB (enc := enc) (fun e => { e with key := enc k }) (fun x => (if x.1 = k then x else (k, x.2.1, x.2.2))) (fun x => by
        by_cases h : x.1 = k
        · simp [toE, h]
        · simp [toE, h]) m j
      have hmm : m.modify j (fun x => (if x.1 = k then x else (k, x.2.1, x.2.2))) = m := by
        have : ∀ (m : EM κ) (j : Nat), m[j]? = some n → m.modify j (fun x => (if x.1 = k then x else (k, x.2.1, x.2.2))) = m := by
          intro m
          induction m with
          | nil => intro j h; simp at h
          | cons p m ih => intro j h; cases j with
            | zero => simp at h; subst h; simp [g3]
            | succ j => simp at h; simp [List.modify_succ_cons, ih j h]
        exact this m j g2
      rw [hmm] at hmod
      simp [execOp, ho, hx, hy, Instr.mapEntry, run_underlying hu, getObj, Sem.run, hb, hk.check, hf, run_setB hb', obE, Instr.keyThatStays, hk.bits, g2, toE, g3, goInt]
      rw [List.modify_toArray] at hmod
      have := congrArg (fun x => setMap w b (Obj.map x c)) hmod
      exact this

def SStoreB (enc : κ → Value) : Am.Spec := fun rs φ K => ∃ b s v m c φ', rs = [.p (.val (.map (some b))), .p (.val (.int .i64 (s : Nat))), .p (.val (.int .i64 v))] ∧ PhB φ enc b m c ∧ (∃ i, m.findIdx? (fun x => decide ((x.2.2 : Nat) = s)) = some i) ∧ PhBSet φ enc b (eset s v m) c φ' ∧ K (.tup []) φ'
theorem estoreB {T : TypeId} {x y z : Operand} : SndP P (.entryStore T x y z) (SStoreB enc) where
  runs := by
    rintro rs φ K ⟨b, s, v, m, c, φ', rfl, hm, ⟨i, hi⟩, hset, hK⟩ o ρ F w ho hF hph hphF hphl hargs
    have hargs' : All2 (RepR F) [.p (.val (.map (some b))), .p (.val (.int .i64 (s : Nat))), .p (.val (.int .i64 v))] [ρ x, ρ y, ρ z] := by simpa [Op.operands] using hargs
    obtain ⟨v1, v2, v3, e, h1, h2, h3⟩ := arg3 hargs'
    cases e
    have hx := mapV h1
    have hy := mapV h2
    have hz := mapV h3
    have hb := hm.2 F w hph
    have hb' := hb
    unfold obE at hb
    refine mapB_end (v := undef) hF hph hphF hphl hm.1 ?_ (.inr ⟨rfl, rfl⟩) hset hK rep_undef
    have e1 : eset s v m = m.modify i fun x => (x.1, v, x.2.2) := by unfold eset; rw [hi]
    have hidx : (m.map (toE enc)).toArray.findIdx? (fun e => (e.born : Int) == (s : Int)) = some i := by
      rw [List.findIdx?_toArray, List.findIdx?_map, ← hi]
      congr 1
      funext x
      show ((x.2.2 : Int) == (s : Int)) = decide (x.2.2 = s)
      by_cases h : x.2.2 = s
      · simp [h]
      · have : (x.2.2 : Int) ≠ (s : Int) := by omega
        simp [h, this]
    have hmod := modB (enc := enc) (fun e => { e with val := .int .i64 v }) (fun x => (x.1, v, x.2.2)) (fun x => rfl) m i
    rw [e1]
    have has : (asInt (.int .i64 (s : Nat))).run P w = .ok (s : Int) w := by simp [asInt, asIntOf]
    simp only [execOp, ho, hx, hy, hz, Instr.entryStore, Sem.run_bind, getObj, Sem.run, hb, Result.andThen, has, hidx, hmod, run_setB hb', obE]
    rfl

theorem edelB {T U e : TypeId} {x y : Operand} (hk : KeyOK P kt enc rv) (hu : P.underlying T = some (.map kt e)) : SndP P (.call { callee := .builtin .delete, args := #[x, y], argTypes := #[T, U] })
    (fun rs φ K => ∃ b k m c φ', rs = [.p (.val (.map (some b))), rv k] ∧ PhB φ enc b m c ∧ PhBSet φ enc b (edel k m) c φ' ∧ K (.tup []) φ') where
  runs := by
    rintro rs φ K ⟨b, k, m, c, φ', rfl, hm, hset, hK⟩ o ρ F w ho hF hph hphF hphl hargs
    have hargs' : All2 (RepR F) [.p (.val (.map (some b))), rv k] [ρ x, ρ y] := by simpa [Op.operands, Call.operands] using hargs
    obtain ⟨v1, v2, e, h1, h2⟩ := arg2 hargs'
    cases e
    have hx := mapV h1
    have hy := hk.rep _ _ _ h2
    have hb := hm.2 F w hph
    have hb' := hb
    unfold obE at hb
    have hf := hk.find w k _ (evals m) (pairsB (enc := enc) (m := m))
    refine mapB_end (v := undef) hF hph hphF hphl hm.1 ?_ (.inl rfl) hset hK rep_undef
    rcases emfind k m with ⟨g1, g2, g3⟩ | ⟨j, n, g1, g2, g3, g4⟩
    · rw [g1] at hf
      have e1 : edel k m = m := by unfold edel; rw [g1]
      rw [e1]
      simp [execOp, ho, resolve, invoke, hx, hy, builtin, Builtin.delete_, run_underlying hu, getObj, Sem.run, hb, hk.check, hf, run_setB hb', undef, obE]
    · rw [g1] at hf
      have e1 : edel k m = m.eraseIdx j := by unfold edel; rw [g1]
      rw [e1]
      have hj : j < m.length := (List.getElem?_eq_some_iff.1 g2).1
      have her : (m.map (toE enc)).toArray.eraseIdxIfInBounds j = ((m.eraseIdx j).map (toE enc)).toArray := by
        apply Array.toList_inj.1
        unfold Array.eraseIdxIfInBounds
        rw [dif_pos (by simpa using hj), Array.toList_eraseIdx]
        have : ∀ (m : EM κ) (j : Nat), (m.map (toE enc)).eraseIdx j = (m.eraseIdx j).map (toE enc) := by
          intro m
          induction m with
          | nil => intro j; simp
          | cons x m ih => intro j; cases j with
            | zero => simp
            | succ j => simp [ih]
        exact this m j
      simp [execOp, ho, resolve, invoke, hx, hy, builtin, Builtin.delete_, run_underlying hu, getObj, Sem.run, hb, hk.check, hf, run_setB hb', undef, obE, -List.eraseIdxIfInBounds_toArray]
      rw [her]
end Go.Am

/-
  AM: functions whose one result is handed back as it is (nil stays nil).
-/
namespace Go.Am
open Go

variable {P : Program} {gl : Nat → Option (List PV)}

def endR (K : Out → Res → Prop) (s : Nat) : Ex → St → Prop
  | .exit _, _ => False
  | _, σ => match getT s σ.fr with
    | some (.p x) => K (.one (.p x)) σ.ph
    | _ => False

theorem snd_codeR {f n s : Nat} {fn : Func} {c : ACode} {S : Am.Spec} (hf : P.funcs[f]? = some fn) (hb : fn.body.map (tr P gl n) = some c) (hname : (fn.name == "runtime.NumGoroutine") = false)
    (hres : fn.results.toList = [.tmp s]) (hn : fn.ntmps = n) (hargs : ∀ rs φ K, S rs φ K → rs.length ≤ n) (h : ∀ rs φ (K : Out → Res → Prop), S rs φ K → awp P gl c (endR K s) (startSt rs φ)) : Snd P gl f S where
  calls := by
    subst hn
    cases hbody : fn.body with
    | none => rw [hbody] at hb; cases hb
    | some cd =>
      rw [hbody] at hb
      simp only [Option.map_some, Option.some.injEq] at hb
      intro rs φ K hS F w vs hgl hfc hok hpF hpl hrs
      refine .inl ⟨⟨fn, hf, by simp [hbody], hname⟩, ?_⟩
      have hlen := hrs.len
      have hle := hargs rs φ K hS
      have hsz : vs.toArray.size = vs.length := by simp
      let D : Base := ⟨w, F, φ, fn.ntmps, gl⟩
      let G : Gh := ⟨F, fun _ => none, fun _ _ => none⟩
      have hrel : Rel D G (startSt rs φ) { tmps := vs.toArray ++ Array.replicate (fn.ntmps - vs.toArray.size) undef, defers := [] } w :=
        { df := rfl
          gl := fun g cs hg => hgl g cs hg
          sz := by simp; show vs.length + (fn.ntmps - vs.length) = fn.ntmps; omega
          fr := by
            intro s av hs
            obtain ⟨r, _, hr, rfl⟩ := startFr_get rs 0 s av hs
            obtain ⟨v, hv, hrep⟩ := hrs.get hr
            have hlt := (List.getElem?_eq_some_iff.1 hv).1
            refine ⟨v, ?_, av_rep hrep⟩
            rw [Array.getElem?_append_left (by simpa using hlt)]
            simpa using hv
          fc := hfc
          le := Facts.le_refl _
          old := fun _ _ _ _ => rfl
          kept := Kept.refl _ _
          ph := hok
          phF := hpF
          phn := fun b hb => .inl hb
          phl := hpl
          bx := fun s cs hs => by simp [startSt, getB] at hs
          bk := fun s b e => by cases e
          rw := fun r T k es hr => by simp [startSt, getB] at hr
          rk := fun r n v e => by cases e }
      have fin : ∀ G' σ' a' w', Rel D G' σ' a' w' → endR K s .ret σ' → a'.defers = [] ∧ ∃ v, (results fn a'.tmps).run P w' = .ok v w' ∧
          ∃ v' r φ' F', Ending.returned v = .returned v' ∧ K r φ' ∧ RepO F' r v' ∧ Facts.le F F' ∧ FactsOK F' w' ∧ (∀ b o, b < w.heap.size → ¬ φ.fp b → F' b o = F b o) ∧ Kept φ.fp w w' ∧
            φ'.ok F' w' ∧ (∀ b o, φ'.fp b → F' b o = none) ∧ (∀ b, φ'.fp b → φ.fp b ∨ w.heap.size ≤ b) ∧ (∀ b, φ'.fp b → b < w'.heap.size) := fun G' σ' a' w' hr' hret => by
        unfold endR at hret
        simp only at hret
        split at hret
        · rename_i x hx
          obtain ⟨v, hv, hrep⟩ := hr'.fr s _ hx
          refine ⟨hr'.df, v, ?_, v, .one (.p x), σ'.ph, G'.F, rfl, hret, hrep, hr'.le, hr'.fc, hr'.old, hr'.kept, hr'.ph, hr'.phF, hr'.phn, hr'.phl⟩
          rw [results_eq]
          rw [Sem.run_bind, Array.mapM_eq_mapM_toList, Sem.run_map, hres]
          simp [resRun, getD_of hv]
        · exact hret.elim
      refine calls_of_wp hf hbody (awp_sound (P := P) (D := D) cd G (startSt rs φ) _ w (endR K s) _ (by have := h rs φ K hS; rw [← hb] at this; exact this) hrel rfl (fun e G' σ' a' w' hr' h' => ?_))
      cases e with
      | normal => exact fin G' σ' a' w' hr' h'
      | ret => exact fin G' σ' a' w' hr' h'
      | exit id => exact h'.elim
@[go_sem] theorem endR_normal {K : Out → Res → Prop} {s : Nat} {σ : St} : endR K s .normal σ = match getT s σ.fr with | some (.p x) => K (.one (.p x)) σ.ph | _ => False := rfl
@[go_sem] theorem endR_ret {K : Out → Res → Prop} {s : Nat} {σ : St} : endR K s .ret σ = match getT s σ.fr with | some (.p x) => K (.one (.p x)) σ.ph | _ => False := rfl
end Go.Am

namespace Go.Proofs.YtnjblinbdimkjaaGreatDoor
open Go Go.Am
/-- What lies behind the package variables. -/
def gls (g : Nat) : Option (List PV) := match g with
  | 0 => some [.val (.int .u8 0), .val (.int .u8 81), .val (.int .u8 76), .val (.int .u8 79), .val (.int .u8 66)]
  | 1 => some [.val (.string "all".toUTF8), .val (.string "best".toUTF8), .val (.string "notbest".toUTF8), .val (.string "ends".toUTF8), .val (.string "notends".toUTF8), .val (.string "priority=".toUTF8)]
  | _ => none
end Go.Proofs.YtnjblinbdimkjaaGreatDoor

namespace Go.Proofs.YtnjblinbdimkjaaGreatDoor
open Go Go.Am
-- 76 bursar/scope.Valid (25 slots, 1 parameters)
def c76r0 : List AOper := [
  ⟨some 1, none, .box (.t 0)⟩,
  ⟨some 2, none, .mov (.k (.p (.val (.bool false))))⟩]
def c76r1 : List AOper := [
  ⟨some 3, none, .fad 0 (.t 1)⟩,
  ⟨some 4, none, .load false 1 (.t 3)⟩,
  ⟨some 5, none, .bin .lss 3 (.t 4) (.k (.p (.val (.int .i64 0))))⟩,
  ⟨some 6, none, .mov (.t 5)⟩,
  ⟨some 7, some (6, false), .fad 0 (.t 1)⟩,
  ⟨some 8, some (6, false), .load false 1 (.t 7)⟩,
  ⟨some 9, some (6, false), .bin .geq 3 (.t 8) (.k (.p (.val (.int .i64 6))))⟩,
  ⟨some 10, none, .pick (.t 6) (.k (.p (.val (.bool true)))) (.t 9)⟩]
def c76r2 : List AOper := [
  ⟨some 2, none, .mov (.k (.p (.val (.bool false))))⟩]
def c76r3 : List AOper := [
  ⟨some 11, none, .fad 0 (.t 1)⟩,
  ⟨some 12, none, .load false 1 (.t 11)⟩,
  ⟨some 13, none, .bin .eql 3 (.t 12) (.k (.p (.val (.int .i64 5))))⟩]
def c76r4 : List AOper := [
  ⟨some 14, none, .fad 1 (.t 1)⟩,
  ⟨some 15, none, .load false 1 (.t 14)⟩,
  ⟨some 16, none, .bin .geq 3 (.t 15) (.k (.p (.val (.int .i64 0))))⟩,
  ⟨some 17, none, .mov (.t 16)⟩,
  ⟨some 18, some (17, true), .fad 1 (.t 1)⟩,
  ⟨some 19, some (17, true), .load false 1 (.t 18)⟩,
  ⟨some 20, some (17, true), .bin .lss 3 (.t 19) (.k (.p (.val (.int .i64 10))))⟩,
  ⟨some 21, none, .pick (.t 17) (.t 20) (.k (.p (.val (.bool false))))⟩,
  ⟨some 2, none, .mov (.t 21)⟩]
def c76r5 : List AOper := [
  ⟨some 22, none, .fad 1 (.t 1)⟩,
  ⟨some 23, none, .load false 1 (.t 22)⟩,
  ⟨some 24, none, .bin .eql 3 (.t 23) (.k (.p (.val (.int .i64 0))))⟩,
  ⟨some 2, none, .mov (.t 24)⟩]
def c76 : ACode := (.seq (.reg c76r0) (.seq (.seq (.reg c76r1) (.cond (.t 10) (.seq (.reg c76r2) .ret) .skip)) (.seq (.seq (.reg c76r3) (.cond (.t 13) (.seq (.reg c76r4) .ret) .skip)) (.seq (.reg c76r5) .ret))))
theorem c76_eq : (Tryz.f76.body).map (tr Tryz.prog gls 25) = some c76 := by kernel_rfl
theorem k76 {S : Am.Spec} (hargs : ∀ rs φ K, S rs φ K → rs.length ≤ 25) (h : Shows Tryz.prog gls c76 [.t 2] S) : Snd Tryz.prog gls 76 S :=
  snd_code Tryz.func76 c76_eq (by kernel_rfl) (by kernel_rfl) Tryz.ntmps76 hargs h
-- 161 bursar/object.within (15 slots, 3 parameters)
def c161r0 : List AOper := [
  ⟨some 6, none, .mov (.k (.p (.val (.bool false))))⟩]
def c161r1 : List AOper := [
  ⟨some 7, none, .mov (.t 0)⟩,
  ⟨some 8, none, .mov (.t 1)⟩,
  ⟨some 9, none, .bin .geq 2 (.t 7) (.t 8)⟩,
  ⟨some 10, none, .mov (.t 9)⟩,
  ⟨some 11, some (10, true), .mov (.t 0)⟩,
  ⟨some 12, some (10, true), .mov (.t 2)⟩,
  ⟨some 13, some (10, true), .bin .leq 2 (.t 11) (.t 12)⟩,
  ⟨some 14, none, .pick (.t 10) (.t 13) (.k (.p (.val (.bool false))))⟩,
  ⟨some 6, none, .mov (.t 14)⟩]
def c161 : ACode := (.seq (.reg c161r0) (.seq (.reg c161r1) .ret))
theorem c161_eq : (Tryz.f161.body).map (tr Tryz.prog gls 15) = some c161 := by kernel_rfl
theorem k161 {S : Am.Spec} (hargs : ∀ rs φ K, S rs φ K → rs.length ≤ 15) (h : Shows Tryz.prog gls c161 [.t 6] S) : Snd Tryz.prog gls 161 S :=
  snd_code Tryz.func161 c161_eq (by kernel_rfl) (by kernel_rfl) Tryz.ntmps161 hargs h
-- 200 bursar/label.plain (17 slots, 1 parameters)
def c200r0 : List AOper := [
  ⟨some 2, none, .mov (.k (.p (.val (.bool false))))⟩]
def c200r1 : List AOper := [
  ⟨some 3, none, .mov (.t 0)⟩,
  ⟨some 4, none, .bin .geq 21 (.t 3) (.k (.p (.val (.int .i32 97))))⟩,
  ⟨some 5, none, .mov (.t 4)⟩,
  ⟨some 6, some (5, true), .mov (.t 0)⟩,
  ⟨some 7, some (5, true), .bin .leq 21 (.t 6) (.k (.p (.val (.int .i32 122))))⟩,
  ⟨some 8, none, .pick (.t 5) (.t 7) (.k (.p (.val (.bool false))))⟩,
  ⟨some 9, none, .mov (.t 8)⟩,
  ⟨some 10, some (9, false), .mov (.t 0)⟩,
  ⟨some 11, some (9, false), .bin .geq 21 (.t 10) (.k (.p (.val (.int .i32 48))))⟩,
  ⟨some 12, some (9, false), .mov (.t 11)⟩,
  ⟨some 13, some (12, true), .mov (.t 0)⟩,
  ⟨some 14, some (12, true), .bin .leq 21 (.t 13) (.k (.p (.val (.int .i32 57))))⟩,
  ⟨some 15, some (9, false), .pick (.t 12) (.t 14) (.k (.p (.val (.bool false))))⟩,
  ⟨some 16, none, .pick (.t 9) (.k (.p (.val (.bool true)))) (.t 15)⟩,
  ⟨some 2, none, .mov (.t 16)⟩]
def c200 : ACode := (.seq (.reg c200r0) (.seq (.reg c200r1) .ret))
theorem c200_eq : (Tryz.f200.body).map (tr Tryz.prog gls 17) = some c200 := by kernel_rfl
theorem k200 {S : Am.Spec} (hargs : ∀ rs φ K, S rs φ K → rs.length ≤ 17) (h : Shows Tryz.prog gls c200 [.t 2] S) : Snd Tryz.prog gls 200 S :=
  snd_code Tryz.func200 c200_eq (by kernel_rfl) (by kernel_rfl) Tryz.ntmps200 hargs h
-- 214 bursar/quant.edge (17 slots, 1 parameters)
def c214r0 : List AOper := [
  ⟨some 2, none, .mov (.k (.p (.val (.bool false))))⟩]
def c214r1 : List AOper := [
  ⟨some 3, none, .mov (.t 0)⟩,
  ⟨some 4, none, .bin .geq 5 (.t 3) (.k (.p (.val (.int .u8 97))))⟩,
  ⟨some 5, none, .mov (.t 4)⟩,
  ⟨some 6, some (5, true), .mov (.t 0)⟩,
  ⟨some 7, some (5, true), .bin .leq 5 (.t 6) (.k (.p (.val (.int .u8 122))))⟩,
  ⟨some 8, none, .pick (.t 5) (.t 7) (.k (.p (.val (.bool false))))⟩,
  ⟨some 9, none, .mov (.t 8)⟩,
  ⟨some 10, some (9, false), .mov (.t 0)⟩,
  ⟨some 11, some (9, false), .bin .geq 5 (.t 10) (.k (.p (.val (.int .u8 48))))⟩,
  ⟨some 12, some (9, false), .mov (.t 11)⟩,
  ⟨some 13, some (12, true), .mov (.t 0)⟩,
  ⟨some 14, some (12, true), .bin .leq 5 (.t 13) (.k (.p (.val (.int .u8 57))))⟩,
  ⟨some 15, some (9, false), .pick (.t 12) (.t 14) (.k (.p (.val (.bool false))))⟩,
  ⟨some 16, none, .pick (.t 9) (.k (.p (.val (.bool true)))) (.t 15)⟩,
  ⟨some 2, none, .mov (.t 16)⟩]
def c214 : ACode := (.seq (.reg c214r0) (.seq (.reg c214r1) .ret))
theorem c214_eq : (Tryz.f214.body).map (tr Tryz.prog gls 17) = some c214 := by kernel_rfl
theorem k214 {S : Am.Spec} (hargs : ∀ rs φ K, S rs φ K → rs.length ≤ 17) (h : Shows Tryz.prog gls c214 [.t 2] S) : Snd Tryz.prog gls 214 S :=
  snd_code Tryz.func214 c214_eq (by kernel_rfl) (by kernel_rfl) Tryz.ntmps214 hargs h
-- 100 bursar/quota.of (20 slots, 2 parameters)
def c100r0 : List AOper := [
  ⟨some 4, none, .mov (.k (.p (.val (.int .i64 0))))⟩]
def c100r1 : List AOper := [
  ⟨some 7, none, .mov (.t 0)⟩,
  ⟨some 8, none, .len (.t 7)⟩,
  ⟨some 9, none, .mov (.k (.p (.val (.int .i64 0))))⟩]
def c100r2 : List AOper := [
  ⟨some 10, none, .bin .lss 3 (.t 9) (.t 8)⟩]
def c100r3 : List AOper := [
  ⟨some 11, none, .iad 2 (.t 7) (.t 9)⟩,
  ⟨some 12, none, .load true 2 (.t 11)⟩,
  ⟨some 6, none, .alloc [(.val (.string ⟨#[]⟩)), (.val (.int .i64 0))]⟩,
  ⟨none, none, .store 2 (.t 6) (.t 12)⟩]
def c100r4 : List AOper := [
  ⟨some 13, none, .fad 0 (.t 6)⟩,
  ⟨some 14, none, .load false 1 (.t 13)⟩,
  ⟨some 15, none, .mov (.t 1)⟩,
  ⟨some 16, none, .bin .eql 9 (.t 14) (.t 15)⟩]
def c100r5 : List AOper := [
  ⟨some 17, none, .fad 1 (.t 6)⟩,
  ⟨some 18, none, .load false 1 (.t 17)⟩,
  ⟨some 4, none, .mov (.t 18)⟩]
def c100r6 : List AOper := [
  ⟨some 19, none, .bin .add 3 (.t 9) (.k (.p (.val (.int .i64 1))))⟩,
  ⟨some 9, none, .mov (.t 19)⟩]
def c100l7 : ACode := (.seq (.reg c100r2) (.seq (.cond (.t 10) .skip (.exit 0)) (.seq (.block 1 (.seq (.reg c100r3) (.seq (.reg c100r4) (.cond (.t 16) (.seq (.reg c100r5) .ret) .skip)))) (.reg c100r6))))
def c100r8 : List AOper := [
  ⟨some 4, none, .mov (.k (.p (.val (.int .i64 0))))⟩]
def c100 : ACode := (.seq (.reg c100r0) (.seq (.seq (.reg c100r1) (.block 0 (.loop c100l7))) (.seq (.reg c100r8) .ret)))
theorem c100_eq : (Tryz.f100.body).map (tr Tryz.prog gls 20) = some c100 := by kernel_rfl
theorem k100 {S : Am.Spec} (hargs : ∀ rs φ K, S rs φ K → rs.length ≤ 20) (h : Shows Tryz.prog gls c100 [.t 4] S) : Snd Tryz.prog gls 100 S :=
  snd_code Tryz.func100 c100_eq (by kernel_rfl) (by kernel_rfl) Tryz.ntmps100 hargs h
-- 65 bursar/quant.Add (19 slots, 2 parameters)
def c65r0 : List AOper := [
  ⟨some 4, none, .mov (.k (.p (.val (.int .i64 0))))⟩,
  ⟨some 5, none, .mov (.k (.p (.val (.int .i64 0))))⟩]
def c65r1 : List AOper := [
  ⟨some 6, none, .mov (.t 0)⟩,
  ⟨some 7, none, .bin .lss 2 (.t 6) (.k (.p (.val (.int .i64 0))))⟩,
  ⟨some 8, none, .mov (.t 7)⟩,
  ⟨some 9, some (8, false), .mov (.t 1)⟩,
  ⟨some 10, some (8, false), .bin .lss 2 (.t 9) (.k (.p (.val (.int .i64 0))))⟩,
  ⟨some 11, none, .pick (.t 8) (.k (.p (.val (.bool true)))) (.t 10)⟩]
def c65r2 : List AOper := [
  ⟨some 4, none, .mov (.k (.p (.val (.int .i64 0))))⟩,
  ⟨some 5, none, .mov (.k (.p (.val (.int .i64 1))))⟩]
def c65r3 : List AOper := [
  ⟨some 12, none, .mov (.t 0)⟩,
  ⟨some 13, none, .mov (.t 1)⟩,
  ⟨some 14, none, .bin .sub 2 (.k (.p (.val (.int .i64 9223372036854775807)))) (.t 13)⟩,
  ⟨some 15, none, .bin .gtr 2 (.t 12) (.t 14)⟩]
def c65r4 : List AOper := [
  ⟨some 4, none, .mov (.k (.p (.val (.int .i64 0))))⟩,
  ⟨some 5, none, .mov (.k (.p (.val (.int .i64 7))))⟩]
def c65r5 : List AOper := [
  ⟨some 16, none, .mov (.t 0)⟩,
  ⟨some 17, none, .mov (.t 1)⟩,
  ⟨some 18, none, .bin .add 2 (.t 16) (.t 17)⟩,
  ⟨some 4, none, .mov (.t 18)⟩,
  ⟨some 5, none, .mov (.k (.p (.val (.int .i64 0))))⟩]
def c65 : ACode := (.seq (.reg c65r0) (.seq (.seq (.reg c65r1) (.cond (.t 11) (.seq (.reg c65r2) .ret) .skip)) (.seq (.seq (.reg c65r3) (.cond (.t 15) (.seq (.reg c65r4) .ret) .skip)) (.seq (.reg c65r5) .ret))))
theorem c65_eq : (Tryz.f65.body).map (tr Tryz.prog gls 19) = some c65 := by kernel_rfl
theorem k65 {S : Am.Spec} (hargs : ∀ rs φ K, S rs φ K → rs.length ≤ 19) (h : Shows Tryz.prog gls c65 [.t 4, .t 5] S) : Snd Tryz.prog gls 65 S :=
  snd_code Tryz.func65 c65_eq (by kernel_rfl) (by kernel_rfl) Tryz.ntmps65 hargs h
-- 163 bursar/object.named (19 slots, 2 parameters)
def c163r0 : List AOper := [
  ⟨some 4, none, .mov (.k (.p (.val (.bool false))))⟩]
def c163r1 : List AOper := [
  ⟨some 5, none, .mov (.k (.p (.val (.int .i64 1))))⟩]
def c163r2 : List AOper := [
  ⟨some 6, none, .mov (.t 5)⟩,
  ⟨some 7, none, .mov (.t 0)⟩,
  ⟨some 8, none, .bin .lss 3 (.t 6) (.t 7)⟩]
def c163r3 : List AOper := [
  ⟨some 11, none, .mov (.t 1)⟩,
  ⟨some 12, none, .mov (.t 5)⟩,
  ⟨some 13, none, .callv (.t 11) [(.t 12)]⟩,
  ⟨some 14, none, .mov (.t 1)⟩,
  ⟨some 15, none, .mov (.t 5)⟩,
  ⟨some 16, none, .bin .sub 3 (.t 15) (.k (.p (.val (.int .i64 1))))⟩,
  ⟨some 17, none, .callv (.t 14) [(.t 16)]⟩,
  ⟨some 18, none, .bin .leq 9 (.t 13) (.t 17)⟩]
def c163r4 : List AOper := [
  ⟨some 4, none, .mov (.k (.p (.val (.bool false))))⟩]
def c163r5 : List AOper := [
  ⟨some 9, none, .mov (.t 5)⟩,
  ⟨some 10, none, .bin .add 3 (.t 9) (.k (.p (.val (.int .i64 1))))⟩,
  ⟨some 5, none, .mov (.t 10)⟩]
def c163l6 : ACode := (.seq (.seq (.reg c163r2) (.cond (.t 8) .skip (.exit 0))) (.seq (.block 1 (.seq (.reg c163r3) (.cond (.t 18) (.seq (.reg c163r4) .ret) .skip))) (.reg c163r5)))
def c163r7 : List AOper := [
  ⟨some 4, none, .mov (.k (.p (.val (.bool true))))⟩]
def c163 : ACode := (.seq (.reg c163r0) (.seq (.seq (.reg c163r1) (.block 0 (.loop c163l6))) (.seq (.reg c163r7) .ret)))
theorem c163_eq : (Tryz.f163.body).map (tr Tryz.prog gls 19) = some c163 := by kernel_rfl
theorem k163 {S : Am.Spec} (hargs : ∀ rs φ K, S rs φ K → rs.length ≤ 19) (h : Shows Tryz.prog gls c163 [.t 4] S) : Snd Tryz.prog gls 163 S :=
  snd_code Tryz.func163 c163_eq (by kernel_rfl) (by kernel_rfl) Tryz.ntmps163 hargs h
-- 164 bursar/object.formedObject$1 (10 slots, 1 parameters)
def c164r0 : List AOper := [
  ⟨some 3, none, .mov (.k (.p (.val (.string ⟨#[]⟩))))⟩]
def c164r1 : List AOper := [
  ⟨some 4, none, .fad 5 (.t 1)⟩,
  ⟨some 5, none, .load false 1 (.t 4)⟩,
  ⟨some 6, none, .mov (.t 0)⟩,
  ⟨some 7, none, .iad 3 (.t 5) (.t 6)⟩,
  ⟨some 8, none, .fad 0 (.t 7)⟩,
  ⟨some 9, none, .load false 1 (.t 8)⟩,
  ⟨some 3, none, .mov (.t 9)⟩]
def c164 : ACode := (.seq (.reg c164r0) (.seq (.reg c164r1) .ret))
theorem c164_eq : (Tryz.f164.body).map (tr Tryz.prog gls 10) = some c164 := by kernel_rfl
theorem k164 {S : Am.Spec} (hargs : ∀ rs φ K, S rs φ K → rs.length ≤ 10) (h : Shows Tryz.prog gls c164 [.t 3] S) : Snd Tryz.prog gls 164 S :=
  snd_code Tryz.func164 c164_eq (by kernel_rfl) (by kernel_rfl) Tryz.ntmps164 hargs h
-- 188 bursar/object.formedQuota$1 (10 slots, 1 parameters)
def c188r0 : List AOper := [
  ⟨some 3, none, .mov (.k (.p (.val (.string ⟨#[]⟩))))⟩]
def c188r1 : List AOper := [
  ⟨some 4, none, .fad 4 (.t 1)⟩,
  ⟨some 5, none, .load false 1 (.t 4)⟩,
  ⟨some 6, none, .mov (.t 0)⟩,
  ⟨some 7, none, .iad 2 (.t 5) (.t 6)⟩,
  ⟨some 8, none, .fad 0 (.t 7)⟩,
  ⟨some 9, none, .load false 1 (.t 8)⟩,
  ⟨some 3, none, .mov (.t 9)⟩]
def c188 : ACode := (.seq (.reg c188r0) (.seq (.reg c188r1) .ret))
theorem c188_eq : (Tryz.f188.body).map (tr Tryz.prog gls 10) = some c188 := by kernel_rfl
theorem k188 {S : Am.Spec} (hargs : ∀ rs φ K, S rs φ K → rs.length ≤ 10) (h : Shows Tryz.prog gls c188 [.t 3] S) : Snd Tryz.prog gls 188 S :=
  snd_code Tryz.func188 c188_eq (by kernel_rfl) (by kernel_rfl) Tryz.ntmps188 hargs h
-- 196 bursar/quota.has$1 (8 slots, 1 parameters)
def c196r0 : List AOper := [
  ⟨some 2, none, .box (.t 0)⟩,
  ⟨some 3, none, .mov (.k (.p (.val (.bool false))))⟩]
def c196r1 : List AOper := [
  ⟨some 4, none, .fad 0 (.t 2)⟩,
  ⟨some 5, none, .load false 1 (.t 4)⟩,
  ⟨some 6, none, .load false 1 (.t 1)⟩,
  ⟨some 7, none, .bin .eql 9 (.t 5) (.t 6)⟩,
  ⟨some 3, none, .mov (.t 7)⟩]
def c196 : ACode := (.seq (.reg c196r0) (.seq (.reg c196r1) .ret))
theorem c196_eq : (Tryz.f196.body).map (tr Tryz.prog gls 8) = some c196 := by kernel_rfl
theorem k196 {S : Am.Spec} (hargs : ∀ rs φ K, S rs φ K → rs.length ≤ 8) (h : Shows Tryz.prog gls c196 [.t 3] S) : Snd Tryz.prog gls 196 S :=
  snd_code Tryz.func196 c196_eq (by kernel_rfl) (by kernel_rfl) Tryz.ntmps196 hargs h
-- 52 bursar/quota.Fits$1 (6 slots, 1 parameters)
def c52r0 : List AOper := [
  ⟨some 1, none, .box (.t 0)⟩,
  ⟨some 2, none, .mov (.k (.p (.val (.bool false))))⟩]
def c52r1 : List AOper := [
  ⟨some 3, none, .load true 7 (.t 1)⟩,
  ⟨some 4, none, .call 23 [(.t 3)]⟩,
  ⟨some 5, none, .bin .neq 38 (.t 4) (.k (.p (.val (.int .i64 0))))⟩,
  ⟨some 2, none, .mov (.t 5)⟩]
def c52 : ACode := (.seq (.reg c52r0) (.seq (.reg c52r1) .ret))
theorem c52_eq : (Tryz.f52.body).map (tr Tryz.prog gls 6) = some c52 := by kernel_rfl
theorem k52 {S : Am.Spec} (hargs : ∀ rs φ K, S rs φ K → rs.length ≤ 6) (h : Shows Tryz.prog gls c52 [.t 2] S) : Snd Tryz.prog gls 52 S :=
  snd_code Tryz.func52 c52_eq (by kernel_rfl) (by kernel_rfl) Tryz.ntmps52 hargs h
-- 96 bursar/quota.valid$1 (6 slots, 1 parameters)
def c96r0 : List AOper := [
  ⟨some 1, none, .box (.t 0)⟩,
  ⟨some 2, none, .mov (.k (.p (.val (.bool false))))⟩]
def c96r1 : List AOper := [
  ⟨some 3, none, .load true 5 (.t 1)⟩,
  ⟨some 4, none, .call 41 [(.t 3)]⟩,
  ⟨some 5, none, .bin .neq 38 (.t 4) (.k (.p (.val (.int .i64 0))))⟩,
  ⟨some 2, none, .mov (.t 5)⟩]
def c96 : ACode := (.seq (.reg c96r0) (.seq (.reg c96r1) .ret))
theorem c96_eq : (Tryz.f96.body).map (tr Tryz.prog gls 6) = some c96 := by kernel_rfl
theorem k96 {S : Am.Spec} (hargs : ∀ rs φ K, S rs φ K → rs.length ≤ 6) (h : Shows Tryz.prog gls c96 [.t 2] S) : Snd Tryz.prog gls 96 S :=
  snd_code Tryz.func96 c96_eq (by kernel_rfl) (by kernel_rfl) Tryz.ntmps96 hargs h
-- 64 bursar/scope.Uses$1 (6 slots, 1 parameters)
def c64r0 : List AOper := [
  ⟨some 1, none, .box (.t 0)⟩,
  ⟨some 2, none, .mov (.k (.p (.val (.bool false))))⟩]
def c64r1 : List AOper := [
  ⟨some 3, none, .fad 1 (.t 1)⟩,
  ⟨some 4, none, .load false 1 (.t 3)⟩,
  ⟨some 5, none, .bin .lss 2 (.t 4) (.k (.p (.val (.int .i64 0))))⟩,
  ⟨some 2, none, .mov (.t 5)⟩]
def c64 : ACode := (.seq (.reg c64r0) (.seq (.reg c64r1) .ret))
theorem c64_eq : (Tryz.f64.body).map (tr Tryz.prog gls 6) = some c64 := by kernel_rfl
theorem k64 {S : Am.Spec} (hargs : ∀ rs φ K, S rs φ K → rs.length ≤ 6) (h : Shows Tryz.prog gls c64 [.t 2] S) : Snd Tryz.prog gls 64 S :=
  snd_code Tryz.func64 c64_eq (by kernel_rfl) (by kernel_rfl) Tryz.ntmps64 hargs h
-- 125 internal/stringslite.HasPrefix (18 slots, 2 parameters)
def c125r0 : List AOper := [
  ⟨some 4, none, .mov (.k (.p (.val (.bool false))))⟩]
def c125r1 : List AOper := [
  ⟨some 5, none, .mov (.t 0)⟩,
  ⟨some 6, none, .lens (.t 5)⟩,
  ⟨some 7, none, .mov (.t 1)⟩,
  ⟨some 8, none, .lens (.t 7)⟩,
  ⟨some 9, none, .bin .geq 3 (.t 6) (.t 8)⟩,
  ⟨some 10, none, .mov (.t 9)⟩,
  ⟨some 11, some (10, true), .mov (.t 0)⟩,
  ⟨some 12, some (10, true), .mov (.t 1)⟩,
  ⟨some 13, some (10, true), .lens (.t 12)⟩,
  ⟨some 14, some (10, true), .slcs (.t 11) none (some (.t 13))⟩,
  ⟨some 15, some (10, true), .mov (.t 1)⟩,
  ⟨some 16, some (10, true), .bin .eql 9 (.t 14) (.t 15)⟩,
  ⟨some 17, none, .pick (.t 10) (.t 16) (.k (.p (.val (.bool false))))⟩,
  ⟨some 4, none, .mov (.t 17)⟩]
def c125 : ACode := (.seq (.reg c125r0) (.seq (.reg c125r1) .ret))
theorem c125_eq : (Tryz.f125.body).map (tr Tryz.prog gls 18) = some c125 := by kernel_rfl
theorem k125 {S : Am.Spec} (hargs : ∀ rs φ K, S rs φ K → rs.length ≤ 18) (h : Shows Tryz.prog gls c125 [.t 4] S) : Snd Tryz.prog gls 125 S :=
  snd_code Tryz.func125 c125_eq (by kernel_rfl) (by kernel_rfl) Tryz.ntmps125 hargs h
-- 194 internal/stringslite.CutPrefix (15 slots, 2 parameters)
def c194r0 : List AOper := [
  ⟨some 4, none, .mov (.k (.p (.val (.string ⟨#[]⟩))))⟩,
  ⟨some 5, none, .mov (.k (.p (.val (.bool false))))⟩]
def c194r1 : List AOper := [
  ⟨some 6, none, .mov (.t 0)⟩,
  ⟨some 7, none, .mov (.t 1)⟩,
  ⟨some 8, none, .call 125 [(.t 6), (.t 7)]⟩,
  ⟨some 9, none, .un .not (.t 8)⟩]
def c194r2 : List AOper := [
  ⟨some 10, none, .mov (.t 0)⟩,
  ⟨some 4, none, .mov (.t 10)⟩,
  ⟨some 5, none, .mov (.k (.p (.val (.bool false))))⟩]
def c194r3 : List AOper := [
  ⟨some 11, none, .mov (.t 0)⟩,
  ⟨some 12, none, .mov (.t 1)⟩,
  ⟨some 13, none, .lens (.t 12)⟩,
  ⟨some 14, none, .slcs (.t 11) (some (.t 13)) none⟩,
  ⟨some 4, none, .mov (.t 14)⟩,
  ⟨some 5, none, .mov (.k (.p (.val (.bool true))))⟩]
def c194 : ACode := (.seq (.reg c194r0) (.seq (.seq (.reg c194r1) (.cond (.t 9) (.seq (.reg c194r2) .ret) .skip)) (.seq (.reg c194r3) .ret)))
theorem c194_eq : (Tryz.f194.body).map (tr Tryz.prog gls 15) = some c194 := by kernel_rfl
theorem k194 {S : Am.Spec} (hargs : ∀ rs φ K, S rs φ K → rs.length ≤ 15) (h : Shows Tryz.prog gls c194 [.t 4, .t 5] S) : Snd Tryz.prog gls 194 S :=
  snd_code Tryz.func194 c194_eq (by kernel_rfl) (by kernel_rfl) Tryz.ntmps194 hargs h
-- 144 strings.CutPrefix (11 slots, 2 parameters)
def c144r0 : List AOper := [
  ⟨some 4, none, .mov (.k (.p (.val (.string ⟨#[]⟩))))⟩,
  ⟨some 5, none, .mov (.k (.p (.val (.bool false))))⟩]
def c144r1 : List AOper := [
  ⟨some 6, none, .mov (.t 0)⟩,
  ⟨some 7, none, .mov (.t 1)⟩,
  ⟨some 8, none, .call 194 [(.t 6), (.t 7)]⟩,
  ⟨some 9, none, .ext (.t 8) 0⟩,
  ⟨some 10, none, .ext (.t 8) 1⟩,
  ⟨some 4, none, .mov (.t 9)⟩,
  ⟨some 5, none, .mov (.t 10)⟩]
def c144 : ACode := (.seq (.reg c144r0) (.seq (.reg c144r1) .ret))
theorem c144_eq : (Tryz.f144.body).map (tr Tryz.prog gls 11) = some c144 := by kernel_rfl
theorem k144 {S : Am.Spec} (hargs : ∀ rs φ K, S rs φ K → rs.length ≤ 11) (h : Shows Tryz.prog gls c144 [.t 4, .t 5] S) : Snd Tryz.prog gls 144 S :=
  snd_code Tryz.func144 c144_eq (by kernel_rfl) (by kernel_rfl) Tryz.ntmps144 hargs h
-- 195 internal/stringslite.TrimPrefix (13 slots, 2 parameters)
def c195r0 : List AOper := [
  ⟨some 4, none, .mov (.k (.p (.val (.string ⟨#[]⟩))))⟩]
def c195r1 : List AOper := [
  ⟨some 5, none, .mov (.t 0)⟩,
  ⟨some 6, none, .mov (.t 1)⟩,
  ⟨some 7, none, .call 125 [(.t 5), (.t 6)]⟩]
def c195r2 : List AOper := [
  ⟨some 8, none, .mov (.t 0)⟩,
  ⟨some 9, none, .mov (.t 1)⟩,
  ⟨some 10, none, .lens (.t 9)⟩,
  ⟨some 11, none, .slcs (.t 8) (some (.t 10)) none⟩,
  ⟨some 4, none, .mov (.t 11)⟩]
def c195r3 : List AOper := [
  ⟨some 12, none, .mov (.t 0)⟩,
  ⟨some 4, none, .mov (.t 12)⟩]
def c195 : ACode := (.seq (.reg c195r0) (.seq (.seq (.reg c195r1) (.cond (.t 7) (.seq (.reg c195r2) .ret) .skip)) (.seq (.reg c195r3) .ret)))
theorem c195_eq : (Tryz.f195.body).map (tr Tryz.prog gls 13) = some c195 := by kernel_rfl
theorem k195 {S : Am.Spec} (hargs : ∀ rs φ K, S rs φ K → rs.length ≤ 13) (h : Shows Tryz.prog gls c195 [.t 4] S) : Snd Tryz.prog gls 195 S :=
  snd_code Tryz.func195 c195_eq (by kernel_rfl) (by kernel_rfl) Tryz.ntmps195 hargs h
-- 145 strings.TrimPrefix (8 slots, 2 parameters)
def c145r0 : List AOper := [
  ⟨some 4, none, .mov (.k (.p (.val (.string ⟨#[]⟩))))⟩]
def c145r1 : List AOper := [
  ⟨some 5, none, .mov (.t 0)⟩,
  ⟨some 6, none, .mov (.t 1)⟩,
  ⟨some 7, none, .call 195 [(.t 5), (.t 6)]⟩,
  ⟨some 4, none, .mov (.t 7)⟩]
def c145 : ACode := (.seq (.reg c145r0) (.seq (.reg c145r1) .ret))
theorem c145_eq : (Tryz.f145.body).map (tr Tryz.prog gls 8) = some c145 := by kernel_rfl
theorem k145 {S : Am.Spec} (hargs : ∀ rs φ K, S rs φ K → rs.length ≤ 8) (h : Shows Tryz.prog gls c145 [.t 4] S) : Snd Tryz.prog gls 145 S :=
  snd_code Tryz.func145 c145_eq (by kernel_rfl) (by kernel_rfl) Tryz.ntmps145 hargs h
-- 74 strings.HasPrefix (8 slots, 2 parameters)
def c74r0 : List AOper := [
  ⟨some 4, none, .mov (.k (.p (.val (.bool false))))⟩]
def c74r1 : List AOper := [
  ⟨some 5, none, .mov (.t 0)⟩,
  ⟨some 6, none, .mov (.t 1)⟩,
  ⟨some 7, none, .call 125 [(.t 5), (.t 6)]⟩,
  ⟨some 4, none, .mov (.t 7)⟩]
def c74 : ACode := (.seq (.reg c74r0) (.seq (.reg c74r1) .ret))
theorem c74_eq : (Tryz.f74.body).map (tr Tryz.prog gls 8) = some c74 := by kernel_rfl
theorem k74 {S : Am.Spec} (hargs : ∀ rs φ K, S rs φ K → rs.length ≤ 8) (h : Shows Tryz.prog gls c74 [.t 4] S) : Snd Tryz.prog gls 74 S :=
  snd_code Tryz.func74 c74_eq (by kernel_rfl) (by kernel_rfl) Tryz.ntmps74 hargs h
end Go.Proofs.YtnjblinbdimkjaaGreatDoor

namespace Go.Proofs.YtnjblinbdimkjaaGreatDoor
open Go Go.Am
set_option linter.unusedSimpArgs false

theorem K_bool {K : Out → Res → Prop} {φ : Res} {b b' : Bool} (h : K (.one (.p (.val (.bool b)))) φ) (e : b = b') : K (.one (.p (.val (.bool b')))) φ := e ▸ h
theorem K_int {K : Out → Res → Prop} {φ : Res} {k : IntKind} {b b' : Int} (h : K (.one (.p (.val (.int k b)))) φ) (e : b = b') : K (.one (.p (.val (.int k b')))) φ := e ▸ h

abbrev rI (n : Int) : RV := .p (.val (.int .i64 n))
abbrev rB (b : Bool) : RV := .p (.val (.bool b))
abbrev rS (s : ByteArray) : RV := .p (.val (.string s))

def plainF (c : Int) : Bool := (decide (97 ≤ c) && decide (c ≤ 122)) || (decide (48 ≤ c) && decide (c ≤ 57))
def S200 : Am.Spec := fun rs φ K => ∃ c : Int, rs = [.p (.val (.int .i32 c))] ∧ K (.one (rB (plainF c))) φ
theorem d200 : Snd Tryz.prog gls 200 S200 := by
  refine k200 (by rintro rs φ K ⟨c, rfl, -⟩; simp) ?_
  rintro rs φ K ⟨c, rfl, hK⟩
  simp -implicitDefEqProofs only [go_sem, Nat.reduceBEq, Nat.reduceAdd, c200, c200r0, c200r1]
  (repeat' (first | (intro _) | (refine And.intro ?_ ?_))) <;> exact K_bool hK (by simp_all [plainF] <;> omega)

def S214 : Am.Spec := fun rs φ K => ∃ c : Int, rs = [.p (.val (.int .u8 c))] ∧ K (.one (rB (plainF c))) φ
theorem d214 : Snd Tryz.prog gls 214 S214 := by
  refine k214 (by rintro rs φ K ⟨c, rfl, -⟩; simp) ?_
  rintro rs φ K ⟨c, rfl, hK⟩
  simp -implicitDefEqProofs only [go_sem, Nat.reduceBEq, Nat.reduceAdd, c214, c214r0, c214r1]
  (repeat' (first | (intro _) | (refine And.intro ?_ ?_))) <;> exact K_bool hK (by simp_all [plainF] <;> omega)

def S161 : Am.Spec := fun rs φ K => ∃ n lo hi : Int, rs = [rI n, rI lo, rI hi] ∧ K (.one (rB (decide (lo ≤ n) && decide (n ≤ hi)))) φ
theorem d161 : Snd Tryz.prog gls 161 S161 := by
  refine k161 (by rintro rs φ K ⟨c, l, h, rfl, -⟩; simp) ?_
  rintro rs φ K ⟨n, lo, hi, rfl, hK⟩
  simp -implicitDefEqProofs only [go_sem, Nat.reduceBEq, Nat.reduceAdd, c161, c161r0, c161r1]
  (repeat' (first | (intro _) | (refine And.intro ?_ ?_))) <;> exact K_bool hK (by simp_all <;> omega)

/-- a scope: its kind and its argument -/
abbrev Scope := Int × Int
def encSc (s : Scope) : List PV := [.val (.int .i64 s.1), .val (.int .i64 s.2)]
def validF (s : Scope) : Bool := decide (0 ≤ s.1) && decide (s.1 < 6) && (if s.1 = 5 then decide (0 ≤ s.2) && decide (s.2 < 10) else decide (s.2 = 0))
def S76 : Am.Spec := fun rs φ K => ∃ s : Scope, rs = [.agg (encSc s)] ∧ K (.one (rB (validF s))) φ
theorem d76 : Snd Tryz.prog gls 76 S76 := by
  refine k76 (by rintro rs φ K ⟨c, rfl, -⟩; simp) ?_
  rintro rs φ K ⟨⟨a, b⟩, rfl, hK⟩
  simp -implicitDefEqProofs only [go_sem, Nat.reduceBEq, Nat.reduceAdd, c76, c76r0, c76r1, c76r2, c76r3, c76r4, c76r5, encSc]
  (repeat' (first | (intro _) | (refine And.intro ?_ ?_))) <;> exact K_bool hK (by simp_all [validF] <;> omega)
end Go.Proofs.YtnjblinbdimkjaaGreatDoor

namespace Go.Proofs.YtnjblinbdimkjaaGreatDoor
open Go Go.Am
set_option linter.unusedSimpArgs false

theorem K_tup {K : Out → Res → Prop} {φ : Res} {l l' : List RV} (h : K (.tup l) φ) (e : l = l') : K (.tup l') φ := e ▸ h

def maxI : Int := 9223372036854775807
/-- quant.Add: its number and its word -/
def addF (a b : Int) : Int × Int := if a < 0 ∨ b < 0 then (0, 1) else if maxI - b < a then (0, 7) else (a + b, 0)
theorem addF_neg {a b : Int} (h : a < 0 ∨ b < 0) : addF a b = (0, 1) := by simp [addF, h]
theorem addF_over {a b : Int} (h : 0 ≤ a) (h' : 0 ≤ b) (h2 : maxI - b < a) : addF a b = (0, 7) := by
  have : ¬ (a < 0 ∨ b < 0) := by omega
  simp [addF, this, h2]
theorem addF_ok {a b : Int} (h : 0 ≤ a) (h' : 0 ≤ b) (h2 : ¬ maxI - b < a) : addF a b = (a + b, 0) := by
  have : ¬ (a < 0 ∨ b < 0) := by omega
  simp [addF, this, h2]
def S65 : Am.Spec := fun rs φ K => ∃ a b : Int, rs = [rI a, rI b] ∧ a ≤ maxI ∧ b ≤ maxI ∧ K (.tup [rI (addF a b).1, rI (addF a b).2]) φ
theorem d65 : Snd Tryz.prog gls 65 S65 := by
  refine k65 (by rintro rs φ K ⟨a, b, rfl, -⟩; simp) ?_
  rintro rs φ K ⟨a, b, rfl, ha, hb, hK⟩
  simp -implicitDefEqProofs only [go_sem, Nat.reduceBEq, Nat.reduceAdd, c65, c65r0, c65r1, c65r2, c65r3, c65r4, c65r5]
  simp only [decide_eq_true_eq, decide_eq_false_iff_not]
  have w1 : 0 ≤ b → IntKind.i64.wrap (9223372036854775807 - b) = maxI - b := fun h => Am.wrap_small (by simp only [maxI] at hb; omega) (by omega)
  refine ⟨fun h => ⟨fun h' => ?_, fun h' => ⟨fun h2 => ?_, fun h2 => ?_⟩⟩, fun h => ?_⟩
  · rw [addF_neg (.inr h')] at hK; exact hK
  · rw [w1 (by omega)] at h2; rw [addF_over (by omega) (by omega) h2] at hK; exact hK
  · rw [w1 (by omega)] at h2; rw [addF_ok (by omega) (by omega) h2] at hK
    rw [Am.wrap_small (by omega) (by simp only [maxI] at h2; omega)]; exact hK
  · rw [addF_neg (.inl h)] at hK; exact hK

/-- strings.HasPrefix -/
def preF (s p : ByteArray) : Bool := decide (p.size ≤ s.size) && decide (s.extract 0 p.size = p)
def S125 : Am.Spec := fun rs φ K => ∃ s p : ByteArray, rs = [rS s, rS p] ∧ K (.one (rB (preF s p))) φ
theorem d125 : Snd Tryz.prog gls 125 S125 := by
  refine k125 (by rintro rs φ K ⟨a, b, rfl, -⟩; simp) ?_
  rintro rs φ K ⟨s, p, rfl, hK⟩
  simp -implicitDefEqProofs only [go_sem, Nat.reduceBEq, Nat.reduceAdd, c125, c125r0, c125r1, Int.toNat_zero, Int.toNat_natCast]
  simp only [decide_eq_true_eq, decide_eq_false_iff_not, Int.ofNat_le]
  refine ⟨fun h => ⟨by omega, by omega, h, ?_⟩, fun h => ?_⟩
  · exact K_bool hK (by simp [preF, h])
  · exact K_bool hK (by simp [preF, h])

theorem d74 : Snd Tryz.prog gls 74 S125 := by
  refine k74 (by rintro rs φ K ⟨a, b, rfl, -⟩; simp) ?_
  rintro rs φ K ⟨s, p, rfl, hK⟩
  simp -implicitDefEqProofs only [go_sem, Nat.reduceBEq, Nat.reduceAdd, c74, c74r0, c74r1]
  refine callS_of d125 ⟨s, p, rfl, ?_⟩
  simp -implicitDefEqProofs only [go_sem, Nat.reduceBEq]
  exact hK

/-- strings.CutPrefix -/
def cutF (s p : ByteArray) : ByteArray × Bool := if preF s p then (s.extract p.size s.size, true) else (s, false)
def S194 : Am.Spec := fun rs φ K => ∃ s p : ByteArray, rs = [rS s, rS p] ∧ K (.tup [rS (cutF s p).1, rB (cutF s p).2]) φ
theorem d194 : Snd Tryz.prog gls 194 S194 := by
  refine k194 (by rintro rs φ K ⟨a, b, rfl, -⟩; simp) ?_
  rintro rs φ K ⟨s, p, rfl, hK⟩
  simp -implicitDefEqProofs only [go_sem, Nat.reduceBEq, Nat.reduceAdd, c194, c194r0, c194r1, c194r2, c194r3]
  refine callS_of d125 ⟨s, p, rfl, ?_⟩
  simp -implicitDefEqProofs only [go_sem, Nat.reduceBEq]
  simp only [Bool.not_eq_true', Bool.not_eq_false', Int.toNat_natCast, Int.ofNat_le]
  refine ⟨fun h => ?_, fun h => ⟨by omega, ?_, by omega, ?_⟩⟩
  · refine K_tup hK ?_; simp [cutF, h]
  · simp [preF] at h; exact h.1
  · refine K_tup hK ?_; simp [cutF, h]
theorem d144 : Snd Tryz.prog gls 144 S194 := by
  refine k144 (by rintro rs φ K ⟨a, b, rfl, -⟩; simp) ?_
  rintro rs φ K ⟨s, p, rfl, hK⟩
  simp -implicitDefEqProofs only [go_sem, Nat.reduceBEq, Nat.reduceAdd, c144, c144r0, c144r1]
  refine callS_of d194 ⟨s, p, rfl, ?_⟩
  simp -implicitDefEqProofs only [go_sem, Nat.reduceBEq]
  exact hK

/-- strings.TrimPrefix -/
def S195 : Am.Spec := fun rs φ K => ∃ s p : ByteArray, rs = [rS s, rS p] ∧ K (.one (rS (cutF s p).1)) φ
theorem d195 : Snd Tryz.prog gls 195 S195 := by
  refine k195 (by rintro rs φ K ⟨a, b, rfl, -⟩; simp) ?_
  rintro rs φ K ⟨s, p, rfl, hK⟩
  simp -implicitDefEqProofs only [go_sem, Nat.reduceBEq, Nat.reduceAdd, c195, c195r0, c195r1, c195r2, c195r3]
  refine callS_of d125 ⟨s, p, rfl, ?_⟩
  simp -implicitDefEqProofs only [go_sem, Nat.reduceBEq]
  simp only [Int.toNat_natCast, Int.ofNat_le]
  refine ⟨fun h => ⟨by omega, ?_, by omega, ?_⟩, fun h => ?_⟩
  · simp [preF] at h; exact h.1
  · rw [cutF, h] at hK; exact hK
  · rw [cutF, h] at hK; exact hK
theorem d145 : Snd Tryz.prog gls 145 S195 := by
  refine k145 (by rintro rs φ K ⟨a, b, rfl, -⟩; simp) ?_
  rintro rs φ K ⟨s, p, rfl, hK⟩
  simp -implicitDefEqProofs only [go_sem, Nat.reduceBEq, Nat.reduceAdd, c145, c145r0, c145r1]
  refine callS_of d195 ⟨s, p, rfl, ?_⟩
  simp -implicitDefEqProofs only [go_sem, Nat.reduceBEq]
  exact hK
end Go.Proofs.YtnjblinbdimkjaaGreatDoor
