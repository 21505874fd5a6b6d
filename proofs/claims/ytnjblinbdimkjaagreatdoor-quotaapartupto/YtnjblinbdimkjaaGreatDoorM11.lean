/-
  bursarlaw18.QuotaApart answers true and leaves its arguments as they were, for inputs of bulk at most 1048576 (the given second form; no other condition). Part 11 of 26 of the proof.
-/
import Derived.Test.YtnjblinbdimkjaaGreatDoorM10
import Derived.MapKept
import Derived.WideKeyRuns
import Derived.Maps.RangeRun
/-
  AM: maps from keys to whole numbers.
-/
namespace Go.Am
open Go
open Go.ChangeMaps (setBlock)

set_option linter.unusedSectionVars false
set_option linter.unusedVariables false
variable {P : Program} {gl : Nat → Option (List PV)} {κ : Type} [DecidableEq κ]

/-! ### lists of pairs -/
def mget (k : κ) : List (κ × Int) → Int
  | [] => 0
  | p :: l => if p.1 = k then p.2 else mget k l
def mput (k : κ) (v : Int) : List (κ × Int) → List (κ × Int)
  | [] => [(k, v)]
  | p :: l => if p.1 = k then (k, v) :: l else p :: mput k v l
def mdel (k : κ) : List (κ × Int) → List (κ × Int)
  | [] => []
  | p :: l => if p.1 = k then l else p :: mdel k l
def mfind (k : κ) : List (κ × Int) → Nat → Option (Nat × Value)
  | [], _ => none
  | p :: l, i => if p.1 = k then some (i, .int .i64 p.2) else mfind k l (i + 1)

theorem mfind_get (k : κ) : ∀ (m : List (κ × Int)) (i : Nat), (mfind k m i = none ∧ mget k m = 0 ∧ ∀ v, mput k v m = m ++ [(k, v)]) ∧ mdel k m = m ∨
    (∃ (j : Nat) (n : Int), mfind k m i = some (i + j, .int .i64 n) ∧ mget k m = n ∧ m[j]? = some (k, n) ∧ (∀ v, mput k v m = m.set j (k, v)) ∧ mdel k m = m.eraseIdx j)
  | [], i => .inl ⟨⟨rfl, rfl, fun _ => rfl⟩, rfl⟩
  | p :: l, i => by
    by_cases h : p.1 = k
    · exact .inr ⟨0, p.2, by simp [mfind, h], by simp [mget, h], by simp [← h], fun v => by simp [mput, h], by simp [mdel, h]⟩
    · rcases mfind_get k l (i + 1) with ⟨⟨h1, h2, h3⟩, h4⟩ | ⟨j, n, h1, h2, h3, h4, h5⟩
      · exact .inl ⟨⟨by simp [mfind, h, h1], by simp [mget, h, h2], fun v => by simp [mput, h, h3]⟩, by simp [mdel, h, h4]⟩
      · exact .inr ⟨j + 1, n, by simp [mfind, h, h1]; omega, by simp [mget, h, h2], by simp [h3], fun v => by simp [mput, h, h4], by simp [mdel, h, h5]⟩

/-- what keys must be -/
structure KeyOK (P : Program) (kt : TypeId) (enc : κ → Value) (rv : κ → RV) : Prop where
  rep : ∀ F k v, RepR F (rv k) v → v = enc k
  find : ∀ w k (es : List MapEntry) (m : List (κ × Int)), es.map (fun e => (e.key, e.val)) = m.map (fun p => (enc p.1, Value.int .i64 p.2)) → (Instr.findKey kt (enc k) es).run P w = .ok (mfind k m 0) w
  check : ∀ w e k, (Instr.checkKey e 10000 kt (enc k)).run P w = .ok () w
  bits : ∀ k, Instr.sameBits 10000 (enc k) (enc k) = true

/-! ### a map in memory -/
structure MapOb (enc : κ → Value) (es : Array MapEntry) (clock : Nat) (m : List (κ × Int)) : Prop where
  pairs : es.toList.map (fun e => (e.key, e.val)) = m.map (fun p => (enc p.1, Value.int .i64 p.2))
  born : (es.toList.map (·.born)).Nodup
  old : ∀ e ∈ es.toList, e.born < clock

def Res.map (enc : κ → Value) (b : Nat) (m : List (κ × Int)) : Res where
  fp := fun x => x = b
  ok := fun _ w => ∃ es clock, w.heap[b]? = some (.map es clock) ∧ MapOb enc es clock m
  stable := by
    rintro F F' w w' hF hb ⟨es, c, h, hm⟩
    exact ⟨es, c, by rw [hb b rfl]; exact h, hm⟩

def setMap (w : World) (b : Nat) (o : Obj) : World := { w with heap := w.heap.setIfInBounds b o }
theorem setMap_ne {w : World} {b x : Nat} {o : Obj} (h : x ≠ b) : (setMap w b o).heap[x]? = w.heap[x]? := by simp [setMap, Array.getElem?_setIfInBounds_ne (Ne.symm h)]
theorem setMap_eq {w : World} {b : Nat} {o o' : Obj} (h : w.heap[b]? = some o') : (setMap w b o).heap[b]? = some o := by
  have hlt : b < w.heap.size := (Array.getElem?_eq_some_iff.1 h).1
  simp [setMap, hlt]

def PhMap (φ : Res) (enc : κ → Value) (b : Nat) (m : List (κ × Int)) : Prop := φ.fp b ∧ ∀ F w, φ.ok F w → ∃ es clock, w.heap[b]? = some (.map es clock) ∧ MapOb enc es clock m
def PhMapSet (φ : Res) (enc : κ → Value) (b : Nat) (m : List (κ × Int)) (φ' : Res) : Prop := (∀ x, φ'.fp x ↔ φ.fp x) ∧ ∀ F w es clock, φ.ok F w → MapOb enc es clock m → φ'.ok F (setMap w b (.map es clock))

variable {enc : κ → Value} {rv : κ → RV} {kt : TypeId} {φ ψ φ' ψ' : Res} {b : Nat} {m m' : List (κ × Int)}

theorem phmap : PhMap (Res.map enc b m) enc b m := ⟨rfl, fun _ _ h => h⟩
theorem PhMap.l (h : PhMap ψ enc b m) : PhMap (ψ.sep φ) enc b m := ⟨.inl h.1, fun F w hok => h.2 F w hok.1⟩
theorem PhMap.r (h : PhMap φ enc b m) : PhMap (ψ.sep φ) enc b m := ⟨.inr h.1, fun F w hok => h.2 F w hok.2.1⟩
theorem phset (h : PhMap (Res.map enc b m) enc b m) : PhMapSet (Res.map enc b m) enc b m' (Res.map enc b m') :=
  ⟨fun _ => Iff.rfl, fun F w es c hok hm => by obtain ⟨es0, c0, h0, -⟩ := hok; exact ⟨es, c, setMap_eq h0, hm⟩⟩
theorem PhMapSet.l (hb : ψ.fp b) (h : PhMapSet ψ enc b m ψ') : PhMapSet (ψ.sep φ) enc b m (ψ'.sep φ) :=
  ⟨fun x => by simp [Res.sep, h.1 x], fun F w es c hok hm => ⟨h.2 F w es c hok.1 hm, φ.stable _ _ _ _ (Facts.le_refl _) (fun x hx => setMap_ne (fun e => hok.2.2 b hb (e ▸ hx))) hok.2.1, fun x hx => hok.2.2 x ((h.1 x).1 hx)⟩⟩
theorem PhMapSet.r (hb : φ.fp b) (h : PhMapSet φ enc b m φ') : PhMapSet (ψ.sep φ) enc b m (ψ.sep φ') :=
  ⟨fun x => by simp [Res.sep, h.1 x], fun F w es c hok hm => ⟨ψ.stable _ _ _ _ (Facts.le_refl _) (fun x hx => setMap_ne (fun e => hok.2.2 x hx (e ▸ hb))) hok.1, h.2 F w es c hok.2.1 hm, fun x hx hp => hok.2.2 x hx ((h.1 x).1 hp)⟩⟩

theorem mapV {F : Facts} {v u : Value} (h : RepR F (.p (.val v)) u) : u = v := argV h

/-! ### a map is born -/
theorem run_setMap {w : World} {o o' : Obj} (h : w.heap[b]? = some o) (hm : ∃ es c, o = .map es c) : (setObj b o').run P w = .ok () (setMap w b o') := by
  obtain ⟨es, c, rfl⟩ := hm
  simp [setObj, Sem.run, h, setMap]

def SMakeMap (enc : κ → Value) : Am.Spec := fun rs φ K => rs = [] ∧ ∀ b, K (.one (.p (.val (.map (some b))))) ((Res.map enc b []).sep φ)
theorem make_map {T : TypeId} : SndP P (.makeMap T none) (SMakeMap enc) where
  runs := by
    rintro rs φ K ⟨rfl, hK⟩ o ρ F w ho hF hph hphF hphl hargs
    have hrun : (execOp ρ o).run P w = .ok (.value (.map (some w.heap.size))) (w.alloc (.map #[] 0)) := by
      simp [execOp, ho, Instr.makeMap, newObj, Sem.run]
    have hkp := Kept.alloc w (.map #[] 0)
    refine ⟨_, _, _, hrun, .inl rfl, _, _, F, hK w.heap.size, .val rfl, Facts.le_refl _, hF.keep fun b hb _ => hkp.block b hb (fun e => e), fun _ _ _ _ => rfl,
      ⟨hkp.os, hkp.tape, hkp.output, hkp.size, fun b hb _ => hkp.block b hb (fun e => e)⟩, ⟨⟨#[], 0, heap_alloc_new w _, ⟨rfl, by simp, by simp⟩⟩, ?_, ?_⟩, ?_, ?_, ?_⟩
    · exact φ.stable _ _ _ _ (Facts.le_refl _) (fun b hb => hkp.block b (hphl b hb) (fun e => e)) hph
    · rintro b rfl hp
      have := hphl _ hp; omega
    · rintro b o' (rfl | hb)
      · exact facts_none hF o'
      · exact hphF b o' hb
    · rintro b (rfl | hb)
      · exact .inr (Nat.le_refl _)
      · exact .inl hb
    · rintro b (rfl | hb)
      · show w.heap.size < (w.heap.push _).size; simp
      · exact Nat.lt_of_lt_of_le (hphl b hb) hkp.size

/-! ### what stands at a key -/
def SLook (enc : κ → Value) (rv : κ → RV) : Am.Spec := fun rs φ K => ∃ b k m, rs = [.p (.val (.map (some b))), rv k] ∧ PhMap φ enc b m ∧ K (.one (.p (.val (.int .i64 (mget k m))))) φ
theorem look_map {T e : TypeId} {x y : Operand} (hk : KeyOK P kt enc rv) (hu : P.underlying T = some (.map kt e)) (hz : (P.info? e).bind (·.zero) = some (.int .i64 0)) : SndP P (.lookup T x y false) (SLook enc rv) where
  runs := by
    rintro rs φ K ⟨b, k, m, rfl, hm, hK⟩ o ρ F w ho hF hph hphF hphl hargs
    have hargs' : All2 (RepR F) [.p (.val (.map (some b))), rv k] [ρ x, ρ y] := by simpa [Op.operands] using hargs
    obtain ⟨v, u, e, h1, h2⟩ := arg2 hargs'
    cases e
    have hx := mapV h1
    have hy := hk.rep _ _ _ h2
    obtain ⟨es, clock, hb, hob⟩ := hm.2 F w hph
    have hf := hk.find w k es.toList m hob.pairs
    have hzv : (zeroValue e).run P w = .ok (.int .i64 0) w := by
      cases hi : P.info? e with
      | none => simp [hi] at hz
      | some i =>
        have hz' : i.zero = some (.int .i64 0) := by simpa [hi] using hz
        simp [zeroValue, typeInfo, hi, hz']
    have hrun : (execOp ρ o).run P w = .ok (.value (.int .i64 (mget k m))) w := by
      rcases mfind_get k m 0 with ⟨⟨g1, g2, -⟩, -⟩ | ⟨j, n, g1, g2, -⟩
      · rw [g1] at hf
        simp [execOp, ho, hx, hy, Instr.lookup, run_underlying hu, getObj, Sem.run, hb, hk.check, hf, hzv, g2]
      · rw [g1] at hf
        simp [execOp, ho, hx, hy, Instr.lookup, run_underlying hu, getObj, Sem.run, hb, hk.check, hf, g2]
    exact ⟨_, _, _, hrun, .inl rfl, _, _, F, hK, .val rfl, Facts.le_refl _, hF, fun _ _ _ _ => rfl, Kept.refl _ w, hph, hphF, fun b h => .inl h, hphl⟩

/-! ### a pair is laid -/
theorem MapOb.put {es : Array MapEntry} {clock : Nat} {k : κ} {v : Int} (h : MapOb enc es clock m) :
    (mfind k m 0 = none → MapOb enc (es.push { key := enc k, val := .int .i64 v, born := clock }) (clock + 1) (mput k v m)) ∧
    (∀ j n, mfind k m 0 = some (j, n) → MapOb enc (es.modify j fun e => { e with key := enc k, val := .int .i64 v }) clock (mput k v m)) := by
  rcases mfind_get k m 0 with ⟨⟨g1, g2, g3⟩, g4⟩ | ⟨j, n, g1, g2, g3, g4, g5⟩
  · refine ⟨fun _ => ⟨?_, ?_, ?_⟩, fun j n e => by rw [g1] at e; cases e⟩
    · rw [g3]; simp [h.pairs]
    · simp only [Array.toList_push, List.map_append, List.map_cons, List.map_nil]
      rw [List.nodup_append]
      refine ⟨h.born, by simp, ?_⟩
      intro a ha c hc
      simp only [List.mem_cons, List.not_mem_nil, or_false] at hc
      simp only [List.mem_map] at ha
      obtain ⟨e, he, rfl⟩ := ha
      have := h.old e he
      omega
    · intro e he
      simp only [Array.toList_push, List.mem_append, List.mem_cons, List.not_mem_nil, or_false] at he
      rcases he with he | rfl
      · have := h.old e he; omega
      · exact Nat.lt_succ_self _
  · refine ⟨fun e => (by rw [g1] at e; cases e), fun j' n' e => ?_⟩
    rw [g1] at e
    simp only [Nat.zero_add, Option.some.injEq, Prod.mk.injEq] at e
    obtain ⟨rfl, -⟩ := e
    have hl : (es.modify j fun e => { e with key := enc k, val := .int .i64 v }).toList = es.toList.modify j fun e => { e with key := enc k, val := .int .i64 v } := Array.toList_modify ..
    have hmapm : ∀ {β : Type} (f : MapEntry → β) (g : MapEntry → MapEntry) (hg : ∀ e, f (g e) = f e) (l : List MapEntry) (j : Nat), (l.modify j g).map f = l.map f := by
      intro β f g hg l
      induction l with
      | nil => intro j; simp
      | cons a l ih => intro j; cases j with
        | zero => simp [hg]
        | succ j => simp [List.modify_succ_cons, ih]
    refine ⟨?_, ?_, ?_⟩
    · rw [hl, g4]
      have : ∀ (l : List MapEntry) (m : List (κ × Int)) (j : Nat), l.map (fun e => (e.key, e.val)) = m.map (fun p => (enc p.1, Value.int .i64 p.2)) →
          (l.modify j fun e => { e with key := enc k, val := .int .i64 v }).map (fun e => (e.key, e.val)) = (m.set j (k, v)).map (fun p => (enc p.1, Value.int .i64 p.2)) := by
        intro l
        induction l with
        | nil => intro m j h; cases m with
          | nil => simp
          | cons _ _ => cases h
        | cons a l ih => intro m j h; cases m with
          | nil => cases h
          | cons p m =>
            simp only [List.map_cons, List.cons.injEq] at h
            cases j with
            | zero => simp [h.2]
            | succ j => simp [List.modify_succ_cons, h.1, ih m j h.2]
      exact this _ _ _ h.pairs
    · rw [hl, hmapm]
      · exact h.born
      · intro e; rfl
    · rw [hl]
      intro e he
      have h1 : e.born ∈ (es.toList.modify j fun e => { e with key := enc k, val := .int .i64 v }).map (·.born) := List.mem_map_of_mem he
      rw [hmapm] at h1
      · simp only [List.mem_map] at h1
        obtain ⟨e0, he0, he1⟩ := h1
        have := h.old e0 he0
        omega
      · intro e; rfl

theorem MapOb.del {es : Array MapEntry} {clock : Nat} {k : κ} (h : MapOb enc es clock m) :
    (mfind k m 0 = none → MapOb enc es clock (mdel k m)) ∧ (∀ j n, mfind k m 0 = some (j, n) → MapOb enc (es.eraseIdxIfInBounds j) clock (mdel k m)) := by
  rcases mfind_get k m 0 with ⟨⟨g1, g2, g3⟩, g4⟩ | ⟨j, n, g1, g2, g3, g4, g5⟩
  · exact ⟨fun _ => by rw [g4]; exact h, fun j n e => by rw [g1] at e; cases e⟩
  · refine ⟨fun e => (by rw [g1] at e; cases e), fun j' n' e => ?_⟩
    rw [g1] at e
    simp only [Nat.zero_add, Option.some.injEq, Prod.mk.injEq] at e
    obtain ⟨rfl, -⟩ := e
    have hl : (es.eraseIdxIfInBounds j).toList = es.toList.eraseIdx j := by
      unfold Array.eraseIdxIfInBounds
      split
      · exact Array.toList_eraseIdx ..
      · rw [List.eraseIdx_of_length_le]; simpa using by omega
    have he : ∀ {α β : Type} (f : α → β) (l : List α) (j : Nat), (l.eraseIdx j).map f = (l.map f).eraseIdx j := by
      intro α β f l
      induction l with
      | nil => intro j; simp
      | cons a l ih => intro j; cases j with
        | zero => simp
        | succ j => simp [ih]
    refine ⟨?_, ?_, ?_⟩
    · rw [hl, g5, he, he, h.pairs]
    · rw [hl, he]
      exact h.born.sublist (List.eraseIdx_sublist ..)
    · rw [hl]
      exact fun e hx => h.old e (List.mem_of_mem_eraseIdx hx)

theorem map_end {v : Value} {o : Oper} {K : Out → Res → Prop} {F : Facts} {w : World} {ρ : Operand → Value} {es : Array MapEntry} {clock : Nat} {nx : Next} {r : Out} (hF : FactsOK F w) (hph : φ.ok F w) (hphF : ∀ b o, φ.fp b → F b o = none) (hphl : ∀ b, φ.fp b → b < w.heap.size)
    (hb : φ.fp b) (hrun : (execOp ρ o).run P w = .ok nx (setMap w b (.map es clock))) (hnx : nx = .value v ∨ (nx = .skip ∧ v = undef)) (hset : PhMapSet φ enc b m φ') (hm : MapOb enc es clock m) (hK : K r φ') (hr : RepO F r v) :
    ∃ nx v w', (execOp ρ o).run P w = .ok nx w' ∧ (nx = .value v ∨ (nx = .skip ∧ v = undef)) ∧ ∃ r φ' F', K r φ' ∧ RepO F' r v ∧ Facts.le F F' ∧ FactsOK F' w' ∧ (∀ b o, b < w.heap.size → ¬ φ.fp b → F' b o = F b o) ∧ Kept φ.fp w w' ∧
      φ'.ok F' w' ∧ (∀ b o, φ'.fp b → F' b o = none) ∧ (∀ b, φ'.fp b → φ.fp b ∨ w.heap.size ≤ b) ∧ (∀ b, φ'.fp b → b < w'.heap.size) := by
  have hkp : Kept φ.fp w (setMap w b (.map es clock)) := ⟨rfl, rfl, rfl, by simp [setMap], fun i hi hn => setMap_ne (fun e => hn (e ▸ hb))⟩
  refine ⟨_, _, _, hrun, hnx, _, _, F, hK, hr, Facts.le_refl _, ?_, fun _ _ _ _ => rfl, hkp, hset.2 F w es clock hph hm, fun x o' hx => hphF x o' ((hset.1 x).1 hx), fun x hx => .inl ((hset.1 x).1 hx), fun x hx => Nat.lt_of_lt_of_le (hphl x ((hset.1 x).1 hx)) hkp.size⟩
  intro b' o' v hv
  have hne : ¬ φ.fp b' := fun e => by rw [hphF _ o' e] at hv; cases hv
  exact (World.cell?_of_block (w := w) (a := ⟨b', o', none⟩) (hkp.block b' (hF.lt hv) hne)).trans (hF b' o' v hv)

theorem rep_undef {F : Facts} : RepO F (.tup []) undef := ⟨[], rfl, .nil⟩

def SPut (enc : κ → Value) (rv : κ → RV) : Am.Spec := fun rs φ K => ∃ b k v m φ', rs = [.p (.val (.map (some b))), rv k, .p (.val (.int .i64 v))] ∧ PhMap φ enc b m ∧ PhMapSet φ enc b (mput k v m) φ' ∧ K (.tup []) φ'

theorem put_run {T e : TypeId} {w : World} {es : Array MapEntry} {clock : Nat} {k : κ} {v : Int} (hk : KeyOK P kt enc rv) (hu : P.underlying T = some (.map kt e)) (hb : w.heap[b]? = some (.map es clock)) (hob : MapOb enc es clock m) :
    ∃ es' clock', MapOb enc es' clock' (mput k v m) ∧ (Instr.mapUpdate T (.map (some b)) (enc k) (.int .i64 v)).run P w = .ok () (setMap w b (.map es' clock')) := by
  have hf := hk.find w k es.toList m hob.pairs
  have hset : ∀ o', (setObj b o').run P w = .ok () (setMap w b o') := fun o' => run_setMap hb ⟨_, _, rfl⟩
  rcases mfind_get k m 0 with ⟨⟨g1, g2, -⟩, -⟩ | ⟨j, n, g1, g2, g3, -⟩
  · rw [g1] at hf
    refine ⟨_, _, (hob.put (k := k) (v := v)).1 g1, ?_⟩
    simp [Instr.mapUpdate, run_underlying hu, getObj, Sem.run, hb, hk.check, hf, hset]
  · rw [g1] at hf
    refine ⟨_, _, (hob.put (k := k) (v := v)).2 _ _ g1, ?_⟩
    have hold : (es[j]?.map (·.key)).getD (enc k) = enc k := by
      have h1 := congrArg (·[j]?) hob.pairs
      simp only [List.getElem?_map, g3, Option.map_some] at h1
      cases he : es[j]? with
      | none => simp
      | some x =>
        rw [← Array.getElem?_toList] at he
        rw [he] at h1
        simp only [Option.map_some, Option.some.injEq, Prod.mk.injEq] at h1
        simp [h1.1]
    simp only [Nat.zero_add] at hf
    simp [Instr.mapUpdate, run_underlying hu, getObj, Sem.run, hb, hk.check, hf, hset, hold, Instr.keyThatStays, hk.bits]

theorem put_map {T e : TypeId} {x y z : Operand} (hk : KeyOK P kt enc rv) (hu : P.underlying T = some (.map kt e)) : SndP P (.mapUpdate T x y z) (SPut enc rv) where
  runs := by
    rintro rs φ K ⟨b, k, v, m, φ', rfl, hm, hset, hK⟩ o ρ F w ho hF hph hphF hphl hargs
    have hargs' : All2 (RepR F) [.p (.val (.map (some b))), rv k, .p (.val (.int .i64 v))] [ρ x, ρ y, ρ z] := by simpa [Op.operands] using hargs
    obtain ⟨v1, v2, v3, e, h1, h2, h3⟩ := arg3 hargs'
    cases e
    have hx := mapV h1
    have hy := hk.rep _ _ _ h2
    have hz := mapV h3
    obtain ⟨es, clock, hb, hob⟩ := hm.2 F w hph
    obtain ⟨es', clock', g1, g2⟩ := put_run (P := P) (k := k) (v := v) hk hu hb hob
    exact map_end (v := undef) hF hph hphF hphl hm.1 (by simp [execOp, ho, hx, hy, hz, g2]) (.inr ⟨rfl, rfl⟩) hset g1 hK rep_undef
theorem ins_map {T e : TypeId} {x y z : Operand} (hk : KeyOK P kt enc rv) (hu : P.underlying T = some (.map kt e)) : SndP P (.insert T x y z) (SPut enc rv) where
  runs := by
    rintro rs φ K ⟨b, k, v, m, φ', rfl, hm, hset, hK⟩ o ρ F w ho hF hph hphF hphl hargs
    have hargs' : All2 (RepR F) [.p (.val (.map (some b))), rv k, .p (.val (.int .i64 v))] [ρ x, ρ y, ρ z] := by simpa [Op.operands] using hargs
    obtain ⟨v1, v2, v3, e, h1, h2, h3⟩ := arg3 hargs'
    cases e
    have hx := mapV h1
    have hy := hk.rep _ _ _ h2
    have hz := mapV h3
    obtain ⟨es, clock, hb, hob⟩ := hm.2 F w hph
    obtain ⟨es', clock', g1, g2⟩ := put_run (P := P) (k := k) (v := v) hk hu hb hob
    exact map_end (v := undef) hF hph hphF hphl hm.1 (by simp [execOp, ho, hx, hy, hz, g2]) (.inr ⟨rfl, rfl⟩) hset g1 hK rep_undef

/-! ### a pair is taken away -/
def SDel (enc : κ → Value) (rv : κ → RV) : Am.Spec := fun rs φ K => ∃ b k m φ', rs = [.p (.val (.map (some b))), rv k] ∧ PhMap φ enc b m ∧ PhMapSet φ enc b (mdel k m) φ' ∧ K (.tup []) φ'
theorem del_map {T U e : TypeId} {x y : Operand} (hk : KeyOK P kt enc rv) (hu : P.underlying T = some (.map kt e)) : SndP P (.call { callee := .builtin .delete, args := #[x, y], argTypes := #[T, U] }) (SDel enc rv) where
  runs := by
    rintro rs φ K ⟨b, k, m, φ', rfl, hm, hset, hK⟩ o ρ F w ho hF hph hphF hphl hargs
    have hargs' : All2 (RepR F) [.p (.val (.map (some b))), rv k] [ρ x, ρ y] := by simpa [Op.operands, Call.operands] using hargs
    obtain ⟨v1, v2, e, h1, h2⟩ := arg2 hargs'
    cases e
    have hx := mapV h1
    have hy := hk.rep _ _ _ h2
    obtain ⟨es, clock, hb, hob⟩ := hm.2 F w hph
    have hf := hk.find w k es.toList m hob.pairs
    have hset' : ∀ o', (setObj b o').run P w = .ok () (setMap w b o') := fun o' => run_setMap hb ⟨_, _, rfl⟩
    rcases mfind_get k m 0 with ⟨⟨g1, g2, -⟩, -⟩ | ⟨j, n, g1, g2, g3, -⟩
    · rw [g1] at hf
      exact map_end (v := undef) hF hph hphF hphl hm.1 (by simp [execOp, ho, resolve, invoke, hx, hy, builtin, Builtin.delete_, run_underlying hu, getObj, Sem.run, hb, hk.check, hf, hset', undef]) (.inl rfl) hset (hob.del.1 g1) hK rep_undef
    · rw [g1] at hf
      simp only [Nat.zero_add] at hf
      exact map_end (v := undef) hF hph hphF hphl hm.1 (by simp [execOp, ho, resolve, invoke, hx, hy, builtin, Builtin.delete_, run_underlying hu, getObj, Sem.run, hb, hk.check, hf, hset', undef]) (.inl rfl) hset (hob.del.2 _ _ g1) hK rep_undef

/-! ### string keys -/
def strK (s : ByteArray) : RV := .p (.val (.string s))
theorem eqBytes (a b : ByteArray) : (a == b) = decide (a = b) := by rw [beq_toListBytes, bytes_eq]
theorem keys_str (hu : P.underlying kt = some .string) : KeyOK P kt Value.string strK where
  rep := fun F k v h => mapV h
  find := by
    intro w k es m h
    refine MapKept.run_findKey hu ?_
    have : ∀ (es : List MapEntry) (m : List (ByteArray × Int)) (i : Nat), es.map (fun e => (e.key, e.val)) = m.map (fun p => (Value.string p.1, Value.int .i64 p.2)) → Instr.findNow .string (.string k) es i = some (mfind k m i) := by
      intro es
      induction es with
      | nil => intro m i h; cases m with
        | nil => rfl
        | cons _ _ => cases h
      | cons e es ih => intro m i h; cases m with
        | nil => cases h
        | cons p m =>
          simp only [List.map_cons, List.cons.injEq, Prod.mk.injEq] at h
          obtain ⟨⟨h1, h2⟩, h3⟩ := h
          by_cases hp : p.1 = k
          · subst hp
            have hb : (p.1 == p.1) = true := by rw [eqBytes]; simp
            simp only [Instr.findNow, Instr.sameNow, h1, h2, mfind, if_true, hb]
          · have hne : (k == p.1) = false := by
              rw [eqBytes]; simpa using fun e => hp (Eq.symm e)
            simp [Instr.findNow, Instr.sameNow, h1, mfind, hp, hne, ih m (i + 1) h3]
    exact this es m 0 h
  check := fun w e k => MapKept.run_checkKey hu (by simp [MapKept.IsKey]) e 9999
  bits := fun k => by simp [Instr.sameBits, eqBytes]

/-! ### walking a map -/
def Res.walk (r b : Nat) (m left : List (ByteArray × Int)) (cur : Option (ByteArray × Int)) : Res where
  fp := fun x => x = r ∨ x = b
  ok := fun _ w => r ≠ b ∧ ∃ (es : Array MapEntry) (clock since c0 : Nat) (seen : Array Nat), w.heap[b]? = some (.map es clock) ∧ MapOb Value.string es clock m ∧ w.heap[r]? = some (.mapIter (some b) since seen c0) ∧ (∀ e ∈ es.toList, e.born < since) ∧ since ≤ c0 ∧ since ≤ clock ∧
    (leftOf es seen).toList.map (fun e => (e.key, e.val)) = left.map (fun p => (Value.string p.1, Value.int .i64 p.2)) ∧
    ∀ p, cur = some p → c0 = clock ∧ ∃ (seen' : Array Nat) (e : MapEntry), seen = seen'.push e.born ∧ e ∈ es.toList ∧ e.key = .string p.1 ∧ e.val = .int .i64 p.2
  stable := by
    rintro F F' w w' hF hb ⟨hne, es, c, s, c0, seen, h1, h2, h3, h4⟩
    exact ⟨hne, es, c, s, c0, seen, by rw [hb b (.inr rfl)]; exact h1, h2, by rw [hb r (.inl rfl)]; exact h3, h4⟩

def SRangeM : Am.Spec := fun rs φ K => ∃ b m ψ, rs = [.p (.val (.map (some b)))] ∧ φ = (Res.map Value.string b m).sep ψ ∧ ∀ r, K (.one (.p (.val (.pointer (some ⟨r, 0, none⟩))))) ((Res.walk r b m m none).sep ψ)

theorem leftOf_nil (es : Array MapEntry) : leftOf es #[] = es := by
  unfold leftOf; rw [Array.filter_eq_self]; intro a _; simp

theorem range_map {T e : TypeId} {x : Operand} (hu : P.underlying T = some (.map kt e)) : SndP P (.range T x) SRangeM where
  runs := by
    rintro rs φ K ⟨b, m, ψ, rfl, rfl, hK⟩ o ρ F w ho hF hph hphF hphl hargs
    have hargs' : All2 (RepR F) [.p (.val (.map (some b)))] [ρ x] := by simpa [Op.operands] using hargs
    obtain ⟨v, e, h1⟩ := arg1 hargs'
    cases e
    have hx := mapV h1
    obtain ⟨⟨es, clock, hb, hob⟩, hps, hap⟩ := hph
    have hlt : b < w.heap.size := (Array.getElem?_eq_some_iff.1 hb).1
    have hkp := Kept.alloc w (.mapIter (some b) clock #[] clock)
    refine ⟨_, _, _, by simp [execOp, ho, hx, run_range_map w T kt _ b es clock hu hb], .inl rfl, _, _, F, hK w.heap.size, .val rfl, Facts.le_refl _, hF.keep fun b hb _ => hkp.block b hb (fun e => e), fun _ _ _ _ => rfl,
      ⟨hkp.os, hkp.tape, hkp.output, hkp.size, fun b hb _ => hkp.block b hb (fun e => e)⟩,
      ⟨⟨by omega, es, clock, clock, clock, #[], by rw [hkp.block b hlt (fun e => e)]; exact hb, hob, heap_alloc_new w _, hob.old, Nat.le_refl _, Nat.le_refl _, by rw [leftOf_nil]; exact hob.pairs, fun p e => by cases e⟩, ?_, ?_⟩, ?_, ?_, ?_⟩
    · exact ψ.stable _ _ _ _ (Facts.le_refl _) (fun x hx => hkp.block x (hphl x (.inr hx)) (fun e => e)) hps
    · rintro x (rfl | rfl) hp
      · have := hphl _ (.inr hp); omega
      · exact hap _ rfl hp
    · rintro x o' ((rfl | rfl) | hb)
      · exact facts_none hF o'
      · exact hphF _ o' (.inl rfl)
      · exact hphF x o' (.inr hb)
    · rintro x ((rfl | rfl) | hb)
      · exact .inr (Nat.le_refl _)
      · exact .inl (.inl rfl)
      · exact .inl (.inr hb)
    · rintro x ((rfl | rfl) | hb)
      · show w.heap.size < (w.heap.push _).size; simp
      · exact Nat.lt_of_lt_of_le hlt hkp.size
      · exact Nat.lt_of_lt_of_le (hphl x (.inr hb)) hkp.size

theorem filter_drop : ∀ (L1 : List MapEntry) (e : MapEntry) (L2 : List MapEntry), ((L1 ++ e :: L2).map (·.born)).Nodup → (L1 ++ e :: L2).filter (fun x => !(x.born == e.born)) = L1 ++ L2
  | [], e, L2, h => by
    simp only [List.nil_append, List.map_cons, List.nodup_cons, List.mem_map, not_exists, not_and] at h ⊢
    rw [List.filter_cons_of_neg (by simp), List.filter_eq_self]
    intro a ha
    have := h.1 a ha
    simpa using this
  | a :: L1, e, L2, h => by
    simp only [List.cons_append, List.map_cons, List.nodup_cons, List.mem_map, not_exists, not_and] at h ⊢
    rw [List.filter_cons_of_pos, filter_drop L1 e L2 h.2]
    have := h.1 e (by simp)
    simpa using fun e => this e.symm

theorem leftOf_push {es : Array MapEntry} {seen : Array Nat} {e : MapEntry} {L1 L2 : List MapEntry} (hn : (es.toList.map (·.born)).Nodup) (h : (leftOf es seen).toList = L1 ++ e :: L2) : (leftOf es (seen.push e.born)).toList = L1 ++ L2 := by
  have hsub : (leftOf es seen).toList.Sublist es.toList := by
    unfold leftOf; rw [Array.toList_filter]; exact List.filter_sublist
  have hn' : ((leftOf es seen).toList.map (·.born)).Nodup := hn.sublist (hsub.map _)
  rw [h] at hn'
  rw [← filter_drop L1 e L2 hn', ← h]
  unfold leftOf
  rw [Array.toList_filter, Array.toList_filter, List.filter_filter]
  congr 1
  funext x
  rw [contains_push]
  cases seen.contains x.born <;> simp

def SNextM : Am.Spec := fun rs φ K => ∃ r b m left cur ψ, rs = [.p (.val (.pointer (some ⟨r, 0, none⟩)))] ∧ φ = (Res.walk r b m left cur).sep ψ ∧ (left = [] → K (.tup [.p (.val (.bool false))]) φ) ∧
  ∀ l1 p l2, left = l1 ++ p :: l2 → K (.tup [.p (.val (.bool true)), .p (.val (.string p.1)), .p (.val (.int .i64 p.2))]) ((Res.walk r b m (l1 ++ l2) (some p)).sep ψ)

theorem map_split {β : Type} {f : MapEntry → β} {g : ByteArray × Int → β} : ∀ {L : List MapEntry} {l : List (ByteArray × Int)}, L.map f = l.map g → ∀ {e : MapEntry}, e ∈ L → ∃ L1 L2 l1 p l2, L = L1 ++ e :: L2 ∧ l = l1 ++ p :: l2 ∧ f e = g p ∧ (L1 ++ L2).map f = (l1 ++ l2).map g
  | [], _, _, _, he => by cases he
  | a :: L, [], h, _, _ => by cases h
  | a :: L, p :: l, h, e, he => by
    simp only [List.map_cons, List.cons.injEq] at h
    rcases List.mem_cons.1 he with rfl | he
    · exact ⟨[], L, [], p, l, rfl, rfl, h.1, h.2⟩
    · obtain ⟨L1, L2, l1, q, l2, h1, h2, h3, h4⟩ := map_split h.2 he
      exact ⟨a :: L1, L2, p :: l1, q, l2, by rw [h1]; rfl, by rw [h2]; rfl, h3, by simp only [List.cons_append, List.map_cons, h.1, h4]⟩

theorem next_map {x : Operand} : SndP P (.next x false) SNextM where
  runs := by
    rintro rs φ K ⟨r, b, m, left, cur, ψ, rfl, rfl, h1, h2⟩ o ρ F w ho hF hph hphF hphl hargs
    have hargs' : All2 (RepR F) [.p (.val (.pointer (some ⟨r, 0, none⟩)))] [ρ x] := by simpa [Op.operands] using hargs
    obtain ⟨v, e, hx1⟩ := arg1 hargs'
    cases e
    have hx := mapV hx1
    obtain ⟨⟨hne, es, clock, since, c0, seen, hb, hob, hr, hold, hsc, hscl, hleft, hcur⟩, hps, hap⟩ := id hph
    rcases run_next_at (P := P) w o.type r b since c0 seen es clock hr hb hold hsc with ⟨hz, hrun⟩ | ⟨e, he, w1, hw1, hrun⟩
    · have hnil : left = [] := by
        have : (leftOf es seen).toList = [] := by
          rw [← List.length_eq_zero_iff]; simpa using hz
        rw [this] at hleft
        cases left with
        | nil => rfl
        | cons _ _ => cases hleft
      exact ⟨_, _, _, by simp [execOp, ho, hx, hrun], .inl rfl, _, _, F, h1 hnil, ⟨[.bool false], rfl, .cons (.val rfl) .nil⟩, Facts.le_refl _, hF, fun _ _ _ _ => rfl, Kept.refl _ w, hph, hphF, fun b h => .inl h, hphl⟩
    · obtain ⟨L1, L2, l1, p, l2, e1, e2, e3, e4⟩ := map_split hleft he
      simp only [Prod.mk.injEq] at e3
      have hh : w1.heap = w.heap := by rcases hw1 with rfl | rfl <;> rfl
      have ho1 : w1.os = w.os := by rcases hw1 with rfl | rfl <;> rfl
      have ht1 : w1.tape = w.tape := by rcases hw1 with rfl | rfl <;> rfl
      have hp1 : w1.output = w.output := by rcases hw1 with rfl | rfl <;> rfl
      have hrlt : r < w.heap.size := (Array.getElem?_eq_some_iff.1 hr).1
      have hother : ∀ i, i ≠ r → (setBlock w1 r (.mapIter (some b) since (seen.push e.born) clock)).heap[i]? = w.heap[i]? := fun i hi => by
        simp [setBlock, hh, Array.getElem?_setIfInBounds_ne (Ne.symm hi)]
      have hkp : Kept (fun x => x = r) w (setBlock w1 r (.mapIter (some b) since (seen.push e.born) clock)) :=
        ⟨ho1, ht1, hp1, by simp [setBlock, hh], fun i _ hi => hother i hi⟩
      have hemem := (mem_left he).1
      have hrun' : (execOp ρ o).run P w = .ok (.value (.tuple #[.bool true, e.key, e.val])) (setBlock w1 r (.mapIter (some b) since (seen.push e.born) clock)) := by simp [execOp, ho, hx, hrun]
      refine ⟨_, _, _, hrun', .inl rfl, _, _, F, h2 l1 p l2 e2, ⟨[.bool true, e.key, e.val], rfl, .cons (.val rfl) (.cons (by rw [e3.1]; exact .val rfl) (.cons (by rw [e3.2]; exact .val rfl) .nil))⟩, Facts.le_refl _, ?_, fun _ _ _ _ => rfl, ⟨ho1, ht1, hp1, hkp.size, fun i hi hn => hother i (fun e => hn (.inl (.inl e)))⟩, ⟨?_, ?_, hap⟩, hphF, fun b h => .inl h, fun b' h => Nat.lt_of_lt_of_le (hphl b' h) hkp.size⟩
      · intro b' o' v hv
        have hne : b' ≠ r := fun e => by subst e; rw [hphF _ o' (.inl (.inl rfl))] at hv; cases hv
        exact (World.cell?_of_block (w := w) (a := ⟨b', o', none⟩) (hother b' hne)).trans (hF b' o' v hv)
      · refine ⟨hne, es, clock, since, clock, seen.push e.born, (hother b (Ne.symm hne)).trans hb, hob, by simp [setBlock, hh, hrlt], hold, hscl, hscl, ?_, ?_⟩
        · rw [leftOf_push hob.born e1]; exact e4
        · rintro q hq
          cases hq
          exact ⟨rfl, seen, e, rfl, hemem, e3.1, e3.2⟩
      · exact ψ.stable _ _ _ _ (Facts.le_refl _) (fun i hi => hother i (fun e => hap r (.inl rfl) (e ▸ hi))) hps

def SEntry : Am.Spec := fun rs φ K => ∃ r b m left p ψ, rs = [.p (.val (.pointer (some ⟨r, 0, none⟩)))] ∧ φ = (Res.walk r b m left (some p)).sep ψ ∧ K (.tup [.p (.val (.string p.1)), .p (.val (.int .i64 p.2))]) φ
theorem entry_map {x : Operand} : SndP P (.entry x) SEntry where
  runs := by
    rintro rs φ K ⟨r, b, m, left, p, ψ, rfl, rfl, hK⟩ o ρ F w ho hF hph hphF hphl hargs
    have hargs' : All2 (RepR F) [.p (.val (.pointer (some ⟨r, 0, none⟩)))] [ρ x] := by simpa [Op.operands] using hargs
    obtain ⟨v, e, hx1⟩ := arg1 hargs'
    cases e
    have hx := mapV hx1
    obtain ⟨⟨hne, es, clock, since, c0, seen, hb, hob, hr, hold, hsc, hscl, hleft, hcur⟩, hps, hap⟩ := id hph
    obtain ⟨rfl, seen', e, rfl, he, e1, e2⟩ := hcur p rfl
    have hrun := run_entry_at (P := P) w r b since seen' es c0 e hr hb he hob.born
    exact ⟨_, _, _, by simp [execOp, ho, hx, hrun], .inl rfl, _, _, F, hK, ⟨[e.key, e.val], rfl, .cons (by rw [e1]; exact .val rfl) (.cons (by rw [e2]; exact .val rfl) .nil)⟩, Facts.le_refl _, hF, fun _ _ _ _ => rfl, Kept.refl _ w, hph, hphF, fun b h => .inl h, hphl⟩

/-! ### what may be forgotten, or laid otherwise -/
theorem Drops.trans {a b c : Res} (h : Drops a b) (k : Drops b c) : Drops a c := ⟨fun x hx => h.fp x (k.fp x hx), fun F w hx => k.ok F w (h.ok F w hx)⟩
theorem Drops.swap {a b c : Res} : Drops (a.sep (b.sep c)) (b.sep (a.sep c)) :=
  ⟨fun x hx => by simp only [Res.sep] at *; rcases hx with h | h | h <;> simp [h],
   fun F w ⟨h1, ⟨h2, h3, h4⟩, h5⟩ => ⟨h2, ⟨h1, h3, fun x hx hc => h5 x hx (.inr hc)⟩, fun x hx hc => hc.elim (fun e => h5 x e (.inl hx)) (fun e => h4 x hx e)⟩⟩
theorem Drops.inr {a b c : Res} (h : Drops b c) : Drops (a.sep b) (a.sep c) :=
  ⟨fun x hx => hx.elim .inl fun e => .inr (h.fp x e), fun F w ⟨h1, h2, h3⟩ => ⟨h1, h.ok F w h2, fun x hx hc => h3 x hx (h.fp x hc)⟩⟩
theorem Drops.inl {a b c : Res} (h : Drops a b) : Drops (a.sep c) (b.sep c) :=
  ⟨fun x hx => hx.elim (fun e => .inl (h.fp x e)) .inr, fun F w ⟨h1, h2, h3⟩ => ⟨h.ok F w h1, h2, fun x hx hc => h3 x (h.fp x hx) hc⟩⟩
theorem Drops.nilOwn {φ : Res} {T k : Nat} : Drops φ ((Res.own (.slice none 0 0) T k []).sep φ) :=
  ⟨fun b hb => hb.elim (fun h => by cases h) id, fun F w b => ⟨⟨[], World.ownsRow_nil w _ T k, .nil, (by intro e he; cases he), by simp⟩, b, fun x hx => by cases hx⟩⟩

theorem Kept.mono {p q : Nat → Prop} {w w' : World} (h : Kept p w w') (hpq : ∀ b, p b → q b) : Kept q w w' := ⟨h.os, h.tape, h.output, h.size, fun b hb hn => h.block b hb (fun e => hn (hpq b e))⟩

theorem SndP.dr {op : Op} {S : Am.Spec} (h : SndP P op S) : SndP P op (fun rs φ K => ∃ φ', Drops φ φ' ∧ S rs φ' (fun r φ1 => ∃ φ2, Drops φ1 φ2 ∧ K r φ2)) where
  runs := by
    rintro rs φ K ⟨φ', hd, hS⟩ o ρ F w ho hF hph hphF hphl hargs
    obtain ⟨nx, v, w', h1, h2, r, φ1, F', ⟨φ2, hd2, hK⟩, g1, g2, g3, g4, g5, g6, g7, g8, g9⟩ := h.runs rs φ' _ hS o ρ F w ho hF (hd.ok F w hph) (fun b o hb => hphF b o (hd.fp b hb)) (fun b hb => hphl b (hd.fp b hb)) hargs
    exact ⟨nx, v, w', h1, h2, r, φ2, F', hK, g1, g2, g3, fun b o hb hn => g4 b o hb (fun e => hn (hd.fp b e)), g5.mono hd.fp, hd2.ok _ _ g6, fun b o hb => g7 b o (hd2.fp b hb), fun b hb => (g8 b (hd2.fp b hb)).imp (hd.fp b) id, fun b hb => g9 b (hd2.fp b hb)⟩

theorem Snd.dr {f : FuncId} {S : Am.Spec} (h : Snd P gl f S) : Snd P gl f (fun rs φ K => ∃ φ', Drops φ φ' ∧ S rs φ' (fun r φ1 => ∃ φ2, Drops φ1 φ2 ∧ K r φ2)) where
  calls := by
    rintro rs φ K ⟨φ', hd, hS⟩ F w vs h1 h2 h3 h4 h5 h6
    have key : ∀ (e : Ending) (w' : World), (∃ v r φ1 F', e = .returned v ∧ (∃ φ2, Drops φ1 φ2 ∧ K r φ2) ∧ RepO F' r v ∧ Facts.le F F' ∧ FactsOK F' w' ∧ (∀ b o, b < w.heap.size → ¬ φ'.fp b → F' b o = F b o) ∧ Kept φ'.fp w w' ∧
        φ1.ok F' w' ∧ (∀ b o, φ1.fp b → F' b o = none) ∧ (∀ b, φ1.fp b → φ'.fp b ∨ w.heap.size ≤ b) ∧ (∀ b, φ1.fp b → b < w'.heap.size)) →
        (∃ v r φ1 F', e = .returned v ∧ K r φ1 ∧ RepO F' r v ∧ Facts.le F F' ∧ FactsOK F' w' ∧ (∀ b o, b < w.heap.size → ¬ φ.fp b → F' b o = F b o) ∧ Kept φ.fp w w' ∧
        φ1.ok F' w' ∧ (∀ b o, φ1.fp b → F' b o = none) ∧ (∀ b, φ1.fp b → φ.fp b ∨ w.heap.size ≤ b) ∧ (∀ b, φ1.fp b → b < w'.heap.size)) := by
      rintro e w' ⟨v, r, φ1, F', he, ⟨φ2, hd2, hK⟩, g1, g2, g3, g4, g5, g6, g7, g8, g9⟩
      exact ⟨v, r, φ2, F', he, hK, g1, g2, g3, fun b o hb hn => g4 b o hb (fun e => hn (hd.fp b e)), g5.mono hd.fp, hd2.ok _ _ g6, fun b o hb => g7 b o (hd2.fp b hb), fun b hb => (g8 b (hd2.fp b hb)).imp (hd.fp b) id, fun b hb => g9 b (hd2.fp b hb)⟩
    rcases h.calls rs φ' _ hS F w vs h1 h2 (hd.ok F w h3) (fun b o hb => h4 b o (hd.fp b hb)) (fun b hb => h5 b (hd.fp b hb)) h6 with ⟨he, hc⟩ | ⟨v, w', hrun, hr⟩
    · exact .inl ⟨he, hc.mono key⟩
    · exact .inr ⟨v, w', hrun, key _ _ hr⟩
end Go.Am

/-
  AM: maps, every entry and its stamp known.
-/
namespace Go.Am
open Go
open Go.ChangeMaps (setBlock)
set_option linter.unusedSectionVars false
set_option linter.unusedVariables false

variable {P : Program} {gl : Nat → Option (List PV)} {κ : Type} [DecidableEq κ]

abbrev EM (κ : Type) := List (κ × Int × Nat)
def evals (m : EM κ) : List (κ × Int) := m.map fun x => (x.1, x.2.1)
def eget (k : κ) (m : EM κ) : Int := mget k (evals m)
def eput (k : κ) (v : Int) (m : EM κ) (c : Nat) : EM κ × Nat := match mfind k (evals m) 0 with
  | some (j, _) => (m.modify j (fun x => (x.1, v, x.2.2)), c)
  | none => (m ++ [(k, v, c)], c + 1)
def eent (k : κ) (m : EM κ) (c : Nat) : EM κ × Nat := match mfind k (evals m) 0 with
  | some _ => (m, c)
  | none => (m ++ [(k, 0, c)], c + 1)
def estamp (k : κ) (m : EM κ) (c : Nat) : Nat := match mfind k (evals m) 0 with
  | some (j, _) => (m[j]?.map (·.2.2)).getD 0
  | none => c
def eset (s : Nat) (v : Int) (m : EM κ) : EM κ := match m.findIdx? (fun x => decide ((x.2.2 : Nat) = s)) with
  | some i => m.modify i (fun x => (x.1, v, x.2.2))
  | none => m
def edel (k : κ) (m : EM κ) : EM κ := match mfind k (evals m) 0 with
  | some (j, _) => m.eraseIdx j
  | none => m

/-- no key twice, no stamp twice, each stamp below the clock -/
structure EWf (m : EM κ) (c : Nat) : Prop where
  keys : (m.map (·.1)).Nodup
  born : (m.map (·.2.2)).Nodup
  old : ∀ x ∈ m, x.2.2 < c

theorem emfind (k : κ) (m : EM κ) : (mfind k (evals m) 0 = none ∧ eget k m = 0 ∧ ∀ x ∈ m, x.1 ≠ k) ∨ ∃ j x, mfind k (evals m) 0 = some (j, .int .i64 x.2.1) ∧ m[j]? = some x ∧ x.1 = k ∧ eget k m = x.2.1 := by
  have key : ∀ (m : EM κ) (i : Nat), (mfind k (evals m) i = none ∧ eget k m = 0 ∧ ∀ x ∈ m, x.1 ≠ k) ∨ ∃ j x, mfind k (evals m) i = some (i + j, .int .i64 x.2.1) ∧ m[j]? = some x ∧ x.1 = k ∧ eget k m = x.2.1 := by
    intro m
    induction m with
    | nil => intro i; exact .inl ⟨rfl, rfl, by simp⟩
    | cons p m ih =>
      intro i
      by_cases h : p.1 = k
      · exact .inr ⟨0, p, by simp [evals, mfind, h], rfl, h, by simp [eget, evals, mget, h]⟩
      · rcases ih (i + 1) with ⟨h1, h2, h3⟩ | ⟨j, x, h1, h2, h3, h4⟩
        · refine .inl ⟨by simpa [evals, mfind, h] using h1, by simpa [eget, evals, mget, h] using h2, ?_⟩
          intro x hx
          rcases List.mem_cons.1 hx with rfl | hx
          · exact h
          · exact h3 x hx
        · refine .inr ⟨j + 1, x, ?_, by simpa using h2, h3, by simpa [eget, evals, mget, h] using h4⟩
          have : mfind k (evals (p :: m)) i = mfind k (evals m) (i + 1) := by simp [evals, mfind, h]
          rw [this, h1]
          simp; omega
  rcases key m 0 with h | ⟨j, x, h1, h2⟩
  · exact .inl h
  · exact .inr ⟨j, x, by simpa using h1, h2⟩

/-- what stands at a key, by any entry -/
theorem eget_mem {k : κ} {m : EM κ} (hn : (m.map (·.1)).Nodup) {x : κ × Int × Nat} (hx : x ∈ m) (hk : x.1 = k) : eget k m = x.2.1 := by
  induction m with
  | nil => cases hx
  | cons p m ih =>
    simp only [List.map_cons, List.nodup_cons] at hn
    have e : eget k (p :: m) = if p.1 = k then p.2.1 else eget k m := rfl
    rw [e]
    rcases List.mem_cons.1 hx with rfl | hx
    · rw [if_pos hk]
    · rw [if_neg (fun e' => hn.1 (by rw [e', ← hk]; exact List.mem_map_of_mem hx))]
      exact ih hn.2 hx
theorem eget_none {k : κ} {m : EM κ} (h : ∀ x ∈ m, x.1 ≠ k) : eget k m = 0 := by
  induction m with
  | nil => rfl
  | cons p m ih =>
    have e : eget k (p :: m) = if p.1 = k then p.2.1 else eget k m := rfl
    rw [e, if_neg (h p List.mem_cons_self)]
    exact ih fun x hx => h x (List.mem_cons_of_mem _ hx)
/-- values set: keys and stamps stay -/
theorem emod_map {β : Type} (f : κ × Int × Nat → β) (g : κ × Int × Nat → κ × Int × Nat) (hg : ∀ x, f (g x) = f x) : ∀ (l : EM κ) (j : Nat), (l.modify j g).map f = l.map f
  | [], j => by simp
  | a :: l, 0 => by simp [hg]
  | a :: l, j + 1 => by simp [List.modify_succ_cons, emod_map f g hg l j]
theorem eset_get {v : Int} {j : Nat} {m : EM κ} {x : κ × Int × Nat} (hn : (m.map (·.1)).Nodup) (hj : m[j]? = some x) (k : κ) : eget k (m.modify j fun y => (y.1, v, y.2.2)) = if k = x.1 then v else eget k m := by
  induction m generalizing j with
  | nil => simp at hj
  | cons p m ih =>
    simp only [List.map_cons, List.nodup_cons] at hn
    have e : ∀ (p : κ × Int × Nat) (m : EM κ), eget k (p :: m) = if p.1 = k then p.2.1 else eget k m := fun _ _ => rfl
    cases j with
    | zero =>
      simp at hj; subst hj
      rw [List.modify_zero_cons, e, e]
      simp only
      by_cases h : p.1 = k
      · rw [if_pos h, if_pos h.symm]
      · rw [if_neg h, if_neg (Ne.symm h), if_neg h]
    | succ j =>
      simp at hj
      have hx : x ∈ m := List.mem_of_getElem? hj
      rw [List.modify_succ_cons, e, e, ih hn.2 hj]
      by_cases h : p.1 = k
      · have hk : k ≠ x.1 := fun e' => hn.1 (by rw [h, e']; exact List.mem_map_of_mem hx)
        rw [if_pos h, if_pos h, if_neg hk]
      · rw [if_neg h, if_neg h]

theorem ewf_nil : EWf ([] : EM κ) 0 := ⟨by simp, by simp, by simp⟩
theorem eput_spec {k : κ} {v : Int} {m : EM κ} {c : Nat} (h : EWf m c) : EWf (eput k v m c).1 (eput k v m c).2 ∧ ∀ k', eget k' (eput k v m c).1 = if k' = k then v else eget k' m := by
  unfold eput
  rcases emfind k m with ⟨h1, h2, h3⟩ | ⟨j, x, h1, h2, h3, h4⟩
  · rw [h1]
    refine ⟨⟨?_, ?_, ?_⟩, fun k' => ?_⟩
    · simp only [List.map_append, List.map_cons, List.map_nil]
      rw [List.nodup_append]
      refine ⟨h.keys, by simp, ?_⟩
      intro a ha b hb
      simp only [List.mem_cons, List.not_mem_nil, or_false] at hb
      subst hb
      obtain ⟨x, hx, rfl⟩ := List.mem_map.1 ha
      exact h3 x hx
    · simp only [List.map_append, List.map_cons, List.map_nil]
      rw [List.nodup_append]
      refine ⟨h.born, by simp, ?_⟩
      intro a ha b hb
      simp only [List.mem_cons, List.not_mem_nil, or_false] at hb
      subst hb
      obtain ⟨x, hx, rfl⟩ := List.mem_map.1 ha
      have := h.old x hx
      omega
    · intro x hx
      rcases List.mem_append.1 hx with hx | hx
      · have := h.old x hx
        show x.2.2 < c + 1
        omega
      · simp only [List.mem_cons, List.not_mem_nil, or_false] at hx
        subst hx; exact Nat.lt_succ_self _
    · have : ∀ m : EM κ, (∀ x ∈ m, x.1 ≠ k) → eget k' (m ++ [(k, v, c)]) = if k' = k then v else eget k' m := by
        intro m
        induction m with
        | nil =>
          intro _
          show (if k = k' then v else 0) = _
          by_cases e : k' = k
          · rw [if_pos e, if_pos e.symm]
          · rw [if_neg e, if_neg (Ne.symm e)]; rfl
        | cons p m ih =>
          intro hm
          have e : ∀ (p : κ × Int × Nat) (m : EM κ), eget k' (p :: m) = if p.1 = k' then p.2.1 else eget k' m := fun _ _ => rfl
          rw [List.cons_append, e, e, ih fun x hx => hm x (List.mem_cons_of_mem _ hx)]
          by_cases h : p.1 = k'
          · have : k' ≠ k := fun e' => hm p List.mem_cons_self (h.trans e')
            rw [if_pos h, if_pos h, if_neg this]
          · rw [if_neg h, if_neg h]
      exact this m h3
  · rw [h1]
    refine ⟨⟨?_, ?_, ?_⟩, fun k' => ?_⟩
    · simp only; rw [emod_map]
      · exact h.keys
      · intro x; rfl
    · simp only; rw [emod_map]
      · exact h.born
      · intro x; rfl
    · intro y hy
      have : y.2.2 ∈ (m.modify j fun y => (y.1, v, y.2.2)).map (·.2.2) := List.mem_map_of_mem hy
      rw [emod_map] at this
      · obtain ⟨z, hz, e⟩ := List.mem_map.1 this
        have := h.old z hz
        simp only; omega
      · intro x; rfl
    · simp only
      rw [eset_get h.keys h2, h3]

/-- laying an entry first, its value behind -/
theorem eent_spec {k : κ} {v : Int} {m : EM κ} {c : Nat} (h : EWf m c) : EWf (eset (estamp k m c) v (eent k m c).1) (eent k m c).2 ∧ (∀ k', eget k' (eset (estamp k m c) v (eent k m c).1) = if k' = k then v else eget k' m) ∧
    (∃ i, (eent k m c).1.findIdx? (fun x => decide ((x.2.2 : Nat) = estamp k m c)) = some i) ∧ eent k (eent k m c).1 (eent k m c).2 = eent k m c ∧ eget k (eent k m c).1 = eget k m ∧ estamp k (eent k m c).1 (eent k m c).2 = estamp k m c := by
  rcases emfind k m with ⟨h1, h2, h3⟩ | ⟨j, x, h1, h2, h3, h4⟩
  · have e1 : eent k m c = eput k 0 m c := by unfold eent eput; rw [h1]
    have e2 : estamp k m c = c := by unfold estamp; rw [h1]
    have e3 : eput k 0 m c = (m ++ [(k, 0, c)], c + 1) := by unfold eput; rw [h1]
    obtain ⟨g1, g2⟩ := eput_spec (k := k) (v := 0) h
    rw [e3] at g1 g2
    rw [e1, e2, e3]
    have hlast : (m ++ [(k, (0 : Int), c)])[m.length]? = some (k, 0, c) := by simp
    have hidx : (m ++ [(k, (0 : Int), c)]).findIdx? (fun x => decide ((x.2.2 : Nat) = c)) = some m.length := by
      rw [List.findIdx?_append]
      have : m.findIdx? (fun x => decide ((x.2.2 : Nat) = c)) = none := by
        rw [List.findIdx?_eq_none_iff]
        intro x hx
        have := h.old x hx
        simp; omega
      rw [this]; simp
    have hset : eset c v (m ++ [(k, (0 : Int), c)]) = (m ++ [(k, (0 : Int), c)]).modify m.length fun x => (x.1, v, x.2.2) := by unfold eset; rw [hidx]
    rw [hset]
    have hfind : mfind k (evals (m ++ [(k, (0 : Int), c)])) 0 = some (m.length, .int .i64 0) := by
      rcases emfind k (m ++ [(k, (0 : Int), c)]) with ⟨_, _, f3⟩ | ⟨j, x, f1, f2, f3, f4⟩
      · exact absurd rfl (f3 (k, 0, c) (by simp))
      · have hjx : j = m.length := by
          have hjl : j < (m ++ [(k, (0 : Int), c)]).length := (List.getElem?_eq_some_iff.1 f2).1
          by_cases e : j < m.length
          · rw [List.getElem?_append_left e] at f2
            exact absurd f3 (h3 x (List.mem_of_getElem? f2))
          · simp at hjl; omega
        subst hjx
        rw [hlast] at f2; cases f2
        exact f1
    refine ⟨⟨?_, ?_, ?_⟩, fun k' => ?_, ⟨_, hidx⟩, ?_, ?_, ?_⟩
    · rw [emod_map]
      · exact g1.keys
      · intro x; rfl
    · rw [emod_map]
      · exact g1.born
      · intro x; rfl
    · intro y hy
      have : y.2.2 ∈ ((m ++ [(k, (0 : Int), c)]).modify m.length fun x => (x.1, v, x.2.2)).map (·.2.2) := List.mem_map_of_mem hy
      rw [emod_map] at this
      · obtain ⟨z, hz, e⟩ := List.mem_map.1 this
        have := g1.old z hz
        simp only at this ⊢; omega
      · intro x; rfl
    · rw [eset_get g1.keys hlast, g2]
      by_cases e : k' = k <;> simp [e]
    · unfold eent; rw [hfind]
    · rw [g2, if_pos rfl, h2]
    · unfold estamp; rw [hfind]; simp
  · have e1 : eent k m c = (m, c) := by unfold eent; rw [h1]
    have e2 : estamp k m c = x.2.2 := by unfold estamp; rw [h1]; simp [h2]
    rw [e1, e2]
    have hidx : m.findIdx? (fun y => decide ((y.2.2 : Nat) = x.2.2)) = some j := by
      rw [List.findIdx?_eq_some_iff_getElem]
      have hj := (List.getElem?_eq_some_iff.1 h2).1
      refine ⟨hj, ?_, ?_⟩
      · have := (List.getElem?_eq_some_iff.1 h2).2
        rw [this]; simp
      · intro i hi
        have hxj := (List.getElem?_eq_some_iff.1 h2).2
        simp only [Bool.not_eq_true, decide_eq_false_iff_not]
        intro e
        have : (m.map (·.2.2))[i]'(by simp; omega) = (m.map (·.2.2))[j]'(by simpa using hj) := by
          rw [List.getElem_map, List.getElem_map, hxj]; exact e
        have := (List.getElem_inj h.born).1 this
        omega
    have hset : eset x.2.2 v m = m.modify j fun x => (x.1, v, x.2.2) := by unfold eset; rw [hidx]
    rw [hset]
    refine ⟨⟨?_, ?_, ?_⟩, fun k' => ?_, ⟨_, hidx⟩, e1, rfl, rfl⟩
    · rw [emod_map]
      · exact h.keys
      · intro x; rfl
    · rw [emod_map]
      · exact h.born
      · intro x; rfl
    · intro y hy
      have : y.2.2 ∈ (m.modify j fun y => (y.1, v, y.2.2)).map (·.2.2) := List.mem_map_of_mem hy
      rw [emod_map] at this
      · obtain ⟨z, hz, e⟩ := List.mem_map.1 this
        have := h.old z hz
        simp only at this ⊢; omega
      · intro x; rfl
    · rw [eset_get h.keys h2, h3]

theorem edel_spec {k : κ} {m : EM κ} {c : Nat} (h : EWf m c) : EWf (edel k m) c ∧ ∀ k', eget k' (edel k m) = if k' = k then 0 else eget k' m := by
  unfold edel
  rcases emfind k m with ⟨h1, h2, h3⟩ | ⟨j, x, h1, h2, h3, h4⟩
  · rw [h1]
    exact ⟨h, fun k' => by split <;> simp_all⟩
  · rw [h1]
    have hsub : (m.eraseIdx j).Sublist m := List.eraseIdx_sublist ..
    refine ⟨⟨h.keys.sublist (hsub.map _), h.born.sublist (hsub.map _), fun y hy => h.old y (hsub.mem hy)⟩, fun k' => ?_⟩
    have : ∀ (m : EM κ) (j : Nat), (m.map (·.1)).Nodup → m[j]? = some x → eget k' (m.eraseIdx j) = if k' = k then 0 else eget k' m := by
      intro m
      induction m with
      | nil => intro j _ hj; simp at hj
      | cons p m ih =>
        intro j hn hj
        have e : ∀ (p : κ × Int × Nat) (m : EM κ), eget k' (p :: m) = if p.1 = k' then p.2.1 else eget k' m := fun _ _ => rfl
        simp only [List.map_cons, List.nodup_cons] at hn
        cases j with
        | zero =>
          simp at hj; subst hj
          rw [List.eraseIdx_cons_zero, e]
          by_cases e' : k' = k
          · rw [if_pos e']
            exact eget_none fun y hy hk => hn.1 (by rw [h3, ← e', ← hk]; exact List.mem_map_of_mem hy)
          · rw [if_neg e', if_neg (fun e2 => e' (e2.symm.trans h3))]
        | succ j =>
          simp at hj
          rw [List.eraseIdx_cons_succ, e, e, ih j hn.2 hj]
          by_cases h' : p.1 = k'
          · have : k' ≠ k := fun e' => hn.1 (by rw [h', e', ← h3]; exact List.mem_map_of_mem (List.mem_of_getElem? hj))
            rw [if_pos h', if_pos h', if_neg this]
          · rw [if_neg h', if_neg h']
    exact this m j h.keys h2
end Go.Am
