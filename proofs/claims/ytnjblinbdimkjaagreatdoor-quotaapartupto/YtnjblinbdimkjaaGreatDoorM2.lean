/-
  bursarlaw18.QuotaApart answers true and leaves its arguments as they were, for inputs of bulk at most 1048576 (the given second form; no other condition). Part 2 of 26 of the proof.
-/
import Derived.Test.YtnjblinbdimkjaaGreatDoorM1
/-
  AM: how a state is kept, step by step.
-/
namespace Go.Am
open Go

theorem beq_ne {s t : Nat} (h : s ≠ t) : Nat.beq s t = false := by
  cases e : Nat.beq s t with
  | false => rfl
  | true => exact absurd (Nat.eq_of_beq_eq_true e) h
theorem getB_cons_self {α : Type} (s : Nat) (x : α) (l : List (Nat × α)) : getB s ((s, x) :: l) = some x := by simp [getB]
theorem getB_cons_ne {α : Type} {s t : Nat} (h : s ≠ t) (x : α) (l : List (Nat × α)) : getB s ((t, x) :: l) = getB s l := by
  have : Nat.beq s t = false := beq_ne h
  simp [getB, this]
theorem getT_cons_self (s : Nat) (x : AV) (l : List (Nat × AV)) : getT s ((s, x) :: l) = some x := by simp [getT]
theorem getT_cons_ne {s t : Nat} (h : s ≠ t) (x : AV) (l : List (Nat × AV)) : getT s ((t, x) :: l) = getT s l := by
  have : Nat.beq s t = false := beq_ne h
  simp [getT, this]
theorem getB_setB_self {α : Type} (s : Nat) (x y : α) : ∀ (l : List (Nat × α)), getB s l = some y → getB s (setB s x l) = some x
  | [], h => by simp [getB] at h
  | (t, z) :: l, h => by
    by_cases e : s = t
    · subst e; simp [setB, getB]
    · have hb : Nat.beq s t = false := beq_ne e
      rw [getB_cons_ne e] at h
      simp [setB, hb, getB, getB_setB_self s x y l h]
theorem getB_setB_ne {α : Type} {s t : Nat} (h : t ≠ s) (x : α) : ∀ (l : List (Nat × α)), getB t (setB s x l) = getB t l
  | [] => rfl
  | (u, z) :: l => by
    by_cases e : s = u
    · subst e; simp [setB, getB_cons_ne h]
    · have hb : Nat.beq s u = false := beq_ne e
      simp only [setB, hb, cond_false]
      by_cases e' : t = u
      · subst e'; simp [getB]
      · rw [getB_cons_ne e', getB_cons_ne e', getB_setB_ne h x l]
theorem getB_delB_self {α : Type} (s : Nat) : ∀ (l : List (Nat × α)), getB s (delB s l) = none
  | [] => rfl
  | (u, z) :: l => by
    by_cases e : s = u
    · subst e; simp [delB, getB_delB_self s l]
    · have hb : Nat.beq s u = false := beq_ne e
      simp only [delB, hb, cond_false]
      rw [getB_cons_ne e, getB_delB_self s l]
theorem getB_delB_ne {α : Type} {s t : Nat} (h : t ≠ s) : ∀ (l : List (Nat × α)), getB t (delB s l) = getB t l
  | [] => rfl
  | (u, z) :: l => by
    by_cases e : s = u
    · subst e; simp [delB, getB_cons_ne h, getB_delB_ne h l]
    · have hb : Nat.beq s u = false := beq_ne e
      simp only [delB, hb, cond_false]
      by_cases e' : t = u
      · subst e'; simp [getB]
      · rw [getB_cons_ne e', getB_cons_ne e', getB_delB_ne h l]

theorem pv1_rep {F : Facts} {v : Value} (h : v.oneCell' = true) : RepP F (pv1 v) v := by
  unfold pv1
  split
  · exact .nil
  · exact .val h
theorem pvs_rep {F : Facts} {l : List Value} {r : List PV} (h : pvs l = some r) : RepL F r l := by
  unfold pvs at h
  split at h
  · rename_i ha
    cases h
    induction l with
    | nil => exact .nil
    | cons v l ih => simp only [List.all_cons, Bool.and_eq_true] at ha; exact .cons (pv1_rep ha.1) (ih ha.2)
  · cases h

variable {P : Program} {gl : Nat → Option (List PV)} {D : Base} {G : Gh} {σ : St} {a : Act} {w : World}

/-! ### putting a slot -/
theorem Rel.put (h : Rel D G σ a w) {d : Nat} (hd : d < D.n) {x : AV} {v : Value} (hx : RepA G x v) : Rel D G (σ.put d x) (a.put (some d) v) w where
  df := h.df
  gl := h.gl
  sz := by simp [Act.put, h.sz]
  fr := by
    intro s av hs
    have hd' : d < a.tmps.size := by rw [h.sz]; exact hd
    by_cases e : s = d
    · subst e
      simp only [St.put, getT_cons_self, Option.some.injEq] at hs
      subst hs
      exact ⟨v, by simp [Act.put, hd'], hx⟩
    · rw [St.put, getT_cons_ne e] at hs
      obtain ⟨u, hu, hr⟩ := h.fr s av hs
      exact ⟨u, by simp only [Act.put]; rw [Array.getElem?_setIfInBounds_ne (Ne.symm e)]; exact hu, hr⟩
  fc := h.fc
  le := h.le
  old := h.old
  kept := h.kept
  ph := h.ph
  phF := h.phF
  phn := h.phn
  phl := h.phl
  bx := h.bx
  bk := h.bk
  rw := h.rw
  rk := h.rk

theorem Rel.ev (h : Rel D G σ a w) (hgl : D.gl = gl) (x : Operand) : RepA G (ev σ (trO gl x)) (a.eval x) := by
  cases x with
  | tmp t =>
    simp only [trO, Am.ev]
    cases hg : getT t σ.fr with
    | none => trivial
    | some av =>
      obtain ⟨v, hv, hr⟩ := h.fr t av hg
      have : a.eval (.tmp t) = v := by simp [Act.eval, hv]
      rw [this]; exact hr
  | const v =>
    simp only [trO, Am.ev, Act.eval]
    cases v with
    | agg cs =>
      simp only [trV]
      cases hp : pvs cs.toList with
      | none => trivial
      | some l => exact ⟨cs.toList, by simp, pvs_rep hp⟩
    | tuple vs => trivial
    | _ => exact RepP.val rfl
  | global g =>
    simp only [trO]
    cases hg : gl g with
    | none => trivial
    | some cs =>
      simp only [Am.ev, Act.eval]
      exact (h.gl g cs (by rw [hgl]; exact hg)).mono h.le
  | func f =>
    simp only [trO, Am.ev, Act.eval]
    have := RepP.fn (F := G.F) (f := f) (caps := []) (fun _ => undef) (by intro j x hx; simp at hx)
    simpa [RepA] using this

/-! ### the world grows -/
theorem Kept.grownBy {w w' : World} (h : Kept (fun _ => False) w w') : w.grownBy w' none :=
  ⟨h.os, h.tape, h.output, h.size, fun k hk _ => h.block k hk (fun e => e)⟩

theorem FactsOK.keep {F : Facts} {w w' : World} (h : FactsOK F w) (hb : ∀ b, b < w.heap.size → (∃ o v, F b o = some v) → w'.heap[b]? = w.heap[b]?) : FactsOK F w' := fun b o v e =>
  (World.cell?_of_block (w := w) (a := ⟨b, o, none⟩) (hb b (h.lt e) ⟨o, v, e⟩)).trans (h b o v e)

theorem BoxAt.lt {F : Facts} {b : Nat} {cs : List PV} (h : BoxAt F w b cs) : b < w.heap.size := by
  obtain ⟨l, T, hh, _⟩ := h
  exact (Array.getElem?_eq_some_iff.1 hh).1

/-- The world has turned in blocks of the resource alone, or the resource is another; boxes and rows lie as they lay. -/
theorem Rel.step {σ : St} (h : Rel D G σ a w) {w' : World} {F' : Facts} {φ' : Res} (hF : Facts.le G.F F') (hold : ∀ b o, b < w.heap.size → ¬ σ.ph.fp b → F' b o = G.F b o) (hfc : FactsOK F' w')
    (hk : Kept σ.ph.fp w w') (hok : φ'.ok F' w') (hpF : ∀ b o, φ'.fp b → F' b o = none) (hpn : ∀ b, φ'.fp b → σ.ph.fp b ∨ w.heap.size ≤ b) (hpl : ∀ b, φ'.fp b → b < w'.heap.size) :
    Rel D ⟨F', G.β, G.J⟩ { σ with ph := φ' } a w' := by
  have hdw : D.w.heap.size ≤ w.heap.size := h.kept.size
  have hbx : ∀ s b, G.β s = some b → b < w.heap.size ∧ w'.heap[b]? = w.heap[b]? := fun s b e => by
    obtain ⟨⟨cs, hc⟩, _, _, hn, _⟩ := h.bk s b e
    obtain ⟨b', hb', hbox⟩ := h.bx s cs hc
    rw [e] at hb'; cases hb'
    exact ⟨hbox.lt, hk.block b hbox.lt hn⟩
  refine { df := h.df, gl := h.gl, sz := h.sz, fr := ?_, fc := hfc, le := h.le.trans hF, old := ?_, kept := ?_, ph := hok, phF := hpF, phn := ?_, phl := hpl, bx := ?_, bk := ?_, rw := ?_, rk := h.rk }
  · intro s av hs
    obtain ⟨v, hv, hr⟩ := h.fr s av hs
    refine ⟨v, hv, ?_⟩
    cases av with
    | p x => exact RepP.mono hF hr
    | agg cs => obtain ⟨l, e, r⟩ := hr; exact ⟨l, e, r.mono fun _ _ => RepP.mono hF⟩
    | tup rs => obtain ⟨l, e, r⟩ := hr; exact ⟨l, e, r.mono fun _ _ => RepR.mono hF⟩
    | ref s o => exact hr
    | row r n => exact hr
    | xsl es => exact ⟨RepP.mono hF hr.1, hr.2⟩
    | junk => trivial
  · intro b o hb hnb
    show F' b o = _
    rw [hold b o (by omega) (fun hp => (h.phn b hp).elim hnb (fun e => by omega))]; exact h.old b o hb hnb
  · exact h.kept.trans hk h.phn
  · intro b hb
    rcases hpn b hb with e | e
    · exact h.phn b e
    · exact .inr (by omega)
  · intro s cs hs
    obtain ⟨b, hb, l, T, hh, hr⟩ := h.bx s cs hs
    exact ⟨b, hb, l, T, by rw [(hbx s b hb).2]; exact hh, hr.mono fun _ _ => RepP.mono hF⟩
  · intro s b e
    obtain ⟨hc, h1, h2, h3, h4⟩ := h.bk s b e
    obtain ⟨hlt, _⟩ := hbx s b e
    refine ⟨hc, h1, fun o => (hold b o hlt h3).trans (h2 o), fun hp => ?_, h4⟩
    rcases hpn b hp with e' | e'
    · exact h3 e'
    · omega
  · intro r T k es hr
    obtain ⟨v, xs, hv, hown, he, hl, hrep, hblk⟩ := h.rw r T k es hr
    have hown' : w'.ownsRow D.w.heap.size T k v es.length xs := by
      refine ⟨hown.1, ?_⟩
      rcases hown.2 with hn | ⟨g, cap, cur, rfl, hg, hgg, rest⟩
      · exact .inl hn
      · refine .inr ⟨g, cap, cur, rfl, hg, ?_, rest⟩
        rw [hk.block g (Array.getElem?_eq_some_iff.1 hgg).1 (hblk g rfl).2.1]
        exact hgg
    refine ⟨v, xs, hv, hown', he, hl, hrep.mono fun _ _ => RepP.mono hF, ?_⟩
    intro b hb
    obtain ⟨h1, h2, h3, h4⟩ := hblk b hb
    have hlt := (hown.lt b hb).2
    refine ⟨fun o => (hold b o hlt h2).trans (h1 o), fun hp => ?_, h3, h4⟩
    rcases hpn b hp with e' | e'
    · exact h2 e'
    · omega

/-- New blocks alone. -/
theorem Rel.grow (h : Rel D G σ a w) {w' : World} (hk : Kept (fun _ => False) w w') : Rel D G σ a w' := by
  have hfc : FactsOK G.F w' := h.fc.keep fun b hb _ => hk.block b hb (fun e => e)
  have := h.step (w' := w') (F' := G.F) (φ' := σ.ph) (Facts.le_refl _) (fun _ _ _ _ => rfl) hfc ⟨hk.os, hk.tape, hk.output, hk.size, fun b hb _ => hk.block b hb (fun e => e)⟩
    (σ.ph.stable _ _ _ _ (Facts.le_refl _) (fun b hb => hk.block b (h.phl b hb) (fun e => e)) h.ph) h.phF (fun b hb => .inl hb) (fun b hb => Nat.lt_of_lt_of_le (h.phl b hb) hk.size)
  exact this

theorem Kept.alloc (w : World) (o : Obj) : Kept (fun _ => False) w (w.alloc o) :=
  ⟨rfl, rfl, rfl, by simp, fun _ hb _ => Go.heap_alloc_old w o hb⟩
theorem Kept.drew (w : World) : Kept (fun _ => False) w w.drew := ⟨rfl, rfl, rfl, Nat.le_refl _, fun _ _ _ => rfl⟩

theorem Rel.row_lt (h : Rel D G σ a w) {r T k es v b} (hr : getB r σ.rw = some (T, k, es)) (hv : G.J r es.length = some v) (hb : v.ownBlock = some b) : b < w.heap.size := by
  obtain ⟨v', xs, hv', hown, _⟩ := h.rw r T k es hr
  rw [hv] at hv'; cases hv'
  exact (hown.lt b hb).2

/-- A new box. -/
theorem Rel.addBox (h : Rel D G σ a w) {s : Nat} (hs : getB s σ.bx = none) {l : List Value} {cs : List PV} (hl : RepL G.F cs l) (T : TypeId) :
    Rel D ⟨G.F, fun x => if x = s then some w.heap.size else G.β x, G.J⟩ { σ with bx := (s, cs) :: σ.bx } a (w.alloc (.cells l.toArray T (0, 0))) := by
  have hn : G.β s = none := by
    cases e : G.β s with
    | none => rfl
    | some b => obtain ⟨⟨cs, hc⟩, _⟩ := h.bk s b e; rw [hs] at hc; cases hc
  have hg := h.grow (Kept.alloc w (.cells l.toArray T (0, 0)))
  have hltb : ∀ s' b, G.β s' = some b → b < w.heap.size := fun s' b e => by
    obtain ⟨⟨cs, hc⟩, _⟩ := h.bk s' b e
    obtain ⟨b', hb', hbox⟩ := h.bx s' cs hc
    rw [e] at hb'; cases hb'; exact hbox.lt
  have hF : ∀ o, G.F w.heap.size o = none := fun o => by
    cases e : G.F w.heap.size o with
    | none => rfl
    | some v => have := h.fc.lt e; omega
  refine { hg with fr := ?_, bx := ?_, bk := ?_, rw := ?_ }
  · intro s' av hs'
    obtain ⟨v, hv, hr⟩ := h.fr s' av hs'
    refine ⟨v, hv, ?_⟩
    cases av with
    | ref s2 o =>
      obtain ⟨b, hb, e⟩ := hr
      refine ⟨b, ?_, e⟩
      have : s2 ≠ s := fun e => by subst e; rw [hn] at hb; cases hb
      simp [this, hb]
    | p x => exact hr
    | agg cs => exact hr
    | tup rs => exact hr
    | row r n => exact hr
    | xsl es => exact hr
    | junk => trivial
  · intro s' cs' hs'
    by_cases e : s' = s
    · subst e
      rw [getB_cons_self] at hs'; cases hs'
      exact ⟨w.heap.size, by simp, l, T, Go.heap_alloc_new w _, hl⟩
    · rw [getB_cons_ne e] at hs'
      obtain ⟨b, hb, hbox⟩ := hg.bx s' cs' hs'
      exact ⟨b, by simp [e, hb], hbox⟩
  · intro s' b e
    by_cases e' : s' = s
    · subst e'
      simp only [if_true, Option.some.injEq] at e
      subst e
      refine ⟨⟨cs, getB_cons_self _ _ _⟩, h.kept.size, hF, fun hp => ?_, fun s2 h2 => ?_⟩
      · have := h.phl _ hp; omega
      · by_cases e2 : s2 = s'
        · exact e2
        · simp only [e2, if_false] at h2
          have := hltb _ _ h2; omega
    · simp only [e', if_false] at e
      obtain ⟨⟨cs', hc⟩, h1, h2, h3, h4⟩ := h.bk s' b e
      refine ⟨⟨cs', by rw [getB_cons_ne e']; exact hc⟩, h1, h2, h3, fun s2 h2' => ?_⟩
      by_cases e2 : s2 = s
      · subst e2
        simp only [if_true, Option.some.injEq] at h2'
        have := hltb _ _ e; omega
      · simp only [e2, if_false] at h2'
        exact h4 s2 h2'
  · intro r T' k es hr
    obtain ⟨v, xs, hv, hown, he, hl', hrep, hblk⟩ := hg.rw r T' k es hr
    refine ⟨v, xs, hv, hown, he, hl', hrep, fun b hb => ?_⟩
    obtain ⟨h1, h2, h3, h4⟩ := hblk b hb
    refine ⟨h1, h2, fun s' => ?_, h4⟩
    by_cases e : s' = s
    · subst e
      simp only [if_true, ne_eq, Option.some.injEq]
      have := h.row_lt hr hv hb
      omega
    · simp only [e, if_false]; exact h3 s'

/-- A box is written. -/
theorem Rel.setBox (h : Rel D G σ a w) {s b : Nat} (hb : G.β s = some b) {old cs : List PV} (ho : getB s σ.bx = some old) {l : List Value} {T : TypeId} {w' : World}
    (hw : w'.heap[b]? = some (.cells l.toArray T (0, 0))) (hl : RepL G.F cs l) (hk : Kept (fun x => x = b) w w') :
    Rel D G { σ with bx := setB s cs σ.bx } a w' := by
  obtain ⟨_, hDb, hFb, hpb, hinj⟩ := h.bk s b hb
  refine { h with fc := ?_, kept := ?_, ph := ?_, phl := ?_, bx := ?_, bk := ?_, rw := ?_ }
  · exact h.fc.keep fun b' hb' ⟨o, v, e⟩ => hk.block b' hb' (fun e' => by subst e'; rw [hFb o] at e; cases e)
  · exact h.kept.trans hk (fun x e => .inr (by omega))
  · exact σ.ph.stable _ _ _ _ (Facts.le_refl _) (fun b' hb' => hk.block b' (h.phl b' hb') (fun e => by subst e; exact hpb hb')) h.ph
  · exact fun b' hb' => Nat.lt_of_lt_of_le (h.phl b' hb') hk.size
  · intro s' cs' hs'
    by_cases e : s' = s
    · subst e
      rw [getB_setB_self s' cs old _ ho] at hs'; cases hs'
      exact ⟨b, hb, l, T, hw, hl⟩
    · rw [getB_setB_ne e] at hs'
      obtain ⟨b', hb', l', T', hh, hr⟩ := h.bx s' cs' hs'
      refine ⟨b', hb', l', T', ?_, hr⟩
      have hne : b' ≠ b := fun e' => e (by subst e'; exact hinj s' hb')
      rw [hk.block b' (Array.getElem?_eq_some_iff.1 hh).1 hne]; exact hh
  · intro s' b' e
    obtain ⟨⟨cs', hc⟩, h1, h2, h3, h4⟩ := h.bk s' b' e
    refine ⟨?_, h1, h2, h3, h4⟩
    by_cases e' : s' = s
    · subst e'; exact ⟨cs, getB_setB_self _ _ _ _ hc⟩
    · exact ⟨cs', by rw [getB_setB_ne e']; exact hc⟩
  · intro r T' k es hr
    obtain ⟨v, xs, hv, hown, he, hl', hrep, hblk⟩ := h.rw r T' k es hr
    refine ⟨v, xs, hv, ⟨hown.1, ?_⟩, he, hl', hrep, hblk⟩
    rcases hown.2 with hn | ⟨g, cap, cur, rfl, hg, hgg, rest⟩
    · exact .inl hn
    · refine .inr ⟨g, cap, cur, rfl, hg, ?_, rest⟩
      rw [hk.block g (Array.getElem?_eq_some_iff.1 hgg).1 (fun e => (hblk g rfl).2.2.1 s (by rw [e]; exact hb))]
      exact hgg

theorem Rel.noJ (h : Rel D G σ a w) {r : Nat} (hr : getB r σ.rw = none) (n : Nat) : G.J r n = none := by
  cases e : G.J r n with
  | none => rfl
  | some v => obtain ⟨T, k, es, hc, _⟩ := h.rk r n v e; rw [hr] at hc; cases hc

/-- A new row (its block new in w', or none). -/
theorem Rel.addRow (h : Rel D G σ a w) {r : Nat} (hr : getB r σ.rw = none) {T k : Nat} {es : List (List PV)} {v : Value} {xs : List Value} {w' : World} (hk : Kept (fun _ => False) w w')
    (hown : w'.ownsRow D.w.heap.size T k v es.length xs) (he : ∀ e ∈ es, e.length = k) (hl : es.length ≤ LIM) (hrep : RepL G.F es.flatten xs) (hnew : ∀ b, v.ownBlock = some b → w.heap.size ≤ b) :
    Rel D ⟨G.F, G.β, fun r' n => if r' = r then (if n = es.length then some v else none) else G.J r' n⟩ { σ with rw := (r, T, k, es) :: σ.rw } a w' := by
  have hg := h.grow hk
  have hJ := h.noJ hr
  have hltb : ∀ s' b, G.β s' = some b → b < w.heap.size := fun s' b e => by
    obtain ⟨⟨cs, hc⟩, _⟩ := h.bk s' b e
    obtain ⟨b', hb', hbox⟩ := h.bx s' cs hc
    rw [e] at hb'; cases hb'; exact hbox.lt
  refine { hg with fr := ?_, rw := ?_, rk := ?_ }
  · intro s' av hs'
    obtain ⟨u, hu, hrp⟩ := h.fr s' av hs'
    refine ⟨u, hu, ?_⟩
    cases av with
    | row r2 n =>
      have hne : r2 ≠ r := fun e => by subst e; have := hJ n; simp only [RepA] at hrp; rw [this] at hrp; cases hrp
      simpa [RepA, hne] using hrp
    | p x => exact hrp
    | agg cs => exact hrp
    | tup rs => exact hrp
    | ref s o => exact hrp
    | xsl es => exact hrp
    | junk => trivial
  · intro r' T' k' es' hr'
    by_cases e : r' = r
    · subst e
      rw [getB_cons_self] at hr'; cases hr'
      refine ⟨v, xs, by simp, hown, he, hl, hrep, fun b hb => ⟨fun o => ?_, fun hp => ?_, fun s' e => ?_, fun r2 T2 k2 es2 v2 h2 hv2 hb2 => ?_⟩⟩
      · cases e : G.F b o with
        | none => rfl
        | some u => have := h.fc.lt e; have := hnew b hb; omega
      · have := h.phl b hp; have := hnew b hb; omega
      · have := hltb _ _ e; have := hnew b hb; omega
      · by_cases e2 : r2 = r'
        · exact e2
        · rw [getB_cons_ne e2] at h2
          simp only [e2, if_false] at hv2
          have := h.row_lt h2 hv2 hb2
          have := hnew b hb; omega
    · rw [getB_cons_ne e] at hr'
      obtain ⟨v1, xs1, hv1, hown1, he1, hl1, hrep1, hblk1⟩ := hg.rw r' T' k' es' hr'
      refine ⟨v1, xs1, by simp [e, hv1], hown1, he1, hl1, hrep1, fun b hb => ?_⟩
      obtain ⟨h1, h2, h3, h4⟩ := hblk1 b hb
      refine ⟨h1, h2, h3, fun r2 T2 k2 es2 v2 h2' hv2 hb2 => ?_⟩
      by_cases e2 : r2 = r
      · subst e2
        rw [getB_cons_self] at h2'; cases h2'
        simp only [if_true, Option.some.injEq] at hv2
        subst hv2
        have := h.row_lt hr' hv1 hb
        have := hnew b hb2; omega
      · rw [getB_cons_ne e2] at h2'
        simp only [e2, if_false] at hv2
        exact h4 r2 T2 k2 es2 v2 h2' hv2 hb2
  · intro r' n u hu
    by_cases e : r' = r
    · subst e
      simp only [if_true] at hu
      split at hu
      · rename_i en; exact ⟨T, k, es, getB_cons_self _ _ _, by omega⟩
      · cases hu
    · simp only [e, if_false] at hu
      obtain ⟨T', k', es', hc, hn⟩ := h.rk r' n u hu
      exact ⟨T', k', es', by rw [getB_cons_ne e]; exact hc, hn⟩

/-- A row is longer. -/
theorem Rel.setRow (h : Rel D G σ a w) {r T k : Nat} {es es' : List (List PV)} {v v' : Value} {xs' : List Value} {w' : World} (hr : getB r σ.rw = some (T, k, es)) (hv : G.J r es.length = some v)
    (hk : w.grownBy w' v.ownBlock) (hown : w'.ownsRow D.w.heap.size T k v' es'.length xs') (he : ∀ e ∈ es', e.length = k) (hl : es'.length ≤ LIM) (hrep : RepL G.F es'.flatten xs')
    (hlen : es.length < es'.length) (hnew : ∀ b, v'.ownBlock = some b → v.ownBlock = some b ∨ w.heap.size ≤ b) :
    Rel D ⟨G.F, G.β, fun r' n => if r' = r ∧ n = es'.length then some v' else G.J r' n⟩ { σ with rw := setB r (T, k, es') σ.rw } a w' := by
  obtain ⟨v0, xs, hv0, hown0, _, _, _, hblk0⟩ := h.rw r T k es hr
  rw [hv] at hv0; cases hv0
  have hkw : Kept (fun x => v.ownBlock = some x) w w' := ⟨hk.os, hk.tape, hk.output, hk.size, fun b hb hn => hk.block b hb (fun e => hn e.symm)⟩
  have hbx : ∀ s b, G.β s = some b → b < w.heap.size ∧ w'.heap[b]? = w.heap[b]? := fun s b e => by
    obtain ⟨⟨cs, hc⟩, _⟩ := h.bk s b e
    obtain ⟨b', hb', hbox⟩ := h.bx s cs hc
    rw [e] at hb'; cases hb'
    exact ⟨hbox.lt, hkw.block b hbox.lt (fun e' => (hblk0 b e').2.2.1 s e)⟩
  refine { h with fr := ?_, fc := ?_, kept := ?_, ph := ?_, phl := ?_, bx := ?_, rw := ?_, rk := ?_ }
  · intro s' av hs'
    obtain ⟨u, hu, hrp⟩ := h.fr s' av hs'
    refine ⟨u, hu, ?_⟩
    cases av with
    | row r2 n =>
      have : ¬ (r2 = r ∧ n = es'.length) := fun ⟨e1, e2⟩ => by
        subst e1
        obtain ⟨T2, k2, es2, hc, hn⟩ := h.rk r2 n u hrp
        rw [hr] at hc; cases hc
        omega
      simp only [RepA, this, if_false]; exact hrp
    | p x => exact hrp
    | agg cs => exact hrp
    | tup rs => exact hrp
    | ref s o => exact hrp
    | xsl es => exact hrp
    | junk => trivial
  · exact h.fc.keep fun b hb ⟨o, u, e⟩ => hkw.block b hb (fun e' => by have := (hblk0 b e').1 o; rw [this] at e; cases e)
  · exact h.kept.trans hkw (fun x e => .inr (hown0.lt x e).1)
  · exact σ.ph.stable _ _ _ _ (Facts.le_refl _) (fun b hb => hkw.block b (h.phl b hb) (fun e => (hblk0 b e).2.1 hb)) h.ph
  · exact fun b hb => Nat.lt_of_lt_of_le (h.phl b hb) hk.size
  · intro s' cs' hs'
    obtain ⟨b', hb', l', T', hh, hr'⟩ := h.bx s' cs' hs'
    exact ⟨b', hb', l', T', by rw [(hbx s' b' hb').2]; exact hh, hr'⟩
  · intro r' T' k' es2 hr'
    by_cases e : r' = r
    · subst e
      rw [getB_setB_self _ _ _ _ hr] at hr'; cases hr'
      refine ⟨v', xs', by simp, hown, he, hl, hrep, fun b hb => ?_⟩
      rcases hnew b hb with e | e
      · obtain ⟨h1, h2, h3, h4⟩ := hblk0 b e
        refine ⟨h1, h2, h3, fun r2 T2 k2 es3 v2 h2' hv2 hb2 => ?_⟩
        by_cases e2 : r2 = r'
        · exact e2
        · rw [getB_setB_ne e2] at h2'
          simp only [e2, false_and, if_false] at hv2
          exact h4 r2 T2 k2 es3 v2 h2' hv2 hb2
      · refine ⟨fun o => ?_, fun hp => ?_, fun s' e' => ?_, fun r2 T2 k2 es3 v2 h2' hv2 hb2 => ?_⟩
        · cases e' : G.F b o with
          | none => rfl
          | some u => have := h.fc.lt e'; omega
        · have := h.phl b hp; omega
        · have := (hbx _ _ e').1; omega
        · by_cases e2 : r2 = r'
          · exact e2
          · rw [getB_setB_ne e2] at h2'
            simp only [e2, false_and, if_false] at hv2
            have := h.row_lt h2' hv2 hb2; omega
    · rw [getB_setB_ne e] at hr'
      obtain ⟨v1, xs1, hv1, hown1, he1, hl1, hrep1, hblk1⟩ := h.rw r' T' k' es2 hr'
      have hne : v1.ownBlock = none ∨ v1.ownBlock ≠ v.ownBlock := by
        cases hb1 : v1.ownBlock with
        | none => exact .inl rfl
        | some b =>
          refine .inr fun e' => e ?_
          exact (hblk0 b e'.symm).2.2.2 r' T' k' es2 v1 hr' hv1 hb1
      refine ⟨v1, xs1, by simp [e, hv1], hown1.kept hk hne, he1, hl1, hrep1, fun b hb => ?_⟩
      obtain ⟨h1, h2, h3, h4⟩ := hblk1 b hb
      refine ⟨h1, h2, h3, fun r2 T2 k2 es3 v2 h2' hv2 hb2 => ?_⟩
      by_cases e2 : r2 = r
      · subst e2
        rw [getB_setB_self _ _ _ _ hr] at h2'; cases h2'
        simp only [and_self, if_true, Option.some.injEq] at hv2
        subst hv2
        rcases hnew b hb2 with e' | e'
        · exact h4 r2 T k es v hr hv e'
        · have := h.row_lt hr' hv1 hb; omega
      · rw [getB_setB_ne e2] at h2'
        simp only [e2, false_and, if_false] at hv2
        exact h4 r2 T2 k2 es3 v2 h2' hv2 hb2
  · intro r' n u hu
    by_cases e : r' = r
    · subst e
      by_cases en : n = es'.length
      · exact ⟨T, k, es', getB_setB_self _ _ _ _ hr, by omega⟩
      · simp only [en, and_false, if_false] at hu
        obtain ⟨T', k', es2, hc, hn⟩ := h.rk r' n u hu
        rw [hr] at hc; cases hc
        exact ⟨T, k, es', getB_setB_self _ _ _ _ hr, by omega⟩
    · simp only [e, false_and, if_false] at hu
      obtain ⟨T', k', es2, hc, hn⟩ := h.rk r' n u hu
      exact ⟨T', k', es2, by rw [getB_setB_ne e]; exact hc, hn⟩

end Go.Am

/-
  AM: each operation does what AM says.
-/
namespace Go.Am
open Go

variable {P : Program} {gl : Nat → Option (List PV)} {D : Base} {G : Gh} {σ : St} {a : Act} {w : World}
variable {o : Oper} {K : AV → St → Prop} {next : Act → World → Prop} {Q : Exit → Act → World → Prop}

/-- what is owed behind an operation -/
def Nxt (D : Base) (o : Oper) (a : Act) (K : AV → St → Prop) (next : Act → World → Prop) : Prop :=
  ∀ G' σ' av v w', Rel D G' σ' a w' → RepA G' av v → K av σ' → next (a.put o.dst v) w'

theorem wp_value {v : Value} {w' : World} (hr : (execOp a.eval o).run P w = .ok (.value v) w') (hn : next (a.put o.dst v) w') : o.wp P a w next Q := by
  unfold Oper.wp; rw [hr]; exact hn
theorem wp_skip' {w' : World} (hr : (execOp a.eval o).run P w = .ok .skip w') (hn : next (a.put o.dst undef) w') : o.wp P a w next Q := by
  unfold Oper.wp; rw [hr]; exact hn

theorem cellsOf_rep {av : AV} {v : Value} {cs : List PV} (h : RepA G av v) (hc : cellsOf av = some cs) : ∃ l : List Value, v.cells = l.toArray ∧ RepL G.F cs l := by
  cases av <;> simp only [cellsOf, Option.some.injEq, reduceCtorEq] at hc
  · subst hc
    exact ⟨[v], by rw [cells_one (RepP.one h)], .cons h .nil⟩
  · subst hc
    obtain ⟨l, rfl, r⟩ := h
    exact ⟨l, rfl, r⟩
  · subst hc
    exact ⟨[v], by rw [cells_one (RepP.one h.1)], .cons h.1 .nil⟩

theorem nox_rep {av : AV} {v : Value} (h : RepA G av v) : RepA G (nox av) v := by
  unfold nox
  split
  · exact h.1
  · exact h

theorem sound_mov {x : Operand} (ho : o.op = .move x ∨ o.op = .assign x) (hr : Rel D G σ a w) (hgl : D.gl = gl) (h : K (nox (ev σ (trO gl x))) σ) (hn : Nxt D o a K next) : o.wp P a w next Q := by
  refine wp_value (v := a.eval x) (w' := w) ?_ (hn G σ _ _ w hr (nox_rep (hr.ev hgl x)) h)
  rcases ho with ho | ho <;> simp [execOp, ho]

theorem repA_val {u v : Value} (h : RepA G (.p (.val u)) v) : v = u := by cases h; rfl
theorem repA_bool {b : Bool} {v : Value} (h : RepA G (.p (.val (.bool b))) v) : v = .bool b := repA_val h

theorem pickA_inv {c x y : AV} (h : pickA c x y σ K) : ∃ b, c = .p (.val (.bool b)) ∧ (b = true → K x σ) ∧ (b = false → K y σ) := by
  unfold pickA at h
  split at h
  · exact ⟨_, rfl, h⟩
  · exact h.elim

theorem sound_pick {c x y : Operand} (ho : o.op = .pick c x y) (hr : Rel D G σ a w) (hgl : D.gl = gl) (h : pickA (ev σ (trO gl c)) (ev σ (trO gl x)) (ev σ (trO gl y)) σ K)
    (hn : Nxt D o a K next) : o.wp P a w next Q := by
  have hc := hr.ev hgl c
  obtain ⟨b, e, h1, h2⟩ := pickA_inv h
  rw [e] at hc
  have hv := repA_val hc
  cases b with
  | true => exact wp_value (v := a.eval x) (w' := w) (by simp [execOp, ho, hv, asBool]) (hn G σ _ _ w hr (hr.ev hgl x) (h1 rfl))
  | false => exact wp_value (v := a.eval y) (w' := w) (by simp [execOp, ho, hv, asBool]) (hn G σ _ _ w hr (hr.ev hgl y) (h2 rfl))

theorem run_newVar (T : TypeId) (v : Value) (l : List Value) (h : v.cells = l.toArray) : (newVar T v).run P w = .ok ⟨w.heap.size, 0, none⟩ (w.alloc (.cells l.toArray T (0, 0))) := by
  simp only [newVar, newRow, newObj, h, Sem.run_bind]
  rfl

theorem sound_alloc {T : TypeId} {z : Value} {l : List PV} (ho : o.op = .alloc T) (hz : (P.info? T).bind (·.zero) = some z) (hl : pvs z.cells.toList = some l) {d : Nat}
    (hr : Rel D G σ a w) (h : allocA d l σ K) (hn : Nxt D o a K next) : o.wp P a w next Q := by
  obtain ⟨hb, hk⟩ := h
  have hrun : (execOp a.eval o).run P w = .ok (.value (.pointer (some ⟨w.heap.size, 0, none⟩))) (w.alloc (.cells z.cells.toList.toArray T (0, 0))) := by
    cases hi : P.info? T with
    | none => simp [hi] at hz
    | some i =>
      have hz' : i.zero = some z := by simpa [hi] using hz
      simp [execOp, ho, Instr.alloc, zeroValue, typeInfo, hi, hz', run_newVar (P := P) (w := w) T z z.cells.toList (by simp)]
  exact wp_value hrun (hn _ _ (.ref d 0) _ _ (hr.addBox hb (pvs_rep hl) T) ⟨w.heap.size, by simp, rfl⟩ hk)

theorem sound_box {T : TypeId} {x : Operand} (ho : o.op = .box T x) {d : Nat} (hr : Rel D G σ a w) (hgl : D.gl = gl) (h : boxA d (ev σ (trO gl x)) σ K) (hn : Nxt D o a K next) :
    o.wp P a w next Q := by
  have hx := hr.ev hgl x
  unfold boxA at h
  split at h
  · rename_i cs hc
    obtain ⟨l, hl, hrep⟩ := cellsOf_rep hx hc
    obtain ⟨hb, hk⟩ := h
    have hrun : (execOp a.eval o).run P w = .ok (.value (.pointer (some ⟨w.heap.size, 0, none⟩))) (w.alloc (.cells l.toArray T (0, 0))) := by
      simp [execOp, ho, Instr.box, run_newVar (P := P) (w := w) T _ l hl]
    exact wp_value hrun (hn _ _ (.ref d 0) _ _ (hr.addBox hb hrep T) ⟨w.heap.size, by simp, rfl⟩ hk)
  · exact h.elim

/-! ### loads -/
theorem isAgg_run {T : TypeId} {d : TypeDesc} (hd : P.underlying T = some d) : (isAgg T).run P w = .ok (isAggD d) w := by
  unfold isAgg
  rw [Sem.run_bind, run_underlying hd w]
  cases d <;> rfl

theorem addr_add (b o j : Nat) : (⟨b, o, none⟩ : Addr).add j = ⟨b, o + j, none⟩ := by
  unfold Addr.add; split <;> simp_all

theorem run_loadVar_cells {T : TypeId} {d : TypeDesc} {i : TypeInfo} (hd : P.underlying T = some d) (hi : P.info? T = some i) {b off : Nat} {vs : List Value}
    (hc : ∀ j v, vs[j]? = some v → w.cell? ⟨b, off + j, none⟩ = some v) (hl : i.size ≤ vs.length) (h1 : isAggD d = false → i.size = 1) :
    (loadVar T ⟨b, off, none⟩).run P w = .ok (if isAggD d then .agg (vs.take i.size).toArray else vs.headD undef) w := by
  have hs : (sizeOf T).run P w = .ok i.size w := by simp [sizeOf, typeInfo, hi]
  cases hag : isAggD d with
  | true =>
    have hcells := run_loadCells_list (P := P) w ⟨b, off, none⟩ (vs.take i.size) (fun j v hv => by
      rw [addr_add]
      rw [List.getElem?_take] at hv
      split at hv
      · exact hc j v hv
      · cases hv)
    have hln : (vs.take i.size).length = i.size := by simp; omega
    rw [hln] at hcells
    simp [loadVar, isAgg_run hd, hag, hs, hcells]
  | false =>
    have hk := h1 hag
    cases vs with
    | nil => simp at hl; omega
    | cons v vs =>
      have := hc 0 v (by simp)
      simp at this
      simp [loadVar, isAgg_run hd, hag, load, Sem.run, this]

theorem cellsA_rep {cs : List PV} {vs : List Value} {k : Nat} {agg : Bool} (h : RepL G.F cs vs) (hk : k ≤ cs.length) (h1 : agg = false → k = 1) :
    RepA G (cellsA agg k cs) (if agg then .agg (vs.take k).toArray else vs.headD undef) := by
  cases agg with
  | true => exact ⟨vs.take k, by simp, h.take k⟩
  | false =>
    have := h1 rfl
    cases h with
    | nil => simp at hk; omega
    | cons h t => simpa [cellsA, RepA] using h

theorem loadA_inv {agg : Bool} {k : Nat} {x : AV} (h : loadA agg k x σ K) : (agg = false → k = 1) ∧
    ((∃ s off cs, x = .ref s off ∧ getB s σ.bx = some cs ∧ off + k ≤ cs.length ∧ K (cellsA agg k (cs.drop off)) σ) ∨ (∃ cs, x = .p (.ip cs) ∧ k ≤ cs.length ∧ K (cellsA agg k cs) σ) ∨
      (∃ b o cs, x = .p (.val (.pointer (some ⟨b, o, none⟩))) ∧ PhLoad σ.ph b o k cs ∧ K (cellsA agg k cs) σ)) := by
  unfold loadA at h
  split at h
  · split at h
    · obtain ⟨h1, h2, h3⟩ := h; exact ⟨h2, .inl ⟨_, _, _, rfl, ‹_›, h1, h3⟩⟩
    · exact h.elim
  · obtain ⟨h1, h2, h3⟩ := h; exact ⟨h2, .inr (.inl ⟨_, rfl, h1, h3⟩)⟩
  · obtain ⟨cs, h1, h2, h3⟩ := h; exact ⟨h2, .inr (.inr ⟨_, _, cs, rfl, h1, h3⟩)⟩
  · exact h.elim

theorem getElem?_take_some {α : Type} {l : List α} {n i : Nat} {x : α} (h : (l.take n)[i]? = some x) : l[i]? = some x := by
  rw [List.getElem?_take] at h; split at h
  · exact h
  · cases h

theorem ip_cells {F : Facts} {cs : List PV} {v : Value} (h : RepP F (.ip cs) v) : ∃ b off vs, v = .pointer (some ⟨b, off, none⟩) ∧ RepL F cs vs ∧ (∀ (j : Nat) (u : Value), vs[j]? = some u → F b (off + j) = some u) := by
  cases h with
  | @ip _ b off vs h1 h2 =>
    refine ⟨b, off, (List.range cs.length).map vs, rfl, All2.of_get (by simp) (fun i x y hx hy => ?_), fun j u hu => ?_⟩
    · have hlt : i < cs.length := (List.getElem?_eq_some_iff.1 hx).1
      simp [List.getElem?_map, List.getElem?_range hlt] at hy
      rw [← hy]; exact h2 i x hx
    · have hlt : j < cs.length := by
        have := (List.getElem?_eq_some_iff.1 hu).1; simpa using this
      simp [List.getElem?_map, List.getElem?_range hlt] at hu
      rw [← hu]; exact h1 j cs[j] (by simp)

theorem sound_load {T : TypeId} {x : Operand} {d : TypeDesc} {i : TypeInfo} (ho : o.op = .load T x) (hd : P.underlying T = some d) (hi : P.info? T = some i)
    (hr : Rel D G σ a w) (hgl : D.gl = gl) (h : loadA (isAggD d) i.size (ev σ (trO gl x)) σ K) (hn : Nxt D o a K next) : o.wp P a w next Q := by
  have hx := hr.ev hgl x
  obtain ⟨h1, h⟩ := loadA_inv h
  rcases h with ⟨s, off, cs, e, hb, hl, hk⟩ | ⟨cs, e, hl, hk⟩ | ⟨b, off, cs, e, ⟨hl, hph⟩, hk⟩
  · rw [e] at hx
    obtain ⟨b, hβ, hv⟩ := hx
    obtain ⟨b', hβ', l, T', hh, hrep⟩ := hr.bx s cs hb
    rw [hβ] at hβ'; cases hβ'
    have hlen := hrep.len
    have hrun := run_loadVar_cells (P := P) (w := w) hd hi (b := b) (off := off) (vs := l.drop off) (fun j v hv => by
      rw [cell_of_row w b _ _ _ _ hh]
      simpa [List.getElem?_drop] using hv) (by simp; omega) h1
    refine wp_value (v := if isAggD d then .agg ((l.drop off).take i.size).toArray else (l.drop off).headD undef) (w' := w) ?_
      (hn _ _ _ _ _ hr (cellsA_rep (hrep.drop off) (by simp; omega) h1) hk)
    simp only [execOp, ho, Instr.loadAt, Instr.sureAddr, hv, Sem.run_bind, Sem.run_pure, Result.andThen_ok, hrun]
  · rw [e] at hx
    obtain ⟨b, off, vs, hv, hrep, hcell⟩ := ip_cells hx
    have hlen := hrep.len
    have hrun := run_loadVar_cells (P := P) (w := w) hd hi (b := b) (off := off) (vs := vs) (fun j v hv => hr.fc _ _ _ (hcell j v hv)) (by omega) h1
    refine wp_value (v := if isAggD d then .agg (vs.take i.size).toArray else vs.headD undef) (w' := w) ?_ (hn _ _ _ _ _ hr (cellsA_rep hrep hl h1) hk)
    simp only [execOp, ho, Instr.loadAt, Instr.sureAddr, hv, Sem.run_bind, Sem.run_pure, Result.andThen_ok, hrun]
  · rw [e] at hx
    have hv := repA_val hx
    obtain ⟨vs, hrep, hcell⟩ := hph _ _ hr.ph
    have hlen := hrep.len
    have hrun := run_loadVar_cells (P := P) (w := w) hd hi (b := b) (off := off) (vs := vs) hcell (by omega) h1
    refine wp_value (v := if isAggD d then .agg (vs.take i.size).toArray else vs.headD undef) (w' := w) ?_ (hn _ _ _ _ _ hr (cellsA_rep hrep (by omega) h1) hk)
    simp only [execOp, ho, Instr.loadAt, Instr.sureAddr, hv, Sem.run_bind, Sem.run_pure, Result.andThen_ok, hrun]

end Go.Am

/-
  AM: the other operations.
-/
namespace Go.Am
open Go

variable {P : Program} {gl : Nat → Option (List PV)} {D : Base} {G : Gh} {σ : St} {a : Act} {w : World}
variable {o : Oper} {K : AV → St → Prop} {next : Act → World → Prop} {Q : Exit → Act → World → Prop}

theorem val_A {v : Value} (h : v.oneCell' = true) : RepA G (.p (.val v)) v := RepP.val h

/-! ### a store into a box -/
theorem storeA_inv {k : Nat} {x y : AV} (h : storeA k x y σ K) : (∃ b off xs φ', x = .p (.val (.pointer (some ⟨b, off, none⟩))) ∧ cellsOf y = some xs ∧ xs.length = k ∧ PhStore σ.ph b off xs φ' ∧ K (.tup []) { σ with ph := φ' }) ∨ ∃ s off cs xs, x = .ref s off ∧ getB s σ.bx = some cs ∧ cellsOf y = some xs ∧ xs.length = k ∧ off + k ≤ cs.length ∧
    K (.tup []) { σ with bx := setB s (splice cs off xs) σ.bx } := by
  unfold storeA at h
  split at h
  · split at h
    · obtain ⟨h1, h2, h3⟩ := h; exact .inr ⟨_, _, _, _, rfl, ‹_›, ‹_›, h1, h2, h3⟩
    · exact h.elim
  · split at h
    · obtain ⟨φ', h1, h2, h3⟩ := h; exact .inl ⟨_, _, _, φ', rfl, ‹_›, h1, h2, h3⟩
    · exact h.elim
  · exact h.elim

theorem rep_one {F : Facts} {xs : List PV} {l : List Value} (h : RepL F xs l) : ∀ v ∈ l, v.oneCell' = true := by
  induction h with
  | nil => intro v hv; cases hv
  | cons h _ ih =>
    intro v hv
    cases hv with
    | head => exact h.one
    | tail _ hv => exact ih v hv

theorem setRow_kept (w : World) (g : Nat) (cs : Array Value) : Kept (fun x => x = g) w (w.setRow g cs) :=
  ⟨rfl, rfl, rfl, by simp [World.setRow], fun b _ hn => setRow_other w g b cs hn⟩

theorem sound_store {T : TypeId} {x y : Operand} {i : TypeInfo} (ho : o.op = .store T x y) (hi : P.info? T = some i) (hr : Rel D G σ a w) (hgl : D.gl = gl)
    (h : storeA i.size (ev σ (trO gl x)) (ev σ (trO gl y)) σ K) (hn : Nxt D o a K next) : o.wp P a w next Q := by
  have hx := hr.ev hgl x
  rcases storeA_inv h with ⟨b, off, xs, φ', e, hc, hk, ⟨hfp, hsub, hst⟩, hK⟩ | ⟨s, off, cs, xs, e, hb, hc, hk, hl, hK⟩
  · rw [e] at hx
    have hv := repA_val hx
    obtain ⟨ys, hy, hyr⟩ := cellsOf_rep (hr.ev hgl y) hc
    have hly := hyr.len
    obtain ⟨l, T', hh, hle, hok⟩ := hst G.F w ys hr.ph hyr
    have hrun := run_storeCells_at P b off T' ys 0 l.toArray w hh (by simp; omega) (rep_one hyr)
    have hkp := setRow_kept w b (l.take off ++ ys ++ l.drop (off + ys.length)).toArray
    have hfc : FactsOK G.F (w.setRow b (l.take off ++ ys ++ l.drop (off + ys.length)).toArray) := fun b' o' u hu => by
      have hne : b' ≠ b := fun e => by subst e; rw [hr.phF _ _ hfp] at hu; cases hu
      have hlt := hr.fc.lt hu
      exact (World.cell?_of_block (w := w) (a := ⟨b', o', none⟩) (hkp.block b' hlt hne)).trans (hr.fc b' o' u hu)
    have hrel := hr.step (w' := w.setRow b (l.take off ++ ys ++ l.drop (off + ys.length)).toArray) (F' := G.F) (φ' := φ') (Facts.le_refl _) (fun _ _ _ _ => rfl) hfc
      ⟨hkp.os, hkp.tape, hkp.output, hkp.size, fun b' hb' hn' => hkp.block b' hb' (fun e => hn' (e ▸ hfp))⟩ hok (fun b' o' hp => hr.phF _ _ (hsub _ hp)) (fun b' hp => .inl (hsub _ hp)) (fun b' hp => Nat.lt_of_lt_of_le (hr.phl _ (hsub _ hp)) hkp.size)
    refine wp_skip' (w' := w.setRow b (l.take off ++ ys ++ l.drop (off + ys.length)).toArray) ?_ (hn _ _ (.tup []) _ _ hrel ⟨[], rfl, .nil⟩ hK)
    have hs : (sizeOf T).run P w = .ok i.size w := by simp [sizeOf, typeInfo, hi]
    have hsz : (a.eval y).cells.size = i.size := by rw [hy]; simp; omega
    simp only [Nat.add_zero] at hrun
    simp [execOp, ho, Instr.storeAt, Instr.sureAddr, storeVar, hv, hs, hy, hrun]
    omega
  rw [e] at hx
  obtain ⟨b, hβ, hv⟩ := hx
  obtain ⟨b', hβ', l, T', hh, hrep⟩ := hr.bx s cs hb
  rw [hβ] at hβ'; cases hβ'
  obtain ⟨ys, hy, hyr⟩ := cellsOf_rep (hr.ev hgl y) hc
  have hly := hyr.len
  have hlc := hrep.len
  have hst := run_storeCells_at P b off T' ys 0 l.toArray w hh (by simp; omega) (rep_one hyr)
  have hrep' : RepL G.F (splice cs off xs) (l.take off ++ ys ++ l.drop (off + ys.length)) := by
    unfold splice; rw [← hly]
    exact ((hrep.take off).app hyr).app (hrep.drop _)
  have hw : (w.setRow b (l.take off ++ ys ++ l.drop (off + ys.length)).toArray).heap[b]? = some (.cells (l.take off ++ ys ++ l.drop (off + ys.length)).toArray T' (0, 0)) :=
    setRow_heap w b _ _ T' _ hh
  refine wp_skip' (w' := w.setRow b (l.take off ++ ys ++ l.drop (off + ys.length)).toArray) ?_ (hn _ _ (.tup []) _ _ (hr.setBox hβ hb hw hrep' (setRow_kept w b _)) ⟨[], rfl, .nil⟩ hK)
  have hs : (sizeOf T).run P w = .ok i.size w := by simp [sizeOf, typeInfo, hi]
  have hsz : (a.eval y).cells.size = i.size := by rw [hy]; simp; omega
  simp only [Nat.add_zero] at hst
  simp [execOp, ho, Instr.storeAt, Instr.sureAddr, storeVar, hv, hs, hy, hst]
  omega

/-! ### addresses -/
theorem fadA_inv {f : Nat} {x : AV} (h : fadA f x σ K) : (∃ s off, x = .ref s off ∧ K (.ref s (off + f)) σ) ∨ (∃ cs, x = .p (.ip cs) ∧ K (.p (.ip (cs.drop f))) σ) ∨ (∃ b off, x = .p (.val (.pointer (some ⟨b, off, none⟩))) ∧ K (.p (.val (.pointer (some ⟨b, off + f, none⟩)))) σ) := by
  unfold fadA at h
  split at h
  · exact .inl ⟨_, _, rfl, h⟩
  · exact .inr (.inl ⟨_, rfl, h⟩)
  · exact .inr (.inr ⟨_, _, rfl, h⟩)
  · exact h.elim

theorem RepP.ip_drop {F : Facts} {cs : List PV} {b off : Nat} (h : RepP F (.ip cs) (.pointer (some ⟨b, off, none⟩))) (n : Nat) : RepP F (.ip (cs.drop n)) (.pointer (some ⟨b, off + n, none⟩)) := by
  cases h with
  | ip vs h1 h2 =>
    refine .ip (fun j => vs (n + j)) (fun j x hx => ?_) (fun j x hx => ?_)
    · rw [List.getElem?_drop] at hx
      have := h1 _ x hx
      rwa [← Nat.add_assoc] at this
    · rw [List.getElem?_drop] at hx
      exact h2 _ x hx

theorem sound_fad {T : TypeId} {x : Operand} {f : Nat} {fs : Array Field} {fd : Field} {i : TypeInfo} (ho : o.op = .fieldAddr T x f) (hu : P.underlying T = some (.struct fs)) (hf : fs[f]? = some fd)
    (hi : P.info? fd.type = some i) (hz : i.size ≠ 0) (hr : Rel D G σ a w) (hgl : D.gl = gl) (h : fadA fd.offset (ev σ (trO gl x)) σ K) (hn : Nxt D o a K next) : o.wp P a w next Q := by
  have hx := hr.ev hgl x
  have hs : (sizeOf fd.type).run P w = .ok i.size w := by simp [sizeOf, typeInfo, hi]
  rcases fadA_inv h with ⟨s, off, e, hK⟩ | ⟨cs, e, hK⟩ | ⟨b, off, e, hK⟩
  · rw [e] at hx
    obtain ⟨b, hβ, hv⟩ := hx
    refine wp_value (v := .pointer (some ⟨b, off + fd.offset, none⟩)) (w' := w) ?_ (hn _ _ (.ref s (off + fd.offset)) _ _ hr ⟨b, hβ, rfl⟩ hK)
    simp [execOp, ho, Instr.fieldAt, Instr.sureAddr, hv, run_underlying hu, hf, fieldPlace, hs, hz, addr_add]
  · rw [e] at hx
    obtain ⟨b, off, vs, hv, _, _⟩ := ip_cells hx
    rw [hv] at hx
    refine wp_value (v := .pointer (some ⟨b, off + fd.offset, none⟩)) (w' := w) ?_ (hn _ _ (.p (.ip (cs.drop fd.offset))) _ _ hr (RepP.ip_drop hx _) hK)
    simp [execOp, ho, Instr.fieldAt, Instr.sureAddr, hv, run_underlying hu, hf, fieldPlace, hs, hz, addr_add]
  · rw [e] at hx
    have hv := repA_val hx
    refine wp_value (v := .pointer (some ⟨b, off + fd.offset, none⟩)) (w' := w) ?_ (hn _ _ (.p (.val (.pointer (some ⟨b, off + fd.offset, none⟩)))) _ _ hr (.val rfl) hK)
    simp [execOp, ho, Instr.fieldAt, Instr.sureAddr, hv, run_underlying hu, hf, fieldPlace, hs, hz, addr_add]

theorem iadA_inv {k : Nat} {x y : AV} (h : iadA k x y σ K) : (∃ es n kk i e, x = .p (.sl es n) ∧ y = .p (.val (.int kk i)) ∧ 0 ≤ i ∧ i < (n : Int) ∧ es[i.toNat]? = some e ∧ e.length = k ∧ K (.p (.ip e)) σ) ∨
    (∃ b o n c kk i, x = .p (.val (.slice (some ⟨b, o, none⟩) n c)) ∧ y = .p (.val (.int kk i)) ∧ 0 ≤ i ∧ i < (n : Int) ∧ K (.p (.val (.pointer (some ⟨b, o + i.toNat * k, none⟩)))) σ) := by
  unfold iadA at h
  split at h
  · obtain ⟨h1, h2, e, h3, h4, h5⟩ := h
    exact .inl ⟨_, _, _, _, e, rfl, rfl, h1, h2, h3, h4, h5⟩
  · obtain ⟨h1, h2, h3⟩ := h
    exact .inr ⟨_, _, _, _, _, _, rfl, rfl, h1, h2, h3⟩
  · exact h.elim

theorem sl_elem {F : Facts} {es : List (List PV)} {n : Nat} {v : Value} (h : RepP F (.sl es n) v) {i : Nat} {e : List PV} (he : es[i]? = some e) :
    ∃ b off c, v = .slice (some ⟨b, off, none⟩) n c ∧ RepP F (.ip e) (.pointer (some ⟨b, off + i * e.length, none⟩)) := by
  cases h with
  | @sl _ _ b off c vs k hn hc hl hk h1 h2 =>
    refine ⟨b, off, c, rfl, ?_⟩
    have hek : e.length = k := hk e (List.mem_of_getElem? he)
    refine .ip (vs i) (fun j x hx => ?_) (fun j x hx => h2 i j e x he hx)
    have := h1 i j e x he hx
    rwa [← Nat.add_assoc, ← hek] at this
  | nil => simp at he
  | nil0 => simp at he

theorem sound_iad {T e : TypeId} {x y : Operand} {i : TypeInfo} (ho : o.op = .indexAddr T x y) (hu : P.underlying T = some (.slice e)) (hi : P.info? e = some i)
    (hr : Rel D G σ a w) (hgl : D.gl = gl) (h : iadA i.size (ev σ (trO gl x)) (ev σ (trO gl y)) σ K) (hn : Nxt D o a K next) : o.wp P a w next Q := by
  have hx := hr.ev hgl x
  have hy := hr.ev hgl y
  have hs : (sizeOf e).run P w = .ok i.size w := by simp [sizeOf, typeInfo, hi]
  rcases iadA_inv h with ⟨es, n, kk, ix, ce, e1, e2, h0, h1, he, hk, hK⟩ | ⟨b, off, n, c, kk, ix, e1, e2, h0, h1, hK⟩
  · rw [e1] at hx
    rw [e2] at hy
    have hyv := repA_val hy
    obtain ⟨b, off, c, hv, hrep⟩ := sl_elem hx he
    rw [hk] at hrep
    refine wp_value (v := .pointer (some ⟨b, off + ix.toNat * i.size, none⟩)) (w' := w) ?_ (hn _ _ (.p (.ip ce)) _ _ hr hrep hK)
    simp [execOp, ho, Instr.indexAt, hyv, asIntOf, hv, run_underlying hu, hs, h0, h1, addr_add]
  · rw [e1] at hx
    rw [e2] at hy
    have hyv := repA_val hy
    have hv := repA_val hx
    refine wp_value (v := .pointer (some ⟨b, off + ix.toNat * i.size, none⟩)) (w' := w) ?_ (hn _ _ (.p (.val (.pointer (some ⟨b, off + ix.toNat * i.size, none⟩)))) _ _ hr (.val rfl) hK)
    simp [execOp, ho, Instr.indexAt, hyv, asIntOf, hv, run_underlying hu, hs, h0, h1, addr_add]

/-! ### a nil check -/
theorem sound_chk {x : Operand} (ho : o.op = .nilCheck x) (hr : Rel D G σ a w) (hgl : D.gl = gl) (h : chkA (ev σ (trO gl x)) σ K) (hn : Nxt D o a K next) : o.wp P a w next Q := by
  have hx := hr.ev hgl x
  generalize hav : ev σ (trO gl x) = av at *
  have fin : ∀ v, a.eval x = v → K av σ → (execOp a.eval o).run P w = .ok (.value v) w → o.wp P a w next Q := fun v e2 hK hrun => by
    refine wp_value hrun (hn _ _ av _ _ hr ?_ hK)
    rw [← e2]; exact hx
  unfold chkA at h
  split at h
  · have hv := repA_val hx
    exact fin _ hv h (by simp [execOp, ho, hv])
  · obtain ⟨b, off, vs, hv, _, _⟩ := ip_cells hx
    exact fin _ hv h (by simp [execOp, ho, hv])
  · have hv : ∃ f vs, a.eval x = .func (.func f) #[] vs := by
      generalize a.eval x = v0 at hx
      cases hx; exact ⟨_, _, rfl⟩
    obtain ⟨f, vs, hv⟩ := hv
    exact fin _ hv h (by simp [execOp, ho, hv])
  · obtain ⟨b, hβ, hv⟩ := hx
    exact fin _ hv h (by simp [execOp, ho, hv])
  · exact h.elim

/-! ### arithmetic, comparisons -/
theorem bytes_eq (x y : ByteArray) : (x.toList == y.toList) = decide (x = y) := by
  by_cases h : x = y
  · subst h; simp
  · have : x.toList ≠ y.toList := fun e => h (by
      rw [ByteArray.toList_eq, ByteArray.toList_eq] at e
      cases x; cases y
      simpa using e)
    simp [this, h]

theorem binA_inv {op : BinOp} {x y : AV} (h : binA op x y σ K) : (∃ k i j, x = .p (.val (.int k i)) ∧ y = .p (.val (.int k j)) ∧ binA op (.p (.val (.int k i))) (.p (.val (.int k j))) σ K) ∨
    (∃ i j, x = .p (.val (.string i)) ∧ y = .p (.val (.string j)) ∧ binA op (.p (.val (.string i))) (.p (.val (.string j))) σ K) := by
  unfold binA at h
  split at h
  · have hk := h.1
    subst hk
    exact .inl ⟨_, _, _, rfl, rfl, by unfold binA; exact h⟩
  · exact .inr ⟨_, _, rfl, rfl, by unfold binA; exact h⟩
  · exact h.elim

theorem eqGuard_int (op : BinOp) (T : TypeId) (x y : Operand) (k k' : IntKind) (i j : Int) : (eqGuard op T x y (.int k i) (.int k' j)).run P w = .ok () w := by
  unfold eqGuard
  split <;> rfl
theorem eqGuard_str (op : BinOp) (T : TypeId) (x y : Operand) (i j : ByteArray) : (eqGuard op T x y (.string i) (.string j)).run P w = .ok () w := by
  unfold eqGuard
  split <;> rfl

theorem sound_bin {op : BinOp} {T T' : TypeId} {x y : Operand} (ho : o.op = .binOp op T x y T') (hr : Rel D G σ a w) (hgl : D.gl = gl) (h : binA op (ev σ (trO gl x)) (ev σ (trO gl y)) σ K)
    (hn : Nxt D o a K next) : o.wp P a w next Q := by
  have hx := hr.ev hgl x
  have hy := hr.ev hgl y
  rcases binA_inv h with ⟨k, i, j, e1, e2, h⟩ | ⟨i, j, e1, e2, h⟩
  · rw [e1] at hx; rw [e2] at hy
    have hxv := repA_val hx
    have hyv := repA_val hy
    have key : ∀ v : Value, (binOp op T (.int k i) (.int k j)).run P w = .ok v w → v.oneCell' = true → K (.p (.val v)) σ → o.wp P a w next Q := fun v hrun h1 hK =>
      wp_value (v := v) (w' := w) (by simp [execOp, ho, hxv, hyv, eqGuard_int, hrun]) (hn _ _ _ _ _ hr (val_A h1) hK)
    unfold binA at h
    obtain ⟨-, h⟩ := h
    cases op <;> first | exact h.elim | exact key _ (by simp [binOp, Op.intDiv, h.1]) rfl h.2 | exact key _ (by simp only [binOp, ne_eq, not_true_eq_false, if_false]; rfl) rfl h | exact key _ (by simp [binOp, Op.intArith, Op.intCmp]) rfl h | exact key _ (by simp [binOp, Op.intArith, Op.intCmp]; rfl) rfl h
  · rw [e1] at hx; rw [e2] at hy
    have hxv := repA_val hx
    have hyv := repA_val hy
    have key : ∀ v : Value, (binOp op T (.string i) (.string j)).run P w = .ok v w → v.oneCell' = true → K (.p (.val v)) σ → o.wp P a w next Q := fun v hrun h1 hK =>
      wp_value (v := v) (w' := w) (by simp [execOp, ho, hxv, hyv, eqGuard_str, hrun]) (hn _ _ _ _ _ hr (val_A h1) hK)
    unfold binA at h
    cases op
    case add =>
      obtain ⟨h1, h2⟩ := h
      refine key (.string (i ++ j)) ?_ rfl h2
      have : ¬ (((i.size + j.size : Nat) : Int) > IntKind.i64.max) := by omega
      simp only [binOp, Op.stringOp, this, if_false]
      rfl
    all_goals first | exact h.elim | (refine key _ ?_ rfl h; simp only [binOp, Op.stringOp, bytes_eq]; rfl)

theorem unA_inv {op : UnOp} {x : AV} (h : unA op x σ K) : (∃ b, op = .not ∧ x = .p (.val (.bool b)) ∧ K (.p (.val (.bool (!b)))) σ) ∨ (∃ k n, op = .neg ∧ x = .p (.val (.int k n)) ∧ K (.p (.val (.int k (k.wrap (0 - n))))) σ) := by
  unfold unA at h
  split at h
  · split at h
    · exact .inl ⟨_, rfl, rfl, h⟩
    · exact h.elim
  · split at h
    · exact .inr ⟨_, _, rfl, rfl, h⟩
    · exact h.elim
  · exact h.elim

theorem sound_un {op : UnOp} {T : TypeId} {x : Operand} (ho : o.op = .unOp op T x) (hr : Rel D G σ a w) (hgl : D.gl = gl) (h : unA op (ev σ (trO gl x)) σ K) (hn : Nxt D o a K next) : o.wp P a w next Q := by
  have hx := hr.ev hgl x
  rcases unA_inv h with ⟨b, rfl, e, hK⟩ | ⟨k, n, rfl, e, hK⟩
  · rw [e] at hx
    exact wp_value (v := .bool !b) (w' := w) (by simp [execOp, ho, repA_val hx, Op.unary]) (hn _ _ _ _ _ hr (val_A rfl) hK)
  · rw [e] at hx
    exact wp_value (v := .int k (k.wrap (0 - n))) (w' := w) (by simp [execOp, ho, repA_val hx, Op.unary, Op.intArith]) (hn _ _ _ _ _ hr (val_A rfl) hK)

theorem cvA_inv {k : IntKind} {x : AV} (h : cvA k x σ K) : ∃ k' n, x = .p (.val (.int k' n)) ∧ K (.p (.val (.int k (k.wrap n)))) σ := by
  unfold cvA at h
  split at h
  · exact ⟨_, _, rfl, h⟩
  · exact h.elim

theorem sound_cv {k k0 : IntKind} {S T : TypeId} {x : Operand} (ho : o.op = .convert S T x) (hs : P.underlying S = some (.int k0)) (ht : P.underlying T = some (.int k)) (hr : Rel D G σ a w) (hgl : D.gl = gl)
    (h : cvA k (ev σ (trO gl x)) σ K) (hn : Nxt D o a K next) : o.wp P a w next Q := by
  have hx := hr.ev hgl x
  obtain ⟨k', n, e, hK⟩ := cvA_inv h
  rw [e] at hx
  exact wp_value (v := .int k (k.wrap n)) (w' := w) (by simp [execOp, ho, repA_val hx, convert, run_underlying hs, run_underlying ht, Conv.intToInt]) (hn _ _ _ _ _ hr (val_A rfl) hK)

theorem cvsA_inv {x : AV} (h : cvsA x σ K) : ∃ s, x = .p (.val (.string s)) ∧ K (.p (.val (.string s))) σ := by
  unfold cvsA at h
  split at h
  · exact ⟨_, rfl, h⟩
  · exact h.elim

theorem sound_cvs {S T : TypeId} {x : Operand} (ho : o.op = .convert S T x) (hs : P.underlying S = some .string) (ht : P.underlying T = some .string) (hr : Rel D G σ a w) (hgl : D.gl = gl)
    (h : cvsA (ev σ (trO gl x)) σ K) (hn : Nxt D o a K next) : o.wp P a w next Q := by
  obtain ⟨s, e, hK⟩ := cvsA_inv h
  have hv := hr.ev hgl x
  rw [e] at hv
  exact wp_value (v := .string s) (w' := w) (by simp [execOp, ho, repA_val hv, convert, run_underlying hs, run_underlying ht]) (hn _ _ _ _ _ hr (val_A rfl) hK)

/-! ### strings, slices -/
theorem ixsA_inv {x y : AV} (h : ixsA x y σ K) : ∃ s k i, x = .p (.val (.string s)) ∧ y = .p (.val (.int k i)) ∧ 0 ≤ i ∧ i < (s.size : Int) ∧ K (.p (.val (.int .u8 ((s.get! i.toNat).toNat : Int)))) σ := by
  unfold ixsA at h
  split at h
  · obtain ⟨h1, h2, h3⟩ := h; exact ⟨_, _, _, rfl, rfl, h1, h2, h3⟩
  · exact h.elim

theorem sound_ixs {T : TypeId} {x y : Operand} (ho : o.op = .index T x y) (hu : P.underlying T = some .string) (hr : Rel D G σ a w) (hgl : D.gl = gl) (h : ixsA (ev σ (trO gl x)) (ev σ (trO gl y)) σ K)
    (hn : Nxt D o a K next) : o.wp P a w next Q := by
  obtain ⟨s, k, i, e1, e2, h0, h1, hK⟩ := ixsA_inv h
  have hx := hr.ev hgl x
  have hy := hr.ev hgl y
  rw [e1] at hx; rw [e2] at hy
  refine wp_value (v := .int .u8 ((s.get! i.toNat).toNat : Int)) (w' := w) ?_ (hn _ _ _ _ _ hr (val_A rfl) hK)
  have hlt : i.toNat < s.size := by omega
  have hg : s[i.toNat]? = some (s.get! i.toNat) := by
    rw [getElem?_pos s i.toNat hlt]
    congr 1
    show s.data[i.toNat]'hlt = s.data[i.toNat]!
    rw [getElem!_pos s.data i.toNat hlt]
  simp [execOp, ho, repA_val hx, repA_val hy, Instr.index, asIntOf, run_underlying hu, h0, hg]

theorem extA_inv {i : Nat} {x : AV} (h : extA i x σ K) : ∃ l r, x = .tup l ∧ l[i]? = some r ∧ K r.av σ := by
  unfold extA at h
  split at h
  · split at h
    · rename_i x hx; exact ⟨_, .p x, rfl, hx, h⟩
    · rename_i x hx; exact ⟨_, .agg x, rfl, hx, h⟩
    · exact h.elim
  · exact h.elim

theorem repR_A {r : RV} {v : Value} (h : RepR G.F r v) : RepA G r.av v := by
  cases r with
  | p x => exact h
  | agg cs => exact h

theorem sound_ext {x : Operand} {i : Nat} (ho : o.op = .extract x i) (hr : Rel D G σ a w) (hgl : D.gl = gl) (h : extA i (ev σ (trO gl x)) σ K) (hn : Nxt D o a K next) : o.wp P a w next Q := by
  obtain ⟨l, r, e, hi, hK⟩ := extA_inv h
  have hx := hr.ev hgl x
  rw [e] at hx
  obtain ⟨vs, hv, hrep⟩ := hx
  obtain ⟨u, hu, hru⟩ := hrep.get hi
  exact wp_value (v := u) (w' := w) (by simp [execOp, ho, hv, Instr.extract, hu]) (hn _ _ _ _ _ hr (repR_A hru) hK)

theorem slcsA_inv {x : AV} {lo hi : Option AV} (h : slcsA x lo hi σ K) :
    (∃ s l u, x = .p (.val (.string s)) ∧ bndA 0 lo = some l ∧ bndA s.size hi = some u ∧ 0 ≤ l ∧ l ≤ u ∧ u ≤ (s.size : Int) ∧ K (.p (.val (.string (s.extract l.toNat u.toNat)))) σ) := by
  unfold slcsA at h
  split at h
  · split at h
    · obtain ⟨h1, h2, h3, h4⟩ := h; exact ⟨_, _, _, rfl, ‹_›, ‹_›, h1, h2, h3, h4⟩
    · exact h.elim
  · exact h.elim

theorem slcA_inv {k : Nat} {x : AV} {lo hi : Option AV} (h : slcA k x lo hi σ K) :
    (∃ es n l u, x = .p (.sl es n) ∧ bndA 0 lo = some l ∧ bndA n hi = some u ∧ allK k es ∧ 0 ≤ l ∧ l ≤ u ∧ u ≤ (es.length : Int) ∧ K (.p (.sl (es.drop l.toNat) (u - l).toNat)) σ) := by
  unfold slcA at h
  split at h
  · split at h
    · obtain ⟨h0, h1, h2, h3, h4⟩ := h; exact ⟨_, _, _, _, rfl, ‹_›, ‹_›, h0, h1, h2, h3, h4⟩
    · exact h.elim
  · exact h.elim

theorem bnd_run {d : Int} {x : Option Operand} {i : Int} (hr : Rel D G σ a w) (hgl : D.gl = gl) (h : bndA d ((x.map (trO gl)).map (ev σ)) = some i) : (x = none ∧ i = d) ∨ ∃ y k, x = some y ∧ a.eval y = .int k i := by
  cases x with
  | none => simp [bndA] at h; exact .inl ⟨rfl, h.symm⟩
  | some y =>
    refine .inr ⟨y, ?_⟩
    have hy := hr.ev hgl y
    simp only [Option.map_some] at h
    generalize ev σ (trO gl y) = av at *
    unfold bndA at h
    split at h
    · rename_i he; cases he
    · rename_i k j he
      cases he
      simp only [Option.some.injEq] at h
      subst h
      exact ⟨k, rfl, repA_val hy⟩
    · cases h

theorem run_bound {x : Value} {k : IntKind} {i : Int} {y : Nat} {c : BoundsCode} (hx : x = .int k i) (h0 : 0 ≤ i) (h1 : i ≤ y) : (Instr.sliceBound x y c).run P w = .ok i.toNat w := by
  subst hx
  simp [Instr.sliceBound, asIntOf, h0, h1]

theorem run_bounds {isS : Bool} {len cap : Nat} {lo hi : Option Operand} {l u : Int} (hlo : (lo = none ∧ l = 0) ∨ ∃ y k, lo = some y ∧ a.eval y = .int k l) (hhi : (hi = none ∧ u = len) ∨ ∃ y k, hi = some y ∧ a.eval y = .int k u)
    (h0 : 0 ≤ l) (h1 : l ≤ u) (h2 : u ≤ cap) : (Instr.sliceBounds isS len cap (lo.map a.eval) (hi.map a.eval) none).run P w = .ok (l.toNat, u.toNat, cap) w := by
  have hH : (match (hi.map a.eval), (none : Option Value) with
    | some v, some _ => Instr.sliceBound v cap .slice3B
    | some v, none => Instr.sliceBound v cap (if isS then .sliceAcap else .sliceAlen)
    | none, none => pure len
    | none, some _ => stuck "Slice: max without high").run P w = .ok u.toNat w := by
    rcases hhi with ⟨rfl, rfl⟩ | ⟨y, k, rfl, hv⟩
    · simp
    · simp [run_bound hv (by omega) h2]
  have hL : (match (lo.map a.eval) with
    | some v => Instr.sliceBound v u.toNat (if (none : Option Value).isSome then .slice3C else .sliceB)
    | none => pure 0).run P w = .ok l.toNat w := by
    rcases hlo with ⟨rfl, rfl⟩ | ⟨y, k, rfl, hv⟩
    · simp
    · simp only [Option.map_some]; exact run_bound hv h0 (by omega)
  unfold Instr.sliceBounds
  simp only [Sem.run_bind, Sem.run_pure, Result.andThen_ok]
  rcases hhi with ⟨rfl, rfl⟩ | ⟨y, k, rfl, hv⟩ <;> rcases hlo with ⟨rfl, rfl⟩ | ⟨y', k', rfl, hv'⟩ <;>
    simp_all

theorem sl_sub {F : Facts} {es : List (List PV)} {n : Nat} {ao : Option Addr} {c : Nat} (h : RepP F (.sl es n) (.slice ao n c)) {k : Nat} (hk : ∀ e ∈ es, e.length = k) {l u : Nat} (h1 : l ≤ u) (h2 : u ≤ es.length) :
    RepP F (.sl (es.drop l) (u - l)) (.slice (if c = l then ao else ao.map (·.add (l * k))) (u - l) (c - l)) := by
  cases h with
  | @sl _ _ b off c vs k' hn hc hl hk' h1' h2' =>
    by_cases hcl : c = l
    · subst hcl
      have : es.drop c = [] := List.drop_eq_nil_of_le (by omega)
      have hu : u - c = 0 := by omega
      simp only [if_true, this, hu, Nat.sub_self]
      exact .sl (fun _ _ => undef) k (by simp) (by simp) (by simp [LIM]) (by intro e he; cases he) (by intro i j e x he; simp at he) (by intro i j e x he; simp at he)
    · simp only [hcl, if_false, Option.map_some, addr_add]
      have hkk : ∀ i e x, es[i]? = some e → e[0]? = some x → k' = k := fun i e x he _ => by rw [← hk e (List.mem_of_getElem? he), hk' e (List.mem_of_getElem? he)]
      refine .sl (fun i j => vs (l + i) j) k (by simp; omega) (by simp; omega) (by simp; omega) (fun e he => hk e (List.mem_of_mem_drop he)) (fun i j e x he hx => ?_) (fun i j e x he hx => ?_)
      · rw [List.getElem?_drop] at he
        have := h1' (l + i) j e x he hx
        have e1 : k' = k := by rw [← hk e (List.mem_of_getElem? he), hk' e (List.mem_of_getElem? he)]
        rw [e1, Nat.add_mul] at this
        rw [show off + l * k + (i * k + j) = off + (l * k + i * k + j) by omega]
        exact this
      · rw [List.getElem?_drop] at he
        exact h2' (l + i) j e x he hx
  | nil =>
    have : u = 0 := by simpa using h2
    subst this
    have : l = 0 := by omega
    subst this
    simp only [if_true, List.drop_nil, Nat.sub_self]
    exact .nil
  | nil0 =>
    have : u = 0 := by simpa using h2
    subst this
    have : l = 0 := by omega
    subst this
    simp only [if_true, List.drop_nil, Nat.sub_self]
    exact .nil0

end Go.Am
