/-
  bursarlaw18.QuotaApart answers true and leaves its arguments as they were, for inputs of bulk at most 1048576 (the given second form; no other condition). Part 4 of 26 of the proof.
-/
import Derived.Test.YtnjblinbdimkjaaGreatDoorM3
/-
  AM: closures, calls.
-/
namespace Go.Am
open Go

variable {P : Program} {gl : Nat → Option (List PV)} {D : Base} {G : Gh} {σ : St} {a : Act} {w : World}
variable {o : Oper} {K : AV → St → Prop} {next : Act → World → Prop} {Q : Exit → Act → World → Prop}

theorem getT_frz {s t : Nat} {cs : List PV} : ∀ (l : List (Nat × AV)), getT t (frzFr s cs l) = (getT t l).map (frzAV s cs)
  | [] => rfl
  | (u, x) :: l => by
    by_cases e : t = u
    · subst e; simp [frzFr, getT]
    · rw [frzFr, getT_cons_ne e, getT_cons_ne e, getT_frz l]

/-- the facts that a frozen box lays -/
def addF (F : Facts) (b : Nat) (l : List Value) : Facts := fun b' o => if b' = b then l[o]? else F b' o

theorem addF_le {F : Facts} {b : Nat} {l : List Value} (h : ∀ o, F b o = none) : Facts.le F (addF F b l) := fun b' o v e => by
  unfold addF
  split
  · rename_i e'; subst e'; rw [h o] at e; cases e
  · exact e

theorem addF_ip {F : Facts} {b : Nat} {l : List Value} {cs : List PV} (h : ∀ o, F b o = none) (hr : RepL F cs l) (n : Nat) : RepP (addF F b l) (.ip (cs.drop n)) (.pointer (some ⟨b, n, none⟩)) := by
  refine .ip (fun j => l.getD (n + j) undef) (fun j x hx => ?_) (fun j x hx => ?_)
  · rw [List.getElem?_drop] at hx
    obtain ⟨v, hv, _⟩ := hr.get hx
    simp [addF, hv]
  · rw [List.getElem?_drop] at hx
    obtain ⟨v, hv, hv2⟩ := hr.get hx
    simp only [List.getD_eq_getElem?_getD, hv, Option.getD_some]
    exact hv2.mono (addF_le h)

theorem Rel.freezeBox (h : Rel D G σ a w) {s : Nat} {cs : List PV} (hs : getB s σ.bx = some cs) : ∃ b G', G.β s = some b ∧ Rel D G' { σ with fr := frzFr s cs σ.fr, bx := delB s σ.bx } a w ∧ Facts.le G.F G'.F ∧
    (∀ n, RepP G'.F (.ip (cs.drop n)) (.pointer (some ⟨b, n, none⟩))) ∧ (∀ av v, (∀ n, av ≠ .ref s n) → RepA G av v → RepA G' av v) := by
  obtain ⟨b, hb, l, T, hh, hrep⟩ := h.bx s cs hs
  obtain ⟨_, hDb, hFb, hpb, hinj⟩ := h.bk s b hb
  have hle := addF_le (l := l) hFb
  have hip := addF_ip (cs := cs) hFb hrep
  have hlt : b < w.heap.size := (Array.getElem?_eq_some_iff.1 hh).1
  have hmono : ∀ av v, (∀ n, av ≠ .ref s n) → RepA G av v → RepA ⟨addF G.F b l, fun x => if x = s then none else G.β x, G.J⟩ av v := fun av v hne hr => by
    cases av with
    | p x => exact RepP.mono hle hr
    | agg cs => obtain ⟨l, e, r⟩ := hr; exact ⟨l, e, r.mono fun _ _ => RepP.mono hle⟩
    | tup rs => obtain ⟨l, e, r⟩ := hr; exact ⟨l, e, r.mono fun _ _ => RepR.mono hle⟩
    | ref s' n =>
      have : s' ≠ s := fun e => hne n (by rw [e])
      obtain ⟨b', hb', e⟩ := hr
      exact ⟨b', by simp [this, hb'], e⟩
    | row r n => exact hr
    | xsl es => exact ⟨RepP.mono hle hr.1, hr.2⟩
    | junk => trivial
  refine ⟨b, ⟨addF G.F b l, fun x => if x = s then none else G.β x, G.J⟩, hb, ?_, hle, hip, hmono⟩
  have hFne : ∀ b', b' ≠ b → ∀ o, addF G.F b l b' o = G.F b' o := fun b' hne o => by simp [addF, hne]
  refine { h with fr := ?_, fc := ?_, le := h.le.trans hle, old := ?_, ph := ?_, phF := ?_, bx := ?_, bk := ?_, rw := ?_ }
  · intro t av ht
    simp only [getT_frz] at ht
    cases hg : getT t σ.fr with
    | none => simp [hg] at ht
    | some av0 =>
      simp only [hg, Option.map_some, Option.some.injEq] at ht
      obtain ⟨v, hv, hr⟩ := h.fr t av0 hg
      refine ⟨v, hv, ?_⟩
      subst ht
      cases av0 with
      | ref s' n =>
        by_cases e : s = s'
        · subst e
          obtain ⟨b', hb', e⟩ := hr
          rw [hb] at hb'; cases hb'
          subst e
          simp only [frzAV, Nat.beq_refl, cond_true]
          exact hip n
        · simp only [frzAV, beq_ne e, cond_false]
          exact hmono _ _ (fun n hn => e (by cases hn; rfl)) hr
      | p x => exact hmono _ _ (fun n hn => by cases hn) hr
      | agg cs => exact hmono _ _ (fun n hn => by cases hn) hr
      | tup rs => exact hmono _ _ (fun n hn => by cases hn) hr
      | row r n => exact hmono _ _ (fun n hn => by cases hn) hr
      | xsl es => exact hmono _ _ (fun n hn => by cases hn) hr
      | junk => trivial
  · intro b' o v e
    simp only [addF] at e
    split at e
    · rename_i e'; subst e'
      rw [cell_of_row w b' o _ _ _ hh]
      simpa using e
    · exact h.fc b' o v e
  · intro b' o hb' hnb
    show addF G.F b l b' o = _
    rw [hFne b' (by omega)]; exact h.old b' o hb' hnb
  · exact σ.ph.stable _ _ _ _ hle (fun _ _ => rfl) h.ph
  · intro b' o hp
    show addF G.F b l b' o = _
    rw [hFne b' (fun e => hpb (e ▸ hp))]; exact h.phF b' o hp
  · intro s' cs' hs'
    have hne : s' ≠ s := fun e => by subst e; simp only [getB_delB_self] at hs'; cases hs'
    have hs'' : getB s' (delB s σ.bx) = some cs' := hs'
    rw [getB_delB_ne hne] at hs''
    obtain ⟨b', hb', l', T', hh', hr'⟩ := h.bx s' cs' hs''
    exact ⟨b', by simp [hne, hb'], l', T', hh', hr'.mono fun _ _ => RepP.mono hle⟩
  · intro s' b' e
    by_cases hne : s' = s
    · simp [hne] at e
    · simp only [hne, if_false] at e
      obtain ⟨⟨cs', hc⟩, h1, h2, h3, h4⟩ := h.bk s' b' e
      have hbb : b' ≠ b := fun e' => hne (by subst e'; exact hinj s' e)
      refine ⟨⟨cs', by show getB s' (delB s σ.bx) = _; rw [getB_delB_ne hne]; exact hc⟩, h1, fun o => (hFne b' hbb o).trans (h2 o), h3, fun s2 h2' => ?_⟩
      by_cases e2 : s2 = s
      · simp [e2] at h2'
      · simp only [e2, if_false] at h2'; exact h4 s2 h2'
  · intro r T' k es hr
    obtain ⟨v, xs, hv, hown, he, hl', hrep', hblk⟩ := h.rw r T' k es hr
    refine ⟨v, xs, hv, hown, he, hl', hrep'.mono fun _ _ => RepP.mono hle, fun b' hb' => ?_⟩
    obtain ⟨h1, h2, h3, h4⟩ := hblk b' hb'
    have hbb : b' ≠ b := fun e => h3 s (by rw [e]; exact hb)
    refine ⟨fun o => (hFne b' hbb o).trans (h1 o), h2, fun s' e => ?_, h4⟩
    by_cases e2 : s' = s
    · simp [e2] at e
    · simp only [e2, if_false] at e; exact h3 s' e

theorem RepP.fn_of {F : Facts} {f : FuncId} {caps : List PV} {l : List Value} (h : RepL F caps l) : RepP F (.fn f caps) (.func (.func f) #[] l.toArray) := by
  have e : (List.range caps.length).map (fun j => l.getD j undef) = l := by
    apply List.ext_getElem?
    intro i
    rw [List.getElem?_map]
    by_cases hi : i < caps.length
    · rw [List.getElem?_range hi]
      have : i < l.length := by rw [← h.len]; exact hi
      simp [this]
    · rw [List.getElem?_eq_none (by simp; omega), List.getElem?_eq_none (by rw [← h.len]; omega)]
      rfl
  have := RepP.fn (F := F) (f := f) (caps := caps) (fun j => l.getD j undef) (fun j x hx => by
    obtain ⟨v, hv, hr⟩ := h.get hx
    simpa [List.getD_eq_getElem?_getD, hv] using hr)
  rwa [e] at this

theorem fn_val {F : Facts} {f : FuncId} {caps : List PV} {v : Value} (h : RepP F (.fn f caps) v) : ∃ l : List Value, v = .func (.func f) #[] l.toArray ∧ RepL F caps l := by
  cases h with
  | fn vs h =>
    refine ⟨_, rfl, All2.of_get (by simp) (fun i x y hx hy => ?_)⟩
    have hlt : i < caps.length := (List.getElem?_eq_some_iff.1 hx).1
    simp [List.getElem?_map, List.getElem?_range hlt] at hy
    rw [← hy]; exact h i x hx

theorem mkfA_sound {f : FuncId} : ∀ (l : List AV) (acc : List PV) (G : Gh) (σ : St) (vs accv : List Value), mkfA f l acc σ K → Rel D G σ a w →
    All2 (fun av v => (∃ s n, av = .ref s n ∧ getB s σ.bx = none) ∨ RepA G av v) l vs → RepL G.F acc accv →
    ∃ G' σ' caps, K (.p (.fn f caps)) σ' ∧ Rel D G' σ' a w ∧ RepL G'.F caps (accv.reverse ++ vs)
  | [], acc, G, σ, _, accv, h, hr, .nil, ha => by
    refine ⟨G, σ, acc.reverse, h, hr, ?_⟩
    rw [List.append_nil]
    have : ∀ {x : List PV} {y : List Value}, RepL G.F x y → RepL G.F x.reverse y.reverse := fun hxy => by
      induction hxy with
      | nil => exact .nil
      | cons h _ ih => rw [List.reverse_cons, List.reverse_cons]; exact ih.app (.cons h .nil)
    exact this ha
  | .p x :: l, acc, G, σ, _, accv, h, hr, @All2.cons _ _ _ _ v _ vs hv ht, ha => by
    have hv : RepP G.F x v := by rcases hv with ⟨s, n, e, _⟩ | hv; cases e; exact hv
    obtain ⟨G', σ', caps, h1, h2, h3⟩ := mkfA_sound l (x :: acc) G σ vs (v :: accv) h hr ht (.cons hv ha)
    exact ⟨G', σ', caps, h1, h2, by simpa using h3⟩
  | .ref s n :: l, acc, G, σ, _, accv, h, hr, @All2.cons _ _ _ _ v _ vs hv ht, ha => by
    simp only [mkfA] at h
    split at h
    · rename_i cs hs
      have hv : RepA G (.ref s n) v := by
        rcases hv with ⟨s', n', e, h'⟩ | hv
        · cases e; rw [hs] at h'; cases h'
        · exact hv
      obtain ⟨b, G1, hb, hr1, hle, hip, hmono⟩ := hr.freezeBox hs
      obtain ⟨b', hb', ev⟩ := hv
      rw [hb] at hb'; cases hb'
      have hv' : RepP G1.F (.ip (cs.drop n)) v := by rw [ev]; exact hip n
      have ht' : All2 (fun av v => (∃ s' n', av = .ref s' n' ∧ getB s' (delB s σ.bx) = none) ∨ RepA G1 av v) l vs := ht.mono fun av v hav => by
        by_cases hq : ∃ m, av = .ref s m
        · obtain ⟨m, e⟩ := hq; exact .inl ⟨s, m, e, getB_delB_self _ _⟩
        · rcases hav with ⟨s', n', e, h'⟩ | hav
          · by_cases e' : s' = s
            · exact .inl ⟨s', n', e, by rw [e']; exact getB_delB_self _ _⟩
            · exact .inl ⟨s', n', e, by rw [getB_delB_ne e']; exact h'⟩
          · exact .inr (hmono av v (fun m e => hq ⟨m, e⟩) hav)
      obtain ⟨G', σ', caps, h1, h2, h3⟩ := mkfA_sound l (.ip (cs.drop n) :: acc) G1 _ vs (v :: accv) h hr1 ht' (.cons hv' (ha.mono fun _ _ => RepP.mono hle))
      exact ⟨G', σ', caps, h1, h2, by simpa using h3⟩
    · exact h.elim
  | .agg _ :: _, _, _, _, _, _, h, _, _, _ => h.elim
  | .tup _ :: _, _, _, _, _, _, h, _, _, _ => h.elim
  | .row _ _ :: _, _, _, _, _, _, h, _, _, _ => h.elim
  | .junk :: _, _, _, _, _, _, h, _, _, _ => h.elim

theorem evs_rel (hr : Rel D G σ a w) (hgl : D.gl = gl) : ∀ (xs : List Operand), All2 (RepA G) ((xs.map (trO gl)).map (ev σ)) (xs.map a.eval)
  | [] => .nil
  | x :: xs => .cons (hr.ev hgl x) (evs_rel hr hgl xs)

theorem sound_mkf {f : FuncId} {caps : Array Operand} (ho : o.op = .makeFunc (.func f) #[] caps) (hr : Rel D G σ a w) (hgl : D.gl = gl)
    (h : mkfA f ((caps.toList.map (trO gl)).map (ev σ)) [] σ K) (hn : Nxt D o a K next) : o.wp P a w next Q := by
  obtain ⟨G', σ', cp, h1, h2, h3⟩ := mkfA_sound _ [] G σ _ [] h hr ((evs_rel hr hgl caps.toList).mono fun _ _ => .inr) .nil
  refine wp_value (v := .func (.func f) #[] (caps.map a.eval)) (w' := w) (by simp [execOp, ho, Instr.makeFunc]) (hn _ _ (.p (.fn f cp)) _ _ h2 ?_ h1)
  have := RepP.fn_of (f := f) h3
  have e : (caps.toList.map a.eval).toArray = caps.map a.eval := by rw [← Array.toList_map]
  rw [List.reverse_nil, List.nil_append, e] at this
  exact this

/-! ### calls -/
theorem out_A {r : Out} {v : Value} (h : RepO G.F r v) : RepA G r.av v := by
  cases r with
  | one r => cases r <;> exact h
  | tup l => exact h

theorem run_callFunc {f : FuncId} {args : Array Value} (h : Enterable P f) : (callFunc f args).run P w = .ok (.enter f args) w := by
  obtain ⟨fn, hf, hb, hname⟩ := h
  have h1 : fn.name ≠ "runtime.NumGoroutine" := by simpa using hname
  have h2 : fn.body ≠ none := fun e => by rw [e] at hb; cases hb
  simp [callFunc, hf, h1, h2]

theorem getT_frzRow {r t : Nat} {es : List (List PV)} : ∀ (l : List (Nat × AV)), getT t (frzRowFr r es l) = (getT t l).map (frzRowAV r es)
  | [] => rfl
  | (u, x) :: l => by
    by_cases e : t = u
    · subst e; simp [frzRowFr, getT]
    · rw [frzRowFr, getT_cons_ne e, getT_cons_ne e, getT_frzRow l]

theorem flat_get {k : Nat} : ∀ (es : List (List PV)), (∀ e ∈ es, e.length = k) → ∀ (i j : Nat) (e : List PV) (x : PV), es[i]? = some e → e[j]? = some x → es.flatten[i * k + j]? = some x
  | [], _, i, j, e, x, he, _ => by simp at he
  | e0 :: es, hk, i, j, e, x, he, hx => by
    have h0 : e0.length = k := hk e0 List.mem_cons_self
    rw [List.flatten_cons, List.getElem?_append]
    cases i with
    | zero =>
      simp at he; subst he
      have : j < e0.length := (List.getElem?_eq_some_iff.1 hx).1
      simp only [Nat.zero_mul, Nat.zero_add, this, if_true]
      exact hx
    | succ i =>
      have := flat_get es (fun e h => hk e (List.mem_cons_of_mem _ h)) i j e x (by simpa using he) hx
      rw [if_neg (by rw [Nat.add_mul, h0]; omega), h0]
      rw [show (i + 1) * k + j - k = i * k + j by rw [Nat.add_mul]; omega]
      exact this

theorem Rel.freezeRow (h : Rel D G σ a w) {r T k : Nat} {es : List (List PV)} (hs : getB r σ.rw = some (T, k, es)) : ∃ v G', G.J r es.length = some v ∧ Rel D G' (σ.frzRow r es) a w ∧ Facts.le G.F G'.F ∧
    RepP G'.F (.sl es es.length) v ∧ (∀ av u, (∀ n, av ≠ .row r n) → RepA G av u → RepA G' av u) := by
  obtain ⟨v, xs, hJ, hown, hek, hlim, hrep, hblk⟩ := h.rw r T k es hs
  -- the facts
  obtain ⟨F', hle, hfc, hsl, hold, hother⟩ : ∃ F', Facts.le G.F F' ∧ FactsOK F' w ∧ RepP F' (.sl es es.length) v ∧ (∀ b o, b < D.w.heap.size → F' b o = G.F b o) ∧ (∀ b o, v.ownBlock ≠ some b → F' b o = G.F b o) := by
    rcases hown.2 with ⟨hv, hz⟩ | ⟨g, cap, cur, hv, hg, hgg, hnc, hcm, hcs, htake⟩
    · have : es = [] := List.eq_nil_of_length_eq_zero hz
      subst this
      exact ⟨G.F, Facts.le_refl _, h.fc, by rw [hv]; exact .nil, fun _ _ _ => rfl, fun _ _ _ => rfl⟩
    · have hFb := (hblk g (by rw [hv]; rfl)).1
      have hle := addF_le (l := xs) hFb
      refine ⟨addF G.F g xs, hle, ?_, ?_, fun b o hb => by simp only [addF]; rw [if_neg (by omega)], fun b o hb => by simp only [addF]; rw [if_neg (fun e => hb (by rw [hv, e]; rfl))]⟩
      · intro b o u e
        simp only [addF] at e
        split at e
        · rename_i e'; subst e'
          have := hown.cells (g := b) (by rw [hv]; rfl) o u e
          rw [addr_add] at this
          simpa using this
        · exact h.fc b o u e
      · rw [hv]
        refine .sl (fun i j => xs.getD (i * k + j) undef) k (Nat.le_refl _) hnc hlim hek (fun i j e x he hx => ?_) (fun i j e x he hx => ?_)
        · obtain ⟨u, hu, _⟩ := hrep.get (flat_get es hek i j e x he hx)
          simp [addF, hu]
        · obtain ⟨u, hu, hu2⟩ := hrep.get (flat_get es hek i j e x he hx)
          simp only [List.getD_eq_getElem?_getD, hu, Option.getD_some]
          exact hu2.mono hle
  have hmono : ∀ av u, (∀ n, av ≠ .row r n) → RepA G av u → RepA ⟨F', G.β, fun r' n => if r' = r then none else G.J r' n⟩ av u := fun av u hne hr => by
    cases av with
    | p x => exact RepP.mono hle hr
    | agg cs => obtain ⟨l, e, q⟩ := hr; exact ⟨l, e, q.mono fun _ _ => RepP.mono hle⟩
    | tup rs => obtain ⟨l, e, q⟩ := hr; exact ⟨l, e, q.mono fun _ _ => RepR.mono hle⟩
    | ref s' n => exact hr
    | row r' n =>
      have : r' ≠ r := fun e => hne n (by rw [e])
      simpa [RepA, this] using hr
    | xsl es => exact ⟨RepP.mono hle hr.1, hr.2⟩
    | junk => trivial
  refine ⟨v, ⟨F', G.β, fun r' n => if r' = r then none else G.J r' n⟩, hJ, ?_, hle, hsl, hmono⟩
  refine { h with fr := ?_, fc := hfc, le := h.le.trans hle, old := ?_, ph := ?_, phF := ?_, bx := ?_, bk := ?_, rw := ?_, rk := ?_ }
  · intro t av ht
    simp only [St.frzRow, getT_frzRow] at ht
    cases hg : getT t σ.fr with
    | none => simp [hg] at ht
    | some av0 =>
      simp only [hg, Option.map_some, Option.some.injEq] at ht
      obtain ⟨u, hu, hr⟩ := h.fr t av0 hg
      refine ⟨u, hu, ?_⟩
      subst ht
      cases av0 with
      | row r' n =>
        by_cases e : r = r'
        · subst e
          simp only [frzRowAV, Nat.beq_refl, cond_true]
          by_cases en : n = es.length
          · subst en
            rw [if_pos rfl]
            simp only [RepA] at hr
            rw [hJ] at hr; cases hr
            exact hsl
          · rw [if_neg en]; trivial
        · simp only [frzRowAV, beq_ne e, cond_false]
          exact hmono _ _ (fun n hn => e (by cases hn; rfl)) hr
      | p x => exact hmono _ _ (fun n hn => by cases hn) hr
      | agg cs => exact hmono _ _ (fun n hn => by cases hn) hr
      | tup rs => exact hmono _ _ (fun n hn => by cases hn) hr
      | ref s' n => exact hmono _ _ (fun n hn => by cases hn) hr
      | xsl es => exact hmono _ _ (fun n hn => by cases hn) hr
      | junk => trivial
  · intro b o hb hnb
    show F' b o = _
    rw [hold b o hb]; exact h.old b o hb hnb
  · exact σ.ph.stable _ _ _ _ hle (fun _ _ => rfl) h.ph
  · intro b o hp
    show F' b o = _
    rw [hother b o (fun e => (hblk b e).2.1 hp)]; exact h.phF b o hp
  · intro s' cs' hs'
    obtain ⟨b', hb', l', T', hh', hr'⟩ := h.bx s' cs' hs'
    exact ⟨b', hb', l', T', hh', hr'.mono fun _ _ => RepP.mono hle⟩
  · intro s' b' e
    obtain ⟨hc, h1, h2, h3, h4⟩ := h.bk s' b' e
    exact ⟨hc, h1, fun o => (hother b' o (fun e' => (hblk b' e').2.2.1 s' e)).trans (h2 o), h3, h4⟩
  · intro r' T' k' es' hr'
    have hne : r' ≠ r := fun e => by subst e; simp only [St.frzRow, getB_delB_self] at hr'; cases hr'
    have hr'' : getB r' (delB r σ.rw) = some (T', k', es') := hr'
    rw [getB_delB_ne hne] at hr''
    obtain ⟨v1, xs1, hv1, hown1, he1, hl1, hrep1, hblk1⟩ := h.rw r' T' k' es' hr''
    refine ⟨v1, xs1, by simp [hne, hv1], hown1, he1, hl1, hrep1.mono fun _ _ => RepP.mono hle, fun b hb => ?_⟩
    obtain ⟨g1, g2, g3, g4⟩ := hblk1 b hb
    refine ⟨fun o => (hother b o (fun e => hne ((hblk b e).2.2.2 r' T' k' es' v1 hr'' hv1 hb))).trans (g1 o), g2, g3, fun r2 T2 k2 es2 v2 h2 hv2 hb2 => ?_⟩
    have hne2 : r2 ≠ r := fun e => by subst e; simp only [St.frzRow, getB_delB_self] at h2; cases h2
    have h2' : getB r2 (delB r σ.rw) = some (T2, k2, es2) := h2
    rw [getB_delB_ne hne2] at h2'
    simp only [hne2, if_false] at hv2
    exact g4 r2 T2 k2 es2 v2 h2' hv2 hb2
  · intro r' n u hu
    by_cases e : r' = r
    · simp [e] at hu
    · simp only [e, if_false] at hu
      obtain ⟨T', k', es', hc, hn⟩ := h.rk r' n u hu
      exact ⟨T', k', es', by show getB r' (delB r σ.rw) = _; rw [getB_delB_ne e]; exact hc, hn⟩

theorem nilSl_rep {F : Facts} {x : PV} {v : Value} (h : RepP F x v) : RepP F (nilSl x) v := by
  unfold nilSl
  split
  · cases h; exact .nil
  · exact h

/-- what has been handed on already -/
def deadA (σ : St) : AV → Prop
  | .row r _ => getB r σ.rw = none
  | .ref s _ => getB s σ.bx = none
  | _ => False

theorem args_sound {f : FuncId} : ∀ (l : List AV) (acc : List RV) (G : Gh) (σ : St) (vs accv : List Value), argsA P gl f l acc σ K → Rel D G σ a w →
    All2 (fun av v => deadA σ av ∨ RepA G av v) l vs → All2 (RepR G.F) acc accv →
    ∃ G' σ' rs, callS P gl f rs σ' K ∧ Rel D G' σ' a w ∧ All2 (RepR G'.F) rs (accv.reverse ++ vs)
  | [], acc, G, σ, _, accv, h, hr, .nil, ha => by
    refine ⟨G, σ, acc.reverse, h, hr, ?_⟩
    rw [List.append_nil]
    have : ∀ {x : List RV} {y : List Value}, All2 (RepR G.F) x y → All2 (RepR G.F) x.reverse y.reverse := fun hxy => by
      induction hxy with
      | nil => exact .nil
      | cons h _ ih => rw [List.reverse_cons, List.reverse_cons]; exact ih.app (.cons h .nil)
    exact this ha
  | .p x :: l, acc, G, σ, _, accv, h, hr, @All2.cons _ _ _ _ v _ vs hv ht, ha => by
    have hv : RepP G.F x v := by rcases hv with hv | hv; exact hv.elim; exact hv
    obtain ⟨G', σ', rs, h1, h2, h3⟩ := args_sound l (.p (nilSl x) :: acc) G σ vs (v :: accv) h hr ht (.cons (nilSl_rep hv) ha)
    exact ⟨G', σ', rs, h1, h2, by simpa using h3⟩
  | .agg cs :: l, acc, G, σ, _, accv, h, hr, @All2.cons _ _ _ _ v _ vs hv ht, ha => by
    have hv : RepA G (.agg cs) v := by rcases hv with hv | hv; exact hv.elim; exact hv
    obtain ⟨G', σ', rs, h1, h2, h3⟩ := args_sound l (.agg cs :: acc) G σ vs (v :: accv) h hr ht (.cons hv ha)
    exact ⟨G', σ', rs, h1, h2, by simpa using h3⟩
  | .xsl es :: l, acc, G, σ, _, accv, h, hr, @All2.cons _ _ _ _ v _ vs hv ht, ha => by
    have hv : RepA G (.xsl es) v := by rcases hv with hv | hv; exact hv.elim; exact hv
    obtain ⟨G', σ', rs, h1, h2, h3⟩ := args_sound l (.p (.sl es es.length) :: acc) G σ vs (v :: accv) h hr ht (.cons hv.1 ha)
    exact ⟨G', σ', rs, h1, h2, by simpa using h3⟩
  | .row r n :: l, acc, G, σ, _, accv, h, hr, @All2.cons _ _ _ _ v _ vs hv ht, ha => by
    simp only [argsA] at h
    split at h
    · rename_i T k es hs
      obtain ⟨rfl, h⟩ := h
      have hv : RepA G (.row r es.length) v := by
        rcases hv with hv | hv
        · simp only [deadA] at hv; rw [hs] at hv; cases hv
        · exact hv
      obtain ⟨v', G1, hJ, hr1, hle, hsl, hmono⟩ := hr.freezeRow hs
      simp only [RepA] at hv
      rw [hJ] at hv; cases hv
      have ht' : All2 (fun av v => deadA (σ.frzRow r es) av ∨ RepA G1 av v) l vs := ht.mono fun av v hav => by
        by_cases hq : ∃ m, av = .row r m
        · obtain ⟨m, e⟩ := hq; subst e; exact .inl (getB_delB_self _ _)
        · rcases hav with hav | hav
          · left
            cases av with
            | row s' n' =>
              by_cases e' : s' = r
              · subst e'; exact getB_delB_self _ _
              · show getB s' (delB r σ.rw) = _; rw [getB_delB_ne e']; exact hav
            | ref s' n' => exact hav
            | _ => exact hav.elim
          · exact .inr (hmono av v (fun m e => hq ⟨m, e⟩) hav)
      obtain ⟨G', σ', rs, h1, h2, h3⟩ := args_sound l (.p (.sl es es.length) :: acc) G1 _ vs (v :: accv) h hr1 ht' (.cons hsl (ha.mono fun _ _ => RepR.mono hle))
      exact ⟨G', σ', rs, h1, h2, by simpa using h3⟩
    · exact h.elim
  | .ref s n :: l, acc, G, σ, _, accv, h, hr, @All2.cons _ _ _ _ v _ vs hv ht, ha => by
    simp only [argsA] at h
    split at h
    · rename_i cs hs
      have hv : RepA G (.ref s n) v := by
        rcases hv with hv | hv
        · simp only [deadA] at hv; rw [hs] at hv; cases hv
        · exact hv
      obtain ⟨b, G1, hb, hr1, hle, hip, hmono⟩ := hr.freezeBox hs
      obtain ⟨b', hb', ev⟩ := hv
      rw [hb] at hb'; cases hb'
      have hv' : RepP G1.F (.ip (cs.drop n)) v := by rw [ev]; exact hip n
      have ht' : All2 (fun av v => deadA { σ with fr := frzFr s cs σ.fr, bx := delB s σ.bx } av ∨ RepA G1 av v) l vs := ht.mono fun av v hav => by
        by_cases hq : ∃ m, av = .ref s m
        · obtain ⟨m, e⟩ := hq; subst e; exact .inl (getB_delB_self _ _)
        · rcases hav with hav | hav
          · left
            cases av with
            | ref s' n' =>
              by_cases e' : s' = s
              · subst e'; exact getB_delB_self _ _
              · show getB s' (delB s σ.bx) = _; rw [getB_delB_ne e']; exact hav
            | row s' n' => exact hav
            | _ => exact hav.elim
          · exact .inr (hmono av v (fun m e => hq ⟨m, e⟩) hav)
      obtain ⟨G', σ', rs, h1, h2, h3⟩ := args_sound l (.p (.ip (cs.drop n)) :: acc) G1 _ vs (v :: accv) h hr1 ht' (.cons hv' (ha.mono fun _ _ => RepR.mono hle))
      exact ⟨G', σ', rs, h1, h2, by simpa using h3⟩
    · exact h.elim
  | .tup _ :: _, _, _, _, _, _, h, _, _, _ => h.elim
  | .junk :: _, _, _, _, _, _, h, _, _, _ => h.elim

theorem call_sound {f : FuncId} {args : List AV} {vs : List Value} (hr0 : Rel D G σ a w) (hgl : D.gl = gl) (hargs : All2 (RepA G) args vs) (h : callA P gl f args σ K) (hn : Nxt D o a K next)
    (hex : (execOp a.eval o).run P w = (callFunc f vs.toArray).run P w) : o.wp P a w next Q := by
  obtain ⟨G, σ, rs, ⟨S, hS, hK⟩, hr, hrs⟩ := args_sound args [] G σ vs [] h hr0 (hargs.mono fun _ _ => .inr) .nil
  rw [List.reverse_nil, List.nil_append] at hrs
  have hgl' : GlOK gl G.F := fun g cs hg => (hr.gl g cs (by rw [hgl]; exact hg)).mono hr.le
  have hc := hS.calls rs σ.ph (outK K σ) hK G.F w vs hgl' hr.fc hr.ph hr.phF hr.phl hrs
  have fin : ∀ e w', (∃ v r φ' F', e = Ending.returned v ∧ outK K σ r φ' ∧ RepO F' r v ∧ Facts.le G.F F' ∧ FactsOK F' w' ∧ (∀ b o, b < w.heap.size → ¬ σ.ph.fp b → F' b o = G.F b o) ∧ Kept σ.ph.fp w w' ∧
      φ'.ok F' w' ∧ (∀ b o, φ'.fp b → F' b o = none) ∧ (∀ b, φ'.fp b → σ.ph.fp b ∨ w.heap.size ≤ b) ∧ (∀ b, φ'.fp b → b < w'.heap.size)) → ∃ v, e = .returned v ∧ next (a.put o.dst v) w' := by
    rintro e w' ⟨v, r, φ', F', he, h1, h2, h3, h4, h5, h6, h7, h8, h9, h10⟩
    have hrel := hr.step h3 h5 h4 h6 h7 h8 h9 h10
    exact ⟨v, he, hn _ _ r.av _ _ hrel (out_A (G := ⟨F', G.β, G.J⟩) h2) h1⟩
  unfold Oper.wp
  rw [hex]
  rcases hc with ⟨hen, hc⟩ | ⟨v, w', hrun, hpost⟩
  · rw [run_callFunc hen]
    simp only [Oper.upon]
    refine hc.mono fun e w' hp => ?_
    obtain ⟨v, rfl, hnx⟩ := fin e w' hp
    exact hnx
  · rw [hrun]
    simp only [Oper.upon]
    obtain ⟨v', he, hnx⟩ := fin _ w' hpost
    cases he
    exact hnx

theorem sound_call {f : FuncId} {args : Array Operand} {ts : Array TypeId} (ho : o.op = .call { callee := .value (.func f), args := args, argTypes := ts }) (hr : Rel D G σ a w) (hgl : D.gl = gl)
    (h : callA P gl f ((args.toList.map (trO gl)).map (ev σ)) σ K) (hn : Nxt D o a K next) : o.wp P a w next Q := by
  refine call_sound hr hgl (evs_rel hr hgl args.toList) h hn ?_
  have e : (args.toList.map a.eval).toArray = args.map a.eval := by rw [← Array.toList_map]
  simp [execOp, ho, resolve, Act.eval, Deferred.ofValue, invoke, e]

theorem callvA_inv {x : AV} {args : List AV} (h : callvA P gl x args σ K) : ∃ f caps, x = .p (.fn f caps) ∧ callA P gl f (args ++ caps.map .p) σ K := by
  unfold callvA at h
  split at h
  · exact ⟨_, _, rfl, h⟩
  · exact h.elim

theorem sound_callv {x : Operand} {args : Array Operand} {ts : Array TypeId} (ho : o.op = .call { callee := .value x, args := args, argTypes := ts }) (hr : Rel D G σ a w) (hgl : D.gl = gl)
    (h : callvA P gl (ev σ (trO gl x)) ((args.toList.map (trO gl)).map (ev σ)) σ K) (hn : Nxt D o a K next) : o.wp P a w next Q := by
  obtain ⟨f, caps, e, h⟩ := callvA_inv h
  have hx := hr.ev hgl x
  rw [e] at hx
  obtain ⟨l, hv, hl⟩ := fn_val hx
  have hcap : All2 (RepA G) (caps.map .p) l := by
    clear h e hx hv
    induction hl with
    | nil => exact .nil
    | cons h _ ih => exact .cons h ih
  refine call_sound hr hgl ((evs_rel hr hgl args.toList).app hcap) h hn ?_
  have e : (args.toList.map a.eval ++ l).toArray = args.map a.eval ++ l.toArray := by rw [← Array.toList_map]; simp
  simp [execOp, ho, resolve, hv, Deferred.ofValue, invoke, e]

end Go.Am

/-
  AM: more operations.
-/
namespace Go.Am
open Go

variable {P : Program} {gl : Nat → Option (List PV)} {D : Base} {G : Gh} {σ : St} {a : Act} {w : World}
variable {o : Oper} {K : AV → St → Prop} {next : Act → World → Prop} {Q : Exit → Act → World → Prop}

/-! ### x[:i:i] -/
theorem slc3A_inv {k : Nat} {x y z : AV} (h : slc3A k x y z σ K) : ∃ es n kk kk' i, x = .p (.sl es n) ∧ y = .p (.val (.int kk i)) ∧ z = .p (.val (.int kk' i)) ∧ allK k es ∧ 0 ≤ i ∧ i ≤ (es.length : Int) ∧ n ≤ es.length ∧ K (.xsl (es.take i.toNat)) σ := by
  unfold slc3A at h
  split at h
  · obtain ⟨h1, rfl, h2, h3, h4, h5⟩ := h
    exact ⟨_, _, _, _, _, rfl, rfl, rfl, h1, h2, h3, h4, h5⟩
  · exact h.elim

theorem sl_take {F : Facts} {es : List (List PV)} {n : Nat} {ao : Option Addr} {c m : Nat} (h : RepP F (.sl es n) (.slice ao n c)) {k : Nat} (hk : allK k es) (hm : m ≤ es.length) :
    RepP F (.sl (es.take m) (es.take m).length) (.slice ao m m) := by
  cases h with
  | @sl _ _ b off c vs k' hn hc hl hk' h1' h2' =>
    have hlen : (es.take m).length = m := by simp; omega
    rw [hlen]
    by_cases h0 : ∃ e ∈ es, 0 < e.length
    · obtain ⟨e, he, hpos⟩ := h0
      have hkk : k' = k := by rw [← hk e he, hk' e he]
      subst hkk
      exact .sl vs k' (by omega) (by omega) (by omega) (fun e he => hk e (List.mem_of_mem_take he)) (fun i j e x he hx => h1' i j e x (getElem?_take_some he) hx) (fun i j e x he hx => h2' i j e x (getElem?_take_some he) hx)
    · exact .sl vs k' (by omega) (by omega) (by omega) (fun e he => hk' e (List.mem_of_mem_take he)) (fun i j e x he hx => h1' i j e x (getElem?_take_some he) hx) (fun i j e x he hx => h2' i j e x (getElem?_take_some he) hx)
  | nil =>
    have : m = 0 := by simpa using hm
    subst this
    exact .nil
  | nil0 =>
    have : m = 0 := by simpa using hm
    subst this
    exact .nil0

theorem sound_slc3 {T e : TypeId} {x y z : Operand} {i : TypeInfo} (ho : o.op = .slice T x none (some y) (some z)) (hu : P.underlying T = some (.slice e)) (hi' : P.info? e = some i)
    (hr : Rel D G σ a w) (hgl : D.gl = gl) (h : slc3A i.size (ev σ (trO gl x)) (ev σ (trO gl y)) (ev σ (trO gl z)) σ K) (hn : Nxt D o a K next) : o.wp P a w next Q := by
  have hx := hr.ev hgl x
  have hy := hr.ev hgl y
  have hz := hr.ev hgl z
  obtain ⟨es, n, kk, kk', m, e1, e2, e3, hk, h0, h1, h2, hK⟩ := slc3A_inv h
  rw [e1] at hx; rw [e2] at hy; rw [e3] at hz
  obtain ⟨ao, c, hv, hc, hnl, _⟩ := sl_val hx
  rw [hv] at hx
  have hyv := repA_val hy
  have hzv := repA_val hz
  have hs : (sizeOf e).run P w = .ok i.size w := by simp [sizeOf, typeInfo, hi']
  have hmn : m.toNat ≤ es.length := by omega
  have hsub := sl_take (F := G.F) (m := m.toNat) hx hk hmn
  have hlen : (es.take m.toNat).length = m.toNat := by simp; omega
  have hao : ∀ ad, ao = some ad → ad.add 0 = ad := fun ad e => by
    subst e
    cases hx
    · rw [addr_add]; rfl
    · simp [Addr.add]
  refine wp_value (v := .slice ao m.toNat m.toNat) (w' := w) ?_ (hn _ _ (.xsl (es.take m.toNat)) _ _ hr ⟨hsub, ao, by rw [hlen]⟩ hK)
  have b1 := run_sliceBound (P := P) w kk' m c .slice3Acap h0 (by omega)
  have b2 := run_sliceBound (P := P) w kk m m.toNat .slice3B h0 (by omega)
  have hbd : (Instr.sliceBounds true n c none (some (a.eval y)) (some (a.eval z))).run P w = .ok (0, m.toNat, m.toNat) w := by
    simp [Instr.sliceBounds, hyv, hzv, b1, b2]
  simp [execOp, ho, Instr.sliceAt, Instr.slice, hv, run_underlying hu, hbd, hs]
  cases ao with
  | none => simp
  | some ad => simp [hao ad rfl]

/-! ### a row that nothing will change -/
theorem sound_bslq {T e : TypeId} {n : Nat} {ps : Array (Nat × Operand)} {i : TypeInfo} {z : Value} {r : List (Nat × Nat × Opd)} {zs : List PV} (ho : o.op = .buildSlice T n ps)
    (hu : P.underlying T = some (.slice e)) (hi : P.info? e = some i) (hz : i.zero = some z) (ht : trParts gl (fun j => some (j * i.size, i.size)) ps.toList = some r) (hzs : pvs z.cells.toList = some zs)
    (hr : Rel D G σ a w) (hgl : D.gl = gl) (h : bslqA i.size n zs (evs σ r) σ K) (hn : Nxt D o a K next) : o.wp P a w next Q := by
  obtain ⟨hk, hn0, hk0, hlim, h⟩ := h
  split at h
  · rename_i cs hf
    have hzr := pvs_rep (F := G.F) hzs
    have hzl := hzr.len
    have hcells := zero_cells z.cells.toList i.size (by rw [← hzl]; exact hk) hk0 n
    simp only [Array.toArray_toList] at hcells
    obtain ⟨m, hm1, hm2⟩ := repl_rep hzr n
    rw [hm2, ← hcells] at hm1
    obtain ⟨arr, h1, h2⟩ := fill_rep _ _ _ cs _ (trParts_rel ps.toList r ht hr hgl) hf hm1
    have hsz : arr.size = n * i.size := by rw [fill_len _ h1]; simp
    have hcl : cs.length = n * i.size := by rw [h2.len]; simpa using hsz
    obtain ⟨hfl, hek⟩ := chunks_flat n cs hcl
    have hle := chunks_len (k := i.size) n cs
    have hnl : n ≤ 16777216 := Nat.le_trans (Nat.le_mul_of_pos_right n hk0) hlim
    have hF0 : ∀ o, G.F w.heap.size o = none := fun o => by
      cases hF : G.F w.heap.size o with
      | none => rfl
      | some v => have := hr.fc.lt hF; omega
    have hF : Facts.le G.F (addF G.F w.heap.size arr.toList) := addF_le hF0
    have hkp := Kept.alloc w (.cells arr e (0, 0))
    have hown := World.ownsRow_lit w arr n (base := D.w.heap.size) (e := e) (size := i.size) hr.kept.size (by simp [maxLen]; omega) hsz
    have hph0 : ¬ σ.ph.fp w.heap.size := fun hp => by have := hr.phl _ hp; omega
    have hFne : ∀ b o, b ≠ w.heap.size → addF G.F w.heap.size arr.toList b o = G.F b o := fun b o hb => by simp [addF, hb]
    have hfc : FactsOK (addF G.F w.heap.size arr.toList) (w.alloc (.cells arr e (0, 0))) := fun b o u hu' => by
      by_cases hb : b = w.heap.size
      · subst hb
        simp only [addF, if_true] at hu'
        have := hown.cells (g := w.heap.size) rfl o u hu'
        rw [addr_add] at this
        simpa using this
      · rw [hFne b o hb] at hu'
        exact (hr.fc.keep fun b hb _ => hkp.block b hb (fun e => e)) b o u hu'
    have hrel := hr.step (w' := w.alloc (.cells arr e (0, 0))) (F' := addF G.F w.heap.size arr.toList) (φ' := σ.ph) hF (fun b o hb _ => hFne b o (by omega)) hfc
      ⟨hkp.os, hkp.tape, hkp.output, hkp.size, fun b hb _ => hkp.block b hb (fun e => e)⟩ (σ.ph.stable _ _ _ _ hF (fun b hb => hkp.block b (hr.phl b hb) (fun e => e)) hr.ph)
      (fun b o hb => by rw [hFne b o (fun e => hph0 (e ▸ hb))]; exact hr.phF b o hb) (fun b hb => .inl hb) (fun b hb => Nat.lt_of_lt_of_le (hr.phl b hb) hkp.size)
    have hrep : RepP (addF G.F w.heap.size arr.toList) (.sl (chunks i.size n cs) n) (.slice (some ⟨w.heap.size, 0, none⟩) n n) := by
      refine .sl (fun i' j => arr.toList.getD (i' * i.size + j) undef) i.size (by rw [hle]; exact Nat.le_refl _) (by rw [hle]; exact Nat.le_refl _) (by rw [hle]; simp [LIM]; omega) hek (fun i' j e x he hx => ?_) (fun i' j e x he hx => ?_)
      · have hg := flat_get _ hek i' j e x he hx
        rw [hfl] at hg
        obtain ⟨u, hu, _⟩ := h2.get hg
        have hu' : arr[i' * i.size + j]? = some u := by simpa using hu
        simp [addF, hu']
      · have hg := flat_get _ hek i' j e x he hx
        rw [hfl] at hg
        obtain ⟨u, hu, hu2⟩ := h2.get hg
        simp only [List.getD_eq_getElem?_getD, hu, Option.getD_some]
        exact hu2.mono hF
    refine wp_value (v := .slice (some ⟨w.heap.size, 0, none⟩) n n) (w' := w.alloc (.cells arr e (0, 0))) ?_ (hn _ _ (.p (.sl (chunks i.size n cs) n)) _ _ hrel hrep h)
    have hs : (sizeOf e).run P w = .ok i.size w := by simp [sizeOf, typeInfo, hi]
    have hzv : (zeroValue e).run P w = .ok z w := by simp [zeroValue, typeInfo, hi, hz]
    have hne : ¬ (n * i.size = 0) := by
      intro h0; rcases Nat.mul_eq_zero.1 h0 with h0 | h0 <;> omega
    have hnl' : ¬ (n * i.size > 16777216) := by omega
    have h1' : Instr.fill (fun j => some (j * i.size, i.size)) ((Array.range (n * i.size)).map fun j => z.cells[j % z.cells.size]!) (ps.map fun q => (q.1, a.eval q.2)).toList = some arr := by
      rw [Array.toList_map]; exact h1
    simp only [execOp, ho, Instr.buildSlice, Sem.run_bind, run_underlying hu, Result.andThen_ok, hs, hne, if_false, hzv, Sem.run_pure, hnl', show (2 : Nat) ^ 24 = 16777216 from rfl]
    simp only [h1', Sem.run_bind, Sem.run_pure]
    rfl
  · exact h.elim

/-! ### an array's element -/
theorem iadaA_inv {k n : Nat} {x y : AV} (h : iadaA k n x y σ K) : ∃ kk i, y = .p (.val (.int kk i)) ∧ 0 ≤ i ∧ i < (n : Int) ∧ ((∃ cs, x = .p (.ip cs) ∧ K (.p (.ip (cs.drop (i.toNat * k)))) σ) ∨ ∃ s off, x = .ref s off ∧ K (.ref s (off + i.toNat * k)) σ) := by
  unfold iadaA at h
  split at h
  · obtain ⟨h1, h2, h3⟩ := h
    exact ⟨_, _, rfl, h1, h2, .inl ⟨_, rfl, h3⟩⟩
  · obtain ⟨h1, h2, h3⟩ := h
    exact ⟨_, _, rfl, h1, h2, .inr ⟨_, _, rfl, h3⟩⟩
  · exact h.elim

theorem sound_iada {T e : TypeId} {n : Nat} {x y : Operand} {i : TypeInfo} (ho : o.op = .indexAddr T x y) (hu : P.underlying T = some (.array n e)) (hi : P.info? e = some i)
    (hr : Rel D G σ a w) (hgl : D.gl = gl) (h : iadaA i.size n (ev σ (trO gl x)) (ev σ (trO gl y)) σ K) (hn : Nxt D o a K next) : o.wp P a w next Q := by
  obtain ⟨kk, ix, e2, h0, h1, h⟩ := iadaA_inv h
  have hx := hr.ev hgl x
  have hy := hr.ev hgl y
  rw [e2] at hy
  have hyv := repA_val hy
  have hs : (sizeOf e).run P w = .ok i.size w := by simp [sizeOf, typeInfo, hi]
  rcases h with ⟨cs, e1, hK⟩ | ⟨s, off, e1, hK⟩
  · rw [e1] at hx
    obtain ⟨b, off, vs, hv, _, _⟩ := ip_cells hx
    rw [hv] at hx
    refine wp_value (v := .pointer (some ⟨b, off + ix.toNat * i.size, none⟩)) (w' := w) ?_ (hn _ _ (.p (.ip (cs.drop (ix.toNat * i.size)))) _ _ hr (RepP.ip_drop hx _) hK)
    simp [execOp, ho, Instr.indexAt, Instr.sureAddr, hyv, asIntOf, hv, run_underlying hu, hs, h0, h1, addr_add]
  · rw [e1] at hx
    obtain ⟨b, hβ, hv⟩ := hx
    refine wp_value (v := .pointer (some ⟨b, off + ix.toNat * i.size, none⟩)) (w' := w) ?_ (hn _ _ (.ref s (off + ix.toNat * i.size)) _ _ hr ⟨b, hβ, rfl⟩ hK)
    simp [execOp, ho, Instr.indexAt, Instr.sureAddr, hyv, asIntOf, hv, run_underlying hu, hs, h0, h1, addr_add]

/-! ### structs laid side by side -/
inductive LeafR : Leaf → Value → Value → Bool → Prop
  | int (k : IntKind) (a b : Int) : LeafR .int (.int k a) (.int k b) (decide (a = b))
  | str (a b : ByteArray) : LeafR .str (.string a) (.string b) (decide (a = b))
  | bool (a b : Bool) : LeafR .bool (.bool a) (.bool b) (decide (a = b))

theorem eqL_inv {lf : Leaf} {ks : List Leaf} {xs ys : List PV} {b : Bool} (h : eqL (lf :: ks) xs ys = some b) : ∃ u v r b' xs' ys', xs = .val u :: xs' ∧ ys = .val v :: ys' ∧ LeafR lf u v r ∧ eqL ks xs' ys' = some b' ∧ b = (r && b') := by
  unfold eqL at h
  split at h
  · rename_i e; cases e
  · rename_i e; cases e
    split at h
    · rename_i hk; subst hk
      rw [Option.map_eq_some_iff] at h
      obtain ⟨b', h1, rfl⟩ := h
      exact ⟨_, _, _, b', _, _, rfl, rfl, .int _ _ _, h1, rfl⟩
    · cases h
  · rename_i e; cases e
    rw [Option.map_eq_some_iff] at h
    obtain ⟨b', h1, rfl⟩ := h
    exact ⟨_, _, _, b', _, _, rfl, rfl, .str _ _, h1, rfl⟩
  · rename_i e; cases e
    rw [Option.map_eq_some_iff] at h
    obtain ⟨b', h1, rfl⟩ := h
    exact ⟨_, _, _, b', _, _, rfl, rfl, .bool _ _, h1, rfl⟩
  · cases h

theorem run_part {f : Field} {l : List Value} {v : Value} (hd : ∃ d, P.underlying f.type = some d ∧ isAggD d = false) (hv : l[f.offset]? = some v) : (part f.type l.toArray f.offset).run P w = .ok v w := by
  obtain ⟨d, hd, ha⟩ := hd
  have : (isAgg f.type).run P w = .ok false w := by
    cases d <;> first | (simp [isAggD] at ha; done) | simp [isAgg, run_underlying hd]
  simp [part, this, hv]

theorem eqFields_run {xs ys : List PV} {l m : List Value} (d : Nat) (hx : RepL G.F xs l) (hy : RepL G.F ys m) : ∀ (fs : List Field) (i : Nat) (ks : List Leaf) (b : Bool), leafs P i fs = some ks → eqL ks (xs.drop i) (ys.drop i) = some b →
    (Op.eqFields (d + 1) l.toArray m.toArray fs).run P w = .ok b w
  | [], i, ks, b, hk, he => by
    simp only [leafs, Option.some.injEq] at hk
    subst hk
    simp only [eqL, Option.some.injEq] at he
    subst he
    rfl
  | f :: fs, i, ks, b, hk, he => by
    simp only [leafs] at hk
    split at hk
    · rename_i hc
      obtain ⟨hname, hoff⟩ := hc
      -- the two cells
      have step : ∀ (u v : Value) (r b' : Bool) (rest : List Leaf), xs[i]? = some (.val u) → ys[i]? = some (.val v) → (∃ D, P.underlying f.type = some D ∧ isAggD D = false) → (Op.equalIn (d + 1) f.type u v).run P w = .ok r w →
          leafs P (i + 1) fs = some rest → eqL rest (xs.drop (i + 1)) (ys.drop (i + 1)) = some b' → b = (r && b') → (Op.eqFields (d + 1) l.toArray m.toArray (f :: fs)).run P w = .ok b w := by
        intro u v r b' rest hxu hyv hD hrun hl2 he2 hb
        obtain ⟨u', hu', hur⟩ := hx.get hxu
        obtain ⟨v', hv', hvr⟩ := hy.get hyv
        cases hur; cases hvr
        have p1 := run_part (P := P) (w := w) (f := f) (l := l) hD (by rw [hoff]; exact hu')
        have p2 := run_part (P := P) (w := w) (f := f) (l := m) hD (by rw [hoff]; exact hv')
        have ih := eqFields_run d hx hy fs (i + 1) rest b' hl2 he2
        simp only [Op.eqFields, ne_eq, hname, not_false_eq_true, if_true, Sem.run_bind, p1, Result.andThen_ok, p2, hrun]
        subst hb
        cases r with
        | true => simpa using ih
        | false => simp
      have get : ∀ {zs : List PV} {z : PV} {t : List PV}, zs.drop i = z :: t → zs[i]? = some z ∧ zs.drop (i + 1) = t := fun {zs z t} h => by
        have h1 := congrArg (·[0]?) h
        simp only [List.getElem?_drop, Nat.add_zero, List.getElem?_cons_zero] at h1
        have h2 := congrArg (List.drop 1) h
        simp only [List.drop_drop, List.drop_one, List.tail_cons] at h2
        exact ⟨h1, h2⟩
      split at hk
      · rename_i k rest hu hl2
        cases hk
        obtain ⟨u, v, r, b', xs', ys', e1, e2, hl, he2, hb⟩ := eqL_inv he
        cases hl with
        | int k a b => exact step _ _ _ b' rest (get e1).1 (get e2).1 ⟨_, hu, rfl⟩ (by rw [run_equalIn_int (h := hu)]; rfl) hl2 (by rw [(get e1).2, (get e2).2]; exact he2) hb
      · rename_i rest hu hl2
        cases hk
        obtain ⟨u, v, r, b', xs', ys', e1, e2, hl, he2, hb⟩ := eqL_inv he
        cases hl with
        | str a b => exact step _ _ _ b' rest (get e1).1 (get e2).1 ⟨_, hu, rfl⟩ (by rw [run_equalIn_string (h := hu), bytes_eq]) hl2 (by rw [(get e1).2, (get e2).2]; exact he2) hb
      · rename_i rest hu hl2
        cases hk
        obtain ⟨u, v, r, b', xs', ys', e1, e2, hl, he2, hb⟩ := eqL_inv he
        cases hl with
        | bool a b => exact step _ _ _ b' rest (get e1).1 (get e2).1 ⟨_, hu, rfl⟩ (by rw [run_equalIn_bool' (h := hu)]; cases a <;> cases b <;> rfl) hl2 (by rw [(get e1).2, (get e2).2]; exact he2) hb
      · cases hk
    · cases hk

theorem beqA_inv {neg : Bool} {ks : List Leaf} {x y : AV} (h : beqA neg ks x y σ K) : ∃ xs ys b, x = .agg xs ∧ y = .agg ys ∧ eqL ks xs ys = some b ∧ K (.p (.val (.bool (b != neg)))) σ := by
  unfold beqA at h
  split at h
  · split at h
    · exact ⟨_, _, _, rfl, rfl, ‹_›, h⟩
    · exact h.elim
  · exact h.elim

theorem sound_beq {op : BinOp} {neg : Bool} {T T' : TypeId} {x y : Operand} {fs : Array Field} {ks : List Leaf} (ho : o.op = .binOp op T x y T') (hop : (op = .eql ∧ neg = false) ∨ (op = .neq ∧ neg = true)) (hu : P.underlying T = some (.struct fs))
    (h1 : P.stoodInHeld T = false) (h2 : P.eqGuardType P.depth T = false) (hl : leafs P 0 fs.toList = some ks) (hr : Rel D G σ a w) (hgl : D.gl = gl) (h : beqA neg ks (ev σ (trO gl x)) (ev σ (trO gl y)) σ K) (hn : Nxt D o a K next) : o.wp P a w next Q := by
  obtain ⟨xs, ys, b, e1, e2, he, hK⟩ := beqA_inv h
  have hx := hr.ev hgl x
  have hy := hr.ev hgl y
  rw [e1] at hx; rw [e2] at hy
  obtain ⟨l, hxv, hxl⟩ := hx
  obtain ⟨m, hyv, hyl⟩ := hy
  have hf : P.fieldsOf T = fs := by simp [Program.fieldsOf, hu]
  have hrun := eqFields_run (P := P) (w := w) 9998 hxl hyl fs.toList 0 ks b hl (by simpa using he)
  have heq : (Op.equalIn 10000 T (.agg l.toArray) (.agg m.toArray)).run P w = .ok b w := by
    rw [run_equalIn_struct w 9999 T l.toArray m.toArray (by rw [hf]; exact hu) h1, hf]
    exact hrun
  have hg : ∀ op, (eqGuard op T x y (.agg l.toArray) (.agg m.toArray)).run P w = .ok () w := fun op => run_eqGuard_agg w op T x y l.toArray m.toArray h2
  rcases hop with ⟨rfl, rfl⟩ | ⟨rfl, rfl⟩
  · refine wp_value (v := .bool b) (w' := w) ?_ (hn _ _ _ _ _ hr (val_A rfl) (by simpa using hK))
    simp [execOp, ho, hxv, hyv, hg, run_eql_struct, heq]
  · refine wp_value (v := .bool (!b)) (w' := w) ?_ (hn _ _ _ _ _ hr (val_A rfl) (by simpa using hK))
    simp [execOp, ho, hxv, hyv, hg, run_neq_struct, heq]

/-! ### a pointer laid beside nil -/
theorem isnilA_inv {neg : Bool} {x : AV} (h : isnilA neg x σ K) : ∃ b, isNil x = some b ∧ K (.p (.val (.bool (b != neg)))) σ := by
  unfold isnilA at h
  split at h
  · exact ⟨_, ‹_›, h⟩
  · exact h.elim

theorem isNil_rep {x : AV} {v : Value} {b : Bool} (h : isNil x = some b) (hr : RepA G x v) : ∃ p, v = .pointer p ∧ b = p.isNone := by
  unfold isNil at h
  split at h
  · cases h
    obtain ⟨b, off, vs, hv, _, _⟩ := ip_cells hr
    exact ⟨_, hv, rfl⟩
  · cases h
    exact ⟨_, repA_val hr, rfl⟩
  · cases h
    obtain ⟨b, _, hv⟩ := hr
    exact ⟨_, hv, rfl⟩
  · cases h

theorem sound_isnil {op : BinOp} {neg : Bool} {T T' e : TypeId} {x : Operand} (ho : o.op = .binOp op T x (.const (.pointer none)) T') (hop : (op = .eql ∧ neg = false) ∨ (op = .neq ∧ neg = true)) (hu : P.underlying T = some (.pointer e))
    (hr : Rel D G σ a w) (hgl : D.gl = gl) (h : isnilA neg (ev σ (trO gl x)) σ K) (hn : Nxt D o a K next) : o.wp P a w next Q := by
  obtain ⟨b, e1, hK⟩ := isnilA_inv h
  obtain ⟨p, hxv, hb⟩ := isNil_rep e1 (hr.ev hgl x)
  have hpt : P.underlying T = some (.pointer (P.pointee T)) := by rw [hu]; simp [Program.pointee, hu]
  have hc : a.eval (.const (.pointer none)) = .pointer none := rfl
  have hg : ∀ op y, (eqGuard op T x y (.pointer p) (.pointer none)).run P w = .ok () w := fun op y => by
    unfold eqGuard
    split <;> rfl
  rcases hop with ⟨rfl, rfl⟩ | ⟨rfl, rfl⟩
  · refine wp_value (v := .bool b) (w' := w) ?_ (hn _ _ _ _ _ hr (val_A rfl) (by simpa using hK))
    simp [execOp, ho, hxv, hc, hg, run_eql_pointer_nil w T p hpt, hb]
  · refine wp_value (v := .bool (!b)) (w' := w) ?_ (hn _ _ _ _ _ hr (val_A rfl) (by simpa using hK))
    simp [execOp, ho, hxv, hc, hg, run_neq_pointer_nil w T p hpt, hb]

/-! ### a struct's field; the greater and the smaller; shifts -/
theorem fldA_inv {agg : Bool} {k off : Nat} {x : AV} (h : fldA agg k off x σ K) : ∃ cs, x = .agg cs ∧ off + k ≤ cs.length ∧ (agg = false → k = 1) ∧ K (cellsA agg k (cs.drop off)) σ := by
  unfold fldA at h
  split at h
  · exact ⟨_, rfl, h⟩
  · exact h.elim

theorem sound_fld {T : TypeId} {x : Operand} {f : Nat} {fs : Array Field} {fd : Field} {d : TypeDesc} {i : TypeInfo} (ho : o.op = .field T x f) (hu : P.underlying T = some (.struct fs)) (hf : fs[f]? = some fd)
    (hd : P.underlying fd.type = some d) (hi : P.info? fd.type = some i) (hr : Rel D G σ a w) (hgl : D.gl = gl) (h : fldA (isAggD d) i.size fd.offset (ev σ (trO gl x)) σ K) (hn : Nxt D o a K next) : o.wp P a w next Q := by
  obtain ⟨cs, e, h1, h2, hK⟩ := fldA_inv h
  have hx := hr.ev hgl x
  rw [e] at hx
  obtain ⟨l, hv, hl⟩ := hx
  have hlen := hl.len
  have hs : (sizeOf fd.type).run P w = .ok i.size w := by simp [sizeOf, typeInfo, hi]
  have hcr := cellsA_rep (G := G) (hl.drop fd.offset) (k := i.size) (agg := isAggD d) (by simp; omega) h2
  refine wp_value (v := if isAggD d then .agg ((l.drop fd.offset).take i.size).toArray else (l.drop fd.offset).headD undef) (w' := w) ?_ (hn _ _ _ _ _ hr hcr hK)
  have hag : (isAgg fd.type).run P w = .ok (isAggD d) w := by
    cases d <;> simp [isAgg, run_underlying hd, isAggD]
  cases had : isAggD d with
  | true =>
    rw [had] at hag
    simp only [execOp, ho, Instr.field, hv, Sem.run_bind, run_underlying hu, Result.andThen_ok, hf, asAgg, part, hag, if_true, hs, Sem.run_pure]
    congr 2
    simp [List.take_drop]
  | false =>
    rw [had] at hag
    have hk := h2 had
    obtain ⟨v, hvv⟩ : ∃ v, l[fd.offset]? = some v := ⟨l[fd.offset]'(by omega), by simp⟩
    simp [execOp, ho, Instr.field, hv, run_underlying hu, hf, asAgg, part, hag, hvv]

theorem mmA_inv {mx : Bool} {x y : AV} (h : mmA mx x y σ K) : ∃ k k' i j, x = .p (.val (.int k i)) ∧ y = .p (.val (.int k' j)) ∧ K (.p (.val (.int k (if mx then (if j > i then j else i) else (if j < i then j else i))))) σ := by
  unfold mmA at h
  split at h
  · exact ⟨_, _, _, _, rfl, rfl, h⟩
  · exact h.elim

theorem sound_max {x y : Operand} {ts : Array TypeId} (ho : o.op = .call { callee := .builtin .max, args := #[x, y], argTypes := ts }) (hr : Rel D G σ a w) (hgl : D.gl = gl) (h : mmA true (ev σ (trO gl x)) (ev σ (trO gl y)) σ K) (hn : Nxt D o a K next) : o.wp P a w next Q := by
  obtain ⟨k, k', i, j, e1, e2, hK⟩ := mmA_inv h
  have hx := hr.ev hgl x
  have hy := hr.ev hgl y
  rw [e1] at hx; rw [e2] at hy
  refine wp_value (v := .int k (if j > i then j else i)) (w' := w) ?_ (hn _ _ _ _ _ hr (val_A rfl) (by simpa using hK))
  simp [execOp, ho, resolve, invoke, builtin, repA_val hx, repA_val hy, run_max_int2]

theorem sound_min {x y : Operand} {ts : Array TypeId} (ho : o.op = .call { callee := .builtin .min, args := #[x, y], argTypes := ts }) (hr : Rel D G σ a w) (hgl : D.gl = gl) (h : mmA false (ev σ (trO gl x)) (ev σ (trO gl y)) σ K) (hn : Nxt D o a K next) : o.wp P a w next Q := by
  obtain ⟨k, k', i, j, e1, e2, hK⟩ := mmA_inv h
  have hx := hr.ev hgl x
  have hy := hr.ev hgl y
  rw [e1] at hx; rw [e2] at hy
  refine wp_value (v := .int k (if j < i then j else i)) (w' := w) ?_ (hn _ _ _ _ _ hr (val_A rfl) (by simpa using hK))
  simp [execOp, ho, resolve, invoke, builtin, repA_val hx, repA_val hy, run_min_int2]

theorem shfA_inv {left : Bool} {x y : AV} (h : shfA left x y σ K) : ∃ k k' i j, x = .p (.val (.int k i)) ∧ y = .p (.val (.int k' j)) ∧ 0 ≤ j ∧ K (.p (.val (.int k (if left then k.wrap (i * 2 ^ (min j.toNat k.bits)) else i.fdiv (2 ^ (min j.toNat k.bits)))))) σ := by
  unfold shfA at h
  split at h
  · exact ⟨_, _, _, _, rfl, rfl, h⟩
  · exact h.elim

theorem sound_shf {op : BinOp} {left : Bool} {T T' : TypeId} {x y : Operand} (ho : o.op = .binOp op T x y T') (hop : (op = .shl ∧ left = true) ∨ (op = .shr ∧ left = false)) (hr : Rel D G σ a w) (hgl : D.gl = gl)
    (h : shfA left (ev σ (trO gl x)) (ev σ (trO gl y)) σ K) (hn : Nxt D o a K next) : o.wp P a w next Q := by
  obtain ⟨k, k', i, j, e1, e2, h0, hK⟩ := shfA_inv h
  have hx := hr.ev hgl x
  have hy := hr.ev hgl y
  rw [e1] at hx; rw [e2] at hy
  have hneg : ¬ (j < 0) := by omega
  rcases hop with ⟨rfl, rfl⟩ | ⟨rfl, rfl⟩
  · refine wp_value (v := .int k (k.wrap (i * 2 ^ (min j.toNat k.bits)))) (w' := w) ?_ (hn _ _ _ _ _ hr (val_A rfl) (by simpa using hK))
    simp [execOp, ho, repA_val hx, repA_val hy, eqGuard_int, binOp, Op.shift, hneg]
  · refine wp_value (v := .int k (i.fdiv (2 ^ (min j.toNat k.bits)))) (w' := w) ?_ (hn _ _ _ _ _ hr (val_A rfl) (by simpa using hK))
    simp [execOp, ho, repA_val hx, repA_val hy, eqGuard_int, binOp, Op.shift, hneg]

end Go.Am
