/-
  bursarlaw18.QuotaApart answers true and leaves its arguments as they were, for inputs of bulk at most 1048576 (the given second form; no other condition). Part 6 of 26 of the proof.
-/
import Derived.Test.YtnjblinbdimkjaaGreatDoorM5
import Derived.Orders
/-
  AM: regions that draw their order, three.
-/
namespace Go.Am
open Go

variable {P : Program} {gl : Nat → Option (List PV)} {D : Base} {G : Gh} {σ : St} {a : Act} {w : World}
variable {Q : Exit → Act → World → Prop}

/-! ### quiet twins -/
theorem trOp0_call {op : Op} {f : FuncId} {args : List Opd} (h : trOp0 P gl op = .call f args) : ∃ (as : Array Operand) (ts : Array TypeId), op = .call { callee := .value (.func f), args := as, argTypes := ts } ∧ args = as.toList.map (trO gl) := by
  cases op with
  | call c =>
    obtain ⟨callee, as, ts⟩ := c
    simp only [trOp0] at h
    cases callee with
    | value x =>
      cases x with
      | func g => simp only [trCall, AOp.call.injEq] at h; obtain ⟨rfl, rfl⟩ := h; exact ⟨as, ts, rfl, rfl⟩
      | _ => cases h
    | invoke r m => cases h
    | builtin b =>
      cases b with
      | len => 
        simp only [trCall, trLen] at h
        repeat' (split at h)
        all_goals cases h
      | append => 
        simp only [trCall, trApp] at h
        repeat' (split at h)
        all_goals cases h
      | max => 
        simp only [trCall, trMm] at h
        split at h <;> cases h
      | min => 
        simp only [trCall, trMm] at h
        split at h <;> cases h
      | _ => cases h
  | makeFunc fn first caps => simp only [trOp0, trMk] at h; split at h <;> cases h
  | binOp op T x y T' =>
    simp only [trOp0, trBin] at h
    repeat' (split at h)
    all_goals cases h
  | slice T x lo hi mx => 
    simp only [trOp0, trSlice] at h
    repeat' (split at h)
    all_goals cases h
  | _ =>
    simp only [trOp0] at h
    repeat' (split at h)
    all_goals cases h

theorem trOp0_bslice {op : Op} {T k n : Nat} {zs : List PV} {r : List (Nat × Nat × Opd)} (h : trOp0 P gl op = .bslice T k n zs r) : ∃ (ty : TypeId) (ps : Array (Nat × Operand)) (i : TypeInfo) (z : Value), op = .buildSlice ty n ps ∧
    P.underlying ty = some (.slice T) ∧ P.info? T = some i ∧ i.zero = some z ∧ trParts gl (fun j => some (j * i.size, i.size)) ps.toList = some r ∧ pvs z.cells.toList = some zs ∧ k = i.size := by
  cases op with
  | buildSlice ty n' ps =>
    simp only [trOp0] at h
    split at h
    · rename_i e hu
      split at h
      · rename_i i hi
        split at h
        · rename_i z hz
          split at h
          · rename_i r' l' hr' hl'
            cases h
            exact ⟨ty, ps, i, z, rfl, hu, hi, hz, hr', hl', rfl⟩
          · cases h
        · cases h
      · cases h
    · cases h
  | binOp op T x y T' =>
    simp only [trOp0, trBin] at h
    repeat' (split at h)
    all_goals cases h
  | call c =>
    obtain ⟨callee, as, ts⟩ := c
    simp only [trOp0] at h
    cases callee with
    | value x => cases x <;> (simp only [trCall] at h; cases h)
    | invoke r m => cases h
    | builtin b =>
      cases b with
      | len => 
        simp only [trCall, trLen] at h
        repeat' (split at h)
        all_goals cases h
      | append => 
        simp only [trCall, trApp] at h
        repeat' (split at h)
        all_goals cases h
      | max => 
        simp only [trCall, trMm] at h
        split at h <;> cases h
      | min => 
        simp only [trCall, trMm] at h
        split at h <;> cases h
      | _ => cases h
  | makeFunc fn first caps => simp only [trOp0, trMk] at h; split at h <;> cases h
  | slice T x lo hi mx => 
    simp only [trOp0, trSlice] at h
    repeat' (split at h)
    all_goals cases h
  | _ =>
    simp only [trOp0] at h
    repeat' (split at h)
    all_goals cases h

theorem trOp_call {dst : Option Nat} {op : Op} {f : FuncId} {args : List Opd} (h : trOp P gl dst op = .call f args) : ∃ (as : Array Operand) (ts : Array TypeId), op = .call { callee := .value (.func f), args := as, argTypes := ts } ∧ args = as.toList.map (trO gl) := by
  unfold trOp at h
  split at h
  · cases h
  · split at h
    · cases h
    · exact trOp0_call h

theorem trOp_bslice {dst : Option Nat} {op : Op} {T k n : Nat} {zs : List PV} {r : List (Nat × Nat × Opd)} (h : trOp P gl dst op = .bslice T k n zs r) : ∃ (ty : TypeId) (ps : Array (Nat × Operand)) (i : TypeInfo) (z : Value), op = .buildSlice ty n ps ∧
    P.underlying ty = some (.slice T) ∧ P.info? T = some i ∧ i.zero = some z ∧ trParts gl (fun j => some (j * i.size, i.size)) ps.toList = some r ∧ pvs z.cells.toList = some zs ∧ k = i.size := by
  unfold trOp at h
  split at h
  · cases h
  · split at h
    · cases h
    · exact trOp0_bslice h

theorem trOp0_prim {op op' : Op} {args : List Opd} (h : trOp0 P gl op = .prim op' args) : False := by
  cases op with
  | call c =>
    obtain ⟨callee, as, ts⟩ := c
    simp only [trOp0] at h
    cases callee with
    | value x => cases x <;> (simp only [trCall] at h; cases h)
    | invoke r m => cases h
    | builtin b =>
      cases b with
      | len => 
        simp only [trCall, trLen] at h
        repeat' (split at h)
        all_goals cases h
      | append => 
        simp only [trCall, trApp] at h
        repeat' (split at h)
        all_goals cases h
      | max => 
        simp only [trCall, trMm] at h
        split at h <;> cases h
      | min => 
        simp only [trCall, trMm] at h
        split at h <;> cases h
      | _ => cases h
  | makeFunc fn first caps => simp only [trOp0, trMk] at h; split at h <;> cases h
  | binOp op T x y T' =>
    simp only [trOp0, trBin] at h
    repeat' (split at h)
    all_goals cases h
  | slice T x lo hi mx => 
    simp only [trOp0, trSlice] at h
    repeat' (split at h)
    all_goals cases h
  | _ =>
    simp only [trOp0] at h
    repeat' (split at h)
    all_goals cases h

theorem trOp_prim {dst : Option Nat} {op op' : Op} {args : List Opd} (h : trOp P gl dst op = .prim op' args) : op' = op ∧ args = op.operands.toList.map (trO gl) := by
  unfold trOp at h
  split at h
  · cases h; exact ⟨rfl, rfl⟩
  · split at h
    · cases h; exact ⟨rfl, rfl⟩
    · exact (trOp0_prim h).elim

theorem callq_sound {o : Oper} {K : AV → St → Prop} {X : Act → World → Prop} {f : FuncId} {as : Array Operand} {ts : Array TypeId} (ho : o.op = .call { callee := .value (.func f), args := as, argTypes := ts }) (hr : Rel D G σ a w)
    (hgl : D.gl = gl) (h : callqA P gl f ((as.toList.map (trO gl)).map (ev σ)) σ K) (hn : Nxt D o a K X) : o.wp P a w X Q := by
  obtain ⟨rs, h1, S, r, h2, h3, h4⟩ := h
  have hrs : All2 (RepR G.F) rs (as.toList.map a.eval) := by
    have := evs_rel hr hgl as.toList
    revert h1
    generalize (as.toList.map (trO gl)).map (ev σ) = avs at this
    generalize as.toList.map a.eval = vs at this
    clear ho h3
    intro h1
    induction this generalizing rs with
    | nil => simp only [rvs, Option.some.injEq] at h1; subst h1; exact .nil
    | @cons av v l m hv _ ih =>
      cases av with
      | p x =>
        simp only [rvs] at h1
        cases hl : rvs l with
        | none => simp [hl] at h1
        | some q => simp only [hl, Option.map_some, Option.some.injEq] at h1; subst h1; exact .cons (nilSl_rep hv) (ih q hl)
      | agg cs =>
        simp only [rvs] at h1
        cases hl : rvs l with
        | none => simp [hl] at h1
        | some q => simp only [hl, Option.map_some, Option.some.injEq] at h1; subst h1; exact .cons hv (ih q hl)
      | tup _ => cases h1
      | ref _ _ => cases h1
      | row _ _ => cases h1
      | xsl es =>
        simp only [rvs] at h1
        cases hl : rvs l with
        | none => simp [hl] at h1
        | some q => simp only [hl, Option.map_some, Option.some.injEq] at h1; subst h1; exact .cons hv.1 (ih q hl)
      | junk => cases h1
  have hgl' : GlOK gl G.F := fun g cs hg => (hr.gl g cs (by rw [hgl]; exact hg)).mono hr.le
  have hc := h2.calls rs σ.ph _ h3 G.F w _ hgl' hr.fc hr.ph hr.phF hr.phl hrs
  have hex : (execOp a.eval o).run P w = (callFunc f (as.toList.map a.eval).toArray).run P w := by
    have e : (as.toList.map a.eval).toArray = as.map a.eval := by rw [← Array.toList_map]
    simp [execOp, ho, resolve, Act.eval, Deferred.ofValue, invoke, e]
  have fin : ∀ (v : Value) (w' : World) (r' : Out) (φ' : Res) (F' : Facts), (r' = r ∧ φ' = σ.ph) → RepO F' r' v → Facts.le G.F F' → FactsOK F' w' → (∀ b o, b < w.heap.size → ¬ σ.ph.fp b → F' b o = G.F b o) → Kept σ.ph.fp w w' →
      φ'.ok F' w' → (∀ b o, φ'.fp b → F' b o = none) → (∀ b, φ'.fp b → σ.ph.fp b ∨ w.heap.size ≤ b) → (∀ b, φ'.fp b → b < w'.heap.size) → X (a.put o.dst v) w' := by
    rintro v w' r' φ' F' ⟨rfl, rfl⟩ g2 g3 g4 g5 g6 g7 g8 g9 g10
    have hrel := hr.step g3 g5 g4 g6 g7 g8 g9 g10
    exact hn _ _ r'.av _ _ hrel (out_A (G := ⟨F', G.β, G.J⟩) g2) h4
  unfold Oper.wp
  rw [hex]
  rcases hc with ⟨hen, hc⟩ | ⟨v, w', hrun, v', r', φ', F', he, g1, g2, g3, g4, g5, g6, g7, g8, g9, g10⟩
  · rw [run_callFunc hen]
    simp only [Oper.upon]
    refine hc.mono ?_
    rintro e w' ⟨v, r', φ', F', rfl, g1, g2, g3, g4, g5, g6, g7, g8, g9, g10⟩
    exact fin v w' r' φ' F' g1 g2 g3 g4 g5 g6 g7 g8 g9 g10
  · rw [hrun]
    simp only [Oper.upon]
    cases he
    exact fin v w' r' φ' F' g1 g2 g3 g4 g5 g6 g7 g8 g9 g10

theorem frz1_id {x : Opd} {cs : List PV} (h : cellsOf (ev σ x) = some cs) : frz1 x σ = σ := by
  unfold frz1 frzV
  split
  · rename_i e; rw [e] at h; cases h
  · rfl

theorem frzL_id : ∀ (ps : List (Nat × Nat × Opd)) (zs cs : List PV), fillA zs (evs σ ps) = some cs → frzL ps σ = σ
  | [], _, _, _ => rfl
  | (o, k, x) :: l, zs, cs, h => by
    simp only [evs, fillA] at h
    cases hc : cellsOf (ev σ x) with
    | none => rw [hc] at h; cases h
    | some xs =>
      rw [hc] at h
      simp only at h
      cases hb : (Nat.beq xs.length k && Nat.ble (o + k) zs.length) with
      | false => rw [hb] at h; cases h
      | true =>
        rw [hb] at h
        simp only [frzL, frz1_id hc]
        exact frzL_id l _ _ h

theorem buildq_build {d : Nat} {zs : List PV} {r : List (Nat × Nat × Opd)} {K : AV → St → Prop} (h : aop P gl d (.buildq zs r) σ K) : aop P gl d (.build zs r) σ K := by
  have h : buildA zs (evs σ r) σ K := h
  show buildA zs (evs (frzL r σ) r) (frzL r σ) K
  cases hf : fillA zs (evs σ r) with
  | none => unfold buildA at h; rw [hf] at h; exact h.elim
  | some cs => rw [frzL_id r zs cs hf]; exact h

theorem slcq_slc {d k : Nat} {x : Opd} {lo hi : Option Opd} {K : AV → St → Prop} (h : aop P gl d (.slcq k x lo hi) σ K) : aop P gl d (.slc k x lo hi) σ K := by
  have h : slcA k (ev σ x) (lo.map (ev σ)) (hi.map (ev σ)) σ K := h
  show slcA k (ev (frz1 x σ) x) (lo.map (ev (frz1 x σ))) (hi.map (ev (frz1 x σ))) (frz1 x σ) K
  obtain ⟨es, n, l, u, e, _⟩ := slcA_inv h
  have : frz1 x σ = σ := frz1_id (cs := [.sl es n]) (by rw [e]; rfl)
  rw [this]; exact h

/-- an operation, or its quiet twin -/
theorem loose_op_sound {o : Oper} {b : Bool} {ao q : AOper} {K : AV → St → Prop} {X : Act → World → Prop} (e3 : ao.op = trOp P gl o.dst o.op) (hl : looseOf b ao = some q) (e1 : ao.dst = o.dst) (hr : Rel D G σ a w) (hgl : D.gl = gl)
    (h : aop P gl (dstN q.dst) q.op σ K) (hn : Nxt D o a K X) : o.wp P a w X Q := by
  unfold looseOf at hl
  split at hl
  · split at hl
    · cases hl
      rw [e1, e3] at h
      exact aop_sound hr hgl h hn
    · cases hl
  · split at hl
    · cases hl
    · split at hl
      · rename_i q' hq
        cases hl
        have h : aop P gl (dstN ao.dst) q' σ K := h
        rw [e1] at h
        unfold quietOf at hq
        split at hq
        · rename_i f args hop
          cases hq
          rw [hop] at e3
          obtain ⟨as, ts, ho, rfl⟩ := trOp_call e3.symm
          exact callq_sound ho hr hgl h hn
        · rename_i x hop
          cases hq
          rw [hop] at e3
          refine aop_sound hr hgl (K := K) ?_ hn
          rw [← e3]
          exact lenqA_len h
        · rename_i op' args hop
          split at hq
          · cases hq
            rw [hop] at e3
            obtain ⟨rfl, rfl⟩ := trOp_prim e3.symm
            exact sound_primq hr hgl h hn
          · cases hq
        · rename_i zs r hop
          cases hq
          refine aop_sound hr hgl (K := K) ?_ hn
          rw [← e3, hop]
          exact buildq_build h
        · rename_i k x lo hi hop
          cases hq
          refine aop_sound hr hgl (K := K) ?_ hn
          rw [← e3, hop]
          exact slcq_slc h
        · rename_i T k n zs r hop
          split at hq
          · cases hq
            rw [hop] at e3
            obtain ⟨ty, ps, i, z, ho, hu, hi, hz, ht, hzs, rfl⟩ := trOp_bslice e3.symm
            exact sound_bslq ho hu hi hz ht hzs hr hgl h hn
          · cases hq
        · split at hq
          · cases hq
            rw [e3] at h
            exact aop_sound hr hgl h hn
          · cases hq
      · cases hl

theorem loose_spec {b : Bool} {ao q : AOper} (hl : looseOf b ao = some q) : q.dst = ao.dst ∧ q.guard = ao.guard ∧ (isAlloc q.op = true ∨ quietQ q.op = true) ∧ (isAlloc q.op = true → q.guard = none ∧ q.dst.isSome = true) ∧ constLoad q.op = false := by
  unfold looseOf at hl
  split at hl
  · rename_i ha
    split at hl
    · rename_i hg
      cases hl
      simp only [Bool.and_eq_true, Option.isNone_iff_eq_none] at hg
      refine ⟨rfl, rfl, .inl ha, fun _ => ⟨hg.1, hg.2⟩, ?_⟩
      cases hop : ao.op <;> first | rfl | (rw [hop] at ha; cases ha)
    · cases hl
  · rename_i ha
    split at hl
    · cases hl
    · rename_i hcl
      split at hl
      · rename_i q' hq
        cases hl
        have hqq : quietQ q' = true ∧ isAlloc q' = false ∧ constLoad q' = false := by
          unfold quietOf at hq
          split at hq
          · cases hq; exact ⟨rfl, rfl, rfl⟩
          · cases hq; exact ⟨rfl, rfl, rfl⟩
          · split at hq
            · cases hq; exact ⟨rfl, rfl, rfl⟩
            · cases hq
          · cases hq; exact ⟨rfl, rfl, rfl⟩
          · cases hq; exact ⟨rfl, rfl, rfl⟩
          · split at hq
            · cases hq; exact ⟨rfl, rfl, rfl⟩
            · cases hq
          · split at hq
            · cases hq
              exact ⟨‹_›, by simpa using ha, by simpa using hcl⟩
            · cases hq
        refine ⟨rfl, rfl, .inr hqq.1, fun h => ?_, hqq.2.2⟩
        have h : isAlloc q' = true := h
        rw [hqq.2.1] at h; cases h
      · cases hl

/-! ### the chain in the order of the text -/
theorem chain {tl : List AOper} {N : St → Prop} : ∀ (q : List AOper) (σ : St), (∀ o ∈ q, (isAlloc o.op = true ∨ quietQ o.op = true) ∧ (isAlloc o.op = true → o.guard = none ∧ o.dst.isSome = true)) → aops P gl (q ++ tl) N σ →
    ∃ (vs : Nat → AV) (ss : Nat → St), ss 0 = σ ∧ (∀ i o, q[i]? = some o → Does P gl o (ss i) (vs i) ∧ Aft o (ss i) (vs i) (ss (i + 1))) ∧ aops P gl tl N (ss q.length)
  | [], σ, _, h => ⟨fun _ => .junk, fun _ => σ, rfl, fun i o h => by simp at h, h⟩
  | o :: q, σ, hk, h => by
    obtain ⟨av, σ', h1, h2, h3⟩ := does_of (hk o List.mem_cons_self).1 (hk o List.mem_cons_self).2 h
    obtain ⟨vs, ss, g1, g2, g3⟩ := chain q σ' (fun x hx => hk x (List.mem_cons_of_mem _ hx)) h3
    refine ⟨fun n => match n with | 0 => av | n + 1 => vs n, fun n => match n with | 0 => σ | n + 1 => ss n, rfl, fun i x hx => ?_, g3⟩
    cases i with
    | zero =>
      simp at hx; subst hx
      exact ⟨h1, by show Aft o σ av (ss 0); rw [g1]; exact h2⟩
    | succ i => exact g2 i x (by simpa using hx)

/-- which of them are done, and what the state is then -/
structure Inv (q : List AOper) (vs : Nat → AV) (σ0 : St) (L : Nat → Bool) (σ : St) : Prop where
  A : ∀ (t : Nat), (∀ (i : Nat) (o : AOper), q[i]? = some o → o.dst = some t → L i = false) → getT t σ.fr = getT t σ0.fr
  B : ∀ (i : Nat) (o : AOper) (d : Nat), q[i]? = some o → L i = true → o.dst = some d → getT d σ.fr = some (vs i)
  C : ∀ (s : Nat), (∀ (i : Nat) (o : AOper) (zs : List PV), q[i]? = some o → o.op = .alloc zs → o.dst = some s → L i = false) → getB s σ.bx = getB s σ0.bx
  C' : ∀ (i : Nat) (o : AOper) (zs : List PV) (s : Nat), q[i]? = some o → o.op = .alloc zs → o.dst = some s → L i = true → getB s σ.bx = some zs
  rw : σ.rw = σ0.rw
  ph : σ.ph = σ0.ph

def DistinctD (q : List AOper) : Prop := ∀ (i j : Nat) (x y : AOper) (t : Nat), q[i]? = some x → q[j]? = some y → x.dst = some t → y.dst = some t → i = j

theorem Inv.step {q : List AOper} {vs : Nat → AV} {σ0 : St} {L L' : Nat → Bool} {σ σ' : St} (h : Inv q vs σ0 L σ) (hd : DistinctD q) {j : Nat} {o : AOper} (hj : q[j]? = some o) (hL : L j = false)
    (hL' : ∀ i, L' i = (L i || decide (i = j))) (ha : Aft o σ (vs j) σ') : Inv q vs σ0 L' σ' where
  A := fun t ht => by
    rw [ha.fr]
    split
    · rename_i e
      have := ht j o hj e
      rw [hL'] at this; simp at this
    · exact h.A t fun i x hx hxt => by have := ht i x hx hxt; rw [hL'] at this; simp at this; exact this.1
  B := fun i x d hx hLi hxd => by
    rw [ha.fr]
    split
    · rename_i e
      have := hd i j x o d hx hj hxd e
      rw [this]
    · rename_i e
      rw [hL'] at hLi
      have hij : i ≠ j := fun e' => by subst e'; rw [hx] at hj; cases hj; exact e hxd
      simp [hij] at hLi
      exact h.B i x d hx hLi hxd
  C := fun s hs => by
    rw [ha.bx]
    have hold : getB s σ.bx = getB s σ0.bx := h.C s fun i x zs hx hz hxs => by have := hs i x zs hx hz hxs; rw [hL'] at this; simp at this; exact this.1
    split
    · rename_i e
      split
      · rename_i zs hz
        have := hs j o zs hj hz e
        rw [hL'] at this; simp at this
      · exact hold
    · exact hold
  C' := fun i x zs s hx hz hxs hLi => by
    rw [ha.bx]
    by_cases hij : i = j
    · subst hij
      rw [hx] at hj; cases hj
      rw [if_pos hxs, hz]
    · have hne : ¬ (o.dst = some s) := fun e => hij (hd i j x o s hx hj hxs e)
      rw [if_neg hne]
      rw [hL'] at hLi
      simp [hij] at hLi
      exact h.C' i x zs s hx hz hxs hLi
  rw := ha.rw.trans h.rw
  ph := ha.ph.trans h.ph

theorem Inv.text {q : List AOper} {vs : Nat → AV} {ss : Nat → St} (hd : DistinctD q) (hs : ∀ (i : Nat) (o : AOper), q[i]? = some o → Does P gl o (ss i) (vs i) ∧ Aft o (ss i) (vs i) (ss (i + 1))) : ∀ j, j ≤ q.length → Inv q vs (ss 0) (fun i => decide (i < j)) (ss j)
  | 0, _ => ⟨fun _ _ => rfl, fun i o d _ h => by simp at h, fun _ _ => rfl, fun i o zs s _ _ _ h => by simp at h, rfl, rfl⟩
  | j + 1, hj => by
    have hq : q[j]? = some q[j] := by simp [show j < q.length by omega]
    exact (Inv.text hd hs j (by omega)).step hd hq (by simp) (fun i => by by_cases h : i < j <;> by_cases h2 : i = j <;> simp [h, h2] <;> omega) (hs j _ hq).2

/-- two states of which the same is known -/
theorem Rel.same {σ' : St} (h : Rel D G σ a w) (h1 : ∀ t, getT t σ'.fr = getT t σ.fr) (h2 : ∀ s, getB s σ'.bx = getB s σ.bx) (h3 : σ'.rw = σ.rw) (h4 : σ'.ph = σ.ph) : Rel D G σ' a w := by
  obtain ⟨fr, bx, rw, ph⟩ := σ'
  have h3 : rw = σ.rw := h3
  have h4 : ph = σ.ph := h4
  subst h3 h4
  exact { h with
    fr := fun s av hs => h.fr s av (by rw [← h1]; exact hs)
    bx := fun s cs hs => h.bx s cs (by rw [← h2]; exact hs)
    bk := fun s b e => by
      obtain ⟨⟨cs, hc⟩, rest⟩ := h.bk s b e
      exact ⟨⟨cs, by rw [← hc]; exact h2 s⟩, rest⟩ }

theorem Inv.all {q : List AOper} {vs : Nat → AV} {σ0 σ σ' : St} {L L' : Nat → Bool} (h : Inv q vs σ0 L σ) (h' : Inv q vs σ0 L' σ') (hL : ∀ i, i < q.length → L i = true) (hL' : ∀ i, i < q.length → L' i = true) :
    (∀ t, getT t σ'.fr = getT t σ.fr) ∧ (∀ s, getB s σ'.bx = getB s σ.bx) ∧ σ'.rw = σ.rw ∧ σ'.ph = σ.ph := by
  have lt : ∀ i (o : AOper), q[i]? = some o → i < q.length := fun i o h => (List.getElem?_eq_some_iff.1 h).1
  refine ⟨fun t => ?_, fun s => ?_, h'.rw.trans h.rw.symm, h'.ph.trans h.ph.symm⟩
  · by_cases e : ∃ (i : Nat) (o : AOper), q[i]? = some o ∧ o.dst = some t
    · obtain ⟨i, o, hi, ht⟩ := e
      rw [h'.B i o t hi (hL' i (lt i o hi)) ht, h.B i o t hi (hL i (lt i o hi)) ht]
    · rw [h'.A t (fun i o hi ht => absurd ⟨i, o, hi, ht⟩ e), h.A t (fun i o hi ht => absurd ⟨i, o, hi, ht⟩ e)]
  · by_cases e : ∃ (i : Nat) (o : AOper) (zs : List PV), q[i]? = some o ∧ o.op = .alloc zs ∧ o.dst = some s
    · obtain ⟨i, o, zs, hi, hz, ht⟩ := e
      rw [h'.C' i o zs s hi hz ht (hL' i (lt i o hi)), h.C' i o zs s hi hz ht (hL i (lt i o hi))]
    · rw [h'.C s (fun i o zs hi hz ht => absurd ⟨i, o, zs, hi, hz, ht⟩ e), h.C s (fun i o zs hi hz ht => absurd ⟨i, o, zs, hi, hz, ht⟩ e)]

/-! ### from the order of the text to any order -/
/-- The same operation, in another state in which all that it waits for is done. -/
theorem does_at {q : List AOper} {vs : Nat → AV} {ss : Nat → St} {L : Nat → Bool} {j : Nat} {o : AOper} (hd : DistinctD q) (hj : q[j]? = some o) (hDj : Does P gl o (ss j) (vs j)) (hT : Inv q vs (ss 0) (fun i => decide (i < j)) (ss j))
    (hI : Inv q vs (ss 0) L σ) (hr : Rel D G σ a w) (hLj : L j = false) (hcl : constLoad o.op = false)
    (hdep : ∀ (i : Nat) (x : AOper) (t : Nat), q[i]? = some x → x.dst = some t → t ∈ slotsOf o → i ≠ j → (i < j ∧ L i = true) ∨ (j < i ∧ L i = false))
    (hnoal : ∀ (i : Nat) (x : AOper) (zs : List PV) (t : Nat), q[i]? = some x → x.op = .alloc zs → x.dst = some t → getB t (ss 0).bx = none) : Does P gl o σ (vs j) := by
  -- what it looks at is the same
  have hslot : ∀ t ∈ slotsOf o, getT t σ.fr = getT t (ss j).fr := fun t ht => by
    by_cases e : ∃ (i : Nat) (x : AOper), q[i]? = some x ∧ x.dst = some t ∧ i ≠ j
    · obtain ⟨i, x, hx, hxt, hij⟩ := e
      rcases hdep i x t hx hxt ht hij with ⟨h1, h2⟩ | ⟨h1, h2⟩
      · rw [hI.B i x t hx h2 hxt, hT.B i x t hx (by simpa using h1) hxt]
      · rw [hI.A t (fun i' x' hx' hxt' => by have := hd i' i x' x t hx' hx hxt' hxt; rw [this]; exact h2), hT.A t (fun i' x' hx' hxt' => by have := hd i' i x' x t hx' hx hxt' hxt; rw [this]; simp; omega)]
    · have hno : ∀ (i : Nat) (x : AOper), q[i]? = some x → x.dst = some t → i = j := fun i x hx hxt => by
        by_cases h : i = j
        · exact h
        · exact absurd ⟨i, x, hx, hxt, h⟩ e
      rw [hI.A t (fun i x hx hxt => by rw [hno i x hx hxt]; exact hLj), hT.A t (fun i x hx hxt => by rw [hno i x hx hxt]; simp)]
  have hslot' : ∀ t ∈ slotsOp o.op, getT t σ.fr = getT t (ss j).fr := fun t ht => hslot t (List.mem_append_left _ ht)
  have hY : DoesY P gl o (ss j) (vs j) → DoesY P gl o σ (vs j) := fun h => by
    rcases h with ⟨zs, d, h1, h2, h3, h4⟩ | ⟨hq, h⟩
    · refine .inl ⟨zs, d, h1, h2, ?_, h4⟩
      rw [hI.C d (fun i x zs' hx hz hxd => by have := hd i j x o d hx hj hxd h2; rw [this]; exact hLj)]
      exact hnoal j o zs d hj h1 h2
    · refine .inr ⟨hq, fun σ' K' g1 g2 g3 g4 => ?_⟩
      have hev : ∀ agg k x, o.op = .load agg k x → ev σ x = ev (ss j) x := fun agg k x e => ev_congr (fun t ht => hslot' t (by rw [e]; exact ht))
      refine h σ' K' (fun t ht => (g1 t ht).trans (hslot' t ht)) (fun agg k x s n e1 e2 => ?_) (g3.trans (hI.ph.trans hT.ph.symm)) g4
      have hσ := g2 agg k x s n e1 (by rw [hev agg k x e1]; exact e2)
      rw [hσ]
      -- the box is there in both, or in neither
      by_cases e : ∃ (i : Nat) (y : AOper) (zs : List PV), q[i]? = some y ∧ y.op = .alloc zs ∧ y.dst = some s
      · obtain ⟨i, y, zs, hy, hz, hys⟩ := e
        have hnone := hnoal i y zs s hy hz hys
        -- the slot that holds the reference is known in σ
        obtain ⟨t, rfl⟩ : ∃ t, x = .t t := by
          cases x with
          | t t => exact ⟨t, rfl⟩
          | k q => rw [e1] at hcl; cases hcl
        have hst : getT t (ss j).fr = some (.ref s n) := by
          simp only [ev] at e2
          cases hg : getT t (ss j).fr with
          | none => simp [hg] at e2
          | some q => simp only [hg] at e2; rw [e2]
        have hsσ : getT t σ.fr = some (.ref s n) := by rw [hslot' t (by rw [e1]; simp [slotsOp, opdS])]; exact hst
        by_cases hLi : L i = true
        · rw [hI.C' i y zs s hy hz hys hLi]
          by_cases hij : i < j
          · rw [hT.C' i y zs s hy hz hys (by simpa using hij)]
          · -- the law itself, in the text's own state
            have hTC : getB s (ss j).bx = none := by
              rw [hT.C s (fun i' y' zs' hy' hz' hys' => by have := hd i' i y' y s hy' hy hys' hys; rw [this]; simp; omega)]; exact hnone
            have := h (ss j) (fun _ _ => True) (fun _ _ => rfl) (fun _ _ _ _ _ _ _ => rfl) rfl trivial
            rw [e1] at this
            simp only [aop, e2, loadA, hTC] at this
        · have hLi : L i = false := by simpa using hLi
          obtain ⟨v, hv, b, hb, _⟩ := hr.fr t _ hsσ
          obtain ⟨⟨cs, hc⟩, _⟩ := hr.bk s b hb
          rw [hI.C s (fun i' y' zs' hy' hz' hys' => by have := hd i' i y' y s hy' hy hys' hys; rw [this]; exact hLi), hnone] at hc
          cases hc
      · rw [hI.C s (fun i y zs hy hz hys => absurd ⟨i, y, zs, hy, hz, hys⟩ e), hT.C s (fun i y zs hy hz hys => absurd ⟨i, y, zs, hy, hz, hys⟩ e)]
  unfold Does at hDj ⊢
  cases hg : o.guard with
  | none => rw [hg] at hDj; exact hY hDj
  | some sw =>
    obtain ⟨s, want⟩ := sw
    rw [hg] at hDj
    have hs : s ∈ slotsOf o := by simp [slotsOf, hg]
    have := hslot s hs
    rcases hDj with ⟨h1, h2⟩ | ⟨h1, h2⟩
    · exact .inl ⟨by rw [this]; exact h1, hY h2⟩
    · refine .inr ⟨?_, h2⟩
      rcases h1 with ⟨l, h1⟩ | h1
      · exact .inl ⟨l, by rw [this]; exact h1⟩
      · exact .inr (by rw [this]; exact h1)

theorem aft_put {o : AOper} {av : AV} {σ1 : St} (hq : isAlloc o.op = false) (h1 : ∀ t, getT t σ1.fr = getT t σ.fr) (h2 : σ1.bx = σ.bx) (h3 : σ1.rw = σ.rw) (h4 : σ1.ph = σ.ph) : putK o.dst (fun σ' => Aft o σ av σ') av σ1 := by
  have hbx : ∀ (σ' : St), σ'.bx = σ.bx → ∀ s, getB s σ'.bx = if o.dst = some s then (match o.op with | .alloc zs => some zs | _ => getB s σ.bx) else getB s σ.bx := fun σ' e s => by
    rw [e]
    split
    · split
      · rename_i zs ho; rw [ho] at hq; cases hq
      · rfl
    · rfl
  cases hd : o.dst with
  | none => exact ⟨fun t => by rw [hd, h1]; rfl, hbx σ1 h2, h3, h4⟩
  | some d =>
    refine ⟨fun t => ?_, hbx _ h2, h3, h4⟩
    rw [hd]
    by_cases e : d = t
    · subst e; simp [St.put, getT_cons_self]
    · rw [if_neg (by simpa using e)]; exact (getT_cons_ne (Ne.symm e) _ _).trans (h1 t)

/-- What it does, as something to be shown. -/
theorem aoper_of_does {o : AOper} {av : AV} (hk : isAlloc o.op = true → o.guard = none) (h : Does P gl o σ av) : aoper P gl o (fun σ' => Aft o σ av σ') σ := by
  have hY : ∀ σ1 : St, (∀ t, getT t σ1.fr = getT t σ.fr) → σ1.bx = σ.bx → σ1.rw = σ.rw → σ1.ph = σ.ph → (isAlloc o.op = true → σ1 = σ) → DoesY P gl o σ av → aoperY P gl o (fun σ' => Aft o σ av σ') σ1 := fun σ1 g1 g2 g3 g4 g5 h => by
    unfold aoperY
    rcases h with ⟨zs, d, h1, h2, h3, h4⟩ | ⟨hq, h⟩
    · have := g5 (by rw [h1]; rfl)
      subst this
      rw [h1, h2]
      refine ⟨h3, ?_⟩
      subst h4
      refine ⟨fun t => ?_, fun s => ?_, rfl, rfl⟩
      · rw [h2]
        by_cases e : d = t
        · subst e; simp [St.put, getT_cons_self, dstN]
        · rw [if_neg (by simpa using e)]; exact getT_cons_ne (Ne.symm e) _ _
      · rw [h2]
        by_cases e : d = s
        · subst e; simp [St.put, getB_cons_self, h1, dstN]
        · rw [if_neg (by simpa using e)]; exact getB_cons_ne (Ne.symm e) _ _
    · have hna : isAlloc o.op = false := by cases hop : o.op <;> first | rfl | (rw [hop] at hq; cases hq)
      exact h σ1 _ (fun t _ => g1 t) (fun _ _ _ s _ _ _ => by rw [g2]) g4 (aft_put hna g1 g2 g3 g4)
  unfold Does at h
  unfold aoper
  cases hg : o.guard with
  | none => rw [hg] at h; exact hY σ (fun _ => rfl) rfl rfl rfl (fun _ => rfl) h
  | some sw =>
    obtain ⟨s, want⟩ := sw
    rw [hg] at h
    have hna : isAlloc o.op = false := by
      cases e : isAlloc o.op with
      | false => rfl
      | true => have := hk e; rw [hg] at this; cases this
    have hsame : ∀ b, getT s σ.fr = some (.p (.val (.bool b))) → ∀ t, getT t (σ.put s (.p (.val (.bool b)))).fr = getT t σ.fr := fun b hb t => by
      by_cases e : t = s
      · subst e; rw [St.put, getT_cons_self, hb]
      · exact getT_cons_ne e _ _
    simp only [aguard]
    rcases h with ⟨h1, h2⟩ | ⟨⟨l, h1⟩ | h1, h2⟩
    · rw [h1]
      exact ⟨fun _ => hY _ (hsame want h1) rfl rfl rfl (fun e => by rw [hna] at e; cases e) h2, fun e => absurd e (by cases want <;> decide)⟩
    · rw [h1]
      subst h2
      exact aft_put hna (fun _ => rfl) rfl rfl rfl
    · rw [h1]
      subst h2
      exact ⟨fun e => absurd e (by cases want <;> decide), fun _ => aft_put hna (hsame _ h1) rfl rfl rfl⟩

end Go.Am

/-
  AM: regions that draw their order, four.
-/
namespace Go.Am
open Go

variable {P : Program} {gl : Nat → Option (List PV)} {D : Base} {G : Gh} {σ : St} {a : Act} {w : World}
variable {Q : Exit → Act → World → Prop}

theorem trOpers_len {n : Nat} {ops : Array Oper} : ∀ {l : List Oper} {al : List AOper}, trOpers P gl n ops l = some al → al.length = l.length
  | [], al, h => by simp only [trOpers, Option.some.injEq] at h; subst h; rfl
  | o :: l, al, h => by
    simp only [trOpers] at h
    split at h
    · rename_i x r hx hr'
      cases h
      simp [trOpers_len hr']
    · cases h

theorem trOpers_get {n : Nat} {ops : Array Oper} : ∀ {l : List Oper} {al : List AOper}, trOpers P gl n ops l = some al → ∀ (i : Nat) (o : Oper), l[i]? = some o → ∃ ao, al[i]? = some ao ∧ trOper P gl n ops o = some ao
  | [], _, _, i, o, h => by simp at h
  | o0 :: l, al, h, i, o, hi => by
    simp only [trOpers] at h
    split at h
    · rename_i x r hx hr'
      cases h
      cases i with
      | zero => simp at hi; subst hi; exact ⟨x, rfl, hx⟩
      | succ i => exact trOpers_get hr' i o (by simpa using hi)
    · cases h

theorem looseAll_get {b : Bool} : ∀ {l q : List AOper}, looseAll b l = some q → q.length = l.length ∧ ∀ (i : Nat) (x : AOper), l[i]? = some x → ∃ y, q[i]? = some y ∧ looseOf b x = some y
  | [], q, h => by simp only [looseAll, Option.some.injEq] at h; subst h; exact ⟨rfl, fun i x h => by simp at h⟩
  | o :: l, q, h => by
    simp only [looseAll] at h
    split at h
    · rename_i x r hx hr'
      cases h
      obtain ⟨h1, h2⟩ := looseAll_get hr'
      refine ⟨by simp [h1], fun i y hi => ?_⟩
      cases i with
      | zero => simp at hi; subst hi; exact ⟨x, rfl, hx⟩
      | succ i => exact h2 i y (by simpa using hi)
    · cases h

theorem looseN_le {b : Bool} : ∀ (l : List AOper), looseN b l ≤ l.length
  | [] => Nat.le_refl _
  | o :: l => by
    unfold looseN
    split
    · simpa using looseN_le l
    · simp

structure DrawOK (P : Program) (gl : Nat → Option (List PV)) (n : Nat) (ops : Array Oper) (q tl : List AOper) : Prop where
  back : backward ops.toList = true
  pair : looseOK ops q = true
  forced : forcedOK ops q.length = true
  le : q.length ≤ ops.size
  tlen : tl.length + q.length = ops.size
  pre : ∀ (i : Nat) (o : Oper), ops[i]? = some o → i < q.length → ∃ b ao y, trOper P gl n ops o = some ao ∧ looseOf b ao = some y ∧ q[i]? = some y
  sel : Region.noSelect ops = true
  post : ∀ (i : Nat) (o : Oper), ops[i]? = some o → q.length ≤ i → ∃ ao, trOper P gl n ops o = some ao ∧ tl[i - q.length]? = some ao

theorem trDrawB_spec {b : Bool} {n : Nat} {ops : Array Oper} {al : List AOper} (h : trDrawB b P gl n ops = some al) : ∃ q tl, al = q ++ tl ∧ DrawOK P gl n ops q tl := by
  unfold trDrawB at h
  split at h
  · rename_i l hl
    split at h
    · rename_i q hq
      split at h
      · rename_i hc
        cases h
        simp only [Bool.and_eq_true] at hc
        obtain ⟨⟨⟨⟨hb, hp⟩, hf⟩, _⟩, hsel⟩ := hc
        obtain ⟨hlen, hget⟩ := looseAll_get hq
        have hll := trOpers_len hl
        have hm := looseN_le (b := b) l
        have hql : q.length = looseN b l := by rw [hlen, List.length_take]; omega
        refine ⟨q, _, rfl, hb, hp, by rw [hql]; exact hf, ?_, ?_, ?_, hsel, ?_⟩
        · rw [hql, ← Array.length_toList, ← hll]; exact hm
        · rw [List.length_drop, hql, hll, ← Array.length_toList]; omega
        · intro i o ho hi
          obtain ⟨ao, h1, h2⟩ := trOpers_get hl i o (by simpa using ho)
          obtain ⟨y, h3, h4⟩ := hget i ao (by rw [List.getElem?_take]; rw [if_pos (by omega)]; exact h1)
          exact ⟨b, ao, y, h2, h4, h3⟩
        · intro i o ho hi
          obtain ⟨ao, h1, h2⟩ := trOpers_get hl i o (by simpa using ho)
          refine ⟨ao, h2, ?_⟩
          rw [List.getElem?_drop, ← hql, show q.length + (i - q.length) = i by omega]
          exact h1
      · cases h
    · cases h
  · cases h

theorem trDraw_spec {n : Nat} {ops : Array Oper} {al : List AOper} (h : trDraw P gl n ops = some al) : ∃ q tl, al = q ++ tl ∧ DrawOK P gl n ops q tl := by
  unfold trDraw at h
  split at h
  · rename_i l hl
    cases h
    exact trDrawB_spec hl
  · exact trDrawB_spec h

theorem pair_spec {ops : Array Oper} {q : List AOper} (h : looseOK ops q = true) {i j : Nat} {x y : AOper} {t : Nat} (hi : q[i]? = some x) (hj : q[j]? = some y) (ht : x.dst = some t) :
    i = j ∨ (y.dst ≠ some t ∧ (t ∈ slotsOf y → (i < j ∧ i ∈ anc ops j) ∨ (j < i ∧ j ∈ anc ops i))) := by
  unfold looseOK at h
  rw [List.all_eq_true] at h
  have h1 := h i (by rw [List.mem_range]; exact (List.getElem?_eq_some_iff.1 hi).1)
  rw [List.all_eq_true] at h1
  have h2 := h1 j (by rw [List.mem_range]; exact (List.getElem?_eq_some_iff.1 hj).1)
  unfold pairOK at h2
  rw [hi, hj] at h2
  simp only [ht, Bool.or_eq_true, beq_iff_eq, Bool.and_eq_true, bne_iff_ne, ne_eq, Bool.not_eq_true', List.contains_eq_mem, decide_eq_true_eq, decide_eq_false_iff_not] at h2
  rcases h2 with h2 | ⟨⟨h2, h3⟩, _⟩
  · exact .inl h2
  · refine .inr ⟨h2, fun hm => ?_⟩
    rcases h3 with (h3 | h3) | h3
    · exact absurd hm h3
    · exact .inl h3
    · exact .inr h3

theorem distinct_of {ops : Array Oper} {q : List AOper} (h : looseOK ops q = true) : DistinctD q := fun i j x y t hi hj hx hy => by
  rcases pair_spec h hi hj hx with h | h
  · exact h
  · exact absurd hy h.1

theorem forced_spec {ops : Array Oper} {m : Nat} (h : forcedOK ops m = true) {p q : Nat} (hp : p < ops.size) (hm : m ≤ p) (hq : q < p) : q ∈ anc ops p ∨ (q < m ∧ lateOK ops q = true) := by
  unfold forcedOK at h
  rw [List.all_eq_true] at h
  have := h p (by rw [List.mem_range]; exact hp)
  simp only [Bool.or_eq_true, decide_eq_true_eq, List.all_eq_true, List.mem_range, List.contains_eq_mem, Bool.and_eq_true] at this
  rcases this with h | h
  · omega
  · exact h q hq

theorem late_spec {ops : Array Oper} {i : Nat} (h : lateOK ops i = true) : ∃ o, ops[i]? = some o ∧ o.guard = none ∧ ((∃ x k, o.op = .extract x k) ∨ ∃ x, o.op = .move x) ∧
    ∀ (j : Nat) (oj : Oper), ops[j]? = some oj → j ≠ i → j ∉ anc ops i → (∀ e ∈ oj.after, Region.binds .any e = true → e.on ≠ i) → o.apart ops oj = true := by
  unfold lateOK at h
  rw [Bool.and_eq_true] at h
  obtain ⟨h, hf⟩ := h
  split at h
  · rename_i o ho
    unfold isLate at h
    rw [Bool.and_eq_true, Option.isNone_iff_eq_none] at h
    obtain ⟨hg, h⟩ := h
    refine ⟨o, ho, hg, ?_, fun j oj hj hne hna hno => ?_⟩
    · split at h
      · exact .inl ⟨_, _, ‹_›⟩
      · exact .inr ⟨_, ‹_›⟩
      · cases h
    · unfold freeOK at hf
      rw [List.all_eq_true] at hf
      have := hf j (by rw [List.mem_range]; exact (Array.getElem?_eq_some_iff.1 hj).1)
      rw [ho, hj] at this
      simp only [Bool.or_eq_true, beq_iff_eq, List.contains_eq_mem, decide_eq_true_eq] at this
      rcases this with (h | h) | h | h
      · exact absurd h.symm hne
      · exact absurd h hna
      · rw [Array.any_eq_true] at h
        obtain ⟨n, hn, h⟩ := h
        rw [Bool.and_eq_true, beq_iff_eq] at h
        exact absurd h.2 (hno _ (Array.getElem_mem hn) h.1)
      · exact h
  · cases h

theorem late_yields {ops : Array Oper} {o : Oper} {d : Nat} {K : AV → St → Prop} (hg : o.guard = none) (ho : (∃ x k, o.op = .extract x k) ∨ ∃ x, o.op = .move x) (hr : Rel D G σ a w) (hgl : D.gl = gl) (h : aop P gl d (trOp P gl o.dst o.op) σ K) :
    ∃ v av, Yields P ops o v a ∧ RepA G av v ∧ K av σ := by
  rcases ho with ⟨x, k, ho⟩ | ⟨x, ho⟩
  · rw [ho] at h
    obtain ⟨l, r, e, hi, hK⟩ := extA_inv (show extA k (ev σ (trO gl x)) σ K from h)
    have hx := hr.ev hgl x
    rw [e] at hx
    obtain ⟨vs, hv, hrep⟩ := hx
    obtain ⟨u, hu, hru⟩ := hrep.get hi
    exact ⟨u, _, .inl ⟨by simp [Region.wanted, hg], fun w => by simp [execOp, ho, hv, Instr.extract, hu]⟩, repR_A hru, hK⟩
  · rw [ho] at h
    exact ⟨a.eval x, _, .inl ⟨by simp [Region.wanted, hg], fun w => by simp [execOp, ho]⟩, nox_rep (hr.ev hgl x), h⟩

theorem late_op {o : Oper} {b : Bool} {ao y : AOper} (ho : (∃ x k, o.op = .extract x k) ∨ ∃ x, o.op = .move x) (e3 : ao.op = trOp P gl o.dst o.op) (h : looseOf b ao = some y) : y.op = trOp P gl o.dst o.op := by
  rcases ho with ⟨x, k, ho⟩ | ⟨x, ho⟩
  · have hao : ao.op = .ext (trO gl x) k := by rw [e3, ho]; rfl
    unfold looseOf at h
    rw [hao] at h
    simp only [isAlloc, constLoad, quietOf, quietQ, Bool.false_eq_true, if_false, if_true, Option.some.injEq] at h
    rw [← h, ho]; rfl
  · have hao : ao.op = .mov (trO gl x) := by rw [e3, ho]; rfl
    unfold looseOf at h
    rw [hao] at h
    simp only [isAlloc, constLoad, quietOf, quietQ, Bool.false_eq_true, if_false, if_true, Option.some.injEq] at h
    rw [← h, ho]; rfl

/-- the listed array, as a function -/
theorem getD_true_false {listed : Array Bool} {j : Nat} (h : j < listed.size) : listed.getD j true = listed.getD j false := by
  simp [Array.getD, h]

theorem getD_set {listed : Array Bool} {j : Nat} (hj : j < listed.size) (i : Nat) : (listed.setIfInBounds j true).getD i false = (listed.getD i false || decide (i = j)) := by
  by_cases e : i = j
  · subst e; simp [Array.getD, hj]
  · rw [getD_set_ne false (Ne.symm e)]; simp [e]

theorem ready_of {ops : Array Oper} {listed : Array Bool} {j : Nat} {o : Oper} (hs : listed.size = ops.size) (hb : backward ops.toList = true) (ho : ops[j]? = some o) (hj : listed.getD j false = false)
    (hall : ∀ i, i < j → listed.getD i false = true) : j ∈ Region.ready .any ops listed := by
  rw [mem_ready]
  have hlt : j < ops.size := (Array.getElem?_eq_some_iff.1 ho).1
  exact ⟨by rw [getD_true_false (by omega)]; exact hj, o, ho, fun e he hbd => hall _ (backward_spec hb ho e he hbd)⟩

theorem ready_inv {ops : Array Oper} {listed : Array Bool} {j : Nat} (hs : listed.size = ops.size) (h : j ∈ Region.ready .any ops listed) : ∃ o, ops[j]? = some o ∧ listed.getD j false = false ∧ (∀ e ∈ o.after, Region.binds .any e = true → listed.getD e.on false = true) := by
  rw [mem_ready] at h
  obtain ⟨h0, o, ho, h⟩ := h
  have hlt : j < ops.size := (Array.getElem?_eq_some_iff.1 ho).1
  exact ⟨o, ho, by rw [← getD_true_false (by omega)]; exact h0, h⟩

theorem closed_set {ops : Array Oper} {listed : Array Bool} {j : Nat} {o : Oper} (hc : ClosedL ops listed) (ho : ops[j]? = some o) (h : ∀ e ∈ o.after, Region.binds .any e = true → listed.getD e.on false = true) : ClosedL ops (listed.setIfInBounds j true) := by
  intro i x hi hx e he hb
  refine getD_set_true ?_
  by_cases hij : j = i
  · subst hij; rw [hx] at ho; cases ho; exact h e he hb
  · rw [getD_set_ne false hij] at hi
    exact hc i x hi hx e he hb

/-- what is bound to come in the order of the text -/
theorem tail_wp {q tl : List AOper} {ops : Array Oper} {N : St → Prop} (hd : DrawOK P gl D.n ops q tl) (hgl : D.gl = gl) (hQ : ∀ G' σ' a' w', Rel D G' σ' a' w' → N σ' → Q .normal a' w') :
    ∀ (fuel p : Nat) (listed : Array Bool) (G : Gh) (σ : St) (a : Act) (w : World), fuel + p = ops.size → q.length ≤ p → listed.size = ops.size → (∀ i, i < ops.size → listed.getD i false = decide (i < p)) → ClosedL ops listed →
      Rel D G σ a w → aops P gl (tl.drop (p - q.length)) N σ → wpAny P .any ops Q fuel listed a w
  | 0, p, listed, G, σ, a, w, hf, hp, hs, hl, _, hr, h => by
    refine ⟨?_, ?_⟩
    · apply List.eq_nil_iff_forall_not_mem.2
      intro j hj
      obtain ⟨o, ho, hj, _⟩ := ready_inv hs hj
      have hlt : j < ops.size := (Array.getElem?_eq_some_iff.1 ho).1
      rw [hl j hlt] at hj
      simp at hj; omega
    · have : tl.drop (p - q.length) = [] := by rw [List.drop_eq_nil_iff]; have := hd.tlen; omega
      rw [this] at h
      exact hQ G σ a w hr h
  | fuel + 1, p, listed, G, σ, a, w, hf, hp, hs, hl, hc, hr, h => by
    have hlt : p < ops.size := by omega
    have hop : ops[p]? = some ops[p] := by simp [hlt]
    have hpr : p ∈ Region.ready .any ops listed := ready_of hs hd.back hop (by rw [hl p hlt]; simp) (fun i hi => by rw [hl i (by omega)]; simpa using hi)
    refine ⟨fun h0 => (by rw [h0] at hpr; cases hpr), fun i hi => ?_⟩
    obtain ⟨o, ho, hi0, hi1⟩ := ready_inv hs hi
    have hil : i < ops.size := (Array.getElem?_eq_some_iff.1 ho).1
    have hip : i = p := by
      rw [hl i hil] at hi0
      simp at hi0
      by_cases e : i = p
      · exact e
      · rcases forced_spec hd.forced hil (by omega) (show p < i by omega) with hf | ⟨hf, _⟩
        · have := anc_listed hd.back hc i o ho hi1 p hf
          rw [hl p hlt] at this
          simp at this
        · omega
    subst hip
    obtain ⟨ao, h1, h2⟩ := hd.post i o ho hp
    have hcons : tl.drop (i - q.length) = ao :: tl.drop (i + 1 - q.length) := by
      have hlen : i - q.length < tl.length := (List.getElem?_eq_some_iff.1 h2).1
      rw [List.drop_eq_getElem_cons hlen]
      rw [List.getElem?_eq_getElem hlen] at h2
      cases h2
      rw [show i - q.length + 1 = i + 1 - q.length by omega]
    rw [hcons] at h
    have := oper_step' (Q := Q) (X := wpAny P .any ops Q fuel (listed.setIfInBounds i true)) h1 hr hgl h (fun G' σ' a' w' hr' h' =>
      tail_wp hd hgl hQ fuel (i + 1) _ G' σ' a' w' (by omega) (by omega) (by simpa using hs) (fun k hk => by rw [getD_set (by omega), hl k hk]; by_cases h1 : k < i <;> by_cases h2 : k = i <;> simp [h1, h2] <;> omega) (closed_set hc ho hi1) hr' h')
    unfold wpOp
    rw [ho]
    simp only
    split at this
    · rename_i hw; rw [if_pos hw]; exact .inl this
    · rename_i hw; rw [if_neg hw]; exact this

theorem count_set {listed : Array Bool} {j : Nat} (hj : j < listed.size) (h : listed.getD j false = false) {k : Nat} (hk : listed.toList.countP (!·) = k + 1) : (listed.setIfInBounds j true).toList.countP (!·) = k := by
  have hj' : j < listed.toList.length := by simpa using hj
  have he : listed.toList[j] = false := by simpa [Array.getD, hj] using h
  rw [Array.toList_setIfInBounds, List.countP_set hj']
  simp [he, hk]

/-- whatever order comes up -/
theorem head_wp {q tl : List AOper} {ops : Array Oper} {N : St → Prop} {vs : Nat → AV} {ss : Nat → St} (hnp : ∀ c a w, ¬ Q (.panic c) a w) (hd : DrawOK P gl D.n ops q tl) (hgl : D.gl = gl) (hQ : ∀ G' σ' a' w', Rel D G' σ' a' w' → N σ' → Q .normal a' w')
    (hsp : ∀ (i : Nat) (o : AOper), q[i]? = some o → Does P gl o (ss i) (vs i) ∧ Aft o (ss i) (vs i) (ss (i + 1))) (hend : aops P gl tl N (ss q.length))
    (hnoal : ∀ (i : Nat) (x : AOper) (zs : List PV) (t : Nat), q[i]? = some x → x.op = .alloc zs → x.dst = some t → getB t (ss 0).bx = none) :
    ∀ (fuel : Nat) (listed : Array Bool) (G : Gh) (σ : St) (a : Act) (w : World), listed.toList.countP (!·) = fuel → listed.size = ops.size → (∀ i, q.length ≤ i → listed.getD i false = false) → ClosedL ops listed →
      Rel D G σ a w → Inv q vs (ss 0) (fun i => listed.getD i false) σ → wpAny P .any ops Q fuel listed a w := by
  intro fuel
  induction fuel with
  | zero =>
    intro listed G σ a w hf hs hp hc hr hI
    have hall : ∀ i, i < ops.size → listed.getD i false = true := fun i hi => by
      rw [List.countP_eq_zero] at hf
      have := hf (listed[i]'(by omega)) (by simp)
      simp at this
      simp [Array.getD, hs, hi, this]
    have hq : q.length = ops.size := by
      by_cases e : q.length < ops.size
      · have := hall _ e
        rw [hp _ (Nat.le_refl _)] at this; cases this
      · have := hd.le; omega
    have hdist := distinct_of hd.pair
    obtain ⟨g1, g2, g3, g4⟩ := hI.all (Inv.text hdist hsp q.length (Nat.le_refl _)) (fun i hi => hall i (by omega)) (fun i hi => by simpa using hi)
    exact tail_wp hd hgl hQ 0 q.length listed G _ a w (by omega) (Nat.le_refl _) hs (fun i hi => by rw [hall i hi]; simp; omega) hc (hr.same g1 g2 g3 g4) (by simpa using hend)
  | succ fuel ih =>
    intro listed G σ a w hf hs hp hc hr hI
    have hdist := distinct_of hd.pair
    by_cases hall : ∀ i, i < q.length → listed.getD i false = true
    · obtain ⟨g1, g2, g3, g4⟩ := hI.all (Inv.text hdist hsp q.length (Nat.le_refl _)) hall (fun i hi => by simpa using hi)
      have hl : ∀ i, i < ops.size → listed.getD i false = decide (i < q.length) := fun i hi => by
        by_cases e : i < q.length
        · rw [hall i e]; simp [e]
        · rw [hp i (by omega)]; simp [e]
      refine tail_wp hd hgl hQ (fuel + 1) q.length listed G _ a w ?_ (Nat.le_refl _) hs hl hc (hr.same g1 g2 g3 g4) (by simpa using hend)
      have hlist : listed.toList = List.replicate q.length true ++ List.replicate (ops.size - q.length) false := by
        have := hd.le
        apply List.ext_getElem
        · simp [hs]; omega
        · intro i h1 h2
          have h1' : i < ops.size := by rw [← hs]; simpa using h1
          have := hl i h1'
          simp only [Array.getD, hs, h1', dite_true] at this
          rw [List.getElem_append]
          split
          · rename_i e; simp at e; simp [e] at this; simpa using this
          · rename_i e; simp at e; rw [decide_eq_false (by omega)] at this; simpa using this
      rw [hlist, List.countP_append, List.countP_replicate, List.countP_replicate] at hf
      simp at hf
      have := hd.le
      omega
    · have hdep : ∀ (i : Nat) (o : Oper) (y : AOper), ops[i]? = some o → q[i]? = some y → listed.getD i false = false → (∀ e ∈ o.after, Region.binds .any e = true → listed.getD e.on false = true) → constLoad y.op = false → Does P gl y σ (vs i) := fun i o y ho h3 hu hdone l5 => by
        have hm : i < q.length := (List.getElem?_eq_some_iff.1 h3).1
        refine does_at (L := fun i => listed.getD i false) hdist h3 (hsp i y h3).1 (Inv.text hdist hsp i (by omega)) hI hr hu l5 (fun k x t hk hx ht hki => ?_) hnoal
        rcases pair_spec hd.pair hk h3 hx with h | ⟨_, h⟩
        · exact absurd h hki
        · rcases h ht with ⟨ha, hb⟩ | ⟨ha, hb⟩
          · exact .inl ⟨ha, anc_listed hd.back hc i o ho hdone k hb⟩
          · refine .inr ⟨ha, ?_⟩
            show listed.getD k false = false
            cases hk' : listed.getD k false with
            | false => rfl
            | true =>
              have hkl : k < ops.size := Nat.lt_of_lt_of_le (List.getElem?_eq_some_iff.1 hk).1 hd.le
              have hok : ops[k]? = some ops[k] := by simp [hkl]
              have := anc_listed hd.back hc k _ hok (fun e he hbd => hc k _ hk' hok e he hbd) i hb
              rw [hu] at this; cases this
      -- the first of the head that is not done is ready
      obtain ⟨i1, hi1, hu1, hr1⟩ : ∃ i1, i1 < q.length ∧ listed.getD i1 false = false ∧ i1 ∈ Region.ready .any ops listed := by
        apply Classical.byContradiction
        intro hno
        have : ∀ i, i < q.length → listed.getD i false = true := by
          intro i
          induction i using Nat.strongRecOn with
          | _ i ihs =>
            intro hi
            cases h : listed.getD i false with
            | true => rfl
            | false =>
              have hlt : i < ops.size := Nat.lt_of_lt_of_le hi hd.le
              exact absurd ⟨i, hi, h, ready_of (o := ops[i]) hs hd.back (by simp [hlt]) h (fun k hk => ihs k hk (by omega))⟩ hno
        exact hall this
      by_cases hlate : ∃ i, i < q.length ∧ i ∈ Region.ready .any ops listed ∧ lateOK ops i = true
      · -- a part of a tuple is taken at once
        obtain ⟨i, him, hir, hil⟩ := hlate
        obtain ⟨o, ho, hu, hdone⟩ := ready_inv hs hir
        obtain ⟨o', ho', hg, hop, hfree⟩ := late_spec hil
        rw [ho] at ho'; cases ho'
        obtain ⟨b, ao, y, h1, h2, h3⟩ := hd.pre i o ho him
        obtain ⟨e1, e2, e3, e4⟩ := trOper_spec h1
        obtain ⟨l1, l2, l3, l4, l5⟩ := loose_spec h2
        have hisz : i < ops.size := (Array.getElem?_eq_some_iff.1 ho).1
        have hdoes := hdep i o y ho h3 hu hdone l5
        have hag : ao.guard = none := by
          rw [hg] at e2
          simp only [trGuard, Option.some.injEq] at e2
          exact e2.symm
        have hyop : y.op = trOp P gl o.dst o.op := late_op hop e3 h2
        have hw := aoper_of_does (fun ha => (l4 ha).1) hdoes
        unfold aoper at hw
        rw [l2, hag] at hw
        unfold aoperY at hw
        rw [hyop] at hw
        obtain ⟨v, av, hy, hrep, hK⟩ := late_yields (ops := ops) hg hop hr hgl hw
        have hrel : ∃ σ', Rel D G σ' (a.put o.dst v) w ∧ Aft y σ (vs i) σ' := by
          cases hdst : o.dst with
          | none => rw [show y.dst = none by rw [l1, e1, hdst]] at hK; exact ⟨σ, hr, hK⟩
          | some d => rw [show y.dst = some d by rw [l1, e1, hdst]] at hK; exact ⟨_, hr.put (e4 d hdst) hrep, hK⟩
        obtain ⟨σ', hr', haft⟩ := hrel
        refine wpAny_first ho (fun j oj cs bl hj => Region.noSelect_spec hd.sel j oj cs bl hj) (fun c a w h => absurd h (hnp c _ w)) fuel listed a w (fun j oj hj hne hun hno => hfree j oj hj hne (fun hm => by
          have := anc_listed hd.back hc i o ho hdone j hm
          rw [← getD_true_false (by have := (Array.getElem?_eq_some_iff.1 hj).1; omega), hun] at this; cases this) hno) hir hy ?_
        exact ih _ G σ' _ w (count_set (by omega) hu hf) (by simpa using hs) (fun k hk => by rw [getD_set_ne false (by omega)]; exact hp k hk) (closed_set hc ho hdone) hr' (hI.step hdist h3 hu (fun k => getD_set (by omega) k) haft)
      · refine ⟨fun h0 => (by rw [h0] at hr1; cases hr1), fun i hi => ?_⟩
        obtain ⟨o, ho, hu, hdone⟩ := ready_inv hs hi
        have hil : i < ops.size := (Array.getElem?_eq_some_iff.1 ho).1
        have hm : i < q.length := by
          by_cases e : i < q.length
          · exact e
          · rcases forced_spec hd.forced hil (by omega) (show i1 < i by omega) with hf' | ⟨_, hf'⟩
            · have := anc_listed hd.back hc i o ho hdone i1 hf'
              rw [hu1] at this; cases this
            · exact absurd ⟨i1, hi1, hr1, hf'⟩ hlate
        obtain ⟨b, ao, y, h1, h2, h3⟩ := hd.pre i o ho hm
        obtain ⟨e1, e2, e3, e4⟩ := trOper_spec h1
        obtain ⟨l1, l2, l3, l4, l5⟩ := loose_spec h2
        have hdoes := hdep i o y ho h3 hu hdone l5
        have := oper_step (D := D) (Q := Q) (ao := y) (X := wpAny P .any ops Q fuel (listed.setIfInBounds i true)) (N := fun σ' => Aft y σ (vs i) σ') (l1.trans e1) e4 (by rw [l2]; exact e2)
          (fun G σ a w K hr h hn => loose_op_sound e3 h2 e1 hr hgl h hn) hr (aoper_of_does (fun ha => (l4 ha).1) hdoes)
          (fun G' σ' a' w' hr' h' => ih _ G' σ' a' w' (count_set (by omega) hu hf) (by simpa using hs) (fun k hk => by rw [getD_set_ne false (by omega)]; exact hp k hk) (closed_set hc ho hdone) hr'
            (hI.step hdist h3 hu (fun k => getD_set (by omega) k) h'))
        unfold wpOp
        rw [ho]
        simp only
        split at this
        · rename_i hw; rw [if_pos hw]; exact .inl this
        · rename_i hw; rw [if_neg hw]; exact this

theorem draw_wp {id : Nat} {ops : Array Oper} {al : List AOper} {N : St → Prop} (hm : P.follows .mixedOrders = true) (ht : trDraw P gl D.n ops = some al) (hr : Rel D G σ a w) (hgl : D.gl = gl) (h : aops P gl al N σ)
    (hQ : ∀ G' σ' a' w', Rel D G' σ' a' w' → N σ' → Q .normal a' w') : (Code.region id ops true).wp P Q a w := by
  obtain ⟨q, tl, rfl, hd⟩ := trDraw_spec ht
  have hk : ∀ y ∈ q, (isAlloc y.op = true ∨ quietQ y.op = true) ∧ (isAlloc y.op = true → y.guard = none ∧ y.dst.isSome = true) := fun y hy => by
    obtain ⟨i, hi⟩ := List.getElem?_of_mem hy
    have hil : i < q.length := (List.getElem?_eq_some_iff.1 hi).1
    have hlt : i < ops.size := Nat.lt_of_lt_of_le hil hd.le
    obtain ⟨b, ao, y', _, h2, h3⟩ := hd.pre i ops[i] (by simp [hlt]) hil
    rw [hi] at h3; cases h3
    obtain ⟨_, _, l3, l4, _⟩ := loose_spec h2
    exact ⟨l3, l4⟩
  obtain ⟨vs, ss, h0, hsp, hend⟩ := chain q σ hk h
  have hdist := distinct_of hd.pair
  let Q' : Exit → Act → World → Prop := fun e a w => match e with | .panic _ => False | e => Q e a w
  refine Code.wp_mono (Q := Q') (fun e a w h => by cases e <;> first | exact h | exact h.elim) ?_
  refine wp_region_any hm (head_wp (Q := Q') (fun c a w h => h) hd hgl hQ hsp hend ?_ ops.size _ G σ a _ ?_ (by simp) ?_ ?_ (hr.grow (Kept.drew w)) ?_)
  · intro i x zs t hi hx ht'
    have hT := Inv.text hdist hsp i (Nat.le_of_lt (List.getElem?_eq_some_iff.1 hi).1)
    have hbx := hT.C t (fun k y zs' hk' hy hyt => by have := hdist k i y x t hk' hi hyt ht'; subst this; simp)
    have hdo := (hsp i x hi).1
    unfold Does at hdo
    have hg : x.guard = none := ((hk x (List.mem_of_getElem? hi)).2 (by rw [hx]; rfl)).1
    rw [hg] at hdo
    rcases hdo with ⟨zs', d, g1, g2, g3, g4⟩ | ⟨hq, _⟩
    · rw [ht'] at g2; cases g2
      rw [← hbx]; exact g3
    · rw [hx] at hq; cases hq
  · rw [Array.toList_replicate, List.countP_replicate]; simp
  · intro i _; simp [Array.getD]
  · intro j o hj; simp [Array.getD] at hj
  · rw [h0]
    exact ⟨fun _ _ => rfl, fun i o d _ h => by simp [Array.getD] at h, fun _ _ => rfl, fun i o zs s _ _ _ h => by simp [Array.getD] at h, rfl, rfl⟩

end Go.Am
