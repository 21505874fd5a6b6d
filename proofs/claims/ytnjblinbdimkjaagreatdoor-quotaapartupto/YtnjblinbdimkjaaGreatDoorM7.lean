/-
  bursarlaw18.QuotaApart answers true and leaves its arguments as they were, for inputs of bulk at most 1048576 (the given second form; no other condition). Part 7 of 26 of the proof.
-/
import Derived.Test.YtnjblinbdimkjaaGreatDoorM6
import Derived.Deep.LoopGhost
/-
  AM: regions that draw their order, five: one operation changes what the others look at.
-/
namespace Go.Am
open Go

variable {P : Program} {gl : Nat → Option (List PV)} {D : Base} {G : Gh} {σ : St} {a : Act} {w : World}
variable {Q : Exit → Act → World → Prop}

theorem pargs_rvq {op : Op} {K : AV → St → Prop} : ∀ (l : List AV) (rs acc : List RV), rvq l = some rs → primS P op (acc.reverse ++ rs) σ K → pargs P op l acc σ K
  | [], rs, acc, h, hS => by
    simp only [rvq, Option.some.injEq] at h
    subst h
    simpa [pargs] using hS
  | .p x :: l, rs, acc, h, hS => by
    simp only [rvq, Option.map_eq_some_iff] at h
    obtain ⟨rs', h, rfl⟩ := h
    exact pargs_rvq l rs' (.p x :: acc) h (by simpa using hS)
  | .agg cs :: l, rs, acc, h, hS => by
    simp only [rvq, Option.map_eq_some_iff] at h
    obtain ⟨rs', h, rfl⟩ := h
    exact pargs_rvq l rs' (.agg cs :: acc) h (by simpa using hS)
  | .xsl es :: l, rs, acc, h, hS => by
    simp only [rvq, Option.map_eq_some_iff] at h
    obtain ⟨rs', h, rfl⟩ := h
    exact pargs_rvq l rs' (.p (.sl es es.length) :: acc) h (by simpa using hS)
  | .row _ _ :: _, _, _, h, _ => by cases h
  | .ref _ _ :: _, _, _, h, _ => by cases h
  | .tup _ :: _, _, _, h, _ => by cases h
  | .junk :: _, _, _, h, _ => by cases h

theorem effD_inv {o : AOper} {r : Out} {φ φ' : Res} (h : effD P o r φ φ' σ) : ∃ op args rs S, o.op = .primq op args ∧ rvq (args.map (ev σ)) = some rs ∧ SndP P op S ∧ S rs φ (fun r' φ'' => r' = r ∧ φ'' = φ') := by
  unfold effD at h
  split at h
  · rename_i op args e
    obtain ⟨rs, h1, S, h2, h3⟩ := h
    exact ⟨op, args, rs, S, e, h1, h2, h3⟩
  · exact h.elim

theorem trOp0_primq {op op' : Op} {args : List Opd} (h : trOp0 P gl op = .primq op' args) : False := by
  cases op with
  | call c =>
    obtain ⟨callee, as, ts⟩ := c
    simp only [trOp0] at h
    cases callee with
    | value x => cases x <;> (simp only [trCall] at h; cases h)
    | invoke r m => cases h
    | builtin b =>
      cases b with
      | len => 
        simp only [trCall, trLen] at h
        repeat' (split at h)
        all_goals cases h
      | append => 
        simp only [trCall, trApp] at h
        repeat' (split at h)
        all_goals cases h
      | max => 
        simp only [trCall, trMm] at h
        split at h <;> cases h
      | min => 
        simp only [trCall, trMm] at h
        split at h <;> cases h
      | _ => cases h
  | makeFunc fn first caps => simp only [trOp0, trMk] at h; split at h <;> cases h
  | binOp op T x y T' =>
    simp only [trOp0, trBin] at h
    repeat' (split at h)
    all_goals cases h
  | slice T x lo hi mx => 
    simp only [trOp0, trSlice] at h
    repeat' (split at h)
    all_goals cases h
  | _ =>
    simp only [trOp0] at h
    repeat' (split at h)
    all_goals cases h
theorem trOp_primq {dst : Option Nat} {op op' : Op} {args : List Opd} (h : trOp P gl dst op = .primq op' args) : False := by
  unfold trOp at h
  split at h
  · cases h
  · split at h
    · cases h
    · exact trOp0_primq h

/-- an operation that is loose under its own name, or under its quiet one -/
theorem loose_primq {b : Bool} {ao y : AOper} {op : Op} {args : List Opd} {dst : Option Nat} {op0 : Op} (e3 : ao.op = trOp P gl dst op0) (h : looseOf b ao = some y) (hy : y.op = .primq op args) : ao.op = .prim op args ∧ y.dst = ao.dst ∧ y.guard = ao.guard := by
  unfold looseOf at h
  split at h
  · rename_i ha
    split at h
    · cases h
      rw [hy] at ha; cases ha
    · cases h
  · split at h
    · cases h
    · split at h
      · rename_i q hq
        cases h
        refine ⟨?_, rfl, rfl⟩
        simp only at hy
        subst hy
        cases hop : ao.op with
        | prim op' args' =>
          rw [hop] at hq
          simp only [quietOf] at hq
          split at hq
          · cases hq; rfl
          · cases hq
        | primq op' args' => rw [hop] at e3; exact (trOp_primq e3.symm).elim
        | bslice T k n zs ps =>
          rw [hop] at hq
          simp only [quietOf] at hq
          split at hq <;> cases hq
        | _ =>
          rw [hop] at hq
          first
            | (simp only [quietOf] at hq; cases hq; done)
            | (simp only [quietOf] at hq; split at hq <;> cases hq)
            | (simp [quietOf] at hq; done)
      · cases h

def monoP (S : Am.Spec) : Am.Spec := fun rs φ K => ∃ K0 : Out → Res → Prop, S rs φ K0 ∧ ∀ r φ', K0 r φ' → K r φ'
theorem SndP.mono {op : Op} {S : Am.Spec} (h : SndP P op S) : SndP P op (monoP S) where
  runs := by
    rintro rs φ K ⟨K0, hS, hK⟩ o ρ F w ho hF hph hphF hphl hargs
    obtain ⟨nx, v, w', h1, h2, r, φ1, F', g, rest⟩ := h.runs rs φ K0 hS o ρ F w ho hF hph hphF hphl hargs
    exact ⟨nx, v, w', h1, h2, r, φ1, F', hK _ _ g, rest⟩

theorem aops_app {N : St → Prop} : ∀ (l1 l2 : List AOper) (σ : St), aops P gl (l1 ++ l2) N σ = aops P gl l1 (aops P gl l2 N) σ
  | [], _, _ => rfl
  | o :: l1, l2, σ => by
    have : aops P gl (l1 ++ l2) N = aops P gl l1 (aops P gl l2 N) := funext fun σ => aops_app l1 l2 σ
    show aoper P gl o (aops P gl (l1 ++ l2) N) σ = aoper P gl o (aops P gl l1 (aops P gl l2 N)) σ
    rw [this]

theorem effOK_spec {ops : Array Oper} {l : List AOper} {e : Nat} (h : effOK ops l e = true) : (∀ i, i < ops.size → e < i → e ∈ anc ops i) ∧ (∀ (i : Nat) (o : AOper), i < e → l[i]? = some o → o.dst.isSome = true ∧ isAlloc o.op = false) ∧ ∃ o, l[e]? = some o ∧ o.guard = none := by
  unfold effOK at h
  simp only [Bool.and_eq_true, List.all_eq_true, List.mem_range, Bool.or_eq_true, decide_eq_true_eq, List.contains_eq_mem] at h
  obtain ⟨⟨h1, h2⟩, h3⟩ := h
  refine ⟨fun i hi he => ?_, fun i o hi ho => ?_, ?_⟩
  · rcases h1 i hi with h | h
    · omega
    · exact h
  · have : o ∈ l.take e := List.mem_of_getElem? (i := i) (by rw [List.getElem?_take, if_pos hi]; exact ho)
    have := h2 o this
    simpa using this
  · split at h3
    · rename_i o ho
      exact ⟨o, ho, by simpa using h3⟩
    · cases h3

/-- the first part, whatever order comes up, to the operation that changes things -/
theorem head1_wp {q tl : List AOper} {ops : Array Oper} {N : St → Prop} {vs : Nat → AV} {ss ss0 : Nat → St} {e : Nat} {oe : AOper} {r : Out} {φ1 : Res} (hnp : ∀ c a w, ¬ Q (.panic c) a w) (hd : DrawOK P gl D.n ops q tl) (hgl : D.gl = gl)
    (hQ : ∀ G' σ' a' w', Rel D G' σ' a' w' → N σ' → Q .normal a' w')
    (hsp : ∀ (i : Nat) (o : AOper), q[i]? = some o → Does P gl o (ss i) (vs i) ∧ Aft o (ss i) (vs i) (ss (i + 1))) (hend : aops P gl tl N (ss q.length))
    (hsp0 : ∀ (i : Nat) (o : AOper), (q.take e)[i]? = some o → Does P gl o (ss0 i) (vs i) ∧ Aft o (ss0 i) (vs i) (ss0 (i + 1)))
    (hna : ∀ (i : Nat) (x : AOper), q[i]? = some x → isAlloc x.op = true → getB (dstN x.dst) (ss 0).bx = none ∧ e < i)
    (hanc : ∀ i, i < ops.size → e < i → e ∈ anc ops i) (he : e < q.length) (hoe : q[e]? = some oe) (hge : oe.guard = none) (hve : vs e = r.av)
    (hs0 : (ss 0).fr = (ss0 0).fr ∧ (ss 0).bx = (ss0 0).bx ∧ (ss 0).rw = (ss0 0).rw ∧ (ss 0).ph = φ1)
    (heff : effD P oe r (ss0 0).ph φ1 (ss0 e)) :
    ∀ (fuel : Nat) (listed : Array Bool) (G : Gh) (σ : St) (a : Act) (w : World), listed.toList.countP (!·) = fuel → listed.size = ops.size → (∀ i, e ≤ i → listed.getD i false = false) → ClosedL ops listed →
      Rel D G σ a w → Inv (q.take e) vs (ss0 0) (fun i => listed.getD i false) σ → wpAny P .any ops Q fuel listed a w := by
  have hdist := distinct_of hd.pair
  have hdist0 : DistinctD (q.take e) := fun i j x y t hi hj hx hy => by
    rw [List.getElem?_take] at hi hj
    split at hi
    · split at hj
      · exact hdist i j x y t hi hj hx hy
      · cases hj
    · cases hi
  have htk : ∀ (i : Nat) (x : AOper), (q.take e)[i]? = some x → i < e ∧ q[i]? = some x := fun i x h => by
    rw [List.getElem?_take] at h
    split at h
    · exact ⟨‹_›, h⟩
    · cases h
  have hlen0 : (q.take e).length = e := by simp; omega
  have hsz : e < ops.size := Nat.lt_of_lt_of_le he hd.le
  intro fuel
  induction fuel with
  | zero =>
    intro listed G σ a w hf hs hp hc hr hI
    rw [List.countP_eq_zero] at hf
    have := hf (listed[e]'(by omega)) (by simp)
    have h2 := hp e (Nat.le_refl _)
    simp [Array.getD, hs, hsz] at h2
    simp [h2] at this
  | succ fuel ih =>
    intro listed G σ a w hf hs hp hc hr hI
    have hdep : ∀ (i : Nat) (o : Oper) (y : AOper), ops[i]? = some o → i < e → q[i]? = some y → listed.getD i false = false → (∀ e ∈ o.after, Region.binds .any e = true → listed.getD e.on false = true) → constLoad y.op = false → Does P gl y σ (vs i) := fun i o y ho hie h3 hu hdone l5 => by
      have h3' : (q.take e)[i]? = some y := by rw [List.getElem?_take, if_pos hie]; exact h3
      refine does_at (L := fun i => listed.getD i false) hdist0 h3' (hsp0 i y h3').1 (Inv.text hdist0 hsp0 i (by omega)) hI hr hu l5 (fun k x t hk hx ht hki => ?_) (fun k x zs t hk hz ht => ?_)
      · obtain ⟨hke, hk⟩ := htk k x hk
        rcases pair_spec hd.pair hk h3 hx with h | ⟨_, h⟩
        · exact absurd h hki
        · rcases h ht with ⟨ha, hb⟩ | ⟨ha, hb⟩
          · exact .inl ⟨ha, anc_listed hd.back hc i o ho hdone k hb⟩
          · refine .inr ⟨ha, ?_⟩
            show listed.getD k false = false
            cases hk' : listed.getD k false with
            | false => rfl
            | true =>
              have hkl : k < ops.size := Nat.lt_of_lt_of_le (List.getElem?_eq_some_iff.1 hk).1 hd.le
              have hok : ops[k]? = some ops[k] := by simp [hkl]
              have := anc_listed hd.back hc k _ hok (fun e he hbd => hc k _ hk' hok e he hbd) i hb
              rw [hu] at this; cases this
      · obtain ⟨hke, hk⟩ := htk k x hk
        have := (hna k x hk (by rw [hz]; rfl)).2
        omega
    -- the first that is not done is ready
    obtain ⟨i1, hi1, hu1, hr1⟩ : ∃ i1, i1 ≤ e ∧ listed.getD i1 false = false ∧ i1 ∈ Region.ready .any ops listed := by
      apply Classical.byContradiction
      intro hno
      have : ∀ i, i ≤ e → listed.getD i false = true := by
        intro i
        induction i using Nat.strongRecOn with
        | _ i ihs =>
          intro hi
          cases h : listed.getD i false with
          | true => rfl
          | false =>
            have hlt : i < ops.size := by omega
            exact absurd ⟨i, hi, h, ready_of (o := ops[i]) hs hd.back (by simp [hlt]) h (fun k hk => ihs k hk (by omega))⟩ hno
      have h1 := this e (Nat.le_refl _)
      rw [hp e (Nat.le_refl _)] at h1; cases h1
    by_cases hlate : ∃ i, i < e ∧ i ∈ Region.ready .any ops listed ∧ lateOK ops i = true
    · obtain ⟨i, him, hir, hil⟩ := hlate
      obtain ⟨o, ho, hu, hdone⟩ := ready_inv hs hir
      obtain ⟨o', ho', hg, hop, hfree⟩ := late_spec hil
      rw [ho] at ho'; cases ho'
      obtain ⟨b, ao, y, h1, h2, h3⟩ := hd.pre i o ho (by omega)
      obtain ⟨e1, e2, e3, e4⟩ := trOper_spec h1
      obtain ⟨l1, l2, l3, l4, l5⟩ := loose_spec h2
      have hisz : i < ops.size := (Array.getElem?_eq_some_iff.1 ho).1
      have hdoes := hdep i o y ho him h3 hu hdone l5
      have hag : ao.guard = none := by
        rw [hg] at e2
        simp only [trGuard, Option.some.injEq] at e2
        exact e2.symm
      have hyop : y.op = trOp P gl o.dst o.op := late_op hop e3 h2
      have hw := aoper_of_does (fun ha => (l4 ha).1) hdoes
      unfold aoper at hw
      rw [l2, hag] at hw
      unfold aoperY at hw
      rw [hyop] at hw
      obtain ⟨v, av, hy, hrep, hK⟩ := late_yields (ops := ops) hg hop hr hgl hw
      have hrel : ∃ σ', Rel D G σ' (a.put o.dst v) w ∧ Aft y σ (vs i) σ' := by
        cases hdst : o.dst with
        | none => rw [show y.dst = none by rw [l1, e1, hdst]] at hK; exact ⟨σ, hr, hK⟩
        | some d => rw [show y.dst = some d by rw [l1, e1, hdst]] at hK; exact ⟨_, hr.put (e4 d hdst) hrep, hK⟩
      obtain ⟨σ', hr', haft⟩ := hrel
      refine wpAny_first ho (fun j oj cs bl hj => Region.noSelect_spec hd.sel j oj cs bl hj) (fun c a w h => absurd h (hnp c _ w)) fuel listed a w (fun j oj hj hne hun hno => hfree j oj hj hne (fun hm => by
        have := anc_listed hd.back hc i o ho hdone j hm
        rw [← getD_true_false (by have := (Array.getElem?_eq_some_iff.1 hj).1; omega), hun] at this; cases this) hno) hir hy ?_
      have h3' : (q.take e)[i]? = some y := by rw [List.getElem?_take, if_pos him]; exact h3
      exact ih _ G σ' _ w (count_set (by omega) hu hf) (by simpa using hs) (fun k hk => by rw [getD_set_ne false (by omega)]; exact hp k hk) (closed_set hc ho hdone) hr' (hI.step hdist0 h3' hu (fun k => getD_set (by omega) k) haft)
    · refine ⟨fun h0 => (by rw [h0] at hr1; cases hr1), fun i hi => ?_⟩
      obtain ⟨o, ho, hu, hdone⟩ := ready_inv hs hi
      have hil : i < ops.size := (Array.getElem?_eq_some_iff.1 ho).1
      have hie : i ≤ e := by
        by_cases h : i ≤ e
        · exact h
        · have := anc_listed hd.back hc i o ho hdone e (hanc i hil (by omega))
          rw [hp e (Nat.le_refl _)] at this; cases this
      obtain ⟨b, ao, y, h1, h2, h3⟩ := hd.pre i o ho (by omega)
      obtain ⟨e1, e2, e3, e4⟩ := trOper_spec h1
      obtain ⟨l1, l2, l3, l4, l5⟩ := loose_spec h2
      by_cases hee : i = e
      · subst hee
        rw [hoe] at h3; cases h3
        obtain ⟨op, args, rs, S, f1, f2, f3, f4⟩ := effD_inv heff
        obtain ⟨p1, p2, p3⟩ := loose_primq e3 h2 f1
        have hslot : ∀ t ∈ opdS args, getT t σ.fr = getT t (ss0 i).fr := fun t ht => by
          have hT := Inv.text hdist0 hsp0 i (by omega)
          by_cases hx : ∃ (k : Nat) (x : AOper), (q.take i)[k]? = some x ∧ x.dst = some t
          · obtain ⟨k, x, hk, hxt⟩ := hx
            obtain ⟨hki, hk'⟩ := htk k x hk
            have hlk : listed.getD k false = true := by
              rcases pair_spec hd.pair hk' hoe hxt with h | ⟨_, h⟩
              · omega
              · rcases h (by unfold slotsOf; rw [f1]; exact List.mem_append_left _ ht) with ⟨ha, hb⟩ | ⟨ha, hb⟩
                · exact anc_listed hd.back hc i o ho hdone k hb
                · omega
            rw [hI.B k x t hk hlk hxt, hT.B k x t hk (by simpa using hki) hxt]
          · rw [hI.A t (fun k x hk hxt => absurd ⟨k, x, hk, hxt⟩ hx), hT.A t (fun k x hk hxt => absurd ⟨k, x, hk, hxt⟩ hx)]
        have hev : args.map (ev σ) = args.map (ev (ss0 i)) := evl_congr hslot
        have hag : ao.guard = none := p3.symm.trans hge
        have hao : aoper P gl ao (fun σ' => Aft oe { σ with ph := φ1 } (vs i) σ') σ := by
          unfold aoper
          rw [hag]
          show aoperY P gl ao _ σ
          unfold aoperY
          rw [p1]
          show pargs P op (args.map (ev σ)) [] σ _
          refine pargs_rvq _ rs [] (by rw [hev]; exact f2) ⟨monoP S, f3.mono, ?_⟩
          rw [List.reverse_nil, List.nil_append, hI.ph]
          refine ⟨_, f4, ?_⟩
          rintro r' φ'' ⟨rfl, rfl⟩
          show putK ao.dst _ r'.av _
          rw [← hve, ← p2]
          exact aft_put (σ := { σ with ph := φ'' }) (by rw [f1]; rfl) (fun _ => rfl) rfl rfl rfl
        have := oper_step' (Q := Q) (X := wpAny P .any ops Q fuel (listed.setIfInBounds i true)) h1 hr hgl hao (fun G' σ' a' w' hr' h' => by
          have hle : ∀ k, listed.getD k false = true → k < i := fun k hk => by
            by_cases h : k < i
            · exact h
            · rw [hp k (by omega)] at hk; cases hk
          have hI1 : Inv q vs (ss 0) (fun k => listed.getD k false) { σ with ph := φ1 } := by
            refine ⟨fun t ht => ?_, fun k x d hk hLk hxd => ?_, fun s hs' => ?_, fun k x zs s hk hz hxs hLk => ?_, ?_, ?_⟩
            · rw [hs0.1]
              exact hI.A t fun k x hk hxt => ht k x (htk k x hk).2 hxt
            · exact hI.B k x d (by rw [List.getElem?_take, if_pos (hle k hLk)]; exact hk) hLk hxd
            · rw [hs0.2.1]
              exact hI.C s fun k x zs hk hz hxs => hs' k x zs (htk k x hk).2 hz hxs
            · have h1 := hle k hLk
              have h2 := (hna k x hk (by rw [hz]; rfl)).2
              omega
            · rw [hs0.2.2.1]; exact hI.rw
            · exact hs0.2.2.2.symm
          refine head_wp hnp hd hgl hQ hsp hend (fun k x zs t hk hz ht => ?_) fuel _ G' σ' a' w' (count_set (by omega) hu hf) (by simpa using hs) (fun k hk => by rw [getD_set_ne false (by omega)]; exact hp k (by omega)) (closed_set hc ho hdone) hr' (hI1.step hdist hoe hu (fun k => getD_set (by omega) k) h')
          have := (hna k x hk (by rw [hz]; rfl)).1
          rw [ht] at this; exact this)
        unfold wpOp
        rw [ho]
        simp only
        split at this
        · rename_i hw; rw [if_pos hw]; exact .inl this
        · rename_i hw; rw [if_neg hw]; exact this
      · have hlt : i < e := by omega
        have h3' : (q.take e)[i]? = some y := by rw [List.getElem?_take, if_pos hlt]; exact h3
        have hdoes := hdep i o y ho hlt h3 hu hdone l5
        have := oper_step (D := D) (Q := Q) (ao := y) (X := wpAny P .any ops Q fuel (listed.setIfInBounds i true)) (N := fun σ' => Aft y σ (vs i) σ') (l1.trans e1) e4 (by rw [l2]; exact e2)
          (fun G σ a w K hr h hn => loose_op_sound e3 h2 e1 hr hgl h hn) hr (aoper_of_does (fun ha => (l4 ha).1) hdoes)
          (fun G' σ' a' w' hr' h' => ih _ G' σ' a' w' (count_set (by omega) hu hf) (by simpa using hs) (fun k hk => by rw [getD_set_ne false (by omega)]; exact hp k hk) (closed_set hc ho hdone) hr'
            (hI.step hdist0 h3' hu (fun k => getD_set (by omega) k) h'))
        unfold wpOp
        rw [ho]
        simp only
        split at this
        · rename_i hw; rw [if_pos hw]; exact .inl this
        · rename_i hw; rw [if_neg hw]; exact this

theorem eff_wp {id : Nat} {ops : Array Oper} {al : List AOper} {e : Nat} {QA : Ex → St → Prop} (hm : P.follows .mixedOrders = true) (ht : trDraw P gl D.n ops = some al) (hfind : al.findIdx? (fun o => isEff o.op) = some e) (hok : effOK ops al e = true)
    (hr : Rel D G σ a w) (hgl : D.gl = gl) (h : awp P gl (.rege al e) QA σ) (hQ : ∀ G' σ' a' w', Rel D G' σ' a' w' → QA .normal σ' → Q .normal a' w') : (Code.region id ops true).wp P Q a w := by
  obtain ⟨q, tl, rfl, hd⟩ := trDraw_spec ht
  obtain ⟨hanc, hearly, oe', hoe', hge⟩ := effOK_spec hok
  obtain ⟨φ1, fr1, r, oe, hoe, hA, hB, hC, hE, hR⟩ := h
  rw [hoe] at hoe'
  have hoo := Option.some.inj hoe'
  rw [← hoo] at hge
  clear hoe' hoo
  have hoe' := hoe
  obtain ⟨op, args, rs, S, f1, f2, f3, f4⟩ := effD_inv hE
  -- it stands among the loose ones
  have heq : e < q.length := by
    by_cases hlt : e < q.length
    · exact hlt
    · have hel : e < (q ++ tl).length := (List.getElem?_eq_some_iff.1 hoe').1
      have hes : e < ops.size := by rw [List.length_append] at hel; have := hd.tlen; omega
      obtain ⟨ao, h1, h2⟩ := hd.post e ops[e] (by simp [hes]) (by omega)
      rw [List.getElem?_append_right (by omega)] at hoe'
      rw [hoe'] at h2; cases h2
      obtain ⟨_, _, e3, _⟩ := trOper_spec h1
      rw [f1] at e3
      exact (trOp_primq e3.symm).elim
  have hoq : q[e]? = some oe := by rw [List.getElem?_append_left heq] at hoe'; exact hoe'
  have htake : (q ++ tl).take e = q.take e := List.take_append_of_le_length (by omega)
  have hdrop : (q ++ tl).drop (e + 1) = q.drop (e + 1) ++ tl := List.drop_append_of_le_length (by omega)
  rw [htake] at hA hB
  rw [hdrop] at hR
  have hk : ∀ y ∈ q, (isAlloc y.op = true ∨ quietQ y.op = true) ∧ (isAlloc y.op = true → y.guard = none ∧ y.dst.isSome = true) := fun y hy => by
    obtain ⟨i, hi⟩ := List.getElem?_of_mem hy
    have hil : i < q.length := (List.getElem?_eq_some_iff.1 hi).1
    have hlt : i < ops.size := Nat.lt_of_lt_of_le hil hd.le
    obtain ⟨b, ao, y', _, h2, h3⟩ := hd.pre i ops[i] (by simp [hlt]) hil
    rw [hi] at h3; cases h3
    obtain ⟨_, _, l3, l4, _⟩ := loose_spec h2
    exact ⟨l3, l4⟩
  have hdist := distinct_of hd.pair
  have hdist0 : DistinctD (q.take e) := fun i j x y t hi hj hx hy => by
    rw [List.getElem?_take] at hi hj
    split at hi
    · split at hj
      · exact hdist i j x y t hi hj hx hy
      · cases hj
    · cases hi
  have hlen0 : (q.take e).length = e := by simp; omega
  have hna : isAlloc oe.op = false := by rw [f1]; rfl
  have hearly' : ∀ (i : Nat) (o : AOper), i < e → q[i]? = some o → o.dst.isSome = true ∧ isAlloc o.op = false := fun i o hi ho => hearly i o hi (by rw [List.getElem?_append_left (by omega)]; exact ho)
  obtain ⟨vs0, ss0, z0, hsp0, hend0⟩ := chain (tl := []) (q.take e) σ (fun o ho => hk o (List.mem_of_mem_take ho)) (by rw [List.append_nil]; exact hA)
  obtain ⟨vs1, ss1, z1, hsp1, hend1⟩ := chain (tl := []) (q.take e) _ (fun o ho => hk o (List.mem_of_mem_take ho)) (by rw [List.append_nil]; exact hB)
  rw [hlen0] at hend0 hend1
  replace hend0 : ss0 e = ⟨fr1, σ.bx, σ.rw, σ.ph⟩ := hend0
  replace hend1 : ss1 e = ⟨fr1, σ.bx, σ.rw, φ1⟩ := hend1
  obtain ⟨σ2, hst, hR⟩ := put_aft hna hR
  obtain ⟨vs3, ss3, z3, hsp3, hend3⟩ := chain (q.drop (e + 1)) σ2 (fun o ho => hk o (List.mem_of_mem_drop ho)) hR
  have hvv : ∀ (i : Nat) (o : AOper), i < e → q[i]? = some o → vs0 i = vs1 i := fun i o hi ho => by
    obtain ⟨d, hdd⟩ := Option.isSome_iff_exists.1 (hearly' i o hi ho).1
    have hoi : (q.take e)[i]? = some o := by rw [List.getElem?_take, if_pos hi]; exact ho
    have h1 := (Inv.text hdist0 hsp0 e (by omega)).B i o d hoi (by simpa using hi) hdd
    have h2 := (Inv.text hdist0 hsp1 e (by omega)).B i o d hoi (by simpa using hi) hdd
    rw [hend0] at h1
    rw [hend1] at h2
    exact Option.some.inj (h1.symm.trans h2)
  obtain ⟨vs, hvs⟩ : ∃ vs : Nat → AV, vs = fun i => if i < e then vs1 i else if i = e then r.av else vs3 (i - e - 1) := ⟨_, rfl⟩
  obtain ⟨ss, hss⟩ : ∃ ss : Nat → St, ss = fun i => if i ≤ e then ss1 i else ss3 (i - e - 1) := ⟨_, rfl⟩
  have v1 : ∀ i, i < e → vs i = vs1 i := fun i hi => by simp [hvs, hi]
  have v2 : vs e = r.av := by simp [hvs]
  have v3 : ∀ i, vs (e + 1 + i) = vs3 i := fun i => by
    rw [hvs]; simp only
    rw [if_neg (by omega), if_neg (by omega), show e + 1 + i - e - 1 = i by omega]
  have s1 : ∀ i, i ≤ e → ss i = ss1 i := fun i hi => by simp [hss, hi]
  have s3 : ∀ i, ss (e + 1 + i) = ss3 i := fun i => by
    rw [hss]; simp only
    rw [if_neg (by omega), show e + 1 + i - e - 1 = i by omega]
  have hsp : ∀ (i : Nat) (o : AOper), q[i]? = some o → Does P gl o (ss i) (vs i) ∧ Aft o (ss i) (vs i) (ss (i + 1)) := fun i o ho => by
    by_cases hi : i < e
    · have hoi : (q.take e)[i]? = some o := by rw [List.getElem?_take, if_pos hi]; exact ho
      rw [s1 i (by omega), s1 (i + 1) (by omega), v1 i hi]
      exact hsp1 i o hoi
    · by_cases hie : i = e
      · subst hie
        rw [hoq] at ho; cases ho
        have e3 : ss (i + 1) = ss3 0 := s3 0
        rw [s1 i (Nat.le_refl _), hend1, v2, e3, z3]
        refine ⟨?_, hst⟩
        unfold Does
        rw [hge]
        refine .inr ⟨by rw [f1]; rfl, fun σ' K' g1 _ g3 g4 => ?_⟩
        rw [f1] at g1 ⊢
        refine ⟨rs, ?_, S, r, f3, ?_, g4⟩
        · have : args.map (ev σ') = args.map (ev ⟨fr1, σ.bx, σ.rw, φ1⟩) := evl_congr g1
          rw [this]; exact f2
        · rw [g3]; exact f4
      · obtain ⟨k, rfl⟩ : ∃ k, i = e + 1 + k := ⟨i - e - 1, by omega⟩
        have hok : (q.drop (e + 1))[k]? = some o := by rw [List.getElem?_drop]; exact ho
        rw [s3, v3, show e + 1 + k + 1 = e + 1 + (k + 1) by omega, s3]
        exact hsp3 k o hok
  have hend : aops P gl tl (QA .normal) (ss q.length) := by
    have h1 : q.length = e + 1 + (q.drop (e + 1)).length := by simp; omega
    rw [h1, s3]
    exact hend3
  have hsp0' : ∀ (i : Nat) (o : AOper), (q.take e)[i]? = some o → Does P gl o (ss0 i) (vs i) ∧ Aft o (ss0 i) (vs i) (ss0 (i + 1)) := fun i o ho => by
    have hi : i < e := by have := (List.getElem?_eq_some_iff.1 ho).1; omega
    have hoq' : q[i]? = some o := by rw [List.getElem?_take, if_pos hi] at ho; exact ho
    rw [v1 i hi, ← hvv i o hi hoq']
    exact hsp0 i o ho
  have hss0 : ss 0 = ⟨σ.fr, σ.bx, σ.rw, φ1⟩ := by rw [s1 0 (Nat.zero_le _), z1]
  let Q' : Exit → Act → World → Prop := fun e a w => match e with | .panic _ => False | e => Q e a w
  refine Code.wp_mono (Q := Q') (fun e a w h => by cases e <;> first | exact h | exact h.elim) ?_
  refine wp_region_any hm (head1_wp (Q := Q') (ss := ss) (ss0 := ss0) (vs := vs) (φ1 := φ1) (r := r) (fun c a w h => h) hd hgl hQ hsp hend hsp0' ?_ hanc heq hoq hge v2 ?_ ?_ ops.size _ G σ a _ ?_ (by simp) ?_ ?_ (hr.grow (Kept.drew w)) ?_)
  · intro i x hi hx
    have hie : e < i := by
      apply Nat.lt_of_not_le
      intro hle
      by_cases h : i = e
      · subst h; rw [hoq] at hi; cases hi; rw [hna] at hx; cases hx
      · have := (hearly' i x (by omega) hi).2
        rw [hx] at this; cases this
    refine ⟨?_, hie⟩
    have hT := Inv.text hdist hsp i (Nat.le_of_lt (List.getElem?_eq_some_iff.1 hi).1)
    have hxd := (hk x (List.mem_of_getElem? hi)).2 hx
    obtain ⟨d, hdd⟩ := Option.isSome_iff_exists.1 hxd.2
    have hdo := (hsp i x hi).1
    unfold Does at hdo
    rw [hxd.1] at hdo
    rcases hdo with ⟨zs', d', g1, g2, g3, g4⟩ | ⟨hq, _⟩
    · rw [hdd] at g2; cases g2
      have hbx := hT.C d (fun k y zs' hk' hy hyt => by have := hdist k i y x d hk' hi hyt hdd; subst this; simp)
      rw [hdd]
      show getB d (ss 0).bx = none
      rw [← hbx]; exact g3
    · cases hop : x.op <;> first | (rw [hop] at hx; cases hx; done) | (rw [hop] at hq; cases hq)
  · rw [hss0, z0]; exact ⟨rfl, rfl, rfl, rfl⟩
  · rw [z0, hend0]; exact hC
  · rw [Array.toList_replicate, List.countP_replicate]; simp
  · intro i _; simp [Array.getD]
  · intro j o hj; simp [Array.getD] at hj
  · rw [z0]
    exact ⟨fun _ _ => rfl, fun i o d _ h => by simp [Array.getD] at h, fun _ _ => rfl, fun i o zs s _ _ _ h => by simp [Array.getD] at h, rfl, rfl⟩
end Go.Am

/-
  AM: code.
-/
namespace Go.Am
open Go

variable {P : Program} {gl : Nat → Option (List PV)} {D : Base} {G : Gh} {σ : St} {a : Act} {w : World}
variable {o : Oper} {K : AV → St → Prop} {next : Act → World → Prop} {Q : Exit → Act → World → Prop}

/-! ### code -/
theorem awp_sound : ∀ (c : Code) (G : Gh) (σ : St) (a : Act) (w : World) (QA : Ex → St → Prop) (Q : Exit → Act → World → Prop), awp P gl (tr P gl D.n c) QA σ → Rel D G σ a w → D.gl = gl →
    (∀ e G' σ' a' w', Rel D G' σ' a' w' → QA e σ' → Q e.go a' w') → c.wp P Q a w
  | .skip, G, σ, a, w, QA, Q, h, hr, _, hQ => wp_skip (hQ .normal G σ a w hr h)
  | .region id ops draw, G, σ, a, w, QA, Q, h, hr, hgl, hQ => by
    simp only [tr] at h
    split at h
    · rename_i hd
      subst hd
      split at h
      · rename_i hm
        split at h
        · rename_i al hal
          unfold effReg at h
          split at h
          · exact draw_wp hm hal hr hgl h (fun G' σ' a' w' hr' h' => hQ .normal G' σ' a' w' hr' h')
          · rename_i e he
            split at h
            · exact eff_wp hm hal he ‹_› hr hgl h (fun G' σ' a' w' hr' h' => hQ .normal G' σ' a' w' hr' h')
            · exact h.elim
        · exact h.elim
      · exact h.elim
    · rename_i hd
      have hd : draw = false := by cases draw <;> simp_all
      subst hd
      split at h
      · rename_i al hal
        refine wp_region (opers_sound ops.toList (List.range ops.size) al G σ a w ?_ hal hr hgl h (fun G' σ' a' w' hr' h' => hQ .normal G' σ' a' w' hr' h'))
        apply List.ext_getElem?
        intro i
        simp only [List.getElem?_map]
        by_cases hi : i < ops.size
        · rw [List.getElem?_range hi]
          simp [hi]
        · rw [List.getElem?_eq_none (by simp; omega), List.getElem?_eq_none (by simp; omega)]
          rfl
      · exact h.elim
  | .seq x y, G, σ, a, w, QA, Q, h, hr, hgl, hQ => by
    refine wp_seq (awp_sound x G σ a w _ _ h hr hgl (fun e G' σ' a' w' hr' h' => ?_))
    cases e with
    | normal => exact awp_sound y G' σ' a' w' QA Q h' hr' hgl hQ
    | exit id => exact hQ (.exit id) G' σ' a' w' hr' h'
    | ret => exact hQ .ret G' σ' a' w' hr' h'
  | .cond c x y, G, σ, a, w, QA, Q, h, hr, hgl, hQ => by
    have hc := hr.ev hgl c
    simp only [tr, awp] at h
    unfold condA at h
    split at h
    · rename_i b σ1 hcv
      rw [hcv] at hc
      refine wp_cond_split (repA_val hc) (fun hb => ?_) (fun hb => ?_)
      · exact awp_sound x G _ a w QA Q (h.1 hb) hr hgl hQ
      · exact awp_sound y G _ a w QA Q (h.2 hb) hr hgl hQ
    · exact h.elim
  | .block id c, G, σ, a, w, QA, Q, h, hr, hgl, hQ => by
    refine wp_block (awp_sound c G σ a w _ _ h hr hgl (fun e G' σ' a' w' hr' h' => ?_))
    cases e with
    | normal => exact hQ .normal G' σ' a' w' hr' h'
    | exit id' =>
      simp only [blockQ] at h'
      by_cases he : id = id'
      · subst he
        simp only [Nat.beq_refl, cond_true] at h'
        simp only [Ex.go, Exit.inBlock, if_true]
        exact hQ .normal G' σ' a' w' hr' h'
      · rw [beq_ne he, cond_false] at h'
        have := hQ (.exit id') G' σ' a' w' hr' h'
        simp only [Ex.go, Exit.inBlock]
        first | (rw [if_neg he]; exact this) | (rw [if_neg (Ne.symm he)]; exact this)
    | ret => exact hQ .ret G' σ' a' w' hr' h'
  | .loop c, G, σ, a, w, QA, Q, h, hr, hgl, hQ => by
    obtain ⟨I, n, ⟨σ0, hgh, hI⟩, hround⟩ := h
    obtain ⟨G0, hr0⟩ := hgh D G a w hr
    refine wp_loop_ghost (fun n a w => ∃ G σ, I n σ ∧ Rel D G σ a w) n ⟨G0, σ0, hI, hr0⟩ (fun n a w hex => ?_)
    obtain ⟨G1, σ1, hI1, hr1⟩ := hex
    refine awp_sound c G1 σ1 a w _ _ (hround n σ1 hI1) hr1 hgl (fun e G' σ' a' w' hr' h' => ?_)
    cases e with
    | normal =>
      obtain ⟨m, hm, σ2, hg2, hI2⟩ := h'
      obtain ⟨G2, hr2⟩ := hg2 D G' a' w' hr'
      exact ⟨m, hm, G2, σ2, hI2, hr2⟩
    | exit id => exact hQ (.exit id) G' σ' a' w' hr' h'
    | ret => exact hQ .ret G' σ' a' w' hr' h'
  | .exit id, G, σ, a, w, QA, Q, h, hr, _, hQ => wp_exit (hQ (.exit id) G σ a w hr h)
  | .ret, G, σ, a, w, QA, Q, h, hr, _, hQ => wp_ret (hQ .ret G σ a w hr h)
  | .rangeFunc _ _ _ _, _, _, _, _, _, _, h, _, _, _ => h.elim
  | .scope _, _, _, _, _, _, _, h, _, _, _ => h.elim
  | .label _, _, _, _, _, _, _, h, _, _, _ => h.elim
  | .goto _, _, _, _, _, _, _, h, _, _, _ => h.elim
  | .refuse _, _, _, _, _, _, _, h, _, _, _ => h.elim

end Go.Am

/-
  AM: functions; steps of thought.
-/
namespace Go.Am
open Go

variable {P : Program} {gl : Nat → Option (List PV)} {D : Base} {G : Gh} {σ : St} {a : Act} {w : World}

def resRun (tmps : Array Value) : ResultVar → Sem Value
  | .tmp t => pure (tmps.getD t undef)
  | .cell x t => do loadVar t (← asAddr (tmps.getD x undef))

theorem results_eq (fn : Func) (tmps : Array Value) : results fn tmps = (do
    let vs ← fn.results.mapM (resRun tmps)
    pure (if h : vs.size = 1 then vs[0] else .tuple vs)) := by
  unfold results
  congr 1

theorem all2_rev {α β : Type} {R : α → β → Prop} {x : List α} {y : List β} (h : All2 R x y) : All2 R x.reverse y.reverse := by
  induction h with
  | nil => exact .nil
  | cons h _ ih => rw [List.reverse_cons, List.reverse_cons]; exact ih.app (.cons h .nil)

theorem getD_of {tmps : Array Value} {s : Nat} {v : Value} (h : tmps[s]? = some v) : tmps.getD s undef = v := by simp [h]

theorem ret_sound {K : Out → Res → Prop} : ∀ (l : List ResultVar) (rv : List ResV) (acc : List RV) (accv : List Value) (G : Gh) (σ : St), trRess P l = some rv → retA K rv acc σ → Rel D G σ a w → All2 (RepR G.F) acc accv →
    ∃ vals G' σ' rs, (l.mapM (resRun a.tmps)).run P w = .ok vals w ∧ Rel D G' σ' a w ∧ K (outOf rs) σ'.ph ∧ All2 (RepR G'.F) rs (accv.reverse ++ vals)
  | [], rv, acc, accv, G, σ, ht, h, hr, ha => by
    simp only [trRess, Option.some.injEq] at ht
    subst ht
    exact ⟨[], G, σ, acc.reverse, by simp, hr, h, by rw [List.append_nil]; exact all2_rev ha⟩
  | x :: l, rv, acc, accv, G, σ, ht, h, hr, ha => by
    simp only [trRess] at ht
    split at ht
    · rename_i y r hy hl
      simp only [Option.some.injEq] at ht
      subst ht
      have step : ∀ (v : Value) (rv1 : RV) (G1 : Gh) (σ1 : St), (resRun a.tmps x).run P w = .ok v w → retA K r (rv1 :: acc) σ1 → Rel D G1 σ1 a w → Facts.le G.F G1.F → RepR G1.F rv1 v →
          ∃ vals G' σ' rs, ((x :: l).mapM (resRun a.tmps)).run P w = .ok vals w ∧ Rel D G' σ' a w ∧ K (outOf rs) σ'.ph ∧ All2 (RepR G'.F) rs (accv.reverse ++ vals) := fun v rv1 G1 σ1 hrun h1 hr1 hle hrep => by
        obtain ⟨vals, G', σ', rs, e1, e2, e3, e4⟩ := ret_sound l r (rv1 :: acc) (v :: accv) G1 σ1 hl h1 hr1 (.cons hrep (ha.mono fun _ _ => RepR.mono hle))
        exact ⟨v :: vals, G', σ', rs, by simp [List.mapM_cons, hrun, e1], e2, e3, by simpa using e4⟩
      cases x with
      | tmp s =>
        simp only [trRes, Option.some.injEq] at hy
        subst hy
        simp only [retA] at h
        split at h
        · rename_i p hg
          obtain ⟨v, hv, hrep⟩ := hr.fr s _ hg
          exact step v (.p (nilSl p)) G σ (by simp [resRun, hv]) h hr (Facts.le_refl _) (nilSl_rep hrep)
        · rename_i cs hg
          obtain ⟨v, hv, hrep⟩ := hr.fr s _ hg
          exact step v (.agg cs) G σ (by simp [resRun, hv]) h hr (Facts.le_refl _) hrep
        · rename_i es hg
          obtain ⟨v, hv, hrep⟩ := hr.fr s _ hg
          exact step v (.p (.sl es es.length)) G σ (by simp [resRun, hv]) h hr (Facts.le_refl _) hrep.1
        · rename_i r' n hg
          obtain ⟨v, hv, hrep⟩ := hr.fr s _ hg
          split at h
          · rename_i T k es hs
            obtain ⟨rfl, h⟩ := h
            obtain ⟨v', G1, hJ, hr1, hle, hsl, _⟩ := hr.freezeRow hs
            simp only [RepA] at hrep
            rw [hJ] at hrep; cases hrep
            exact step _ (.p (.sl es es.length)) G1 _ (by simp [resRun, hv]) h hr1 hle hsl
          · exact h.elim
        · rename_i bs off hg
          obtain ⟨v, hv, hrep⟩ := hr.fr s _ hg
          split at h
          · rename_i cs hcs
            obtain ⟨b, G1, hb, hr1, hle, hip, _⟩ := hr.freezeBox hcs
            obtain ⟨b', hb', hvb⟩ := hrep
            rw [hb] at hb'; cases hb'
            exact step _ (.p (.ip (cs.drop off))) G1 _ (by simp [resRun, hv, hvb]) h hr1 hle (hip off)
          · exact h.elim
        · exact h.elim
      | cell s T =>
        simp only [trRes] at hy
        split at hy
        · rename_i d i hd hi
          simp only [Option.some.injEq] at hy
          subst hy
          simp only [retA] at h
          split at h
          · rename_i b off hg
            obtain ⟨v, hv, b', hβ, hvb⟩ := hr.fr s _ hg
            split at h
            · rename_i cs hcs
              obtain ⟨h1, h2, h⟩ := h
              obtain ⟨b2, hβ2, lv, T', hh, hrep⟩ := hr.bx _ cs hcs
              rw [hβ] at hβ2; cases hβ2
              have hlen := hrep.len
              have hrun := run_loadVar_cells (P := P) (w := w) hd hi (b := b') (off := off) (vs := lv.drop off) (fun j v hv => by
                rw [cell_of_row w b' _ _ _ _ hh]
                simpa [List.getElem?_drop] using hv) (by simp; omega) h2
              have hcr := cellsA_rep (G := G) (hrep.drop off) (k := i.size) (agg := isAggD d) (by simp; omega) h2
              have hrr : (resRun a.tmps (.cell s T)).run P w = .ok (if isAggD d then .agg ((lv.drop off).take i.size).toArray else (lv.drop off).headD undef) w := by
                simp only [resRun, getD_of hv, hvb, asAddr, Sem.run_bind, Sem.run_pure, Result.andThen_ok, hrun]
              split at h
              · rename_i x hx
                rw [hx] at hcr
                exact step _ (.p (nilSl x)) G σ hrr h hr (Facts.le_refl _) (nilSl_rep hcr)
              · rename_i cs' hx
                rw [hx] at hcr
                exact step _ (.agg cs') G σ hrr h hr (Facts.le_refl _) hcr
              · exact h.elim
            · exact h.elim
          · exact h.elim
        · cases hy
    · cases ht

theorem out_of {F : Facts} {rs : List RV} {vals : List Value} (h : All2 (RepR F) rs vals) : RepO F (outOf rs) (if h : vals.toArray.size = 1 then vals.toArray[0] else .tuple vals.toArray) := by
  cases h with
  | nil => exact ⟨[], rfl, .nil⟩
  | cons h t =>
    cases t with
    | nil => simpa [outOf, RepO] using h
    | cons h' t =>
      simp only [outOf]
      exact ⟨_, by simp, .cons h (.cons h' t)⟩

theorem startFr_get : ∀ (rs : List RV) (n s : Nat) (av : AV), getT s (startFr n rs) = some av → ∃ r, n ≤ s ∧ rs[s - n]? = some r ∧ av = r.av
  | [], _, _, _, h => by simp [startFr, getT] at h
  | r :: rs, n, s, av, h => by
    by_cases e : s = n
    · subst e
      rw [startFr, getT_cons_self] at h
      cases h
      exact ⟨r, Nat.le_refl _, by simp, rfl⟩
    · rw [startFr, getT_cons_ne e] at h
      obtain ⟨r', h1, h2, h3⟩ := startFr_get rs (n + 1) s av h
      refine ⟨r', by omega, ?_, h3⟩
      rw [show s - n = (s - (n + 1)) + 1 by omega]
      simpa using h2

theorem av_rep {r : RV} {v : Value} (h : RepR G.F r v) : RepA G r.av v := by cases r <;> exact h

/-- **A function keeps what is shown of it.** -/
theorem snd_of {f : FuncId} {fn : Func} {c : Code} {rv : List ResV} {S : Spec} (hf : P.funcs[f]? = some fn) (hb : fn.body = some c) (hname : (fn.name == "runtime.NumGoroutine") = false)
    (hres : trRess P fn.results.toList = some rv) (hn : ∀ rs φ K, S rs φ K → rs.length ≤ fn.ntmps) (h : Shows P gl (tr P gl fn.ntmps c) rv S) : Snd P gl f S where
  calls := by
    intro rs φ K hS F w vs hgl hfc hok hpF hpl hrs
    refine .inl ⟨⟨fn, hf, by simp [hb], hname⟩, ?_⟩
    have hlen := hrs.len
    have hle := hn rs φ K hS
    have hsz : vs.toArray.size = vs.length := by simp
    let D : Base := ⟨w, F, φ, fn.ntmps, gl⟩
    let G : Gh := ⟨F, fun _ => none, fun _ _ => none⟩
    have hrel : Rel D G (startSt rs φ) { tmps := vs.toArray ++ Array.replicate (fn.ntmps - vs.toArray.size) undef, defers := [] } w :=
      { df := rfl
        gl := fun g cs hg => hgl g cs hg
        sz := by simp; show vs.length + (fn.ntmps - vs.length) = fn.ntmps; omega
        fr := by
          intro s av hs
          obtain ⟨r, _, hr, rfl⟩ := startFr_get rs 0 s av hs
          obtain ⟨v, hv, hrep⟩ := hrs.get hr
          have hlt := (List.getElem?_eq_some_iff.1 hv).1
          refine ⟨v, ?_, av_rep hrep⟩
          rw [Array.getElem?_append_left (by simpa using hlt)]
          simpa using hv
        fc := hfc
        le := Facts.le_refl _
        old := fun _ _ _ _ => rfl
        kept := Kept.refl _ _
        ph := hok
        phF := hpF
        phn := fun b hb => .inl hb
        phl := hpl
        bx := fun s cs hs => by simp [startSt, getB] at hs
        bk := fun s b e => by cases e
        rw := fun r T k es hr => by simp [startSt, getB] at hr
        rk := fun r n v e => by cases e }
    have fin : ∀ G' σ' a' w', Rel D G' σ' a' w' → retA K rv [] σ' → a'.defers = [] ∧ ∃ v, (results fn a'.tmps).run P w' = .ok v w' ∧
        ∃ v' r φ' F', Ending.returned v = .returned v' ∧ K r φ' ∧ RepO F' r v' ∧ Facts.le F F' ∧ FactsOK F' w' ∧ (∀ b o, b < w.heap.size → ¬ φ.fp b → F' b o = F b o) ∧ Kept φ.fp w w' ∧
          φ'.ok F' w' ∧ (∀ b o, φ'.fp b → F' b o = none) ∧ (∀ b, φ'.fp b → φ.fp b ∨ w.heap.size ≤ b) ∧ (∀ b, φ'.fp b → b < w'.heap.size) := fun G' σ' a' w' hr' hret => by
      obtain ⟨vals, G2, σ2, rs2, h1, h2, h3, h4⟩ := ret_sound (P := P) (w := w') fn.results.toList rv [] [] G' σ' hres hret hr' .nil
      simp only [List.reverse_nil, List.nil_append] at h4
      refine ⟨h2.df, _, ?_, _, outOf rs2, σ2.ph, G2.F, rfl, h3, out_of h4, h2.le, h2.fc, h2.old, h2.kept, h2.ph, h2.phF, h2.phn, h2.phl⟩
      rw [results_eq]
      rw [Sem.run_bind, Array.mapM_eq_mapM_toList, Sem.run_map, h1]
      rfl
    refine calls_of_wp hf hb (awp_sound (P := P) (D := D) c G (startSt rs φ) _ w (endQ K rv) _ (h rs φ K hS) hrel rfl (fun e G' σ' a' w' hr' h' => ?_))
    cases e with
    | normal => exact fin G' σ' a' w' hr' h'
    | ret => exact fin G' σ' a' w' hr' h'
    | exit id => exact h'.elim

/-- The same, of a code that is printed. -/
theorem snd_code {f n : Nat} {fn : Func} {c : ACode} {rv : List ResV} {S : Spec} (hf : P.funcs[f]? = some fn) (hb : fn.body.map (tr P gl n) = some c) (hname : (fn.name == "runtime.NumGoroutine") = false)
    (hres : trRess P fn.results.toList = some rv) (hn : fn.ntmps = n) (hargs : ∀ rs φ K, S rs φ K → rs.length ≤ n) (h : Shows P gl c rv S) : Snd P gl f S := by
  subst hn
  cases hbody : fn.body with
  | none => rw [hbody] at hb; cases hb
  | some b =>
    rw [hbody] at hb
    simp only [Option.map_some, Option.some.injEq] at hb
    exact snd_of hf hbody hname hres hargs (by rw [hb]; exact h)

/-! ### steps of thought -/
theorem Gho.refl (σ : St) : Gho σ σ := fun _ G _ _ h => ⟨G, h⟩
theorem Gho.trans {σ σ' σ'' : St} (h : Gho σ σ') (k : Gho σ' σ'') : Gho σ σ'' := fun D G a w hr => by
  obtain ⟨G1, h1⟩ := h D G a w hr
  exact k D G1 a w h1

theorem Gho.frzRow {r T k : Nat} {es : List (List PV)} (hs : getB r σ.rw = some (T, k, es)) : Gho σ (σ.frzRow r es) := fun D G a w hr => by
  obtain ⟨v, G', _, h, _⟩ := hr.freezeRow hs
  exact ⟨G', h⟩

def leAV : AV → AV → Prop
  | x, y => x = y ∨ y = .junk ∨ (x = .p (.val (.slice none 0 0)) ∧ y = .p (.sl [] 0))

theorem leAV_rep {x y : AV} {v : Value} (h : leAV x y) (hr : RepA G x v) : RepA G y v := by
  rcases h with rfl | rfl | ⟨rfl, rfl⟩
  · exact hr
  · trivial
  · cases hr; exact .nil

/-- every slot of the second is one of the first -/
def subFr (l : List (Nat × AV)) : List (Nat × AV) → Prop
  | [] => True
  | (t, y) :: m => (match getT t l with | some x => leAV x y | none => False) ∧ subFr l m
def subB {α : Type} (l : List (Nat × α)) : List (Nat × α) → Prop
  | [] => True
  | (t, y) :: m => getB t l = some y ∧ subB l m
def refsOK {α β : Type} (bx : List (Nat × α)) (rw : List (Nat × β)) : List (Nat × AV) → Prop
  | [] => True
  | (_, .ref s _) :: m => (getB s bx).isSome = true ∧ refsOK bx rw m
  | (_, .row r _) :: m => (getB r rw).isSome = true ∧ refsOK bx rw m
  | _ :: m => refsOK bx rw m

theorem subFr_get {l : List (Nat × AV)} : ∀ {m : List (Nat × AV)}, subFr l m → ∀ t y, getT t m = some y → ∃ x, getT t l = some x ∧ leAV x y
  | [], _, t, y, h => by simp [getT] at h
  | (u, z) :: m, hs, t, y, h => by
    obtain ⟨h1, h2⟩ := hs
    by_cases e : t = u
    · subst e
      rw [getT_cons_self] at h; cases h
      split at h1
      · rename_i x hx; exact ⟨x, hx, h1⟩
      · exact h1.elim
    · rw [getT_cons_ne e] at h
      exact subFr_get h2 t y h
theorem subB_get {α : Type} {l : List (Nat × α)} : ∀ {m : List (Nat × α)}, subB l m → ∀ t y, getB t m = some y → getB t l = some y
  | [], _, t, y, h => by simp [getB] at h
  | (u, z) :: m, hs, t, y, h => by
    obtain ⟨h1, h2⟩ := hs
    by_cases e : t = u
    · subst e
      rw [getB_cons_self] at h; cases h; exact h1
    · rw [getB_cons_ne e] at h
      exact subB_get h2 t y h
theorem refsOK_get {α β : Type} {bx : List (Nat × α)} {rw : List (Nat × β)} : ∀ {m : List (Nat × AV)}, refsOK bx rw m → ∀ t y, getT t m = some y → (∀ s n, y = .ref s n → (getB s bx).isSome = true) ∧ (∀ r n, y = .row r n → (getB r rw).isSome = true)
  | [], _, t, y, h => by simp [getT] at h
  | (u, z) :: m, hs, t, y, h => by
    have hrest : refsOK bx rw m := by
      cases z <;> first | exact hs | exact hs.2
    by_cases e : t = u
    · subst e
      rw [getT_cons_self] at h; cases h
      refine ⟨fun s n e => ?_, fun r n e => ?_⟩
      · subst e; exact hs.1
      · subst e; exact hs.1
    · rw [getT_cons_ne e] at h
      exact refsOK_get hrest t y h

/-- Less is known. -/
theorem Gho.sub {σ σ' : St} (h1 : subFr σ.fr σ'.fr) (h2 : subB σ.bx σ'.bx) (h3 : subB σ.rw σ'.rw) (h4 : refsOK σ'.bx σ'.rw σ'.fr) (h5 : σ'.ph = σ.ph) : Gho σ σ' := fun D G a w hr => by
  refine ⟨⟨G.F, fun s => if (getB s σ'.bx).isSome then G.β s else none, fun r n => if (getB r σ'.rw).isSome then G.J r n else none⟩, ?_⟩
  refine { hr with fr := ?_, ph := ?_, phF := ?_, phn := ?_, phl := ?_, bx := ?_, bk := ?_, rw := ?_, rk := ?_ }
  · intro t y ht
    have hok := refsOK_get h4 t y ht
    obtain ⟨x, hx, hle⟩ := subFr_get h1 t y ht
    · obtain ⟨v, hv, hrep⟩ := hr.fr t x hx
      refine ⟨v, hv, ?_⟩
      have := leAV_rep hle hrep
      cases y with
      | ref s n => obtain ⟨b, hb, e⟩ := this; exact ⟨b, by simp [hok.1 s n rfl, hb], e⟩
      | row r n => simp only [RepA, hok.2 r n rfl, if_true]; exact this
      | p x => exact this
      | agg cs => exact this
      | tup rs => exact this
      | xsl es => exact this
      | junk => trivial
  · rw [h5]; exact hr.ph
  · rw [h5]; exact hr.phF
  · rw [h5]; exact hr.phn
  · rw [h5]; exact hr.phl
  · intro s cs hs
    obtain ⟨b, hb, hbox⟩ := hr.bx s cs (subB_get h2 s cs hs)
    exact ⟨b, by simp [hs, hb], hbox⟩
  · intro s b e
    by_cases hs : (getB s σ'.bx).isSome = true
    · simp only [hs, if_true] at e
      obtain ⟨_, g1, g2, g3, g4⟩ := hr.bk s b e
      refine ⟨Option.isSome_iff_exists.1 hs, g1, g2, by rw [h5]; exact g3, fun s' h' => ?_⟩
      by_cases hs' : (getB s' σ'.bx).isSome = true
      · simp only [hs', if_true] at h'; exact g4 s' h'
      · simp only [hs'] at h'; cases h'
    · simp only [hs] at e; cases e
  · intro r T k es hs
    obtain ⟨v, xs, g1, g2, g3, g4, g5, g6⟩ := hr.rw r T k es (subB_get h3 r _ hs)
    refine ⟨v, xs, by simp [hs, g1], g2, g3, g4, g5, fun b hb => ?_⟩
    obtain ⟨q1, q2, q3, q4⟩ := g6 b hb
    refine ⟨q1, by rw [h5]; exact q2, fun s e => ?_, fun r' T' k' es' v' hr' hv' hb' => ?_⟩
    · by_cases hs' : (getB s σ'.bx).isSome = true
      · simp only [hs', if_true] at e; exact q3 s e
      · simp only [hs'] at e; cases e
    · simp only [hr', Option.isSome_some, if_true] at hv'
      exact q4 r' T' k' es' v' (subB_get h3 r' _ hr') hv' hb'
  · intro r n v hv
    by_cases hs : (getB r σ'.rw).isSome = true
    · simp only [hs, if_true] at hv
      obtain ⟨T, k, es, g1, g2⟩ := hr.rk r n v hv
      obtain ⟨y, hy⟩ := Option.isSome_iff_exists.1 hs
      have := subB_get h3 r y hy
      rw [g1] at this; cases this
      exact ⟨T, k, es, hy, g2⟩
    · simp only [hs] at hv; cases hv

/-- A nil slice is a row without elements. -/
def St.mkRow (σ : St) (s r T k : Nat) : St := ⟨(s, .row r 0) :: σ.fr, σ.bx, (r, T, k, []) :: σ.rw, σ.ph⟩
theorem Gho.mkRow {s r T k : Nat} (h1 : getT s σ.fr = some (.p (.val (.slice none 0 0)))) (h2 : getB r σ.rw = none) : Gho σ (σ.mkRow s r T k) := fun D G a w hr => by
  obtain ⟨v, hv, hrep⟩ := hr.fr s _ h1
  have hvn := repA_val hrep
  subst hvn
  have hrel := hr.addRow (r := r) h2 (T := T) (k := k) (es := []) (v := .slice none 0 0) (xs := []) (w' := w) (Kept.refl _ w) (World.ownsRow_nil w _ T k) (by intro e he; cases he) (by simp) .nil (by intro b hb; cases hb)
  refine ⟨_, { hrel with fr := ?_ }⟩
  intro t av ht
  by_cases e : t = s
  · subst e
    have ht' : getT t ((t, AV.row r 0) :: σ.fr) = some av := ht
    rw [getT_cons_self] at ht'; cases ht'
    exact ⟨_, hv, by simp [RepA]⟩
  · have ht' : getT t ((s, AV.row r 0) :: σ.fr) = some av := ht
    rw [getT_cons_ne e] at ht'
    exact hrel.fr t av ht'

end Go.Am
