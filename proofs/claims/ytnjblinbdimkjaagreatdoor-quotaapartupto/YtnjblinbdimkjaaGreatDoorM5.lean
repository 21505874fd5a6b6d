/-
  bursarlaw18.QuotaApart answers true and leaves its arguments as they were, for inputs of bulk at most 1048576 (the given second form; no other condition). Part 5 of 26 of the proof.
-/
import Derived.Test.YtnjblinbdimkjaaGreatDoorM4
/-
  AM: all of it: operations, regions, code, functions.
-/
namespace Go.Am
open Go

variable {P : Program} {gl : Nat → Option (List PV)} {D : Base} {G : Gh} {σ : St} {a : Act} {w : World}
variable {o : Oper} {K : AV → St → Prop} {next : Act → World → Prop} {Q : Exit → Act → World → Prop}

theorem lenqA_inv {x : AV} (h : lenqA x σ K) : (∃ es n, x = .p (.sl es n) ∧ K (.p (.val (.int .i64 n))) σ) ∨ (∃ ao n c, x = .p (.val (.slice ao n c)) ∧ K (.p (.val (.int .i64 n))) σ) := by
  unfold lenqA at h
  split at h
  · exact .inl ⟨_, _, rfl, h⟩
  · exact .inr ⟨_, _, _, rfl, h⟩
  · exact h.elim

theorem lenqA_len {x : AV} (h : lenqA x σ K) : lenA x σ K := by
  rcases lenqA_inv h with ⟨es, n, rfl, h⟩ | ⟨_, _, _, rfl, h⟩
  · exact fun _ => h
  · exact h

theorem rvs_args {f : FuncId} : ∀ (l : List AV) (acc rs : List RV), rvs l = some rs → callS P gl f (acc.reverse ++ rs) σ K → argsA P gl f l acc σ K
  | [], acc, rs, h, hc => by
    simp only [rvs, Option.some.injEq] at h; subst h
    rw [List.append_nil] at hc; exact hc
  | .p x :: l, acc, rs, h, hc => by
    simp only [rvs] at h
    cases hl : rvs l with
    | none => simp [hl] at h
    | some r =>
      simp only [hl, Option.map_some, Option.some.injEq] at h; subst h
      exact rvs_args l (.p (nilSl x) :: acc) r hl (by simpa using hc)
  | .agg cs :: l, acc, rs, h, hc => by
    simp only [rvs] at h
    cases hl : rvs l with
    | none => simp [hl] at h
    | some r =>
      simp only [hl, Option.map_some, Option.some.injEq] at h; subst h
      exact rvs_args l (.agg cs :: acc) r hl (by simpa using hc)
  | .xsl es :: l, acc, rs, h, hc => by
    simp only [rvs] at h
    cases hl : rvs l with
    | none => simp [hl] at h
    | some r =>
      simp only [hl, Option.map_some, Option.some.injEq] at h; subst h
      exact rvs_args l (.p (.sl es es.length) :: acc) r hl (by simpa using hc)
  | .tup _ :: _, _, _, h, _ => by cases h
  | .ref _ _ :: _, _, _, h, _ => by cases h
  | .row _ _ :: _, _, _, h, _ => by cases h
  | .junk :: _, _, _, h, _ => by cases h

theorem frz1_rel (hr : Rel D G σ a w) (x : Opd) : ∃ G', Rel D G' (frz1 x σ) a w := by
  unfold frz1 frzV
  split
  · split
    · rename_i T k es hs
      obtain ⟨_, G', _, h, _⟩ := hr.freezeRow hs
      exact ⟨G', h⟩
    · exact ⟨G, hr⟩
  · exact ⟨G, hr⟩

theorem frzL_rel : ∀ (ps : List (Nat × Nat × Opd)) {G : Gh} {σ : St}, Rel D G σ a w → ∃ G', Rel D G' (frzL ps σ) a w
  | [], G, _, hr => ⟨G, hr⟩
  | (_, _, x) :: l, _, _, hr => by
    obtain ⟨G1, h1⟩ := frz1_rel hr x
    exact frzL_rel l h1

theorem aop_sound0 (hr : Rel D G σ a w) (hgl : D.gl = gl) (h : aop P gl (dstN o.dst) (trOp0 P gl o.op) σ K) (hn : Nxt D o a K next) : o.wp P a w next Q := by
  cases hop : o.op with
  | move x => rw [hop] at h; exact sound_mov (.inl hop) hr hgl h hn
  | assign x => rw [hop] at h; exact sound_mov (.inr hop) hr hgl h hn
  | pick c x y => rw [hop] at h; exact sound_pick hop hr hgl h hn
  | alloc T =>
    rw [hop] at h; simp only [trOp0] at h
    split at h
    · split at h
      · rename_i hz _ _ hl
        exact sound_alloc (d := dstN o.dst) hop hz hl hr h hn
      · exact h.elim
    · exact h.elim
  | box T x => rw [hop] at h; obtain ⟨G1, hr1⟩ := frz1_rel hr (trO gl x); exact sound_box (d := dstN o.dst) hop hr1 hgl h hn
  | build T ps =>
    rw [hop] at h; simp only [trOp0] at h
    split at h
    · rename_i fs z hu hz
      split at h
      · rename_i places hp
        split at h
        · rename_i r l ht hzs
          cases hi : P.info? T with
          | none => simp [hi] at hz
          | some ti =>
            obtain ⟨G1, hr1⟩ := frzL_rel _ hr
            exact sound_build hop hu hi (by simpa [hi] using hz) hp ht hzs hr1 hgl h hn
        · exact h.elim
      · exact h.elim
    · exact h.elim
  | buildSlice T n ps =>
    rw [hop] at h; simp only [trOp0] at h
    split at h
    · rename_i e hu
      split at h
      · rename_i i hi
        split at h
        · rename_i z hz
          split at h
          · rename_i r l ht hzs
            obtain ⟨G1, hr1⟩ := frzL_rel _ hr
            exact sound_bslice (d := dstN o.dst) hop hu hi hz ht hzs hr1 hgl h hn
          · exact h.elim
        · exact h.elim
      · exact h.elim
    · exact h.elim
  | load T x =>
    rw [hop] at h; simp only [trOp0] at h
    split at h
    · rename_i d i hd hi
      exact sound_load hop hd hi hr hgl h hn
    · exact h.elim
  | store T x y =>
    rw [hop] at h; simp only [trOp0] at h
    split at h
    · rename_i i hi
      obtain ⟨G1, hr1⟩ := frz1_rel hr (trO gl y)
      exact sound_store hop hi hr1 hgl h hn
    · exact h.elim
  | nilCheck x => rw [hop] at h; exact sound_chk hop hr hgl h hn
  | binOp op T x y T' =>
    rw [hop] at h; simp only [trOp0] at h
    unfold trBin at h
    split at h
    · rename_i fs hu
      split at h
      · rename_i hc
        split at h
        · rename_i ks hk
          exact sound_beq hop (.inl ⟨rfl, rfl⟩) hu hc.1 hc.2 hk hr hgl h hn
        · rename_i ks hk
          exact sound_beq hop (.inr ⟨rfl, rfl⟩) hu hc.1 hc.2 hk hr hgl h hn
        · exact h.elim
      · exact h.elim
    · rename_i e hu
      split at h
      · exact sound_isnil hop (.inl ⟨rfl, rfl⟩) hu hr hgl h hn
      · exact sound_isnil hop (.inr ⟨rfl, rfl⟩) hu hr hgl h hn
      · exact h.elim
    · split at h
      · exact sound_shf hop (.inl ⟨rfl, rfl⟩) hr hgl h hn
      · exact sound_shf hop (.inr ⟨rfl, rfl⟩) hr hgl h hn
      · exact sound_bin hop hr hgl h hn
  | unOp op T x => rw [hop] at h; exact sound_un hop hr hgl h hn
  | convert S T x =>
    rw [hop] at h; simp only [trOp0] at h
    split at h
    · rename_i k0 k hs ht
      exact sound_cv hop hs ht hr hgl h hn
    · rename_i hs ht
      exact sound_cvs hop hs ht hr hgl h hn
    · exact h.elim
  | fieldAddr T x f =>
    rw [hop] at h; simp only [trOp0] at h
    split at h
    · rename_i fs hu
      split at h
      · rename_i fd hf
        split at h
        · rename_i i hi
          split at h
          · exact h.elim
          · rename_i hz
            exact sound_fad hop hu hf hi hz hr hgl h hn
        · exact h.elim
      · exact h.elim
    · exact h.elim
  | field T x f =>
    rw [hop] at h; simp only [trOp0] at h
    split at h
    · rename_i fs hu
      split at h
      · rename_i fd hf
        split at h
        · rename_i d i hd hi
          exact sound_fld hop hu hf hd hi hr hgl h hn
        · exact h.elim
      · exact h.elim
    · exact h.elim
  | indexAddr T x i =>
    rw [hop] at h; simp only [trOp0] at h
    split at h
    · rename_i e hu
      split at h
      · rename_i ti hi
        exact sound_iad hop hu hi hr hgl h hn
      · exact h.elim
    · rename_i n e hu
      split at h
      · rename_i ti hi
        split at h
        · exact h.elim
        · exact sound_iada hop hu hi hr hgl h hn
      · exact h.elim
    · exact h.elim
  | index T x i =>
    rw [hop] at h; simp only [trOp0] at h
    split at h
    · rename_i hu
      exact sound_ixs hop hu hr hgl h hn
    · exact h.elim
  | slice T x lo hi mx =>
    rw [hop] at h; simp only [trOp0] at h
    cases mx with
    | some m =>
      simp only [trSlice] at h
      split at h
      · rename_i e y hu
        split at h
        · rename_i i hi'
          exact sound_slc3 hop hu hi' hr hgl h hn
        · exact h.elim
      · exact h.elim
    | none =>
      simp only [trSlice] at h
      split at h
      · rename_i hu
        exact sound_slcs hop hu hr hgl h hn
      · rename_i e hu
        split at h
        · rename_i i hi'
          obtain ⟨G1, hr1⟩ := frz1_rel hr (trO gl x)
          exact sound_slc hop hu hi' hr1 hgl h hn
        · exact h.elim
      · exact h.elim
  | extract x i => rw [hop] at h; exact sound_ext hop hr hgl h hn
  | makeFunc fn first caps =>
    rw [hop] at h; simp only [trOp0] at h
    unfold trMk at h
    split at h
    · rename_i f caps' hf
      have : first = #[] := by cases first; simp at hf; subst hf; rfl
      subst this
      exact sound_mkf hop hr hgl h hn
    · exact h.elim
  | call c =>
    rw [hop] at h; simp only [trOp0] at h
    obtain ⟨callee, args, ts⟩ := c
    cases callee with
    | value x =>
      cases x with
      | func f => exact sound_call hop hr hgl h hn
      | tmp t => exact sound_callv hop hr hgl h hn
      | const v => exact sound_callv hop hr hgl h hn
      | global g => exact sound_callv hop hr hgl h hn
    | invoke r m => exact h.elim
    | builtin b =>
      cases b with
      | len =>
        simp only [trCall] at h
        unfold trLen at h
        split at h
        · rename_i x T hx hT
          have e1 : args = #[x] := by cases args; simp at hx; subst hx; rfl
          have e2 : ts = #[T] := by cases ts; simp at hT; subst hT; rfl
          subst e1; subst e2
          split at h
          · rename_i hu; exact sound_lens hop hu hr hgl h hn
          · rename_i e hu; exact sound_len hop hu hr hgl h hn
          · exact h.elim
        · exact h.elim
      | max =>
        simp only [trCall] at h
        unfold trMm at h
        split at h
        · rename_i x y hx
          have e1 : args = #[x, y] := by cases args; simp at hx; subst hx; rfl
          subst e1
          exact sound_max hop hr hgl h hn
        · exact h.elim
      | min =>
        simp only [trCall] at h
        unfold trMm at h
        split at h
        · rename_i x y hx
          have e1 : args = #[x, y] := by cases args; simp at hx; subst hx; rfl
          subst e1
          exact sound_min hop hr hgl h hn
        · exact h.elim
      | append =>
        simp only [trCall] at h
        unfold trApp at h
        split at h
        · rename_i x y T T' hx hT
          have e1 : args = #[x, y] := by cases args; simp at hx; subst hx; rfl
          have e2 : ts = #[T, T'] := by cases ts; simp at hT; subst hT; rfl
          subst e1; subst e2
          split at h
          · rename_i e; subst e
            split at h
            · rename_i e hu
              split at h
              · rename_i i hi
                split at h
                · rename_i z hz
                  split at h
                  · rename_i hh; exact sound_app (d := dstN o.dst) hop hu hi hz hh.1 hh.2 hr hgl h hn
                  · exact h.elim
                · exact h.elim
              · exact h.elim
            · exact h.elim
          · exact h.elim
        · exact h.elim
      | _ => exact h.elim
  | _ => rw [hop] at h; exact h.elim

/-! ### regions -/
theorem guard_none {o : Oper} {y : Nat → Option Bool} (h : o.guard = none) : Region.wanted o y = true := by simp [Region.wanted, h]

theorem put_none (a : Act) (v : Value) : a.put none v = a := rfl

/-- One operation of a region, its guard with it. -/
theorem rvs_rep : ∀ (l : List AV) (rs : List RV) (vs : List Value), rvs l = some rs → All2 (RepA G) l vs → All2 (RepR G.F) rs vs
  | [], rs, _, h, .nil => by simp only [rvs, Option.some.injEq] at h; subst h; exact .nil
  | .p x :: l, rs, _, h, .cons hv ht => by
    simp only [rvs] at h
    cases hl : rvs l with
    | none => simp [hl] at h
    | some r =>
      simp only [hl, Option.map_some, Option.some.injEq] at h; subst h
      exact .cons (nilSl_rep hv) (rvs_rep l r _ hl ht)
  | .agg cs :: l, rs, _, h, .cons hv ht => by
    simp only [rvs] at h
    cases hl : rvs l with
    | none => simp [hl] at h
    | some r =>
      simp only [hl, Option.map_some, Option.some.injEq] at h; subst h
      exact .cons hv (rvs_rep l r _ hl ht)
  | .xsl es :: l, rs, _, h, .cons hv ht => by
    simp only [rvs] at h
    cases hl : rvs l with
    | none => simp [hl] at h
    | some r =>
      simp only [hl, Option.map_some, Option.some.injEq] at h; subst h
      exact .cons hv.1 (rvs_rep l r _ hl ht)
  | .tup _ :: _, _, _, h, _ => by cases h
  | .ref _ _ :: _, _, _, h, _ => by cases h
  | .row _ _ :: _, _, _, h, _ => by cases h
  | .junk :: _, _, _, h, _ => by cases h

theorem rvq_rep : ∀ (l : List AV) (rs : List RV) (vs : List Value), rvq l = some rs → All2 (RepA G) l vs → All2 (RepR G.F) rs vs
  | [], rs, _, h, .nil => by simp only [rvq, Option.some.injEq] at h; subst h; exact .nil
  | .p x :: l, rs, _, h, .cons hv ht => by
    simp only [rvq] at h
    cases hl : rvq l with
    | none => simp [hl] at h
    | some q => simp only [hl, Option.map_some, Option.some.injEq] at h; subst h; exact .cons hv (rvq_rep l q _ hl ht)
  | .agg x :: l, rs, _, h, .cons hv ht => by
    simp only [rvq] at h
    cases hl : rvq l with
    | none => simp [hl] at h
    | some q => simp only [hl, Option.map_some, Option.some.injEq] at h; subst h; exact .cons hv (rvq_rep l q _ hl ht)
  | .xsl x :: l, rs, _, h, .cons hv ht => by
    simp only [rvq] at h
    cases hl : rvq l with
    | none => simp [hl] at h
    | some q => simp only [hl, Option.map_some, Option.some.injEq] at h; subst h; exact .cons hv.1 (rvq_rep l q _ hl ht)
  | .tup _ :: _, _, _, h, _ => by cases h
  | .ref _ _ :: _, _, _, h, _ => by cases h
  | .row _ _ :: _, _, _, h, _ => by cases h
  | .junk :: _, _, _, h, _ => by cases h

theorem pargs_sound {op : Op} : ∀ (l : List AV) (acc : List RV) (G : Gh) (σ : St) (vs accv : List Value), pargs P op l acc σ K → Rel D G σ a w →
    All2 (fun av v => deadA σ av ∨ RepA G av v) l vs → All2 (RepR G.F) acc accv →
    ∃ G' σ' rs, primS P op rs σ' K ∧ Rel D G' σ' a w ∧ All2 (RepR G'.F) rs (accv.reverse ++ vs)
  | [], acc, G, σ, _, accv, h, hr, .nil, ha => by
    refine ⟨G, σ, acc.reverse, h, hr, ?_⟩
    rw [List.append_nil]
    have : ∀ {x : List RV} {y : List Value}, All2 (RepR G.F) x y → All2 (RepR G.F) x.reverse y.reverse := fun hxy => by
      induction hxy with
      | nil => exact .nil
      | cons h _ ih => rw [List.reverse_cons, List.reverse_cons]; exact ih.app (.cons h .nil)
    exact this ha
  | .p x :: l, acc, G, σ, _, accv, h, hr, @All2.cons _ _ _ _ v _ vs hv ht, ha => by
    have hv : RepP G.F x v := by rcases hv with hv | hv; exact hv.elim; exact hv
    obtain ⟨G', σ', rs, h1, h2, h3⟩ := pargs_sound l (.p x :: acc) G σ vs (v :: accv) h hr ht (.cons hv ha)
    exact ⟨G', σ', rs, h1, h2, by simpa using h3⟩
  | .agg cs :: l, acc, G, σ, _, accv, h, hr, @All2.cons _ _ _ _ v _ vs hv ht, ha => by
    have hv : RepA G (.agg cs) v := by rcases hv with hv | hv; exact hv.elim; exact hv
    obtain ⟨G', σ', rs, h1, h2, h3⟩ := pargs_sound l (.agg cs :: acc) G σ vs (v :: accv) h hr ht (.cons hv ha)
    exact ⟨G', σ', rs, h1, h2, by simpa using h3⟩
  | .xsl es :: l, acc, G, σ, _, accv, h, hr, @All2.cons _ _ _ _ v _ vs hv ht, ha => by
    have hv : RepA G (.xsl es) v := by rcases hv with hv | hv; exact hv.elim; exact hv
    obtain ⟨G', σ', rs, h1, h2, h3⟩ := pargs_sound l (.p (.sl es es.length) :: acc) G σ vs (v :: accv) h hr ht (.cons hv.1 ha)
    exact ⟨G', σ', rs, h1, h2, by simpa using h3⟩
  | .row r n :: l, acc, G, σ, _, accv, h, hr, @All2.cons _ _ _ _ v _ vs hv ht, ha => by
    simp only [pargs] at h
    split at h
    · rename_i T k es hs
      obtain ⟨rfl, h⟩ := h
      have hv : RepA G (.row r es.length) v := by
        rcases hv with hv | hv
        · simp only [deadA] at hv; rw [hs] at hv; cases hv
        · exact hv
      obtain ⟨v', G1, hJ, hr1, hle, hsl, hmono⟩ := hr.freezeRow hs
      simp only [RepA] at hv
      rw [hJ] at hv; cases hv
      have ht' : All2 (fun av v => deadA (σ.frzRow r es) av ∨ RepA G1 av v) l vs := ht.mono fun av v hav => by
        by_cases hq : ∃ m, av = .row r m
        · obtain ⟨m, e⟩ := hq; subst e; exact .inl (getB_delB_self _ _)
        · rcases hav with hav | hav
          · left
            cases av with
            | row s' n' =>
              by_cases e' : s' = r
              · subst e'; exact getB_delB_self _ _
              · show getB s' (delB r σ.rw) = _; rw [getB_delB_ne e']; exact hav
            | ref s' n' => exact hav
            | _ => exact hav.elim
          · exact .inr (hmono av v (fun m e => hq ⟨m, e⟩) hav)
      obtain ⟨G', σ', rs, h1, h2, h3⟩ := pargs_sound l (.p (.sl es es.length) :: acc) G1 _ vs (v :: accv) h hr1 ht' (.cons hsl (ha.mono fun _ _ => RepR.mono hle))
      exact ⟨G', σ', rs, h1, h2, by simpa using h3⟩
    · exact h.elim
  | .ref _ _ :: _, _, _, _, _, _, h, _, _, _ => h.elim
  | .tup _ :: _, _, _, _, _, _, h, _, _, _ => h.elim
  | .junk :: _, _, _, _, _, _, h, _, _, _ => h.elim

theorem sound_prim (hr : Rel D G σ a w) (hgl : D.gl = gl) (h : primA P o.op ((o.op.operands.toList.map (trO gl)).map (ev σ)) σ K) (hn : Nxt D o a K next) : o.wp P a w next Q := by
  obtain ⟨G, σ, rs, ⟨S, h2, h3⟩, hr, hrs⟩ := pargs_sound _ [] G σ _ [] h hr ((evs_rel hr hgl o.op.operands.toList).mono fun _ _ => .inr) .nil
  rw [List.reverse_nil, List.nil_append] at hrs
  obtain ⟨nx, v, w', hrun, hnx, r, φ', F', g1, g2, g3, g4, g5, g6, g7, g8, g9, g10⟩ := h2.runs rs σ.ph _ h3 o a.eval G.F w rfl hr.fc hr.ph hr.phF hr.phl hrs
  have hrel := hr.step g3 g5 g4 g6 g7 g8 g9 g10
  rcases hnx with rfl | ⟨rfl, rfl⟩
  · exact wp_value hrun (hn _ _ r.av _ _ hrel (out_A (G := ⟨F', G.β, G.J⟩) g2) g1)
  · exact wp_skip' hrun (hn _ _ r.av _ _ hrel (out_A (G := ⟨F', G.β, G.J⟩) g2) g1)

theorem sound_primq (hr : Rel D G σ a w) (hgl : D.gl = gl) (h : primqA P o.op ((o.op.operands.toList.map (trO gl)).map (ev σ)) σ K) (hn : Nxt D o a K next) : o.wp P a w next Q := by
  obtain ⟨rs, h1, S, r, h2, h3, h4⟩ := h
  have hrs := rvq_rep _ _ _ h1 (evs_rel hr hgl o.op.operands.toList)
  obtain ⟨nx, v, w', hrun, hnx, r, φ', F', ⟨rfl, rfl⟩, g2, g3, g4, g5, g6, g7, g8, g9, g10⟩ := h2.runs rs σ.ph _ h3 o a.eval G.F w rfl hr.fc hr.ph hr.phF hr.phl hrs
  have hrel := hr.step g3 g5 g4 g6 g7 g8 g9 g10
  rcases hnx with rfl | ⟨rfl, rfl⟩
  · exact wp_value hrun (hn _ _ r.av _ _ hrel (out_A (G := ⟨F', G.β, G.J⟩) g2) h4)
  · exact wp_skip' hrun (hn _ _ r.av _ _ hrel (out_A (G := ⟨F', G.β, G.J⟩) g2) h4)

theorem aop_sound (hr : Rel D G σ a w) (hgl : D.gl = gl) (h : aop P gl (dstN o.dst) (trOp P gl o.dst o.op) σ K) (hn : Nxt D o a K next) : o.wp P a w next Q := by
  unfold trOp at h
  split at h
  · exact sound_prim hr hgl h hn
  · split at h
    · exact sound_prim hr hgl h hn
    · exact aop_sound0 hr hgl h hn

theorem oper_step {ops : Array Oper} {N : St → Prop} {o : Oper} {ao : AOper} {X : Act → World → Prop} (e1 : ao.dst = o.dst) (hlt : ∀ d, o.dst = some d → d < D.n) (hg : trGuard ops D.n o.guard = some ao.guard)
    (hop : ∀ (G : Gh) (σ : St) (a : Act) (w : World) (K : AV → St → Prop), Rel D G σ a w → aop P gl (dstN ao.dst) ao.op σ K → Nxt D o a K X → o.wp P a w X Q)
    (hr : Rel D G σ a w) (h : aoper P gl ao N σ) (hX : ∀ G' σ' a' w', Rel D G' σ' a' w' → N σ' → X a' w') :
    if Region.wanted o (yielded ops a.tmps) = true then o.wp P a w X Q else X (a.put o.dst undef) w := by
  have putR : ∀ G' σ' av v w' (a : Act), Rel D G' σ' a w' → RepA G' av v → putK o.dst N av σ' → X (a.put o.dst v) w' := fun G' σ' av v w' a hr' hav hK => by
    cases hd : o.dst with
    | none => rw [hd] at hK; exact hX _ _ _ _ hr' hK
    | some d => rw [hd] at hK; exact hX _ _ _ _ (hr'.put (hlt d hd) hav) hK
  have yes : ∀ G (σ : St) a w, Rel D G σ a w → aoperY P gl ao N σ → o.wp P a w X Q := fun G σ a w hr h => by
    unfold aoperY at h
    refine hop G σ a w _ hr h (fun G' σ' av v w' hr' hav hK => ?_)
    rw [e1] at hK
    exact putR G' σ' av v w' a hr' hav hK
  have no : ∀ G (σ : St) a w, Rel D G σ a w → aoperN ao N σ → X (a.put o.dst undef) w := fun G σ a w hr h => by
    unfold aoperN at h
    rw [e1] at h
    exact putR G σ (.tup []) undef w a hr ⟨[], rfl, .nil⟩ h
  unfold aoper at h
  cases hog : o.guard with
  | none =>
    simp only [hog, trGuard, Option.some.injEq] at hg
    rw [← hg] at h
    rw [if_pos (guard_none hog)]
    exact yes G σ a w hr h
  | some jw =>
    obtain ⟨j, want⟩ := jw
    simp only [hog, trGuard] at hg
    split at hg
    · rename_i s hs
      split at hg
      · rename_i hsn
        simp only [Option.some.injEq] at hg
        rw [← hg] at h
        simp only [aguard] at h
        have hy : yielded ops a.tmps j = match a.tmps[s]? with | some (.bool b) => some b | _ => none := by
          simp only [yielded, hs, Option.bind_some]
          rfl
        split at h
        · rename_i b hgt
          obtain ⟨v, hv, hrep⟩ := hr.fr s _ hgt
          have hvb := repA_bool hrep
          subst hvb
          have hyb : yielded ops a.tmps j = some b := by rw [hy, hv]
          -- the slot holds what it held
          have hself : ∀ c : Bool, b = c → Rel D G (σ.put s (.p (.val (.bool c)))) a w := fun c hc => by
            subst hc
            have := hr.put hsn hrep
            have ea : a.put (some s) (.bool b) = a := by
              simp only [Act.put]
              have : a.tmps.setIfInBounds s (.bool b) = a.tmps := by
                apply Array.ext_getElem?
                intro q
                by_cases hq : s = q
                · subst hq
                  rw [Array.getElem?_setIfInBounds_self]
                  have : s < a.tmps.size := by rw [hr.sz]; exact hsn
                  simp only [this, if_true]; exact hv.symm
                · rw [Array.getElem?_setIfInBounds_ne hq]
              rw [this]
            rwa [ea] at this
          by_cases hbw : b = want
          · have : Region.wanted o (yielded ops a.tmps) = true := by simp [Region.wanted, hog, hyb, hbw]
            rw [if_pos this]
            exact yes G _ a w (hself want hbw) (h.1 hbw)
          · have hbn : b = !want := by cases b <;> cases want <;> simp_all
            have : ¬ (Region.wanted o (yielded ops a.tmps) = true) := by simp [Region.wanted, hog, hyb, hbw]
            rw [if_neg this]
            exact no G _ a w (hself (!want) hbn) (h.2 hbn)
        · rename_i l hgt
          obtain ⟨v, hv, vs, hvt, _⟩ := hr.fr s _ hgt
          subst hvt
          have : ¬ (Region.wanted o (yielded ops a.tmps) = true) := by simp [Region.wanted, hog, hy, hv]
          rw [if_neg this]
          exact no G σ a w hr h
        · exact h.elim
      · cases hg
    · cases hg

theorem trOper_spec {ops : Array Oper} {n : Nat} {o : Oper} {ao : AOper} (h : trOper P gl n ops o = some ao) : ao.dst = o.dst ∧ trGuard ops n o.guard = some ao.guard ∧ ao.op = trOp P gl o.dst o.op ∧ (∀ d, o.dst = some d → d < n) := by
  unfold trOper at h
  split at h
  · cases h
  · rename_i g hg
    split at h
    · rename_i hd
      simp only [Option.some.injEq] at h
      subst h
      exact ⟨hd.symm, hg, rfl, fun d e => by rw [hd] at e; cases e⟩
    · rename_i d hd
      split at h
      · rename_i hlt
        simp only [Option.some.injEq] at h
        subst h
        exact ⟨hd.symm, hg, rfl, fun d' e => by rw [hd] at e; cases e; exact hlt⟩
      · cases h

theorem oper_step' {ops : Array Oper} {N : St → Prop} {o : Oper} {ao : AOper} {X : Act → World → Prop} (htr : trOper P gl D.n ops o = some ao) (hr : Rel D G σ a w) (hgl : D.gl = gl) (h : aoper P gl ao N σ)
    (hX : ∀ G' σ' a' w', Rel D G' σ' a' w' → N σ' → X a' w') :
    if Region.wanted o (yielded ops a.tmps) = true then o.wp P a w X Q else X (a.put o.dst undef) w := by
  obtain ⟨e1, e2, e3, e4⟩ := trOper_spec htr
  refine oper_step e1 e4 e2 (fun G σ a w K hr h hn => ?_) hr h hX
  rw [e1, e3] at h
  exact aop_sound hr hgl h hn

theorem opers_sound {ops : Array Oper} {N : St → Prop} : ∀ (l : List Oper) (is : List Nat) (al : List AOper) (G : Gh) (σ : St) (a : Act) (w : World), (is.map (ops[·]?) = l.map some) → trOpers P gl D.n ops l = some al →
    Rel D G σ a w → D.gl = gl → aops P gl al N σ → (∀ G' σ' a' w', Rel D G' σ' a' w' → N σ' → Q .normal a' w') → wpOps P ops Q is a w
  | [], is, al, G, σ, a, w, his, htr, hr, _, h, hQ => by
    have : is = [] := by simpa using his
    subst this
    simp only [trOpers, Option.some.injEq] at htr
    subst htr
    exact hQ G σ a w hr h
  | o :: l, is, al, G, σ, a, w, his, htr, hr, hgl, h, hQ => by
    cases is with
    | nil => simp at his
    | cons i is =>
      simp only [List.map_cons, List.cons.injEq] at his
      obtain ⟨ho, his⟩ := his
      simp only [trOpers] at htr
      split at htr
      · rename_i ao ar hao har
        simp only [Option.some.injEq] at htr
        subst htr
        have := oper_step' (Q := Q) (X := wpOps P ops Q is) hao hr hgl h (fun G' σ' a' w' hr' h' => opers_sound l is ar G' σ' a' w' his har hr' hgl h' hQ)
        simp only [wpOps, ho]
        split at this
        · rename_i hw; rw [if_pos hw]; exact .inl this
        · rename_i hw; rw [if_neg hw]; exact this
      · cases htr

end Go.Am

/-
  AM: regions that draw their order.
-/
namespace Go.Am
open Go

variable {P : Program} {gl : Nat → Option (List PV)} {D : Base} {G : Gh} {σ : St} {a : Act} {w : World}
variable {o : Oper} {K : AV → St → Prop} {next : Act → World → Prop} {Q : Exit → Act → World → Prop}

theorem ev_congr {σ σ' : St} : ∀ {x : Opd}, (∀ t ∈ opdS [x], getT t σ'.fr = getT t σ.fr) → ev σ' x = ev σ x
  | .t n, h => by simp only [ev]; rw [h n (by simp [opdS])]
  | .k _, _ => rfl
theorem evl_congr {σ σ' : St} : ∀ {xs : List Opd}, (∀ t ∈ opdS xs, getT t σ'.fr = getT t σ.fr) → xs.map (ev σ') = xs.map (ev σ)
  | [], _ => rfl
  | .t n :: l, h => by
    rw [List.map_cons, List.map_cons, evl_congr (fun t ht => h t (by simp [opdS, ht])), ev_congr (x := .t n) (fun t ht => h t (by simp [opdS] at ht ⊢; exact .inl ht))]
  | .k _ :: l, h => by
    rw [List.map_cons, List.map_cons, evl_congr (fun t ht => h t (by simp [opdS, ht]))]; rfl
theorem evo_congr {σ σ' : St} {x : Option Opd} (h : ∀ t ∈ optS x, getT t σ'.fr = getT t σ.fr) : x.map (ev σ') = x.map (ev σ) := by
  cases x with
  | none => rfl
  | some y =>
    cases y with
    | t n => simp only [Option.map_some, ev]; rw [h n (by simp [optS])]
    | k _ => rfl
theorem evs_congr {σ σ' : St} : ∀ {ps : List (Nat × Nat × Opd)}, (∀ t ∈ opdS (ps.map fun p => p.2.2), getT t σ'.fr = getT t σ.fr) → evs σ' ps = evs σ ps
  | [], _ => rfl
  | (o, k, x) :: l, h => by
    have e1 : ev σ' x = ev σ x := ev_congr (fun t ht => h t (by
      cases x with
      | t n => simp [opdS] at ht ⊢; exact .inl ht
      | k _ => simp [opdS] at ht))
    have e2 : evs σ' l = evs σ l := evs_congr (fun t ht => h t (by
      cases x with
      | t n => simp [opdS, ht]
      | k _ => simp [opdS, ht]))
    simp only [evs, e1, e2]

/-- each of them, with what it yields -/
theorem bin_q {op : BinOp} {x y : AV} {σ : St} {K : AV → St → Prop} (h : binA op x y σ K) : ∃ av, (∀ (σ' : St) (K' : AV → St → Prop), K' av σ' → binA op x y σ' K') ∧ K av σ := by
  rcases binA_inv h with ⟨k, i, j, rfl, rfl, h⟩ | ⟨i, j, rfl, rfl, h⟩
  · unfold binA at h
    have h := h.2
    cases op <;> first | exact h.elim | exact ⟨_, fun σ' K' hk => (by unfold binA; exact ⟨rfl, hk⟩), h⟩ | exact ⟨_, fun σ' K' hk => (by unfold binA; exact ⟨rfl, h.1, hk⟩), h.2⟩
  · unfold binA at h
    cases op <;> first | exact h.elim | exact ⟨_, fun σ' K' hk => (by unfold binA; exact hk), h⟩ | exact ⟨_, fun σ' K' hk => (by unfold binA; exact ⟨h.1, hk⟩), h.2⟩

theorem chkA_q {x : AV} {σ : St} {K : AV → St → Prop} (h : chkA x σ K) : K x σ ∧ ∀ (σ' : St) (K' : AV → St → Prop), K' x σ' → chkA x σ' K' := by
  unfold chkA at h
  split at h
  · exact ⟨h, fun _ _ h => h⟩
  · exact ⟨h, fun _ _ h => h⟩
  · exact ⟨h, fun _ _ h => h⟩
  · exact ⟨h, fun _ _ h => h⟩
  · exact h.elim

/-- The one law of quiet operations. -/
theorem quiet_law {d : Nat} {op : AOp} (hq : quietQ op = true) (h : aop P gl d op σ K) : ∃ av, K av σ ∧
    ∀ (σ' : St) (K' : AV → St → Prop), (∀ t ∈ slotsOp op, getT t σ'.fr = getT t σ.fr) → (∀ agg k x s n, op = .load agg k x → ev σ x = .ref s n → getB s σ'.bx = getB s σ.bx) → σ'.ph = σ.ph →
      K' av σ' → aop P gl d op σ' K' := by
  cases op with
  | mov x => exact ⟨_, h, fun σ' K' h1 _ _ hk => by simp only [aop]; rw [ev_congr h1]; exact hk⟩
  | pick c x y =>
    obtain ⟨b, e, h1, h2⟩ := pickA_inv h
    have hev : ∀ σ' : St, (∀ t ∈ opdS [c, x, y], getT t σ'.fr = getT t σ.fr) → ev σ' c = ev σ c ∧ ev σ' x = ev σ x ∧ ev σ' y = ev σ y := fun σ' hs => by
      have := evl_congr hs
      simpa using this
    cases b with
    | true => exact ⟨_, h1 rfl, fun σ' K' hs _ _ hk => by
        obtain ⟨e1, e2, e3⟩ := hev σ' hs
        simp only [aop]; rw [e1, e2, e3, e]; exact ⟨fun _ => hk, (fun h => by cases h)⟩⟩
    | false => exact ⟨_, h2 rfl, fun σ' K' hs _ _ hk => by
        obtain ⟨e1, e2, e3⟩ := hev σ' hs
        simp only [aop]; rw [e1, e2, e3, e]; exact ⟨(fun h => by cases h), fun _ => hk⟩⟩
  | buildq zs ps =>
    simp only [aop, buildA] at h
    split at h
    · rename_i cs hf
      exact ⟨_, h, fun σ' K' hs _ _ hk => by simp only [aop, buildA]; rw [evs_congr hs, hf]; exact hk⟩
    · exact h.elim
  | load agg k x =>
    obtain ⟨h0, h⟩ := loadA_inv h
    rcases h with ⟨s, off, cs, e, hb, hl, hk⟩ | ⟨cs, e, hl, hk⟩ | ⟨b, off, cs, e, hl, hk⟩
    · refine ⟨_, hk, fun σ' K' hs hB _ hk' => ?_⟩
      simp only [aop]
      rw [ev_congr hs, e]
      have hx : getB s σ'.bx = getB s σ.bx := hB agg k x s off rfl e
      simp only [loadA, hx, hb]
      exact ⟨hl, h0, hk'⟩
    · exact ⟨_, hk, fun σ' K' hs _ _ hk' => by simp only [aop]; rw [ev_congr hs, e]; exact ⟨hl, h0, hk'⟩⟩
    · exact ⟨_, hk, fun σ' K' hs _ hp hk' => by simp only [aop]; rw [ev_congr hs, e]; exact ⟨cs, by rw [hp]; exact hl, h0, hk'⟩⟩
  | chk x =>
    obtain ⟨hK, hi⟩ := chkA_q h
    exact ⟨_, hK, fun σ' K' hs _ _ hk => by simp only [aop]; rw [ev_congr hs]; exact hi σ' K' hk⟩
  | bin op T x y =>
    obtain ⟨av, h1, h2⟩ := bin_q h
    exact ⟨av, h2, fun σ' K' hs _ _ hk => by
      have := evl_congr (xs := [x, y]) hs
      simp only [List.map_cons, List.map_nil, List.cons.injEq, and_true] at this
      simp only [aop]; rw [this.1, this.2]; exact h1 σ' K' hk⟩
  | un op x =>
    rcases unA_inv h with ⟨b, rfl, e, hK⟩ | ⟨k, n, rfl, e, hK⟩
    · exact ⟨_, hK, fun σ' K' hs _ _ hk => by simp only [aop]; rw [ev_congr hs, e]; exact hk⟩
    · exact ⟨_, hK, fun σ' K' hs _ _ hk => by simp only [aop]; rw [ev_congr hs, e]; exact hk⟩
  | cv k x =>
    obtain ⟨k', n, e, hK⟩ := cvA_inv h
    exact ⟨_, hK, fun σ' K' hs _ _ hk => by simp only [aop]; rw [ev_congr hs, e]; exact hk⟩
  | cvs x =>
    obtain ⟨s, e, hK⟩ := cvsA_inv h
    exact ⟨_, hK, fun σ' K' hs _ _ hk => by simp only [aop]; rw [ev_congr hs, e]; exact hk⟩
  | fad f x =>
    rcases fadA_inv h with ⟨s, off, e, hK⟩ | ⟨cs, e, hK⟩ | ⟨b, off, e, hK⟩
    · exact ⟨_, hK, fun σ' K' hs _ _ hk => by simp only [aop]; rw [ev_congr hs, e]; exact hk⟩
    · exact ⟨_, hK, fun σ' K' hs _ _ hk => by simp only [aop]; rw [ev_congr hs, e]; exact hk⟩
    · exact ⟨_, hK, fun σ' K' hs _ _ hk => by simp only [aop]; rw [ev_congr hs, e]; exact hk⟩
  | iad k x i =>
    rcases iadA_inv h with ⟨es, n, kk, ix, e, e1, e2, h0, h1, h2, h3, hK⟩ | ⟨b, off, n, c, kk, ix, e1, e2, h0, h1, hK⟩
    · exact ⟨_, hK, fun σ' K' hs _ _ hk => by
        have := evl_congr (xs := [x, i]) hs
        simp only [List.map_cons, List.map_nil, List.cons.injEq, and_true] at this
        simp only [aop]; rw [this.1, this.2, e1, e2]; exact ⟨h0, h1, e, h2, h3, hk⟩⟩
    · exact ⟨_, hK, fun σ' K' hs _ _ hk => by
        have := evl_congr (xs := [x, i]) hs
        simp only [List.map_cons, List.map_nil, List.cons.injEq, and_true] at this
        simp only [aop]; rw [this.1, this.2, e1, e2]; exact ⟨h0, h1, hk⟩⟩
  | ixs x i =>
    obtain ⟨s, k, n, e1, e2, h0, h1, hK⟩ := ixsA_inv h
    exact ⟨_, hK, fun σ' K' hs _ _ hk => by
      have := evl_congr (xs := [x, i]) hs
      simp only [List.map_cons, List.map_nil, List.cons.injEq, and_true] at this
      simp only [aop]; rw [this.1, this.2, e1, e2]; exact ⟨h0, h1, hk⟩⟩
  | slcq k x lo hi =>
    obtain ⟨es, n, l, u, e, hl, hh, h0, h1, h2, h3, hK⟩ := slcA_inv h
    exact ⟨_, hK, fun σ' K' hs _ _ hk => by
      simp only [slotsOp, List.mem_append] at hs
      simp only [aop]; rw [ev_congr (fun t ht => hs t (.inl (.inl ht))), evo_congr (fun t ht => hs t (.inl (.inr ht))), evo_congr (fun t ht => hs t (.inr ht)), e]
      simp only [slcA, hl, hh]; exact ⟨h0, h1, h2, h3, hk⟩⟩
  | slcs x lo hi =>
    obtain ⟨s, l, u, e, hl, hh, h1, h2, h3, hK⟩ := slcsA_inv h
    exact ⟨_, hK, fun σ' K' hs _ _ hk => by
      simp only [slotsOp, List.mem_append] at hs
      simp only [aop]; rw [ev_congr (fun t ht => hs t (.inl (.inl ht))), evo_congr (fun t ht => hs t (.inl (.inr ht))), evo_congr (fun t ht => hs t (.inr ht)), e]
      simp only [slcsA, hl, hh]; exact ⟨h1, h2, h3, hk⟩⟩
  | ext x i =>
    obtain ⟨l, r, e, hi, hK⟩ := extA_inv h
    exact ⟨_, hK, fun σ' K' hs _ _ hk => by
      simp only [aop]; rw [ev_congr hs, e]; simp only [extA, hi]
      cases r <;> exact hk⟩
  | slc3 k x hi mx =>
    obtain ⟨es, n, kk, kk', i, e1, e2, e3, h1, h2, h3, h4, hK⟩ := slc3A_inv h
    exact ⟨_, hK, fun σ' K' hs _ _ hk => by
      have := evl_congr (xs := [x, hi, mx]) hs
      simp only [List.map_cons, List.map_nil, List.cons.injEq, and_true] at this
      simp only [aop]; rw [this.1, this.2.1, this.2.2, e1, e2, e3]; exact ⟨h1, rfl, h2, h3, h4, hk⟩⟩
  | bslq T k n zs ps =>
    simp only [aop, bslqA] at h
    obtain ⟨h1, h2, h3, h4, h⟩ := h
    split at h
    · rename_i cs hf
      exact ⟨_, h, fun σ' K' hs _ _ hk => by simp only [aop, bslqA]; rw [evs_congr hs, hf]; exact ⟨h1, h2, h3, h4, hk⟩⟩
    · exact h.elim
  | iada k n x i =>
    obtain ⟨kk, ix, e2, h1, h2, h⟩ := iadaA_inv h
    have hev : ∀ σ' : St, (∀ t ∈ opdS [x, i], getT t σ'.fr = getT t σ.fr) → ev σ' x = ev σ x ∧ ev σ' i = ev σ i := fun σ' hs => by
      have := evl_congr hs
      simpa using this
    rcases h with ⟨cs, e1, hK⟩ | ⟨s, off, e1, hK⟩
    · exact ⟨_, hK, fun σ' K' hs _ _ hk => by simp only [aop]; rw [(hev σ' hs).1, (hev σ' hs).2, e1, e2]; exact ⟨h1, h2, hk⟩⟩
    · exact ⟨_, hK, fun σ' K' hs _ _ hk => by simp only [aop]; rw [(hev σ' hs).1, (hev σ' hs).2, e1, e2]; exact ⟨h1, h2, hk⟩⟩
  | beq neg ks x y =>
    obtain ⟨xs, ys, b, e1, e2, he, hK⟩ := beqA_inv h
    exact ⟨_, hK, fun σ' K' hs _ _ hk => by
      have := evl_congr (xs := [x, y]) hs
      simp only [List.map_cons, List.map_nil, List.cons.injEq, and_true] at this
      simp only [aop]; rw [this.1, this.2, e1, e2]; simp only [beqA, he]; exact hk⟩
  | fld agg k off x =>
    obtain ⟨cs, e, h1, h2, hK⟩ := fldA_inv h
    exact ⟨_, hK, fun σ' K' hs _ _ hk => by simp only [aop]; rw [ev_congr hs, e]; exact ⟨h1, h2, hk⟩⟩
  | mm mx x y =>
    obtain ⟨k, k', i, j, e1, e2, hK⟩ := mmA_inv h
    exact ⟨_, hK, fun σ' K' hs _ _ hk => by
      have := evl_congr (xs := [x, y]) hs
      simp only [List.map_cons, List.map_nil, List.cons.injEq, and_true] at this
      simp only [aop]; rw [this.1, this.2, e1, e2]; exact hk⟩
  | shf left x y =>
    obtain ⟨k, k', i, j, e1, e2, h0, hK⟩ := shfA_inv h
    exact ⟨_, hK, fun σ' K' hs _ _ hk => by
      have := evl_congr (xs := [x, y]) hs
      simp only [List.map_cons, List.map_nil, List.cons.injEq, and_true] at this
      simp only [aop]; rw [this.1, this.2, e1, e2]; exact ⟨h0, hk⟩⟩
  | isnil neg x =>
    obtain ⟨b, e1, hK⟩ := isnilA_inv h
    exact ⟨_, hK, fun σ' K' hs _ _ hk => by simp only [aop]; rw [ev_congr hs]; simp only [isnilA, e1]; exact hk⟩
  | lens x =>
    obtain ⟨s, e, hK⟩ := lensA_inv h
    exact ⟨_, hK, fun σ' K' hs _ _ hk => by simp only [aop]; rw [ev_congr hs, e]; exact hk⟩
  | lenq x =>
    rcases lenqA_inv h with ⟨es, n, e, hK⟩ | ⟨_, _, _, e, hK⟩
    · exact ⟨_, hK, fun σ' K' hs _ _ hk => by simp only [aop]; rw [ev_congr hs, e]; exact hk⟩
    · exact ⟨_, hK, fun σ' K' hs _ _ hk => by simp only [aop]; rw [ev_congr hs, e]; exact hk⟩
  | primq op args =>
    obtain ⟨rs, h1, S, r, h2, h3, h4⟩ := h
    exact ⟨_, h4, fun σ' K' hs _ hp hk => ⟨rs, by rw [evl_congr hs]; exact h1, S, r, h2, by rw [hp]; exact h3, hk⟩⟩
  | callq f args =>
    obtain ⟨rs, h1, S, r, h2, h3, h4⟩ := h
    exact ⟨_, h4, fun σ' K' hs _ hp hk => ⟨rs, by rw [evl_congr hs]; exact h1, S, r, h2, by rw [hp]; exact h3, hk⟩⟩
  | _ => cases hq

end Go.Am

/-
  AM: regions that draw their order, two.
-/
namespace Go.Am
open Go

variable {P : Program} {gl : Nat → Option (List PV)} {D : Base} {G : Gh} {σ : St} {a : Act} {w : World}
variable {Q : Exit → Act → World → Prop}

theorem ancAll_pre : ∀ (l : List Oper) (acc : List (List Nat)), acc <+: ancAll l acc
  | [], _ => List.prefix_rfl
  | _ :: l, acc => (List.prefix_append acc _).trans (ancAll_pre l _)

theorem ancAll_get : ∀ (l : List Oper) (acc : List (List Nat)) (j : Nat) (o : Oper), l[j]? = some o →
    ∃ pre, pre <+: ancAll l acc ∧ pre.length = acc.length + j ∧ (ancAll l acc)[acc.length + j]? = some (ancOf pre o)
  | [], _, j, o, h => by simp at h
  | o0 :: l, acc, 0, o, h => by
    simp at h; subst h
    refine ⟨acc, ancAll_pre (o0 :: l) acc, rfl, ?_⟩
    have hp := ancAll_pre l (acc ++ [ancOf acc o0])
    obtain ⟨t, ht⟩ := hp
    show (ancAll l (acc ++ [ancOf acc o0]))[acc.length + 0]? = _
    rw [← ht, Nat.add_zero, List.append_assoc, List.getElem?_append_right (Nat.le_refl _)]
    simp
  | o0 :: l, acc, j + 1, o, h => by
    obtain ⟨pre, h1, h2, h3⟩ := ancAll_get l (acc ++ [ancOf acc o0]) j o (by simpa using h)
    refine ⟨pre, h1, by rw [h2]; simp; omega, ?_⟩
    have : (acc ++ [ancOf acc o0]).length + j = acc.length + (j + 1) := by simp; omega
    rw [← this]; exact h3

theorem backward_spec {ops : Array Oper} (h : backward ops.toList = true) {j : Nat} {o : Oper} (ho : ops[j]? = some o) : ∀ e ∈ o.after, Region.binds .any e = true → e.on < j := by
  intro e he hb
  unfold backward at h
  rw [List.all_eq_true] at h
  have hm : (o, j) ∈ ops.toList.zipIdx := by
    rw [List.mem_zipIdx_iff_getElem?]
    simpa using ho
  have := h _ hm
  simp only [Array.all_eq_true_iff_forall_mem] at this
  have := this e he
  simpa [hb] using this

/-- The listed are closed under what they wait for. -/
def ClosedL (ops : Array Oper) (listed : Array Bool) : Prop := ∀ j o, listed.getD j false = true → ops[j]? = some o → ∀ e ∈ o.after, Region.binds .any e = true → listed.getD e.on false = true

theorem anc_listed {ops : Array Oper} (hb : backward ops.toList = true) {listed : Array Bool} (hc : ClosedL ops listed) : ∀ (j : Nat) (o : Oper), ops[j]? = some o →
    (∀ e ∈ o.after, Region.binds .any e = true → listed.getD e.on false = true) → ∀ i ∈ anc ops j, listed.getD i false = true := by
  intro j
  induction j using Nat.strongRecOn with
  | _ j ih =>
    intro o ho hd i hi
    obtain ⟨pre, h1, h2, h3⟩ := ancAll_get ops.toList [] j o (by simpa using ho)
    simp only [List.length_nil, Nat.zero_add] at h2 h3
    have hj : anc ops j = ancOf pre o := by simp [anc, List.getD_eq_getElem?_getD, h3]
    rw [hj] at hi
    unfold ancOf at hi
    rw [List.mem_eraseDups, List.mem_flatMap] at hi
    obtain ⟨e, he, hi⟩ := hi
    rw [List.mem_filter] at he
    have hea : e ∈ o.after := by simpa using he.1
    have hlt := backward_spec hb ho e hea he.2
    have hl := hd e hea he.2
    rw [List.mem_cons] at hi
    rcases hi with rfl | hi
    · exact hl
    · have hp : pre.getD e.on [] = anc ops e.on := by
        obtain ⟨t, ht⟩ := h1
        have : (ancAll ops.toList [])[e.on]? = pre[e.on]? := by rw [← ht, List.getElem?_append_left (by omega)]
        simp [anc, List.getD_eq_getElem?_getD, this]
      rw [hp] at hi
      have hsz : e.on < ops.size := by
        have := (Array.getElem?_eq_some_iff.1 ho).1; omega
      have hoe : ops[e.on]? = some ops[e.on] := by simp [hsz]
      exact ih e.on hlt _ hoe (hc e.on _ hl hoe) i hi

/-! ### what the loose ones do -/
def DoesY (P : Program) (gl : Nat → Option (List PV)) (o : AOper) (σ : St) (av : AV) : Prop :=
  (∃ zs d, o.op = .alloc zs ∧ o.dst = some d ∧ getB d σ.bx = none ∧ av = .ref d 0) ∨
  (quietQ o.op = true ∧ ∀ (σ' : St) (K' : AV → St → Prop), (∀ t ∈ slotsOp o.op, getT t σ'.fr = getT t σ.fr) → (∀ agg k x s n, o.op = .load agg k x → ev σ x = .ref s n → getB s σ'.bx = getB s σ.bx) → σ'.ph = σ.ph →
      K' av σ' → aop P gl (dstN o.dst) o.op σ' K')

def Does (P : Program) (gl : Nat → Option (List PV)) (o : AOper) (σ : St) (av : AV) : Prop :=
  match o.guard with
  | none => DoesY P gl o σ av
  | some (s, want) => (getT s σ.fr = some (.p (.val (.bool want))) ∧ DoesY P gl o σ av) ∨ (((∃ l, getT s σ.fr = some (.tup l)) ∨ getT s σ.fr = some (.p (.val (.bool !want)))) ∧ av = .tup [])

/-- the state behind one of them -/
structure Aft (o : AOper) (σ : St) (av : AV) (σ' : St) : Prop where
  fr : ∀ t, getT t σ'.fr = if o.dst = some t then some av else getT t σ.fr
  bx : ∀ s, getB s σ'.bx = if o.dst = some s then (match o.op with | .alloc zs => some zs | _ => getB s σ.bx) else getB s σ.bx
  rw : σ'.rw = σ.rw
  ph : σ'.ph = σ.ph

theorem put_aft {o : AOper} {N : St → Prop} {av : AV} (hq : isAlloc o.op = false) (h : putK o.dst N av σ) : ∃ σ', Aft o σ av σ' ∧ N σ' := by
  have hbx : ∀ (σ' : St), σ'.bx = σ.bx → ∀ s, getB s σ'.bx = if o.dst = some s then (match o.op with | .alloc zs => some zs | _ => getB s σ.bx) else getB s σ.bx := fun σ' e s => by
    rw [e]
    split
    · split
      · rename_i zs ho; rw [ho] at hq; cases hq
      · rfl
    · rfl
  cases hd : o.dst with
  | none =>
    rw [hd] at h
    exact ⟨σ, ⟨fun t => by rw [hd]; rfl, hbx σ rfl, rfl, rfl⟩, h⟩
  | some d =>
    rw [hd] at h
    refine ⟨σ.put d av, ⟨fun t => ?_, hbx _ rfl, rfl, rfl⟩, h⟩
    rw [hd]
    by_cases e : d = t
    · subst e; simp [St.put, getT_cons_self]
    · rw [if_neg (by simpa using e)]; exact getT_cons_ne (Ne.symm e) _ _

theorem Aft.pre {o : AOper} {σ σ1 : St} {av : AV} {σ' : St} (h1 : ∀ t, getT t σ1.fr = getT t σ.fr) (h2 : σ1.bx = σ.bx) (h3 : σ1.rw = σ.rw) (h4 : σ1.ph = σ.ph) (h : Aft o σ1 av σ') : Aft o σ av σ' :=
  ⟨fun t => by rw [h.fr, h1], fun s => by rw [h.bx, h2], h.rw.trans h3, h.ph.trans h4⟩

theorem does_of {o : AOper} {N : St → Prop} (hkind : isAlloc o.op = true ∨ quietQ o.op = true) (ha : isAlloc o.op = true → o.guard = none ∧ o.dst.isSome = true) (h : aoper P gl o N σ) : ∃ av σ', Does P gl o σ av ∧ Aft o σ av σ' ∧ N σ' := by
  have hY : ∀ σ1 : St, aoperY P gl o N σ1 → (isAlloc o.op = true → o.dst.isSome = true) → (isAlloc o.op = true ∨ quietQ o.op = true) → ∃ av σ', DoesY P gl o σ1 av ∧ Aft o σ1 av σ' ∧ N σ' := fun σ1 h hd hk => by
    unfold aoperY at h
    rcases hk with hk | hk
    · cases hop : o.op with
      | alloc zs =>
        obtain ⟨d, hdd⟩ := Option.isSome_iff_exists.1 (hd hk)
        rw [hop, hdd] at h
        obtain ⟨hb, hN⟩ := h
        refine ⟨.ref d 0, ⟨(d, .ref d 0) :: σ1.fr, (d, zs) :: σ1.bx, σ1.rw, σ1.ph⟩, .inl ⟨zs, d, hop, hdd, hb, rfl⟩, ⟨fun t => ?_, fun s => ?_, rfl, rfl⟩, hN⟩
        · rw [hdd]
          by_cases e : d = t
          · subst e; simp [getT_cons_self]
          · rw [if_neg (by simpa using e)]; exact getT_cons_ne (Ne.symm e) _ _
        · rw [hdd]
          by_cases e : d = s
          · subst e; simp [getB_cons_self, hop]
          · rw [if_neg (by simpa using e)]; exact getB_cons_ne (Ne.symm e) _ _
      | _ => rw [hop] at hk; cases hk
    · obtain ⟨av, h1, h2⟩ := quiet_law hk h
      have hna : isAlloc o.op = false := by cases hop : o.op <;> first | rfl | (rw [hop] at hk; cases hk)
      obtain ⟨σ', h3, h4⟩ := put_aft hna h1
      exact ⟨av, σ', .inr ⟨hk, fun σ' K' a b c d => h2 σ' K' a b c d⟩, h3, h4⟩
  unfold aoper at h
  cases hg : o.guard with
  | none =>
    rw [hg] at h
    obtain ⟨av, σ', h1, h2, h3⟩ := hY σ h (fun e => (ha e).2) hkind
    exact ⟨av, σ', by unfold Does; rw [hg]; exact h1, h2, h3⟩
  | some sw =>
    obtain ⟨s, want⟩ := sw
    rw [hg] at h
    have hna : isAlloc o.op = false := by
      cases e : isAlloc o.op with
      | false => rfl
      | true => have := (ha e).1; rw [hg] at this; cases this
    simp only [aguard] at h
    split at h
    · rename_i b hb
      by_cases e : b = want
      · subst e
        have h' := h.1 rfl
        have hsame : ∀ t, getT t (σ.put s (.p (.val (.bool b)))).fr = getT t σ.fr := fun t => by
          by_cases e : t = s
          · subst e; rw [St.put, getT_cons_self, hb]
          · exact getT_cons_ne e _ _
        obtain ⟨av, σ', h1, h2, h3⟩ := hY _ h' (fun e => by rw [hna] at e; cases e) hkind
        refine ⟨av, σ', ?_, h2.pre hsame rfl rfl rfl, h3⟩
        unfold Does; rw [hg]
        refine .inl ⟨hb, ?_⟩
        rcases h1 with ⟨zs, d, e1, _⟩ | ⟨hq, h1⟩
        · rw [e1] at hna; cases hna
        · refine .inr ⟨hq, fun σ' K' a b c d => h1 σ' K' (fun t ht => by rw [hsame]; exact a t ht) (fun agg k x s n e1 e2 => b agg k x s n e1 ?_) c d⟩
          rw [ev_congr (σ := σ) (fun t _ => hsame t)] at e2; exact e2
      · have hbn : b = !want := by cases b <;> cases want <;> first | rfl | exact absurd rfl e
        have h' := h.2 hbn
        obtain ⟨σ', h2, h3⟩ := put_aft hna h'
        have hsame : ∀ t, getT t (σ.put s (.p (.val (.bool !want)))).fr = getT t σ.fr := fun t => by
          by_cases e : t = s
          · subst e; rw [St.put, getT_cons_self, hb, hbn]
          · exact getT_cons_ne e _ _
        refine ⟨.tup [], σ', ?_, h2.pre hsame rfl rfl rfl, h3⟩
        unfold Does; rw [hg]
        exact .inr ⟨.inr (by rw [hb, hbn]), rfl⟩
    · rename_i l hb
      obtain ⟨σ', h2, h3⟩ := put_aft hna h
      refine ⟨.tup [], σ', ?_, h2, h3⟩
      unfold Does; rw [hg]
      exact .inr ⟨.inl ⟨l, hb⟩, rfl⟩
    · exact h.elim

end Go.Am
