/-
  bursarlaw18.QuotaApart answers true and leaves its arguments as they were, for inputs of bulk at most 1048576 (the given second form; no other condition). Part 3 of 26 of the proof.
-/
import Derived.Test.YtnjblinbdimkjaaGreatDoorM2
import Derived.ArgAppend
/-
  AM: what makes memory.
-/
namespace Go.Am
open Go

variable {P : Program} {gl : Nat → Option (List PV)} {D : Base} {G : Gh} {σ : St} {a : Act} {w : World}
variable {o : Oper} {K : AV → St → Prop} {next : Act → World → Prop} {Q : Exit → Act → World → Prop}

theorem sound_slcs {T : TypeId} {x : Operand} {lo hi : Option Operand} (ho : o.op = .slice T x lo hi none) (hu : P.underlying T = some .string) (hr : Rel D G σ a w) (hgl : D.gl = gl)
    (h : slcsA (ev σ (trO gl x)) ((lo.map (trO gl)).map (ev σ)) ((hi.map (trO gl)).map (ev σ)) σ K) (hn : Nxt D o a K next) : o.wp P a w next Q := by
  have hx := hr.ev hgl x
  obtain ⟨s, l, u, e, hl, hh, h0, h1, h2, hK⟩ := slcsA_inv h
  rw [e] at hx
  have hb := run_bounds (P := P) (a := a) (w := w) (isS := false) (len := s.size) (cap := s.size) (bnd_run hr hgl hl) (bnd_run hr hgl hh) h0 h1 h2
  refine wp_value (v := .string (s.extract l.toNat u.toNat)) (w' := w) ?_ (hn _ _ _ _ _ hr (val_A rfl) hK)
  simp [execOp, ho, Instr.sliceAt, Instr.slice, repA_val hx, run_underlying hu, hb]

theorem sl_val {F : Facts} {es : List (List PV)} {n : Nat} {v : Value} (h : RepP F (.sl es n) v) : ∃ ao c, v = .slice ao n c ∧ es.length ≤ c ∧ n ≤ es.length ∧ n ≤ LIM := by
  cases h with
  | sl vs k hn hc hl => exact ⟨_, _, rfl, hc, hn, by omega⟩
  | nil => exact ⟨_, _, rfl, by simp, by simp, by simp⟩
  | nil0 => exact ⟨_, _, rfl, by simp, by simp, by simp⟩

theorem sound_slc {T e : TypeId} {x : Operand} {lo hi : Option Operand} {i : TypeInfo} (ho : o.op = .slice T x lo hi none) (hu : P.underlying T = some (.slice e)) (hi' : P.info? e = some i)
    (hr : Rel D G σ a w) (hgl : D.gl = gl) (h : slcA i.size (ev σ (trO gl x)) ((lo.map (trO gl)).map (ev σ)) ((hi.map (trO gl)).map (ev σ)) σ K) (hn : Nxt D o a K next) : o.wp P a w next Q := by
  have hx := hr.ev hgl x
  obtain ⟨es, n, l, u, e', hl, hh, hk, h0, h1, h2, hK⟩ := slcA_inv h
  rw [e'] at hx
  obtain ⟨ao, c, hv, hc, hnl, _⟩ := sl_val hx
  rw [hv] at hx
  have hb := run_bounds (P := P) (a := a) (w := w) (isS := true) (len := n) (cap := c) (bnd_run hr hgl hl) (bnd_run hr hgl hh) h0 h1 (by omega)
  have hs : (sizeOf e).run P w = .ok i.size w := by simp [sizeOf, typeInfo, hi']
  have hsub := sl_sub (F := G.F) hx hk (l := l.toNat) (u := u.toNat) (by omega) (by omega)
  have hul : u.toNat - l.toNat = (u - l).toNat := by omega
  rw [hul] at hsub
  refine wp_value (v := .slice (if c = l.toNat then ao else ao.map (·.add (l.toNat * i.size))) (u - l).toNat (c - l.toNat)) (w' := w) ?_ (hn _ _ (.p (.sl (es.drop l.toNat) (u - l).toNat)) _ _ hr hsub hK)
  simp [execOp, ho, Instr.sliceAt, Instr.slice, hv, run_underlying hu, hb, hs, hul]

theorem lensA_inv {x : AV} (h : lensA x σ K) : ∃ s, x = .p (.val (.string s)) ∧ K (.p (.val (.int .i64 s.size))) σ := by
  unfold lensA at h
  split at h
  · exact ⟨_, rfl, h⟩
  · exact h.elim

theorem sound_lens {T : TypeId} {x : Operand} (ho : o.op = .call { callee := .builtin .len, args := #[x], argTypes := #[T] }) (hu : P.underlying T = some .string) (hr : Rel D G σ a w) (hgl : D.gl = gl)
    (h : lensA (ev σ (trO gl x)) σ K) (hn : Nxt D o a K next) : o.wp P a w next Q := by
  have hx := hr.ev hgl x
  obtain ⟨s, e, hK⟩ := lensA_inv h
  rw [e] at hx
  refine wp_value (v := .int .i64 s.size) (w' := w) ?_ (hn _ _ _ _ _ hr (val_A rfl) hK)
  simp [execOp, ho, resolve, invoke, builtin, Builtin.len_, repA_val hx, run_underlying hu, goInt]

theorem lenA_inv {x : AV} (h : lenA x σ K) : (∃ es n, x = .p (.sl es n) ∧ (n ≤ LIM → K (.p (.val (.int .i64 n))) σ)) ∨ (∃ ao n c, x = .p (.val (.slice ao n c)) ∧ K (.p (.val (.int .i64 n))) σ) ∨
    (∃ r T k es, x = .row r es.length ∧ getB r σ.rw = some (T, k, es) ∧ (es.length ≤ LIM → K (.p (.val (.int .i64 es.length))) σ)) := by
  unfold lenA at h
  split at h
  · exact .inl ⟨_, _, rfl, h⟩
  · exact .inr (.inl ⟨_, _, _, rfl, h⟩)
  · split at h
    · obtain ⟨rfl, h⟩ := h
      exact .inr (.inr ⟨_, _, _, _, rfl, ‹_›, h⟩)
    · exact h.elim
  · exact h.elim

theorem sound_len {T e : TypeId} {x : Operand} (ho : o.op = .call { callee := .builtin .len, args := #[x], argTypes := #[T] }) (hu : P.underlying T = some (.slice e)) (hr : Rel D G σ a w) (hgl : D.gl = gl)
    (h : lenA (ev σ (trO gl x)) σ K) (hn : Nxt D o a K next) : o.wp P a w next Q := by
  have hx := hr.ev hgl x
  have fin : ∀ ao n c, a.eval x = .slice ao n c → K (.p (.val (.int .i64 n))) σ → o.wp P a w next Q := fun ao n c hv hK => by
    refine wp_value (v := .int .i64 n) (w' := w) ?_ (hn _ _ _ _ _ hr (val_A rfl) hK)
    simp [execOp, ho, resolve, invoke, builtin, Builtin.len_, hv, run_underlying hu, goInt]
  rcases lenA_inv h with ⟨es, n, e', h⟩ | ⟨ao, n, c, e', h⟩ | ⟨r, T', k, es, e', hb, h⟩
  · rw [e'] at hx
    obtain ⟨ao, c, hv, hc, hnl, hlim⟩ := sl_val hx
    exact fin ao n c hv (h hlim)
  · rw [e'] at hx
    exact fin _ _ _ (repA_val hx) h
  · rw [e'] at hx
    obtain ⟨v, xs, hJ, hown, _, hlim, _⟩ := hr.rw r T' k es hb
    have hv : a.eval x = v := by simp only [RepA] at hx; rw [hJ] at hx; cases hx; rfl
    rcases hown.2 with ⟨hvn, hz⟩ | ⟨g, cap, cur, hvn, _⟩
    · refine fin none es.length 0 ?_ (h hlim)
      rw [hv, hvn, hz]
    · exact fin _ _ _ (by rw [hv, hvn]) (h hlim)

/-! ### a literal's parts -/
theorem foldl_set (l : List Value) : ∀ (off n : Nat) (arr : Array Value), off + n + l.length ≤ arr.size →
    ((l.zipIdx n).foldl (fun cs (x : Value × Nat) => cs.setIfInBounds (off + x.2) x.1) arr).toList = arr.toList.take (off + n) ++ l ++ arr.toList.drop (off + n + l.length) := by
  induction l with
  | nil => intro off n arr _; simp
  | cons v l ih =>
    intro off n arr h
    simp only [List.zipIdx_cons, List.foldl_cons]
    rw [ih off (n + 1) _ (by simp at h ⊢; omega)]
    simp only [Array.toList_setIfInBounds]
    have e := list_seg_step arr.toList (off + n) v l (by simp at h ⊢; omega)
    simpa [Nat.add_assoc] using e

theorem fill_rep {place : Nat → Option (Nat × Nat)} : ∀ (ps : List (Nat × Value)) (aps : List (Nat × Nat × AV)) (cs cs' : List PV) (arr : Array Value),
    All2 (fun (q : Nat × Value) (p : Nat × Nat × AV) => place q.1 = some (p.1, p.2.1) ∧ RepA G p.2.2 q.2) ps aps → fillA cs aps = some cs' → RepL G.F cs arr.toList →
    ∃ arr', Instr.fill place arr ps = some arr' ∧ RepL G.F cs' arr'.toList
  | _, _, cs, cs', arr, .nil, hf, hr => by
    simp only [fillA, Option.some.injEq] at hf
    subst hf
    exact ⟨arr, rfl, hr⟩
  | _, _, cs, cs', arr, @All2.cons _ _ _ (i, v) (off, k, av) ps aps ⟨hp, hv⟩ ht, hf, hr => by
    simp only [fillA] at hf
    cases hc : cellsOf av with
    | none => simp [hc] at hf
    | some xs =>
      simp only [hc] at hf
      obtain ⟨l, hl, hrl⟩ := cellsOf_rep hv hc
      have hlen := hrl.len
      have hlc := hr.len
      by_cases hb : (Nat.beq xs.length k && Nat.ble (off + k) cs.length) = true
      · simp only [hb, cond_true] at hf
        simp only [Bool.and_eq_true, Nat.ble_eq] at hb
        obtain ⟨hb1, hb2⟩ := hb
        have hb1 := Nat.eq_of_beq_eq_true hb1
        have hsz : arr.size = arr.toList.length := by simp
        have hfold := foldl_set l off 0 arr (by omega)
        simp only [Nat.add_zero] at hfold
        have hrep : RepL G.F (splice cs off xs) (arr.toList.take off ++ l ++ arr.toList.drop (off + l.length)) := by
          unfold splice; rw [← hlen]
          exact ((hr.take off).app hrl).app (hr.drop _)
        rw [← hfold] at hrep
        obtain ⟨arr', h1, h2⟩ := fill_rep ps aps _ cs' _ ht hf hrep
        refine ⟨arr', ?_, h2⟩
        simp only [Instr.fill, hp, hl, List.size_toArray]
        have c1 : ¬ (l.length ≠ k ∨ off + l.length > arr.size) := by omega
        simp only [ne_eq, Bool.or_eq_true, decide_eq_true_eq, c1, if_false]
        rw [← h1]
        congr 1
        simp
      · have hb' : (Nat.beq xs.length k && Nat.ble (off + k) cs.length) = false := Bool.eq_false_iff.2 hb
        simp [hb'] at hf

end Go.Am

/-
  AM: literals, append, closures.
-/
namespace Go.Am
open Go

variable {P : Program} {gl : Nat → Option (List PV)} {D : Base} {G : Gh} {σ : St} {a : Act} {w : World}
variable {o : Oper} {K : AV → St → Prop} {next : Act → World → Prop} {Q : Exit → Act → World → Prop}

theorem trParts_rel {place : Nat → Option (Nat × Nat)} : ∀ (ps : List (Nat × Operand)) (r : List (Nat × Nat × Opd)), trParts gl place ps = some r →
    (hr : Rel D G σ a w) → (hgl : D.gl = gl) →
    All2 (fun (q : Nat × Value) (p : Nat × Nat × AV) => place q.1 = some (p.1, p.2.1) ∧ RepA G p.2.2 q.2) (ps.map fun q => (q.1, a.eval q.2)) (evs σ r)
  | [], r, h, _, _ => by
    simp only [trParts, Option.some.injEq] at h
    subst h; exact .nil
  | (i, x) :: ps, r, h, hr, hgl => by
    simp only [trParts] at h
    split at h
    · rename_i off k r' hp ht
      simp only [Option.some.injEq] at h
      subst h
      exact .cons ⟨hp, hr.ev hgl x⟩ (trParts_rel ps r' ht hr hgl)
    · cases h

theorem sound_build {T : TypeId} {ps : Array (Nat × Operand)} {fs : Array Field} {ti : TypeInfo} {z : Value} {places : List (Nat × Nat)} {r : List (Nat × Nat × Opd)} {zs : List PV} (ho : o.op = .build T ps)
    (hu : P.underlying T = some (.struct fs)) (hi : P.info? T = some ti) (hz : ti.zero = some z) (hp : fs.toList.mapM (fun f => (P.info? f.type).map fun i => (f.offset, i.size)) = some places)
    (ht : trParts gl (places.toArray[·]?) ps.toList = some r) (hzs : pvs z.cells.toList = some zs) (hr : Rel D G σ a w) (hgl : D.gl = gl) (h : buildA zs (evs σ r) σ K) (hn : Nxt D o a K next) :
    o.wp P a w next Q := by
  unfold buildA at h
  split at h
  · rename_i cs hf
    obtain ⟨arr, h1, h2⟩ := fill_rep _ _ zs cs z.cells (trParts_rel ps.toList r ht hr hgl) hf (pvs_rep hzs)
    refine wp_value (v := .agg arr) (w' := w) ?_ (hn _ _ (.agg cs) _ _ hr ⟨arr.toList, by simp, h2⟩ h)
    have hb : P.built T (ps.map fun q => (q.1, a.eval q.2)).toList = some arr := by
      simp only [Program.built, hi, hu, hz, hp]
      rw [Array.toList_map]; exact h1
    have := run_build (P := P) w T (ps.map fun q => (q.1, a.eval q.2)) arr hb
    simp [execOp, ho, this]
  · exact h.elim

theorem repl_len {zs : List PV} : ∀ n, (repl n zs).length = n * zs.length
  | 0 => by simp [repl]
  | n + 1 => by simp [repl, repl_len n, Nat.add_mul, Nat.add_comm]

theorem repl_rep {F : Facts} {zs : List PV} {l : List Value} (h : RepL F zs l) : ∀ n, ∃ m : List Value, RepL F (repl n zs) m ∧ m = (List.replicate n l).flatten
  | 0 => ⟨[], .nil, rfl⟩
  | n + 1 => by
    obtain ⟨m, h1, h2⟩ := repl_rep h n
    exact ⟨l ++ m, h.app h1, by rw [h2, List.replicate_succ, List.flatten_cons]⟩

theorem zero_cells (l : List Value) (k : Nat) (hk : l.length = k) (hp : 0 < k) (n : Nat) : ((Array.range (n * k)).map fun i => l.toArray[i % l.toArray.size]!).toList = (List.replicate n l).flatten := by
  subst hk
  induction n with
  | zero => simp
  | succ n ih =>
    have e : (List.replicate (n + 1) l).flatten = (List.replicate n l).flatten ++ l := by
      rw [List.replicate_succ', List.flatten_append]; simp
    rw [e, ← ih]
    apply List.ext_getElem?
    intro i
    simp only [Array.toList_map, Array.toList_range, List.getElem?_map, List.getElem?_append, List.length_map, List.length_range, Nat.add_mul, Nat.one_mul]
    by_cases h1 : i < n * l.length
    · simp only [h1, if_true]
      rw [List.getElem?_range (by omega), List.getElem?_range h1]
    · simp only [h1, if_false]
      by_cases h2 : i < n * l.length + l.length
      · rw [List.getElem?_range h2]
        have hm : i % l.length = i - n * l.length := by
          have : i = (i - n * l.length) + n * l.length := by omega
          rw [this, Nat.add_mul_mod_self_right, Nat.mod_eq_of_lt (by omega)]
          omega
        simp [hm]
        rw [List.getElem?_eq_getElem (by omega)]
        rfl
      · rw [List.getElem?_eq_none (by simp; omega), List.getElem?_eq_none (by omega)]
        rfl

theorem chunks_len {k : Nat} : ∀ n (l : List PV), (chunks k n l).length = n
  | 0, _ => rfl
  | n + 1, l => by simp [chunks, chunks_len n]
theorem chunks_flat {k : Nat} : ∀ n (l : List PV), l.length = n * k → (chunks k n l).flatten = l ∧ ∀ e ∈ chunks k n l, e.length = k
  | 0, l, h => by
    have : l = [] := List.eq_nil_of_length_eq_zero (by simpa using h)
    subst this; exact ⟨rfl, fun e he => by cases he⟩
  | n + 1, l, h => by
    rw [Nat.add_mul, Nat.one_mul] at h
    obtain ⟨h1, h2⟩ := chunks_flat (k := k) n (l.drop k) (by simp; omega)
    refine ⟨by simp [chunks, h1], fun e he => ?_⟩
    simp only [chunks, List.mem_cons] at he
    rcases he with rfl | he
    · simp; omega
    · exact h2 e he

theorem fill_len {arr arr' : Array Value} {place : Nat → Option (Nat × Nat)} : ∀ (ps : List (Nat × Value)), Instr.fill place arr ps = some arr' → arr'.size = arr.size := by
  intro ps
  induction ps generalizing arr with
  | nil => intro h; simp only [Instr.fill, Option.some.injEq] at h; rw [h]
  | cons p ps ih =>
    intro h
    obtain ⟨i, v⟩ := p
    simp only [Instr.fill] at h
    split at h
    · cases h
    · split at h
      · cases h
      · rw [ih h]
        have : ∀ (l : List (Value × Nat)) (off : Nat) (arr : Array Value), (l.foldl (fun cs (x : Value × Nat) => cs.setIfInBounds (off + x.2) x.1) arr).size = arr.size := by
          intro l off
          induction l with
          | nil => intro arr; rfl
          | cons x l ih => intro arr; simp only [List.foldl_cons]; rw [ih]; simp
        rw [← Array.foldl_toList]
        exact this _ _ _

theorem sound_bslice {T e : TypeId} {n : Nat} {ps : Array (Nat × Operand)} {i : TypeInfo} {z : Value} {r : List (Nat × Nat × Opd)} {zs : List PV} {d : Nat} (ho : o.op = .buildSlice T n ps)
    (hu : P.underlying T = some (.slice e)) (hi : P.info? e = some i) (hz : i.zero = some z) (ht : trParts gl (fun j => some (j * i.size, i.size)) ps.toList = some r) (hzs : pvs z.cells.toList = some zs)
    (hr : Rel D G σ a w) (hgl : D.gl = gl) (h : bsliceA d e i.size n zs (evs σ r) σ K) (hn : Nxt D o a K next) : o.wp P a w next Q := by
  obtain ⟨hb, hk, hn0, hk0, hlim, h⟩ := h
  split at h
  · rename_i cs hf
    have hzr := pvs_rep (F := G.F) hzs
    have hzl := hzr.len
    have hcells := zero_cells z.cells.toList i.size (by rw [← hzl]; exact hk) hk0 n
    simp only [Array.toArray_toList] at hcells
    obtain ⟨m, hm1, hm2⟩ := repl_rep hzr n
    rw [hm2, ← hcells] at hm1
    obtain ⟨arr, h1, h2⟩ := fill_rep _ _ _ cs _ (trParts_rel ps.toList r ht hr hgl) hf hm1
    have hsz : arr.size = n * i.size := by rw [fill_len _ h1]; simp
    have hcl : cs.length = n * i.size := by rw [h2.len]; simpa using hsz
    obtain ⟨hfl, hek⟩ := chunks_flat n cs hcl
    have hle := chunks_len (k := i.size) n cs
    have hnl : n ≤ 16777216 := Nat.le_trans (Nat.le_mul_of_pos_right n hk0) hlim
    have hrel := hr.addRow (r := d) hb (T := e) (k := i.size) (es := chunks i.size n cs) (v := .slice (some ⟨w.heap.size, 0, none⟩) n n) (xs := arr.toList) (w' := w.alloc (.cells arr e (0, 0)))
      (Kept.alloc w _) (by rw [hle]; exact World.ownsRow_lit w arr n hr.kept.size (by simp [maxLen]; omega) hsz) hek (by rw [hle]; simp [LIM]; omega) (by rw [hfl]; exact h2) (by intro b hb; simp [Value.ownBlock] at hb; omega)
    refine wp_value (v := .slice (some ⟨w.heap.size, 0, none⟩) n n) (w' := w.alloc (.cells arr e (0, 0))) ?_ (hn _ _ (.row d n) _ _ hrel (by simp [RepA, hle]) h)
    have hs : (sizeOf e).run P w = .ok i.size w := by simp [sizeOf, typeInfo, hi]
    have hzv : (zeroValue e).run P w = .ok z w := by simp [zeroValue, typeInfo, hi, hz]
    have hne : ¬ (n * i.size = 0) := by
      intro h0; rcases Nat.mul_eq_zero.1 h0 with h0 | h0 <;> omega
    have hnl' : ¬ (n * i.size > 16777216) := by omega
    have h1' : Instr.fill (fun j => some (j * i.size, i.size)) ((Array.range (n * i.size)).map fun j => z.cells[j % z.cells.size]!) (ps.map fun q => (q.1, a.eval q.2)).toList = some arr := by
      rw [Array.toList_map]; exact h1
    simp only [execOp, ho, Instr.buildSlice, Sem.run_bind, run_underlying hu, Result.andThen_ok, hs, hne, if_false, hzv, Sem.run_pure, hnl', show (2 : Nat) ^ 24 = 16777216 from rfl]
    simp only [h1', Sem.run_bind, Sem.run_pure]
    rfl
  · exact h.elim

/-! ### append -/
theorem sl_flat {F : Facts} {b k : Nat} : ∀ (es : List (List PV)) (off : Nat) (vs : Nat → Nat → Value), (∀ e ∈ es, e.length = k) →
    (∀ i j e x, es[i]? = some e → e[j]? = some x → F b (off + (i * k + j)) = some (vs i j)) → (∀ i j e x, es[i]? = some e → e[j]? = some x → RepP F x (vs i j)) →
    ∃ news : List Value, RepL F es.flatten news ∧ ∀ (j : Nat) (u : Value), news[j]? = some u → F b (off + j) = some u
  | [], _, _, _, _, _ => ⟨[], .nil, fun j u h => by simp at h⟩
  | e :: es, off, vs, hk, h1, h2 => by
    obtain ⟨news, g1, g2⟩ := sl_flat es (off + k) (fun i j => vs (i + 1) j) (fun e' he => hk e' (List.mem_cons_of_mem _ he))
      (fun i j e' x he hx => by
        have := h1 (i + 1) j e' x (by simpa using he) hx
        rw [Nat.add_mul, Nat.one_mul] at this
        rw [show off + k + (i * k + j) = off + (i * k + k + j) by omega]
        exact this)
      (fun i j e' x he hx => h2 (i + 1) j e' x (by simpa using he) hx)
    have hek : e.length = k := hk e List.mem_cons_self
    refine ⟨(List.range k).map (vs 0) ++ news, ?_, fun j u hj => ?_⟩
    · rw [List.flatten_cons]
      refine All2.app (All2.of_get (by simp [hek]) (fun i x y hx hy => ?_)) g1
      have hlt : i < k := by rw [← hek]; exact (List.getElem?_eq_some_iff.1 hx).1
      simp [List.getElem?_map, List.getElem?_range hlt] at hy
      rw [← hy]; exact h2 0 i e x (by simp) hx
    · rw [List.getElem?_append] at hj
      split at hj
      · rename_i hlt
        simp at hlt
        simp [List.getElem?_map, List.getElem?_range hlt] at hj
        have := h1 0 j e e[j] (by simp) (by simp)
        rw [← hj]
        simpa using this
      · rename_i hge
        simp at hge
        have := g2 _ u hj
        rw [show off + k + (j - (List.map (vs 0) (List.range k)).length) = off + j by simp; omega] at this
        exact this

theorem flat_len {k : Nat} : ∀ (es : List (List PV)), (∀ e ∈ es, e.length = k) → es.flatten.length = es.length * k
  | [], _ => by simp
  | e :: es, h => by
    rw [List.flatten_cons, List.length_append, flat_len es (fun x hx => h x (List.mem_cons_of_mem _ hx)), h e List.mem_cons_self, List.length_cons, Nat.add_mul, Nat.one_mul, Nat.add_comm]

/-- what is appended, in memory -/
theorem sl_src {es : List (List PV)} {n : Nat} {v : Value} (hr : Rel D G σ a w) (hy : RepP G.F (.sl es n) v) :
    (v = .slice none 0 0 ∧ es.take n = []) ∨ ∃ ad c news, v = .slice (some ad) (es.take n).length c ∧ RepL G.F (es.take n).flatten news ∧ ∀ (j : Nat) (u : Value), news[j]? = some u → w.cell? (ad.add j) = some u := by
  cases hy with
  | @sl _ _ b off c vs k hn hc hl hk h1 h2 =>
    obtain ⟨news, g1, g2⟩ := sl_flat (F := G.F) (b := b) (k := k) (es.take n) off vs (fun e he => hk e (List.mem_of_mem_take he)) (fun i j e x he hx => h1 i j e x (getElem?_take_some he) hx)
      (fun i j e x he hx => h2 i j e x (getElem?_take_some he) hx)
    refine .inr ⟨⟨b, off, none⟩, c, news, by simp [Nat.min_eq_left hn], g1, fun j u hj => ?_⟩
    rw [addr_add]
    exact hr.fc _ _ _ (g2 j u hj)
  | nil => exact .inl ⟨rfl, rfl⟩
  | nil0 => exact .inr ⟨_, _, [], rfl, .nil, by intro j u hj; simp at hj⟩

theorem src_cells {y : AV} {v : Value} {ys : List (List PV)} (hr : Rel D G σ a w) (hy : RepA G y v) (h : srcA σ y = some ys) :
    (v = .slice none 0 0 ∧ ys = []) ∨ ∃ ad c news, v = .slice (some ad) ys.length c ∧ RepL G.F ys.flatten news ∧ ∀ (j : Nat) (u : Value), news[j]? = some u → w.cell? (ad.add j) = some u := by
  unfold srcA at h
  split at h
  · simp only [Option.some.injEq] at h
    subst h
    exact sl_src hr hy
  · simp only [Option.some.injEq] at h
    exact .inl ⟨repA_val hy, h.symm⟩
  · rename_i es
    simp only [Option.some.injEq] at h
    subst h
    have := sl_src hr hy.1
    rwa [List.take_length] at this
  · rename_i r n
    split at h
    · rename_i T k es hb
      by_cases he : Nat.beq n es.length = true
      · simp only [he, cond_true, Option.some.injEq] at h
        subst h
        have hn := Nat.eq_of_beq_eq_true he
        subst hn
        obtain ⟨v', xs, hJ, hown, hek, hlim, hrep, _⟩ := hr.rw r T k es hb
        simp only [RepA] at hy
        rw [hJ] at hy
        cases hy
        rcases hown.2 with ⟨hv, hz⟩ | ⟨g, cap, cur, hv, _⟩
        · exact .inl ⟨hv, List.eq_nil_of_length_eq_zero hz⟩
        · refine .inr ⟨⟨g, 0, none⟩, cap, xs, hv, hrep, fun j u hj => ?_⟩
          exact hown.cells (g := g) (by rw [hv]; rfl) j u hj
      · have : Nat.beq n es.length = false := Bool.eq_false_iff.2 he
        simp [this] at h
    · cases h
  · cases h

theorem append_kept {w' : World} (h : w.grownBy w' none) : Kept (fun _ => False) w w' := ⟨h.os, h.tape, h.output, h.size, fun b hb _ => h.block b hb (by simp)⟩

theorem ownsRow_base {w : World} {b b' : Nat} {e k : Nat} {v : Value} {n : Nat} {xs : List Value} (h : w.ownsRow b e k v n xs) (hb : b' ≤ b) : w.ownsRow b' e k v n xs := by
  refine ⟨h.1, ?_⟩
  rcases h.2 with hn | ⟨g, cap, cur, hv, hg, rest⟩
  · exact .inl hn
  · exact .inr ⟨g, cap, cur, hv, by omega, rest⟩

theorem run_append_zero {T ty e : TypeId} {i : TypeInfo} (ht : P.underlying T = some (.slice e)) (hi : P.info? e = some i) {v : Value} {n base : Nat} {xs : List Value} (hown : w.ownsRow base e i.size v n xs) {s : Value}
    (hs : s = .slice none 0 0 ∨ ∃ ad c, s = .slice (some ad) 0 c) : (Builtin.append_ #[T, T] ty #[v, s]).run P w = .ok v w := by
  rcases hs with rfl | ⟨ad, c, rfl⟩
  · exact run_append_owned_none (P := P) w base T ty e i i.size ht hi v n xs hown
  · rcases hown.2 with ⟨rfl, rfl⟩ | ⟨g, cap, cur, rfl, _, _, hnc, _⟩
    · simp [Builtin.append_, run_underlying ht, sizeOf, typeInfo, hi, Builtin.lenOf, Builtin.firstCells, loadCells, loadCellsFrom]
    · simp [Builtin.append_, run_underlying ht, sizeOf, typeInfo, hi, Builtin.lenOf, Builtin.firstCells, hnc, storeCells, loadCells, loadCellsFrom]

theorem Rel.sameRows (h : Rel D G σ a w) {rw' : List (Nat × (Nat × Nat × List (List PV)))} (he : ∀ r, getB r rw' = getB r σ.rw) : Rel D G { σ with rw := rw' } a w := by
  refine { h with rw := ?_, rk := ?_ }
  · intro r T k es hr
    have hr' : getB r rw' = some (T, k, es) := hr
    rw [he] at hr'
    obtain ⟨v, xs, h1, h2, h3, h4, h5, h6⟩ := h.rw r T k es hr'
    refine ⟨v, xs, h1, h2, h3, h4, h5, fun b hb => ?_⟩
    obtain ⟨g1, g2, g3, g4⟩ := h6 b hb
    exact ⟨g1, g2, g3, fun r' T' k' es' v' hr2 => g4 r' T' k' es' v' (by rw [← he]; exact hr2)⟩
  · intro r n v hv
    obtain ⟨T, k, es, h1, h2⟩ := h.rk r n v hv
    exact ⟨T, k, es, by show getB r rw' = _; rw [he]; exact h1, h2⟩

theorem getB_setB_same {α : Type} {s : Nat} {x : α} {l : List (Nat × α)} (h : getB s l = some x) (r : Nat) : getB r (setB s x l) = getB r l := by
  by_cases e : r = s
  · subst e; rw [getB_setB_self _ _ _ _ h, h]
  · exact getB_setB_ne e x l

theorem appA_inv {d T k by' : Nat} {x y : AV} (h : appA d T k by' x y σ K) :
    (∃ ys, x = .p (.val (.slice none 0 0)) ∧ getB d σ.rw = none ∧ srcA σ y = some ys ∧ allK k ys ∧ ys.length * by' ≤ 140737488351232 ∧ ys.length ≤ LIM ∧ K (.row d ys.length) { σ with rw := (d, T, k, ys) :: σ.rw }) ∨
    (∃ r es ys, x = .row r es.length ∧ getB r σ.rw = some (T, k, es) ∧ srcA σ y = some ys ∧ allK k ys ∧ (es.length + ys.length) * by' ≤ 140737488351232 ∧ es.length + ys.length ≤ LIM ∧
      K (.row r (es.length + ys.length)) { σ with rw := setB r (T, k, es ++ ys) σ.rw }) ∨
    (∃ es ys, x = .xsl es ∧ getB d σ.rw = none ∧ srcA σ y = some ys ∧ allK k es ∧ allK k ys ∧ (es.length + ys.length) * by' ≤ 140737488351232 ∧ es.length + ys.length ≤ LIM ∧ (ys = [] → K (.p (.sl es es.length)) σ) ∧
      (ys ≠ [] → K (.row d (es.length + ys.length)) { σ with rw := (d, T, k, es ++ ys) :: σ.rw })) := by
  unfold appA at h
  split at h
  · obtain ⟨h0, h⟩ := h
    split at h
    · obtain ⟨h1, h2, h3, h4⟩ := h
      exact .inl ⟨_, rfl, h0, ‹_›, h1, h2, h3, h4⟩
    · exact h.elim
  · split at h
    · rename_i T' k' es ys hb hs
      obtain ⟨rfl, rfl, rfl, h1, h2, h3, h4⟩ := h
      exact .inr (.inl ⟨_, _, _, rfl, hb, hs, h1, h2, h3, h4⟩)
    · exact h.elim
  · obtain ⟨h0, h⟩ := h
    split at h
    · exact .inr (.inr ⟨_, _, rfl, h0, ‹_›, h⟩)
    · exact h.elim
  · exact h.elim

theorem sound_app {T e : TypeId} {x y : Operand} {i : TypeInfo} {z : Value} {d : Nat} (ho : o.op = .call { callee := .builtin .append, args := #[x, y], argTypes := #[T, T] }) (hu : P.underlying T = some (.slice e))
    (hi : P.info? e = some i) (hz : i.zero = some z) (hzs : z.cells.size = i.size) (hsz : 0 < i.size) (hr : Rel D G σ a w) (hgl : D.gl = gl)
    (h : appA d e i.size i.bytes (ev σ (trO gl x)) (ev σ (trO gl y)) σ K) (hn : Nxt D o a K next) : o.wp P a w next Q := by
  have hx := hr.ev hgl x
  have hy := hr.ev hgl y
  have exec : ∀ v' w', (Builtin.append_ #[T, T] o.type #[a.eval x, a.eval y]).run P w = .ok v' w' → (execOp a.eval o).run P w = .ok (.value v') w' := fun v' w' hrun => by
    simp [execOp, ho, resolve, invoke, builtin, hrun]
  rcases appA_inv h with ⟨ys, ex, hb, hs, hk, hby, hlim, hK⟩ | ⟨r, es, ys, ex, hb, hs, hk, hby, hlim, hK⟩ | ⟨es, ys, ex, hb, hs, hke, hk, hby, hlim, hK0, hK1⟩
  · rw [ex] at hx
    have hxv := repA_val hx
    have hown0 := World.ownsRow_nil w w.heap.size e i.size
    rcases src_cells hr hy hs with ⟨hyv, rfl⟩ | ⟨ad, c, news, hyv, hrep, hcell⟩
    · have hrun := run_append_zero (P := P) (ty := o.type) hu hi hown0 (.inl hyv)
      rw [← hxv] at hrun
      have hrel := hr.addRow (r := d) hb (T := e) (k := i.size) (es := []) (v := .slice none 0 0) (xs := []) (w' := w) (Kept.refl _ w) (World.ownsRow_nil w _ e i.size) (by intro e he; cases he) (by simp) .nil (by intro b hb; cases hb)
      exact wp_value (exec _ _ hrun) (hn _ _ (.row d 0) _ _ hrel (by simp [RepA, hxv]) hK)
    · have hlen : news.length = ys.length * i.size := by rw [← hrep.len]; exact flat_len ys hk
      obtain ⟨v', w', hrun, hown, hgr, -⟩ := run_append_own (P := P) w w.heap.size T o.type e i z i.size i.bytes hu hi hz rfl rfl hzs hsz _ 0 [] hown0 ad ys.length c news hlen hcell (rep_one hrep)
        (by simp only [maxLen, LIM] at *; omega) (by rw [Nat.zero_add]; omega) (Nat.le_refl _)
      rw [Nat.zero_add, List.nil_append] at hown
      rw [← hxv, ← hyv] at hrun
      have hrel := hr.addRow (r := d) hb (T := e) (k := i.size) (es := ys) (v := v') (xs := news) (w' := w') (append_kept hgr) (ownsRow_base hown hr.kept.size) hk hlim hrep (fun b hb => (hown.lt b hb).1)
      exact wp_value (exec _ _ hrun) (hn _ _ (.row d ys.length) _ _ hrel (by simp [RepA]) hK)
  · rw [ex] at hx
    obtain ⟨v, xs, hJ, hown, hek, hlim0, hrep0, hblk⟩ := hr.rw r e i.size es hb
    have hxv : a.eval x = v := by simp only [RepA] at hx; rw [hJ] at hx; cases hx; rfl
    have zero : ys = [] → (a.eval y = .slice none 0 0 ∨ ∃ ad c, a.eval y = .slice (some ad) 0 c) → o.wp P a w next Q := fun hys hsrc => by
      subst hys
      have hrun := run_append_zero (P := P) (ty := o.type) hu hi hown hsrc
      rw [← hxv] at hrun
      have hrel := hr.sameRows (rw' := setB r (e, i.size, es ++ []) σ.rw) (fun r' => by rw [List.append_nil]; exact getB_setB_same hb r')
      refine wp_value (exec _ _ hrun) (hn _ _ (.row r (es.length + 0)) _ _ hrel ?_ hK)
      simp only [RepA, Nat.add_zero]; rw [hxv]; exact hJ
    rcases src_cells hr hy hs with ⟨hyv, hys⟩ | ⟨ad, c, news, hyv, hrep, hcell⟩
    · exact zero hys (.inl hyv)
    · by_cases hys : ys = []
      · exact zero hys (.inr ⟨ad, c, by rw [hyv, hys]; rfl⟩)
      · have hpos : 0 < ys.length := List.length_pos_iff.2 hys
        have hlen : news.length = ys.length * i.size := by rw [← hrep.len]; exact flat_len ys hk
        have h63 : es.length + ys.length ≤ maxLen := by simp only [maxLen, LIM] at *; omega
        have h63' : ((es.length + ys.length : Nat) : Int) ≤ 9223372036854775807 := by simp only [LIM] at hlim; omega
        have hby' : (es.length + ys.length) * i.bytes ≤ 140737488355328 := by omega
        obtain ⟨v', w', hrun, hown', hgr, -⟩ := run_append_own (P := P) w D.w.heap.size T o.type e i z i.size i.bytes hu hi hz rfl rfl hzs hsz v es.length xs hown ad ys.length c news hlen hcell (rep_one hrep)
          h63 hby' hr.kept.size
        have hhead : ∀ b, v'.ownBlock = some b → v.ownBlock = some b ∨ w.heap.size ≤ b := by
          rcases hown.2 with ⟨hv, hz0⟩ | ⟨g, cap, cur, hv, hbg, hg, hnc, hcm, hcs, htake⟩
          · have h0 : es.length = 0 := hz0
            have := run_append_nil (P := P) w T o.type e i z hu hi hz ad ys.length c news hlen hcell hpos (by omega) (by rw [h0, Nat.zero_add] at hby'; omega)
            rw [hv, this] at hrun
            cases hrun
            intro b hb; simp [Value.ownBlock] at hb; omega
          · by_cases hroom : es.length + ys.length ≤ cap
            · have hfit : es.length * i.size + news.length ≤ cur.size := by rw [hlen, hcs, ← Nat.add_mul]; exact Nat.mul_le_mul_right _ hroom
              have := run_append_room (P := P) w T o.type e i hu hi g es.length cap cur hg ad ys.length c news hlen hcell (rep_one hrep) hroom hfit
              rw [hv, this] at hrun
              cases hrun
              intro b hb; rw [hv]; exact .inl hb
            · have holds := hown.cells (g := g) (by rw [hv]; rfl)
              have := run_append_grow (P := P) w T o.type e i z hu hi hz ⟨g, 0, none⟩ es.length cap xs hown.1 holds ad ys.length c news hlen hcell (by omega) h63' (growslice_fits (by omega) hby')
              rw [hv, this] at hrun
              cases hrun
              intro b hb; simp [Value.ownBlock] at hb; omega
        have hl' : (es ++ ys).length = es.length + ys.length := by simp
        have hrel := hr.setRow hb hJ (es' := es ++ ys) (v' := v') (xs' := xs ++ news) (w' := w') hgr (by rw [hl']; exact hown') (fun e' he => by
          rcases List.mem_append.1 he with h | h
          · exact hek e' h
          · exact hk e' h) (by rw [hl']; exact hlim) (by rw [List.flatten_append]; exact hrep0.app hrep) (by rw [hl']; omega) hhead
        rw [← hxv, ← hyv] at hrun
        exact wp_value (exec _ _ hrun) (hn _ _ (.row r (es.length + ys.length)) _ _ hrel (by simp [RepA, hl']) hK)
  · rw [ex] at hx
    obtain ⟨hxr, ao, hxv⟩ := hx
    have hflat : (es ++ ys).flatten = es.flatten ++ ys.flatten := List.flatten_append
    have hlimN : es.length + ys.length ≤ maxLen := by simp only [maxLen, LIM] at *; omega
    rcases sl_src hr hxr with ⟨hxn, hes⟩ | ⟨bd, c0, olds, hxs, hrepo, hcello⟩
    · -- nothing is there
      rw [List.take_length] at hes
      subst hes
      have hown0 := World.ownsRow_nil w w.heap.size e i.size
      rcases src_cells hr hy hs with ⟨hyv, rfl⟩ | ⟨ad, c, news, hyv, hrep, hcell⟩
      · have hrun := run_append_zero (P := P) (ty := o.type) hu hi hown0 (.inl hyv)
        rw [← hxn] at hrun
        exact wp_value (exec _ _ hrun) (hn _ _ (.p (.sl [] 0)) _ _ hr hxr (hK0 rfl))
      · by_cases hys : ys = []
        · subst hys
          have hrun := run_append_zero (P := P) (ty := o.type) hu hi hown0 (.inr ⟨ad, c, hyv⟩)
          rw [← hxn] at hrun
          exact wp_value (exec _ _ hrun) (hn _ _ (.p (.sl [] 0)) _ _ hr hxr (hK0 rfl))
        · have hlen : news.length = ys.length * i.size := by rw [← hrep.len]; exact flat_len ys hk
          simp only [List.length_nil, Nat.zero_add] at hby hlim
          obtain ⟨v', w', hrun, hown, hgr, -⟩ := run_append_own (P := P) w w.heap.size T o.type e i z i.size i.bytes hu hi hz rfl rfl hzs hsz _ 0 [] hown0 ad ys.length c news hlen hcell (rep_one hrep)
            (by simp only [maxLen, LIM] at *; omega) (by rw [Nat.zero_add]; omega) (Nat.le_refl _)
          rw [Nat.zero_add, List.nil_append] at hown
          rw [← hxn, ← hyv] at hrun
          have hrel := hr.addRow (r := d) hb (T := e) (k := i.size) (es := ys) (v := v') (xs := news) (w' := w') (append_kept hgr) (ownsRow_base hown hr.kept.size) hk hlim hrep (fun b hb => (hown.lt b hb).1)
          have hK1 := hK1 hys
          simp only [List.length_nil, Nat.zero_add, List.nil_append] at hK1
          exact wp_value (exec _ _ hrun) (hn _ _ (.row d ys.length) _ _ hrel (by simp [RepA]) hK1)
    · rw [List.take_length] at hxs hrepo
      have hc0 : c0 = es.length := by rw [hxs] at hxv; cases hxv; rfl
      subst hc0
      have zero : ys = [] → (a.eval y = .slice none 0 0 ∨ ∃ ad c, a.eval y = .slice (some ad) 0 c) → o.wp P a w next Q := fun hys hsrc => by
        have hrun : (Builtin.append_ #[T, T] o.type #[a.eval x, a.eval y]).run P w = .ok (a.eval x) w := by
          rw [hxs]
          rcases hsrc with hyv | ⟨ad, c, hyv⟩
          · rw [hyv]; simp [Builtin.append_, run_underlying hu, sizeOf, typeInfo, hi, Builtin.lenOf, Builtin.firstCells, storeCells, loadCells]
          · rw [hyv]; simp [Builtin.append_, run_underlying hu, sizeOf, typeInfo, hi, Builtin.lenOf, Builtin.firstCells, storeCells, loadCells, loadCellsFrom]
        exact wp_value (exec _ _ hrun) (hn _ _ (.p (.sl es es.length)) _ _ hr hxr (hK0 hys))
      rcases src_cells hr hy hs with ⟨hyv, hys⟩ | ⟨ad, c, news, hyv, hrep, hcell⟩
      · exact zero hys (.inl hyv)
      · by_cases hys : ys = []
        · exact zero hys (.inr ⟨ad, c, by rw [hyv, hys]; rfl⟩)
        · have hpos : 0 < ys.length := List.length_pos_iff.2 hys
          have hlo : olds.length = es.length * i.size := by rw [← hrepo.len]; exact flat_len es hke
          have hlen : news.length = ys.length * i.size := by rw [← hrep.len]; exact flat_len ys hk
          obtain ⟨v', w', hrun, hown, hgr⟩ := run_append_arg_grows (P := P) w T o.type e i z i.size i.bytes hu hi hz rfl rfl hzs hsz bd es.length es.length olds hlo hcello ad ys.length c news hlen hcell (by omega) hlimN (by omega)
          rw [← hxs, ← hyv] at hrun
          have hrel := hr.addRow (r := d) hb (T := e) (k := i.size) (es := es ++ ys) (v := v') (xs := olds ++ news) (w' := w') (append_kept hgr) (ownsRow_base (by simpa using hown) hr.kept.size)
            (fun e he => by rcases List.mem_append.1 he with he | he; exact hke e he; exact hk e he) (by simpa using hlim) (by rw [hflat]; exact hrepo.app hrep) (fun b hb => (hown.lt b hb).1)
          exact wp_value (exec _ _ hrun) (hn _ _ (.row d (es.length + ys.length)) _ _ hrel (by simp [RepA]) (hK1 hys))

end Go.Am
