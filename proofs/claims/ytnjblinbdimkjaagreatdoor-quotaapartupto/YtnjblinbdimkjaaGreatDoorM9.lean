/-
  bursarlaw18.QuotaApart answers true and leaves its arguments as they were, for inputs of bulk at most 1048576 (the given second form; no other condition). Part 9 of 26 of the proof.
-/
import Derived.Test.YtnjblinbdimkjaaGreatDoorM8
import Derived.Laws.RangeString
/-
  AM: loops over a slice.
-/
namespace Go.Am
open Go

abbrev vI (n : Int) : AV := .p (.val (.int .i64 n))
abbrev vB (b : Bool) : AV := .p (.val (.bool b))
abbrev vS (s : ByteArray) : AV := .p (.val (.string s))

/-- The text of 'for i := 0; i < n; i++' and of a range over a slice. -/
def rangeC (st si sn sa B C T : Nat) (body : ACode) : ACode :=
  .seq (.reg [⟨some st, none, .bin .lss T (.t si) (.t sn)⟩]) (.seq (.cond (.t st) .skip (.exit B)) (.seq (.block C body) (.reg [⟨some sa, none, .bin .add T (.t si) (.k (.p (.val (.int .i64 1))))⟩, ⟨some si, none, .mov (.t sa)⟩])))

theorem wrap_small {n : Int} (h : -9223372036854775808 ≤ n) (h' : n ≤ 9223372036854775807) : IntKind.i64.wrap n = n := by
  have := IntWalk.i64_in n ⟨h, h'⟩
  exact this

/-- the state at the head of round k -/
def headSt (si sn : Nat) (len k : Nat) (fr : List (Nat × AV)) (bx : List (Nat × List PV)) (rw : List (Nat × (Nat × Nat × List (List PV)))) (ph : Res) : St := ⟨(si, vI k) :: (sn, vI len) :: fr, bx, rw, ph⟩

/-- what a round hands on -/
def Step (si sn sa : Nat) (len k : Nat) (fr : List (Nat × AV)) (bx : List (Nat × List PV)) (rw : List (Nat × (Nat × Nat × List (List PV)))) (ph : Res) (σ : St) : Prop :=
  getT si σ.fr = some (vI k) ∧ Gho ⟨(si, vI (k + 1 : Nat)) :: (sa, vI (k + 1 : Nat)) :: σ.fr, σ.bx, σ.rw, σ.ph⟩ (headSt si sn len (k + 1) fr bx rw ph)

theorem range_loop {P : Program} {gl : Nat → Option (List PV)} {Q : Ex → St → Prop} {σ : St} {c body : ACode} {st si sn sa B C T : Nat} (hc : c = rangeC st si sn sa B C T body) (hne : (si ≠ st ∧ sn ≠ st ∧ si ≠ sn ∧ si ≠ sa ∧ sn ≠ sa) ∧ B ≠ C)
    (len : Nat) (hlen : len ≤ LIM) (fr : Nat → List (Nat × AV)) (bx : Nat → List (Nat × List PV)) (rw : Nat → List (Nat × (Nat × Nat × List (List PV)))) (ph : Nat → Res) (I : Nat → Prop)
    (h0 : Gho σ (headSt si sn len 0 (fr 0) (bx 0) (rw 0) (ph 0))) (hI : I 0)
    (hbody : ∀ k (Q' : Ex → St → Prop), k < len → I k →
      (∀ σ', I (k + 1) → Step si sn sa len k (fr (k + 1)) (bx (k + 1)) (rw (k + 1)) (ph (k + 1)) σ' → Q' .normal σ') →
      (∀ σ', I (k + 1) → Step si sn sa len k (fr (k + 1)) (bx (k + 1)) (rw (k + 1)) (ph (k + 1)) σ' → Q' (.exit C) σ') →
      (∀ e σ', e ≠ .normal → e ≠ .exit C → Q e σ' → Q' e σ') →
      awp P gl body Q' ⟨(st, vB true) :: (si, vI k) :: (sn, vI len) :: fr k, bx k, rw k, ph k⟩)
    (hend : I len → Q (.exit B) ⟨(st, vB false) :: (si, vI len) :: (sn, vI len) :: fr len, bx len, rw len, ph len⟩) :
    awp P gl (.loop c) Q σ := by
  subst hc
  obtain ⟨⟨n1, n2, n3, n4, n5⟩, hBC⟩ := hne
  refine awp_loop (fun n σ => ∃ k, k ≤ len ∧ n = len - k ∧ I k ∧ σ = headSt si sn len k (fr k) (bx k) (rw k) (ph k)) len _ h0 ⟨0, by omega, by omega, hI, rfl⟩ ?_
  rintro n σ ⟨k, hk, rfl, hIk, rfl⟩
  have g1 : getT si ((si, vI k) :: (sn, vI len) :: fr k) = some (vI k) := getT_cons_self _ _ _
  have g2 : getT sn ((si, vI k) :: (sn, vI len) :: fr k) = some (vI len) := by rw [getT_cons_ne (Ne.symm n3), getT_cons_self]
  simp only [rangeC, headSt, awp_seq, awp_reg, aops_cons, aoper_plain, aop_bin, ev_t, g1, g2, optGetD_some, bin_lss, putK_some, aops_nil, thenQ_normal, awp_cond, getT_self, condA_bool]
  have hnx : ∀ σ' : St, I (k + 1) → k < len → Step si sn sa len k (fr (k + 1)) (bx (k + 1)) (rw (k + 1)) (ph (k + 1)) σ' →
      thenQ (awp P gl (.reg [⟨some sa, none, .bin .add T (.t si) (.k (.p (.val (.int .i64 1))))⟩, ⟨some si, none, .mov (.t sa)⟩]) (loopQ (fun n σ => ∃ k, k ≤ len ∧ n = len - k ∧ I k ∧ σ = headSt si sn len k (fr k) (bx k) (rw k) (ph k)) (len - k) Q))
        (loopQ (fun n σ => ∃ k, k ≤ len ∧ n = len - k ∧ I k ∧ σ = headSt si sn len k (fr k) (bx k) (rw k) (ph k)) (len - k) Q) .normal σ' := by
    rintro ⟨fr', bx', rw', ph'⟩ hI' hlt ⟨e1, hg⟩
    have hw : IntKind.i64.wrap ((k : Int) + 1) = ((k + 1 : Nat) : Int) := by
      rw [wrap_small (by omega) (by simp only [LIM] at hlen; omega)]; omega
    have e1' : getT si fr' = some (vI k) := e1
    simp only [thenQ_normal, awp_reg, aops_cons, aops_nil, aoper_plain, aop_bin, ev_t, ev_k, e1', optGetD_some, bin_add, hw, putK_some, aop_mov, getT_self]
    exact loopQ_next (len - (k + 1)) (by omega) _ hg ⟨k + 1, by omega, rfl, hI', rfl⟩
  refine ⟨fun hlt => ?_, fun hge => ?_⟩
  · have hlt : k < len := by simpa using hlt
    simp only [awp_skip, thenQ_normal, awp_seq, awp_block]
    have e : decide ((k : Int) < (len : Int)) = true := by simpa using hlt
    rw [e]
    refine hbody k _ hlt hIk (fun σ' hI' hg => ?_) (fun σ' hI' hg => ?_) (fun e σ' h1 h2 h3 => ?_)
    · rw [blockQ_normal]; exact hnx σ' hI' hlt hg
    · rw [blockQ_self]; exact hnx σ' hI' hlt hg
    · cases e with
      | normal => exact absurd rfl h1
      | ret => exact h3
      | exit id =>
        rw [blockQ_ne (fun e => h2 (by rw [e]))]
        exact h3
  · have hge : ¬ k < len := by simpa using hge
    have hkl : k = len := by omega
    subst hkl
    simp only [awp_exit, thenQ_exit, loopQ_exit]
    have e : decide ((k : Int) < (k : Int)) = false := by simp
    rw [e]
    exact hend hIk

/-- any loop -/
theorem inv_loop {P : Program} {gl : Nat → Option (List PV)} {Q : Ex → St → Prop} {σ : St} {c : ACode} {X : Type} (I : X → Prop) (st : X → St) (m : X → Nat) (x0 : X) (hI : I x0) (h0 : Gho σ (st x0))
    (hb : ∀ x (Q' : Ex → St → Prop), I x → (∀ σ' x', I x' → m x' < m x → Gho σ' (st x') → Q' .normal σ') → (∀ e σ', e ≠ .normal → Q e σ' → Q' e σ') → awp P gl c Q' (st x)) : awp P gl (.loop c) Q σ := by
  refine awp_loop (fun n σ => ∃ x, I x ∧ n = m x ∧ σ = st x) (m x0) _ h0 ⟨x0, hI, rfl, rfl⟩ ?_
  rintro n σ ⟨x, hx, rfl, rfl⟩
  refine hb x _ hx (fun σ' x' hx' hm hg => loopQ_next (m x') hm _ hg ⟨x', hx', rfl, rfl⟩) (fun e σ' he hq => ?_)
  cases e with
  | normal => exact absurd rfl he
  | ret => exact hq
  | exit id => exact hq

theorem rvs_caps (caps : List PV) : ∀ (args : List AV) (rs : List RV), rvs args = some rs → rvs (args ++ caps.map .p) = some (rs ++ caps.map fun x => .p (nilSl x))
  | [], rs, h => by
    simp only [rvs, Option.some.injEq] at h; subst h
    simp only [List.nil_append]
    induction caps with
    | nil => rfl
    | cons c l ih => simp only [List.map_cons, rvs, ih, Option.map_some]
  | x :: l, rs, h => by
    cases x <;> simp only [rvs] at h <;> first | (cases h; done) | skip
    all_goals
      cases hl : rvs l with
      | none => simp [hl] at h
      | some q =>
        simp only [hl, Option.map_some, Option.some.injEq] at h; subst h
        simp [rvs, rvs_caps caps l q hl]

/-- a call of a value -/
theorem callvA_of {P : Program} {gl : Nat → Option (List PV)} {f : FuncId} {caps : List PV} {args : List AV} {rs : List RV} {σ : St} {K : AV → St → Prop} {S : Am.Spec} (hr : rvs args = some rs) (hs : Snd P gl f S)
    (h : S (rs ++ caps.map fun x => .p (nilSl x)) σ.ph (outK K σ)) : argsA P gl f (args ++ caps.map .p) [] σ K :=
  rvs_args _ _ _ (rvs_caps caps args rs hr) ⟨S, hs, by simpa using h⟩

/-- What a function value brings when it is called with these arguments: this answer, and nothing else. -/
def Brings (P : Program) (gl : Nat → Option (List PV)) (f : FuncId) (caps : List PV) (args : List RV) (φ : Res) (r : Out) : Prop :=
  ∃ S, Snd P gl f S ∧ S (args ++ caps.map fun x => .p (nilSl x)) φ (fun r' φ' => r' = r ∧ φ' = φ)

def monoS (S : Am.Spec) : Am.Spec := fun rs φ K => ∃ K0, S rs φ K0 ∧ ∀ r φ', K0 r φ' → K r φ'

theorem Snd.mono {P : Program} {gl : Nat → Option (List PV)} {f : FuncId} {S : Am.Spec} (h : Snd P gl f S) : Snd P gl f (monoS S) where
  calls := by
    rintro rs φ K ⟨K0, h0, hm⟩ F w vs h1 h2 h3 h4 h5 h6
    rcases h.calls rs φ K0 h0 F w vs h1 h2 h3 h4 h5 h6 with ⟨he, hc⟩ | ⟨v, w', hrun, v', r, φ', F', e, hk, rest⟩
    · refine .inl ⟨he, hc.mono ?_⟩
      rintro e w' ⟨v, r, φ', F', e1, hk, rest⟩
      exact ⟨v, r, φ', F', e1, hm _ _ hk, rest⟩
    · exact .inr ⟨v, w', hrun, v', r, φ', F', e, hm _ _ hk, rest⟩

theorem Brings.call {P : Program} {gl : Nat → Option (List PV)} {f : FuncId} {caps : List PV} {args : List AV} {rs : List RV} {fr bx rw} {φ : Res} {r : Out} {K : AV → St → Prop} (h : Brings P gl f caps rs φ r) (hr : rvs args = some rs)
    (hk : K r.av ⟨fr, bx, rw, φ⟩) : argsA P gl f (args ++ caps.map .p) [] ⟨fr, bx, rw, φ⟩ K := by
  obtain ⟨S, hs, h⟩ := h
  refine callvA_of hr hs.mono ⟨_, h, ?_⟩
  rintro r' φ' ⟨rfl, rfl⟩
  exact hk

theorem Brings.go {P : Program} {gl : Nat → Option (List PV)} {f : FuncId} {caps : List PV} {acc : List RV} {fr bx rw} {φ : Res} {r : Out} {K : AV → St → Prop} (h : Brings P gl f caps acc.reverse φ r)
    (hk : K r.av ⟨fr, bx, rw, φ⟩) : argsA P gl f (caps.map .p) acc ⟨fr, bx, rw, φ⟩ K := by
  obtain ⟨S, hs, h⟩ := h
  refine rvs_args _ acc _ (by simpa using rvs_caps caps [] [] rfl) ⟨monoS S, hs.mono, _, h, ?_⟩
  rintro r' φ' ⟨rfl, rfl⟩
  exact hk

theorem Brings.goS {P : Program} {gl : Nat → Option (List PV)} {f : FuncId} {rs : List RV} {fr bx rw} {φ : Res} {r : Out} {K : AV → St → Prop} (h : Brings P gl f [] rs φ r)
    (hk : K r.av ⟨fr, bx, rw, φ⟩) : callS P gl f rs ⟨fr, bx, rw, φ⟩ K := by
  obtain ⟨S, hs, h⟩ := h
  refine ⟨monoS S, hs.mono, _, by simpa using h, ?_⟩
  rintro r' φ' ⟨rfl, rfl⟩
  exact hk

/-- a call of a named function whose answer is known -/
theorem call_known {P : Program} {gl : Nat → Option (List PV)} {f : FuncId} {rs : List RV} {fr bx rw} {φ : Res} {r : Out} {K : AV → St → Prop} {S : Am.Spec} (hs : Snd P gl f S) (h : S rs φ (fun r' φ' => r' = r ∧ φ' = φ)) (hk : K r.av ⟨fr, bx, rw, φ⟩) : callS P gl f rs ⟨fr, bx, rw, φ⟩ K := by
  refine ⟨monoS S, hs.mono, _, h, ?_⟩
  rintro r' φ' ⟨rfl, rfl⟩
  exact hk

end Go.Am

/-
  AM: things in memory, one beside the other; what may be forgotten.
-/
namespace Go.Am
open Go

variable {P : Program} {gl : Nat → Option (List PV)}

/-- Two things, apart. -/
def Res.sep (ψ φ : Res) : Res where
  fp := fun b => ψ.fp b ∨ φ.fp b
  ok := fun F w => ψ.ok F w ∧ φ.ok F w ∧ ∀ b, ψ.fp b → ¬ φ.fp b
  stable := fun F F' w w' hF hb h => ⟨ψ.stable F F' w w' hF (fun b hp => hb b (.inl hp)) h.1, φ.stable F F' w w' hF (fun b hp => hb b (.inr hp)) h.2.1, h.2.2⟩

/-- One may be forgotten. -/
structure Drops (φ φ' : Res) : Prop where
  fp : ∀ b, φ'.fp b → φ.fp b
  ok : ∀ F w, φ.ok F w → φ'.ok F w

theorem Drops.refl (φ : Res) : Drops φ φ := ⟨fun _ h => h, fun _ _ h => h⟩
theorem Drops.sep (ψ φ : Res) : Drops (ψ.sep φ) φ := ⟨fun _ h => .inr h, fun _ _ h => h.2.1⟩

/-- What a call leaves behind may be forgotten. -/
theorem Snd.drop {f : FuncId} {S S' : Am.Spec} (h : Snd P gl f S) (hs : ∀ rs φ K, S' rs φ K → S rs φ (fun r φ' => ∃ φ'', Drops φ' φ'' ∧ K r φ'')) : Snd P gl f S' where
  calls := by
    intro rs φ K h0 F w vs h1 h2 h3 h4 h5 h6
    rcases h.calls rs φ _ (hs rs φ K h0) F w vs h1 h2 h3 h4 h5 h6 with ⟨he, hc⟩ | ⟨v, w', hrun, v', r, φ', F', e, ⟨φ'', hd, hk⟩, g1, g2, g3, g4, g5, g6, g7, g8, g9⟩
    · refine .inl ⟨he, hc.mono ?_⟩
      rintro e w' ⟨v, r, φ', F', e1, ⟨φ'', hd, hk⟩, g1, g2, g3, g4, g5, g6, g7, g8, g9⟩
      exact ⟨v, r, φ'', F', e1, hk, g1, g2, g3, g4, g5, hd.ok _ _ g6, fun b o hb => g7 b o (hd.fp b hb), fun b hb => g8 b (hd.fp b hb), fun b hb => g9 b (hd.fp b hb)⟩
    · exact .inr ⟨v, w', hrun, v', r, φ'', F', e, hk, g1, g2, g3, g4, g5, hd.ok _ _ g6, fun b o hb => g7 b o (hd.fp b hb), fun b hb => g8 b (hd.fp b hb), fun b hb => g9 b (hd.fp b hb)⟩

end Go.Am

/-
  AM: walking a string.
-/
namespace Go.Am
open Go

variable {P : Program} {gl : Nat → Option (List PV)}

def Res.iter (b : Nat) (s : ByteArray) (pos : Nat) : Res where
  fp := fun x => x = b
  ok := fun _ w => w.heap[b]? = some (.stringIter s pos)
  stable := fun _ _ _ _ _ hb h => by rw [hb b rfl]; exact h

def SRange : Am.Spec := fun rs φ K => ∃ s, rs = [.p (.val (.string s))] ∧ ∀ b, K (.one (.p (.val (.pointer (some ⟨b, 0, none⟩))))) ((Res.iter b s 0).sep φ)

theorem range_str {T : TypeId} {x : Operand} (hu : P.underlying T = some .string) : SndP P (.range T x) SRange where
  runs := by
    rintro rs φ K ⟨s, rfl, hK⟩ o ρ F w ho hF hph hphF hphl hargs
    have hx : ρ x = .string s := by
      have h : RepR F (.p (.val (.string s))) (ρ x) := by
        have : All2 (RepR F) [.p (.val (.string s))] [ρ x] := by simpa [Op.operands] using hargs
        cases this with
        | cons h _ => exact h
      generalize ρ x = v at h
      cases h; rfl
    have hrun : (execOp ρ o).run P w = .ok (.value (.pointer (some ⟨w.heap.size, 0, none⟩))) (w.iter s 0) := by
      simp [execOp, ho, hx, run_range_string (P := P) w T s hu]
    have hk := Kept.alloc w (.stringIter s 0)
    refine ⟨_, _, _, hrun, .inl rfl, _, _, F, hK w.heap.size, .val rfl, Facts.le_refl _, ?_, fun _ _ _ _ => rfl, ⟨hk.os, hk.tape, hk.output, hk.size, fun b hb _ => hk.block b hb (fun e => e)⟩, ⟨World.iter_heap w s 0, ?_, ?_⟩, ?_, ?_, ?_⟩
    · exact hF.keep fun b hb _ => hk.block b hb (fun e => e)
    · exact φ.stable _ _ _ _ (Facts.le_refl _) (fun b hb => hk.block b (hphl b hb) (fun e => e)) hph
    · rintro b rfl hb; have := hphl _ hb; omega
    · rintro b o' (rfl | hb)
      · cases hv : F w.heap.size o' with
        | none => rfl
        | some v => have := hF.lt hv; omega
      · exact hphF b o' hb
    · rintro b (rfl | hb)
      · exact .inr (Nat.le_refl _)
      · exact .inl hb
    · rintro b (rfl | hb)
      · show w.heap.size < (w.heap.push _).size; simp
      · exact Nat.lt_of_lt_of_le (hphl b hb) hk.size

def SNext : Am.Spec := fun rs φ K => ∃ b s pos ψ, rs = [.p (.val (.pointer (some ⟨b, 0, none⟩)))] ∧ φ = (Res.iter b s pos).sep ψ ∧
  (pos < s.size → K (.tup [.p (.val (.bool true)), .p (.val (.int .i64 pos)), .p (.val (.int .i32 (Utf8.decode s pos).1))]) ((Res.iter b s (pos + (Utf8.decode s pos).2)).sep ψ)) ∧
  (s.size ≤ pos → K (.tup [.p (.val (.bool false))]) φ)

theorem next_str {x : Operand} : SndP P (.next x true) SNext where
  runs := by
    rintro rs φ K ⟨b, s, pos, ψ, rfl, rfl, h1, h2⟩ o ρ F w ho hF hph hphF hphl hargs
    have hx : ρ x = .pointer (some ⟨b, 0, none⟩) := by
      have h : RepR F (.p (.val (.pointer (some ⟨b, 0, none⟩)))) (ρ x) := by
        have : All2 (RepR F) [.p (.val (.pointer (some ⟨b, 0, none⟩)))] [ρ x] := by simpa [Op.operands] using hargs
        cases this with
        | cons h _ => exact h
      generalize ρ x = v at h
      cases h; rfl
    have hb : w.heap[b]? = some (.stringIter s pos) := hph.1
    have hlt : b < w.heap.size := (Array.getElem?_eq_some_iff.1 hb).1
    by_cases hp : pos < s.size
    · have hrun : (execOp ρ o).run P w = .ok (.value (.tuple #[.bool true, .int .i64 pos, .int .i32 (Utf8.decode s pos).1])) { w with heap := w.heap.setIfInBounds b (.stringIter s (pos + (Utf8.decode s pos).2)) } := by
        simp [execOp, ho, hx, Instr.next, getObj, setObj, Sem.run, hb, hp, goInt]
      have hkp : Kept (fun x => x = b) w { w with heap := w.heap.setIfInBounds b (.stringIter s (pos + (Utf8.decode s pos).2)) } :=
        ⟨rfl, rfl, rfl, by simp, fun i _ hi => by simp [Array.getElem?_setIfInBounds_ne (Ne.symm hi)]⟩
      refine ⟨_, _, _, hrun, .inl rfl, _, _, F, h1 hp, ⟨_, rfl, .cons (.val rfl) (.cons (.val rfl) (.cons (.val rfl) .nil))⟩, Facts.le_refl _, ?_, fun _ _ _ _ => rfl, ⟨rfl, rfl, rfl, hkp.size, fun i hi hn => hkp.block i hi (fun e => hn (.inl e))⟩, ⟨?_, ?_, hph.2.2⟩, hphF, fun b h => .inl h, fun b' h => Nat.lt_of_lt_of_le (hphl b' h) hkp.size⟩
      · intro b' o' v hv
        have hne : b' ≠ b := fun e => by subst e; rw [hphF _ o' (.inl rfl)] at hv; cases hv
        exact (World.cell?_of_block (w := w) (a := ⟨b', o', none⟩) (hkp.block b' (hF.lt hv) hne)).trans (hF b' o' v hv)
      · show (w.heap.setIfInBounds b _)[b]? = _
        simp [hlt]
      · exact ψ.stable _ _ _ _ (Facts.le_refl _) (fun i hi => hkp.block i (hphl i (.inr hi)) (fun e => hph.2.2 b rfl (e ▸ hi))) hph.2.1
    · have hrun : (execOp ρ o).run P w = .ok (.value (.tuple #[.bool false])) w := by
        simp [execOp, ho, hx, Instr.next, getObj, Sem.run, hb, hp]
      refine ⟨_, _, _, hrun, .inl rfl, _, _, F, h2 (by omega), ⟨[.bool false], rfl, .cons (.val rfl) .nil⟩, Facts.le_refl _, hF, fun _ _ _ _ => rfl, Kept.refl _ w, hph, hphF, fun b h => .inl h, hphl⟩

end Go.Am
