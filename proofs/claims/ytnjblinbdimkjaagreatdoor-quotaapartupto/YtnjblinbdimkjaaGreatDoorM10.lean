/-
  bursarlaw18.QuotaApart answers true and leaves its arguments as they were, for inputs of bulk at most 1048576 (the given second form; no other condition). Part 10 of 26 of the proof.
-/
import Derived.Test.YtnjblinbdimkjaaGreatDoorM9
import Derived.Lib.AppendStr
import Derived.Laws.BytesString
/-
  AM: rows and boxes that stay changeable; marked slots; freezing between calls.
-/
namespace Go.Am
open Go

variable {P : Program} {gl : Nat → Option (List PV)} {f : FuncId} {S S' : Am.Spec}

/-! ### marked slots -/
def glX (gl : Nat → Option (List PV)) (ds : List Nat) : Nat → Option (List PV) := fun g => match gl g with
  | some cs => some cs
  | none => if ds.any (fun d => Nat.beq g (1000000 + d)) then some [] else none

theorem Snd.up {ds : List Nat} (h : Snd P gl f S) : Snd P (glX gl ds) f S where
  calls := fun rs φ K hS F w vs hg => h.calls rs φ K hS F w vs (fun g cs e => hg g cs (by simp [glX, e]))
theorem Snd.down {ds : List Nat} (h : Snd P (glX gl ds) f S) : Snd P gl f S where
  calls := fun rs φ K hS F w vs hg => h.calls rs φ K hS F w vs (fun g cs e => by
    unfold glX at e
    split at e
    · cases e; exact hg g _ ‹_›
    · split at e
      · cases e; exact .ip (fun _ => undef) (fun j x hx => by simp at hx) (fun j x hx => by simp at hx)
      · cases e)

/-! ### steps of thought between calls -/
/-- More is known, less may change. -/
structure Melt (φ φ' : Res) (X : Facts → Facts → Prop) : Prop where
  sub : ∀ b, φ'.fp b → φ.fp b
  run : ∀ F w, FactsOK F w → φ.ok F w → (∀ b o, φ.fp b → F b o = none) → ∃ F', Facts.le F F' ∧ FactsOK F' w ∧ (∀ b o, ¬ φ.fp b → F' b o = F b o) ∧ φ'.ok F' w ∧ (∀ b o, φ'.fp b → F' b o = none) ∧ X F F'

theorem Melt.mono {φ φ' : Res} {X Y : Facts → Facts → Prop} (h : Melt φ φ' X) (hm : ∀ F F', Facts.le F F' → X F F' → Y F F') : Melt φ φ' Y where
  sub := h.sub
  run := fun F w a b c => by
    obtain ⟨F', h1, h2, h3, h4, h5, h6⟩ := h.run F w a b c
    exact ⟨F', h1, h2, h3, h4, h5, hm _ _ h1 h6⟩
theorem Melt.refl (φ : Res) {X : Facts → Facts → Prop} (h : ∀ F, X F F) : Melt φ φ X where
  sub := fun _ h => h
  run := fun F _ a b c => ⟨F, Facts.le_refl _, a, fun _ _ _ => rfl, b, c, h F⟩
theorem Melt.trans {φ φ' φ'' : Res} {X Y Z : Facts → Facts → Prop} (h : Melt φ φ' X) (k : Melt φ' φ'' Y) (hz : ∀ F G H, Facts.le F G → Facts.le G H → X F G → Y G H → Z F H) : Melt φ φ'' Z where
  sub := fun b hb => h.sub b (k.sub b hb)
  run := fun F w a b c => by
    obtain ⟨F', h1, h2, h3, h4, h5, h6⟩ := h.run F w a b c
    obtain ⟨F2, k1, k2, k3, k4, k5, k6⟩ := k.run F' w h2 h4 h5
    exact ⟨F2, h1.trans k1, k2, fun b o hb => (k3 b o (fun e => hb (h.sub b e))).trans (h3 b o hb), k4, k5, hz _ _ _ h1 k1 h6 k6⟩
theorem Drops.melt {φ φ' : Res} (h : Drops φ φ') {X : Facts → Facts → Prop} (hx : ∀ F, X F F) : Melt φ φ' X where
  sub := h.fp
  run := fun F w a b c => ⟨F, Facts.le_refl _, a, fun _ _ _ => rfl, h.ok F w b, fun b o hb => c b o (h.fp b hb), hx F⟩

theorem Snd.post (h : Snd P gl f S) (hs : ∀ rs φ K, S' rs φ K → S rs φ (fun r φ1 => ∃ φ2 r2, Melt φ1 φ2 (fun F F' => ∀ v, RepO F r v → RepO F' r2 v) ∧ K r2 φ2)) : Snd P gl f S' where
  calls := by
    intro rs φ K h0 F w vs h1 h2 h3 h4 h5 h6
    have key : ∀ (v : Value) (w' : World) (r : Out) (φ1 : Res) (F1 : Facts), (∃ φ2 r2, Melt φ1 φ2 (fun F F' => ∀ v, RepO F r v → RepO F' r2 v) ∧ K r2 φ2) → RepO F1 r v → Facts.le F F1 → FactsOK F1 w' →
        (∀ b o, b < w.heap.size → ¬ φ.fp b → F1 b o = F b o) → Kept φ.fp w w' → φ1.ok F1 w' → (∀ b o, φ1.fp b → F1 b o = none) → (∀ b, φ1.fp b → φ.fp b ∨ w.heap.size ≤ b) → (∀ b, φ1.fp b → b < w'.heap.size) →
        ∃ r φ' F', K r φ' ∧ RepO F' r v ∧ Facts.le F F' ∧ FactsOK F' w' ∧ (∀ b o, b < w.heap.size → ¬ φ.fp b → F' b o = F b o) ∧ Kept φ.fp w w' ∧
          φ'.ok F' w' ∧ (∀ b o, φ'.fp b → F' b o = none) ∧ (∀ b, φ'.fp b → φ.fp b ∨ w.heap.size ≤ b) ∧ (∀ b, φ'.fp b → b < w'.heap.size) := by
      rintro v w' r φ1 F1 ⟨φ2, r2, hm, hk⟩ g1 g2 g3 g4 g5 g6 g7 g8 g9
      obtain ⟨F2, m1, m2, m3, m4, m5, m6⟩ := hm.run F1 w' g3 g6 g7
      exact ⟨r2, φ2, F2, hk, m6 v g1, g2.trans m1, m2, fun b o hb hn => (m3 b o (fun hp => (g8 b hp).elim hn (by omega))).trans (g4 b o hb hn), g5, m4, m5, fun b hb => g8 b (hm.sub b hb), fun b hb => g9 b (hm.sub b hb)⟩
    rcases h.calls rs φ _ (hs rs φ K h0) F w vs h1 h2 h3 h4 h5 h6 with ⟨he, hc⟩ | ⟨v, w', hrun, v', r, φ', F', e, hk, g1, g2, g3, g4, g5, g6, g7, g8, g9⟩
    · refine .inl ⟨he, hc.mono ?_⟩
      rintro e w' ⟨v, r, φ', F', e1, hk, g1, g2, g3, g4, g5, g6, g7, g8, g9⟩
      obtain ⟨r2, φ2, F2, hall⟩ := key v w' r φ' F' hk g1 g2 g3 g4 g5 g6 g7 g8 g9
      exact ⟨v, r2, φ2, F2, e1, hall⟩
    · obtain ⟨r2, φ2, F2, hall⟩ := key v' w' r φ' F' hk g1 g2 g3 g4 g5 g6 g7 g8 g9
      exact .inr ⟨v, w', hrun, v', r2, φ2, F2, e, hall⟩

theorem Snd.pre (h : Snd P gl f S) (hs : ∀ rs φ K, S' rs φ K → ∃ φ' rs', Melt φ φ' (fun F F' => ∀ vs, All2 (RepR F) rs vs → All2 (RepR F') rs' vs) ∧ S rs' φ' K) : Snd P gl f S' where
  calls := by
    intro rs φ K h0 F w vs h1 h2 h3 h4 h5 h6
    obtain ⟨φ', rs', hm, hS⟩ := hs rs φ K h0
    obtain ⟨F1, m1, m2, m3, m4, m5, m6⟩ := hm.run F w h2 h3 h4
    have key : ∀ (v : Value) (w' : World) (r : Out) (φ1 : Res) (F' : Facts), K r φ1 → RepO F' r v → Facts.le F1 F' → FactsOK F' w' →
        (∀ b o, b < w.heap.size → ¬ φ'.fp b → F' b o = F1 b o) → Kept φ'.fp w w' → φ1.ok F' w' → (∀ b o, φ1.fp b → F' b o = none) → (∀ b, φ1.fp b → φ'.fp b ∨ w.heap.size ≤ b) → (∀ b, φ1.fp b → b < w'.heap.size) →
        K r φ1 ∧ RepO F' r v ∧ Facts.le F F' ∧ FactsOK F' w' ∧ (∀ b o, b < w.heap.size → ¬ φ.fp b → F' b o = F b o) ∧ Kept φ.fp w w' ∧
          φ1.ok F' w' ∧ (∀ b o, φ1.fp b → F' b o = none) ∧ (∀ b, φ1.fp b → φ.fp b ∨ w.heap.size ≤ b) ∧ (∀ b, φ1.fp b → b < w'.heap.size) := by
      intro v w' r φ1 F' hk g1 g2 g3 g4 g5 g6 g7 g8 g9
      exact ⟨hk, g1, m1.trans g2, g3, fun b o hb hn => (g4 b o hb (fun e => hn (hm.sub b e))).trans (m3 b o hn), ⟨g5.os, g5.tape, g5.output, g5.size, fun b hb hn => g5.block b hb (fun e => hn (hm.sub b e))⟩, g6, g7,
        fun b hb => (g8 b hb).imp (hm.sub b) id, g9⟩
    rcases h.calls rs' φ' K hS F1 w vs (fun g cs e => (h1 g cs e).mono m1) m2 m4 m5 (fun b hb => h5 b (hm.sub b hb)) (m6 vs h6) with ⟨he, hc⟩ | ⟨v, w', hrun, v', r, φ1, F', e, hk, g1, g2, g3, g4, g5, g6, g7, g8, g9⟩
    · refine .inl ⟨he, hc.mono ?_⟩
      rintro e w' ⟨v, r, φ1, F', e1, hk, g1, g2, g3, g4, g5, g6, g7, g8, g9⟩
      exact ⟨v, r, φ1, F', e1, key v w' r φ1 F' hk g1 g2 g3 g4 g5 g6 g7 g8 g9⟩
    · exact .inr ⟨v, w', hrun, v', r, φ1, F', e, key v' w' r φ1 F' hk g1 g2 g3 g4 g5 g6 g7 g8 g9⟩

/-! ### a row of one's own -/
def Res.own (v : Value) (T k : Nat) (es : List (List PV)) : Res where
  fp := fun b => v.ownBlock = some b
  ok := fun F w => ∃ xs, w.ownsRow 0 T k v es.length xs ∧ RepL F es.flatten xs ∧ (∀ e ∈ es, e.length = k) ∧ es.length ≤ LIM
  stable := by
    rintro F F' w w' hF hb ⟨xs, h1, h2, h3⟩
    refine ⟨xs, ⟨h1.1, ?_⟩, h2.mono fun _ _ => RepP.mono hF, h3⟩
    rcases h1.2 with hn | ⟨g, cap, cur, hv, hg, hgg, rest⟩
    · exact .inl hn
    · exact .inr ⟨g, cap, cur, hv, hg, by rw [hb g (by rw [hv]; rfl)]; exact hgg, rest⟩

/-- a slice's header -/
abbrev hdr (b n c : Nat) : Value := .slice (some ⟨b, 0, none⟩) n c

theorem melt_own {v : Value} {T k : Nat} {es : List (List PV)} {φ : Res} : Melt ((Res.own v T k es).sep φ) φ (fun F F' => Facts.le F F' ∧ RepP F' (.sl es es.length) v) where
  sub := fun b h => .inr h
  run := by
    rintro F w hF ⟨⟨xs, hown, hrep, hek, hlim⟩, hφ, hap⟩ hnone
    rcases hown.2 with ⟨hv, hz⟩ | ⟨g, cap, cur, hv, hg, hgg, hnc, hcm, hcs, htake⟩
    · have : es = [] := List.eq_nil_of_length_eq_zero hz
      subst this
      exact ⟨F, Facts.le_refl _, hF, fun _ _ _ => rfl, hφ, fun b o hb => hnone b o (.inr hb), Facts.le_refl _, by rw [hv]; exact .nil⟩
    · have hob : v.ownBlock = some g := by rw [hv]; rfl
      have hFb : ∀ o, F g o = none := fun o => hnone g o (.inl hob)
      have hle := addF_le (l := xs) hFb
      have hne : ∀ b, b ≠ g → ∀ o, addF F g xs b o = F b o := fun b hb o => by simp [addF, hb]
      refine ⟨addF F g xs, hle, ?_, fun b o hb => hne b (fun e => hb (.inl (by rw [e]; exact hob))) o, φ.stable _ _ _ _ hle (fun _ _ => rfl) hφ, fun b o hb => ?_, hle, ?_⟩
      · intro b o u e
        simp only [addF] at e
        split at e
        · rename_i e'; subst e'
          have := hown.cells hob o u e
          rw [addr_add] at this
          simpa using this
        · exact hF b o u e
      · rw [hne b (fun e => hap g hob (e ▸ hb))]; exact hnone b o (.inr hb)
      · rw [hv]
        refine .sl (fun i j => xs.getD (i * k + j) undef) k (Nat.le_refl _) hnc hlim hek (fun i j e x he hx => ?_) (fun i j e x he hx => ?_)
        · obtain ⟨u, hu, _⟩ := hrep.get (flat_get es hek i j e x he hx)
          simp [addF, hu]
        · obtain ⟨u, hu, hu2⟩ := hrep.get (flat_get es hek i j e x he hx)
          simp only [List.getD_eq_getElem?_getD, hu, Option.getD_some]
          exact hu2.mono hle

/-- nil is a row of one's own -/
theorem melt_nil {T k : Nat} {φ : Res} {X : Facts → Facts → Prop} (h : ∀ F, X F F) : Melt φ ((Res.own (.slice none 0 0) T k []).sep φ) X where
  sub := fun b hb => hb.elim (fun h => by cases h) id
  run := fun F w a b c => ⟨F, Facts.le_refl _, a, fun _ _ _ => rfl, ⟨⟨[], World.ownsRow_nil w _ T k, .nil, (by intro e he; cases he), by simp⟩, b, fun x hx => by cases hx⟩, fun b o hb => hb.elim (fun h => by cases h) (fun h => c b o h), h F⟩

/-- the same but for the slice that is known now -/
def Thw (v : Value) (y : PV) (a b : PV) : Prop := a = b ∨ (a = .val v ∧ b = y)
def ThwR (v : Value) (y : PV) : RV → RV → Prop
  | .p a, .p b => Thw v y a b
  | .agg l, .agg m => All2 (Thw v y) l m
  | _, _ => False
def ThwO (v : Value) (y : PV) : Out → Out → Prop
  | .one a, .one b => ThwR v y a b
  | .tup l, .tup m => All2 (ThwR v y) l m
  | _, _ => False

theorem Thw.rfl' {v : Value} {y : PV} : ∀ (l : List PV), All2 (Thw v y) l l
  | [] => .nil
  | _ :: l => .cons (.inl rfl) (Thw.rfl' l)

theorem Thw.rep {v u : Value} {y a b : PV} {F F' : Facts} (h : Thw v y a b) (hle : Facts.le F F') (hy : RepP F' y v) (hr : RepP F a u) : RepP F' b u := by
  rcases h with rfl | ⟨rfl, rfl⟩
  · exact hr.mono hle
  · cases hr; exact hy
theorem All2.comp {α β γ : Type} {R : α → β → Prop} {S : α → γ → Prop} {T : β → γ → Prop} (h : ∀ a b c, R a b → S a c → T b c) {l : List α} {m : List β} {n : List γ} (x : All2 R l m) (y : All2 S l n) : All2 T m n := by
  induction x generalizing n with
  | nil => cases y; exact .nil
  | cons h1 _ ih => cases y with
    | cons h2 t => exact .cons (h _ _ _ h1 h2) (ih t)
theorem ThwR.rep {v u : Value} {y : PV} {a b : RV} {F F' : Facts} (h : ThwR v y a b) (hle : Facts.le F F') (hy : RepP F' y v) (hr : RepR F a u) : RepR F' b u := by
  cases a with
  | p a => cases b with
    | p b => exact Thw.rep h hle hy hr
    | agg m => exact h.elim
  | agg l => cases b with
    | p b => exact h.elim
    | agg m =>
      obtain ⟨us, e, hr⟩ := hr
      exact ⟨us, e, All2.comp (R := Thw v y) (T := RepP F') (fun _ _ _ h1 h2 => Thw.rep h1 hle hy h2) h hr⟩
theorem ThwO.rep {v u : Value} {y : PV} {a b : Out} {F F' : Facts} (h : ThwO v y a b) (hle : Facts.le F F') (hy : RepP F' y v) (hr : RepO F a u) : RepO F' b u := by
  cases a with
  | one a => cases b with
    | one b => exact ThwR.rep h hle hy hr
    | tup m => exact h.elim
  | tup l => cases b with
    | one b => exact h.elim
    | tup m =>
      obtain ⟨us, e, hr⟩ := hr
      exact ⟨us, e, All2.comp (R := ThwR v y) (T := RepR F') (fun _ _ _ h1 h2 => ThwR.rep h1 hle hy h2) h hr⟩

theorem melt_out {v : Value} {T k : Nat} {es : List (List PV)} {φ : Res} {r r' : Out} (h : ThwO v (.sl es es.length) r r') : Melt ((Res.own v T k es).sep φ) φ (fun F F' => ∀ u, RepO F r u → RepO F' r' u) :=
  melt_own.mono fun _ _ _ hx _ hu => h.rep hx.1 hx.2 hu
theorem melt_args {v : Value} {T k : Nat} {es : List (List PV)} {φ : Res} {rs rs' : List RV} (h : All2 (ThwR v (.sl es es.length)) rs rs') :
    Melt ((Res.own v T k es).sep φ) φ (fun F F' => ∀ us, All2 (RepR F) rs us → All2 (RepR F') rs' us) :=
  melt_own.mono fun _ _ _ hx _ hu => All2.comp (fun _ _ _ h1 h2 => h1.rep hx.1 hx.2 h2) h hu

/-! ### operations that bring changeable things -/
theorem facts_none {F : Facts} {w : World} (h : FactsOK F w) (o : Nat) : F w.heap.size o = none := by
  cases hv : F w.heap.size o with
  | none => rfl
  | some v => have := h.lt hv; omega

theorem sl_src' {F : Facts} {w : World} {es : List (List PV)} {n : Nat} {v : Value} (hF : FactsOK F w) (hy : RepP F (.sl es n) v) :
    (v = .slice none 0 0 ∧ es.take n = []) ∨ ∃ ad c news, v = .slice (some ad) (es.take n).length c ∧ RepL F (es.take n).flatten news ∧ ∀ (j : Nat) (u : Value), news[j]? = some u → w.cell? (ad.add j) = some u := by
  cases hy with
  | @sl _ _ b off c vs k hn hc hl hk h1 h2 =>
    obtain ⟨news, g1, g2⟩ := sl_flat (F := F) (b := b) (k := k) (es.take n) off vs (fun e he => hk e (List.mem_of_mem_take he)) (fun i j e x he hx => h1 i j e x (getElem?_take_some he) hx)
      (fun i j e x he hx => h2 i j e x (getElem?_take_some he) hx)
    refine .inr ⟨⟨b, off, none⟩, c, news, by simp [Nat.min_eq_left hn], g1, fun j u hj => ?_⟩
    rw [addr_add]
    exact hF _ _ _ (g2 j u hj)
  | nil => exact .inl ⟨rfl, rfl⟩
  | nil0 => exact .inr ⟨_, _, [], rfl, .nil, by intro j u hj; simp at hj⟩

def zipP (place : Nat → Option (Nat × Nat)) : List Nat → List RV → Option (List (Nat × Nat × AV))
  | [], [] => some []
  | i :: l, r :: m => match place i, zipP place l m with
    | some (o, k), some q => some ((o, k, r.av) :: q)
    | _, _ => none
  | _, _ => none

theorem zipP_rel {F : Facts} {ρ : Operand → Value} {place : Nat → Option (Nat × Nat)} : ∀ (ps : List (Nat × Operand)) (rs : List RV) (q : List (Nat × Nat × AV)), zipP place (ps.map (·.1)) rs = some q → All2 (RepR F) rs (ps.map fun p => ρ p.2) →
    All2 (fun (x : Nat × Value) (p : Nat × Nat × AV) => place x.1 = some (p.1, p.2.1) ∧ RepA ⟨F, fun _ => none, fun _ _ => none⟩ p.2.2 x.2) (ps.map fun p => (p.1, ρ p.2)) q
  | [], rs, q, h, hr => by
    cases hr
    simp only [List.map_nil, zipP, Option.some.injEq] at h
    subst h; exact .nil
  | (i, x) :: ps, rs, q, h, hr => by
    cases hr with
    | cons h1 ht =>
      simp only [List.map_cons, zipP] at h
      split at h
      · rename_i off k q' hp hq
        cases h
        exact .cons ⟨hp, av_rep h1⟩ (zipP_rel ps _ _ hq ht)
      · cases h

/-- a literal -/
def SBorn (e k n : Nat) (zs : List PV) (ix : List Nat) : Am.Spec := fun rs φ K => zs.length = k ∧ 0 < n ∧ 0 < k ∧ n * k ≤ 16777216 ∧
  ∃ ps cs, zipP (fun j => some (j * k, k)) ix rs = some ps ∧ fillA (repl n zs) ps = some cs ∧ ∀ b, K (.one (.p (.val (hdr b n n)))) ((Res.own (hdr b n n) e k (chunks k n cs)).sep φ)

theorem born_slice {T e : TypeId} {n : Nat} {ps : Array (Nat × Operand)} {i : TypeInfo} {z : Value} {zs : List PV} (hu : P.underlying T = some (.slice e)) (hi : P.info? e = some i) (hz : i.zero = some z) (hzs : pvs z.cells.toList = some zs) :
    SndP P (.buildSlice T n ps) (SBorn e i.size n zs (ps.toList.map (·.1))) where
  runs := by
    rintro rs φ K ⟨hk, hn0, hk0, hlim, qs, cs, hzip, hf, hK⟩ o ρ F w ho hF hph hphF hphl hargs
    have hargs' : All2 (RepR F) rs (ps.toList.map fun p => ρ p.2) := by simpa [Op.operands, Function.comp_def] using hargs
    have hzr := pvs_rep (F := F) hzs
    have hzl := hzr.len
    have hcells := zero_cells z.cells.toList i.size (by rw [← hzl]; exact hk) hk0 n
    simp only [Array.toArray_toList] at hcells
    obtain ⟨m, hm1, hm2⟩ := repl_rep hzr n
    rw [hm2, ← hcells] at hm1
    obtain ⟨arr, h1, h2⟩ := fill_rep (G := ⟨F, fun _ => none, fun _ _ => none⟩) _ _ _ cs _ (zipP_rel _ _ _ hzip hargs') hf hm1
    have hsz : arr.size = n * i.size := by rw [fill_len _ h1]; simp
    have hcl : cs.length = n * i.size := by rw [h2.len]; simpa using hsz
    obtain ⟨hfl, hek⟩ := chunks_flat n cs hcl
    have hle := chunks_len (k := i.size) n cs
    have hnl : n ≤ 16777216 := Nat.le_trans (Nat.le_mul_of_pos_right n hk0) hlim
    have hkp := Kept.alloc w (.cells arr e (0, 0))
    refine ⟨.value (hdr w.heap.size n n), _, w.alloc (.cells arr e (0, 0)), ?_, .inl rfl, _, _, F, hK w.heap.size, .val rfl, Facts.le_refl _, hF.keep fun b hb _ => hkp.block b hb (fun e => e), fun _ _ _ _ => rfl,
      ⟨hkp.os, hkp.tape, hkp.output, hkp.size, fun b hb _ => hkp.block b hb (fun e => e)⟩, ⟨⟨arr.toList, ?_, ?_, hek, ?_⟩, ?_, ?_⟩, ?_, ?_, ?_⟩
    · have hs : (sizeOf e).run P w = .ok i.size w := by simp [sizeOf, typeInfo, hi]
      have hzv : (zeroValue e).run P w = .ok z w := by simp [zeroValue, typeInfo, hi, hz]
      have hne : ¬ (n * i.size = 0) := by
        intro h0; rcases Nat.mul_eq_zero.1 h0 with h0 | h0 <;> omega
      have hnl' : ¬ (n * i.size > 16777216) := by omega
      have h1' : Instr.fill (fun j => some (j * i.size, i.size)) ((Array.range (n * i.size)).map fun j => z.cells[j % z.cells.size]!) (ps.map fun q => (q.1, ρ q.2)).toList = some arr := by
        rw [Array.toList_map]; exact h1
      simp only [execOp, ho, Instr.buildSlice, Sem.run_bind, run_underlying hu, Result.andThen_ok, hs, hne, if_false, hzv, Sem.run_pure, hnl', show (2 : Nat) ^ 24 = 16777216 from rfl]
      simp only [h1', Sem.run_bind, Sem.run_pure]
      rfl
    · rw [hle]; exact World.ownsRow_lit w arr n (Nat.zero_le _) (by simp [maxLen]; omega) hsz
    · rw [hfl]; exact h2
    · rw [hle]; simp [LIM]; omega
    · exact φ.stable _ _ _ _ (Facts.le_refl _) (fun b hb => hkp.block b (hphl b hb) (fun e => e)) hph
    · intro b hb hp
      simp only [Res.own, Value.ownBlock, Option.some.injEq] at hb
      have := hphl b hp; omega
    · rintro b o' (hb | hb)
      · simp only [Res.own, Value.ownBlock, Option.some.injEq] at hb
        subst hb; exact facts_none hF o'
      · exact hphF b o' hb
    · rintro b (hb | hb)
      · simp only [Res.own, Value.ownBlock, Option.some.injEq] at hb
        exact .inr (by omega)
      · exact .inl hb
    · rintro b (hb | hb)
      · simp only [Res.own, Value.ownBlock, Option.some.injEq] at hb
        subst hb; show w.heap.size < (w.heap.push _).size; simp
      · exact Nat.lt_of_lt_of_le (hphl b hb) hkp.size

/-- append to a row of one's own (or to nil) -/
def SApp (e k by' : Nat) : Am.Spec := fun rs φ K => ∃ v es ys n ψ, rs = [.p (.val v), .p (.sl ys n)] ∧ (φ = (Res.own v e k es).sep ψ ∨ (v = .slice none 0 0 ∧ es = [] ∧ φ = ψ)) ∧ allK k (ys.take n) ∧ n ≤ ys.length ∧
  (es.length + n) * by' ≤ 140737488351232 ∧ es.length + n ≤ LIM ∧ ∀ v', (0 < n → ∃ b c, v' = hdr b (es.length + n) c) → (n = 0 → v' = v) → K (.one (.p (.val v'))) ((Res.own v' e k (es ++ ys.take n)).sep ψ)

theorem app_own {T e : TypeId} {x y : Operand} {i : TypeInfo} {z : Value} (hu : P.underlying T = some (.slice e)) (hi : P.info? e = some i) (hz : i.zero = some z) (hzs : z.cells.size = i.size) (hsz : 0 < i.size) :
    SndP P (.call { callee := .builtin .append, args := #[x, y], argTypes := #[T, T] }) (SApp e i.size i.bytes) where
  runs := by
    rintro rs φ K ⟨v, es, ys, n, ψ, rfl, hφ, hk, hny, hby, hlim, hK⟩ o ρ F w ho hF hph hphF hphl hargs
    obtain ⟨hxv, hyr⟩ : ρ x = v ∧ RepP F (.sl ys n) (ρ y) := by
      have : All2 (RepR F) [.p (.val v), .p (.sl ys n)] [ρ x, ρ y] := by simpa [Op.operands, Call.operands] using hargs
      cases this with
      | cons h1 t => cases t with
        | cons h2 _ =>
          refine ⟨?_, h2⟩
          have h1 : RepP F (.val v) (ρ x) := h1
          generalize ρ x = u at h1
          cases h1; rfl
    have hone : v.oneCell' = true := by
      have : All2 (RepR F) [.p (.val v), .p (.sl ys n)] [ρ x, ρ y] := by simpa [Op.operands, Call.operands] using hargs
      cases this with
      | cons h1 t =>
        have h1 : RepP F (.val v) (ρ x) := h1
        generalize ρ x = u at h1
        cases h1; assumption
    have exec : ∀ v' w', (Builtin.append_ #[T, T] o.type #[ρ x, ρ y]).run P w = .ok v' w' → (execOp ρ o).run P w = .ok (.value v') w' := fun v' w' hrun => by
      simp [execOp, ho, resolve, invoke, builtin, hrun]
    have hle : n ≤ (ys.take n).length := by simp; omega
    have htl : (ys.take n).length = n := by simp; omega
    obtain ⟨⟨xs, hown, hrep0, hek, hlim0⟩, hψ, hap, hsub, hvfp⟩ : (Res.own v e i.size es).ok F w ∧ ψ.ok F w ∧ (∀ b, v.ownBlock = some b → ¬ ψ.fp b) ∧ (∀ b, ψ.fp b → φ.fp b) ∧ (∀ b, v.ownBlock = some b → φ.fp b) := by
      rcases hφ with rfl | ⟨rfl, rfl, rfl⟩
      · exact ⟨hph.1, hph.2.1, hph.2.2, fun b h => .inr h, fun b h => .inl h⟩
      · exact ⟨⟨[], World.ownsRow_nil w _ e i.size, .nil, (by intro e he; cases he), by simp⟩, hph, (fun b h => by cases h), fun b h => h, (fun b h => by cases h)⟩
    have fin : ∀ (v' : Value) (w' : World) (xs' : List Value), (execOp ρ o).run P w = .ok (.value v') w' → w'.ownsRow 0 e i.size v' (es.length + n) xs' → RepL F (es ++ ys.take n).flatten xs' → w.grownBy w' v.ownBlock →
        (∀ b, v'.ownBlock = some b → v.ownBlock = some b ∨ w.heap.size ≤ b) → v'.oneCell' = true → (0 < n → ∃ b c, v' = hdr b (es.length + n) c) → (n = 0 → v' = v) →
        ∃ nx v w', (execOp ρ o).run P w = .ok nx w' ∧ (nx = .value v ∨ (nx = .skip ∧ v = undef)) ∧ ∃ r φ' F', K r φ' ∧ RepO F' r v ∧ Facts.le F F' ∧ FactsOK F' w' ∧ (∀ b o, b < w.heap.size → ¬ φ.fp b → F' b o = F b o) ∧ Kept φ.fp w w' ∧
          φ'.ok F' w' ∧ (∀ b o, φ'.fp b → F' b o = none) ∧ (∀ b, φ'.fp b → φ.fp b ∨ w.heap.size ≤ b) ∧ (∀ b, φ'.fp b → b < w'.heap.size) := by
      intro v' w' xs' hrun hown' hrep' hgr hhead h1 hsh h0
      have hblk : ∀ b, b < w.heap.size → ¬ φ.fp b → w'.heap[b]? = w.heap[b]? := fun b hb hn => hgr.block b hb (fun e => hn (hvfp b e.symm))
      refine ⟨_, _, w', hrun, .inl rfl, _, _, F, hK v' hsh h0, .val h1, Facts.le_refl _, ?_, fun _ _ _ _ => rfl, ⟨hgr.os, hgr.tape, hgr.output, hgr.size, hblk⟩, ⟨⟨xs', by rw [List.length_append, htl]; exact hown', hrep', ?_, by rw [List.length_append, htl]; exact hlim⟩, ?_, ?_⟩, ?_, ?_, ?_⟩
      · refine hF.keep fun b hb hv => hblk b hb (fun hp => ?_)
        obtain ⟨o', u, hv⟩ := hv
        rw [hphF b o' hp] at hv; cases hv
      · intro e' he'
        rcases List.mem_append.1 he' with h | h
        · exact hek e' h
        · exact hk e' h
      · exact ψ.stable _ _ _ _ (Facts.le_refl _) (fun b hb => hgr.block b (hphl b (hsub b hb)) (fun e => hap b e.symm hb)) hψ
      · intro b hb hp
        rcases hhead b hb with h | h
        · exact hap b h hp
        · have := hphl b (hsub b hp); omega
      · rintro b o' (hb | hb)
        · rcases hhead b hb with h | h
          · exact hphF b o' (hvfp b h)
          · cases hv : F b o' with
            | none => rfl
            | some u => have := hF.lt hv; omega
        · exact hphF b o' (hsub b hb)
      · rintro b (hb | hb)
        · exact (hhead b hb).imp (hvfp b) id
        · exact .inl (hsub b hb)
      · rintro b (hb | hb)
        · exact (hown'.lt b hb).2
        · exact Nat.lt_of_lt_of_le (hphl b (hsub b hb)) hgr.size
    have zero : n = 0 → (ρ y = .slice none 0 0 ∨ ∃ ad c, ρ y = .slice (some ad) 0 c) → ∃ nx v w', (execOp ρ o).run P w = .ok nx w' ∧ (nx = .value v ∨ (nx = .skip ∧ v = undef)) ∧ ∃ r φ' F', K r φ' ∧ RepO F' r v ∧ Facts.le F F' ∧ FactsOK F' w' ∧ (∀ b o, b < w.heap.size → ¬ φ.fp b → F' b o = F b o) ∧ Kept φ.fp w w' ∧
          φ'.ok F' w' ∧ (∀ b o, φ'.fp b → F' b o = none) ∧ (∀ b, φ'.fp b → φ.fp b ∨ w.heap.size ≤ b) ∧ (∀ b, φ'.fp b → b < w'.heap.size) := fun hn hsrc => by
      subst hn
      have hrun := run_append_zero (P := P) (ty := o.type) hu hi hown hsrc
      rw [← hxv] at hrun
      refine fin _ w xs (exec _ _ hrun) (by rw [hxv]; exact hown) (by simpa using hrep0) ⟨rfl, rfl, rfl, Nat.le_refl _, fun _ _ _ => rfl⟩ (fun b hb => .inl (by rw [← hxv]; exact hb)) (by rw [hxv]; exact hone) (fun h => absurd h (by omega)) (fun _ => hxv)
    rcases sl_src' hF hyr with ⟨hyv, hys⟩ | ⟨ad, c, news, hyv, hrep, hcell⟩
    · exact zero (by rw [← htl, hys]; rfl) (.inl hyv)
    · rw [htl] at hyv
      by_cases hn0 : n = 0
      · exact zero hn0 (.inr ⟨ad, c, by rw [hyv, hn0]⟩)
      · have hpos : 0 < n := by omega
        have hlen : news.length = n * i.size := by rw [← hrep.len, flat_len _ hk, htl]
        have h63 : es.length + n ≤ maxLen := by simp only [maxLen, LIM] at *; omega
        have h63' : ((es.length + n : Nat) : Int) ≤ 9223372036854775807 := by simp only [LIM] at hlim; omega
        have hby' : (es.length + n) * i.bytes ≤ 140737488355328 := by omega
        obtain ⟨v', w', hrun, hown', hgr, hnil⟩ := run_append_own (P := P) w 0 T o.type e i z i.size i.bytes hu hi hz rfl rfl hzs hsz v es.length xs hown ad n c news hlen hcell (rep_one hrep)
          h63 hby' (Nat.zero_le _)
        have hhead : ∀ b, v'.ownBlock = some b → v.ownBlock = some b ∨ w.heap.size ≤ b := by
          rcases hown.2 with ⟨hv, hz0⟩ | ⟨g, cap, cur, hv, hbg, hg, hnc, hcm, hcs, htake⟩
          · have h0 : es.length = 0 := hz0
            have := run_append_nil (P := P) w T o.type e i z hu hi hz ad n c news hlen hcell hpos (by omega) (by rw [h0, Nat.zero_add] at hby'; omega)
            rw [hv, this] at hrun
            cases hrun
            intro b hb; simp [Value.ownBlock] at hb; omega
          · by_cases hroom : es.length + n ≤ cap
            · have hfit : es.length * i.size + news.length ≤ cur.size := by rw [hlen, hcs, ← Nat.add_mul]; exact Nat.mul_le_mul_right _ hroom
              have := run_append_room (P := P) w T o.type e i hu hi g es.length cap cur hg ad n c news hlen hcell (rep_one hrep) hroom hfit
              rw [hv, this] at hrun
              cases hrun
              intro b hb; rw [hv]; exact .inl hb
            · have holds := hown.cells (g := g) (by rw [hv]; rfl)
              have := run_append_grow (P := P) w T o.type e i z hu hi hz ⟨g, 0, none⟩ es.length cap xs hown.1 holds ad n c news hlen hcell (by omega) h63' (growslice_fits (by omega) hby')
              rw [hv, this] at hrun
              cases hrun
              intro b hb; simp [Value.ownBlock] at hb; omega
        rw [← hxv, ← hyv] at hrun
        have hsh : ∃ b c, v' = hdr b (es.length + n) c := by
          rcases hown'.2 with ⟨hv, hz0⟩ | ⟨g, cap, cur, hv, _⟩
          · exact absurd hz0 (by omega)
          · exact ⟨g, cap, hv⟩
        refine fin v' w' (xs ++ news) (exec _ _ hrun) hown' (by rw [List.flatten_append]; exact hrep0.app hrep) hgr hhead ?_ (fun _ => hsh) (fun h => absurd h hn0)
        obtain ⟨b, c, rfl⟩ := hsh
        rfl

/-! ### a box of one's own -/
def Res.box (b : Nat) (cs : List PV) : Res where
  fp := fun x => x = b
  ok := fun F w => BoxAt F w b cs
  stable := by
    rintro F F' w w' hF hb ⟨l, T, h, hr⟩
    exact ⟨l, T, by rw [hb b rfl]; exact h, hr.mono fun _ _ => RepP.mono hF⟩

def rvCells : RV → List PV
  | .p x => [x]
  | .agg cs => cs

/-- a box is born -/
def SBox : Am.Spec := fun rs φ K => ∃ r, rs = [r] ∧ ∀ b, K (.one (.p (.val (.pointer (some ⟨b, 0, none⟩))))) ((Res.box b (rvCells r)).sep φ)
def SAlloc (zs : List PV) : Am.Spec := fun rs φ K => rs = [] ∧ ∀ b, K (.one (.p (.val (.pointer (some ⟨b, 0, none⟩))))) ((Res.box b zs).sep φ)

theorem born_fin {φ : Res} {K : Out → Res → Prop} {F : Facts} {w : World} {l : List Value} {T : TypeId} {cs : List PV} (hF : FactsOK F w) (hph : φ.ok F w) (hphF : ∀ b o, φ.fp b → F b o = none) (hphl : ∀ b, φ.fp b → b < w.heap.size)
    (hl : RepL F cs l) (hK : ∀ b, K (.one (.p (.val (.pointer (some ⟨b, 0, none⟩))))) ((Res.box b cs).sep φ)) :
    ∃ r φ' F', K r φ' ∧ RepO F' r (.pointer (some ⟨w.heap.size, 0, none⟩)) ∧ Facts.le F F' ∧ FactsOK F' (w.alloc (.cells l.toArray T (0, 0))) ∧ (∀ b o, b < w.heap.size → ¬ φ.fp b → F' b o = F b o) ∧ Kept φ.fp w (w.alloc (.cells l.toArray T (0, 0))) ∧
      φ'.ok F' (w.alloc (.cells l.toArray T (0, 0))) ∧ (∀ b o, φ'.fp b → F' b o = none) ∧ (∀ b, φ'.fp b → φ.fp b ∨ w.heap.size ≤ b) ∧ (∀ b, φ'.fp b → b < (w.alloc (.cells l.toArray T (0, 0))).heap.size) := by
  have hkp := Kept.alloc w (.cells l.toArray T (0, 0))
  refine ⟨_, _, F, hK w.heap.size, .val rfl, Facts.le_refl _, hF.keep fun b hb _ => hkp.block b hb (fun e => e), fun _ _ _ _ => rfl,
    ⟨hkp.os, hkp.tape, hkp.output, hkp.size, fun b hb _ => hkp.block b hb (fun e => e)⟩, ⟨⟨l, T, heap_alloc_new w _, hl⟩, ?_, ?_⟩, ?_, ?_, ?_⟩
  · exact φ.stable _ _ _ _ (Facts.le_refl _) (fun b hb => hkp.block b (hphl b hb) (fun e => e)) hph
  · rintro b rfl hp
    have := hphl _ hp; omega
  · rintro b o' (rfl | hb)
    · exact facts_none hF o'
    · exact hphF b o' hb
  · rintro b (rfl | hb)
    · exact .inr (Nat.le_refl _)
    · exact .inl hb
  · rintro b (rfl | hb)
    · show w.heap.size < (w.heap.push _).size; simp
    · exact Nat.lt_of_lt_of_le (hphl b hb) hkp.size

theorem born_box {T : TypeId} {x : Operand} : SndP P (.box T x) SBox where
  runs := by
    rintro rs φ K ⟨r, rfl, hK⟩ o ρ F w ho hF hph hphF hphl hargs
    have hx : RepR F r (ρ x) := by
      have : All2 (RepR F) [r] [ρ x] := by simpa [Op.operands] using hargs
      cases this with
      | cons h _ => exact h
    obtain ⟨l, hl, hrep⟩ : ∃ l : List Value, (ρ x).cells = l.toArray ∧ RepL F (rvCells r) l := by
      cases r with
      | p y => exact ⟨[ρ x], cells_one (RepP.one hx), .cons hx .nil⟩
      | agg cs => obtain ⟨l, e, h⟩ := hx; exact ⟨l, by rw [e]; rfl, h⟩
    have hrun : (execOp ρ o).run P w = .ok (.value (.pointer (some ⟨w.heap.size, 0, none⟩))) (w.alloc (.cells l.toArray T (0, 0))) := by
      simp [execOp, ho, Instr.box, run_newVar (P := P) (w := w) T _ l hl]
    exact ⟨_, _, _, hrun, .inl rfl, born_fin hF hph hphF hphl hrep hK⟩

theorem born_alloc {T : TypeId} {z : Value} {zs : List PV} (hz : (P.info? T).bind (·.zero) = some z) (hzs : ∀ F, RepL F zs z.cells.toList) : SndP P (.alloc T) (SAlloc zs) where
  runs := by
    rintro rs φ K ⟨rfl, hK⟩ o ρ F w ho hF hph hphF hphl hargs
    have hrun : (execOp ρ o).run P w = .ok (.value (.pointer (some ⟨w.heap.size, 0, none⟩))) (w.alloc (.cells z.cells.toList.toArray T (0, 0))) := by
      cases hi : P.info? T with
      | none => simp [hi] at hz
      | some i =>
        have hz' : i.zero = some z := by simpa [hi] using hz
        simp [execOp, ho, Instr.alloc, zeroValue, typeInfo, hi, hz', run_newVar (P := P) (w := w) T z z.cells.toList (by simp)]
    exact ⟨_, _, _, hrun, .inl rfl, born_fin hF hph hphF hphl (hzs F) hK⟩

/-- a struct, its zero values given -/
def SBuild (zs : List PV) (place : Nat → Option (Nat × Nat)) (ix : List Nat) : Am.Spec := fun rs φ K => ∃ ps cs, zipP place ix rs = some ps ∧ fillA zs ps = some cs ∧ K (.one (.agg cs)) φ
theorem built {T : TypeId} {ps : Array (Nat × Operand)} {fs : Array Field} {ti : TypeInfo} {z : Value} {places : List (Nat × Nat)} {zs : List PV} (hu : P.underlying T = some (.struct fs)) (hi : P.info? T = some ti) (hz : ti.zero = some z)
    (hp : fs.toList.mapM (fun f => (P.info? f.type).map fun i => (f.offset, i.size)) = some places) (hzs : ∀ F, RepL F zs z.cells.toList) : SndP P (.build T ps) (SBuild zs (places.toArray[·]?) (ps.toList.map (·.1))) where
  runs := by
    rintro rs φ K ⟨qs, cs, hzip, hf, hK⟩ o ρ F w ho hF hph hphF hphl hargs
    have hargs' : All2 (RepR F) rs (ps.toList.map fun p => ρ p.2) := by simpa [Op.operands, Function.comp_def] using hargs
    obtain ⟨arr, h1, h2⟩ := fill_rep (G := ⟨F, fun _ => none, fun _ _ => none⟩) _ _ zs cs z.cells (zipP_rel _ _ _ hzip hargs') hf (hzs F)
    have hb : P.built T (ps.map fun q => (q.1, ρ q.2)).toList = some arr := by
      simp only [Program.built, hi, hu, hz, hp]
      rw [Array.toList_map]; exact h1
    have hrun := run_build (P := P) w T (ps.map fun q => (q.1, ρ q.2)) arr hb
    exact ⟨_, .agg arr, w, by simp [execOp, ho, hrun], .inl rfl, _, _, F, hK, ⟨arr.toList, by simp, h2⟩, Facts.le_refl _, hF, fun _ _ _ _ => rfl, Kept.refl _ w, hph, hphF, fun b h => .inl h, hphl⟩

/-! ### what lies there, and what a store makes of it -/
theorem PhLoad.l {ψ φ : Res} {b o k : Nat} {cs : List PV} (h : PhLoad ψ b o k cs) : PhLoad (ψ.sep φ) b o k cs := ⟨h.1, fun F w hok => h.2 F w hok.1⟩
theorem PhLoad.r {ψ φ : Res} {b o k : Nat} {cs : List PV} (h : PhLoad φ b o k cs) : PhLoad (ψ.sep φ) b o k cs := ⟨h.1, fun F w hok => h.2 F w hok.2.1⟩

theorem setRow_ne {w : World} {b x : Nat} {arr : Array Value} (h : x ≠ b) : (w.setRow b arr).heap[x]? = w.heap[x]? := setRow_other w b x arr h

theorem PhStore.l {ψ ψ' φ : Res} {b o : Nat} {xs : List PV} (h : PhStore ψ b o xs ψ') : PhStore (ψ.sep φ) b o xs (ψ'.sep φ) :=
  ⟨.inl h.1, fun x hx => hx.imp (h.2.1 x) id, fun F w ys hok hr => by
    obtain ⟨l, T, h1, h2, h3⟩ := h.2.2 F w ys hok.1 hr
    exact ⟨l, T, h1, h2, h3, φ.stable _ _ _ _ (Facts.le_refl _) (fun x hx => setRow_ne (fun e => hok.2.2 b h.1 (e ▸ hx))) hok.2.1, fun x hx => hok.2.2 x (h.2.1 x hx)⟩⟩
theorem PhStore.r {ψ φ φ' : Res} {b o : Nat} {xs : List PV} (h : PhStore φ b o xs φ') : PhStore (ψ.sep φ) b o xs (ψ.sep φ') :=
  ⟨.inr h.1, fun x hx => hx.imp id (h.2.1 x), fun F w ys hok hr => by
    obtain ⟨l, T, h1, h2, h3⟩ := h.2.2 F w ys hok.2.1 hr
    exact ⟨l, T, h1, h2, ψ.stable _ _ _ _ (Facts.le_refl _) (fun x hx => setRow_ne (fun e => hok.2.2 x hx (e ▸ h.1))) hok.1, h3, fun x hx hp => hok.2.2 x hx (h.2.1 x hp)⟩⟩

theorem load_box {b o k : Nat} {cs : List PV} (h : o + k ≤ cs.length) : PhLoad (Res.box b cs) b o k ((cs.drop o).take k) :=
  ⟨by simp; omega, fun F w ⟨l, T, hh, hr⟩ => ⟨(l.drop o).take k, (hr.drop o).take k, fun j v hv => by
    rw [List.getElem?_take] at hv
    split at hv
    · rw [List.getElem?_drop] at hv
      rw [cell_of_row w b _ _ _ _ hh]; simpa using hv
    · cases hv⟩⟩
theorem store_box {b o : Nat} {cs xs : List PV} (h : o + xs.length ≤ cs.length) : PhStore (Res.box b cs) b o xs (Res.box b (splice cs o xs)) :=
  ⟨rfl, fun _ h => h, fun F w ys ⟨l, T, hh, hr⟩ hy => ⟨l, T, hh, by rw [← hy.len, ← hr.len]; exact h, _, T, setRow_heap w b _ _ T _ hh, by
    unfold splice
    rw [← hy.len]
    exact ((hr.take o).app hy).app (hr.drop _)⟩⟩

theorem flat_slice {k : Nat} : ∀ (es : List (List PV)) (i j m : Nat) (e : List PV), (∀ e ∈ es, e.length = k) → es[i]? = some e → j + m ≤ k → (es.flatten.drop (i * k + j)).take m = (e.drop j).take m
  | [], i, j, m, e, _, he, _ => by simp at he
  | e0 :: es, i, j, m, e, hk, he, hm => by
    have h0 : e0.length = k := hk e0 List.mem_cons_self
    rw [List.flatten_cons]
    cases i with
    | zero =>
      simp at he; subst he
      rw [Nat.zero_mul, Nat.zero_add, List.drop_append_of_le_length (by omega), List.take_append_of_le_length (by simp; omega)]
    | succ i =>
      have := flat_slice es i j m e (fun e h => hk e (List.mem_cons_of_mem _ h)) (by simpa using he) hm
      rw [List.drop_append, List.drop_of_length_le (by rw [Nat.add_mul]; omega), List.nil_append, h0, show (i + 1) * k + j - k = i * k + j by rw [Nat.add_mul]; omega]
      exact this

theorem flat_set {k : Nat} {zs : List PV} : ∀ (es : List (List PV)) (i j : Nat) (e : List PV), (∀ e ∈ es, e.length = k) → es[i]? = some e → j + zs.length ≤ k →
    (es.set i (splice e j zs)).flatten = splice es.flatten (i * k + j) zs
  | [], i, j, e, _, he, _ => by simp at he
  | e0 :: es, i, j, e, hk, he, hm => by
    have h0 : e0.length = k := hk e0 List.mem_cons_self
    cases i with
    | zero =>
      simp at he; subst he
      simp only [List.set_cons_zero, List.flatten_cons, splice, Nat.zero_mul, Nat.zero_add]
      rw [List.take_append_of_le_length (by omega), List.drop_append_of_le_length (by omega)]
      simp
    | succ i =>
      have := flat_set es i j e (fun e h => hk e (List.mem_cons_of_mem _ h)) (by simpa using he) hm
      rw [List.set_cons_succ, List.flatten_cons, this, List.flatten_cons]
      unfold splice
      have e1 : (i + 1) * k + j = e0.length + (i * k + j) := by rw [Nat.add_mul]; omega
      rw [e1, List.take_length_add_append, Nat.add_assoc e0.length, List.drop_length_add_append]
      simp

theorem splice_len {cs xs : List PV} {o : Nat} (h : o + xs.length ≤ cs.length) : (splice cs o xs).length = cs.length := by simp [splice]; omega

theorem load_own {b n c T k i j m : Nat} {es : List (List PV)} {e : List PV} (he : es[i]? = some e) (hel : e.length = k) (hm : j + m ≤ k) : PhLoad (Res.own (hdr b n c) T k es) b (i * k + j) m ((e.drop j).take m) :=
  ⟨by simp; omega, fun F w ⟨xs, hown, hrep, hek, _⟩ => by
    refine ⟨(xs.drop (i * k + j)).take m, ?_, fun t v hv => ?_⟩
    · rw [← flat_slice es i j m e hek he hm]
      exact (hrep.drop _).take m
    · rw [List.getElem?_take] at hv
      split at hv
      · rw [List.getElem?_drop] at hv
        have := hown.cells (g := b) rfl _ _ hv
        rw [addr_add] at this
        simpa using this
      · cases hv⟩

theorem store_own {b n c T k i j : Nat} {es : List (List PV)} {e zs : List PV} (he : es[i]? = some e) (hel : e.length = k) (hm : j + zs.length ≤ k) :
    PhStore (Res.own (hdr b n c) T k es) b (i * k + j) zs (Res.own (hdr b n c) T k (es.set i (splice e j zs))) :=
  ⟨rfl, fun _ h => h, fun F w ys ⟨xs, hown, hrep, hek, hlim⟩ hy => by
    have hyl := hy.len
    have hil : i < es.length := (List.getElem?_eq_some_iff.1 he).1
    have hfit : i * k + j + ys.length ≤ es.length * k := by
      have : (i + 1) * k ≤ es.length * k := Nat.mul_le_mul_right k hil
      rw [Nat.add_mul] at this; omega
    rcases hown.2 with ⟨hv, _⟩ | ⟨g, cap, cur, hv, hg, hgg, hnc, hcm, hcs, htake⟩
    · cases hv
    · have hgb : g = b := by
        simp only [hdr, Value.slice.injEq, Option.some.injEq, Addr.mk.injEq] at hv; exact hv.1.1.symm
      subst hgb
      have hcl : cur.toList.length = cap * k := by simpa using hcs
      have hnk : es.length * k ≤ cap * k := Nat.mul_le_mul_right k hnc
      have hxl : xs.length = es.length * k := hown.1
      have hsl : (splice e j zs).length = k := by rw [splice_len (by omega)]; exact hel
      refine ⟨cur.toList, T, by simpa using hgg, by omega, xs.take (i * k + j) ++ ys ++ xs.drop (i * k + j + ys.length), ⟨?_, .inr ⟨g, cap, _, by rw [List.length_set]; exact hv, hg, setRow_heap w g _ _ T _ hgg, by rw [List.length_set]; exact hnc, hcm, ?_, ?_⟩⟩, ?_, ?_, ?_⟩
      · simp; omega
      · simp; omega
      · rw [← htake]
        simp only [List.length_set]
        rw [List.take_append, List.take_append, List.take_take, List.take_take]
        simp only [List.length_append, List.length_take]
        rw [List.drop_take]
        congr 1
        · congr 1
          · rw [Nat.min_comm]
          · rw [List.take_of_length_le (by omega)]
        · congr 1; omega
      · rw [flat_set es i j e hek he hm]
        unfold splice
        rw [hyl]
        exact ((hrep.take _).app hy).app (hrep.drop _)
      · intro e' he'
        rcases List.mem_or_eq_of_mem_set he' with h | rfl
        · exact hek e' h
        · exact hsl
      · simpa using hlim⟩

/-! ### a string behind a row of bytes -/
def strE (s : ByteArray) : List (List PV) := s.data.toList.map fun b => [PV.val (.int .u8 b.toNat)]
theorem strE_len (s : ByteArray) : (strE s).length = s.size := by
  rw [strE, List.length_map, Array.length_toList]; rfl
theorem strE_rep {F : Facts} (s : ByteArray) : RepL F (strE s).flatten (Lib.strCells s) := by
  unfold strE Lib.strCells
  induction s.data.toList with
  | nil => exact .nil
  | cons b l ih => exact .cons (.val rfl) ih

def SAppS (e : Nat) : Am.Spec := fun rs φ K => ∃ v es s ψ, rs = [.p (.val v), .p (.val (.string s))] ∧ φ = (Res.own v e 1 es).sep ψ ∧ es.length + s.size ≤ 140737488351232 ∧ es.length + s.size ≤ LIM ∧
  ∀ v', (0 < s.size → ∃ b c, v' = hdr b (es.length + s.size) c) → (s.size = 0 → v' = v) → K (.one (.p (.val v'))) ((Res.own v' e 1 (es ++ strE s)).sep ψ)

theorem app_str {T u e : TypeId} {x y : Operand} {i : TypeInfo} (hu : P.underlying T = some (.slice e)) (hus : P.underlying u = some .string) (hi : P.info? e = some i) (hz : i.zero = some (.int .u8 0)) (hsz : i.size = 1) (hbz : i.bytes = 1) :
    SndP P (.call { callee := .builtin .append, args := #[x, y], argTypes := #[T, u] }) (SAppS e) where
  runs := by
    rintro rs φ K ⟨v, es, s, ψ, rfl, rfl, hby, hlim, hK⟩ o ρ F w ho hF hph hphF hphl hargs
    obtain ⟨hxv, hyv, hone⟩ : ρ x = v ∧ ρ y = .string s ∧ v.oneCell' = true := by
      have : All2 (RepR F) [.p (.val v), .p (.val (.string s))] [ρ x, ρ y] := by simpa [Op.operands, Call.operands] using hargs
      cases this with
      | cons h1 t => cases t with
        | cons h2 _ =>
          have h1 : RepP F (.val v) (ρ x) := h1
          have h2 : RepP F (.val (.string s)) (ρ y) := h2
          generalize ρ x = a at h1
          generalize ρ y = b at h2
          cases h1; cases h2
          exact ⟨rfl, rfl, by assumption⟩
    obtain ⟨⟨xs, hown, hrep0, hek, hlim0⟩, hψ, hap⟩ := hph
    have hphl' : ∀ b, ψ.fp b → b < w.heap.size := fun b hb => hphl b (.inr hb)
    have h63 : es.length + s.size ≤ maxLen := by simp only [maxLen, LIM] at *; omega
    obtain ⟨v', w', hrun, hown', hgr, hnil⟩ := Lib.run_append_own_string (P := P) w 0 T u o.type e i hu hus hi hz hsz hbz v es.length xs hown s h63 (by omega) (Nat.zero_le _)
    have hhead : ∀ b, v'.ownBlock = some b → v.ownBlock = some b ∨ w.heap.size ≤ b := by
      rcases hown.2 with ⟨hv, hz0⟩ | ⟨g, cap, cur, hv, hbg, hg, hnc, hcm, hcs, htake⟩
      · have h0 : es.length = 0 := hz0
        by_cases hs0 : s.size = 0
        · have := hnil.2 ⟨hv, hs0⟩
          rw [this]; intro b hb; cases hb
        · have := run_append_nil_string (P := P) w T u o.type e i (.int .u8 0) hu hus hi hz s (by omega) (by simp only [maxLen] at h63; omega) (by rw [hbz]; omega)
          rw [hv, this] at hrun
          cases hrun
          intro b hb; simp [Value.ownBlock] at hb; omega
      · by_cases hroom : es.length + s.size ≤ cap
        · have := Lib.run_append_room_string (P := P) w T u o.type e i hu hus hi hsz g es.length cap cur hg s hroom (by rw [hcs]; simpa using hroom)
          rw [hv, this] at hrun
          cases hrun
          intro b hb; rw [hv]; exact .inl hb
        · have holds := hown.cells (g := g) (by rw [hv]; rfl)
          have := Lib.run_append_grow_string (P := P) w T u o.type e i (.int .u8 0) hu hus hi hz ⟨g, 0, none⟩ es.length cap xs (by rw [hsz]; exact hown.1) holds s (by omega) (by simp only [maxLen] at h63; omega) (by rw [hbz]; exact growslice_fits (by omega) (by omega))
          rw [hv, this] at hrun
          cases hrun
          intro b hb; simp [Value.ownBlock] at hb; omega
    have hsh : 0 < s.size → ∃ b c, v' = hdr b (es.length + s.size) c := fun hp => by
      rcases hown'.2 with ⟨hv, hz0⟩ | ⟨g, cap, cur, hv, _⟩
      · exact absurd hz0 (by omega)
      · exact ⟨g, cap, hv⟩
    have hsame : s.size = 0 → v' = v := fun h0 => by
      have hn : Lib.strCells s = [] := List.eq_nil_of_length_eq_zero (by rw [Lib.strCells_length]; exact h0)
      rcases hown.2 with ⟨hv, hz0⟩ | ⟨g, cap, cur, hv, hbg, hg, hnc, hcm, hcs, htake⟩
      · rw [hnil.2 ⟨hv, h0⟩, hv]
      · have := Lib.run_append_room_string (P := P) w T u o.type e i hu hus hi hsz g es.length cap cur hg s (by omega) (by rw [hcs]; omega)
        rw [hv, this] at hrun
        cases hrun
        rw [hv, h0]; rfl
    have h1 : v'.oneCell' = true := by
      by_cases hp : 0 < s.size
      · obtain ⟨b, c, rfl⟩ := hsh hp; rfl
      · rw [hsame (by omega)]; exact hone
    have hrun' : (execOp ρ o).run P w = .ok (.value v') w' := by
      rw [← hxv, ← hyv] at hrun
      simp [execOp, ho, resolve, invoke, builtin, hrun]
    have hblk : ∀ b, b < w.heap.size → ¬ ((Res.own v e 1 es).sep ψ).fp b → w'.heap[b]? = w.heap[b]? := fun b hb hn => hgr.block b hb (fun e => hn (.inl e.symm))
    refine ⟨_, _, w', hrun', .inl rfl, _, _, F, hK v' hsh hsame, .val h1, Facts.le_refl _, ?_, fun _ _ _ _ => rfl, ⟨hgr.os, hgr.tape, hgr.output, hgr.size, hblk⟩, ⟨⟨xs ++ Lib.strCells s, by rw [List.length_append, strE_len]; exact hown', ?_, ?_, by rw [List.length_append, strE_len]; exact hlim⟩, ?_, ?_⟩, ?_, ?_, ?_⟩
    · refine hF.keep fun b hb hv => hblk b hb (fun hp => ?_)
      obtain ⟨o', u, hv⟩ := hv
      rw [hphF b o' hp] at hv; cases hv
    · rw [List.flatten_append]; exact hrep0.app (strE_rep s)
    · intro e' he'
      rcases List.mem_append.1 he' with h | h
      · exact hek e' h
      · simp only [strE, List.mem_map] at h
        obtain ⟨b, _, rfl⟩ := h
        rfl
    · exact ψ.stable _ _ _ _ (Facts.le_refl _) (fun b hb => hgr.block b (hphl' b hb) (fun e => hap b e.symm hb)) hψ
    · intro b hb hp
      rcases hhead b hb with h | h
      · exact hap b h hp
      · have := hphl' b hp; omega
    · rintro b o' (hb | hb)
      · rcases hhead b hb with h | h
        · exact hphF b o' (.inl h)
        · cases hv : F b o' with
          | none => rfl
          | some u => have := hF.lt hv; omega
      · exact hphF b o' (.inr hb)
    · rintro b (hb | hb)
      · exact (hhead b hb).imp .inl id
      · exact .inl (.inr hb)
    · rintro b (hb | hb)
      · exact (hown'.lt b hb).2
      · exact Nat.lt_of_lt_of_le (hphl' b hb) hgr.size

/-- a slice's header, nil or not -/
theorem app_head {ao : Option Addr} {n c m : Nat} {v' : Value} (h : 0 < m → ∃ b c, v' = hdr b (n + m) c) (h0 : m = 0 → v' = .slice ao n c) : ∃ ao' c', v' = .slice ao' (n + m) c' := by
  by_cases hm : 0 < m
  · obtain ⟨b, c, rfl⟩ := h hm; exact ⟨_, _, rfl⟩
  · have : m = 0 := by omega
    subst this
    exact ⟨_, _, h0 rfl⟩
end Go.Am

/-
  AM: contracts that were proved elsewhere; functions without a body.
-/
namespace Go.Am
open Go

variable {P : Program} {gl : Nat → Option (List PV)} {f : FuncId} {S : Am.Spec}

theorem Snd.pure (hE : Enterable P f) (h : ∀ rs φ K, S rs φ K → ∃ r, K r φ ∧ ∀ F (vs : List Value), All2 (RepR F) rs vs → ∃ v, RepO F r v ∧ ∀ w, Calls P f vs.toArray w fun e w' => e = .returned v ∧ w' = w) : Snd P gl f S where
  calls := by
    intro rs φ K hS F w vs _ hF hok hpF hpl hrs
    obtain ⟨r, hK, h⟩ := h rs φ K hS
    obtain ⟨v, hv, hc⟩ := h F vs hrs
    refine .inl ⟨hE, (hc w).mono ?_⟩
    rintro e w' ⟨rfl, rfl⟩
    exact ⟨v, r, φ, F, rfl, hK, hv, Facts.le_refl _, hF, fun _ _ _ _ => rfl, Kept.refl _ _, hok, hpF, fun _ h => .inl h, hpl⟩

theorem Snd.run (h : ∀ rs φ K, S rs φ K → ∃ r, K r φ ∧ ∀ F (vs : List Value), All2 (RepR F) rs vs → ∃ v, RepO F r v ∧ ∀ w, (callFunc f vs.toArray).run P w = .ok (.value v) w) : Snd P gl f S where
  calls := by
    intro rs φ K hS F w vs _ hF hok hpF hpl hrs
    obtain ⟨r, hK, h⟩ := h rs φ K hS
    obtain ⟨v, hv, hc⟩ := h F vs hrs
    exact .inr ⟨v, w, hc w, v, r, φ, F, rfl, hK, hv, Facts.le_refl _, hF, fun _ _ _ _ => rfl, Kept.refl _ _, hok, hpF, fun _ h => .inl h, hpl⟩

/-- the row in a new block is known -/
theorem sl_new {F : Facts} {b k c : Nat} {es : List (List PV)} {l : List Value} (h : ∀ o, F b o = none) (hr : RepL F es.flatten l) (hk : ∀ e ∈ es, e.length = k) (hl : es.length ≤ LIM) (hc : es.length ≤ c) :
    RepP (addF F b l) (.sl es es.length) (.slice (some ⟨b, 0, none⟩) es.length c) := by
  refine .sl (fun i j => l.getD (i * k + j) undef) k (Nat.le_refl _) hc hl hk (fun i j e x he hx => ?_) (fun i j e x he hx => ?_)
  · obtain ⟨u, hu, _⟩ := hr.get (flat_get es hk i j e x he hx)
    simp [addF, hu]
  · obtain ⟨u, hu, hu2⟩ := hr.get (flat_get es hk i j e x he hx)
    simp only [List.getD_eq_getElem?_getD, hu, Option.getD_some]
    exact hu2.mono (addF_le h)

theorem Snd.newRow (hE : Enterable P f) (h : ∀ rs φ K, S rs φ K → ∃ (es : List (List PV)) (k : Nat) (T : TypeId), (∀ e ∈ es, e.length = k) ∧ es.length ≤ LIM ∧ K (.one (.p (.sl es es.length))) φ ∧
    ∀ F (vs : List Value), All2 (RepR F) rs vs → ∃ l : List Value, RepL F es.flatten l ∧ ∀ w, Calls P f vs.toArray w fun e w' => e = .returned (.slice (some ⟨w.heap.size, 0, none⟩) es.length es.length) ∧ w' = w.alloc (.cells l.toArray T (0, 0))) : Snd P gl f S where
  calls := by
    intro rs φ K hS F w vs _ hF hok hpF hpl hrs
    obtain ⟨es, k, T, hk, hlim, hK, h⟩ := h rs φ K hS
    obtain ⟨l, hl, hc⟩ := h F vs hrs
    refine .inl ⟨hE, (hc w).mono ?_⟩
    rintro e w' ⟨rfl, rfl⟩
    have hkp := Kept.alloc w (.cells l.toArray T (0, 0))
    have hn := fun o => facts_none hF o
    have hle := addF_le (l := l) hn
    have hne : ∀ b, b ≠ w.heap.size → ∀ o, addF F w.heap.size l b o = F b o := fun b hb o => by simp [addF, hb]
    refine ⟨_, _, φ, addF F w.heap.size l, rfl, hK, sl_new hn hl hk hlim (Nat.le_refl _), hle, ?_, fun b o hb _ => hne b (by omega) o, ⟨hkp.os, hkp.tape, hkp.output, hkp.size, fun b hb _ => hkp.block b hb (fun e => e)⟩, ?_, fun b o hb => ?_, fun b hb => .inl hb, fun b hb => Nat.lt_of_lt_of_le (hpl b hb) hkp.size⟩
    · intro b o u e
      simp only [addF] at e
      split at e
      · rename_i e'; subst e'
        rw [cell_of_row _ w.heap.size o _ _ _ (heap_alloc_new w _)]
        simpa using e
      · exact (hF.keep fun b hb _ => hkp.block b hb (fun e => e)) b o u e
    · exact φ.stable _ _ _ _ hle (fun b hb => hkp.block b (hpl b hb) (fun e => e)) hok
    · rw [hne b (by have := hpl b hb; omega)]; exact hpF b o hb

theorem arg1 {F : Facts} {r : RV} {vs : List Value} (h : All2 (RepR F) [r] vs) : ∃ v, vs = [v] ∧ RepR F r v := by
  cases h with
  | cons h t => cases t; exact ⟨_, rfl, h⟩
theorem arg2 {F : Facts} {r s : RV} {vs : List Value} (h : All2 (RepR F) [r, s] vs) : ∃ v u, vs = [v, u] ∧ RepR F r v ∧ RepR F s u := by
  cases h with
  | cons h t => cases t with
    | cons h2 t => cases t; exact ⟨_, _, rfl, h, h2⟩
theorem arg3 {F : Facts} {r s t : RV} {vs : List Value} (h : All2 (RepR F) [r, s, t] vs) : ∃ v u x, vs = [v, u, x] ∧ RepR F r v ∧ RepR F s u ∧ RepR F t x := by
  cases h with
  | cons h t => cases t with
    | cons h2 t => cases t with
      | cons h3 t => cases t; exact ⟨_, _, _, rfl, h, h2, h3⟩
theorem argV {F : Facts} {v u : Value} (h : RepR F (.p (.val v)) u) : u = v := by
  have h : RepP F (.val v) u := h
  cases h; rfl
/-- a copy of a row that may change -/
def SCopy (e k by' : Nat) : Am.Spec := fun rs φ K => ∃ v es ψ, rs = [.p (.val (.slice none 0 0)), .p (.val v)] ∧ φ = (Res.own v e k es).sep ψ ∧ es.length * by' ≤ 140737488351232 ∧ K (.one (.p (.sl es es.length))) φ

theorem app_copy {T e : TypeId} {x y : Operand} {i : TypeInfo} {z : Value} (hu : P.underlying T = some (.slice e)) (hi : P.info? e = some i) (hz : i.zero = some z) (hzs : z.cells.size = i.size) (hsz : 0 < i.size) :
    SndP P (.call { callee := .builtin .append, args := #[x, y], argTypes := #[T, T] }) (SCopy e i.size i.bytes) where
  runs := by
    rintro rs φ K ⟨v, es, ψ, rfl, rfl, hby, hK⟩ o ρ F w ho hF hph hphF hphl hargs
    obtain ⟨a1, a2, e1, h1, h2⟩ := arg2 (by simpa [Op.operands, Call.operands] using hargs)
    simp only [List.cons.injEq, and_true] at e1
    obtain ⟨rfl, rfl⟩ := e1
    have hxv := argV h1
    have hyv := argV h2
    have exec : ∀ v' w', (Builtin.append_ #[T, T] o.type #[ρ x, ρ y]).run P w = .ok v' w' → (execOp ρ o).run P w = .ok (.value v') w' := fun v' w' hrun => by
      simp [execOp, ho, resolve, invoke, builtin, hrun]
    obtain ⟨⟨xs, hown, hrep, hek, hlim⟩, hψ, hap⟩ := hph
    have hown0 := World.ownsRow_nil w w.heap.size e i.size
    by_cases hn0 : es = []
    · subst hn0
      have hsrc : ρ y = .slice none 0 0 ∨ ∃ ad c, ρ y = .slice (some ad) 0 c := by
        rw [hyv]
        rcases hown.2 with ⟨hv, _⟩ | ⟨g, cap, cur, hv, _⟩
        · exact .inl hv
        · exact .inr ⟨_, _, hv⟩
      have hrun := run_append_zero (P := P) (ty := o.type) hu hi hown0 hsrc
      rw [← hxv] at hrun
      refine ⟨_, _, w, exec _ _ hrun, .inl rfl, _, _, F, hK, ?_, Facts.le_refl _, hF, fun _ _ _ _ => rfl, Kept.refl _ w, ⟨⟨xs, hown, hrep, hek, hlim⟩, hψ, hap⟩, hphF, fun b h => .inl h, hphl⟩
      rw [hxv]; exact RepP.nil
    · have hpos : 0 < es.length := List.length_pos_iff.2 hn0
      rcases hown.2 with ⟨hv, hz0⟩ | ⟨g, cap, cur, hv, hbg, hg, hnc, hcm, hcs, htake⟩
      · exact absurd hz0 (by omega)
      · have hcell : ∀ (j : Nat) (u : Value), xs[j]? = some u → w.cell? ((⟨g, 0, none⟩ : Addr).add j) = some u := hown.cells (g := g) (by rw [hv]; rfl)
        obtain ⟨v', w', hrun, hown', hgr, hnil⟩ := run_append_own (P := P) w w.heap.size T o.type e i z i.size i.bytes hu hi hz rfl rfl hzs hsz _ 0 [] hown0 ⟨g, 0, none⟩ es.length cap xs hown.1 hcell (rep_one hrep)
          (by simp only [maxLen, LIM] at *; omega) (by rw [Nat.zero_add]; omega) (Nat.le_refl _)
        rw [Nat.zero_add, List.nil_append] at hown'
        rw [← hxv, ← hv, ← hyv] at hrun
        rcases hown'.2 with ⟨hv', hz0⟩ | ⟨g', cap', cur', hv', hbg', hg', hnc', hcm', hcs', htake'⟩
        · exact absurd hz0 (by omega)
        · have hFn : ∀ o, F g' o = none := fun o => by
            cases hf : F g' o with
            | none => rfl
            | some u => have := hF.lt hf; omega
          have hle := addF_le (l := xs) hFn
          have hne : ∀ b, b ≠ g' → ∀ o, addF F g' xs b o = F b o := fun b hb o => by simp [addF, hb]
          have hblk : ∀ b, b < w.heap.size → w'.heap[b]? = w.heap[b]? := fun b hb => hgr.block b hb (by simp [Value.ownBlock])
          refine ⟨_, _, w', exec _ _ hrun, .inl rfl, _, _, addF F g' xs, hK, ?_, hle, ?_, fun b o hb _ => hne b (by omega) o, ⟨hgr.os, hgr.tape, hgr.output, hgr.size, fun b hb _ => hblk b hb⟩, ?_, fun b o hb => ?_, fun b h => .inl h, fun b hb => Nat.lt_of_lt_of_le (hphl b hb) hgr.size⟩
          · rw [hv']; exact sl_new hFn hrep hek hlim hnc'
          · intro b o u e
            simp only [addF] at e
            split at e
            · rename_i e'; subst e'
              have := hown'.cells (g := b) (by rw [hv']; rfl) o u e
              rw [addr_add] at this
              simpa using this
            · exact (hF.keep fun b hb _ => hblk b hb) b o u e
          · exact ((Res.own v e i.size es).sep ψ).stable _ _ _ _ hle (fun b hb => hblk b (hphl b hb)) ⟨⟨xs, hown, hrep, hek, hlim⟩, hψ, hap⟩
          · rw [hne b (by have := hphl b hb; omega)]; exact hphF b o hb

theorem rep_bytes {F : Facts} {l : List PV} {vs : List Value} (h : RepL F l vs) : (∀ x ∈ l, ∃ m : Int, x = .val (.int .u8 m)) → ∃ ns : List Int, vs = ns.map (Value.int .u8) := by
  induction h with
  | nil => intro _; exact ⟨[], rfl⟩
  | cons hx _ ih =>
    intro hall
    obtain ⟨m, rfl⟩ := hall _ List.mem_cons_self
    obtain ⟨ns, rfl⟩ := ih fun x hx => hall x (List.mem_cons_of_mem _ hx)
    cases hx
    exact ⟨m :: ns, rfl⟩

/-- string(bytes): whatever it is -/
def SConvB : Am.Spec := fun rs φ K => ∃ xs n, rs = [.p (.sl xs n)] ∧ (∀ e ∈ xs.take n, ∃ m : Int, e = [PV.val (.int .u8 m)]) ∧ ∀ s, K (.one (.p (.val (.string s)))) φ
theorem conv_bytes {T U e : TypeId} {x : Operand} (hs : P.underlying T = some (.slice e)) (he : P.underlying e = some (.int .u8)) (hd : P.underlying U = some .string) : SndP P (.convert T U x) SConvB where
  runs := by
    rintro rs φ K ⟨xs, n, rfl, hb, hK⟩ o ρ F w ho hF hph hphF hphl hargs
    obtain ⟨v, e1, h1⟩ := arg1 (by simpa [Op.operands] using hargs)
    simp only [List.cons.injEq, and_true] at e1
    subst e1
    have h1 : RepP F (.sl xs n) (ρ x) := h1
    have hrun : ∃ s, (Conv.bytesToString (ρ x)).run P w = .ok (.string s) w ∧ ∃ a l c, ρ x = .slice a l c := by
      rcases sl_src' hF h1 with ⟨hv, _⟩ | ⟨ad, c, news, hv, hrep, hcell⟩
      · exact ⟨ByteArray.empty, by rw [hv]; simp [Conv.bytesToString], _, _, _, hv⟩
      · obtain ⟨ns, rfl⟩ := rep_bytes hrep fun y hy => by
          obtain ⟨l, hl, hyl⟩ := List.mem_flatten.1 hy
          obtain ⟨m, rfl⟩ := hb l hl
          exact ⟨m, by simpa using hyl⟩
        have hlen : (ns.map (Value.int .u8)).length = (xs.take n).length * 1 := by
          rw [← hrep.len]
          exact flat_len (k := 1) _ fun e he => by obtain ⟨m, rfl⟩ := hb e he; rfl
        have hl := run_firstCells_some (P := P) w 1 (xs.take n).length ad (xs.take n).length c (ns.map (Value.int .u8)) hlen hcell
        simp only [Builtin.firstCells, Nat.mul_one] at hl
        exact ⟨_, by rw [hv]; exact run_bytesToString w ad _ c ns hl, _, _, _, hv⟩
    obtain ⟨s, hrun, a, l, c, hv⟩ := hrun
    have hc := run_convert_bytes_string (P := P) w T U e a l c hs he hd
    rw [← hv, hrun] at hc
    exact ⟨_, .string s, w, by simp [execOp, ho, hc], .inl rfl, _, _, F, hK s, .val rfl, Facts.le_refl _, hF, fun _ _ _ _ => rfl, Kept.refl _ w, hph, hphF, fun b h => .inl h, hphl⟩

@[go_sem] theorem cellsA_false {k : Nat} {x : PV} {l : List PV} : cellsA false k (x :: l) = .p x := rfl
@[go_sem] theorem cellsA_true {k : Nat} {l : List PV} : cellsA true k l = .agg (l.take k) := rfl
end Go.Am
