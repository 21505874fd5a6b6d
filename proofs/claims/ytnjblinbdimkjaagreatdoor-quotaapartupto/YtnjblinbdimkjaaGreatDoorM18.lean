/-
  bursarlaw18.QuotaApart answers true and leaves its arguments as they were, for inputs of bulk at most 1048576 (the given second form; no other condition). Part 18 of 26 of the proof.
-/
import Derived.Test.YtnjblinbdimkjaaGreatDoorM17
import Derived.Shelf.SlGeneric
import Derived.Shelf.SlSortCmp.WholeK
import Derived.Ground.SlsfProg
import Derived.Test.YtnjblinbdimkjaaGreatDoorProg
namespace Go.Proofs.YtnjblinbdimkjaaGreatDoor
open Go Go.Am
set_option linter.unusedSimpArgs false

/-- bytes -/
def isB (l : List (List PV)) : Prop := ∀ e ∈ l, ∃ n : Int, e = [PV.val (.int .u8 n)]
theorem isB.k {l : List (List PV)} (h : isB l) : allK 1 l := fun e he => by obtain ⟨n, rfl⟩ := h e he; rfl
theorem isB.app {l m : List (List PV)} (h : isB l) (h' : isB m) : isB (l ++ m) := fun e he => (List.mem_append.1 he).elim (h e) (h' e)
theorem isB.take {l : List (List PV)} (h : isB l) (n : Nat) : isB (l.take n) := fun e he => h e (List.mem_of_mem_take he)
theorem isB_str (s : ByteArray) : isB (strE s) := fun e he => by
  simp only [strE, List.mem_map] at he
  obtain ⟨b, _, rfl⟩ := he
  exact ⟨_, rfl⟩
theorem isB_one (n : Int) : isB [[PV.val (.int .u8 n)]] := fun e he => ⟨n, by simpa using he⟩

/-! ### pack: how long a number's form is -/
def numGo : Nat → Nat → Nat
  | 0, _ => 1
  | k + 1, n => if n < 128 then 1 else 1 + numGo k (n / 128)
def numB : Nat → Nat
  | 0 => 128
  | k + 1 => 128 * numB k
def numLen (n : Nat) : Nat := numGo 9 n
abbrev rU (n : Nat) : RV := .p (.val (.int .u64 n))
def S167 : Am.Spec := fun rs φ K => ∃ n : Nat, rs = [rU n] ∧ n < 18446744073709551616 ∧ ∀ es, es.length = numLen n → isB es → K (.one (.p (.sl es es.length))) φ

theorem numGo_small {k n : Nat} (h : n < 128) : numGo k n = 1 := by
  cases k with
  | zero => rfl
  | succ k => rw [numGo, if_pos h]

theorem d167 : Snd Tryz.prog gls 167 S167 := by
  refine k167 (by rintro rs φ K ⟨p, rfl, -⟩; simp) ?_
  rintro rs φ K ⟨n, rfl, hn, hK⟩
  simp -implicitDefEqProofs only [go_sem, Nat.reduceBEq, Nat.reduceAdd, c167, c167r0, c167r1]
  refine inv_loop (X := Nat × Nat × List (List PV)) (fun x => x.2.1 < numB x.1 ∧ x.1 ≤ 9 ∧ x.2.2.length + numGo x.1 x.2.1 = numLen n ∧ x.2.2.length + x.1 = 9 ∧ isB x.2.2)
    (fun x => ⟨[(0, .p (.val (.int .u64 x.2.1))), (3, .row 11 x.2.2.length)], [], [(11, 5, 1, x.2.2)], φ⟩) (fun x => x.1 + 1) (9, n, []) ⟨by simp only [numB]; omega, by omega, Nat.zero_add _, rfl, fun e he => by cases he⟩ ?_ ?_
  · refine (Gho.mkRow (s := 3) (r := 11) (T := 5) (k := 1) ?_ rfl).trans (Gho.sub ?_ ?_ ?_ ?_ rfl)
    · simp only [go_sem, Nat.reduceBEq]
    · simp [subFr, go_sem, leAV, St.mkRow]
    · simp [subB]
    · simp [subB, go_sem, St.mkRow]
    · simp [refsOK, go_sem]
  · rintro ⟨k, m, es⟩ Q' ⟨g1, g2, g3, g4, g5⟩ hnx hq
    replace g1 : m < numB k := g1
    replace g3 : es.length + numGo k m = numLen n := g3
    replace g4 : es.length + k = 9 := g4
    replace g5 : isB es := g5
    simp -implicitDefEqProofs only [go_sem, Nat.reduceBEq, Nat.reduceAdd, c167l5, c167r2, c167r3, c167r4, Nat.ble, chunks, repl, List.length_cons, List.length_nil, Nat.reduceLeDiff, Nat.reduceMul, decide_eq_true_eq, decide_eq_false_iff_not]
    have hdiv : (m : Int).fdiv (2 ^ min (Int.toNat 7) 64) = ((m / 128 : Nat) : Int) := by
      rw [show ((2 : Int) ^ min (Int.toNat 7) 64) = ((128 : Nat) : Int) by decide]
      exact (Int.ofNat_fdiv m 128).symm
    rw [hdiv]
    refine ⟨fun h => ?_, fun h => ?_⟩
    · obtain ⟨k, rfl⟩ : ∃ j, k = j + 1 := by
        cases k with
        | zero => simp only [numB] at g1; omega
        | succ k => exact ⟨k, rfl⟩
      rw [numGo, if_neg (by omega)] at g3
      refine ⟨by omega, by omega, by omega, by simp only [LIM]; omega, by omega, hnx _ (k, m / 128, es ++ [[.val (.int .u8 (bits .or .u8 (IntKind.u8.wrap m) 128))]]) ⟨?_, ?_, ?_, ?_, ?_⟩ (by simp) ?_⟩
      · show m / 128 < numB k
        simp only [numB] at g1; omega
      · show k ≤ 9; omega
      · show (es ++ _).length + _ = _; simp; omega
      · show (es ++ _).length + _ = _; simp; omega
      · exact g5.app (isB_one _)
      · refine Gho.sub ?_ ?_ ?_ ?_ rfl
        · simp [subFr, go_sem, leAV]
        · simp [subB]
        · simp [subB, go_sem]
        · simp [refsOK, go_sem]
    · refine hq _ _ (by simp) ?_
      rw [numGo_small (by omega)] at g3
      simp -implicitDefEqProofs only [go_sem, Nat.reduceBEq, Nat.reduceAdd, c167r6, Nat.ble, chunks, repl, List.length_cons, List.length_nil, Nat.reduceLeDiff, Nat.reduceMul, List.length_append]
      refine ⟨by omega, by omega, by omega, by simp only [LIM]; omega, ?_⟩
      have := hK (es ++ [[.val (.int .u8 (IntKind.u8.wrap m))]]) (by simp; omega) (g5.app (isB_one _))
      simpa using this
end Go.Proofs.YtnjblinbdimkjaaGreatDoor

namespace Go.Proofs.YtnjblinbdimkjaaGreatDoor
open Go Go.Am
set_option linter.unusedSimpArgs false

/-! ### pack.Writer: its bytes are counted -/
def wC (ao : Option Addr) (n c : Nat) : List PV := [.val (.int .i64 1048576), .val (.slice ao n c), .val (.int .i64 0)]
/-- the writer in memory -/
def WR (b : Nat) (ao : Option Addr) (c : Nat) (es : List (List PV)) (ψ : Res) : Res := (Res.own (.slice ao es.length c) 5 1 es).sep ((Res.box b (wC ao es.length c)).sep ψ)
abbrev rP (b : Nat) : RV := .p (.val (.pointer (some ⟨b, 0, none⟩)))
theorem info5 : Tryz.prog.info? 5 = some Tryz.t5 := by kernel_rfl
theorem info221 : Tryz.prog.info? 221 = some Tryz.t221 := by kernel_rfl

def S165 : Am.Spec := fun rs φ K => rs = [rI 1048576] ∧ ∀ b, K (.one (rP b)) (WR b none 0 [] φ)
theorem d165 : Snd Tryz.prog gls 165 S165 := by
  refine Snd.post (S := fun rs φ K => rs = [rI 1048576] ∧ ∀ b, K (.one (rP b)) ((Res.box b (wC none 0 0)).sep φ)) (k165 (by rintro rs φ K ⟨rfl, -⟩; simp) ?_) ?_
  · rintro rs φ K ⟨rfl, hK⟩
    simp -implicitDefEqProofs only [go_sem, Nat.reduceBEq, Nat.reduceAdd, c165, c165r0, c165r1]
    refine primS_of (built Tryz.underlying221 info221 rfl (places := [(0, 1), (1, 1), (2, 1)]) (by kernel_rfl) (zs := [.val (.int .i64 0), .val (.slice none 0 0), .val (.int .i64 0)]) (fun F => .cons (.val rfl) (.cons (.val rfl) (.cons (.val rfl) .nil)))) ⟨_, wC none 0 0, rfl, rfl, ?_⟩
    simp -implicitDefEqProofs only [go_sem, Nat.reduceBEq, Nat.reduceAdd]
    refine primS_of born_box ⟨_, rfl, fun b => ?_⟩
    simp -implicitDefEqProofs only [go_sem, Nat.reduceBEq, Nat.reduceAdd]
    exact hK b
  · rintro rs φ K ⟨rfl, hK⟩
    exact ⟨rfl, fun b => ⟨_, _, melt_nil (fun F v h => h), hK b⟩⟩

theorem wr_load {b : Nat} {ao : Option Addr} {c o : Nat} {es : List (List PV)} {ψ : Res} {x : PV} (h : (wC ao es.length c)[o]? = some x) : PhLoad (WR b ao c es ψ) b o 1 [x] := by
  have hl : o < (wC ao es.length c).length := (List.getElem?_eq_some_iff.1 h).1
  have e : ((wC ao es.length c).drop o).take 1 = [x] := by
    rw [List.drop_eq_getElem_cons hl]
    simp only [List.take_succ_cons, List.take_zero]
    rw [(List.getElem?_eq_some_iff.1 h).2]
  have := load_box (b := b) (o := o) (k := 1) (cs := wC ao es.length c) (by omega)
  rw [e] at this
  exact this.l.r

def S166 : Am.Spec := fun rs φ K => ∃ b hs hn t ao c es ψ, rs = [rP b, .p (.sl hs hn), rS t] ∧ φ = WR b ao c es ψ ∧ isB es ∧ hn ≤ hs.length ∧ isB (hs.take hn) ∧ es.length + hn + t.size ≤ 1048576 ∧
  ∀ ao' c' es', es'.length = es.length + hn + t.size → isB es' → K (.tup []) (WR b ao' c' es' ψ)
theorem d166 : Snd Tryz.prog gls 166 S166 := by
  refine k166 (by rintro rs φ K ⟨b, hs, hn, t, ao, c, es, ψ, rfl, -⟩; simp) ?_
  rintro rs φ K ⟨b, hs, hn, t, ao, c, es, ψ, rfl, rfl, hb, hle, hk, hsz, hK⟩
  have l0 : PhLoad (WR b ao c es ψ) b 0 1 [.val (.int .i64 1048576)] := wr_load rfl
  have l1 : PhLoad (WR b ao c es ψ) b 1 1 [.val (.slice ao es.length c)] := wr_load rfl
  have l2 : PhLoad (WR b ao c es ψ) b 2 1 [.val (.int .i64 0)] := wr_load rfl
  simp -implicitDefEqProofs only [go_sem, Nat.reduceBEq, Nat.reduceAdd, c166, c166r0, c166r1, c166r2, c166r3, Nat.zero_add]
  have hw1 : IntKind.i64.wrap (1048576 - (es.length : Int)) = 1048576 - (es.length : Int) := Am.wrap_small (by omega) (by omega)
  have hw2 : IntKind.i64.wrap (1048576 - (es.length : Int) - (hn : Int)) = 1048576 - (es.length : Int) - (hn : Int) := Am.wrap_small (by omega) (by omega)
  refine ⟨_, l2, ?_⟩
  simp -implicitDefEqProofs only [go_sem, Nat.reduceBEq, Nat.reduceAdd, Nat.zero_add, List.drop_succ_cons, List.drop_zero, Nat.reduceLeDiff, true_and, hw1, hw2]
  refine ⟨fun h => by simp at h, fun _ => ⟨_, l0, _, l1, ?_⟩⟩
  simp -implicitDefEqProofs only [go_sem, Nat.reduceBEq, Nat.reduceAdd, Nat.zero_add, List.drop_succ_cons, List.drop_zero, Nat.reduceLeDiff, true_and, hw1, hw2, decide_eq_true_eq, decide_eq_false_iff_not]
  refine ⟨fun h => ⟨_, l0, _, l1, ?_⟩, fun h => absurd h (by omega)⟩
  simp -implicitDefEqProofs only [go_sem, Nat.reduceBEq, Nat.reduceAdd, Nat.zero_add, List.drop_succ_cons, List.drop_zero, Nat.reduceLeDiff, true_and, hw1, hw2, decide_eq_true_eq, decide_eq_false_iff_not]
  refine ⟨fun h => absurd h (by omega), fun h' => ⟨_, l1, ?_⟩⟩
  simp -implicitDefEqProofs only [go_sem, Nat.reduceBEq, Nat.reduceAdd, Nat.zero_add, List.drop_succ_cons, List.drop_zero, Nat.reduceLeDiff, true_and, hw1, hw2, decide_eq_true_eq, decide_eq_false_iff_not]
  refine primS_of (app_own Tryz.underlying212 info5 rfl rfl (by decide)) ⟨_, es, hs, hn, (Res.box b (wC ao es.length c)).sep ψ, rfl, .inl rfl, hk.k, hle, by simp only [Tryz.t5]; omega, by simp only [LIM]; omega, fun v1 g1 g2 => ?_⟩
  obtain ⟨ao1, c1, rfl⟩ := app_head g1 g2
  have hl1 : (es ++ hs.take hn).length = es.length + hn := by simp; omega
  simp -implicitDefEqProofs only [go_sem, Nat.reduceBEq, Nat.reduceAdd, Nat.zero_add, List.drop_succ_cons, List.drop_zero, Nat.reduceLeDiff, true_and, hw1, hw2, decide_eq_true_eq, decide_eq_false_iff_not]
  refine primS_of (app_str Tryz.underlying212 Tryz.underlying9 info5 rfl rfl rfl) ⟨_, es ++ hs.take hn, t, (Res.box b (wC ao es.length c)).sep ψ, rfl, rfl, by omega, by simp only [LIM]; omega, fun v2 g3 g4 => ?_⟩
  rw [hl1] at g3
  obtain ⟨ao2, c2, rfl⟩ := app_head g3 g4
  simp -implicitDefEqProofs only [go_sem, Nat.reduceBEq, Nat.reduceAdd, Nat.zero_add, List.drop_succ_cons, List.drop_zero, Nat.reduceLeDiff, true_and, hw1, hw2, decide_eq_true_eq, decide_eq_false_iff_not]
  have hst : PhStore (Res.box b (wC ao es.length c)) b 1 [.val (.slice ao2 (es.length + hn + t.size) c2)] (Res.box b (wC ao2 (es.length + hn + t.size) c2)) := store_box (cs := wC ao es.length c) (by simp [wC])
  refine ⟨_, PhStore.r (PhStore.l hst), ?_⟩
  have hl2 : (es ++ hs.take hn ++ strE t).length = es.length + hn + t.size := by rw [List.length_append, hl1, strE_len]
  have := hK ao2 c2 (es ++ hs.take hn ++ strE t) hl2 ((hb.app hk).app (isB_str t))
  unfold WR at this
  rw [hl2] at this
  exact this

/-- what writes m bytes -/
def WOp (rest : List RV) (m : Nat) (K : Out → Res → Prop) (rs : List RV) (φ : Res) : Prop := ∃ b ao c es ψ, rs = rP b :: rest ∧ φ = WR b ao c es ψ ∧ isB es ∧ es.length + m ≤ 1048576 ∧ ∀ ao' c' es', es'.length = es.length + m → isB es' → K (.tup []) (WR b ao' c' es' ψ)
def S116 : Am.Spec := fun rs φ K => ∃ n : Nat, n < 18446744073709551616 ∧ WOp [rU n] (numLen n) K rs φ
def empS : ByteArray := ⟨#[]⟩
theorem d116 : Snd Tryz.prog gls 116 S116 := by
  refine k116 (by rintro rs φ K ⟨n, -, b, ao, c, es, ψ, rfl, -⟩; simp) ?_
  rintro rs φ K ⟨n, hn, b, ao, c, es, ψ, rfl, rfl, hb, hsz, hK⟩
  simp -implicitDefEqProofs only [go_sem, Nat.reduceBEq, Nat.reduceAdd, c116, c116r0]
  refine callS_of d167 ⟨n, rfl, hn, fun xs hx hk => ?_⟩
  simp -implicitDefEqProofs only [go_sem, Nat.reduceBEq, Nat.reduceAdd]
  refine callS_of d166 ⟨b, xs, xs.length, empS, ao, c, es, ψ, rfl, rfl, hb, Nat.le_refl _, by rw [List.take_length]; exact hk, by rw [hx]; exact hsz, fun ao' c' es' he hb' => ?_⟩
  simp -implicitDefEqProofs only [go_sem, Nat.reduceBEq, Nat.reduceAdd]
  exact hK ao' c' es' (by rw [he, hx]; rfl) hb'
abbrev rC (n : Nat) : RV := .p (.val (.int .u8 n))
def S115 : Am.Spec := fun rs φ K => ∃ n : Int, WOp [.p (.val (.int .u8 n))] 1 K rs φ
theorem d115 : Snd Tryz.prog gls 115 S115 := by
  refine k115 (by rintro rs φ K ⟨n, b, ao, c, es, ψ, rfl, -⟩; simp) ?_
  rintro rs φ K ⟨n, b, ao, c, es, ψ, rfl, rfl, hb, hsz, hK⟩
  simp -implicitDefEqProofs only [go_sem, Nat.reduceBEq, Nat.reduceAdd, c115, c115r0, Nat.ble, chunks, repl, List.length_cons, List.length_nil, Nat.reduceLeDiff, Nat.reduceMul]
  refine ⟨by omega, by omega, callS_of d166 ⟨b, _, 1, empS, ao, c, es, ψ, rfl, rfl, hb, Nat.le_refl _, ?_, hsz, fun ao' c' es' he hb' => ?_⟩⟩
  · exact isB_one _
  · simp -implicitDefEqProofs only [go_sem, Nat.reduceBEq, Nat.reduceAdd]
    exact hK ao' c' es' he hb'
def textLen (s : ByteArray) : Nat := numLen s.size + s.size
def S114 : Am.Spec := fun rs φ K => ∃ s : ByteArray, WOp [rS s] (textLen s) K rs φ
theorem d114 : Snd Tryz.prog gls 114 S114 := by
  refine k114 (by rintro rs φ K ⟨n, b, ao, c, es, ψ, rfl, -⟩; simp) ?_
  rintro rs φ K ⟨s, b, ao, c, es, ψ, rfl, rfl, hb, hsz, hK⟩
  unfold textLen at hsz hK
  have hw : IntKind.u64.wrap (s.size : Int) = (s.size : Int) := by simp [IntKind.wrap, IntKind.bits, IntKind.signed]; omega
  simp -implicitDefEqProofs only [go_sem, Nat.reduceBEq, Nat.reduceAdd, c114, c114r0, hw]
  refine callS_of d167 ⟨s.size, rfl, by omega, fun xs hx hk => ?_⟩
  simp -implicitDefEqProofs only [go_sem, Nat.reduceBEq, Nat.reduceAdd]
  refine callS_of d166 ⟨b, xs, xs.length, s, ao, c, es, ψ, rfl, rfl, hb, Nat.le_refl _, by rw [List.take_length]; exact hk, by rw [hx]; omega, fun ao' c' es' he hb' => ?_⟩
  simp -implicitDefEqProofs only [go_sem, Nat.reduceBEq, Nat.reduceAdd]
  exact hK ao' c' es' (by rw [he, hx]; omega) hb'
def S113 : Am.Spec := fun rs φ K => ∃ n : Nat, n ≤ 4096 ∧ WOp [rI n] (numLen n) K rs φ
theorem d113 : Snd Tryz.prog gls 113 S113 := by
  refine k113 (by rintro rs φ K ⟨n, -, b, ao, c, es, ψ, rfl, -⟩; simp) ?_
  rintro rs φ K ⟨n, hn, b, ao, c, es, ψ, rfl, rfl, hb, hsz, hK⟩
  have l2 : PhLoad (WR b ao c es ψ) b 2 1 [.val (.int .i64 0)] := wr_load rfl
  have hw : IntKind.u64.wrap (n : Int) = (n : Int) := by simp [IntKind.wrap, IntKind.bits, IntKind.signed]; omega
  simp -implicitDefEqProofs only [go_sem, Nat.reduceBEq, Nat.reduceAdd, c113, c113r0, c113r1, c113r2, Nat.zero_add, true_and]
  refine ⟨_, l2, ?_⟩
  simp -implicitDefEqProofs only [go_sem, Nat.reduceBEq, Nat.reduceAdd, Nat.zero_add, true_and, decide_eq_true_eq, decide_eq_false_iff_not, hw]
  refine ⟨⟨fun _ => ⟨fun h => absurd h (by omega), fun _ => callS_of d167 ⟨n, rfl, by omega, fun xs hx hk => ?_⟩⟩, fun h => absurd h (by omega)⟩, fun h => absurd trivial h⟩
  simp -implicitDefEqProofs only [go_sem, Nat.reduceBEq, Nat.reduceAdd]
  refine callS_of d166 ⟨b, xs, xs.length, empS, ao, c, es, ψ, rfl, rfl, hb, Nat.le_refl _, by rw [List.take_length]; exact hk, by rw [hx]; exact hsz, fun ao' c' es' he hb' => ?_⟩
  simp -implicitDefEqProofs only [go_sem, Nat.reduceBEq, Nat.reduceAdd]
  exact hK ao' c' es' (by rw [he, hx]; rfl) hb'

def S168 : Am.Spec := fun rs φ K => ∃ b ao c es ψ, rs = [rP b] ∧ φ = WR b ao c es ψ ∧ isB es ∧ es.length ≤ 1048576 ∧ ∀ xs, xs.length = es.length → isB xs → K (.tup [.p (.sl xs xs.length), rI 0]) φ
theorem d168 : Snd Tryz.prog gls 168 S168 := by
  refine k168 (by rintro rs φ K ⟨b, ao, c, es, ψ, rfl, -⟩; simp) ?_
  rintro rs φ K ⟨b, ao, c, es, ψ, rfl, rfl, hb, hsz, hK⟩
  have l1 : PhLoad (WR b ao c es ψ) b 1 1 [.val (.slice ao es.length c)] := wr_load rfl
  have l2 : PhLoad (WR b ao c es ψ) b 2 1 [.val (.int .i64 0)] := wr_load rfl
  simp -implicitDefEqProofs only [go_sem, Nat.reduceBEq, Nat.reduceAdd, c168, c168r0, c168r1, c168r2, c168r3, Nat.zero_add, true_and]
  refine ⟨_, l2, ?_⟩
  simp -implicitDefEqProofs only [go_sem, Nat.reduceBEq, Nat.reduceAdd, Nat.zero_add, true_and, decide_eq_true_eq, decide_eq_false_iff_not]
  refine ⟨fun h => by simp at h, fun _ => ⟨_, l1, ?_⟩⟩
  simp -implicitDefEqProofs only [go_sem, Nat.reduceBEq, Nat.reduceAdd, Nat.zero_add, true_and]
  refine primS_of (app_copy Tryz.underlying212 info5 rfl rfl (by decide)) ⟨_, es, (Res.box b (wC ao es.length c)).sep ψ, rfl, rfl, by simp only [Tryz.t5]; omega, ?_⟩
  simp -implicitDefEqProofs only [go_sem, Nat.reduceBEq, Nat.reduceAdd, Nat.zero_add, true_and]
  exact hK es rfl hb

def S112 : Am.Spec := fun rs φ K => ∃ (n : Int) (p nm : ByteArray), rs = [.p (.val (.int .u8 n)), rS p, rS nm] ∧ 2 + textLen p + textLen nm ≤ 1048576 ∧ ∀ b ao c es, es.length = 2 + textLen p + textLen nm → isB es → K (.one (rP b)) (WR b ao c es φ)
theorem d112 : Snd Tryz.prog gls 112 S112 := by
  refine k112 (by rintro rs φ K ⟨n, p, nm, rfl, -⟩; simp) ?_
  rintro rs φ K ⟨n, p, nm, rfl, hsz, hK⟩
  simp -implicitDefEqProofs only [go_sem, Nat.reduceBEq, Nat.reduceAdd, c112, c112r0, c112r1, c112r2, c112r3, c112r4, c112r5, c112r6]
  refine callS_of d165 ⟨rfl, fun b => ?_⟩
  simp -implicitDefEqProofs only [go_sem, Nat.reduceBEq, Nat.reduceAdd]
  refine callS_of d115 ⟨n, b, _, _, _, _, rfl, rfl, (fun e he => by cases he), by simp, fun ao1 c1 es1 e1 b1 => ?_⟩
  simp -implicitDefEqProofs only [go_sem, Nat.reduceBEq, Nat.reduceAdd]
  refine callS_of d115 ⟨1, b, _, _, _, _, rfl, rfl, b1, by rw [e1]; simp, fun ao2 c2 es2 e2 b2 => ?_⟩
  simp -implicitDefEqProofs only [go_sem, Nat.reduceBEq, Nat.reduceAdd]
  refine callS_of d114 ⟨p, b, _, _, _, _, rfl, rfl, b2, by rw [e2, e1]; simp; omega, fun ao3 c3 es3 e3 b3 => ?_⟩
  simp -implicitDefEqProofs only [go_sem, Nat.reduceBEq, Nat.reduceAdd]
  refine callS_of d114 ⟨nm, b, _, _, _, _, rfl, rfl, b3, by rw [e3, e2, e1]; simp; omega, fun ao4 c4 es4 e4 b4 => ?_⟩
  simp -implicitDefEqProofs only [go_sem, Nat.reduceBEq, Nat.reduceAdd]
  exact hK b ao4 c4 es4 (by rw [e4, e3, e2, e1]; simp) b4

/-- what amounts take -/
def amtLen (a : Amt) : Nat := textLen a.name + numLen a.value.toNat
def sumA (l : List Amt) : Nat := (l.map amtLen).sum
def amtsLen (l : List Amt) : Nat := numLen l.length + sumA l
theorem sumA_take {l : List Amt} {k : Nat} {a : Amt} (h : l[k]? = some a) : sumA (l.take (k + 1)) = sumA (l.take k) + amtLen a := by
  rw [List.take_add_one, h]; simp [sumA]
theorem sumA_le (l : List Amt) (k : Nat) : sumA (l.take k) ≤ sumA l := by
  have : sumA l = sumA (l.take k) + sumA (l.drop k) := by
    unfold sumA
    rw [← List.sum_append, ← List.map_append, List.take_append_drop]
  omega
def S117 : Am.Spec := fun rs φ K => ∃ l x, SlR IsAmt l x ∧ l.length ≤ 4096 ∧ (∀ a ∈ l, 0 ≤ a.value) ∧ WOp [.p x] (amtsLen l) K rs φ
theorem d117 : Snd Tryz.prog gls 117 S117 := by
  refine k117 (by rintro rs φ K ⟨l, x, -, -, -, b, ao, c, es, ψ, rfl, -⟩; simp) ?_
  rintro rs φ K ⟨l, x, ⟨xs, rfl, hbig, hxs⟩, hl, hpos, b, ao, c, es, ψ, rfl, rfl, hb, hsz, hK⟩
  unfold amtsLen at hsz hK
  simp -implicitDefEqProofs only [go_sem, Nat.reduceBEq, Nat.reduceAdd, c117, c117r0, c117r1]
  refine fun hL => callS_of d113 ⟨l.length, hl, b, _, _, _, _, rfl, rfl, hb, by omega, fun ao1 c1 es1 e1 b1 => ?_⟩
  simp -implicitDefEqProofs only [go_sem, Nat.reduceBEq, Nat.reduceAdd]
  intro _
  refine inv_loop (X := Nat × Option Addr × Nat × List (List PV)) (fun x => x.1 ≤ l.length ∧ x.2.2.2.length = es.length + numLen l.length + sumA (l.take x.1) ∧ isB x.2.2.2)
    (fun x => ⟨[(12, vI x.1), (11, vI l.length), (10, .p (.sl xs l.length)), (0, .p (.val (.pointer (some ⟨b, 0, none⟩))))], [], [], WR b x.2.1 x.2.2.1 x.2.2.2 ψ⟩) (fun x => l.length - x.1) (0, ao1, c1, es1) ⟨Nat.zero_le _, by simp [sumA, e1], b1⟩ ?_ ?_
  · refine Gho.sub ?_ ?_ ?_ ?_ rfl
    · simp [subFr, go_sem, leAV]
    · simp [subB]
    · simp [subB]
    · simp [refsOK]
  · rintro ⟨k, aok, ck, ek⟩ Q' ⟨g1, g2, g3⟩ hn hq
    replace g1 : k ≤ l.length := g1
    replace g2 : ek.length = es.length + numLen l.length + sumA (l.take k) := g2
    replace g3 : isB ek := g3
    simp -implicitDefEqProofs only [go_sem, Nat.reduceBEq, Nat.reduceAdd, c117l7, c117r2, decide_eq_true_eq, decide_eq_false_iff_not]
    refine ⟨fun hlt => ?_, fun hge => ?_⟩
    · have hk : k < l.length := by omega
      obtain ⟨a, e, ha, he, rfl, hin⟩ := SlR.at hxs hk
      have hs1 := sumA_take ha
      have hs2 := sumA_le l (k + 1)
      have hap := hpos a (List.mem_of_getElem? ha)
      have hval : ((a.value.toNat : Nat) : Int) = a.value := by omega
      have hw : IntKind.u64.wrap a.value = ((a.value.toNat : Nat) : Int) := by
        have := hin.2
        simp [IntKind.wrap, IntKind.bits, IntKind.signed]; omega
      unfold amtLen at hs1
      simp -implicitDefEqProofs only [go_sem, Nat.reduceBEq, Nat.reduceAdd, c117r3, c117r4, c117r5, c117r6, Int.toNat_natCast, he, Option.some.injEq, exists_eq_left', Nat.reduceLeDiff, List.length_cons, List.length_nil, Nat.le_refl, true_and, List.drop_succ_cons, List.drop_zero, List.take_succ_cons, List.take_zero, Nat.ble]
      refine ⟨by omega, by omega, callS_of d114 ⟨a.name, b, _, _, _, _, rfl, rfl, g3, by omega, fun ao2 c2 es2 e2 b2 => ?_⟩⟩
      simp -implicitDefEqProofs only [go_sem, Nat.reduceBEq, Nat.reduceAdd, Nat.reduceLeDiff, List.length_cons, List.length_nil, true_and, List.drop_succ_cons, List.drop_zero, hw]
      refine callS_of d116 ⟨a.value.toNat, by have := hin.2; omega, b, _, _, _, _, rfl, rfl, b2, by omega, fun ao3 c3 es3 e3 b3 => ?_⟩
      simp -implicitDefEqProofs only [go_sem, Nat.reduceBEq, Nat.reduceAdd]
      refine hn _ (k + 1, ao3, c3, es3) ⟨hk, ?_, b3⟩ (by show l.length - (k + 1) < l.length - k; omega) ?_
      · show es3.length = es.length + numLen l.length + sumA (l.take (k + 1)); omega
      · rw [next_i hk hbig]
        refine Gho.sub ?_ ?_ ?_ ?_ rfl
        · simp [subFr, go_sem, leAV]
        · simp [subB]
        · simp [subB]
        · simp [refsOK]
    · have hk : k = l.length := by omega
      subst hk
      refine hq _ _ (by simp) ?_
      simp -implicitDefEqProofs only [go_sem, Nat.reduceBEq, Nat.reduceAdd]
      rw [List.take_length] at g2
      exact hK _ _ _ (by omega) g3

def S118 : Am.Spec := fun rs φ K => ∃ b ao c es ψ, rs = [rP b] ∧ φ = WR b ao c es ψ ∧ isB es ∧ es.length ≤ 1048576 ∧ ∀ s φ', Drops φ' ψ → K (.tup [rS s, rI (if es.length ≤ 8192 then 0 else 23)]) φ'
theorem d118 : Snd Tryz.prog gls 118 S118 := by
  refine k118 (by rintro rs φ K ⟨b, ao, c, es, ψ, rfl, -⟩; simp) ?_
  rintro rs φ K ⟨b, ao, c, es, ψ, rfl, rfl, hb, hsz, hK⟩
  simp -implicitDefEqProofs only [go_sem, Nat.reduceBEq, Nat.reduceAdd, c118, c118r0, c118r1]
  refine callS_of d168 ⟨b, ao, c, es, ψ, rfl, rfl, hb, hsz, fun xs hx hxb => ?_⟩
  simp -implicitDefEqProofs only [go_sem, Nat.reduceBEq, Nat.reduceAdd, c118r2, c118r3, c118r4, List.getElem?_cons_zero, List.getElem?_cons_succ]
  have hdr : Drops (WR b ao c es ψ) ψ := ⟨fun b h => .inr (.inr h), fun F w h => h.2.1.2.1⟩
  refine ⟨fun _ _ => ⟨fun h => ?_, fun h => primS_of (conv_bytes Tryz.underlying212 Tryz.underlying5 Tryz.underlying9) ⟨xs, xs.length, rfl, by rw [List.take_length]; exact hxb, fun s => ?_⟩⟩, fun h => by simp at h⟩
  · have h' : ¬ es.length ≤ 8192 := by simp at h; omega
    have := hK ⟨#[]⟩ _ hdr
    rw [if_neg h'] at this; exact this
  · simp -implicitDefEqProofs only [go_sem, Nat.reduceBEq, Nat.reduceAdd]
    have h' : es.length ≤ 8192 := by simp at h; omega
    have := hK s _ hdr
    rw [if_pos h'] at this; exact this
end Go.Proofs.YtnjblinbdimkjaaGreatDoor

namespace Go.Proofs.YtnjblinbdimkjaaGreatDoor
open Go Go.Am
set_option linter.unusedSimpArgs false

/-! ### how long an object's record is -/
theorem numGo_le : ∀ k n, numGo k n ≤ k + 1
  | 0, _ => Nat.le_refl _
  | k + 1, n => by
    rw [numGo]
    split
    · omega
    · have := numGo_le k (n / 128); omega
theorem numLen_le (n : Nat) : numLen n ≤ 10 := numGo_le 9 n
theorem textLen_le {s : ByteArray} {m : Nat} (h : s.size ≤ m) : textLen s ≤ m + 10 := by
  have := numLen_le s.size
  unfold textLen; omega
def sumN {α : Type} (f : α → Nat) (l : List α) : Nat := (l.map f).sum
theorem sumN_take {α : Type} {f : α → Nat} {l : List α} {k : Nat} {a : α} (h : l[k]? = some a) : sumN f (l.take (k + 1)) = sumN f (l.take k) + f a := by
  rw [List.take_add_one, h]; simp [sumN]
theorem sumN_le {α : Type} {f : α → Nat} (l : List α) (k : Nat) : sumN f (l.take k) ≤ sumN f l := by
  have : sumN f l = sumN f (l.take k) + sumN f (l.drop k) := by
    unfold sumN
    rw [← List.sum_append, ← List.map_append, List.take_append_drop]
  omega
theorem sumN_bound {α : Type} {f : α → Nat} {m : Nat} : ∀ (l : List α), (∀ a ∈ l, f a ≤ m) → sumN f l ≤ l.length * m
  | [], _ => by simp [sumN]
  | a :: l, h => by
    have h1 := sumN_bound l fun x hx => h x (List.mem_cons_of_mem _ hx)
    have h2 := h a List.mem_cons_self
    have e : sumN f (a :: l) = f a + sumN f l := by simp [sumN]
    rw [e, List.length_cons, Nat.add_mul, Nat.one_mul]; omega
def labLen (l : Lab) : Nat := textLen l.key + textLen l.value
def partLen (p : Part) : Nat := textLen p.name + amtsLen p.req + amtsLen p.lim
def objLen (o : Obj) : Nat := 2 + textLen o.path + textLen o.name + numLen o.labels.length + sumN labLen o.labels + 1 + numLen o.deadline.toNat + numLen o.parts.length + sumN partLen o.parts + numLen o.version.toNat

theorem nameF_size {s : ByteArray} (h : nameF s = true) : s.size ≤ 32 := by
  simp only [nameF, Bool.and_eq_true, decide_eq_true_eq] at h; omega
theorem valueF_size {s : ByteArray} (h : valueF s = true) : s.size ≤ 32 := by
  simp only [valueF, Bool.or_eq_true, decide_eq_true_eq] at h
  rcases h with rfl | h
  · exact Nat.zero_le _
  · exact nameF_size h
theorem resF_size {s : ByteArray} (h : resF s = true) : s.size ≤ 48 := by
  simp only [resF, Bool.and_eq_true, decide_eq_true_eq] at h; exact h.1
theorem labF_all {l : List Lab} (h : labF l = true) : l.length ≤ 16 ∧ ∀ a ∈ l, labLen a ≤ 84 := by
  simp only [labF, Bool.and_eq_true, decide_eq_true_eq] at h
  refine ⟨h.1, fun a ha => ?_⟩
  obtain ⟨i, hi⟩ := List.getElem?_of_mem ha
  have hlt := (List.getElem?_eq_some_iff.1 hi).1
  have := List.all_eq_true.1 h.2 i (by simpa using hlt)
  simp only [labI, hi, Bool.and_eq_true] at this
  have h1 := textLen_le (nameF_size this.1.1)
  have h2 := textLen_le (valueF_size this.1.2)
  unfold labLen; omega
theorem amtsF_all {l : List Amt} (h : amtsF l = 0) : l.length ≤ 16 ∧ (∀ a ∈ l, 0 ≤ a.value ∧ amtLen a ≤ 68) := by
  unfold amtsF at h
  split at h
  · cases h
  · split at h
    · rename_i h1 h2
      refine ⟨by omega, fun a ha => ?_⟩
      obtain ⟨i, hi⟩ := List.getElem?_of_mem ha
      have hlt := (List.getElem?_eq_some_iff.1 hi).1
      have := List.all_eq_true.1 h2 i (by simpa using hlt)
      simp only [amtI, hi, Bool.and_eq_true, decide_eq_true_eq] at this
      have h1 := textLen_le (resF_size this.1.1)
      have h2 := numLen_le a.value.toNat
      refine ⟨this.1.2, ?_⟩
      unfold amtLen; omega
    · cases h
theorem amtsLen_le {l : List Amt} (h : amtsF l = 0) : amtsLen l ≤ 1098 := by
  obtain ⟨h1, h2⟩ := amtsF_all h
  have h3 := sumN_bound (f := amtLen) (m := 68) l fun a ha => (h2 a ha).2
  have h4 := numLen_le l.length
  have h5 : l.length * 68 ≤ 16 * 68 := Nat.mul_le_mul_right 68 h1
  have e : sumA l = sumN amtLen l := rfl
  unfold amtsLen; rw [e]; omega
theorem partOK_le {p : Part} (h : partOK p = true) : partLen p ≤ 2238 := by
  simp only [partOK, Bool.and_eq_true, decide_eq_true_eq] at h
  have h1 := textLen_le (nameF_size h.1.1)
  have h2 := amtsLen_le h.1.2
  have h3 := amtsLen_le h.2
  unfold partLen; omega
theorem formObjF_le {o : Obj} (h : formObjF o = true) : objLen o ≤ 100000 ∧ o.labels.length ≤ 16 ∧ o.parts.length ≤ 8 ∧ (0 ≤ o.deadline ∧ o.deadline ≤ STAMP) ∧ (0 ≤ o.version ∧ o.version ≤ STAMP) ∧ ∀ p ∈ o.parts, partOK p = true := by
  simp only [formObjF, Bool.and_eq_true, decide_eq_true_eq, List.all_eq_true] at h
  obtain ⟨⟨⟨⟨⟨⟨⟨⟨⟨h1, h2⟩, h3⟩, h4⟩, h5⟩, h6⟩, h7⟩, h8⟩, h9⟩, h10⟩ := h
  obtain ⟨g1, g2⟩ := labF_all h3
  refine ⟨?_, g1, h8, h5, h6, h9⟩
  have a1 := textLen_le (path_size h1)
  have a2 := textLen_le (nameF_size h2)
  have a3 := numLen_le o.labels.length
  have a4 := sumN_bound (f := labLen) (m := 84) o.labels g2
  have a5 : o.labels.length * 84 ≤ 16 * 84 := Nat.mul_le_mul_right 84 g1
  have a6 := numLen_le o.deadline.toNat
  have a7 := numLen_le o.parts.length
  have a8 := sumN_bound (f := partLen) (m := 2238) o.parts fun p hp => partOK_le (h9 p hp)
  have a9 : o.parts.length * 2238 ≤ 8 * 2238 := Nat.mul_le_mul_right 2238 h8
  have a10 := numLen_le o.version.toNat
  unfold objLen; omega

/-- object.EncodeObject's word -/
def encF (o : Obj) : Int := if formObjF o = true then (if objLen o ≤ 8192 then 0 else 23) else 130
theorem u64_wrap {n : Int} (h : 0 ≤ n) (h' : n ≤ 9223372036854775807) : IntKind.u64.wrap n = ((n.toNat : Nat) : Int) := by
  simp [IntKind.wrap, IntKind.bits, IntKind.signed]; omega
theorem d62 : Snd Tryz.prog gls 62 (fun rs φ K => ∃ o cs, rs = [.agg cs] ∧ IsObj o cs ∧ ∀ s, K (.tup [rS s, rI (encF o)]) φ) := by
  refine Snd.drop (S := fun rs φ K => ∃ o cs, rs = [.agg cs] ∧ IsObj o cs ∧ ∀ s φ', Drops φ' φ → K (.tup [rS s, rI (encF o)]) φ') (k62 (by rintro rs φ K ⟨o, cs, rfl, -⟩; simp) ?_) (by rintro rs φ K ⟨o, cs, rfl, h, hK⟩; exact ⟨o, cs, rfl, h, fun s φ' hd => ⟨φ, hd, hK s⟩⟩)
  rintro rs φ K ⟨o, cs, rfl, hO, hK⟩
  have hO' := hO
  obtain ⟨x, y, rfl, ⟨ls, rfl, hlb, hl⟩, ⟨es, rfl, hpb, hp⟩, hpr, hd, hv⟩ := hO'
  simp -implicitDefEqProofs only [go_sem, Nat.reduceBEq, Nat.reduceAdd, c62, c62r0, c62r1, c62r2, List.drop_succ_cons, List.drop_zero, Nat.reduceLeDiff, true_and, List.length_cons, List.length_nil, Nat.ble, List.take_succ_cons, List.take_zero, Nat.zero_add, Nat.le_refl]
  refine callS_of d111 ⟨o, _, rfl, hO, ?_⟩
  simp -implicitDefEqProofs only [go_sem, Nat.reduceBEq, Nat.reduceAdd, Bool.not_eq_true', Bool.not_eq_false']
  refine ⟨fun h => ?_, fun h => ?_⟩
  · have := hK ⟨#[]⟩ φ (Drops.refl φ)
    rw [encF, if_neg (by rw [h]; decide)] at this
    exact this
  · obtain ⟨b1, b2, b3, b4, b5, b6⟩ := formObjF_le h
    rw [encF, if_pos h] at hK
    simp -implicitDefEqProofs only [go_sem, Nat.reduceBEq, Nat.reduceAdd, c62r3, List.drop_succ_cons, List.drop_zero, Nat.reduceLeDiff, true_and, List.length_cons, List.length_nil, Nat.ble, List.take_succ_cons, List.take_zero, Nat.zero_add, Nat.le_refl]
    refine ⟨by omega, by omega, ?_⟩
    simp -implicitDefEqProofs only [go_sem, Nat.reduceBEq, Nat.reduceAdd, List.drop_succ_cons, List.drop_zero, Nat.reduceLeDiff, true_and, List.length_cons, List.length_nil, Nat.ble, List.take_succ_cons, List.take_zero, Nat.zero_add, Nat.le_refl, Int.reduceToNat, Nat.mul_one]
    have lsum := sumN_le (f := labLen) o.labels
    have psum := sumN_le (f := partLen) o.parts
    have hsl := lsum o.labels.length
    unfold objLen at b1 hK
    refine callS_of d112 ⟨79, o.path, o.name, rfl, by omega, fun b ao c w0 e0 t0 => ?_⟩
    simp -implicitDefEqProofs only [go_sem, Nat.reduceBEq, Nat.reduceAdd, c62r4, List.drop_succ_cons, List.drop_zero, Nat.reduceLeDiff, true_and, List.length_cons, List.length_nil, Nat.ble, List.take_succ_cons, List.take_zero, Nat.zero_add, Nat.le_refl, Int.reduceToNat, Nat.mul_one]
    refine fun hL1 => callS_of d113 ⟨o.labels.length, by omega, b, _, _, _, _, rfl, rfl, t0, by omega, fun ao1 c1 w1 e1 t1 => ?_⟩
    simp -implicitDefEqProofs only [go_sem, Nat.reduceBEq, Nat.reduceAdd, c62r5, List.drop_succ_cons, List.drop_zero, Nat.reduceLeDiff, true_and, List.length_cons, List.length_nil, Nat.ble, List.take_succ_cons, List.take_zero, Nat.zero_add, Nat.le_refl, Int.reduceToNat, Nat.mul_one]
    intro _
    refine inv_loop (X := Nat × Option Addr × Nat × List (List PV)) (fun x => x.1 ≤ o.labels.length ∧ x.2.2.2.length = 2 + textLen o.path + textLen o.name + numLen o.labels.length + sumN labLen (o.labels.take x.1) ∧ isB x.2.2.2)
      (fun x => ⟨[(27, vI x.1), (26, vI o.labels.length), (25, .p (.sl ls o.labels.length)), (4, .p (.val (.pointer (some ⟨b, 0, none⟩)))), (1, .ref 1 0)], [(1, [.val (.string o.path), .val (.string o.name), .sl ls o.labels.length, .val (.int .i64 o.priority), .val (.int .i64 o.deadline), .sl es o.parts.length, .val (.int .i64 o.version)])], [], WR b x.2.1 x.2.2.1 x.2.2.2 φ⟩)
      (fun x => o.labels.length - x.1) (0, ao1, c1, w1) ⟨Nat.zero_le _, by simp [sumN, e1, e0], t1⟩ ?_ ?_
    · refine Gho.sub ?_ ?_ ?_ ?_ rfl
      · simp [subFr, go_sem, leAV]
      · simp [subB, go_sem]
      · simp [subB]
      · simp [refsOK, go_sem]
    · rintro ⟨k, aok, ck, wk⟩ Q' ⟨g1, g2, g3⟩ hn hq
      replace g1 : k ≤ o.labels.length := g1
      replace g2 : wk.length = 2 + textLen o.path + textLen o.name + numLen o.labels.length + sumN labLen (o.labels.take k) := g2
      replace g3 : isB wk := g3
      simp -implicitDefEqProofs only [go_sem, Nat.reduceBEq, Nat.reduceAdd, c62l11, c62r6, decide_eq_true_eq, decide_eq_false_iff_not]
      refine ⟨fun hlt => ?_, fun hge => ?_⟩
      · have hk : k < o.labels.length := by omega
        obtain ⟨a, e, ha, he, rfl⟩ := SlR.at hl hk
        have hs1 := sumN_take (f := labLen) ha
        have hs2 := lsum (k + 1)
        have hla : labLen a = textLen a.key + textLen a.value := rfl
        simp -implicitDefEqProofs only [go_sem, Nat.reduceBEq, Nat.reduceAdd, c62r7, c62r8, c62r9, c62r10, Int.toNat_natCast, he, Option.some.injEq, exists_eq_left', Nat.reduceLeDiff, List.length_cons, List.length_nil, Nat.le_refl, true_and, List.drop_succ_cons, List.drop_zero, List.take_succ_cons, List.take_zero, Nat.ble]
        refine ⟨by omega, by omega, callS_of d114 ⟨a.key, b, _, _, _, _, rfl, rfl, g3, by omega, fun ao2 c2 es2 e2 b2 => ?_⟩⟩
        simp -implicitDefEqProofs only [go_sem, Nat.reduceBEq, Nat.reduceAdd, List.drop_succ_cons, List.drop_zero, Nat.reduceLeDiff, true_and, List.length_cons, List.length_nil, Nat.ble, List.take_succ_cons, List.take_zero, Nat.zero_add, Nat.le_refl, Int.reduceToNat, Nat.mul_one]
        refine callS_of d114 ⟨a.value, b, _, _, _, _, rfl, rfl, b2, by omega, fun ao3 c3 es3 e3 b3 => ?_⟩
        simp -implicitDefEqProofs only [go_sem, Nat.reduceBEq, Nat.reduceAdd, List.drop_succ_cons, List.drop_zero, Nat.reduceLeDiff, true_and, List.length_cons, List.length_nil, Nat.ble, List.take_succ_cons, List.take_zero, Nat.zero_add, Nat.le_refl, Int.reduceToNat, Nat.mul_one]
        refine hn _ (k + 1, ao3, c3, es3) ⟨hk, ?_, b3⟩ (by show o.labels.length - (k + 1) < o.labels.length - k; omega) ?_
        · show es3.length = 2 + textLen o.path + textLen o.name + numLen o.labels.length + sumN labLen (o.labels.take (k + 1)); omega
        · rw [next_i hk hlb]
          refine Gho.sub ?_ ?_ ?_ ?_ rfl
          · simp [subFr, go_sem, leAV]
          · simp [subB, go_sem]
          · simp [subB]
          · simp [refsOK, go_sem]
      · have hk : k = o.labels.length := by omega
        subst hk
        rw [List.take_length] at g2
        refine hq _ _ (by simp) ?_
        simp -implicitDefEqProofs only [go_sem, Nat.reduceBEq, Nat.reduceAdd, c62r12, List.drop_succ_cons, List.drop_zero, Nat.reduceLeDiff, true_and, List.length_cons, List.length_nil, Nat.ble, List.take_succ_cons, List.take_zero, Nat.zero_add, Nat.le_refl, Int.reduceToNat, Nat.mul_one]
        refine callS_of d115 ⟨_, b, _, _, _, _, rfl, rfl, g3, by omega, fun ao2 c2 w2 e2 t2 => ?_⟩
        simp -implicitDefEqProofs only [go_sem, Nat.reduceBEq, Nat.reduceAdd, c62r13, List.drop_succ_cons, List.drop_zero, Nat.reduceLeDiff, true_and, List.length_cons, List.length_nil, Nat.ble, List.take_succ_cons, List.take_zero, Nat.zero_add, Nat.le_refl, Int.reduceToNat, Nat.mul_one]
        rw [u64_wrap b4.1 hd.2]
        refine callS_of d116 ⟨_, by have := hd.2; omega, b, _, _, _, _, rfl, rfl, t2, by omega, fun ao3 c3 w3 e3 t3 => ?_⟩
        simp -implicitDefEqProofs only [go_sem, Nat.reduceBEq, Nat.reduceAdd, c62r14, List.drop_succ_cons, List.drop_zero, Nat.reduceLeDiff, true_and, List.length_cons, List.length_nil, Nat.ble, List.take_succ_cons, List.take_zero, Nat.zero_add, Nat.le_refl, Int.reduceToNat, Nat.mul_one]
        refine fun hL2 => callS_of d113 ⟨o.parts.length, by omega, b, _, _, _, _, rfl, rfl, t3, by omega, fun ao4 c4 w4 e4 t4 => ?_⟩
        simp -implicitDefEqProofs only [go_sem, Nat.reduceBEq, Nat.reduceAdd, c62r15, List.drop_succ_cons, List.drop_zero, Nat.reduceLeDiff, true_and, List.length_cons, List.length_nil, Nat.ble, List.take_succ_cons, List.take_zero, Nat.zero_add, Nat.le_refl, Int.reduceToNat, Nat.mul_one]
        intro _
        refine inv_loop (X := Nat × Option Addr × Nat × List (List PV)) (fun x => x.1 ≤ o.parts.length ∧ x.2.2.2.length = 2 + textLen o.path + textLen o.name + numLen o.labels.length + sumN labLen o.labels + 1 + numLen o.deadline.toNat + numLen o.parts.length + sumN partLen (o.parts.take x.1) ∧ isB x.2.2.2)
          (fun x => ⟨[(58, vI x.1), (57, vI o.parts.length), (56, .p (.sl es o.parts.length)), (4, .p (.val (.pointer (some ⟨b, 0, none⟩)))), (1, .ref 1 0)], [(1, [.val (.string o.path), .val (.string o.name), .sl ls o.labels.length, .val (.int .i64 o.priority), .val (.int .i64 o.deadline), .sl es o.parts.length, .val (.int .i64 o.version)])], [], WR b x.2.1 x.2.2.1 x.2.2.2 φ⟩)
          (fun x => o.parts.length - x.1) (0, ao4, c4, w4) ⟨Nat.zero_le _, ?_, t4⟩ ?_ ?_
        · show w4.length = 2 + textLen o.path + textLen o.name + numLen o.labels.length + sumN labLen o.labels + 1 + numLen o.deadline.toNat + numLen o.parts.length + 0
          omega
        · refine Gho.sub ?_ ?_ ?_ ?_ rfl
          · simp [subFr, go_sem, leAV]
          · simp [subB, go_sem]
          · simp [subB]
          · simp [refsOK, go_sem]
        · rintro ⟨k, aok, ck, wk'⟩ Q2 ⟨g1', g2', g3'⟩ hn2 hq2
          replace g1' : k ≤ o.parts.length := g1'
          replace g2' : wk'.length = 2 + textLen o.path + textLen o.name + numLen o.labels.length + sumN labLen o.labels + 1 + numLen o.deadline.toNat + numLen o.parts.length + sumN partLen (o.parts.take k) := g2'
          replace g3' : isB wk' := g3'
          simp -implicitDefEqProofs only [go_sem, Nat.reduceBEq, Nat.reduceAdd, c62l22, c62r16, decide_eq_true_eq, decide_eq_false_iff_not]
          refine ⟨fun hlt => ?_, fun hge => ?_⟩
          · have hk : k < o.parts.length := by omega
            obtain ⟨a, e, ha, he, px, py, rfl, ⟨rs, rfl, hrb, hr⟩, ⟨ms, rfl, hmb, hm⟩⟩ := SlR.at hp hk
            have hs1 := sumN_take (f := partLen) ha
            have hs2 := psum (k + 1)
            have hla : partLen a = textLen a.name + amtsLen a.req + amtsLen a.lim := rfl
            have hok := b6 a (List.mem_of_getElem? ha)
            simp only [partOK, Bool.and_eq_true, decide_eq_true_eq] at hok
            obtain ⟨r1, r2⟩ := amtsF_all hok.1.2
            obtain ⟨m1, m2⟩ := amtsF_all hok.2
            simp -implicitDefEqProofs only [go_sem, Nat.reduceBEq, Nat.reduceAdd, c62r17, c62r18, c62r19, c62r20, c62r21, Int.toNat_natCast, he, Option.some.injEq, exists_eq_left', Nat.reduceLeDiff, List.length_cons, List.length_nil, Nat.le_refl, true_and, List.drop_succ_cons, List.drop_zero, List.take_succ_cons, List.take_zero, Nat.ble]
            refine ⟨by omega, by omega, callS_of d114 ⟨a.name, b, _, _, _, _, rfl, rfl, g3', by omega, fun ao5 c5 w5 e5 t5 => ?_⟩⟩
            simp -implicitDefEqProofs only [go_sem, Nat.reduceBEq, Nat.reduceAdd, List.drop_succ_cons, List.drop_zero, Nat.reduceLeDiff, true_and, List.length_cons, List.length_nil, Nat.ble, List.take_succ_cons, List.take_zero, Nat.zero_add, Nat.le_refl, Int.reduceToNat, Nat.mul_one]
            refine callS_of d117 ⟨a.req, _, ⟨rs, rfl, hrb, hr⟩, by omega, fun z hz => (r2 z hz).1, b, _, _, _, _, rfl, rfl, t5, by omega, fun ao6 c6 w6 e6 t6 => ?_⟩
            simp -implicitDefEqProofs only [go_sem, Nat.reduceBEq, Nat.reduceAdd, List.drop_succ_cons, List.drop_zero, Nat.reduceLeDiff, true_and, List.length_cons, List.length_nil, Nat.ble, List.take_succ_cons, List.take_zero, Nat.zero_add, Nat.le_refl, Int.reduceToNat, Nat.mul_one]
            refine callS_of d117 ⟨a.lim, _, ⟨ms, rfl, hmb, hm⟩, by omega, fun z hz => (m2 z hz).1, b, _, _, _, _, rfl, rfl, t6, by omega, fun ao7 c7 w7 e7 t7 => ?_⟩
            simp -implicitDefEqProofs only [go_sem, Nat.reduceBEq, Nat.reduceAdd, List.drop_succ_cons, List.drop_zero, Nat.reduceLeDiff, true_and, List.length_cons, List.length_nil, Nat.ble, List.take_succ_cons, List.take_zero, Nat.zero_add, Nat.le_refl, Int.reduceToNat, Nat.mul_one]
            refine hn2 _ (k + 1, ao7, c7, w7) ⟨hk, ?_, t7⟩ (by show o.parts.length - (k + 1) < o.parts.length - k; omega) ?_
            · show w7.length = 2 + textLen o.path + textLen o.name + numLen o.labels.length + sumN labLen o.labels + 1 + numLen o.deadline.toNat + numLen o.parts.length + sumN partLen (o.parts.take (k + 1))
              omega
            · rw [next_i hk hpb]
              refine Gho.sub ?_ ?_ ?_ ?_ rfl
              · simp [subFr, go_sem, leAV]
              · simp [subB, go_sem]
              · simp [subB]
              · simp [refsOK, go_sem]
          · have hk : k = o.parts.length := by omega
            subst hk
            rw [List.take_length] at g2'
            refine hq2 _ _ (by simp) ?_
            simp -implicitDefEqProofs only [go_sem, Nat.reduceBEq, Nat.reduceAdd, c62r23, List.drop_succ_cons, List.drop_zero, Nat.reduceLeDiff, true_and, List.length_cons, List.length_nil, Nat.ble, List.take_succ_cons, List.take_zero, Nat.zero_add, Nat.le_refl, Int.reduceToNat, Nat.mul_one]
            rw [u64_wrap b5.1 hv.2]
            refine callS_of d116 ⟨_, by have := hv.2; omega, b, _, _, _, _, rfl, rfl, g3', by omega, fun ao5 c5 w5 e5 t5 => ?_⟩
            simp -implicitDefEqProofs only [go_sem, Nat.reduceBEq, Nat.reduceAdd, c62r24, List.drop_succ_cons, List.drop_zero, Nat.reduceLeDiff, true_and, List.length_cons, List.length_nil, Nat.ble, List.take_succ_cons, List.take_zero, Nat.zero_add, Nat.le_refl, Int.reduceToNat, Nat.mul_one]
            refine callS_of d118 ⟨b, _, _, _, _, rfl, rfl, t5, by omega, fun s φ' hdr => ?_⟩
            simp -implicitDefEqProofs only [go_sem, Nat.reduceBEq, Nat.reduceAdd, List.getElem?_cons_zero, List.getElem?_cons_succ, List.drop_succ_cons, List.drop_zero, Nat.reduceLeDiff, true_and, List.length_cons, List.length_nil, Nat.ble, List.take_succ_cons, List.take_zero, Nat.zero_add, Nat.le_refl, Int.reduceToNat, Nat.mul_one]
            have := hK s φ' hdr
            rw [e5, g2']
            exact this

/-- object.ValidObject -/
def SObjI (f : Obj → Int) : Am.Spec := fun rs φ K => ∃ o cs, rs = [.agg cs] ∧ IsObj o cs ∧ K (.one (rI (f o))) φ
theorem d23 : Snd Tryz.prog gls 23 (SObjI encF) := by
  refine k23 (by rintro rs φ K ⟨o, cs, rfl, -⟩; simp) ?_
  rintro rs φ K ⟨o, cs, rfl, hO, hK⟩
  have h7 := obj_len hO
  have htk : cs.take 7 = cs := List.take_of_length_le (by omega)
  simp -implicitDefEqProofs only [go_sem, Nat.reduceBEq, Nat.reduceAdd, c23, c23r0, c23r1, c23r2, Nat.zero_add, h7, Nat.le_refl, true_and, List.drop_zero, htk]
  refine callS_of d62 ⟨o, cs, rfl, hO, fun s => ?_⟩
  simp -implicitDefEqProofs only [go_sem, Nat.reduceBEq, Nat.reduceAdd, List.getElem?_cons_zero, List.getElem?_cons_succ]
  exact hK

/-! ### quotas -/
def quoLen (q : Quo) : Nat := 2 + textLen q.path + textLen q.name + 2 + amtsLen q.hard
def encQ (q : Quo) : Int := if formQuoF q = true then (if quoLen q ≤ 8192 then 0 else 23) else 130
theorem cut_size {s p : ByteArray} {m : Nat} (h : preF s p = true) (h' : (cutF s p).1.size ≤ m) : s.size ≤ m + p.size := by
  have h1 : p.size ≤ s.size := by simp only [preF, Bool.and_eq_true, decide_eq_true_eq] at h; exact h.1
  unfold cutF at h'
  rw [if_pos h] at h'
  simp only [ByteArray.size_extract] at h'
  omega
theorem hardF_size {s : ByteArray} (h : hardF s = true) : s.size ≤ 57 := by
  unfold hardF at h
  split at h
  · rename_i e; rw [e]; decide
  · split at h
    · rename_i hp
      have := cut_size hp (resF_size h)
      have e : reqB.size = 9 := rfl
      omega
    · split at h
      · rename_i hp
        have := cut_size hp (resF_size h)
        have e : limB.size = 7 := rfl
        omega
      · cases h
theorem formQuoF_le {q : Quo} (h : formQuoF q = true) : quoLen q ≤ 100000 ∧ q.hard.length ≤ 16 ∧ ∀ a ∈ q.hard, 0 ≤ a.value := by
  simp only [formQuoF, Bool.and_eq_true, decide_eq_true_eq, List.all_eq_true] at h
  obtain ⟨⟨⟨⟨⟨⟨h1, h2⟩, h3⟩, h4⟩, h5⟩, h6⟩, h7⟩ := h
  have hok : ∀ a ∈ q.hard, 0 ≤ a.value ∧ amtLen a ≤ 77 := fun a ha => by
    have := h6 a ha
    simp only [hardOK, Bool.and_eq_true, decide_eq_true_eq] at this
    have g1 := textLen_le (hardF_size this.1)
    have g2 := numLen_le a.value.toNat
    refine ⟨this.2, ?_⟩
    unfold amtLen; omega
  refine ⟨?_, h4, fun a ha => (hok a ha).1⟩
  have a1 := textLen_le (path_size h1)
  have a2 := textLen_le (nameF_size h2)
  have a4 := sumN_bound (f := amtLen) (m := 77) q.hard fun a ha => (hok a ha).2
  have a5 : q.hard.length * 77 ≤ 16 * 77 := Nat.mul_le_mul_right 77 h4
  have a6 := numLen_le q.hard.length
  have e : sumA q.hard = sumN amtLen q.hard := rfl
  unfold quoLen amtsLen; rw [e]; omega
theorem d83 : Snd Tryz.prog gls 83 (fun rs φ K => ∃ q cs, rs = [.agg cs] ∧ IsQuo q cs ∧ ∀ s, K (.tup [rS s, rI (encQ q)]) φ) := by
  refine Snd.drop (S := fun rs φ K => ∃ q cs, rs = [.agg cs] ∧ IsQuo q cs ∧ ∀ s φ', Drops φ' φ → K (.tup [rS s, rI (encQ q)]) φ') (k83 (by rintro rs φ K ⟨o, cs, rfl, -⟩; simp) ?_) (by rintro rs φ K ⟨o, cs, rfl, h, hK⟩; exact ⟨o, cs, rfl, h, fun s φ' hd => ⟨φ, hd, hK s⟩⟩)
  rintro rs φ K ⟨q, cs, rfl, hO, hK⟩
  have hO' := hO
  obtain ⟨x, rfl, ⟨es, rfl, hpb, hp⟩, hk1, hk2⟩ := hO'
  simp -implicitDefEqProofs only [go_sem, Nat.reduceBEq, Nat.reduceAdd, c83, c83r0, c83r1, c83r2, List.drop_succ_cons, List.drop_zero, Nat.reduceLeDiff, true_and, List.length_cons, List.length_nil, Nat.ble, List.take_succ_cons, List.take_zero, Nat.zero_add, Nat.le_refl, Int.reduceToNat, Nat.mul_one]
  refine callS_of d136 ⟨q, _, rfl, hO, ?_⟩
  simp -implicitDefEqProofs only [go_sem, Nat.reduceBEq, Nat.reduceAdd, Bool.not_eq_true', Bool.not_eq_false']
  refine ⟨fun h => ?_, fun h => ?_⟩
  · have := hK ⟨#[]⟩ φ (Drops.refl φ)
    rw [encQ, if_neg (by rw [h]; decide)] at this
    exact this
  · obtain ⟨b1, b2, b3⟩ := formQuoF_le h
    rw [encQ, if_pos h] at hK
    unfold quoLen at b1 hK
    simp -implicitDefEqProofs only [go_sem, Nat.reduceBEq, Nat.reduceAdd, c83r3, List.drop_succ_cons, List.drop_zero, Nat.reduceLeDiff, true_and, List.length_cons, List.length_nil, Nat.ble, List.take_succ_cons, List.take_zero, Nat.zero_add, Nat.le_refl, Int.reduceToNat, Nat.mul_one]
    refine ⟨by omega, by omega, ?_⟩
    refine callS_of d112 ⟨81, q.path, q.name, rfl, by omega, fun b ao c w0 e0 t0 => ?_⟩
    simp -implicitDefEqProofs only [go_sem, Nat.reduceBEq, Nat.reduceAdd, c83r4, List.drop_succ_cons, List.drop_zero, Nat.reduceLeDiff, true_and, List.length_cons, List.length_nil, Nat.ble, List.take_succ_cons, List.take_zero, Nat.zero_add, Nat.le_refl, Int.reduceToNat, Nat.mul_one]
    refine callS_of d115 ⟨_, b, _, _, _, _, rfl, rfl, t0, by omega, fun ao2 c2 w2 e2 t2 => ?_⟩
    simp -implicitDefEqProofs only [go_sem, Nat.reduceBEq, Nat.reduceAdd, c83r5, List.drop_succ_cons, List.drop_zero, Nat.reduceLeDiff, true_and, List.length_cons, List.length_nil, Nat.ble, List.take_succ_cons, List.take_zero, Nat.zero_add, Nat.le_refl, Int.reduceToNat, Nat.mul_one]
    refine callS_of d115 ⟨_, b, _, _, _, _, rfl, rfl, t2, by omega, fun ao3 c3 w3 e3 t3 => ?_⟩
    simp -implicitDefEqProofs only [go_sem, Nat.reduceBEq, Nat.reduceAdd, c83r6, List.drop_succ_cons, List.drop_zero, Nat.reduceLeDiff, true_and, List.length_cons, List.length_nil, Nat.ble, List.take_succ_cons, List.take_zero, Nat.zero_add, Nat.le_refl, Int.reduceToNat, Nat.mul_one]
    refine callS_of d117 ⟨q.hard, _, ⟨es, rfl, hpb, hp⟩, by omega, b3, b, _, _, _, _, rfl, rfl, t3, by omega, fun ao4 c4 w4 e4 t4 => ?_⟩
    simp -implicitDefEqProofs only [go_sem, Nat.reduceBEq, Nat.reduceAdd, c83r7, List.drop_succ_cons, List.drop_zero, Nat.reduceLeDiff, true_and, List.length_cons, List.length_nil, Nat.ble, List.take_succ_cons, List.take_zero, Nat.zero_add, Nat.le_refl, Int.reduceToNat, Nat.mul_one]
    refine callS_of d118 ⟨b, _, _, _, _, rfl, rfl, t4, by omega, fun s φ' hdr => ?_⟩
    simp -implicitDefEqProofs only [go_sem, Nat.reduceBEq, Nat.reduceAdd, List.getElem?_cons_zero, List.getElem?_cons_succ, List.drop_succ_cons, List.drop_zero, Nat.reduceLeDiff, true_and, List.length_cons, List.length_nil, Nat.ble, List.take_succ_cons, List.take_zero, Nat.zero_add, Nat.le_refl, Int.reduceToNat, Nat.mul_one]
    have := hK s φ' hdr
    rw [e4, e3, e2, e0]
    exact this
/-- object.ValidQuota -/
def SQuoI (f : Quo → Int) : Am.Spec := fun rs φ K => ∃ q cs, rs = [.agg cs] ∧ IsQuo q cs ∧ K (.one (rI (f q))) φ
theorem d41 : Snd Tryz.prog gls 41 (SQuoI encQ) := by
  refine k41 (by rintro rs φ K ⟨o, cs, rfl, -⟩; simp) ?_
  rintro rs φ K ⟨q, cs, rfl, hO, hK⟩
  have h7 := quo_len hO
  have htk : cs.take 5 = cs := List.take_of_length_le (by omega)
  simp -implicitDefEqProofs only [go_sem, Nat.reduceBEq, Nat.reduceAdd, c41, c41r0, c41r1, c41r2, Nat.zero_add, h7, Nat.le_refl, true_and, List.drop_zero, htk]
  refine callS_of d83 ⟨q, cs, rfl, hO, fun s => ?_⟩
  simp -implicitDefEqProofs only [go_sem, Nat.reduceBEq, Nat.reduceAdd, List.getElem?_cons_zero, List.getElem?_cons_succ]
  exact hK
end Go.Proofs.YtnjblinbdimkjaaGreatDoor

/-
  DERIVED: THE SHELF's CONTRACTS AT THIS DUMP, IN PLAIN WORDS (tools/lay-plain.mjs out of 'TryzShelf.lean', which tools/lay-shelf.mjs wrote): THE SAME DECLARATIONS UNDER THE SAME NAMES: 'import', 'namespace', 'open', 'def', 'theorem' AND NOTHING ELSE: no command of the shelf's: FOR A HAND-IN. Each laying: the table of numbers ('.._ren') and one theorem, a field a fact of the dump's own or the kernel's comparison; each contract: ONE APPLICATION.
-/
namespace Go.Proofs
open Go.Shelf
def Tryz.laysSort_ren : Go.Shelf.Ren := ⟨fun | 6 => 66 | 15 => 121 | 14 => 120 | 28 => 177 | 29 => 178 | 20 => 169 | 21 => 170 | 22 => 171 | 23 => 172 | 24 => 173 | 25 => 174 | 26 => 175 | 27 => 176 | 46 => 203 | 47 => 204 | 48 => 205 | 49 => 206 | 50 => 207 | 57 => 215 | n => n, fun | 22 => 47 | 24 => 76 | 25 => 119 | 3 => 3 | 39 => 52 | 0 => 0 | 53 => 235 | 55 => 120 | 4 => 4 | 46 => 228 | 45 => 227 | 50 => 232 | 5 => 5 | 9 => 9 | 66 => 247 | 70 => 251 | 76 => 257 | 77 => 258 | n => n, fun | n => n⟩
theorem Tryz.laysSort : Go.Proofs.SlLaysF0.n6 Tryz.prog Tryz.laysSort_ren := {
  mixed := by kernel_rfl
  f6 := ⟨Tryz.f66.name, by decide, Tryz.func66.trans (congrArg some (by kernel_rfl))⟩
  f14 := ⟨Tryz.f120.name, by decide, Tryz.func120.trans (congrArg some (by kernel_rfl))⟩
  f15 := Tryz.func121.trans (congrArg some (by kernel_rfl))
  f20 := ⟨Tryz.f169.name, by decide, Tryz.func169.trans (congrArg some (by kernel_rfl))⟩
  f21 := ⟨Tryz.f170.name, by decide, Tryz.func170.trans (congrArg some (by kernel_rfl))⟩
  f22 := ⟨Tryz.f171.name, by decide, Tryz.func171.trans (congrArg some (by kernel_rfl))⟩
  f23 := ⟨Tryz.f172.name, by decide, Tryz.func172.trans (congrArg some (by kernel_rfl))⟩
  f24 := ⟨Tryz.f173.name, by decide, Tryz.func173.trans (congrArg some (by kernel_rfl))⟩
  f25 := ⟨Tryz.f174.name, by decide, Tryz.func174.trans (congrArg some (by kernel_rfl))⟩
  f26 := ⟨Tryz.f175.name, by decide, Tryz.func175.trans (congrArg some (by kernel_rfl))⟩
  f27 := ⟨Tryz.f176.name, by decide, Tryz.func176.trans (congrArg some (by kernel_rfl))⟩
  f28 := Tryz.func177.trans (congrArg some (by kernel_rfl))
  f29 := Tryz.func178.trans (congrArg some (by kernel_rfl))
  f46 := ⟨Tryz.f203.name, by decide, Tryz.func203.trans (congrArg some (by kernel_rfl))⟩
  f47 := Tryz.func204.trans (congrArg some (by kernel_rfl))
  f48 := Tryz.func205.trans (congrArg some (by kernel_rfl))
  f49 := ⟨Tryz.f206.name, by decide, Tryz.func206.trans (congrArg some (by kernel_rfl))⟩
  f50 := ⟨Tryz.f207.name, by decide, Tryz.func207.trans (congrArg some (by kernel_rfl))⟩
  f57 := ⟨Tryz.f215.name, by decide, Tryz.func215.trans (congrArg some (by kernel_rfl))⟩
  t0 := Tryz.underlying0
  a0 := Tryz.isAgg0
  z0 := Tryz.sizeOf0
  v0 := Tryz.zeroValue0
  t3 := Tryz.underlying3
  a3 := Tryz.isAgg3
  z3 := Tryz.sizeOf3
  v3 := Tryz.zeroValue3
  t4 := Tryz.underlying4
  a4 := Tryz.isAgg4
  z4 := Tryz.sizeOf4
  v4 := Tryz.zeroValue4
  t5 := Tryz.underlying5
  a5 := Tryz.isAgg5
  z5 := Tryz.sizeOf5
  v5 := Tryz.zeroValue5
  t9 := Tryz.underlying9
  a9 := Tryz.isAgg9
  z9 := Tryz.sizeOf9
  v9 := Tryz.zeroValue9
  t22 := Tryz.underlying47
  a22 := Tryz.isAgg47
  z22 := Tryz.sizeOf47
  v22 := Tryz.zeroValue47
  t25 := Tryz.underlying119
  a25 := Tryz.isAgg119
  z25 := Tryz.sizeOf119
  v25 := Tryz.zeroValue119
  t39 := Tryz.underlying52
  a39 := Tryz.isAgg52
  z39 := Tryz.sizeOf52
  v39 := Tryz.zeroValue52
  t45 := Tryz.underlying227
  a45 := Tryz.isAgg227
  z45 := Tryz.sizeOf227
  v45 := Tryz.zeroValue227
  t46 := Tryz.underlying228
  a46 := Tryz.isAgg228
  z46 := Tryz.sizeOf228
  v46 := Tryz.zeroValue228
  t50 := Tryz.underlying232
  a50 := Tryz.isAgg232
  z50 := Tryz.sizeOf232
  v50 := Tryz.zeroValue232
  t53 := Tryz.underlying235
  a53 := Tryz.isAgg235
  z53 := Tryz.sizeOf235
  v53 := Tryz.zeroValue235
  t55 := Tryz.underlying120
  a55 := Tryz.isAgg120
  z55 := Tryz.sizeOf120
  v55 := Tryz.zeroValue120
  t66 := Tryz.underlying247
  a66 := Tryz.isAgg247
  z66 := Tryz.sizeOf247
  v66 := Tryz.zeroValue247
  t70 := Tryz.underlying251
  a70 := Tryz.isAgg251
  z70 := Tryz.sizeOf251
  v70 := Tryz.zeroValue251
  t76 := Tryz.underlying257
  a76 := Tryz.isAgg257
  z76 := Tryz.sizeOf257
  v76 := Tryz.zeroValue257
  t77 := Tryz.underlying258
  a77 := Tryz.isAgg258
  z77 := Tryz.sizeOf258
  v77 := Tryz.zeroValue258 }
end Go.Proofs
