/-
  bursarlaw18.QuotaApart answers true and leaves its arguments as they were, for inputs of bulk at most 1048576 (the given second form; no other condition). Part 19 of 26 of the proof.
-/
import Derived.Test.YtnjblinbdimkjaaGreatDoorM18
import Derived.Test.YtnjblinbdimkjaaGreatDoorM11
namespace Go.Proofs.YtnjblinbdimkjaaGreatDoor
open Go Go.Am Go.Sort
set_option linter.unusedSimpArgs false

/-! ### strings in order -/
theorem cmpL_self : ∀ a : List UInt8, Lib.compareBytes a a = 0
  | [] => rfl
  | x :: l => by rw [Lib.compareBytes]; simp [cmpL_self l]
theorem cmpL_eq0 : ∀ a b : List UInt8, Lib.compareBytes a b = 0 → a = b
  | [], [], _ => rfl
  | [], _ :: _, h => by simp [Lib.compareBytes] at h
  | _ :: _, [], h => by simp [Lib.compareBytes] at h
  | x :: l, y :: m, h => by
    rw [Lib.compareBytes] at h
    split at h
    · cases h
    · split at h
      · cases h
      · rw [cmpL_eq0 l m h]
        have : x = y := UInt8.toNat_inj.1 (by rename_i h1 h2; have h1' := h1; have h2' := h2; simp only [UInt8.lt_iff_toNat_lt] at h1' h2'; omega)
        rw [this]
theorem cmpL_tri : ∀ a b c : List UInt8, (Lib.compareBytes a b < 0 → Lib.compareBytes b c < 0 → Lib.compareBytes a c < 0) ∧ (¬ Lib.compareBytes a b < 0 → ¬ Lib.compareBytes b c < 0 → ¬ Lib.compareBytes a c < 0)
  | [], [], [] => by simp [Lib.compareBytes]
  | [], [], _ :: _ => by simp [Lib.compareBytes]
  | [], _ :: _, [] => by simp [Lib.compareBytes]
  | [], _ :: _, _ :: _ => by simp [Lib.compareBytes]
  | _ :: _, [], [] => by simp [Lib.compareBytes]
  | _ :: _, [], _ :: _ => by simp [Lib.compareBytes]
  | _ :: _, _ :: _, [] => by simp [Lib.compareBytes]
  | x :: a, y :: b, z :: c => by
    have ih := cmpL_tri a b c
    simp only [Lib.compareBytes, UInt8.lt_iff_toNat_lt]
    constructor
    · intro h1 h2
      repeat' split at h1
      all_goals repeat' split at h2
      all_goals repeat' split
      all_goals first | omega | (exact ih.1 h1 h2) | skip
    · intro h1 h2
      repeat' split at h1
      all_goals repeat' split at h2
      all_goals repeat' split
      all_goals first | omega | (exact ih.2 h1 h2) | skip

instance : Inhabited Amt := ⟨⟨⟨#[]⟩, 0⟩⟩
def amtCmp (x y : Amt) : Int := cmpF x.name y.name
theorem swo_amt : SWO (ltOf amtCmp) where
  irrefl x := by simp [ltOf, amtCmp, cmpF, cmpL_self]
  trans x y z h1 h2 := by
    exact decide_eq_true ((cmpL_tri x.name.data.toList y.name.data.toList z.name.data.toList).1 (of_decide_eq_true h1) (of_decide_eq_true h2))
  ntrans x y z h1 h2 := by
    exact decide_eq_false ((cmpL_tri x.name.data.toList y.name.data.toList z.name.data.toList).2 (of_decide_eq_false h1) (of_decide_eq_false h2))

def encAmt (a : Amt) : List Value := [.string a.name, .int .i64 a.value]

set_option maxHeartbeats 1000000 in
theorem clos67 (x y : Amt) (W : World) : Calls Tryz.prog 67 #[.agg (encAmt x).toArray, .agg (encAmt y).toArray] W fun e w' => e = .returned (.int .i64 (amtCmp x y)) ∧ ∃ q os', w' = grow (W.drewN q) os' := by
  have hcon := fun W' => Any.strings_Compare Tryz.lays106 x.name y.name W'
  change ∀ W', Calls Tryz.prog 68 _ _ _ at hcon
  have hc : Lib.compareBytes x.name.data.toList y.name.data.toList = amtCmp x y := rfl
  simp only [hc] at hcon
  generalize amtCmp x y = r at hcon ⊢
  unfold encAmt
  go_enter Tryz.func67, Tryz.ntmps67
  go_wp2_with (go_at_call 68; refine (hcon _).mono ?_; rintro e w' ⟨rfl, rfl⟩)
  go_ret
  exact ⟨rfl, 0, _, by rw [alloc_eq_grow, alloc_eq_grow, grow_grow]; rfl⟩

theorem lays67 (blk off size : Nat) (w : World) : CmpLays Tryz.prog 67 #[] encAmt 2 amtCmp blk off size w := fun _ _ _ _ x y => clos67 x y _

/-! ### slices.SortFunc of amounts -/
theorem ent66 : Enterable Tryz.prog 66 := ⟨_, Tryz.func66, by kernel_rfl, by kernel_rfl⟩
def amtE (a : Amt) : List PV := [.val (.string a.name), .val (.int .i64 a.value)]
theorem amtE_rep {F : Facts} : ∀ (l : List Amt), RepL F (l.map amtE).flatten (l.flatMap encAmt)
  | [] => .nil
  | _ :: l => .cons (.val rfl) (.cons (.val rfl) (amtE_rep l))
theorem amtE_inv {F : Facts} : ∀ (l : List Amt) (xs : List Value), RepL F (l.map amtE).flatten xs → xs = l.flatMap encAmt
  | [], xs, h => by cases h; rfl
  | a :: l, xs, h => by
    cases h with
    | cons h1 t => cases t with
      | cons h2 t =>
        cases h1; cases h2
        rw [amtE_inv l _ t]; rfl
theorem flatK_list (l : List Amt) : flatK encAmt 2 l.toArray = (l.flatMap encAmt).toArray := by
  have hlen : ∀ l : List Amt, (l.flatMap encAmt).length = l.length * 2 := by
    intro l
    induction l with
    | nil => rfl
    | cons a l ih => simp [encAmt, ih]; omega
  have hget : ∀ (l : List Amt) (t : Nat), t < l.length * 2 → (l.flatMap encAmt)[t]! = (encAmt l[t / 2]!)[t % 2]! := by
    intro l
    induction l with
    | nil => intro t h; simp at h
    | cons a l ih =>
      intro t h
      match t, h with
      | 0, _ => simp [encAmt]
      | 1, _ => simp [encAmt]
      | t + 2, h =>
        have h' : t < l.length * 2 := by simp at h; omega
        have e1 : (t + 2) / 2 = t / 2 + 1 := by omega
        have e2 : (t + 2) % 2 = t % 2 := by omega
        have := ih t h'
        rw [e1, e2]
        simpa [encAmt] using this
  refine ext_get! (by simp [hlen]) fun t ht => ?_
  have ht' : t < l.length * 2 := by simpa using ht
  rw [get_flatK _ _ _ t (by simpa using ht')]
  have := hget l t ht'
  simpa using this.symm

theorem putCells_head {cur F : Array Value} (h : F.size ≤ cur.size) : (putCells id 0 F cur).toList.take F.size = F.toList ∧ (putCells id 0 F cur).size = cur.size := by
  refine ⟨?_, by simp [putCells]⟩
  apply List.ext_getElem?
  intro i
  rw [List.getElem?_take]
  by_cases hi : i < F.size
  · have hic : i < cur.size := by omega
    simp [hi, putCells, hic]
  · simp [hi]

def S66 : Am.Spec := fun rs φ K => ∃ v ls ψ, rs = [.p (.val v), .p (.fn 67 [])] ∧ φ = (Res.own v 76 2 (ls.map amtE)).sep ψ ∧ 0 < ls.length ∧
  ∀ ls' : List Amt, ls'.Perm ls → ls'.Pairwise (fun a b => ¬ amtCmp b a < 0) → K (.tup []) ((Res.own v 76 2 (ls'.map amtE)).sep ψ)
theorem d66 : Snd Tryz.prog gls 66 S66 where
  calls := by
    rintro rs φ K ⟨v, ls, ψ, rfl, rfl, hpos, hK⟩ F w vs _ hF ⟨⟨xs, hown, hrep, hek, hlim⟩, hψ, hap⟩ hpF hpl hrs
    obtain ⟨v', u, rfl, h1, h2⟩ := arg2 hrs
    rw [argV h1]
    have hu : u = .func (.func 67) #[] #[] := by
      have : RepP F (.fn 67 []) u := h2
      cases this; rfl
    subst hu
    have hxs := amtE_inv ls xs hrep
    subst hxs
    simp only [List.length_map] at hown hlim
    obtain ⟨hlen, hor⟩ := hown
    rcases hor with ⟨-, h0⟩ | ⟨g, cap, cur, rfl, -, hg, hnc, hcm, hcs, htake⟩
    · omega
    · have hglt : g < w.heap.size := (Array.getElem?_eq_some_iff.1 hg).1
      have hH : HoldsK encAmt 2 w g 0 ls.toArray := by
        intro j hj
        rw [flatK_list] at hj ⊢
        have hj' : j < (ls.flatMap encAmt).length := by simpa using hj
        have hcj : cur[j]? = some ((ls.flatMap encAmt)[j]'hj') := by
          have h5 := congrArg (·[j]?) htake
          simp only [List.getElem?_take] at h5
          rw [if_pos (by omega), List.getElem?_eq_getElem hj'] at h5
          simpa using h5
        constructor
        · rw [Nat.zero_add, cell_of_row _ g j _ _ _ hg, hcj]
          have h6 : (ls.flatMap encAmt).toArray[j]! = (ls.flatMap encAmt)[j] := by
            rw [getElem!_pos _ j (by simpa using hj')]; simp
          rw [h6]; rfl
        · simp [World.frozen?, hg]
      have hlim' : ls.length < 4611686018427387904 := by unfold LIM at hlim; omega
      have hcon := AnyQ.slices_SortFunc Tryz.laysSort 2 Tryz.isAgg76 Tryz.sizeOf76 encAmt (fun _ => rfl) (fun x v hv => by simp [encAmt] at hv; rcases hv with rfl | rfl <;> rfl) amtCmp swo_amt 67 #[] g 0 cap ls.toArray w (enters_of Tryz.func67 (by kernel_rfl) rfl) (lays67 g 0 _ w) hH hglt (by simpa using hlim')
      refine .inl ⟨ent66, ?_⟩
      change Calls Tryz.prog 66 _ _ _ at hcon
      simp only [List.size_toArray] at hcon
      refine hcon.mono ?_
      rintro e w' ⟨rfl, d', m, os, ⟨p1, -, p3⟩, hs, rfl⟩
      obtain ⟨ls', rfl⟩ : ∃ ls' : List Amt, d' = ls'.toArray := ⟨d'.toList, by simp⟩
      simp only [List.size_toArray] at p1 hs
      have hperm : ls'.Perm ls := by
        have e1 : (ls'.toArray.extract 0 ls.length).toList = ls' := by rw [← p1]; simp
        have e2 : (ls.toArray.extract 0 ls.length).toList = ls := by simp
        rw [e1, e2] at p3; exact p3
      have hsort : ls'.Pairwise (fun a b => ¬ amtCmp b a < 0) := by
        rw [List.pairwise_iff_getElem]
        intro i j hi hj hij
        have := hs i j (Nat.zero_le _) hij (by omega)
        have ei : ls'.toArray[i]! = ls'[i] := by simp [hi]
        have ej : ls'.toArray[j]! = ls'[j] := by simp [hj]
        rw [ei, ej] at this
        exact of_decide_eq_false this
      have hfs : (ls'.flatMap encAmt).length = ls.length * 2 := by
        rw [← hlen]; exact (hperm.flatMap_right encAmt).length_eq
      have hother : ∀ b, b < w.heap.size → b ≠ g → (sortWorldK encAmt 2 w g 0 m ls'.toArray os).heap[b]? = w.heap[b]? := by
        intro b hb hne
        unfold sortWorldK grow putRowK putRow mapBlock Sort.ahead
        simp only
        rw [Array.getElem?_append_left (by simpa using hb), Array.getElem?_modify, if_neg (Ne.symm hne)]
      have hat : (sortWorldK encAmt 2 w g 0 m ls'.toArray os).heap[g]? = some (.cells (putCells id 0 (ls'.flatMap encAmt).toArray cur) 76 (0, 0)) := by
        unfold sortWorldK grow putRowK putRow mapBlock Sort.ahead
        simp only
        rw [Array.getElem?_append_left (by simpa using hglt), Array.getElem?_modify, if_pos rfl, hg, flatK_list]
        rfl
      have hsz : w.heap.size ≤ (sortWorldK encAmt 2 w g 0 m ls'.toArray os).heap.size := by
        unfold sortWorldK grow putRowK putRow mapBlock Sort.ahead
        simp
      have hkp : Kept (fun b => b = g) w (sortWorldK encAmt 2 w g 0 m ls'.toArray os) := ⟨rfl, rfl, rfl, hsz, fun b hb hn => hother b hb hn⟩
      obtain ⟨q1, q2⟩ := putCells_head (cur := cur) (F := (ls'.flatMap encAmt).toArray) (by simp [hfs, hcs]; omega)
      refine ⟨_, _, _, F, rfl, hK ls' hperm hsort, ⟨[], rfl, .nil⟩, Facts.le_refl _, ?_, fun _ _ _ _ => rfl, ⟨rfl, rfl, rfl, hsz, fun b hb hn => hother b hb (fun e => hn (.inl (by rw [e]; rfl)))⟩, ⟨⟨ls'.flatMap encAmt, ⟨?_, .inr ⟨g, cap, _, ?_, Nat.zero_le _, hat, ?_, hcm, ?_, ?_⟩⟩, amtE_rep ls', ?_, ?_⟩, ?_, hap⟩, hpF, fun b h => .inl h, fun b h => Nat.lt_of_lt_of_le (hpl b h) hsz⟩
      · intro b' o' u hv
        have hne : b' ≠ g := fun e => by subst e; rw [hpF _ o' (.inl rfl)] at hv; cases hv
        exact (World.cell?_of_block (w := w) (a := ⟨b', o', none⟩) (hother b' (hF.lt hv) hne)).trans (hF b' o' u hv)
      · rw [List.length_map, hfs, p1]
      · rw [List.length_map, p1]
      · rw [List.length_map, p1]; exact hnc
      · rw [q2, hcs]
      · rw [List.length_map, p1, ← hfs]
        simpa using q1
      · intro e he
        obtain ⟨a, -, rfl⟩ := List.mem_map.1 he
        rfl
      · rw [List.length_map, p1]; exact hlim
      · exact ψ.stable _ _ _ _ (Facts.le_refl _) (fun b hb => hother b (hpl b (.inr hb)) (fun e => hap g rfl (e ▸ hb))) hψ
end Go.Proofs.YtnjblinbdimkjaaGreatDoor
