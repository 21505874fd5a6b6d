/-
  bursarlaw18.QuotaApart answers true and leaves its arguments as they were, for inputs of bulk at most 1048576 (the given second form; no other condition). Part 8 of 26 of the proof.
-/
import Derived.Test.YtnjblinbdimkjaaGreatDoorM7
/-
  AM: the words by which what is to be shown is computed.
-/
namespace Go.Am
open Go

section
variable {P : Program} {gl : Nat → Option (List PV)} {Q : Ex → St → Prop} {N Y : St → Prop} {K : AV → St → Prop} {σ : St} {fr : List (Nat × AV)} {bx : List (Nat × List PV)} {rw : List (Nat × (Nat × Nat × List (List PV)))} {ph : Res}

@[go_sem] theorem awp_skip : awp P gl .skip Q σ = Q .normal σ := rfl
@[go_sem] theorem awp_reg {ops} : awp P gl (.reg ops) Q σ = aops P gl ops (Q .normal) σ := rfl
@[go_sem] theorem awp_seq {a b} : awp P gl (.seq a b) Q σ = awp P gl a (thenQ (awp P gl b Q) Q) σ := rfl
@[go_sem] theorem awp_cond {c x y} : awp P gl (.cond c x y) Q σ = condA (awp P gl x Q) (awp P gl y Q) (ev σ c) σ := rfl
@[go_sem] theorem awp_block {id c} : awp P gl (.block id c) Q σ = awp P gl c (blockQ id Q) σ := rfl
@[go_sem] theorem awp_exit {id} : awp P gl (.exit id) Q σ = Q (.exit id) σ := rfl
@[go_sem] theorem awp_rege {l e} : awp P gl (.rege l e) Q σ = ∃ φ1 fr1 r o, l[e]? = some o ∧ aops P gl (l.take e) (fun σ' => σ' = ⟨fr1, σ.bx, σ.rw, σ.ph⟩) σ ∧ aops P gl (l.take e) (fun σ' => σ' = ⟨fr1, σ.bx, σ.rw, φ1⟩) ⟨σ.fr, σ.bx, σ.rw, φ1⟩ ∧
      effD P o r σ.ph φ1 ⟨fr1, σ.bx, σ.rw, σ.ph⟩ ∧ effD P o r φ1 φ1 ⟨fr1, σ.bx, σ.rw, φ1⟩ ∧ putK o.dst (aops P gl (l.drop (e + 1)) (Q .normal)) r.av ⟨fr1, σ.bx, σ.rw, φ1⟩ := rfl
@[go_sem] theorem effD_primq {d g op args r φ φ'} : effD P ⟨d, g, .primq op args⟩ r φ φ' σ = ∃ rs, rvq (args.map (ev σ)) = some rs ∧ ∃ S, SndP P op S ∧ S rs φ (fun r' φ'' => r' = r ∧ φ'' = φ') := rfl
@[go_sem] theorem awp_ret : awp P gl .ret Q σ = Q .ret σ := rfl
@[go_sem] theorem thenQ_normal : thenQ N Q .normal σ = N σ := rfl
@[go_sem] theorem thenQ_exit {id} : thenQ N Q (.exit id) σ = Q (.exit id) σ := rfl
@[go_sem] theorem thenQ_ret : thenQ N Q .ret σ = Q .ret σ := rfl
@[go_sem] theorem blockQ_normal {id} : blockQ id Q .normal σ = Q .normal σ := rfl
@[go_sem] theorem blockQ_ret {id} : blockQ id Q .ret σ = Q .ret σ := rfl
@[go_sem] theorem blockQ_self {id} : blockQ id Q (.exit id) σ = Q .normal σ := by simp [blockQ]
theorem blockQ_ne {id id'} (h : id ≠ id') : blockQ id Q (.exit id') σ = Q (.exit id') σ := by simp [blockQ, beq_ne h]
@[go_sem] theorem blockQ_ne' {id id'} (h : (id == id') = false) : blockQ id Q (.exit id') σ = Q (.exit id') σ := blockQ_ne (by simpa using h)
@[go_sem] theorem condA_bool {X Z : St → Prop} {b : Bool} : condA X Z (.p (.val (.bool b))) σ = ((b = true → X σ) ∧ (b = false → Z σ)) := rfl

@[go_sem] theorem aops_nil : aops P gl [] N σ = N σ := rfl
@[go_sem] theorem aops_cons {o l} : aops P gl (o :: l) N σ = aoper P gl o (aops P gl l N) σ := rfl
@[go_sem] theorem aoper_plain {d op} : aoper P gl ⟨d, none, op⟩ N σ = aop P gl (dstN d) op σ (putK d N) := rfl
@[go_sem] theorem aoper_guard {d s want op} : aoper P gl ⟨d, some (s, want), op⟩ N σ = aguard s want (aoperY P gl ⟨d, some (s, want), op⟩ N) (aoperN ⟨d, some (s, want), op⟩ N) σ := rfl
@[go_sem] theorem aoperY_eq {d g op} : aoperY P gl ⟨d, g, op⟩ N σ = aop P gl (dstN d) op σ (putK d N) := rfl
@[go_sem] theorem aoperN_eq {d g op} : aoperN ⟨d, g, op⟩ N σ = putK d N (.tup []) σ := rfl
@[go_sem] theorem dstN_some {d} : dstN (some d) = d := rfl
@[go_sem] theorem dstN_none : dstN none = 0 := rfl
@[go_sem] theorem putK_some {d av} : putK (some d) N av ⟨fr, bx, rw, ph⟩ = N ⟨(d, av) :: fr, bx, rw, ph⟩ := rfl
@[go_sem] theorem putK_none {av} : putK none N av σ = N σ := rfl

def guardV (s : Nat) (want : Bool) (Y N : St → Prop) (σ : St) : Option AV → Prop
  | some (.p (.val (.bool b))) => (b = want → Y (σ.put s (.p (.val (.bool want))))) ∧ (b = !want → N (σ.put s (.p (.val (.bool !want)))))
  | some (.tup _) => N σ
  | _ => False
@[go_sem] theorem aguard_eq {s want} : aguard s want Y N ⟨fr, bx, rw, ph⟩ = guardV s want Y N ⟨fr, bx, rw, ph⟩ (getT s fr) := by
  unfold aguard guardV; rfl
@[go_sem] theorem guardV_true {s} {b : Bool} : guardV s true Y N ⟨fr, bx, rw, ph⟩ (some (.p (.val (.bool b)))) =
    ((b = true → Y ⟨(s, .p (.val (.bool true))) :: fr, bx, rw, ph⟩) ∧ (b = false → N ⟨(s, .p (.val (.bool false))) :: fr, bx, rw, ph⟩)) := rfl
@[go_sem] theorem guardV_false {s} {b : Bool} : guardV s false Y N ⟨fr, bx, rw, ph⟩ (some (.p (.val (.bool b)))) =
    ((b = false → Y ⟨(s, .p (.val (.bool false))) :: fr, bx, rw, ph⟩) ∧ (b = true → N ⟨(s, .p (.val (.bool true))) :: fr, bx, rw, ph⟩)) := rfl
@[go_sem high] theorem guardV_tt {s} : guardV s true Y N ⟨fr, bx, rw, ph⟩ (some (.p (.val (.bool true)))) = Y ⟨(s, .p (.val (.bool true))) :: fr, bx, rw, ph⟩ := by simp [guardV, St.put]
@[go_sem high] theorem guardV_tf {s} : guardV s true Y N ⟨fr, bx, rw, ph⟩ (some (.p (.val (.bool false)))) = N ⟨(s, .p (.val (.bool false))) :: fr, bx, rw, ph⟩ := by simp [guardV, St.put]
@[go_sem high] theorem guardV_ff {s} : guardV s false Y N ⟨fr, bx, rw, ph⟩ (some (.p (.val (.bool false)))) = Y ⟨(s, .p (.val (.bool false))) :: fr, bx, rw, ph⟩ := by simp [guardV, St.put]
@[go_sem high] theorem guardV_ft {s} : guardV s false Y N ⟨fr, bx, rw, ph⟩ (some (.p (.val (.bool true)))) = N ⟨(s, .p (.val (.bool true))) :: fr, bx, rw, ph⟩ := by simp [guardV, St.put]
@[go_sem high] theorem condA_tt {X Z : St → Prop} : condA X Z (.p (.val (.bool true))) σ = X σ := by simp [condA]
@[go_sem high] theorem condA_ff {X Z : St → Prop} : condA X Z (.p (.val (.bool false))) σ = Z σ := by simp [condA]
@[go_sem high] theorem pickA_tt {x y} : pickA (.p (.val (.bool true))) x y σ K = K x σ := by simp [pickA]
@[go_sem high] theorem pickA_ff {x y} : pickA (.p (.val (.bool false))) x y σ K = K y σ := by simp [pickA]
@[go_sem] theorem guardV_tup {s want l} : guardV s want Y N σ (some (.tup l)) = N σ := rfl

@[go_sem] theorem getT_self {s x l} : getT s ((s, x) :: l) = some x := getT_cons_self s x l
@[go_sem] theorem getT_ne' {s t x l} (h : (s == t) = false) : getT s ((t, x) :: l) = getT s l := getT_cons_ne (by simpa using h) x l
@[go_sem] theorem getB_self {α : Type} {s : Nat} {x : α} {l} : getB s ((s, x) :: l) = some x := getB_cons_self s x l
@[go_sem] theorem getB_ne' {α : Type} {s t : Nat} {x : α} {l} (h : (s == t) = false) : getB s ((t, x) :: l) = getB s l := getB_cons_ne (by simpa using h) x l
@[go_sem] theorem getB_nil' {α : Type} {s : Nat} : getB s ([] : List (Nat × α)) = none := rfl
@[go_sem] theorem setB_self' {α : Type} {s : Nat} {x y : α} {l} : setB s x ((s, y) :: l) = (s, x) :: l := by simp [setB]
@[go_sem] theorem setB_ne' {α : Type} {s t : Nat} {x y : α} {l} (h : (s == t) = false) : setB s x ((t, y) :: l) = (t, y) :: setB s x l := by simp [setB, beq_ne (by simpa using h : s ≠ t)]
@[go_sem] theorem delB_self' {α : Type} {s : Nat} {y : α} {l} : delB s ((s, y) :: l) = delB s l := by simp [delB]
@[go_sem] theorem delB_ne' {α : Type} {s t : Nat} {y : α} {l} (h : (s == t) = false) : delB s ((t, y) :: l) = (t, y) :: delB s l := by simp [delB, beq_ne (by simpa using h : s ≠ t)]
@[go_sem] theorem delB_nil' {α : Type} {s : Nat} : delB s ([] : List (Nat × α)) = [] := rfl

@[go_sem] theorem ev_t {n} : ev ⟨fr, bx, rw, ph⟩ (.t n) = (getT n fr).getD .junk := by
  simp only [ev]; cases getT n fr <;> rfl
@[go_sem] theorem ev_k {x} : ev σ (.k x) = x := rfl
@[go_sem] theorem optGetD_some {α : Type} {x y : α} : (some x).getD y = x := rfl

@[go_sem] theorem aop_mov {d x} : aop P gl d (.mov x) σ K = K (nox (ev σ x)) σ := rfl
@[go_sem] theorem nox_p {x} : nox (.p x) = .p x := rfl
@[go_sem] theorem nox_agg {x} : nox (.agg x) = .agg x := rfl
@[go_sem] theorem nox_tup {x} : nox (.tup x) = .tup x := rfl
@[go_sem] theorem nox_ref {s o} : nox (.ref s o) = .ref s o := rfl
@[go_sem] theorem nox_row {s o} : nox (.row s o) = .row s o := rfl
@[go_sem] theorem nox_junk : nox .junk = .junk := rfl
@[go_sem] theorem nox_xsl {es} : nox (.xsl es) = .p (.sl es es.length) := rfl
@[go_sem] theorem aop_pick {d c a b} : aop P gl d (.pick c a b) σ K = pickA (ev σ c) (ev σ a) (ev σ b) σ K := rfl
@[go_sem] theorem aop_alloc {d zs} : aop P gl d (.alloc zs) σ K = allocA d zs σ K := rfl
@[go_sem] theorem aop_box {d x} : aop P gl d (.box x) σ K = boxA d (ev (frz1 x σ) x) (frz1 x σ) K := rfl
@[go_sem] theorem aop_build {d zs ps} : aop P gl d (.build zs ps) σ K = buildA zs (evs (frzL ps σ) ps) (frzL ps σ) K := rfl
@[go_sem] theorem aop_buildq {d zs ps} : aop P gl d (.buildq zs ps) σ K = buildA zs (evs σ ps) σ K := rfl
@[go_sem] theorem frz1_k {x} : frz1 (.k x) σ = frzV σ x := rfl
@[go_sem] theorem frz1_t {n} : frz1 (.t n) ⟨fr, bx, rw, ph⟩ = frzV ⟨fr, bx, rw, ph⟩ ((getT n fr).getD .junk) := by
  simp only [frz1, ev]; cases getT n fr <;> rfl
@[go_sem] theorem frzV_p {x} : frzV σ (.p x) = σ := rfl
@[go_sem] theorem frzV_agg {x} : frzV σ (.agg x) = σ := rfl
@[go_sem] theorem frzV_tup {x} : frzV σ (.tup x) = σ := rfl
@[go_sem] theorem frzV_ref {s o} : frzV σ (.ref s o) = σ := rfl
@[go_sem] theorem frzV_xsl {x} : frzV σ (.xsl x) = σ := rfl
@[go_sem] theorem frzV_junk : frzV σ .junk = σ := rfl
def frzW (σ : St) (r : Nat) : Option (Nat × Nat × List (List PV)) → St
  | some (_, _, es) => σ.frzRow r es
  | none => σ
@[go_sem] theorem frzV_row {r n} : frzV ⟨fr, bx, rw, ph⟩ (.row r n) = frzW ⟨fr, bx, rw, ph⟩ r (getB r rw) := by
  simp only [frzV]; unfold frzW; rfl
@[go_sem] theorem frzW_some {r T k es} : frzW ⟨fr, bx, rw, ph⟩ r (some (T, k, es)) = ⟨frzRowFr r es fr, bx, delB r rw, ph⟩ := rfl
@[go_sem] theorem frzL_nil : frzL [] σ = σ := rfl
@[go_sem] theorem frzL_cons {o k x l} : frzL ((o, k, x) :: l) σ = frzL l (frz1 x σ) := rfl
@[go_sem] theorem aop_bslice {d T k n zs ps} : aop P gl d (.bslice T k n zs ps) σ K = bsliceA d T k n zs (evs (frzL ps σ) ps) (frzL ps σ) K := rfl
@[go_sem] theorem aop_load {d agg k x} : aop P gl d (.load agg k x) σ K = loadA agg k (ev σ x) σ K := rfl
@[go_sem] theorem aop_store {d k x v} : aop P gl d (.store k x v) σ K = storeA k (ev (frz1 v σ) x) (ev (frz1 v σ) v) (frz1 v σ) K := rfl
@[go_sem] theorem aop_bin {d op T x y} : aop P gl d (.bin op T x y) σ K = binA op (ev σ x) (ev σ y) σ K := rfl
@[go_sem] theorem aop_un {d op x} : aop P gl d (.un op x) σ K = unA op (ev σ x) σ K := rfl
@[go_sem] theorem aop_cv {d k x} : aop P gl d (.cv k x) σ K = cvA k (ev σ x) σ K := rfl
@[go_sem] theorem aop_cvs {d x} : aop P gl d (.cvs x) σ K = cvsA (ev σ x) σ K := rfl
@[go_sem] theorem aop_fad {d o x} : aop P gl d (.fad o x) σ K = fadA o (ev σ x) σ K := rfl
@[go_sem] theorem aop_iad {d k x i} : aop P gl d (.iad k x i) σ K = iadA k (ev σ x) (ev σ i) σ K := rfl
@[go_sem] theorem aop_ixs {d x i} : aop P gl d (.ixs x i) σ K = ixsA (ev σ x) (ev σ i) σ K := rfl
@[go_sem] theorem aop_slc {d k x lo hi} : aop P gl d (.slc k x lo hi) σ K = slcA k (ev (frz1 x σ) x) (lo.map (ev (frz1 x σ))) (hi.map (ev (frz1 x σ))) (frz1 x σ) K := rfl
@[go_sem] theorem aop_slcq {d k x lo hi} : aop P gl d (.slcq k x lo hi) σ K = slcA k (ev σ x) (lo.map (ev σ)) (hi.map (ev σ)) σ K := rfl
@[go_sem] theorem aop_slcs {d x lo hi} : aop P gl d (.slcs x lo hi) σ K = slcsA (ev σ x) (lo.map (ev σ)) (hi.map (ev σ)) σ K := rfl
@[go_sem] theorem aop_slc3 {d k x y z} : aop P gl d (.slc3 k x y z) σ K = slc3A k (ev σ x) (ev σ y) (ev σ z) σ K := rfl
@[go_sem] theorem slc3A_eq {k es n kk i kk' j} : slc3A k (.p (.sl es n)) (.p (.val (.int kk i))) (.p (.val (.int kk' j))) σ K = (allK k es ∧ i = j ∧ 0 ≤ i ∧ i ≤ (es.length : Int) ∧ n ≤ es.length ∧ K (.xsl (es.take i.toNat)) σ) := rfl
@[go_sem] theorem aop_bslq {d T k n zs ps} : aop P gl d (.bslq T k n zs ps) σ K = bslqA k n zs (evs σ ps) σ K := rfl
@[go_sem] theorem aop_iada {d k n x i} : aop P gl d (.iada k n x i) σ K = iadaA k n (ev σ x) (ev σ i) σ K := rfl
@[go_sem] theorem iadaA_ip {k n cs kk i} : iadaA k n (.p (.ip cs)) (.p (.val (.int kk i))) σ K = (0 ≤ i ∧ i < (n : Int) ∧ K (.p (.ip (cs.drop (i.toNat * k)))) σ) := rfl
@[go_sem] theorem iadaA_ref {k n s o kk i} : iadaA k n (.ref s o) (.p (.val (.int kk i))) σ K = (0 ≤ i ∧ i < (n : Int) ∧ K (.ref s (o + i.toNat * k)) σ) := rfl
@[go_sem] theorem aop_beq {d neg ks x y} : aop P gl d (.beq neg ks x y) σ K = beqA neg ks (ev σ x) (ev σ y) σ K := rfl
def beqB (neg : Bool) (σ : St) (K : AV → St → Prop) : Option Bool → Prop
  | some b => K (.p (.val (.bool (b != neg)))) σ
  | none => False
@[go_sem] theorem beqA_eq {neg ks xs ys} : beqA neg ks (.agg xs) (.agg ys) σ K = beqB neg σ K (eqL ks xs ys) := by simp only [beqA]; unfold beqB; rfl
@[go_sem] theorem beqB_eql {b} : beqB false σ K (some b) = K (.p (.val (.bool b))) σ := by simp [beqB]
@[go_sem] theorem beqB_neq {b} : beqB true σ K (some b) = K (.p (.val (.bool (!b)))) σ := by simp [beqB]
@[go_sem] theorem eqL_nil {xs ys} : eqL [] xs ys = some true := by unfold eqL; rfl
@[go_sem] theorem eqL_int {ks k a b xs ys} : eqL (.int :: ks) (.val (.int k a) :: xs) (.val (.int k b) :: ys) = (eqL ks xs ys).map (decide (a = b) && ·) := by simp [eqL]
@[go_sem] theorem eqL_str {ks a b xs ys} : eqL (.str :: ks) (.val (.string a) :: xs) (.val (.string b) :: ys) = (eqL ks xs ys).map (decide (a = b) && ·) := rfl
@[go_sem] theorem eqL_bool {ks a b xs ys} : eqL (.bool :: ks) (.val (.bool a) :: xs) (.val (.bool b) :: ys) = (eqL ks xs ys).map (decide (a = b) && ·) := rfl
@[go_sem] theorem aop_prim {d op args} : aop P gl d (.prim op args) σ K = primA P op (args.map (ev σ)) σ K := rfl
@[go_sem] theorem aop_primq {d op args} : aop P gl d (.primq op args) σ K = primqA P op (args.map (ev σ)) σ K := rfl
theorem primS_of {op rs} {S : Spec} (hs : SndP P op S) (h : S rs ph (outK K ⟨fr, bx, rw, ph⟩)) : primS P op rs ⟨fr, bx, rw, ph⟩ K := ⟨S, hs, h⟩
@[go_sem] theorem primA_eq {op args} : primA P op args σ K = pargs P op args [] σ K := rfl
@[go_sem] theorem pargs_nil {op acc} : pargs P op [] acc σ K = primS P op acc.reverse σ K := rfl
@[go_sem] theorem pargs_p {op x l acc} : pargs P op (.p x :: l) acc σ K = pargs P op l (.p x :: acc) σ K := rfl
@[go_sem] theorem pargs_agg {op x l acc} : pargs P op (.agg x :: l) acc σ K = pargs P op l (.agg x :: acc) σ K := rfl
@[go_sem] theorem pargs_xsl {op x l acc} : pargs P op (.xsl x :: l) acc σ K = pargs P op l (.p (.sl x x.length) :: acc) σ K := rfl
def pargsR (P : Program) (op : Op) (r n : Nat) (l : List AV) (acc : List RV) (σ : St) (K : AV → St → Prop) : Option (Nat × Nat × List (List PV)) → Prop
  | some (_, _, es) => n = es.length ∧ pargs P op l (.p (.sl es n) :: acc) (σ.frzRow r es) K
  | none => False
@[go_sem] theorem pargs_row {op r n l acc} : pargs P op (.row r n :: l) acc ⟨fr, bx, rw, ph⟩ K = pargsR P op r n l acc ⟨fr, bx, rw, ph⟩ K (getB r rw) := by
  simp only [pargs]; unfold pargsR; rfl
@[go_sem] theorem pargsR_some {op r n l acc T k es} : pargsR P op r n l acc ⟨fr, bx, rw, ph⟩ K (some (T, k, es)) = (n = es.length ∧ pargs P op l (.p (.sl es n) :: acc) ⟨frzRowFr r es fr, bx, delB r rw, ph⟩ K) := rfl
theorem primqA_of {op args rs r} {S : Spec} (hr : rvq args = some rs) (hs : SndP P op S) (h : S rs σ.ph (fun r' φ' => r' = r ∧ φ' = σ.ph)) (hk : K r.av σ) : primqA P op args σ K := ⟨rs, hr, S, r, hs, h, hk⟩
@[go_sem] theorem fadA_ptr {b o f} : fadA f (.p (.val (.pointer (some ⟨b, o, none⟩)))) σ K = K (.p (.val (.pointer (some ⟨b, o + f, none⟩)))) σ := rfl
@[go_sem] theorem loadA_ptr {agg k b o} : loadA agg k (.p (.val (.pointer (some ⟨b, o, none⟩)))) σ K = (∃ cs, PhLoad σ.ph b o k cs ∧ (agg = false → k = 1) ∧ K (cellsA agg k cs) σ) := rfl
def storeP (k b o : Nat) (σ : St) (K : AV → St → Prop) : Option (List PV) → Prop
  | some xs => ∃ φ', xs.length = k ∧ PhStore σ.ph b o xs φ' ∧ K (.tup []) ⟨σ.fr, σ.bx, σ.rw, φ'⟩
  | none => False
@[go_sem] theorem storeA_ptr_p {k b o x} : storeA k (.p (.val (.pointer (some ⟨b, o, none⟩)))) (.p x) ⟨fr, bx, rw, ph⟩ K = ∃ φ', 1 = k ∧ PhStore ph b o [x] φ' ∧ K (.tup []) ⟨fr, bx, rw, φ'⟩ := rfl
@[go_sem] theorem aop_fld {d agg k o x} : aop P gl d (.fld agg k o x) σ K = fldA agg k o (ev σ x) σ K := rfl
@[go_sem] theorem aop_mm {d mx x y} : aop P gl d (.mm mx x y) σ K = mmA mx (ev σ x) (ev σ y) σ K := rfl
@[go_sem] theorem mmA_max {k i k' j} : mmA true (.p (.val (.int k i))) (.p (.val (.int k' j))) σ K = K (.p (.val (.int k (if j > i then j else i)))) σ := by simp [mmA, intK]
@[go_sem] theorem mmA_min {k i k' j} : mmA false (.p (.val (.int k i))) (.p (.val (.int k' j))) σ K = K (.p (.val (.int k (if j < i then j else i)))) σ := by simp [mmA, intK]
@[go_sem] theorem aop_shf {d l x y} : aop P gl d (.shf l x y) σ K = shfA l (ev σ x) (ev σ y) σ K := rfl
@[go_sem] theorem shfA_shl {k i k' j} : shfA true (.p (.val (.int k i))) (.p (.val (.int k' j))) σ K = (0 ≤ j ∧ K (.p (.val (.int k (k.wrap (i * 2 ^ (min j.toNat k.bits)))))) σ) := by simp [shfA, intK]
@[go_sem] theorem shfA_shr {k i k' j} : shfA false (.p (.val (.int k i))) (.p (.val (.int k' j))) σ K = (0 ≤ j ∧ K (.p (.val (.int k (i.fdiv (2 ^ (min j.toNat k.bits)))))) σ) := by simp [shfA, intK]
@[go_sem] theorem aop_isnil {d neg x} : aop P gl d (.isnil neg x) σ K = isnilA neg (ev σ x) σ K := rfl
@[go_sem] theorem isnilA_ip {neg cs} : isnilA neg (.p (.ip cs)) σ K = K (.p (.val (.bool neg))) σ := by cases neg <;> rfl
@[go_sem] theorem isnilA_ref {neg s o} : isnilA neg (.ref s o) σ K = K (.p (.val (.bool neg))) σ := by cases neg <;> rfl
@[go_sem] theorem isnilA_nil {neg} : isnilA neg (.p (.val (.pointer none))) σ K = K (.p (.val (.bool (!neg)))) σ := by cases neg <;> rfl
@[go_sem] theorem isnilA_ptr {neg a} : isnilA neg (.p (.val (.pointer (some a)))) σ K = K (.p (.val (.bool neg))) σ := by cases neg <;> rfl
@[go_sem] theorem aop_lenq {d x} : aop P gl d (.lenq x) σ K = lenqA (ev σ x) σ K := rfl
@[go_sem] theorem aop_callq {d f args} : aop P gl d (.callq f args) σ K = callqA P gl f (args.map (ev σ)) σ K := rfl
@[go_sem] theorem aop_ext {d x i} : aop P gl d (.ext x i) σ K = extA i (ev σ x) σ K := rfl
@[go_sem] theorem aop_mkf {d f caps} : aop P gl d (.mkf f caps) σ K = mkfA f (caps.map (ev σ)) [] σ K := rfl
@[go_sem] theorem aop_call {d f args} : aop P gl d (.call f args) σ K = argsA P gl f (args.map (ev σ)) [] σ K := rfl
@[go_sem] theorem aop_callv {d x args} : aop P gl d (.callv x args) σ K = callvA P gl (ev σ x) (args.map (ev σ)) σ K := rfl
@[go_sem] theorem aop_len {d x} : aop P gl d (.len x) σ K = lenA (ev σ x) σ K := rfl
@[go_sem] theorem aop_lens {d x} : aop P gl d (.lens x) σ K = lensA (ev σ x) σ K := rfl
@[go_sem] theorem aop_app {d T k b x y} : aop P gl d (.app T k b x y) σ K = appA d T k b (ev σ x) (ev σ y) σ K := rfl

@[go_sem] theorem aop_chk {d x} : aop P gl d (.chk x) σ K = chkA (ev σ x) σ K := rfl
@[go_sem] theorem chkA_ptr {a} : chkA (.p (.val (.pointer (some a)))) σ K = K (.p (.val (.pointer (some a)))) σ := rfl
@[go_sem] theorem chkA_ip {cs} : chkA (.p (.ip cs)) σ K = K (.p (.ip cs)) σ := rfl
@[go_sem] theorem chkA_fn {f caps} : chkA (.p (.fn f caps)) σ K = K (.p (.fn f caps)) σ := rfl
@[go_sem] theorem chkA_ref {s o} : chkA (.ref s o) σ K = K (.ref s o) σ := rfl

@[go_sem] theorem pickA_bool {b : Bool} {x y} : pickA (.p (.val (.bool b))) x y σ K = ((b = true → K x σ) ∧ (b = false → K y σ)) := rfl
@[go_sem] theorem allocA_eq {d zs} : allocA d zs ⟨fr, bx, rw, ph⟩ K = (getB d bx = none ∧ K (.ref d 0) ⟨fr, (d, zs) :: bx, rw, ph⟩) := rfl
@[go_sem] theorem boxA_p {d x} : boxA d (.p x) ⟨fr, bx, rw, ph⟩ K = (getB d bx = none ∧ K (.ref d 0) ⟨fr, (d, [x]) :: bx, rw, ph⟩) := rfl
@[go_sem] theorem boxA_agg {d cs} : boxA d (.agg cs) ⟨fr, bx, rw, ph⟩ K = (getB d bx = none ∧ K (.ref d 0) ⟨fr, (d, cs) :: bx, rw, ph⟩) := rfl

def loadB (agg : Bool) (k o : Nat) (σ : St) (K : AV → St → Prop) : Option (List PV) → Prop
  | some cs => o + k ≤ cs.length ∧ (agg = false → k = 1) ∧ K (cellsA agg k (cs.drop o)) σ
  | none => False
@[go_sem] theorem loadA_ref {agg k s o} : loadA agg k (.ref s o) ⟨fr, bx, rw, ph⟩ K = loadB agg k o ⟨fr, bx, rw, ph⟩ K (getB s bx) := by
  simp only [loadA]; unfold loadB; rfl
@[go_sem] theorem loadB_true {k o cs} : loadB true k o σ K (some cs) = (o + k ≤ cs.length ∧ K (.agg ((cs.drop o).take k)) σ) := by simp [loadB, cellsA]
@[go_sem] theorem fldA_true {k o cs} : fldA true k o (.agg cs) σ K = (o + k ≤ cs.length ∧ K (.agg ((cs.drop o).take k)) σ) := by simp [fldA, cellsA]
def headK (K : AV → St → Prop) (σ : St) : List PV → Prop
  | x :: _ => K (.p x) σ
  | [] => False
@[go_sem] theorem headK_cons {x l} : headK K σ (x :: l) = K (.p x) σ := rfl
@[go_sem] theorem loadB_false {o cs} : loadB false 1 o σ K (some cs) = headK K σ (cs.drop o) := by
  simp only [loadB, cellsA, cond_false]
  cases h : cs.drop o with
  | nil => have := congrArg List.length h; simp at this; simp [headK]; omega
  | cons x l => have := congrArg List.length h; simp at this; simp [headK]; omega
@[go_sem] theorem fldA_false {o cs} : fldA false 1 o (.agg cs) σ K = headK K σ (cs.drop o) := by
  simp only [fldA, cellsA, cond_false]
  cases h : cs.drop o with
  | nil => have := congrArg List.length h; simp at this; simp [headK]; omega
  | cons x l => have := congrArg List.length h; simp at this; simp [headK]; omega
@[go_sem] theorem loadA_ip_true {k cs} : loadA true k (.p (.ip cs)) σ K = (k ≤ cs.length ∧ K (.agg (cs.take k)) σ) := by simp [loadA, cellsA]
@[go_sem] theorem loadA_ip_false {cs} : loadA false 1 (.p (.ip cs)) σ K = headK K σ cs := by
  cases cs <;> simp [loadA, cellsA, headK]

def storeB (k s o : Nat) (σ : St) (K : AV → St → Prop) (xs : List PV) : Option (List PV) → Prop
  | some cs => xs.length = k ∧ o + k ≤ cs.length ∧ K (.tup []) ⟨σ.fr, setB s (splice cs o xs) σ.bx, σ.rw, σ.ph⟩
  | none => False
@[go_sem] theorem storeA_ref_p {k s o x} : storeA k (.ref s o) (.p x) ⟨fr, bx, rw, ph⟩ K = storeB k s o ⟨fr, bx, rw, ph⟩ K [x] (getB s bx) := by
  simp only [storeA, cellsOf]; unfold storeB; cases getB s bx <;> rfl
@[go_sem] theorem storeA_ref_agg {k s o cs} : storeA k (.ref s o) (.agg cs) ⟨fr, bx, rw, ph⟩ K = storeB k s o ⟨fr, bx, rw, ph⟩ K cs (getB s bx) := by
  simp only [storeA, cellsOf]; unfold storeB; cases getB s bx <;> rfl
@[go_sem] theorem storeA_ref_xsl {k s o es} : storeA k (.ref s o) (.xsl es) ⟨fr, bx, rw, ph⟩ K = storeB k s o ⟨fr, bx, rw, ph⟩ K [.sl es es.length] (getB s bx) := by
  simp only [storeA, cellsOf]; unfold storeB; cases getB s bx <;> rfl
@[go_sem] theorem storeB_some {k s o xs cs} : storeB k s o ⟨fr, bx, rw, ph⟩ K xs (some cs) = (xs.length = k ∧ o + k ≤ cs.length ∧ K (.tup []) ⟨fr, setB s (splice cs o xs) bx, rw, ph⟩) := rfl
@[go_sem] theorem splice_eq {cs o xs} : splice cs o xs = cs.take o ++ xs ++ cs.drop (o + xs.length) := rfl

@[go_sem] theorem bin_add {k a b} : binA .add (.p (.val (.int k a))) (.p (.val (.int k b))) σ K = K (.p (.val (.int k (k.wrap (a + b))))) σ := by simp [binA, intK]
@[go_sem] theorem bin_sub {k a b} : binA .sub (.p (.val (.int k a))) (.p (.val (.int k b))) σ K = K (.p (.val (.int k (k.wrap (a - b))))) σ := by simp [binA, intK]
@[go_sem] theorem bin_mul {k a b} : binA .mul (.p (.val (.int k a))) (.p (.val (.int k b))) σ K = K (.p (.val (.int k (k.wrap (a * b))))) σ := by simp [binA, intK]
@[go_sem] theorem bin_quo {k a b} : binA .quo (.p (.val (.int k a))) (.p (.val (.int k b))) σ K = (b ≠ 0 ∧ K (.p (.val (.int k (k.wrap (a.tdiv b))))) σ) := by simp [binA, intK]
@[go_sem] theorem bin_rem {k a b} : binA .rem (.p (.val (.int k a))) (.p (.val (.int k b))) σ K = (b ≠ 0 ∧ K (.p (.val (.int k (a.tmod b)))) σ) := by simp [binA, intK]
@[go_sem] theorem bin_and {k a b} : binA .and (.p (.val (.int k a))) (.p (.val (.int k b))) σ K = K (.p (.val (.int k (bits .and k a b)))) σ := by simp [binA, intK]
@[go_sem] theorem bin_or {k a b} : binA .or (.p (.val (.int k a))) (.p (.val (.int k b))) σ K = K (.p (.val (.int k (bits .or k a b)))) σ := by simp [binA, intK]
@[go_sem] theorem bin_xor {k a b} : binA .xor (.p (.val (.int k a))) (.p (.val (.int k b))) σ K = K (.p (.val (.int k (bits .xor k a b)))) σ := by simp [binA, intK]
@[go_sem] theorem bin_eql {k a b} : binA .eql (.p (.val (.int k a))) (.p (.val (.int k b))) σ K = K (.p (.val (.bool (decide (a = b))))) σ := by simp [binA, boolK]; rw [Bool.beq_eq_decide_eq]
@[go_sem] theorem bin_neq {k a b} : binA .neq (.p (.val (.int k a))) (.p (.val (.int k b))) σ K = K (.p (.val (.bool (!decide (a = b))))) σ := by
  have : (a != b) = !decide (a = b) := by by_cases h : a = b <;> simp [h]
  simp [binA, boolK, this]
@[go_sem] theorem bin_lss {k a b} : binA .lss (.p (.val (.int k a))) (.p (.val (.int k b))) σ K = K (.p (.val (.bool (decide (a < b))))) σ := by simp [binA, boolK]
@[go_sem] theorem bin_leq {k a b} : binA .leq (.p (.val (.int k a))) (.p (.val (.int k b))) σ K = K (.p (.val (.bool (decide (a ≤ b))))) σ := by simp [binA, boolK]
@[go_sem] theorem bin_gtr {k a b} : binA .gtr (.p (.val (.int k a))) (.p (.val (.int k b))) σ K = K (.p (.val (.bool (decide (b < a))))) σ := by simp [binA, boolK]
@[go_sem] theorem bin_geq {k a b} : binA .geq (.p (.val (.int k a))) (.p (.val (.int k b))) σ K = K (.p (.val (.bool (decide (b ≤ a))))) σ := by simp [binA, boolK]
@[go_sem] theorem bin_sadd {a b} : binA .add (.p (.val (.string a))) (.p (.val (.string b))) σ K = (((a.size + b.size : Nat) : Int) ≤ IntKind.i64.max ∧ K (.p (.val (.string (a ++ b)))) σ) := rfl
@[go_sem] theorem bin_seql {a b} : binA .eql (.p (.val (.string a))) (.p (.val (.string b))) σ K = K (.p (.val (.bool (decide (a = b))))) σ := rfl
@[go_sem] theorem bin_sneq {a b} : binA .neq (.p (.val (.string a))) (.p (.val (.string b))) σ K = K (.p (.val (.bool (!decide (a = b))))) σ := rfl
@[go_sem] theorem bin_slss {a b} : binA .lss (.p (.val (.string a))) (.p (.val (.string b))) σ K = K (.p (.val (.bool (Op.bytesLess a.toList b.toList)))) σ := rfl
@[go_sem] theorem bin_sleq {a b} : binA .leq (.p (.val (.string a))) (.p (.val (.string b))) σ K = K (.p (.val (.bool (Op.bytesLess a.toList b.toList || decide (a = b))))) σ := rfl
@[go_sem] theorem bin_sgtr {a b} : binA .gtr (.p (.val (.string a))) (.p (.val (.string b))) σ K = K (.p (.val (.bool (!(Op.bytesLess a.toList b.toList || decide (a = b)))))) σ := rfl
@[go_sem] theorem bin_sgeq {a b} : binA .geq (.p (.val (.string a))) (.p (.val (.string b))) σ K = K (.p (.val (.bool (!Op.bytesLess a.toList b.toList)))) σ := rfl
@[go_sem] theorem un_not {b} : unA .not (.p (.val (.bool b))) σ K = K (.p (.val (.bool (!b)))) σ := rfl
@[go_sem] theorem un_neg {k n} : unA .neg (.p (.val (.int k n))) σ K = K (.p (.val (.int k (k.wrap (0 - n))))) σ := rfl
@[go_sem] theorem cvA_int {k k' n} : cvA k (.p (.val (.int k' n))) σ K = K (.p (.val (.int k (k.wrap n)))) σ := rfl
@[go_sem] theorem cvsA_str {s} : cvsA (.p (.val (.string s))) σ K = K (.p (.val (.string s))) σ := rfl
@[go_sem] theorem fadA_ref {f s o} : fadA f (.ref s o) σ K = K (.ref s (o + f)) σ := rfl
@[go_sem] theorem fadA_ip {f cs} : fadA f (.p (.ip cs)) σ K = K (.p (.ip (cs.drop f))) σ := rfl
@[go_sem] theorem iadA_sl {k es n kk i} : iadA k (.p (.sl es n)) (.p (.val (.int kk i))) σ K = (0 ≤ i ∧ i < (n : Int) ∧ ∃ e, es[i.toNat]? = some e ∧ e.length = k ∧ K (.p (.ip e)) σ) := rfl
@[go_sem] theorem ixsA_str {s k i} : ixsA (.p (.val (.string s))) (.p (.val (.int k i))) σ K = (0 ≤ i ∧ i < (s.size : Int) ∧ K (.p (.val (.int .u8 ((s.get! i.toNat).toNat : Int)))) σ) := rfl
@[go_sem] theorem bndA_none {d} : bndA d none = some d := rfl
@[go_sem] theorem bndA_int {d k i} : bndA d (some (.p (.val (.int k i)))) = some i := rfl
def slcsB (s : ByteArray) (σ : St) (K : AV → St → Prop) : Option Int → Option Int → Prop
  | some l, some h => 0 ≤ l ∧ l ≤ h ∧ h ≤ (s.size : Int) ∧ K (.p (.val (.string (s.extract l.toNat h.toNat)))) σ
  | _, _ => False
@[go_sem] theorem slcsA_str {s lo hi} : slcsA (.p (.val (.string s))) lo hi σ K = slcsB s σ K (bndA 0 lo) (bndA s.size hi) := by simp only [slcsA]; unfold slcsB; rfl
@[go_sem] theorem slcsB_some {s l h} : slcsB s σ K (some l) (some h) = (0 ≤ l ∧ l ≤ h ∧ h ≤ (s.size : Int) ∧ K (.p (.val (.string (s.extract l.toNat h.toNat)))) σ) := rfl
def slcB (k : Nat) (es : List (List PV)) (σ : St) (K : AV → St → Prop) : Option Int → Option Int → Prop
  | some l, some h => allK k es ∧ 0 ≤ l ∧ l ≤ h ∧ h ≤ (es.length : Int) ∧ K (.p (.sl (es.drop l.toNat) (h - l).toNat)) σ
  | _, _ => False
@[go_sem] theorem slcA_sl {k es n lo hi} : slcA k (.p (.sl es n)) lo hi σ K = slcB k es σ K (bndA 0 lo) (bndA n hi) := by simp only [slcA]; unfold slcB; rfl
@[go_sem] theorem slcB_some {k es l h} : slcB k es σ K (some l) (some h) = (allK k es ∧ 0 ≤ l ∧ l ≤ h ∧ h ≤ (es.length : Int) ∧ K (.p (.sl (es.drop l.toNat) (h - l).toNat)) σ) := rfl
def extB (σ : St) (K : AV → St → Prop) : Option RV → Prop
  | some r => K r.av σ
  | none => False
@[go_sem] theorem extA_tup {i l} : extA i (.tup l) σ K = extB σ K l[i]? := by
  simp only [extA]; unfold extB
  cases l[i]? with
  | none => rfl
  | some r => cases r <;> rfl
@[go_sem] theorem extB_some {r} : extB σ K (some r) = K r.av σ := rfl
@[go_sem] theorem rvav_p {x} : RV.av (.p x) = .p x := rfl
@[go_sem] theorem rvav_agg {x} : RV.av (.agg x) = .agg x := rfl
@[go_sem] theorem get0 {α : Type} {x : α} {l : List α} : (x :: l)[0]? = some x := rfl
@[go_sem] theorem get1 {α : Type} {x y : α} {l : List α} : (x :: y :: l)[1]? = some y := rfl
@[go_sem] theorem get2 {α : Type} {x y z : α} {l : List α} : (x :: y :: z :: l)[2]? = some z := rfl
@[go_sem] theorem lenA_sl {es n} : lenA (.p (.sl es n)) σ K = (n ≤ LIM → K (.p (.val (.int .i64 n))) σ) := rfl
@[go_sem] theorem iadA_raw {k b o n c kk i} : iadA k (.p (.val (.slice (some ⟨b, o, none⟩) n c))) (.p (.val (.int kk i))) σ K = (0 ≤ i ∧ i < (n : Int) ∧ K (.p (.val (.pointer (some ⟨b, o + i.toNat * k, none⟩)))) σ) := rfl
@[go_sem low] theorem lenA_raw {a n c} : lenA (.p (.val (.slice a n c))) σ K = K (.p (.val (.int .i64 n))) σ := rfl
@[go_sem low] theorem lenqA_raw {a n c} : lenqA (.p (.val (.slice a n c))) σ K = K (.p (.val (.int .i64 n))) σ := rfl
def lenR (n : Nat) (σ : St) (K : AV → St → Prop) : Option (Nat × Nat × List (List PV)) → Prop
  | some (_, _, es) => n = es.length ∧ (n ≤ LIM → K (.p (.val (.int .i64 n))) σ)
  | none => False
@[go_sem] theorem lenA_row {r n} : lenA (.row r n) ⟨fr, bx, rw, ph⟩ K = lenR n ⟨fr, bx, rw, ph⟩ K (getB r rw) := by simp only [lenA]; unfold lenR; rfl
@[go_sem] theorem lenR_some {n T k es} : lenR n σ K (some (T, k, es)) = (n = es.length ∧ (n ≤ LIM → K (.p (.val (.int .i64 n))) σ)) := rfl
@[go_sem] theorem lenA_nil : lenA (.p (.val (.slice none 0 0))) σ K = K (.p (.val (.int .i64 0))) σ := rfl
@[go_sem] theorem lensA_str {s} : lensA (.p (.val (.string s))) σ K = K (.p (.val (.int .i64 s.size))) σ := rfl
@[go_sem] theorem cellsOf_p {x} : cellsOf (.p x) = some [x] := rfl
@[go_sem] theorem cellsOf_agg {x} : cellsOf (.agg x) = some x := rfl
@[go_sem] theorem evs_nil : evs σ [] = [] := rfl
@[go_sem] theorem evs_cons {o k x l} : evs σ ((o, k, x) :: l) = (o, k, ev σ x) :: evs σ l := rfl
def buildB (σ : St) (K : AV → St → Prop) (cs : List PV) : List (Nat × Nat × AV) → Prop
  | [] => K (.agg cs) σ
  | (o, k, x) :: l => match cellsOf x with
    | some xs => xs.length = k ∧ o + k ≤ cs.length ∧ buildB σ K (splice cs o xs) l
    | none => False
theorem buildB_imp : ∀ (ps : List (Nat × Nat × AV)) (zs : List PV), buildB σ K zs ps → ∃ cs, fillA zs ps = some cs ∧ K (.agg cs) σ
  | [], zs, h => ⟨zs, rfl, h⟩
  | (o, k, x) :: l, zs, h => by
    simp only [buildB] at h
    split at h
    · rename_i xs hx
      obtain ⟨h1, h2, h3⟩ := h
      have hb : (Nat.beq xs.length k && Nat.ble (o + k) zs.length) = true := by simp [h1, h2]
      obtain ⟨cs, h4, h5⟩ := buildB_imp l _ h3
      exact ⟨cs, by simp only [fillA, hx, hb, cond_true]; exact h4, h5⟩
    · exact h.elim
theorem buildA_of {zs ps} (h : buildB σ K zs ps) : buildA zs ps σ K := by
  obtain ⟨cs, h1, h2⟩ := buildB_imp ps zs h
  unfold buildA; rw [h1]; exact h2
@[go_sem] theorem buildA_nil {zs} : buildA zs [] σ K = K (.agg zs) σ := rfl
theorem fillA_cons {cs o k x l xs} (h : cellsOf x = some xs) (h1 : (xs.length == k && Nat.ble (o + k) cs.length) = true) : fillA cs ((o, k, x) :: l) = fillA (splice cs o xs) l := by
  have : (Nat.beq xs.length k && Nat.ble (o + k) cs.length) = true := by
    simp only [Bool.and_eq_true] at h1 ⊢
    exact ⟨by simpa using h1.1, h1.2⟩
  simp only [fillA, h, this, cond_true]
@[go_sem] theorem fillA_p {cs o x l} (h1 : Nat.ble (o + 1) cs.length = true) : fillA cs ((o, 1, .p x) :: l) = fillA (cs.take o ++ x :: cs.drop (o + 1)) l := by
  rw [fillA_cons rfl (by simpa using h1)]; simp [splice]
@[go_sem] theorem fillA_agg {cs o k xs l} (h0 : (xs.length == k) = true) (h1 : Nat.ble (o + k) cs.length = true) : fillA cs ((o, k, .agg xs) :: l) = fillA (cs.take o ++ xs ++ cs.drop (o + xs.length)) l := by
  rw [fillA_cons rfl (by simp only [h0, h1, Bool.and_self])]; rfl
@[go_sem] theorem fillA_nil {cs} : fillA cs [] = some cs := rfl
def buildC (σ : St) (K : AV → St → Prop) : Option (List PV) → Prop
  | some cs => K (.agg cs) σ
  | none => False
@[go_sem] theorem buildA_eq {zs ps} : buildA zs ps σ K = buildC σ K (fillA zs ps) := by unfold buildA buildC; rfl
@[go_sem] theorem buildC_some {cs} : buildC σ K (some cs) = K (.agg cs) σ := rfl
def bslqC (k n : Nat) (σ : St) (K : AV → St → Prop) : Option (List PV) → Prop
  | some cs => K (.p (.sl (chunks k n cs) n)) σ
  | none => False
@[go_sem] theorem bslqA_eq {k n zs ps} : bslqA k n zs ps σ K = (zs.length = k ∧ 0 < n ∧ 0 < k ∧ n * k ≤ 16777216 ∧ bslqC k n σ K (fillA (repl n zs) ps)) := by
  unfold bslqA bslqC; rfl
@[go_sem] theorem bslqC_some {k n cs} : bslqC k n σ K (some cs) = K (.p (.sl (chunks k n cs) n)) σ := rfl
@[go_sem] theorem fillA_xsl {cs o es l} (h1 : Nat.ble (o + 1) cs.length = true) : fillA cs ((o, 1, .xsl es) :: l) = fillA (cs.take o ++ .sl es es.length :: cs.drop (o + 1)) l := by
  rw [fillA_cons rfl (by simpa using h1)]; simp [splice]
def bsliceC (d T k n : Nat) (σ : St) (K : AV → St → Prop) : Option (List PV) → Prop
  | some cs => K (.row d n) ⟨σ.fr, σ.bx, (d, T, k, chunks k n cs) :: σ.rw, σ.ph⟩
  | none => False
@[go_sem] theorem bsliceA_eq {d T k n zs ps} : bsliceA d T k n zs ps ⟨fr, bx, rw, ph⟩ K = (getB d rw = none ∧ zs.length = k ∧ 0 < n ∧ 0 < k ∧ n * k ≤ 16777216 ∧ bsliceC d T k n ⟨fr, bx, rw, ph⟩ K (fillA (repl n zs) ps)) := by
  unfold bsliceA bsliceC; rfl
@[go_sem] theorem bsliceC_some {d T k n cs} : bsliceC d T k n ⟨fr, bx, rw, ph⟩ K (some cs) = K (.row d n) ⟨fr, bx, (d, T, k, chunks k n cs) :: rw, ph⟩ := rfl
@[go_sem] theorem repl_zero {zs} : repl 0 zs = [] := rfl
@[go_sem] theorem repl_succ {n zs} : repl (n + 1) zs = zs ++ repl n zs := rfl
@[go_sem] theorem repl_one {zs} : repl 1 zs = zs := by simp [repl]
@[go_sem] theorem chunks_one {k l} : chunks k 1 l = [l.take k] := rfl
@[go_sem] theorem mkfA_nil {f acc} : mkfA f [] acc σ K = K (.p (.fn f acc.reverse)) σ := rfl
@[go_sem] theorem mkfA_p {f x l acc} : mkfA f (.p x :: l) acc σ K = mkfA f l (x :: acc) σ K := rfl
def mkfB (f : FuncId) (s o : Nat) (l : List AV) (acc : List PV) (σ : St) (K : AV → St → Prop) : Option (List PV) → Prop
  | some cs => mkfA f l (.ip (cs.drop o) :: acc) ⟨frzFr s cs σ.fr, delB s σ.bx, σ.rw, σ.ph⟩ K
  | none => False
@[go_sem] theorem mkfA_ref {f s o l acc} : mkfA f (.ref s o :: l) acc ⟨fr, bx, rw, ph⟩ K = mkfB f s o l acc ⟨fr, bx, rw, ph⟩ K (getB s bx) := by simp only [mkfA]; unfold mkfB; rfl
@[go_sem] theorem mkfB_some {f s o l acc cs} : mkfB f s o l acc ⟨fr, bx, rw, ph⟩ K (some cs) = mkfA f l (.ip (cs.drop o) :: acc) ⟨frzFr s cs fr, delB s bx, rw, ph⟩ K := rfl
@[go_sem] theorem frzFr_nil {s cs} : frzFr s cs [] = [] := rfl
@[go_sem] theorem frzFr_cons {s cs t x l} : frzFr s cs ((t, x) :: l) = (t, frzAV s cs x) :: frzFr s cs l := rfl
@[go_sem] theorem frzAV_self {s cs o} : frzAV s cs (.ref s o) = .p (.ip (cs.drop o)) := by simp [frzAV]
@[go_sem] theorem frzAV_ne {s cs s' o} (h : (s == s') = false) : frzAV s cs (.ref s' o) = .ref s' o := by simp [frzAV, beq_ne (by simpa using h : s ≠ s')]
@[go_sem] theorem frzAV_p {s cs x} : frzAV s cs (.p x) = .p x := rfl
@[go_sem] theorem frzAV_agg {s cs x} : frzAV s cs (.agg x) = .agg x := rfl
@[go_sem] theorem frzAV_tup {s cs x} : frzAV s cs (.tup x) = .tup x := rfl
@[go_sem] theorem frzAV_row {s cs r n} : frzAV s cs (.row r n) = .row r n := rfl
@[go_sem] theorem frzAV_xsl {s cs x} : frzAV s cs (.xsl x) = .xsl x := rfl
@[go_sem] theorem frzAV_junk {s cs} : frzAV s cs .junk = .junk := rfl
@[go_sem] theorem callvA_fn {f caps args} : callvA P gl (.p (.fn f caps)) args σ K = argsA P gl f (args ++ caps.map .p) [] σ K := rfl
@[go_sem] theorem argsA_nil {f acc} : argsA P gl f [] acc σ K = callS P gl f acc.reverse σ K := rfl
@[go_sem] theorem argsA_p {f x l acc} : argsA P gl f (.p x :: l) acc σ K = argsA P gl f l (.p (nilSl x) :: acc) σ K := rfl
@[go_sem] theorem argsA_agg {f x l acc} : argsA P gl f (.agg x :: l) acc σ K = argsA P gl f l (.agg x :: acc) σ K := rfl
@[go_sem] theorem argsA_xsl {f es l acc} : argsA P gl f (.xsl es :: l) acc σ K = argsA P gl f l (.p (.sl es es.length) :: acc) σ K := rfl
def argsR (P : Program) (gl : Nat → Option (List PV)) (f : FuncId) (s o : Nat) (l : List AV) (acc : List RV) (σ : St) (K : AV → St → Prop) : Option (List PV) → Prop
  | some cs => argsA P gl f l (.p (.ip (cs.drop o)) :: acc) ⟨frzFr s cs σ.fr, delB s σ.bx, σ.rw, σ.ph⟩ K
  | none => False
@[go_sem] theorem argsA_ref {f s o l acc} : argsA P gl f (.ref s o :: l) acc ⟨fr, bx, rw, ph⟩ K = argsR P gl f s o l acc ⟨fr, bx, rw, ph⟩ K (getB s bx) := by simp only [argsA]; unfold argsR; rfl
@[go_sem] theorem argsR_some {f s o l acc cs} : argsR P gl f s o l acc ⟨fr, bx, rw, ph⟩ K (some cs) = argsA P gl f l (.p (.ip (cs.drop o)) :: acc) ⟨frzFr s cs fr, delB s bx, rw, ph⟩ K := rfl
def argsB (P : Program) (gl : Nat → Option (List PV)) (f : FuncId) (r n : Nat) (l : List AV) (acc : List RV) (σ : St) (K : AV → St → Prop) : Option (Nat × Nat × List (List PV)) → Prop
  | some (_, _, es) => n = es.length ∧ argsA P gl f l (.p (.sl es n) :: acc) ⟨frzRowFr r es σ.fr, σ.bx, delB r σ.rw, σ.ph⟩ K
  | none => False
@[go_sem] theorem argsA_row {f r n l acc} : argsA P gl f (.row r n :: l) acc ⟨fr, bx, rw, ph⟩ K = argsB P gl f r n l acc ⟨fr, bx, rw, ph⟩ K (getB r rw) := by simp only [argsA]; unfold argsB; rfl
@[go_sem] theorem argsB_some {f r n l acc T k es} : argsB P gl f r n l acc ⟨fr, bx, rw, ph⟩ K (some (T, k, es)) = (n = es.length ∧ argsA P gl f l (.p (.sl es n) :: acc) ⟨frzRowFr r es fr, bx, delB r rw, ph⟩ K) := rfl
@[go_sem] theorem frzRowFr_nil {r es} : frzRowFr r es [] = [] := rfl
@[go_sem] theorem frzRowFr_cons {r es t x l} : frzRowFr r es ((t, x) :: l) = (t, frzRowAV r es x) :: frzRowFr r es l := rfl
@[go_sem] theorem frzRowAV_self {r es n} : frzRowAV r es (.row r n) = if n = es.length then .p (.sl es n) else .junk := by simp [frzRowAV]
@[go_sem] theorem frzRowAV_ne {r es r' n} (h : (r == r') = false) : frzRowAV r es (.row r' n) = .row r' n := by simp [frzRowAV, beq_ne (by simpa using h : r ≠ r')]
@[go_sem] theorem frzRowAV_p {r es x} : frzRowAV r es (.p x) = .p x := rfl
@[go_sem] theorem frzRowAV_agg {r es x} : frzRowAV r es (.agg x) = .agg x := rfl
@[go_sem] theorem frzRowAV_tup {r es x} : frzRowAV r es (.tup x) = .tup x := rfl
@[go_sem] theorem frzRowAV_ref {r es s o} : frzRowAV r es (.ref s o) = .ref s o := rfl
@[go_sem] theorem frzRowAV_xsl {r es x} : frzRowAV r es (.xsl x) = .xsl x := rfl
@[go_sem] theorem frzRowAV_junk {r es} : frzRowAV r es .junk = .junk := rfl
@[go_sem] theorem nilSl_nil : nilSl (.val (.slice none 0 0)) = .sl [] 0 := rfl
@[go_sem] theorem nilSl_sl {es n} : nilSl (.sl es n) = .sl es n := rfl
@[go_sem] theorem nilSl_fn {f c} : nilSl (.fn f c) = .fn f c := rfl
@[go_sem] theorem nilSl_ip {c} : nilSl (.ip c) = .ip c := rfl
@[go_sem] theorem nilSl_int {k n} : nilSl (.val (.int k n)) = .val (.int k n) := rfl
@[go_sem] theorem nilSl_bool {n} : nilSl (.val (.bool n)) = .val (.bool n) := rfl
@[go_sem] theorem nilSl_string {n} : nilSl (.val (.string n)) = .val (.string n) := rfl
@[go_sem] theorem nilSl_pointer {n} : nilSl (.val (.pointer n)) = .val (.pointer n) := rfl
@[go_sem] theorem nilSl_map {n} : nilSl (.val (.map n)) = .val (.map n) := rfl
@[go_sem] theorem srcA_sl {es n} : srcA σ (.p (.sl es n)) = some (es.take n) := rfl
@[go_sem] theorem srcA_nil : srcA σ (.p (.val (.slice none 0 0))) = some [] := rfl
@[go_sem] theorem srcA_xsl {es} : srcA σ (.xsl es) = some es := rfl
def srcB (n : Nat) : Option (Nat × Nat × List (List PV)) → Option (List (List PV))
  | some (_, _, es) => if n = es.length then some es else none
  | none => none
@[go_sem] theorem srcA_row {r n} : srcA ⟨fr, bx, rw, ph⟩ (.row r n) = srcB n (getB r rw) := by
  simp only [srcA]; unfold srcB
  cases getB r rw with
  | none => rfl
  | some q =>
    obtain ⟨T, k, es⟩ := q
    by_cases h : n = es.length
    · simp [h]
    · simp [h, beq_ne h]
@[go_sem] theorem srcB_some {n T k es} : srcB n (some (T, k, es)) = if n = es.length then some es else none := rfl
def appN (d T k b : Nat) (σ : St) (K : AV → St → Prop) : Option (List (List PV)) → Prop
  | some ys => allK k ys ∧ ys.length * b ≤ 140737488351232 ∧ ys.length ≤ LIM ∧ K (.row d ys.length) ⟨σ.fr, σ.bx, (d, T, k, ys) :: σ.rw, σ.ph⟩
  | none => False
@[go_sem] theorem appA_nil {d T k b y} : appA d T k b (.p (.val (.slice none 0 0))) y ⟨fr, bx, rw, ph⟩ K = (getB d rw = none ∧ appN d T k b ⟨fr, bx, rw, ph⟩ K (srcA ⟨fr, bx, rw, ph⟩ y)) := by
  simp only [appA]; unfold appN; rfl
@[go_sem] theorem appN_some {d T k b ys} : appN d T k b ⟨fr, bx, rw, ph⟩ K (some ys) = (allK k ys ∧ ys.length * b ≤ 140737488351232 ∧ ys.length ≤ LIM ∧ K (.row d ys.length) ⟨fr, bx, (d, T, k, ys) :: rw, ph⟩) := rfl
def appR (r n T k b : Nat) (σ : St) (K : AV → St → Prop) : Option (Nat × Nat × List (List PV)) → Option (List (List PV)) → Prop
  | some (T', k', es), some ys => T' = T ∧ k' = k ∧ n = es.length ∧ allK k ys ∧ (es.length + ys.length) * b ≤ 140737488351232 ∧ es.length + ys.length ≤ LIM ∧
      K (.row r (es.length + ys.length)) ⟨σ.fr, σ.bx, setB r (T, k, es ++ ys) σ.rw, σ.ph⟩
  | _, _ => False
@[go_sem] theorem appA_row {d T k b r n y} : appA d T k b (.row r n) y ⟨fr, bx, rw, ph⟩ K = appR r n T k b ⟨fr, bx, rw, ph⟩ K (getB r rw) (srcA ⟨fr, bx, rw, ph⟩ y) := by
  simp only [appA]; unfold appR; rfl
@[go_sem] theorem appR_some {T k b r n T' k' es ys} : appR r n T k b ⟨fr, bx, rw, ph⟩ K (some (T', k', es)) (some ys) = (T' = T ∧ k' = k ∧ n = es.length ∧ allK k ys ∧ (es.length + ys.length) * b ≤ 140737488351232 ∧ es.length + ys.length ≤ LIM ∧
      K (.row r (es.length + ys.length)) ⟨fr, bx, setB r (T, k, es ++ ys) rw, ph⟩) := rfl
def appX (d T k b : Nat) (es : List (List PV)) (σ : St) (K : AV → St → Prop) : Option (List (List PV)) → Prop
  | some ys => allK k es ∧ allK k ys ∧ (es.length + ys.length) * b ≤ 140737488351232 ∧ es.length + ys.length ≤ LIM ∧ (ys = [] → K (.p (.sl es es.length)) σ) ∧
      (ys ≠ [] → K (.row d (es.length + ys.length)) ⟨σ.fr, σ.bx, (d, T, k, es ++ ys) :: σ.rw, σ.ph⟩)
  | none => False
@[go_sem] theorem appA_xsl {d T k b es y} : appA d T k b (.xsl es) y ⟨fr, bx, rw, ph⟩ K = (getB d rw = none ∧ appX d T k b es ⟨fr, bx, rw, ph⟩ K (srcA ⟨fr, bx, rw, ph⟩ y)) := by
  simp only [appA]; unfold appX; rfl
@[go_sem] theorem appX_some {d T k b es ys} : appX d T k b es ⟨fr, bx, rw, ph⟩ K (some ys) = (allK k es ∧ allK k ys ∧ (es.length + ys.length) * b ≤ 140737488351232 ∧ es.length + ys.length ≤ LIM ∧ (ys = [] → K (.p (.sl es es.length)) ⟨fr, bx, rw, ph⟩) ∧
      (ys ≠ [] → K (.row d (es.length + ys.length)) ⟨fr, bx, (d, T, k, es ++ ys) :: rw, ph⟩)) := rfl
@[go_sem] theorem allK_nil {k} : allK k [] = True := by simp [allK]
@[go_sem] theorem allK_cons {k e l} : allK k (e :: l) = (e.length = k ∧ allK k l) := by simp [allK]

/-! ### a call -/
theorem callS_of {f rs} {S : Spec} (hs : Snd P gl f S) (h : S rs σ.ph (outK K σ)) : callS P gl f rs σ K := ⟨S, hs, h⟩
theorem callqA_of {f args rs r} {S : Spec} (hr : rvs args = some rs) (hs : Snd P gl f S) (h : S rs σ.ph (fun r' φ' => r' = r ∧ φ' = σ.ph)) (hk : K r.av σ) : callqA P gl f args σ K := ⟨rs, hr, S, r, hs, h, hk⟩
@[go_sem] theorem rvs_nil : rvs [] = some [] := rfl
@[go_sem] theorem rvs_p {x l} : rvs (.p x :: l) = (rvs l).map (.p (nilSl x) :: ·) := rfl
@[go_sem] theorem rvs_agg {x l} : rvs (.agg x :: l) = (rvs l).map (.agg x :: ·) := rfl
@[go_sem] theorem rvs_xsl {x l} : rvs (.xsl x :: l) = (rvs l).map (.p (.sl x x.length) :: ·) := rfl
@[go_sem] theorem lenqA_sl {es n} : lenqA (.p (.sl es n)) σ K = K (.p (.val (.int .i64 n))) σ := rfl
@[go_sem] theorem lenqA_nil : lenqA (.p (.val (.slice none 0 0))) σ K = K (.p (.val (.int .i64 0))) σ := rfl
@[go_sem] theorem outK_eq {r φ} : outK K ⟨fr, bx, rw, ph⟩ r φ = K r.av ⟨fr, bx, rw, φ⟩ := rfl
@[go_sem] theorem outav_p {x} : Out.av (.one (.p x)) = .p x := rfl
@[go_sem] theorem outav_agg {x} : Out.av (.one (.agg x)) = .agg x := rfl
@[go_sem] theorem outav_tup {x} : Out.av (.tup x) = .tup x := rfl

/-! ### the ends -/
variable {KO : Out → Res → Prop} {rv : List ResV}
@[go_sem] theorem endQ_normal : endQ KO rv .normal σ = retA KO rv [] σ := rfl
@[go_sem] theorem endQ_ret : endQ KO rv .ret σ = retA KO rv [] σ := rfl
@[go_sem] theorem retA_nil {acc} : retA KO [] acc ⟨fr, bx, rw, ph⟩ = KO (outOf acc.reverse) ph := rfl
@[go_sem] theorem outOf_one {r} : outOf [r] = .one r := rfl
@[go_sem] theorem outOf_nil : outOf [] = .tup [] := rfl
@[go_sem] theorem outOf_two {r s l} : outOf (r :: s :: l) = .tup (r :: s :: l) := rfl
def retT (KO : Out → Res → Prop) (l : List ResV) (acc : List RV) (σ : St) : Option AV → Prop
  | some (.p x) => retA KO l (.p (nilSl x) :: acc) σ
  | some (.agg cs) => retA KO l (.agg cs :: acc) σ
  | some (.xsl es) => retA KO l (.p (.sl es es.length) :: acc) σ
  | some (.row r n) => match getB r σ.rw with
    | some (_, _, es) => n = es.length ∧ retA KO l (.p (.sl es n) :: acc) (σ.frzRow r es)
    | none => False
  | some (.ref b o) => match getB b σ.bx with
    | some cs => retA KO l (.p (.ip (cs.drop o)) :: acc) { σ with fr := frzFr b cs σ.fr, bx := delB b σ.bx }
    | none => False
  | _ => False
@[go_sem] theorem retA_t {s l acc} : retA KO (.t s :: l) acc ⟨fr, bx, rw, ph⟩ = retT KO l acc ⟨fr, bx, rw, ph⟩ (getT s fr) := by simp only [retA]; unfold retT; rfl
@[go_sem] theorem retT_xsl {l acc es} : retT KO l acc σ (some (.xsl es)) = retA KO l (.p (.sl es es.length) :: acc) σ := rfl
def retF (KO : Out → Res → Prop) (l : List ResV) (acc : List RV) (b o : Nat) (σ : St) : Option (List PV) → Prop
  | some cs => retA KO l (.p (.ip (cs.drop o)) :: acc) ⟨frzFr b cs σ.fr, delB b σ.bx, σ.rw, σ.ph⟩
  | none => False
@[go_sem] theorem retT_ref {l acc b o} : retT KO l acc ⟨fr, bx, rw, ph⟩ (some (.ref b o)) = retF KO l acc b o ⟨fr, bx, rw, ph⟩ (getB b bx) := by simp only [retT]; unfold retF; rfl
@[go_sem] theorem retF_some {l acc b o cs} : retF KO l acc b o ⟨fr, bx, rw, ph⟩ (some cs) = retA KO l (.p (.ip (cs.drop o)) :: acc) ⟨frzFr b cs fr, delB b bx, rw, ph⟩ := rfl
@[go_sem] theorem retT_p {l acc x} : retT KO l acc σ (some (.p x)) = retA KO l (.p (nilSl x) :: acc) σ := rfl
@[go_sem] theorem retT_agg {l acc x} : retT KO l acc σ (some (.agg x)) = retA KO l (.agg x :: acc) σ := rfl
def retR (KO : Out → Res → Prop) (l : List ResV) (acc : List RV) (r n : Nat) (σ : St) : Option (Nat × Nat × List (List PV)) → Prop
  | some (_, _, es) => n = es.length ∧ retA KO l (.p (.sl es n) :: acc) ⟨frzRowFr r es σ.fr, σ.bx, delB r σ.rw, σ.ph⟩
  | none => False
@[go_sem] theorem retT_row {l acc r n} : retT KO l acc ⟨fr, bx, rw, ph⟩ (some (.row r n)) = retR KO l acc r n ⟨fr, bx, rw, ph⟩ (getB r rw) := by simp only [retT]; unfold retR; rfl
@[go_sem] theorem retR_some {l acc r n T k es} : retR KO l acc r n ⟨fr, bx, rw, ph⟩ (some (T, k, es)) = (n = es.length ∧ retA KO l (.p (.sl es n) :: acc) ⟨frzRowFr r es fr, bx, delB r rw, ph⟩) := rfl
def retB (KO : Out → Res → Prop) (l : List ResV) (acc : List RV) (o : Nat) (agg : Bool) (k : Nat) (σ : St) : Option (List PV) → Prop
  | some cs => o + k ≤ cs.length ∧ (agg = false → k = 1) ∧ match cellsA agg k (cs.drop o) with
    | .p x => retA KO l (.p (nilSl x) :: acc) σ
    | .agg cs => retA KO l (.agg cs :: acc) σ
    | _ => False
  | none => False
def retC (KO : Out → Res → Prop) (l : List ResV) (acc : List RV) (agg : Bool) (k : Nat) (σ : St) : Option AV → Prop
  | some (.ref b o) => retB KO l acc o agg k σ (getB b σ.bx)
  | _ => False
@[go_sem] theorem retA_c {s agg k l acc} : retA KO (.c s agg k :: l) acc ⟨fr, bx, rw, ph⟩ = retC KO l acc agg k ⟨fr, bx, rw, ph⟩ (getT s fr) := by
  simp only [retA]; unfold retC retB
  cases getT s fr with
  | none => rfl
  | some x => cases x <;> rfl
@[go_sem] theorem retC_ref {agg k l acc b o} : retC KO l acc agg k ⟨fr, bx, rw, ph⟩ (some (.ref b o)) = retB KO l acc o agg k ⟨fr, bx, rw, ph⟩ (getB b bx) := rfl
@[go_sem] theorem retB_agg {k l acc o cs} : retB KO l acc o true k σ (some cs) = (o + k ≤ cs.length ∧ retA KO l (.agg ((cs.drop o).take k) :: acc) σ) := by simp [retB, cellsA]
def headR (KO : Out → Res → Prop) (l : List ResV) (acc : List RV) (σ : St) : List PV → Prop
  | x :: _ => retA KO l (.p (nilSl x) :: acc) σ
  | [] => False
@[go_sem] theorem headR_cons {l acc x m} : headR KO l acc σ (x :: m) = retA KO l (.p (nilSl x) :: acc) σ := rfl
@[go_sem] theorem retB_one {l acc o cs} : retB KO l acc o false 1 σ (some cs) = headR KO l acc σ (cs.drop o) := by
  simp only [retB, cellsA, cond_false]
  cases h : cs.drop o with
  | nil => have := congrArg List.length h; simp at this; simp [headR]
  | cons x m => have := congrArg List.length h; simp at this; simp [headR]; omega

@[go_sem] theorem startSt_eq {rs φ} : startSt rs φ = ⟨startFr 0 rs, [], [], φ⟩ := rfl
@[go_sem] theorem startFr_nil {n} : startFr n [] = [] := rfl
@[go_sem] theorem startFr_cons {n r l} : startFr n (r :: l) = (n, r.av) :: startFr (n + 1) l := rfl
end

/-! ### lists written out -/
attribute [go_sem] List.map_cons List.map_nil List.drop_succ_cons List.drop_zero List.drop_nil List.take_succ_cons List.take_zero List.take_nil List.cons_append List.nil_append List.append_nil List.length_cons List.length_nil
  List.reverse_cons List.reverse_nil Option.map_some Option.map_none

/-! ### truth -/
attribute [go_sem] if_true Bool.not_true Bool.not_false forall_const reduceCtorEq false_imp_iff true_and and_true imp_self implies_true Bool.false_eq_true Bool.true_eq_false

/-! ### loops -/
theorem awp_loop {P : Program} {gl : Nat → Option (List PV)} {Q : Ex → St → Prop} {σ : St} {c : ACode} (I : Nat → St → Prop) (n : Nat) (σ' : St) (h : Gho σ σ') (hI : I n σ')
    (hr : ∀ n σ, I n σ → awp P gl c (loopQ I n Q) σ) : awp P gl (.loop c) Q σ := ⟨I, n, ⟨σ', h, hI⟩, hr⟩
section
variable {Q : Ex → St → Prop} {I : Nat → St → Prop} {n : Nat} {σ : St}
@[go_sem] theorem loopQ_exit {id} : loopQ I n Q (.exit id) σ = Q (.exit id) σ := rfl
@[go_sem] theorem loopQ_ret : loopQ I n Q .ret σ = Q .ret σ := rfl
theorem loopQ_next (m : Nat) (hm : m < n) (σ' : St) (h : Gho σ σ') (hI : I m σ') : loopQ I n Q .normal σ := ⟨m, hm, σ', h, hI⟩
end

end Go.Am
