/-
  bursarlaw18.QuotaApart answers true and leaves its arguments as they were, for inputs of bulk at most 1048576 (the given second form; no other condition). Part 1 of 26 of the proof.
-/
import Derived.WalkKit
/-
  AM: values without memory, and what a state of the model says of them.
-/
namespace Go.Am
open Go

/-! ### lists, element by element -/
inductive All2 {α β : Type} (R : α → β → Prop) : List α → List β → Prop
  | nil : All2 R [] []
  | cons {a b l m} (h : R a b) (t : All2 R l m) : All2 R (a :: l) (b :: m)
namespace All2
variable {α β : Type} {R S : α → β → Prop}
theorem mono (h : ∀ a b, R a b → S a b) {l : List α} {m : List β} (x : All2 R l m) : All2 S l m := by
  induction x with
  | nil => exact .nil
  | cons a _ ih => exact .cons (h _ _ a) ih
theorem len {l : List α} {m : List β} (x : All2 R l m) : l.length = m.length := by
  induction x with
  | nil => rfl
  | cons _ _ ih => simp [ih]
theorem get {l : List α} {m : List β} (x : All2 R l m) : ∀ {i : Nat} {a : α}, l[i]? = some a → ∃ b, m[i]? = some b ∧ R a b := by
  induction x with
  | nil => intro i a h; simp at h
  | cons h _ ih =>
    intro i a hi
    cases i with
    | zero => simp at hi; subst hi; exact ⟨_, by simp, h⟩
    | succ i => simpa using ih (by simpa using hi)
theorem get' {l : List α} {m : List β} (x : All2 R l m) : ∀ {i : Nat} {b : β}, m[i]? = some b → ∃ a, l[i]? = some a ∧ R a b := by
  induction x with
  | nil => intro i a h; simp at h
  | cons h _ ih =>
    intro i a hi
    cases i with
    | zero => simp at hi; subst hi; exact ⟨_, by simp, h⟩
    | succ i => simpa using ih (by simpa using hi)
theorem of_get : ∀ {l : List α} {m : List β}, l.length = m.length → (∀ (i : Nat) a b, l[i]? = some a → m[i]? = some b → R a b) → All2 R l m
  | [], [], _, _ => .nil
  | a :: l, b :: m, h, g => .cons (g 0 a b (by simp) (by simp)) (of_get (by simpa using h) fun i a b ha hb => g (i + 1) a b (by simpa using ha) (by simpa using hb))
theorem app {l l' : List α} {m m' : List β} (x : All2 R l m) (y : All2 R l' m') : All2 R (l ++ l') (m ++ m') := by
  induction x with
  | nil => exact y
  | cons h _ ih => exact .cons h ih
theorem take {l : List α} {m : List β} (x : All2 R l m) (n : Nat) : All2 R (l.take n) (m.take n) := by
  induction x generalizing n with
  | nil => simp; exact .nil
  | cons h _ ih => cases n with
    | zero => exact .nil
    | succ n => exact .cons h (ih n)
theorem drop {l : List α} {m : List β} (x : All2 R l m) (n : Nat) : All2 R (l.drop n) (m.drop n) := by
  induction x generalizing n with
  | nil => simp; exact .nil
  | cons h t ih => cases n with
    | zero => exact .cons h t
    | succ n => exact ih n
end All2

/-! ### facts, values -/
abbrev Facts := Nat → Nat → Option Value
def LIM : Nat := 140737488351232

inductive PV where
  | val (v : Value)
  | sl (es : List (List PV)) (n : Nat)
  | ip (cs : List PV)
  | fn (f : FuncId) (caps : List PV)
  deriving Inhabited

def Facts.le (F F' : Facts) : Prop := ∀ b o v, F b o = some v → F' b o = some v
theorem Facts.le_refl (F : Facts) : Facts.le F F := fun _ _ _ h => h
theorem Facts.le.trans {F G H : Facts} (h : Facts.le F G) (k : Facts.le G H) : Facts.le F H := fun b o v x => k b o v (h b o v x)

inductive RepP (F : Facts) : PV → Value → Prop
  | val {v : Value} (h : v.oneCell' = true) : RepP F (.val v) v
  | sl {es : List (List PV)} {n b o c : Nat} (vs : Nat → Nat → Value) (k : Nat) (hn : n ≤ es.length) (hc : es.length ≤ c) (hl : es.length ≤ LIM)
      (hk : ∀ e ∈ es, e.length = k)
      (h1 : ∀ i j e x, es[i]? = some e → e[j]? = some x → F b (o + (i * k + j)) = some (vs i j))
      (h2 : ∀ i j e x, es[i]? = some e → e[j]? = some x → RepP F x (vs i j)) :
      RepP F (.sl es n) (.slice (some ⟨b, o, none⟩) n c)
  | nil : RepP F (.sl [] 0) (.slice none 0 0)
  | nil0 {a : Addr} : RepP F (.sl [] 0) (.slice (some a) 0 0)
  | ip {cs : List PV} {b o : Nat} (vs : Nat → Value) (h1 : ∀ j x, cs[j]? = some x → F b (o + j) = some (vs j)) (h2 : ∀ j x, cs[j]? = some x → RepP F x (vs j)) :
      RepP F (.ip cs) (.pointer (some ⟨b, o, none⟩))
  | fn {f : FuncId} {caps : List PV} (vs : Nat → Value) (h : ∀ j x, caps[j]? = some x → RepP F x (vs j)) :
      RepP F (.fn f caps) (.func (.func f) #[] (((List.range caps.length).map vs).toArray))

theorem RepP.mono {F F' : Facts} (hF : F.le F') {x : PV} {v : Value} (h : RepP F x v) : RepP F' x v := by
  induction h with
  | val h => exact .val h
  | sl vs k hn hc hl hk h1 _ ih => exact .sl vs k hn hc hl hk (fun i j e x a b => hF _ _ _ (h1 i j e x a b)) (fun i j e x a b => ih i j e x a b)
  | nil => exact .nil
  | nil0 => exact .nil0
  | ip vs h1 _ ih => exact .ip vs (fun j x a => hF _ _ _ (h1 j x a)) (fun j x a => ih j x a)
  | fn vs _ ih => exact .fn vs (fun j x a => ih j x a)

theorem RepP.one {F : Facts} {x : PV} {v : Value} (h : RepP F x v) : v.oneCell' = true := by
  cases h with
  | val h => exact h
  | _ => rfl

theorem cells_one {v : Value} (h : v.oneCell' = true) : v.cells = #[v] := by
  cases v <;> first | rfl | simp [Value.oneCell'] at h

abbrev RepL (F : Facts) := All2 (RepP F)

/-- What a call hands back, or is handed: one cell, or a struct's cells. -/
inductive RV where
  | p (x : PV)
  | agg (cs : List PV)
  deriving Inhabited

def RepR (F : Facts) : RV → Value → Prop
  | .p x, v => RepP F x v
  | .agg cs, v => ∃ l : List Value, v = .agg l.toArray ∧ RepL F cs l

theorem RepR.mono {F F' : Facts} (hF : F.le F') {x : RV} {v : Value} (h : RepR F x v) : RepR F' x v := by
  cases x with
  | p x => exact RepP.mono hF h
  | agg cs => obtain ⟨l, e, r⟩ := h; exact ⟨l, e, r.mono fun _ _ => RepP.mono hF⟩

/-- What a slot may hold. -/
inductive AV where
  | p (x : PV)
  | agg (cs : List PV)
  | tup (l : List RV)
  | ref (s o : Nat)
  | row (r n : Nat)
  | xsl (es : List (List PV))
  | junk
  deriving Inhabited

/-- The ghosts of a state: known cells; where the boxes lie; the headers of the rows, by their lengths. -/
structure Gh where
  F : Facts
  β : Nat → Option Nat
  J : Nat → Nat → Option Value

def RepA (G : Gh) : AV → Value → Prop
  | .p x, v => RepP G.F x v
  | .agg cs, v => ∃ l : List Value, v = .agg l.toArray ∧ RepL G.F cs l
  | .tup rs, v => ∃ l : List Value, v = .tuple l.toArray ∧ All2 (RepR G.F) rs l
  | .ref s o, v => ∃ b, G.β s = some b ∧ v = .pointer (some ⟨b, o, none⟩)
  | .row r n, v => G.J r n = some v
  | .xsl es, v => RepP G.F (.sl es es.length) v ∧ ∃ ao, v = .slice ao es.length es.length
  | .junk, _ => True

/-! ### worlds -/
/-- Nothing that was there has turned but for the blocks of fp. -/
structure Kept (fp : Nat → Prop) (w w' : World) : Prop where
  os : w'.os = w.os
  tape : w'.tape = w.tape
  output : w'.output = w.output
  size : w.heap.size ≤ w'.heap.size
  block : ∀ b, b < w.heap.size → ¬ fp b → w'.heap[b]? = w.heap[b]?

theorem Kept.refl (fp : Nat → Prop) (w : World) : Kept fp w w := ⟨rfl, rfl, rfl, Nat.le_refl _, fun _ _ _ => rfl⟩
theorem Kept.trans {fp fq : Nat → Prop} {a b c : World} (h : Kept fp a b) (k : Kept fq b c) (hq : ∀ x, fq x → fp x ∨ a.heap.size ≤ x) : Kept fp a c :=
  ⟨k.os.trans h.os, k.tape.trans h.tape, k.output.trans h.output, Nat.le_trans h.size k.size, fun i hi hn =>
    (k.block i (Nat.lt_of_lt_of_le hi h.size) (fun e => by rcases hq i e with e | e; exact hn e; omega)).trans (h.block i hi hn)⟩

/-- A thing in memory that a call may change: its blocks, and what is said of it. -/
structure Res where
  fp : Nat → Prop
  ok : Facts → World → Prop
  stable : ∀ F F' w w', Facts.le F F' → (∀ b, fp b → w'.heap[b]? = w.heap[b]?) → ok F w → ok F' w'

def Res.emp : Res := ⟨fun _ => False, fun _ _ => True, fun _ _ _ _ _ _ _ => trivial⟩

def FactsOK (F : Facts) (w : World) : Prop := ∀ b o v, F b o = some v → w.cell? ⟨b, o, none⟩ = some v

theorem FactsOK.lt {F : Facts} {w : World} (h : FactsOK F w) {b o : Nat} {v : Value} (e : F b o = some v) : b < w.heap.size := by
  have := h b o v e
  exact World.block_lt_of_cell? w _ this

/-- The state of one call, in the words of AM. -/
structure St where
  fr : List (Nat × AV)
  bx : List (Nat × List PV)
  rw : List (Nat × (Nat × Nat × List (List PV)))     -- a row: its element's type, its element's cells, what it holds
  ph : Res

def getT (s : Nat) : List (Nat × AV) → Option AV
  | [] => none
  | (t, x) :: l => bif Nat.beq s t then some x else getT s l
def getB {α : Type} (s : Nat) : List (Nat × α) → Option α
  | [] => none
  | (t, x) :: l => bif Nat.beq s t then some x else getB s l

def BoxAt (F : Facts) (w : World) (b : Nat) (cs : List PV) : Prop := ∃ (l : List Value) (T : TypeId), w.heap[b]? = some (.cells l.toArray T (0, 0)) ∧ RepL F cs l

/-- The world at the call's begin, the facts then, what the call was handed. -/
structure Base where
  w : World
  F : Facts
  ph : Res
  n : Nat      -- slots
  gl : Nat → Option (List PV)      -- package-level variables that are known

structure Rel (D : Base) (G : Gh) (σ : St) (a : Act) (w : World) : Prop where
  df : a.defers = []
  gl : ∀ g cs, D.gl g = some cs → RepP D.F (.ip cs) (.pointer (some ⟨g, 0, none⟩))
  sz : a.tmps.size = D.n
  fr : ∀ s av, getT s σ.fr = some av → ∃ v, a.tmps[s]? = some v ∧ RepA G av v
  fc : FactsOK G.F w
  le : Facts.le D.F G.F
  old : ∀ b o, b < D.w.heap.size → ¬ D.ph.fp b → G.F b o = D.F b o
  kept : Kept D.ph.fp D.w w
  ph : σ.ph.ok G.F w
  phF : ∀ b o, σ.ph.fp b → G.F b o = none
  phn : ∀ b, σ.ph.fp b → D.ph.fp b ∨ D.w.heap.size ≤ b
  phl : ∀ b, σ.ph.fp b → b < w.heap.size
  bx : ∀ s cs, getB s σ.bx = some cs → ∃ b, G.β s = some b ∧ BoxAt G.F w b cs
  bk : ∀ s b, G.β s = some b → (∃ cs, getB s σ.bx = some cs) ∧ D.w.heap.size ≤ b ∧ (∀ o, G.F b o = none) ∧ ¬ σ.ph.fp b ∧ (∀ s', G.β s' = some b → s' = s)
  rw : ∀ r T k es, getB r σ.rw = some (T, k, es) → ∃ v xs, G.J r es.length = some v ∧ w.ownsRow D.w.heap.size T k v es.length xs ∧ (∀ e ∈ es, e.length = k) ∧ es.length ≤ LIM ∧ RepL G.F es.flatten xs ∧
      (∀ b, v.ownBlock = some b → (∀ o, G.F b o = none) ∧ ¬ σ.ph.fp b ∧ (∀ s, G.β s ≠ some b) ∧
        (∀ r' T' k' es' v', getB r' σ.rw = some (T', k', es') → G.J r' es'.length = some v' → v'.ownBlock = some b → r' = r))
  rk : ∀ r n v, G.J r n = some v → ∃ T k es, getB r σ.rw = some (T, k, es) ∧ n ≤ es.length

end Go.Am

/-
  AM: the code of the model in the words of AM, and what is to be shown of it.
-/
namespace Go.Am
open Go

inductive Opd where
  | t (n : Nat)
  | k (x : AV)
  deriving Inhabited

/-- The parts of a struct that '==' looks at. -/
inductive Leaf where
  | int | str | bool
  deriving DecidableEq

inductive AOp where
  | mov (x : Opd)
  | pick (c a b : Opd)
  | alloc (zs : List PV)
  | box (x : Opd)
  | build (zs : List PV) (ps : List (Nat × Nat × Opd))
  | bslice (T k n : Nat) (zs : List PV) (ps : List (Nat × Nat × Opd))
  | load (agg : Bool) (k : Nat) (x : Opd)
  | store (k : Nat) (x v : Opd)
  | chk (x : Opd)
  | bin (op : BinOp) (T : Nat) (x y : Opd)
  | un (op : UnOp) (x : Opd)
  | cv (k : IntKind) (x : Opd)
  | cvs (x : Opd)
  | fad (o : Nat) (x : Opd)
  | iad (k : Nat) (x i : Opd)
  | ixs (x i : Opd)
  | slc (k : Nat) (x : Opd) (lo hi : Option Opd)
  | slcs (x : Opd) (lo hi : Option Opd)
  | slc3 (k : Nat) (x hi mx : Opd)
  | bslq (T k n : Nat) (zs : List PV) (ps : List (Nat × Nat × Opd))
  | iada (k n : Nat) (x i : Opd)
  | beq (neg : Bool) (ks : List Leaf) (x y : Opd)
  | isnil (neg : Bool) (x : Opd)
  | fld (agg : Bool) (k o : Nat) (x : Opd)
  | mm (mx : Bool) (x y : Opd)
  | shf (left : Bool) (x y : Opd)
  | ext (x : Opd) (i : Nat)
  | mkf (f : FuncId) (caps : List Opd)
  | call (f : FuncId) (args : List Opd)
  | callv (x : Opd) (args : List Opd)
  | len (x : Opd)
  | lens (x : Opd)
  | app (T k by' : Nat) (x y : Opd)
  | lenq (x : Opd)
  | callq (f : FuncId) (args : List Opd)
  | other (n : Nat)
  | slcq (k : Nat) (x : Opd) (lo hi : Option Opd)
  | buildq (zs : List PV) (ps : List (Nat × Nat × Opd))
  | prim (op : Op) (args : List Opd)
  | primq (op : Op) (args : List Opd)
  deriving Inhabited

structure AOper where
  dst : Option Nat
  guard : Option (Nat × Bool)
  op : AOp
  deriving Inhabited

inductive ACode where
  | skip
  | reg (ops : List AOper)
  | rege (ops : List AOper) (e : Nat)
  | seq (a b : ACode)
  | cond (c : Opd) (x y : ACode)
  | block (id : Nat) (c : ACode)
  | loop (c : ACode)
  | exit (id : Nat)
  | ret
  | bad
  deriving Inhabited

/-! ### the translation -/
def pv1 : Value → PV
  | .slice none 0 0 => .sl [] 0
  | v => .val v
def pvs (l : List Value) : Option (List PV) := if l.all Value.oneCell' then some (l.map pv1) else none

def trV : Value → AV
  | .agg cs => match pvs cs.toList with | some l => .agg l | none => .junk
  | .tuple _ => .junk
  | v => .p (.val v)

def trO (gl : Nat → Option (List PV)) : Operand → Opd
  | .tmp t => .t t
  | .const v => .k (trV v)
  | .global g => match gl g with | some cs => .k (.p (.ip cs)) | none => .k .junk
  | .func f => .k (.p (.fn f []))

def isAggD : TypeDesc → Bool
  | .struct _ | .array _ _ => true
  | _ => false

def trParts (gl : Nat → Option (List PV)) (place : Nat → Option (Nat × Nat)) : List (Nat × Operand) → Option (List (Nat × Nat × Opd))
  | [] => some []
  | (i, x) :: l => match place i, trParts gl place l with
    | some (o, k), some r => some ((o, k, trO gl x) :: r)
    | _, _ => none

def trSlice (P : Program) (gl : Nat → Option (List PV)) (T : TypeId) (x : Operand) (lo hi : Option Operand) : Option Operand → AOp
  | some m => match P.underlying T, lo, hi with
    | some (.slice e), none, some h => match P.info? e with
      | some i => .slc3 i.size (trO gl x) (trO gl h) (trO gl m)
      | none => .other 10
    | _, _, _ => .other 10
  | none => match P.underlying T with
    | some .string => .slcs (trO gl x) (lo.map (trO gl)) (hi.map (trO gl))
    | some (.slice e) => match P.info? e with
      | some i => .slc i.size (trO gl x) (lo.map (trO gl)) (hi.map (trO gl))
      | none => .other 10
    | _ => .other 10

def trMk (gl : Nat → Option (List PV)) : Fn → List Operand → Array Operand → AOp
  | .func f, [], caps => .mkf f (caps.toList.map (trO gl))
  | _, _, _ => .other 13

def trLen (P : Program) (gl : Nat → Option (List PV)) : List Operand → List TypeId → AOp
  | [x], [T] => match P.underlying T with
    | some .string => .lens (trO gl x)
    | some (.slice _) => .len (trO gl x)
    | _ => .other 11
  | _, _ => .other 11

def trApp (P : Program) (gl : Nat → Option (List PV)) : List Operand → List TypeId → AOp
  | [x, y], [T, T'] =>
    if T = T' then match P.underlying T with
      | some (.slice e) => match P.info? e with
        | some i => match i.zero with
          | some z => if z.cells.size = i.size ∧ 0 < i.size then .app e i.size i.bytes (trO gl x) (trO gl y) else .other 12
          | none => .other 12
        | none => .other 12
      | _ => .other 12
    else .other 12
  | _, _ => .other 12

def trMm (gl : Nat → Option (List PV)) (mx : Bool) : List Operand → AOp
  | [x, y] => .mm mx (trO gl x) (trO gl y)
  | _ => .other 14

def trCall (P : Program) (gl : Nat → Option (List PV)) : Callee → Array Operand → List TypeId → AOp
  | .value (.func f), args, _ => .call f (args.toList.map (trO gl))
  | .value x, args, _ => .callv (trO gl x) (args.toList.map (trO gl))
  | .builtin .len, args, ts => trLen P gl args.toList ts
  | .builtin .append, args, ts => trApp P gl args.toList ts
  | .builtin .max, args, _ => trMm gl true args.toList
  | .builtin .min, args, _ => trMm gl false args.toList
  | _, _, _ => .other 14

def leafs (P : Program) : Nat → List Field → Option (List Leaf)
  | _, [] => some []
  | i, f :: l => if f.name ≠ "_" ∧ f.offset = i then match P.underlying f.type, leafs P (i + 1) l with
      | some (.int _), some r => some (.int :: r)
      | some .string, some r => some (.str :: r)
      | some .bool, some r => some (.bool :: r)
      | _, _ => none
    else none

def trBin (P : Program) (gl : Nat → Option (List PV)) (op : BinOp) (T : TypeId) (x y : Operand) : AOp :=
  match P.underlying T with
  | some (.struct fs) => if P.stoodInHeld T = false ∧ P.eqGuardType P.depth T = false then match op, leafs P 0 fs.toList with
      | .eql, some ks => .beq false ks (trO gl x) (trO gl y)
      | .neq, some ks => .beq true ks (trO gl x) (trO gl y)
      | _, _ => .other 15
    else .other 15
  | some (.pointer _) => match op, y with
    | .eql, .const (.pointer none) => .isnil false (trO gl x)
    | .neq, .const (.pointer none) => .isnil true (trO gl x)
    | _, _ => .other 15
  | _ => match op with
    | .shl => .shf true (trO gl x) (trO gl y)
    | .shr => .shf false (trO gl x) (trO gl y)
    | _ => .bin op T (trO gl x) (trO gl y)

def trOp0 (P : Program) (gl : Nat → Option (List PV)) : Op → AOp
  | .move x | .assign x => .mov (trO gl x)
  | .pick c a b => .pick (trO gl c) (trO gl a) (trO gl b)
  | .alloc T => match (P.info? T).bind (·.zero) with
    | some z => match pvs z.cells.toList with
      | some l => .alloc l
      | none => .other 1
    | none => .other 1
  | .box _ x => .box (trO gl x)
  | .build T ps => match P.underlying T, (P.info? T).bind (·.zero) with
    | some (.struct fs), some z => match fs.toList.mapM (fun f => (P.info? f.type).map fun i => (f.offset, i.size)) with
      | some places => match trParts gl (places.toArray[·]?) ps.toList, pvs z.cells.toList with
        | some r, some l => .build l r
        | _, _ => .other 2
      | none => .other 2
    | _, _ => .other 2
  | .buildSlice T n ps => match P.underlying T with
    | some (.slice e) => match P.info? e with
      | some i => match i.zero with
        | some z => match trParts gl (fun j => some (j * i.size, i.size)) ps.toList, pvs z.cells.toList with
          | some r, some l => .bslice e i.size n l r
          | _, _ => .other 3
        | none => .other 3
      | none => .other 3
    | _ => .other 3
  | .load T x => match P.underlying T, P.info? T with
    | some d, some i => .load (isAggD d) i.size (trO gl x)
    | _, _ => .other 4
  | .store T x v => match P.info? T with
    | some i => .store i.size (trO gl x) (trO gl v)
    | none => .other 5
  | .nilCheck x => .chk (trO gl x)
  | .binOp op T x y _ => trBin P gl op T x y
  | .unOp op _ x => .un op (trO gl x)
  | .convert s d x => match P.underlying s, P.underlying d with
    | some (.int _), some (.int k) => .cv k (trO gl x)
    | some .string, some .string => .cvs (trO gl x)
    | _, _ => .other 6
  | .fieldAddr T x f => match P.underlying T with
    | some (.struct fs) => match fs[f]? with
      | some fd => match P.info? fd.type with
        | some i => if i.size = 0 then .other 7 else .fad fd.offset (trO gl x)
        | none => .other 7
      | none => .other 7
    | _ => .other 7
  | .field T x f => match P.underlying T with
    | some (.struct fs) => match fs[f]? with
      | some fd => match P.underlying fd.type, P.info? fd.type with
        | some d, some i => .fld (isAggD d) i.size fd.offset (trO gl x)
        | _, _ => .other 7
      | none => .other 7
    | _ => .other 7
  | .indexAddr T x i => match P.underlying T with
    | some (.slice e) => match P.info? e with
      | some ti => .iad ti.size (trO gl x) (trO gl i)
      | none => .other 8
    | some (.array n e) => match P.info? e with
      | some ti => if ti.size = 0 then .other 8 else .iada ti.size n (trO gl x) (trO gl i)
      | none => .other 8
    | _ => .other 8
  | .index T x i => match P.underlying T with
    | some .string => .ixs (trO gl x) (trO gl i)
    | _ => .other 9
  | .slice T x lo hi mx => trSlice P gl T x lo hi mx
  | .extract x i => .ext (trO gl x) i
  | .makeFunc fn first caps => trMk gl fn first.toList caps
  | .call c => trCall P gl c.callee c.args c.argTypes.toList
  | _ => .other 0

/-- Operations that may be met by a contract where AM has a word of its own: those whose slot is marked (gl of a million and the slot). -/
def rawable : Op → Bool
  | .buildSlice _ _ _ | .build _ _ | .alloc _ | .box _ _ | .slice _ _ _ _ _ | .makeSlice _ _ _ => true
  | .call c => match c.callee with | .builtin _ => true | _ => false
  | _ => false
def flagD (gl : Nat → Option (List PV)) : Option Nat → Bool
  | some d => (gl (1000000 + d)).isSome
  | none => false

def trOp (P : Program) (gl : Nat → Option (List PV)) (dst : Option Nat) (op : Op) : AOp := if rawable op && flagD gl dst then .prim op (op.operands.toList.map (trO gl)) else match trOp0 P gl op with
  | .other _ => .prim op (op.operands.toList.map (trO gl))
  | x => x

def trGuard (ops : Array Oper) (n : Nat) : Option (Nat × Bool) → Option (Option (Nat × Bool))
  | none => some none
  | some (j, want) => match (ops[j]?).bind (·.dst) with
    | some s => if s < n then some (some (s, want)) else none
    | none => none

def trOper (P : Program) (gl : Nat → Option (List PV)) (n : Nat) (ops : Array Oper) (o : Oper) : Option AOper :=
  match trGuard ops n o.guard with
  | none => none
  | some g => match o.dst with
    | none => some ⟨none, g, trOp P gl o.dst o.op⟩
    | some d => if d < n then some ⟨some d, g, trOp P gl o.dst o.op⟩ else none

def trOpers (P : Program) (gl : Nat → Option (List PV)) (n : Nat) (ops : Array Oper) : List Oper → Option (List AOper)
  | [] => some []
  | o :: l => match trOper P gl n ops o, trOpers P gl n ops l with
    | some x, some r => some (x :: r)
    | _, _ => none

/-! ### regions that draw their order -/
/-- Operations that leave the state alone. -/
def quietQ : AOp → Bool
  | .mov _ | .pick _ _ _ | .buildq _ _ | .load _ _ _ | .chk _ | .bin _ _ _ _ | .un _ _ | .cv _ _ | .cvs _ | .fad _ _ | .iad _ _ _ | .ixs _ _ | .slcq _ _ _ _ | .slcs _ _ _ | .ext _ _ | .lens _ | .lenq _ | .callq _ _ | .slc3 _ _ _ _ | .bslq _ _ _ _ _ | .iada _ _ _ _ | .beq _ _ _ _ | .isnil _ _ | .fld _ _ _ _ | .mm _ _ _ | .shf _ _ _ | .primq _ _ => true
  | _ => false

def optS : Option Opd → List Nat
  | some (.t n) => [n]
  | _ => []
def opdS : List Opd → List Nat
  | [] => []
  | .t n :: l => n :: opdS l
  | .k _ :: l => opdS l
/-- the slots that an operation looks at -/
def slotsOp : AOp → List Nat
  | .mov x | .chk x | .isnil _ x | .fld _ _ _ x | .un _ x | .cv _ x | .cvs x | .fad _ x | .ext x _ | .lens x | .lenq x | .load _ _ x => opdS [x]
  | .pick c a b => opdS [c, a, b]
  | .buildq _ ps => opdS (ps.map fun p => p.2.2)
  | .bin _ _ x y | .iad _ x y | .ixs x y | .iada _ _ x y | .beq _ _ x y | .mm _ x y | .shf _ x y => opdS [x, y]
  | .slc3 _ x y z => opdS [x, y, z]
  | .bslq _ _ _ _ ps => opdS (ps.map fun p => p.2.2)
  | .slcq _ x lo hi | .slcs x lo hi => opdS [x] ++ optS lo ++ optS hi
  | .callq _ args | .primq _ args => opdS args
  | _ => []

/-- operations without a word of their own that change nothing -/
def quietPrim : Op → Bool
  | .lookup _ _ _ _ | .convert _ _ _ | .mapEntry _ _ _ => true
  | .call c => match c.callee with | .builtin .len => true | _ => false
  | _ => false
def quietOf (b : Bool) : AOp → Option AOp
  | .call f args => some (.callq f args)
  | .len x => some (.lenq x)
  | .prim op args => if quietPrim op then some (.primq op args) else none
  | .build zs ps => some (.buildq zs ps)
  | .slc k x lo hi => some (.slcq k x lo hi)
  | .bslice T k n zs ps => if b then some (.bslq T k n zs ps) else none
  | op => if quietQ op then some op else none

def constLoad : AOp → Bool
  | .load _ _ (.k _) => true
  | _ => false
def isAlloc : AOp → Bool
  | .alloc _ => true
  | _ => false

/-- an operation that may come up in whatever order -/
def looseOf (b : Bool) (o : AOper) : Option AOper :=
  if isAlloc o.op then (if o.guard.isNone && o.dst.isSome then some o else none)
  else if constLoad o.op then none
  else match quietOf b o.op with
    | some q => some { o with op := q }
    | none => none

def slotsOf (o : AOper) : List Nat := slotsOp o.op ++ (match o.guard with | some (s, _) => [s] | none => [])

/-! ### what waits for what -/
def ancOf (acc : List (List Nat)) (o : Oper) : List Nat := ((o.after.toList.filter (Region.binds .any)).flatMap fun e => e.on :: acc.getD e.on []).eraseDups
def ancAll : List Oper → List (List Nat) → List (List Nat)
  | [], acc => acc
  | o :: l, acc => ancAll l (acc ++ [ancOf acc o])

def backward (l : List Oper) : Bool := l.zipIdx.all fun (o, i) => o.after.all fun e => !Region.binds .any e || decide (e.on < i)

/-- what an operation waits for, near and far -/
def anc (ops : Array Oper) (j : Nat) : List Nat := (ancAll ops.toList []).getD j []

/-! ### the check -/
def pairOK (ops : Array Oper) (al : List AOper) (i j : Nat) : Bool :=
  match al[i]?, al[j]? with
  | some x, some y => match x.dst with
    | some t => (i == j) || ((y.dst != some t) && (!(slotsOf y).contains t || (decide (i < j) && (anc ops j).contains i) || (decide (j < i) && (anc ops i).contains j)) && (!isAlloc x.op || !(slotsOf y).contains t))
    | none => true
  | _, _ => true

def looseOK (ops : Array Oper) (al : List AOper) : Bool := (List.range al.length).all fun i => (List.range al.length).all fun j => pairOK ops al i j
/-- what may be done first whenever it is ready: a part of a tuple -/
def isLate (o : Oper) : Bool := o.guard.isNone && (match o.op with | .extract _ _ => true | .move _ => true | _ => false)
def freeOK (ops : Array Oper) (i : Nat) : Bool := (List.range ops.size).all fun j => i == j || (anc ops i).contains j || (match ops[i]?, ops[j]? with
  | some x, some y => y.after.any (fun e => Region.binds .any e && e.on == i) || x.apart ops y
  | _, _ => true)
def lateOK (ops : Array Oper) (i : Nat) : Bool := (match ops[i]? with | some o => isLate o | none => false) && freeOK ops i
def forcedOK (ops : Array Oper) (m : Nat) : Bool := (List.range ops.size).all fun p => decide (p < m) || (List.range p).all fun q => (anc ops p).contains q || (decide (q < m) && lateOK ops q)

def looseN (b : Bool) : List AOper → Nat
  | [] => 0
  | o :: l => match looseOf b o with
    | some _ => looseN b l + 1
    | none => 0

def looseAll (b : Bool) : List AOper → Option (List AOper)
  | [] => some []
  | o :: l => match looseOf b o, looseAll b l with
    | some x, some r => some (x :: r)
    | _, _ => none

def selfOK (q : List AOper) : Bool := q.all fun o => match o.dst with | some t => !isAlloc o.op || !(slotsOf o).contains t | none => true

def trDrawB (b : Bool) (P : Program) (gl : Nat → Option (List PV)) (n : Nat) (ops : Array Oper) : Option (List AOper) :=
  match trOpers P gl n ops ops.toList with
  | some l => match looseAll b (l.take (looseN b l)) with
    | some q => if backward ops.toList && looseOK ops q && forcedOK ops (looseN b l) && selfOK q && Region.noSelect ops then some (q ++ l.drop (looseN b l)) else none
    | none => none
  | none => none

/-- a region that draws its order -/
def trDraw (P : Program) (gl : Nat → Option (List PV)) (n : Nat) (ops : Array Oper) : Option (List AOper) :=
  match trDrawB false P gl n ops with
  | some l => some l
  | none => trDrawB true P gl n ops

/-! a region that draws its order, in which one operation changes what the others look at -/
def isEff : AOp → Bool
  | .primq op _ => match op with | .mapEntry _ _ _ => true | _ => false
  | _ => false
def effOK (ops : Array Oper) (l : List AOper) (e : Nat) : Bool := (List.range ops.size).all (fun i => decide (i ≤ e) || (anc ops i).contains e) && (l.take e).all (fun o => o.dst.isSome && !isAlloc o.op) && (match l[e]? with | some o => o.guard.isNone | none => false)
def effReg (ops : Array Oper) (l : List AOper) : ACode := match l.findIdx? (fun o => isEff o.op) with
  | none => .reg l
  | some e => if effOK ops l e then .rege l e else .bad

def tr (P : Program) (gl : Nat → Option (List PV)) (n : Nat) : Code → ACode
  | .skip => .skip
  | .region _ ops draw => if draw then (if P.follows .mixedOrders then (match trDraw P gl n ops with
    | some l => effReg ops l
    | none => .bad) else .bad) else match trOpers P gl n ops ops.toList with
    | some l => .reg l
    | none => .bad
  | .seq a b => .seq (tr P gl n a) (tr P gl n b)
  | .cond c x y => .cond (trO gl c) (tr P gl n x) (tr P gl n y)
  | .block id c => .block id (tr P gl n c)
  | .loop c => .loop (tr P gl n c)
  | .exit id => .exit id
  | .ret => .ret
  | _ => .bad

def RV.av : RV → AV
  | .p x => .p x
  | .agg cs => .agg cs

/-! ### what a call promises -/
inductive Out where
  | one (r : RV)
  | tup (l : List RV)
  deriving Inhabited

def RepO (F : Facts) : Out → Value → Prop
  | .one r, v => RepR F r v
  | .tup rs, v => ∃ l : List Value, v = .tuple l.toArray ∧ All2 (RepR F) rs l

def GlOK (gl : Nat → Option (List PV)) (F : Facts) : Prop := ∀ g cs, gl g = some cs → RepP F (.ip cs) (.pointer (some ⟨g, 0, none⟩))

/-- A call may be entered: the function has a body of its own. -/
def Enterable (P : Program) (f : FuncId) : Prop := ∃ fn, P.funcs[f]? = some fn ∧ fn.body.isSome = true ∧ (fn.name == "runtime.NumGoroutine") = false

abbrev Spec := List RV → Res → (Out → Res → Prop) → Prop

/-- A call: entered, or carried out outright (a function without a body). -/
def CallsX (P : Program) (f : FuncId) (args : Array Value) (w : World) (R : Ending → World → Prop) : Prop :=
  (Enterable P f ∧ Calls P f args w R) ∨ (∃ v w', (callFunc f args).run P w = .ok (.value v) w' ∧ R (.returned v) w')

/-- f keeps S: whatever S promises of these arguments, the call brings. -/
structure Snd (P : Program) (gl : Nat → Option (List PV)) (f : FuncId) (S : Spec) : Prop where
  calls : ∀ rs φ (K : Out → Res → Prop), S rs φ K → ∀ (F : Facts) (w : World) (vs : List Value), GlOK gl F → FactsOK F w → φ.ok F w → (∀ b o, φ.fp b → F b o = none) → (∀ b, φ.fp b → b < w.heap.size) →
    All2 (RepR F) rs vs → CallsX P f vs.toArray w fun e w' => ∃ v r φ' F', e = .returned v ∧ K r φ' ∧ RepO F' r v ∧ Facts.le F F' ∧ FactsOK F' w' ∧ (∀ b o, b < w.heap.size → ¬ φ.fp b → F' b o = F b o) ∧ Kept φ.fp w w' ∧
      φ'.ok F' w' ∧ (∀ b o, φ'.fp b → F' b o = none) ∧ (∀ b, φ'.fp b → φ.fp b ∨ w.heap.size ≤ b) ∧ (∀ b, φ'.fp b → b < w'.heap.size)

/-- The same of an operation. -/
structure SndP (P : Program) (op : Op) (S : Spec) : Prop where
  runs : ∀ rs φ (K : Out → Res → Prop), S rs φ K → ∀ (o : Oper) (ρ : Operand → Value) (F : Facts) (w : World), o.op = op → FactsOK F w → φ.ok F w → (∀ b o, φ.fp b → F b o = none) → (∀ b, φ.fp b → b < w.heap.size) →
    All2 (RepR F) rs (op.operands.toList.map ρ) → ∃ nx v w', (execOp ρ o).run P w = .ok nx w' ∧ (nx = .value v ∨ (nx = .skip ∧ v = undef)) ∧ ∃ r φ' F', K r φ' ∧ RepO F' r v ∧ Facts.le F F' ∧ FactsOK F' w' ∧ (∀ b o, b < w.heap.size → ¬ φ.fp b → F' b o = F b o) ∧ Kept φ.fp w w' ∧
      φ'.ok F' w' ∧ (∀ b o, φ'.fp b → F' b o = none) ∧ (∀ b, φ'.fp b → φ.fp b ∨ w.heap.size ≤ b) ∧ (∀ b, φ'.fp b → b < w'.heap.size)

/-- What lies at an address of the thing in memory. -/
def PhLoad (φ : Res) (b o k : Nat) (cs : List PV) : Prop := cs.length = k ∧ ∀ F w, φ.ok F w → ∃ vs : List Value, RepL F cs vs ∧ ∀ (j : Nat) (v : Value), vs[j]? = some v → w.cell? ⟨b, o + j, none⟩ = some v
/-- What a store there makes of it. -/
def PhStore (φ : Res) (b o : Nat) (xs : List PV) (φ' : Res) : Prop := φ.fp b ∧ (∀ x, φ'.fp x → φ.fp x) ∧ ∀ F w (ys : List Value), φ.ok F w → RepL F xs ys → ∃ (l : List Value) (T : TypeId), w.heap[b]? = some (.cells l.toArray T (0, 0)) ∧ o + ys.length ≤ l.length ∧
  φ'.ok F (w.setRow b (l.take o ++ ys ++ l.drop (o + ys.length)).toArray)

/-- Where a function's results lie. -/
inductive ResV where
  | t (s : Nat)
  | c (s : Nat) (agg : Bool) (k : Nat)

def trRes (P : Program) : ResultVar → Option ResV
  | .tmp s => some (.t s)
  | .cell s T => match P.underlying T, P.info? T with
    | some d, some i => some (.c s (isAggD d) i.size)
    | _, _ => none
def trRess (P : Program) : List ResultVar → Option (List ResV)
  | [] => some []
  | x :: l => match trRes P x, trRess P l with
    | some y, some r => some (y :: r)
    | _, _ => none

/-! ### what is to be shown -/
def ev (σ : St) : Opd → AV
  | .t n => match getT n σ.fr with | some x => x | none => .junk
  | .k x => x

def St.put (σ : St) (d : Nat) (x : AV) : St := ⟨(d, x) :: σ.fr, σ.bx, σ.rw, σ.ph⟩

def putK : Option Nat → (St → Prop) → AV → St → Prop
  | some d, N, x, σ => N (σ.put d x)
  | none, N, _, σ => N σ

def Out.av : Out → AV
  | .one (.p x) => .p x
  | .one (.agg cs) => .agg cs
  | .tup l => .tup l

def cellsA (agg : Bool) (k : Nat) (cs : List PV) : AV := bif agg then .agg (cs.take k) else match cs with | x :: _ => .p x | [] => .junk

def loadA (agg : Bool) (k : Nat) : AV → St → (AV → St → Prop) → Prop
  | .ref s o, σ, K => match getB s σ.bx with
    | some cs => o + k ≤ cs.length ∧ (agg = false → k = 1) ∧ K (cellsA agg k (cs.drop o)) σ
    | none => False
  | .p (.ip cs), σ, K => k ≤ cs.length ∧ (agg = false → k = 1) ∧ K (cellsA agg k cs) σ
  | .p (.val (.pointer (some ⟨b, o, none⟩))), σ, K => ∃ cs, PhLoad σ.ph b o k cs ∧ (agg = false → k = 1) ∧ K (cellsA agg k cs) σ
  | _, _, _ => False

def cellsOf : AV → Option (List PV)
  | .p x => some [x]
  | .agg cs => some cs
  | .xsl es => some [.sl es es.length]
  | _ => none

def splice (cs : List PV) (o : Nat) (xs : List PV) : List PV := cs.take o ++ xs ++ cs.drop (o + xs.length)

def setB {α : Type} (s : Nat) (x : α) : List (Nat × α) → List (Nat × α)
  | [] => []
  | (t, y) :: l => bif Nat.beq s t then (t, x) :: l else (t, y) :: setB s x l

def storeA (k : Nat) : AV → AV → St → (AV → St → Prop) → Prop
  | .ref s o, x, σ, K => match getB s σ.bx, cellsOf x with
    | some cs, some xs => xs.length = k ∧ o + k ≤ cs.length ∧ K (.tup []) { σ with bx := setB s (splice cs o xs) σ.bx }
    | _, _ => False
  | .p (.val (.pointer (some ⟨b, o, none⟩))), x, σ, K => match cellsOf x with
    | some xs => ∃ φ', xs.length = k ∧ PhStore σ.ph b o xs φ' ∧ K (.tup []) { σ with ph := φ' }
    | none => False
  | _, _, _, _ => False

def boolK (b : Bool) (K : AV → St → Prop) (σ : St) : Prop := K (.p (.val (.bool b))) σ
def intK (k : IntKind) (n : Int) (K : AV → St → Prop) (σ : St) : Prop := K (.p (.val (.int k n))) σ

/-- a pointer, laid beside nil -/
def isNil : AV → Option Bool
  | .p (.ip _) => some false
  | .p (.val (.pointer p)) => some p.isNone
  | .ref _ _ => some false
  | _ => none

def binA (op : BinOp) : AV → AV → St → (AV → St → Prop) → Prop
  | .p (.val (.int k a)), .p (.val (.int k' b)), σ, K => k = k' ∧ match op with
    | .add => intK k (k.wrap (a + b)) K σ
    | .sub => intK k (k.wrap (a - b)) K σ
    | .mul => intK k (k.wrap (a * b)) K σ
    | .quo => b ≠ 0 ∧ intK k (k.wrap (a.tdiv b)) K σ
    | .rem => b ≠ 0 ∧ intK k (a.tmod b) K σ
    | .and => intK k (bits .and k a b) K σ
    | .or => intK k (bits .or k a b) K σ
    | .xor => intK k (bits .xor k a b) K σ
    | .eql => boolK (a == b) K σ
    | .neq => boolK (a != b) K σ
    | .lss => boolK (decide (a < b)) K σ
    | .leq => boolK (decide (a ≤ b)) K σ
    | .gtr => boolK (decide (a > b)) K σ
    | .geq => boolK (decide (a ≥ b)) K σ
    | _ => False
  | .p (.val (.string a)), .p (.val (.string b)), σ, K => match op with
    | .add => ((a.size + b.size : Nat) : Int) ≤ IntKind.i64.max ∧ K (.p (.val (.string (a ++ b)))) σ
    | .eql => boolK (decide (a = b)) K σ
    | .neq => boolK (!decide (a = b)) K σ
    | .lss => boolK (Op.bytesLess a.toList b.toList) K σ
    | .leq => boolK (Op.bytesLess a.toList b.toList || decide (a = b)) K σ
    | .gtr => boolK (!(Op.bytesLess a.toList b.toList || decide (a = b))) K σ
    | .geq => boolK (!Op.bytesLess a.toList b.toList) K σ
    | _ => False
  | _, _, _, _ => False

def isnilA (neg : Bool) (x : AV) (σ : St) (K : AV → St → Prop) : Prop := match isNil x with
  | some b => boolK (b != neg) K σ
  | none => False

def eqL : List Leaf → List PV → List PV → Option Bool
  | [], _, _ => some true
  | .int :: ks, .val (.int k a) :: xs, .val (.int k' b) :: ys => if k = k' then (eqL ks xs ys).map (decide (a = b) && ·) else none
  | .str :: ks, .val (.string a) :: xs, .val (.string b) :: ys => (eqL ks xs ys).map (decide (a = b) && ·)
  | .bool :: ks, .val (.bool a) :: xs, .val (.bool b) :: ys => (eqL ks xs ys).map (decide (a = b) && ·)
  | _, _, _ => none

def beqA (neg : Bool) (ks : List Leaf) : AV → AV → St → (AV → St → Prop) → Prop
  | .agg xs, .agg ys, σ, K => match eqL ks xs ys with
    | some b => boolK (b != neg) K σ
    | none => False
  | _, _, _, _ => False

def fldA (agg : Bool) (k o : Nat) : AV → St → (AV → St → Prop) → Prop
  | .agg cs, σ, K => o + k ≤ cs.length ∧ (agg = false → k = 1) ∧ K (cellsA agg k (cs.drop o)) σ
  | _, _, _ => False

def mmA (mx : Bool) : AV → AV → St → (AV → St → Prop) → Prop
  | .p (.val (.int k a)), .p (.val (.int _ b)), σ, K => intK k (if mx then (if b > a then b else a) else (if b < a then b else a)) K σ
  | _, _, _, _ => False

def shfA (left : Bool) : AV → AV → St → (AV → St → Prop) → Prop
  | .p (.val (.int k a)), .p (.val (.int _ b)), σ, K => 0 ≤ b ∧ intK k (if left then k.wrap (a * 2 ^ (min b.toNat k.bits)) else a.fdiv (2 ^ (min b.toNat k.bits))) K σ
  | _, _, _, _ => False

def unA (op : UnOp) : AV → St → (AV → St → Prop) → Prop
  | .p (.val (.bool b)), σ, K => match op with
    | .not => boolK (!b) K σ
    | _ => False
  | .p (.val (.int k n)), σ, K => match op with
    | .neg => intK k (k.wrap (0 - n)) K σ
    | _ => False
  | _, _, _ => False

def cvA (k : IntKind) : AV → St → (AV → St → Prop) → Prop
  | .p (.val (.int _ n)), σ, K => intK k (k.wrap n) K σ
  | _, _, _ => False

def cvsA : AV → St → (AV → St → Prop) → Prop
  | .p (.val (.string s)), σ, K => K (.p (.val (.string s))) σ
  | _, _, _ => False

def fadA (o : Nat) : AV → St → (AV → St → Prop) → Prop
  | .ref s o', σ, K => K (.ref s (o' + o)) σ
  | .p (.ip cs), σ, K => K (.p (.ip (cs.drop o))) σ
  | .p (.val (.pointer (some ⟨b, o', none⟩))), σ, K => K (.p (.val (.pointer (some ⟨b, o' + o, none⟩)))) σ
  | _, _, _ => False

def iadA (k : Nat) : AV → AV → St → (AV → St → Prop) → Prop
  | .p (.sl es n), .p (.val (.int _ i)), σ, K => 0 ≤ i ∧ i < (n : Int) ∧ ∃ e, es[i.toNat]? = some e ∧ e.length = k ∧ K (.p (.ip e)) σ
  | .p (.val (.slice (some ⟨b, o, none⟩) n _)), .p (.val (.int _ i)), σ, K => 0 ≤ i ∧ i < (n : Int) ∧ K (.p (.val (.pointer (some ⟨b, o + i.toNat * k, none⟩)))) σ
  | _, _, _, _ => False

def iadaA (k n : Nat) : AV → AV → St → (AV → St → Prop) → Prop
  | .p (.ip cs), .p (.val (.int _ i)), σ, K => 0 ≤ i ∧ i < (n : Int) ∧ K (.p (.ip (cs.drop (i.toNat * k)))) σ
  | .ref s o, .p (.val (.int _ i)), σ, K => 0 ≤ i ∧ i < (n : Int) ∧ K (.ref s (o + i.toNat * k)) σ
  | _, _, _, _ => False

def ixsA : AV → AV → St → (AV → St → Prop) → Prop
  | .p (.val (.string s)), .p (.val (.int _ i)), σ, K => 0 ≤ i ∧ i < (s.size : Int) ∧ intK .u8 ((s.get! i.toNat).toNat : Int) K σ
  | _, _, _, _ => False

def bndA (dflt : Int) : Option AV → Option Int
  | none => some dflt
  | some (.p (.val (.int _ i))) => some i
  | some _ => none

def allK (k : Nat) : List (List PV) → Prop := fun l => ∀ e ∈ l, e.length = k

def slcsA : AV → Option AV → Option AV → St → (AV → St → Prop) → Prop
  | .p (.val (.string s)), lo, hi, σ, K => match bndA 0 lo, bndA s.size hi with
    | some l, some h => 0 ≤ l ∧ l ≤ h ∧ h ≤ (s.size : Int) ∧ K (.p (.val (.string (s.extract l.toNat h.toNat)))) σ
    | _, _ => False
  | _, _, _, _, _ => False

def slcA (k : Nat) : AV → Option AV → Option AV → St → (AV → St → Prop) → Prop
  | .p (.sl es n), lo, hi, σ, K => match bndA 0 lo, bndA n hi with
    | some l, some h => allK k es ∧ 0 ≤ l ∧ l ≤ h ∧ h ≤ (es.length : Int) ∧ K (.p (.sl (es.drop l.toNat) (h - l).toNat)) σ
    | _, _ => False
  | _, _, _, _, _ => False

def extA (i : Nat) : AV → St → (AV → St → Prop) → Prop
  | .tup l, σ, K => match l[i]? with
    | some (.p x) => K (.p x) σ
    | some (.agg cs) => K (.agg cs) σ
    | none => False
  | _, _, _ => False

def lenA : AV → St → (AV → St → Prop) → Prop
  | .p (.sl _ n), σ, K => n ≤ LIM → intK .i64 n K σ
  | .p (.val (.slice _ n _)), σ, K => intK .i64 n K σ
  | .row r n, σ, K => match getB r σ.rw with
    | some (_, _, es) => n = es.length ∧ (n ≤ LIM → intK .i64 n K σ)
    | none => False
  | _, _, _ => False

def lenqA : AV → St → (AV → St → Prop) → Prop
  | .p (.sl _ n), σ, K => intK .i64 n K σ
  | .p (.val (.slice _ n _)), σ, K => intK .i64 n K σ
  | _, _, _ => False

def lensA : AV → St → (AV → St → Prop) → Prop
  | .p (.val (.string s)), σ, K => intK .i64 s.size K σ
  | _, _, _ => False

def pickA : AV → AV → AV → St → (AV → St → Prop) → Prop
  | .p (.val (.bool b)), x, y, σ, K => (b = true → K x σ) ∧ (b = false → K y σ)
  | _, _, _, _, _ => False

def fillA (cs : List PV) : List (Nat × Nat × AV) → Option (List PV)
  | [] => some cs
  | (o, k, x) :: l => match cellsOf x with
    | some xs => bif Nat.beq xs.length k && Nat.ble (o + k) cs.length then fillA (splice cs o xs) l else none
    | none => none

def evs (σ : St) : List (Nat × Nat × Opd) → List (Nat × Nat × AV)
  | [] => []
  | (o, k, x) :: l => (o, k, ev σ x) :: evs σ l

def buildA (zs : List PV) (ps : List (Nat × Nat × AV)) (σ : St) (K : AV → St → Prop) : Prop :=
  match fillA zs ps with
  | some cs => K (.agg cs) σ
  | none => False

def chunks (k : Nat) : Nat → List PV → List (List PV)
  | 0, _ => []
  | n + 1, l => l.take k :: chunks k n (l.drop k)

def repl (n : Nat) (zs : List PV) : List PV := match n with | 0 => [] | n + 1 => zs ++ repl n zs

def bsliceA (d : Nat) (T k n : Nat) (zs : List PV) (ps : List (Nat × Nat × AV)) (σ : St) (K : AV → St → Prop) : Prop :=
  getB d σ.rw = none ∧ zs.length = k ∧ 0 < n ∧ 0 < k ∧ n * k ≤ 16777216 ∧ match fillA (repl n zs) ps with
  | some cs => K (.row d n) { σ with rw := (d, T, k, chunks k n cs) :: σ.rw }
  | none => False

/-- a row that nothing will change -/
def bslqA (k n : Nat) (zs : List PV) (ps : List (Nat × Nat × AV)) (σ : St) (K : AV → St → Prop) : Prop :=
  zs.length = k ∧ 0 < n ∧ 0 < k ∧ n * k ≤ 16777216 ∧ match fillA (repl n zs) ps with
  | some cs => K (.p (.sl (chunks k n cs) n)) σ
  | none => False

def slc3A (k : Nat) : AV → AV → AV → St → (AV → St → Prop) → Prop
  | .p (.sl es n), .p (.val (.int _ i)), .p (.val (.int _ j)), σ, K => allK k es ∧ i = j ∧ 0 ≤ i ∧ i ≤ (es.length : Int) ∧ n ≤ es.length ∧ K (.xsl (es.take i.toNat)) σ
  | _, _, _, _, _ => False

def allocA (d : Nat) (zs : List PV) (σ : St) (K : AV → St → Prop) : Prop :=
  getB d σ.bx = none ∧ K (.ref d 0) { σ with bx := (d, zs) :: σ.bx }

def boxA (d : Nat) (x : AV) (σ : St) (K : AV → St → Prop) : Prop := match cellsOf x with
  | some cs => allocA d cs σ K
  | none => False

/-- what is appended -/
def srcA (σ : St) : AV → Option (List (List PV))
  | .p (.sl es n) => some (es.take n)
  | .p (.val (.slice none 0 0)) => some []
  | .xsl es => some es
  | .row r n => match getB r σ.rw with
    | some (_, _, es) => bif Nat.beq n es.length then some es else none
    | none => none
  | _ => none

def appA (d T k by' : Nat) : AV → AV → St → (AV → St → Prop) → Prop
  | .p (.val (.slice none 0 0)), y, σ, K => getB d σ.rw = none ∧ match srcA σ y with
    | some ys => allK k ys ∧ ys.length * by' ≤ 140737488351232 ∧ ys.length ≤ LIM ∧ K (.row d ys.length) { σ with rw := (d, T, k, ys) :: σ.rw }
    | none => False
  | .row r n, y, σ, K => match getB r σ.rw, srcA σ y with
    | some (T', k', es), some ys => T' = T ∧ k' = k ∧ n = es.length ∧ allK k ys ∧ (es.length + ys.length) * by' ≤ 140737488351232 ∧ es.length + ys.length ≤ LIM ∧
        K (.row r (es.length + ys.length)) { σ with rw := setB r (T, k, es ++ ys) σ.rw }
    | _, _ => False
  | .xsl es, y, σ, K => getB d σ.rw = none ∧ match srcA σ y with
    | some ys => allK k es ∧ allK k ys ∧ (es.length + ys.length) * by' ≤ 140737488351232 ∧ es.length + ys.length ≤ LIM ∧ (ys = [] → K (.p (.sl es es.length)) σ) ∧
        (ys ≠ [] → K (.row d (es.length + ys.length)) { σ with rw := (d, T, k, es ++ ys) :: σ.rw })
    | none => False
  | _, _, _, _ => False

/-- The boxes that a closure captures are known for ever from there on. -/
def frzAV (s : Nat) (cs : List PV) : AV → AV
  | .ref s' o => bif Nat.beq s s' then .p (.ip (cs.drop o)) else .ref s' o
  | x => x
def frzFr (s : Nat) (cs : List PV) : List (Nat × AV) → List (Nat × AV)
  | [] => []
  | (t, x) :: l => (t, frzAV s cs x) :: frzFr s cs l
def delB {α : Type} (s : Nat) : List (Nat × α) → List (Nat × α)
  | [] => []
  | (t, y) :: l => bif Nat.beq s t then delB s l else (t, y) :: delB s l

def mkfA (f : FuncId) : List AV → List PV → St → (AV → St → Prop) → Prop
  | [], acc, σ, K => K (.p (.fn f acc.reverse)) σ
  | .p x :: l, acc, σ, K => mkfA f l (x :: acc) σ K
  | .ref s o :: l, acc, σ, K => match getB s σ.bx with
    | some cs => mkfA f l (.ip (cs.drop o) :: acc) { σ with fr := frzFr s cs σ.fr, bx := delB s σ.bx } K
    | none => False
  | _ :: _, _, _, _ => False

def outK (K : AV → St → Prop) (σ : St) (r : Out) (φ : Res) : Prop := K r.av { σ with ph := φ }

def callS (P : Program) (gl : Nat → Option (List PV)) (f : FuncId) (rs : List RV) (σ : St) (K : AV → St → Prop) : Prop :=
  ∃ S, Snd P gl f S ∧ S rs σ.ph (outK K σ)

/-- A row that is handed on is known for ever from there on. -/
def frzRowAV (r : Nat) (es : List (List PV)) : AV → AV
  | .row r' n => bif Nat.beq r r' then (if n = es.length then .p (.sl es n) else .junk) else .row r' n
  | x => x
def frzRowFr (r : Nat) (es : List (List PV)) : List (Nat × AV) → List (Nat × AV)
  | [] => []
  | (t, x) :: l => (t, frzRowAV r es x) :: frzRowFr r es l
def St.frzRow (σ : St) (r : Nat) (es : List (List PV)) : St := ⟨frzRowFr r es σ.fr, σ.bx, delB r σ.rw, σ.ph⟩

def nilSl : PV → PV
  | .val (.slice none 0 0) => .sl [] 0
  | x => x

def argsA (P : Program) (gl : Nat → Option (List PV)) (f : FuncId) : List AV → List RV → St → (AV → St → Prop) → Prop
  | [], acc, σ, K => callS P gl f acc.reverse σ K
  | .p x :: l, acc, σ, K => argsA P gl f l (.p (nilSl x) :: acc) σ K
  | .agg cs :: l, acc, σ, K => argsA P gl f l (.agg cs :: acc) σ K
  | .xsl es :: l, acc, σ, K => argsA P gl f l (.p (.sl es es.length) :: acc) σ K
  | .row r n :: l, acc, σ, K => match getB r σ.rw with
    | some (_, _, es) => n = es.length ∧ argsA P gl f l (.p (.sl es n) :: acc) (σ.frzRow r es) K
    | none => False
  | .ref s o :: l, acc, σ, K => match getB s σ.bx with
    | some cs => argsA P gl f l (.p (.ip (cs.drop o)) :: acc) { σ with fr := frzFr s cs σ.fr, bx := delB s σ.bx } K
    | none => False
  | _ :: _, _, _, _ => False

def callA (P : Program) (gl : Nat → Option (List PV)) (f : FuncId) (args : List AV) (σ : St) (K : AV → St → Prop) : Prop := argsA P gl f args [] σ K

def rvs : List AV → Option (List RV)
  | [] => some []
  | .p x :: l => (rvs l).map (.p (nilSl x) :: ·)
  | .agg cs :: l => (rvs l).map (.agg cs :: ·)
  | .xsl es :: l => (rvs l).map (.p (.sl es es.length) :: ·)
  | _ :: _ => none

/-- A call that leaves all as it was, and whose answer is known. -/
def callqA (P : Program) (gl : Nat → Option (List PV)) (f : FuncId) (args : List AV) (σ : St) (K : AV → St → Prop) : Prop :=
  ∃ rs, rvs args = some rs ∧ ∃ S r, Snd P gl f S ∧ S rs σ.ph (fun r' φ' => r' = r ∧ φ' = σ.ph) ∧ K r.av σ

/-- what is handed to an operation under contract: as it is -/
def rvq : List AV → Option (List RV)
  | [] => some []
  | .p x :: l => (rvq l).map (.p x :: ·)
  | .agg cs :: l => (rvq l).map (.agg cs :: ·)
  | .xsl es :: l => (rvq l).map (.p (.sl es es.length) :: ·)
  | _ :: _ => none

def primS (P : Program) (op : Op) (rs : List RV) (σ : St) (K : AV → St → Prop) : Prop := ∃ S, SndP P op S ∧ S rs σ.ph (outK K σ)
def pargs (P : Program) (op : Op) : List AV → List RV → St → (AV → St → Prop) → Prop
  | [], acc, σ, K => primS P op acc.reverse σ K
  | .p x :: l, acc, σ, K => pargs P op l (.p x :: acc) σ K
  | .agg cs :: l, acc, σ, K => pargs P op l (.agg cs :: acc) σ K
  | .xsl es :: l, acc, σ, K => pargs P op l (.p (.sl es es.length) :: acc) σ K
  | .row r n :: l, acc, σ, K => match getB r σ.rw with
    | some (_, _, es) => n = es.length ∧ pargs P op l (.p (.sl es n) :: acc) (σ.frzRow r es) K
    | none => False
  | _ :: _, _, _, _ => False
def primA (P : Program) (op : Op) (args : List AV) (σ : St) (K : AV → St → Prop) : Prop := pargs P op args [] σ K
def primqA (P : Program) (op : Op) (args : List AV) (σ : St) (K : AV → St → Prop) : Prop :=
  ∃ rs, rvq args = some rs ∧ ∃ S r, SndP P op S ∧ S rs σ.ph (fun r' φ' => r' = r ∧ φ' = σ.ph) ∧ K r.av σ

def callvA (P : Program) (gl : Nat → Option (List PV)) : AV → List AV → St → (AV → St → Prop) → Prop
  | .p (.fn f caps), args, σ, K => callA P gl f (args ++ caps.map .p) σ K
  | _, _, _, _ => False

/-- a slice whose room is known, as any slice -/
def nox : AV → AV
  | .xsl es => .p (.sl es es.length)
  | x => x

def chkA : AV → St → (AV → St → Prop) → Prop
  | .p (.val (.pointer (some a))), σ, K => K (.p (.val (.pointer (some a)))) σ
  | .p (.ip cs), σ, K => K (.p (.ip cs)) σ
  | .p (.fn f caps), σ, K => K (.p (.fn f caps)) σ
  | .ref s o, σ, K => K (.ref s o) σ
  | _, _, _ => False

/-- A growing row that is about to be laid into something is known for ever from there on. -/
def frzV (σ : St) : AV → St
  | .row r _ => match getB r σ.rw with
    | some (_, _, es) => σ.frzRow r es
    | none => σ
  | _ => σ
def frz1 (x : Opd) (σ : St) : St := frzV σ (ev σ x)
def frzL : List (Nat × Nat × Opd) → St → St
  | [], σ => σ
  | (_, _, x) :: l, σ => frzL l (frz1 x σ)

def aop (P : Program) (gl : Nat → Option (List PV)) (d : Nat) : AOp → St → (AV → St → Prop) → Prop
  | .mov x, σ, K => K (nox (ev σ x)) σ
  | .pick c a b, σ, K => pickA (ev σ c) (ev σ a) (ev σ b) σ K
  | .alloc zs, σ, K => allocA d zs σ K
  | .box x, σ, K => boxA d (ev (frz1 x σ) x) (frz1 x σ) K
  | .build zs ps, σ, K => buildA zs (evs (frzL ps σ) ps) (frzL ps σ) K
  | .buildq zs ps, σ, K => buildA zs (evs σ ps) σ K
  | .bslice T k n zs ps, σ, K => bsliceA d T k n zs (evs (frzL ps σ) ps) (frzL ps σ) K
  | .load agg k x, σ, K => loadA agg k (ev σ x) σ K
  | .store k x v, σ, K => storeA k (ev (frz1 v σ) x) (ev (frz1 v σ) v) (frz1 v σ) K
  | .chk x, σ, K => chkA (ev σ x) σ K
  | .bin op _ x y, σ, K => binA op (ev σ x) (ev σ y) σ K
  | .un op x, σ, K => unA op (ev σ x) σ K
  | .cv k x, σ, K => cvA k (ev σ x) σ K
  | .cvs x, σ, K => cvsA (ev σ x) σ K
  | .fad o x, σ, K => fadA o (ev σ x) σ K
  | .iad k x i, σ, K => iadA k (ev σ x) (ev σ i) σ K
  | .ixs x i, σ, K => ixsA (ev σ x) (ev σ i) σ K
  | .slcs x lo hi, σ, K => slcsA (ev σ x) (lo.map (ev σ)) (hi.map (ev σ)) σ K
  | .slc3 k x hi mx, σ, K => slc3A k (ev σ x) (ev σ hi) (ev σ mx) σ K
  | .bslq _ k n zs ps, σ, K => bslqA k n zs (evs σ ps) σ K
  | .iada k n x i, σ, K => iadaA k n (ev σ x) (ev σ i) σ K
  | .fld agg k o x, σ, K => fldA agg k o (ev σ x) σ K
  | .mm mx x y, σ, K => mmA mx (ev σ x) (ev σ y) σ K
  | .shf left x y, σ, K => shfA left (ev σ x) (ev σ y) σ K
  | .isnil neg x, σ, K => isnilA neg (ev σ x) σ K
  | .beq neg ks x y, σ, K => beqA neg ks (ev σ x) (ev σ y) σ K
  | .slc k x lo hi, σ, K => slcA k (ev (frz1 x σ) x) (lo.map (ev (frz1 x σ))) (hi.map (ev (frz1 x σ))) (frz1 x σ) K
  | .slcq k x lo hi, σ, K => slcA k (ev σ x) (lo.map (ev σ)) (hi.map (ev σ)) σ K
  | .ext x i, σ, K => extA i (ev σ x) σ K
  | .mkf f caps, σ, K => mkfA f (caps.map (ev σ)) [] σ K
  | .call f args, σ, K => callA P gl f (args.map (ev σ)) σ K
  | .callv x args, σ, K => callvA P gl (ev σ x) (args.map (ev σ)) σ K
  | .len x, σ, K => lenA (ev σ x) σ K
  | .lens x, σ, K => lensA (ev σ x) σ K
  | .app T k by' x y, σ, K => appA d T k by' (ev σ x) (ev σ y) σ K
  | .lenq x, σ, K => lenqA (ev σ x) σ K
  | .callq f args, σ, K => callqA P gl f (args.map (ev σ)) σ K
  | .prim op args, σ, K => primA P op (args.map (ev σ)) σ K
  | .primq op args, σ, K => primqA P op (args.map (ev σ)) σ K
  | .other _, _, _ => False

def dstN : Option Nat → Nat
  | some d => d
  | none => 0

def aguard (s : Nat) (want : Bool) (Y N : St → Prop) (σ : St) : Prop :=
  match getT s σ.fr with
  | some (.p (.val (.bool b))) => (b = want → Y (σ.put s (.p (.val (.bool want))))) ∧ (b = !want → N (σ.put s (.p (.val (.bool !want)))))
  | some (.tup _) => N σ
  | _ => False

def aoperY (P : Program) (gl : Nat → Option (List PV)) (o : AOper) (N : St → Prop) (σ : St) : Prop := aop P gl (dstN o.dst) o.op σ (putK o.dst N)
def aoperN (o : AOper) (N : St → Prop) (σ : St) : Prop := putK o.dst N (.tup []) σ

def aoper (P : Program) (gl : Nat → Option (List PV)) (o : AOper) (N : St → Prop) (σ : St) : Prop :=
  match o.guard with
  | none => aoperY P gl o N σ
  | some (s, want) => aguard s want (aoperY P gl o N) (aoperN o N) σ

def aops (P : Program) (gl : Nat → Option (List PV)) : List AOper → (St → Prop) → St → Prop
  | [], N, σ => N σ
  | o :: l, N, σ => aoper P gl o (aops P gl l N) σ

inductive Ex where
  | normal
  | exit (id : Nat)
  | ret
  deriving DecidableEq

def Ex.go : Ex → Exit
  | .normal => .normal
  | .exit id => .exit id
  | .ret => .ret

/-- A step of thought: nothing turns but what is known. -/
def Gho (σ σ' : St) : Prop := ∀ (D : Base) (G : Gh) (a : Act) (w : World), Rel D G σ a w → ∃ G', Rel D G' σ' a w

def thenQ (N : St → Prop) (Q : Ex → St → Prop) : Ex → St → Prop
  | .normal, σ => N σ
  | e, σ => Q e σ

def blockQ (id : Nat) (Q : Ex → St → Prop) : Ex → St → Prop
  | .exit id', σ => bif Nat.beq id id' then Q .normal σ else Q (.exit id') σ
  | e, σ => Q e σ

def loopQ (I : Nat → St → Prop) (n : Nat) (Q : Ex → St → Prop) : Ex → St → Prop
  | .normal, σ => ∃ m, m < n ∧ ∃ σ', Gho σ σ' ∧ I m σ'
  | e, σ => Q e σ

def condA (X Y : St → Prop) : AV → St → Prop
  | .p (.val (.bool b)), σ => (b = true → X σ) ∧ (b = false → Y σ)
  | _, _ => False

/-- what the operation that changes things does -/
def effD (P : Program) (o : AOper) (r : Out) (φ φ' : Res) (σ : St) : Prop := match o.op with
  | .primq op args => ∃ rs, rvq (args.map (ev σ)) = some rs ∧ ∃ S, SndP P op S ∧ S rs φ (fun r' φ'' => r' = r ∧ φ'' = φ')
  | _ => False

def awp (P : Program) (gl : Nat → Option (List PV)) : ACode → (Ex → St → Prop) → St → Prop
  | .skip, Q, σ => Q .normal σ
  | .reg ops, Q, σ => aops P gl ops (Q .normal) σ
  | .rege l e, Q, σ => ∃ φ1 fr1 r o, l[e]? = some o ∧ aops P gl (l.take e) (fun σ' => σ' = ⟨fr1, σ.bx, σ.rw, σ.ph⟩) σ ∧ aops P gl (l.take e) (fun σ' => σ' = ⟨fr1, σ.bx, σ.rw, φ1⟩) ⟨σ.fr, σ.bx, σ.rw, φ1⟩ ∧
      effD P o r σ.ph φ1 ⟨fr1, σ.bx, σ.rw, σ.ph⟩ ∧ effD P o r φ1 φ1 ⟨fr1, σ.bx, σ.rw, φ1⟩ ∧ putK o.dst (aops P gl (l.drop (e + 1)) (Q .normal)) r.av ⟨fr1, σ.bx, σ.rw, φ1⟩
  | .seq a b, Q, σ => awp P gl a (thenQ (awp P gl b Q) Q) σ
  | .cond c x y, Q, σ => condA (awp P gl x Q) (awp P gl y Q) (ev σ c) σ
  | .block id c, Q, σ => awp P gl c (blockQ id Q) σ
  | .loop c, Q, σ => ∃ (I : Nat → St → Prop) (n : Nat), (∃ σ', Gho σ σ' ∧ I n σ') ∧ ∀ n σ, I n σ → awp P gl c (loopQ I n Q) σ
  | .exit id, Q, σ => Q (.exit id) σ
  | .ret, Q, σ => Q .ret σ
  | .bad, _, _ => False

def outOf : List RV → Out
  | [r] => .one r
  | l => .tup l

def retA (K : Out → Res → Prop) : List ResV → List RV → St → Prop
  | [], acc, σ => K (outOf acc.reverse) σ.ph
  | .t s :: l, acc, σ => match getT s σ.fr with
    | some (.p x) => retA K l (.p (nilSl x) :: acc) σ
    | some (.agg cs) => retA K l (.agg cs :: acc) σ
    | some (.xsl es) => retA K l (.p (.sl es es.length) :: acc) σ
    | some (.row r n) => match getB r σ.rw with
      | some (_, _, es) => n = es.length ∧ retA K l (.p (.sl es n) :: acc) (σ.frzRow r es)
      | none => False
    | some (.ref b o) => match getB b σ.bx with
      | some cs => retA K l (.p (.ip (cs.drop o)) :: acc) { σ with fr := frzFr b cs σ.fr, bx := delB b σ.bx }
      | none => False
    | _ => False
  | .c s agg k :: l, acc, σ => match getT s σ.fr with
    | some (.ref b o) => match getB b σ.bx with
      | some cs => o + k ≤ cs.length ∧ (agg = false → k = 1) ∧ match cellsA agg k (cs.drop o) with
        | .p x => retA K l (.p (nilSl x) :: acc) σ
        | .agg cs => retA K l (.agg cs :: acc) σ
        | _ => False
      | none => False
    | _ => False

def endQ (K : Out → Res → Prop) (rv : List ResV) : Ex → St → Prop
  | .normal, σ => retA K rv [] σ
  | .ret, σ => retA K rv [] σ
  | .exit _, _ => False

def startFr : Nat → List RV → List (Nat × AV)
  | _, [] => []
  | n, r :: l => (n, r.av) :: startFr (n + 1) l

def startSt (rs : List RV) (φ : Res) : St := ⟨startFr 0 rs, [], [], φ⟩

/-- What is to be shown of a function. -/
def Shows (P : Program) (gl : Nat → Option (List PV)) (c : ACode) (rv : List ResV) (S : Spec) : Prop :=
  ∀ rs φ (K : Out → Res → Prop), S rs φ K → awp P gl c (endQ K rv) (startSt rs φ)

end Go.Am
