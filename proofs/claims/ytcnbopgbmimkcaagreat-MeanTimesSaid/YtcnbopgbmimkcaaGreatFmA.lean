/- Part of the machine FM and of the proof that what it answers the model answers. -/
import Derived.Orders
import GoSem.Core.Region
import Derived.Laws.Sem
import Derived.Laws.Cells
import Derived.Laws.CopyRow
import Derived.Laws.StructEq
import Derived.ChangeKeysEq
set_option linter.all false
set_option linter.unusedSimpArgs false
set_option linter.unusedVariables false
set_option linter.unnecessarySimpa false
set_option linter.unusedSectionVars false
section
/- The machine FM: Go's code over trees of data; each frame has a small heap of its own for what it writes. -/
set_option autoImplicit false
namespace Go.Fm

/-- Whose a slice's memory is: the receiver's own; nobody writes it any more; perhaps somebody's who called. -/
inductive Fl where
  | own | fresh | old
  deriving DecidableEq, Inhabited

/-- Values. 'arr', 'ro', 'map', 'rw' bear what they hold; 'sl', 'pt', 'mp' name things of the frame's own heap. -/
inductive V where
  | undef
  | junk
  | int (k : IntKind) (n : Int)
  | bool (b : Bool)
  | str (s : List UInt8)
  | arr (f : Fl) (sz : Nat) (es : List (List V))
  | nilsl
  | z
  | sl (id sz off len : Nat)
  | pt (id idx sub : Nat)
  | nilp
  | ro (f : Fl) (cs : List V)
  | rw (cs : List V)
  | mp (id : Nat)
  | map (f : Fl) (es : List (V × V))
  | nilmap
  | fn (f : FuncId) (first caps : List V)
  | agg (cs : List V)
  | tup (vs : List V)
  deriving Inhabited

def V.cells : V → List V
  | .agg cs => cs
  | v => [v]

/-! ### Tables by numbers -/
inductive Tr (α : Type) where
  | e
  | n (l : Tr α) (v : Option α) (r : Tr α)

section
variable {α : Type}
def Tr.get : Tr α → Nat → Option α
  | .e, _ => none
  | .n l v r, i => if i = 0 then v else if i % 2 = 1 then l.get (i / 2) else r.get (i / 2 - 1)

def Tr.here (t : Tr α) (x : Option α) : Tr α :=
  match t with
  | .e => .n .e x .e
  | .n l _ r => .n l x r
def Tr.left : Tr α → Tr α
  | .e => .e
  | .n l _ _ => l
def Tr.right : Tr α → Tr α
  | .e => .e
  | .n _ _ r => r
def Tr.val : Tr α → Option α
  | .e => none
  | .n _ v _ => v

def Tr.setF : Nat → Tr α → Nat → Option α → Tr α
  | 0, t, _, x => t.here x
  | f + 1, t, i, x =>
    if i = 0 then t.here x
    else if i % 2 = 1 then .n (setF f t.left (i / 2) x) t.val t.right
    else .n t.left t.val (setF f t.right (i / 2 - 1) x)
def Tr.put (t : Tr α) (i : Nat) (x : Option α) : Tr α := Tr.setF i t i x

theorem Tr.get_eq (t : Tr α) (i : Nat) : t.get i = if i = 0 then t.val else if i % 2 = 1 then t.left.get (i / 2) else t.right.get (i / 2 - 1) := by
  cases t with
  | e => simp [Tr.get, Tr.val, Tr.left, Tr.right]
  | n l v r => simp [Tr.get, Tr.val, Tr.left, Tr.right]

theorem Tr.get_here (t : Tr α) (x : Option α) (j : Nat) : (t.here x).get j = if 0 = j then x else t.get j := by
  rw [Tr.get_eq (t.here x), Tr.get_eq t]
  cases t <;> by_cases h : j = 0 <;> simp [Tr.here, Tr.val, Tr.left, Tr.right, h, eq_comm]

theorem Tr.get_setF (x : Option α) : ∀ (f : Nat) (t : Tr α) (i j : Nat), i ≤ f → (Tr.setF f t i x).get j = if i = j then x else t.get j := by
  intro f
  induction f with
  | zero =>
    intro t i j hi
    obtain rfl : i = 0 := by omega
    simp only [Tr.setF]
    exact Tr.get_here t x j
  | succ f ih =>
    intro t i j hi
    simp only [Tr.setF]
    by_cases h0 : i = 0
    · subst h0; simp only [if_true]; exact Tr.get_here t x j
    · rw [if_neg h0]
      by_cases h1 : i % 2 = 1
      · rw [if_pos h1, Tr.get, Tr.get_eq t j]
        by_cases j0 : j = 0
        · subst j0; simp only [if_true]; rw [if_neg h0]
        · rw [if_neg j0, if_neg j0]
          by_cases j1 : j % 2 = 1
          · rw [if_pos j1, if_pos j1, ih _ _ _ (by omega)]
            by_cases hij : i = j
            · subst hij; simp
            · rw [if_neg hij, if_neg (by omega)]
          · rw [if_neg j1, if_neg j1, if_neg (by omega)]
      · rw [if_neg h1, Tr.get, Tr.get_eq t j]
        by_cases j0 : j = 0
        · subst j0; simp only [if_true]; rw [if_neg h0]
        · rw [if_neg j0, if_neg j0]
          by_cases j1 : j % 2 = 1
          · rw [if_pos j1, if_pos j1, if_neg (by omega)]
          · rw [if_neg j1, if_neg j1, ih _ _ _ (by omega)]
            by_cases hij : i = j
            · subst hij; simp
            · rw [if_neg hij, if_neg (by omega)]

theorem Tr.get_put (t : Tr α) (i j : Nat) (x : Option α) : (t.put i x).get j = if i = j then x else t.get j :=
  Tr.get_setF x i t i j (Nat.le_refl _)
theorem Tr.get_put_same (t : Tr α) (i : Nat) (x : Option α) : (t.put i x).get i = x := by rw [Tr.get_put, if_pos rfl]
theorem Tr.get_put_ne (t : Tr α) (i j : Nat) (x : Option α) (h : i ≠ j) : (t.put i x).get j = t.get j := by rw [Tr.get_put, if_neg h]
theorem Tr.get_e (i : Nat) : (Tr.e : Tr α).get i = none := rfl
end

/-! ### The frame's heap -/
/-- A thing of the heap: a row of elements (may it be written? are its cells trees?), a variable's cells, a map. -/
inductive Thing where
  | row (sz : Nat) (wr clean : Bool) (es : List (List V))
  | box (cs : List V)
  | map (wr : Bool) (es : List (V × V))
  deriving Inhabited

abbrev Heap := Tr Thing
structure St where
  env : Tr V
  L : Heap
  nx : Nat
  bx : List Nat

/-! ### Operations -/
inductive Opd where
  | t (i : Nat)
  | c (v : V)
  deriving Inhabited

/-- Kinds of plain cells: numbers, strings, bools. -/
inductive Sk where
  | i | s | b
  deriving DecidableEq, Inhabited
/-- Kinds of keys: one cell, several. -/
inductive Kk where
  | one (k : Sk)
  | flat (ks : List Sk)
  deriving DecidableEq, Inhabited

inductive COp where
  | bad
  | mv (x : Opd)
  | pick (c a b : Opd)
  | bin (op : BinOp) (x y : Opd)
  | eqb (neg : Bool) (x y : Opd)
  | nil (neg : Bool) (kd : Nat) (x : Opd)
  | eqa (neg : Bool) (ks : List Sk) (x y : Opd)
  | un (op : UnOp) (x : Opd)
  | conv (k : IntKind) (x : Opd)
  | nilchk (x : Opd)
  | faddr (off : Nat) (x : Opd)
  | iaddr (sz : Nat) (x i : Opd)
  | aaddr (len sz : Nat) (x i : Opd)
  | fld (agg : Bool) (off n : Nat) (x : Opd)
  | ixs (x i : Opd)
  | ixa (agg : Bool) (len sz : Nat) (x i : Opd)
  | slc (sz : Nat) (x : Opd) (lo hi : Option Opd)
  | slcs (x : Opd) (lo hi : Option Opd)
  | slz (x : Opd)
  | ext (x : Opd) (i : Nat)
  | bld (zero : List V) (ps : List (Nat × Nat × Opd))
  | mkf (f : FuncId) (first caps : List Opd)
  | lens (x : Opd)
  | len (x : Opd)
  | cap (x : Opd)
  | max (xs : List Opd)
  | min (xs : List Opd)
  | ld (agg : Bool) (n : Nat) (x : Opd)
  | look (ok : Bool) (zero : V) (kk : Kk) (m k : Opd)
  | lenm (x : Opd)
  | b2s (x : Opd)
  | box (x : Opd)
  | alo (zero : List V)
  | bsl (sz len : Nat) (zero : List V) (ps : List (Nat × Opd))
  | msl (sz bytes : Nat) (zero : List V) (len cap : Opd)
  | mkm
  | st (n : Nat) (p x : Opd)
  | app (sz bytes : Nat) (s x : Opd)
  | apn (sz bytes : Nat) (zero : List V) (s n : Opd)
  | cpy (sz : Nat) (d s : Opd)
  | mup (kk : Kk) (m k v : Opd)
  | call (f : FuncId) (args : List Opd)
  | callv (f : Opd) (args : List Opd)
  deriving Inhabited

/-- An operation: where its value goes; its guard; what it does; addresses that it must leave alone. -/
structure COper where
  dst : Option Nat
  guard : Option (Nat × Bool)
  op : COp
  chk : List Opd
  deriving Inhabited

inductive CCode where
  | skip
  | reg (ops : List COper)
  | seq (a b : CCode)
  | cond (c : Opd) (thn els : CCode)
  | block (id : Nat) (body : CCode)
  | loop (body : CCode)
  | exit (id : Nat)
  | scope (body : CCode)
  | label (l : Nat)
  | goto (l : Nat)
  | ret
  | bad
  deriving Inhabited

inductive It where
  | code (c : CCode)
  | inB (id : Nat)
  | inL (body : CCode)
  | inS (body : CCode)
  deriving Inhabited

inductive CRes where
  | t (i : Nat)
  | c (i : Nat) (agg : Bool) (n : Nat)
  deriving Inhabited

/-- A function: temporaries, code, results; which parameters are pointers that it alone has (of how many cells), or slices (0); do its results lead into its arguments? are its results' rows handed on as the receiver's own (else they come to rest)? -/
structure FI where
  nt : Nat
  code : CCode
  res : List CRes
  rwp : List (Option Nat)
  leaky : Bool
  own : Bool
  deriving Inhabited

structure Prim where
  f : List V → Option (V × List Thing)
  rwp : List (Option Nat)
  leaky : Bool

inductive Def where
  | code (fi : FI)
  | prim (p : Prim)

def Def.rwp : Def → List (Option Nat)
  | .code fi => fi.rwp
  | .prim p => p.rwp
def Def.leaky : Def → Bool
  | .code fi => fi.leaky
  | .prim p => p.leaky

/-- What stands in an environment. -/
def look (env : Tr V) (i : Nat) : V := (env.get i).getD .undef
def opd (env : Nat → V) : Opd → V
  | .t i => env i
  | .c v => v

/-! ### Reckoning -/
def ibin (op : BinOp) (k : IntKind) (a b : Int) : Option V :=
  match op with
  | .add => some (.int k (k.wrap (a + b)))
  | .sub => some (.int k (k.wrap (a - b)))
  | .mul => some (.int k (k.wrap (a * b)))
  | .quo => if b = 0 then none else some (.int k (k.wrap (a.tdiv b)))
  | .rem => if b = 0 then none else some (.int k (a.tmod b))
  | .eql => some (.bool (a == b))
  | .neq => some (.bool (a != b))
  | .lss => some (.bool (a < b))
  | .leq => some (.bool (a ≤ b))
  | .gtr => some (.bool (a > b))
  | .geq => some (.bool (a ≥ b))
  | .and => some (.int k (k.wrap ((BitVec.ofInt k.bits a &&& BitVec.ofInt k.bits b).toNat : Nat)))
  | .or => some (.int k (k.wrap ((BitVec.ofInt k.bits a ||| BitVec.ofInt k.bits b).toNat : Nat)))
  | .xor => some (.int k (k.wrap ((BitVec.ofInt k.bits a ^^^ BitVec.ofInt k.bits b).toNat : Nat)))
  | _ => none

def ishift (op : BinOp) (k : IntKind) (a b : Int) : Option V :=
  match op with
  | .shl => if b < 0 then none else some (.int k (k.wrap (a * 2 ^ (min b.toNat k.bits))))
  | .shr => if b < 0 then none else some (.int k (a.fdiv (2 ^ (min b.toNat k.bits))))
  | _ => none

def sbin (op : BinOp) (a b : List UInt8) : Option V :=
  match op with
  | .add => if a.length + b.length ≤ 4611686018427387904 then some (.str (a ++ b)) else none
  | .eql => some (.bool (a == b))
  | .neq => some (.bool (!(a == b)))
  | _ => none

/-- Are two cells of a kind the same? -/
def ceq : Sk → V → V → Option Bool
  | .i, .int k a, .int k' b => if k = k' then some (a == b) else none
  | .s, .str a, .str b => some (a == b)
  | .b, .bool a, .bool b => some (a == b)
  | _, _, _ => none
def ceqs : List Sk → List V → List V → Option Bool
  | [], [], [] => some true
  | k :: ks, x :: xs, y :: ys => (ceq k x y).bind fun b => (ceqs ks xs ys).bind fun c => some (b && c)
  | _, _, _ => none

/-- Is a value the nil of its type (0: a slice, 1: a pointer, 2: a map)? -/
def isNil (kd : Nat) (x : V) : Option Bool :=
  match kd, x with
  | 0, .nilsl => some true
  | 0, .arr _ _ es => if es.isEmpty then none else some false
  | 0, .sl _ _ _ len => if len = 0 then none else some false
  | 1, .nilp => some true
  | 1, .pt _ _ _ => some false
  | 1, .ro _ _ => some false
  | 2, .nilmap => some true
  | 2, .mp _ => some false
  | 2, .map _ _ => some false
  | _, _ => none

def vbin (op : BinOp) (a b : V) : Option V :=
  match a, b with
  | .int k x, .int k' y =>
    match op with
    | .shl => ishift .shl k x y
    | .shr => ishift .shr k x y
    | _ => if k = k' then ibin op k x y else none
  | .str x, .str y => sbin op x y
  | _, _ => none

def vun (op : UnOp) (a : V) : Option V :=
  match op, a with
  | .not, .bool b => some (.bool (!b))
  | .neg, .int k n => some (.int k (k.wrap (0 - n)))
  | _, _ => none

def maxA (k : IntKind) : Int → List V → Option V
  | a, [] => some (.int k a)
  | a, .int k' b :: l => if k = k' then maxA k (if b > a then b else a) l else none
  | _, _ => none
def maxs : List V → Option V
  | .int k a :: l => maxA k a l
  | _ => none
def minA (k : IntKind) : Int → List V → Option V
  | a, [] => some (.int k a)
  | a, .int k' b :: l => if k = k' then minA k (if b < a then b else a) l else none
  | _, _ => none
def mins : List V → Option V
  | .int k a :: l => minA k a l
  | _ => none
end Go.Fm
end

section
/- FM: what an operation, a region, a function comes to. -/
set_option autoImplicit false
namespace Go.Fm

def mapO {α β : Type} (f : α → Option β) : List α → Option (List β)
  | [] => some []
  | x :: xs => (f x).bind fun y => (mapO f xs).bind fun ys => some (y :: ys)

/-- Does a value name a thing of the frame's heap? -/
def hasRef : V → Bool
  | .sl _ _ _ _ | .pt _ _ _ | .mp _ | .agg _ | .tup _ | .rw _ => true
  | .fn _ a b => !(a.isEmpty && b.isEmpty)
  | .arr .own _ _ | .map .own _ => true
  | _ => false

abbrev HeapF := Nat → Option Thing
/-- A value with all that it leads to in the frame's heap laid open. -/
def dr (g : HeapF) (fl : Fl) : Nat → V → Option V
  | 0, _ => none
  | d + 1, v =>
    match v with
    | .sl id _ off len =>
      match g id with
      | some (.row sz wr cl es) =>
        if off + len ≤ es.length then
          (if cl then some ((es.drop off).take len) else mapO (mapO (dr g fl d)) ((es.drop off).take len)).map fun es2 => .arr (if wr then fl else .fresh) sz es2
        else none
      | _ => none
    | .pt id idx sub =>
      match g id with
      | some (.box cs) => if fl = .old ∧ idx = 0 then (mapO (dr g fl d) (cs.drop sub)).map (.ro fl) else none
      | _ => none
    | .mp id =>
      match g id with
      | some (.map wr es) => some (.map (if wr then fl else .fresh) es)
      | _ => none
    | .agg cs => (mapO (dr g fl d) cs).map .agg
    | .tup vs => (mapO (dr g fl d) vs).map .tup
    | .fn f a b => (mapO (dr g fl d) a).bind fun a' => (mapO (dr g fl d) b).map fun b' => .fn f a' b'
    | .arr .own _ _ => none
    | .map .own _ => none
    | .rw _ => none
    | v => some v

/-- The rows and maps that are read so. -/
def refs (g : HeapF) : Nat → V → List Nat
  | 0, _ => []
  | d + 1, v =>
    match v with
    | .sl id _ _ _ =>
      match g id with
      | some (.row _ _ false es) => id :: es.flatMap fun e => e.flatMap (refs g d)
      | _ => [id]
    | .pt id _ _ =>
      match g id with
      | some (.box cs) => id :: cs.flatMap (refs g d)
      | _ => [id]
    | .mp id => [id]
    | .agg cs => cs.flatMap (refs g d)
    | .tup vs => vs.flatMap (refs g d)
    | .fn _ a b => a.flatMap (refs g d) ++ b.flatMap (refs g d)
    | _ => []

def freeze1 (L : Heap) (id : Nat) : Heap :=
  match L.get id with
  | some (.row sz true cl es) => L.put id (some (.row sz false cl es))
  | some (.map true es) => L.put id (some (.map false es))
  | _ => L
def freeze (L : Heap) (ids : List Nat) : Heap := ids.foldl freeze1 L
def kill (L : Heap) (ids : List Nat) : Heap := ids.foldl (fun L id => L.put id none) L

/-- How deep things of a heap lead into each other, at most. -/
def deep : Nat := 6

/-! ### What a call hands over and back -/
/-- A cell that comes with its row, its map: a name for it; what is named. -/
def thaw1 (c : V) (nx : Nat) : V × List Thing :=
  match c with
  | .arr .own sz es => (.sl nx sz 0 es.length, [.row sz true true es])
  | .map .own es => (.mp nx, [.map true es])
  | c => (c, [])
def thawL : List V → Nat → List V × List Thing
  | [], _ => ([], [])
  | c :: cs, nx =>
    let a := thaw1 c nx
    let b := thawL cs (nx + a.2.length)
    (a.1 :: b.1, a.2 ++ b.2)
def thawV (v : V) (nx : Nat) : V × List Thing :=
  match v with
  | .agg cs => let a := thawL cs nx; (.agg a.1, a.2)
  | .rw cs => let a := thawL cs nx; (.pt (nx + a.2.length) 0 0, a.2 ++ [.box a.1])
  | v => thaw1 v nx
def thawVs : List V → Nat → List V × List Thing
  | [], _ => ([], [])
  | c :: cs, nx =>
    let a := thawV c nx
    let b := thawVs cs (nx + a.2.length)
    (a.1 :: b.1, a.2 ++ b.2)
def thaw (v : V) (nx : Nat) : V × List Thing :=
  match v with
  | .tup vs => let a := thawVs vs nx; (.tup a.1, a.2)
  | v => thawV v nx
/-- A thing that is handed back: a box's cells may come with rows. -/
def thawT (t : Thing) (nx : Nat) : Thing × List Thing :=
  match t with
  | .box cs => let a := thawL cs nx; (.box a.1, a.2)
  | t => (t, [])
def thawLs : List Thing → Nat → List Thing × List Thing
  | [], _ => ([], [])
  | t :: ts, nx =>
    let a := thawT t nx
    let b := thawLs ts (nx + a.2.length)
    (a.1 :: b.1, a.2 ++ b.2)
/-- New things, by number. -/
def putAll : Heap → Nat → List Thing → Heap
  | L, _, [] => L
  | L, nx, t :: ts => putAll (L.put nx (some t)) (nx + 1) ts
/-- Boxes, rows are given other cells. -/
def putBoxes : Heap → List Nat → List Thing → Heap
  | L, m :: ms, t :: ts => putBoxes (L.put m (some t)) ms ts
  | L, _, _ => L

mutual
def noOld : V → Bool
  | .arr f _ es => f != .old && noOldLL es
  | .ro f cs => f != .old && noOldL cs
  | .rw cs => noOldL cs
  | .map f es => f != .old && noOldP es
  | .fn _ a b => noOldL a && noOldL b
  | .agg cs => noOldL cs
  | .tup cs => noOldL cs
  | _ => true
def noOldL : List V → Bool
  | [] => true
  | c :: cs => noOld c && noOldL cs
def noOldLL : List (List V) → Bool
  | [] => true
  | e :: es => noOldL e && noOldLL es
def noOldP : List (V × V) → Bool
  | [] => true
  | (a, b) :: es => noOld a && noOld b && noOldP es
end

def Thing.noOld : Thing → Bool
  | .row _ _ _ es => noOldLL es
  | .box cs => noOldL cs
  | .map _ es => noOldP es
/-- May a thing be written? -/
def Thing.open_ : Thing → Bool
  | .row _ wr _ _ => wr
  | .box _ => true
  | .map wr _ => wr
/-- What may be handed back. -/
def Thing.back (t : Thing) : Bool := t.open_ && t.noOld

/-- A cell as it is handed on: what is laid open, rows that go with it, rows that are shared. -/
def ownC (L : Heap) (v : V) : Option (V × List Nat × List Nat) :=
  match v with
  | .sl id _ off len =>
    match L.get id with
    | some (.row sz true true es) =>
      if off = 0 ∧ len ≤ es.length then some (.arr .own sz (es.take len), [id], []) else (dr L.get .fresh deep v).map fun v' => (v', [], refs L.get deep v)
    | _ => (dr L.get .fresh deep v).map fun v' => (v', [], refs L.get deep v)
  | .mp id =>
    match L.get id with
    | some (.map true es) => some (.map .own es, [id], [])
    | _ => (dr L.get .fresh deep v).map fun v' => (v', [], refs L.get deep v)
  | v => (dr L.get .fresh deep v).map fun v' => (v', [], refs L.get deep v)
def ownL (L : Heap) : List V → Option (List V × List Nat × List Nat)
  | [] => some ([], [], [])
  | c :: cs => (ownC L c).bind fun r => (ownL L cs).bind fun q => some (r.1 :: q.1, r.2.1 ++ q.2.1, r.2.2 ++ q.2.2)
def ownV (L : Heap) (own : Bool) (v : V) : Option (V × List Nat × List Nat) :=
  match v with
  | .agg cs => if own then (ownL L cs).map fun q => (.agg q.1, q.2.1, q.2.2) else (dr L.get .fresh deep v).map fun v' => (v', [], refs L.get deep v)
  | .pt id idx sub =>
    match L.get id with
    | some (.box cs) => if idx = 0 ∧ sub = 0 then (ownL L cs).map fun q => (.rw q.1, q.2.1 ++ [id], q.2.2) else none
    | _ => none
  | v => if own then ownC L v else (dr L.get .fresh deep v).map fun v' => (v', [], refs L.get deep v)
def ownVs (L : Heap) (own : Bool) : List V → Option (List V × List Nat × List Nat)
  | [] => some ([], [], [])
  | c :: cs => (ownV L own c).bind fun r => (ownVs L own cs).bind fun q => some (r.1 :: q.1, r.2.1 ++ q.2.1, r.2.2 ++ q.2.2)
/-- What stands in the boxes that came in. -/
def backs (L : Heap) : List Nat → Option (List Thing × List Nat × List Nat)
  | [] => some ([], [], [])
  | b :: bs =>
    match L.get b with
    | some (.box cs) => (ownL L cs).bind fun r => (backs L bs).bind fun q => some (.box r.1 :: q.1, r.2.1 ++ q.2.1, r.2.2 ++ q.2.2)
    | some (.row sz true true es) => (backs L bs).bind fun q => some (.row sz true true es :: q.1, q.2.1, q.2.2)
    | _ => none

def isCell : V → Bool
  | .undef | .agg _ | .tup _ => false
  | _ => true

def takeN (agg : Bool) (n : Nat) (cs : List V) : Option V :=
  if agg then (if n ≤ cs.length then some (.agg (cs.take n)) else none) else cs.head?
/-- The cells from an address on. -/
def cellsAt (g : HeapF) : V → Option (List V)
  | .pt id idx sub =>
    match g id with
    | some (.box cs) => if idx = 0 then some (cs.drop sub) else none
    | some (.row _ _ _ es) => (es[idx]?).map fun e => e.drop sub
    | _ => none
  | .ro _ cs => some cs
  | _ => none
def putL {α : Type} : List α → Nat → List α → List α
  | cs, 0, xs => xs ++ cs.drop xs.length
  | c :: cs, n + 1, xs => c :: putL cs n xs
  | [], _ + 1, _ => []

def resV (s : St) : CRes → Option V
  | .t i => some (opd (look s.env) (.t i))
  | .c i agg n => (cellsAt s.L.get (opd (look s.env) (.t i))).bind (takeN agg n)

abbrev Res := V × List Thing
def single : List V → Option V
  | [.tup _] => none
  | [v] => some v
  | vs => some (.tup vs)
def finish (fi : FI) (s : St) : Option Res :=
  (mapO (resV s) fi.res).bind fun vals => (ownVs s.L fi.own vals).bind fun r => (backs s.L s.bx).bind fun b => (single r.1).bind fun v =>
    if (s.bx ++ (b.2.1 ++ r.2.1)).Nodup ∧ (s.bx ++ (b.2.1 ++ r.2.1)).all (fun i => !(r.2.2 ++ b.2.2).contains i) = true then some (v, b.1) else none

/-- What comes in: values, things, boxes. -/
def enterA : List V → Nat → List V × List Thing × List Nat
  | [], _ => ([], [], [])
  | v :: rest, nx =>
    match v with
    | .rw cs =>
      let a := thawL cs nx
      let b := enterA rest (nx + a.2.length + 1)
      (.pt (nx + a.2.length) 0 0 :: b.1, a.2 ++ .box a.1 :: b.2.1, (nx + a.2.length) :: b.2.2)
    | .arr .own sz es =>
      let b := enterA rest (nx + 1)
      (.sl nx sz 0 es.length :: b.1, .row sz true true es :: b.2.1, nx :: b.2.2)
    | v =>
      let b := enterA rest nx
      (v :: b.1, b.2.1, b.2.2)
def putVs : List V → Nat → Tr V → Tr V
  | [], _, t => t
  | v :: vs, i, t => putVs vs (i + 1) (t.put i (some v))
def enter (args : List V) : St :=
  let a := enterA args 0
  { env := putVs a.1 0 .e, L := putAll .e 0 a.2.1, nx := a.2.1.length, bx := a.2.2 }

/-- The arguments of a call, as the callee has them; boxes that it may write, rows that go with them; what is read; what is to come to rest. -/
structure Pass where
  args : List V
  boxes : List Nat
  rows : List Nat
  reads : List Nat
  rest : List Nat
def pass (L : Heap) (leaky : Bool) : List (Option Nat) → List V → Option Pass
  | _, [] => some ⟨[], [], [], [], []⟩
  | r, v :: vs =>
    match r.head?.join with
    | some 0 =>
      match v with
      | .sl id sz 0 len =>
        match L.get id with
        | some (.row sz' true true es) =>
          if sz' = sz ∧ len = es.length then (pass L leaky r.tail vs).map fun p => ⟨.arr .own sz es :: p.args, id :: p.boxes, p.rows, p.reads, p.rest⟩
          else none
        | _ => none
      | .nilsl => (pass L leaky r.tail vs).map fun p => ⟨.nilsl :: p.args, p.boxes, p.rows, p.reads, p.rest⟩
      | _ => none
    | some (n + 1) =>
      match v with
      | .pt id 0 0 =>
        match L.get id with
        | some (.box cs) =>
          if cs.length = n + 1 then
            (ownL L cs).bind fun q => (pass L leaky r.tail vs).map fun p => ⟨.rw q.1 :: p.args, id :: p.boxes, q.2.1 ++ p.rows, q.2.2 ++ p.reads, q.2.2 ++ p.rest⟩
          else none
        | _ => none
      | _ => none
    | none =>
      match if leaky then dr L.get .fresh deep v else none with
      | some v' => (pass L leaky r.tail vs).map fun p => ⟨v' :: p.args, p.boxes, p.rows, refs L.get deep v ++ p.reads, refs L.get deep v ++ p.rest⟩
      | none => (dr L.get .old deep v).bind fun v' => (pass L leaky r.tail vs).map fun p => ⟨v' :: p.args, p.boxes, p.rows, refs L.get deep v ++ p.reads, p.rest⟩

abbrev Caller := FuncId → List V → Option Res
abbrev Out := V × Heap × Nat × List Nat

def callDef (d : Def) (c : List V → Option Res) (args : List V) (L : Heap) (nx : Nat) : Option Out :=
  (pass L d.leaky d.rwp args).bind fun p =>
    if (p.boxes ++ p.rows).Nodup ∧ (p.boxes ++ p.rows).all (fun i => !p.reads.contains i) = true then
      (c p.args).bind fun r =>
        if noOld r.1 = true ∧ r.2.all Thing.back = true then
          let b := thawLs r.2 nx
          let t := thaw r.1 (nx + b.2.length)
          some (t.1, putAll (putBoxes (kill (freeze L p.rest) p.rows) p.boxes b.1) nx (b.2 ++ t.2), nx + (b.2 ++ t.2).length, p.boxes ++ p.rows)
        else none
    else none

/-! ### Operations -/
def elemsOf (g : HeapF) (sz : Nat) : V → Option (List (List V) × List Nat)
  | .nilsl => some ([], [])
  | .z => some ([], [])
  | .arr f sz' es => if f ≠ .own ∧ sz' = sz then some (es, []) else none
  | .sl id _ off len =>
    match g id with
    | some (.row sz' _ cl es) =>
      if sz' = sz ∧ off + len ≤ es.length then
        if cl then some ((es.drop off).take len, [])
        else (mapO (mapO (dr g .fresh deep)) ((es.drop off).take len)).map fun es2 => (es2, ((es.drop off).take len).flatMap fun e => e.flatMap (refs g deep))
      else none
    | _ => none
  | .str s => if sz = 1 then some (s.map (fun b => [.int .u8 (b.toNat : Int)]), []) else none
  | _ => none

/-- How many bytes a row may have. -/
def room : Nat := 140737488355328

def append (L : Heap) (nx sz bytes : Nat) (s x : V) : Option Out :=
  (elemsOf L.get sz x).bind fun q =>
    match s with
    | .nilsl | .z =>
      if q.1.length * bytes ≤ room then
        if q.1.isEmpty then some (s, L, nx, [])
        else some (.sl nx sz 0 q.1.length, (freeze L q.2).put nx (some (.row sz true true q.1)), nx + 1, [])
      else none
    | .sl id _ off len =>
      match L.get id with
      | some (.row sz' true true es) =>
        if sz' = sz ∧ (len + q.1.length) * bytes ≤ room ∧ q.2.contains id = false then
          if off + len = es.length then
            some (.sl nx sz 0 (len + q.1.length), ((freeze L q.2).put id none).put nx (some (.row sz true true (es.drop off ++ q.1))), nx + 1, [id])
          else if off + len + q.1.length ≤ es.length then
            some (.sl id sz off (len + q.1.length), (freeze L q.2).put id (some (.row sz true true (es.take (off + len) ++ q.1 ++ es.drop (off + len + q.1.length)))), nx, [id])
          else none
        else none
      | _ => none
    | _ => none

/-- So many zeros behind nil. -/
def appZeros (L : Heap) (nx sz bytes : Nat) (zero : List V) (s n : V) : Option Out :=
  match s, n with
  | .nilsl, .int .i64 m =>
    if 0 ≤ m ∧ m * bytes ≤ room then
      if m = 0 then some (.nilsl, L, nx, []) else some (.sl nx sz 0 m.toNat, L.put nx (some (.row sz true true (List.replicate m.toNat zero))), nx + 1, [])
    else none
  | _, _ => none

def copyTo (L : Heap) (nx sz : Nat) (d s : V) : Option Out :=
  (elemsOf L.get sz s).bind fun q =>
    match d with
    | .sl id _ off len =>
      match L.get id with
      | some (.row sz' true true es) =>
        if sz' = sz ∧ off + len ≤ es.length ∧ q.2.contains id = false then
          let n := Min.min q.1.length len
          some (.int .i64 (n : Int), (freeze L q.2).put id (some (.row sz true true (es.take off ++ q.1.take n ++ es.drop (off + n)))), nx, [id])
        else none
      | _ => none
    | _ => none

def store (L : Heap) (nx n : Nat) (p x : V) : Option Out :=
  if x.cells.length = n ∧ x.cells.all isCell = true then
    match p with
    | .pt id idx sub =>
      match L.get id with
      | some (.box cs) => if idx = 0 ∧ sub + n ≤ cs.length then some (.undef, L.put id (some (.box (putL cs sub x.cells))), nx, [id]) else none
      | some (.row sz true true es) =>
        match es[idx]? with
        | some e =>
          if sub + n ≤ e.length ∧ (x.cells.flatMap (refs L.get deep)).contains id = false then
            (mapO (dr L.get .fresh deep) x.cells).map fun xs =>
              (.undef, (freeze L (x.cells.flatMap (refs L.get deep))).put id (some (.row sz true true (es.set idx (putL e sub xs)))), nx, [id])
          else none
        | none => none
      | _ => none
    | _ => none
  else none

/-- Are two keys the same? -/
def keq (kk : Kk) (a b : V) : Option Bool :=
  match kk with
  | .one k => ceq k a b
  | .flat ks =>
    match a, b with
    | .agg xs, .agg ys => ceqs ks xs ys
    | _, _ => none
def mapGet (kk : Kk) : List (V × V) → V → Option (Option V)
  | [], _ => some none
  | (k', x) :: es, k => (keq kk k k').bind fun b => if b then some (some x) else mapGet kk es k
def mapSet (kk : Kk) : List (V × V) → V → V → Option (List (V × V))
  | [], k, x => some [(k, x)]
  | (k', y) :: es, k, x => (keq kk k k').bind fun b => if b then some ((k, x) :: es) else (mapSet kk es k x).map fun es' => (k', y) :: es'
def isKey (kk : Kk) (k : V) : Bool := (keq kk k k).isSome
def mapUp (L : Heap) (nx : Nat) (n : Kk) (m k x : V) : Option Out :=
  match m with
  | .mp id =>
    match L.get id with
    | some (.map true es) =>
      if isKey n k = true ∧ (refs L.get deep x).contains id = false then
        (dr L.get .fresh deep x).bind fun x' => (mapSet n es k x').map fun es' =>
          (.undef, (freeze L (refs L.get deep x)).put id (some (.map true es')), nx, [id])
      else none
    | _ => none
  | _ => none
def mapOf (g : HeapF) : V → Option (List (V × V))
  | .mp id => match g id with | some (.map _ es) => some es | _ => none
  | .map f es => if f ≠ .own then some es else none
  | .nilmap => some []
  | _ => none

def inRange (i : Int) (n : Nat) : Bool := decide (0 ≤ i) && decide (i < (n : Int))

/-- The bounds of a cut of something of a length. -/
def loV (ρ : Opd → V) : Option Opd → Option Nat
  | none => some 0
  | some o => match ρ o with | .int _ n => if 0 ≤ n then some n.toNat else none | _ => none
def hiV (ρ : Opd → V) (n : Nat) : Option Opd → Option Nat
  | none => some n
  | some o => match ρ o with | .int _ h => if inRange h (n + 1) then some h.toNat else none | _ => none
def cutV (ρ : Opd → V) (lo hi : Option Opd) (n : Nat) : Option (Nat × Nat) :=
  (loV ρ lo).bind fun l => (hiV ρ n hi).bind fun h => if l ≤ h then some (l, h) else none

/-- Operations that look at no heap. -/
def pureOp (ρ : Opd → V) : COp → Option V
  | .mv x => some (ρ x)
  | .pick c a b => match ρ c with | .bool t => some (if t then ρ a else ρ b) | _ => none
  | .bin op x y => vbin op (ρ x) (ρ y)
  | .eqb neg x y => match ρ x, ρ y with | .bool a, .bool b => some (.bool (if neg then !(a == b) else a == b)) | _, _ => none
  | .nil neg kd x => (isNil kd (ρ x)).map fun b => .bool (if neg then !b else b)
  | .eqa neg ks x y => match ρ x, ρ y with | .agg xs, .agg ys => (ceqs ks xs ys).map fun b => .bool (if neg then !b else b) | _, _ => none
  | .un op x => vun op (ρ x)
  | .conv k x => match ρ x with | .int _ n => some (.int k (k.wrap n)) | _ => none
  | .nilchk x => match ρ x with | .pt id idx sub => some (.pt id idx sub) | .ro f cs => some (.ro f cs) | .fn f a b => some (.fn f a b) | _ => none
  | .faddr off x => match ρ x with | .pt id idx sub => some (.pt id idx (sub + off)) | .ro f cs => some (.ro f (cs.drop off)) | _ => none
  | .iaddr sz x i =>
    match ρ i with
    | .int _ n =>
      match ρ x with
      | .sl id sz' off len => if sz' = sz ∧ inRange n len = true then some (.pt id (off + n.toNat) 0) else none
      | .arr f sz' es => if sz' = sz ∧ f ≠ .own ∧ inRange n es.length = true then (es[n.toNat]?).map fun e => .ro f e else none
      | _ => none
    | _ => none
  | .aaddr len sz x i =>
    match ρ i with
    | .int _ n =>
      if inRange n len then
        match ρ x with
        | .pt id idx sub => some (.pt id idx (sub + n.toNat * sz))
        | .ro f cs => some (.ro f (cs.drop (n.toNat * sz)))
        | _ => none
      else none
    | _ => none
  | .fld agg off n x => match ρ x with | .agg cs => takeN agg n (cs.drop off) | _ => none
  | .ixs x i => match ρ x, ρ i with | .str s, .int _ n => if inRange n s.length then (s[n.toNat]?).map fun b => .int .u8 (b.toNat : Int) else none | _, _ => none
  | .ixa agg len sz x i => match ρ x, ρ i with | .agg cs, .int _ n => if inRange n len then takeN agg sz (cs.drop (n.toNat * sz)) else none | _, _ => none
  | .slc sz x lo hi =>
    match ρ x with
    | .sl id sz' off len => if sz' = sz then (cutV ρ lo hi len).map fun p => .sl id sz (off + p.1) (p.2 - p.1) else none
    | .arr f sz' es => if sz' = sz ∧ f ≠ .own then (cutV ρ lo hi es.length).map fun p => .arr f sz ((es.drop p.1).take (p.2 - p.1)) else none
    | .nilsl => (cutV ρ lo hi 0).map fun _ => .nilsl
    | _ => none
  | .slcs x lo hi => match ρ x with | .str s => (cutV ρ lo hi s.length).map fun p => .str ((s.drop p.1).take (p.2 - p.1)) | _ => none
  | .slz x => match ρ x with | .sl _ _ _ _ => some .z | .arr _ _ _ => some .z | .nilsl => some .z | _ => none
  | .ext x i => match ρ x with | .tup vs => vs[i]? | _ => none
  | .bld zero ps => ps.foldlM (fun cs p => if (ρ p.2.2).cells.length = p.2.1 ∧ p.1 + p.2.1 ≤ cs.length ∧ (ρ p.2.2).cells.all isCell = true then some (putL cs p.1 (ρ p.2.2).cells) else none) zero |>.map .agg
  | .mkf f first caps => some (.fn f (first.map ρ) (caps.map ρ))
  | .lens x => match ρ x with | .str s => some (.int .i64 (s.length : Int)) | _ => none
  | .len x => match ρ x with | .sl _ _ _ len => some (.int .i64 (len : Int)) | .arr _ _ es => some (.int .i64 (es.length : Int)) | .nilsl => some (.int .i64 0) | .z => some (.int .i64 0) | _ => none
  | .cap x => match ρ x with | .nilsl => some (.int .i64 0) | .z => some (.int .i64 0) | _ => none
  | .max xs => maxs (xs.map ρ)
  | .min xs => mins (xs.map ρ)
  | _ => none

def bytesOf (es : List (List V)) : Option (List UInt8) :=
  mapO (fun e => match e with | [.int .u8 n] => some (UInt8.ofNat n.toNat) | _ => none) es

/-- The bytes of a slice. -/
def bytesAt (g : HeapF) : V → Option (List UInt8)
  | .nilsl => some []
  | .z => some []
  | .arr f sz es => if f ≠ .own ∧ sz = 1 then bytesOf es else none
  | .sl id _ off len =>
    match g id with
    | some (.row sz _ cl es) => if sz = 1 ∧ cl = true ∧ off + len ≤ es.length then bytesOf ((es.drop off).take len) else none
    | _ => none
  | _ => none

/-- Operations that make something new: its name, given a number; what it is. -/
def newOp (ρ : Opd → V) : COp → Option ((Nat → V) × Thing)
  | .box x => if (ρ x).cells.all isCell = true then some (fun n => .pt n 0 0, .box (ρ x).cells) else none
  | .alo zero => some (fun n => .pt n 0 0, .box zero)
  | .bsl sz len zero ps =>
    (ps.foldlM (fun es p => if (ρ p.2).cells.length = sz ∧ p.1 < es.length ∧ (ρ p.2).cells.all isCell = true then some (es.set p.1 (ρ p.2).cells) else none) (List.replicate len zero)).map fun es =>
      (fun n => .sl n sz 0 len, .row sz true (!(es.any fun e => e.any hasRef)) es)
  | .msl sz bytes zero len cap =>
    match ρ len, ρ cap with
    | .int _ l, .int _ c =>
      if 0 ≤ l ∧ l ≤ c ∧ c * bytes ≤ room ∧ c < 9223372036854775808 then some (fun n => .sl n sz 0 l.toNat, .row sz true true (List.replicate l.toNat zero)) else none
    | _, _ => none
  | .mkm => some (fun n => .mp n, .map true [])
  | _ => none

/-- One operation. -/
def exec (T : FuncId → Option Def) (call : Caller) (ρ : Opd → V) (L : Heap) (nx : Nat) (op : COp) : Option Out :=
  match op with
  | .ld agg n x => (cellsAt L.get (ρ x)).bind fun cs => (takeN agg n cs).map fun v => (v, L, nx, [])
  | .lenm x => (mapOf L.get (ρ x)).map fun es => (.int .i64 (es.length : Int), L, nx, [])
  | .look ok zero n m k =>
    (mapOf L.get (ρ m)).bind fun es => if isKey n (ρ k) then (mapGet n es (ρ k)).map fun r => ((if ok then .tup [r.getD zero, .bool r.isSome] else r.getD zero), L, nx, []) else none
  | .b2s x => (bytesAt L.get (ρ x)).map fun s => (.str s, L, nx, [])
  | .box _ | .alo _ | .bsl _ _ _ _ | .msl _ _ _ _ _ | .mkm => (newOp ρ op).map fun p => (p.1 nx, L.put nx (some p.2), nx + 1, [])
  | .st n p x => store L nx n (ρ p) (ρ x)
  | .app sz bytes s x => append L nx sz bytes (ρ s) (ρ x)
  | .apn sz bytes zero s n => appZeros L nx sz bytes zero (ρ s) (ρ n)
  | .cpy sz d s => copyTo L nx sz (ρ d) (ρ s)
  | .mup n m k x => mapUp L nx n (ρ m) (ρ k) (ρ x)
  | .call f args => (T f).bind fun d => callDef d (call f) (args.map ρ) L nx
  | .callv fo args =>
    match ρ fo with
    | .fn f first caps => (T f).bind fun d => callDef d (call f) (first ++ args.map ρ ++ caps) L nx
    | _ => none
  | op => (pureOp ρ op).map fun v => (v, L, nx, [])

def addrOk (v : V) (touched : List Nat) : Bool :=
  match v with
  | .pt id _ _ => !touched.contains id
  | .sl id _ _ _ => !touched.contains id
  | .mp id => !touched.contains id
  | _ => true

def setDst (env : Tr V) : Option Nat → V → Tr V
  | none, _ => env
  | some d, v => env.put d (some v)

def stepOp (T : FuncId → Option Def) (call : Caller) (o : COper) (s : St) : Option St :=
  let go : Option St := (exec T call (opd (look s.env)) s.L s.nx o.op).bind fun r =>
    if o.chk.all (fun x => addrOk (opd (look s.env) x) r.2.2.2) then some { s with env := setDst s.env o.dst r.1, L := r.2.1, nx := r.2.2.1 } else none
  match o.guard with
  | none => go
  | some (g, want) =>
    match opd (look s.env) (.t g) with
    | .bool b => if b = want then go else some { s with env := setDst s.env o.dst .undef }
    | .undef => some { s with env := setDst s.env o.dst .undef }
    | _ => none
def stepOps (T : FuncId → Option Def) (call : Caller) : List COper → St → Option St
  | [], s => some s
  | o :: os, s => (stepOp T call o s).bind (stepOps T call os)

def exitTo (id : Nat) : List It → Option (List It)
  | .inB id' :: k => if id' == id then some k else exitTo id k
  | _ :: k => exitTo id k
  | [] => none
def findLabel : CCode → Nat → Option CCode
  | .seq a b, l =>
    match findLabel a l with
    | some rest => some (.seq rest b)
    | none => findLabel b l
  | .label l', l => if l' == l then some .skip else none
  | _, _ => none
def gotoIn (l : Nat) : List It → Option (List It)
  | .inS body :: k =>
    match findLabel body l with
    | some rest => some (.code rest :: .inS body :: k)
    | none => gotoIn l k
  | _ :: k => gotoIn l k
  | [] => none

/-- What a call comes to, given what runs of its code come to. -/
def callBy (T : FuncId → Option Def) (run : FI → List It → St → Option Res) (f : FuncId) (args : List V) : Option Res :=
  match T f with
  | some (.code fi) => run fi [.code fi.code] (enter args)
  | some (.prim p) => p.f args
  | none => none

/-- One move of a run, given what shorter runs come to. -/
def move (T : FuncId → Option Def) (run : FI → List It → St → Option Res) (fi : FI) (todo : List It) (s : St) : Option Res :=
  match todo with
  | [] => finish fi s
  | .code .ret :: _ => finish fi s
  | .code .skip :: k => run fi k s
  | .code .bad :: _ => none
  | .code (.reg ops) :: k => (stepOps T (callBy T run) ops s).bind (run fi k)
  | .code (.seq a b) :: k => run fi (.code a :: .code b :: k) s
  | .code (.cond c a b) :: k => match opd (look s.env) c with | .bool t => run fi (.code (if t then a else b) :: k) s | _ => none
  | .code (.block id c) :: k => run fi (.code c :: .inB id :: k) s
  | .inB _ :: k => run fi k s
  | .code (.loop c) :: k => run fi (.code c :: .inL c :: k) s
  | .inL c :: k => run fi (.code c :: .inL c :: k) s
  | .code (.exit id) :: k => (exitTo id k).bind fun k' => run fi k' s
  | .code (.scope c) :: k => run fi (.code c :: .inS c :: k) s
  | .inS _ :: k => run fi k s
  | .code (.label _) :: k => run fi k s
  | .code (.goto l) :: k => (gotoIn l k).bind fun k' => run fi k' s

def runN (T : FuncId → Option Def) : Nat → FI → List It → St → Option Res
  | 0 => fun _ _ _ => none
  | n + 1 => move T (runN T n)
end Go.Fm
end

section
/- FM: runs of whatever length: 'run', 'call', and their equations. -/
set_option autoImplicit false
namespace Go.Fm

def Le {α : Type} (a b : Option α) : Prop := ∀ r, a = some r → b = some r
theorem Le.refl {α : Type} (a : Option α) : Le a a := fun _ h => h
theorem Le.bind {α β : Type} {a a' : Option α} {f f' : α → Option β} (h : Le a a') (k : ∀ x, Le (f x) (f' x)) : Le (a.bind f) (a'.bind f') := by
  intro r hr
  obtain ⟨x, hx, hf⟩ := Option.bind_eq_some_iff.1 hr
  exact Option.bind_eq_some_iff.2 ⟨x, h x hx, k x r hf⟩

abbrev Rn := FI → List It → St → Option Res
section
variable (T : FuncId → Option Def)

theorem callDef_le {c c' : List V → Option Res} (h : ∀ a, Le (c a) (c' a)) (d : Def) (args : List V) (L : Heap) (nx : Nat) :
    Le (callDef d c args L nx) (callDef d c' args L nx) := by
  unfold callDef
  refine Le.bind (Le.refl _) fun p => ?_
  split
  · exact Le.bind (h _) fun r => Le.refl _
  · exact Le.refl _

theorem exec_le {c c' : Caller} (h : ∀ f a, Le (c f a) (c' f a)) (ρ : Opd → V) (L : Heap) (nx : Nat) (op : COp) :
    Le (exec T c ρ L nx op) (exec T c' ρ L nx op) := by
  cases op with
  | call f args => exact Le.bind (Le.refl _) fun d => callDef_le (h f) d _ _ _
  | callv fo args =>
    simp only [exec]
    cases ρ fo with
    | fn f a b => exact Le.bind (Le.refl _) fun d => callDef_le (h f) d _ _ _
    | _ => exact Le.refl _
  | _ => exact Le.refl _

theorem stepOp_le {c c' : Caller} (h : ∀ f a, Le (c f a) (c' f a)) (o : COper) (s : St) : Le (stepOp T c o s) (stepOp T c' o s) := by
  have hg := Le.bind (exec_le T h (opd (look s.env)) s.L s.nx o.op)
    (f := fun r => if o.chk.all (fun x => addrOk (opd (look s.env) x) r.2.2.2) then some { s with env := setDst s.env o.dst r.1, L := r.2.1, nx := r.2.2.1 } else none) (fun x => Le.refl _)
  unfold stepOp
  cases o.guard with
  | none => exact hg
  | some g =>
    dsimp only
    cases opd (look s.env) (.t g.1) with
    | bool b =>
      dsimp only
      by_cases hb : b = g.2
      · simp only [hb, if_true]; exact hg
      · simp only [hb, if_false]; exact Le.refl _
    | _ => exact Le.refl _

theorem stepOps_le {c c' : Caller} (h : ∀ f a, Le (c f a) (c' f a)) : ∀ (os : List COper) (s : St), Le (stepOps T c os s) (stepOps T c' os s)
  | [], _ => Le.refl _
  | o :: os, s => Le.bind (stepOp_le T h o s) fun s' => stepOps_le h os s'

theorem callBy_le {g h : Rn} (hh : ∀ fi k s, Le (g fi k s) (h fi k s)) (f : FuncId) (a : List V) : Le (callBy T g f a) (callBy T h f a) := by
  unfold callBy
  cases T f with
  | none => exact Le.refl _
  | some d =>
    cases d with
    | code fi => exact hh _ _ _
    | prim p => exact Le.refl _

theorem move_le {g h : Rn} (hh : ∀ fi k s, Le (g fi k s) (h fi k s)) (fi : FI) (todo : List It) (s : St) : Le (move T g fi todo s) (move T h fi todo s) := by
  cases todo with
  | nil => exact Le.refl _
  | cons i k =>
    cases i with
    | code c =>
      cases c with
      | reg ops => exact Le.bind (stepOps_le T (callBy_le T hh) ops s) fun s' => hh _ _ _
      | cond c a b =>
        simp only [move]
        cases opd (look s.env) c <;> first | exact Le.refl _ | exact hh _ _ _
      | exit id => exact Le.bind (Le.refl _) fun k' => hh _ _ _
      | goto l => exact Le.bind (Le.refl _) fun k' => hh _ _ _
      | ret => exact Le.refl _
      | bad => exact Le.refl _
      | _ => exact hh _ _ _
    | _ => exact hh _ _ _

theorem runN_le : ∀ (n : Nat) (fi : FI) (k : List It) (s : St), Le (runN T n fi k s) (runN T (n + 1) fi k s)
  | 0, _, _, _ => fun _ h => by cases h
  | n + 1, fi, k, s => move_le T (runN_le n) fi k s
theorem runN_mono {n m : Nat} (h : n ≤ m) (fi : FI) (k : List It) (s : St) : Le (runN T n fi k s) (runN T m fi k s) := by
  induction h with
  | refl => exact Le.refl _
  | step _ ih => exact fun r hr => runN_le T _ fi k s r (ih r hr)

open Classical in
/-- What a run comes to, however long it is. -/
noncomputable def run (fi : FI) (k : List It) (s : St) : Option Res :=
  if h : ∃ r, ∃ n, runN T n fi k s = some r then some h.choose else none

theorem run_iff {fi : FI} {k : List It} {s : St} {r : Res} : run T fi k s = some r ↔ ∃ n, runN T n fi k s = some r := by
  unfold run
  constructor
  · intro h
    split at h
    · rename_i hx
      obtain ⟨n, hn⟩ := hx.choose_spec
      injection h with h
      exact ⟨n, h ▸ hn⟩
    · cases h
  · rintro ⟨n, hn⟩
    have hx : ∃ r, ∃ n, runN T n fi k s = some r := ⟨r, n, hn⟩
    rw [dif_pos hx]
    obtain ⟨m, hm⟩ := hx.choose_spec
    have h1 := runN_mono T (Nat.le_max_left n m) fi k s r hn
    have h2 := runN_mono T (Nat.le_max_right n m) fi k s _ hm
    rw [h1] at h2
    exact h2.symm

theorem runN_run (n : Nat) (fi : FI) (k : List It) (s : St) : Le (runN T n fi k s) (run T fi k s) := fun _ h => (run_iff T).2 ⟨n, h⟩

/-- What hangs on runs so: more runs, more answers; an answer hangs on runs of some length. -/
structure Good {α : Type} (F : Rn → Option α) : Prop where
  mono : ∀ g h : Rn, (∀ fi k s, Le (g fi k s) (h fi k s)) → Le (F g) (F h)
  fin : ∀ r, F (run T) = some r → ∃ n, F (runN T n) = some r

theorem Good.const {α : Type} (a : Option α) : Good T fun _ => a := ⟨fun _ _ _ => Le.refl _, fun _ h => ⟨0, h⟩⟩
theorem Good.app (fi : FI) (k : List It) (s : St) : Good T fun g => g fi k s := ⟨fun _ _ h => h _ _ _, fun _ h => (run_iff T).1 h⟩
theorem Good.bind {α β : Type} {F : Rn → Option α} {G : α → Rn → Option β} (hF : Good T F) (hG : ∀ x, Good T (G x)) : Good T fun g => (F g).bind fun x => G x g :=
  ⟨fun g h hh => Le.bind (hF.mono g h hh) fun x => (hG x).mono g h hh, fun r hr => by
    obtain ⟨x, hx, hg⟩ := Option.bind_eq_some_iff.1 hr
    obtain ⟨n, hn⟩ := hF.fin x hx
    obtain ⟨m, hm⟩ := (hG x).fin r hg
    refine ⟨max n m, Option.bind_eq_some_iff.2 ⟨x, hF.mono _ _ (runN_mono T (Nat.le_max_left n m)) x hn, (hG x).mono _ _ (runN_mono T (Nat.le_max_right n m)) r hm⟩⟩⟩

theorem callBy_good (f : FuncId) (a : List V) : Good T fun g => callBy T g f a := by
  unfold callBy
  cases T f with
  | none => exact Good.const T _
  | some d =>
    cases d with
    | code fi => exact Good.app T _ _ _
    | prim p => exact Good.const T _

theorem callDef_good (d : Def) (f : FuncId) (args : List V) (L : Heap) (nx : Nat) : Good T fun g => callDef d (callBy T g f) args L nx := by
  unfold callDef
  refine Good.bind T (Good.const T _) fun p => ?_
  split
  · exact Good.bind T (callBy_good T f _) fun r => Good.const T _
  · exact Good.const T _

theorem exec_good (ρ : Opd → V) (L : Heap) (nx : Nat) (op : COp) : Good T fun g => exec T (callBy T g) ρ L nx op := by
  cases op with
  | call f args => exact Good.bind T (Good.const T _) fun d => callDef_good T d f _ _ _
  | callv fo args =>
    simp only [exec]
    cases ρ fo with
    | fn f a b => exact Good.bind T (Good.const T _) fun d => callDef_good T d f _ _ _
    | _ => exact Good.const T _
  | _ => exact Good.const T _

theorem stepOp_good (o : COper) (s : St) : Good T fun g => stepOp T (callBy T g) o s := by
  have hg : Good T fun g => (exec T (callBy T g) (opd (look s.env)) s.L s.nx o.op).bind fun r =>
      if o.chk.all (fun x => addrOk (opd (look s.env) x) r.2.2.2) then some { s with env := setDst s.env o.dst r.1, L := r.2.1, nx := r.2.2.1 } else none :=
    Good.bind T (exec_good T _ _ _ _) fun x => Good.const T _
  unfold stepOp
  cases o.guard with
  | none => exact hg
  | some g =>
    dsimp only
    cases opd (look s.env) (.t g.1) with
    | bool b =>
      dsimp only
      by_cases hb : b = g.2
      · simp only [hb, if_true]; exact hg
      · simp only [hb, if_false]; exact Good.const T _
    | _ => exact Good.const T _

theorem stepOps_good : ∀ (os : List COper) (s : St), Good T fun g => stepOps T (callBy T g) os s
  | [], _ => Good.const T _
  | o :: os, s => Good.bind T (stepOp_good T o s) fun s' => stepOps_good os s'

theorem move_good (fi : FI) (todo : List It) (s : St) : Good T fun g => move T g fi todo s := by
  cases todo with
  | nil => exact Good.const T _
  | cons i k =>
    cases i with
    | code c =>
      cases c with
      | reg ops => exact Good.bind T (stepOps_good T ops s) fun s' => Good.app T _ _ _
      | cond c a b =>
        simp only [move]
        cases opd (look s.env) c <;> first | exact Good.const T _ | exact Good.app T _ _ _
      | exit id => exact Good.bind T (Good.const T _) fun k' => Good.app T _ _ _
      | goto l => exact Good.bind T (Good.const T _) fun k' => Good.app T _ _ _
      | ret => exact Good.const T _
      | bad => exact Good.const T _
      | _ => exact Good.app T _ _ _
    | _ => exact Good.app T _ _ _

theorem run_eq (fi : FI) (k : List It) (s : St) : run T fi k s = move T (run T) fi k s := by
  apply Option.ext
  intro r
  constructor
  · intro h
    obtain ⟨n, hn⟩ := (run_iff T).1 h
    cases n with
    | zero => cases hn
    | succ n => exact move_le T (runN_run T n) fi k s r hn
  · intro h
    obtain ⟨n, hn⟩ := (move_good T fi k s).fin r h
    exact (run_iff T).2 ⟨n + 1, hn⟩

/-- What a call comes to. -/
noncomputable def call (f : FuncId) (args : List V) : Option Res := callBy T (run T) f args

theorem call_of_runN {f : FuncId} {args : List V} {r : Res} (n : Nat) (h : callBy T (runN T n) f args = some r) : call T f args = some r :=
  callBy_le T (runN_run T n) f args r h
theorem runN_of_call {f : FuncId} {args : List V} {r : Res} (h : call T f args = some r) : ∃ n, callBy T (runN T n) f args = some r :=
  (callBy_good T f args).fin r h
theorem call_code {f : FuncId} {fi : FI} (hf : T f = some (.code fi)) (args : List V) : call T f args = run T fi [.code fi.code] (enter args) := by
  simp [call, callBy, hf]
theorem call_prim {f : FuncId} {p : Prim} (hf : T f = some (.prim p)) (args : List V) : call T f args = p.f args := by
  simp [call, callBy, hf]
theorem callBy_run : callBy T (run T) = call T := rfl

/-! ### The moves of a run -/
variable {T} {fi : FI} {k : List It} {s : St}
theorem run_nil : run T fi [] s = finish fi s := by rw [run_eq]; rfl
theorem run_ret : run T fi (.code .ret :: k) s = finish fi s := by rw [run_eq]; rfl
theorem run_skip : run T fi (.code .skip :: k) s = run T fi k s := by rw [run_eq]; rfl
theorem run_reg {ops : List COper} : run T fi (.code (.reg ops) :: k) s = (stepOps T (call T) ops s).bind (run T fi k) := by rw [run_eq]; rfl
theorem run_seq {a b : CCode} : run T fi (.code (.seq a b) :: k) s = run T fi (.code a :: .code b :: k) s := by rw [run_eq]; rfl
theorem run_cond {c : Opd} {a b : CCode} : run T fi (.code (.cond c a b) :: k) s = (match opd (look s.env) c with | .bool t => run T fi (.code (if t then a else b) :: k) s | _ => none) := by rw [run_eq]; rfl
theorem run_block {id : Nat} {c : CCode} : run T fi (.code (.block id c) :: k) s = run T fi (.code c :: .inB id :: k) s := by rw [run_eq]; rfl
theorem run_inB {id : Nat} : run T fi (.inB id :: k) s = run T fi k s := by rw [run_eq]; rfl
theorem run_loop {c : CCode} : run T fi (.code (.loop c) :: k) s = run T fi (.code c :: .inL c :: k) s := by rw [run_eq]; rfl
theorem run_inL {c : CCode} : run T fi (.inL c :: k) s = run T fi (.code c :: .inL c :: k) s := by rw [run_eq]; rfl
theorem run_exit {id : Nat} : run T fi (.code (.exit id) :: k) s = (exitTo id k).bind fun k' => run T fi k' s := by rw [run_eq]; rfl
theorem run_scope {c : CCode} : run T fi (.code (.scope c) :: k) s = run T fi (.code c :: .inS c :: k) s := by rw [run_eq]; rfl
theorem run_inS {c : CCode} : run T fi (.inS c :: k) s = run T fi k s := by rw [run_eq]; rfl
theorem run_label {l : Nat} : run T fi (.code (.label l) :: k) s = run T fi k s := by rw [run_eq]; rfl
theorem run_goto {l : Nat} : run T fi (.code (.goto l) :: k) s = (gotoIn l k).bind fun k' => run T fi k' s := by rw [run_eq]; rfl
end
end Go.Fm
end

section
/- FM: from the loaded code to FM's code. -/
set_option autoImplicit false
namespace Go.Fm

def vOf : Value → V
  | .int k n => .int k n
  | .bool b => .bool b
  | .string s => .str s.data.toList
  | .slice none 0 0 => .nilsl
  | .pointer none => .nilp
  | .map none => .nilmap
  | .tuple ⟨[]⟩ => .undef
  | _ => .junk
def vOfs (v : Value) : V :=
  match v with
  | .agg cs => .agg (cs.toList.map vOf)
  | v => vOf v

def constOk (v : Value) : Bool :=
  match v with
  | .agg cs => cs.toList.all (·.oneCell')
  | .tuple cs => cs.isEmpty
  | _ => true
def cOpd : Operand → Option Opd
  | .tmp t => some (.t t)
  | .const v => if constOk v then some (.c (vOfs v)) else none
  | .func f => some (.c (.fn f [] []))
  | .global _ => none

section
variable (P : Program)
abbrev inf (t : TypeId) : Option TypeInfo := P.info? t
abbrev und (t : TypeId) : Option TypeDesc := P.underlying t
/-- Is a type's value one of several cells? -/
def aggT (t : TypeId) : Option Bool :=
  match und P t with
  | some (.struct _) => some true
  | some (.array _ _) => some true
  | some _ => some false
  | none => none
def zeroV (t : TypeId) : Option V := (inf P t).bind fun i => i.zero.bind fun v => if constOk v && v.cells.toList.all (·.oneCell') then some (vOfs v) else none

/-- A type whose values are numbers, bools, strings. -/
def scalT (t : TypeId) : Option Sk :=
  match und P t with
  | some .bool => some .b
  | some (.int _) => some .i
  | some .string => some .s
  | _ => none
/-- A struct of such fields, an array of such elements. -/
def flatT (t : TypeId) : Option (List Sk) :=
  match und P t with
  | some (.struct fs) =>
    if (fs.toList.zipIdx.all fun (f, i) => f.offset == i && f.name != "_") && !(P.stoodInHeld t) && !(P.eqGuardType P.depth t) then mapO (fun f => scalT P f.type) fs.toList else none
  | some (.array n e) => if (inf P e).map (·.size) == some 1 && !(P.eqGuardType P.depth t) then (scalT P e).map (List.replicate n) else none
  | _ => none
/-- What keys of a type are. -/
def keyT (t : TypeId) : Option Kk :=
  match scalT P t with
  | some k => some (.one k)
  | none => (flatT P t).map .flat

def opt {α : Type} (b : Bool) (x : α) : Option α := if b then some x else none

/-- The kinds that are held against nil. -/
def nilT (t : TypeId) : Option Nat :=
  match und P t with
  | some (.slice _) => some 0
  | some (.pointer _) => some 1
  | some (.map _ _) => some 2
  | _ => none
def isNilC (kd : Nat) (x : Operand) : Bool :=
  match kd, x with
  | 0, .const (.slice none 0 0) => true
  | 1, .const (.pointer none) => true
  | 2, .const (.map none) => true
  | _, _ => false
def eqNeg : BinOp → Option Bool
  | .eql => some false
  | .neq => some true
  | _ => none
def cBin (op : BinOp) (t : TypeId) (x y : Operand) : Option COp :=
  (cOpd x).bind fun x' => (cOpd y).bind fun y' =>
    match und P t with
    | some (.int _) | some .string => some (.bin op x' y')
    | some .bool => (eqNeg op).map fun neg => .eqb neg x' y'
    | _ =>
      (eqNeg op).bind fun neg =>
        match nilT P t with
        | some kd => opt (isNilC kd y) (.nil neg kd x')
        | none => (flatT P t).map fun n => .eqa neg n x' y'
def cOpt : Option Operand → Option (Option Opd)
  | none => some none
  | some x => (cOpd x).map some

def cCall (c : Call) : Option COp :=
  (mapO cOpd c.args.toList).bind fun args =>
    match c.callee with
    | .value (.func f) => some (.call f args)
    | .value (.tmp t) => some (.callv (.t t) args)
    | .builtin .len =>
      match (c.argTypes[0]?).bind (und P), args with
      | some .string, [x] => some (.lens x)
      | some (.slice _), [x] => some (.len x)
      | some (.array n _), [_] => some (.mv (.c (.int .i64 (n : Int))))
      | some (.map _ _), [x] => some (.lenm x)
      | _, _ => none
    | .builtin .cap =>
      match (c.argTypes[0]?).bind (und P), args with
      | some (.slice _), [x] => some (.cap x)
      | _, _ => none
    | .builtin .max => some (.max args)
    | .builtin .min => some (.min args)
    | .builtin .append =>
      match (c.argTypes[0]?).bind (und P), (c.argTypes[1]?).bind (und P), args with
      | some (.slice e), some (.slice _), [s, x] => (inf P e).bind fun i => opt (i.size != 0 && i.bytes != 0 && (i.zero.map fun z => z.cells.size) == some i.size) (.app i.size i.bytes s x)
      | some (.slice e), some .string, [s, x] => (inf P e).bind fun i => opt (i.size != 0 && i.bytes != 0 && (i.zero.map fun z => z.cells.size) == some i.size) (.app i.size i.bytes s x)
      | some (.slice e), some (.int k), [s, x] => (zeroV P e).bind fun zr => (inf P e).bind fun i => opt (decide (k = .i64) && (i.size != 0 && i.bytes != 0 && (i.zero.map fun z => z.cells.size) == some i.size)) (.apn i.size i.bytes zr.cells s x)
      | _, _, _ => none
    | .builtin .copy =>
      match (c.argTypes[0]?).bind (und P), args with
      | some (.slice e), [d, s] => (inf P e).bind fun i => opt (i.size != 0) (.cpy i.size d s)
      | _, _ => none
    | _ => none

def cOp (op : Op) : Option COp :=
  match op with
  | .move x | .assign x => (cOpd x).map .mv
  | .pick c a b => (cOpd c).bind fun c => (cOpd a).bind fun a => (cOpd b).map fun b => .pick c a b
  | .alloc e => (zeroV P e).map fun zr => .alo zr.cells
  | .box _ x => (cOpd x).map .box
  | .build t ps =>
    (zeroV P t).bind fun zr =>
      match und P t with
      | some (.struct fs) =>
        (fs.toList.mapM fun f => (P.info? f.type).map fun i => (f.offset, i.size)).bind fun pl =>
          (mapO (fun p => (cOpd p.2).bind fun x => (pl[p.1]?).map fun q => (q.1, q.2, x)) ps.toList).map (.bld zr.cells)
      | some (.array _ e) =>
        (inf P e).bind fun i => (mapO (fun p => (cOpd p.2).map fun x => (p.1 * i.size, i.size, x)) ps.toList).map (.bld zr.cells)
      | _ => none
  | .buildSlice t n ps =>
    match und P t with
    | some (.slice e) => (inf P e).bind fun i => (zeroV P e).bind fun zr =>
        (mapO (fun p => (cOpd p.2).map fun x => (p.1, x)) ps.toList).bind fun ps => opt (i.size != 0 && decide (n * i.size ≤ 2 ^ 24) && zr.cells.length == i.size) (.bsl i.size n zr.cells ps)
    | _ => none
  | .load t a => (cOpd a).bind fun a => (inf P t).bind fun i => (aggT P t).map fun ag => .ld ag i.size a
  | .store t a x => (cOpd a).bind fun a => (cOpd x).bind fun x => (inf P t).map fun i => .st i.size a x
  | .nilCheck x => (cOpd x).map .nilchk
  | .binOp op t x y _ => cBin P op t x y
  | .unOp op _ x => (cOpd x).map fun x => .un op x
  | .convert s d x =>
    (cOpd x).bind fun x =>
      match und P s, und P d with
      | some (.int _), some (.int k) => some (.conv k x)
      | some (.slice e), some .string => match und P e with | some (.int .u8) => some (.b2s x) | _ => none
      | _, _ => none
  | .makeFunc (.func f) first caps => (mapO cOpd first.toList).bind fun a => (mapO cOpd caps.toList).map fun b => .mkf f a b
  | .makeMap _ none => some .mkm
  | .makeSlice t l c =>
    match und P t with
    | some (.slice e) => (inf P e).bind fun i => (zeroV P e).bind fun zr => (cOpd l).bind fun l => (cOpd c).bind fun c =>
        opt (i.size != 0 && zr.cells.length == i.size) (.msl i.size i.bytes zr.cells l c)
    | _ => none
  | .slice t x lo hi none =>
    (cOpd x).bind fun x => (cOpt lo).bind fun lo => (cOpt hi).bind fun hi =>
      match und P t with
      | some .string => some (.slcs x lo hi)
      | some (.slice e) => (inf P e).bind fun i => opt (i.size != 0) (.slc i.size x lo hi)
      | _ => none
  | .slice t x none (some (.const (.int _ 0))) (some (.const (.int _ 0))) =>
    match und P t with
    | some (.slice e) => (inf P e).bind fun _ => (cOpd x).map .slz
    | _ => none
  | .fieldAddr s x f =>
    match und P s with
    | some (.struct fs) => (cOpd x).bind fun x => (fs[f]?).bind fun f => (inf P f.type).bind fun i => opt (i.size != 0) (.faddr f.offset x)
    | _ => none
  | .field s x f =>
    match und P s with
    | some (.struct fs) => (cOpd x).bind fun x => (fs[f]?).bind fun f => (inf P f.type).bind fun i => (aggT P f.type).map fun ag => .fld ag f.offset i.size x
    | _ => none
  | .indexAddr t x i =>
    (cOpd x).bind fun x => (cOpd i).bind fun ix =>
      match und P t with
      | some (.slice e) => (inf P e).bind fun i => opt (i.size != 0) (.iaddr i.size x ix)
      | some (.array n e) => (inf P e).bind fun i => opt (i.size != 0) (.aaddr n i.size x ix)
      | _ => none
  | .index t x i =>
    (cOpd x).bind fun x => (cOpd i).bind fun ix =>
      match und P t with
      | some .string => some (.ixs x ix)
      | some (.array n e) => (inf P e).bind fun i => (aggT P e).map fun ag => .ixa ag n i.size x ix
      | _ => none
  | .lookup t x k ok =>
    match und P t with
    | some (.map kt e) => (cOpd x).bind fun x => (cOpd k).bind fun k => (zeroV P e).bind fun zr => (keyT P kt).map fun n => .look ok zr n x k
    | _ => none
  | .mapUpdate t m k v =>
    match und P t with
    | some (.map kt _) => (cOpd m).bind fun m => (cOpd k).bind fun k => (cOpd v).bind fun v => (keyT P kt).map fun n => .mup n m k v
    | _ => none
  | .extract t i => (cOpd t).map fun t => .ext t i
  | .call c => cCall P c
  | _ => none

/-! ### The order of a region -/
inductive Cls where
  | p | r | a | m
  deriving DecidableEq
def cls : COp → Cls
  | .ld _ _ _ | .look _ _ _ _ _ | .b2s _ | .lenm _ => .r
  | .box _ | .alo _ | .bsl _ _ _ _ | .msl _ _ _ _ _ | .mkm => .a
  | .st _ _ _ | .app _ _ _ _ | .apn _ _ _ _ _ | .cpy _ _ _ | .mup _ _ _ _ | .call _ _ | .callv _ _ => .m
  | _ => .p
/-- What a look at the heap looks at. -/
def looked : COp → List Opd
  | .ld _ _ x => [x]
  | .look _ _ _ m _ => [m]
  | .lenm m => [m]
  | .b2s x => [x]
  | _ => []

def has (m i : Nat) : Bool := m.testBit i

/-- One way to lay a region's operations: looks at the heap as early, new things as late as may be. -/
def layout (cl : List Cls) (bef : List Nat) (n : Nat) : List Nat :=
  let early (done : List Nat) : List Nat := (List.range n).foldl (init := done) fun done i =>
    if !done.contains i && cl[i]? != some .m && cl[i]? != some .a && (List.range n).all (fun j => !(has (bef.getD i 0) j) || done.contains j) then done ++ [i] else done
  let step (done : List Nat) (m : Nat) : List Nat :=
    let done1 := early done
    done1 ++ ((List.range n).filter fun i => !done1.contains i && i != m && has (bef.getD m 0) i) ++ [m]
  let done := early (((List.range n).filter fun i => cl[i]? == some .m).foldl step [])
  done ++ (List.range n).filter fun i => !done.contains i

def tmpsO (xs : List Opd) : List Nat := xs.filterMap fun | .t t => some t | _ => none

/-- What an operation looks at. -/
def opnds : COp → List Opd
  | .bad => []
  | .mv x => [x]
  | .pick c a b => [c, a, b]
  | .bin _ x y => [x, y]
  | .eqb _ x y => [x, y]
  | .nil _ _ x => [x]
  | .eqa _ _ x y => [x, y]
  | .un _ x => [x]
  | .conv _ x => [x]
  | .nilchk x => [x]
  | .faddr _ x => [x]
  | .iaddr _ x i => [x, i]
  | .aaddr _ _ x i => [x, i]
  | .fld _ _ _ x => [x]
  | .ixs x i => [x, i]
  | .ixa _ _ _ x i => [x, i]
  | .slc _ x lo hi => x :: (lo.toList ++ hi.toList)
  | .slcs x lo hi => x :: (lo.toList ++ hi.toList)
  | .slz x => [x]
  | .ext x _ => [x]
  | .bld _ ps => ps.map (·.2.2)
  | .mkf _ first caps => first ++ caps
  | .lens x => [x]
  | .len x => [x]
  | .cap x => [x]
  | .max xs => xs
  | .min xs => xs
  | .ld _ _ x => [x]
  | .look _ _ _ m k => [m, k]
  | .lenm x => [x]
  | .b2s x => [x]
  | .box x => [x]
  | .alo _ => []
  | .bsl _ _ _ ps => ps.map (·.2)
  | .msl _ _ _ len cap => [len, cap]
  | .mkm => []
  | .st _ p x => [p, x]
  | .app _ _ s x => [s, x]
  | .apn _ _ _ s n => [s, n]
  | .cpy _ d s => [d, s]
  | .mup _ m k v => [m, k, v]
  | .call _ args => args
  | .callv f args => f :: args

/-- The thing that a value names. -/
def refOf : V → Option Nat
  | .pt id _ _ => some id
  | .sl id _ _ _ => some id
  | .mp id => some id
  | _ => none

/-! What must hold of an order that is laid: the operations as FM has them, by place; who is before whom. -/
def looksC (o : COper) : List Nat := tmpsO (opnds o.op) ++ (match o.guard with | some g => [g.1] | none => [])
def apartC (x y : COper) : Bool :=
  (match x.dst with
   | some d => !(looksC y).contains d && y.dst != some d
   | none => true) &&
  (match y.dst with
   | some d => !(looksC x).contains d
   | none => true)
def unordOk (x y : COper) : Bool := !(cls x.op == .m && cls y.op == .m) && !(cls x.op == .a && cls y.op == .m) && !(cls x.op == .m && cls y.op == .r) && apartC x y
/-- A look that may come behind a write: the write takes care of what is looked at; what names it stays. -/
def chkOk (cops : List COper) (i j : Nat) (x y : COper) : Bool :=
  if cls x.op == .r && cls y.op == .m then
    (looked x.op).all fun
      | .t t => (y.chk.any fun | .t t' => t' == t | _ => false) && ((cops.take j).drop i).all (fun o => o.dst != some t)
      | .c v => (refOf v).isNone
  else true
def pairOk (bef : List Nat) (l : List Nat) (cops : List COper) (i j : Nat) : Bool :=
  match cops[i]?, cops[j]?, l[i]?, l[j]? with
  | some x, some y, some li, some lj => !(has (bef.getD li 0) lj) && (has (bef.getD lj 0) li || (unordOk x y && chkOk cops i j x y))
  | _, _, _, _ => false
def placeOk (ops : Array Oper) (nt : Nat) (l : List Nat) (cops : List COper) (k : Nat) : Bool :=
  match cops[k]?, (l[k]?).bind fun i => ops[i]? with
  | some c, some o => c.dst == o.dst && (match o.dst with | some d => decide (d < nt) | none => true)
  | _, _ => false
def regOk (ops : Array Oper) (bef : List Nat) (nt : Nat) (l : List Nat) (cops : List COper) : Bool :=
  decide (l.length = ops.size) && decide (cops.length = ops.size) && (List.range ops.size).all (l.contains ·) &&
  (List.range ops.size).all (placeOk ops nt l cops) && (List.range ops.size).all fun j => (List.range j).all fun i => pairOk bef l cops i j

/-- Looks that may still come when an operation is done, laid ahead of it. -/
def pending (cs : List COp) (bef : List Nat) (ahead : List Nat) (m : Nat) : List Nat :=
  ahead.filter fun i => ((cs[i]?).map cls == some .r) && !(has (bef.getD m 0) i)
/-- What a pending look looks at is not written between. -/
def stays (ops : Array Oper) (cs : List COp) (ahead : List Nat) (i : Nat) : Bool :=
  (ahead.dropWhile (· != i)).all fun k => match ops[k]?, cs[i]? with
    | some o, some c => match o.dst with | some d => !(tmpsO (looked c)).contains d | none => true
    | _, _ => false

def guardOf (ops : Array Oper) (o : Oper) : Option (Option (Nat × Bool)) :=
  match o.guard with
  | none => some none
  | some (g, want) => ((ops[g]?).bind (·.dst)).map fun d => some (d, want)

def laid (ops : Array Oper) (cs : List COp) (bef : List Nat) : List Nat → List Nat → Option (List COper)
  | _, [] => some []
  | ahead, i :: rest =>
    match ops[i]?, cs[i]? with
    | some o, some c =>
      let pend := if cls c == .m then pending cs bef ahead i else []
      if pend.all (stays ops cs ahead) then
        (guardOf ops o).bind fun g => (laid ops cs bef (ahead ++ [i]) rest).map fun l =>
          { dst := o.dst, guard := g, op := c, chk := pend.flatMap fun q => ((cs[q]?).map looked).getD [] } :: l
      else none
    | _, _ => none

def back (ops : Array Oper) : Bool := ops.toList.zipIdx.all fun (o, i) => o.after.all fun e => !(Region.binds .any e) || decide (e.on < i)

def cReg (nt : Nat) (ops : Array Oper) : Option (List COper) :=
    let cs := ops.toList.map fun o => (cOp P o.op).getD .bad
    let bef := (Region.before ops).toList
    let l := layout (cs.map cls) bef ops.size
    if back ops then (laid ops cs bef [] l).bind fun cops => if regOk ops bef nt l cops then some cops else none else none

def cCode (nt : Nat) : Code → Option CCode
  | .skip => some .skip
  | .region _ ops _ => (cReg P nt ops).map .reg
  | .seq a b => (cCode nt a).bind fun a => (cCode nt b).map fun b => .seq a b
  | .cond c a b => (cOpd c).bind fun c => (cCode nt a).bind fun a => (cCode nt b).map fun b => .cond c a b
  | .block id c => (cCode nt c).map (.block id)
  | .loop c => (cCode nt c).map .loop
  | .exit id => some (.exit id)
  | .scope c => (cCode nt c).map .scope
  | .label l => some (.label l)
  | .goto l => some (.goto l)
  | .ret => some .ret
  | .rangeFunc _ _ _ _ => some .bad
  | .refuse _ => some .bad

def cRes : ResultVar → Option CRes
  | .tmp t => some (.t t)
  | .cell a t => (inf P t).bind fun i => (aggT P t).map fun ag => .c a ag i.size

/-- The code of a function, its results. -/
def cFn (f : Func) : Option (Nat × CCode × List CRes) :=
  f.body.bind fun b => (cCode P f.ntmps b).bind fun c => (mapO (cRes P) f.results.toList).map fun r => (f.ntmps, c, r)
end
end Go.Fm
end

section
/- FM: what a tree is in memory. -/
set_option autoImplicit false
namespace Go.Fm

/-- Where a thing of a frame's heap lies: its block, from which cell on, how many cells an element has, for how many elements there is room. -/
structure Loc where
  b : Nat
  o : Nat
  sz : Nat
  K : Nat

/-- A frame's view of memory: where its things lie; which numbers have been given; blocks that nobody writes any more; blocks that this frame does not write. -/
structure Cx where
  μ : Nat → Option Loc
  A : Nat → Prop
  Sf : Nat → Prop
  So : Nat → Prop

def Cx.has (c : Cx) (f : Fl) (b : Nat) : Prop :=
  match f with
  | .own => False
  | .fresh => c.Sf b
  | .old => c.So b

/-- A slice of a row of the frame's own. -/
def SlAt (c : Cx) (id sz off len : Nat) (v : Value) : Prop :=
  c.A id ∧ ∃ A cap, v = .slice A len cap ∧ len ≤ cap ∧ (len ≠ 0 → A ≠ none) ∧ ∀ l, c.μ id = some l → l.sz = sz ∧ off + cap = l.K ∧ (0 < cap → A = some ⟨l.b, l.o + off * l.sz, none⟩)
def PtAt (c : Cx) (id idx sub : Nat) (v : Value) : Prop :=
  c.A id ∧ ∃ a, v = .pointer (some a) ∧ ∀ l, c.μ id = some l → a = ⟨l.b, l.o + idx * l.sz + sub, none⟩
def MpAt (c : Cx) (id : Nat) (v : Value) : Prop :=
  c.A id ∧ ∃ r, v = .map (some r) ∧ ∀ l, c.μ id = some l → r = l.b

/-- The view of what is laid open: no thing of a frame's heap is named. -/
def Cx.bare (c : Cx) : Cx := { μ := fun _ => none, A := fun _ => False, Sf := c.Sf, So := c.So }

inductive R (w : World) : Cx → V → Value → Prop
  | undef {c : Cx} : R w c .undef (.tuple #[])
  | junk {c : Cx} {v : Value} (h : v.oneCell' = true) : R w c .junk v
  | int {c : Cx} (k : IntKind) (n : Int) : R w c (.int k n) (.int k n)
  | bool {c : Cx} (b : Bool) : R w c (.bool b) (.bool b)
  | str {c : Cx} (s : List UInt8) : R w c (.str s) (.string ⟨s.toArray⟩)
  | arr {c : Cx} {f : Fl} {sz : Nat} {es : List (List V)} {A : Option Addr} {cap : Nat} (a : Addr) (cv : Nat → Nat → Value)
      (hf : f ≠ .own) (hc : es.length ≤ cap) (hs : ∀ (i : Nat) (e : List V), es[i]? = some e → e.length = sz)
      (hA : es ≠ [] → A = some a ∧ a.spot = none ∧ c.has f a.block)
      (hx : ∀ (i : Nat) (e : List V) (j : Nat) (x : V), es[i]? = some e → e[j]? = some x → isCell x = true ∧ w.cell? ⟨a.block, a.off + i * sz + j, none⟩ = some (cv i j))
      (hr : ∀ (i : Nat) (e : List V) (j : Nat) (x : V), es[i]? = some e → e[j]? = some x → R w c.bare x (cv i j)) : R w c (.arr f sz es) (.slice A es.length cap)
  | nilsl {c : Cx} : R w c .nilsl (.slice none 0 0)
  | z {c : Cx} (A : Option Addr) : R w c .z (.slice A 0 0)
  | sl {c : Cx} {id sz off len : Nat} {v : Value} (h : SlAt c id sz off len v) : R w c (.sl id sz off len) v
  | pt {c : Cx} {id idx sub : Nat} {v : Value} (h : PtAt c id idx sub v) : R w c (.pt id idx sub) v
  | nilp {c : Cx} : R w c .nilp (.pointer none)
  | ro {c : Cx} {f : Fl} {cs : List V} (a : Addr) (cv : Nat → Value) (hf : f ≠ .own) (ha : a.spot = none) (hA : cs ≠ [] → c.has f a.block)
      (hx : ∀ (j : Nat) (x : V), cs[j]? = some x → isCell x = true ∧ w.cell? ⟨a.block, a.off + j, none⟩ = some (cv j))
      (hr : ∀ (j : Nat) (x : V), cs[j]? = some x → R w c.bare x (cv j)) : R w c (.ro f cs) (.pointer (some a))
  | mp {c : Cx} {id : Nat} {v : Value} (h : MpAt c id v) : R w c (.mp id) v
  | map {c : Cx} {f : Fl} {es : List (V × V)} {r : Nat} (ents : Array MapEntry) (clock : Nat) (hf : f ≠ .own) (hA : c.has f r)
      (hm : w.heap[r]? = some (.map ents clock)) (hl : ents.size = es.length)
      (hk : ∀ (i : Nat) (k x : V) (e : MapEntry), es[i]? = some (k, x) → ents[i]? = some e → R w c.bare k e.key)
      (hr : ∀ (i : Nat) (k x : V) (e : MapEntry), es[i]? = some (k, x) → ents[i]? = some e → R w c.bare x e.val) : R w c (.map f es) (.map (some r))
  | nilmap {c : Cx} : R w c .nilmap (.map none)
  | fn {c : Cx} {f : FuncId} {a b : List V} {va vb : Array Value} (ha : a.length = va.size) (hb : b.length = vb.size)
      (ra : ∀ (j : Nat) (x : V) (v : Value), a[j]? = some x → va[j]? = some v → R w c x v)
      (rb : ∀ (j : Nat) (x : V) (v : Value), b[j]? = some x → vb[j]? = some v → R w c x v) : R w c (.fn f a b) (.func (.func f) va vb)
  | agg {c : Cx} {cs : List V} {vs : Array Value} (hl : cs.length = vs.size) (hx : ∀ (j : Nat) (x : V), cs[j]? = some x → isCell x = true)
      (hr : ∀ (j : Nat) (x : V) (v : Value), cs[j]? = some x → vs[j]? = some v → R w c x v) : R w c (.agg cs) (.agg vs)
  | tup {c : Cx} {cs : List V} {vs : Array Value} (hl : cs.length = vs.size)
      (hr : ∀ (j : Nat) (x : V) (v : Value), cs[j]? = some x → vs[j]? = some v → R w c x v) : R w c (.tup cs) (.tuple vs)

/-- Lists of values, place by place. -/
def Rs (w : World) (c : Cx) (xs : List V) (vs : List Value) : Prop :=
  xs.length = vs.length ∧ ∀ (j : Nat) (x : V) (v : Value), xs[j]? = some x → vs[j]? = some v → R w c x v

theorem Rs.nil (w : World) (c : Cx) : Rs w c [] [] := ⟨rfl, fun j x v h => by simp at h⟩
theorem Rs.cons {w : World} {c : Cx} {x : V} {v : Value} {xs : List V} {vs : List Value} (h : R w c x v) (hs : Rs w c xs vs) : Rs w c (x :: xs) (v :: vs) := by
  refine ⟨by simp [hs.1], fun j y u hy hu => ?_⟩
  cases j with
  | zero => simp at hy hu; subst hy; subst hu; exact h
  | succ j => simp at hy hu; exact hs.2 j y u hy hu
theorem Rs.head {w : World} {c : Cx} {x : V} {v : Value} {xs : List V} {vs : List Value} (h : Rs w c (x :: xs) (v :: vs)) : R w c x v := h.2 0 x v rfl rfl
theorem Rs.tail {w : World} {c : Cx} {x : V} {v : Value} {xs : List V} {vs : List Value} (h : Rs w c (x :: xs) (v :: vs)) : Rs w c xs vs :=
  ⟨by simpa using h.1, fun j y u hy hu => h.2 (j + 1) y u (by simpa using hy) (by simpa using hu)⟩
theorem Rs.append {w : World} {c : Cx} {xs ys : List V} {vs us : List Value} (h : Rs w c xs vs) (k : Rs w c ys us) : Rs w c (xs ++ ys) (vs ++ us) := by
  refine ⟨by simp [h.1, k.1], fun j y u hy hu => ?_⟩
  rcases Nat.lt_or_ge j xs.length with hj | hj
  · rw [List.getElem?_append_left hj] at hy
    rw [List.getElem?_append_left (by rw [← h.1]; exact hj)] at hu
    exact h.2 j y u hy hu
  · rw [List.getElem?_append_right hj] at hy
    rw [List.getElem?_append_right (by rw [← h.1]; exact hj), ← h.1] at hu
    exact k.2 _ y u hy hu
theorem Rs.take {w : World} {c : Cx} {xs : List V} {vs : List Value} (h : Rs w c xs vs) (n : Nat) : Rs w c (xs.take n) (vs.take n) := by
  refine ⟨by simp [h.1], fun j y u hy hu => ?_⟩
  rw [List.getElem?_take] at hy hu
  split at hy
  · rename_i hj
    rw [if_pos hj] at hu
    exact h.2 j y u hy hu
  · cases hy
theorem Rs.drop {w : World} {c : Cx} {xs : List V} {vs : List Value} (h : Rs w c xs vs) (n : Nat) : Rs w c (xs.drop n) (vs.drop n) := by
  refine ⟨by simp [h.1], fun j y u hy hu => ?_⟩
  rw [List.getElem?_drop] at hy hu
  exact h.2 _ y u hy hu
theorem Rs.get {w : World} {c : Cx} {xs : List V} {vs : List Value} (h : Rs w c xs vs) {j : Nat} {x : V} (hx : xs[j]? = some x) : ∃ v, vs[j]? = some v ∧ R w c x v := by
  have hj : j < xs.length := (List.getElem?_eq_some_iff.1 hx).1
  have hv : vs[j]? = some (vs[j]'(by rw [← h.1]; exact hj)) := List.getElem?_eq_getElem _
  exact ⟨_, hv, h.2 j x _ hx hv⟩
theorem Rs.of_array {w : World} {c : Cx} {xs : List V} {vs : Array Value} (hl : xs.length = vs.size) (h : ∀ (j : Nat) (x : V) (v : Value), xs[j]? = some x → vs[j]? = some v → R w c x v) : Rs w c xs vs.toList :=
  ⟨by simpa using hl, fun j x v hx hv => h j x v hx (by simpa using hv)⟩

theorem R.one {w : World} {c : Cx} {x : V} {v : Value} (h : R w c x v) (hx : isCell x = true) : v.oneCell' = true := by
  cases h <;> first
    | (simp [isCell] at hx; done)
    | rfl
    | assumption
    | (rename_i h; obtain ⟨_, _, _, rfl, _⟩ := h; rfl)
    | (rename_i h; obtain ⟨_, _, rfl, _⟩ := h; rfl)

/-- What a frame's view may become: things may be let go, new ones come; blocks come to rest. -/
structure Ext (c c' : Cx) : Prop where
  A : ∀ id, c.A id → c'.A id
  μ : ∀ id l, c.A id → c'.μ id = some l → c.μ id = some l
  Sf : ∀ b, c.Sf b → c'.Sf b
  So : ∀ b, c.So b → c'.So b
theorem Ext.refl (c : Cx) : Ext c c := ⟨fun _ h => h, fun _ _ _ h => h, fun _ h => h, fun _ h => h⟩
theorem Ext.trans {a b c : Cx} (h : Ext a b) (k : Ext b c) : Ext a c :=
  ⟨fun id x => k.A id (h.A id x), fun id l x y => h.μ id l x (k.μ id l (h.A id x) y), fun x y => k.Sf x (h.Sf x y), fun x y => k.So x (h.So x y)⟩
/-- Blocks at rest stay. -/
def Keep (c : Cx) (w w' : World) : Prop := ∀ b, c.Sf b ∨ c.So b → w'.heap[b]? = w.heap[b]?
theorem Keep.refl (c : Cx) (w : World) : Keep c w w := fun _ _ => rfl
theorem Cx.has_ext {c c' : Cx} (h : Ext c c') {f : Fl} {b : Nat} (hb : c.has f b) : c'.has f b := by
  cases f with
  | own => exact hb
  | fresh => exact h.Sf b hb
  | old => exact h.So b hb
theorem Cx.has_or {c : Cx} {f : Fl} {b : Nat} (hb : c.has f b) : c.Sf b ∨ c.So b := by
  cases f with
  | own => exact hb.elim
  | fresh => exact .inl hb
  | old => exact .inr hb
theorem cell_keep {w w' : World} {a : Addr} (h : w'.heap[a.block]? = w.heap[a.block]?) : w'.cell? a = w.cell? a := by
  unfold World.cell?; rw [h]

theorem Ext.bare {c c' : Cx} (h : Ext c c') : Ext c.bare c'.bare := ⟨fun _ h => h, fun _ _ h => h.elim, h.Sf, h.So⟩
theorem Ext.of_bare (c : Cx) : Ext c.bare c := ⟨fun _ h => h.elim, fun _ _ h => h.elim, fun _ h => h, fun _ h => h⟩
theorem Cx.bare_bare (c : Cx) : c.bare.bare = c.bare := rfl

theorem R.ext {w w' : World} {c : Cx} {x : V} {v : Value} (h : R w c x v) : ∀ {c' : Cx}, Ext c c' → Keep c w w' → R w' c' x v := by
  induction h with
  | undef => exact fun _ _ => .undef
  | junk h => exact fun _ _ => .junk h
  | int k n => exact fun _ _ => .int k n
  | bool b => exact fun _ _ => .bool b
  | str s => exact fun _ _ => .str s
  | arr a cv hf hc hs hA hx hr ih =>
    intro c' he hk
    refine .arr a cv hf hc hs (fun hn => ?_) (fun i e j x h1 h2 => ?_) (fun i e j x h1 h2 => ih i e j x h1 h2 he.bare hk)
    · obtain ⟨h1, h2, h3⟩ := hA hn
      exact ⟨h1, h2, Cx.has_ext he h3⟩
    · obtain ⟨h3, h4⟩ := hx i e j x h1 h2
      refine ⟨h3, ?_⟩
      rw [cell_keep, h4]
      refine hk a.block (Cx.has_or (hA ?_).2.2)
      intro hn
      rw [hn] at h1
      simp at h1
  | nilsl => exact fun _ _ => .nilsl
  | z A => exact fun _ _ => .z A
  | sl h =>
    intro c' he hk
    obtain ⟨h0, A, cap, rfl, hc, hn, h1⟩ := h
    exact .sl ⟨he.A _ h0, A, cap, rfl, hc, hn, fun l hl => h1 l (he.μ _ l h0 hl)⟩
  | pt h =>
    intro c' he hk
    obtain ⟨h0, a, rfl, h1⟩ := h
    exact .pt ⟨he.A _ h0, a, rfl, fun l hl => h1 l (he.μ _ l h0 hl)⟩
  | nilp => exact fun _ _ => .nilp
  | ro a cv hf ha hA hx hr ih =>
    intro c' he hk
    refine .ro a cv hf ha (fun hn => Cx.has_ext he (hA hn)) (fun j x h1 => ?_) (fun j x h1 => ih j x h1 he.bare hk)
    obtain ⟨h3, h4⟩ := hx j x h1
    refine ⟨h3, ?_⟩
    rw [cell_keep, h4]
    refine hk a.block (Cx.has_or (hA ?_))
    intro hn
    rw [hn] at h1
    simp at h1
  | mp h =>
    intro c' he hk
    obtain ⟨h0, a, rfl, h1⟩ := h
    exact .mp ⟨he.A _ h0, a, rfl, fun l hl => h1 l (he.μ _ l h0 hl)⟩
  | map ents clock hf hA hm hl hk' hr ihk ih =>
    intro c' he hk
    exact .map ents clock hf (Cx.has_ext he hA) (by rw [hk _ (Cx.has_or hA), hm]) hl (fun i k x e h1 h2 => ihk i k x e h1 h2 he.bare hk) (fun i k x e h1 h2 => ih i k x e h1 h2 he.bare hk)
  | nilmap => exact fun _ _ => .nilmap
  | fn ha hb ra rb iha ihb => exact fun he hk => .fn ha hb (fun j x v h1 h2 => iha j x v h1 h2 he hk) (fun j x v h1 h2 => ihb j x v h1 h2 he hk)
  | agg hl hx hr ih => exact fun he hk => .agg hl hx (fun j x v h1 h2 => ih j x v h1 h2 he hk)
  | tup hl hr ih => exact fun he hk => .tup hl (fun j x v h1 h2 => ih j x v h1 h2 he hk)
theorem R.up {w : World} {c : Cx} {x : V} {v : Value} (h : R w c.bare x v) : R w c x v := h.ext (Ext.of_bare c) (Keep.refl _ _)
theorem Rs.ext {w w' : World} {c c' : Cx} (he : Ext c c') (hk : Keep c w w') {xs : List V} {vs : List Value} (h : Rs w c xs vs) : Rs w' c' xs vs :=
  ⟨h.1, fun j x v hx hv => (h.2 j x v hx hv).ext he hk⟩

/-! ### The frame's heap in memory -/
/-- A thing lies there. -/
def Lies (w : World) (c : Cx) (l : Loc) : Thing → Prop
  | .row sz _ cl es => l.sz = sz ∧ es.length ≤ l.K ∧ (∀ (i : Nat) (e : List V), es[i]? = some e → e.length = sz) ∧ (0 < l.K → ∃ C t, w.heap[l.b]? = some (.cells C t (0, 0)) ∧ l.o + l.K * sz ≤ C.size ∧
      ∀ (i : Nat) (e : List V) (j : Nat) (x : V), es[i]? = some e → e[j]? = some x → isCell x = true ∧ ∃ v, C[l.o + i * sz + j]? = some v ∧ R w (if cl then c.bare else c) x v)
  | .box cs => 0 < l.K ∧ ∃ C t, w.heap[l.b]? = some (.cells C t (0, 0)) ∧ l.o + cs.length ≤ C.size ∧ ∀ (j : Nat) (x : V), cs[j]? = some x → isCell x = true ∧ ∃ v, C[l.o + j]? = some v ∧ R w c x v
  | .map _ es => 0 < l.K ∧ ∃ ents clock, w.heap[l.b]? = some (.map ents clock) ∧ ents.size = es.length ∧
      ∀ (i : Nat) (k x : V) (e : MapEntry), es[i]? = some (k, x) → ents[i]? = some e → R w c.bare k e.key ∧ R w c.bare x e.val

structure Heaps (w : World) (c : Cx) (H : HeapF) : Prop where
  at_ : ∀ id th, H id = some th → ∃ l, c.μ id = some l ∧ Lies w c l th
  num : ∀ id, ¬ c.A id → H id = none
  /-- what may be written is at no block at rest -/
  free : ∀ id th l, H id = some th → c.μ id = some l → th.open_ = true → 0 < l.K → ¬ c.Sf l.b ∧ ¬ c.So l.b ∧ l.b < w.heap.size
  /-- what may not be written is at rest -/
  rest : ∀ id th l, H id = some th → c.μ id = some l → th.open_ = false → 0 < l.K → c.Sf l.b
  /-- things that may be written do not share a block -/
  apart : ∀ i j th th' l l', i ≠ j → H i = some th → H j = some th' → c.μ i = some l → c.μ j = some l' → th.open_ = true → th'.open_ = true → 0 < l.K → 0 < l'.K → l.b ≠ l'.b
  old : ∀ b, c.Sf b ∨ c.So b → b < w.heap.size
end Go.Fm
end

section
/- FM: what looks at no heap comes to what the model's operation comes to. -/
set_option autoImplicit false
namespace Go.Fm

section
variable {P : Program} {w : World} {c : Cx}

theorem R.int_inv {k : IntKind} {n : Int} {v : Value} (h : R w c (.int k n) v) : v = .int k n := by cases h; rfl
theorem R.bool_inv {b : Bool} {v : Value} (h : R w c (.bool b) v) : v = .bool b := by cases h; rfl
theorem R.str_inv {s : List UInt8} {v : Value} (h : R w c (.str s) v) : v = .string ⟨s.toArray⟩ := by cases h; rfl
theorem R.agg_inv {cs : List V} {v : Value} (h : R w c (.agg cs) v) : ∃ vs : Array Value, v = .agg vs ∧ Rs w c cs vs.toList ∧ ∀ (j : Nat) (x : V), cs[j]? = some x → isCell x = true := by
  cases h with
  | agg hl hx hr => exact ⟨_, rfl, Rs.of_array hl hr, hx⟩
theorem R.tup_inv {cs : List V} {v : Value} (h : R w c (.tup cs) v) : ∃ vs : Array Value, v = .tuple vs ∧ Rs w c cs vs.toList := by
  cases h with
  | tup hl hr => exact ⟨_, rfl, Rs.of_array hl hr⟩
theorem R.agg_mk {cs : List V} {vs : List Value} (h : Rs w c cs vs) (hx : ∀ (j : Nat) (x : V), cs[j]? = some x → isCell x = true) : R w c (.agg cs) (.agg vs.toArray) :=
  .agg (by simpa using h.1) hx (fun j x v h1 h2 => h.2 j x v h1 (by simpa using h2))
theorem R.tup_mk {cs : List V} {vs : List Value} (h : Rs w c cs vs) : R w c (.tup cs) (.tuple vs.toArray) :=
  .tup (by simpa using h.1) (fun j x v h1 h2 => h.2 j x v h1 (by simpa using h2))

theorem strEq (a b : List UInt8) : ((⟨a.toArray⟩ : ByteArray).toList == (⟨b.toArray⟩ : ByteArray).toList) = (a == b) := by
  rw [ByteArray.toList_eq, ByteArray.toList_eq]

/-! ### Binary operations -/
theorem ibin_sound {op : BinOp} {k : IntKind} {a b : Int} {v : V} (t : TypeId) (h : ibin op k a b = some v) :
    ∃ v', (binOp op t (.int k a) (.int k b)).run P w = .ok v' w ∧ R w c v v' := by
  cases op <;> simp only [ibin, Option.some.injEq, reduceCtorEq] at h <;> first
    | (subst h; refine ⟨_, ?_, .int _ _⟩; simp [binOp, Op.intArith, Op.intBits]; done)
    | (subst h; refine ⟨_, ?_, .bool _⟩; simp [binOp, Op.intCmp]; done)
    | (split at h
       · cases h
       · rename_i hb; cases h; refine ⟨_, ?_, .int _ _⟩; simp [binOp, Op.intDiv, hb])

theorem ishift_sound {op : BinOp} {k yk : IntKind} {a b : Int} {v : V} (t : TypeId) (ho : op = .shl ∨ op = .shr) (h : ishift op k a b = some v) :
    ∃ v', (binOp op t (.int k a) (.int yk b)).run P w = .ok v' w ∧ R w c v v' := by
  rcases ho with rfl | rfl <;>
  · simp only [ishift] at h
    split at h
    · cases h
    · rename_i hb; cases h; refine ⟨_, ?_, .int _ _⟩; simp [binOp, Op.shift, hb]

theorem sbin_sound {op : BinOp} {a b : List UInt8} {v : V} (t : TypeId) (h : sbin op a b = some v) :
    ∃ v', (binOp op t (.string ⟨a.toArray⟩) (.string ⟨b.toArray⟩)).run P w = .ok v' w ∧ R w c v v' := by
  cases op <;> simp only [sbin, Option.some.injEq, reduceCtorEq] at h
  case add =>
    split at h
    · rename_i hl
      cases h
      refine ⟨.string ⟨(a ++ b).toArray⟩, ?_, .str _⟩
      have hs : ¬ (IntKind.max .i64 < (((⟨a.toArray⟩ : ByteArray).size + (⟨b.toArray⟩ : ByteArray).size : Nat) : Int)) := by
        show ¬ (_ < (((a.toArray.size + b.toArray.size : Nat)) : Int))
        simp only [List.size_toArray]
        have : (IntKind.max .i64) = 9223372036854775807 := by decide
        omega
      simp only [binOp, Op.stringOp]
      rw [if_neg hs]
      simp only [Sem.run_pure]
      congr 2
    · cases h
  all_goals (subst h; refine ⟨_, ?_, .bool _⟩; simp only [binOp, Op.stringOp, Sem.run_pure, strEq])



theorem R.slice_of {x : V} {v : Value} (hx : R w c x v) {b : Bool} (h : isNil 0 x = some b) : ∃ A n k, v = .slice A n k ∧ b = A.isNone := by
  cases hx with
  | arr a cv hf hc hs hA hx hr =>
    simp only [isNil] at h
    split at h
    · cases h
    · rename_i hne
      cases h
      have := (hA (by intro hn; simp [hn] at hne)).1
      subst this
      exact ⟨_, _, _, rfl, rfl⟩
  | nilsl => simp only [isNil, Option.some.injEq] at h; subst h; exact ⟨_, _, _, rfl, rfl⟩
  | sl hs =>
    simp only [isNil] at h
    split at h
    · cases h
    · rename_i hne
      cases h
      obtain ⟨_, A, cap, rfl, _, hn, _⟩ := hs
      refine ⟨_, _, _, rfl, ?_⟩
      cases A with
      | none => exact absurd rfl (hn hne)
      | some a => rfl
  | _ => simp [isNil] at h
theorem R.ptr_of {x : V} {v : Value} (hx : R w c x v) {b : Bool} (h : isNil 1 x = some b) : ∃ a, v = .pointer a ∧ b = a.isNone := by
  cases hx with
  | pt hs => simp only [isNil, Option.some.injEq] at h; subst h; obtain ⟨_, a, rfl, _⟩ := hs; exact ⟨_, rfl, rfl⟩
  | nilp => simp only [isNil, Option.some.injEq] at h; subst h; exact ⟨_, rfl, rfl⟩
  | ro a cv hf ha hA hx hr => simp only [isNil, Option.some.injEq] at h; subst h; exact ⟨_, rfl, rfl⟩
  | _ => simp [isNil] at h
theorem R.map_of {x : V} {v : Value} (hx : R w c x v) {b : Bool} (h : isNil 2 x = some b) : ∃ a, v = .map a ∧ b = a.isNone := by
  cases hx with
  | mp hs => simp only [isNil, Option.some.injEq] at h; subst h; obtain ⟨_, a, rfl, _⟩ := hs; exact ⟨_, rfl, rfl⟩
  | nilmap => simp only [isNil, Option.some.injEq] at h; subst h; exact ⟨_, rfl, rfl⟩
  | map ents clock hf hA hm hl hk hr => simp only [isNil, Option.some.injEq] at h; subst h; exact ⟨_, rfl, rfl⟩
  | _ => simp [isNil] at h

theorem equal_slice_nil {t e : TypeId} (hu : P.underlying t = some (.slice e)) (a : Option Addr) (n k : Nat) : (Op.equal t (.slice a n k) (.slice none 0 0)).run P w = .ok a.isNone w := by
  unfold Op.equal
  rw [show Op.maxDepth = 9999 + 1 from rfl]
  generalize 9999 = d
  cases a <;> simp [Op.equalIn, run_underlying hu]
theorem equal_ptr_nil {t e : TypeId} (hu : P.underlying t = some (.pointer e)) (a : Option Addr) : (Op.equal t (.pointer a) (.pointer none)).run P w = .ok a.isNone w := by
  unfold Op.equal
  rw [show Op.maxDepth = 9999 + 1 from rfl]
  generalize 9999 = d
  cases a <;> simp [Op.equalIn, run_underlying hu]
theorem equal_map_nil {t e f : TypeId} (hu : P.underlying t = some (.map e f)) (a : Option Nat) : (Op.equal t (.map a) (.map none)).run P w = .ok a.isNone w := by
  unfold Op.equal
  rw [show Op.maxDepth = 9999 + 1 from rfl]
  generalize 9999 = d
  cases a <;> simp [Op.equalIn, run_underlying hu]
theorem equal_bool {t : TypeId} (hu : P.underlying t = some .bool) (a b : Bool) : (Op.equal t (.bool a) (.bool b)).run P w = .ok (a == b) w := by
  unfold Op.equal
  rw [show Op.maxDepth = 9999 + 1 from rfl]
  generalize 9999 = d
  simp [Op.equalIn, run_underlying hu]

/-- '==', '!=' by 'equal', where the operands are no numbers and no strings. -/
theorem eq_sound {op : BinOp} {t : TypeId} {neg : Bool} {x y : Operand} {v u : Value} {b : Bool} (ho : eqNeg op = some neg) (he : (Op.equal t v u).run P w = .ok b w)
    (hg : (eqGuard op t x y v u).run P w = .ok () w) (hb : ∀ op, op = .eql ∨ op = .neq → binOp op t v u = (match op with | .eql => do pure (.bool (← Op.equal t v u)) | _ => do pure (.bool (!(← Op.equal t v u))))) :
    (do eqGuard op t x y v u; binOp op t v u : Sem Value).run P w = .ok (.bool (if neg then !b else b)) w := by
  cases op <;> simp only [eqNeg, reduceCtorEq, Option.some.injEq] at ho <;> subst ho
  · rw [Sem.run_bind, hg, Result.andThen_ok, hb _ (.inl rfl)]
    simp [he]
  · rw [Sem.run_bind, hg, Result.andThen_ok, hb _ (.inr rfl)]
    simp [he]

theorem nil_sound {op : BinOp} {t : TypeId} {neg : Bool} {kd : Nat} {x y : Operand} (ho : eqNeg op = some neg) (ht : nilT P t = some kd) (hy : isNilC kd y = true) {xv : V} {v : Value} {ρ : Operand → Value} (hρ : ∀ u, ρ (.const u) = u)
    (hx : R w c xv v) (hv : ρ x = v) {b : Bool} (h : isNil kd xv = some b) :
    (do eqGuard op t x y (ρ x) (ρ y); binOp op t (ρ x) (ρ y) : Sem Value).run P w = .ok (.bool (if neg then !b else b)) w := by
  unfold nilT und at ht
  cases hu : P.underlying t with
  | none => rw [hu] at ht; cases ht
  | some d =>
    rw [hu] at ht
    cases d <;> simp only [reduceCtorEq, Option.some.injEq] at ht <;> subst ht
    case pointer e =>
      obtain ⟨a, rfl, rfl⟩ := hx.ptr_of h
      have : ρ y = .pointer none := by
        unfold isNilC at hy
        split at hy <;> simp_all
      rw [hv, this]
      exact eq_sound ho (equal_ptr_nil hu a) (by cases op <;> simp [eqGuard]) (by rintro op (rfl | rfl) <;> rfl)
    case slice e =>
      obtain ⟨a, n, k, rfl, rfl⟩ := hx.slice_of h
      have : ρ y = .slice none 0 0 := by
        unfold isNilC at hy
        split at hy <;> simp_all
      rw [hv, this]
      exact eq_sound ho (equal_slice_nil hu a n k) (by cases op <;> simp [eqGuard]) (by rintro op (rfl | rfl) <;> rfl)
    case map e f =>
      obtain ⟨a, rfl, rfl⟩ := hx.map_of h
      have : ρ y = .map none := by
        unfold isNilC at hy
        split at hy <;> simp_all
      rw [hv, this]
      exact eq_sound ho (equal_map_nil hu a) (by cases op <;> simp [eqGuard]) (by rintro op (rfl | rfl) <;> rfl)
theorem eqb_sound {op : BinOp} {t : TypeId} {neg : Bool} {x y : Operand} (ho : eqNeg op = some neg) (hu : P.underlying t = some .bool) (a b : Bool) :
    (do eqGuard op t x y (.bool a) (.bool b); binOp op t (.bool a) (.bool b) : Sem Value).run P w = .ok (.bool (if neg then !(a == b) else a == b)) w :=
  eq_sound ho (equal_bool hu a b) (by cases op <;> simp [eqGuard]) (by rintro op (rfl | rfl) <;> rfl)

/-! ### Structs and arrays of plain cells -/
theorem run_equalIn_any {k : Sk} {x y : V} {v u : Value} {b : Bool} (hx : R w c x v) (hy : R w c y u) (h : ceq k x y = some b) (d : Nat) (t : TypeId) (ht : scalT P t = some k) :
    (Op.equalIn (d + 1) t v u).run P w = .ok b w := by
  unfold scalT und at ht
  cases hu : P.underlying t with
  | none => rw [hu] at ht; cases ht
  | some de =>
    rw [hu] at ht
    cases k <;> cases x <;> cases y <;> simp only [ceq, reduceCtorEq, Option.some.injEq] at h
    · split at h
      · cases h
        rename_i hk
        subst hk
        rw [hx.int_inv, hy.int_inv]
        cases de <;> simp only [reduceCtorEq, Option.some.injEq] at ht
        simp [Op.equalIn, run_underlying hu]
      · cases h
    · subst h
      rw [hx.str_inv, hy.str_inv]
      cases de <;> simp only [reduceCtorEq, Option.some.injEq] at ht
      rw [run_equalIn_string w d t _ _ hu, strEq]
    · subst h
      rw [hx.bool_inv, hy.bool_inv]
      cases de <;> simp only [reduceCtorEq, Option.some.injEq] at ht
      exact run_equalIn_bool' w d t _ _ hu

theorem part_scal {k : Sk} {t : TypeId} (ht : scalT P t = some k) {vs : Array Value} {i : Nat} {v : Value} (hv : vs[i]? = some v) : (part t vs i).run P w = .ok v w := by
  unfold scalT und at ht
  cases hu : P.underlying t with
  | none => rw [hu] at ht; cases ht
  | some de =>
    rw [hu] at ht
    cases de <;> simp only [reduceCtorEq] at ht <;> simp [part, isAgg, run_underlying hu, hv]

theorem eqFields_sound (d : Nat) {xs ys : Array Value} : ∀ (fs : List Field) (ks : List Sk) (as bs : List V) (i : Nat) (b : Bool), mapO (fun f => scalT P f.type) fs = some ks →
    (∀ (j : Nat) (f : Field), fs[j]? = some f → f.offset = i + j ∧ f.name ≠ "_") → Rs w c as (xs.toList.drop i) → Rs w c bs (ys.toList.drop i) → ceqs ks as bs = some b →
    (Op.eqFields (d + 1) xs ys fs).run P w = .ok b w := by
  intro fs
  induction fs with
  | nil =>
    intro ks as bs i b hk hf ha hb h
    cases hk
    cases as <;> cases bs <;> simp only [ceqs, reduceCtorEq, Option.some.injEq] at h
    subst h
    rfl
  | cons f fs ih =>
    intro ks as bs i b hk hf ha hb h
    simp only [mapO, Option.bind_eq_some_iff] at hk
    obtain ⟨k, hk1, ks', hk2, hk3⟩ := hk
    cases hk3
    cases as with
    | nil => simp [ceqs] at h
    | cons x as =>
      cases bs with
      | nil => simp [ceqs] at h
      | cons y bs =>
        simp only [ceqs, Option.bind_eq_some_iff] at h
        obtain ⟨p, hp, q, hq, hr⟩ := h
        cases hr
        obtain ⟨ho, hn⟩ := hf 0 f rfl
        obtain ⟨v, hv, hxv⟩ := ha.get (j := 0) rfl
        obtain ⟨u, hu, hyu⟩ := hb.get (j := 0) rfl
        rw [List.getElem?_drop] at hv hu
        have hv' : xs[i]? = some v := by simpa using hv
        have hu' : ys[i]? = some u := by simpa using hu
        rw [Nat.add_zero] at ho
        have he := run_equalIn_any (P := P) hxv hyu hp d f.type hk1
        have ha' : Rs w c as (xs.toList.drop (i + 1)) := by
          have h1 := ha.drop 1
          simpa [List.drop_drop, Nat.add_comm] using h1
        have hb' : Rs w c bs (ys.toList.drop (i + 1)) := by
          have h1 := hb.drop 1
          simpa [List.drop_drop, Nat.add_comm] using h1
        have hih := ih ks' as bs (i + 1) q hk2 (fun j g hg => by
          have := hf (j + 1) g (by simpa using hg)
          exact ⟨by rw [this.1]; omega, this.2⟩) ha' hb' hq
        simp only [Op.eqFields, ne_eq, hn, not_false_eq_true, if_true, Sem.run_bind, ho, part_scal hk1 hv', part_scal hk1 hu', Result.andThen_ok, he]
        cases p with
        | true => simp [hih]
        | false => simp

theorem eqItems_sound (d : Nat) {e : TypeId} {k : Sk} (hk : scalT P e = some k) {xs ys : Array Value} : ∀ (n i : Nat) (as bs : List V) (b : Bool), Rs w c as (xs.toList.drop i) → Rs w c bs (ys.toList.drop i) →
    ceqs (List.replicate n k) as bs = some b → (Op.eqItems (d + 1) e 1 xs ys (List.range' i n)).run P w = .ok b w := by
  intro n
  induction n with
  | zero =>
    intro i as bs b ha hb h
    cases as <;> cases bs <;> simp only [List.replicate, ceqs, reduceCtorEq, Option.some.injEq] at h
    subst h
    rfl
  | succ n ih =>
    intro i as bs b ha hb h
    cases as with
    | nil => simp [ceqs, List.replicate] at h
    | cons x as =>
      cases bs with
      | nil => simp [ceqs, List.replicate] at h
      | cons y bs =>
        simp only [List.replicate, ceqs, Option.bind_eq_some_iff] at h
        obtain ⟨p, hp, q, hq, hr⟩ := h
        cases hr
        obtain ⟨v, hv, hxv⟩ := ha.get (j := 0) rfl
        obtain ⟨u, hu, hyu⟩ := hb.get (j := 0) rfl
        rw [List.getElem?_drop] at hv hu
        have hv' : xs[i]? = some v := by simpa using hv
        have hu' : ys[i]? = some u := by simpa using hu
        have he := run_equalIn_any (P := P) hxv hyu hp d e hk
        have ha' : Rs w c as (xs.toList.drop (i + 1)) := by
          have h1 := ha.drop 1
          simpa [List.drop_drop, Nat.add_comm] using h1
        have hb' : Rs w c bs (ys.toList.drop (i + 1)) := by
          have h1 := hb.drop 1
          simpa [List.drop_drop, Nat.add_comm] using h1
        have hih := ih (i + 1) as bs q ha' hb' hq
        simp only [List.range'_succ, Op.eqItems, Nat.mul_one, Sem.run_bind, part_scal hk hv', part_scal hk hu', Result.andThen_ok, he]
        cases p with
        | true => simp [hih]
        | false => simp

theorem flat_sound {t : TypeId} {ks : List Sk} (ht : flatT P t = some ks) {as bs : List V} {xs ys : Array Value} (ha : Rs w c as xs.toList) (hb : Rs w c bs ys.toList) {b : Bool} (h : ceqs ks as bs = some b) :
    (Op.equal t (.agg xs) (.agg ys)).run P w = .ok b w ∧ P.eqGuardType P.depth t = false := by
  unfold Op.equal
  rw [show Op.maxDepth = 9998 + 1 + 1 from rfl]
  generalize 9998 = d
  unfold flatT und at ht
  cases hu : P.underlying t with
  | none => rw [hu] at ht; cases ht
  | some de =>
    rw [hu] at ht
    cases de <;> simp only [reduceCtorEq] at ht
    case struct fs =>
      split at ht
      · rename_i hc
        simp only [Bool.and_eq_true, Bool.not_eq_true', List.all_eq_true] at hc
        obtain ⟨⟨hf, hs⟩, hg⟩ := hc
        refine ⟨?_, hg⟩
        rw [run_equalIn_struct w (d + 1) t xs ys (by simp [Program.fieldsOf, hu]) hs]
        have hfo : P.fieldsOf t = fs := by simp [Program.fieldsOf, hu]
        rw [hfo]
        refine eqFields_sound d fs.toList ks as bs 0 b ht (fun j f hj => ?_) (by simpa using ha) (by simpa using hb) h
        have hm : (f, j) ∈ fs.toList.zipIdx := by
          rw [List.mem_zipIdx_iff_getElem?]
          exact hj
        have := hf _ hm
        simp only [beq_iff_eq, bne_iff_ne] at this
        exact ⟨by rw [this.1]; omega, this.2⟩
      · cases ht
    case array n e =>
      split at ht
      · rename_i hc
        simp only [Bool.and_eq_true, Bool.not_eq_true', beq_iff_eq] at hc
        unfold inf at hc
        refine ⟨?_, hc.2⟩
        obtain ⟨k, hk, hr⟩ := Option.map_eq_some_iff.1 ht
        subst hr
        cases hi : P.info? e with
        | none => rw [hi] at hc; simp at hc
        | some i =>
          rw [hi] at hc
          have h1 : i.size = 1 := by simpa using hc.1
          rw [run_equalIn_array w (d + 1) xs ys hu hi]
          have hce : P.cellsOf e = 1 := by simp [Program.cellsOf, hi, h1]
          rw [hce, List.range_eq_range']
          exact eqItems_sound d hk n 0 as bs b (by simpa using ha) (by simpa using hb) h
      · cases ht

theorem eqa_sound {op : BinOp} {t : TypeId} {neg : Bool} {x y : Operand} (ho : eqNeg op = some neg) {ks : List Sk} (ht : flatT P t = some ks) {as bs : List V} {xs ys : Array Value}
    (ha : Rs w c as xs.toList) (hb : Rs w c bs ys.toList) {b : Bool} (h : ceqs ks as bs = some b) :
    (do eqGuard op t x y (.agg xs) (.agg ys); binOp op t (.agg xs) (.agg ys) : Sem Value).run P w = .ok (.bool (if neg then !b else b)) w := by
  obtain ⟨h1, h2⟩ := flat_sound ht ha hb h
  exact eq_sound ho h1 (run_eqGuard_agg w op t x y xs ys h2) (by rintro op (rfl | rfl) <;> rfl)
end
end Go.Fm
end

section
/- FM: every operation that looks at no heap. -/
set_option autoImplicit false
namespace Go.Fm

section
variable {P : Program} {w : World} {c : Cx}

theorem vOf_sound {v : Value} (h : v.oneCell' = true) : R w c (vOf v) v ∧ isCell (vOf v) = true := by
  cases v with
  | bool b => exact ⟨.bool b, rfl⟩
  | int k n => exact ⟨.int k n, rfl⟩
  | string s => exact ⟨.str _, rfl⟩
  | slice a n k =>
    cases a with
    | none =>
      cases n with
      | zero => cases k with
        | zero => exact ⟨.nilsl, rfl⟩
        | succ k => exact ⟨.junk rfl, rfl⟩
      | succ n => exact ⟨.junk rfl, rfl⟩
    | some a => exact ⟨.junk rfl, rfl⟩
  | pointer a =>
    cases a with
    | none => exact ⟨.nilp, rfl⟩
    | some a => exact ⟨.junk rfl, rfl⟩
  | map r =>
    cases r with
    | none => exact ⟨.nilmap, rfl⟩
    | some a => exact ⟨.junk rfl, rfl⟩
  | agg cs => cases h
  | tuple vs => cases h
  | _ => exact ⟨.junk rfl, rfl⟩

theorem vOfs_list : ∀ (cs : List Value), cs.all (·.oneCell') = true → Rs w c (cs.map vOf) cs ∧ (cs.map vOf).all isCell = true
  | [], _ => ⟨Rs.nil w c, rfl⟩
  | v :: cs, h => by
    simp only [List.all_cons, Bool.and_eq_true] at h
    obtain ⟨h1, h2⟩ := vOfs_list cs h.2
    obtain ⟨h3, h4⟩ := vOf_sound (w := w) (c := c) h.1
    exact ⟨Rs.cons h3 h1, by simp [h4, h2]⟩
theorem allCell_get {cs : List V} (h : cs.all isCell = true) : ∀ (j : Nat) (x : V), cs[j]? = some x → isCell x = true := by
  intro j x hx
  exact List.all_eq_true.1 h x (List.mem_of_getElem? hx)

theorem const_sound {v : Value} (h : constOk v = true) : R w c (vOfs v) v := by
  cases v with
  | agg cs =>
    obtain ⟨h1, h2⟩ := vOfs_list (w := w) (c := c) cs.toList h
    have := R.agg_mk h1 (allCell_get h2)
    simpa [vOfs] using this
  | tuple vs =>
    have : vs = #[] := by simpa [constOk] using h
    subst this
    exact .undef
  | bool b => exact (vOf_sound (v := .bool b) rfl).1
  | int k n => exact (vOf_sound (v := .int k n) rfl).1
  | string s => exact (vOf_sound (v := .string s) rfl).1
  | slice a n k => exact (vOf_sound (v := .slice a n k) rfl).1
  | pointer a => exact (vOf_sound (v := .pointer a) rfl).1
  | map r => exact (vOf_sound (v := .map r) rfl).1
  | float k b => exact (vOf_sound (v := .float k b) rfl).1
  | complex k a b => exact (vOf_sound (v := .complex k a b) rfl).1
  | chan r => exact (vOf_sound (v := .chan r) rfl).1
  | func f a b => exact (vOf_sound (v := .func f a b) rfl).1
  | nilFunc => exact (vOf_sound (v := .nilFunc) rfl).1
  | iface t v => exact (vOf_sound (v := .iface t v) rfl).1
  | nilIface => exact (vOf_sound (v := .nilIface) rfl).1

/-- Operands, as FM has them and as the model has them. -/
def EnvR (w : World) (c : Cx) (env : Nat → V) (a : Act) : Prop := ∀ t, R w c (opd env (.t t)) (a.eval (.tmp t))
theorem opd_sound {env : Nat → V} {a : Act} (h : EnvR w c env a) {x : Operand} {y : Opd} (hx : cOpd x = some y) : R w c (opd env y) (a.eval x) := by
  cases x with
  | tmp t => cases hx; exact h t
  | const v =>
    simp only [cOpd] at hx
    split at hx
    · rename_i hk
      cases hx
      exact const_sound hk
    · cases hx
  | global g => cases hx
  | func f => cases hx; exact .fn rfl rfl (fun j x v h => by simp at h) (fun j x v h => by simp at h)

theorem opds_sound {env : Nat → V} {a : Act} (h : EnvR w c env a) : ∀ (xs : List Operand) (ys : List Opd), mapO cOpd xs = some ys → Rs w c (ys.map (opd env)) (xs.map a.eval)
  | [], ys, hx => by cases hx; exact Rs.nil w c
  | x :: xs, ys, hx => by
    simp only [mapO, Option.bind_eq_some_iff] at hx
    obtain ⟨y, hy, ys', hys, he⟩ := hx
    cases he
    exact Rs.cons (opd_sound h hy) (opds_sound h xs ys' hys)

theorem add_none (b o n : Nat) : (⟨b, o, none⟩ : Addr).add n = ⟨b, o + n, none⟩ := by unfold Addr.add; split <;> simp_all
theorem add_spot {a : Addr} (h : a.spot = none) (n : Nat) : a.add n = ⟨a.block, a.off + n, none⟩ := by
  obtain ⟨b, o, s⟩ := a
  cases h
  exact add_none b o n

theorem zero_sound {t : TypeId} {x : V} (h : zeroV P t = some x) : ∃ i v, P.info? t = some i ∧ i.zero = some v ∧ R w c x v ∧ Rs w c x.cells v.cells.toList ∧ x.cells.all isCell = true ∧ x = vOfs v := by
  unfold zeroV inf at h
  obtain ⟨i, hi, h⟩ := Option.bind_eq_some_iff.1 h
  obtain ⟨v, hv, h⟩ := Option.bind_eq_some_iff.1 h
  split at h
  · rename_i hc
    simp only [Bool.and_eq_true] at hc
    cases h
    refine ⟨i, v, hi, hv, const_sound hc.1, ?_⟩
    have hl := vOfs_list (w := w) (c := c) v.cells.toList hc.2
    have : (vOfs v).cells = v.cells.toList.map vOf := by
      cases v with
      | agg cs => rfl
      | tuple vs => have := hc.2; simp [Value.cells, Value.oneCell'] at this
      | slice a n k =>
        cases a with
        | none =>
          cases n with
          | zero => cases k <;> rfl
          | succ n => rfl
        | some a => rfl
      | pointer a => cases a <;> rfl
      | map a => cases a <;> rfl
      | _ => rfl
    rw [this]
    exact ⟨hl.1, hl.2, rfl⟩
  · cases h

theorem fieldPlace_run {f : Field} {i : TypeInfo} (hi : P.info? f.type = some i) (h0 : (i.size != 0) = true) (a : Addr) : (fieldPlace a f).run P w = .ok (a.add f.offset) w := by
  have hc : P.cellsOf f.type = i.size := by simp [Program.cellsOf, hi]
  have h1 : i.size ≠ 0 := by simpa using h0
  simp [fieldPlace, run_sizeOf w hi, hc, h1]

theorem inRange_iff {i : Int} {n : Nat} (h : inRange i n = true) : 0 ≤ i ∧ i < (n : Int) := by
  simpa [inRange] using h

theorem isAgg_run {t : TypeId} {ag : Bool} (h : aggT P t = some ag) : (isAgg t).run P w = .ok ag w := by
  unfold aggT und at h
  cases hu : P.underlying t with
  | none => rw [hu] at h; cases h
  | some d =>
    rw [hu] at h
    cases d <;> cases h <;> simp [isAgg, run_underlying hu]

/-- A part of a struct, of an array. -/
theorem part_sound {t : TypeId} {i : TypeInfo} (hi : P.info? t = some i) {ag : Bool} (hag' : aggT P t = some ag) {cs : List V} {vs : Array Value} (h : Rs w c cs vs.toList) (hx : ∀ (j : Nat) (x : V), cs[j]? = some x → isCell x = true) {off : Nat} {x : V}
    (hv : takeN ag i.size (cs.drop off) = some x) : ∃ v, (part t vs off).run P w = .ok v w ∧ R w c x v := by
  have hc : P.cellsOf t = i.size := by simp [Program.cellsOf, hi]
  have hag := isAgg_run (w := w) hag'
  unfold takeN at hv
  cases ag with
  | true =>
    simp only [if_true] at hv
    split at hv
    · rename_i hl
      cases hv
      refine ⟨.agg (vs.extract off (off + i.size)), by simp [part, hag, run_sizeOf w hi, hc], ?_⟩
      have h1 := (h.drop off).take i.size
      have h2 := R.agg_mk h1 (fun j x hj => by
        rw [List.getElem?_take] at hj
        split at hj
        · rw [List.getElem?_drop] at hj; exact hx _ _ hj
        · cases hj)
      have : ((vs.toList.drop off).take i.size).toArray = vs.extract off (off + i.size) := by
        apply Array.ext'
        simp [List.take_drop]
      rwa [this] at h2
    · cases hv
  | false =>
    simp only [Bool.false_eq_true, if_false] at hv
    rw [List.head?_drop] at hv
    obtain ⟨v, h1, h2⟩ := h.get hv
    have h1' : vs[off]? = some v := by simpa using h1
    exact ⟨v, by simp [part, hag, h1'], h2⟩
end
end Go.Fm
end

section
/- FM: every operation that looks at no heap, all of them. -/
set_option autoImplicit false
namespace Go.Fm

section
variable {P : Program} {w : World} {c : Cx} {env : Nat → V} {a : Act} {op : Oper} {v : V}

/-- What is to be shown of an operation that looks at no heap. -/
def Pure (P : Program) (w : World) (c : Cx) (a : Act) (op : Oper) (v : V) : Prop := ∃ v', (execOp a.eval op).run P w = .ok (.value v') w ∧ R w c v v'
theorem Pure.mk {v' : Value} {s : Sem Value} (he : execOp a.eval op = (do pure (Next.value (← s)))) (h : s.run P w = .ok v' w) (hr : R w c v v') : Pure P w c a op v :=
  ⟨v', by rw [he]; simp [h], hr⟩

theorem p_move {x : Operand} (hop : op.op = .move x ∨ op.op = .assign x) {y : Opd} (hx : cOpd x = some y) (hE : EnvR w c env a) : Pure P w c a op (opd env y) := by
  refine ⟨a.eval x, ?_, opd_sound hE hx⟩
  rcases hop with h | h <;> simp [execOp, h]

theorem p_pick {x y z : Operand} (hop : op.op = .pick x y z) {x' y' z' : Opd} (hx : cOpd x = some x') (hy : cOpd y = some y') (hz : cOpd z = some z') (hE : EnvR w c env a)
    (hv : pureOp (opd env) (.pick x' y' z') = some v) : Pure P w c a op v := by
  simp only [pureOp] at hv
  have h1 := opd_sound hE hx
  split at hv
  · rename_i t ht
    rw [ht] at h1
    have h1 := h1.bool_inv
    cases hv
    refine ⟨if t then a.eval y else a.eval z, by simp [execOp, hop, h1, asBool], ?_⟩
    cases t
    · exact opd_sound hE hz
    · exact opd_sound hE hy
  · cases hv

theorem p_bin {b : BinOp} {t yt : TypeId} {x y : Operand} (hop : op.op = .binOp b t x y yt) {o : COp} (hc : cBin P b t x y = some o) (hE : EnvR w c env a) (hv : pureOp (opd env) o = some v) : Pure P w c a op v := by
  have he : execOp a.eval op = (do pure (Next.value (← (do eqGuard b t x y (a.eval x) (a.eval y); binOp b t (a.eval x) (a.eval y) : Sem Value)))) := by simp [execOp, hop]
  simp only [cBin, Option.bind_eq_some_iff] at hc
  obtain ⟨x', hx, y', hy, hc⟩ := hc
  have h1 := opd_sound hE hx
  have h2 := opd_sound hE hy
  have num : o = .bin b x' y' → Pure P w c a op v := by
    rintro rfl
    simp only [pureOp] at hv
    unfold vbin at hv
    split at hv
    · rename_i k m k' n hm hn
      rw [hm] at h1
      rw [hn] at h2
      rw [h1.int_inv, h2.int_inv] at he
      have hg : (eqGuard b t x y (.int k m) (.int k' n)).run P w = .ok () w := by cases b <;> simp [eqGuard]
      split at hv
      · obtain ⟨v', hr, hR⟩ := ishift_sound (P := P) (w := w) (c := c) (yk := k') t (.inl rfl) hv
        exact Pure.mk he (by rw [Sem.run_bind, hg, Result.andThen_ok, hr]) hR
      · obtain ⟨v', hr, hR⟩ := ishift_sound (P := P) (w := w) (c := c) (yk := k') t (.inr rfl) hv
        exact Pure.mk he (by rw [Sem.run_bind, hg, Result.andThen_ok, hr]) hR
      · split at hv
        · rename_i hk
          subst hk
          obtain ⟨v', hr, hR⟩ := ibin_sound (P := P) (w := w) (c := c) t hv
          exact Pure.mk he (by rw [Sem.run_bind, hg, Result.andThen_ok, hr]) hR
        · cases hv
    · rename_i m n hm hn
      rw [hm] at h1
      rw [hn] at h2
      rw [h1.str_inv, h2.str_inv] at he
      have hg : (eqGuard b t x y (.string ⟨m.toArray⟩) (.string ⟨n.toArray⟩)).run P w = .ok () w := by cases b <;> simp [eqGuard]
      obtain ⟨v', hr, hR⟩ := sbin_sound (P := P) (w := w) (c := c) t hv
      exact Pure.mk he (by rw [Sem.run_bind, hg, Result.andThen_ok, hr]) hR
    · cases hv
  split at hc
  · exact num (by cases hc; rfl)
  · exact num (by cases hc; rfl)
  · rename_i hu
    obtain ⟨neg, hn, rfl⟩ := Option.map_eq_some_iff.1 hc
    simp only [pureOp] at hv
    split at hv
    · rename_i p q hp hq
      rw [hp] at h1
      rw [hq] at h2
      rw [h1.bool_inv, h2.bool_inv] at he
      cases hv
      exact Pure.mk he (eqb_sound hn hu p q) (.bool _)
    · cases hv
  · obtain ⟨neg, hn, hc⟩ := Option.bind_eq_some_iff.1 hc
    split at hc
    · rename_i kd hkd
      unfold opt at hc
      split at hc
      · rename_i hy'
        cases hc
        simp only [pureOp] at hv
        obtain ⟨b', hb, rfl⟩ := Option.map_eq_some_iff.1 hv
        exact Pure.mk he (nil_sound hn hkd hy' (fun _ => rfl) h1 rfl hb) (.bool _)
      · cases hc
    · obtain ⟨ks, hks, rfl⟩ := Option.map_eq_some_iff.1 hc
      simp only [pureOp] at hv
      split at hv
      · rename_i p q hp hq
        rw [hp] at h1
        rw [hq] at h2
        obtain ⟨xs, ex, hxs, _⟩ := h1.agg_inv
        obtain ⟨ys, ey, hys, _⟩ := h2.agg_inv
        rw [ex, ey] at he
        obtain ⟨b', hb, rfl⟩ := Option.map_eq_some_iff.1 hv
        exact Pure.mk he (eqa_sound hn hks hxs hys hb) (.bool _)
      · cases hv

theorem p_un {u : UnOp} {t : TypeId} {x : Operand} (hop : op.op = .unOp u t x) {x' : Opd} (hx : cOpd x = some x') (hE : EnvR w c env a) (hv : pureOp (opd env) (.un u x') = some v) : Pure P w c a op v := by
  have he : execOp a.eval op = (do pure (Next.value (← Op.unary u (a.eval x)))) := by simp [execOp, hop]
  have h1 := opd_sound hE hx
  simp only [pureOp] at hv
  unfold vun at hv
  split at hv
  · rename_i b hb
    rw [hb] at h1
    rw [h1.bool_inv] at he
    cases hv
    exact Pure.mk he (v' := .bool (!b)) rfl (.bool _)
  · rename_i k n hb
    rw [hb] at h1
    rw [h1.int_inv] at he
    cases hv
    exact Pure.mk he (v' := .int k (k.wrap (0 - n))) rfl (.int _ _)
  · cases hv

theorem p_conv {s d : TypeId} {x : Operand} (hop : op.op = .convert s d x) {x' : Opd} (hx : cOpd x = some x') {k k' : IntKind} (hs : P.underlying s = some (.int k')) (hd : P.underlying d = some (.int k)) (hE : EnvR w c env a)
    (hv : pureOp (opd env) (.conv k x') = some v) : Pure P w c a op v := by
  have he : execOp a.eval op = (do pure (Next.value (← convert s d (a.eval x)))) := by simp [execOp, hop]
  have h1 := opd_sound hE hx
  simp only [pureOp] at hv
  split at hv
  · rename_i k2 n hb
    rw [hb] at h1
    rw [h1.int_inv] at he
    cases hv
    exact Pure.mk he (v' := .int k (k.wrap n)) (by simp [convert, run_underlying hs, run_underlying hd, Conv.intToInt]) (.int _ _)
  · cases hv

theorem p_nilchk {x : Operand} (hop : op.op = .nilCheck x) {x' : Opd} (hx : cOpd x = some x') (hE : EnvR w c env a) (hv : pureOp (opd env) (.nilchk x') = some v) : Pure P w c a op v := by
  have h1 := opd_sound hE hx
  simp only [pureOp] at hv
  split at hv
  · rename_i id idx sub hb
    rw [hb] at h1
    cases hv
    cases h1 with
    | pt h =>
      have h' := h
      obtain ⟨_, b, hq, _⟩ := h
      exact ⟨_, by simp [execOp, hop, hq], .pt (hq ▸ h')⟩
  · rename_i f cs hb
    rw [hb] at h1
    cases hv
    generalize hav : a.eval x = u at h1
    cases h1 with
    | ro b cv hf ha hA hx hr => exact ⟨_, by simp [execOp, hop, hav], .ro b cv hf ha hA hx hr⟩
  · rename_i f p q hb
    rw [hb] at h1
    cases hv
    generalize hav : a.eval x = u at h1
    cases h1 with
    | fn ha hb ra rb => exact ⟨_, by simp [execOp, hop, hav], .fn ha hb ra rb⟩
  · cases hv

theorem R.pt_add {id idx sub off : Nat} {u : Value} (h : R w c (.pt id idx sub) u) : ∃ b : Addr, u = .pointer (some b) ∧ R w c (.pt id idx (sub + off)) (.pointer (some (b.add off))) := by
  cases h with
  | pt h =>
    obtain ⟨h0, b, rfl, hl⟩ := h
    refine ⟨b, rfl, .pt ⟨h0, _, rfl, fun l hm => ?_⟩⟩
    rw [hl l hm, add_none, Nat.add_assoc]
theorem R.ro_add {f : Fl} {cs : List V} {off : Nat} {u : Value} (h : R w c (.ro f cs) u) : ∃ b : Addr, u = .pointer (some b) ∧ R w c (.ro f (cs.drop off)) (.pointer (some (b.add off))) := by
  cases h with
  | ro b cv hf ha hA hx hr =>
    refine ⟨b, rfl, ?_⟩
    rw [add_spot ha]
    refine .ro ⟨b.block, b.off + off, none⟩ (fun j => cv (off + j)) hf rfl (fun hn => hA (fun h0 => hn (by simp [h0]))) (fun j x hj => ?_) (fun j x hj => ?_)
    · rw [List.getElem?_drop] at hj
      have := hx _ _ hj
      rw [Nat.add_assoc]
      exact this
    · rw [List.getElem?_drop] at hj
      exact hr _ _ hj

theorem p_faddr {s : TypeId} {x : Operand} {fi : Nat} (hop : op.op = .fieldAddr s x fi) {x' : Opd} (hx : cOpd x = some x') {fs : Array Field} (hs : P.underlying s = some (.struct fs)) {f : Field} (hf : fs[fi]? = some f) {i : TypeInfo}
    (hi : P.info? f.type = some i) (h0 : (i.size != 0) = true) (hE : EnvR w c env a) (hv : pureOp (opd env) (.faddr f.offset x') = some v) : Pure P w c a op v := by
  have he : execOp a.eval op = (do pure (Next.value (← Instr.fieldAt s (a.eval x) fi))) := by simp [execOp, hop]
  have h1 := opd_sound hE hx
  simp only [pureOp] at hv
  split at hv
  · rename_i id idx sub hb
    rw [hb] at h1
    obtain ⟨b, hu, hR⟩ := h1.pt_add (off := f.offset)
    cases hv
    rw [hu] at he
    exact Pure.mk he (by simp [Instr.fieldAt, run_underlying hs, hf, Instr.sureAddr, fieldPlace_run hi h0]) hR
  · rename_i fl cs hb
    rw [hb] at h1
    obtain ⟨b, hu, hR⟩ := h1.ro_add (off := f.offset)
    cases hv
    rw [hu] at he
    exact Pure.mk he (by simp [Instr.fieldAt, run_underlying hs, hf, Instr.sureAddr, fieldPlace_run hi h0]) hR
  · cases hv

theorem indexAt_run {t e : TypeId} (ht : P.underlying t = some (.slice e)) {i : TypeInfo} (hi : P.info? e = some i) {k : IntKind} {n : Int} {len cap : Nat} (h0 : 0 ≤ n) (h1 : n < (len : Int)) (b : Addr) :
    (Instr.indexAt t (.slice (some b) len cap) (.int k n)).run P w = .ok (.pointer (some (b.add (n.toNat * i.size)))) w := by
  have hc : P.cellsOf e = i.size := by simp [Program.cellsOf, hi]
  simp [Instr.indexAt, asIntOf, run_underlying ht, h0, h1, run_sizeOf w hi, hc]

theorem p_iaddr {t e : TypeId} {x ix : Operand} (hop : op.op = .indexAddr t x ix) {x' ix' : Opd} (hx : cOpd x = some x') (hix : cOpd ix = some ix') (ht : P.underlying t = some (.slice e)) {i : TypeInfo} (hi : P.info? e = some i)
    (hE : EnvR w c env a) (hv : pureOp (opd env) (.iaddr i.size x' ix') = some v) : Pure P w c a op v := by
  have he : execOp a.eval op = (do pure (Next.value (← Instr.indexAt t (a.eval x) (a.eval ix)))) := by simp [execOp, hop]
  have h1 := opd_sound hE hx
  have h2 := opd_sound hE hix
  simp only [pureOp] at hv
  split at hv
  · rename_i k n hn
    rw [hn] at h2
    rw [h2.int_inv] at he
    split at hv
    · rename_i id sz' off len hb
      rw [hb] at h1
      split at hv
      · rename_i hr
        obtain ⟨rfl, hr⟩ := hr
        obtain ⟨h0, hlt⟩ := inRange_iff hr
        cases hv
        cases h1 with
        | sl h =>
          obtain ⟨hA, A, cap, hu, hcap, hne, hl⟩ := h
          rw [hu] at he
          cases A with
          | none => exact absurd rfl (hne (by omega))
          | some b =>
            refine Pure.mk he (indexAt_run ht hi h0 hlt b) (.pt ⟨hA, _, rfl, fun l hm => ?_⟩)
            obtain ⟨e1, e2, e4⟩ := hl l hm
            have := e4 (by omega)
            injection this with this
            rw [this, add_none, e1, Nat.add_mul]
            simp [Nat.add_assoc]
      · cases hv
    · rename_i f sz' es hb
      rw [hb] at h1
      split at hv
      · rename_i hr
        obtain ⟨rfl, hf, hr⟩ := hr
        obtain ⟨h0, hlt⟩ := inRange_iff hr
        obtain ⟨el, hel, rfl⟩ := Option.map_eq_some_iff.1 hv
        generalize hav : a.eval x = u at h1 he
        cases h1 with
        | arr b cv hf hc hs hA hx hr =>
          rename_i A cap
          have hne : es ≠ [] := by intro h; simp [h] at hel
          obtain ⟨rfl, hsp, hcl⟩ := hA hne
          refine Pure.mk he (indexAt_run ht hi h0 hlt b) ?_
          rw [add_spot hsp]
          exact .ro _ (cv n.toNat) hf rfl (fun _ => hcl) (fun j y hj => hx _ _ _ _ hel hj) (fun j y hj => hr _ _ _ _ hel hj)
      · cases hv
    · cases hv
  · cases hv
end
end Go.Fm
end

section
/- FM: every operation that looks at no heap: the rest, and the whole. -/
set_option autoImplicit false
namespace Go.Fm

section
variable {P : Program} {w : World} {c : Cx} {env : Nat → V} {a : Act} {op : Oper} {v : V}

theorem indexAt_arr {t e : TypeId} {m : Nat} (ht : P.underlying t = some (.array m e)) {i : TypeInfo} (hi : P.info? e = some i) {k : IntKind} {n : Int} (h0 : 0 ≤ n) (h1 : n < (m : Int)) (b : Addr) :
    (Instr.indexAt t (.pointer (some b)) (.int k n)).run P w = .ok (.pointer (some (b.add (n.toNat * i.size)))) w := by
  have hc : P.cellsOf e = i.size := by simp [Program.cellsOf, hi]
  simp [Instr.indexAt, Instr.sureAddr, asIntOf, run_underlying ht, h0, h1, run_sizeOf w hi, hc]

theorem p_aaddr {t e : TypeId} {m : Nat} {x ix : Operand} (hop : op.op = .indexAddr t x ix) {x' ix' : Opd} (hx : cOpd x = some x') (hix : cOpd ix = some ix') (ht : P.underlying t = some (.array m e)) {i : TypeInfo} (hi : P.info? e = some i)
    (hE : EnvR w c env a) (hv : pureOp (opd env) (.aaddr m i.size x' ix') = some v) : Pure P w c a op v := by
  have he : execOp a.eval op = (do pure (Next.value (← Instr.indexAt t (a.eval x) (a.eval ix)))) := by simp [execOp, hop]
  have h1 := opd_sound hE hx
  have h2 := opd_sound hE hix
  simp only [pureOp] at hv
  split at hv
  · rename_i k n hn
    rw [hn] at h2
    rw [h2.int_inv] at he
    split at hv
    · rename_i hr
      obtain ⟨h0, hlt⟩ := inRange_iff hr
      split at hv
      · rename_i id idx sub hb
        rw [hb] at h1
        obtain ⟨b, hu, hR⟩ := h1.pt_add (off := n.toNat * i.size)
        cases hv
        rw [hu] at he
        exact Pure.mk he (indexAt_arr ht hi h0 hlt b) hR
      · rename_i fl cs hb
        rw [hb] at h1
        obtain ⟨b, hu, hR⟩ := h1.ro_add (off := n.toNat * i.size)
        cases hv
        rw [hu] at he
        exact Pure.mk he (indexAt_arr ht hi h0 hlt b) hR
      · cases hv
    · cases hv
  · cases hv

theorem p_fld {s : TypeId} {x : Operand} {fi : Nat} (hop : op.op = .field s x fi) {x' : Opd} (hx : cOpd x = some x') {fs : Array Field} (hs : P.underlying s = some (.struct fs)) {f : Field} (hf : fs[fi]? = some f) {i : TypeInfo}
    (hi : P.info? f.type = some i) {ag : Bool} (hag : aggT P f.type = some ag) (hE : EnvR w c env a) (hv : pureOp (opd env) (.fld ag f.offset i.size x') = some v) : Pure P w c a op v := by
  have he : execOp a.eval op = (do pure (Next.value (← Instr.field s (a.eval x) fi))) := by simp [execOp, hop]
  have h1 := opd_sound hE hx
  simp only [pureOp] at hv
  split at hv
  · rename_i cs hb
    rw [hb] at h1
    obtain ⟨vs, hu, hR, hc⟩ := h1.agg_inv
    rw [hu] at he
    obtain ⟨v', hr, hR'⟩ := part_sound hi hag hR hc hv
    exact Pure.mk he (by simp [Instr.field, run_underlying hs, hf, asAgg, hr]) hR'
  · cases hv

theorem p_ixs {t : TypeId} {x ix : Operand} (hop : op.op = .index t x ix) {x' ix' : Opd} (hx : cOpd x = some x') (hix : cOpd ix = some ix') (ht : P.underlying t = some .string)
    (hE : EnvR w c env a) (hv : pureOp (opd env) (.ixs x' ix') = some v) : Pure P w c a op v := by
  have he : execOp a.eval op = (do pure (Next.value (← Instr.index t (a.eval x) (a.eval ix)))) := by simp [execOp, hop]
  have h1 := opd_sound hE hx
  have h2 := opd_sound hE hix
  simp only [pureOp] at hv
  split at hv
  · rename_i s k n hs hn
    rw [hs] at h1
    rw [hn] at h2
    rw [h1.str_inv, h2.int_inv] at he
    split at hv
    · rename_i hr
      obtain ⟨h0, hlt⟩ := inRange_iff hr
      obtain ⟨b, hb, rfl⟩ := Option.map_eq_some_iff.1 hv
      refine Pure.mk he (v' := .int .u8 (b.toNat : Int)) ?_ (.int _ _)
      have hg : (⟨s.toArray⟩ : ByteArray)[n.toNat]? = some b := by
        have hlt' : n.toNat < s.length := by omega
        have : s[n.toNat]? = some s[n.toNat] := List.getElem?_eq_getElem hlt'
        rw [this] at hb
        cases hb
        have hsz : n.toNat < (⟨s.toArray⟩ : ByteArray).size := by show n.toNat < s.toArray.size; simpa using hlt'
        rw [getElem?_pos (⟨s.toArray⟩ : ByteArray) n.toNat hsz]
        rfl
      simp [Instr.index, asIntOf, run_underlying ht, h0, hg]
    · cases hv
  · cases hv

theorem p_ixa {t e : TypeId} {m : Nat} {x ix : Operand} (hop : op.op = .index t x ix) {x' ix' : Opd} (hx : cOpd x = some x') (hix : cOpd ix = some ix') (ht : P.underlying t = some (.array m e)) {i : TypeInfo} (hi : P.info? e = some i)
    {ag : Bool} (hag : aggT P e = some ag) (hE : EnvR w c env a) (hv : pureOp (opd env) (.ixa ag m i.size x' ix') = some v) : Pure P w c a op v := by
  have he : execOp a.eval op = (do pure (Next.value (← Instr.index t (a.eval x) (a.eval ix)))) := by simp [execOp, hop]
  have h1 := opd_sound hE hx
  have h2 := opd_sound hE hix
  simp only [pureOp] at hv
  split at hv
  · rename_i cs k n hs hn
    rw [hs] at h1
    rw [hn] at h2
    obtain ⟨vs, hu, hR, hcell⟩ := h1.agg_inv
    rw [hu, h2.int_inv] at he
    split at hv
    · rename_i hr
      obtain ⟨h0, hlt⟩ := inRange_iff hr
      obtain ⟨v', hr, hR'⟩ := part_sound hi hag hR hcell hv
      have hc : P.cellsOf e = i.size := by simp [Program.cellsOf, hi]
      refine Pure.mk he ?_ hR'
      simp [Instr.index, asIntOf, run_underlying ht, h0, hlt, run_sizeOf w hi, hc, hr]
    · cases hv
  · cases hv

/-- The bounds of a cut. -/
theorem bounds_run {isSlice : Bool} {len cap l h : Nat} (hcap : len ≤ cap) {lo hi : Option Value} (hlo : lo = none ∧ l = 0 ∨ ∃ k n, lo = some (.int k n) ∧ 0 ≤ n ∧ n.toNat = l)
    (hhi : hi = none ∧ h = len ∨ ∃ k n, hi = some (.int k n) ∧ 0 ≤ n ∧ n.toNat = h) (hl : l ≤ h) (hh : h ≤ len) :
    (Instr.sliceBounds isSlice len cap lo hi none).run P w = .ok (l, h, cap) w := by
  unfold Instr.sliceBounds
  rcases hhi with ⟨rfl, rfl⟩ | ⟨k, n, rfl, hn, rfl⟩
  · rcases hlo with ⟨rfl, rfl⟩ | ⟨k, n, rfl, hn, rfl⟩
    · simp
    · simp [Instr.sliceBound, asIntOf, hn]
      omega
  · have h1 : n ≤ (cap : Int) := by omega
    rcases hlo with ⟨rfl, rfl⟩ | ⟨k', n', rfl, hn', rfl⟩
    · simp [Instr.sliceBound, asIntOf, hn, h1]
    · have h2 : n' ≤ max n 0 := by omega
      simp [Instr.sliceBound, asIntOf, hn, h1, hn', h2]

/-- An operand that may lack. -/
def OptOpd (x : Option Operand) (y : Option Opd) : Prop := x = none ∧ y = none ∨ ∃ x' y', x = some x' ∧ y = some y' ∧ cOpd x' = some y'

theorem cut_sound (hE : EnvR w c env a) {lo hi : Option Operand} {lo' hi' : Option Opd} (hlo : OptOpd lo lo') (hhi : OptOpd hi hi') {n : Nat} {p : Nat × Nat} (h : cutV (opd env) lo' hi' n = some p) {isSlice : Bool} {cap : Nat} (hc : n ≤ cap) :
    (Instr.sliceBounds isSlice n cap (lo.map a.eval) (hi.map a.eval) none).run P w = .ok (p.1, p.2, cap) w ∧ p.1 ≤ p.2 ∧ p.2 ≤ n := by
  unfold cutV at h
  obtain ⟨l, hl, h⟩ := Option.bind_eq_some_iff.1 h
  obtain ⟨m, hm, h⟩ := Option.bind_eq_some_iff.1 h
  split at h
  · rename_i hlm
    cases h
    have h1 : (lo.map a.eval = none ∧ l = 0) ∨ ∃ k n, lo.map a.eval = some (.int k n) ∧ 0 ≤ n ∧ n.toNat = l := by
      rcases hlo with ⟨rfl, rfl⟩ | ⟨x, y, rfl, rfl, hy⟩
      · simp only [loV, Option.some.injEq] at hl
        exact .inl ⟨rfl, hl.symm⟩
      · right
        have h1 := opd_sound hE hy
        simp only [loV] at hl
        split at hl
        · rename_i k n hn
          rw [hn] at h1
          split at hl
          · rename_i h0
            cases hl
            exact ⟨k, n, by simp [h1.int_inv], h0, rfl⟩
          · cases hl
        · cases hl
    have h2 : (hi.map a.eval = none ∧ m = n) ∨ ∃ k z, hi.map a.eval = some (.int k z) ∧ 0 ≤ z ∧ z.toNat = m ∧ m ≤ n := by
      rcases hhi with ⟨rfl, rfl⟩ | ⟨x, y, rfl, rfl, hy⟩
      · simp only [hiV, Option.some.injEq] at hm
        exact .inl ⟨rfl, hm.symm⟩
      · right
        have h1 := opd_sound hE hy
        simp only [hiV] at hm
        split at hm
        · rename_i k z hz
          rw [hz] at h1
          split at hm
          · rename_i h0
            obtain ⟨h3, h4⟩ := inRange_iff h0
            cases hm
            exact ⟨k, z, by simp [h1.int_inv], h3, rfl, by omega⟩
          · cases hm
        · cases hm
    have h3 : m ≤ n := by rcases h2 with ⟨_, h⟩ | ⟨_, _, _, _, _, h⟩ <;> omega
    refine ⟨bounds_run hc h1 ?_ hlm h3, hlm, h3⟩
    rcases h2 with h | ⟨k, z, e1, e2, e3, _⟩
    · exact .inl h
    · exact .inr ⟨k, z, e1, e2, e3⟩
  · cases h

theorem extract_str (s : List UInt8) (l m : Nat) : (⟨s.toArray⟩ : ByteArray).extract l m = ⟨((s.drop l).take (m - l)).toArray⟩ := by
  apply ByteArray.ext
  rw [ByteArray.data_extract]
  apply Array.ext'
  simp [List.extract_eq_take_drop]

theorem sliceAt_str {t : TypeId} (ht : P.underlying t = some .string) (x : Value) (lo hi mx : Option Value) : (Instr.sliceAt t x lo hi mx).run P w = (Instr.slice t x lo hi mx).run P w := by
  simp [Instr.sliceAt, run_underlying ht]
theorem sliceAt_sl {t e : TypeId} (ht : P.underlying t = some (.slice e)) (x : Value) (lo hi mx : Option Value) : (Instr.sliceAt t x lo hi mx).run P w = (Instr.slice t x lo hi mx).run P w := by
  simp [Instr.sliceAt, run_underlying ht]

theorem slice_run_sl {t e : TypeId} (ht : P.underlying t = some (.slice e)) {i : TypeInfo} (hi : P.info? e = some i) {A : Option Addr} {len cap : Nat} {lo hi' : Option Value} {p : Nat × Nat}
    (hb : (Instr.sliceBounds true len cap lo hi' none).run P w = .ok (p.1, p.2, cap) w) :
    (Instr.slice t (.slice A len cap) lo hi' none).run P w = .ok (.slice (if cap = p.1 then A else A.map (·.add (p.1 * i.size))) (p.2 - p.1) (cap - p.1)) w := by
  have hc : P.cellsOf e = i.size := by simp [Program.cellsOf, hi]
  simp [Instr.slice, run_underlying ht, hb, run_sizeOf w hi, hc]

theorem p_slcs {t : TypeId} {x : Operand} {lo hi : Option Operand} (hop : op.op = .slice t x lo hi none) {x' : Opd} {lo' hi' : Option Opd} (hx : cOpd x = some x') (hlo : OptOpd lo lo') (hhi : OptOpd hi hi')
    (ht : P.underlying t = some .string) (hE : EnvR w c env a) (hv : pureOp (opd env) (.slcs x' lo' hi') = some v) : Pure P w c a op v := by
  have he : execOp a.eval op = (do pure (Next.value (← Instr.sliceAt t (a.eval x) (lo.map a.eval) (hi.map a.eval) none))) := by simp [execOp, hop]
  have h1 := opd_sound hE hx
  simp only [pureOp] at hv
  generalize hav : a.eval x = u at h1 he
  split at hv
  · rename_i s hs
    rw [hs] at h1
    cases h1
    obtain ⟨p, hp, rfl⟩ := Option.map_eq_some_iff.1 hv
    have hb := (cut_sound (P := P) (w := w) (isSlice := false) hE hlo hhi hp (Nat.le_refl _)).1
    refine Pure.mk he ?_ (.str _)
    rw [sliceAt_str ht]
    have hsz : (⟨s.toArray⟩ : ByteArray).size = s.length := by show s.toArray.size = _; simp
    simp [Instr.slice, run_underlying ht, hsz, hb, extract_str]
  · cases hv

theorem p_slc {t e : TypeId} {x : Operand} {lo hi : Option Operand} (hop : op.op = .slice t x lo hi none) {x' : Opd} {lo' hi' : Option Opd} (hx : cOpd x = some x') (hlo : OptOpd lo lo') (hhi : OptOpd hi hi')
    (ht : P.underlying t = some (.slice e)) {i : TypeInfo} (hi2 : P.info? e = some i) (hE : EnvR w c env a) (hv : pureOp (opd env) (.slc i.size x' lo' hi') = some v) : Pure P w c a op v := by
  have he : execOp a.eval op = (do pure (Next.value (← Instr.sliceAt t (a.eval x) (lo.map a.eval) (hi.map a.eval) none))) := by simp [execOp, hop]
  have h1 := opd_sound hE hx
  simp only [pureOp] at hv
  generalize hav : a.eval x = u at h1 he
  split at hv
  · rename_i id sz' off len hs
    rw [hs] at h1
    split at hv
    · rename_i hsz
      subst hsz
      obtain ⟨p, hp, rfl⟩ := Option.map_eq_some_iff.1 hv
      cases h1 with
      | sl h =>
        obtain ⟨hA, A, cap, rfl, hcap, hne, hl⟩ := h
        obtain ⟨hb, h2, h3⟩ := cut_sound (P := P) (w := w) (isSlice := true) hE hlo hhi hp hcap
        refine Pure.mk he (by rw [sliceAt_sl ht]; exact slice_run_sl ht hi2 hb) (.sl ⟨hA, _, _, rfl, by omega, fun hn => ?_, fun l hm => ?_⟩)
        · have : A ≠ none := hne (by omega)
          cases A with
          | none => exact absurd rfl this
          | some b => split <;> simp
        · obtain ⟨e1, e2, e4⟩ := hl l hm
          refine ⟨e1, by omega, fun hpos => ?_⟩
          rw [if_neg (by omega), e4 (by omega)]
          simp only [Option.map_some, add_none, e1, Nat.add_mul, Nat.add_assoc]
    · cases hv
  · rename_i f sz' es hs
    rw [hs] at h1
    split at hv
    · rename_i hsz
      obtain ⟨rfl, hf⟩ := hsz
      obtain ⟨p, hp, rfl⟩ := Option.map_eq_some_iff.1 hv
      cases h1 with
      | arr b cv hf hc hs hA hx hr =>
        rename_i A cap
        obtain ⟨hb, h2, h3⟩ := cut_sound (P := P) (w := w) (isSlice := true) hE hlo hhi hp hc
        have hlen : ((es.drop p.1).take (p.2 - p.1)).length = p.2 - p.1 := by simp; omega
        have hget : ∀ j el, ((es.drop p.1).take (p.2 - p.1))[j]? = some el → es[p.1 + j]? = some el := by
          intro j el hj
          rw [List.getElem?_take] at hj
          split at hj
          · rwa [List.getElem?_drop] at hj
          · cases hj
        have hR : R w c (.arr f i.size ((es.drop p.1).take (p.2 - p.1))) (.slice (if cap = p.1 then A else A.map (·.add (p.1 * i.size))) ((es.drop p.1).take (p.2 - p.1)).length (cap - p.1)) := by
          refine .arr ⟨b.block, b.off + p.1 * i.size, none⟩ (fun q => cv (p.1 + q)) hf (by rw [hlen]; omega) (fun j el hj => hs _ _ (hget j el hj)) (fun hn => ?_) (fun q el j y hq hj => ?_) (fun q el j y hq hj => hr _ _ _ _ (hget q el hq) hj)
          · have hpos : 0 < p.2 - p.1 := by
              rcases Nat.eq_zero_or_pos (p.2 - p.1) with h0 | h0
              · exact absurd (by rw [h0]; rfl) hn
              · exact h0
            obtain ⟨rfl, hsp, hcl⟩ := hA (by intro h0; simp [h0] at hlen; omega)
            refine ⟨?_, rfl, hcl⟩
            rw [if_neg (by omega)]
            simp [add_spot hsp]
          · have := hx _ _ _ _ (hget q el hq) hj
            have e : b.off + p.1 * i.size + q * i.size + j = b.off + (p.1 + q) * i.size + j := by rw [Nat.add_mul]; omega
            dsimp only
            rw [e]
            exact this
        rw [hlen] at hR
        exact Pure.mk he (by rw [sliceAt_sl ht]; exact slice_run_sl ht hi2 hb) hR
    · cases hv
  · rename_i hs
    rw [hs] at h1
    obtain ⟨p, hp, rfl⟩ := Option.map_eq_some_iff.1 hv
    cases h1
    obtain ⟨hb, h2, h3⟩ := cut_sound (P := P) (w := w) (isSlice := true) hE hlo hhi hp (Nat.le_refl 0)
    have e1 : p.1 = 0 := by omega
    have e2 : p.2 = 0 := by omega
    refine Pure.mk he (v' := .slice none 0 0) ?_ .nilsl
    rw [sliceAt_sl ht, slice_run_sl ht hi2 hb, e1, e2]
    rfl
  · cases hv

theorem p_slz {t e : TypeId} {x : Operand} {k k' : IntKind} (hop : op.op = .slice t x none (some (.const (.int k 0))) (some (.const (.int k' 0)))) {x' : Opd} (hx : cOpd x = some x')
    (ht : P.underlying t = some (.slice e)) {i : TypeInfo} (hi2 : P.info? e = some i) (hE : EnvR w c env a) (hv : pureOp (opd env) (.slz x') = some v) : Pure P w c a op v := by
  have he : execOp a.eval op = (do pure (Next.value (← Instr.sliceAt t (a.eval x) none (some (.int k 0)) (some (.int k' 0))))) := by simp [execOp, hop, Act.eval]
  have h1 := opd_sound hE hx
  have key : ∀ A n m, (Instr.sliceAt t (.slice A n m) none (some (.int k 0)) (some (.int k' 0))).run P w = .ok (.slice A 0 0) w := by
    intro A n m
    rw [sliceAt_sl ht]
    simp [Instr.slice, Instr.sliceBounds, Instr.sliceBound, asIntOf, run_underlying ht, run_sizeOf w hi2]
  simp only [pureOp] at hv
  generalize hav : a.eval x = u at h1 he
  split at hv
  · rename_i hs
    rw [hs] at h1
    cases hv
    cases h1 with
    | sl h =>
      obtain ⟨_, A, cap, rfl, _⟩ := h
      exact Pure.mk he (key _ _ _) (.z _)
  · rename_i hs
    rw [hs] at h1
    cases hv
    cases h1 with
    | arr b cv hf hc hs hA hx hr => exact Pure.mk he (key _ _ _) (.z _)
  · rename_i hs
    rw [hs] at h1
    cases hv
    cases h1
    exact Pure.mk he (key _ _ _) (.z _)
  · cases hv

theorem p_ext {x : Operand} {n : Nat} (hop : op.op = .extract x n) {x' : Opd} (hx : cOpd x = some x') (hE : EnvR w c env a) (hv : pureOp (opd env) (.ext x' n) = some v) : Pure P w c a op v := by
  have he : execOp a.eval op = (do pure (Next.value (← Instr.extract (a.eval x) n))) := by simp [execOp, hop]
  have h1 := opd_sound hE hx
  simp only [pureOp] at hv
  split at hv
  · rename_i vs hs
    rw [hs] at h1
    obtain ⟨us, hu, hR⟩ := h1.tup_inv
    rw [hu] at he
    obtain ⟨u, hu', hr⟩ := hR.get hv
    have hu'' : us[n]? = some u := by simpa using hu'
    exact Pure.mk he (by simp [Instr.extract, hu'']) hr
  · cases hv

theorem call_builtin {b : Builtin} {xs : Array Operand} {ts : Array TypeId} (hop : op.op = .call { callee := .builtin b, args := xs, argTypes := ts }) :
    execOp a.eval op = builtin b ts op.type (xs.map fun | .const _ => true | _ => false) (xs.map a.eval) := by
  simp only [execOp, hop, resolve, invoke]
  rfl

theorem p_lens {ts : Array TypeId} {xs : Array Operand} (hop : op.op = .call { callee := .builtin .len, args := xs, argTypes := ts }) {t : TypeId} (h0 : ts[0]? = some t) (ht : P.underlying t = some .string)
    {x : Operand} (hxs : xs.toList = [x]) {x' : Opd} (hx : cOpd x = some x') (hE : EnvR w c env a) (hv : pureOp (opd env) (.lens x') = some v) : Pure P w c a op v := by
  have h1 := opd_sound hE hx
  have hxs' : xs = #[x] := by apply Array.ext'; simpa using hxs
  subst hxs'
  have he : execOp a.eval op = (do pure (Next.value (← Builtin.len_ ts op.type #[a.eval x]))) := by rw [call_builtin hop]; simp [builtin]
  simp only [pureOp] at hv
  split at hv
  · rename_i s hs
    rw [hs] at h1
    rw [h1.str_inv] at he
    cases hv
    exact Pure.mk he (v' := .int .i64 (s.length : Int)) (by simp [Builtin.len_, h0, run_underlying ht, goInt]; rfl) (.int _ _)
  · cases hv

theorem p_len {ts : Array TypeId} {xs : Array Operand} (hop : op.op = .call { callee := .builtin .len, args := xs, argTypes := ts }) {t e : TypeId} (h0 : ts[0]? = some t) (ht : P.underlying t = some (.slice e))
    {x : Operand} (hxs : xs.toList = [x]) {x' : Opd} (hx : cOpd x = some x') (hE : EnvR w c env a) (hv : pureOp (opd env) (.len x') = some v) : Pure P w c a op v := by
  have h1 := opd_sound hE hx
  have hxs' : xs = #[x] := by apply Array.ext'; simpa using hxs
  subst hxs'
  have he : execOp a.eval op = (do pure (Next.value (← Builtin.len_ ts op.type #[a.eval x]))) := by rw [call_builtin hop]; simp [builtin]
  have sl : ∀ A n k, (Builtin.len_ ts op.type #[.slice A n k]).run P w = .ok (.int .i64 (n : Int)) w := by
    intro A n k
    simp [Builtin.len_, h0, run_underlying ht, goInt]
  simp only [pureOp] at hv
  generalize hav : a.eval x = u at h1 he
  split at hv
  · rename_i hs
    rw [hs] at h1
    cases hv
    cases h1 with
    | sl h =>
      obtain ⟨_, A, cap, rfl, _⟩ := h
      exact Pure.mk he (sl _ _ _) (.int _ _)
  · rename_i hs
    rw [hs] at h1
    cases hv
    cases h1 with
    | arr b cv hf hc hs hA hx hr => exact Pure.mk he (sl _ _ _) (.int _ _)
  · rename_i hs
    rw [hs] at h1
    cases hv
    cases h1
    exact Pure.mk he (sl _ _ _) (.int _ _)
  · rename_i hs
    rw [hs] at h1
    cases hv
    cases h1
    exact Pure.mk he (sl _ _ _) (.int _ _)
  · cases hv

theorem p_cap {ts : Array TypeId} {xs : Array Operand} (hop : op.op = .call { callee := .builtin .cap, args := xs, argTypes := ts }) {t e : TypeId} (h0 : ts[0]? = some t) (ht : P.underlying t = some (.slice e))
    {x : Operand} (hxs : xs.toList = [x]) {x' : Opd} (hx : cOpd x = some x') (hE : EnvR w c env a) (hv : pureOp (opd env) (.cap x') = some v) : Pure P w c a op v := by
  have h1 := opd_sound hE hx
  have hxs' : xs = #[x] := by apply Array.ext'; simpa using hxs
  subst hxs'
  have he : execOp a.eval op = (do pure (Next.value (← Builtin.cap_ ts op.type #[a.eval x]))) := by rw [call_builtin hop]; simp [builtin]
  have sl : ∀ A n k, (Builtin.cap_ ts op.type #[.slice A n k]).run P w = .ok (.int .i64 (k : Int)) w := by
    intro A n k
    simp [Builtin.cap_, h0, run_underlying ht, goInt]
  simp only [pureOp] at hv
  generalize hav : a.eval x = u at h1 he
  split at hv
  · rename_i hs
    rw [hs] at h1
    cases hv
    cases h1
    exact Pure.mk he (sl _ _ _) (.int _ _)
  · rename_i hs
    rw [hs] at h1
    cases hv
    cases h1
    exact Pure.mk he (sl _ _ _) (.int _ _)
  · cases hv

theorem maxA_sound (k : IntKind) : ∀ (l : List V) (n : Int) (us : List Value) (v : V), Rs w c l us → maxA k n l = some v → ∃ v', (us.foldlM Builtin.max2 (.int k n) : Sem Value).run P w = .ok v' w ∧ R w c v v'
  | [], n, us, v, h, hv => by
    obtain rfl : us = [] := List.eq_nil_of_length_eq_zero h.1.symm
    cases hv
    exact ⟨_, rfl, .int _ _⟩
  | x :: l, n, us, v, h, hv => by
    cases us with
    | nil => have := h.1; simp at this
    | cons u us =>
      cases x <;> simp only [maxA, reduceCtorEq] at hv
      split at hv
      · rename_i hk
        subst hk
        have hu := h.head.int_inv
        subst hu
        obtain ⟨v', h1, h2⟩ := maxA_sound k l _ us v h.tail hv
        exact ⟨v', by simpa [List.foldlM_cons, Builtin.max2] using h1, h2⟩
      · cases hv
theorem minA_sound (k : IntKind) : ∀ (l : List V) (n : Int) (us : List Value) (v : V), Rs w c l us → minA k n l = some v → ∃ v', (us.foldlM Builtin.min2 (.int k n) : Sem Value).run P w = .ok v' w ∧ R w c v v'
  | [], n, us, v, h, hv => by
    obtain rfl : us = [] := List.eq_nil_of_length_eq_zero h.1.symm
    cases hv
    exact ⟨_, rfl, .int _ _⟩
  | x :: l, n, us, v, h, hv => by
    cases us with
    | nil => have := h.1; simp at this
    | cons u us =>
      cases x <;> simp only [minA, reduceCtorEq] at hv
      split at hv
      · rename_i hk
        subst hk
        have hu := h.head.int_inv
        subst hu
        obtain ⟨v', h1, h2⟩ := minA_sound k l _ us v h.tail hv
        exact ⟨v', by simpa [List.foldlM_cons, Builtin.min2] using h1, h2⟩
      · cases hv

theorem p_max {ts : Array TypeId} {xs : Array Operand} (hop : op.op = .call { callee := .builtin .max, args := xs, argTypes := ts }) {xs' : List Opd} (hx : mapO cOpd xs.toList = some xs') (hE : EnvR w c env a)
    (hv : pureOp (opd env) (.max xs') = some v) : Pure P w c a op v := by
  have h1 := opds_sound hE _ _ hx
  have he : execOp a.eval op = (do pure (Next.value (← Builtin.max_ ts op.type (xs.map a.eval)))) := by rw [call_builtin hop]; simp [builtin]
  simp only [pureOp] at hv
  unfold maxs at hv
  generalize hl : xs'.map (opd env) = l at hv h1
  split at hv
  · rename_i k n l'
    generalize hus : xs.toList.map a.eval = us at h1
    cases us with
    | nil => have := h1.1; simp at this
    | cons u us =>
      have hu := h1.head.int_inv
      subst hu
      obtain ⟨v', hr, hR⟩ := maxA_sound (P := P) k l' n us v h1.tail hv
      refine Pure.mk he ?_ hR
      have : (xs.map a.eval).toList = .int k n :: us := by simpa using hus
      simp only [Builtin.max_, this]
      exact hr
  · cases hv
theorem p_min {ts : Array TypeId} {xs : Array Operand} (hop : op.op = .call { callee := .builtin .min, args := xs, argTypes := ts }) {xs' : List Opd} (hx : mapO cOpd xs.toList = some xs') (hE : EnvR w c env a)
    (hv : pureOp (opd env) (.min xs') = some v) : Pure P w c a op v := by
  have h1 := opds_sound hE _ _ hx
  have he : execOp a.eval op = (do pure (Next.value (← Builtin.min_ ts op.type (xs.map a.eval)))) := by rw [call_builtin hop]; simp [builtin]
  simp only [pureOp] at hv
  unfold mins at hv
  generalize hl : xs'.map (opd env) = l at hv h1
  split at hv
  · rename_i k n l'
    generalize hus : xs.toList.map a.eval = us at h1
    cases us with
    | nil => have := h1.1; simp at this
    | cons u us =>
      have hu := h1.head.int_inv
      subst hu
      obtain ⟨v', hr, hR⟩ := minA_sound (P := P) k l' n us v h1.tail hv
      refine Pure.mk he ?_ hR
      have : (xs.map a.eval).toList = .int k n :: us := by simpa using hus
      simp only [Builtin.min_, this]
      exact hr
  · cases hv

theorem p_lenarr {ts : Array TypeId} {xs : Array Operand} (hop : op.op = .call { callee := .builtin .len, args := xs, argTypes := ts }) {t e : TypeId} {n : Nat} (h0 : ts[0]? = some t) (ht : P.underlying t = some (.array n e))
    {x : Operand} (hxs : xs.toList = [x]) : Pure P w c a op (.int .i64 (n : Int)) := by
  have hxs' : xs = #[x] := by apply Array.ext'; simpa using hxs
  subst hxs'
  have he : execOp a.eval op = (do pure (Next.value (← Builtin.len_ ts op.type #[a.eval x]))) := by rw [call_builtin hop]; simp [builtin]
  exact Pure.mk he (v' := .int .i64 (n : Int)) (by simp [Builtin.len_, h0, run_underlying ht, goInt]) (.int _ _)

theorem p_mkf {f : FuncId} {xs ys : Array Operand} (hop : op.op = .makeFunc (.func f) xs ys) {xs' ys' : List Opd} (hx : mapO cOpd xs.toList = some xs') (hy : mapO cOpd ys.toList = some ys') (hE : EnvR w c env a)
    (hv : pureOp (opd env) (.mkf f xs' ys') = some v) : Pure P w c a op v := by
  have h1 := opds_sound hE _ _ hx
  have h2 := opds_sound hE _ _ hy
  cases hv
  refine Pure.mk (v' := .func (.func f) (xs.map a.eval) (ys.map a.eval)) (s := Instr.makeFunc (.func f) (xs.map a.eval) (ys.map a.eval)) (by simp [execOp, hop]) rfl ?_
  exact .fn (by simpa using h1.1) (by simpa using h2.1) (fun j x v hx hv => h1.2 j x v hx (by simpa using hv)) (fun j x v hx hv => h2.2 j x v hx (by simpa using hv))
end
end Go.Fm
end
