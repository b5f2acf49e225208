/- Part of the machine FM and of the proof that what it answers the model answers. -/
import Derived.Test.YtcnbopgbmimkcaaGreatFmD
import Derived.KernelRfl
set_option linter.all false
set_option linter.unusedSimpArgs false
set_option linter.unusedVariables false
set_option linter.unnecessarySimpa false
set_option linter.unusedSectionVars false
section
/- FM: tables of functions. -/
set_option autoImplicit false
namespace Go.Fm

def OkDef (P : Program) (f : FuncId) (d : Def) : Prop :=
  ∃ fn, P.funcs[f]? = some fn ∧ (fn.name == "runtime.NumGoroutine") = false ∧ fn.body.isNone = false ∧
    match d with
    | .code fi => cFn P fn = some (fi.nt, fi.code, fi.res)
    | .prim p => Meets P f p.f

theorem ok_code {P : Program} {f : FuncId} {fi : FI} {fn : Func} (h1 : P.funcs[f]? = some fn) (h2 : (fn.name == "runtime.NumGoroutine") = false) (h3 : fn.body.isNone = false) (h4 : cFn P fn = some (fi.nt, fi.code, fi.res)) : OkDef P f (.code fi) :=
  ⟨fn, h1, h2, h3, h4⟩

def build : List (Nat × Def) → Tr Def
  | [] => .e
  | p :: ps => (build ps).put p.1 (some p.2)
theorem build_mem : ∀ {ps : List (Nat × Def)} {f : Nat} {d : Def}, (build ps).get f = some d → (f, d) ∈ ps
  | [], f, d, h => by cases h
  | p :: ps, f, d, h => by
    rw [build, Tr.get_put] at h
    split at h
    · rename_i e
      cases h
      subst e
      exact List.mem_cons_self ..
    · exact List.mem_cons_of_mem _ (build_mem h)

theorem valid_of {P : Program} (hm : P.follows .mixedOrders = true) {t : Tr Def} {ps : List (Nat × Def)} (ht : t = build ps) (h : ∀ p ∈ ps, OkDef P p.1 p.2) : Valid P t.get := by
  subst ht
  have key : ∀ f d, (build ps).get f = some d → OkDef P f d := fun f d hd => h _ (build_mem hd)
  refine ⟨hm, fun f d hd => ?_, fun f fi hd fn hfn => ?_, fun f p hd => ?_⟩
  · obtain ⟨fn, h1, h2, h3, _⟩ := key f d hd
    exact ⟨fn, h1, h2, h3⟩
  · obtain ⟨fn', h1, _, _, h4⟩ := key f _ hd
    rw [hfn] at h1
    cases h1
    exact h4
  · obtain ⟨_, _, _, _, h4⟩ := key f _ hd
    exact h4
end Go.Fm
end

section
/- FM: the same machine, laid for quick reckoning. -/
set_option autoImplicit false
namespace Go.Fm

noncomputable def Tr.getF {α : Type} (t : Tr α) : Nat → Option α :=
  Tr.rec (fun _ => none) (fun _ v _ il ir i => bif Nat.beq i 0 then v else bif Nat.beq (Nat.mod i 2) 1 then il (Nat.div i 2) else ir (Nat.sub (Nat.div i 2) 1)) t
theorem Tr.getF_eq {α : Type} : ∀ (t : Tr α) (i : Nat), t.getF i = t.get i
  | .e, _ => rfl
  | .n l v r, i => by
    rw [Tr.get]
    change (bif Nat.beq i 0 then v else bif Nat.beq (i % 2) 1 then l.getF (i / 2) else r.getF (i / 2 - 1)) = _
    rw [Tr.getF_eq l, Tr.getF_eq r]
    by_cases h0 : i = 0
    · subst h0; rfl
    · have h0' : Nat.beq i 0 = false := by
        cases h : Nat.beq i 0 with
        | false => rfl
        | true => exact absurd (Nat.eq_of_beq_eq_true h) h0
      rw [if_neg h0, h0']
      simp only [cond_false]
      by_cases h1 : i % 2 = 1
      · rw [if_pos h1, h1]; rfl
      · have h1' : Nat.beq (i % 2) 1 = false := by
          cases h : Nat.beq (i % 2) 1 with
          | false => rfl
          | true => exact absurd (Nat.eq_of_beq_eq_true h) h1
        rw [if_neg h1, h1']; rfl

noncomputable def Tr.setG {α : Type} (f : Nat) : Tr α → Nat → Option α → Tr α :=
  Nat.rec (fun t _ x => t.here x) (fun _ ih t i x => bif Nat.beq i 0 then t.here x else bif Nat.beq (Nat.mod i 2) 1 then .n (ih t.left (Nat.div i 2) x) t.val t.right else .n t.left t.val (ih t.right (Nat.sub (Nat.div i 2) 1) x)) f
theorem Tr.setG_eq {α : Type} : ∀ (f : Nat) (t : Tr α) (i : Nat) (x : Option α), Tr.setG f t i x = Tr.setF f t i x
  | 0, _, _, _ => rfl
  | f + 1, t, i, x => by
    rw [Tr.setF]
    change (bif Nat.beq i 0 then t.here x else bif Nat.beq (i % 2) 1 then .n (Tr.setG f t.left (i / 2) x) t.val t.right else .n t.left t.val (Tr.setG f t.right (i / 2 - 1) x)) = _
    rw [Tr.setG_eq f, Tr.setG_eq f]
    by_cases h0 : i = 0
    · subst h0; rfl
    · have h0' : Nat.beq i 0 = false := by
        cases h : Nat.beq i 0 with
        | false => rfl
        | true => exact absurd (Nat.eq_of_beq_eq_true h) h0
      rw [if_neg h0, h0']
      simp only [cond_false]
      by_cases h1 : i % 2 = 1
      · rw [if_pos h1, h1]; rfl
      · have h1' : Nat.beq (i % 2) 1 = false := by
          cases h : Nat.beq (i % 2) 1 with
          | false => rfl
          | true => exact absurd (Nat.eq_of_beq_eq_true h) h1
        rw [if_neg h1, h1']; rfl
noncomputable def Tr.putG {α : Type} (t : Tr α) (i : Nat) (x : Option α) : Tr α := Tr.setG i t i x
theorem Tr.putG_eq {α : Type} (t : Tr α) (i : Nat) (x : Option α) : t.putG i x = t.put i x := Tr.setG_eq i t i x

noncomputable def lookF (env : Tr V) (i : Nat) : V := (env.getF i).getD .undef
theorem lookF_eq (env : Tr V) : lookF env = look env := funext fun i => by unfold lookF look; rw [Tr.getF_eq]
noncomputable def opdF (env : Tr V) : Opd → V
  | .t i => lookF env i
  | .c v => v
theorem opdF_eq (env : Tr V) : opdF env = opd (look env) := funext fun x => by cases x <;> simp only [opdF, opd, lookF_eq]

/-! Whole numbers. -/
def leF : Int → Int → Bool
  | .ofNat a, .ofNat b => Nat.ble a b
  | .ofNat _, .negSucc _ => false
  | .negSucc _, .ofNat _ => true
  | .negSucc a, .negSucc b => Nat.ble b a
theorem leF_eq (a b : Int) : leF a b = decide (a ≤ b) := by
  match a, b with
  | .ofNat a, .ofNat b =>
    rw [Bool.eq_iff_iff, leF, Nat.ble_eq, decide_eq_true_iff]
    exact Int.ofNat_le.symm
  | .ofNat a, .negSucc b =>
    have : ¬ ((a : Int) ≤ Int.negSucc b) := by omega
    simp [leF, this]
  | .negSucc a, .ofNat b =>
    have : Int.negSucc a ≤ (b : Int) := by omega
    simp [leF, this]
  | .negSucc a, .negSucc b =>
    rw [Bool.eq_iff_iff, leF, Nat.ble_eq, decide_eq_true_iff]
    omega
def eqF : Int → Int → Bool
  | .ofNat a, .ofNat b => Nat.beq a b
  | .negSucc a, .negSucc b => Nat.beq a b
  | _, _ => false
theorem eqF_eq (a b : Int) : eqF a b = (a == b) := by
  match a, b with
  | .ofNat a, .ofNat b =>
    rw [Bool.eq_iff_iff, eqF, Nat.beq_eq, beq_iff_eq]
    exact Int.ofNat_inj.symm
  | .ofNat a, .negSucc b => rfl
  | .negSucc a, .ofNat b => rfl
  | .negSucc a, .negSucc b =>
    rw [Bool.eq_iff_iff, eqF, Nat.beq_eq, beq_iff_eq]
    omega
theorem ltF_eq (a b : Int) : (!leF b a) = decide (a < b) := by
  rw [leF_eq]
  by_cases h : b ≤ a
  · have : ¬ a < b := by omega
    simp [h, this]
  · have : a < b := by omega
    simp [h, this]

def kindF : IntKind → IntKind → Bool
  | .i64, .i64 => true
  | .u8, .u8 => true
  | a, b => decide (a = b)
theorem kindF_eq (a b : IntKind) : kindF a b = decide (a = b) := by
  cases a <;> cases b <;> rfl
def wrapF : IntKind → Int → Int
  | .i64, .ofNat n => bif Nat.ble n 9223372036854775807 then .ofNat n else IntKind.i64.wrap (.ofNat n)
  | k, n => k.wrap n
theorem wrapF_eq (k : IntKind) (n : Int) : wrapF k n = k.wrap n := by
  unfold wrapF
  split
  · rename_i n
    cases h : Nat.ble n 9223372036854775807 with
    | false => rfl
    | true =>
      have h : n ≤ 9223372036854775807 := by rw [← Nat.ble_eq]; exact h
      simp only [cond_true]
      rw [IntKind.wrap_i64]
      have : (Int.ofNat n) = (n : Int) := rfl
      omega
  · rfl

def vb2 : BinOp → IntKind → Int → IntKind → Int → Option V
  | .add => fun k a k' b => bif kindF k k' then some (.int k (wrapF k (a + b))) else none
  | .sub => fun k a k' b => bif kindF k k' then some (.int k (wrapF k (a - b))) else none
  | .mul => fun k a k' b => bif kindF k k' then some (.int k (wrapF k (a * b))) else none
  | .eql => fun k a k' b => bif kindF k k' then some (.bool (eqF a b)) else none
  | .neq => fun k a k' b => bif kindF k k' then some (.bool (!eqF a b)) else none
  | .lss => fun k a k' b => bif kindF k k' then some (.bool (!leF b a)) else none
  | .leq => fun k a k' b => bif kindF k k' then some (.bool (leF a b)) else none
  | .gtr => fun k a k' b => bif kindF k k' then some (.bool (!leF a b)) else none
  | .geq => fun k a k' b => bif kindF k k' then some (.bool (leF b a)) else none
  | op => fun k a k' b => vbin op (.int k a) (.int k' b)
theorem cond_ite {α : Type} (k k' : IntKind) (x y : α) : (bif kindF k k' then x else y) = if k = k' then x else y := by
  rw [kindF_eq]
  by_cases h : k = k' <;> simp [h]
theorem vb2_eq (op : BinOp) (k k' : IntKind) (a b : Int) : vb2 op k a k' b = vbin op (.int k a) (.int k' b) := by
  cases op <;> first
    | rfl
    | (simp only [vb2, cond_ite, wrapF_eq, eqF_eq, ltF_eq, vbin, ibin]; done)
    | (simp only [vb2, cond_ite, wrapF_eq, eqF_eq, ltF_eq, vbin, ibin]; rfl)
    | (simp only [vb2, cond_ite, leF_eq, vbin, ibin]; done)
    | (simp only [vb2, cond_ite, leF_eq, vbin, ibin]; rfl)
def binIV : V → BinOp → IntKind → Int → Option V
  | .int k' y => fun op k x => vb2 op k x k' y
  | v => fun op k x => vbin op (.int k x) v
def vbinF : V → BinOp → V → Option V
  | .int k x => fun op b => binIV b op k x
  | v => fun op b => vbin op v b
theorem vbinF_eq (op : BinOp) (a b : V) : vbinF a op b = vbin op a b := by
  cases a <;> try rfl
  cases b <;> try rfl
  exact vb2_eq op _ _ _ _

/-! Operations. -/
def brV : V → V → V → Option V
  | .bool t => fun a b => some (bif t then a else b)
  | _ => fun _ _ => none
def extV : V → Nat → Option V
  | .tup vs => fun i => vs[i]?
  | _ => fun _ => none
def lensV : V → Option V
  | .str s => some (.int .i64 (s.length : Int))
  | _ => none
def ixsI : V → List UInt8 → Option V
  | .int _ n => fun s => bif leF 0 n then (s[n.toNat]?).map fun b => .int .u8 (b.toNat : Int) else none
  | _ => fun _ => none
def ixsV : V → V → Option V
  | .str s => fun i => ixsI i s
  | _ => fun _ => none
theorem ixsV_eq (x i : V) : ixsV x i = match x, i with | .str s, .int _ n => if inRange n s.length then (s[n.toNat]?).map fun b => .int .u8 (b.toNat : Int) else none | _, _ => none := by
  cases x <;> try rfl
  cases i <;> try rfl
  rename_i s k n
  simp only [ixsV, ixsI, leF_eq, inRange]
  by_cases h : 0 ≤ n
  · by_cases h2 : n < s.length
    · simp [h, h2]
    · have : s[n.toNat]? = none := List.getElem?_eq_none (by omega)
      simp [h, h2, this]
  · simp [h]

noncomputable def pureF : COp → Tr V → Option V
  | .mv x => fun ev => some (opdF ev x)
  | .pick c a b => fun ev => brV (opdF ev c) (opdF ev a) (opdF ev b)
  | .bin op x y => fun ev => vbinF (opdF ev x) op (opdF ev y)
  | .ext x i => fun ev => extV (opdF ev x) i
  | .lens x => fun ev => lensV (opdF ev x)
  | .ixs x i => fun ev => ixsV (opdF ev x) (opdF ev i)
  | op => fun ev => pureOp (opdF ev) op
theorem pureF_eq (op : COp) (ev : Tr V) : pureF op ev = pureOp (opd (look ev)) op := by
  cases op <;> simp only [pureF, pureOp, opdF_eq, vbinF_eq, ixsV_eq]
  case pick c a b =>
    cases opd (look ev) c <;> try rfl
    rename_i t
    cases t <;> rfl
  case ext x i => cases opd (look ev) x <;> rfl
  case lens x => cases opd (look ev) x <;> rfl
  case ixs x i =>
    cases opd (look ev) x <;> first
      | rfl
      | (cases opd (look ev) i <;> rfl)

/-- A heap's numbers, read. -/
noncomputable def ldF (L : Heap) (v : V) : Option (List V) := cellsAt L.getF v
def outP : Option V → Heap → Nat → Option Out
  | none => fun _ _ => none
  | some v => fun L nx => some (v, L, nx, [])
theorem outP_eq (r : Option V) (L : Heap) (nx : Nat) : outP r L nx = r.map fun v => (v, L, nx, []) := by cases r <;> rfl
theorem getF_fun (L : Heap) : L.getF = L.get := funext fun i => Tr.getF_eq L i

noncomputable def execF : COp → (FuncId → Option Def) → Caller → Tr V → Heap → Nat → Option Out
  | .mv x => fun _ _ ev L nx => some (opdF ev x, L, nx, [])
  | .bin op x y => fun _ _ ev L nx => outP (vbinF (opdF ev x) op (opdF ev y)) L nx
  | .ext x i => fun _ _ ev L nx => outP (extV (opdF ev x) i) L nx
  | .ld agg n x => fun _ _ ev L nx => outP ((cellsAt L.getF (opdF ev x)).bind (takeN agg n)) L nx
  | .st n p x => fun _ _ ev L nx => store L nx n (opdF ev p) (opdF ev x)
  | .app sz bytes s x => fun _ _ ev L nx => append L nx sz bytes (opdF ev s) (opdF ev x)
  | .call f args => fun T call ev L nx => (T f).bind fun d => callDef d (call f) (args.map (opdF ev)) L nx
  | op => fun T call ev L nx => bif (match cls op with | .p => true | _ => false) then outP (pureF op ev) L nx else exec T call (opdF ev) L nx op
theorem execF_eq (op : COp) (T : FuncId → Option Def) (call : Caller) (ev : Tr V) (L : Heap) (nx : Nat) : execF op T call ev L nx = exec T call (opd (look ev)) L nx op := by
  cases op <;> simp only [execF, exec, outP_eq, opdF_eq, pureF_eq, vbinF_eq, getF_fun, cls, cond_true, cond_false]
  case mv x => rfl
  case ext x i =>
    simp only [pureOp]
    cases opd (look ev) x <;> rfl
  case bin op x y => rfl
  case ld agg n x => cases cellsAt L.get (opd (look ev) x) <;> rfl

noncomputable def setDstG : Option Nat → Tr V → V → Tr V
  | none => fun ev _ => ev
  | some d => fun ev v => ev.putG d (some v)
theorem setDstG_eq (d : Option Nat) (ev : Tr V) (v : V) : setDstG d ev v = setDst ev d v := by
  cases d with
  | none => rfl
  | some d => exact Tr.putG_eq _ _ _

def chkF : List Opd → Tr V → List Nat → Bool
  | [] => fun _ _ => true
  | c => fun ev t => c.all fun x => addrOk (opd (look ev) x) t
theorem chkF_eq (c : List Opd) (ev : Tr V) (t : List Nat) : chkF c ev t = c.all fun x => addrOk (opd (look ev) x) t := by cases c <;> rfl

noncomputable def stepFin : Option Out → Option Nat → List Opd → St → Option St
  | none => fun _ _ _ => none
  | some (v, L, nx, t) => fun d c s => bif chkF c s.env t then some ⟨setDstG d s.env v, L, nx, s.bx⟩ else none
noncomputable def stepGo : COper → (FuncId → Option Def) → Caller → St → Option St
  | ⟨d, _, op, c⟩ => fun T call s => stepFin (execF op T call s.env s.L s.nx) d c s
def grd : V → Bool → Option Bool
  | .bool b => fun w => some (bif b then w else !w)
  | .undef => fun _ => some false
  | _ => fun _ => none
noncomputable def stepF : COper → (FuncId → Option Def) → Caller → St → Option St
  | ⟨d, none, op, c⟩ => fun T call s => stepFin (execF op T call s.env s.L s.nx) d c s
  | ⟨d, some (g, w), op, c⟩ => fun T call s =>
    match grd (lookF s.env g) w with
    | none => none
    | some true => stepFin (execF op T call s.env s.L s.nx) d c s
    | some false => some ⟨setDstG d s.env .undef, s.L, s.nx, s.bx⟩
theorem stepFin_eq (r : Option Out) (d : Option Nat) (c : List Opd) (s : St) :
    stepFin r d c s = r.bind fun r => if c.all (fun x => addrOk (opd (look s.env) x) r.2.2.2) then some { s with env := setDst s.env d r.1, L := r.2.1, nx := r.2.2.1 } else none := by
  match r with
  | none => rfl
  | some (v, L, nx, t) =>
    simp only [stepFin, Option.bind_some, chkF_eq, setDstG_eq]
    cases c.all fun x => addrOk (opd (look s.env) x) t <;> rfl
theorem stepF_eq (o : COper) (T : FuncId → Option Def) (call : Caller) (s : St) : stepF o T call s = stepOp T call o s := by
  obtain ⟨d, g, op, c⟩ := o
  match g with
  | none =>
    simp only [stepF, stepOp, execF_eq]
    exact stepFin_eq _ _ _ _
  | some (g, w) =>
    simp only [stepF, stepOp, execF_eq, lookF_eq, opd]
    cases h : look s.env g <;> simp only [grd]
    case bool b =>
      cases b <;> cases w <;> simp only [cond_true, cond_false, Bool.not_true, Bool.not_false, setDstG_eq, if_true, if_false, Bool.false_eq_true, Bool.true_eq_false] <;> first
        | rfl
        | exact stepFin_eq _ _ _ _
    case undef => simp only [setDstG_eq]

noncomputable def stepsF : List COper → (FuncId → Option Def) → Caller → St → Option St
  | [] => fun _ _ s => some s
  | o :: os => fun T call s => (stepF o T call s).bind (stepsF os T call)
theorem stepsF_eq (T : FuncId → Option Def) (call : Caller) : ∀ (os : List COper) (s : St), stepsF os T call s = stepOps T call os s
  | [], _ => rfl
  | o :: os, s => by
    simp only [stepsF, stepOps, stepF_eq]
    congr 1
    funext s'
    exact stepsF_eq T call os s'

abbrev Mv := (FuncId → Option Def) → Rn → FI → St → Option Res
def condF : V → CCode → CCode → Option CCode
  | .bool t => fun a b => some (bif t then a else b)
  | _ => fun _ _ => none
noncomputable def moveC : CCode → List It → Mv
  | .skip => fun k _ run fi s => run fi k s
  | .reg ops => fun k T run fi s => (stepsF ops T (callBy T run) s).bind (run fi k)
  | .seq a b => fun k _ run fi s => run fi (.code a :: .code b :: k) s
  | .cond c a b => fun k _ run fi s => (condF (opdF s.env c) a b).bind fun c => run fi (.code c :: k) s
  | .block id c => fun k _ run fi s => run fi (.code c :: .inB id :: k) s
  | .loop c => fun k _ run fi s => run fi (.code c :: .inL c :: k) s
  | .exit id => fun k _ run fi s => (exitTo id k).bind fun k' => run fi k' s
  | .scope c => fun k _ run fi s => run fi (.code c :: .inS c :: k) s
  | .label _ => fun k _ run fi s => run fi k s
  | .goto l => fun k _ run fi s => (gotoIn l k).bind fun k' => run fi k' s
  | .ret => fun _ _ _ fi s => finish fi s
  | .bad => fun _ _ _ _ _ => none
noncomputable def moveF : List It → Mv
  | [] => fun _ _ fi s => finish fi s
  | .code c :: k => moveC c k
  | .inB _ :: k => fun _ run fi s => run fi k s
  | .inL c :: k => fun _ run fi s => run fi (.code c :: .inL c :: k) s
  | .inS _ :: k => fun _ run fi s => run fi k s
theorem moveF_eq (T : FuncId → Option Def) (run : Rn) (fi : FI) (todo : List It) (s : St) : moveF todo T run fi s = move T run fi todo s := by
  match todo with
  | [] => rfl
  | .inB _ :: k => rfl
  | .inL c :: k => rfl
  | .inS _ :: k => rfl
  | .code c :: k =>
    cases c <;> simp only [moveF, moveC, move, stepsF_eq, opdF_eq]
    case cond c a b =>
      cases opd (look s.env) c <;> try rfl
      rename_i t
      cases t <;> rfl

noncomputable def runF (T : FuncId → Option Def) (n : Nat) : Rn :=
  Nat.rec (fun _ _ _ => none) (fun _ ih fi todo s => moveF todo T ih fi s) n
theorem runF_eq (T : FuncId → Option Def) : ∀ n, runF T n = runN T n
  | 0 => rfl
  | n + 1 => by
    funext fi todo s
    change moveF todo T (runF T n) fi s = _
    rw [runF_eq T n, moveF_eq]
    rfl
theorem call_of_runF {T : FuncId → Option Def} {f : FuncId} {args : List V} {r : Res} (n : Nat) (h : callBy T (runF T n) f args = some r) : call T f args = some r :=
  call_of_runN T n (by rw [← runF_eq]; exact h)
end Go.Fm
end

section
/- FM: runs at symbolic values, by simp. -/
set_option autoImplicit false
namespace Go.Fm

/-- The environment with one temporary set. -/
def upd (env : Tr V) (d : Nat) (v : V) : Tr V := env.put d (some v)
@[simp] theorem look_upd_same (env : Tr V) (d : Nat) (v : V) : look (upd env d v) d = v := by
  simp [upd, look, Tr.get_put_same]
@[simp] theorem look_upd_ne (env : Tr V) (d i : Nat) (v : V) (h : d ≠ i) : look (upd env d v) i = look env i := by
  simp [upd, look, Tr.get_put_ne _ _ _ _ h]
@[simp] theorem setDst_some (env : Tr V) (d : Nat) (v : V) : setDst env (some d) v = upd env d v := rfl
@[simp] theorem setDst_none (env : Tr V) (v : V) : setDst env none v = env := rfl
@[simp] theorem opd_t (ρ : Nat → V) (i : Nat) : opd ρ (.t i) = ρ i := rfl
@[simp] theorem opd_c (ρ : Nat → V) (v : V) : opd ρ (.c v) = v := rfl

section
variable {T : FuncId → Option Def} {fi : FI} {k : List It} {s : St}

/-- A run's state is looked at, not its code. -/
@[congr] theorem run_congr {s s' : St} (h : s = s') : run T fi k s = run T fi k s' := by rw [h]

/-- What a region's operations lead to, and then. -/
noncomputable def goOn (T : FuncId → Option Def) (fi : FI) (os : List COper) (k : List It) : Option St → Option Res
  | none => none
  | some s => run T fi (.code (.reg os) :: k) s
@[congr] theorem goOn_congr {os : List COper} {a a' : Option St} (h : a = a') : goOn T fi os k a = goOn T fi os k a' := by rw [h]
@[simp] theorem goOn_some {os : List COper} : goOn T fi os k (some s) = run T fi (.code (.reg os) :: k) s := rfl
@[simp] theorem goOn_none {os : List COper} : goOn T fi os k none = none := rfl
theorem goOn_bind {os : List COper} {o : Option St} : goOn T fi os k o = o.bind fun s => run T fi (.code (.reg os) :: k) s := by cases o <;> rfl

@[simp] theorem run_reg_nil : run T fi (.code (.reg []) :: k) s = run T fi k s := by rw [run_reg]; rfl
@[simp] theorem run_reg_cons {o : COper} {os : List COper} : run T fi (.code (.reg (o :: os)) :: k) s = goOn T fi os k (stepOp T (call T) o s) := by
  rw [run_reg, goOn_bind]
  simp only [stepOps, Option.bind_assoc]
  congr 1
  funext s'
  rw [run_reg]
@[simp] theorem run_seq' {a b : CCode} : run T fi (.code (.seq a b) :: k) s = run T fi (.code a :: .code b :: k) s := run_seq
@[simp] theorem run_block' {id : Nat} {c : CCode} : run T fi (.code (.block id c) :: k) s = run T fi (.code c :: .inB id :: k) s := run_block
/-- A loop's head. -/
@[simp] theorem run_loop' {c : CCode} : run T fi (.code (.loop c) :: k) s = run T fi (.inL c :: k) s := by rw [run_loop, run_inL]
@[simp] theorem run_inB' {id : Nat} : run T fi (.inB id :: k) s = run T fi k s := run_inB
@[simp] theorem run_skip' : run T fi (.code .skip :: k) s = run T fi k s := run_skip
@[simp] theorem run_ret' : run T fi (.code .ret :: k) s = finish fi s := run_ret
@[simp] theorem run_nil' : run T fi [] s = finish fi s := run_nil
@[simp] theorem run_label' {l : Nat} : run T fi (.code (.label l) :: k) s = run T fi k s := run_label
@[simp] theorem run_scope' {c : CCode} : run T fi (.code (.scope c) :: k) s = run T fi (.code c :: .inS c :: k) s := run_scope
@[simp] theorem run_inS' {c : CCode} : run T fi (.inS c :: k) s = run T fi k s := run_inS

/-- A test. -/
noncomputable def brOn (T : FuncId → Option Def) (fi : FI) (a b : CCode) (k : List It) (s : St) : V → Option Res
  | .bool t => if t = true then run T fi (.code a :: k) s else run T fi (.code b :: k) s
  | _ => none
@[simp] theorem run_cond' {c : Opd} {a b : CCode} : run T fi (.code (.cond c a b) :: k) s = brOn T fi a b k s (opd (look s.env) c) := by
  rw [run_cond]
  cases opd (look s.env) c <;> try rfl
  rename_i t
  cases t <;> rfl
@[congr] theorem brOn_congr {a b : CCode} {v v' : V} (h : v = v') : brOn T fi a b k s v = brOn T fi a b k s v' := by rw [h]
@[simp] theorem brOn_bool {a b : CCode} {t : Bool} : brOn T fi a b k s (.bool t) = if t = true then run T fi (.code a :: k) s else run T fi (.code b :: k) s := rfl
/-- An exit from a block. -/
@[simp] theorem exitTo_inB (id id' : Nat) (k : List It) : exitTo id (.inB id' :: k) = if id' == id then some k else exitTo id k := rfl
@[simp] theorem exitTo_code (id : Nat) (c : CCode) (k : List It) : exitTo id (.code c :: k) = exitTo id k := rfl
@[simp] theorem exitTo_inL (id : Nat) (c : CCode) (k : List It) : exitTo id (.inL c :: k) = exitTo id k := rfl
@[simp] theorem exitTo_inS (id : Nat) (c : CCode) (k : List It) : exitTo id (.inS c :: k) = exitTo id k := rfl
theorem run_exit_to {id : Nat} {k' : List It} (h : exitTo id k = some k') : run T fi (.code (.exit id) :: k) s = run T fi k' s := by rw [run_exit, h]; rfl
@[simp] theorem run_exit_in {id : Nat} : run T fi (.code (.exit id) :: .inB id :: k) s = run T fi k s := run_exit_to (by simp)
@[simp] theorem run_exit_code {id : Nat} {c : CCode} : run T fi (.code (.exit id) :: .code c :: k) s = run T fi (.code (.exit id) :: k) s := by rw [run_exit, run_exit]; rfl
@[simp] theorem run_exit_inL {id : Nat} {c : CCode} : run T fi (.code (.exit id) :: .inL c :: k) s = run T fi (.code (.exit id) :: k) s := by rw [run_exit, run_exit]; rfl
@[simp] theorem run_exit_inS {id : Nat} {c : CCode} : run T fi (.code (.exit id) :: .inS c :: k) s = run T fi (.code (.exit id) :: k) s := by rw [run_exit, run_exit]; rfl
@[simp] theorem run_exit_out {id id' : Nat} (h : id' ≠ id) : run T fi (.code (.exit id) :: .inB id' :: k) s = run T fi (.code (.exit id) :: k) s := by
  rw [run_exit, run_exit, exitTo_inB, if_neg (by simpa using h)]

/-! Jumps. -/
@[simp] theorem findLabel_seq (a b : CCode) (l : Nat) : findLabel (.seq a b) l = (match findLabel a l with | some rest => some (.seq rest b) | none => findLabel b l) := rfl
@[simp] theorem findLabel_label (l' l : Nat) : findLabel (.label l') l = if l' == l then some .skip else none := rfl
@[simp] theorem findLabel_reg (ops : List COper) (l : Nat) : findLabel (.reg ops) l = none := rfl
@[simp] theorem findLabel_cond (c : Opd) (a b : CCode) (l : Nat) : findLabel (.cond c a b) l = none := rfl
@[simp] theorem findLabel_block (i : Nat) (c : CCode) (l : Nat) : findLabel (.block i c) l = none := rfl
@[simp] theorem findLabel_loop (c : CCode) (l : Nat) : findLabel (.loop c) l = none := rfl
@[simp] theorem gotoIn_inS (l : Nat) (c : CCode) (k : List It) : gotoIn l (.inS c :: k) = (match findLabel c l with | some rest => some (.code rest :: .inS c :: k) | none => gotoIn l k) := rfl
@[simp] theorem run_goto_inB {l id : Nat} : run T fi (.code (.goto l) :: .inB id :: k) s = run T fi (.code (.goto l) :: k) s := by rw [run_goto, run_goto]; rfl
@[simp] theorem run_goto_code {l : Nat} {c : CCode} : run T fi (.code (.goto l) :: .code c :: k) s = run T fi (.code (.goto l) :: k) s := by rw [run_goto, run_goto]; rfl
@[simp] theorem run_goto_inL {l : Nat} {c : CCode} : run T fi (.code (.goto l) :: .inL c :: k) s = run T fi (.code (.goto l) :: k) s := by rw [run_goto, run_goto]; rfl
theorem run_goto_inS {l : Nat} {c rest : CCode} (h : findLabel c l = some rest) : run T fi (.code (.goto l) :: .inS c :: k) s = run T fi (.code rest :: .inS c :: k) s := by rw [run_goto, gotoIn_inS, h]; rfl

/-! Operations. -/
def outS (env : Tr V) (d : Option Nat) (bx : List Nat) : Option Out → Option St
  | none => none
  | some r => some ⟨setDst env d r.1, r.2.1, r.2.2.1, bx⟩
@[simp] theorem outS_some (env : Tr V) (d : Option Nat) (bx : List Nat) (v : V) (L : Heap) (nx : Nat) (t : List Nat) : outS env d bx (some (v, L, nx, t)) = some ⟨setDst env d v, L, nx, bx⟩ := rfl
@[simp] theorem outS_none (env : Tr V) (d : Option Nat) (bx : List Nat) : outS env d bx none = none := rfl
variable {cl : Caller} {env : Tr V} {L : Heap} {nx : Nat} {bx : List Nat}
@[simp] theorem step_plain {d : Option Nat} {op : COp} : stepOp T cl ⟨d, none, op, []⟩ ⟨env, L, nx, bx⟩ = outS env d bx (exec T cl (opd (look env)) L nx op) := by
  simp only [stepOp]
  cases exec T cl (opd (look env)) L nx op <;> rfl
/-- An operation that must leave some things alone. -/
def outC (env : Tr V) (d : Option Nat) (bx : List Nat) (c : List Opd) : Option Out → Option St
  | none => none
  | some r => if c.all (fun x => addrOk (opd (look env) x) r.2.2.2) = true then some ⟨setDst env d r.1, r.2.1, r.2.2.1, bx⟩ else none
@[simp] theorem addrOk_nil (v : V) : addrOk v [] = true := by cases v <;> rfl
@[simp] theorem outC_nil (env : Tr V) (d : Option Nat) (bx : List Nat) (c : List Opd) (v : V) (L : Heap) (nx : Nat) : outC env d bx c (some (v, L, nx, [])) = some ⟨setDst env d v, L, nx, bx⟩ := by simp [outC]
@[simp] theorem step_chk {d : Option Nat} {op : COp} {x : Opd} {c : List Opd} : stepOp T cl ⟨d, none, op, x :: c⟩ ⟨env, L, nx, bx⟩ = outC env d bx (x :: c) (exec T cl (opd (look env)) L nx op) := by
  simp only [stepOp]
  cases exec T cl (opd (look env)) L nx op <;> rfl
/-- An operation under a guard. -/
noncomputable def grdOn (T : FuncId → Option Def) (cl : Caller) (d : Option Nat) (w : Bool) (op : COp) (c : List Opd) (s : St) : V → Option St
  | .bool b => if b = w then stepOp T cl ⟨d, none, op, c⟩ s else some ⟨setDst s.env d .undef, s.L, s.nx, s.bx⟩
  | .undef => some ⟨setDst s.env d .undef, s.L, s.nx, s.bx⟩
  | _ => none
@[congr] theorem grdOn_congr {d : Option Nat} {w : Bool} {op : COp} {c : List Opd} {v v' : V} (h : v = v') : grdOn T cl d w op c s v = grdOn T cl d w op c s v' := by rw [h]
@[simp] theorem step_grd {d : Option Nat} {g : Nat} {w : Bool} {op : COp} {c : List Opd} : stepOp T cl ⟨d, some (g, w), op, c⟩ ⟨env, L, nx, bx⟩ = grdOn T cl d w op c ⟨env, L, nx, bx⟩ (look env g) := by
  simp only [stepOp, opd_t]
  cases look env g <;> rfl
@[simp] theorem grdOn_bool {d : Option Nat} {w : Bool} {op : COp} {c : List Opd} {b : Bool} : grdOn T cl d w op c s (.bool b) = if b = w then stepOp T cl ⟨d, none, op, c⟩ s else some ⟨setDst s.env d .undef, s.L, s.nx, s.bx⟩ := rfl
@[simp] theorem grdOn_undef {d : Option Nat} {w : Bool} {op : COp} {c : List Opd} : grdOn T cl d w op c s .undef = some ⟨setDst s.env d .undef, s.L, s.nx, s.bx⟩ := rfl

variable {ρ : Opd → V}
def outV (L : Heap) (nx : Nat) : Option V → Option Out
  | none => none
  | some v => some (v, L, nx, [])
@[simp] theorem outV_some (v : V) : outV L nx (some v) = some (v, L, nx, []) := rfl
@[simp] theorem outV_none : outV L nx none = none := rfl
theorem outV_map (o : Option V) : o.map (fun v => (v, L, nx, ([] : List Nat))) = outV L nx o := by cases o <;> rfl
@[simp] theorem exec_mv (x : Opd) : exec T cl ρ L nx (.mv x) = some (ρ x, L, nx, []) := rfl
@[simp] theorem exec_bin (op : BinOp) (x y : Opd) : exec T cl ρ L nx (.bin op x y) = outV L nx (vbin op (ρ x) (ρ y)) := outV_map _
@[simp] theorem exec_un (op : UnOp) (x : Opd) : exec T cl ρ L nx (.un op x) = outV L nx (vun op (ρ x)) := outV_map _
def pickV : V → V → V → Option V
  | .bool t, a, b => some (if t = true then a else b)
  | _, _, _ => none
@[simp] theorem pickV_bool (t : Bool) (a b : V) : pickV (.bool t) a b = some (if t = true then a else b) := rfl
@[simp] theorem exec_pick (c a b : Opd) : exec T cl ρ L nx (.pick c a b) = outV L nx (pickV (ρ c) (ρ a) (ρ b)) := by
  rw [← outV_map]
  simp only [exec, pureOp]
  cases ρ c <;> rfl
def eqbV (neg : Bool) : V → V → Option V
  | .bool a, .bool b => some (.bool (if neg then !(a == b) else a == b))
  | _, _ => none
@[simp] theorem eqbV_bool (neg a b : Bool) : eqbV neg (.bool a) (.bool b) = some (.bool (if neg then !(a == b) else a == b)) := rfl
@[simp] theorem exec_eqb (n : Bool) (x y : Opd) : exec T cl ρ L nx (.eqb n x y) = outV L nx (eqbV n (ρ x) (ρ y)) := by
  rw [← outV_map]
  simp only [exec, pureOp]
  cases ρ x <;> cases ρ y <;> rfl
@[simp] theorem exec_nil (n : Bool) (kd : Nat) (x : Opd) : exec T cl ρ L nx (.nil n kd x) = outV L nx ((isNil kd (ρ x)).map fun b => .bool (if n then !b else b)) := outV_map _
def convV (k : IntKind) : V → Option V
  | .int _ n => some (.int k (k.wrap n))
  | _ => none
@[simp] theorem convV_int (k k' : IntKind) (n : Int) : convV k (.int k' n) = some (.int k (k.wrap n)) := rfl
@[simp] theorem exec_conv (k : IntKind) (x : Opd) : exec T cl ρ L nx (.conv k x) = outV L nx (convV k (ρ x)) := by
  rw [← outV_map]
  simp only [exec, pureOp]
  cases ρ x <;> rfl
def nilchkV : V → Option V
  | .pt id idx sub => some (.pt id idx sub)
  | .ro f cs => some (.ro f cs)
  | .fn f a b => some (.fn f a b)
  | _ => none
@[simp] theorem exec_nilchk (x : Opd) : exec T cl ρ L nx (.nilchk x) = outV L nx (nilchkV (ρ x)) := by
  rw [← outV_map]
  simp only [exec, pureOp]
  cases ρ x <;> rfl
@[simp] theorem nilchkV_pt (a b c : Nat) : nilchkV (.pt a b c) = some (.pt a b c) := rfl
@[simp] theorem nilchkV_ro (f : Fl) (cs : List V) : nilchkV (.ro f cs) = some (.ro f cs) := rfl
@[simp] theorem nilchkV_fn (f : FuncId) (a b : List V) : nilchkV (.fn f a b) = some (.fn f a b) := rfl
def faddrV (off : Nat) : V → Option V
  | .pt id idx sub => some (.pt id idx (sub + off))
  | .ro f cs => some (.ro f (cs.drop off))
  | _ => none
@[simp] theorem exec_faddr (off : Nat) (x : Opd) : exec T cl ρ L nx (.faddr off x) = outV L nx (faddrV off (ρ x)) := by
  rw [← outV_map]
  simp only [exec, pureOp]
  cases ρ x <;> rfl
@[simp] theorem faddrV_pt (off a b c : Nat) : faddrV off (.pt a b c) = some (.pt a b (c + off)) := rfl
@[simp] theorem faddrV_ro (off : Nat) (f : Fl) (cs : List V) : faddrV off (.ro f cs) = some (.ro f (cs.drop off)) := rfl
def iaddrV (sz : Nat) : V → V → Option V
  | .sl id sz' off len, .int _ n => if sz' = sz ∧ inRange n len = true then some (.pt id (off + n.toNat) 0) else none
  | .arr f sz' es, .int _ n => if sz' = sz ∧ f ≠ .own ∧ inRange n es.length = true then (es[n.toNat]?).map fun e => .ro f e else none
  | _, _ => none
@[simp] theorem exec_iaddr (sz : Nat) (x i : Opd) : exec T cl ρ L nx (.iaddr sz x i) = outV L nx (iaddrV sz (ρ x) (ρ i)) := by
  rw [← outV_map]
  simp only [exec, pureOp]
  cases ρ i <;> cases ρ x <;> rfl
theorem inRange_of {n : Int} {l : Nat} (h0 : 0 ≤ n) (h1 : n < l) : inRange n l = true := by simp [inRange, h0, h1]
@[simp] theorem iaddrV_sl (sz id off len : Nat) (k : IntKind) (n : Int) (h0 : 0 ≤ n) (h1 : n < len) : iaddrV sz (.sl id sz off len) (.int k n) = some (.pt id (off + n.toNat) 0) := by
  simp [iaddrV, inRange_of h0 h1]
@[simp] theorem iaddrV_arr (sz : Nat) (es : List (List V)) (k : IntKind) (n : Int) (h0 : 0 ≤ n) (h1 : n < es.length) : iaddrV sz (.arr .fresh sz es) (.int k n) = some (.ro .fresh (es[n.toNat]?.getD [])) := by
  have : n.toNat < es.length := by omega
  simp [iaddrV, inRange_of h0 h1, List.getElem?_eq_getElem this]
@[simp] theorem iaddrV_arro (sz : Nat) (es : List (List V)) (k : IntKind) (n : Int) (h0 : 0 ≤ n) (h1 : n < es.length) : iaddrV sz (.arr .old sz es) (.int k n) = some (.ro .old (es[n.toNat]?.getD [])) := by
  have : n.toNat < es.length := by omega
  simp [iaddrV, inRange_of h0 h1, List.getElem?_eq_getElem this]
@[simp high] theorem iaddrV_map {α : Type} (sz : Nat) (f : α → List V) (l : List α) (k : IntKind) (n : Int) (h0 : 0 ≤ n) (h1 : n < l.length) : iaddrV sz (.arr .fresh sz (l.map f)) (.int k n) = some (.ro .fresh ((l[n.toNat]?.map f).getD [])) := by
  rw [iaddrV_arr sz _ k n h0 (by simpa using h1), List.getElem?_map]
@[simp high] theorem iaddrV_mapo {α : Type} (sz : Nat) (f : α → List V) (l : List α) (k : IntKind) (n : Int) (h0 : 0 ≤ n) (h1 : n < l.length) : iaddrV sz (.arr .old sz (l.map f)) (.int k n) = some (.ro .old ((l[n.toNat]?.map f).getD [])) := by
  rw [iaddrV_arro sz _ k n h0 (by simpa using h1), List.getElem?_map]
/-! Cuts. -/
def cutW : Option V → Option V → Nat → Option (Nat × Nat)
  | none, none, n => some (0, n)
  | some (.int _ l), none, n => if 0 ≤ l ∧ l ≤ n then some (l.toNat, n) else none
  | none, some (.int _ h), n => if 0 ≤ h ∧ h ≤ n then some (0, h.toNat) else none
  | some (.int _ l), some (.int _ h), n => if 0 ≤ l ∧ l ≤ h ∧ h ≤ n then some (l.toNat, h.toNat) else none
  | _, _, _ => none
theorem inRange_succ (m : Int) (n : Nat) : inRange m (n + 1) = decide (0 ≤ m ∧ m ≤ n) := by
  rw [Bool.eq_iff_iff]
  simp only [inRange, Bool.and_eq_true, decide_eq_true_eq]
  omega
theorem cutW_eq (lo hi : Option Opd) (n : Nat) : cutV ρ lo hi n = cutW (lo.map ρ) (hi.map ρ) n := by
  unfold cutV
  cases lo with
  | none =>
    cases hi with
    | none => simp [loV, hiV, cutW]
    | some h =>
      simp only [loV, hiV, Option.map_none, Option.map_some, Option.bind_some]
      cases ρ h <;> try rfl
      rename_i k m
      simp only [cutW, inRange_succ, decide_eq_true_eq]
      by_cases h1 : 0 ≤ m ∧ m ≤ n
      · rw [if_pos h1, if_pos h1]
        simp
      · rw [if_neg h1, if_neg h1]
        rfl
  | some l =>
    simp only [loV, Option.map_some]
    cases ρ l <;> try (cases hi <;> simp [cutW]; done)
    rename_i k a
    cases hi with
    | none =>
      simp only [hiV, Option.map_none, cutW]
      by_cases h1 : 0 ≤ a
      · by_cases h2 : a ≤ n
        · have : a.toNat ≤ n := by omega
          simp [h1, h2]
        · have : ¬ a.toNat ≤ n := by omega
          simp [h1, h2]
      · simp [h1]
    | some h =>
      simp only [hiV, Option.map_some]
      cases ρ h <;> try (simp [cutW]; done)
      rename_i k2 b
      simp only [cutW, inRange_succ, decide_eq_true_eq]
      by_cases h1 : 0 ≤ a
      · by_cases h2 : 0 ≤ b ∧ b ≤ n
        · rw [if_pos h1, if_pos h2]
          by_cases h4 : a ≤ b
          · have h5 : a.toNat ≤ b.toNat := by omega
            rw [if_pos ⟨h1, h4, h2.2⟩]
            simp only [Option.bind_some, if_pos h5]
          · have h5 : ¬ a.toNat ≤ b.toNat := by omega
            rw [if_neg (fun x => h4 x.2.1)]
            simp only [Option.bind_some, if_neg h5]
        · have h5 : ¬ (0 ≤ a ∧ a ≤ b ∧ b ≤ n) := by omega
          rw [if_neg h5, if_pos h1, if_neg h2]
          rfl
      · simp [h1]
def slcV (sz : Nat) (lo hi : Option V) : V → Option V
  | .sl id sz' off len => if sz' = sz then (cutW lo hi len).map fun p => .sl id sz (off + p.1) (p.2 - p.1) else none
  | .arr f sz' es => if sz' = sz ∧ f ≠ .own then (cutW lo hi es.length).map fun p => .arr f sz ((es.drop p.1).take (p.2 - p.1)) else none
  | .nilsl => (cutW lo hi 0).map fun _ => .nilsl
  | _ => none
@[simp] theorem exec_slc (sz : Nat) (x : Opd) (lo hi : Option Opd) : exec T cl ρ L nx (.slc sz x lo hi) = outV L nx (slcV sz (lo.map ρ) (hi.map ρ) (ρ x)) := by
  rw [← outV_map]
  simp only [exec, pureOp, cutW_eq]
  cases ρ x <;> rfl
def slcsV (lo hi : Option V) : V → Option V
  | .str s => (cutW lo hi s.length).map fun p => .str ((s.drop p.1).take (p.2 - p.1))
  | _ => none
@[simp] theorem exec_slcs (x : Opd) (lo hi : Option Opd) : exec T cl ρ L nx (.slcs x lo hi) = outV L nx (slcsV (lo.map ρ) (hi.map ρ) (ρ x)) := by
  rw [← outV_map]
  simp only [exec, pureOp, cutW_eq]
  cases ρ x <;> rfl
theorem cutW_lo (k : IntKind) (l : Int) (n : Nat) (h0 : 0 ≤ l) (h1 : l ≤ n) : cutW (some (.int k l)) none n = some (l.toNat, n) := by simp [cutW, h0, h1]
theorem cutW_hi (k : IntKind) (l : Int) (n : Nat) (h0 : 0 ≤ l) (h1 : l ≤ n) : cutW none (some (.int k l)) n = some (0, l.toNat) := by simp [cutW, h0, h1]
theorem cutW_lh (k k' : IntKind) (l h : Int) (n : Nat) (h0 : 0 ≤ l) (h1 : l ≤ h) (h2 : h ≤ n) : cutW (some (.int k l)) (some (.int k' h)) n = some (l.toNat, h.toNat) := by simp [cutW, h0, h1, h2]
@[simp] theorem slcV_lo (sz : Nat) (es : List (List V)) (k : IntKind) (l : Int) (h0 : 0 ≤ l) (h1 : l ≤ es.length) : slcV sz (some (.int k l)) none (.arr .fresh sz es) = some (.arr .fresh sz (es.drop l.toNat)) := by
  simp [slcV, cutW_lo k l _ h0 h1, List.take_of_length_le]
@[simp] theorem slcV_hi (sz : Nat) (es : List (List V)) (k : IntKind) (l : Int) (h0 : 0 ≤ l) (h1 : l ≤ es.length) : slcV sz none (some (.int k l)) (.arr .fresh sz es) = some (.arr .fresh sz (es.take l.toNat)) := by
  simp [slcV, cutW_hi k l _ h0 h1]
@[simp] theorem slcV_lh (sz : Nat) (es : List (List V)) (k k' : IntKind) (l h : Int) (h0 : 0 ≤ l) (h1 : l ≤ h) (h2 : h ≤ es.length) : slcV sz (some (.int k l)) (some (.int k' h)) (.arr .fresh sz es) = some (.arr .fresh sz ((es.drop l.toNat).take (h.toNat - l.toNat))) := by
  simp [slcV, cutW_lh k k' l h _ h0 h1 h2]
def fldV (agg : Bool) (off n : Nat) : V → Option V
  | .agg cs => takeN agg n (cs.drop off)
  | _ => none
@[simp] theorem fldV_agg (agg : Bool) (off n : Nat) (cs : List V) : fldV agg off n (.agg cs) = takeN agg n (cs.drop off) := rfl
@[simp] theorem exec_fld (agg : Bool) (off n : Nat) (x : Opd) : exec T cl ρ L nx (.fld agg off n x) = outV L nx (fldV agg off n (ρ x)) := by
  rw [← outV_map]
  simp only [exec, pureOp]
  cases ρ x <;> rfl
def extV' (i : Nat) : V → Option V
  | .tup vs => vs[i]?
  | _ => none
@[simp] theorem extV'_tup (i : Nat) (vs : List V) : extV' i (.tup vs) = vs[i]? := rfl
@[simp] theorem exec_ext (x : Opd) (i : Nat) : exec T cl ρ L nx (.ext x i) = outV L nx (extV' i (ρ x)) := by
  rw [← outV_map]
  simp only [exec, pureOp]
  cases ρ x <;> rfl
def lenV : V → Option V
  | .sl _ _ _ len => some (.int .i64 (len : Int))
  | .arr _ _ es => some (.int .i64 (es.length : Int))
  | .nilsl => some (.int .i64 0)
  | .z => some (.int .i64 0)
  | _ => none
@[simp] theorem exec_len (x : Opd) : exec T cl ρ L nx (.len x) = outV L nx (lenV (ρ x)) := by
  rw [← outV_map]
  simp only [exec, pureOp]
  cases ρ x <;> rfl
@[simp] theorem lenV_sl (a b c d : Nat) : lenV (.sl a b c d) = some (.int .i64 (d : Int)) := rfl
@[simp] theorem lenV_arr (f : Fl) (sz : Nat) (es : List (List V)) : lenV (.arr f sz es) = some (.int .i64 (es.length : Int)) := rfl
@[simp] theorem lenV_nilsl : lenV .nilsl = some (.int .i64 0) := rfl
@[simp] theorem lenV_z : lenV .z = some (.int .i64 0) := rfl
def lensV' : V → Option V
  | .str s => some (.int .i64 (s.length : Int))
  | _ => none
@[simp] theorem lensV'_str (s : List UInt8) : lensV' (.str s) = some (.int .i64 (s.length : Int)) := rfl
@[simp] theorem exec_lens (x : Opd) : exec T cl ρ L nx (.lens x) = outV L nx (lensV' (ρ x)) := by
  rw [← outV_map]
  simp only [exec, pureOp]
  cases ρ x <;> rfl
@[simp] theorem exec_max (xs : List Opd) : exec T cl ρ L nx (.max xs) = outV L nx (maxs (xs.map ρ)) := outV_map _
@[simp] theorem exec_min (xs : List Opd) : exec T cl ρ L nx (.min xs) = outV L nx (mins (xs.map ρ)) := outV_map _
@[simp] theorem exec_mkf (f : FuncId) (a b : List Opd) : exec T cl ρ L nx (.mkf f a b) = some (.fn f (a.map ρ) (b.map ρ), L, nx, []) := rfl
@[simp] theorem exec_bld (z : List V) (ps : List (Nat × Nat × Opd)) : exec T cl ρ L nx (.bld z ps) =
    outV L nx ((ps.foldlM (fun cs p => if (ρ p.2.2).cells.length = p.2.1 ∧ p.1 + p.2.1 ≤ cs.length ∧ (ρ p.2.2).cells.all isCell = true then some (putL cs p.1 (ρ p.2.2).cells) else none) z).map .agg) := outV_map _
@[simp] theorem exec_ld (agg : Bool) (n : Nat) (x : Opd) : exec T cl ρ L nx (.ld agg n x) = outV L nx ((cellsAt L.get (ρ x)).bind (takeN agg n)) := by
  simp only [exec]
  cases cellsAt L.get (ρ x) with
  | none => rfl
  | some cs => exact outV_map _
@[simp] theorem exec_st (n : Nat) (p x : Opd) : exec T cl ρ L nx (.st n p x) = store L nx n (ρ p) (ρ x) := rfl
@[simp] theorem exec_app (a b : Nat) (s x : Opd) : exec T cl ρ L nx (.app a b s x) = append L nx a b (ρ s) (ρ x) := rfl
def newS (L : Heap) (nx : Nat) : Option ((Nat → V) × Thing) → Option Out
  | none => none
  | some p => some (p.1 nx, L.put nx (some p.2), nx + 1, [])
@[simp] theorem newS_some (f : Nat → V) (t : Thing) : newS L nx (some (f, t)) = some (f nx, L.put nx (some t), nx + 1, []) := rfl
@[simp] theorem exec_box (x : Opd) : exec T cl ρ L nx (.box x) = if (ρ x).cells.all isCell = true then some (.pt nx 0 0, L.put nx (some (.box (ρ x).cells)), nx + 1, []) else none := by
  simp only [exec, newOp]
  split <;> rfl
@[simp] theorem exec_alo (z : List V) : exec T cl ρ L nx (.alo z) = some (.pt nx 0 0, L.put nx (some (.box z)), nx + 1, []) := rfl
@[simp] theorem exec_mkm : exec T cl ρ L nx .mkm = some (.mp nx, L.put nx (some (.map true [])), nx + 1, []) := rfl
@[simp] theorem exec_bsl (sz len : Nat) (z : List V) (ps : List (Nat × Opd)) : exec T cl ρ L nx (.bsl sz len z ps) =
    newS L nx ((ps.foldlM (fun es p => if (ρ p.2).cells.length = sz ∧ p.1 < es.length ∧ (ρ p.2).cells.all isCell = true then some (es.set p.1 (ρ p.2).cells) else none) (List.replicate len z)).map fun es =>
      (fun n => .sl n sz 0 len, .row sz true (!(es.any fun e => e.any hasRef)) es)) := by
  simp only [exec, newOp]
  cases (ps.foldlM (fun es p => if (ρ p.2).cells.length = sz ∧ p.1 < es.length ∧ (ρ p.2).cells.all isCell = true then some (es.set p.1 (ρ p.2).cells) else none) (List.replicate len z)) <;> rfl
def mslV (L : Heap) (nx sz bytes : Nat) (z : List V) : V → V → Option Out
  | .int _ l, .int _ c => if 0 ≤ l ∧ l ≤ c ∧ c * bytes ≤ room ∧ c < 9223372036854775808 then some (.sl nx sz 0 l.toNat, L.put nx (some (.row sz true true (List.replicate l.toNat z))), nx + 1, []) else none
  | _, _ => none
@[simp] theorem exec_msl (sz bytes : Nat) (z : List V) (l c : Opd) : exec T cl ρ L nx (.msl sz bytes z l c) = mslV L nx sz bytes z (ρ l) (ρ c) := by
  simp only [exec, newOp]
  cases ρ l <;> cases ρ c <;> try rfl
  simp only [mslV]
  split <;> rfl
@[simp] theorem mslV_int (sz bytes : Nat) (z : List V) (k k' : IntKind) (l : Int) (h0 : 0 ≤ l) (h1 : l * bytes ≤ 140737488355328) (h2 : l < 9223372036854775808) :
    mslV L nx sz bytes z (.int k l) (.int k' l) = some (.sl nx sz 0 l.toNat, L.put nx (some (.row sz true true (List.replicate l.toNat z))), nx + 1, []) := by
  simp [mslV, h0, h2, room, h1]

/-! Whole numbers. -/
@[simp] theorem vbin_add (k : IntKind) (a b : Int) : vbin .add (.int k a) (.int k b) = some (.int k (k.wrap (a + b))) := by simp [vbin, ibin]
@[simp] theorem vbin_sub (k : IntKind) (a b : Int) : vbin .sub (.int k a) (.int k b) = some (.int k (k.wrap (a - b))) := by simp [vbin, ibin]
@[simp] theorem vbin_mul (k : IntKind) (a b : Int) : vbin .mul (.int k a) (.int k b) = some (.int k (k.wrap (a * b))) := by simp [vbin, ibin]
@[simp] theorem vbin_eql (k : IntKind) (a b : Int) : vbin .eql (.int k a) (.int k b) = some (.bool (a == b)) := by simp [vbin, ibin]
@[simp] theorem vbin_neq (k : IntKind) (a b : Int) : vbin .neq (.int k a) (.int k b) = some (.bool (a != b)) := by simp [vbin, ibin]
@[simp] theorem vbin_lss (k : IntKind) (a b : Int) : vbin .lss (.int k a) (.int k b) = some (.bool (decide (a < b))) := by simp [vbin, ibin]
@[simp] theorem vbin_leq (k : IntKind) (a b : Int) : vbin .leq (.int k a) (.int k b) = some (.bool (decide (a ≤ b))) := by simp [vbin, ibin]
@[simp] theorem vbin_gtr (k : IntKind) (a b : Int) : vbin .gtr (.int k a) (.int k b) = some (.bool (decide (a > b))) := by simp [vbin, ibin]
@[simp] theorem vbin_geq (k : IntKind) (a b : Int) : vbin .geq (.int k a) (.int k b) = some (.bool (decide (a ≥ b))) := by simp [vbin, ibin]
@[simp] theorem vbin_quo (k : IntKind) (a b : Int) (h : b ≠ 0) : vbin .quo (.int k a) (.int k b) = some (.int k (k.wrap (a.tdiv b))) := by simp [vbin, ibin, h]
@[simp] theorem vbin_rem (k : IntKind) (a b : Int) (h : b ≠ 0) : vbin .rem (.int k a) (.int k b) = some (.int k (a.tmod b)) := by simp [vbin, ibin, h]
@[simp] theorem vbin_seql (a b : List UInt8) : vbin .eql (.str a) (.str b) = some (.bool (a == b)) := rfl
@[simp] theorem vbin_sneq (a b : List UInt8) : vbin .neq (.str a) (.str b) = some (.bool (!(a == b))) := rfl
@[simp] theorem vun_not (b : Bool) : vun .not (.bool b) = some (.bool (!b)) := rfl
@[simp] theorem wrap_in (n : Int) (h : -9223372036854775808 ≤ n ∧ n ≤ 9223372036854775807) : IntKind.i64.wrap n = n := by rw [IntKind.wrap_i64]; omega
@[simp] theorem mins_two (k : IntKind) (a b : Int) : mins [.int k a, .int k b] = some (.int k (min a b)) := by
  simp [mins, minA]
  omega
@[simp] theorem maxs_two (k : IntKind) (a b : Int) : maxs [.int k a, .int k b] = some (.int k (max a b)) := by
  simp [maxs, maxA]
  omega

/-! The frame's heap. -/
@[simp] theorem get_put_same' {α : Type} (t : Tr α) (i : Nat) (x : Option α) : (t.put i x).get i = x := Tr.get_put_same t i x
@[simp] theorem get_put_ne' {α : Type} (t : Tr α) (i j : Nat) (x : Option α) (h : i ≠ j) : (t.put i x).get j = t.get j := Tr.get_put_ne t i j x h
@[simp] theorem cellsAt_ro (g : HeapF) (f : Fl) (cs : List V) : cellsAt g (.ro f cs) = some cs := rfl
theorem cellsAt_box {g : HeapF} {id sub : Nat} {cs : List V} (h : g id = some (.box cs)) : cellsAt g (.pt id 0 sub) = some (cs.drop sub) := by simp [cellsAt, h]
theorem cellsAt_row {g : HeapF} {id idx sub sz : Nat} {wr cl : Bool} {es : List (List V)} {e : List V} (h : g id = some (.row sz wr cl es)) (he : es[idx]? = some e) : cellsAt g (.pt id idx sub) = some (e.drop sub) := by simp [cellsAt, h, he]
@[simp] theorem takeN_one (n : Nat) (v : V) (cs : List V) : takeN false n (v :: cs) = some v := rfl
@[simp] theorem takeN_agg (n : Nat) (cs : List V) (h : n ≤ cs.length) : takeN true n cs = some (.agg (cs.take n)) := by simp [takeN, h]
@[simp] theorem isCell_int (k : IntKind) (n : Int) : isCell (.int k n) = true := rfl
@[simp] theorem isCell_str (s : List UInt8) : isCell (.str s) = true := rfl
@[simp] theorem isCell_bool (b : Bool) : isCell (.bool b) = true := rfl
@[simp] theorem isCell_arr (f : Fl) (sz : Nat) (es : List (List V)) : isCell (.arr f sz es) = true := rfl
@[simp] theorem isCell_sl (a b c d : Nat) : isCell (.sl a b c d) = true := rfl
@[simp] theorem isCell_map (f : Fl) (es : List (V × V)) : isCell (.map f es) = true := rfl
@[simp] theorem isCell_nilsl : isCell .nilsl = true := rfl
@[simp] theorem hasRef_int (k : IntKind) (n : Int) : hasRef (.int k n) = false := rfl
@[simp] theorem hasRef_bool (b : Bool) : hasRef (.bool b) = false := rfl
@[simp] theorem hasRef_str (s : List UInt8) : hasRef (.str s) = false := rfl
@[simp] theorem hasRef_nilsl : hasRef .nilsl = false := rfl
@[simp] theorem hasRef_arr (sz : Nat) (es : List (List V)) : hasRef (.arr .fresh sz es) = false := rfl
@[simp] theorem hasRef_sl (a b c d : Nat) : hasRef (.sl a b c d) = true := rfl
@[simp] theorem hasRef_map (es : List (V × V)) : hasRef (.map .fresh es) = false := rfl
@[simp] theorem cells_agg (cs : List V) : (V.agg cs).cells = cs := rfl
@[simp] theorem cells_int (k : IntKind) (n : Int) : (V.int k n).cells = [.int k n] := rfl
@[simp] theorem cells_bool (b : Bool) : (V.bool b).cells = [.bool b] := rfl
@[simp] theorem cells_str (s : List UInt8) : (V.str s).cells = [.str s] := rfl
@[simp] theorem cells_arr (f : Fl) (sz : Nat) (es : List (List V)) : (V.arr f sz es).cells = [.arr f sz es] := rfl
@[simp] theorem cells_sl (a b c d : Nat) : (V.sl a b c d).cells = [.sl a b c d] := rfl
@[simp] theorem cells_pt (a b c : Nat) : (V.pt a b c).cells = [.pt a b c] := rfl
@[simp] theorem cells_nilsl : V.nilsl.cells = [.nilsl] := rfl
@[simp] theorem cells_map (f : Fl) (es : List (V × V)) : (V.map f es).cells = [.map f es] := rfl
end
end Go.Fm
end

section
/- FM: calls at symbolic values, by simp. -/
set_option autoImplicit false
namespace Go.Fm

/-- A cell that is handed on as it is. -/
def plain1 : V → Bool
  | .undef | .junk | .int _ _ | .bool _ | .str _ | .nilsl | .z | .nilp | .nilmap | .ro _ _ => true
  | .arr f _ _ => f != .own
  | .map f _ => f != .own
  | _ => false
/-- A value that is handed on as it is. -/
def plain : V → Bool
  | .agg cs => cs.all plain1
  | .fn _ a b => a.all plain1 && b.all plain1
  | v => plain1 v
theorem dr_plain1 {g : HeapF} {fl : Fl} {d : Nat} {v : V} (h : plain1 v = true) : dr g fl (d + 1) v = some v := by
  cases v <;> simp [plain1] at h <;> try rfl
  · rename_i f sz es; cases f <;> first | rfl | exact absurd rfl h
  · rename_i f es; cases f <;> first | rfl | exact absurd rfl h
theorem refs_plain1 {g : HeapF} {d : Nat} {v : V} (h : plain1 v = true) : refs g (d + 1) v = [] := by
  cases v <;> simp [plain1] at h <;> rfl
theorem mapO_id {f : V → Option V} : ∀ {cs : List V}, (∀ c ∈ cs, f c = some c) → mapO f cs = some cs
  | [], _ => rfl
  | c :: cs, h => by simp [mapO, h c (List.mem_cons_self ..), mapO_id fun x hx => h x (List.mem_cons_of_mem _ hx)]
theorem dr_plain' {g : HeapF} {fl : Fl} {d : Nat} {v : V} (h : plain v = true) : dr g fl (d + 2) v = some v := by
  cases v <;> try exact dr_plain1 h
  case agg cs =>
    simp only [plain, List.all_eq_true] at h
    show (mapO (dr g fl (d + 1)) cs).map V.agg = _
    rw [mapO_id fun c hc => dr_plain1 (h c hc)]
    rfl
  case fn f a b =>
    simp only [plain, Bool.and_eq_true, List.all_eq_true] at h
    show ((mapO (dr g fl (d + 1)) a).bind fun a' => (mapO (dr g fl (d + 1)) b).map fun b' => V.fn f a' b') = _
    rw [mapO_id fun c hc => dr_plain1 (h.1 c hc), mapO_id fun c hc => dr_plain1 (h.2 c hc)]
    rfl
theorem refs_plain' {g : HeapF} {d : Nat} {v : V} (h : plain v = true) : refs g (d + 2) v = [] := by
  cases v <;> try exact refs_plain1 h
  case agg cs =>
    simp only [plain, List.all_eq_true] at h
    simp only [refs, List.flatMap_eq_nil_iff]
    exact fun c hc => refs_plain1 (h c hc)
  case fn f a b =>
    simp only [plain, Bool.and_eq_true, List.all_eq_true] at h
    simp only [refs, List.append_eq_nil_iff, List.flatMap_eq_nil_iff]
    exact ⟨fun c hc => refs_plain1 (h.1 c hc), fun c hc => refs_plain1 (h.2 c hc)⟩

/-- An argument as it is handed over; what is read; what comes to rest. -/
def passV (L : Heap) (leaky : Bool) (v : V) : Option (V × List Nat × List Nat) :=
  match if leaky then dr L.get .fresh deep v else none with
  | some v' => some (v', refs L.get deep v, refs L.get deep v)
  | none => (dr L.get .old deep v).map fun v' => (v', refs L.get deep v, [])
@[simp] theorem passV_plain (L : Heap) (leaky : Bool) (v : V) (h : plain v = true) : passV L leaky v = some (v, [], []) := by
  cases leaky <;> simp [passV, deep, dr_plain' h, refs_plain' h]
@[simp] theorem passV_int (L : Heap) (leaky : Bool) (k : IntKind) (n : Int) : passV L leaky (.int k n) = some (.int k n, [], []) := passV_plain L leaky _ rfl
@[simp] theorem passV_bool (L : Heap) (leaky : Bool) (b : Bool) : passV L leaky (.bool b) = some (.bool b, [], []) := passV_plain L leaky _ rfl
@[simp] theorem passV_str (L : Heap) (leaky : Bool) (s : List UInt8) : passV L leaky (.str s) = some (.str s, [], []) := passV_plain L leaky _ rfl
@[simp] theorem passV_nilsl (L : Heap) (leaky : Bool) : passV L leaky .nilsl = some (.nilsl, [], []) := passV_plain L leaky _ rfl
@[simp] theorem passV_z (L : Heap) (leaky : Bool) : passV L leaky .z = some (.z, [], []) := passV_plain L leaky _ rfl
@[simp] theorem passV_arr (L : Heap) (leaky : Bool) (sz : Nat) (es : List (List V)) : passV L leaky (.arr .fresh sz es) = some (.arr .fresh sz es, [], []) := passV_plain L leaky _ rfl
@[simp] theorem passV_arro (L : Heap) (leaky : Bool) (sz : Nat) (es : List (List V)) : passV L leaky (.arr .old sz es) = some (.arr .old sz es, [], []) := passV_plain L leaky _ rfl
@[simp] theorem passV_map (L : Heap) (leaky : Bool) (es : List (V × V)) : passV L leaky (.map .fresh es) = some (.map .fresh es, [], []) := passV_plain L leaky _ rfl
@[simp] theorem passV_fn0 (L : Heap) (leaky : Bool) (f : FuncId) : passV L leaky (.fn f [] []) = some (.fn f [] [], [], []) := passV_plain L leaky _ rfl
theorem dr_row {g : HeapF} {fl : Fl} {id sz sz' off len : Nat} {wr : Bool} {es : List (List V)} (h : g id = some (.row sz wr true es)) (hl : off + len ≤ es.length) (d : Nat) :
    dr g fl (d + 1) (.sl id sz' off len) = some (.arr (if wr then fl else .fresh) sz ((es.drop off).take len)) := by simp [dr, h, hl]
theorem refs_row {g : HeapF} {id sz sz' off len : Nat} {wr : Bool} {es : List (List V)} (h : g id = some (.row sz wr true es)) (d : Nat) : refs g (d + 1) (.sl id sz' off len) = [id] := by simp [refs, h]
theorem passV_row_leaky (L : Heap) {id sz sz' off len : Nat} {wr : Bool} {es : List (List V)} (h : L.get id = some (.row sz wr true es)) (hl : off + len ≤ es.length) :
    passV L true (.sl id sz' off len) = some (.arr .fresh sz ((es.drop off).take len), [id], [id]) := by
  simp [passV, deep, dr_row h hl, refs_row h]
theorem passV_row_old (L : Heap) {id sz sz' off len : Nat} {es : List (List V)} (h : L.get id = some (.row sz true true es)) (hl : off + len ≤ es.length) :
    passV L false (.sl id sz' off len) = some (.arr .old sz ((es.drop off).take len), [id], []) := by
  simp [passV, deep, dr_row h hl, refs_row h]

/-- Arguments, one by one. -/
def passC : Option (V × List Nat × List Nat) → Option Pass → Option Pass
  | some q, some p => some ⟨q.1 :: p.args, p.boxes, p.rows, q.2.1 ++ p.reads, q.2.2 ++ p.rest⟩
  | _, _ => none
@[simp] theorem passC_some (q : V × List Nat × List Nat) (p : Pass) : passC (some q) (some p) = some ⟨q.1 :: p.args, p.boxes, p.rows, q.2.1 ++ p.reads, q.2.2 ++ p.rest⟩ := rfl
@[simp] theorem pass_nil (L : Heap) (leaky : Bool) (r : List (Option Nat)) : pass L leaky r [] = some ⟨[], [], [], [], []⟩ := by simp [pass]
theorem pass_plain (L : Heap) (leaky : Bool) (r : List (Option Nat)) (v : V) (vs : List V) (hr : r.head?.join = none) : pass L leaky r (v :: vs) = passC (passV L leaky v) (pass L leaky r.tail vs) := by
  rw [show pass L leaky r (v :: vs) = (match r.head?.join with
    | some 0 => _
    | some (n + 1) => _
    | none => match if leaky then dr L.get .fresh deep v else none with
      | some v' => (pass L leaky r.tail vs).map fun p => ⟨v' :: p.args, p.boxes, p.rows, refs L.get deep v ++ p.reads, refs L.get deep v ++ p.rest⟩
      | none => (dr L.get .old deep v).bind fun v' => (pass L leaky r.tail vs).map fun p => ⟨v' :: p.args, p.boxes, p.rows, refs L.get deep v ++ p.reads, p.rest⟩) from rfl]
  rw [hr]
  simp only [passV]
  generalize pass L leaky r.tail vs = p
  cases (if leaky then dr L.get .fresh deep v else none) with
  | some v' => cases p <;> rfl
  | none =>
    cases dr L.get .old deep v with
    | none => rfl
    | some v' => cases p <;> rfl
@[simp] theorem pass_none (L : Heap) (leaky : Bool) (r : List (Option Nat)) (v : V) (vs : List V) : pass L leaky (none :: r) (v :: vs) = passC (passV L leaky v) (pass L leaky r vs) := pass_plain L leaky _ v vs rfl

section
variable {T : FuncId → Option Def} {cl : Caller} {ρ : Opd → V} {L : Heap} {nx : Nat}
/-- What a call answers, taken in. -/
def finC (L : Heap) (nx : Nat) : Option Res → Option Out
  | none => none
  | some r => if noOld r.1 = true ∧ r.2 = [] then some ((thaw r.1 nx).1, putAll L nx (thaw r.1 nx).2, nx + (thaw r.1 nx).2.length, []) else none
def callO (c : List V → Option Res) (args : List V) (L : Heap) (nx : Nat) : Option Def → Option Out
  | none => none
  | some d => callDef d c args L nx
@[congr] theorem callO_congr {c : List V → Option Res} {args args' : List V} {d d' : Option Def} (h : args = args') (h2 : d = d') : callO c args L nx d = callO c args' L nx d' := by rw [h, h2]
@[simp] theorem exec_call (f : FuncId) (args : List Opd) : exec T cl ρ L nx (.call f args) = callO (cl f) (args.map ρ) L nx (T f) := by
  simp only [exec]
  cases T f <;> rfl
def callvO (T : FuncId → Option Def) (cl : Caller) (args : List V) (L : Heap) (nx : Nat) : V → Option Out
  | .fn f a b => callO (cl f) (a ++ args ++ b) L nx (T f)
  | _ => none
@[simp] theorem callvO_fn (args : List V) (f : FuncId) (a b : List V) : callvO T cl args L nx (.fn f a b) = callO (cl f) (a ++ args ++ b) L nx (T f) := rfl
@[simp] theorem exec_callv (f : Opd) (args : List Opd) : exec T cl ρ L nx (.callv f args) = callvO T cl (args.map ρ) L nx (ρ f) := by
  simp only [exec]
  cases ρ f <;> try rfl
  rename_i f a b
  simp only [callvO]
  cases T f <;> rfl
def callP (c : List V → Option Res) (L : Heap) (nx : Nat) : Option Pass → Option Out
  | none => none
  | some p => if p.boxes = [] ∧ p.rows = [] then finC (freeze L p.rest) nx (c p.args) else none
@[simp] theorem callP_some (c : List V → Option Res) (args : List V) (rd rs : List Nat) : callP c L nx (some ⟨args, [], [], rd, rs⟩) = finC (freeze L rs) nx (c args) := by simp [callP]
theorem callO_eq {c : List V → Option Res} {args : List V} {d : Def} {r : Out} (h : callP c L nx (pass L d.leaky d.rwp args) = some r) : callO c args L nx (some d) = some r := by
  simp only [callO, callDef]
  cases hp : pass L d.leaky d.rwp args with
  | none => rw [hp] at h; cases h
  | some p =>
    rw [hp] at h
    simp only [callP] at h
    split at h
    · rename_i hb
      obtain ⟨h1, h2⟩ := hb
      obtain ⟨a, bx, rw', rd, rs⟩ := p
      simp only at h1 h2
      subst h1
      subst h2
      simp only [Option.bind_some, List.append_nil, List.nodup_nil, List.all_nil, and_self, if_true]
      cases hc : c a with
      | none => rw [hc] at h; cases h
      | some res =>
        simp only [hc, finC] at h
        split at h
        · rename_i hn
          obtain ⟨n1, n2⟩ := hn
          cases h
          simp [n1, n2, thawLs, kill, putBoxes]
        · cases h
    · cases h
@[simp] theorem freeze_nil : freeze L [] = L := rfl
@[simp] theorem freeze_cons (i : Nat) (is : List Nat) : freeze L (i :: is) = freeze (freeze1 L i) is := rfl
theorem freeze1_row {id sz : Nat} {c : Bool} {es : List (List V)} (h : L.get id = some (.row sz true c es)) : freeze1 L id = L.put id (some (.row sz false c es)) := by simp [freeze1, h]
theorem freeze1_rest {id sz : Nat} {c : Bool} {es : List (List V)} (h : L.get id = some (.row sz false c es)) : freeze1 L id = L := by simp [freeze1, h]
theorem freeze1_map {id : Nat} {es : List (V × V)} (h : L.get id = some (.map true es)) : freeze1 L id = L.put id (some (.map false es)) := by simp [freeze1, h]
theorem freeze1_map' {id : Nat} {es : List (V × V)} (h : L.get id = some (.map false es)) : freeze1 L id = L := by simp [freeze1, h]
@[simp] theorem finC_none : finC L nx none = none := rfl
@[simp] theorem finC_plain (v : V) (h1 : noOld v = true) (h2 : plain v = true) : finC L nx (some (v, [])) = some (v, L, nx, []) := by
  have key : ∀ c : V, plain1 c = true → ∀ n, thaw1 c n = (c, []) := by
    intro c hc n
    cases c <;> try rfl
    · rename_i f _ _; cases f <;> first | rfl | (simp [plain1] at hc)
    · rename_i f _; cases f <;> first | rfl | (simp [plain1] at hc)
  have keyL : ∀ (cs : List V), cs.all plain1 = true → ∀ n, thawL cs n = (cs, []) := by
    intro cs
    induction cs with
    | nil => intro _ n; rfl
    | cons c cs ih =>
      intro h n
      simp only [List.all_cons, Bool.and_eq_true] at h
      simp [thawL, key c h.1, ih h.2]
  have : thaw v nx = (v, []) := by
    cases v <;> first
      | exact key _ h2 nx
      | (simp only [plain] at h2; simp [thaw, thawV, keyL _ h2]; done)
      | rfl
      | (exfalso; revert h2; simp [plain, plain1]; done)
      | exact key (.arr _ _ _) h2 nx
      | exact key (.map _ _) h2 nx
  simp [finC, h1, this, putAll]
@[simp] theorem finC_own (sz : Nat) (es : List (List V)) (h1 : noOldLL es = true) : finC L nx (some (.arr .own sz es, [])) = some (.sl nx sz 0 es.length, L.put nx (some (.row sz true true es)), nx + 1, []) := by
  simp [finC, noOld, h1, thaw, thawV, thaw1, putAll]

/-! The way in. -/
@[simp] theorem enterA_nil (n : Nat) : enterA [] n = ([], [], []) := rfl
theorem enterA_plain' {v : V} {vs : List V} {n : Nat} (h : plain v = true) : enterA (v :: vs) n = (v :: (enterA vs n).1, (enterA vs n).2.1, (enterA vs n).2.2) := by
  cases v <;> first
    | rfl
    | (simp [plain, plain1] at h; done)
    | (rename_i f _ _; cases f <;> first | rfl | (simp [plain, plain1] at h))
theorem enter_args {args : List V} (h : args.all plain = true) : enter args = ⟨putVs args 0 .e, .e, 0, []⟩ := by
  have : ∀ (l : List V) (n : Nat), l.all plain = true → enterA l n = (l, [], []) := by
    intro l
    induction l with
    | nil => intro n _; rfl
    | cons v vs ih =>
      intro n h
      simp only [List.all_cons, Bool.and_eq_true] at h
      rw [enterA_plain' h.1, ih n h.2]
  simp [enter, this args 0 h, putAll]
@[simp] theorem putVs_nil (i : Nat) (t : Tr V) : putVs [] i t = t := rfl
@[simp] theorem putVs_cons (v : V) (vs : List V) (i : Nat) (t : Tr V) : putVs (v :: vs) i t = putVs vs (i + 1) (upd t i v) := rfl

/-! The way out. -/
/-- An end with results that are handed on as they are, where nothing has come in to be written. -/
def resO (s : St) (own : Bool) (res : List CRes) : Option Res :=
  (mapO (resV s) res).bind fun vals => (ownVs s.L own vals).bind fun r => (single r.1).bind fun v =>
    if r.2.1.Nodup ∧ r.2.1.all (fun i => !r.2.2.contains i) = true then some (v, []) else none
theorem finish_eq {fi : FI} {s : St} (h : s.bx = []) : finish fi s = resO s fi.own fi.res := by
  unfold finish resO
  simp [h, backs]
@[simp] theorem finish_lit {fi : FI} {env : Tr V} {L : Heap} {nx : Nat} : finish fi ⟨env, L, nx, []⟩ = resO ⟨env, L, nx, []⟩ fi.own fi.res := finish_eq rfl
/-- One result; two. -/
def resOne : Option (V × List Nat × List Nat) → Option Res
  | none => none
  | some r => match single [r.1] with | none => none | some v => if r.2.1.Nodup ∧ r.2.1.all (fun i => !r.2.2.contains i) = true then some (v, []) else none
def resTwo : Option (V × List Nat × List Nat) → Option (V × List Nat × List Nat) → Option Res
  | some r, some q => if (r.2.1 ++ q.2.1).Nodup ∧ (r.2.1 ++ q.2.1).all (fun i => !(r.2.2 ++ q.2.2).contains i) = true then some (.tup [r.1, q.1], []) else none
  | _, _ => none
def resThree : Option (V × List Nat × List Nat) → Option (V × List Nat × List Nat) → Option (V × List Nat × List Nat) → Option Res
  | some r, some q, some p => if (r.2.1 ++ (q.2.1 ++ p.2.1)).Nodup ∧ (r.2.1 ++ (q.2.1 ++ p.2.1)).all (fun i => !(r.2.2 ++ (q.2.2 ++ p.2.2)).contains i) = true then some (.tup [r.1, q.1, p.1], []) else none
  | _, _, _ => none
def ownR (L : Heap) (own : Bool) : Option V → Option (V × List Nat × List Nat)
  | none => none
  | some v => ownV L own v
@[simp] theorem ownR_some (own : Bool) (v : V) : ownR L own (some v) = ownV L own v := rfl
@[simp] theorem resO_none (env : Tr V) (own : Bool) : resO ⟨env, L, nx, []⟩ own [] = some (.tup [], []) := rfl
theorem resO_one (s : St) (own : Bool) (r : CRes) : resO s own [r] = resOne (ownR s.L own (resV s r)) := by
  unfold resO
  simp only [mapO]
  cases resV s r with
  | none => rfl
  | some v =>
    simp only [Option.bind_some, ownVs, ownR]
    cases ownV s.L own v with
    | none => rfl
    | some q =>
      simp only [Option.bind_some, List.append_nil, resOne]
      cases single [q.1] <;> rfl
theorem resO_two (s : St) (own : Bool) (r q : CRes) : resO s own [r, q] = resTwo (ownR s.L own (resV s r)) (ownR s.L own (resV s q)) := by
  unfold resO
  simp only [mapO]
  cases resV s r with
  | none => rfl
  | some v =>
    cases resV s q with
    | none => simp only [Option.bind_some, Option.bind_none, ownR]; cases ownV s.L own v <;> rfl
    | some u =>
      simp only [Option.bind_some, ownVs, ownR]
      cases ownV s.L own v with
      | none => rfl
      | some x =>
        cases ownV s.L own u with
        | none => rfl
        | some y =>
          simp only [Option.bind_some, List.append_nil, resTwo]
          cases h : x.1 <;> rfl
@[simp] theorem resO_t (env : Tr V) (own : Bool) (i : Nat) : resO ⟨env, L, nx, []⟩ own [.t i] = resOne (ownV L own (look env i)) := resO_one _ _ _
@[simp] theorem resO_c (env : Tr V) (own : Bool) (i n : Nat) (agg : Bool) : resO ⟨env, L, nx, []⟩ own [.c i agg n] = resOne (ownR L own ((cellsAt L.get (look env i)).bind (takeN agg n))) := resO_one _ _ _
@[simp] theorem resO_tt (env : Tr V) (own : Bool) (i j : Nat) : resO ⟨env, L, nx, []⟩ own [.t i, .t j] = resTwo (ownV L own (look env i)) (ownV L own (look env j)) := resO_two _ _ _ _
@[simp] theorem resOne_plain (v : V) (h : plain v = true) : resOne (some (v, [], [])) = some (v, []) := by
  have : single [v] = some v := by cases v <;> first | rfl | (simp [plain, plain1] at h)
  simp [resOne, this]
@[simp] theorem resOne_int (k : IntKind) (n : Int) : resOne (some (.int k n, [], [])) = some (.int k n, []) := resOne_plain _ rfl
@[simp] theorem resOne_bool (b : Bool) : resOne (some (.bool b, [], [])) = some (.bool b, []) := resOne_plain _ rfl
@[simp] theorem resOne_str (s : List UInt8) : resOne (some (.str s, [], [])) = some (.str s, []) := resOne_plain _ rfl
@[simp] theorem resOne_nilsl : resOne (some (.nilsl, [], [])) = some (.nilsl, []) := resOne_plain _ rfl
@[simp] theorem resOne_arr (sz : Nat) (es : List (List V)) : resOne (some (.arr .fresh sz es, [], [])) = some (.arr .fresh sz es, []) := resOne_plain _ rfl
@[simp] theorem resOne_agg (cs : List V) : resOne (some (.agg cs, [], [])) = some (.agg cs, []) := by simp [resOne, single]
@[simp] theorem resOne_own (sz : Nat) (es : List (List V)) (i : Nat) : resOne (some (.arr .own sz es, [i], [])) = some (.arr .own sz es, []) := by simp [resOne, single]
@[simp] theorem resOne_rest (sz : Nat) (es : List (List V)) (i : Nat) : resOne (some (.arr .fresh sz es, [], [i])) = some (.arr .fresh sz es, []) := by simp [resOne, single]
@[simp] theorem resTwo_plain (v u : V) : resTwo (some (v, [], [])) (some (u, [], [])) = some (.tup [v, u], []) := by simp [resTwo]
theorem ownC_plain1 {v : V} (h : plain1 v = true) : ownC L v = some (v, [], []) := by
  have key : (dr L.get .fresh deep v).map (fun v' => (v', ([] : List Nat), refs L.get deep v)) = some (v, [], []) := by
    rw [show deep = 5 + 1 from rfl, dr_plain1 h, refs_plain1 h]
    rfl
  cases v <;> first
    | exact key
    | (simp [plain1] at h; done)
@[simp] theorem ownV_plain (own : Bool) (v : V) (h : plain v = true) (h2 : own = false ∨ plain1 v = true) : ownV L own v = some (v, [], []) := by
  have key : (dr L.get .fresh deep v).map (fun v' => (v', ([] : List Nat), refs L.get deep v)) = some (v, [], []) := by
    rw [show deep = 4 + 2 from rfl, dr_plain' h, refs_plain' h]
    rfl
  cases v <;> first
    | (simp [plain, plain1] at h; done)
    | (cases own with
       | false => exact key
       | true => exact ownC_plain1 (h2.resolve_left (by simp)))
    | (simp only [plain1] at h2; rcases h2 with rfl | h2; exact key; simp at h2)
@[simp] theorem ownV_int {own : Bool} (k : IntKind) (n : Int) : ownV L own (.int k n) = some (.int k n, [], []) := ownV_plain own _ rfl (.inr rfl)
@[simp] theorem ownV_bool {own : Bool} (b : Bool) : ownV L own (.bool b) = some (.bool b, [], []) := ownV_plain own _ rfl (.inr rfl)
@[simp] theorem ownV_str {own : Bool} (s : List UInt8) : ownV L own (.str s) = some (.str s, [], []) := ownV_plain own _ rfl (.inr rfl)
@[simp] theorem ownV_nilsl {own : Bool}  : ownV L own .nilsl = some (.nilsl, [], []) := ownV_plain own _ rfl (.inr rfl)
@[simp] theorem ownV_arr {own : Bool} (sz : Nat) (es : List (List V)) : ownV L own (.arr .fresh sz es) = some (.arr .fresh sz es, [], []) := ownV_plain own _ rfl (.inr rfl)
@[simp] theorem single_int (k : IntKind) (n : Int) : single [.int k n] = some (.int k n) := rfl
@[simp] theorem single_bool (b : Bool) : single [.bool b] = some (.bool b) := rfl
@[simp] theorem single_str (s : List UInt8) : single [.str s] = some (.str s) := rfl
@[simp] theorem single_arr (f : Fl) (sz : Nat) (es : List (List V)) : single [.arr f sz es] = some (.arr f sz es) := rfl
@[simp] theorem single_agg (cs : List V) : single [.agg cs] = some (.agg cs) := rfl
@[simp] theorem single_nilsl : single [.nilsl] = some .nilsl := rfl
@[simp] theorem single_map (f : Fl) (es : List (V × V)) : single [.map f es] = some (.map f es) := rfl
@[simp] theorem single_none : single [] = some (.tup []) := rfl
@[simp] theorem single_two (a b : V) (r : List V) : single (a :: b :: r) = some (.tup (a :: b :: r)) := by cases a <;> rfl
/-! What is plain. -/
@[simp] theorem plain_int (k : IntKind) (n : Int) : plain (.int k n) = true := rfl
@[simp] theorem plain_bool (b : Bool) : plain (.bool b) = true := rfl
@[simp] theorem plain_str (s : List UInt8) : plain (.str s) = true := rfl
@[simp] theorem plain_nilsl : plain .nilsl = true := rfl
@[simp] theorem plain_arr (sz : Nat) (es : List (List V)) : plain (.arr .fresh sz es) = true := rfl
@[simp] theorem plain_arro (sz : Nat) (es : List (List V)) : plain (.arr .old sz es) = true := rfl
@[simp] theorem plain_map (es : List (V × V)) : plain (.map .fresh es) = true := rfl
@[simp] theorem plain_mapo (es : List (V × V)) : plain (.map .old es) = true := rfl
@[simp] theorem plain_agg (cs : List V) : plain (.agg cs) = cs.all plain1 := rfl
@[simp] theorem plain_fn (f : FuncId) (a b : List V) : plain (.fn f a b) = (a.all plain1 && b.all plain1) := rfl
@[simp] theorem plain_ro (f : Fl) (cs : List V) : plain (.ro f cs) = true := rfl
@[simp] theorem plain_z : plain .z = true := rfl
@[simp] theorem plain1_z : plain1 .z = true := rfl
@[simp] theorem plain1_ro (f : Fl) (cs : List V) : plain1 (.ro f cs) = true := rfl
@[simp] theorem plain1_int (k : IntKind) (n : Int) : plain1 (.int k n) = true := rfl
@[simp] theorem plain1_bool (b : Bool) : plain1 (.bool b) = true := rfl
@[simp] theorem plain1_str (s : List UInt8) : plain1 (.str s) = true := rfl
@[simp] theorem plain1_nilsl : plain1 .nilsl = true := rfl
@[simp] theorem plain1_arr (sz : Nat) (es : List (List V)) : plain1 (.arr .fresh sz es) = true := rfl
@[simp] theorem plain1_arro (sz : Nat) (es : List (List V)) : plain1 (.arr .old sz es) = true := rfl
@[simp] theorem plain1_map (es : List (V × V)) : plain1 (.map .fresh es) = true := rfl
@[simp] theorem plain1_mapo (es : List (V × V)) : plain1 (.map .old es) = true := rfl
@[simp] theorem noOld_int (k : IntKind) (n : Int) : noOld (.int k n) = true := rfl
@[simp] theorem noOld_bool (b : Bool) : noOld (.bool b) = true := rfl
@[simp] theorem noOld_str (s : List UInt8) : noOld (.str s) = true := rfl
@[simp] theorem noOld_nilsl : noOld .nilsl = true := rfl
@[simp] theorem noOld_arr (sz : Nat) (es : List (List V)) : noOld (.arr .fresh sz es) = noOldLL es := rfl
@[simp] theorem noOld_map (es : List (V × V)) : noOld (.map .fresh es) = noOldP es := rfl
@[simp] theorem noOld_agg (cs : List V) : noOld (.agg cs) = noOldL cs := rfl
@[simp] theorem noOld_tup (cs : List V) : noOld (.tup cs) = noOldL cs := rfl
@[simp] theorem noOldL_nil : noOldL [] = true := rfl
@[simp] theorem noOldL_cons (c : V) (cs : List V) : noOldL (c :: cs) = (noOld c && noOldL cs) := rfl
@[simp] theorem noOldLL_nil : noOldLL [] = true := rfl
@[simp] theorem noOldLL_cons (c : List V) (cs : List (List V)) : noOldLL (c :: cs) = (noOldL c && noOldLL cs) := rfl
theorem noOldLL_iff {es : List (List V)} : noOldLL es = true ↔ ∀ e ∈ es, noOldL e = true := by
  induction es with
  | nil => simp
  | cons e es ih => simp [ih]
end
end Go.Fm
end

section
/- FM: rows of whole numbers, by simp. -/
set_option autoImplicit false
namespace Go.Fm

/-- An element that is a number. -/
abbrev iv (n : Int) : List V := [.int .i64 n]
/-- A slice of numbers at rest; one that goes to the receiver. -/
abbrev ints (l : List Int) : V := .arr .fresh 1 (l.map iv)
abbrev intsO (l : List Int) : V := .arr .own 1 (l.map iv)

def cellsTh : Option Thing → Nat → Nat → Option (List V)
  | some (.box cs), idx, sub => if idx = 0 then some (cs.drop sub) else none
  | some (.row _ _ _ es), idx, sub => (es[idx]?).map fun e => e.drop sub
  | _, _, _ => none
@[simp] theorem cellsAt_pt (g : HeapF) (id idx sub : Nat) : cellsAt g (.pt id idx sub) = cellsTh (g id) idx sub := by
  simp only [cellsAt]
  cases g id with
  | none => rfl
  | some t => cases t <;> rfl
@[simp] theorem cellsTh_box (cs : List V) (sub : Nat) : cellsTh (some (.box cs)) 0 sub = some (cs.drop sub) := rfl
@[simp] theorem cellsTh_row (sz idx sub : Nat) (a b : Bool) (es : List (List V)) : cellsTh (some (.row sz a b es)) idx sub = (es[idx]?).map fun e => e.drop sub := rfl

def storeTh (L : Heap) (nx n id idx sub : Nat) (x : V) : Option Thing → Option Out
  | some (.box cs) => if idx = 0 ∧ sub + n ≤ cs.length then some (.undef, L.put id (some (.box (putL cs sub x.cells))), nx, [id]) else none
  | some (.row sz true true es) =>
    match es[idx]? with
    | some e => if sub + n ≤ e.length then some (.undef, L.put id (some (.row sz true true (es.set idx (putL e sub x.cells)))), nx, [id]) else none
    | none => none
  | _ => none
theorem refs_cells {g : HeapF} {d : Nat} : ∀ {cs : List V}, cs.all plain1 = true → cs.flatMap (refs g (d + 1)) = []
  | [], _ => rfl
  | c :: cs, h => by
    simp only [List.all_cons, Bool.and_eq_true] at h
    rw [List.flatMap_cons, refs_plain1 h.1, refs_cells h.2]
    rfl
theorem dr_cells {g : HeapF} {fl : Fl} {d : Nat} : ∀ {cs : List V}, cs.all plain1 = true → mapO (dr g fl (d + 1)) cs = some cs := fun h => mapO_id fun c hc => dr_plain1 (List.all_eq_true.1 h c hc)
/-- A plain value is stored. -/
theorem store_plain {L : Heap} {nx n id idx sub : Nat} {x : V} (h1 : x.cells.length = n) (h2 : x.cells.all isCell = true) (h3 : x.cells.all plain1 = true) : store L nx n (.pt id idx sub) x = storeTh L nx n id idx sub x (L.get id) := by
  unfold store
  rw [if_pos ⟨h1, h2⟩]
  simp only []
  cases h : L.get id with
  | none => rfl
  | some t =>
    cases t with
    | box cs => rfl
    | map w es => rfl
    | row sz wr cl es =>
      cases wr <;> cases cl <;> try rfl
      simp only [storeTh]
      cases es[idx]? with
      | none => rfl
      | some e =>
        simp only [deep, refs_cells (d := 5) h3, dr_cells (d := 5) h3]
        split
        · rename_i h'
          have : sub + n ≤ e.length := h'.1
          rw [if_pos this]
          rfl
        · rename_i h'
          rw [if_neg (fun x => h' ⟨x, rfl⟩)]
@[simp] theorem store_int (L : Heap) (nx id idx sub : Nat) (k : IntKind) (m : Int) : store L nx 1 (.pt id idx sub) (.int k m) = storeTh L nx 1 id idx sub (.int k m) (L.get id) := store_plain rfl rfl rfl
@[simp] theorem store_bool (L : Heap) (nx id idx sub : Nat) (b : Bool) : store L nx 1 (.pt id idx sub) (.bool b) = storeTh L nx 1 id idx sub (.bool b) (L.get id) := store_plain rfl rfl rfl
@[simp] theorem store_str (L : Heap) (nx id idx sub : Nat) (s : List UInt8) : store L nx 1 (.pt id idx sub) (.str s) = storeTh L nx 1 id idx sub (.str s) (L.get id) := store_plain rfl rfl rfl
@[simp] theorem store_arr (L : Heap) (nx id idx sub sz : Nat) (es : List (List V)) : store L nx 1 (.pt id idx sub) (.arr .fresh sz es) = storeTh L nx 1 id idx sub (.arr .fresh sz es) (L.get id) := store_plain rfl rfl rfl
@[simp] theorem store_nilsl (L : Heap) (nx id idx sub : Nat) : store L nx 1 (.pt id idx sub) .nilsl = storeTh L nx 1 id idx sub .nilsl (L.get id) := store_plain rfl rfl rfl
@[simp] theorem store_agg (L : Heap) (nx n id idx sub : Nat) (cs : List V) (h1 : cs.length = n) (h2 : cs.all isCell = true) (h3 : cs.all plain1 = true) : store L nx n (.pt id idx sub) (.agg cs) = storeTh L nx n id idx sub (.agg cs) (L.get id) := store_plain h1 h2 h3
@[simp] theorem storeTh_box (L : Heap) (nx n id sub : Nat) (x : V) (cs : List V) (h : sub + n ≤ cs.length) : storeTh L nx n id 0 sub x (some (.box cs)) = some (.undef, L.put id (some (.box (putL cs sub x.cells))), nx, [id]) := by
  simp [storeTh, h]
@[simp] theorem putL_zero {α : Type} (cs xs : List α) : putL cs 0 xs = xs ++ cs.drop xs.length := by cases cs <;> simp [putL]
@[simp] theorem putL_succ {α : Type} (c : α) (cs xs : List α) (n : Nat) : putL (c :: cs) (n + 1) xs = c :: putL cs n xs := rfl
/-- A number is stored in a row of numbers. -/
@[simp] theorem storeTh_ints (L : Heap) (nx id idx : Nat) (l : List Int) (m : Int) (h : idx < l.length) :
    storeTh L nx 1 id idx 0 (.int .i64 m) (some (.row 1 true true (l.map iv))) = some (.undef, L.put id (some (.row 1 true true ((l.set idx m).map iv))), nx, [id]) := by
  have : l[idx]? = some l[idx] := List.getElem?_eq_getElem h
  simp only [storeTh, List.getElem?_map, this, Option.map_some, List.length_cons, List.length_nil]
  simp [List.map_set]

/-! Rows grow. -/
theorem elemsOf_arr {g : HeapF} {sz : Nat} {es : List (List V)} : elemsOf g sz (.arr .fresh sz es) = some (es, []) := by simp [elemsOf]
theorem elemsOf_arro {g : HeapF} {sz : Nat} {es : List (List V)} : elemsOf g sz (.arr .old sz es) = some (es, []) := by simp [elemsOf]
theorem elemsOf_row {g : HeapF} {sz id off len : Nat} {wr : Bool} {es : List (List V)} (h : g id = some (.row sz wr true es)) (hl : off + len ≤ es.length) : elemsOf g sz (.sl id sz off len) = some ((es.drop off).take len, []) := by
  simp [elemsOf, h, hl]
/-- What is appended is told. -/
def appE (L : Heap) (nx sz bytes : Nat) (s : V) (q : List (List V)) : Option Out :=
  match s with
  | .nilsl | .z => if q.length * bytes ≤ room then (if q.isEmpty then some (s, L, nx, []) else some (.sl nx sz 0 q.length, L.put nx (some (.row sz true true q)), nx + 1, [])) else none
  | .sl id _ off len =>
    match L.get id with
    | some (.row sz' true true es) =>
      if sz' = sz ∧ (len + q.length) * bytes ≤ room then
        if off + len = es.length then some (.sl nx sz 0 (len + q.length), (L.put id none).put nx (some (.row sz true true (es.drop off ++ q))), nx + 1, [id])
        else if off + len + q.length ≤ es.length then some (.sl id sz off (len + q.length), L.put id (some (.row sz true true (es.take (off + len) ++ q ++ es.drop (off + len + q.length)))), nx, [id])
        else none
      else none
    | _ => none
  | _ => none
theorem append_of {L : Heap} {nx sz bytes : Nat} {s x : V} {q : List (List V)} (h : elemsOf L.get sz x = some (q, [])) : append L nx sz bytes s x = appE L nx sz bytes s q := by
  unfold append appE
  rw [h]
  simp only [Option.bind_some, freeze_nil, List.contains_nil, and_true]
  cases s <;> rfl
@[simp] theorem append_arr (L : Heap) (nx sz bytes : Nat) (s : V) (es : List (List V)) : append L nx sz bytes s (.arr .fresh sz es) = appE L nx sz bytes s es := append_of elemsOf_arr
@[simp] theorem append_arro (L : Heap) (nx sz bytes : Nat) (s : V) (es : List (List V)) : append L nx sz bytes s (.arr .old sz es) = appE L nx sz bytes s es := append_of elemsOf_arro
@[simp] theorem append_nil (L : Heap) (nx sz bytes : Nat) (s : V) : append L nx sz bytes s .nilsl = appE L nx sz bytes s [] := append_of rfl
@[simp] theorem append_z (L : Heap) (nx sz bytes : Nat) (s : V) : append L nx sz bytes s .z = appE L nx sz bytes s [] := append_of rfl
theorem append_row {L : Heap} {nx sz bytes id off len : Nat} {s : V} {wr : Bool} {es : List (List V)} (h : L.get id = some (.row sz wr true es)) (hl : off + len ≤ es.length) : append L nx sz bytes s (.sl id sz off len) = appE L nx sz bytes s ((es.drop off).take len) := append_of (elemsOf_row h hl)
@[simp] theorem appE_nil (L : Heap) (nx sz bytes : Nat) (q : List (List V)) (h : q.length * bytes ≤ 140737488355328) (h2 : 0 < q.length) : appE L nx sz bytes .nilsl q = some (.sl nx sz 0 q.length, L.put nx (some (.row sz true true q)), nx + 1, []) := by
  have : q.isEmpty = false := by cases q <;> simp at h2 ⊢
  simp [appE, room, h, this]
theorem appE_end {L : Heap} {nx sz bytes id off len : Nat} {es q : List (List V)} (h : L.get id = some (.row sz true true es)) (he : off + len = es.length) (hb : (len + q.length) * bytes ≤ 140737488355328) :
    appE L nx sz bytes (.sl id sz off len) q = some (.sl nx sz 0 (len + q.length), (L.put id none).put nx (some (.row sz true true (es.drop off ++ q))), nx + 1, [id]) := by
  simp [appE, h, he, room, hb]
def appTh (L : Heap) (nx sz bytes id off len : Nat) (q : List (List V)) : Option Thing → Option Out
  | some (.row sz' true true es) =>
    if sz' = sz ∧ (len + q.length) * bytes ≤ room then
      if off + len = es.length then some (.sl nx sz 0 (len + q.length), (L.put id none).put nx (some (.row sz true true (es.drop off ++ q))), nx + 1, [id])
      else if off + len + q.length ≤ es.length then some (.sl id sz off (len + q.length), L.put id (some (.row sz true true (es.take (off + len) ++ q ++ es.drop (off + len + q.length)))), nx, [id])
      else none
    else none
  | _ => none
@[simp] theorem appE_sl (L : Heap) (nx sz bytes id sz2 off len : Nat) (q : List (List V)) : appE L nx sz bytes (.sl id sz2 off len) q = appTh L nx sz bytes id off len q (L.get id) := by
  simp only [appE, appTh]
@[simp] theorem appTh_end (L : Heap) (nx sz bytes id len : Nat) (es q : List (List V)) (he : len = es.length) (hb : (len + q.length) * bytes ≤ 140737488355328) :
    appTh L nx sz bytes id 0 len q (some (.row sz true true es)) = some (.sl nx sz 0 (len + q.length), (L.put id none).put nx (some (.row sz true true (es ++ q))), nx + 1, [id]) := by
  subst he
  simp [appTh, room, hb]
@[simp high] theorem appTh_map {α : Type} (L : Heap) (nx sz bytes id len : Nat) (f : α → List V) (l : List α) (q : List (List V)) (he : len = l.length) (hb : (len + q.length) * bytes ≤ 140737488355328) :
    appTh L nx sz bytes id 0 len q (some (.row sz true true (l.map f))) = some (.sl nx sz 0 (len + q.length), (L.put id none).put nx (some (.row sz true true (l.map f ++ q))), nx + 1, [id]) := by
  rw [appTh_end L nx sz bytes id len _ q (by simpa using he) hb]
@[simp high] theorem appTh_mm {α β : Type} (L : Heap) (nx sz bytes id len : Nat) (f : α → List V) (l : List α) (g : β → List V) (q : List β) (he : len = l.length) (hb : (len + q.length) * bytes ≤ 140737488355328) :
    appTh L nx sz bytes id 0 len (q.map g) (some (.row sz true true (l.map f))) = some (.sl nx sz 0 (len + q.length), (L.put id none).put nx (some (.row sz true true (l.map f ++ q.map g))), nx + 1, [id]) := by
  rw [appTh_map L nx sz bytes id len _ l _ he (by simpa using hb)]
  simp
@[simp high] theorem appTh_em {β : Type} (L : Heap) (nx sz bytes id : Nat) (g : β → List V) (q : List β) (hb : q.length * bytes ≤ 140737488355328) :
    appTh L nx sz bytes id 0 0 (q.map g) (some (.row sz true true [])) = some (.sl nx sz 0 q.length, (L.put id none).put nx (some (.row sz true true (q.map g))), nx + 1, [id]) := by
  rw [appTh_end L nx sz bytes id 0 [] _ rfl (by simpa using hb)]
  simp
@[simp high] theorem appE_nilm {β : Type} (L : Heap) (nx sz bytes : Nat) (g : β → List V) (q : List β) (h : q.length * bytes ≤ 140737488355328) (h2 : 0 < q.length) : appE L nx sz bytes .nilsl (q.map g) = some (.sl nx sz 0 q.length, L.put nx (some (.row sz true true (q.map g))), nx + 1, []) := by
  rw [appE_nil L nx sz bytes _ (by simpa using h) (by simpa using h2)]
  simp
@[simp] theorem isNil_nilsl : isNil 0 .nilsl = some true := rfl
@[simp] theorem isNil_map {α : Type} (f : Fl) (sz : Nat) (g : α → List V) (l : List α) (h : 0 < l.length) : isNil 0 (.arr f sz (l.map g)) = some false := by
  have : (l.map g).isEmpty = false := by cases l <;> simp at h ⊢
  simp [isNil, this]
@[simp] theorem isNil_sl (a b c d : Nat) (h : 0 < d) : isNil 0 (.sl a b c d) = some false := by
  have : ¬ d = 0 := by omega
  simp [isNil, this]
/-- A row that is handed on whole. -/
def ownTh (L : Heap) (own : Bool) (id sz len : Nat) : Option Thing → Option (V × List Nat × List Nat)
  | some (.row sz' wr true es) => if len ≤ es.length then some (if own && wr then (.arr .own sz' (es.take len), [id], []) else (.arr .fresh sz' (es.take len), [], [id])) else ownV L own (.sl id sz 0 len)
  | _ => ownV L own (.sl id sz 0 len)
@[simp] theorem ownV_sl {L : Heap} {own : Bool} {id sz len : Nat} : ownV L own (.sl id sz 0 len) = ownTh L own id sz len (L.get id) := by
  cases hg : L.get id with
  | none => rfl
  | some t =>
    cases t with
    | box cs => rfl
    | map w es => rfl
    | row sz' wr cl es =>
      cases cl <;> try rfl
      simp only [ownTh]
      split
      · rename_i hl
        cases own <;> cases wr <;> simp [ownV, ownC, hg, hl, deep, dr_row hg (by omega : 0 + len ≤ es.length), refs_row hg]
      · rfl
@[simp] theorem ownTh_own {L : Heap} {id sz sz' len : Nat} {es : List (List V)} (h : len = es.length) : ownTh L true id sz len (some (.row sz' true true es)) = some (.arr .own sz' es, [id], []) := by
  subst h
  simp [ownTh]
@[simp high] theorem ownTh_map {α : Type} {L : Heap} {id sz sz' len : Nat} {f : α → List V} {l : List α} (h : len = l.length) : ownTh L true id sz len (some (.row sz' true true (l.map f))) = some (.arr .own sz' (l.map f), [id], []) := ownTh_own (by simpa using h)
@[simp] theorem ownTh_rest {L : Heap} {id sz sz' len : Nat} {wr : Bool} {es : List (List V)} (h : len = es.length) : ownTh L false id sz len (some (.row sz' wr true es)) = some (.arr .fresh sz' es, [], [id]) := by
  subst h
  simp [ownTh]
@[simp high] theorem ownTh_rmap {α : Type} {L : Heap} {id sz sz' len : Nat} {wr : Bool} {f : α → List V} {l : List α} (h : len = l.length) : ownTh L false id sz len (some (.row sz' wr true (l.map f))) = some (.arr .fresh sz' (l.map f), [], [id]) := ownTh_rest (by simpa using h)
/-! A row that is handed over. -/
def drTh (fl : Fl) (len : Nat) : Option Thing → Option V → Option V
  | some (.row sz wr true es) => fun _ => if len ≤ es.length then some (.arr (if wr = true then fl else .fresh) sz (es.take len)) else none
  | _ => fun o => o
theorem dr_sl' (g : HeapF) (fl : Fl) (d id sz len : Nat) : dr g fl (d + 1) (.sl id sz 0 len) = drTh fl len (g id) (dr g fl (d + 1) (.sl id sz 0 len)) := by
  cases h : g id with
  | none => rfl
  | some t =>
    cases t with
    | box cs => rfl
    | map w es => rfl
    | row sz' wr cl es =>
      cases cl with
      | false => rfl
      | true => simp [dr, h, drTh]
theorem dr_sl_row {g : HeapF} {fl : Fl} {d id sz sz' len : Nat} {wr : Bool} {es : List (List V)} (h : g id = some (.row sz' wr true es)) (hl : len = es.length) : dr g fl (d + 1) (.sl id sz 0 len) = some (.arr (if wr = true then fl else .fresh) sz' es) := by
  subst hl
  simp [dr, h]
def passU (id sz : Nat) (leaky : Bool) (rs : List Nat) : Option (List (List V)) → Option (V × List Nat × List Nat)
  | some es => some (.arr (if leaky then .fresh else .old) sz es, id :: rs, if leaky then id :: rs else [])
  | none => none
@[simp] theorem passU_some (id sz : Nat) (rs : List Nat) (es : List (List V)) : passU id sz true rs (some es) = some (.arr .fresh sz es, id :: rs, id :: rs) := rfl
def passTh (L : Heap) (leaky : Bool) (id sz len : Nat) : Option Thing → Option (V × List Nat × List Nat)
  | some (.row sz' true true es) => if len ≤ es.length then some (.arr (if leaky then .fresh else .old) sz' (es.take len), [id], if leaky then [id] else []) else passV L leaky (.sl id sz 0 len)
  | some (.row sz' false true es) => if len ≤ es.length then some (.arr .fresh sz' (es.take len), [id], if leaky then [id] else []) else passV L leaky (.sl id sz 0 len)
  | some (.row sz' true false es) =>
    if leaky = true ∧ len = es.length ∧ (mapO (mapO (dr L.get .fresh 5)) es).isSome = true then passU id sz' leaky (es.flatMap fun e => e.flatMap (refs L.get 5)) (mapO (mapO (dr L.get .fresh 5)) es) else passV L leaky (.sl id sz 0 len)
  | _ => passV L leaky (.sl id sz 0 len)
@[simp] theorem passV_sl {L : Heap} {leaky : Bool} {id sz len : Nat} : passV L leaky (.sl id sz 0 len) = passTh L leaky id sz len (L.get id) := by
  cases hg : L.get id with
  | none => rfl
  | some t =>
    cases t with
    | box cs => rfl
    | map w es => rfl
    | row sz' wr cl es =>
      cases cl
      · cases wr <;> try rfl
        simp only [passTh]
        split
        · rename_i hc
          obtain ⟨rfl, rfl, h3⟩ := hc
          obtain ⟨es2, h3⟩ := Option.isSome_iff_exists.1 h3
          have h1 : dr L.get .fresh deep (.sl id sz 0 es.length) = some (.arr .fresh sz' es2) := by
            rw [show dr L.get .fresh deep (.sl id sz 0 es.length) = (match L.get id with | some (.row sz wr cl es') => if 0 + es.length ≤ es'.length then (if cl then some ((es'.drop 0).take es.length) else mapO (mapO (dr L.get .fresh 5)) ((es'.drop 0).take es.length)).map fun es2 => V.arr (if wr then .fresh else .fresh) sz es2 else none | _ => none) from rfl, hg]
            simp [h3]
          have h2 : refs L.get deep (.sl id sz 0 es.length) = id :: es.flatMap fun e => e.flatMap (refs L.get 5) := by
            rw [show refs L.get deep (.sl id sz 0 es.length) = (match L.get id with | some (.row _ _ false es) => id :: es.flatMap fun e => e.flatMap (refs L.get 5) | _ => [id]) from rfl, hg]
          simp [passV, h1, h2, h3, passU]
        · rfl
      · cases wr <;> try rfl
        all_goals
          simp only [passTh]
          split
          · rename_i hl
            cases leaky <;> simp [passV, deep, dr_row hg (by omega : 0 + len ≤ es.length), refs_row hg]
          · rfl
theorem passTh_unclean {L : Heap} {id sz sz' len : Nat} {es es2 : List (List V)} (hl : len = es.length) (h : mapO (mapO (dr L.get .fresh 5)) es = some es2) :
    passTh L true id sz len (some (.row sz' true false es)) = some (.arr .fresh sz' es2, id :: es.flatMap fun e => e.flatMap (refs L.get 5), id :: es.flatMap fun e => e.flatMap (refs L.get 5)) := by
  simp [passTh, hl, h]
@[simp] theorem passTh_leaky {L : Heap} {id sz sz' len : Nat} {wr : Bool} {es : List (List V)} (h : len = es.length) : passTh L true id sz len (some (.row sz' wr true es)) = some (.arr .fresh sz' es, [id], [id]) := by
  subst h
  cases wr <;> simp [passTh]
@[simp] theorem passTh_old {L : Heap} {id sz sz' len : Nat} {es : List (List V)} (h : len = es.length) : passTh L false id sz len (some (.row sz' true true es)) = some (.arr .old sz' es, [id], []) := by
  subst h
  simp [passTh]
@[simp high] theorem passTh_leakym {α : Type} {L : Heap} {id sz sz' len : Nat} {wr : Bool} {f : α → List V} {l : List α} (h : len = l.length) : passTh L true id sz len (some (.row sz' wr true (l.map f))) = some (.arr .fresh sz' (l.map f), [id], [id]) := passTh_leaky (by simpa using h)
@[simp high] theorem passTh_oldm {α : Type} {L : Heap} {id sz sz' len : Nat} {f : α → List V} {l : List α} (h : len = l.length) : passTh L false id sz len (some (.row sz' true true (l.map f))) = some (.arr .old sz' (l.map f), [id], []) := passTh_old (by simpa using h)
/-- A box is lent. -/
def passPt (L : Heap) (leaky : Bool) (id sub : Nat) : Option Thing → Option (V × List Nat × List Nat)
  | some (.box cs) => if cs.all plain1 = true then some (.ro .old (cs.drop sub), [id], []) else passV L leaky (.pt id 0 sub)
  | _ => passV L leaky (.pt id 0 sub)
@[simp] theorem passV_pt {L : Heap} {leaky : Bool} {id sub : Nat} : passV L leaky (.pt id 0 sub) = passPt L leaky id sub (L.get id) := by
  cases hg : L.get id with
  | none => rfl
  | some t =>
    cases t with
    | row a b c d => rfl
    | map w es => rfl
    | box cs =>
      simp only [passPt]
      split
      · rename_i hc
        have hd : (cs.drop sub).all plain1 = true := by
          rw [List.all_eq_true] at hc ⊢
          exact fun x hx => hc x (List.mem_of_mem_drop hx)
        have h1 : dr L.get .old deep (.pt id 0 sub) = some (.ro .old (cs.drop sub)) := by
          rw [show dr L.get .old deep (.pt id 0 sub) = (match L.get id with | some (.box cs) => if (Fl.old = .old ∧ 0 = 0) then (mapO (dr L.get .old 5) (cs.drop sub)).map (V.ro .old) else none | _ => none) from rfl, hg]
          simp only [and_self, if_true]
          rw [dr_cells (d := 4) hd]
          rfl
        have h2 : dr L.get .fresh deep (.pt id 0 sub) = none := by simp [deep, dr, hg]
        have h3 : refs L.get deep (.pt id 0 sub) = [id] := by
          rw [show refs L.get deep (.pt id 0 sub) = (match L.get id with | some (.box cs) => id :: cs.flatMap (refs L.get 5) | _ => [id]) from rfl, hg]
          simp only []
          rw [refs_cells (d := 4) hc]
        cases leaky <;> simp [passV, h1, h2, h3]
      · rfl
@[simp] theorem passPt_box {L : Heap} {leaky : Bool} {id sub : Nat} {cs : List V} (h : cs.all plain1 = true) : passPt L leaky id sub (some (.box cs)) = some (.ro .old (cs.drop sub), [id], []) := by simp [passPt, h]
/-- A thing comes to rest. -/
def frTh (L : Heap) (id : Nat) : Option Thing → Heap
  | some (.row sz true cl es) => L.put id (some (.row sz false cl es))
  | some (.map true es) => L.put id (some (.map false es))
  | _ => L
@[simp] theorem freeze1_th (L : Heap) (id : Nat) : freeze1 L id = frTh L id (L.get id) := by
  unfold freeze1 frTh
  rfl
@[simp] theorem frTh_row (L : Heap) (id sz : Nat) (cl : Bool) (es : List (List V)) : frTh L id (some (.row sz true cl es)) = L.put id (some (.row sz false cl es)) := rfl
@[simp] theorem frTh_rest (L : Heap) (id sz : Nat) (cl : Bool) (es : List (List V)) : frTh L id (some (.row sz false cl es)) = L := rfl
@[simp] theorem frTh_map (L : Heap) (id : Nat) (es : List (V × V)) : frTh L id (some (.map true es)) = L.put id (some (.map false es)) := rfl
@[simp] theorem frTh_mapr (L : Heap) (id : Nat) (es : List (V × V)) : frTh L id (some (.map false es)) = L := rfl
/-! Maps. -/
def lookM (ok : Bool) (zero : V) (kk : Kk) (L : Heap) (nx : Nat) (k : V) : Option (List (V × V)) → Option Out
  | none => none
  | some es => if isKey kk k = true then lookR ok zero L nx (mapGet kk es k) else none
where lookR (ok : Bool) (zero : V) (L : Heap) (nx : Nat) : Option (Option V) → Option Out
  | none => none
  | some r => some ((if ok = true then .tup [r.getD zero, .bool r.isSome] else r.getD zero), L, nx, [])
@[simp] theorem exec_look {T : FuncId → Option Def} {cl : Caller} {ρ : Opd → V} {L : Heap} {nx : Nat} (ok : Bool) (zero : V) (kk : Kk) (m k : Opd) :
    exec T cl ρ L nx (.look ok zero kk m k) = lookM ok zero kk L nx (ρ k) (mapOf L.get (ρ m)) := by
  simp only [exec, lookM]
  cases mapOf L.get (ρ m) with
  | none => rfl
  | some es =>
    simp only [Option.bind_some]
    split
    · cases mapGet kk es (ρ k) <;> rfl
    · rfl
@[simp] theorem mapOf_fresh (g : HeapF) (es : List (V × V)) : mapOf g (.map .fresh es) = some es := by simp [mapOf]
@[simp] theorem mapOf_old (g : HeapF) (es : List (V × V)) : mapOf g (.map .old es) = some es := by simp [mapOf]
theorem lookM_some (ok : Bool) (zero : V) (kk : Kk) (L : Heap) (nx : Nat) (k : V) (es : List (V × V)) (h : isKey kk k = true) : lookM ok zero kk L nx k (some es) = lookM.lookR ok zero L nx (mapGet kk es k) := by simp [lookM, h]
@[simp] theorem lookM_str (ok : Bool) (zero : V) (L : Heap) (nx : Nat) (s : List UInt8) (es : List (V × V)) : lookM ok zero (.one .s) L nx (.str s) (some es) = lookM.lookR ok zero L nx (mapGet (.one .s) es (.str s)) := lookM_some _ _ _ _ _ _ _ rfl
@[simp] theorem lookR_some (ok : Bool) (zero : V) (L : Heap) (nx : Nat) (r : Option V) : lookM.lookR ok zero L nx (some r) = some ((if ok = true then .tup [r.getD zero, .bool r.isSome] else r.getD zero), L, nx, []) := rfl
@[simp] theorem isKey_str (s : List UInt8) : isKey (.one .s) (.str s) = true := rfl
@[simp] theorem isKey_int (k : IntKind) (n : Int) : isKey (.one .i) (.int k n) = true := by simp [isKey, keq, ceq]
@[simp] theorem mapGet_nil (kk : Kk) (k : V) : mapGet kk [] k = some none := rfl
@[simp] theorem mapGet_str (s t : List UInt8) (x : V) (es : List (V × V)) : mapGet (.one .s) ((.str s, x) :: es) (.str t) = if t == s then some (some x) else mapGet (.one .s) es (.str t) := by
  simp only [mapGet, keq, ceq, Option.bind_some]
/-! Calls. -/
def finQ (L : Heap) (nx : Nat) : Option Res → Option Out
  | none => none
  | some r => if noOld r.1 = true ∧ r.2.all Thing.back = true then
      some ((thaw r.1 (nx + (thawLs r.2 nx).2.length)).1, putAll L nx ((thawLs r.2 nx).2 ++ (thaw r.1 (nx + (thawLs r.2 nx).2.length)).2), nx + ((thawLs r.2 nx).2 ++ (thaw r.1 (nx + (thawLs r.2 nx).2.length)).2).length, []) else none
def callP2 (c : List V → Option Res) (args : List V) (L : Heap) (nx : Nat) (d : Def) : Option Pass → Option Out
  | some ⟨a, [], [], _, rs⟩ => finQ (freeze L rs) nx (c a)
  | some _ => callDef d c args L nx
  | none => none
@[simp] theorem callO_some {c : List V → Option Res} {args : List V} {L : Heap} {nx : Nat} {d : Def} : callO c args L nx (some d) = callP2 c args L nx d (pass L d.leaky d.rwp args) := by
  simp only [callO]
  cases hp : pass L d.leaky d.rwp args with
  | none => simp [callDef, hp, callP2]
  | some p =>
    obtain ⟨a, bx, rw', rd, rs⟩ := p
    cases bx with
    | cons b bx => rfl
    | nil =>
      cases rw' with
      | cons b bx => rfl
      | nil =>
        simp only [callP2, callDef, hp, Option.bind_some, List.append_nil, List.nodup_nil, List.all_nil, and_self, if_true]
        cases hc : c a with
        | none => rfl
        | some r => rfl
@[congr] theorem callP2_congr {c : List V → Option Res} {args : List V} {L : Heap} {nx : Nat} {d : Def} {p p' : Option Pass} (h : p = p') : callP2 c args L nx d p = callP2 c args L nx d p' := by rw [h]
@[simp] theorem callP2_some {c : List V → Option Res} {args a : List V} {L : Heap} {nx : Nat} {d : Def} {rd rs : List Nat} : callP2 c args L nx d (some ⟨a, [], [], rd, rs⟩) = finQ (freeze L rs) nx (c a) := rfl
theorem finQ_nil {L : Heap} {nx : Nat} {v : V} : finQ L nx (some (v, [])) = finC L nx (some (v, [])) := by
  simp [finQ, finC, thawLs]
@[simp] theorem finQ_none {L : Heap} {nx : Nat} : finQ L nx none = none := rfl
@[simp] theorem finQ_int {L : Heap} {nx : Nat} (k : IntKind) (n : Int) : finQ L nx (some (.int k n, [])) = some (.int k n, L, nx, []) := by rw [finQ_nil]; exact finC_plain _ rfl rfl
@[simp] theorem finQ_bool {L : Heap} {nx : Nat} (b : Bool) : finQ L nx (some (.bool b, [])) = some (.bool b, L, nx, []) := by rw [finQ_nil]; exact finC_plain _ rfl rfl
@[simp] theorem finQ_str {L : Heap} {nx : Nat} (s : List UInt8) : finQ L nx (some (.str s, [])) = some (.str s, L, nx, []) := by rw [finQ_nil]; exact finC_plain _ rfl rfl
@[simp] theorem finQ_nilsl {L : Heap} {nx : Nat} : finQ L nx (some (.nilsl, [])) = some (.nilsl, L, nx, []) := by rw [finQ_nil]; exact finC_plain _ rfl rfl
@[simp] theorem finQ_own {L : Heap} {nx : Nat} (sz : Nat) (es : List (List V)) (h1 : noOldLL es = true) : finQ L nx (some (.arr .own sz es, [])) = some (.sl nx sz 0 es.length, L.put nx (some (.row sz true true es)), nx + 1, []) := by rw [finQ_nil]; exact finC_own sz es h1
@[simp] theorem finQ_fresh {L : Heap} {nx : Nat} (sz : Nat) (es : List (List V)) (h1 : noOldLL es = true) : finQ L nx (some (.arr .fresh sz es, [])) = some (.arr .fresh sz es, L, nx, []) := by rw [finQ_nil]; exact finC_plain _ (by simpa using h1) rfl
theorem finQ_agg {L : Heap} {nx : Nat} (cs : List V) (h1 : noOldL cs = true) (h2 : cs.all plain1 = true) : finQ L nx (some (.agg cs, [])) = some (.agg cs, L, nx, []) := by rw [finQ_nil]; exact finC_plain _ (by simpa using h1) (by simpa using h2)
theorem noOld_iv (l : List Int) : noOldLL (l.map iv) = true := by
  rw [noOldLL_iff]
  simp
@[simp] theorem finQ_ints {L : Heap} {nx : Nat} (l : List Int) : finQ L nx (some (.arr .own 1 (l.map iv), [])) = some (.sl nx 1 0 l.length, L.put nx (some (.row 1 true true (l.map iv))), nx + 1, []) := by
  rw [finQ_own 1 _ (noOld_iv l)]
  simp
@[simp] theorem finQ_intsF {L : Heap} {nx : Nat} (l : List Int) : finQ L nx (some (.arr .fresh 1 (l.map iv), [])) = some (.arr .fresh 1 (l.map iv), L, nx, []) := finQ_fresh 1 _ (noOld_iv l)
@[simp] theorem leaky_code (fi : FI) : (Def.code fi).leaky = fi.leaky := rfl
@[simp] theorem rwp_code (fi : FI) : (Def.code fi).rwp = fi.rwp := rfl
end Go.Fm
end
