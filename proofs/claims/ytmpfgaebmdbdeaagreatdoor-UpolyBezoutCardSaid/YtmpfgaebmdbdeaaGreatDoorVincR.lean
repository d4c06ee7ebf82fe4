/- Operations that make or write memory of the call's own; calls; one operation, and a row of them. -/
import Derived.Test.YtmpfgaebmdbdeaaGreatDoorVincC
namespace Vinc
open Go Go.RowKit

structure Out where
  x : AV
  hw : List (Nat × Option Ob)
  C : Option Prop

def zeroF (i : TI) : Nat → PV := match i.size with
  | 1 => fun _ => .val (i.zero.getD 0 undef)
  | s => fun j => .val (i.zero.getD (j % s) undef)

/-- The cells of one value, as a store or a new variable takes them. -/
def cellsA (i : TI) (x : AV) : Option (Nat → AV) :=
  bif isAggT i then match asAgg (pvOf x) with
    | some (n, g) => bif Nat.beq n i.size then some (fun j => .p (g j)) else none
    | none => none
  else bif Nat.beq i.size 1 && cellish x then some (fun _ => x) else none

/-- A row of cells with some written over. -/
def overF (f : Nat → AV) (off s : Nat) (g : Nat → AV) : Nat → AV := match s with
  | 1 => upd f off (g 0)
  | s => fun j => if off ≤ j then (if j < off + s then g (j - off) else f j) else f j

def fillS (V : Operand → AV) (i : TI) (n : Nat) : List (Nat × Operand) → (Nat → AV) → Option (Nat → AV)
  | [], f => some f
  | (k, y) :: ps, f => bif Nat.blt k n then match cellsA i (V y) with
      | some g => fillS V i n ps (overF f (mulS k i.size) i.size g)
      | none => none else none

def appF (n : Nat) (f g : Nat → AV) : Nat → AV := fun j => if j < n then f j else g (j - n)

/-- What is read of a slice: how many elements, and its cells. -/
def srcA (h : Nat → Option Ob) (s : Nat) : AV → Option (Nat × (Nat → AV) × Option (Nat × Prop))
  | .p (.sl n s' f) => bif Nat.beq s s' then some (n, fun j => .p (f j), none) else none
  | .p (.val (.slice none 0 0)) => some (0, fun _ => .p .any, none)
  | .own id off n s' => bif Nat.beq s s' then match h id with
    | some o => some (n, shiftF o.f off, some (id, off + mulS n s ≤ o.n))
    | none => none else none
  | _ => none

def kC : Option (Nat × Prop) → Prop
  | none => True
  | some (_, C) => C

def kNe (id : Nat) : Option (Nat × Prop) → Bool
  | none => true
  | some (id', _) => !Nat.beq id id'

def coreH (T : Nat → Option TI) (V : Operand → AV) (h : Nat → Option Ob) (fresh : Bool) (d : Nat) : Op → Option Out
  | .alloc t => match T t with
    | some i => bif fresh && zeroOk i then some ⟨.oat d 0, [(d, some ⟨i.size, fun j => .p (.val (i.zero.getD j undef))⟩)], none⟩ else none
    | none => none
  | .box t x => match T t with
    | some i => bif fresh then match cellsA i (V x) with
      | some g => some ⟨.oat d 0, [(d, some ⟨i.size, g⟩)], none⟩
      | none => none else none
    | none => none
  | .buildSlice t len parts => match sliceT (T t) with
    | some e => match T e with
      | some i => bif fresh && zeroOk i && Nat.ble (len * i.size) 4096 then match fillS V i len parts.toList (fun j => .p (zeroF i j)) with
        | some f => some ⟨.own d 0 len i.size, [(d, some ⟨mulS len i.size, f⟩)], none⟩
        | none => none else none
      | none => none
    | none => none
  | .makeSlice t l cp => match sliceT (T t) with
    | some e => match T e with
      | some i => bif fresh && zeroOk i && Nat.ble i.bytes 128 then match V l, V cp with
        | .p (.val (.int _ a)), .p (.val (.int _ b)) => some ⟨.own d 0 a.toNat i.size, [(d, some ⟨mulS a.toNat i.size, fun j => .p (zeroF i j)⟩)], some (0 ≤ a ∧ a ≤ b ∧ b ≤ 1099511627776)⟩
        | _, _ => none else none
      | none => none
    | none => none
  | .store t x v => match T t with
    | some i => match V x with
      | .oat id off => match h id with
        | some o => match cellsA i (V v) with
          | some g => some ⟨.p (.val undef), [(id, some ⟨o.n, overF o.f off i.size g⟩)], some (off + i.size ≤ o.n)⟩
          | none => none
        | none => none
      | _ => none
    | none => none
  | .call ⟨.builtin .append, args, ts⟩ => match args.toList, ts.toList with
    | [x, y], [t, t'] => bif fresh && Nat.beq t t' then match sliceT (T t) with
      | some e => match T e with
        | some i => bif zeroOk i && Nat.ble i.bytes 128 && Nat.ble 1 i.size then match srcA h i.size (V y) with
          | some (m, g, k) =>
            match V x with
            | .p (.val (.slice none 0 0)) => some ⟨.own d 0 m i.size, [(d, some ⟨mulS m i.size, g⟩)], some (m ≤ 1099511627776 ∧ kC k)⟩
            | .own id off n s => match h id with
              | some o => match off with
                | 0 => bif Nat.beq s i.size && kNe id k then
                    some ⟨.own d 0 (n + m) i.size, [(id, none), (d, some ⟨mulS (n + m) i.size, appF (mulS n i.size) o.f g⟩)], some (n + m ≤ 1099511627776 ∧ o.n = mulS n i.size ∧ kC k)⟩
                  else none
                | _ => none
              | none => none
            | _ => none
          | none => none else none
        | none => none
      | none => none else none
    | _, _ => none
  | .call ⟨.builtin .copy, args, ts⟩ => match args.toList, ts.toList with
    | [x, y], [t, _] => match sliceT (T t) with
      | some e => match T e with
        | some i => bif Nat.beq i.size 1 then match srcA h 1 (V y) with
          | some (m, g, k) => match V x with
            | .own id off n s => match h id with
              | some o => bif Nat.beq s 1 && kNe id k then
                  some ⟨.p (.val (.int .i64 (Nat.min m n))), [(id, some ⟨o.n, fun j => if off ≤ j then (if j < off + Nat.min m n then g (j - off) else o.f j) else o.f j⟩)],
                    some (off + n ≤ o.n ∧ kC k)⟩
                else none
              | none => none
            | _ => none
          | none => none else none
        | none => none
      | none => none
    | _, _ => none
  | _ => none

/-- An argument of a call: what it is while nobody writes it. The number of the object that it shows, if it shows one. -/
def viewA (h : Nat → Option Ob) : AV → Option (PV × Option (Nat × Prop))
  | .p x => some (x, none)
  | .gd _ _ => none
  | .own id off n s => match h id with
    | some o => some (.sl n s (fun j => pvOf (shiftF o.f off j)), some (id, off + mulS n s ≤ o.n))
    | none => none
  | .oat id off => match h id with
    | some o => some (.ptr o.n (fun j => pvOf (o.f j)) off, some (id, True))
    | none => none

def viewL (h : Nat → Option Ob) : List AV → Option (List PV × Bool × Prop)
  | [] => some ([], true, True)
  | x :: xs => match viewA h x, viewL h xs with
    | some (y, none), some (ys, b, C) => some (y :: ys, b, C)
    | some (y, some (_, C')), some (ys, _, C) => some (y :: ys, false, C' ∧ C)
    | _, _ => none

/-- Values that lie in no memory. -/
def flat : PV → Bool
  | .any | .val _ => true
  | .tup n f => flatN n f
  | _ => false
where
  flatN : Nat → (Nat → PV) → Bool
    | 0, _ => true
    | n + 1, f => (match f n with | .any | .val _ => true | _ => false) && flatN n f

def calleeF (V : Operand → AV) : Callee → Option FuncId
  | .value y => match V y with
    | .p (.val (.func (.func f) first captured)) => match first.toList, captured.toList with
      | [], [] => some f
      | _, _ => none
    | _ => none
  | _ => none

def coreC (c : Pr) (V : Operand → AV) (h : Nat → Option Ob) (r : PV) : Op → Option (AV × Option Prop)
  | .call ⟨cal, args, _⟩ => match calleeF V cal with
    | some f => match viewL h (args.toList.map V) with
      | some (as, true, _) => some (.p r, some (CallOk c.P c.G f as r))
      | some (as, false, C) => bif flat r then some (.p r, some (C ∧ CallOk c.P c.G f as r)) else none
      | none => none
    | none => none
  | _ => none

/-- The objects that arguments show. -/
def idsA : List AV → List Nat
  | [] => []
  | .own id _ _ _ :: l => id :: idsA l
  | .oat id _ :: l => id :: idsA l
  | _ :: l => idsA l

def dropH (ids : List Nat) : List (Nat × Option Ob) := ids.map fun i => (i, none)

/-- What stands ahead of all that: a call whose result is the caller's own; a call whose result may show what it was given: nobody writes that any more. -/
def coreZ (c : Pr) (V : Operand → AV) (h : Nat → Option Ob) (fresh : Bool) (d : Nat) (r : PV) : Op → Option Out
  | .call ⟨cal, args, _⟩ => match r with
    | .tup 0 f => match f 0 with
      | .sl n s g => bif fresh then match calleeF V cal with
        | some q => match viewL h (args.toList.map V) with
          | some (as, _, C) => some ⟨.own d 0 n s, [(d, some ⟨mulS n s, fun j => .p (g j)⟩)], some (C ∧ CallSpecO c.P c.G q as n s g)⟩
          | none => none
        | none => none else none
      | _ => none
    | _ => match calleeF V cal with
      | some q => match viewL h (args.toList.map V) with
        | some (as, false, C) => bif flat r then none else some ⟨.p r, dropH (idsA (args.toList.map V)), some (C ∧ CallOk c.P c.G q as r)⟩
        | _ => none
      | none => none
  | _ => none

def applyH : List (Nat × Option Ob) → (Nat → Option Ob) → (Nat → Option Ob)
  | [], h => h
  | (i, o) :: l, h => applyH l (upd h i o)

def applyU : List (Nat × Option Ob) → (Nat → Bool) → (Nat → Bool)
  | [], u => u
  | (i, _) :: l, u => applyU l (upd u i true)

def core (c : Pr) (V : Operand → AV) (h : Nat → Option Ob) (fresh : Bool) (d : Nat) (r : PV) (op : Op) : Option Out :=
  match coreZ c V h fresh d r op with
  | some o => some o
  | none => match coreV c.T V h op with
    | some (x, C) => some ⟨x, [], C⟩
    | none => match coreH c.T V h fresh d op with
      | some o => some o
      | none => match coreC c V h r op with
        | some (x, C) => some ⟨x, [], C⟩
        | none => none

def ungd : AV → AV
  | .gd _ x => x
  | x => x

def CP : Option Prop → Prop
  | none => True
  | some C => C

def andO (p : Prop) : Option Prop → Option Prop
  | none => some p
  | some q => some (p ∧ q)

/-- What the operands ask that are there under a condition alone. -/
def gds (V : Operand → AV) : List Operand → Option Prop → Option Prop
  | [], acc => acc
  | y :: ys, acc => match V y with
    | .gd b _ => gds V ys (andO (b = true) acc)
    | _ => gds V ys acc

def guardC (b : Bool) (G C : Option Prop) : Option Prop :=
  match G, C with
  | none, none => none
  | some G, none => some (b = true → G)
  | none, some C => some (b = true → C)
  | some G, some C => some (b = true → G ∧ C)

/-- The same value, laid open. -/
def force {α : Type} (x : AV) (k : AV → α) : α :=
  match x with
  | .p .any => k (.p .any)
  | .p (.val v) => k (.p (.val v))
  | .p (.agg n f) => k (.p (.agg n f))
  | .p (.tup n f) => k (.p (.tup n f))
  | .p (.sl n s f) => k (.p (.sl n s f))
  | .p (.ptr n f off) => k (.p (.ptr n f off))
  | .gd b x => k (.gd b x)
  | .own i o n s => k (.own i o n s)
  | .oat i o => k (.oat i o)

theorem force_eq {α : Type} (x : AV) (k : AV → α) : force x k = k x := by
  cases x with
  | p x => cases x <;> rfl
  | _ => rfl

/-- A state, its three parts one by one. -/
structure S3 where
  t : Nat → AV
  h : Nat → Option Ob
  u : Nat → Bool
  C : Option Prop

def putS (N : Nat) (dst : Option Nat) (t : Nat → AV) (h : Nat → Option Ob) (u : Nat → Bool) (o : Out) : Option S3 :=
  match o with
  | ⟨x, hw, C⟩ =>
  match dst with
  | some d => bif Nat.blt d N then force x fun x => match hw with
      | [] => some ⟨upd t d x, h, u, C⟩
      | l => some ⟨upd t d x, applyH l h, applyU l u, C⟩
    else none
  | none => match hw with
      | [] => some ⟨t, h, u, C⟩
      | l => some ⟨t, applyH l h, applyU l u, C⟩

/-- What an op that another one leans on says of it. -/
def guardV (want : Bool) (v : Value) : Option Bool := match v with
  | .bool b => some (b == want)
  | _ => none

def guardP (want : Bool) (x : PV) : Option Bool := match x with
  | .val v => guardV want v
  | _ => none

def guardB (want g : Bool) (v : Value) : Option Bool := match v with
  | .bool b => some (g && (b == want))
  | _ => none

def guardG (want g : Bool) (x : PV) : Option Bool := match x with
  | .val v => guardB want g v
  | _ => none

def guardA (want : Bool) (x : AV) : Option Bool := match x with
  | .p x => guardP want x
  | .gd g (.p x) => guardG want g x
  | _ => none

def guardOf (gops : Array Oper) (t : Nat → AV) (j : Nat) (want : Bool) : Option Bool :=
  match gops[j]? with
  | some o => match o.dst with
    | some d => guardA want (t d)
    | none => none
  | none => none

def freshOf (u : Nat → Bool) : Option Nat → Bool
  | some d => !u d
  | none => false

def isPick : Op → Bool
  | .pick _ _ _ => true
  | _ => false

/-- The operands as an op under a condition takes them: a choice asks for what it chooses. -/
def Vg (p : Bool) (V : Operand → AV) : Operand → AV := match p with
  | true => V
  | false => fun y => ungd (V y)

def needs (p : Bool) (l : List Operand) : List Operand := match p with
  | true => []
  | false => l

def stp (c : Pr) (N : Nat) (gops : Array Oper) (o : Oper) (r : PV) (t : Nat → AV) (h : Nat → Option Ob) (u : Nat → Bool) : Option S3 :=
  match o.guard with
  | none => match core c (evT c t) h (freshOf u o.dst) (o.dst.getD 0) r o.op with
    | some out => putS N o.dst t h u out
    | none => none
  | some (j, want) => match guardOf gops t j want with
    | some b => match core c (Vg (isPick o.op) (evT c t)) h false 0 r o.op with
      | some ⟨x, [], C⟩ => force x fun x => putS N o.dst t h u ⟨.gd b x, [], guardC b (gds (evT c t) (needs (isPick o.op) o.op.operands.toList) none) C⟩
      | some _ => none
      | none => bif b then match core c (Vg (isPick o.op) (evT c t)) h (freshOf u o.dst) (o.dst.getD 0) r o.op with
        | some ⟨x, hw, C⟩ => putS N o.dst t h u ⟨x, hw, guardC b (gds (evT c t) (needs (isPick o.op) o.op.operands.toList) none) C⟩
        | none => none else none
    | none => none

def runF (c : Pr) (N : Nat) (gops : Array Oper) : List (Oper × PV) → (Nat → AV) → (Nat → Option Ob) → (Nat → Bool) → Prop → Option (St × Prop)
  | [], t, h, u, acc => some (⟨t, h, u⟩, acc)
  | (o, r) :: l, t, h, u, acc => match stp c N gops o r t h u with
    | some ⟨t', h', u', none⟩ => runF c N gops l t' h' u' acc
    | some ⟨t', h', u', some C⟩ => runF c N gops l t' h' u' (C ∧ acc)
    | none => none

def isUserCall : Op → Bool
  | .call ⟨.builtin _, _, _⟩ => false
  | .call _ => true
  | _ => false

def zipO : List Oper → List PV → List (Oper × PV)
  | [], _ => []
  | o :: os, rs => bif isUserCall o.op then match rs with
      | [] => (o, .any) :: zipO os []
      | r :: rs => (o, r) :: zipO os rs
    else (o, .any) :: zipO os rs

end Vinc
