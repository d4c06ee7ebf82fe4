/- What one operation does, over abstract states: a function, evaluated by Lean; what it asks of its operands stands beside its answer. -/
import Derived.Test.YtmpfgaebmdbdeaaGreatDoorVincE
namespace Vinc
open Go Go.RowKit

def keq : IntKind → IntKind → Bool
  | .i8, .i8 | .i16, .i16 | .i32, .i32 | .i64, .i64 | .u8, .u8 | .u16, .u16 | .u32, .u32 | .u64, .u64 => true
  | _, _ => false

theorem keq_eq {k l : IntKind} (h : keq k l = true) : k = l := by cases k <;> cases l <;> first | rfl | simp [keq] at h

def bitI (op : BinOp) (k : IntKind) (a b : Int) : Int :=
  match op with
  | .and => k.wrap (BitVec.ofInt k.bits a &&& BitVec.ofInt k.bits b).toNat
  | .or => k.wrap (BitVec.ofInt k.bits a ||| BitVec.ofInt k.bits b).toNat
  | .xor => k.wrap (BitVec.ofInt k.bits a ^^^ BitVec.ofInt k.bits b).toNat
  | _ => k.wrap (BitVec.ofInt k.bits a &&& ~~~BitVec.ofInt k.bits b).toNat

def arith (op : BinOp) (k : IntKind) (a b : Int) : Option (Value × Option Prop) :=
  match op with
  | .add => some (.int k (k.wrap (a + b)), none)
  | .sub => some (.int k (k.wrap (a - b)), none)
  | .mul => some (.int k (k.wrap (a * b)), none)
  | .quo => some (.int k (k.wrap (a.tdiv b)), some (b ≠ 0))
  | .rem => some (.int k (a.tmod b), some (b ≠ 0))
  | .and => some (.int k (bitI .and k a b), none)
  | .or => some (.int k (bitI .or k a b), none)
  | .xor => some (.int k (bitI .xor k a b), none)
  | .andNot => some (.int k (bitI .andNot k a b), none)
  | .eql => some (.bool (a == b), none)
  | .neq => some (.bool (a != b), none)
  | .lss => some (.bool (decide (a < b)), none)
  | .leq => some (.bool (decide (a ≤ b)), none)
  | .gtr => some (.bool (decide (a > b)), none)
  | .geq => some (.bool (decide (a ≥ b)), none)
  | _ => none

def shift (op : BinOp) (k : IntKind) (a b : Int) : Option (Value × Option Prop) :=
  match op with
  | .shl => some (.int k (k.wrap (a * 2 ^ (min b.toNat k.bits))), some (0 ≤ b))
  | .shr => some (.int k (a.fdiv (2 ^ (min b.toNat k.bits))), some (0 ≤ b))
  | _ => none

def binBool (op : BinOp) (a b : Bool) : Option (Value × Option Prop) :=
  match op with
  | .eql => some (.bool (a == b), none)
  | .neq => some (.bool (!(a == b)), none)
  | _ => none

/-- The result of '==' and '!=' by whether the two are the same. -/
def eqn (op : BinOp) (b : Bool) : Option (Value × Option Prop) :=
  match op with
  | .eql => some (.bool b, none)
  | .neq => some (.bool (!b), none)
  | _ => none

def isShift : BinOp → Bool
  | .shl | .shr => true
  | _ => false

def isPtr : Option TI → Bool
  | some ⟨.pointer _, _, _, _⟩ => true
  | _ => false

def isBoolT : Option TI → Bool
  | some ⟨.bool, _, _, _⟩ => true
  | _ => false

def isStrT : Option TI → Bool
  | some ⟨.str, _, _, _⟩ => true
  | _ => false

def eqnC (op : BinOp) (b : Bool) (C : Prop) : Option (Value × Option Prop) :=
  match op with
  | .eql => some (.bool b, some C)
  | .neq => some (.bool (!b), some C)
  | _ => none

def isSlT : Option TI → Bool
  | some ⟨.slice _, _, _, _⟩ => true
  | _ => false

def bin (op : BinOp) (T : Option TI) (x y : AV) : Option (Value × Option Prop) :=
  match x, y with
  | .p (.val (.int k a)), .p (.val (.int k' b)) => bif isShift op then shift op k a b else bif keq k k' then arith op k a b else none
  | .p (.val (.bool a)), .p (.val (.bool b)) => bif isBoolT T then binBool op a b else none
  | .p (.val (.pointer none)), .p (.val (.pointer none)) => bif isPtr T then eqn op true else none
  | .p (.ptr _ _ _), .p (.val (.pointer none)) => bif isPtr T then eqn op false else none
  | .oat _ _, .p (.val (.pointer none)) => bif isPtr T then eqn op false else none
  | .p (.val (.string a)), .p (.val (.string b)) => bif isStrT T then eqn op (a.toList == b.toList) else none
  | .p (.val (.slice A _ _)), .p (.val (.slice none _ _)) => bif isSlT T then eqn op A.isNone else none
  | .p (.sl n s _), .p (.val (.slice none _ _)) => bif isSlT T then eqnC op false (n * s ≠ 0) else none
  | _, _ => none

def isAggT (i : TI) : Bool :=
  match i.ty with
  | .struct _ | .array _ _ => true
  | _ => false

def pvOf : AV → PV
  | .p x => x
  | _ => .any

def asAgg : PV → Option (Nat × (Nat → PV))
  | .agg n f => some (n, f)
  | .val (.agg cs) => bif cs.all isCell then some (cs.size, fun j => .val (cs.getD j undef)) else none
  | _ => none

/-- Values of one cell, by their form. -/
def cellish : AV → Bool
  | .p (.val v) => isCell v
  | .p (.sl _ _ _) | .p (.ptr _ _ _) | .own _ _ _ _ | .oat _ _ => true
  | _ => false

def mulS (n s : Nat) : Nat := match s with
  | 1 => n
  | _ => n * s

def addO (n k : Nat) : Nat := match n with
  | 0 => k
  | n => n + k

theorem addO_eq (n k : Nat) : addO n k = n + k := by unfold addO; split <;> simp

theorem mulS_eq (n s : Nat) : mulS n s = n * s := by unfold mulS; split <;> simp

/-- A part of what lies in a row of cells. -/
def part (i : TI) (n : Nat) (f : Nat → PV) (off : Nat) : PV × Prop :=
  bif isAggT i then (.agg i.size (fun j => f (off + j)), off + i.size ≤ n) else (f off, off < n)

def partO (i : TI) (o : Ob) (off : Nat) : AV × Prop :=
  bif isAggT i then (.p (.agg i.size (fun j => pvOf (o.f (off + j)))), off + i.size ≤ o.n) else (o.f off, off < o.n)

def boolOf : AV → Option Bool
  | .p (.val (.bool b)) => some b
  | .gd _ (.p (.val (.bool b))) => some b
  | _ => none

def gOf : AV → Bool
  | .gd b _ => b
  | _ => true

/-- The bounds of a slice expression: from, to; what is asked. -/
def bnd (x : Option AV) (dflt : Nat) : Option (Nat × (Nat → Prop)) :=
  match x with
  | none => some (dflt, fun _ => True)
  | some (.p (.val (.int _ z))) => some (z.toNat, fun m => 0 ≤ z ∧ z.toNat ≤ m)
  | some _ => none

structure Cut where
  lo : Nat
  n : Nat
  C : Prop

def cutOf (n : Nat) (lo hi mx : Option AV) : Option Cut :=
  match mx with
  | some (.p (.val (.int _ m))) =>
    match hi with
    | some (.p (.val (.int _ h))) =>
      match lo with
      | none => some ⟨0, h.toNat, (0 ≤ m ∧ m ≤ n) ∧ 0 ≤ h ∧ h ≤ m⟩
      | some (.p (.val (.int _ l))) => some ⟨l.toNat, h.toNat - l.toNat, (0 ≤ m ∧ m ≤ n) ∧ (0 ≤ h ∧ h ≤ m) ∧ 0 ≤ l ∧ l ≤ h⟩
      | _ => none
    | _ => none
  | none =>
    match hi with
    | none =>
      match lo with
      | none => some ⟨0, n, True⟩
      | some (.p (.val (.int _ l))) => some ⟨l.toNat, n - l.toNat, 0 ≤ l ∧ l ≤ n⟩
      | _ => none
    | some (.p (.val (.int _ h))) =>
      match lo with
      | none => some ⟨0, h.toNat, 0 ≤ h ∧ h ≤ n⟩
      | some (.p (.val (.int _ l))) => some ⟨l.toNat, h.toNat - l.toNat, (0 ≤ h ∧ h ≤ n) ∧ 0 ≤ l ∧ l ≤ h⟩
      | _ => none
    | _ => none
  | _ => none

def shiftF {α : Type} (f : Nat → α) (k : Nat) : Nat → α := match k with
  | 0 => f
  | k + 1 => fun j => f (k + 1 + j)

def sliceT : Option TI → Option Nat
  | some ⟨.slice e, _, _, _⟩ => some e
  | _ => none

def arrT : Option TI → Option (Nat × Nat)
  | some ⟨.array n e, _, _, _⟩ => some (n, e)
  | _ => none

def structT : Option TI → Option (List (Nat × Nat))
  | some ⟨.struct fs, _, _, _⟩ => some fs
  | _ => none

/-- Where a field lies, its type; no field without cells. -/
def fieldT (T : Nat → Option TI) (S k : Nat) : Option (Nat × TI) :=
  match structT (T S) with
  | some fs => match fs[k]? with
    | some (o, ft) => match T ft with
      | some i => match i.size with
        | 0 => none
        | _ => some (o, i)
      | none => none
    | none => none
  | none => none

def lenV (T : Option TI) (x : AV) : Option Nat :=
  match sliceT T with
  | some _ => match x with
    | .p (.sl n _ _) => some n
    | .own _ _ n _ => some n
    | .p (.val (.slice none 0 0)) => some 0
    | _ => none
  | none => match x with
    | .p (.val (.string s)) => bif isStrT T then some s.size else none
    | _ => none

def minmax (mx : Bool) (x y : AV) : Option Value :=
  match x, y with
  | .p (.val (.int k a)), .p (.val (.int k' b)) => bif keq k k' then some (.int k (bif mx then (if b > a then b else a) else (if b < a then b else a))) else none
  | _, _ => none

/-- Where a part of a struct or an array lies. -/
def placeOf (T : Nat → Option TI) (i : TI) (k : Nat) : Option (Nat × TI) :=
  match i.ty with
  | .struct fs => match fs[k]? with
    | some (o, ft) => match T ft with
      | some j => some (o, j)
      | none => none
    | none => none
  | .array _ e => match T e with
    | some j => some (mulS k j.size, j)
    | none => none
  | _ => none

/-- The cells of a struct or an array that is built. -/
def buildA (T : Nat → Option TI) (V : Operand → AV) (i : TI) : List (Nat × Operand) → (Nat → PV) → Option (Nat → PV)
  | [], f => some f
  | (k, y) :: ps, f =>
    match placeOf T i k with
    | some (o, j) => bif Nat.ble (o + j.size) i.size then
        match V y with
        | .p x => bif isAggT j then match asAgg x with
            | some (n, g) => bif Nat.beq n j.size then buildA T V i ps (fun q => if o ≤ q then (if q < o + j.size then g (q - o) else f q) else f q) else none
            | none => none
          else bif Nat.beq j.size 1 && cellish (.p x) then buildA T V i ps (upd f o x) else none
        | _ => none
      else none
    | none => none

/-- All fields are of types that are known. -/
def fieldsOk (T : Nat → Option TI) (i : TI) : Bool :=
  match i.ty with
  | .struct fs => fs.all fun f => (T f.2).isSome
  | .array _ e => (T e).isSome
  | _ => true

def zeroOk (i : TI) : Bool := i.zero.all isCell && Nat.beq i.zero.length i.size

/-- Operations that answer, and leave memory as it is. -/
def coreV (T : Nat → Option TI) (V : Operand → AV) (h : Nat → Option Ob) : Op → Option (AV × Option Prop)
  | .move x => some (V x, none)
  | .assign x => some (V x, none)
  | .pick c x y =>
    match V c with
    | .p (.val (.bool b)) => match boolOf (V x), boolOf (V y) with
      | some v1, some v2 => some (.p (.val (.bool (bif b then v1 else v2))), some ((b = true → gOf (V x) = true) ∧ (b = false → gOf (V y) = true)))
      | _, _ => none
    | .gd g (.p (.val (.bool b))) => match boolOf (V x), boolOf (V y) with
      | some v1, some v2 => some (.p (.val (.bool (bif b then v1 else v2))), some (g = true ∧ (b = true → gOf (V x) = true) ∧ (b = false → gOf (V y) = true)))
      | _, _ => none
    | _ => none
  | .binOp op t x y _ => match bin op (T t) (V x) (V y) with
    | some (v, C) => some (.p (.val v), C)
    | none => none
  | .unOp op _ x => match op, V x with
    | .neg, .p (.val (.int k n)) => some (.p (.val (.int k (k.wrap (0 - n)))), none)
    | .not, .p (.val (.bool b)) => some (.p (.val (.bool !b)), none)
    | _, _ => none
  | .convert src dst x => match T src, T dst, V x with
    | some _, some ⟨.int k, _, _, _⟩, .p (.val (.int _ n)) => some (.p (.val (.int k (k.wrap n))), none)
    | _, _, _ => none
  | .nilCheck x => match V x with
    | .p (.ptr n f off) => some (.p (.ptr n f off), none)
    | .oat id off => some (.oat id off, none)
    | _ => none
  | .fieldAddr s x k => match fieldT T s k with
    | some (o, _) => match V x with
      | .p (.ptr n f off) => some (.p (.ptr n f (addO off o)), none)
      | .oat id off => some (.oat id (addO off o), none)
      | _ => none
    | none => none
  | .field s x k => match fieldT T s k, V x with
    | some (o, i), .p y => match asAgg y with
      | some (n, f) => match part i n f o with
        | (r, C) => some (.p r, some C)
      | none => none
    | _, _ => none
  | .load t x => match T t with
    | some i => match V x with
      | .p (.ptr n f off) => match part i n f off with
        | (r, C) => some (.p r, some C)
      | .oat id off => match h id with
        | some o => match partO i o off with
          | (r, C) => some (r, some C)
        | none => none
      | _ => none
    | none => none
  | .indexAddr t x ix => match V ix with
    | .p (.val (.int _ z)) => match sliceT (T t) with
      | some e => match T e with
        | some i => match V x with
          | .p (.sl n s f) => bif Nat.beq s i.size && Nat.ble 1 i.size then some (.p (.ptr (mulS n i.size) f (mulS z.toNat i.size)), some (0 ≤ z ∧ z < n)) else none
          | .own id off n _ => some (.oat id (addO off (mulS z.toNat i.size)), some (0 ≤ z ∧ z < n))
          | _ => none
        | none => none
      | none => match arrT (T t) with
        | some (n, e) => match T e with
          | some i => match V x with
            | .p (.ptr m f off) => some (.p (.ptr m f (addO off (mulS z.toNat i.size))), some (0 ≤ z ∧ z < n))
            | .oat id off => some (.oat id (addO off (mulS z.toNat i.size)), some (0 ≤ z ∧ z < n))
            | _ => none
          | none => none
        | none => none
    | _ => none
  | .index t x ix => match V ix, arrT (T t), V x with
    | .p (.val (.int _ z)), some (n, e), .p y => match T e, asAgg y with
      | some i, some (m, f) => match part i m f (mulS z.toNat i.size) with
        | (r, C) => some (.p r, some ((0 ≤ z ∧ z < n) ∧ C))
      | _, _ => none
    | .p (.val (.int _ z)), none, .p (.val (.string s)) => bif isStrT (T t) then some (.p (.val (.int .u8 ((s.data.getD z.toNat 0).toNat : Nat))), some (0 ≤ z ∧ z < s.data.size)) else none
    | _, _, _ => none
  | .extract x i => match V x with
    | .p (.tup n f) => bif Nat.blt i n then some (.p (f i), none) else none
    | _ => none
  | .slice t x lo hi mx => match sliceT (T t) with
    | some e => match T e with
      | some i => match V x with
        | .p (.sl n s f) => bif Nat.beq s i.size then match cutOf n (lo.map V) (hi.map V) (mx.map V) with
          | some ⟨l, m, C⟩ => some (.p (.sl m s (shiftF f (mulS l s))), C)
          | none => none else none
        | .own id off n s => bif Nat.beq s i.size then match cutOf n (lo.map V) (hi.map V) (mx.map V) with
          | some ⟨l, m, C⟩ => some (.own id (addO off (mulS l s)) m s, some C)
          | none => none else none
        | .p (.val (.slice none 0 0)) => match cutOf 0 (lo.map V) (hi.map V) (mx.map V) with
          | some ⟨_, _, C⟩ => some (.p (.val (.slice none 0 0)), some C)
          | none => none
        | _ => none
      | none => none
    | none => none
  | .build t parts => match T t with
    | some i => bif isAggT i && fieldsOk T i && zeroOk i then match buildA T V i parts.toList (fun j => .val (i.zero.getD j undef)) with
      | some f => some (.p (.agg i.size f), none)
      | none => none else none
    | none => none
  | .makeFunc (.func f) first captured => match first.toList, captured.toList with
    | [], [] => some (.p (.val (.func (.func f) #[] #[])), none)
    | _, _ => none
  | .call ⟨.builtin .len, args, ts⟩ => match args.toList, ts.toList with
    | [x], [t] => match lenV (T t) (V x) with
      | some n => some (.p (.val (.int .i64 n)), none)
      | none => none
    | _, _ => none
  | .call ⟨.builtin .min, args, _⟩ => match args.toList with
    | [x, y] => match minmax false (V x) (V y) with
      | some v => some (.p (.val v), none)
      | none => none
    | _ => none
  | .call ⟨.builtin .max, args, _⟩ => match args.toList with
    | [x, y] => match minmax true (V x) (V y) with
      | some v => some (.p (.val v), none)
      | none => none
    | _ => none
  | _ => none

end Vinc
