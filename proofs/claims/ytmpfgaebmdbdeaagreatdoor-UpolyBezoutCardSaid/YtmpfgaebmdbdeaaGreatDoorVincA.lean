/- The values of the abstract runs, what they stand for in the model's memory, and how that is kept when memory grows. -/
import Derived.Calls
import Derived.Below
import Derived.Orders
import Derived.Scope
import Derived.KernelRfl
import Derived.Laws.World
import Derived.Laws.MakeOwn
import Derived.Laws.CopyRow
import Derived.Laws.AppendOwn
namespace Vinc
open Go Go.RowKit

/-- Values that live in memory that nobody writes any more (or in no memory). -/
inductive PV where
  | any
  | val (v : Value)
  | agg (n : Nat) (f : Nat → PV)
  | tup (n : Nat) (f : Nat → PV)
  | sl (n sz : Nat) (f : Nat → PV)
  | ptr (n : Nat) (f : Nat → PV) (off : Nat)

/-- Values of a frame: besides these, what a call owns and may write. -/
inductive AV where
  | p (x : PV)
  | gd (b : Bool) (x : AV)
  | own (id off n sz : Nat)
  | oat (id off : Nat)

/-- An object of the call's own: its first cells. -/
structure Ob where
  n : Nat
  f : Nat → AV

/-- Values that one cell holds. -/
abbrev isCell (v : Value) : Bool := v.oneCell'

/-- What a value stands for. 'ok': the blocks in which it may lie. -/
def Rep (w : World) (ok : Nat → Prop) : PV → Value → Prop
  | .any, _ => True
  | .val x, v => v = x
  | .agg n f, v => ∃ cs : Array Value, v = .agg cs ∧ cs.size = n ∧ ∀ j, j < n → isCell (cs.getD j undef) = true ∧ Rep w ok (f j) (cs.getD j undef)
  | .tup n f, v => ∃ cs : Array Value, v = .tuple cs ∧ cs.size = n ∧ ∀ j, j < n → Rep w ok (f j) (cs.getD j undef)
  | .sl n sz f, v => ∃ (A : Option Addr) (cap : Nat), v = .slice A n cap ∧ n ≤ cap ∧
      (n * sz = 0 ∨ ∃ b o, A = some ⟨b, o, none⟩ ∧ ok b ∧ ∀ j, j < n * sz → ∃ u, w.cell? ⟨b, o + j, none⟩ = some u ∧ isCell u = true ∧ Rep w ok (f j) u)
  | .ptr n f off, v => ∃ b o, v = .pointer (some ⟨b, o + off, none⟩) ∧ ok b ∧ ∀ j, j < n → ∃ u, w.cell? ⟨b, o + j, none⟩ = some u ∧ isCell u = true ∧ Rep w ok (f j) u

/-- Where the objects of the call's own lie: a block, or nowhere (a slice that is nil). -/
abbrev Locs := Nat → Option (Option Nat)

def RepA (w : World) (ok : Nat → Prop) (L : Locs) : AV → Value → Prop
  | .p x, v => Rep w ok x v
  | .gd b x, v => (b = true → RepA w ok L x v) ∧ (b = false → v = undef)
  | .own id off n sz, v => (L id = some none ∧ n = 0 ∧ ∃ A, v = .slice A 0 0) ∨ (∃ B o, L id = some (some B) ∧ n = 0 ∧ v = .slice (some ⟨B, o, none⟩) 0 0) ∨
      ∃ B cap, L id = some (some B) ∧ v = .slice (some ⟨B, off, none⟩) n cap ∧ n ≤ cap ∧ ∃ c e, w.heap[B]? = some (.cells c e (0, 0)) ∧ off + cap * sz ≤ c.size
  | .oat id off, v => ∃ B, L id = some (some B) ∧ v = .pointer (some ⟨B, off, none⟩)

theorem Rep.mono {w w' : World} {ok ok' : Nat → Prop} (hw : ∀ b, ok b → w'.heap[b]? = w.heap[b]?) (hok : ∀ b, ok b → ok' b) :
    ∀ (x : PV) (v : Value), Rep w ok x v → Rep w' ok' x v := by
  intro x
  induction x with
  | any => intro v _; trivial
  | val x => intro v h; exact h
  | agg n f ih =>
    rintro v ⟨cs, rfl, hs, hc⟩
    exact ⟨cs, rfl, hs, fun j hj => ⟨(hc j hj).1, ih j _ (hc j hj).2⟩⟩
  | tup n f ih =>
    rintro v ⟨cs, rfl, hs, hc⟩
    exact ⟨cs, rfl, hs, fun j hj => ih j _ (hc j hj)⟩
  | sl n sz f ih =>
    rintro v ⟨A, cap, rfl, hcap, h⟩
    refine ⟨A, cap, rfl, hcap, ?_⟩
    rcases h with h | ⟨b, o, rfl, hb, h⟩
    · exact .inl h
    · refine .inr ⟨b, o, rfl, hok _ hb, fun j hj => ?_⟩
      obtain ⟨u, hu, hc, hr⟩ := h j hj
      exact ⟨u, (World.cell?_of_block (a := ⟨b, o + j, none⟩) (hw _ hb)).trans hu, hc, ih j _ hr⟩
  | ptr n f off ih =>
    rintro v ⟨b, o, rfl, hb, h⟩
    refine ⟨b, o, rfl, hok _ hb, fun j hj => ?_⟩
    obtain ⟨u, hu, hc, hr⟩ := h j hj
    exact ⟨u, (World.cell?_of_block (a := ⟨b, o + j, none⟩) (hw _ hb)).trans hu, hc, ih j _ hr⟩

/-- Own rows keep their sizes, and stay unfrozen. -/
def RowsKept (w w' : World) (L : Locs) : Prop :=
  ∀ i B, L i = some (some B) → ∀ c e, w.heap[B]? = some (.cells c e (0, 0)) → ∃ c', w'.heap[B]? = some (.cells c' e (0, 0)) ∧ c'.size = c.size

theorem RepA.mono {w w' : World} {ok ok' : Nat → Prop} {L L' : Locs} (hw : ∀ b, ok b → w'.heap[b]? = w.heap[b]?) (hok : ∀ b, ok b → ok' b)
    (hL : ∀ i B, L i = some B → L' i = some B) (hr : RowsKept w w' L) : ∀ (x : AV) (v : Value), RepA w ok L x v → RepA w' ok' L' x v := by
  intro x
  induction x with
  | p x => exact fun v h => Rep.mono hw hok x v h
  | gd b x ih => exact fun v h => ⟨fun hb => ih v (h.1 hb), h.2⟩
  | own id off n sz =>
    rintro v (⟨hB, hn, hv⟩ | ⟨B, o, hB, hn, hv⟩ | ⟨B, cap, hB, rfl, hc, c, e, hh, hs⟩)
    · exact .inl ⟨hL _ _ hB, hn, hv⟩
    · exact .inr (.inl ⟨B, o, hL _ _ hB, hn, hv⟩)
    · obtain ⟨c', hc', hsz⟩ := hr id B hB c e hh
      exact .inr (.inr ⟨B, cap, hL _ _ hB, rfl, hc, c', e, hc', by omega⟩)
  | oat id off =>
    rintro v ⟨B, hB, rfl⟩
    exact ⟨B, hL _ _ hB, rfl⟩

theorem RowsKept.refl (w : World) (L : Locs) : RowsKept w w L := fun _ _ _ c _ h => ⟨c, h, rfl⟩

/-- Lists of arguments. -/
def RepL (w : World) (ok : Nat → Prop) : List PV → List Value → Prop
  | [], [] => True
  | x :: xs, v :: vs => Rep w ok x v ∧ RepL w ok xs vs
  | _, _ => False

theorem RepL.length {w : World} {ok : Nat → Prop} : ∀ {xs : List PV} {vs : List Value}, RepL w ok xs vs → xs.length = vs.length
  | [], [], _ => rfl
  | _ :: _, _ :: _, h => by simp [RepL.length h.2]
  | [], _ :: _, h => h.elim
  | _ :: _, [], h => h.elim

theorem RepL.get {w : World} {ok : Nat → Prop} : ∀ {xs : List PV} {vs : List Value}, RepL w ok xs vs → ∀ (k : Nat) (x : PV), xs[k]? = some x → ∃ v, vs[k]? = some v ∧ Rep w ok x v
  | [], [], _, k, x, hk => by simp at hk
  | x :: xs, v :: vs, h, 0, y, hk => by simp at hk; subst hk; exact ⟨v, rfl, h.1⟩
  | x :: xs, v :: vs, h, k + 1, y, hk => by simpa using RepL.get h.2 k y (by simpa using hk)
  | [], _ :: _, h, _, _, _ => h.elim
  | _ :: _, [], h, _, _, _ => h.elim

theorem RepL.mono {w w' : World} {ok ok' : Nat → Prop} (hw : ∀ b, ok b → w'.heap[b]? = w.heap[b]?) (hok : ∀ b, ok b → ok' b) :
    ∀ {xs : List PV} {vs : List Value}, RepL w ok xs vs → RepL w' ok' xs vs
  | [], [], _ => trivial
  | _ :: _, _ :: _, h => ⟨Rep.mono hw hok _ _ h.1, RepL.mono hw hok h.2⟩
  | [], _ :: _, h => h.elim
  | _ :: _, [], h => h.elim

/-- The address of a package's variable. -/
abbrev gptr (g : Nat) : Value := .pointer (some ⟨g, 0, none⟩)

/-- A function that is entered when it is called. -/
def Entered (P : Program) (f : FuncId) : Prop := ∃ fn, P.funcs[f]? = some fn ∧ (fn.name == "runtime.NumGoroutine") = false ∧ fn.body.isNone = false

/-- The contract of a function: it returns, what was there stays, and the result stands for 'res'. 'G': what is known of package variables. -/
def CallSpec (P : Program) (G : Nat → PV) (f : FuncId) (as : List PV) (res : PV) : Prop :=
  Entered P f ∧
  ∀ (w : World) (ok : Nat → Prop) (vs : Array Value), (∀ b, ok b → b < w.heap.size) → (∀ g, Rep w ok (G g) (gptr g)) → RepL w ok as vs.toList →
    Calls P f vs w fun e w' => ∃ v, e = .returned v ∧ Below w.heap.size w w' ∧ Rep w' (fun b => ok b ∨ (w.heap.size ≤ b ∧ b < w'.heap.size)) res v

/-- A slice in a row of its own, whose cells need no other memory. -/
def OwnRep (w : World) (B : Option Nat) (n s : Nat) (g : Nat → PV) (v : Value) : Prop :=
  match B with
  | none => n = 0 ∧ ∃ A, v = .slice A 0 0
  | some b => ∃ cs e, w.heap[b]? = some (.cells cs e (0, 0)) ∧ n * s ≤ cs.size ∧ (∀ j, j < n * s → isCell (cs.getD j undef) = true ∧ Rep w (fun _ => False) (g j) (cs.getD j undef)) ∧
      ((n = 0 ∧ ∃ o, v = .slice (some ⟨b, o, none⟩) 0 0) ∨ ∃ cap, v = .slice (some ⟨b, 0, none⟩) n cap ∧ n ≤ cap ∧ cap * s ≤ cs.size)

/-- The contract of a function whose result is a new slice that the caller may write. -/
def CallSpecO (P : Program) (G : Nat → PV) (f : FuncId) (as : List PV) (n s : Nat) (g : Nat → PV) : Prop :=
  Entered P f ∧
  ∀ (w : World) (ok : Nat → Prop) (vs : Array Value), (∀ b, ok b → b < w.heap.size) → (∀ g, Rep w ok (G g) (gptr g)) → RepL w ok as vs.toList →
    Calls P f vs w fun e w' => ∃ v B, e = .returned v ∧ Below w.heap.size w w' ∧ (∀ b, B = some b → w.heap.size ≤ b ∧ b < w'.heap.size) ∧ OwnRep w' B n s g v

/-- How such a result is named among a region's results. -/
def ownR (n s : Nat) (g : Nat → PV) : PV := .tup 0 (fun _ => .sl n s g)

/-- The contract of a function without a Go text: it answers at once. -/
def ExtSpec (P : Program) (f : FuncId) (as : List PV) (res : PV) : Prop :=
  ∀ (w : World) (ok : Nat → Prop) (vs : Array Value), RepL w ok as vs.toList → ∃ v, (callFunc f vs).run P w = .ok (.value v) w ∧ Rep w ok res v

def CallOk (P : Program) (G : Nat → PV) (f : FuncId) (as : List PV) (res : PV) : Prop := CallSpec P G f as res ∨ ExtSpec P f as res

/-- What is to be known of a type. -/
inductive Ty where
  | int (k : IntKind)
  | bool
  | str
  | slice (e : Nat)
  | array (n e : Nat)
  | struct (fs : List (Nat × Nat))
  | pointer (e : Nat)
  | func

structure TI where
  ty : Ty
  size : Nat
  bytes : Nat
  zero : List Value

def TyOk (P : Program) (t : Nat) : Ty → Prop
  | .int k => P.underlying t = some (.int k)
  | .bool => P.underlying t = some .bool
  | .str => P.underlying t = some .string
  | .slice e => P.underlying t = some (.slice e)
  | .array n e => P.underlying t = some (.array n e)
  | .struct fs => ∃ gs, P.underlying t = some (.struct gs) ∧ gs.toList.map (fun f => (f.offset, f.type)) = fs
  | .pointer e => P.underlying t = some (.pointer e)
  | .func => ∃ a b v, P.underlying t = some (.func a b v)

structure TIok (P : Program) (t : Nat) (i : TI) : Prop where
  ty : TyOk P t i.ty
  info : (P.info? t).map (fun f => (f.size, f.bytes, f.zero.map (·.cells.toList))) = some (i.size, i.bytes, some i.zero)

/-- A program, what is known of its variables and of its types. -/
structure Pr where
  P : Program
  G : Nat → PV
  T : Nat → Option TI
  hT : ∀ t i, T t = some i → TIok P t i

/-- What a body is run for. -/
structure Cx extends Pr where
  w0 : World
  ok0 : Nat → Prop
  N : Nat
  hok : ∀ b, ok0 b → b < w0.heap.size
  hG : ∀ g, Rep w0 ok0 (G g) (gptr g)

/-- A state: the slots, the objects of the call's own, the numbers of objects that were given. -/
structure St where
  t : Nat → AV
  h : Nat → Option Ob
  u : Nat → Bool

def St.live (σ : St) (L : Locs) (b : Nat) : Prop := ∃ i, (σ.h i).isSome ∧ L i = some (some b)

/-- The blocks in which values that nobody writes may lie. -/
def St.ok (c : Cx) (σ : St) (L : Locs) (w : World) (b : Nat) : Prop :=
  (c.ok0 b ∨ (c.w0.heap.size ≤ b ∧ b < w.heap.size)) ∧ ¬ σ.live L b

/-- An object, where it lies. -/
def ObAt (w : World) (ok : Nat → Prop) (L : Locs) (o : Ob) : Option Nat → Prop
  | none => o.n = 0
  | some B => ∃ cs e, w.heap[B]? = some (.cells cs e (0, 0)) ∧ o.n ≤ cs.size ∧ ∀ j, j < o.n → isCell (cs.getD j undef) = true ∧ RepA w ok L (o.f j) (cs.getD j undef)

structure Inv (c : Cx) (σ : St) (L : Locs) (a : Act) (w : World) : Prop where
  below : Below c.w0.heap.size c.w0 w
  defers : a.defers = []
  size : a.tmps.size = c.N
  fresh : ∀ i, σ.u i = false → L i = none
  live : ∀ i o, σ.h i = some o → ∃ B, L i = some B ∧ ObAt w (σ.ok c L w) L o B
  own : ∀ i B, L i = some (some B) → c.w0.heap.size ≤ B ∧ B < w.heap.size
  inj : ∀ i j B, (σ.h i).isSome → (σ.h j).isSome → L i = some (some B) → L j = some (some B) → i = j
  tmps : ∀ k, RepA w (σ.ok c L w) L (σ.t k) (a.tmps.getD k undef)

def upd {α : Type} (f : Nat → α) (k : Nat) (x : α) : Nat → α := fun i => if i = k then x else f i

theorem upd_same {α : Type} (f : Nat → α) (k : Nat) (x : α) : upd f k x k = x := by simp [upd]
theorem upd_ne {α : Type} (f : Nat → α) {k i : Nat} (x : α) (h : i ≠ k) : upd f k x i = f i := by simp [upd, h]
theorem upd_comm {α : Type} (f : Nat → α) {k l : Nat} (x y : α) (h : k ≠ l) : upd (upd f k x) l y = upd (upd f l y) k x := by
  funext i
  simp only [upd]
  by_cases h1 : i = k
  · subst h1; rw [if_neg h, if_pos rfl, if_pos rfl]
  · by_cases h2 : i = l
    · subst h2; rw [if_pos rfl, if_neg h1, if_pos rfl]
    · rw [if_neg h2, if_neg h1, if_neg h1, if_neg h2]

/-- What an operand stands for. -/
def evT (c : Pr) (t : Nat → AV) : Operand → AV
  | .tmp k => t k
  | .const v => .p (.val v)
  | .global g => .p (c.G g)
  | .func f => .p (.val (.func (.func f) #[] #[]))

abbrev St.ev (c : Cx) (σ : St) : Operand → AV := evT c.toPr σ.t

theorem Inv.ok_of_ok0 {c : Cx} {σ : St} {L : Locs} {a : Act} {w : World} (I : Inv c σ L a w) {b : Nat} (h : c.ok0 b) : σ.ok c L w b :=
  ⟨.inl h, fun ⟨i, _, hL⟩ => by have := (I.own i b hL).1; have := c.hok b h; omega⟩

theorem Inv.ok_lt {c : Cx} {σ : St} {L : Locs} {a : Act} {w : World} (I : Inv c σ L a w) {b : Nat} (h : σ.ok c L w b) : b < w.heap.size := by
  rcases h.1 with h | h
  · have := c.hok b h; have := I.below.size; omega
  · exact h.2

theorem Inv.glob {c : Cx} {σ : St} {L : Locs} {a : Act} {w : World} (I : Inv c σ L a w) (g : Nat) : Rep w (σ.ok c L w) (c.G g) (gptr g) :=
  Rep.mono (fun b hb => I.below.block b (c.hok b hb)) (fun _ hb => I.ok_of_ok0 hb) _ _ (c.hG g)

theorem Inv.ev {c : Cx} {σ : St} {L : Locs} {a : Act} {w : World} (I : Inv c σ L a w) (y : Operand) : RepA w (σ.ok c L w) L (σ.ev c y) (a.eval y) := by
  cases y with
  | tmp t => exact I.tmps t
  | const v => exact (rfl : v = v)
  | global g => exact I.glob g
  | func f => exact (rfl : Value.func (.func f) #[] #[] = _)

/-- Short names. -/
abbrev u64 (n : Nat) : PV := .val (.int .u64 n)
abbrev i64 (n : Int) : PV := .val (.int .i64 n)
abbrev bool (b : Bool) : PV := .val (.bool b)
abbrev nilS : PV := .val (.slice none 0 0)
abbrev nilP : PV := .val (.pointer none)

end Vinc
