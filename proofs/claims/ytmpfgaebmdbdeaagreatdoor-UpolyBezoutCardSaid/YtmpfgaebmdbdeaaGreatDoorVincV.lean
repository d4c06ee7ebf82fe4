/- The operations that answer, and leave memory as it is, do in the model what coreV says. -/
import Derived.Test.YtmpfgaebmdbdeaaGreatDoorVincR
import Derived.Laws.Cells
import Derived.ChangeKeysEq
set_option linter.unusedSimpArgs false
set_option linter.unusedVariables false
namespace Vinc
open Go Go.RowKit

variable {P : Program} {w : World}

theorem run_eqGuard_int (op : BinOp) (t : TypeId) (x y : Operand) (k k' : IntKind) (a b : Int) : (eqGuard op t x y (.int k a) (.int k' b)).run P w = .ok () w := by
  cases op <;> rfl

theorem arith_run {op : BinOp} {k : IntKind} {a b : Int} {v : Value} {C : Option Prop} (h : arith op k a b = some (v, C)) (hC : CP C) (hs : isShift op = false) (t : TypeId) :
    (binOp op t (.int k a) (.int k b)).run P w = .ok v w := by
  cases op <;> simp only [arith, Option.some.injEq, Prod.mk.injEq, reduceCtorEq, isShift] at h hs <;> (try (obtain ⟨rfl, rfl⟩ := h)) <;>
    simp [CP, binOp, Op.intArith, Op.intDiv, Op.intBits, Op.intCmp, bitI] at hC ⊢ <;> (try simp [hC])

theorem shift_run {op : BinOp} {k k' : IntKind} {a b : Int} {v : Value} {C : Option Prop} (h : shift op k a b = some (v, C)) (hC : CP C) (t : TypeId) :
    (binOp op t (.int k a) (.int k' b)).run P w = .ok v w := by
  cases op <;> simp only [shift, Option.some.injEq, Prod.mk.injEq, reduceCtorEq] at h <;> (try (obtain ⟨rfl, rfl⟩ := h)) <;>
    simp [CP] at hC <;> simp [binOp, Op.shift, Int.not_lt.mpr hC]

theorem keq_of {k l : IntKind} (h : keq k l = true) : l = k := (keq_eq h).symm

theorem bif_some {α : Type} {b : Bool} {x : Option α} {r : α} (h : (bif b then x else none) = some r) : b = true ∧ x = some r := by
  cases b
  · cases h
  · exact ⟨rfl, h⟩

theorem bif_some2 {α : Type} {b : Bool} {x y : Option α} {r : α} (h : (bif b then x else y) = some r) : (b = true ∧ x = some r) ∨ (b = false ∧ y = some r) := by
  cases b
  · exact .inr ⟨rfl, h⟩
  · exact .inl ⟨rfl, h⟩

theorem tyOf {c : Pr} {t : Nat} {i : TI} (h : c.T t = some i) : TyOk c.P t i.ty := (c.hT t i h).ty

theorem isBoolT_of {c : Pr} {t : Nat} (h : isBoolT (c.T t) = true) : c.P.underlying t = some .bool := by
  unfold isBoolT at h
  split at h
  · rename_i ht; exact tyOf ht
  · cases h

theorem isPtr_of {c : Pr} {t : Nat} (h : isPtr (c.T t) = true) : ∃ e, c.P.underlying t = some (.pointer e) := by
  unfold isPtr at h
  split at h
  · rename_i ht; exact ⟨_, tyOf ht⟩
  · cases h

theorem isStrT_of {c : Pr} {t : Nat} (h : isStrT (c.T t) = true) : c.P.underlying t = some .string := by
  unfold isStrT at h
  split at h
  · rename_i ht; exact tyOf ht
  · cases h

theorem sliceT_of {c : Pr} {t e : Nat} (h : sliceT (c.T t) = some e) : c.P.underlying t = some (.slice e) := by
  unfold sliceT at h
  split at h
  · rename_i ht; cases h; exact tyOf ht
  · cases h

theorem arrT_of {c : Pr} {t e n : Nat} (h : arrT (c.T t) = some (n, e)) : c.P.underlying t = some (.array n e) := by
  unfold arrT at h
  split at h
  · rename_i ht; cases h; exact tyOf ht
  · cases h

theorem structT_of {c : Pr} {t : Nat} {fs : List (Nat × Nat)} (h : structT (c.T t) = some fs) : ∃ gs, c.P.underlying t = some (.struct gs) ∧ gs.toList.map (fun f => (f.offset, f.type)) = fs := by
  unfold structT at h
  split at h
  · rename_i ht; cases h; exact tyOf ht
  · cases h

/-- A type's row in the model. -/
theorem info_of {c : Pr} {t : Nat} {i : TI} (h : c.T t = some i) : ∃ f z, c.P.info? t = some f ∧ f.size = i.size ∧ f.bytes = i.bytes ∧ f.zero = some z ∧ z.cells.toList = i.zero := by
  have hi := (c.hT t i h).info
  cases hf : c.P.info? t with
  | none => rw [hf] at hi; simp at hi
  | some f =>
    rw [hf] at hi
    simp only [Option.map_some, Option.some.injEq, Prod.mk.injEq] at hi
    obtain ⟨h1, h2, h3⟩ := hi
    cases hz : f.zero with
    | none => rw [hz] at h3; simp at h3
    | some z =>
      rw [hz] at h3
      simp only [Option.map_some, Option.some.injEq] at h3
      exact ⟨f, z, rfl, h1, h2, hz, h3⟩

theorem run_sizeOf' {c : Pr} {t : Nat} {i : TI} (h : c.T t = some i) (w : World) : (Go.sizeOf t).run c.P w = .ok i.size w := by
  obtain ⟨f, z, hf, hs, _⟩ := info_of h
  simp [Go.sizeOf, typeInfo, hf, hs]

theorem run_isAgg {c : Pr} {t : Nat} {i : TI} (h : c.T t = some i) (w : World) : (isAgg t).run c.P w = .ok (isAggT i) w := by
  have ht := tyOf h
  unfold isAgg isAggT
  cases hty : i.ty <;> rw [hty] at ht <;> simp only [TyOk] at ht
  case struct fs => obtain ⟨gs, hg, _⟩ := ht; simp [run_underlying hg]
  case func => obtain ⟨_, _, _, hg⟩ := ht; simp [run_underlying hg]
  all_goals simp [run_underlying ht]

theorem equal_succ (t : TypeId) (x y : Value) : Op.equal t x y = Op.equalIn (9999 + 1) t x y := rfl

theorem run_equal_bool {t : Nat} (hu : P.underlying t = some .bool) (a b : Bool) : (Op.equal t (.bool a) (.bool b)).run P w = .ok (a == b) w := by
  rw [equal_succ]; generalize 9999 = d; simp [Op.equalIn, run_underlying hu]

theorem run_equal_nil {t e : Nat} (hu : P.underlying t = some (.pointer e)) : (Op.equal t (.pointer none) (.pointer none)).run P w = .ok true w := by
  rw [equal_succ]; generalize 9999 = d; simp [Op.equalIn, run_underlying hu]

theorem run_equal_ptr {t e : Nat} (hu : P.underlying t = some (.pointer e)) (a : Addr) : (Op.equal t (.pointer (some a)) (.pointer none)).run P w = .ok false w := by
  rw [equal_succ]; generalize 9999 = d; simp [Op.equalIn, run_underlying hu]

theorem run_equal_sl {t e : Nat} (hu : P.underlying t = some (.slice e)) (A : Option Addr) (n1 c1 n2 c2 : Nat) : (Op.equal t (.slice A n1 c1) (.slice none n2 c2)).run P w = .ok A.isNone w := by
  rw [equal_succ]; generalize 9999 = d; cases A <;> simp [Op.equalIn, run_underlying hu]

theorem isSlT_of {c : Pr} {t : Nat} (h : isSlT (c.T t) = true) : ∃ e, c.P.underlying t = some (.slice e) := by
  unfold isSlT at h
  split at h
  · rename_i e _ _ _ hT
    exact ⟨e, tyOf hT⟩
  · cases h

theorem bin_run {c : Pr} {op : BinOp} {t : Nat} {x y : AV} {X Y : Value} {v : Value} {C : Option Prop} {ok : Nat → Prop} {L : Locs} (h : bin op (c.T t) x y = some (v, C)) (hC : CP C)
    (hx : RepA w ok L x X) (hy : RepA w ok L y Y) (xo yo : Operand) :
    (eqGuard op t xo yo X Y).run c.P w = .ok () w ∧ (binOp op t X Y).run c.P w = .ok v w := by
  unfold bin at h
  split at h
  · rename_i k a k' b
    obtain rfl : X = _ := hx
    obtain rfl : Y = _ := hy
    refine ⟨run_eqGuard_int op t xo yo k k' a b, ?_⟩
    rcases bif_some2 h with ⟨_, h⟩ | ⟨hs, h⟩
    · exact shift_run h hC t
    · obtain ⟨hk, h⟩ := bif_some h
      obtain rfl := keq_of hk
      exact arith_run h hC hs t
  · rename_i a b
    obtain rfl : X = _ := hx
    obtain rfl : Y = _ := hy
    obtain ⟨hT, h⟩ := bif_some h
    have hu := isBoolT_of hT
    unfold binBool at h
    split at h <;> cases h
    · exact ⟨rfl, by simp [binOp, run_equal_bool hu]⟩
    · exact ⟨rfl, by simp [binOp, run_equal_bool hu]⟩
  · obtain rfl : X = _ := hx
    obtain rfl : Y = _ := hy
    obtain ⟨hT, h⟩ := bif_some h
    obtain ⟨e, hu⟩ := isPtr_of hT
    unfold eqn at h
    split at h <;> cases h
    · exact ⟨rfl, by simp [binOp, run_equal_nil hu]⟩
    · exact ⟨rfl, by simp [binOp, run_equal_nil hu]⟩
  · obtain ⟨b, o, rfl, _⟩ := hx
    obtain rfl : Y = _ := hy
    obtain ⟨hT, h⟩ := bif_some h
    obtain ⟨e, hu⟩ := isPtr_of hT
    unfold eqn at h
    split at h <;> cases h
    · exact ⟨rfl, by simp [binOp, run_equal_ptr hu]⟩
    · exact ⟨rfl, by simp [binOp, run_equal_ptr hu]⟩
  · obtain ⟨B, _, rfl⟩ := hx
    obtain rfl : Y = _ := hy
    obtain ⟨hT, h⟩ := bif_some h
    obtain ⟨e, hu⟩ := isPtr_of hT
    unfold eqn at h
    split at h <;> cases h
    · exact ⟨rfl, by simp [binOp, run_equal_ptr hu]⟩
    · exact ⟨rfl, by simp [binOp, run_equal_ptr hu]⟩
  · rename_i a b
    obtain rfl : X = _ := hx
    obtain rfl : Y = _ := hy
    obtain ⟨hT, h⟩ := bif_some h
    have hu := isStrT_of hT
    unfold eqn at h
    split at h <;> cases h
    · exact ⟨rfl, by simp [binOp, Op.stringOp]⟩
    · exact ⟨rfl, by simp [binOp, Op.stringOp]⟩
  · rename_i A n1 c1 n2 c2
    obtain rfl : X = _ := hx
    obtain rfl : Y = _ := hy
    obtain ⟨hT, h⟩ := bif_some h
    obtain ⟨e, hu⟩ := isSlT_of hT
    unfold eqn at h
    split at h <;> cases h
    · exact ⟨rfl, by simp [binOp, run_equal_sl hu]⟩
    · exact ⟨rfl, by simp [binOp, run_equal_sl hu]⟩
  · rename_i n s f n2 c2
    obtain ⟨A, cap, rfl, hcap, hA⟩ := hx
    obtain rfl : Y = _ := hy
    obtain ⟨hT, h⟩ := bif_some h
    obtain ⟨e, hu⟩ := isSlT_of hT
    unfold eqnC at h
    split at h <;> cases h
    · have hC : n * s ≠ 0 := hC
      obtain ⟨b, o, rfl, _⟩ := hA.resolve_left hC
      exact ⟨rfl, by simp [binOp, run_equal_sl hu]⟩
    · have hC : n * s ≠ 0 := hC
      obtain ⟨b, o, rfl, _⟩ := hA.resolve_left hC
      exact ⟨rfl, by simp [binOp, run_equal_sl hu]⟩
  · cases h

end Vinc
