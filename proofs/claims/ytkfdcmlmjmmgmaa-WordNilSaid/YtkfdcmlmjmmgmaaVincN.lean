/- Numbers of 64 bits: the operations' results as natural numbers. -/
import Derived.Test.YtkfdcmlmjmmgmaaVincU
set_option linter.unusedSimpArgs false
namespace Vinc
open Go Go.RowKit

theorem wrap64 (z : Int) : IntKind.wrap .u64 z = z % 18446744073709551616 := by
  simp [IntKind.wrap, IntKind.signed, IntKind.bits]

theorem wrapN (n : Nat) : IntKind.wrap .u64 (n : Int) = ((n % 18446744073709551616 : Nat) : Int) := by
  rw [wrap64]; omega

theorem wrapAdd (a b : Nat) : IntKind.wrap .u64 ((a : Int) + b) = (((a + b) % 18446744073709551616 : Nat) : Int) := by
  rw [← Int.natCast_add, wrapN]

theorem wrapMul (a b : Nat) : IntKind.wrap .u64 ((a : Int) * b) = (((a * b) % 18446744073709551616 : Nat) : Int) := by
  rw [← Int.natCast_mul, wrapN]

theorem wrapSub (a b : Nat) (h : b ≤ a) (h' : a < 18446744073709551616) : IntKind.wrap .u64 ((a : Int) - b) = ((a - b : Nat) : Int) := by
  rw [wrap64]; omega

theorem wrapSub' (a b : Nat) (hb : b ≤ 18446744073709551616) : IntKind.wrap .u64 ((a : Int) - b) = (((a + (18446744073709551616 - b)) % 18446744073709551616 : Nat) : Int) := by
  rw [wrap64]; omega

theorem and_mask (a k : Nat) (ha : a < 18446744073709551616) : bitI .and .u64 (a : Int) ((2 ^ k - 1 : Nat) : Int) = ((a % 2 ^ k : Nat) : Int) := by
  have h : (BitVec.ofInt 64 (a : Int) &&& BitVec.ofInt 64 ((2 ^ k - 1 : Nat) : Int)).toNat = a % 2 ^ k := by
    rw [BitVec.toNat_and, BitVec.ofInt_natCast, BitVec.ofInt_natCast, BitVec.toNat_ofNat, BitVec.toNat_ofNat, Nat.mod_eq_of_lt (by simpa using ha)]
    by_cases hk : k ≤ 64
    · have h2 : 2 ^ k ≤ 2 ^ 64 := Nat.pow_le_pow_right (by omega) hk
      have h3 : 0 < 2 ^ k := Nat.two_pow_pos k
      rw [Nat.mod_eq_of_lt (by omega), Nat.and_two_pow_sub_one_eq_mod]
    · have h2 : 2 ^ 64 ≤ 2 ^ k := Nat.pow_le_pow_right (by omega) (by omega)
      have h4 : (2 ^ k - 1) % 2 ^ 64 = 2 ^ 64 - 1 := by
        obtain ⟨j, rfl⟩ : ∃ j, k = 64 + j := ⟨k - 64, by omega⟩
        rw [Nat.pow_add]
        have : 0 < 2 ^ j := Nat.two_pow_pos j
        obtain ⟨m, hm⟩ : ∃ m, 2 ^ j = m + 1 := ⟨2 ^ j - 1, by omega⟩
        rw [hm, Nat.mul_add, Nat.mul_one]
        have h5 : 2 ^ 64 * m + 2 ^ 64 - 1 = (2 ^ 64 - 1) + 2 ^ 64 * m := by omega
        rw [h5, Nat.add_mul_mod_self_left]
      rw [h4, Nat.and_two_pow_sub_one_eq_mod, Nat.mod_eq_of_lt (by omega : a < 2 ^ 64), Nat.mod_eq_of_lt (by omega : a < 2 ^ k)]
  show IntKind.wrap .u64 (((BitVec.ofInt 64 (a : Int) &&& BitVec.ofInt 64 ((2 ^ k - 1 : Nat) : Int)).toNat : Nat) : Int) = _
  rw [h, wrapN]
  have : a % 2 ^ k ≤ a := Nat.mod_le _ _
  exact congrArg _ (Nat.mod_eq_of_lt (by omega))

theorem and32 (a : Nat) (ha : a < 18446744073709551616) : bitI .and .u64 (a : Int) 4294967295 = ((a % 4294967296 : Nat) : Int) := and_mask a 32 ha
theorem and1 (a : Nat) (ha : a < 18446744073709551616) : bitI .and .u64 (a : Int) 1 = ((a % 2 : Nat) : Int) := and_mask a 1 ha

/-- A slot's value is said anew. -/
theorem ev_eq {c : Cx} {σ : St} {d : Code} {Q : Exit → St → Prop} (k : Nat) (x : AV) (h : σ.t k = x) (h' : Ev c d Q { σ with t := upd σ.t k x }) : Ev c d Q σ := by
  have e : upd σ.t k x = σ.t := by
    funext i
    unfold upd
    split
    · rename_i hi; rw [hi, h]
    · rfl
  rw [e] at h'
  exact h'

/-- The same of a word. -/
theorem ev_n {c : Cx} {σ : St} {d : Code} {Q : Exit → St → Prop} (k n : Nat) {z : Int} (hz : σ.t k = .p (.val (.int .u64 z))) (h : z = (n : Int)) (h' : Ev c d Q { σ with t := upd σ.t k (.p (u64 n)) }) : Ev c d Q σ :=
  ev_eq k (.p (u64 n)) (by rw [hz, h]) h'

theorem shrN (a k : Nat) (hk : k ≤ 64) : (a : Int).fdiv (2 ^ (min (Int.toNat (k : Int)) (IntKind.bits .u64))) = ((a / 2 ^ k : Nat) : Int) := by
  have h1 : min (Int.toNat (k : Int)) (IntKind.bits .u64) = k := by simp [IntKind.bits]; omega
  rw [h1, Int.fdiv_eq_ediv_of_nonneg _ (by exact_mod_cast Nat.zero_le (2 ^ k))]
  simp

theorem shlN (a k : Nat) (hk : k ≤ 64) : IntKind.wrap .u64 ((a : Int) * 2 ^ (min (Int.toNat (k : Int)) (IntKind.bits .u64))) = ((a * 2 ^ k % 18446744073709551616 : Nat) : Int) := by
  have h1 : min (Int.toNat (k : Int)) (IntKind.bits .u64) = k := by simp [IntKind.bits]; omega
  rw [h1]
  have : ((a : Int) * 2 ^ k) = ((a * 2 ^ k : Nat) : Int) := by simp
  rw [this, wrapN]

theorem shr32 (a : Nat) : (a : Int).fdiv (2 ^ (min (Int.toNat 32) (IntKind.bits .u64))) = ((a / 4294967296 : Nat) : Int) := shrN a 32 (by decide)
theorem shr1 (a : Nat) : (a : Int).fdiv (2 ^ (min (Int.toNat 1) (IntKind.bits .u64))) = ((a / 2 : Nat) : Int) := shrN a 1 (by decide)
theorem tmodN (a b : Nat) : (a : Int).tmod (b : Int) = ((a % b : Nat) : Int) := rfl
theorem tdivN (a b : Nat) (h : a < 18446744073709551616) : IntKind.wrap .u64 ((a : Int).tdiv (b : Int)) = ((a / b : Nat) : Int) := by
  have : (a : Int).tdiv (b : Int) = ((a / b : Nat) : Int) := rfl
  rw [this, wrapN, Nat.mod_eq_of_lt (Nat.lt_of_le_of_lt (Nat.div_le_self a b) h)]

theorem toN {a b : Nat} (h : a = b) : (a : Int) = (b : Int) := congrArg _ h

/-- What is said between two parts, up to weakening. -/
def MidN (c : Cx) (R : St → Prop) (s : St) : Prop := ∃ s', Wk c s s' ∧ R s'

def Mid (c : Cx) (R : St → Prop) (Q : Exit → St → Prop) : Exit → St → Prop
  | .normal, s => MidN c R s
  | e, s => Q e s

theorem ev_mid {c : Cx} {σ : St} {x y : Code} {Q : Exit → St → Prop} (R : St → Prop) (h : Ev c x (Mid c R Q) σ) (h' : ∀ s, R s → Ev c y Q s) : Ev c (.seq x y) Q σ :=
  ev_seq (ev_mono h fun e s hq => by
    cases e
    case normal => obtain ⟨s', hw, hR⟩ := hq; exact ev_wk hw (h' s' hR)
    all_goals exact hq)

/-- States that are written out, with what is known of the numbers in them. -/
def At {α : Type} (P : α → Prop) (l : α → List (Nat × AV)) (hs : α → List (Nat × Ob)) : St → Prop := fun s => ∃ a, P a ∧ s = mk (l a) (hs a)

theorem ev_at {c : Cx} {σ : St} {x y : Code} {Q : Exit → St → Prop} {α : Type} (P : α → Prop) (l : α → List (Nat × AV)) (hs : α → List (Nat × Ob)) (h : Ev c x (Mid c (At P l hs) Q) σ)
    (h' : ∀ a, P a → Ev c y Q (mk (l a) (hs a))) : Ev c (.seq x y) Q σ := ev_mid _ h fun s ⟨a, ha, e⟩ => by subst e; exact h' a ha

theorem at_of {c : Cx} {σ : St} {α : Type} {P : α → Prop} {l : α → List (Nat × AV)} {hs : α → List (Nat × Ob)} (ρ : Nat → Nat) (a : α) (hP : P a)
    (ht : Slots c σ (mk (l a) (hs a)) ρ (l a)) (ho : Obs c σ (mk (l a) (hs a)) ρ (hs a)) (hi : injOk ρ ((hs a).map (·.1)) = true) : MidN c (At P l hs) σ := ⟨_, wk ρ ht ho hi, a, hP, rfl⟩

/-- The same where there are no objects. -/
theorem at0 {c : Cx} {σ : St} {α : Type} {P : α → Prop} {l : α → List (Nat × AV)} (a : α) (hP : P a)
    (ht : Slots c σ (mk (l a) []) (fun i => i) (l a)) : MidN c (At P l (fun _ => [])) σ := at_of (fun i => i) a hP ht trivial rfl

/-- One round of a loop is behind: the measure is less. -/
def RoundN (c : Cx) {α : Type} (P : α → Prop) (l : α → List (Nat × AV)) (hs : α → List (Nat × Ob)) (μ : α → Nat) (a : α) (s : St) : Prop := ∃ b, P b ∧ μ b < μ a ∧ Wk c s (mk (l b) (hs b))

def RoundAt (c : Cx) {α : Type} (P : α → Prop) (l : α → List (Nat × AV)) (hs : α → List (Nat × Ob)) (μ : α → Nat) (a : α) (Q : Exit → St → Prop) : Exit → St → Prop
  | .normal, s => RoundN c P l hs μ a s
  | e, s => Q e s

/-- A LOOP, with what holds at its head and a measure. -/
theorem ev_while {c : Cx} {σ : St} {d : Code} {Q : Exit → St → Prop} {α : Type} (P : α → Prop) (l : α → List (Nat × AV)) (hs : α → List (Nat × Ob)) (μ : α → Nat) (a : α) (hP : P a) (hw : Wk c σ (mk (l a) (hs a)))
    (h : ∀ a, P a → Ev c d (RoundAt c P l hs μ a Q) (mk (l a) (hs a))) : Ev c (.loop d) Q σ := by
  have key : ∀ n a, μ a = n → P a → EvL c d Q (mk (l a) (hs a)) := by
    intro n
    induction n using Nat.strongRecOn with
    | ind n ih =>
      intro a ha hPa
      refine evl_step (ev_mono (h a hPa) fun e s hq => ?_)
      cases e
      case normal =>
        obtain ⟨b, hb, hlt, hw'⟩ := hq
        exact evl_wk hw' (ih (μ b) (ha ▸ hlt) b rfl hb)
      all_goals exact hq
  exact ev_wk hw (ev_loop (key _ a rfl hP))

theorem round0 {c : Cx} {σ : St} {α : Type} {P : α → Prop} {l : α → List (Nat × AV)} {μ : α → Nat} {a : α} (b : α) (hP : P b) (hμ : μ b < μ a)
    (ht : Slots c σ (mk (l b) []) (fun i => i) (l b)) : RoundN c P l (fun _ => []) μ a σ := ⟨b, hP, hμ, wk (fun i => i) ht trivial rfl⟩

/-- The same with no objects. -/
theorem ev_while0 {c : Cx} {σ : St} {d : Code} {Q : Exit → St → Prop} {α : Type} (P : α → Prop) (l : α → List (Nat × AV)) (μ : α → Nat) (a : α) (hP : P a)
    (ht : Slots c σ (mk (l a) []) (fun i => i) (l a)) (h : ∀ a, P a → Ev c d (RoundAt c P l (fun _ => []) μ a Q) (mk (l a) [])) : Ev c (.loop d) Q σ :=
  ev_while P l (fun _ => []) μ a hP (wk (fun i => i) ht trivial rfl) h

/-- A slot read and said anew in a state that is written out. -/
theorem le_n {c : Cx} {σ σ' : St} {ρ : Nat → Nat} (hd : Ren σ σ' ρ) {x y : PV} (h : x = y) : Le c σ σ' ρ (.p x) (.p y) := le_p hd (PLe.of_eq h)
theorem le_0 {c : Cx} {σ : St} {l : List (Nat × AV)} {ρ : Nat → Nat} {x : PV} : Le c σ (mk l []) ρ (.p x) (.p x) := le_refl ren_nil x
theorem le_e {c : Cx} {σ : St} {l : List (Nat × AV)} {ρ : Nat → Nat} {x y : PV} (h : x = y) : Le c σ (mk l []) ρ (.p x) (.p y) := le_n ren_nil h

/-- Arguments that say more. -/
def PLeL : List PV → List PV → Prop
  | [], [] => True
  | x :: xs, y :: ys => PLe x y ∧ PLeL xs ys
  | _, _ => False

theorem RepL.weak {w : World} {ok : Nat → Prop} : ∀ {xs ys : List PV} {vs : List Value}, PLeL xs ys → RepL w ok xs vs → RepL w ok ys vs
  | [], [], _, _, h => h
  | _ :: _, _ :: _, [], _, h => h.elim
  | _ :: _, _ :: _, _ :: _, hl, h => ⟨hl.1 _ _ _ h.1, RepL.weak hl.2 h.2⟩
  | [], _ :: _, _, hl, _ => hl.elim
  | _ :: _, [], _, hl, _ => hl.elim

theorem callSpec_args {P : Program} {G : Nat → PV} {f : FuncId} {as as' : List PV} {res : PV} (h : PLeL as as') (hs : CallSpec P G f as' res) : CallSpec P G f as res :=
  ⟨hs.1, fun w ok vs hok hG hr => hs.2 w ok vs hok hG (hr.weak h)⟩

theorem gd_f {b : Bool} (h : b = false) : (b == false) = true := by rw [h]; rfl
theorem gd_t {b : Bool} (h : b = true) : (b == true) = true := by rw [h]; rfl

/-- A slot that holds an own slice, or a pointer into an own object, whose number is kept. -/
theorem le_o {c : Cx} {σ σ' : St} {i off n s : Nat} (h : (σ'.h i).isSome = true) : Le c σ σ' (fun i => i) (.own i off n s) (.own i off n s) := le_own (ρ := fun i => i) h
theorem le_a {c : Cx} {σ σ' : St} {i off : Nat} (h : (σ'.h i).isSome = true) : Le c σ σ' (fun i => i) (.oat i off) (.oat i off) := le_oat (ρ := fun i => i) h

theorem le_upd {c : Cx} {σ σ' : St} {ρ : Nat → Nat} {f : Nat → AV} {i j : Nat} {x y : AV} (h1 : j = i → Le c σ σ' ρ x y) (h2 : j ≠ i → Le c σ σ' ρ (f j) y) : Le c σ σ' ρ (upd f i x j) y := by
  unfold upd
  split
  · exact h1 (by assumption)
  · exact h2 (by assumption)

theorem leb {a b : Nat} (h : Nat.ble a b = true) : a ≤ b := Nat.le_of_ble_eq_true h

/-- An object of three cells. -/
abbrev ob3 (x y z : PV) : Ob := ⟨3, fun j => .p (three x y z j)⟩

theorem cells3 {c : Cx} {σ σ' : St} {ρ : Nat → Nat} {f : Nat → AV} {x y z : PV} (h0 : Le c σ σ' ρ (f 0) (.p x)) (h1 : Le c σ σ' ρ (f 1) (.p y)) (h2 : Le c σ σ' ρ (f 2) (.p z)) :
    ∀ j, j < 3 → Le c σ σ' ρ (f j) (.p (three x y z j)) := fun j hj => by
  match j, hj with
  | 0, _ => exact h0
  | 1, _ => exact h1
  | 2, _ => exact h2

/-- One object, kept under its number. -/
theorem at1 {c : Cx} {σ : St} {α : Type} {P : α → Prop} {l : α → List (Nat × AV)} {i : Nat} {ob : α → Ob} (a : α) (hP : P a) (o : Ob) (ho : σ.h i = some o) (hn : (ob a).n ≤ o.n)
    (hf : Ren σ (mk (l a) [(i, ob a)]) (fun i => i) → ∀ j, j < (ob a).n → Le c σ (mk (l a) [(i, ob a)]) (fun i => i) (o.f j) ((ob a).f j)) (hd : Ren σ (mk (l a) [(i, ob a)]) (fun i => i) → Slots c σ (mk (l a) [(i, ob a)]) (fun i => i) (l a)) :
    MidN c (At P l (fun a => [(i, ob a)])) σ := by
  have hr : Ren σ (mk (l a) [(i, ob a)]) (fun i => i) := fun k hk => by
    have := hOf_mem k hk
    simp at this
    subst this
    show (σ.h k).isSome
    rw [ho]; rfl
  exact at_of (fun i => i) a hP (hd hr) ⟨⟨o, ho, hn, hf hr⟩, trivial⟩ (by simp [injOk])

theorem wk1 {c : Cx} {σ : St} {l : List (Nat × AV)} {i : Nat} {ob : Ob} (o : Ob) (ho : σ.h i = some o) (hn : ob.n ≤ o.n)
    (hf : Ren σ (mk l [(i, ob)]) (fun i => i) → ∀ j, j < ob.n → Le c σ (mk l [(i, ob)]) (fun i => i) (o.f j) (ob.f j)) (hd : Ren σ (mk l [(i, ob)]) (fun i => i) → Slots c σ (mk l [(i, ob)]) (fun i => i) l) :
    Wk c σ (mk l [(i, ob)]) := by
  have hr : Ren σ (mk l [(i, ob)]) (fun i => i) := fun k hk => by
    have := hOf_mem k hk
    simp at this
    subst this
    show (σ.h k).isSome
    rw [ho]; rfl
  exact wk (fun i => i) (hd hr) ⟨⟨o, ho, hn, hf hr⟩, trivial⟩ (by simp [injOk])

theorem wrapI (z : Int) (h : -9223372036854775808 ≤ z) (h' : z < 9223372036854775808) : IntKind.wrap .i64 z = z := by
  simp [IntKind.wrap, IntKind.signed, IntKind.bits]
  omega

end Vinc
