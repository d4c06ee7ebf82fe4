/- Numbers of 64 bits: the operations' results as natural numbers. -/
import Derived.Test.YtmpfgaebmdbdeaaGreatDoorVincU
set_option linter.unusedVariables false
set_option linter.unusedSimpArgs false
namespace Vinc
open Go Go.RowKit

theorem wrap64 (z : Int) : IntKind.wrap .u64 z = z % 18446744073709551616 := by
  simp [IntKind.wrap, IntKind.signed, IntKind.bits]

theorem wrapN (n : Nat) : IntKind.wrap .u64 (n : Int) = ((n % 18446744073709551616 : Nat) : Int) := by
  rw [wrap64]; omega

theorem wrapAdd (a b : Nat) : IntKind.wrap .u64 ((a : Int) + b) = (((a + b) % 18446744073709551616 : Nat) : Int) := by
  rw [← Int.natCast_add, wrapN]

theorem wrapMul (a b : Nat) : IntKind.wrap .u64 ((a : Int) * b) = (((a * b) % 18446744073709551616 : Nat) : Int) := by
  rw [← Int.natCast_mul, wrapN]

theorem wrapSub (a b : Nat) (h : b ≤ a) (h' : a < 18446744073709551616) : IntKind.wrap .u64 ((a : Int) - b) = ((a - b : Nat) : Int) := by
  rw [wrap64]; omega

theorem wrapSub' (a b : Nat) (hb : b ≤ 18446744073709551616) : IntKind.wrap .u64 ((a : Int) - b) = (((a + (18446744073709551616 - b)) % 18446744073709551616 : Nat) : Int) := by
  rw [wrap64]; omega

theorem and_mask (a k : Nat) (ha : a < 18446744073709551616) : bitI .and .u64 (a : Int) ((2 ^ k - 1 : Nat) : Int) = ((a % 2 ^ k : Nat) : Int) := by
  have h : (BitVec.ofInt 64 (a : Int) &&& BitVec.ofInt 64 ((2 ^ k - 1 : Nat) : Int)).toNat = a % 2 ^ k := by
    rw [BitVec.toNat_and, BitVec.ofInt_natCast, BitVec.ofInt_natCast, BitVec.toNat_ofNat, BitVec.toNat_ofNat, Nat.mod_eq_of_lt (by simpa using ha)]
    by_cases hk : k ≤ 64
    · have h2 : 2 ^ k ≤ 2 ^ 64 := Nat.pow_le_pow_right (by omega) hk
      have h3 : 0 < 2 ^ k := Nat.two_pow_pos k
      rw [Nat.mod_eq_of_lt (by omega), Nat.and_two_pow_sub_one_eq_mod]
    · have h2 : 2 ^ 64 ≤ 2 ^ k := Nat.pow_le_pow_right (by omega) (by omega)
      have h4 : (2 ^ k - 1) % 2 ^ 64 = 2 ^ 64 - 1 := by
        obtain ⟨j, rfl⟩ : ∃ j, k = 64 + j := ⟨k - 64, by omega⟩
        rw [Nat.pow_add]
        have : 0 < 2 ^ j := Nat.two_pow_pos j
        obtain ⟨m, hm⟩ : ∃ m, 2 ^ j = m + 1 := ⟨2 ^ j - 1, by omega⟩
        rw [hm, Nat.mul_add, Nat.mul_one]
        have h5 : 2 ^ 64 * m + 2 ^ 64 - 1 = (2 ^ 64 - 1) + 2 ^ 64 * m := by omega
        rw [h5, Nat.add_mul_mod_self_left]
      rw [h4, Nat.and_two_pow_sub_one_eq_mod, Nat.mod_eq_of_lt (by omega : a < 2 ^ 64), Nat.mod_eq_of_lt (by omega : a < 2 ^ k)]
  show IntKind.wrap .u64 (((BitVec.ofInt 64 (a : Int) &&& BitVec.ofInt 64 ((2 ^ k - 1 : Nat) : Int)).toNat : Nat) : Int) = _
  rw [h, wrapN]
  have : a % 2 ^ k ≤ a := Nat.mod_le _ _
  exact congrArg _ (Nat.mod_eq_of_lt (by omega))

theorem and32 (a : Nat) (ha : a < 18446744073709551616) : bitI .and .u64 (a : Int) 4294967295 = ((a % 4294967296 : Nat) : Int) := and_mask a 32 ha
theorem and1 (a : Nat) (ha : a < 18446744073709551616) : bitI .and .u64 (a : Int) 1 = ((a % 2 : Nat) : Int) := and_mask a 1 ha

/-- A slot's value is said anew. -/
theorem ev_eq {c : Cx} {σ : St} {d : Code} {Q : Exit → St → Prop} (k : Nat) (x : AV) (h : σ.t k = x) (h' : Ev c d Q { σ with t := upd σ.t k x }) : Ev c d Q σ := by
  have e : upd σ.t k x = σ.t := by
    funext i
    unfold upd
    split
    · rename_i hi; rw [hi, h]
    · rfl
  rw [e] at h'
  exact h'

/-- An object is said anew. -/
theorem ev_ob {c : Cx} {σ : St} {d : Code} {Q : Exit → St → Prop} (i : Nat) (o : Ob) (h : σ.h i = some o) (h' : Ev c d Q { σ with h := upd σ.h i (some o) }) : Ev c d Q σ := by
  have e : upd σ.h i (some o) = σ.h := by
    funext j
    unfold upd
    split
    · rename_i hj; rw [hj, h]
    · rfl
  rw [e] at h'
  exact h'

/-- The same of a word. -/
theorem ev_n {c : Cx} {σ : St} {d : Code} {Q : Exit → St → Prop} (k n : Nat) {z : Int} (hz : σ.t k = .p (.val (.int .u64 z))) (h : z = (n : Int)) (h' : Ev c d Q { σ with t := upd σ.t k (.p (u64 n)) }) : Ev c d Q σ :=
  ev_eq k (.p (u64 n)) (by rw [hz, h]) h'

theorem shrN (a k : Nat) (hk : k ≤ 64) : (a : Int).fdiv (2 ^ (min (Int.toNat (k : Int)) (IntKind.bits .u64))) = ((a / 2 ^ k : Nat) : Int) := by
  have h1 : min (Int.toNat (k : Int)) (IntKind.bits .u64) = k := by simp [IntKind.bits]; omega
  rw [h1, Int.fdiv_eq_ediv_of_nonneg _ (by exact_mod_cast Nat.zero_le (2 ^ k))]
  simp

theorem shlN (a k : Nat) (hk : k ≤ 64) : IntKind.wrap .u64 ((a : Int) * 2 ^ (min (Int.toNat (k : Int)) (IntKind.bits .u64))) = ((a * 2 ^ k % 18446744073709551616 : Nat) : Int) := by
  have h1 : min (Int.toNat (k : Int)) (IntKind.bits .u64) = k := by simp [IntKind.bits]; omega
  rw [h1]
  have : ((a : Int) * 2 ^ k) = ((a * 2 ^ k : Nat) : Int) := by simp
  rw [this, wrapN]

theorem shr32 (a : Nat) : (a : Int).fdiv (2 ^ (min (Int.toNat 32) (IntKind.bits .u64))) = ((a / 4294967296 : Nat) : Int) := shrN a 32 (by decide)
theorem shr1 (a : Nat) : (a : Int).fdiv (2 ^ (min (Int.toNat 1) (IntKind.bits .u64))) = ((a / 2 : Nat) : Int) := shrN a 1 (by decide)
theorem tmodN (a b : Nat) : (a : Int).tmod (b : Int) = ((a % b : Nat) : Int) := rfl
theorem tdivN (a b : Nat) (h : a < 18446744073709551616) : IntKind.wrap .u64 ((a : Int).tdiv (b : Int)) = ((a / b : Nat) : Int) := by
  have : (a : Int).tdiv (b : Int) = ((a / b : Nat) : Int) := rfl
  rw [this, wrapN, Nat.mod_eq_of_lt (Nat.lt_of_le_of_lt (Nat.div_le_self a b) h)]

theorem toN {a b : Nat} (h : a = b) : (a : Int) = (b : Int) := congrArg _ h

/-- What is said between two parts, up to weakening. -/
def MidN (c : Cx) (R : St → Prop) (s : St) : Prop := ∃ s', Wk c s s' ∧ R s'

def Mid (c : Cx) (R : St → Prop) (Q : Exit → St → Prop) : Exit → St → Prop
  | .normal, s => MidN c R s
  | e, s => Q e s

theorem ev_mid {c : Cx} {σ : St} {x y : Code} {Q : Exit → St → Prop} (R : St → Prop) (h : Ev c x (Mid c R Q) σ) (h' : ∀ s, R s → Ev c y Q s) : Ev c (.seq x y) Q σ :=
  ev_seq (ev_mono h fun e s hq => by
    cases e
    case normal => obtain ⟨s', hw, hR⟩ := hq; exact ev_wk hw (h' s' hR)
    all_goals exact hq)

/-- States that are written out, with what is known of the numbers in them. -/
def At {α : Type} (P : α → Prop) (l : α → List (Nat × AV)) (hs : α → List (Nat × Ob)) : St → Prop := fun s => ∃ a, P a ∧ s = mk (l a) (hs a)

theorem ev_at {c : Cx} {σ : St} {x y : Code} {Q : Exit → St → Prop} {α : Type} (P : α → Prop) (l : α → List (Nat × AV)) (hs : α → List (Nat × Ob)) (h : Ev c x (Mid c (At P l hs) Q) σ)
    (h' : ∀ a, P a → Ev c y Q (mk (l a) (hs a))) : Ev c (.seq x y) Q σ := ev_mid _ h fun s ⟨a, ha, e⟩ => by subst e; exact h' a ha

theorem at_of {c : Cx} {σ : St} {α : Type} {P : α → Prop} {l : α → List (Nat × AV)} {hs : α → List (Nat × Ob)} (ρ : Nat → Nat) (a : α) (hP : P a)
    (ht : Slots c σ (mk (l a) (hs a)) ρ (l a)) (ho : Obs c σ (mk (l a) (hs a)) ρ (hs a)) (hi : injOk ρ ((hs a).map (·.1)) = true) : MidN c (At P l hs) σ := ⟨_, wk ρ ht ho hi, a, hP, rfl⟩

/-- The same where there are no objects. -/
theorem at0 {c : Cx} {σ : St} {α : Type} {P : α → Prop} {l : α → List (Nat × AV)} (a : α) (hP : P a)
    (ht : Slots c σ (mk (l a) []) (fun i => i) (l a)) : MidN c (At P l (fun _ => [])) σ := at_of (fun i => i) a hP ht trivial rfl

/-- One round of a loop is behind: the measure is less. -/
def RoundN (c : Cx) {α : Type} (P : α → Prop) (l : α → List (Nat × AV)) (hs : α → List (Nat × Ob)) (μ : α → Nat) (a : α) (s : St) : Prop := ∃ b, P b ∧ μ b < μ a ∧ Wk c s (mk (l b) (hs b))

def RoundAt (c : Cx) {α : Type} (P : α → Prop) (l : α → List (Nat × AV)) (hs : α → List (Nat × Ob)) (μ : α → Nat) (a : α) (Q : Exit → St → Prop) : Exit → St → Prop
  | .normal, s => RoundN c P l hs μ a s
  | e, s => Q e s

/-- A LOOP, with what holds at its head and a measure. -/
theorem ev_while {c : Cx} {σ : St} {d : Code} {Q : Exit → St → Prop} {α : Type} (P : α → Prop) (l : α → List (Nat × AV)) (hs : α → List (Nat × Ob)) (μ : α → Nat) (a : α) (hP : P a) (hw : Wk c σ (mk (l a) (hs a)))
    (h : ∀ a, P a → Ev c d (RoundAt c P l hs μ a Q) (mk (l a) (hs a))) : Ev c (.loop d) Q σ := by
  have key : ∀ n a, μ a = n → P a → EvL c d Q (mk (l a) (hs a)) := by
    intro n
    induction n using Nat.strongRecOn with
    | ind n ih =>
      intro a ha hPa
      refine evl_step (ev_mono (h a hPa) fun e s hq => ?_)
      cases e
      case normal =>
        obtain ⟨b, hb, hlt, hw'⟩ := hq
        exact evl_wk hw' (ih (μ b) (ha ▸ hlt) b rfl hb)
      all_goals exact hq
  exact ev_wk hw (ev_loop (key _ a rfl hP))

theorem round0 {c : Cx} {σ : St} {α : Type} {P : α → Prop} {l : α → List (Nat × AV)} {μ : α → Nat} {a : α} (b : α) (hP : P b) (hμ : μ b < μ a)
    (ht : Slots c σ (mk (l b) []) (fun i => i) (l b)) : RoundN c P l (fun _ => []) μ a σ := ⟨b, hP, hμ, wk (fun i => i) ht trivial rfl⟩

/-- The same with no objects. -/
theorem ev_while0 {c : Cx} {σ : St} {d : Code} {Q : Exit → St → Prop} {α : Type} (P : α → Prop) (l : α → List (Nat × AV)) (μ : α → Nat) (a : α) (hP : P a)
    (ht : Slots c σ (mk (l a) []) (fun i => i) (l a)) (h : ∀ a, P a → Ev c d (RoundAt c P l (fun _ => []) μ a Q) (mk (l a) [])) : Ev c (.loop d) Q σ :=
  ev_while P l (fun _ => []) μ a hP (wk (fun i => i) ht trivial rfl) h

/-- A slot read and said anew in a state that is written out. -/
theorem le_n {c : Cx} {σ σ' : St} {ρ : Nat → Nat} (hd : Ren σ σ' ρ) {x y : PV} (h : x = y) : Le c σ σ' ρ (.p x) (.p y) := le_p hd (PLe.of_eq h)
theorem le_0 {c : Cx} {σ : St} {l : List (Nat × AV)} {ρ : Nat → Nat} {x : PV} : Le c σ (mk l []) ρ (.p x) (.p x) := le_refl ren_nil x
theorem le_e {c : Cx} {σ : St} {l : List (Nat × AV)} {ρ : Nat → Nat} {x y : PV} (h : x = y) : Le c σ (mk l []) ρ (.p x) (.p y) := le_n ren_nil h

/-- Arguments that say more. -/
def PLeL : List PV → List PV → Prop
  | [], [] => True
  | x :: xs, y :: ys => PLe x y ∧ PLeL xs ys
  | _, _ => False

theorem RepL.weak {w : World} {ok : Nat → Prop} : ∀ {xs ys : List PV} {vs : List Value}, PLeL xs ys → RepL w ok xs vs → RepL w ok ys vs
  | [], [], _, _, h => h
  | _ :: _, _ :: _, [], _, h => h.elim
  | _ :: _, _ :: _, _ :: _, hl, h => ⟨hl.1 _ _ _ h.1, RepL.weak hl.2 h.2⟩
  | [], _ :: _, _, hl, _ => hl.elim
  | _ :: _, [], _, hl, _ => hl.elim

theorem callSpec_args {P : Program} {G : Nat → PV} {f : FuncId} {as as' : List PV} {res : PV} (h : PLeL as as') (hs : CallSpec P G f as' res) : CallSpec P G f as res :=
  ⟨hs.1, fun w ok vs hok hG hr => hs.2 w ok vs hok hG (hr.weak h)⟩

theorem gd_f {b : Bool} (h : b = false) : (b == false) = true := by rw [h]; rfl
theorem gd_t {b : Bool} (h : b = true) : (b == true) = true := by rw [h]; rfl

/-- A slot that holds an own slice, or a pointer into an own object, whose number is kept. -/
theorem le_o {c : Cx} {σ σ' : St} {i off n s : Nat} (h : (σ'.h i).isSome = true) : Le c σ σ' (fun i => i) (.own i off n s) (.own i off n s) := le_own (ρ := fun i => i) h
theorem le_a {c : Cx} {σ σ' : St} {i off : Nat} (h : (σ'.h i).isSome = true) : Le c σ σ' (fun i => i) (.oat i off) (.oat i off) := le_oat (ρ := fun i => i) h

theorem le_upd {c : Cx} {σ σ' : St} {ρ : Nat → Nat} {f : Nat → AV} {i j : Nat} {x y : AV} (h1 : j = i → Le c σ σ' ρ x y) (h2 : j ≠ i → Le c σ σ' ρ (f j) y) : Le c σ σ' ρ (upd f i x j) y := by
  unfold upd
  split
  · exact h1 (by assumption)
  · exact h2 (by assumption)

theorem leb {a b : Nat} (h : Nat.ble a b = true) : a ≤ b := Nat.le_of_ble_eq_true h

/-- An object of three cells. -/
abbrev ob3 (x y z : PV) : Ob := ⟨3, fun j => .p (three x y z j)⟩

theorem cells3 {c : Cx} {σ σ' : St} {ρ : Nat → Nat} {f : Nat → AV} {x y z : PV} (h0 : Le c σ σ' ρ (f 0) (.p x)) (h1 : Le c σ σ' ρ (f 1) (.p y)) (h2 : Le c σ σ' ρ (f 2) (.p z)) :
    ∀ j, j < 3 → Le c σ σ' ρ (f j) (.p (three x y z j)) := fun j hj => by
  match j, hj with
  | 0, _ => exact h0
  | 1, _ => exact h1
  | 2, _ => exact h2

/-- One object, kept under its number. -/
theorem at1 {c : Cx} {σ : St} {α : Type} {P : α → Prop} {l : α → List (Nat × AV)} {i : Nat} {ob : α → Ob} (a : α) (hP : P a) (o : Ob) (ho : σ.h i = some o) (hn : (ob a).n ≤ o.n)
    (hf : Ren σ (mk (l a) [(i, ob a)]) (fun i => i) → ∀ j, j < (ob a).n → Le c σ (mk (l a) [(i, ob a)]) (fun i => i) (o.f j) ((ob a).f j)) (hd : Ren σ (mk (l a) [(i, ob a)]) (fun i => i) → Slots c σ (mk (l a) [(i, ob a)]) (fun i => i) (l a)) :
    MidN c (At P l (fun a => [(i, ob a)])) σ := by
  have hr : Ren σ (mk (l a) [(i, ob a)]) (fun i => i) := fun k hk => by
    have := hOf_mem k hk
    simp at this
    subst this
    show (σ.h k).isSome
    rw [ho]; rfl
  exact at_of (fun i => i) a hP (hd hr) ⟨⟨o, ho, hn, hf hr⟩, trivial⟩ (by simp [injOk])

theorem wk1 {c : Cx} {σ : St} {l : List (Nat × AV)} {i : Nat} {ob : Ob} (o : Ob) (ho : σ.h i = some o) (hn : ob.n ≤ o.n)
    (hf : Ren σ (mk l [(i, ob)]) (fun i => i) → ∀ j, j < ob.n → Le c σ (mk l [(i, ob)]) (fun i => i) (o.f j) (ob.f j)) (hd : Ren σ (mk l [(i, ob)]) (fun i => i) → Slots c σ (mk l [(i, ob)]) (fun i => i) l) :
    Wk c σ (mk l [(i, ob)]) := by
  have hr : Ren σ (mk l [(i, ob)]) (fun i => i) := fun k hk => by
    have := hOf_mem k hk
    simp at this
    subst this
    show (σ.h k).isSome
    rw [ho]; rfl
  exact wk (fun i => i) (hd hr) ⟨⟨o, ho, hn, hf hr⟩, trivial⟩ (by simp [injOk])

theorem wrapI (z : Int) (h : -9223372036854775808 ≤ z) (h' : z < 9223372036854775808) : IntKind.wrap .i64 z = z := by
  simp [IntKind.wrap, IntKind.signed, IntKind.bits]
  omega

/-- A slice of no elements: nil, or not. -/
theorem ev_empty {c : Cx} {σ : St} {d : Code} {Q : Exit → St → Prop} (k s : Nat) {f : Nat → PV} (hk : σ.t k = .p (.sl 0 s f)) (h : ∀ A cap, Ev c d Q { σ with t := upd σ.t k (.p (.val (.slice A 0 cap))) }) : Ev c d Q σ := fun L a w I => by
  have hr := I.tmps k
  rw [hk] at hr
  obtain ⟨A, cap, hv, _, _⟩ := hr
  refine h A cap L a w ⟨I.below, I.defers, I.size, I.fresh, I.live, I.own, I.inj, fun j => ?_⟩
  show RepA w _ L (upd σ.t k _ j) _
  unfold upd
  split
  · rename_i hj
    subst hj
    exact hv
  · exact I.tmps j

theorem PLe.empty {A : Option Addr} {cap s : Nat} {f : Nat → PV} : PLe (.val (.slice A 0 cap)) (.sl 0 s f) := fun w ok v h => by
  have h : v = _ := h
  exact ⟨A, cap, h, Nat.zero_le _, .inl (by simp)⟩

/-- Cells of words, given one by one. -/
theorem PLe.words {n : Nat} {f : Nat → Nat} {xs : List Nat} (hn : n = xs.length) (h : ∀ j, j < n → f j = xs.getD j 0) : PLe (.sl n 1 (fun j => u64 (f j))) (u64s xs) := by
  subst hn
  exact PLe.sl fun j hj => PLe.of_eq (congrArg u64 (h j (by omega)))

theorem getD_set (xs : List Nat) (k v j : Nat) (hk : k < xs.length) : (xs.set k v).getD j 0 = if j = k then v else xs.getD j 0 := by
  rw [List.getD_eq_getElem?_getD, List.getElem?_set, List.getD_eq_getElem?_getD]
  by_cases h : k = j
  · subst h; simp [hk]
  · rw [if_neg h, if_neg (fun e => h e.symm)]

/-- A word is written into a row of words. -/
theorem le_set {c : Cx} {σ σ' : St} {ρ : Nat → Nat} (hd : Ren σ σ' ρ) {xs : List Nat} {off k v : Nat} {x : PV} (ho : off = k) (hx : x = u64 v) (hk : k < xs.length) (j : Nat) :
    Le c σ σ' ρ (upd (fun j => .p (u64 (xs.getD j 0))) off (.p x) j) (.p (u64 ((xs.set k v).getD j 0))) := by
  subst ho
  subst hx
  rw [getD_set xs _ v j hk]
  refine le_upd (fun e => le_n hd (congrArg u64 ?_)) (fun e => le_n hd (congrArg u64 ?_))
  · rw [if_pos e]
  · rw [if_neg e]

/-- The same, of an object of its own in a state that is written out. -/
theorem wk_set {c : Cx} {σ : St} {l : List (Nat × AV)} {i k v off : Nat} {x : PV} {xs : List Nat} (ho : σ.h i = some ⟨xs.length, upd (fun j => .p (u64 (xs.getD j 0))) off (.p x)⟩) (he : off = k) (hx : x = u64 v) (hk : k < xs.length)
    (hd : Ren σ (mk l [(i, ob64 (xs.set k v))]) (fun i => i) → Slots c σ (mk l [(i, ob64 (xs.set k v))]) (fun i => i) l) : Wk c σ (mk l [(i, ob64 (xs.set k v))]) :=
  wk1 _ ho (by simp) (fun hr j _ => le_set hr he hx hk j) hd

theorem getD_rep (n j : Nat) : (List.replicate n 0).getD j 0 = 0 := by
  rw [List.getD_eq_getElem?_getD, List.getElem?_replicate]
  split <;> rfl

/-- A slice of words was made. -/
theorem ev_made {c : Cx} {σ : St} {d : Code} {Q : Exit → St → Prop} (k i L : Nat) {z : Nat} (ht : σ.t k = .own i 0 z 1) (ho : σ.h i = some ⟨z, fun _ => .p (u64 0)⟩) (hz : z = L)
    (h' : Ev c d Q { σ with t := upd σ.t k (.own i 0 L 1), h := upd σ.h i (some (ob64 (List.replicate L 0))) }) : Ev c d Q σ := by
  subst hz
  refine ev_eq k _ ht (ev_ob i (ob64 (List.replicate z 0)) ?_ h')
  show σ.h i = _
  rw [ho]
  show some (Ob.mk z _) = some (Ob.mk (List.replicate z 0).length (fun j => .p (u64 ((List.replicate z 0).getD j 0))))
  rw [List.length_replicate]
  congr 2
  funext j
  rw [getD_rep]

theorem list_eq {xs ys : List Nat} (hl : xs.length = ys.length) (h : ∀ j, j < xs.length → xs.getD j 0 = ys.getD j 0) : xs = ys := by
  refine List.ext_getElem hl fun j h1 h2 => ?_
  have := h j h1
  rwa [List.getD_eq_getElem?_getD, List.getD_eq_getElem?_getD, List.getElem?_eq_getElem h1, List.getElem?_eq_getElem h2] at this

/-- A word was written into a row of words. -/
theorem ev_set {c : Cx} {σ : St} {d : Code} {Q : Exit → St → Prop} (i k v : Nat) {xs : List Nat} {off : Nat} {x : PV} (ho : σ.h i = some ⟨xs.length, upd (fun j => .p (u64 (xs.getD j 0))) off (.p x)⟩) (he : off = k) (hx : x = u64 v) (hk : k < xs.length)
    (h' : Ev c d Q { σ with h := upd σ.h i (some (ob64 (xs.set k v))) }) : Ev c d Q σ := by
  refine ev_ob i (ob64 (xs.set k v)) ?_ h'
  rw [ho]
  subst he
  subst hx
  show some (Ob.mk xs.length _) = some (Ob.mk (xs.set off v).length _)
  rw [List.length_set]
  congr 2
  funext j
  unfold upd
  rw [getD_set xs off v j hk]
  split <;> rfl

/-- One object, a row of words, kept under its number. -/
theorem wk_ob {c : Cx} {σ : St} {l : List (Nat × AV)} {i : Nat} {xs : List Nat} (ho : σ.h i = some (ob64 xs)) (hd : Ren σ (mk l [(i, ob64 xs)]) (fun i => i) → Slots c σ (mk l [(i, ob64 xs)]) (fun i => i) l) : Wk c σ (mk l [(i, ob64 xs)]) :=
  wk1 _ ho (Nat.le_refl _) (fun hr j _ => le_refl hr _) hd

theorem at_ob {c : Cx} {σ : St} {α : Type} {P : α → Prop} {l : α → List (Nat × AV)} {i : Nat} {xs : α → List Nat} (a : α) (hP : P a) (ho : σ.h i = some (ob64 (xs a)))
    (hd : Ren σ (mk (l a) [(i, ob64 (xs a))]) (fun i => i) → Slots c σ (mk (l a) [(i, ob64 (xs a))]) (fun i => i) (l a)) : MidN c (At P l (fun a => [(i, ob64 (xs a))])) σ :=
  at1 (ob := fun a => ob64 (xs a)) a hP _ ho (Nat.le_refl _) (fun hr j _ => le_refl hr _) hd

/-- A row of the call's own as a result for good. -/
theorem fz_ob {c : Cx} {σ : St} {i : Nat} {xs : List Nat} (h0 : σ.h i = some (ob64 xs)) : FreezeLe c σ (.own i 0 xs.length 1) (u64s xs) :=
  fz_own h0 (by show 0 + xs.length * 1 ≤ xs.length; omega) (fun j _ => by
    show FreezeLe c σ (.p (u64 (xs.getD (0 + j) 0))) _
    rw [Nat.zero_add]
    exact fz_p (PLe.refl _))

theorem fz_ob' {c : Cx} {σ : St} {i n : Nat} {xs ys : List Nat} (h0 : σ.h i = some (ob64 xs)) (hn : n = xs.length) (e : xs = ys) : FreezeLe c σ (.own i 0 n 1) (u64s ys) := by
  subst hn
  subst e
  exact fz_ob h0

theorem le_fz' {c : Cx} {σ : St} {l : List (Nat × AV)} {i n : Nat} {xs ys : List Nat} (h0 : σ.h i = some (ob64 xs)) (hn : n = xs.length) (e : xs = ys) : Le c σ (mk l []) (fun i => i) (.own i 0 n 1) (.p (u64s ys)) := by
  subst hn
  subst e
  exact le_freeze ren_nil h0 (by show 0 + xs.length * 1 ≤ xs.length; omega) (fun k hk => by cases hk) (fun j _ => by
    show Le _ _ _ _ (.p (u64 (xs.getD (0 + j) 0))) _
    rw [Nat.zero_add]
    exact le_refl ren_nil _)

/-- A row of the call's own that nobody will write any more. -/
theorem le_fz {c : Cx} {σ : St} {l : List (Nat × AV)} {i : Nat} {xs : List Nat} (h0 : σ.h i = some (ob64 xs)) : Le c σ (mk l []) (fun i => i) (.own i 0 xs.length 1) (.p (u64s xs)) :=
  le_freeze ren_nil h0 (by show 0 + xs.length * 1 ≤ xs.length; omega) (fun k hk => by cases hk) (fun j _ => by
    show Le _ _ _ _ (.p (u64 (xs.getD (0 + j) 0))) _
    rw [Nat.zero_add]
    exact le_refl ren_nil _)

/-- A slice of words, cut. -/
theorem PLe.take {xs : List Nat} {n : Nat} (hn : n ≤ xs.length) : PLe (.sl n 1 (fun j => u64 (xs.getD j 0))) (u64s (xs.take n)) :=
  PLe.words (by simp [hn]) (fun j hj => by
    rw [List.getD_eq_getElem?_getD, List.getD_eq_getElem?_getD, List.getElem?_take_of_lt hj])

/-- An object is said anew, cell by cell. -/
theorem ev_obs {c : Cx} {σ : St} {d : Code} {Q : Exit → St → Prop} (i : Nat) (o' : Ob) {o : Ob} (h0 : σ.h i = some o) (hn : o'.n = o.n) (hf : ∀ j, j < o.n → o'.f j = o.f j) (h' : Ev c d Q { σ with h := upd σ.h i (some o') }) : Ev c d Q σ :=
  fun L a w I => h' L a w (I.same h0 hn hf (fun _ h => h))

/-- Words were put behind words. -/
theorem ev_app {c : Cx} {σ : St} {d : Code} {Q : Exit → St → Prop} (k i : Nat) (ys xs : List Nat) {n1 n2 n3 : Nat} {f g : Nat → AV} (ht : σ.t k = .own i 0 n1 1) (ho : σ.h i = some ⟨n2, appF n3 f g⟩) (h1 : n1 = ys.length + xs.length) (h2 : n2 = ys.length + xs.length) (h3 : n3 = ys.length)
    (hf : ∀ j, j < ys.length → f j = .p (u64 (ys.getD j 0))) (hg : ∀ j, j < xs.length → g j = .p (u64 (xs.getD j 0)))
    (h' : Ev c d Q { σ with t := upd σ.t k (.own i 0 (ys ++ xs).length 1), h := upd σ.h i (some (ob64 (ys ++ xs))) }) : Ev c d Q σ := by
  subst h1
  subst h2
  subst h3
  have hl : (ys ++ xs).length = ys.length + xs.length := List.length_append
  refine ev_eq k (.own i 0 (ys ++ xs).length 1) (by rw [ht, hl]) (ev_obs i (ob64 (ys ++ xs)) ho hl (fun j hj => ?_) h')
  have hj : j < ys.length + xs.length := hj
  show AV.p (u64 ((ys ++ xs).getD j 0)) = if j < ys.length then f j else g (j - ys.length)
  have e : (ys ++ xs).getD j 0 = if j < ys.length then ys.getD j 0 else xs.getD (j - ys.length) 0 := by
    rw [List.getD_eq_getElem?_getD, List.getElem?_append]
    split <;> rw [List.getD_eq_getElem?_getD]
  rw [e]
  split
  · rw [hf j (by assumption)]
  · rw [hg _ (by omega)]

/-- The same, under a new number. -/
theorem wk_ren {c : Cx} {σ : St} {l : List (Nat × AV)} {i i' : Nat} {xs : List Nat} (ho : σ.h i' = some (ob64 xs)) (hd : Ren σ (mk l [(i, ob64 xs)]) (fun _ => i') → Slots c σ (mk l [(i, ob64 xs)]) (fun _ => i') l) : Wk c σ (mk l [(i, ob64 xs)]) := by
  have hr : Ren σ (mk l [(i, ob64 xs)]) (fun _ => i') := fun k _ => by
    show (σ.h i').isSome
    rw [ho]; rfl
  exact wk (fun _ => i') (hd hr) ⟨⟨_, ho, Nat.le_refl _, fun j _ => le_refl hr _⟩, trivial⟩ (by simp [injOk])

theorem le_ren {c : Cx} {σ σ' : St} {i i' off n n' s : Nat} (h : (σ'.h i).isSome = true) (hn : n = n') : Le c σ σ' (fun _ => i') (.own i' off n s) (.own i off n' s) := by
  subst hn
  exact le_own (ρ := fun _ => i') h

/-- Two objects, rows of words, kept under their numbers. -/
theorem wk_ob2 {c : Cx} {σ : St} {l : List (Nat × AV)} {i k : Nat} {xs ys : List Nat} (hik : Nat.beq i k = false) (hki : Nat.beq k i = false) (ho : σ.h i = some (ob64 xs)) (ho2 : σ.h k = some (ob64 ys))
    (hd : Ren σ (mk l [(i, ob64 xs), (k, ob64 ys)]) (fun i => i) → Slots c σ (mk l [(i, ob64 xs), (k, ob64 ys)]) (fun i => i) l) : Wk c σ (mk l [(i, ob64 xs), (k, ob64 ys)]) := by
  have hr : Ren σ (mk l [(i, ob64 xs), (k, ob64 ys)]) (fun i => i) := fun q hq => by
    have := hOf_mem q hq
    simp at this
    rcases this with rfl | rfl
    · show (σ.h q).isSome
      rw [ho]; rfl
    · show (σ.h q).isSome
      rw [ho2]; rfl
  exact wk (fun i => i) (hd hr) ⟨⟨_, ho, Nat.le_refl _, fun j _ => le_refl hr _⟩, ⟨_, ho2, Nat.le_refl _, fun j _ => le_refl hr _⟩, trivial⟩ (by simp [injOk, hik, hki])

/-- A slice of words, written out. -/
theorem PLe.lit {n : Nat} {g : Nat → PV} {xs : List Nat} (hn : n = xs.length) (h : ∀ j, j < xs.length → g j = u64 (xs.getD j 0)) : PLe (.sl n 1 g) (u64s xs) := by
  subst hn
  exact PLe.sl fun j hj => PLe.of_eq (h j (by omega))

end Vinc
