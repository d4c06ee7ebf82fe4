/- Part 5 of the proof's texts, joined: Types, Door, Bits, Div, Word, Ref03, Inv, Form, Field, Prime, Rec, Find, Poly, Law10, Ref10, Law10b, Law10c, Soa, Sob. -/
import Derived.Test.YthgkmbeeicpmcaaDoorB4
import Derived.Test.YthgkmbeeicpmcaaDoorProg
import Derived.Test.YthgkmbeeicpmcaaDoorTie
import Derived.LaidMore
import Derived.Stop.Joined
import Derived.Lib.LaidTab
import Derived.Laws.Externs

/- The types of the program, and what is known of its variables. -/
namespace Go.Proofs
open Go Vinc

def Tryd.T0 : Nat → Option Vinc.TI
  | 2 => some ⟨.int .i64, 1, 8, [.int .i64 0]⟩
  | 3 => some ⟨.int .i64, 1, 8, [.int .i64 0]⟩
  | 4 => some ⟨.bool, 1, 1, [.bool false]⟩
  | 5 => some ⟨.int .u8, 1, 1, [.int .u8 0]⟩
  | 9 => some ⟨.str, 1, 16, [.string ⟨#[]⟩]⟩
  | 12 => some ⟨.int .u64, 1, 8, [.int .u64 0]⟩
  | 13 => some ⟨.struct [(0, 9), (1, 12)], 2, 24, [.string ⟨#[]⟩, .int .u64 0]⟩
  | 19 => some ⟨.struct [(0, 17)], 1, 8, [.pointer none]⟩
  | 21 => some ⟨.int .i32, 1, 4, [.int .i32 0]⟩
  | 22 => some ⟨.int .u64, 1, 8, [.int .u64 0]⟩
  | 23 => some ⟨.slice 22, 1, 24, [.slice none 0 0]⟩
  | 25 => some ⟨.slice 22, 1, 24, [.slice none 0 0]⟩
  | 26 => some ⟨.int .i64, 1, 8, [.int .i64 0]⟩
  | 33 => some ⟨.slice 22, 1, 24, [.slice none 0 0]⟩
  | 36 => some ⟨.array 2 23, 2, 48, [.slice none 0 0, .slice none 0 0]⟩
  | 48 => some ⟨.pointer 65, 1, 8, [.pointer none]⟩
  | 57 => some ⟨.slice 23, 1, 24, [.slice none 0 0]⟩
  | 59 => some ⟨.pointer 69, 1, 8, [.pointer none]⟩
  | 64 => some ⟨.struct [(0, 22), (1, 22), (2, 22)], 3, 24, [.int .u64 0, .int .u64 0, .int .u64 0]⟩
  | 65 => some ⟨.struct [(0, 22), (1, 22), (2, 22)], 3, 24, [.int .u64 0, .int .u64 0, .int .u64 0]⟩
  | 68 => some ⟨.struct [(0, 48)], 1, 8, [.pointer none]⟩
  | 69 => some ⟨.struct [(0, 48)], 1, 8, [.pointer none]⟩
  | 73 => some ⟨.int .u64, 1, 8, [.int .u64 0]⟩
  | 75 => some ⟨.array 12 22, 12, 96, [.int .u64 0, .int .u64 0, .int .u64 0, .int .u64 0, .int .u64 0, .int .u64 0, .int .u64 0, .int .u64 0, .int .u64 0, .int .u64 0, .int .u64 0, .int .u64 0]⟩
  | 83 => some ⟨.slice 33, 1, 24, [.slice none 0 0]⟩
  | 84 => some ⟨.array 64 5, 64, 64, [.int .u8 0, .int .u8 0, .int .u8 0, .int .u8 0, .int .u8 0, .int .u8 0, .int .u8 0, .int .u8 0, .int .u8 0, .int .u8 0, .int .u8 0, .int .u8 0, .int .u8 0, .int .u8 0, .int .u8 0, .int .u8 0, .int .u8 0, .int .u8 0, .int .u8 0, .int .u8 0, .int .u8 0, .int .u8 0, .int .u8 0, .int .u8 0, .int .u8 0, .int .u8 0, .int .u8 0, .int .u8 0, .int .u8 0, .int .u8 0, .int .u8 0, .int .u8 0, .int .u8 0, .int .u8 0, .int .u8 0, .int .u8 0, .int .u8 0, .int .u8 0, .int .u8 0, .int .u8 0, .int .u8 0, .int .u8 0, .int .u8 0, .int .u8 0, .int .u8 0, .int .u8 0, .int .u8 0, .int .u8 0, .int .u8 0, .int .u8 0, .int .u8 0, .int .u8 0, .int .u8 0, .int .u8 0, .int .u8 0, .int .u8 0, .int .u8 0, .int .u8 0, .int .u8 0, .int .u8 0, .int .u8 0, .int .u8 0, .int .u8 0, .int .u8 0]⟩
  | 86 => some ⟨.pointer 105, 1, 8, [.pointer none]⟩
  | 94 => some ⟨.int .u32, 1, 4, [.int .u32 0]⟩
  | 98 => some ⟨.pointer 5, 1, 8, [.pointer none]⟩
  | 104 => some ⟨.struct [(0, 9)], 1, 16, [.string ⟨#[]⟩]⟩
  | 105 => some ⟨.struct [(0, 9)], 1, 16, [.string ⟨#[]⟩]⟩
  | _ => none
theorem Tryd.hT0 : ∀ t i, Tryd.T0 t = some i → Vinc.TIok Tryd.prog t i := by
  intro t i h
  unfold Tryd.T0 at h
  split at h
  · obtain rfl := Option.some.inj h; exact ⟨Tryd.underlying2, by kernel_rfl⟩
  · obtain rfl := Option.some.inj h; exact ⟨Tryd.underlying3, by kernel_rfl⟩
  · obtain rfl := Option.some.inj h; exact ⟨Tryd.underlying4, by kernel_rfl⟩
  · obtain rfl := Option.some.inj h; exact ⟨Tryd.underlying5, by kernel_rfl⟩
  · obtain rfl := Option.some.inj h; exact ⟨Tryd.underlying9, by kernel_rfl⟩
  · obtain rfl := Option.some.inj h; exact ⟨Tryd.underlying12, by kernel_rfl⟩
  · obtain rfl := Option.some.inj h; exact ⟨⟨_, Tryd.underlying13, rfl⟩, by kernel_rfl⟩
  · obtain rfl := Option.some.inj h; exact ⟨⟨_, Tryd.underlying19, rfl⟩, by kernel_rfl⟩
  · obtain rfl := Option.some.inj h; exact ⟨Tryd.underlying21, by kernel_rfl⟩
  · obtain rfl := Option.some.inj h; exact ⟨Tryd.underlying22, by kernel_rfl⟩
  · obtain rfl := Option.some.inj h; exact ⟨Tryd.underlying23, by kernel_rfl⟩
  · obtain rfl := Option.some.inj h; exact ⟨Tryd.underlying25, by kernel_rfl⟩
  · obtain rfl := Option.some.inj h; exact ⟨Tryd.underlying26, by kernel_rfl⟩
  · obtain rfl := Option.some.inj h; exact ⟨Tryd.underlying33, by kernel_rfl⟩
  · obtain rfl := Option.some.inj h; exact ⟨Tryd.underlying36, by kernel_rfl⟩
  · obtain rfl := Option.some.inj h; exact ⟨Tryd.underlying48, by kernel_rfl⟩
  · obtain rfl := Option.some.inj h; exact ⟨Tryd.underlying57, by kernel_rfl⟩
  · obtain rfl := Option.some.inj h; exact ⟨Tryd.underlying59, by kernel_rfl⟩
  · obtain rfl := Option.some.inj h; exact ⟨⟨_, Tryd.underlying64, rfl⟩, by kernel_rfl⟩
  · obtain rfl := Option.some.inj h; exact ⟨⟨_, Tryd.underlying65, rfl⟩, by kernel_rfl⟩
  · obtain rfl := Option.some.inj h; exact ⟨⟨_, Tryd.underlying68, rfl⟩, by kernel_rfl⟩
  · obtain rfl := Option.some.inj h; exact ⟨⟨_, Tryd.underlying69, rfl⟩, by kernel_rfl⟩
  · obtain rfl := Option.some.inj h; exact ⟨Tryd.underlying73, by kernel_rfl⟩
  · obtain rfl := Option.some.inj h; exact ⟨Tryd.underlying75, by kernel_rfl⟩
  · obtain rfl := Option.some.inj h; exact ⟨Tryd.underlying83, by kernel_rfl⟩
  · obtain rfl := Option.some.inj h; exact ⟨Tryd.underlying84, by kernel_rfl⟩
  · obtain rfl := Option.some.inj h; exact ⟨Tryd.underlying86, by kernel_rfl⟩
  · obtain rfl := Option.some.inj h; exact ⟨Tryd.underlying94, by kernel_rfl⟩
  · obtain rfl := Option.some.inj h; exact ⟨Tryd.underlying98, by kernel_rfl⟩
  · obtain rfl := Option.some.inj h; exact ⟨⟨_, Tryd.underlying104, rfl⟩, by kernel_rfl⟩
  · obtain rfl := Option.some.inj h; exact ⟨⟨_, Tryd.underlying105, rfl⟩, by kernel_rfl⟩
  · cases h

/-- The table of zeros, as the program lays it. -/
def Tryd.G0 : Nat → PV := fun g => bif Nat.beq g 2 then .ptr 64 (fun j => .val (.int .u8 ((Vinc.Num.tab64.getD j 0 : Nat) : Int))) 0 else .any

/-- The program, with what is known of its variables. -/
noncomputable def Tryd.pr : Pr := ⟨Tryd.prog, Tryd.G0, Tryd.T0, Tryd.hT0⟩
end Go.Proofs

/- What the listed table gives the walks: the variable's cells are the table's numbers. -/
namespace Go.Proofs.YthgkmbeeicpmcaaDoor
open Go Go.RowKit Vinc

/-- The list of what is laid. -/
abbrev laidL : List (String × DataW Unit) := [("math/bits.deBruijn64tab", Rows.laid_math_bits_deBruijn64tab)]

theorem gTab : Tryd.prog.globalNamed "math/bits.deBruijn64tab" = some 2 := by kernel_rfl
theorem gTabT : (Tryd.prog.globals[2]?).map (·.type) = some 84 := by kernel_rfl

/-- The table as a list of integers. -/
def zs64 : List Int := Vinc.Num.tab64.map fun n => ((n : Nat) : Int)

theorem laid_eq : laidL = [("math/bits.deBruijn64tab", Lib.tabData .u8 zs64)] := by kernel_rfl

/-- The door's own heap meets the condition. -/
theorem door_met (os : Os) (args : Array Value) : laidMetH Tryd.prog laidL ((World.doorLaid Tryd.prog 400 os).forCall (fun _ _ => 0) ⟨#[], args, []⟩).memory :=
  laidMetH_of_parts3 (fuel := 8) (laidMet_of_run' 8 (by kernel_rfl) (by kernel_rfl)) (by kernel_rfl) (by kernel_rfl)

/-- What is known of the variables. -/
theorem tab_of {W : World} (h : laidMetH Tryd.prog laidL W) : ∀ g, Rep W (fun b => b < W.heap.size) (Tryd.G0 g) (gptr g) := by
  rw [MakeChecks.laidMetH_plain _ _ _ (by kernel_rfl), laid_eq] at h
  have hT := Lib.tabIs_of_head gTab gTabT (show Tryd.prog.underlying 84 = some (.array 64 5) by kernel_rfl) (show Tryd.prog.underlying 5 = some (.int .u8) by kernel_rfl) (by kernel_rfl) (by kernel_rfl) h
  have hc : ∀ j, j < 64 → W.cell? ⟨2, j, none⟩ = some (.int .u8 ((Vinc.Num.tab64.getD j 0 : Nat) : Int)) := fun j hj => by
    have := hT.cell gTab j hj
    rw [this]
    congr 2
    show (Vinc.Num.tab64.map fun n => ((n : Nat) : Int)).getD j 0 = _
    rw [List.getD_eq_getElem?_getD, List.getD_eq_getElem?_getD, List.getElem?_map]
    cases Vinc.Num.tab64[j]? <;> rfl
  intro g
  show Rep W _ (bif Nat.beq g 2 then .ptr 64 (fun j => .val (.int .u8 ((Vinc.Num.tab64.getD j 0 : Nat) : Int))) 0 else .any) _
  cases hg : Nat.beq g 2 with
  | false => exact trivial
  | true =>
    obtain rfl : g = 2 := Nat.eq_of_beq_eq_true hg
    refine ⟨2, 0, rfl, ?_, fun j hj => ⟨_, (by rw [Nat.zero_add]; exact hc j hj), rfl, rfl⟩⟩
    have h0 := hc 0 (by decide)
    rcases Nat.lt_or_ge 2 W.heap.size with h | h
    · exact h
    · have hn : W.heap[2]? = none := Array.getElem?_eq_none h
      simp [World.cell?, hn] at h0

end Go.Proofs.YthgkmbeeicpmcaaDoor

/- The functions of math/bits. -/
namespace Go.Proofs
open Go Vinc

/-- What the product of two words is, by halves. -/
theorem mul64_eq (x y : Nat) (hx : x < 18446744073709551616) (hy : y < 18446744073709551616) :
    ((x / 4294967296 * (y / 4294967296) % 18446744073709551616
        + ((x / 4294967296 * (y % 4294967296) % 18446744073709551616 + (x % 4294967296 * (y % 4294967296) % 18446744073709551616) / 4294967296) % 18446744073709551616) / 4294967296) % 18446744073709551616
        + ((((x / 4294967296 * (y % 4294967296) % 18446744073709551616 + (x % 4294967296 * (y % 4294967296) % 18446744073709551616) / 4294967296) % 18446744073709551616) % 4294967296
          + x % 4294967296 * (y / 4294967296) % 18446744073709551616) % 18446744073709551616) / 4294967296) % 18446744073709551616
      = x * y / 18446744073709551616 := by
  have hx0 : x % 4294967296 < 4294967296 := Nat.mod_lt _ (by decide)
  have hy0 : y % 4294967296 < 4294967296 := Nat.mod_lt _ (by decide)
  have hx1 : x / 4294967296 < 4294967296 := by omega
  have hy1 : y / 4294967296 < 4294967296 := by omega
  have ex : x = 4294967296 * (x / 4294967296) + x % 4294967296 := (Nat.div_add_mod x 4294967296).symm
  have ey : y = 4294967296 * (y / 4294967296) + y % 4294967296 := (Nat.div_add_mod y 4294967296).symm
  generalize x % 4294967296 = a at *
  generalize x / 4294967296 = b at *
  generalize y % 4294967296 = c at *
  generalize y / 4294967296 = d at *
  have e : x * y = 18446744073709551616 * (b * d) + 4294967296 * (b * c) + 4294967296 * (a * d) + a * c := by
    rw [ex, ey]; grind
  have h1 : b * d ≤ 4294967295 * 4294967295 := Nat.mul_le_mul (by omega) (by omega)
  have h2 : b * c ≤ 4294967295 * 4294967295 := Nat.mul_le_mul (by omega) (by omega)
  have h3 : a * d ≤ 4294967295 * 4294967295 := Nat.mul_le_mul (by omega) (by omega)
  have h4 : a * c ≤ 4294967295 * 4294967295 := Nat.mul_le_mul (by omega) (by omega)
  rw [e]
  clear e ex ey
  generalize b * d = bd at *
  generalize b * c = bc at *
  generalize a * d = ad at *
  generalize a * c = ac at *
  omega

theorem Mul64_spec (x y : Nat) (hx : x < 18446744073709551616) (hy : y < 18446744073709551616) :
    CallSpec Tryd.pr.P Tryd.pr.G 38 [u64 x, u64 y] (.tup 2 (two (u64 (x * y / 18446744073709551616)) (u64 (x * y % 18446744073709551616)))) := by
  refine callSpec_of Tryd.pr Tryd.func38 rfl rfl rfl fun w0 ok0 hok hG => ?_
  refine ev_rs [] rfl trivial ?_
  refine ev_rs [] rfl trivial (ev_n 6 (x % 4294967296) rfl (and32 x hx) ?_)
  refine ev_rs [] rfl ⟨by decide, trivial⟩ (ev_n 7 _ rfl (shr32 x) ?_)
  refine ev_rs [] rfl trivial (ev_n 8 _ rfl (and32 y hy) ?_)
  refine ev_rs [] rfl ⟨by decide, trivial⟩ (ev_n 9 _ rfl (shr32 y) ?_)
  refine ev_rs [] rfl trivial (ev_n 10 _ rfl (wrapMul _ _) ?_)
  refine ev_rs [] rfl ⟨by decide, trivial⟩ (ev_n 11 _ rfl (by simp only [wrapMul, wrapAdd, shr32]; rfl) ?_)
  refine ev_rs [] rfl trivial (ev_n 12 _ rfl (and32 _ (Nat.mod_lt _ (by decide))) ?_)
  refine ev_rs [] rfl ⟨by decide, trivial⟩ (ev_n 13 _ rfl (shr32 _) ?_)
  refine ev_rs [] rfl trivial (ev_n 12 _ rfl (by simp only [wrapMul, wrapAdd]; rfl) ?_)
  refine ev_rs [] rfl ⟨by decide, trivial⟩ (ev_n 4 _ rfl (by simp only [wrapMul, wrapAdd, shr32]; rfl) ?_)
  refine ev_rs [] rfl trivial (ev_n 5 _ rfl (wrapMul _ _) ?_)
  refine ev_ret (ret2 (fz_p (PLe.of_eq (congrArg u64 ?_))) (fz_p (PLe.refl _)))
  exact mul64_eq x y hx hy
/-- The place of a word's highest bit, counted from one. -/
def len64 (x : Nat) : Nat := if x = 0 then 0 else Nat.log2 x + 1

theorem len64_shift (x k : Nat) (h : 2 ^ k ≤ x) : len64 x = len64 (x / 2 ^ k) + k := by
  have h0 : 0 < 2 ^ k := Nat.two_pow_pos k
  have hx : x ≠ 0 := by omega
  have hd : x / 2 ^ k ≠ 0 := by
    have := Nat.div_pos h h0
    omega
  unfold len64
  rw [if_neg hx, if_neg hd]
  have h1 := Nat.log2_self_le hd
  have h2 := @Nat.lt_log2_self (x / 2 ^ k)
  have e : Nat.log2 x = Nat.log2 (x / 2 ^ k) + k := by
    apply (Nat.log2_eq_iff hx).mpr
    constructor
    · rw [Nat.pow_add]
      exact (Nat.le_div_iff_mul_le h0).mp h1
    · rw [show Nat.log2 (x / 2 ^ k) + k + 1 = (Nat.log2 (x / 2 ^ k) + 1) + k by omega, Nat.pow_add]
      exact (Nat.div_lt_iff_lt_mul h0).mp h2
  omega

theorem len_last (t : ByteArray) (h : ∀ y, y < 256 → (t.data.getD y 0).toNat = len64 y) (y n : Nat) (hy : y < 256) (hn : n ≤ 56) :
    IntKind.wrap .i64 ((n : Int) + IntKind.wrap .i64 (((t.data.getD (IntKind.wrap .u8 (y : Int)).toNat 0).toNat : Nat) : Int)) = ((len64 y + n : Nat) : Int) := by
  have h1 : (IntKind.wrap .u8 (y : Int)).toNat = y := by
    simp [IntKind.wrap, IntKind.signed, IntKind.bits]; omega
  have h2 : len64 y ≤ 64 := by
    unfold len64
    split
    · omega
    · rename_i h0
      have : Nat.log2 y < 8 := (Nat.log2_lt h0).mpr (by omega)
      omega
  rw [h1, h y hy, wrapI (len64 y : Int) (by omega) (by omega), wrapI _ (by omega) (by omega)]
  omega

theorem len_in (t : ByteArray) (h : t.data.size = 256) (y : Nat) : 0 ≤ IntKind.wrap .u8 (y : Int) ∧ IntKind.wrap .u8 (y : Int) < t.data.size := by
  rw [h]
  simp [IntKind.wrap, IntKind.signed, IntKind.bits]; omega

theorem Len64_spec (x : Nat) (hx : x < 18446744073709551616) : CallSpec Tryd.pr.P Tryd.pr.G 57 [u64 x] (i64 (len64 x)) := by
  refine callSpec_of Tryd.pr Tryd.func57 rfl rfl rfl fun w0 ok0 hok hG => ?_
  refine ev_rs [] rfl trivial ?_
  refine ev_at (α := Nat × Nat) (fun p => p.1 < 4294967296 ∧ p.2 ≤ 32 ∧ len64 x = len64 p.1 + p.2) (fun p => [(0, .p (u64 p.1)), (2, .p (i64 p.2))]) (fun _ => []) ?_ ?_
  · refine ev_rs [] rfl trivial (ev_cond rfl (fun hc => ?_) (fun hc => ?_))
    · refine ev_rs [] rfl ⟨by decide, trivial⟩ (ev_n 0 _ rfl (shr32 x) ?_)
      refine ev_region [] rfl trivial (at0 (x / 4294967296, 32) ⟨by omega, by omega, ?_⟩ ⟨le_0, le_0, trivial⟩)
      exact len64_shift x 32 (by simp at hc; omega)
    · refine ev_skip (at0 (x, 0) ⟨?_, by omega, rfl⟩ ⟨le_0, le_0, trivial⟩)
      simp at hc; omega
  rintro ⟨y, n⟩ ⟨hy, hn, e⟩
  refine ev_at (α := Nat × Nat) (fun p => p.1 < 65536 ∧ p.2 ≤ 48 ∧ len64 x = len64 p.1 + p.2) (fun p => [(0, .p (u64 p.1)), (2, .p (i64 p.2))]) (fun _ => []) ?_ ?_
  · refine ev_rs [] rfl trivial (ev_cond rfl (fun hc => ?_) (fun hc => ?_))
    · refine ev_rs [] rfl ⟨by decide, trivial⟩ (ev_n 0 _ rfl (shrN y 16 (by decide)) ?_)
      refine ev_region [] rfl trivial (at0 (y / 65536, n + 16) ⟨by omega, by omega, ?_⟩ ⟨le_0, le_e ?_, trivial⟩)
      · have h := len64_shift y 16 (by simp at hc; omega)
        simp only [Nat.reducePow] at h
        dsimp only at e ⊢
        omega
      · exact congrArg (fun z => PV.val (.int .i64 z)) (wrapI _ (by dsimp only at hn ⊢; omega) (by dsimp only at hn ⊢; omega))
    · refine ev_skip (at0 (y, n) ⟨?_, by omega, e⟩ ⟨le_0, le_0, trivial⟩)
      simp at hc; omega
  rintro ⟨y, n⟩ ⟨hy, hn, e⟩
  refine ev_at (α := Nat × Nat) (fun p => p.1 < 256 ∧ p.2 ≤ 56 ∧ len64 x = len64 p.1 + p.2) (fun p => [(0, .p (u64 p.1)), (2, .p (i64 p.2))]) (fun _ => []) ?_ ?_
  · refine ev_rs [] rfl trivial (ev_cond rfl (fun hc => ?_) (fun hc => ?_))
    · refine ev_rs [] rfl ⟨by decide, trivial⟩ (ev_n 0 _ rfl (shrN y 8 (by decide)) ?_)
      refine ev_region [] rfl trivial (at0 (y / 256, n + 8) ⟨by omega, by omega, ?_⟩ ⟨le_0, le_e ?_, trivial⟩)
      · have h := len64_shift y 8 (by simp at hc; omega)
        simp only [Nat.reducePow] at h
        dsimp only at e ⊢
        omega
      · exact congrArg (fun z => PV.val (.int .i64 z)) (wrapI _ (by dsimp only at hn ⊢; omega) (by dsimp only at hn ⊢; omega))
    · refine ev_skip (at0 (y, n) ⟨?_, by omega, e⟩ ⟨le_0, le_0, trivial⟩)
      simp at hc; omega
  rintro ⟨y, n⟩ ⟨hy, hn, e⟩
  refine ev_rs [] rfl ?_ ?_
  · exact ⟨len_in _ (by decide +kernel) y, trivial⟩
  · refine ev_ret (ret1 (fz_p (PLe.of_eq (congrArg (fun z => PV.val (.int .i64 z)) ?_))))
    exact (len_last _ (by decide +kernel) y n hy hn).trans (by rw [e])

theorem LeadingZeros64_spec (x : Nat) (hx : x < 18446744073709551616) : CallSpec Tryd.pr.P Tryd.pr.G 52 [u64 x] (i64 (64 - len64 x)) := by
  have hl : len64 x ≤ 64 := by
    unfold len64
    split
    · omega
    · rename_i h0
      have : Nat.log2 x < 64 := (Nat.log2_lt h0).mpr (by omega)
      omega
  refine callSpec_of Tryd.pr Tryd.func52 rfl rfl rfl fun w0 ok0 hok hG => ?_
  refine ev_rs [] rfl trivial ?_
  refine ev_rs [i64 (len64 x)] rfl ⟨.inl (Len64_spec x hx), trivial⟩ ?_
  refine ev_ret (ret1 (fz_p (PLe.of_eq (congrArg (fun z => PV.val (.int .i64 z)) ?_))))
  exact wrapI _ (by omega) (by omega)

end Go.Proofs

/- Division of two words by one. -/
set_option linter.unusedVariables false
namespace Go.Proofs
open Go Vinc

/-- The guess of a digit, and what the test of it says. -/
theorem knuth (u u1 y a b q r : Nat) (hy : y = a * 4294967296 + b) (ha : 2147483648 ≤ a) (ha' : a < 4294967296) (hb : b < 4294967296) (hu : u < y) (hu1 : u1 < 4294967296) (h1 : q * a + r = u)
    (hr : r < 4294967296) (hq : q ≤ 4294967297) :
    (4294967296 ≤ q ∨ (4294967296 * r % 18446744073709551616 + u1) % 18446744073709551616 < q * b % 18446744073709551616) ↔ (u * 4294967296 + u1) / y < q := by
  have hy0 : 0 < y := by omega
  have hlt : (u * 4294967296 + u1) / y < 4294967296 := by
    rw [Nat.div_lt_iff_lt_mul hy0]
    have : (u + 1) * 4294967296 ≤ y * 4294967296 := Nat.mul_le_mul_right _ hu
    rw [Nat.mul_comm 4294967296 y]
    omega
  have key : (u * 4294967296 + u1) / y < q ↔ 4294967296 * r + u1 < q * b := by
    rw [Nat.div_lt_iff_lt_mul hy0, hy, ← h1, Nat.mul_add, ← Nat.mul_assoc]
    have e : (q * a + r) * 4294967296 = q * a * 4294967296 + 4294967296 * r := by rw [Nat.add_mul, Nat.mul_comm r]
    rw [e]
    omega
  by_cases hc : 4294967296 ≤ q
  · constructor
    · intro _; omega
    · intro _; exact .inl hc
  · have hqb : q * b ≤ 4294967295 * 4294967295 := Nat.mul_le_mul (by omega) (by omega)
    rw [key, Nat.mod_eq_of_lt (by omega : q * b < _), Nat.mod_eq_of_lt (by omega : 4294967296 * r < _), Nat.mod_eq_of_lt (by omega : 4294967296 * r + u1 < _)]
    omega

/-- When the rest has grown beyond a digit, the guess is right. -/
theorem knuth_end (u u1 y a b q r : Nat) (hy : y = a * 4294967296 + b) (ha : 2147483648 ≤ a) (hb : b < 4294967296) (h1 : q * a + r = u)
    (hr : 4294967296 ≤ r) (hq : q ≤ 4294967296) : q ≤ (u * 4294967296 + u1) / y := by
  have hy0 : 0 < y := by omega
  refine (Nat.le_div_iff_mul_le hy0).mpr ?_
  rw [hy, ← h1, Nat.mul_add, ← Nat.mul_assoc, Nat.add_mul]
  have h2 : q * b ≤ 4294967296 * 4294967296 := Nat.mul_le_mul hq (by omega)
  have h3 : 4294967296 * 4294967296 ≤ r * 4294967296 := Nat.mul_le_mul_right _ hr
  omega

/-- The first guess. -/
theorem knuth_start (u u1 y a b : Nat) (hy : y = a * 4294967296 + b) (ha : 2147483648 ≤ a) (ha' : a < 4294967296) (hb : b < 4294967296) (hu : u < y) (hu1 : u1 < 4294967296) :
    u / a ≤ 4294967297 ∧ (u * 4294967296 + u1) / y ≤ u / a ∧ u % a < 4294967296 := by
  have h0 : 0 < a := by omega
  have hy0 : 0 < y := by omega
  refine ⟨?_, ?_, ?_⟩
  · apply Nat.le_of_lt_succ
    refine (Nat.div_lt_iff_lt_mul h0).mpr ?_
    generalize hk : (Nat.succ 4294967297) = k
    have hk' : k = 4294967298 := hk.symm
    rw [hk', Nat.mul_comm]
    omega
  · rw [Nat.le_div_iff_mul_le h0]
    have h1 : (u * 4294967296 + u1) / y * y ≤ u * 4294967296 + u1 := Nat.div_mul_le_self _ _
    generalize (u * 4294967296 + u1) / y = q at h1 ⊢
    rw [hy, Nat.mul_add, ← Nat.mul_assoc] at h1
    have h2 : q * a * 4294967296 ≤ u * 4294967296 + u1 := Nat.le_trans (Nat.le_add_right _ _) h1
    clear h1
    generalize q * a = qa at h2 ⊢
    omega
  · have := Nat.mod_lt u h0
    omega

theorem rest_aux (u u1 y m t : Nat) (h : m + t = u * 4294967296 + u1) (hm : t < y) (hu : u < y) (hu1 : u1 < 4294967296) (hy : y < 18446744073709551616) :
    ((u * 4294967296 % 18446744073709551616 + u1) % 18446744073709551616 + (18446744073709551616 - m % 18446744073709551616)) % 18446744073709551616 = t := by omega

/-- The rest behind a digit. -/
theorem knuth_rest (u u1 y : Nat) (hu : u < y) (hu1 : u1 < 4294967296) (hy : y < 18446744073709551616) :
    ((u * 4294967296 % 18446744073709551616 + u1) % 18446744073709551616 + (18446744073709551616 - (u * 4294967296 + u1) / y * y % 18446744073709551616)) % 18446744073709551616 = (u * 4294967296 + u1) % y := by
  have hy0 : 0 < y := by omega
  have h := Nat.div_add_mod (u * 4294967296 + u1) y
  have hm := Nat.mod_lt (u * 4294967296 + u1) hy0
  rw [Nat.mul_comm] at h
  exact rest_aux _ _ _ _ _ h hm hu hu1 hy

theorem digit_lt (u v y : Nat) (hu : u < y) (hv : v < 4294967296) : (u * 4294967296 + v) / y < 4294967296 := by
  rw [Nat.div_lt_iff_lt_mul (by omega)]
  have := Nat.mul_le_mul_right 4294967296 (show u + 1 ≤ y from hu)
  rw [Nat.mul_comm 4294967296 y]
  omega

/-- Words that share no place. -/
theorem or_apart (a b s : Nat) (ha : a < 18446744073709551616) (hb : b < 2 ^ s) (hd : 2 ^ s ∣ a) (hs : s ≤ 64) : bitI .or .u64 (a : Int) (b : Int) = ((a + b : Nat) : Int) := by
  have h2 : 2 ^ s ≤ 2 ^ 64 := Nat.pow_le_pow_right (by omega) hs
  obtain ⟨m, rfl⟩ := hd
  have hlt : 2 ^ s * m + b < 18446744073709551616 := by
    have e : 18446744073709551616 = 2 ^ s * 2 ^ (64 - s) := by rw [← Nat.pow_add, show s + (64 - s) = 64 by omega]
    rw [e] at ha ⊢
    have : m < 2 ^ (64 - s) := Nat.lt_of_mul_lt_mul_left ha
    have := Nat.mul_le_mul_left (2 ^ s) this
    rw [Nat.mul_succ] at this
    omega
  show IntKind.wrap .u64 (((BitVec.ofInt 64 ((2 ^ s * m : Nat) : Int) ||| BitVec.ofInt 64 (b : Int)).toNat : Nat) : Int) = _
  rw [BitVec.toNat_or, BitVec.ofInt_natCast, BitVec.ofInt_natCast, BitVec.toNat_ofNat, BitVec.toNat_ofNat, Nat.mod_eq_of_lt (by omega : 2 ^ s * m < 2 ^ 64), Nat.mod_eq_of_lt (by omega : b < 2 ^ 64),
    ← Nat.two_pow_add_eq_or_of_lt hb, wrapN, Nat.mod_eq_of_lt hlt]

theorem div_shift (n y s Q r : Nat) (h : n * 2 ^ s = Q * (y * 2 ^ s) + r) (hr : r < y * 2 ^ s) : n / y = Q ∧ n % y = r / 2 ^ s := by
  have h0 : 0 < 2 ^ s := Nat.two_pow_pos s
  have hy : 0 < y * 2 ^ s := by omega
  have h1 : n * 2 ^ s / (y * 2 ^ s) = Q := by
    rw [h, Nat.mul_comm Q, Nat.mul_add_div hy, Nat.div_eq_of_lt hr, Nat.add_zero]
  have h2 : n * 2 ^ s % (y * 2 ^ s) = r := by
    rw [h, Nat.mul_comm Q, Nat.mul_add_mod, Nat.mod_eq_of_lt hr]
  rw [Nat.mul_div_mul_right _ _ h0] at h1
  rw [Nat.mul_mod_mul_right] at h2
  exact ⟨h1, by rw [← h2, Nat.mul_div_cancel _ h0]⟩

theorem div_fin0 (u v1 v0 y q1 r1 q0 r0 : Nat) (d1 : y * q1 + r1 = u * 4294967296 + v1) (d2 : y * q0 + r0 = r1 * 4294967296 + v0) :
    u * 18446744073709551616 + (v1 * 4294967296 + v0) = (q1 * 4294967296 + q0) * y + r0 := by
  rw [Nat.add_mul, Nat.mul_comm q0, Nat.mul_right_comm, Nat.mul_comm q1]
  omega

theorem div_fin (N y s u v y' : Nat) (hN : N * 2 ^ s = u * 18446744073709551616 + v) (h0 : 0 < y') (hdiv : ∀ Q r, N * 2 ^ s = Q * y' + r → r < y' → N / y = Q ∧ N % y = r / 2 ^ s) :
    N / y = (u * 4294967296 + v / 4294967296) / y' * 4294967296 + ((u * 4294967296 + v / 4294967296) % y' * 4294967296 + v % 4294967296) / y'
    ∧ N % y = ((u * 4294967296 + v / 4294967296) % y' * 4294967296 + v % 4294967296) % y' / 2 ^ s := by
  refine hdiv _ _ ?_ (Nat.mod_lt _ h0)
  rw [hN]
  have hvv : v = v / 4294967296 * 4294967296 + v % 4294967296 := by omega
  exact (congrArg (u * 18446744073709551616 + ·) hvv).trans (div_fin0 u _ _ y' _ _ _ _ (Nat.div_add_mod _ _) (Nat.div_add_mod _ _))

/-- What is set up ahead of the digits. -/
theorem div_setup (hi lo y : Nat) (hhi : hi < y) (hlo : lo < 18446744073709551616) (hy : y < 18446744073709551616) : ∃ s y' a b u v v1 v0 : Nat,
    (len64 y ≤ 64 ∧ 64 - len64 y = s ∧ s ≤ 64) ∧ (y * 2 ^ s = y' ∧ y' < 18446744073709551616) ∧ (y' / 4294967296 = a ∧ y' % 4294967296 = b) ∧ (y' = a * 4294967296 + b ∧ 2147483648 ≤ a ∧ a < 4294967296 ∧ b < 4294967296)
    ∧ bitI .or .u64 ((hi * 2 ^ s % 18446744073709551616 : Nat) : Int) ((lo / 2 ^ (64 - s) : Nat) : Int) = (u : Int) ∧ u < y' ∧ lo * 2 ^ s % 18446744073709551616 = v ∧ v < 18446744073709551616 ∧ v / 4294967296 = v1 ∧ v % 4294967296 = v0
    ∧ v1 < 4294967296 ∧ v0 < 4294967296
    ∧ (hi * 18446744073709551616 + lo) / y = (u * 4294967296 + v1) / y' * 4294967296 + ((u * 4294967296 + v1) % y' * 4294967296 + v0) / y'
    ∧ (hi * 18446744073709551616 + lo) % y = ((u * 4294967296 + v1) % y' * 4294967296 + v0) % y' / 2 ^ s := by
  have hy0 : y ≠ 0 := by omega
  have hlz : len64 y ≤ 64 ∧ y * 2 ^ (64 - len64 y) < 18446744073709551616 ∧ 9223372036854775808 ≤ y * 2 ^ (64 - len64 y) := by
    unfold len64
    rw [if_neg hy0]
    have h1 : Nat.log2 y < 64 := (Nat.log2_lt hy0).mpr hy
    have h2 := Nat.log2_self_le hy0
    have h3 := @Nat.lt_log2_self y
    have e : (18446744073709551616 : Nat) = 2 ^ (Nat.log2 y + 1) * 2 ^ (64 - (Nat.log2 y + 1)) := by rw [← Nat.pow_add, show Nat.log2 y + 1 + (64 - (Nat.log2 y + 1)) = 64 by omega]
    have e' : (9223372036854775808 : Nat) = 2 ^ (Nat.log2 y) * 2 ^ (64 - (Nat.log2 y + 1)) := by rw [← Nat.pow_add, show Nat.log2 y + (64 - (Nat.log2 y + 1)) = 63 by omega]
    refine ⟨by omega, ?_, ?_⟩
    · rw [e]; exact Nat.mul_lt_mul_of_pos_right h3 (Nat.two_pow_pos _)
    · rw [e']; exact Nat.mul_le_mul_right _ h2
  obtain ⟨hl, hy1, hy2⟩ := hlz
  have hs64 : 64 - len64 y ≤ 64 := by omega
  generalize 64 - len64 y = s at hy1 hy2 hs64 ⊢
  have hps : 0 < 2 ^ s := Nat.two_pow_pos s
  have hpe : 2 ^ s * 2 ^ (64 - s) = 18446744073709551616 := by rw [← Nat.pow_add, show s + (64 - s) = 64 by omega]
  have hpt : 0 < 2 ^ (64 - s) := Nat.two_pow_pos _
  have hhs : hi * 2 ^ s < 18446744073709551616 := Nat.lt_of_le_of_lt (Nat.mul_le_mul_right _ (Nat.le_of_lt hhi)) hy1
  have hls : lo / 2 ^ (64 - s) < 2 ^ s := by
    rw [Nat.div_lt_iff_lt_mul hpt, hpe]; exact hlo
  have hN : (hi * 18446744073709551616 + lo) * 2 ^ s = (hi * 2 ^ s + lo / 2 ^ (64 - s)) * 18446744073709551616 + lo * 2 ^ s % 18446744073709551616 := by
    have h1 : lo * 2 ^ s / 18446744073709551616 = lo / 2 ^ (64 - s) := by
      rw [← hpe, Nat.mul_comm lo, Nat.mul_div_mul_left _ _ hps]
    have h2 := Nat.div_add_mod (lo * 2 ^ s) 18446744073709551616
    rw [h1] at h2
    rw [Nat.add_mul, Nat.add_mul, Nat.add_assoc, Nat.mul_comm (lo / _), h2, Nat.mul_right_comm]
  have hu : hi * 2 ^ s + lo / 2 ^ (64 - s) < y * 2 ^ s := by
    have := Nat.mul_le_mul_right (2 ^ s) hhi
    rw [Nat.succ_mul] at this
    omega
  have hor := or_apart (hi * 2 ^ s % 18446744073709551616) _ s (Nat.mod_lt _ (by decide)) hls (by rw [Nat.mod_eq_of_lt hhs]; exact ⟨hi, Nat.mul_comm _ _⟩) hs64
  have hv : lo * 2 ^ s % 18446744073709551616 < 18446744073709551616 := Nat.mod_lt _ (by decide)
  have hdiv := div_shift (hi * 18446744073709551616 + lo) y s
  rw [Nat.mod_eq_of_lt hhs] at hor
  refine ⟨s, _, _, _, hi * 2 ^ s + lo / 2 ^ (64 - s), _, _, _, ⟨hl, rfl, hs64⟩, ⟨rfl, hy1⟩, ⟨rfl, rfl⟩, ⟨by omega, by omega, by omega, by omega⟩, by rw [Nat.mod_eq_of_lt hhs]; exact hor, hu, rfl, hv, rfl, rfl, by omega, by omega, ?_⟩
  exact div_fin _ y s _ _ _ hN (by omega) hdiv

theorem test_iff (q b r v : Nat) : (bif decide ((q : Int) ≥ 4294967296) then true else decide (IntKind.wrap .u64 ((q : Int) * b) > IntKind.wrap .u64 (IntKind.wrap .u64 (4294967296 * (r : Int)) + v))) = true
    ↔ (4294967296 ≤ q ∨ (4294967296 * r % 18446744073709551616 + v) % 18446744073709551616 < q * b % 18446744073709551616) := by
  have e : (4294967296 * (r : Int)) = ((4294967296 : Nat) : Int) * (r : Int) := rfl
  rw [e, wrapMul, wrapMul, wrapAdd]
  by_cases h : 4294967296 ≤ q
  · rw [decide_eq_true (by omega : (q : Int) ≥ 4294967296)]
    simp [h]
  · rw [decide_eq_false (by omega : ¬ (q : Int) ≥ 4294967296)]
    simp only [cond_false, decide_eq_true_eq, gt_iff_lt, Int.ofNat_lt]
    omega

theorem Div64_spec (hi lo y : Nat) (hhi : hi < y) (hlo : lo < 18446744073709551616) (hy : y < 18446744073709551616) :
    CallSpec Tryd.pr.P Tryd.pr.G 47 [u64 hi, u64 lo, u64 y] (.tup 2 (two (u64 ((hi * 18446744073709551616 + lo) / y)) (u64 ((hi * 18446744073709551616 + lo) % y)))) := by
  have hy0 : y ≠ 0 := by omega
  obtain ⟨s, y', a, b, u, v, v1, v0, ⟨hl, hs, hs64⟩, ⟨hy1, hy2⟩, ⟨ea, eb⟩, ⟨hyy, ha, ha', hb⟩, hor, hu, ev, hv, ev1, ev0, hv1, hv0, hq, hr⟩ := div_setup hi lo y hhi hlo hy
  have hua := knuth_start u v1 y' a b hyy ha ha' hb hu hv1
  have hu2 : (u * 4294967296 + v1) % y' < y' := Nat.mod_lt _ (by omega)
  have hub := knuth_start ((u * 4294967296 + v1) % y') v0 y' a b hyy ha ha' hb hu2 hv0
  have hq1 := digit_lt u v1 y' hu hv1
  have hq0 := digit_lt ((u * 4294967296 + v1) % y') v0 y' hu2 hv0
  have kr1 := knuth_rest u v1 y' hu hv1 hy2
  have kr0 := knuth_rest ((u * 4294967296 + v1) % y') v0 y' hu2 hv0 hy2
  have ke1 := fun q r => knuth_end u v1 y' a b q r hyy ha hb
  have ke0 := fun q r => knuth_end ((u * 4294967296 + v1) % y') v0 y' a b q r hyy ha hb
  have kn1 := fun q r => knuth u v1 y' a b q r hyy ha ha' hb hu hv1
  have kn0 := fun q r => knuth ((u * 4294967296 + v1) % y') v0 y' a b q r hyy ha ha' hb hu2 hv0
  obtain ⟨u2, eu2⟩ : ∃ u2, (u * 4294967296 + v1) % y' = u2 := ⟨_, rfl⟩
  rw [eu2] at hu2 hub hq0 kr1 kr0 ke0 kn0 hq hr
  obtain ⟨q1, eq1⟩ : ∃ q1, (u * 4294967296 + v1) / y' = q1 := ⟨_, rfl⟩
  rw [eq1] at hua hq1 kr1 ke1 kn1 hq
  obtain ⟨q0, eq0⟩ : ∃ q0, (u2 * 4294967296 + v0) / y' = q0 := ⟨_, rfl⟩
  rw [eq0] at hub hq0 kr0 ke0 kn0 hq
  obtain ⟨r0, er0⟩ : ∃ r0, (u2 * 4294967296 + v0) % y' = r0 := ⟨_, rfl⟩
  rw [er0] at kr0 hr
  rw [hq, hr]
  refine callSpec_of Tryd.pr Tryd.func47 rfl rfl rfl fun w0 ok0 hok hG => ?_
  refine ev_rs [] rfl trivial ?_
  refine ev_seq (ev_rs [] rfl trivial (ev_cond rfl (fun h => absurd h (by simp; omega)) (fun _ => ev_sk ?_)))
  refine ev_seq (ev_rs [] rfl trivial (ev_cond rfl (fun h => absurd h (by simp; omega)) (fun _ => ev_sk ?_)))
  refine ev_seq (ev_rs [] rfl trivial (ev_cond rfl (fun h => ?_) (fun _ => ev_sk ?_)))
  · obtain rfl : hi = 0 := by simpa using h
    refine ev_ds [] (by kernel_rfl) rfl rfl ?_ ?_
    · exact ⟨by simpa using hy0, by simpa using hy0, trivial⟩
    · refine ev_ret (ret2 (fz_p (PLe.of_eq (congrArg (fun z => PV.val (.int .u64 z)) ?_))) (fz_p (PLe.of_eq (congrArg (fun z => PV.val (.int .u64 z)) ?_))))
      · rw [tdivN _ _ hlo, ← hq, Nat.zero_mul, Nat.zero_add]
      · rw [tmodN, ← hr, Nat.zero_mul, Nat.zero_add]
  refine ev_rs [i64 (64 - len64 y)] rfl ⟨.inl (LeadingZeros64_spec y hy), trivial⟩ (ev_n 8 s rfl (by rw [wrap64]; omega) ?_)
  refine ev_rs [] rfl ⟨by omega, trivial⟩ (ev_n 2 y' rfl ((shlN y s hs64).trans (by rw [hy1, Nat.mod_eq_of_lt hy2])) ?_)
  refine ev_rs [] rfl ⟨by decide, trivial⟩ (ev_n 9 a rfl ((shr32 _).trans (by rw [ea])) ?_)
  refine ev_rs [] rfl trivial (ev_n 10 b rfl ((and32 _ hy2).trans (by rw [eb])) ?_)
  have h64 : IntKind.wrap .u64 (64 - (s : Int)) = ((64 - s : Nat) : Int) := by rw [wrap64]; omega
  refine ev_rs [] rfl ?_ (ev_n 11 u rfl ?_ ?_)
  · refine ⟨?_, by omega, trivial⟩
    rw [h64]; omega
  · rw [h64, shlN hi s hs64, shrN lo (64 - s) (by omega)]
    exact hor
  refine ev_rs [] rfl ⟨by omega, trivial⟩ (ev_n 12 v rfl ((shlN lo s hs64).trans (by rw [ev])) ?_)
  refine ev_rs [] rfl ⟨by decide, trivial⟩ (ev_n 13 v1 rfl ((shr32 _).trans (by rw [ev1])) ?_)
  refine ev_rs [] rfl trivial (ev_n 14 v0 rfl ((and32 _ hv).trans (by rw [ev0])) ?_)
  refine ev_rs [] rfl ⟨by omega, trivial⟩ (ev_n 15 (u / a) rfl (tdivN _ _ (by omega)) ?_)
  refine ev_rs [] rfl trivial (ev_n 16 (u % a) rfl ?_ ?_)
  · have h1 := Nat.div_mul_le_self u a
    have h2 := Nat.div_add_mod u a
    rw [wrapMul, Nat.mod_eq_of_lt (by omega), wrapSub _ _ h1 (by omega)]
    rw [Nat.mul_comm] at h2
    omega
  refine ev_at (α := Unit) (fun _ => True) (fun _ => [(8, .p (u64 s)), (2, .p (u64 y')), (9, .p (u64 a)), (10, .p (u64 b)), (11, .p (u64 u)), (13, .p (u64 v1)), (14, .p (u64 v0)), (15, .p (u64 q1))]) (fun _ => []) ?_ ?_
  · refine ev_block (ev_while0 (α := Nat × Nat) (fun p => p.1 ≤ 4294967297 ∧ q1 ≤ p.1 ∧ p.2 < 4294967296 ∧ p.1 * a + p.2 = u)
      (fun p => [(8, .p (u64 s)), (2, .p (u64 y')), (9, .p (u64 a)), (10, .p (u64 b)), (11, .p (u64 u)), (13, .p (u64 v1)), (14, .p (u64 v0)), (15, .p (u64 p.1)), (16, .p (u64 p.2))]) (fun p => p.1) (u / a, u % a)
      ⟨hua.1, hua.2.1, hua.2.2, by rw [Nat.mul_comm]; exact Nat.div_add_mod u a⟩ ⟨le_0, le_0, le_0, le_0, le_0, le_0, le_0, le_0, le_0, trivial⟩ ?_)
    rintro ⟨q, r⟩ ⟨h1, h2, h3, h4⟩
    dsimp only at h1 h2 h3 h4
    refine ev_seq (ev_rs [] rfl ⟨⟨fun _ => rfl, gd_f⟩, by simp⟩ ?_)
    refine ev_cond rfl (fun h => ev_sk ?_) (fun h => ev_exit ?_)
    · have h5 := (kn1 q r h4 h3 h1).mp ((test_iff q b r v1).mp h)
      refine ev_block ?_
      refine ev_rs [] rfl trivial (ev_n 15 (q - 1) rfl (wrapSub q 1 (by omega) (by omega)) ?_)
      refine ev_rs [] rfl trivial (ev_n 16 (r + a) rfl ((wrapAdd r a).trans (by rw [Nat.mod_eq_of_lt (by omega)])) ?_)
      have h6 : (q - 1) * a + (r + a) = u := by
        rw [← h4]
        obtain ⟨k, rfl⟩ : ∃ k, q = k + 1 := ⟨q - 1, by omega⟩
        rw [Nat.add_sub_cancel, Nat.add_mul]
        omega
      refine ev_rs [] rfl trivial (ev_cond rfl (fun h' => ev_exit ?_) (fun h' => ev_skip ?_))
      · refine at0 () trivial ⟨le_0, le_0, le_0, le_0, le_0, le_0, le_0, le_e ?_, trivial⟩
        have h7 : 4294967296 ≤ r + a := by have := of_decide_eq_true h'; omega
        have h8 := ke1 (q - 1) (r + a) h6 h7 (by omega)
        rw [show q - 1 = q1 by omega]
      · refine round0 (q - 1, r + a) ⟨?_, ?_, ?_, h6⟩ ?_ ⟨le_0, le_0, le_0, le_0, le_0, le_0, le_0, le_0, le_0, trivial⟩
        · dsimp only; omega
        · dsimp only; omega
        · have := of_decide_eq_false h'; dsimp only; omega
        · dsimp only; omega
    · have h5 := (not_congr (kn1 q r h4 h3 h1)).mp (fun h' => Bool.noConfusion (h.symm.trans ((test_iff q b r v1).mpr h')))
      refine at0 () trivial ⟨le_0, le_0, le_0, le_0, le_0, le_0, le_0, le_e ?_, trivial⟩
      exact congrArg u64 (show q = _ by omega)
  rintro ⟨⟩ -
  refine ev_rs [] rfl trivial (ev_n 17 u2 rfl ?_ ?_)
  · show IntKind.wrap .u64 (IntKind.wrap .u64 (IntKind.wrap .u64 ((u : Int) * ((4294967296 : Nat) : Int)) + (v1 : Int)) - IntKind.wrap .u64 ((q1 : Int) * (y' : Int))) = _
    rw [wrapMul, wrapAdd, wrapMul, wrapSub' _ _ (Nat.le_of_lt (Nat.mod_lt _ (by decide)))]
    exact toN kr1
  refine ev_rs [] rfl ⟨by omega, trivial⟩ (ev_n 18 (u2 / a) rfl (tdivN _ _ (by omega)) ?_)
  refine ev_rs [] rfl trivial (ev_n 16 (u2 % a) rfl ?_ ?_)
  · have h1 := Nat.div_mul_le_self u2 a
    have h2 := Nat.div_add_mod u2 a
    have h3 : u2 / a < 18446744073709551616 := by omega
    rw [wrapMul, Nat.mod_eq_of_lt (by omega), wrapSub _ _ h1 (by omega)]
    rw [Nat.mul_comm] at h2
    omega
  refine ev_at (α := Unit) (fun _ => True) (fun _ => [(8, .p (u64 s)), (2, .p (u64 y')), (14, .p (u64 v0)), (15, .p (u64 q1)), (17, .p (u64 u2)), (18, .p (u64 q0))]) (fun _ => []) ?_ ?_
  · refine ev_block (ev_while0 (α := Nat × Nat) (fun p => p.1 ≤ 4294967297 ∧ q0 ≤ p.1 ∧ p.2 < 4294967296 ∧ p.1 * a + p.2 = u2)
      (fun p => [(8, .p (u64 s)), (2, .p (u64 y')), (9, .p (u64 a)), (10, .p (u64 b)), (14, .p (u64 v0)), (15, .p (u64 q1)), (17, .p (u64 u2)), (18, .p (u64 p.1)), (16, .p (u64 p.2))]) (fun p => p.1) (u2 / a, u2 % a)
      ⟨hub.1, hub.2.1, hub.2.2, by rw [Nat.mul_comm]; exact Nat.div_add_mod u2 a⟩ ⟨le_0, le_0, le_0, le_0, le_0, le_0, le_0, le_0, le_0, trivial⟩ ?_)
    rintro ⟨q, r⟩ ⟨h1, h2, h3, h4⟩
    dsimp only at h1 h2 h3 h4
    refine ev_seq (ev_rs [] rfl ⟨⟨fun _ => rfl, gd_f⟩, by simp⟩ ?_)
    refine ev_cond rfl (fun h => ev_sk ?_) (fun h => ev_exit ?_)
    · have h5 := (kn0 q r h4 h3 h1).mp ((test_iff q b r v0).mp h)
      refine ev_block ?_
      refine ev_rs [] rfl trivial (ev_n 18 (q - 1) rfl (wrapSub q 1 (by omega) (by omega)) ?_)
      refine ev_rs [] rfl trivial (ev_n 16 (r + a) rfl ((wrapAdd r a).trans (by rw [Nat.mod_eq_of_lt (by omega)])) ?_)
      have h6 : (q - 1) * a + (r + a) = u2 := by
        rw [← h4]
        obtain ⟨k, rfl⟩ : ∃ k, q = k + 1 := ⟨q - 1, by omega⟩
        rw [Nat.add_sub_cancel, Nat.add_mul]
        omega
      refine ev_rs [] rfl trivial (ev_cond rfl (fun h' => ev_exit ?_) (fun h' => ev_skip ?_))
      · refine at0 () trivial ⟨le_0, le_0, le_0, le_0, le_0, le_e ?_, trivial⟩
        have h7 : 4294967296 ≤ r + a := by have := of_decide_eq_true h'; omega
        have h8 := ke0 (q - 1) (r + a) h6 h7 (by omega)
        rw [show q - 1 = q0 by omega]
      · refine round0 (q - 1, r + a) ⟨?_, ?_, ?_, h6⟩ ?_ ⟨le_0, le_0, le_0, le_0, le_0, le_0, le_0, le_0, le_0, trivial⟩
        · dsimp only; omega
        · dsimp only; omega
        · have := of_decide_eq_false h'; dsimp only; omega
        · dsimp only; omega
    · have h5 := (not_congr (kn0 q r h4 h3 h1)).mp (fun h' => Bool.noConfusion (h.symm.trans ((test_iff q b r v0).mpr h')))
      refine at0 () trivial ⟨le_0, le_0, le_0, le_0, le_0, le_e ?_, trivial⟩
      exact congrArg u64 (show q = _ by omega)
  rintro ⟨⟩ -
  refine ev_rs [] rfl ⟨by omega, trivial⟩ ?_
  refine ev_ret (ret2 (fz_p (PLe.of_eq (congrArg (fun z => PV.val (.int .u64 z)) ?_))) (fz_p (PLe.of_eq (congrArg (fun z => PV.val (.int .u64 z)) ?_))))
  · show IntKind.wrap .u64 (IntKind.wrap .u64 ((q1 : Int) * ((4294967296 : Nat) : Int)) + (q0 : Int)) = _
    rw [wrapMul, wrapAdd, Nat.mod_eq_of_lt (by omega : q1 * 4294967296 < _), Nat.mod_eq_of_lt (by omega)]
  · show Int.fdiv (IntKind.wrap .u64 (IntKind.wrap .u64 (IntKind.wrap .u64 ((u2 : Int) * ((4294967296 : Nat) : Int)) + (v0 : Int)) - IntKind.wrap .u64 ((q0 : Int) * (y' : Int)))) _ = _
    rw [wrapMul, wrapAdd, wrapMul, wrapSub' _ _ (Nat.le_of_lt (Nat.mod_lt _ (by decide))), kr0]
    exact shrN _ s hs64

/-- The rest of two words by one. -/
theorem Rem64_spec (hi lo y : Nat) (hy0 : y ≠ 0) (hlo : lo < 18446744073709551616) (hy : y < 18446744073709551616) :
    CallSpec Tryd.pr.P Tryd.pr.G 39 [u64 hi, u64 lo, u64 y] (u64 ((hi * 18446744073709551616 + lo) % y)) := by
  refine callSpec_of Tryd.pr Tryd.func39 rfl rfl rfl fun w0 ok0 hok hG => ?_
  refine ev_rs [] rfl trivial ?_
  refine ev_rs [.tup 2 (two (u64 ((hi % y * 18446744073709551616 + lo) / y)) (u64 ((hi % y * 18446744073709551616 + lo) % y)))] rfl ⟨.inl ?_, by simpa using hy0, trivial⟩ ?_
  · exact Div64_spec (hi % y) lo y (Nat.mod_lt _ (by omega)) hlo hy
  refine ev_rs [] rfl trivial ?_
  refine ev_ret (ret1 (fz_p (PLe.of_eq (congrArg u64 ?_))))
  rw [Nat.add_mod, Nat.mod_mul_mod, ← Nat.add_mod]

end Go.Proofs

/- The numbers modulo a word: sums, differences, products, powers. -/
set_option linter.unusedVariables false
namespace Go.Proofs
open Go Vinc

/-- A field: its word, and what it keeps of it. -/
abbrev fld (m back two : Nat) : PV := .ptr 3 (three (u64 m) (u64 back) (u64 two)) 0

/-- A word that may be a modulus. -/
def MayM (m : Nat) : Prop := 2 ≤ m ∧ m < 9223372036854775808

theorem add_ge {x y m : Nat} (hm : 0 < m) (h : m ≤ x % m + y % m) : x % m + y % m - m = (x + y) % m := by
  have hx : x % m < m := Nat.mod_lt _ hm
  have hy : y % m < m := Nat.mod_lt _ hm
  rw [Nat.add_mod x y m]
  generalize x % m = a at *
  generalize y % m = b at *
  rw [Nat.mod_eq_sub_mod h, Nat.mod_eq_of_lt (by omega)]

theorem add_lt' {x y m : Nat} (h : x % m + y % m < m) : x % m + y % m = (x + y) % m := by
  rw [Nat.add_mod x y m, Nat.mod_eq_of_lt h]

/-- The difference modulo a number. -/
def subM (x y m : Nat) : Nat := (x % m + m - y % m) % m

theorem sub_lt' {x y m : Nat} (hm : 0 < m) (h : x % m < y % m) : x % m + m - y % m = subM x y m := by
  unfold subM
  rw [Nat.mod_eq_of_lt (by omega : x % m + m - y % m < m)]

theorem sub_ge {x y m : Nat} (hm : 0 < m) (h : y % m ≤ x % m) : x % m - y % m = subM x y m := by
  have hx : x % m < m := Nat.mod_lt _ hm
  unfold subM
  generalize x % m = a at *
  generalize y % m = b at *
  rw [show a + m - b = (a - b) + m by omega, Nat.add_mod_right, Nat.mod_eq_of_lt (by omega)]

section
variable {m b t : Nat}

theorem Of_nil (x : Nat) : CallSpec Tryd.pr.P Tryd.pr.G 21 [nilP, u64 x] (u64 0) := by
  refine callSpec_of Tryd.pr Tryd.func21 rfl rfl rfl fun w0 ok0 hok hG => ?_
  refine ev_rs [] rfl trivial ?_
  refine ev_seq (ev_rs [] rfl trivial (ev_ct rfl ?_))
  exact ev_rs [] rfl trivial (ev_ret (ret1 (fz_p (PLe.refl _))))

theorem Of_spec (hm : MayM m) (x : Nat) : CallSpec Tryd.pr.P Tryd.pr.G 21 [fld m b t, u64 x] (u64 (x % m)) := by
  have hm0 : m ≠ 0 := by have := hm.1; omega
  refine callSpec_of Tryd.pr Tryd.func21 rfl rfl rfl fun w0 ok0 hok hG => ?_
  refine ev_rs [] rfl trivial ?_
  refine ev_seq (ev_rs [] rfl trivial (ev_cf rfl (ev_sk ?_)))
  refine ev_rs [] rfl ⟨by simpa using hm0, by decide, trivial⟩ ?_
  exact ev_ret (ret1 (fz_p (PLe.refl _)))

theorem Add_nil (x y : Nat) : CallSpec Tryd.pr.P Tryd.pr.G 35 [nilP, u64 x, u64 y] (u64 0) := by
  refine callSpec_of Tryd.pr Tryd.func35 rfl rfl rfl fun w0 ok0 hok hG => ?_
  refine ev_rs [] rfl trivial ?_
  refine ev_seq (ev_rs [] rfl trivial (ev_ct rfl ?_))
  exact ev_rs [] rfl trivial (ev_ret (ret1 (fz_p (PLe.refl _))))

theorem Add_spec (hm : MayM m) (x y : Nat) : CallSpec Tryd.pr.P Tryd.pr.G 35 [fld m b t, u64 x, u64 y] (u64 ((x + y) % m)) := by
  have hm0 : m ≠ 0 := by have := hm.1; omega
  have hm2 := hm.2
  have hx : x % m < m := Nat.mod_lt _ (by omega)
  have hy : y % m < m := Nat.mod_lt _ (by omega)
  have e := Nat.add_mod x y m
  refine callSpec_of Tryd.pr Tryd.func35 rfl rfl rfl fun w0 ok0 hok hG => ?_
  refine ev_rs [] rfl trivial ?_
  refine ev_seq (ev_rs [] rfl trivial (ev_cf rfl (ev_sk ?_)))
  refine ev_ds [] (by kernel_rfl) rfl rfl ⟨by simpa using hm0, by decide, by simpa using hm0, by decide, trivial⟩ (ev_n 7 (x % m + y % m) rfl ((wrapAdd _ _).trans (by rw [Nat.mod_eq_of_lt (by omega)])) ?_)
  refine ev_at (α := Unit) (fun _ => True) (fun _ => [(7, .p (u64 ((x + y) % m)))]) (fun _ => []) ?_ ?_
  · refine ev_rs [] rfl ⟨by decide, trivial⟩ (ev_cond rfl (fun h => ?_) (fun h => ?_))
    · have h' := of_decide_eq_true h
      refine ev_region [] rfl ⟨by decide, trivial⟩ (at0 () trivial ⟨le_e (congrArg (fun z => PV.val (.int .u64 z)) ?_), trivial⟩)
      show IntKind.wrap .u64 (((x % m + y % m : Nat) : Int) - (m : Int)) = _
      rw [wrapSub _ _ (by omega) (by omega)]
      exact toN (add_ge (by omega) (by omega))
    · have h' := of_decide_eq_false h
      refine ev_skip (at0 () trivial ⟨le_e (congrArg u64 ?_), trivial⟩)
      exact add_lt' (by omega)
  · rintro ⟨⟩ -
    refine ev_rs [] rfl trivial ?_
    exact ev_ret (ret1 (fz_p (PLe.refl _)))

theorem Sub_nil (x y : Nat) : CallSpec Tryd.pr.P Tryd.pr.G 26 [nilP, u64 x, u64 y] (u64 0) := by
  refine callSpec_of Tryd.pr Tryd.func26 rfl rfl rfl fun w0 ok0 hok hG => ?_
  refine ev_rs [] rfl trivial ?_
  refine ev_seq (ev_rs [] rfl trivial (ev_ct rfl ?_))
  exact ev_rs [] rfl trivial (ev_ret (ret1 (fz_p (PLe.refl _))))

theorem Sub_spec (hm : MayM m) (x y : Nat) : CallSpec Tryd.pr.P Tryd.pr.G 26 [fld m b t, u64 x, u64 y] (u64 (subM x y m)) := by
  have hm0 : m ≠ 0 := by have := hm.1; omega
  have hm2 := hm.2
  have hx : x % m < m := Nat.mod_lt _ (by omega)
  have hy : y % m < m := Nat.mod_lt _ (by omega)
  refine callSpec_of Tryd.pr Tryd.func26 rfl rfl rfl fun w0 ok0 hok hG => ?_
  refine ev_rs [] rfl trivial ?_
  refine ev_seq (ev_rs [] rfl trivial (ev_cf rfl (ev_sk ?_)))
  refine ev_ds [] (by kernel_rfl) rfl rfl ⟨by simpa using hm0, by decide, by simpa using hm0, by decide, trivial⟩ ?_
  refine ev_at (α := Nat) (fun z => y % m ≤ z ∧ z < 18446744073709551616 ∧ z - y % m = subM x y m) (fun z => [(1, .p (u64 z)), (2, .p (u64 (y % m)))]) (fun _ => []) ?_ ?_
  · refine ev_rs [] rfl trivial (ev_cond rfl (fun h => ?_) (fun h => ?_))
    · have h' := of_decide_eq_true h
      have h'' : x % m < y % m := Int.ofNat_lt.mp h'
      refine ev_region [] rfl ⟨by decide, trivial⟩ (at0 (x % m + m) ⟨by omega, by omega, ?_⟩ ⟨le_e (congrArg (fun z => PV.val (.int .u64 z)) ?_), le_0, trivial⟩)
      · exact sub_lt' (by omega) h''
      · show IntKind.wrap .u64 (((x % m : Nat) : Int) + (m : Int)) = _
        rw [wrapAdd, Nat.mod_eq_of_lt (by omega)]
    · have h' := of_decide_eq_false h
      have h'' : ¬ x % m < y % m := fun h => h' (Int.ofNat_lt.mpr h)
      refine ev_skip (at0 (x % m) ⟨by omega, by omega, sub_ge (by omega) (by omega)⟩ ⟨le_0, le_0, trivial⟩)
  · rintro z ⟨h1, h2, h3⟩
    refine ev_rs [] rfl trivial (ev_n 6 (z - y % m) rfl (wrapSub _ _ h1 h2) ?_)
    exact ev_ret (ret1 (fz_p (PLe.of_eq (congrArg u64 h3))))

theorem Mul_nil (x y : Nat) : CallSpec Tryd.pr.P Tryd.pr.G 24 [nilP, u64 x, u64 y] (u64 0) := by
  refine callSpec_of Tryd.pr Tryd.func24 rfl rfl rfl fun w0 ok0 hok hG => ?_
  refine ev_rs [] rfl trivial ?_
  refine ev_seq (ev_rs [] rfl trivial (ev_ct rfl ?_))
  exact ev_rs [] rfl trivial (ev_ret (ret1 (fz_p (PLe.refl _))))

theorem Mul_spec (hm : MayM m) (x y : Nat) : CallSpec Tryd.pr.P Tryd.pr.G 24 [fld m b t, u64 x, u64 y] (u64 (x * y % m)) := by
  have hm0 : m ≠ 0 := by have := hm.1; omega
  have hm2 := hm.2
  have hx : x % m < m := Nat.mod_lt _ (by omega)
  have hy : y % m < m := Nat.mod_lt _ (by omega)
  refine callSpec_of Tryd.pr Tryd.func24 rfl rfl rfl fun w0 ok0 hok hG => ?_
  refine ev_rs [] rfl trivial ?_
  refine ev_seq (ev_rs [] rfl trivial (ev_cf rfl (ev_sk ?_)))
  refine ev_ds [.tup 2 (two (u64 (x % m * (y % m) / 18446744073709551616)) (u64 (x % m * (y % m) % 18446744073709551616)))] (by kernel_rfl) rfl rfl
    ⟨.inl (Mul64_spec _ _ (by omega) (by omega)), by simpa using hm0, by decide, by simpa using hm0, by decide, trivial⟩ ?_
  have hlo : x % m * (y % m) % 18446744073709551616 < 18446744073709551616 := Nat.mod_lt _ (by decide)
  refine ev_rs [u64 (x * y % m)] rfl ⟨.inl ?_, by decide, trivial⟩ ?_
  · have h := Rem64_spec (x % m * (y % m) / 18446744073709551616) (x % m * (y % m) % 18446744073709551616) m hm0 hlo (by omega)
    rw [Nat.mul_comm (_ / _), Nat.div_add_mod, ← Nat.mul_mod] at h
    exact h
  exact ev_ret (ret1 (fz_p (PLe.refl _)))

end
end Go.Proofs

/- The document's answers of chapter 3, and powers. -/
set_option linter.unusedVariables false
namespace Go.Proofs
open Go Vinc

theorem RefAdd_spec {m : Nat} (hm : MayM m) (x y : Nat) : CallSpec Tryd.pr.P Tryd.pr.G 40 [u64 x, u64 y, u64 m] (u64 ((x + y) % m)) := by
  have hm0 : m ≠ 0 := by have := hm.1; omega
  have hm2 := hm.2
  have hx : x % m < m := Nat.mod_lt _ (by omega)
  have hy : y % m < m := Nat.mod_lt _ (by omega)
  refine callSpec_of Tryd.pr Tryd.func40 rfl rfl rfl fun w0 ok0 hok hG => ?_
  refine ev_rs [] rfl trivial ?_
  refine ev_ds [] (by kernel_rfl) rfl rfl ⟨by simpa using hm0, by simpa using hm0, by simpa using hm0, trivial⟩ ?_
  refine ev_ret (ret1 (fz_p (PLe.of_eq (congrArg (fun z => PV.val (.int .u64 z)) ?_))))
  show Int.tmod (IntKind.wrap .u64 (((x % m : Nat) : Int) + ((y % m : Nat) : Int))) (m : Int) = _
  rw [wrapAdd, Nat.mod_eq_of_lt (by omega : x % m + y % m < _), tmodN, ← Nat.add_mod]

theorem RefSub_spec {m : Nat} (hm : MayM m) (x y : Nat) : CallSpec Tryd.pr.P Tryd.pr.G 29 [u64 x, u64 y, u64 m] (u64 (subM x y m)) := by
  have hm0 : m ≠ 0 := by have := hm.1; omega
  have hm2 := hm.2
  have hx : x % m < m := Nat.mod_lt _ (by omega)
  have hy : y % m < m := Nat.mod_lt _ (by omega)
  refine callSpec_of Tryd.pr Tryd.func29 rfl rfl rfl fun w0 ok0 hok hG => ?_
  refine ev_rs [] rfl trivial ?_
  refine ev_ds [] (by kernel_rfl) rfl rfl ⟨by simpa using hm0, by simpa using hm0, by simpa using hm0, trivial⟩ ?_
  refine ev_ret (ret1 (fz_p (PLe.of_eq (congrArg (fun z => PV.val (.int .u64 z)) ?_))))
  show Int.tmod (IntKind.wrap .u64 (IntKind.wrap .u64 (((x % m : Nat) : Int) + (m : Int)) - ((y % m : Nat) : Int))) (m : Int) = _
  rw [wrapAdd, Nat.mod_eq_of_lt (by omega : x % m + m < _), wrapSub _ _ (by omega) (by omega), tmodN]
  rfl

/-- One step of a product by doubling. -/
theorem mul_step (o x y m t : Nat) (h : (o + x * y) % m = t) : ((if y % 2 = 1 then (o + x) % m else o) + (x + x) % m * (y / 2)) % m = t := by
  have hy := Nat.div_add_mod y 2
  have h0 : ((x + x) % m * (y / 2)) % m = ((x + x) * (y / 2)) % m := Nat.mod_mul_mod _ _ _
  split
  · rename_i h1
    have e : o + x * y = (o + x) + (x + x) * (y / 2) := by
      rw [h1] at hy
      generalize y / 2 = k at hy ⊢
      rw [← hy]
      grind
    rw [← h, e, Nat.add_mod, h0, Nat.mod_mod, ← Nat.add_mod]
  · rename_i h1
    have e : o + x * y = o + (x + x) * (y / 2) := by
      have h2 : y % 2 = 0 := by omega
      rw [h2] at hy
      generalize y / 2 = k at hy ⊢
      rw [← hy]
      grind
    rw [← h, e, Nat.add_mod, h0, ← Nat.add_mod]

theorem RefMul_spec {m : Nat} (hm : MayM m) (x y : Nat) (hy : y < 18446744073709551616) : CallSpec Tryd.pr.P Tryd.pr.G 31 [u64 x, u64 y, u64 m] (u64 (x * y % m)) := by
  have hm0 : m ≠ 0 := by have := hm.1; omega
  have hm2 := hm.2
  have hmp : 0 < m := by omega
  refine callSpec_of Tryd.pr Tryd.func31 rfl rfl rfl fun w0 ok0 hok hG => ?_
  refine ev_rs [] rfl trivial ?_
  refine ev_rs [] rfl trivial ?_
  refine ev_rs [] rfl ⟨by simpa using hm0, trivial⟩ ?_
  refine ev_rs [] rfl ⟨by simpa using hm0, trivial⟩ ?_
  refine ev_at (α := Unit) (fun _ => True) (fun _ => [(7, .p (u64 (x * y % m)))]) (fun _ => []) ?_ ?_
  · refine ev_block (ev_while0 (α := Nat × Nat × Nat) (fun p => p.1 < m ∧ (p.1 + p.2.1 * p.2.2) % m = x * y % m ∧ p.2.2 < 18446744073709551616)
      (fun p => [(0, .p (u64 p.2.1)), (1, .p (u64 p.2.2)), (2, .p (u64 m)), (7, .p (u64 p.1))]) (fun p => p.2.2) (0, x % m, y % m)
      ⟨hmp, by rw [Nat.zero_add, ← Nat.mul_mod], Nat.lt_of_le_of_lt (Nat.mod_le _ _) hy⟩ ⟨le_0, le_0, le_0, le_0, trivial⟩ ?_)
    rintro ⟨o, a, k⟩ ⟨h1, h2, h3⟩
    dsimp only at h1 h2 h3
    refine ev_seq (ev_rs [] rfl trivial (ev_cond rfl (fun h => ev_sk ?_) (fun h => ev_exit ?_)))
    · have hk : 0 < k := Int.ofNat_lt.mp (of_decide_eq_true h)
      refine ev_block ?_
      refine ev_at (α := Unit) (fun _ => True) (fun _ => [(0, .p (u64 a)), (1, .p (u64 k)), (2, .p (u64 m)), (7, .p (u64 (if k % 2 = 1 then (o + a) % m else o)))]) (fun _ => []) ?_ ?_
      · refine ev_rs [] rfl ⟨by decide, trivial⟩ (ev_cond rfl (fun h => ?_) (fun h => ?_))
        · have hk1 : k % 2 = 1 := Int.ofNat_inj.mp (beq_iff_eq.mp h)
          refine ev_region [u64 ((o + a) % m)] rfl ⟨.inl (RefAdd_spec hm o a), trivial⟩ (at0 () trivial ⟨le_0, le_0, le_0, le_e (congrArg u64 ?_), trivial⟩)
          rw [if_pos hk1]
        · have hk1 : ¬ k % 2 = 1 := fun e => (beq_eq_false_iff_ne.mp h) (Int.ofNat_inj.mpr e)
          refine ev_skip (at0 () trivial ⟨le_0, le_0, le_0, le_e (congrArg u64 ?_), trivial⟩)
          rw [if_neg hk1]
      rintro ⟨⟩ -
      refine ev_rs [u64 ((a + a) % m)] rfl ⟨.inl (RefAdd_spec hm a a), trivial⟩ ?_
      refine ev_region [] rfl ⟨by decide, trivial⟩ (round0 (if k % 2 = 1 then (o + a) % m else o, (a + a) % m, k / 2) ⟨?_, mul_step _ _ _ _ _ h2, by dsimp only; omega⟩ (by dsimp only; omega)
        ⟨le_0, le_e (congrArg (fun z => PV.val (.int .u64 z)) (tdivN k 2 h3)), le_0, le_0, trivial⟩)
      dsimp only
      split
      · exact Nat.mod_lt _ hmp
      · exact h1
    · have hk : k = 0 := by
        have := of_decide_eq_false h
        dsimp only at this
        omega
      refine at0 () trivial ⟨le_e (congrArg u64 ?_), trivial⟩
      rw [hk, Nat.mul_zero, Nat.add_zero, Nat.mod_eq_of_lt h1] at h2
      exact h2
  rintro ⟨⟩ -
  refine ev_rs [] rfl trivial ?_
  exact ev_ret (ret1 (fz_p (PLe.refl _)))

/-- One step of a power by squaring. -/
theorem pow_step (o x n m t : Nat) (h : (o * x ^ n) % m = t) : ((if n % 2 = 1 then o * x % m else o) * (x * x % m) ^ (n / 2)) % m = t := by
  have hn := Nat.div_add_mod n 2
  have h0 : ∀ a, (a * (x * x % m) ^ (n / 2)) % m = (a * (x * x) ^ (n / 2)) % m := fun a => by
    rw [Nat.mul_mod, Nat.pow_mod (x * x % m), Nat.mod_mod, ← Nat.pow_mod, ← Nat.mul_mod]
  rw [h0]
  have e2 : (x * x) ^ (n / 2) = x ^ (2 * (n / 2)) := by rw [Nat.pow_mul, Nat.pow_two]
  rw [e2]
  split
  · rename_i h1
    rw [Nat.mod_mul_mod, Nat.mul_assoc, ← Nat.pow_succ', ← h]
    congr 3
    omega
  · rw [← h]
    congr 3
    omega

theorem RefPow_spec {m : Nat} (hm : MayM m) (x n : Nat) (hx : x < 18446744073709551616) (hn : n < 18446744073709551616) : CallSpec Tryd.pr.P Tryd.pr.G 41 [u64 x, u64 n, u64 m] (u64 (x ^ n % m)) := by
  have hm0 : m ≠ 0 := by have := hm.1; omega
  have hm2 := hm.2
  have hmp : 0 < m := by omega
  refine callSpec_of Tryd.pr Tryd.func41 rfl rfl rfl fun w0 ok0 hok hG => ?_
  refine ev_rs [] rfl trivial ?_
  refine ev_rs [] rfl ⟨by simpa using hm0, trivial⟩ (ev_n 7 (1 % m) rfl (tmodN 1 m) ?_)
  refine ev_at (α := Unit) (fun _ => True) (fun _ => [(7, .p (u64 (x ^ n % m)))]) (fun _ => []) ?_ ?_
  · refine ev_block (ev_while0 (α := Nat × Nat × Nat) (fun p => p.1 < m ∧ (p.1 * p.2.1 ^ p.2.2) % m = x ^ n % m ∧ p.2.2 < 18446744073709551616 ∧ p.2.1 < 18446744073709551616)
      (fun p => [(0, .p (u64 p.2.1)), (1, .p (u64 p.2.2)), (2, .p (u64 m)), (7, .p (u64 p.1))]) (fun p => p.2.2) (1 % m, x, n)
      ⟨Nat.mod_lt _ hmp, by dsimp only; rw [Nat.mod_mul_mod, Nat.one_mul], hn, hx⟩ ⟨le_0, le_0, le_0, le_0, trivial⟩ ?_)
    rintro ⟨o, a, k⟩ ⟨h1, h2, h3, h4⟩
    dsimp only at h1 h2 h3 h4
    refine ev_seq (ev_rs [] rfl trivial (ev_cond rfl (fun h => ev_sk ?_) (fun h => ev_exit ?_)))
    · have hk : 0 < k := Int.ofNat_lt.mp (of_decide_eq_true h)
      refine ev_block ?_
      refine ev_at (α := Unit) (fun _ => True) (fun _ => [(0, .p (u64 a)), (1, .p (u64 k)), (2, .p (u64 m)), (7, .p (u64 (if k % 2 = 1 then o * a % m else o)))]) (fun _ => []) ?_ ?_
      · refine ev_rs [] rfl ⟨by decide, trivial⟩ (ev_cond rfl (fun h => ?_) (fun h => ?_))
        · have hk1 : k % 2 = 1 := Int.ofNat_inj.mp (beq_iff_eq.mp h)
          refine ev_region [u64 (o * a % m)] rfl ⟨.inl (RefMul_spec hm o a h4), trivial⟩ (at0 () trivial ⟨le_0, le_0, le_0, le_e (congrArg u64 ?_), trivial⟩)
          rw [if_pos hk1]
        · have hk1 : ¬ k % 2 = 1 := fun e => (beq_eq_false_iff_ne.mp h) (Int.ofNat_inj.mpr e)
          refine ev_skip (at0 () trivial ⟨le_0, le_0, le_0, le_e (congrArg u64 ?_), trivial⟩)
          rw [if_neg hk1]
      rintro ⟨⟩ -
      refine ev_rs [u64 (a * a % m)] rfl ⟨.inl (RefMul_spec hm a a h4), trivial⟩ ?_
      refine ev_region [] rfl ⟨by decide, trivial⟩ (round0 (if k % 2 = 1 then o * a % m else o, a * a % m, k / 2) ⟨?_, pow_step _ _ _ _ _ h2, by dsimp only; omega, ?_⟩ (by dsimp only; omega)
        ⟨le_0, le_e (congrArg (fun z => PV.val (.int .u64 z)) (tdivN k 2 h3)), le_0, le_0, trivial⟩)
      · dsimp only
        split
        · exact Nat.mod_lt _ hmp
        · exact h1
      · have := Nat.mod_lt (a * a) hmp
        dsimp only; omega
    · have hk : k = 0 := by
        have := of_decide_eq_false h
        dsimp only at this
        omega
      refine at0 () trivial ⟨le_e (congrArg u64 ?_), trivial⟩
      rw [hk, Nat.pow_zero, Nat.mul_one, Nat.mod_eq_of_lt h1] at h2
      exact h2
  rintro ⟨⟩ -
  refine ev_rs [] rfl trivial ?_
  exact ev_ret (ret1 (fz_p (PLe.refl _)))

/-- What is wrong with a number that is to be inverted. -/
def wrong (x m : Nat) : Nat := if x % m = 0 then 10 else if Nat.gcd (x % m) m = 1 then 0 else 11

/-- May a word be a modulus? -/
def mayB (m : Nat) : Bool := decide (2 ≤ m) && decide (m < 9223372036854775808)

theorem mayB_iff (m : Nat) : mayB m = true ↔ MayM m := by
  unfold mayB MayM
  simp only [Bool.and_eq_true, decide_eq_true_eq]

end Go.Proofs

/- Powers and inverses modulo a word. -/
set_option linter.unusedVariables false
namespace Go.Proofs
open Go Vinc

section
variable {m b t : Nat}

/-- What x times is 1, modulo m; 0 where there is none. -/
noncomputable def minv (m x : Nat) : Nat := open Classical in if h : ∃ y, y < m ∧ x * y % m = 1 then Classical.choose h else 0

theorem minv_unique {m x y z : Nat} (hy : y < m) (hz : z < m) (h1 : x * y % m = 1) (h2 : x * z % m = 1) : y = z := by
  have e1 : y * (x * z) % m = y := by rw [Nat.mul_mod, h2, Nat.mul_one, Nat.mod_mod, Nat.mod_eq_of_lt hy]
  have e2 : z * (x * y) % m = z := by rw [Nat.mul_mod, h1, Nat.mul_one, Nat.mod_mod, Nat.mod_eq_of_lt hz]
  have e3 : y * (x * z) = z * (x * y) := by grind
  exact e1.symm.trans ((congrArg (· % m) e3).trans e2)

theorem minv_eq {m x y : Nat} (hy : y < m) (h : x * y % m = 1) : minv m x = y := by
  have hex : ∃ y, y < m ∧ x * y % m = 1 := ⟨y, hy, h⟩
  unfold minv
  rw [dif_pos hex]
  have := Classical.choose_spec hex
  exact minv_unique this.1 hy this.2 h

theorem gcd_of_inv {m x y : Nat} (h : x * y % m = 1) : Nat.gcd x m = 1 := by
  have h1 : Nat.gcd x m ∣ x * y := Nat.dvd_mul_right_of_dvd (Nat.gcd_dvd_left x m) y
  have h2 : Nat.gcd x m ∣ m := Nat.gcd_dvd_right x m
  have h3 : Nat.gcd x m ∣ x * y % m := (Nat.dvd_mod_iff h2).mpr h1
  rw [h] at h3
  exact Nat.dvd_one.mp h3

theorem minv_none {m x : Nat} (h : Nat.gcd x m ≠ 1) : minv m x = 0 := by
  unfold minv
  rw [dif_neg]
  rintro ⟨y, _, hy⟩
  exact h (gcd_of_inv hy)

theorem gcd_mod (x m : Nat) : Nat.gcd (x % m) m = Nat.gcd x m := by
  rw [← Nat.gcd_rec, Nat.gcd_comm]

theorem wrong_eq (x m : Nat) : wrong x m = if x % m = 0 then 10 else if Nat.gcd x m = 1 then 0 else 11 := by
  unfold wrong
  simp only [gcd_mod]

theorem wrong_gcd {x m : Nat} (hm : MayM m) : wrong x m = 0 ↔ Nat.gcd x m = 1 := by
  rw [wrong_eq]
  split
  · rename_i h
    constructor
    · intro h'; omega
    · intro h'
      have : m ∣ x := Nat.dvd_of_mod_eq_zero h
      rw [Nat.gcd_eq_right this] at h'
      have := hm.1; omega
  · split <;> simp_all

theorem subM_dvd {m : Nat} (hm : 0 < m) (x y : Nat) : (m : Int) ∣ (subM x y m : Int) - (x - y) := by
  have hx := Nat.div_add_mod x m
  have hy := Nat.div_add_mod y m
  have hlt : y % m < m := Nat.mod_lt _ hm
  have hs := Nat.div_add_mod (x % m + m - y % m) m
  unfold subM
  refine ⟨- ((x % m + m - y % m) / m : Nat) + 1 - (x / m : Nat) + (y / m : Nat), ?_⟩
  generalize (x % m + m - y % m) % m = c at *
  have h1 : ((x % m + m - y % m : Nat) : Int) = (x % m : Nat) + (m : Int) - (y % m : Nat) := by omega
  generalize (x % m + m - y % m) / m = d at *
  generalize x % m + m - y % m = e at *
  generalize x % m = xr at *
  generalize y % m = yr at *
  generalize x / m = xq at *
  generalize y / m = yq at *
  subst hx hy hs
  push_cast at h1 ⊢
  grind

theorem modeq_of_dvd {m a b : Nat} (h : (m : Int) ∣ (a : Int) - b) : a % m = b % m := by
  have := Int.emod_emod_of_dvd
  have h' := Int.emod_eq_emod_iff_emod_sub_eq_zero.mpr (Int.emod_eq_zero_of_dvd h)
  exact_mod_cast h'

theorem inv_step {m x r s a b' q : Nat} (hm : 0 < m) (h1 : (m : Int) ∣ (a : Int) * x - r) (h2 : (m : Int) ∣ (b' : Int) * x - s) (hq : q * s ≤ r) :
    (m : Int) ∣ (subM a (q * b' % m) m : Int) * x - ((r - q * s : Nat) : Int) := by
  obtain ⟨k1, h1⟩ := h1
  obtain ⟨k2, h2⟩ := h2
  obtain ⟨k3, h3⟩ := subM_dvd hm a (q * b' % m)
  have h4 := Nat.div_add_mod (q * b') m
  refine ⟨k3 * x + k1 - q * k2 + x * (q * b' / m : Nat), ?_⟩
  generalize subM a (q * b' % m) m = c at *
  generalize q * b' % m = d at *
  generalize q * b' / m = e at *
  have h5 : ((r - q * s : Nat) : Int) = r - q * s := by
    rw [Int.natCast_sub hq]; push_cast; rfl
  have h6 : (m : Int) * e + d = q * b' := by exact_mod_cast h4
  rw [h5]
  grind

theorem Inv_nil (x : Nat) : CallSpec Tryd.pr.P Tryd.pr.G 23 [nilP, u64 x] (.tup 2 (two (u64 0) (i64 2))) := by
  refine callSpec_of Tryd.pr Tryd.func23 rfl rfl rfl fun w0 ok0 hok hG => ?_
  refine ev_rs [] rfl trivial ?_
  refine ev_seq (ev_rs [] rfl trivial (ev_ct rfl ?_))
  exact ev_rs [] rfl trivial (ev_ret (ret2 (fz_p (PLe.refl _)) (fz_p (PLe.refl _))))

theorem Inv_spec (hm : MayM m) (x : Nat) : CallSpec Tryd.pr.P Tryd.pr.G 23 [fld m b t, u64 x] (.tup 2 (two (u64 (minv m x)) (i64 (wrong x m)))) := by
  have hm0 : m ≠ 0 := by have := hm.1; omega
  have hmp : 0 < m := by omega
  have hm2 := hm.2
  have hlt : x % m < m := Nat.mod_lt _ hmp
  refine callSpec_of Tryd.pr Tryd.func23 rfl rfl rfl fun w0 ok0 hok hG => ?_
  refine ev_rs [] rfl trivial ?_
  refine ev_seq (ev_rs [] rfl trivial (ev_cf rfl (ev_sk ?_)))
  refine ev_rs [] rfl ⟨by simpa using hm0, by decide, trivial⟩ ?_
  refine ev_seq (ev_rs [] rfl trivial (ev_cond rfl (fun h => ?_) (fun h => ev_sk ?_)))
  · have h' : x % m = 0 := Int.ofNat_inj.mp (beq_iff_eq.mp h)
    refine ev_rs [] rfl trivial (ev_ret (ret2 (fz_p (PLe.of_eq (congrArg u64 ?_))) (fz_p (PLe.of_eq (congrArg i64 ?_)))))
    · symm
      apply minv_none
      rw [← gcd_mod, h', Nat.gcd_zero_left]
      have := hm.1; omega
    · unfold wrong; rw [if_pos h']; rfl
  have h0 : ¬ x % m = 0 := fun e => (beq_eq_false_iff_ne.mp h) (Int.ofNat_inj.mpr e)
  refine ev_rs [] rfl ⟨by decide, trivial⟩ ?_
  refine ev_rs [] rfl trivial ?_
  refine ev_at (α := Nat × Nat) (fun p => p.1 = Nat.gcd x m ∧ p.2 < m ∧ (m : Int) ∣ (p.2 : Int) * x - p.1) (fun p => [(6, .p (u64 p.1)), (8, .p (u64 p.2))]) (fun _ => []) ?_ ?_
  · refine ev_block (ev_while0 (α := Nat × Nat × Nat × Nat) (fun p => (p.1 ≤ m ∧ p.2.1 < m) ∧ Nat.gcd p.1 p.2.1 = Nat.gcd x m ∧ (p.2.2.1 < m ∧ p.2.2.2 < m) ∧ (m : Int) ∣ (p.2.2.1 : Int) * x - p.1 ∧ (m : Int) ∣ (p.2.2.2 : Int) * x - p.2.1)
      (fun p => [(0, .p (fld m b t)), (6, .p (u64 p.1)), (7, .p (u64 p.2.1)), (8, .p (u64 p.2.2.1)), (9, .p (u64 p.2.2.2))]) (fun p => p.2.1) (m, x % m, 0, 1)
      ⟨⟨Nat.le_refl _, hlt⟩, by dsimp only; rw [Nat.gcd_comm, gcd_mod], ⟨hmp, hm.1⟩, ⟨-1, by dsimp only; omega⟩, ⟨(x / m : Nat), ?_⟩⟩ ⟨le_0, le_0, le_0, le_0, le_0, trivial⟩ ?_)
    · have := Nat.div_add_mod x m
      dsimp only
      have h' : (m : Int) * (x / m : Nat) + (x % m : Nat) = x := by exact_mod_cast this
      omega
    rintro ⟨r, s, a, k⟩ ⟨⟨h1, h2⟩, h3, ⟨h4, h5⟩, h6, h7⟩
    dsimp only at h1 h2 h3 h4 h5 h6 h7
    refine ev_seq (ev_rs [] rfl trivial (ev_cond rfl (fun h => ev_sk ?_) (fun h => ev_exit ?_)))
    · have hk : 0 < s := Int.ofNat_lt.mp (of_decide_eq_true h)
      have hk0 : s ≠ 0 := by omega
      have hds : r / s * s ≤ r := Nat.div_mul_le_self r s
      have hdm : r - r / s * s = r % s := by
        have := Nat.div_add_mod r s
        rw [Nat.mul_comm] at this
        omega
      have hrs : r % s < s := Nat.mod_lt _ hk
      refine ev_block ?_
      refine ev_rs [] rfl ⟨by simpa using hk0, trivial⟩ (ev_n 10 (r / s) rfl (tdivN _ _ (by omega)) ?_)
      refine ev_rs [] rfl trivial (ev_n 7 (r % s) rfl ?_ ?_)
      · dsimp only
        rw [wrapMul, Nat.mod_eq_of_lt (by omega), wrapSub _ _ hds (by omega), hdm]
      refine ev_region [u64 (r / s * k % m), u64 (subM a (r / s * k % m) m)] rfl ⟨.inl (Sub_spec hm _ _), .inl (Mul_spec hm _ _), trivial⟩
        (round0 (s, r % s, k, subM a (r / s * k % m) m) ⟨⟨by dsimp only; omega, by dsimp only; omega⟩, ?_, ⟨h5, ?_⟩, h7, ?_⟩ hrs ⟨le_0, le_0, le_0, le_0, le_0, trivial⟩)
      · dsimp only
        rw [← h3, Nat.gcd_comm s, ← Nat.gcd_rec, Nat.gcd_comm]
      · exact Nat.mod_lt _ hmp
      · dsimp only
        rw [← hdm]
        exact inv_step hmp h6 h7 hds
    · have hk : s = 0 := by
        have := of_decide_eq_false h
        dsimp only at this
        omega
      refine at0 (r, a) ⟨?_, h4, h6⟩ ⟨le_0, le_0, trivial⟩
      rw [hk, Nat.gcd_zero_right] at h3
      exact h3
  rintro ⟨r, a⟩ ⟨h1, h2, h3⟩
  dsimp only at h1 h2 h3
  refine ev_seq (ev_rs [] rfl trivial (ev_cond rfl (fun h => ?_) (fun h => ev_sk ?_)))
  · have hr : ¬ r = 1 := fun e => (bne_iff_ne.mp h) (Int.ofNat_inj.mpr e)
    refine ev_rs [] rfl trivial (ev_ret (ret2 (fz_p (PLe.of_eq (congrArg u64 ?_))) (fz_p (PLe.of_eq (congrArg i64 ?_)))))
    · exact (minv_none (h1 ▸ hr)).symm
    · rw [wrong_eq, if_neg h0, if_neg (h1 ▸ hr)]; rfl
  · have hr : r = 1 := Int.ofNat_inj.mp (bne_eq_false_iff_eq.mp h)
    refine ev_rs [] rfl trivial (ev_ret (ret2 (fz_p (PLe.of_eq (congrArg u64 ?_))) (fz_p (PLe.of_eq (congrArg i64 ?_)))))
    · symm
      apply minv_eq h2
      have := modeq_of_dvd (a := a * x) (b := 1) (by rw [hr] at h3; exact_mod_cast h3)
      rw [Nat.mul_comm, this]
      exact Nat.mod_eq_of_lt hm.1
    · rw [wrong_eq, if_neg h0, if_pos (h1 ▸ hr)]; rfl

end
end Go.Proofs

/- Montgomery's forms; a new field. -/
set_option linter.unusedVariables false
namespace Go.Proofs
open Go Vinc

/-- What a field keeps: what m times is -1 modulo 2 to the 64th; the form of the form of 1. -/
noncomputable def bk (m : Nat) : Nat := if m % 2 = 1 then 18446744073709551616 - minv 18446744073709551616 m else 0
def tw (m : Nat) : Nat := if m % 2 = 1 then 18446744073709551616 * 18446744073709551616 % m else 0

/-- A field that New has made. -/
noncomputable abbrev newF (m : Nat) : PV := fld m (bk m) (tw m)

/-- A number divided by 2 to the 64th, modulo m. -/
noncomputable def redc (m z : Nat) : Nat := z * minv m 18446744073709551616 % m

theorem odd_gcd {m : Nat} (h : m % 2 = 1) : Nat.gcd 18446744073709551616 m = 1 := by
  have : (18446744073709551616 : Nat) = 2 ^ 64 := rfl
  rw [this]
  apply Nat.Coprime.pow_left
  show Nat.gcd 2 m = 1
  rw [Nat.gcd_rec, h]
  rfl

/-- The inverse is one, where there is one. -/
theorem minv_spec {m x : Nat} (hm : 2 ≤ m) (h : Nat.gcd x m = 1) : minv m x < m ∧ x * minv m x % m = 1 := by
  have hex : ∃ y, y < m ∧ x * y % m = 1 := by
    have hb : (m : Int) ∣ (x : Int) * (Int.bmod 0 1) - 0 := ⟨0, by simp⟩
    obtain ⟨u, hu⟩ : ∃ u : Nat, x * u % m = 1 % m := by
      have key : ∀ n r s a b : Nat, s = n → Nat.gcd r s = 1 → (m : Int) ∣ (a : Int) * x - r → (m : Int) ∣ (b : Int) * x - s → ∃ u : Nat, x * u % m = 1 % m := by
        intro n
        induction n using Nat.strongRecOn with
        | ind n ih =>
          intro r s a b hs hg h1 h2
          by_cases h0 : s = 0
          · rw [h0, Nat.gcd_zero_right] at hg
            refine ⟨a, ?_⟩
            rw [hg] at h1
            have := modeq_of_dvd (a := a * x) (b := 1) (by exact_mod_cast h1)
            rw [Nat.mul_comm]; exact this
          · have hlt : r % s < s := Nat.mod_lt _ (by omega)
            have hd : r - r / s * s = r % s := by
              have := Nat.div_add_mod r s
              rw [Nat.mul_comm] at this
              omega
            refine ih (r % s) (by omega) s (r % s) b (subM a (r / s * b % m) m) rfl ?_ h2 ?_
            · rw [← hg, Nat.gcd_comm s, ← Nat.gcd_rec, Nat.gcd_comm]
            · rw [← hd]; exact inv_step (by omega) h1 h2 (Nat.div_mul_le_self r s)
      exact key x m x 0 1 rfl (by rw [Nat.gcd_comm]; exact h) ⟨-1, by simp⟩ ⟨0, by simp⟩
    refine ⟨u % m, Nat.mod_lt _ (by omega), ?_⟩
    rw [Nat.mul_mod, Nat.mod_mod, ← Nat.mul_mod, hu]
    exact Nat.mod_eq_of_lt (by omega)
  unfold minv
  rw [dif_pos hex]
  exact Classical.choose_spec hex

theorem redc_eq {m z s : Nat} (hm : 2 ≤ m) (ho : m % 2 = 1) (h : s * 18446744073709551616 % m = z % m) : s % m = redc m z := by
  obtain ⟨h1, h2⟩ := minv_spec hm (odd_gcd ho)
  unfold redc
  rw [Nat.mul_mod, ← h, ← Nat.mul_mod, Nat.mul_assoc, Nat.mul_mod, h2, Nat.mul_one, Nat.mod_mod]

section
variable {m b t : Nat}

theorem carry_aux (low l : Nat) (hl : low < 18446744073709551616) (hl' : l < 18446744073709551616) (h : (low + l) % 18446744073709551616 = 0) : (low + l) / 18446744073709551616 * 18446744073709551616 = low + l ∧ (low + l) / 18446744073709551616 ≤ 1 := by omega

theorem sum_lt {high low um m : Nat} (hh : high < m) (hl : low < 18446744073709551616) (h : um ≤ 18446744073709551615 * m) : high * 18446744073709551616 + low + um < 2 * m * 18446744073709551616 := by omega

theorem swap4 (a d w l : Nat) : a + d + (w + l) = a + w + (d + l) := by omega

theorem sum_eq {high h k l low um : Nat} (h1 : k * 18446744073709551616 = low + l) (h2 : 18446744073709551616 * h + l = um) : (high + h + k) * 18446744073709551616 = high * 18446744073709551616 + low + um := by
  rw [Nat.add_mul, Nat.add_mul, h1, ← h2, Nat.mul_comm _ h]
  exact swap4 _ _ _ _

/-- The quotient that a reduction makes. -/
theorem reduce_eq {high low : Nat} (hm : MayM m) (hb : (m * b + 1) % 18446744073709551616 = 0) (hh : high < m) (hl : low < 18446744073709551616) :
    let u := low * b % 18446744073709551616
    let h := u * m / 18446744073709551616
    let l := u * m % 18446744073709551616
    let k := (low + l) / 18446744073709551616
    k ≤ 1 ∧ high + h + k < 2 * m ∧ (high + h + k) * 18446744073709551616 = high * 18446744073709551616 + low + u * m := by
  intro u h l k
  have hu : u < 18446744073709551616 := Nat.mod_lt _ (by decide)
  have hul := Nat.div_add_mod (u * m) 18446744073709551616
  have hll : l < 18446744073709551616 := Nat.mod_lt _ (by decide)
  have hz : (low + l) % 18446744073709551616 = 0 := by
    have e1 : (low + u * m) % 18446744073709551616 = 0 := by
      show (low + low * b % 18446744073709551616 * m) % 18446744073709551616 = 0
      rw [Nat.add_mod, Nat.mod_mul_mod, ← Nat.add_mod, show low + low * b * m = low * (m * b + 1) by grind, Nat.mul_mod, hb, Nat.mul_zero, Nat.zero_mod]
    show (low + u * m % 18446744073709551616) % 18446744073709551616 = 0
    rw [Nat.add_mod, Nat.mod_mod, ← Nat.add_mod, e1]
  obtain ⟨hk1, hk2⟩ := carry_aux low l hl hll hz
  have hum : u * m ≤ 18446744073709551615 * m := Nat.mul_le_mul_right _ (by omega)
  have hs : (high + h + k) * 18446744073709551616 = high * 18446744073709551616 + low + u * m := sum_eq hk1 hul
  refine ⟨hk2, ?_, hs⟩
  exact Nat.lt_of_mul_lt_mul_right (Nat.lt_of_le_of_lt (Nat.le_of_eq hs) (sum_lt hh hl hum))

end
end Go.Proofs

/- A new field; Montgomery's forms; the inverses of many. -/
set_option linter.unusedVariables false
namespace Go.Proofs
open Go Vinc

section
variable {m b t : Nat}

/-! ### a new field -/

theorem New_bad (h : ¬ MayM m) : CallSpec Tryd.pr.P Tryd.pr.G 34 [u64 m] (.tup 2 (two nilP (i64 1))) := by
  refine callSpec_of Tryd.pr Tryd.func34 rfl rfl rfl fun w0 ok0 hok hG => ?_
  refine ev_rs [] rfl trivial ?_
  refine ev_seq (ev_rs [] rfl ⟨⟨fun _ => rfl, gd_f⟩, by simp⟩ (ev_ct ?_ ?_))
  · refine congrArg (fun b => AV.p (.val (.bool b))) (a₁ := bif decide ((m : Int) < 2) then true else decide ((m : Int) ≥ 9223372036854775808)) (a₂ := true) ?_
    by_cases h1 : m < 2
    · rw [decide_eq_true (by omega : (m : Int) < 2)]; rfl
    · rw [decide_eq_false (by omega : ¬ (m : Int) < 2)]
      exact decide_eq_true (by have : ¬ m < 9223372036854775808 := fun e => h ⟨by omega, e⟩
                               omega)
  exact ev_rs [] rfl trivial (ev_ret (ret2 (fz_p (PLe.refl _)) (fz_p (PLe.refl _))))

/-- A step of an inverse modulo W. -/
theorem newton_step {W m i E F c g : Nat} (hW : 0 < W) (hEF : E * E = F * c) (hF : F * g = W) (h : (E : Int) ∣ (m : Int) * i - 1) :
    (F : Int) ∣ (m : Int) * ((i * ((2 + (W - m * i % W)) % W) % W : Nat) : Int) - 1 := by
  obtain ⟨k, hk⟩ := h
  have hlt : m * i % W < W := Nat.mod_lt _ hW
  have h1 := Nat.div_add_mod (m * i) W
  generalize m * i % W = r at h1 hlt ⊢
  generalize m * i / W = q1 at h1 ⊢
  have h2 := Nat.div_add_mod (2 + (W - r)) W
  have e2 : ((2 + (W - r) : Nat) : Int) = 2 + W - r := by omega
  generalize 2 + (W - r) = z at h2 e2 ⊢
  generalize z % W = A at h2 ⊢
  generalize z / W = q2 at h2 ⊢
  have h3 := Nat.div_add_mod (i * A) W
  generalize i * A % W = I at h3 ⊢
  generalize i * A / W = q3 at h3 ⊢
  have h1' : (r : Int) = m * i - W * q1 := by
    have : (W : Int) * q1 + r = m * i := by exact_mod_cast h1
    omega
  have h2' : (A : Int) = z - W * q2 := by
    have : (W : Int) * q2 + A = z := by exact_mod_cast h2
    omega
  have h3' : (I : Int) = i * A - W * q3 := by
    have : (W : Int) * q3 + I = i * A := by exact_mod_cast h3
    omega
  have hEF' : (E : Int) * E = F * c := by exact_mod_cast hEF
  have hF' : (W : Int) = F * g := by exact_mod_cast hF.symm
  have e4 : (m : Int) * I - 1 = -(E * k) * (E * k) + W * (m * i * (1 + q1 - q2) - m * q3) := by
    rw [h3', h2', e2, h1', ← hk]
    grind
  have e5 : (E * k) * (E * k) = F * (c * k * k) := by
    rw [show (E * k) * (E * k) = (E * E) * (k * k) by grind, hEF']
    grind
  refine ⟨- (c * k * k) + g * (m * i * (1 + q1 - q2) - m * q3), ?_⟩
  rw [e4, Int.neg_mul, e5, hF']
  grind

theorem odd_sq {m : Nat} (h : m % 2 = 1) : (8 : Int) ∣ (m : Int) * m - 1 := by
  obtain ⟨j, rfl⟩ : ∃ j, m = 2 * j + 1 := ⟨m / 2, by omega⟩
  have h2 : j % 2 = 0 ∨ j % 2 = 1 := by omega
  rcases h2 with h2 | h2
  · obtain ⟨k, rfl⟩ : ∃ k, j = 2 * k := ⟨j / 2, by omega⟩
    exact ⟨k * (2 * k + 1), by push_cast; grind⟩
  · obtain ⟨k, rfl⟩ : ∃ k, j = 2 * k + 1 := ⟨j / 2, by omega⟩
    exact ⟨(2 * k + 1) * (k + 1), by push_cast; grind⟩

/-- How many places are right behind k steps. -/
def exq : Nat → Nat
  | 0 => 3
  | 1 => 6
  | 2 => 12
  | 3 => 24
  | 4 => 48
  | _ => 64

theorem exq_step {k i : Nat} (hk : k < 5) (h : ((2 ^ exq k : Nat) : Int) ∣ (m : Int) * i - 1) :
    ((2 ^ exq (k + 1) : Nat) : Int) ∣ (m : Int) * ((i * ((2 + (18446744073709551616 - m * i % 18446744073709551616)) % 18446744073709551616) % 18446744073709551616 : Nat) : Int) - 1 := by
  match k, hk with
  | 0, _ => exact newton_step (c := 1) (g := 2 ^ 58) (by decide) (by decide) (by decide) h
  | 1, _ => exact newton_step (c := 1) (g := 2 ^ 52) (by decide) (by decide) (by decide) h
  | 2, _ => exact newton_step (c := 1) (g := 2 ^ 40) (by decide) (by decide) (by decide) h
  | 3, _ => exact newton_step (c := 1) (g := 2 ^ 16) (by decide) (by decide) (by decide) h
  | 4, _ => exact newton_step (c := 2 ^ 32) (g := 1) (by decide) (by decide) (by decide) h

theorem minv64 {i : Nat} (hi : i < 18446744073709551616) (h : ((18446744073709551616 : Nat) : Int) ∣ (m : Int) * i - 1) : minv 18446744073709551616 m = i := by
  apply minv_eq hi
  have := modeq_of_dvd (a := m * i) (b := 1) (by exact_mod_cast h)
  rw [this]

theorem back_ok {i : Nat} (hi : i < 18446744073709551616) (h : ((18446744073709551616 : Nat) : Int) ∣ (m : Int) * i - 1) : (m * (18446744073709551616 - i) + 1) % 18446744073709551616 = 0 := by
  obtain ⟨k, hk⟩ := h
  apply Nat.mod_eq_zero_of_dvd
  have : ((18446744073709551616 : Nat) : Int) ∣ ((m * (18446744073709551616 - i) + 1 : Nat) : Int) := by
    refine ⟨m - k, ?_⟩
    have e : ((m * (18446744073709551616 - i) + 1 : Nat) : Int) = m * (((18446744073709551616 : Nat) : Int) - i) + 1 := by
      rw [Int.natCast_add, Int.natCast_mul, Int.natCast_sub (by omega)]
      rfl
    rw [e]
    generalize ((18446744073709551616 : Nat) : Int) = W at hk ⊢
    grind
  exact Int.natCast_dvd_natCast.mp this

theorem New_spec (hm : MayM m) : CallSpec Tryd.pr.P Tryd.pr.G 34 [u64 m] (.tup 2 (two (newF m) (i64 0))) := by
  have hm2 := hm.2
  have hm1 := hm.1
  refine callSpec_of Tryd.pr Tryd.func34 rfl rfl rfl fun w0 ok0 hok hG => ?_
  refine ev_rs [] rfl trivial ?_
  refine ev_seq (ev_rs [] rfl ⟨⟨fun _ => rfl, gd_f⟩, by simp⟩ (ev_cf ?_ (ev_sk ?_)))
  · refine congrArg (fun b => AV.p (.val (.bool b))) (a₁ := bif decide ((m : Int) < 2) then true else decide ((m : Int) ≥ 9223372036854775808)) (a₂ := false) ?_
    rw [decide_eq_false (by omega : ¬ (m : Int) < 2)]
    exact decide_eq_false (by omega)
  refine ev_rs [] rfl trivial ?_
  refine ev_at (α := Unit) (fun _ => True) (fun _ => [(4, .oat 15 0)]) (fun _ => [(15, ob3 (u64 m) (u64 (bk m)) (u64 (tw m)))]) ?_ ?_
  · refine ev_rs [] rfl trivial (ev_cond rfl (fun h => ?_) (fun h => ?_))
    · have h' := beq_iff_eq.mp h
      rw [and1 m (by omega)] at h'
      have ho : m % 2 = 1 := Int.ofNat_inj.mp h'
      refine ev_rs [] rfl trivial ?_
      refine ev_at (α := Nat) (fun i => i < 18446744073709551616 ∧ ((18446744073709551616 : Nat) : Int) ∣ (m : Int) * i - 1) (fun i => [(0, .p (u64 m)), (4, .oat 15 0), (5, .p (u64 i))]) (fun _ => [(15, ob3 (u64 m) (u64 0) (u64 0))]) ?_ ?_
      · refine ev_rs [] rfl trivial ?_
        refine ev_block (ev_while (α := Nat × Nat) (fun p => p.1 ≤ 5 ∧ p.2 < 18446744073709551616 ∧ ((2 ^ exq p.1 : Nat) : Int) ∣ (m : Int) * p.2 - 1)
          (fun p => [(0, .p (u64 m)), (4, .oat 15 0), (5, .p (u64 p.2)), (20, .p (i64 p.1))]) (fun _ => [(15, ob3 (u64 m) (u64 0) (u64 0))]) (fun p => 5 - p.1) (0, m) ⟨Nat.zero_le _, by dsimp only; omega, odd_sq ho⟩
          (wk1 _ rfl (Nat.le_refl _) (fun hd => cells3 (le_refl hd _) (le_refl hd _) (le_refl hd _)) (fun hd => ⟨le_refl hd _, le_a rfl, le_refl hd _, le_refl hd _, trivial⟩)) ?_)
        rintro ⟨k, i⟩ ⟨h1, h2, h3⟩
        dsimp only at h1 h2 h3
        refine ev_rs [] rfl trivial (ev_seq (ev_cond rfl (fun h => ev_sk ?_) (fun h => ev_exit ?_)))
        · have hk : k < 5 := Int.ofNat_lt.mp (of_decide_eq_true h)
          refine ev_seq (ev_block (ev_region [] rfl trivial ?_))
          refine ev_region [] rfl trivial ⟨(k + 1, i * ((2 + (18446744073709551616 - m * i % 18446744073709551616)) % 18446744073709551616) % 18446744073709551616), ⟨by dsimp only; omega, Nat.mod_lt _ (by decide), exq_step hk h3⟩, by dsimp only; omega,
            wk1 _ rfl (Nat.le_refl _) (fun hd j hj => le_refl hd _) (fun hd => ⟨le_refl hd _, le_a rfl, le_n hd (congrArg (fun z => PV.val (.int .u64 z)) ?_), le_n hd (congrArg (fun z => PV.val (.int .i64 z)) ?_), trivial⟩)⟩
          · show IntKind.wrap .u64 ((i : Int) * IntKind.wrap .u64 (((2 : Nat) : Int) - IntKind.wrap .u64 ((m : Int) * (i : Int)))) = _
            rw [wrapMul, wrapSub' _ _ (Nat.le_of_lt (Nat.mod_lt _ (by decide))), wrapMul]
          · exact wrapI _ (by dsimp only; omega) (by dsimp only; omega)
        · have hk : k = 5 := by
            have := of_decide_eq_false h
            dsimp only at this
            omega
          subst hk
          exact at1 i ⟨h2, h3⟩ _ rfl (Nat.le_refl _) (fun hd j hj => le_refl hd _) (fun hd => ⟨le_refl hd _, le_a rfl, le_refl hd _, trivial⟩)
      rintro i ⟨hi, hd⟩
      have hmi := minv64 hi hd
      have hi0 : 0 < i := by
        rcases Nat.eq_zero_or_pos i with h0 | h0
        · subst h0
          obtain ⟨k, hk⟩ := hd
          omega
        · exact h0
      have hbk : bk m = 18446744073709551616 - i := by unfold bk; rw [if_pos ho, hmi]
      refine ev_rs [] rfl ⟨leb rfl, trivial⟩ ?_
      refine ev_rs [] rfl ⟨by omega, trivial⟩ (ev_n 6 (18446744073709551616 % m) rfl ?_ ?_)
      · have e : IntKind.wrap .u64 (0 - (m : Int)) = ((18446744073709551616 - m : Nat) : Int) := by rw [wrap64]; omega
        rw [e, tmodN]
        have e2 : 18446744073709551616 = (18446744073709551616 - m) + m := by omega
        exact toN (by conv => rhs; rw [e2, Nat.add_mod_right])
      refine ev_region [u64 (tw m)] rfl ⟨leb rfl, ⟨⟨trivial, trivial⟩, .inl ?_⟩, trivial⟩ ?_
      · have hs := Mul_spec (b := bk m) (t := 0) hm (18446744073709551616 % m) (18446744073709551616 % m)
        have ht : 18446744073709551616 % m * (18446744073709551616 % m) % m = tw m := by
          unfold tw; rw [if_pos ho, ← Nat.mul_mod]
        rw [ht] at hs
        refine callSpec_args (as' := [fld m (bk m) 0, u64 (18446744073709551616 % m), u64 (18446744073709551616 % m)]) ⟨PLe.ptr (fun j hj => ?_), PLe.refl _, PLe.refl _, trivial⟩ hs
        match j, hj with
        | 0, _ => exact PLe.refl _
        | 1, _ =>
          refine PLe.of_eq (congrArg (fun z => PV.val (.int .u64 z)) (a₁ := IntKind.wrap .u64 (0 - (i : Int))) ?_)
          rw [wrap64, hbk]; omega
        | 2, _ => exact PLe.refl _
      · refine at1 () trivial _ rfl (Nat.le_refl _) (fun hd => cells3 (le_refl hd _) (le_n hd (congrArg (fun z => PV.val (.int .u64 z)) (a₁ := IntKind.wrap .u64 (0 - (i : Int))) ?_)) (le_refl hd _)) (fun hd => ⟨le_a rfl, trivial⟩)
        rw [wrap64, hbk]; omega
    · have h' := beq_eq_false_iff_ne.mp h
      rw [and1 m (by omega)] at h'
      have ho : ¬ m % 2 = 1 := fun e => h' (Int.ofNat_inj.mpr e)
      have hb : bk m = 0 := if_neg ho
      have ht : tw m = 0 := if_neg ho
      exact ev_skip (at1 () trivial _ rfl (Nat.le_refl _) (fun hd => cells3 (le_refl hd _) (le_n hd (by rw [hb]; rfl)) (le_n hd (by rw [ht]; rfl))) (fun hd => ⟨le_a rfl, trivial⟩))
  · rintro ⟨⟩ -
    refine ev_rs [] rfl trivial ?_
    refine ev_ret (ret2 (fz_oat rfl (Nat.le_refl _) (fun j hj => fz_p (PLe.refl _))) (fz_p (PLe.refl _)))

end
end Go.Proofs

/- The test of primes. -/
set_option linter.unusedVariables false
namespace Go.Proofs
open Go Vinc Vinc.Num

theorem and_neg64 (k j : Nat) (h : 2 ^ k * (2 * j + 1) < 18446744073709551616) :
    bitI .and .u64 ((2 ^ k * (2 * j + 1) : Nat) : Int) (((18446744073709551616 - 2 ^ k * (2 * j + 1) : Nat)) : Int) = ((2 ^ k : Nat) : Int) := by
  have h1 := and_neg k j 64 h
  have hp := Nat.two_pow_pos k
  have hle : 2 ^ k * 1 ≤ 2 ^ k * (2 * j + 1) := Nat.mul_le_mul_left _ (by omega)
  generalize 2 ^ k * (2 * j + 1) = x at h h1 hle ⊢
  show IntKind.wrap .u64 (((BitVec.ofInt 64 (x : Int) &&& BitVec.ofInt 64 ((18446744073709551616 - x : Nat) : Int)).toNat : Nat) : Int) = _
  rw [BitVec.toNat_and, BitVec.ofInt_natCast, BitVec.ofInt_natCast, BitVec.toNat_ofNat, BitVec.toNat_ofNat, Nat.mod_eq_of_lt (by omega : x < 2 ^ 64), Nat.mod_eq_of_lt (by omega : 18446744073709551616 - x < 2 ^ 64)]
  have h2 : x &&& (18446744073709551616 - x) = 2 ^ k := h1
  rw [h2, wrapN, Nat.mod_eq_of_lt (by omega)]

theorem TrailingZeros64_spec (k j : Nat) (hx : 2 ^ k * (2 * j + 1) < 18446744073709551616) : CallSpec Tryd.pr.P Tryd.pr.G 50 [u64 (2 ^ k * (2 * j + 1))] (i64 k) := by
  have hp := Nat.two_pow_pos k
  have hle : 2 ^ k * 1 ≤ 2 ^ k * (2 * j + 1) := Nat.mul_le_mul_left _ (by omega)
  have han := and_neg64 k j hx
  have hk : k < 64 := by
    by_cases h : k < 64
    · exact h
    · have h2 : 2 ^ 64 ≤ 2 ^ k := Nat.pow_le_pow_right (by omega) (by omega)
      omega
  obtain ⟨ht, hi⟩ := tab64_at k hk
  obtain ⟨x, ex⟩ : ∃ x, 2 ^ k * (2 * j + 1) = x := ⟨_, rfl⟩
  rw [ex] at hx hle han ⊢
  obtain ⟨q, eq⟩ : ∃ q, 2 ^ k * 285870213051353865 % 18446744073709551616 / 2 ^ 58 = q := ⟨_, rfl⟩
  rw [eq] at ht hi
  have hidx : (IntKind.wrap .u64 (bitI .and .u64 (x : Int) (IntKind.wrap .u64 (0 - (x : Int))) * 285870213051353865)).fdiv (2 ^ (min (Int.toNat 58) (IntKind.bits .u64))) = (q : Int) := by
    have e1 : IntKind.wrap .u64 (0 - (x : Int)) = ((18446744073709551616 - x : Nat) : Int) := by rw [wrap64]; omega
    have e2 : (285870213051353865 : Int) = ((285870213051353865 : Nat) : Int) := rfl
    rw [e1, han, e2, wrapMul]
    exact (shrN _ 58 (by decide)).trans (by rw [eq])
  refine callSpec_of Tryd.pr Tryd.func50 rfl rfl rfl fun w0 ok0 hok hG => ?_
  refine ev_rs [] rfl trivial ?_
  refine ev_seq (ev_rs [] rfl trivial (ev_cond rfl (fun h => absurd h (by simp; omega)) (fun _ => ev_sk ?_)))
  refine ev_rs [] rfl ?_ ?_
  · exact ⟨by rw [hidx]; exact hi, by rw [hidx]; omega, by decide, trivial⟩
  refine ev_ret (ret1 (fz_p (PLe.of_eq (congrArg (fun z => PV.val (.int .i64 z)) ?_))))
  rw [hidx]
  show IntKind.wrap .i64 ((tab64.getD q 0 : Nat) : Int) = _
  rw [ht]
  exact wrapI _ (by omega) (by omega)

theorem primeMul_spec (x y n : Nat) (hx : x < 18446744073709551616) (hy : y < 18446744073709551616) (hn : n ≠ 0) (hn' : n < 18446744073709551616) :
    CallSpec Tryd.pr.P Tryd.pr.G 51 [u64 x, u64 y, u64 n] (u64 (x * y % n)) := by
  refine callSpec_of Tryd.pr Tryd.func51 rfl rfl rfl fun w0 ok0 hok hG => ?_
  refine ev_rs [] rfl trivial ?_
  refine ev_rs [.tup 2 (two (u64 (x * y / 18446744073709551616)) (u64 (x * y % 18446744073709551616)))] rfl ⟨.inl (Mul64_spec x y hx hy), trivial⟩ ?_
  refine ev_rs [u64 (x * y % n)] rfl ⟨.inl ?_, trivial⟩ ?_
  · have h := Rem64_spec (x * y / 18446744073709551616) (x * y % 18446744073709551616) n hn (Nat.mod_lt _ (by decide)) hn'
    rw [Nat.mul_comm (_ / _), Nat.div_add_mod] at h
    exact h
  exact ev_ret (ret1 (fz_p (PLe.refl _)))

/-- The bases, as the test has them. -/
abbrev basesV : PV := .agg 12 (fun j => u64 (bases.getD j 0))

theorem bases_spec : CallSpec Tryd.pr.P Tryd.pr.G 45 [] basesV := by
  refine callSpec_of Tryd.pr Tryd.func45 rfl rfl rfl fun w0 ok0 hok hG => ?_
  refine ev_rs [] rfl trivial ?_
  refine ev_rs [] rfl ⟨leb rfl, trivial⟩ ?_
  refine ev_ret (ret_cell' (n := 12) (id := 0) rfl rfl rfl rfl rfl (leb rfl) (fun j hj => ?_))
  match j, hj with
  | 0, _ | 1, _ | 2, _ | 3, _ | 4, _ | 5, _ | 6, _ | 7, _ | 8, _ | 9, _ | 10, _ | 11, _ => exact fz_p (PLe.refl _)

theorem strong_spec (n b : Nat) (hn : 2 ≤ n) (hn64 : n < 18446744073709551616) (hb : b < 18446744073709551616) : CallSpec Tryd.pr.P Tryd.pr.G 46 [u64 n, u64 b] (bool (strongB n b)) := by
  have hn0 : n ≠ 0 := by omega
  have hnp : 0 < n := by omega
  obtain ⟨k, j, e⟩ := exists_tz (n - 1) (by omega)
  have hp := Nat.two_pow_pos k
  have hle : 2 ^ k * 1 ≤ 2 ^ k * (2 * j + 1) := Nat.mul_le_mul_left _ (by omega)
  have hk : k < 64 := by
    by_cases h : k < 64
    · exact h
    · have h2 : 2 ^ 64 ≤ 2 ^ k := Nat.pow_le_pow_right (by omega) (by omega)
      omega
  have ht : tz (n - 1) = k := by unfold tz; rw [e]; exact tzF_eq 64 k j hk
  have hd : (n - 1) / 2 ^ k = 2 * j + 1 := by rw [e]; exact Nat.mul_div_cancel_left _ hp
  have hT := TrailingZeros64_spec k j (by omega)
  have hd64 : 2 * j + 1 < 18446744073709551616 := by rw [← hd]; exact Nat.lt_of_le_of_lt (Nat.div_le_self _ _) (by omega)
  have hS : strongB n b = bif Nat.beq (b ^ (2 * j + 1) % n) 1 then true else sqs n (b ^ (2 * j + 1) % n) k := by
    unfold strongB
    rw [ht, hd, pw64_eq hn hd64]
  have hw1 : IntKind.wrap .u64 ((n : Int) - 1) = ((n - 1 : Nat) : Int) := wrapSub n 1 (by omega) (by omega)
  have hwk : IntKind.wrap .u64 (k : Int) = (k : Int) := by rw [wrapN, Nat.mod_eq_of_lt (by omega)]
  rw [← e] at hT
  rw [hS]
  refine callSpec_of Tryd.pr Tryd.func46 rfl rfl rfl fun w0 ok0 hok hG => ?_
  refine ev_rs [] rfl trivial ?_
  refine ev_rs [i64 k] rfl ⟨.inl (by rw [hw1]; exact hT), trivial⟩ ?_
  refine ev_ds [] (by kernel_rfl) rfl rfl ⟨by simpa using hn0, trivial⟩ ?_
  refine ev_at (α := Unit) (fun _ => True) (fun _ => [(0, .p (u64 n)), (5, .p (i64 k)), (6, .p (u64 (b ^ (2 * j + 1) % n)))]) (fun _ => []) ?_ ?_
  · refine ev_rs [] rfl ⟨by rw [hwk]; omega, trivial⟩ (ev_n 8 (2 * j + 1) rfl (by rw [hw1, hwk]; exact (shrN _ k (by omega)).trans (by rw [hd])) ?_)
    refine ev_block (ev_while0 (α := Nat × Nat × Nat) (fun p => p.1 < n ∧ p.2.1 < n ∧ p.1 * p.2.1 ^ p.2.2 % n = b ^ (2 * j + 1) % n ∧ p.2.2 < 18446744073709551616)
      (fun p => [(0, .p (u64 n)), (5, .p (i64 k)), (6, .p (u64 p.1)), (7, .p (u64 p.2.1)), (8, .p (u64 p.2.2))]) (fun p => p.2.2) (1, b % n, 2 * j + 1)
      ⟨hn, Nat.mod_lt _ hnp, by dsimp only; rw [Nat.one_mul, ← Nat.pow_mod], hd64⟩ ⟨le_0, le_0, le_0, le_0, le_0, trivial⟩ ?_)
    rintro ⟨o, a, x⟩ ⟨h1, h2, h3, h4⟩
    dsimp only at h1 h2 h3 h4
    refine ev_seq (ev_rs [] rfl trivial (ev_cond rfl (fun h => ev_sk ?_) (fun h => ev_exit ?_)))
    · have hx : 0 < x := Int.ofNat_lt.mp (of_decide_eq_true h)
      refine ev_seq (ev_block ?_)
      refine ev_at (α := Unit) (fun _ => True) (fun _ => [(0, .p (u64 n)), (5, .p (i64 k)), (6, .p (u64 (if x % 2 = 1 then o * a % n else o))), (7, .p (u64 a)), (8, .p (u64 x))]) (fun _ => []) ?_ ?_
      · refine ev_rs [] rfl trivial (ev_cond rfl (fun h => ?_) (fun h => ?_))
        · have hx1 : x % 2 = 1 := by
            have := beq_iff_eq.mp h
            rw [and1 x h4] at this
            exact Int.ofNat_inj.mp this
          refine ev_region [u64 (o * a % n)] rfl ⟨.inl (primeMul_spec o a n (by omega) (by omega) hn0 hn64), trivial⟩ (at0 () trivial ⟨le_0, le_0, le_e (congrArg u64 ?_), le_0, le_0, trivial⟩)
          rw [if_pos hx1]
        · have hx1 : ¬ x % 2 = 1 := fun e => by
            have := beq_eq_false_iff_ne.mp h
            rw [and1 x h4] at this
            exact this (Int.ofNat_inj.mpr e)
          refine ev_skip (at0 () trivial ⟨le_0, le_0, le_e (congrArg u64 ?_), le_0, le_0, trivial⟩)
          rw [if_neg hx1]
      rintro ⟨⟩ -
      refine ev_region [u64 (a * a % n)] rfl ⟨.inl (primeMul_spec a a n (by omega) (by omega) hn0 hn64), trivial⟩ ?_
      refine ev_region [] rfl ⟨by decide, trivial⟩ (round0 (if x % 2 = 1 then o * a % n else o, a * a % n, x / 2) ⟨?_, Nat.mod_lt _ hnp, (pw_step o a x n).trans h3, by dsimp only; omega⟩ (by dsimp only; omega)
        ⟨le_0, le_0, le_0, le_0, le_e (congrArg (fun z => PV.val (.int .u64 z)) (shr1 x)), trivial⟩)
      dsimp only
      split
      · exact Nat.mod_lt _ hnp
      · exact h1
    · have hx : x = 0 := by
        have := of_decide_eq_false h
        dsimp only at this
        omega
      refine at0 () trivial ⟨le_0, le_0, le_e (congrArg u64 ?_), trivial⟩
      rw [hx, Nat.pow_zero, Nat.mul_one, Nat.mod_eq_of_lt h1] at h3
      exact h3
  rintro ⟨⟩ -
  have hx0 : b ^ (2 * j + 1) % n < n := Nat.mod_lt _ hnp
  generalize b ^ (2 * j + 1) % n = x0 at hx0
  refine ev_seq (ev_rs [] rfl trivial (ev_cond rfl (fun h => ?_) (fun h => ev_sk ?_)))
  · have h1 : x0 = 1 := Int.ofNat_inj.mp (beq_iff_eq.mp h)
    refine ev_rs [] rfl trivial (ev_ret (ret1 (fz_p (PLe.of_eq (congrArg Vinc.bool ?_)))))
    rw [h1]; rfl
  have h1 : ¬ x0 = 1 := fun e => (beq_eq_false_iff_ne.mp h) (Int.ofNat_inj.mpr e)
  have h2 : Nat.beq x0 1 = false := by
    cases hb : Nat.beq x0 1
    · rfl
    · exact absurd (Nat.eq_of_beq_eq_true hb) h1
  rw [h2]
  refine ev_at (α := Unit) (fun _ => sqs n x0 k = false) (fun _ => []) (fun _ => []) ?_ ?_
  · refine ev_rs [] rfl trivial ?_
    refine ev_block (ev_while0 (α := Nat × Nat) (fun p => p.1 ≤ k ∧ p.2 < n ∧ sqs n x0 k = sqs n p.2 (k - p.1)) (fun p => [(0, .p (u64 n)), (6, .p (u64 p.2)), (37, .p (i64 k)), (38, .p (i64 p.1))]) (fun p => k - p.1) (0, x0)
      ⟨Nat.zero_le _, hx0, rfl⟩ ⟨le_0, le_0, le_0, le_0, trivial⟩ ?_)
    rintro ⟨i, x⟩ ⟨h3, h4, h5⟩
    dsimp only at h3 h4 h5
    refine ev_rs [] rfl trivial (ev_seq (ev_cond rfl (fun h => ev_sk ?_) (fun h => ev_exit ?_)))
    · have hi : i < k := Int.ofNat_lt.mp (of_decide_eq_true h)
      obtain ⟨t, et⟩ : ∃ t, k - i = t + 1 := ⟨k - i - 1, by omega⟩
      rw [et, show sqs n x (t + 1) = bif Nat.beq x (n - 1) then true else sqs n (x * x % n) t from rfl] at h5
      refine ev_seq (ev_block ?_)
      refine ev_seq (ev_rs [] rfl trivial (ev_cond rfl (fun h => ?_) (fun h => ev_sk ?_)))
      · have h' := beq_iff_eq.mp h
        rw [hw1] at h'
        have hx : x = n - 1 := Int.ofNat_inj.mp h'
        refine ev_rs [] rfl trivial (ev_ret (ret1 (fz_p (PLe.of_eq (congrArg Vinc.bool ?_)))))
        rw [hx, Nat.beq_refl] at h5
        exact h5.symm
      · have h' := beq_eq_false_iff_ne.mp h
        rw [hw1] at h'
        have hx : Nat.beq x (n - 1) = false := by
          cases hb : Nat.beq x (n - 1)
          · rfl
          · exact absurd (Int.ofNat_inj.mpr (Nat.eq_of_beq_eq_true hb)) h'
        rw [hx] at h5
        refine ev_region [u64 (x * x % n)] rfl ⟨.inl (primeMul_spec x x n (by omega) (by omega) hn0 hn64), trivial⟩ ?_
        refine ev_region [] rfl trivial (round0 (i + 1, x * x % n) ⟨hi, Nat.mod_lt _ hnp, ?_⟩ (by dsimp only; omega) ⟨le_0, le_0, le_0, le_e (congrArg (fun z => PV.val (.int .i64 z)) (wrapI _ (by dsimp only; omega) (by dsimp only; omega))), trivial⟩)
        dsimp only
        rw [show k - (i + 1) = t by omega]
        exact h5
    · have hi : k - i = 0 := by
        have := of_decide_eq_false h
        dsimp only at this
        omega
      rw [hi] at h5
      exact at0 () h5 trivial
  rintro ⟨⟩ h3
  refine ev_rs [] rfl trivial (ev_ret (ret1 (fz_p (PLe.of_eq (congrArg Vinc.bool ?_)))))
  rw [h3]; rfl

theorem bases_drop : ∀ i, i < 12 → bases.drop i = bases.getD i 0 :: bases.drop (i + 1) := by decide

theorem bases_lt : ∀ i, i < 12 → 2 ≤ bases.getD i 0 ∧ bases.getD i 0 < 38 := by decide

theorem beq_cast (a b : Nat) : ((a : Int) == (b : Int)) = Nat.beq a b := by
  cases h : Nat.beq a b
  · exact beq_eq_false_iff_ne.mpr fun e => Nat.ne_of_beq_eq_false h (Int.ofNat_inj.mp e)
  · exact beq_iff_eq.mpr (Int.ofNat_inj.mpr (Nat.eq_of_beq_eq_true h))

theorem Is_spec (n : Nat) (hn64 : n < 18446744073709551616) : CallSpec Tryd.pr.P Tryd.pr.G 37 [u64 n] (bool (isB n)) := by
  refine callSpec_of Tryd.pr Tryd.func37 rfl rfl rfl fun w0 ok0 hok hG => ?_
  refine ev_rs [] rfl trivial ?_
  refine ev_seq (ev_rs [] rfl trivial (ev_cond rfl (fun h => ?_) (fun h => ev_sk ?_)))
  · have hn : n < 2 := Int.ofNat_lt.mp (of_decide_eq_true h)
    have hb : isB n = false := by
      unfold isB
      rw [Nat.blt_eq.mpr hn]; rfl
    rw [hb]
    exact ev_rs [] rfl trivial (ev_ret (ret1 (fz_p (PLe.refl _))))
  have hn : 2 ≤ n := by
    have := of_decide_eq_false h
    omega
  have hlt : Nat.blt n 2 = false := by
    cases hb : Nat.blt n 2
    · rfl
    · have := Nat.blt_eq.mp hb
      omega
  have hI : isB n = match divB n bases with
    | some r => r
    | none => strongs n bases := by
    unfold isB
    rw [hlt]; rfl
  rw [hI]
  refine ev_at (α := Unit) (fun _ => divB n bases = none) (fun _ => [(0, .p (u64 n))]) (fun _ => []) ?_ ?_
  · refine ev_rs [basesV] rfl ⟨.inl bases_spec, trivial⟩ ?_
    refine ev_block (ev_while0 (α := Nat) (fun i => i ≤ 12 ∧ divB n bases = divB n (bases.drop i)) (fun i => [(0, .p (u64 n)), (9, .p basesV), (10, .p (i64 i))]) (fun i => 12 - i) 0
      ⟨by decide, rfl⟩ ⟨le_0, le_0, le_0, trivial⟩ ?_)
    rintro i ⟨h1, h2⟩
    refine ev_rs [] rfl trivial (ev_seq (ev_cond rfl (fun h => ev_sk ?_) (fun h => ev_exit ?_)))
    · have hi : i < 12 := Int.ofNat_lt.mp (of_decide_eq_true h)
      obtain ⟨hb1, hb2⟩ := bases_lt i hi
      have hb0 : (bases.getD i 0 : Int) ≠ 0 := by omega
      rw [bases_drop i hi, show divB n (bases.getD i 0 :: bases.drop (i + 1)) = bif Nat.beq (n % bases.getD i 0) 0 then some (Nat.beq n (bases.getD i 0)) else divB n (bases.drop (i + 1)) from rfl] at h2
      refine ev_seq (ev_block ?_)
      refine ev_rs [] rfl ⟨⟨⟨by omega, by omega⟩, hi⟩, trivial⟩ ?_
      refine ev_rs [] rfl ⟨hb0, trivial⟩ (ev_cond rfl (fun h => ?_) (fun h => ev_skip ?_))
      · have hd : n % bases.getD i 0 = 0 := Int.ofNat_inj.mp (beq_iff_eq.mp h)
        rw [hd] at h2
        rw [h2]
        refine ev_rs [] rfl trivial (ev_ret (ret1 (fz_p (PLe.of_eq (congrArg Vinc.bool ?_)))))
        exact beq_cast n _
      · have hd : Nat.beq (n % bases.getD i 0) 0 = false := by
          cases hb : Nat.beq (n % bases.getD i 0) 0
          · rfl
          · exact absurd (Int.ofNat_inj.mpr (Nat.eq_of_beq_eq_true hb)) (beq_eq_false_iff_ne.mp h)
        rw [hd] at h2
        exact ev_region [] rfl trivial (round0 (i + 1) ⟨hi, h2⟩ (by omega) ⟨le_0, le_0, le_e (congrArg (fun z => PV.val (.int .i64 z)) (wrapI _ (by omega) (by omega))), trivial⟩)
    · have hi : i = 12 := by
        have := of_decide_eq_false h
        omega
      subst hi
      exact at0 () h2 ⟨le_0, trivial⟩
  rintro ⟨⟩ hdn
  rw [hdn]
  refine ev_at (α := Unit) (fun _ => strongs n bases = true) (fun _ => []) (fun _ => []) ?_ ?_
  · refine ev_rs [basesV] rfl ⟨.inl bases_spec, trivial⟩ ?_
    refine ev_block (ev_while0 (α := Nat) (fun i => i ≤ 12 ∧ strongs n bases = strongs n (bases.drop i)) (fun i => [(0, .p (u64 n)), (21, .p basesV), (22, .p (i64 i))]) (fun i => 12 - i) 0
      ⟨by decide, rfl⟩ ⟨le_0, le_0, le_0, trivial⟩ ?_)
    rintro i ⟨h1, h2⟩
    refine ev_rs [] rfl trivial (ev_seq (ev_cond rfl (fun h => ev_sk ?_) (fun h => ev_exit ?_)))
    · have hi : i < 12 := Int.ofNat_lt.mp (of_decide_eq_true h)
      obtain ⟨hb1, hb2⟩ := bases_lt i hi
      rw [bases_drop i hi, show strongs n (bases.getD i 0 :: bases.drop (i + 1)) = bif strongB n (bases.getD i 0) then strongs n (bases.drop (i + 1)) else false from rfl] at h2
      refine ev_seq (ev_block ?_)
      refine ev_rs [] rfl ⟨⟨⟨by omega, by omega⟩, hi⟩, trivial⟩ ?_
      refine ev_rs [bool (strongB n (bases.getD i 0))] rfl ⟨.inl (strong_spec n _ hn hn64 (Nat.lt_trans hb2 (by decide))), trivial⟩ (ev_cond rfl (fun h => ?_) (fun h => ev_skip ?_))
      · rw [Bool.not_eq_true'] at h
        rw [h] at h2
        rw [h2]
        exact ev_rs [] rfl trivial (ev_ret (ret1 (fz_p (PLe.refl _))))
      · have h' : strongB n (bases.getD i 0) = true := by simpa using h
        rw [h'] at h2
        exact ev_region [] rfl trivial (round0 (i + 1) ⟨hi, h2⟩ (by omega) ⟨le_0, le_0, le_e (congrArg (fun z => PV.val (.int .i64 z)) (wrapI _ (by omega) (by omega))), trivial⟩)
    · have hi : i = 12 := by
        have := of_decide_eq_false h
        omega
      subst hi
      exact at0 () h2 trivial
  rintro ⟨⟩ hs
  rw [hs]
  exact ev_rs [] rfl trivial (ev_ret (ret1 (fz_p (PLe.refl _))))

/-- The primes that are asked. -/
def Asked (p : Nat) : Prop := p = 998244353 ∨ p = 9223372036854775783 ∨ p = 2305843009213693951 ∨ (p ≤ 100000 ∧ IsPrime p)

open Classical in
noncomputable def primeB (n : Nat) : Bool := decide (IsPrime n)

open Classical in
noncomputable def askedB (n : Nat) : Bool := decide (Asked n)

theorem primeB_f {n : Nat} (h : ¬ IsPrime n) : primeB n = false := by
  unfold primeB
  simp [h]

theorem primeB_t {n : Nat} (h : IsPrime n) : primeB n = true := by
  unfold primeB
  simp [h]

theorem askedB_f {n : Nat} (h : ¬ Asked n) : askedB n = false := by
  unfold askedB
  simp [h]

theorem askedB_t {n : Nat} (h : Asked n) : askedB n = true := by
  unfold askedB
  simp [h]

theorem asked_prime {p : Nat} (h : Asked p) : IsPrime p := by
  rcases h with rfl | rfl | rfl | h
  · exact great1
  · exact great3
  · exact great2
  · exact h.2

theorem asked_may {p : Nat} (h : Asked p) : MayM p := by
  have h1 := (asked_prime h).1
  refine ⟨h1, ?_⟩
  rcases h with rfl | rfl | rfl | h
  · decide
  · decide
  · decide
  · omega

theorem isB_asked {p : Nat} (h : Asked p) : isB p = true := isB_prime (asked_prime h) (by have := (asked_may h).2; omega)

/-- A small number that is not asked is told to be no prime. -/
theorem isB_not {p : Nat} (h : ¬ Asked p) (hp : p ≤ 100000) : isB p = false := by
  cases hb : isB p
  · rfl
  · exact absurd (.inr (.inr (.inr ⟨hp, isB_small hp hb⟩))) h

theorem RefIs_spec (n : Nat) (hn : n ≤ 100000) : CallSpec Tryd.pr.P Tryd.pr.G 27 [u64 n] (bool (primeB n)) := by
  refine callSpec_of Tryd.pr Tryd.func27 rfl rfl rfl fun w0 ok0 hok hG => ?_
  refine ev_rs [] rfl trivial ?_
  refine ev_seq (ev_rs [] rfl trivial (ev_cond rfl (fun h => ?_) (fun h => ev_sk ?_)))
  · have hn2 : n < 2 := Int.ofNat_lt.mp (of_decide_eq_true h)
    have hb : primeB n = false := primeB_f fun hp => by have := hp.1; omega
    rw [hb]
    exact ev_rs [] rfl trivial (ev_ret (ret1 (fz_p (PLe.refl _))))
  have hn2 : 2 ≤ n := by
    have := of_decide_eq_false h
    omega
  refine ev_at (α := Unit) (fun _ => IsPrime n) (fun _ => []) (fun _ => []) ?_ ?_
  · refine ev_rs [] rfl trivial ?_
    refine ev_block (ev_while0 (α := Nat) (fun d => 2 ≤ d ∧ d ≤ 100001 ∧ ∀ e, 2 ≤ e → e < d → ¬ e ∣ n) (fun d => [(0, .p (u64 n)), (3, .p (u64 d))]) (fun d => 100001 - d) 2
      ⟨by decide, by decide, fun e h1 h2 => by omega⟩ ⟨le_0, le_0, trivial⟩ ?_)
    rintro d ⟨h1, h2, h3⟩
    have hdd : d * d ≤ 100001 * 100001 := Nat.mul_le_mul h2 h2
    have hw : IntKind.wrap .u64 ((d : Int) * (d : Int)) = ((d * d : Nat) : Int) := by rw [wrapMul, Nat.mod_eq_of_lt (by omega)]
    have hd0 : (d : Int) ≠ 0 := by omega
    refine ev_seq (ev_rs [] rfl trivial (ev_cond rfl (fun h => ev_sk ?_) (fun h => ev_exit ?_)))
    · have h' := of_decide_eq_true h
      rw [hw] at h'
      have hle : d * d ≤ n := Int.ofNat_le.mp h'
      have hdn : d ≤ 100000 := by
        have : d * 1 ≤ d * d := Nat.mul_le_mul_left _ (by omega)
        omega
      refine ev_seq (ev_block ?_)
      refine ev_rs [] rfl ⟨hd0, trivial⟩ (ev_cond rfl (fun h => ?_) (fun h => ev_skip ?_))
      · have hd : n % d = 0 := Int.ofNat_inj.mp (beq_iff_eq.mp h)
        have hb : primeB n = false := primeB_f fun hp => by
          rcases hp.2 d (Nat.dvd_of_mod_eq_zero hd) with h4 | h4
          · omega
          · subst h4
            have : d * 2 ≤ d * d := Nat.mul_le_mul_left _ h1
            omega
        rw [hb]
        exact ev_rs [] rfl trivial (ev_ret (ret1 (fz_p (PLe.refl _))))
      · have hd : ¬ n % d = 0 := fun e => (beq_eq_false_iff_ne.mp h) (Int.ofNat_inj.mpr e)
        refine ev_region [] rfl trivial (round0 (d + 1) ⟨by omega, by omega, fun e h4 h5 => ?_⟩ (by omega) ⟨le_0, le_e (congrArg (fun z => PV.val (.int .u64 z)) ((wrapAdd d 1).trans (by rw [Nat.mod_eq_of_lt (by omega)]))), trivial⟩)
        rcases Nat.lt_or_ge e d with h6 | h6
        · exact h3 e h4 h6
        · rw [show e = d by omega]
          exact fun hdv => hd (Nat.mod_eq_zero_of_dvd hdv)
    · have h' := of_decide_eq_false h
      rw [hw] at h'
      have hgt : n < d * d := by
        rcases Nat.lt_or_ge n (d * d) with h4 | h4
        · exact h4
        · exact absurd (Int.ofNat_le.mpr h4) h'
      refine at0 () ?_ trivial
      obtain ⟨c, rfl⟩ : ∃ c, d = c + 1 := ⟨d - 1, by omega⟩
      refine prime_of_big hn2 hgt fun r hr hrn => ?_
      rcases Nat.lt_or_ge c r with h4 | h4
      · exact h4
      · exact absurd hrn (h3 r hr.1 (by omega))
  rintro ⟨⟩ hp
  have hb : primeB n = true := primeB_t hp
  rw [hb]
  exact ev_rs [] rfl trivial (ev_ret (ret1 (fz_p (PLe.refl _))))

theorem gd_a {a b : Bool} (h : a = true) (h' : b = true) : (a && (b == true)) = true := by rw [h, h']; rfl

theorem LawPrime_spec (p : Nat) : CallSpec Tryd.pr.P Tryd.pr.G 11 [u64 p] (bool (askedB p)) := by
  have key : (bif (bif (bif ((p : Int) == 998244353) then true else ((p : Int) == 9223372036854775783)) then true else ((p : Int) == 2305843009213693951)) then true else (bif decide ((p : Int) ≤ 100000) then primeB p else false)) = askedB p := by
    by_cases h1 : p = 998244353
    · subst h1; rw [askedB_t (.inl rfl)]; rfl
    by_cases h2 : p = 9223372036854775783
    · subst h2; rw [askedB_t (.inr (.inl rfl))]; rfl
    by_cases h3 : p = 2305843009213693951
    · subst h3; rw [askedB_t (.inr (.inr (.inl rfl)))]; rfl
    rw [beq_eq_false_iff_ne.mpr (by omega : (p : Int) ≠ 998244353), beq_eq_false_iff_ne.mpr (by omega : (p : Int) ≠ 9223372036854775783), beq_eq_false_iff_ne.mpr (by omega : (p : Int) ≠ 2305843009213693951)]
    simp only [cond_false]
    by_cases h4 : p ≤ 100000
    · rw [decide_eq_true (by omega : (p : Int) ≤ 100000)]
      simp only [cond_true]
      by_cases h5 : IsPrime p
      · rw [primeB_t h5, askedB_t (.inr (.inr (.inr ⟨h4, h5⟩)))]
      · rw [primeB_f h5, askedB_f]
        rintro (h | h | h | h)
        · exact h1 h
        · exact h2 h
        · exact h3 h
        · exact h5 h.2
    · rw [decide_eq_false (by omega : ¬ (p : Int) ≤ 100000), askedB_f]
      · rfl
      · rintro (h | h | h | h)
        · exact h1 h
        · exact h2 h
        · exact h3 h
        · exact h4 h.1
  refine callSpec_of Tryd.pr Tryd.func11 rfl rfl rfl fun w0 ok0 hok hG => ?_
  refine ev_rs [] rfl trivial ?_
  have hand : ∀ {a b : Bool}, (a && b) = true → a = true ∧ b = true := fun h => by simpa using h
  refine ev_rs [bool (primeB p)] rfl ?_ ?_
  · refine (by repeat' (first | exact trivial | exact gd_t | exact gd_f | exact .inl (RefIs_spec p (by have := of_decide_eq_true (beq_iff_eq.mp (hand (by assumption)).2); omega)) | exact (fun h => (hand h).1) | exact (fun h => (hand h).2) | exact gd_a (by assumption) (by assumption) | exact (fun _ => rfl) | intro _ | apply And.intro | assumption | exact rfl | exact gd_t (by assumption) | exact gd_f (by assumption) | exact gd_a (by assumption) (by assumption) | exact gd_b (by assumption) (by assumption)))
  · exact ev_ret (ret1 (fz_p (PLe.of_eq (congrArg Vinc.bool key))))

end Go.Proofs

/- The rows of recur, walked. -/
set_option linter.unusedVariables false
namespace Go.Proofs
open Go Vinc Vinc.Num

section
variable {m b t : Nat}

theorem Sb_spec (hm : MayM m) (x y : Nat) : CallSpec Tryd.pr.P Tryd.pr.G 26 [fld m b t, u64 x, u64 y] (u64 (sb x y m)) := Sub_spec hm x y

theorem field_ok {p : Nat} (hm : MayM p) (hb : isB p = true) : CallSpec Tryd.pr.P Tryd.pr.G 20 [u64 p] (.tup 2 (two (newF p) (i64 0))) := by
  have hm2 := hm.2
  refine callSpec_of Tryd.pr Tryd.func20 rfl rfl rfl fun w0 ok0 hok hG => ?_
  refine ev_rs [] rfl trivial ?_
  refine ev_seq (ev_rs [Vinc.bool (isB p)] rfl (by repeat' (first | exact trivial | exact gd_t | exact gd_f | exact .inl (Is_spec p (by omega)) | exact (fun _ => rfl) | intro _ | apply And.intro | assumption | exact rfl | exact gd_t (by assumption) | exact gd_f (by assumption) | exact gd_a (by assumption) (by assumption) | exact gd_b (by assumption) (by assumption))) (ev_cond rfl (fun h => ?_) (fun _ => ev_sk ?_)))
  · exfalso
    rw [hb, decide_eq_false (by omega)] at h
    cases h
  refine ev_rs [.tup 2 (two (newF p) (i64 0))] rfl ⟨.inl (New_spec hm), trivial⟩ ?_
  exact ev_ret (ret2 (fz_p (PLe.refl _)) (fz_p (PLe.refl _)))

theorem field_no {p : Nat} (hp : p < 18446744073709551616) (h : ¬ (p < 9223372036854775808 ∧ isB p = true)) : CallSpec Tryd.pr.P Tryd.pr.G 20 [u64 p] (.tup 2 (two nilP (i64 14))) := by
  refine callSpec_of Tryd.pr Tryd.func20 rfl rfl rfl fun w0 ok0 hok hG => ?_
  refine ev_rs [] rfl trivial ?_
  refine ev_seq (ev_rs [Vinc.bool (isB p)] rfl (by repeat' (first | exact trivial | exact gd_t | exact gd_f | exact .inl (Is_spec p hp) | exact (fun _ => rfl) | intro _ | apply And.intro | assumption | exact rfl | exact gd_t (by assumption) | exact gd_f (by assumption) | exact gd_a (by assumption) (by assumption) | exact gd_b (by assumption) (by assumption))) (ev_cond rfl (fun _ => ?_) (fun h2 => ?_)))
  · exact ev_rs [] rfl trivial (ev_ret (ret2 (fz_p (PLe.refl _)) (fz_p (PLe.refl _))))
  · exfalso
    apply h
    by_cases hq : p < 9223372036854775808
    · refine ⟨hq, ?_⟩
      rw [decide_eq_false (by omega)] at h2
      cases hb : isB p
      · rw [hb] at h2; cases h2
      · rfl
    · rw [decide_eq_true (by omega)] at h2
      cases h2

theorem miss_spec (hm : MayM m) (r row : List Nat) (i0 : Nat) (hi : i0 < row.length) (hr : r.length ≤ i0) (hl : row.length < 1099511627776) :
    CallSpec Tryd.pr.P Tryd.pr.G 22 [fld m b t, u64s r, u64s row, i64 i0] (u64 (missN m r row i0)) := by
  refine callSpec_of Tryd.pr Tryd.func22 rfl rfl rfl fun w0 ok0 hok hG => ?_
  refine ev_rs [] rfl trivial ?_
  refine ev_rs [u64 (row.getD i0 0 % m)] rfl ⟨.inl (Of_spec hm _), hi, ⟨by omega, by omega⟩, trivial⟩ ?_
  refine ev_at (α := Unit) (fun _ => True) (fun _ => [(9, .p (u64 (missN m r row i0)))]) (fun _ => []) ?_ ?_
  · refine ev_rs [] rfl trivial ?_
    refine ev_block (ev_while0 (α := Nat) (fun i => i ≤ r.length) (fun i => [(0, .p (fld m b t)), (1, .p (u64s r)), (2, .p (u64s row)), (3, .p (i64 i0)), (9, .p (u64 (missF m r row i0 i))), (18, .p (i64 r.length)), (19, .p (i64 i))]) (fun i => r.length - i) 0
      (Nat.zero_le _) ⟨le_0, le_0, le_0, le_0, le_0, le_0, le_0, trivial⟩ ?_)
    rintro i h1
    refine ev_rs [] rfl trivial (ev_seq (ev_cond rfl (fun h => ev_sk ?_) (fun h => ev_exit ?_)))
    · have hi2 : i < r.length := Int.ofNat_lt.mp (of_decide_eq_true h)
      refine ev_seq (ev_block ?_)
      have e1 : IntKind.wrap .i64 (IntKind.wrap .i64 ((i0 : Int) - 1) - (i : Int)) = ((i0 - 1 - i : Nat) : Int) := by
        rw [wrapI ((i0 : Int) - 1) (by omega) (by omega), wrapI _ (by omega) (by omega)]; omega
      refine ev_rs [] rfl trivial ?_
      refine ev_draw [u64 (r.getD i 0 * row.getD (i0 - 1 - i) 0 % m), u64 (missF m r row i0 (i + 1))] (by kernel_rfl) rfl rfl ?_ ?_
      · rw [e1]
        exact ⟨.inl (Add_spec hm _ _), .inl (Mul_spec hm _ _), (by omega : i0 - 1 - i < row.length), ⟨by omega, by omega⟩, hi2, ⟨by omega, by omega⟩, trivial⟩
      refine ev_region [] rfl trivial (round0 (i + 1) hi2 (by omega) ⟨le_0, le_0, le_0, le_0, le_0, le_0, le_e (congrArg (fun z => PV.val (.int .i64 z)) (wrapI _ (by omega) (by omega))), trivial⟩)
    · have hi : i = r.length := by
        have := of_decide_eq_false h
        omega
      subst hi
      exact at0 () trivial ⟨le_0, trivial⟩
  rintro ⟨⟩ h
  exact ev_rs [] rfl trivial (ev_ret (ret1 (fz_p (PLe.refl _))))

/-- A rule, and 0 behind it. -/
theorem grown_spec (r : List Nat) (n : Nat) (hr : r.length < 1099511627776) (hn : n < 1099511627776) :
    CallSpecO Tryd.pr.P Tryd.pr.G 25 [u64s r, i64 n] (grownN r n).length 1 (fun j => u64 ((grownN r n).getD j 0)) := by
  have hlen := length_grownN r n
  have hmax : (if (r.length : Int) > (n : Int) then (r.length : Int) else (n : Int)) = ((grownN r n).length : Nat) := by
    rw [hlen]; split <;> omega
  refine callSpecO_of Tryd.pr Tryd.func25 rfl rfl rfl fun w0 ok0 hok hG => ?_
  refine ev_rs [] rfl trivial ?_
  refine ev_rs [] rfl ?_ ?_
  · refine ⟨⟨?_, ?_, ?_⟩, trivial⟩
    all_goals
      show _ ≤ (_ : Int)
      first | exact Int.le_refl _ | skip
    · exact hmax ▸ Int.natCast_nonneg _
    · exact hmax ▸ (by omega : (((grownN r n).length : Nat) : Int) ≤ 1099511627776)
  refine ev_made 5 10 (grownN r n).length rfl rfl (show (if (r.length : Int) > (n : Int) then (r.length : Int) else (n : Int)).toNat = _ by rw [hmax]; rfl) ?_
  refine ev_rs [] rfl ⟨⟨(by simp : 0 + (grownN r n).length ≤ (List.replicate (grownN r n).length 0).length), trivial⟩, trivial⟩ ?_
  refine ev_rs [] rfl trivial (ev_ret ?_)
  refine .inr ⟨_, 10, _, rfl, rfl, rfl, (by show _ * 1 ≤ (List.replicate (grownN r n).length 0).length; simp), fun j hj => ⟨_, ?_, rfl⟩⟩
  have hj : j < (grownN r n).length := by omega
  have hm : Nat.min r.length (grownN r n).length = r.length := Nat.min_eq_left (by omega)
  show (if 0 ≤ j then (if j < 0 + Nat.min r.length (grownN r n).length then AV.p (u64 (r.getD (j - 0) 0)) else AV.p (u64 ((List.replicate (grownN r n).length 0).getD j 0))) else AV.p (u64 ((List.replicate (grownN r n).length 0).getD j 0))) = AV.p (u64 ((grownN r n).getD j 0))
  rw [if_pos (Nat.zero_le j), hm, getD_grownN, Nat.zero_add, Nat.sub_zero, getD_rep]
  split <;> rfl

/-- A copy. -/
theorem Clone_spec (xs : List Nat) (hl : xs.length < 1099511627776) : CallSpecO Tryd.pr.P Tryd.pr.G 36 [u64s xs] xs.length 1 (fun j => u64 (xs.getD j 0)) := by
  refine callSpecO_of Tryd.pr Tryd.func36 rfl rfl rfl fun w0 ok0 hok hG => ?_
  refine ev_rs [] rfl trivial ?_
  cases xs with
  | nil =>
    refine ev_empty 0 1 rfl fun A cap => ?_
    cases A with
    | none =>
      exact ev_seq (ev_rs [] rfl trivial (ev_ct rfl (ev_rs [] rfl trivial (ev_ret (.inl ⟨_, rfl, rfl, rfl⟩)))))
    | some A =>
      refine ev_seq (ev_rs [] rfl trivial (ev_cf rfl (ev_sk ?_)))
      refine ev_wk (σ' := mk [(0, .p (u64s []))] []) (wk (fun i => i) ⟨le_p ren_nil PLe.empty, trivial⟩ trivial rfl) ?_
      refine ev_rs [] rfl ⟨⟨by decide, rfl, trivial⟩, trivial⟩ (ev_app 2 7 [] [] rfl rfl rfl rfl rfl (fun j hj => by cases hj) (fun j _ => rfl) (ev_ret (.inr ⟨_, 7, _, rfl, rfl, rfl, Nat.le_refl _, fun j hj => ⟨_, rfl, rfl⟩⟩)))
  | cons x xs =>
    refine ev_seq (ev_rs [] rfl ⟨by show (xs.length + 1) * 1 ≠ 0; omega, trivial⟩ (ev_cf rfl (ev_sk ?_)))
    refine ev_rs [] rfl ⟨⟨?_, rfl, trivial⟩, trivial⟩ (ev_app 2 7 [] (x :: xs) rfl rfl rfl rfl rfl (fun j hj => by cases hj) (fun j _ => rfl) (ev_ret (.inr ⟨_, 7, _, rfl, rfl, rfl, ?_, fun j hj => ⟨_, rfl, rfl⟩⟩)))
    · show 0 + (xs.length + 1) ≤ 1099511627776
      simp at hl
      omega
    · show _ * 1 ≤ ([] ++ x :: xs).length
      simp

/-- A rule's polynomial. -/
theorem Char_ok {p : Nat} (hm : MayM p) (hb : isB p = true) (r : List Nat) (hr : r.length < 1000000) :
    CallSpec Tryd.pr.P Tryd.pr.G 14 [u64 p, u64s r] (.tup 2 (two (u64s (charN p r)) (i64 0))) := by
  refine callSpec_of Tryd.pr Tryd.func14 rfl rfl rfl fun w0 ok0 hok hG => ?_
  refine ev_rs [] rfl trivial ?_
  refine ev_rs [.tup 2 (two (newF p) (i64 0))] rfl ⟨.inl (field_ok hm hb), trivial⟩ ?_
  refine ev_seq (ev_rs [] rfl trivial (ev_cf rfl (ev_sk ?_)))
  have e1 : IntKind.wrap .i64 ((r.length : Int) + 1) = ((r.length + 1 : Nat) : Int) := by rw [wrapI _ (by omega) (by omega)]; omega
  refine ev_rs [] rfl ?_ ?_
  · rw [e1]
    exact ⟨⟨by omega, by omega, by omega⟩, trivial⟩
  refine ev_made 8 22 (r.length + 1) rfl rfl (show (IntKind.wrap .i64 ((r.length : Int) + 1)).toNat = _ by rw [e1]; rfl) ?_
  have hrl : (List.replicate (r.length + 1) 0).length = r.length + 1 := List.length_replicate
  refine ev_rs [] rfl ⟨(by rw [hrl]; omega : r.length + 1 ≤ (List.replicate (r.length + 1) 0).length), ⟨by omega, by omega⟩, trivial⟩ ?_
  refine ev_set 22 r.length 1 rfl rfl rfl (by rw [hrl]; omega) ?_
  refine ev_at (α := Unit) (fun _ => True) (fun _ => [(8, .own 22 0 (r.length + 1) 1)]) (fun _ => [(22, ob64 (charK p r r.length))]) ?_ ?_
  · refine ev_rs [] rfl trivial ?_
    refine ev_block (ev_while (α := Nat) (fun i => i ≤ r.length) (fun i => [(0, .p (u64 p)), (1, .p (u64s r)), (6, .p (newF p)), (8, .own 22 0 (r.length + 1) 1), (27, .p (u64s r)), (28, .p (i64 r.length)), (29, .p (i64 i))]) (fun i => [(22, ob64 (charK p r i))]) (fun i => r.length - i) 0
      (Nat.zero_le _) (wk_ob rfl (fun hd => ⟨le_refl hd _, le_refl hd _, le_refl hd _, le_o rfl, le_refl hd _, le_refl hd _, le_refl hd _, trivial⟩)) ?_)
    rintro i h1
    refine ev_rs [] rfl trivial (ev_seq (ev_cond rfl (fun h => ev_sk ?_) (fun h => ev_exit ?_)))
    · have hi : i < r.length := Int.ofNat_lt.mp (of_decide_eq_true h)
      refine ev_seq (ev_block ?_)
      have e2 : IntKind.wrap .i64 (IntKind.wrap .i64 ((r.length : Int) - 1) - (i : Int)) = ((r.length - 1 - i : Nat) : Int) := by
        rw [wrapI ((r.length : Int) - 1) (by omega) (by omega), wrapI _ (by omega) (by omega)]; omega
      have hck := length_charK p r i
      refine ev_rs [] rfl ⟨hi, ⟨by omega, by omega⟩, trivial⟩ ?_
      refine ev_region [u64 (r.getD i 0 % p)] rfl ?_ ?_
      · rw [e2]
        exact ⟨(by rw [hck]; omega : r.length - 1 - i + 1 ≤ (charK p r i).length), ⟨by omega, by omega⟩, .inl (Of_spec hm _), trivial⟩
      refine ev_set 22 (r.length - 1 - i) (r.getD i 0 % p) rfl (by show (IntKind.wrap .i64 (IntKind.wrap .i64 ((r.length : Int) - 1) - (i : Int))).toNat = _; rw [e2]; rfl) rfl (by rw [hck]; omega) ?_
      refine ev_region [] rfl trivial ⟨i + 1, hi, by dsimp only; omega, wk_ob rfl (fun hd => ⟨le_refl hd _, le_refl hd _, le_refl hd _, le_o rfl, le_refl hd _, le_refl hd _, le_n hd (congrArg (fun z => PV.val (.int .i64 z)) (wrapI _ (by omega) (by omega))), trivial⟩)⟩
    · have hi : i = r.length := by
        have := of_decide_eq_false h
        omega
      subst hi
      exact at_ob () trivial rfl (fun hd => ⟨le_o rfl, trivial⟩)
  rintro ⟨⟩ -
  refine ev_rs [] rfl trivial (ev_ret (ret2 (fz_ob' rfl (by rw [length_charK]) (charK_all p r)) (fz_p (PLe.refl _))))

theorem Char_no {p : Nat} (hp : p < 18446744073709551616) (h : ¬ (p < 9223372036854775808 ∧ isB p = true)) (r : PV) :
    CallSpec Tryd.pr.P Tryd.pr.G 14 [u64 p, r] (.tup 2 (two nilS (i64 14))) := by
  refine callSpec_of Tryd.pr Tryd.func14 rfl rfl rfl fun w0 ok0 hok hG => ?_
  refine ev_rs [] rfl trivial ?_
  refine ev_rs [.tup 2 (two nilP (i64 14))] rfl ⟨.inl (field_no hp h), trivial⟩ ?_
  refine ev_seq (ev_rs [] rfl trivial (ev_ct rfl ?_))
  exact ev_rs [] rfl trivial (ev_ret (ret2 (fz_p (PLe.refl _)) (fz_p (PLe.refl _))))

theorem Holds_no {p : Nat} (hp : p < 18446744073709551616) (h : ¬ (p < 9223372036854775808 ∧ isB p = true)) (r row : PV) :
    CallSpec Tryd.pr.P Tryd.pr.G 17 [u64 p, r, row] (.tup 2 (two (Vinc.bool false) (i64 14))) := by
  refine callSpec_of Tryd.pr Tryd.func17 rfl rfl rfl fun w0 ok0 hok hG => ?_
  refine ev_rs [] rfl trivial ?_
  refine ev_rs [.tup 2 (two nilP (i64 14))] rfl ⟨.inl (field_no hp h), trivial⟩ ?_
  refine ev_seq (ev_rs [] rfl trivial (ev_ct rfl ?_))
  exact ev_rs [] rfl trivial (ev_ret (ret2 (fz_p (PLe.refl _)) (fz_p (PLe.refl _))))

theorem Holds_ok {p : Nat} (hm : MayM p) (hb : isB p = true) (r row : List Nat) (hl : row.length < 1000000) (hr : r.length < 1000000) :
    CallSpec Tryd.pr.P Tryd.pr.G 17 [u64 p, u64s r, u64s row] (.tup 2 (two (Vinc.bool (holdsB p r row)) (i64 0))) := by
  refine callSpec_of Tryd.pr Tryd.func17 rfl rfl rfl fun w0 ok0 hok hG => ?_
  refine ev_rs [] rfl trivial ?_
  refine ev_rs [.tup 2 (two (newF p) (i64 0))] rfl ⟨.inl (field_ok hm hb), trivial⟩ ?_
  refine ev_seq (ev_rs [] rfl trivial (ev_cf rfl (ev_sk ?_)))
  refine ev_at (α := Unit) (fun _ => ∀ i, i < row.length → r.length ≤ i → missN p r row i = 0) (fun _ => []) (fun _ => []) ?_ ?_
  · refine ev_rs [] rfl trivial ?_
    refine ev_block (ev_while0 (α := Nat) (fun i => r.length ≤ i ∧ (i ≤ row.length ∨ i = r.length) ∧ ∀ j, j < i → j < row.length → r.length ≤ j → missN p r row j = 0) (fun i => [(1, .p (u64s r)), (2, .p (u64s row)), (8, .p (newF p)), (10, .p (i64 i))]) (fun i => row.length - i) r.length
      ⟨Nat.le_refl _, .inr rfl, fun j h1 _ h3 => by omega⟩ ⟨le_0, le_0, le_0, le_0, trivial⟩ ?_)
    rintro i ⟨h1, h2, h3⟩
    refine ev_seq (ev_rs [] rfl trivial (ev_cond rfl (fun h => ev_sk ?_) (fun h => ev_exit ?_)))
    · have hi : i < row.length := Int.ofNat_lt.mp (of_decide_eq_true h)
      refine ev_seq (ev_block ?_)
      refine ev_rs [u64 (missN p r row i)] rfl ⟨.inl (miss_spec hm r row i hi h1 (by omega)), trivial⟩ (ev_cond rfl (fun h => ?_) (fun h => ?_))
      · have hne : missN p r row i ≠ 0 := fun e => (bne_iff_ne.mp h) (Int.ofNat_inj.mpr e)
        refine ev_rs [] rfl trivial (ev_ret (ret2 (fz_p (PLe.of_eq (congrArg Vinc.bool ?_))) (fz_p (PLe.refl _))))
        exact (decide_eq_false fun hall => hne (hall i hi h1)).symm
      · have heq : missN p r row i = 0 := Int.ofNat_inj.mp (bne_eq_false_iff_eq.mp h)
        refine ev_skip ?_
        refine ev_region [] rfl trivial (round0 (i + 1) ⟨by omega, .inl hi, fun j h4 h5 h6 => ?_⟩ (by omega) ⟨le_0, le_0, le_0, le_e (congrArg (fun z => PV.val (.int .i64 z)) (wrapI _ (by omega) (by omega))), trivial⟩)
        rcases Nat.lt_or_ge j i with hj | hj
        · exact h3 j hj h5 h6
        · rw [show j = i by omega]; exact heq
    · have hi : row.length ≤ i := by
        have := of_decide_eq_false h
        omega
      exact at0 () (fun j h4 h5 => h3 j (by omega) h4 h5) trivial
  rintro ⟨⟩ h
  refine ev_rs [] rfl trivial (ev_ret (ret2 (fz_p (PLe.of_eq (congrArg Vinc.bool ?_))) (fz_p (PLe.refl _))))
  exact (decide_eq_true h).symm

theorem Same_spec (xs ys : List Nat) (hl : xs.length < 1000000) (hl2 : ys.length < 1000000) : CallSpec Tryd.pr.P Tryd.pr.G 19 [u64s xs, u64s ys] (Vinc.bool (decide (xs = ys))) := by
  refine callSpec_of Tryd.pr Tryd.func19 rfl rfl rfl fun w0 ok0 hok hG => ?_
  refine ev_rs [] rfl trivial ?_
  refine ev_seq (ev_rs [] rfl trivial (ev_cond rfl (fun h => ?_) (fun h => ev_sk ?_)))
  · have hne : xs.length ≠ ys.length := fun e => (bne_iff_ne.mp h) (Int.ofNat_inj.mpr e)
    refine ev_rs [] rfl trivial (ev_ret (ret1 (fz_p (PLe.of_eq (congrArg Vinc.bool ?_)))))
    exact (decide_eq_false fun e => hne (congrArg _ e)).symm
  have hlen : xs.length = ys.length := Int.ofNat_inj.mp (bne_eq_false_iff_eq.mp h)
  refine ev_at (α := Unit) (fun _ => xs = ys) (fun _ => []) (fun _ => []) ?_ ?_
  · refine ev_rs [] rfl trivial ?_
    refine ev_block (ev_while0 (α := Nat) (fun i => i ≤ xs.length ∧ ∀ j, j < i → xs.getD j 0 = ys.getD j 0) (fun i => [(0, .p (u64s xs)), (1, .p (u64s ys)), (5, .p (i64 i))]) (fun i => xs.length - i) 0
      ⟨Nat.zero_le _, fun j h1 => by omega⟩ ⟨le_0, le_0, le_0, trivial⟩ ?_)
    rintro i ⟨h1, h3⟩
    refine ev_seq (ev_rs [] rfl trivial (ev_cond rfl (fun h => ev_sk ?_) (fun h => ev_exit ?_)))
    · have hi : i < xs.length := Int.ofNat_lt.mp (of_decide_eq_true h)
      refine ev_seq (ev_block ?_)
      refine ev_ds [] (by kernel_rfl) rfl rfl ⟨(hlen ▸ hi : i < ys.length), ⟨by omega, by omega⟩, hi, ⟨by omega, by omega⟩, trivial⟩ (ev_cond rfl (fun h => ?_) (fun h => ?_))
      · have hne : xs.getD i 0 ≠ ys.getD i 0 := fun e => (bne_iff_ne.mp h) (Int.ofNat_inj.mpr e)
        refine ev_rs [] rfl trivial (ev_ret (ret1 (fz_p (PLe.of_eq (congrArg Vinc.bool ?_)))))
        exact (decide_eq_false fun e => hne (by rw [e])).symm
      · have heq : xs.getD i 0 = ys.getD i 0 := Int.ofNat_inj.mp (bne_eq_false_iff_eq.mp h)
        refine ev_skip ?_
        refine ev_region [] rfl trivial (round0 (i + 1) ⟨hi, fun j h4 => ?_⟩ (by omega) ⟨le_0, le_0, le_e (congrArg (fun z => PV.val (.int .i64 z)) (wrapI _ (by omega) (by omega))), trivial⟩)
        rcases Nat.lt_or_ge j i with hj | hj
        · exact h3 j hj
        · rw [show j = i by omega]; exact heq
    · have hi : i = xs.length := by
        have := of_decide_eq_false h
        omega
      subst hi
      exact at0 () (list_eq hlen h3) trivial
  rintro ⟨⟩ h
  refine ev_rs [] rfl trivial (ev_ret (ret1 (fz_p (PLe.of_eq (congrArg Vinc.bool ?_)))))
  exact (decide_eq_true h).symm

theorem More_no {p : Nat} (hp : p < 18446744073709551616) (h : ¬ (p < 9223372036854775808 ∧ isB p = true)) (r row many : PV) :
    CallSpec Tryd.pr.P Tryd.pr.G 18 [u64 p, r, row, many] (.tup 2 (two nilS (i64 14))) := by
  refine callSpec_of Tryd.pr Tryd.func18 rfl rfl rfl fun w0 ok0 hok hG => ?_
  refine ev_rs [] rfl trivial ?_
  refine ev_rs [.tup 2 (two nilP (i64 14))] rfl ⟨.inl (field_no hp h), trivial⟩ ?_
  refine ev_seq (ev_block (ev_rs [] rfl trivial (ev_ct rfl ?_)))
  exact ev_rs [] rfl trivial (ev_ret (ret2 (fz_p (PLe.refl _)) (fz_p (PLe.refl _))))

theorem More_arg {p : Nat} (hm : MayM p) (hb : isB p = true) (r row : List Nat) (many : Int) (h : many < 0 ∨ row.length < r.length) :
    CallSpec Tryd.pr.P Tryd.pr.G 18 [u64 p, u64s r, u64s row, i64 many] (.tup 2 (two nilS (i64 1))) := by
  refine callSpec_of Tryd.pr Tryd.func18 rfl rfl rfl fun w0 ok0 hok hG => ?_
  refine ev_rs [] rfl trivial ?_
  refine ev_rs [.tup 2 (two (newF p) (i64 0))] rfl ⟨.inl (field_ok hm hb), trivial⟩ ?_
  refine ev_seq (ev_block (ev_rs [] rfl trivial (ev_cf rfl ?_)))
  refine ev_rs [] rfl (by repeat' (first | exact trivial | exact gd_t | exact gd_f | exact (fun _ => rfl) | intro _ | apply And.intro | assumption | exact rfl | exact gd_t (by assumption) | exact gd_f (by assumption) | exact gd_a (by assumption) (by assumption) | exact gd_b (by assumption) (by assumption))) (ev_cond rfl (fun _ => ?_) (fun h2 => ?_))
  · exact ev_rs [] rfl trivial (ev_ret (ret2 (fz_p (PLe.refl _)) (fz_p (PLe.refl _))))
  · exfalso
    rcases h with h | h
    · rw [decide_eq_true h] at h2; cases h2
    · rw [decide_eq_true (Int.ofNat_lt.mpr h)] at h2
      cases hd : decide (many < 0) <;> rw [hd] at h2 <;> cases h2

theorem More_limit {p : Nat} (hm : MayM p) (hb : isB p = true) (r row : List Nat) (many : Int) (h : 100000 < many) (hr : r.length ≤ row.length) :
    CallSpec Tryd.pr.P Tryd.pr.G 18 [u64 p, u64s r, u64s row, i64 many] (.tup 2 (two nilS (i64 13))) := by
  refine callSpec_of Tryd.pr Tryd.func18 rfl rfl rfl fun w0 ok0 hok hG => ?_
  refine ev_rs [] rfl trivial ?_
  refine ev_rs [.tup 2 (two (newF p) (i64 0))] rfl ⟨.inl (field_ok hm hb), trivial⟩ ?_
  refine ev_seq (ev_block (ev_rs [] rfl trivial (ev_cf rfl ?_)))
  refine ev_rs [] rfl (by repeat' (first | exact trivial | exact gd_t | exact gd_f | exact (fun _ => rfl) | intro _ | apply And.intro | assumption | exact rfl | exact gd_t (by assumption) | exact gd_f (by assumption) | exact gd_a (by assumption) (by assumption) | exact gd_b (by assumption) (by assumption))) (ev_cond rfl (fun h2 => ?_) (fun h2 => ?_))
  · exfalso
    rw [decide_eq_false (by omega), decide_eq_false (by omega)] at h2
    cases h2
  refine ev_rs [] rfl trivial (ev_cond rfl (fun _ => ?_) (fun h3 => ?_))
  · exact ev_rs [] rfl trivial (ev_ret (ret2 (fz_p (PLe.refl _)) (fz_p (PLe.refl _))))
  · exact absurd h (of_decide_eq_false h3)

theorem More_ok {p : Nat} (hm : MayM p) (hb : isB p = true) (r row : List Nat) (many : Nat) (h : many ≤ 100000) (hr : r.length ≤ row.length) (hl : row.length < 1000000) :
    CallSpec Tryd.pr.P Tryd.pr.G 18 [u64 p, u64s r, u64s row, i64 many] (.tup 2 (two (u64s (moreN p r (row.map (· % p)) many)) (i64 0))) := by
  refine callSpec_of Tryd.pr Tryd.func18 rfl rfl rfl fun w0 ok0 hok hG => ?_
  refine ev_rs [] rfl trivial ?_
  refine ev_rs [.tup 2 (two (newF p) (i64 0))] rfl ⟨.inl (field_ok hm hb), trivial⟩ ?_
  refine ev_at (α := Unit) (fun _ => True) (fun _ => [(1, .p (u64s r)), (2, .p (u64s row)), (3, .p (i64 many)), (10, .p (newF p))]) (fun _ => []) ?_ ?_
  · refine ev_block (ev_rs [] rfl trivial (ev_cf rfl ?_))
    refine ev_rs [] rfl (by repeat' (first | exact trivial | exact gd_t | exact gd_f | exact (fun _ => rfl) | intro _ | apply And.intro | assumption | exact rfl | exact gd_t (by assumption) | exact gd_f (by assumption) | exact gd_a (by assumption) (by assumption) | exact gd_b (by assumption) (by assumption))) (ev_cond rfl (fun h2 => ?_) (fun h2 => ?_))
    · exfalso
      rw [decide_eq_false (by omega), decide_eq_false (by omega)] at h2
      cases h2
    refine ev_rs [] rfl trivial (ev_cf ?_ ?_)
    · show AV.p (PV.val (.bool (decide ((many : Int) > 100000)))) = _
      rw [decide_eq_false (by omega)]
    refine ev_skip (at0 () trivial ⟨le_0, le_0, le_0, le_0, trivial⟩)
  rintro ⟨⟩ -
  refine ev_rs [ownR row.length 1 (fun j => u64 (row.getD j 0))] rfl ?_ ?_
  · exact ⟨⟨trivial, Clone_spec row (by omega)⟩, ⟨⟨by omega, by omega⟩, by omega, by omega⟩, trivial⟩
  refine ev_at (α := Unit) (fun _ => True) (fun _ => [(1, .p (u64s r)), (3, .p (i64 many)), (10, .p (newF p)), (12, .own 43 0 row.length 1)]) (fun _ => [(43, ob64 (modK p row row.length))]) ?_ ?_
  · refine ev_rs [] rfl trivial ?_
    refine ev_block (ev_while (α := Nat) (fun i => i ≤ row.length) (fun i => [(1, .p (u64s r)), (3, .p (i64 many)), (10, .p (newF p)), (12, .own 43 0 row.length 1), (45, .p (i64 row.length)), (46, .p (i64 i))]) (fun i => [(43, ob64 (modK p row i))]) (fun i => row.length - i) 0
      (Nat.zero_le _) (wk_ob rfl (fun hd => ⟨le_refl hd _, le_refl hd _, le_refl hd _, le_o rfl, le_refl hd _, le_refl hd _, trivial⟩)) ?_)
    rintro i h1
    refine ev_rs [] rfl trivial (ev_seq (ev_cond rfl (fun h => ev_sk ?_) (fun h => ev_exit ?_)))
    · have hi : i < row.length := Int.ofNat_lt.mp (of_decide_eq_true h)
      refine ev_seq (ev_block ?_)
      have hck := length_modK p row i
      refine ev_rs [] rfl trivial ?_
      refine ev_region [u64 ((modK p row i).getD i 0 % p)] rfl ?_ ?_
      · exact ⟨(by rw [hck]; omega : i + 1 ≤ (modK p row i).length), ⟨by omega, by omega⟩, .inl (Of_spec hm _), (by rw [hck]; omega : i < (modK p row i).length), ⟨by omega, by omega⟩, trivial⟩
      refine ev_set 43 i ((modK p row i).getD i 0 % p) rfl rfl rfl (by rw [hck]; omega) ?_
      refine ev_region [] rfl trivial ⟨i + 1, hi, by dsimp only; omega, wk_ob rfl (fun hd => ⟨le_refl hd _, le_refl hd _, le_refl hd _, le_o rfl, le_refl hd _, le_n hd (congrArg (fun z => PV.val (.int .i64 z)) (wrapI _ (by omega) (by omega))), trivial⟩)⟩
    · have hi : i = row.length := by
        have := of_decide_eq_false h
        omega
      subst hi
      exact at_ob () trivial rfl (fun hd => ⟨le_refl hd _, le_refl hd _, le_refl hd _, le_o rfl, trivial⟩)
  rintro ⟨⟩ -
  have hmap := modK_all p row
  have hml := length_modK p row row.length
  refine ev_at (α := Unit) (fun _ => True) (fun _ => [(12, .own 43 0 (row.length + many) 1)]) (fun _ => [(43, ob64 (moreN p r (row.map (· % p)) many))]) ?_ ?_
  · refine ev_rs [] rfl trivial ?_
    refine ev_block (ev_while (α := Nat) (fun i => i ≤ many) (fun i => [(1, .p (u64s r)), (10, .p (newF p)), (12, .own 43 0 (row.length + i) 1), (59, .p (i64 many)), (60, .p (i64 i))]) (fun i => [(43, ob64 (moreN p r (row.map (· % p)) i))]) (fun i => many - i) 0
      (Nat.zero_le _) (wk_ob (congrArg (fun l => some (ob64 l)) hmap) (fun hd => ⟨le_refl hd _, le_refl hd _, le_o rfl, le_refl hd _, le_refl hd _, trivial⟩)) ?_)
    rintro i h1
    refine ev_rs [] rfl trivial (ev_seq (ev_cond rfl (fun h => ev_sk ?_) (fun h => ev_exit ?_)))
    · have hi : i < many := Int.ofNat_lt.mp (of_decide_eq_true h)
      refine ev_seq (ev_block ?_)
      have hck : (moreN p r (row.map (· % p)) i).length = row.length + i := by rw [length_moreN, List.length_map]
      obtain ⟨ys, hys⟩ : ∃ ys, moreN p r (row.map (· % p)) i = ys := ⟨_, rfl⟩
      have hst : moreN p r (row.map (· % p)) (i + 1) = ys ++ [sb 0 (missN p r (ys ++ [0]) ys.length) p] := by rw [← hys]; rfl
      rw [hys] at hck
      refine ev_ob 43 (ob64 ys) (congrArg (fun l => some (ob64 l)) hys) ?_
      have hl1 : (ys ++ [0]).length = ys.length + 1 := by simp
      have e1 : IntKind.wrap .i64 (((ys ++ [0]).length : Nat) - 1 : Int) = (ys.length : Int) := by rw [hl1, wrapI _ (by omega) (by omega)]; omega
      refine ev_rs [] rfl ?_ (ev_app 12 64 ys [0] rfl rfl (by rw [hck]; rfl) (by show row.length + i + 1 = _; rw [hck]; rfl) hck.symm (fun j hj => rfl) (fun j hj => ?_) ?_)
      · exact ⟨⟨by omega, hck, Nat.le_refl 1⟩, trivial⟩
      · match j, hj with
        | 0, _ => rfl
      refine ev_rs [] rfl trivial (ev_eq 14 (.p (i64 ys.length)) (congrArg (fun z => AV.p (PV.val (.int .i64 z))) e1) ?_)
      refine ev_region [u64 (missN p r (ys ++ [0]) ys.length), u64 (sb 0 (missN p r (ys ++ [0]) ys.length) p)] rfl ?_ ?_
      · exact ⟨(by rw [hl1]; omega : ys.length + 1 ≤ (ys ++ [0]).length), ⟨by omega, by rw [hl1]; omega⟩, .inl (Sb_spec hm 0 _), ⟨⟨(by omega : 0 + (ys ++ [0]).length ≤ (ys ++ [0]).length), trivial⟩, .inl (miss_spec hm r (ys ++ [0]) ys.length (by rw [hl1]; omega) (by omega) (by rw [hl1]; omega))⟩, trivial⟩
      refine ev_set 64 ys.length (sb 0 (missN p r (ys ++ [0]) ys.length) p) rfl rfl rfl (by rw [hl1]; omega) ?_
      refine ev_region [] rfl trivial ⟨i + 1, hi, by dsimp only; omega, wk_ren (i' := 64) (congrArg (fun l => some (ob64 l)) ((set_last ys _).trans hst.symm)) (fun hd => ⟨le_refl hd _, le_refl hd _, le_ren rfl ?_, le_refl hd _, le_n hd (congrArg (fun z => PV.val (.int .i64 z)) (wrapI _ (by omega) (by omega))), trivial⟩)⟩
      rw [hl1, hck]
      rfl
    · have hi : i = many := by
        have := of_decide_eq_false h
        omega
      subst hi
      exact at_ob () trivial rfl (fun hd => ⟨le_o rfl, trivial⟩)
  rintro ⟨⟩ -
  exact ev_rs [] rfl trivial (ev_ret (ret2 (fz_ob' rfl (by rw [length_moreN, List.length_map]) rfl) (fz_p (PLe.refl _))))

end
end Go.Proofs

/- The search for a rule, walked. -/
set_option linter.unusedVariables false
namespace Go.Proofs
open Go Vinc Vinc.Num

theorem Find_no {p : Nat} (hp : p < 18446744073709551616) (h : ¬ (p < 9223372036854775808 ∧ isB p = true)) (row : PV) :
    CallSpec Tryd.pr.P Tryd.pr.G 10 [u64 p, row] (.tup 2 (two nilS (i64 14))) := by
  refine callSpec_of Tryd.pr Tryd.func10 rfl rfl rfl fun w0 ok0 hok hG => ?_
  refine ev_rs [] rfl trivial ?_
  refine ev_rs [.tup 2 (two nilP (i64 14))] rfl ⟨.inl (field_no hp h), trivial⟩ ?_
  refine ev_seq (ev_block (ev_rs [] rfl trivial (ev_ct rfl ?_)))
  exact ev_rs [] rfl trivial (ev_ret (ret2 (fz_p (PLe.refl _)) (fz_p (PLe.refl _))))

theorem Find_ok {p : Nat} (hm : MayM p) (hb : isB p = true) (row : List Nat) (hl : row.length ≤ 10000) :
    CallSpec Tryd.pr.P Tryd.pr.G 10 [u64 p, u64s row] (.tup 2 (two (u64s (findN (minv p) p row row.length).now) (i64 0))) := by
  refine callSpec_of Tryd.pr Tryd.func10 rfl rfl rfl fun w0 ok0 hok hG => ?_
  refine ev_rs [] rfl trivial ?_
  refine ev_rs [.tup 2 (two (newF p) (i64 0))] rfl ⟨.inl (field_ok hm hb), trivial⟩ ?_
  refine ev_at (α := Unit) (fun _ => True) (fun _ => [(1, .p (u64s row)), (6, .p (newF p))]) (fun _ => []) ?_ ?_
  · refine ev_block (ev_rs [] rfl trivial (ev_cf rfl ?_))
    refine ev_rs [] rfl trivial (ev_cond rfl (fun h2 => ?_) (fun h2 => ?_))
    · have := of_decide_eq_true h2
      exact absurd this (by show ¬ ((row.length : Int) > 10000); omega)
    refine ev_skip (at0 () trivial ⟨le_0, le_0, trivial⟩)
  rintro ⟨⟩ -
  refine ev_rs [] rfl trivial ?_
  refine ev_rs [u64 (1 % p)] rfl ⟨.inl (Of_spec hm _), trivial⟩ ?_
  refine ev_at (α := Unit) (fun _ => True) (fun _ => [(8, .p (u64s (findN (minv p) p row row.length).now))]) (fun _ => []) ?_ ?_
  · refine ev_rs [] rfl trivial ?_
    refine ev_block (ev_while0 (α := Nat × FS) (fun a => a.1 ≤ row.length ∧ findN (minv p) p row a.1 = a.2 ∧ FOk a.2 a.1)
      (fun a => [(1, .p (u64s row)), (6, .p (newF p)), (8, .p (u64s a.2.now)), (9, .p (u64s a.2.old)), (10, .p (u64 a.2.was)), (11, .p (i64 a.2.gap)), (35, .p (i64 row.length)), (36, .p (i64 a.1))]) (fun a => row.length - a.1) (0, ⟨[], [], 1 % p, 1⟩)
      ⟨Nat.zero_le _, rfl, rfl, Nat.le_refl 1⟩ ⟨le_0, le_0, le_p ren_nil PLe.nil, le_p ren_nil PLe.nil, le_0, le_0, le_0, le_0, trivial⟩ ?_)
    rintro ⟨n, now, old, was, gap⟩ ⟨h1, h2, h3, h4⟩
    dsimp only at h1 h2 h3 h4
    refine ev_rs [] rfl trivial (ev_seq (ev_cond rfl (fun h => ev_sk ?_) (fun h => ev_exit ?_)))
    · have hi : n < row.length := Int.ofNat_lt.mp (of_decide_eq_true h)
      have hstep : findN (minv p) p row (n + 1) = stepN (minv p) p row ⟨now, old, was, gap⟩ n := by rw [← h2]; rfl
      have hfok := stepN_ok (minv p) p row ⟨now, old, was, gap⟩ n ⟨h3, h4⟩
      have eat : IntKind.wrap .i64 ((n : Int) + 1) = ((n + 1 : Nat) : Int) := by rw [wrapI _ (by omega) (by omega)]; rfl
      have egap : IntKind.wrap .i64 ((gap : Int) + 1) = ((gap + 1 : Nat) : Int) := by rw [wrapI _ (by omega) (by omega)]; rfl
      refine ev_seq (ev_block ?_)
      refine ev_rs [] rfl trivial ?_
      refine ev_rs [u64 (missN p now row n)] rfl ⟨.inl (miss_spec hm now row n hi (by omega) (by omega)), trivial⟩ ?_
      obtain ⟨d, hd⟩ : ∃ d, missN p now row n = d := ⟨_, rfl⟩
      refine ev_n 13 d rfl (toN hd) ?_
      refine ev_seq (ev_rs [] rfl trivial (ev_cond rfl (fun h => ?_) (fun h => ev_sk ?_)))
      · have hd0 : d = 0 := Int.ofNat_inj.mp (beq_iff_eq.mp h)
        have e : stepN (minv p) p row ⟨now, old, was, gap⟩ n = ⟨now, old, was, gap + 1⟩ := by unfold stepN; rw [if_pos (hd.trans hd0)]
        rw [e] at hstep hfok
        refine ev_rs [] rfl trivial (ev_exit ?_)
        exact ev_region [] rfl trivial (round0 (n + 1, ⟨now, old, was, gap + 1⟩) ⟨hi, hstep, hfok⟩ (by dsimp only; omega) ⟨le_0, le_0, le_0, le_0, le_0, le_e (congrArg (fun z => PV.val (.int .i64 z)) egap), le_0, le_e (congrArg (fun z => PV.val (.int .i64 z)) eat), trivial⟩)
      have hd0 : ¬ d = 0 := fun e => (beq_eq_false_iff_ne.mp h) (Int.ofNat_inj.mpr e)
      refine ev_rs [.tup 2 (two (u64 (minv p was)) (i64 (wrong was p)))] rfl ⟨.inl (Inv_spec hm _), trivial⟩ ?_
      refine ev_rs [u64 (d * minv p was % p)] rfl ⟨.inl (Mul_spec hm _ _), trivial⟩ ?_
      obtain ⟨t, ht⟩ : ∃ t, d * minv p was % p = t := ⟨_, rfl⟩
      refine ev_n 16 t rfl (toN ht) ?_
      have e1 : IntKind.wrap .i64 ((gap : Int) + (old.length : Int)) = ((gap + old.length : Nat) : Int) := by rw [wrapI _ (by omega) (by omega)]; rfl
      have e2 : IntKind.wrap .i64 ((gap : Int) - 1) = ((gap - 1 : Nat) : Int) := by rw [wrapI _ (by omega) (by omega)]; omega
      have hg1 : (grownN now (gap + old.length)).length = gap + old.length ∨ (grownN now (gap + old.length)).length = now.length := by rw [length_grownN]; omega
      have hg2 : gap + old.length ≤ (grownN now (gap + old.length)).length := by rw [length_grownN]; omega
      have hnx : nextN (minv p) p d ⟨now, old, was, gap⟩ = updN p t old gap (headN p t gap (grownN now (gap + old.length))) old.length := by unfold nextN; rw [ht]
      obtain ⟨g0, hg0⟩ : ∃ g0, grownN now (gap + old.length) = g0 := ⟨_, rfl⟩
      have hhl := length_headN p t gap g0
      refine ev_rs [ownR (grownN now (gap + old.length)).length 1 (fun j => u64 ((grownN now (gap + old.length)).getD j 0))] rfl ?_ ?_
      · rw [e1]
        exact ⟨⟨trivial, grown_spec now (gap + old.length) (by omega) (by omega)⟩, trivial⟩
      refine ev_eq 17 (.own 63 0 g0.length 1) (congrArg (fun l => AV.own 63 0 (List.length l) 1) hg0) (ev_ob 63 (ob64 g0) (congrArg (fun l => some (ob64 l)) hg0) ?_)
      rw [hg0] at hnx hg1 hg2
      refine ev_rs [u64 (sb (g0.getD (gap - 1) 0) t p)] rfl ?_ ?_
      · rw [e2]
        exact ⟨(by omega : gap - 1 + 1 ≤ g0.length), ⟨by omega, by omega⟩, .inl (Sb_spec hm _ _), (by omega : gap - 1 < g0.length), ⟨by omega, by omega⟩, trivial⟩
      refine ev_set 63 (gap - 1) (sb (g0.getD (gap - 1) 0) t p) rfl (by show (IntKind.wrap .i64 ((gap : Int) - 1)).toNat = _; rw [e2]; rfl) rfl (by omega) ?_
      refine ev_at (α := Unit) (fun _ => True) (fun _ => [(1, .p (u64s row)), (6, .p (newF p)), (8, .p (u64s now)), (9, .p (u64s old)), (10, .p (u64 was)), (11, .p (i64 gap)), (12, .p (i64 n)), (13, .p (u64 d)), (17, .own 63 0 g0.length 1), (35, .p (i64 row.length)), (36, .p (i64 n))])
        (fun _ => [(63, ob64 (updN p t old gap (headN p t gap g0) old.length))]) ?_ ?_
      · refine ev_rs [] rfl trivial ?_
        refine ev_block (ev_while (α := Nat) (fun i => i ≤ old.length) (fun i => [(1, .p (u64s row)), (6, .p (newF p)), (8, .p (u64s now)), (9, .p (u64s old)), (10, .p (u64 was)), (11, .p (i64 gap)), (12, .p (i64 n)), (13, .p (u64 d)), (16, .p (u64 t)), (17, .own 63 0 g0.length 1), (35, .p (i64 row.length)), (36, .p (i64 n)), (77, .p (i64 old.length)), (78, .p (i64 i))])
          (fun i => [(63, ob64 (updN p t old gap (headN p t gap g0) i))]) (fun i => old.length - i) 0
          (Nat.zero_le _) (wk_ob rfl (fun hd => ⟨le_refl hd _, le_refl hd _, le_refl hd _, le_refl hd _, le_refl hd _, le_refl hd _, le_refl hd _, le_refl hd _, le_refl hd _, le_o rfl, le_refl hd _, le_refl hd _, le_refl hd _, le_refl hd _, trivial⟩)) ?_)
        rintro i h5
        refine ev_rs [] rfl trivial (ev_seq (ev_cond rfl (fun h => ev_sk ?_) (fun h => ev_exit ?_)))
        · have hio : i < old.length := Int.ofNat_lt.mp (of_decide_eq_true h)
          refine ev_seq (ev_block ?_)
          have e3 : IntKind.wrap .i64 ((gap : Int) + (i : Int)) = ((gap + i : Nat) : Int) := by rw [wrapI _ (by omega) (by omega)]; rfl
          have hul : (updN p t old gap (headN p t gap g0) i).length = g0.length := by rw [length_updN, hhl]
          refine ev_rs [] rfl trivial ?_
          refine ev_draw [u64 (t * old.getD i 0 % p), u64 (sb ((updN p t old gap (headN p t gap g0) i).getD (gap + i) 0) (t * old.getD i 0 % p) p)] (by kernel_rfl) rfl rfl ?_ ?_
          · rw [e3]
            exact ⟨(by omega : gap + i + 1 ≤ (updN p t old gap (headN p t gap g0) i).length), ⟨by omega, by omega⟩, .inl (Sb_spec hm _ _), .inl (Mul_spec hm _ _), hio, ⟨by omega, by omega⟩, (by omega : gap + i < (updN p t old gap (headN p t gap g0) i).length), ⟨by omega, by omega⟩, trivial⟩
          refine ev_set 63 (gap + i) (sb ((updN p t old gap (headN p t gap g0) i).getD (gap + i) 0) (t * old.getD i 0 % p) p) rfl (by show (IntKind.wrap .i64 ((gap : Int) + (i : Int))).toNat = _; rw [e3]; rfl) rfl (by omega) ?_
          exact ev_region [] rfl trivial ⟨i + 1, hio, by dsimp only; omega, wk_ob rfl (fun hd => ⟨le_refl hd _, le_refl hd _, le_refl hd _, le_refl hd _, le_refl hd _, le_refl hd _, le_refl hd _, le_refl hd _, le_refl hd _, le_o rfl, le_refl hd _, le_refl hd _, le_refl hd _, le_n hd (congrArg (fun z => PV.val (.int .i64 z)) (wrapI _ (by omega) (by omega))), trivial⟩)⟩
        · have hio : i = old.length := by
            have := of_decide_eq_false h
            omega
          subst hio
          exact at_ob () trivial rfl (fun hd => ⟨le_refl hd _, le_refl hd _, le_refl hd _, le_refl hd _, le_refl hd _, le_refl hd _, le_refl hd _, le_refl hd _, le_o rfl, le_refl hd _, le_refl hd _, trivial⟩)
      rintro ⟨⟩ -
      obtain ⟨n2, hn2⟩ : ∃ n2, updN p t old gap (headN p t gap g0) old.length = n2 := ⟨_, rfl⟩
      have hn2l : g0.length = n2.length := by rw [← hn2, length_updN, hhl]
      have hnx2 := hnx.trans hn2
      refine ev_eq 17 (.own 63 0 n2.length 1) (congrArg (fun l => AV.own 63 0 l 1) hn2l) (ev_ob 63 (ob64 n2) (congrArg (fun l => some (ob64 l)) hn2) ?_)
      have e4 : IntKind.wrap .i64 (2 * (now.length : Int)) = ((2 * now.length : Nat) : Int) := by rw [wrapI _ (by omega) (by omega)]; rfl
      have e5 : IntKind.wrap .i64 (IntKind.wrap .i64 ((n : Int) + 1) - (now.length : Int)) = ((n + 1 - now.length : Nat) : Int) := by rw [eat, wrapI _ (by omega) (by omega)]; omega
      refine ev_seq (ev_rs [] rfl trivial (ev_cond rfl (fun h => ?_) (fun h => ev_sk ?_)))
      · have hgt : n < 2 * now.length := by
          have := of_decide_eq_true h
          rw [e4] at this
          omega
        have e : stepN (minv p) p row ⟨now, old, was, gap⟩ n = ⟨n2, old, was, gap + 1⟩ := by
          unfold stepN
          rw [if_neg (fun e => hd0 (hd.symm.trans e)), if_pos hgt]
          show FS.mk (nextN (minv p) p (missN p now row n) _) _ _ _ = _
          rw [hd, hnx2]
        rw [e] at hstep hfok
        refine ev_rs [] rfl trivial ?_
        refine ev_rs [] rfl trivial (ev_exit ?_)
        exact ev_region [] rfl trivial (round0 (n + 1, ⟨n2, old, was, gap + 1⟩) ⟨hi, hstep, hfok⟩ (by dsimp only; omega) ⟨le_0, le_0, le_fz' rfl rfl rfl, le_0, le_0, le_e (congrArg (fun z => PV.val (.int .i64 z)) egap), le_0, le_e (congrArg (fun z => PV.val (.int .i64 z)) eat), trivial⟩)
      · have hgt : ¬ n < 2 * now.length := by
          have := of_decide_eq_false h
          rw [e4] at this
          omega
        have e : stepN (minv p) p row ⟨now, old, was, gap⟩ n = ⟨grownN n2 (n + 1 - now.length), now, d, 1⟩ := by
          unfold stepN
          rw [if_neg (fun e => hd0 (hd.symm.trans e)), if_neg hgt]
          show FS.mk (grownN (nextN (minv p) p (missN p now row n) _) _) _ (missN p now row n) _ = _
          rw [hd, hnx2]
        rw [e] at hstep hfok
        refine ev_rs [ownR (grownN n2 (n + 1 - now.length)).length 1 (fun j => u64 ((grownN n2 (n + 1 - now.length)).getD j 0))] rfl ?_ ?_
        · rw [e5]
          exact ⟨⟨⟨(by omega : 0 + n2.length ≤ n2.length), trivial⟩, grown_spec n2 (n + 1 - now.length) (by omega) (by omega)⟩, trivial⟩
        refine ev_region [] rfl trivial ?_
        exact ev_region [] rfl trivial (round0 (n + 1, ⟨grownN n2 (n + 1 - now.length), now, d, 1⟩) ⟨hi, hstep, hfok⟩ (by dsimp only; omega) ⟨le_0, le_0, le_fz' rfl rfl rfl, le_0, le_0, le_0, le_0, le_e (congrArg (fun z => PV.val (.int .i64 z)) eat), trivial⟩)
    · have hi : n = row.length := by
        have := of_decide_eq_false h
        dsimp only at this
        omega
      subst hi
      exact at0 () trivial ⟨le_e (congrArg (fun (s : FS) => u64s s.now) h2.symm), trivial⟩
  rintro ⟨⟩ -
  exact ev_rs [] rfl trivial (ev_ret (ret2 (fz_p (PLe.refl _)) (fz_p (PLe.refl _))))

end Go.Proofs

/- Polynomials over a field of words, walked: what powers modulo a polynomial need. -/
set_option linter.unusedVariables false
namespace Go.Proofs
open Go Vinc Vinc.Num

/-- A field of polynomials. -/
noncomputable abbrev polyF (p : Nat) : PV := .ptr 1 (fun _ => newF p) 0

theorem UNew_no {p : Nat} (hp : p < 18446744073709551616) (h : ¬ (p < 9223372036854775808 ∧ isB p = true)) : CallSpec Tryd.pr.P Tryd.pr.G 32 [u64 p] (.tup 2 (two nilP (i64 14))) := by
  refine callSpec_of Tryd.pr Tryd.func32 rfl rfl rfl fun w0 ok0 hok hG => ?_
  refine ev_rs [] rfl trivial ?_
  refine ev_seq (ev_rs [Vinc.bool (isB p)] rfl (by repeat' (first | exact trivial | exact gd_t | exact gd_f | exact .inl (Is_spec p hp) | exact (fun _ => rfl) | intro _ | apply And.intro | assumption | exact rfl | exact gd_t (by assumption) | exact gd_f (by assumption) | exact gd_a (by assumption) (by assumption) | exact gd_b (by assumption) (by assumption))) (ev_cond rfl (fun _ => ?_) (fun h2 => ?_)))
  · exact ev_rs [] rfl trivial (ev_ret (ret2 (fz_p (PLe.refl _)) (fz_p (PLe.refl _))))
  · exfalso
    apply h
    by_cases hq : p < 9223372036854775808
    · refine ⟨hq, ?_⟩
      rw [decide_eq_false (by omega)] at h2
      cases hb : isB p
      · rw [hb] at h2; cases h2
      · rfl
    · rw [decide_eq_true (by omega)] at h2
      cases h2

theorem UNew_ok {p : Nat} (hm : MayM p) (hb : isB p = true) : CallSpec Tryd.pr.P Tryd.pr.G 32 [u64 p] (.tup 2 (two (polyF p) (i64 0))) := by
  have hm2 := hm.2
  refine callSpec_of Tryd.pr Tryd.func32 rfl rfl rfl fun w0 ok0 hok hG => ?_
  refine ev_rs [] rfl trivial ?_
  refine ev_seq (ev_rs [Vinc.bool (isB p)] rfl (by repeat' (first | exact trivial | exact gd_t | exact gd_f | exact .inl (Is_spec p (by omega)) | exact (fun _ => rfl) | intro _ | apply And.intro | assumption | exact rfl | exact gd_t (by assumption) | exact gd_f (by assumption) | exact gd_a (by assumption) (by assumption) | exact gd_b (by assumption) (by assumption))) (ev_cond rfl (fun h => ?_) (fun _ => ev_sk ?_)))
  · exfalso
    rw [hb, decide_eq_false (by omega)] at h
    cases h
  refine ev_rs [.tup 2 (two (newF p) (i64 0))] rfl ⟨.inl (New_spec hm), trivial⟩ ?_
  refine ev_seq (ev_rs [] rfl trivial (ev_cf rfl (ev_sk ?_)))
  refine ev_rs [] rfl trivial (ev_ret (ret2 (fz_oat rfl (Nat.le_refl 1) (fun j hj => ?_)) (fz_p (PLe.refl _))))
  match j, hj with
  | 0, _ => exact fz_p (PLe.refl _)

theorem trim_spec (a : List Nat) (hl : a.length < 1099511627776) : CallSpec Tryd.pr.P Tryd.pr.G 48 [u64s a] (u64s (trimN a)) := by
  refine callSpec_of Tryd.pr Tryd.func48 rfl rfl rfl fun w0 ok0 hok hG => ?_
  refine ev_rs [] rfl trivial ?_
  refine ev_rs [] rfl trivial ?_
  refine ev_at (α := Unit) (fun _ => True) (fun _ => [(0, .p (u64s a)), (3, .p (i64 (trimL a a.length)))]) (fun _ => []) ?_ ?_
  · refine ev_block (ev_while0 (α := Nat) (fun n => n ≤ a.length ∧ trimL a n = trimL a a.length) (fun n => [(0, .p (u64s a)), (3, .p (i64 n))]) (fun n => n) a.length ⟨Nat.le_refl _, rfl⟩ ⟨le_0, le_0, trivial⟩ ?_)
    rintro n ⟨h1, h2⟩
    cases n with
    | zero =>
      exact ev_seq (ev_rs [] rfl (by repeat' (first | exact trivial | exact gd_t | exact gd_f | exact fun h => absurd h (by decide) | exact (fun _ => rfl) | intro _ | apply And.intro | assumption | exact rfl | exact gd_t (by assumption) | exact gd_f (by assumption) | exact gd_a (by assumption) (by assumption) | exact gd_b (by assumption) (by assumption))) (ev_cf rfl (ev_exit (at0 () trivial ⟨le_0, le_e (congrArg (fun z : Nat => i64 z) h2), trivial⟩))))
    | succ n =>
      have e1 : IntKind.wrap .i64 (((n + 1 : Nat) : Int) - 1) = (n : Int) := by rw [wrapI _ (by omega) (by omega)]; omega
      have hpos : decide (((n + 1 : Nat) : Int) > 0) = true := decide_eq_true (by omega)
      refine ev_seq (ev_rs [] rfl ?_ (ev_cond rfl (fun h => ev_sk ?_) (fun h => ev_exit ?_)))
      · rw [e1]
        exact (by repeat' (first | exact trivial | exact gd_t | exact gd_f | exact h1 | exact Int.natCast_nonneg _ | exact Int.ofNat_lt.mpr h1 | exact (fun _ => rfl) | intro _ | apply And.intro | assumption | exact rfl | exact gd_t (by assumption) | exact gd_f (by assumption) | exact gd_a (by assumption) (by assumption) | exact gd_b (by assumption) (by assumption)))
      · rw [hpos, e1] at h
        have h0 : a.getD n 0 = 0 := Int.ofNat_inj.mp (beq_iff_eq.mp h)
        refine ev_block (ev_region [] rfl trivial (round0 n ⟨by omega, ?_⟩ (Nat.lt_succ_self n) ⟨le_0, le_e (congrArg (fun z => PV.val (.int .i64 z)) e1), trivial⟩))
        rw [← h2]
        show _ = if a.getD n 0 = 0 then trimL a n else n + 1
        rw [if_pos h0]
      · rw [hpos, e1] at h
        have h0 : ¬ a.getD n 0 = 0 := fun e => (beq_eq_false_iff_ne.mp h) (Int.ofNat_inj.mpr e)
        refine at0 () trivial ⟨le_0, le_e (congrArg (fun z : Nat => i64 z) ?_), trivial⟩
        rw [← h2]
        show _ = if a.getD n 0 = 0 then trimL a n else n + 1
        rw [if_neg h0]
  rintro ⟨⟩ -
  have ht := trimL_le a a.length
  exact ev_rs [] rfl ⟨⟨by omega, by omega⟩, trivial⟩ (ev_ret (ret1 (fz_p (PLe.take ht))))

theorem Norm_spec {p : Nat} (hm : MayM p) (a : List Nat) (hl : a.length < 1000000) : CallSpec Tryd.pr.P Tryd.pr.G 42 [polyF p, u64s a] (u64s (normN p a)) := by
  refine callSpec_of Tryd.pr Tryd.func42 rfl rfl rfl fun w0 ok0 hok hG => ?_
  refine ev_rs [] rfl trivial ?_
  refine ev_seq (ev_rs [] rfl trivial (ev_cf rfl (ev_sk ?_)))
  refine ev_rs [] rfl ⟨⟨by omega, by omega, by omega⟩, trivial⟩ ?_
  refine ev_made 5 12 a.length rfl rfl rfl ?_
  refine ev_at (α := Unit) (fun _ => True) (fun _ => [(5, .p (u64s (a.map (· % p))))]) (fun _ => []) ?_ ?_
  · refine ev_rs [] rfl trivial ?_
    refine ev_block (ev_while (α := Nat) (fun i => i ≤ a.length) (fun i => [(0, .p (polyF p)), (1, .p (u64s a)), (5, .own 12 0 a.length 1), (13, .p (u64s a)), (14, .p (i64 a.length)), (15, .p (i64 i))]) (fun i => [(12, ob64 (mapK p a i))]) (fun i => a.length - i) 0
      (Nat.zero_le _) (wk_ob rfl (fun hd => ⟨le_refl hd _, le_refl hd _, le_o rfl, le_refl hd _, le_refl hd _, le_refl hd _, trivial⟩)) ?_)
    rintro i h1
    refine ev_rs [] rfl trivial (ev_seq (ev_cond rfl (fun h => ev_sk ?_) (fun h => ev_exit ?_)))
    · have hi : i < a.length := Int.ofNat_lt.mp (of_decide_eq_true h)
      have hck := length_mapK p a i
      refine ev_seq (ev_block ?_)
      refine ev_rs [] rfl ⟨hi, ⟨by omega, by omega⟩, trivial⟩ ?_
      refine ev_region [u64 (a.getD i 0 % p)] rfl ?_ ?_
      · exact ⟨(by omega : i + 1 ≤ (mapK p a i).length), ⟨by omega, by omega⟩, .inl (Of_spec hm _), Nat.zero_lt_one, trivial⟩
      refine ev_set 12 i (a.getD i 0 % p) rfl rfl rfl (by omega) ?_
      exact ev_region [] rfl trivial ⟨i + 1, hi, by dsimp only; omega, wk_ob rfl (fun hd => ⟨le_refl hd _, le_refl hd _, le_o rfl, le_refl hd _, le_refl hd _, le_n hd (congrArg (fun z => PV.val (.int .i64 z)) (wrapI _ (by omega) (by omega))), trivial⟩)⟩
    · have hi : i = a.length := by
        have := of_decide_eq_false h
        omega
      subst hi
      exact at0 () trivial ⟨le_fz' rfl (length_mapK p a a.length).symm (mapK_all p a), trivial⟩
  rintro ⟨⟩ -
  exact ev_rs [u64s (normN p a)] rfl ⟨.inl (trim_spec _ (by rw [List.length_map]; omega)), trivial⟩ (ev_ret (ret1 (fz_p (PLe.refl _))))

theorem one_spec {p : Nat} (hm : MayM p) (a b : List Nat) (hl : a.length < 1000000) (hl2 : b.length < 1000000) : CallSpec Tryd.pr.P Tryd.pr.G 53 [polyF p, u64s a, u64s b] (u64s (oneN p a b)) := by
  refine callSpec_of Tryd.pr Tryd.func53 rfl rfl rfl fun w0 ok0 hok hG => ?_
  refine ev_rs [] rfl trivial ?_
  refine ev_seq (ev_rs [] rfl (by repeat' (first | exact trivial | exact gd_t | exact gd_f | exact (fun _ => rfl) | intro _ | apply And.intro | assumption | exact rfl | exact gd_t (by assumption) | exact gd_f (by assumption) | exact gd_a (by assumption) (by assumption) | exact gd_b (by assumption) (by assumption))) (ev_cond rfl (fun h => ?_) (fun h => ev_sk ?_)))
  · have h0 : a.length = 0 ∨ b.length = 0 := by
      by_cases ha : a.length = 0
      · exact .inl ha
      · right
        have e : (((a.length : Nat) : Int) == 0) = false := beq_eq_false_iff_ne.mpr (by omega)
        rw [e] at h
        exact Int.ofNat_inj.mp (beq_iff_eq.mp h)
    have e : oneN p a b = [] := if_pos h0
    rw [e]
    exact ev_rs [] rfl trivial (ev_ret (ret1 (fz_p PLe.nil)))
  have h0 : ¬ (a.length = 0 ∨ b.length = 0) := by
    rintro (e | e)
    · rw [e] at h; cases h
    · rw [e] at h
      cases hd : (((a.length : Nat) : Int) == 0) <;> rw [hd] at h <;> cases h
  have e0 : oneN p a b = oneO p a b a.length := if_neg h0
  rw [e0]
  have e1 : IntKind.wrap .i64 (IntKind.wrap .i64 ((a.length : Int) + (b.length : Int)) - 1) = ((a.length + b.length - 1 : Nat) : Int) := by
    rw [wrapI ((a.length : Int) + (b.length : Int)) (by omega) (by omega), wrapI _ (by omega) (by omega)]; omega
  obtain ⟨L, hL⟩ : ∃ L, a.length + b.length - 1 = L := ⟨_, rfl⟩
  refine ev_rs [] rfl ?_ ?_
  · rw [e1]
    exact ⟨⟨by omega, by omega, by omega⟩, trivial⟩
  refine ev_made 7 26 L rfl rfl (show (IntKind.wrap .i64 (IntKind.wrap .i64 ((a.length : Int) + (b.length : Int)) - 1)).toNat = _ by rw [e1]; exact hL) ?_
  refine ev_at (α := Unit) (fun _ => True) (fun _ => [(7, .own 26 0 L 1)]) (fun _ => [(26, ob64 (oneO p a b a.length))]) ?_ ?_
  · refine ev_rs [] rfl trivial ?_
    refine ev_block (ev_while (α := Nat) (fun i => i ≤ a.length) (fun i => [(0, .p (polyF p)), (2, .p (u64s b)), (7, .own 26 0 L 1), (27, .p (u64s a)), (28, .p (i64 a.length)), (29, .p (i64 i))]) (fun i => [(26, ob64 (oneO p a b i))]) (fun i => a.length - i) 0
      (Nat.zero_le _) (wk_ob (congrArg (fun l => some (ob64 (List.replicate l 0))) hL.symm) (fun hd => ⟨le_refl hd _, le_refl hd _, le_o rfl, le_refl hd _, le_refl hd _, le_refl hd _, trivial⟩)) ?_)
    rintro i h1
    refine ev_rs [] rfl trivial (ev_seq (ev_cond rfl (fun h => ev_sk ?_) (fun h => ev_exit ?_)))
    · have hi : i < a.length := Int.ofNat_lt.mp (of_decide_eq_true h)
      refine ev_seq (ev_block ?_)
      refine ev_rs [] rfl ⟨hi, ⟨by omega, by omega⟩, trivial⟩ ?_
      refine ev_rs [] rfl trivial ?_
      refine ev_block (ev_while (α := Nat) (fun k => k ≤ b.length) (fun k => [(0, .p (polyF p)), (2, .p (u64s b)), (7, .own 26 0 L 1), (8, .p (i64 i)), (9, .p (u64 (a.getD i 0))), (27, .p (u64s a)), (28, .p (i64 a.length)), (29, .p (i64 i)), (34, .p (u64s b)), (35, .p (i64 b.length)), (36, .p (i64 k))])
        (fun k => [(26, ob64 (oneI p (a.getD i 0) b i (oneO p a b i) k))]) (fun k => b.length - k) 0
        (Nat.zero_le _) (wk_ob rfl (fun hd => ⟨le_refl hd _, le_refl hd _, le_o rfl, le_refl hd _, le_refl hd _, le_refl hd _, le_refl hd _, le_refl hd _, le_refl hd _, le_refl hd _, le_refl hd _, trivial⟩)) ?_)
      rintro k h2
      refine ev_rs [] rfl trivial (ev_seq (ev_cond rfl (fun h => ev_sk ?_) (fun h => ev_exit ?_)))
      · have hk : k < b.length := Int.ofNat_lt.mp (of_decide_eq_true h)
        refine ev_seq (ev_block ?_)
        refine ev_rs [] rfl ⟨hk, ⟨by omega, by omega⟩, trivial⟩ ?_
        have e2 : IntKind.wrap .i64 ((i : Int) + (k : Int)) = ((i + k : Nat) : Int) := by rw [wrapI _ (by omega) (by omega)]; rfl
        have hck : (oneI p (a.getD i 0) b i (oneO p a b i) k).length = L := by rw [length_oneI, length_oneO, hL]
        obtain ⟨o, ho⟩ : ∃ o, oneI p (a.getD i 0) b i (oneO p a b i) k = o := ⟨_, rfl⟩
        have hst : oneI p (a.getD i 0) b i (oneO p a b i) (k + 1) = o.set (i + k) ((o.getD (i + k) 0 + a.getD i 0 * b.getD k 0 % p) % p) := by rw [← ho]; rfl
        rw [ho] at hck
        refine ev_ob 26 (ob64 o) (congrArg (fun l => some (ob64 l)) ho) ?_
        refine ev_draw [u64 (a.getD i 0 * b.getD k 0 % p), u64 ((o.getD (i + k) 0 + a.getD i 0 * b.getD k 0 % p) % p)] (by kernel_rfl) rfl rfl ?_ ?_
        · rw [e2]
          exact ⟨(by omega : i + k + 1 ≤ o.length), ⟨by omega, by omega⟩, .inl (Add_spec hm _ _), .inl (Mul_spec hm _ _), Nat.zero_lt_one, (by omega : i + k < o.length), ⟨by omega, by omega⟩, Nat.zero_lt_one, trivial⟩
        refine ev_set 26 (i + k) ((o.getD (i + k) 0 + a.getD i 0 * b.getD k 0 % p) % p) rfl (by show (IntKind.wrap .i64 ((i : Int) + (k : Int))).toNat = _; rw [e2]; rfl) rfl (by omega) ?_
        exact ev_region [] rfl trivial ⟨k + 1, hk, by dsimp only; omega, wk_ob (congrArg (fun l => some (ob64 l)) hst.symm) (fun hd => ⟨le_refl hd _, le_refl hd _, le_o rfl, le_refl hd _, le_refl hd _, le_refl hd _, le_refl hd _, le_refl hd _, le_refl hd _, le_refl hd _, le_n hd (congrArg (fun z => PV.val (.int .i64 z)) (wrapI _ (by omega) (by omega))), trivial⟩)⟩
      · have hk : k = b.length := by
          have := of_decide_eq_false h
          omega
        subst hk
        exact ev_region [] rfl trivial ⟨i + 1, hi, by dsimp only; omega, wk_ob rfl (fun hd => ⟨le_refl hd _, le_refl hd _, le_o rfl, le_refl hd _, le_refl hd _, le_n hd (congrArg (fun z => PV.val (.int .i64 z)) (wrapI _ (by omega) (by omega))), trivial⟩)⟩
    · have hi : i = a.length := by
        have := of_decide_eq_false h
        omega
      subst hi
      exact at_ob () trivial rfl (fun hd => ⟨le_o rfl, trivial⟩)
  rintro ⟨⟩ -
  exact ev_rs [] rfl trivial (ev_ret (ret1 (fz_ob' rfl (by rw [length_oneO, hL]) rfl)))

theorem half_spec {p : Nat} (hm : MayM p) (a b : List Nat) (hl : a.length ≤ 16) (hl2 : b.length ≤ 16) : CallSpec Tryd.pr.P Tryd.pr.G 49 [polyF p, u64s a, u64s b] (u64s (oneN p a b)) := by
  refine callSpec_of Tryd.pr Tryd.func49 rfl rfl rfl fun w0 ok0 hok hG => ?_
  refine ev_rs [] rfl trivial ?_
  refine ev_rs [] rfl trivial ?_
  have hle : (if (b.length : Int) > (a.length : Int) then (b.length : Int) else (a.length : Int)) ≤ 16 := by split <;> omega
  refine ev_seq (ev_rs [] rfl (by repeat' (first | exact trivial | exact gd_t | exact gd_f | exact (fun _ => rfl) | intro _ | apply And.intro | assumption | exact rfl | exact gd_t (by assumption) | exact gd_f (by assumption) | exact gd_a (by assumption) (by assumption) | exact gd_b (by assumption) (by assumption))) (ev_cond rfl (fun h => ?_) (fun h => ?_)))
  · exact ev_rs [u64s (oneN p a b)] rfl ⟨.inl (one_spec hm a b (by omega) (by omega)), trivial⟩ (ev_ret (ret1 (fz_p (PLe.refl _))))
  · exfalso
    have e : decide ((if (b.length : Int) > (a.length : Int) then (b.length : Int) else (a.length : Int)) ≤ 16) = true := decide_eq_true hle
    have h : (bif (bif decide ((if (b.length : Int) > (a.length : Int) then (b.length : Int) else (a.length : Int)) ≤ 16) then true else _) then true else _) = false := h
    rw [e] at h
    cases h

theorem length_oneN (p : Nat) (a b : List Nat) : (oneN p a b).length ≤ a.length + b.length := by
  unfold oneN
  split
  · simp
  · rw [length_oneO]; omega

theorem times_spec2 {p : Nat} (hm : MayM p) (a b : List Nat) (hl : a.length ≤ 16) (hl2 : b.length ≤ 16) : CallSpec Tryd.pr.P Tryd.pr.G 44 [polyF p, u64s a, u64s b] (u64s (timesN p a b)) := by
  refine callSpec_of Tryd.pr Tryd.func44 rfl rfl rfl fun w0 ok0 hok hG => ?_
  refine ev_rs [] rfl trivial ?_
  have := length_oneN p a b
  exact ev_rs [u64s (oneN p a b), u64s (timesN p a b)] rfl ⟨.inl (trim_spec _ (by omega)), .inl (half_spec hm a b hl hl2), trivial⟩ (ev_ret (ret1 (fz_p (PLe.refl _))))

theorem divide_short {p : Nat} (a b : List Nat) (h : a.length < b.length) (hl2 : b.length < 1000000) :
    CallSpec Tryd.pr.P Tryd.pr.G 43 [polyF p, u64s a, u64s b] (.tup 2 (two (u64s []) (u64s a))) := by
  refine callSpec_of Tryd.pr Tryd.func43 rfl rfl rfl fun w0 ok0 hok hG => ?_
  refine ev_rs [] rfl trivial ?_
  refine ev_rs [] rfl ⟨⟨by omega, trivial⟩, trivial⟩ ?_
  refine ev_seq (ev_rs [] rfl trivial (ev_cond rfl (fun h2 => ?_) (fun h2 => ?_)))
  · exact ev_rs [] rfl trivial (ev_ret (ret2 (fz_p PLe.nil) (fz_ob rfl)))
  · exact absurd h (fun h => of_decide_eq_false h2 (Int.ofNat_lt.mpr h))

theorem divide_long {p : Nat} (hm : MayM p) (a b : List Nat) (hb0 : 0 < b.length) (h : b.length ≤ a.length) (hl : a.length < 1000000) :
    CallSpec Tryd.pr.P Tryd.pr.G 43 [polyF p, u64s a, u64s b] (.tup 2 (two (u64s (divN (minv p) p a b).1) (u64s (divN (minv p) p a b).2))) := by
  have e0 : divN (minv p) p a b = (trimN (divO p (minv p (b.getD (b.length - 1) 0)) b (a.length - (b.length - 1)) (List.replicate (a.length - (b.length - 1)) 0, a)).1,
      trimN (divO p (minv p (b.getD (b.length - 1) 0)) b (a.length - (b.length - 1)) (List.replicate (a.length - (b.length - 1)) 0, a)).2) := if_neg (by omega)
  rw [e0]
  obtain ⟨top, htop⟩ : ∃ top, b.length - 1 = top := ⟨_, rfl⟩
  obtain ⟨qn, hqn⟩ : ∃ qn, a.length - top = qn := ⟨_, rfl⟩
  obtain ⟨iv, hiv⟩ : ∃ iv, minv p (b.getD top 0) = iv := ⟨_, rfl⟩
  rw [htop, hqn, hiv]
  have e1 : IntKind.wrap .i64 ((b.length : Int) - 1) = (top : Int) := by rw [wrapI _ (by omega) (by omega)]; omega
  have e2 : IntKind.wrap .i64 ((a.length : Int) - (top : Int)) = (qn : Int) := by rw [wrapI _ (by omega) (by omega)]; omega
  have e3 : IntKind.wrap .i64 ((qn : Int) - 1) = (qn : Int) - 1 := wrapI _ (by omega) (by omega)
  refine callSpec_of Tryd.pr Tryd.func43 rfl rfl rfl fun w0 ok0 hok hG => ?_
  refine ev_rs [] rfl trivial ?_
  refine ev_rs [] rfl ⟨⟨by omega, trivial⟩, trivial⟩ ?_
  refine ev_seq (ev_rs [] rfl trivial (ev_cond rfl (fun h2 => ?_) (fun h2 => ev_sk ?_)))
  · exact absurd (Int.ofNat_lt.mp (of_decide_eq_true h2)) (by omega)
  refine ev_rs [] rfl trivial (ev_eq 9 (.p (i64 top)) (congrArg (fun z => AV.p (PV.val (.int .i64 z))) e1) ?_)
  refine ev_ds [.tup 2 (two (u64 iv) (i64 (wrong (b.getD top 0) p)))] (by kernel_rfl) rfl rfl ?_ ?_
  · rw [← hiv]
    exact ⟨.inl (Inv_spec hm _), (by omega : top < b.length), ⟨by omega, by omega⟩, Nat.zero_lt_one, trivial⟩
  refine ev_rs [] rfl ?_ ?_
  · rw [e2]
    exact ⟨⟨by omega, by omega, by omega⟩, trivial⟩
  refine ev_made 12 43 qn rfl rfl (show (IntKind.wrap .i64 ((a.length : Int) - (top : Int))).toNat = _ by rw [e2]; rfl) ?_
  refine ev_ob 17 (ob64 a) rfl ?_
  refine ev_at (α := Unit) (fun _ => True) (fun _ => [(8, .p (u64s (divO p iv b qn (List.replicate qn 0, a)).2)), (12, .p (u64s (divO p iv b qn (List.replicate qn 0, a)).1))]) (fun _ => []) ?_ ?_
  · refine ev_rs [] rfl trivial ?_
    refine ev_block (ev_while (α := Nat × List Nat × List Nat) (fun s => s.1 ≤ qn ∧ s.2.1.length = qn ∧ s.2.2.length = a.length ∧ divO p iv b s.1 (s.2.1, s.2.2) = divO p iv b qn (List.replicate qn 0, a))
      (fun s => [(0, .p (polyF p)), (2, .p (u64s b)), (8, .own 17 0 a.length 1), (9, .p (i64 top)), (10, .p (u64 iv)), (12, .own 43 0 qn 1), (13, .p (i64 ((s.1 : Int) - 1)))]) (fun s => [(17, ob64 s.2.2), (43, ob64 s.2.1)]) (fun s => s.1) (qn, List.replicate qn 0, a)
      ⟨Nat.le_refl _, List.length_replicate, rfl, rfl⟩ (wk_ob2 rfl rfl rfl rfl (fun hd => ⟨le_refl hd _, le_refl hd _, le_o rfl, le_refl hd _, le_refl hd _, le_o rfl, le_n hd (congrArg (fun z => PV.val (.int .i64 z)) e3), trivial⟩)) ?_)
    rintro ⟨n, q, l⟩ ⟨h1, h2, h3, h4⟩
    dsimp only at h1 h2 h3 h4
    refine ev_seq (ev_rs [] rfl trivial (ev_cond rfl (fun h => ev_sk ?_) (fun h => ev_exit ?_)))
    · have hn : 0 < n := by
        have := of_decide_eq_true h
        dsimp only at this
        omega
      obtain ⟨i, rfl⟩ : ∃ i, n = i + 1 := ⟨n - 1, by omega⟩
      obtain ⟨qi, hqi⟩ : ∃ qi, l.getD (i + top) 0 * iv % p = qi := ⟨_, rfl⟩
      have hst : divO p iv b i (q.set i qi, divI p qi b i l b.length) = divO p iv b qn (List.replicate qn 0, a) := by
        rw [← h4]
        show _ = divO p iv b i (q.set i (l.getD (i + (b.length - 1)) 0 * iv % p), divI p (l.getD (i + (b.length - 1)) 0 * iv % p) b i l b.length)
        rw [htop, hqi]
      refine ev_eq 13 (.p (i64 i)) (congrArg (fun z => AV.p (PV.val (.int .i64 z))) (show ((i + 1 : Nat) : Int) - 1 = i by omega)) ?_
      refine ev_seq (ev_block ?_)
      have e4 : IntKind.wrap .i64 ((i : Int) + (top : Int)) = ((i + top : Nat) : Int) := by rw [wrapI _ (by omega) (by omega)]; rfl
      refine ev_ds [u64 qi] (by kernel_rfl) rfl rfl ?_ ?_
      · rw [e4, ← hqi]
        exact ⟨(by omega : i + 1 ≤ q.length), ⟨by omega, by omega⟩, .inl (Mul_spec hm _ _), (by omega : i + top < l.length), ⟨by omega, by omega⟩, Nat.zero_lt_one, trivial⟩
      have hqq : (q.set i qi).getD i 0 = qi := by rw [getD_set _ _ _ _ (by omega), if_pos rfl]
      refine ev_set 43 i qi rfl rfl rfl (show i < q.length by omega) ?_
      refine ev_rs [] rfl trivial ?_
      refine ev_block (ev_while (α := Nat) (fun k => k ≤ b.length)
        (fun k => [(0, .p (polyF p)), (2, .p (u64s b)), (8, .own 17 0 a.length 1), (9, .p (i64 top)), (10, .p (u64 iv)), (12, .own 43 0 qn 1), (13, .p (i64 i)), (66, .p (u64s b)), (67, .p (i64 b.length)), (68, .p (i64 k))])
        (fun k => [(17, ob64 (divI p qi b i l k)), (43, ob64 (q.set i qi))]) (fun k => b.length - k) 0
        (Nat.zero_le _) (wk_ob2 rfl rfl rfl rfl (fun hd => ⟨le_refl hd _, le_refl hd _, le_o rfl, le_refl hd _, le_refl hd _, le_o rfl, le_refl hd _, le_refl hd _, le_refl hd _, le_refl hd _, trivial⟩)) ?_)
      rintro k h5
      refine ev_rs [] rfl trivial (ev_seq (ev_cond rfl (fun h => ev_sk ?_) (fun h => ev_exit ?_)))
      · have hk : k < b.length := Int.ofNat_lt.mp (of_decide_eq_true h)
        refine ev_seq (ev_block ?_)
        refine ev_rs [] rfl ⟨hk, ⟨by omega, by omega⟩, trivial⟩ ?_
        have e5 : IntKind.wrap .i64 ((i : Int) + (k : Int)) = ((i + k : Nat) : Int) := by rw [wrapI _ (by omega) (by omega)]; rfl
        have hdl : (divI p qi b i l k).length = a.length := by rw [length_divI, h3]
        obtain ⟨o, ho⟩ : ∃ o, divI p qi b i l k = o := ⟨_, rfl⟩
        have hst2 : divI p qi b i l (k + 1) = o.set (i + k) (sb (o.getD (i + k) 0) (qi * b.getD k 0 % p) p) := by rw [← ho]; rfl
        rw [ho] at hdl
        refine ev_ob 17 (ob64 o) (congrArg (fun l => some (ob64 l)) ho) ?_
        refine ev_draw [u64 (qi * b.getD k 0 % p), u64 (sb (o.getD (i + k) 0) (qi * b.getD k 0 % p) p)] (by kernel_rfl) rfl rfl ?_ ?_
        · rw [e5]
          refine ⟨(by omega : i + k + 1 ≤ o.length), ⟨by omega, by omega⟩, .inl (Sb_spec hm _ _), .inl ?_, (by rw [List.length_set]; omega : i < (q.set i qi).length), ⟨by omega, by omega⟩, Nat.zero_lt_one, (by omega : i + k < o.length), ⟨by omega, by omega⟩, Nat.zero_lt_one, trivial⟩
          show CallSpec _ _ _ [_, u64 ((q.set i qi).getD i 0), _] _
          rw [hqq]
          exact Mul_spec hm _ _
        refine ev_set 17 (i + k) (sb (o.getD (i + k) 0) (qi * b.getD k 0 % p) p) rfl (by show (IntKind.wrap .i64 ((i : Int) + (k : Int))).toNat = _; rw [e5]; rfl) rfl (by omega) ?_
        exact ev_region [] rfl trivial ⟨k + 1, hk, by dsimp only; omega, wk_ob2 rfl rfl (congrArg (fun l => some (ob64 l)) hst2.symm) rfl (fun hd => ⟨le_refl hd _, le_refl hd _, le_o rfl, le_refl hd _, le_refl hd _, le_o rfl, le_refl hd _, le_refl hd _, le_refl hd _, le_n hd (congrArg (fun z => PV.val (.int .i64 z)) (wrapI _ (by omega) (by omega))), trivial⟩)⟩
      · have hk : k = b.length := by
          have := of_decide_eq_false h
          omega
        subst hk
        exact ev_region [] rfl trivial ⟨(i, q.set i qi, divI p qi b i l b.length), ⟨by omega, by rw [List.length_set, h2], by rw [length_divI, h3], hst⟩, Nat.lt_succ_self i, wk_ob2 rfl rfl rfl rfl (fun hd => ⟨le_refl hd _, le_refl hd _, le_o rfl, le_refl hd _, le_refl hd _, le_o rfl, le_n hd (congrArg (fun z => PV.val (.int .i64 z)) (wrapI _ (by omega) (by omega))), trivial⟩)⟩
    · have hn : n = 0 := by
        have := of_decide_eq_false h
        dsimp only at this
        omega
      subst hn
      have h4 : (q, l) = _ := h4
      exact at0 () trivial ⟨le_fz' rfl h3.symm (congrArg Prod.snd h4), le_fz' rfl h2.symm (congrArg Prod.fst h4), trivial⟩
  rintro ⟨⟩ -
  obtain ⟨hA, hB⟩ := length_divO p iv b qn (List.replicate qn 0, a)
  have hA : _ = (List.replicate qn 0).length := hA
  have hB : _ = a.length := hB
  rw [List.length_replicate] at hA
  exact ev_rs [u64s (trimN (divO p iv b qn (List.replicate qn 0, a)).1), u64s (trimN (divO p iv b qn (List.replicate qn 0, a)).2)] rfl ⟨.inl (trim_spec _ (by omega)), .inl (trim_spec _ (by omega)), trivial⟩ (ev_ret (ret2 (fz_p (PLe.refl _)) (fz_p (PLe.refl _))))

theorem divide_spec {p : Nat} (hm : MayM p) (a b : List Nat) (hb0 : 0 < b.length) (hl : a.length < 1000000) (hl2 : b.length < 1000000) :
    CallSpec Tryd.pr.P Tryd.pr.G 43 [polyF p, u64s a, u64s b] (.tup 2 (two (u64s (divN (minv p) p a b).1) (u64s (divN (minv p) p a b).2))) := by
  rcases Nat.lt_or_ge a.length b.length with h | h
  · have e : divN (minv p) p a b = ([], a) := if_pos h
    rw [e]
    exact divide_short a b h hl2
  · exact divide_long hm a b hb0 h hl

theorem remN_len (iv : Nat → Nat) (p : Nat) (a b : List Nat) : (remN iv p a b).length ≤ a.length := by
  unfold remN divN
  split
  · exact Nat.le_refl _
  · have h := (length_divO p (iv (b.getD (b.length - 1) 0)) b (a.length - (b.length - 1)) (List.replicate (a.length - (b.length - 1)) 0, a)).2
    have h : _ = a.length := h
    show (trimN _).length ≤ _
    unfold trimN
    rw [List.length_take]
    omega

theorem PowMod_spec {p : Nat} (hm : MayM p) (a : List Nat) (n : Nat) (b : List Nat) (hn : n < 18446744073709551616) (ha : a.length ≤ 16) (hb : b.length ≤ 17) (hb0 : 0 < (normN p b).length)
    (hpo : powOk (minv p) p (normN p b) 64 n (remN (minv p) p [1] (normN p b)) (remN (minv p) p (normN p a) (normN p b))) :
    CallSpec Tryd.pr.P Tryd.pr.G 33 [polyF p, u64s a, u64 n, u64s b]
      (.tup 2 (two (u64s (powF (minv p) p (normN p b) 64 n (remN (minv p) p [1] (normN p b)) (remN (minv p) p (normN p a) (normN p b)))) (i64 0))) := by
  have hbl : (normN p b).length ≤ 17 := by
    unfold normN trimN
    rw [List.length_take, List.length_map]; omega
  have hal : (normN p a).length ≤ 16 := by
    unfold normN trimN
    rw [List.length_take, List.length_map]; omega
  obtain ⟨bb, hbb⟩ : ∃ bb, normN p b = bb := ⟨_, rfl⟩
  obtain ⟨aa, haa⟩ : ∃ aa, normN p a = aa := ⟨_, rfl⟩
  have hNa := Norm_spec hm a (by omega)
  have hNb := Norm_spec hm b (by omega)
  rw [hbb] at hNb hbl hb0 hpo ⊢
  rw [haa] at hNa hal hpo ⊢
  have hD : ∀ x : List Nat, x.length < 1000000 → CallSpec Tryd.pr.P Tryd.pr.G 43 [polyF p, u64s x, u64s bb] (.tup 2 (two (u64s (divN (minv p) p x bb).1) (u64s (remN (minv p) p x bb)))) := fun x hx => divide_spec hm x bb hb0 hx (by omega)
  have hT : ∀ x y : List Nat, (timesN p x y).length ≤ x.length + y.length := fun x y => by
    unfold timesN trimN
    rw [List.length_take]
    have := length_oneN p x y
    omega
  obtain ⟨o1, ho1⟩ : ∃ o1, remN (minv p) p [1] bb = o1 := ⟨_, rfl⟩
  obtain ⟨a1, ha1⟩ : ∃ a1, remN (minv p) p aa bb = a1 := ⟨_, rfl⟩
  have hD1 := hD [1] (by simp)
  have hD2 := hD aa (by omega)
  rw [ho1] at hD1
  rw [ha1] at hD2
  rw [ho1, ha1] at hpo
  rw [ho1, ha1]
  refine callSpec_of Tryd.pr Tryd.func33 rfl rfl rfl fun w0 ok0 hok hG => ?_
  refine ev_rs [] rfl trivial ?_
  refine ev_seq (ev_rs [] rfl trivial (ev_cf rfl (ev_sk ?_)))
  refine ev_rs [u64s aa, u64s bb] rfl ⟨.inl hNb, .inl hNa, trivial⟩ ?_
  refine ev_seq (ev_rs [] rfl trivial (ev_cond rfl (fun h => ?_) (fun h => ev_sk ?_)))
  · exfalso
    have : bb.length = 0 := Int.ofNat_inj.mp (beq_iff_eq.mp h)
    omega
  refine ev_rs [.tup 2 (two (u64s (divN (minv p) p [1] bb).1) (u64s o1))] rfl ?_ ?_
  · exact ⟨⟨⟨Nat.le_refl 1, trivial⟩, .inl (callSpec_args (as' := [polyF p, u64s [1], u64s bb]) ⟨PLe.refl _, PLe.lit rfl (fun j hj => by match j, hj with | 0, _ => rfl), PLe.refl _, trivial⟩ hD1)⟩, trivial⟩
  refine ev_rs [.tup 2 (two (u64s (divN (minv p) p aa bb).1) (u64s a1))] rfl ⟨.inl hD2, trivial⟩ ?_
  obtain ⟨R, hR⟩ : ∃ R, powF (minv p) p bb 64 n o1 a1 = R := ⟨_, rfl⟩
  rw [hR]
  refine ev_at (α := Unit) (fun _ => True) (fun _ => [(11, .p (u64s R))]) (fun _ => []) ?_ ?_
  · refine ev_block (ev_while0 (α := Nat × Nat × List Nat × List Nat) (fun s => s.2.1 < 2 ^ s.1 ∧ s.2.1 < 18446744073709551616 ∧ powOk (minv p) p bb s.1 s.2.1 s.2.2.1 s.2.2.2 ∧ powF (minv p) p bb s.1 s.2.1 s.2.2.1 s.2.2.2 = R)
      (fun s => [(0, .p (polyF p)), (1, .p (u64s s.2.2.2)), (2, .p (u64 s.2.1)), (3, .p (u64s bb)), (11, .p (u64s s.2.2.1))]) (fun s => s.1) (64, n, o1, a1)
      ⟨hn, hn, hpo, hR⟩ ⟨le_0, le_0, le_0, le_0, le_0, trivial⟩ ?_)
    rintro ⟨f, x, o, y⟩ ⟨h1, h2, h3, h4⟩
    dsimp only at h1 h2 h3 h4
    refine ev_seq (ev_rs [] rfl trivial (ev_cond rfl (fun h => ev_sk ?_) (fun h => ev_exit ?_)))
    · have hx : 0 < x := Int.ofNat_lt.mp (of_decide_eq_true h)
      have hx0 : x ≠ 0 := by omega
      obtain ⟨f, rfl⟩ : ∃ g, f = g + 1 := by
        cases f with
        | zero => simp at h1; omega
        | succ g => exact ⟨g, rfl⟩
      obtain ⟨l1, l2, hk⟩ := (show x = 0 ∨ _ from h3).resolve_left hx0
      have h4 : (if x = 0 then o else powF (minv p) p bb f (x / 2) (if x % 2 = 1 then remN (minv p) p (timesN p o y) bb else o) (remN (minv p) p (timesN p y y) bb)) = R := h4
      rw [if_neg hx0] at h4
      have ho16 : o.length ≤ 16 := l1
      have ht1 := hT o y
      have ht2 := hT y y
      refine ev_seq (ev_block ?_)
      refine ev_at (α := Unit) (fun _ => True) (fun _ => [(0, .p (polyF p)), (1, .p (u64s y)), (2, .p (u64 x)), (3, .p (u64s bb)), (11, .p (u64s (if x % 2 = 1 then remN (minv p) p (timesN p o y) bb else o)))]) (fun _ => []) ?_ ?_
      · refine ev_rs [] rfl trivial (ev_cond rfl (fun h => ?_) (fun h => ?_))
        · have hx1 : x % 2 = 1 := by
            have := beq_iff_eq.mp h
            rw [and1 x h2] at this
            exact Int.ofNat_inj.mp this
          refine ev_region [u64s (timesN p o y), .tup 2 (two (u64s (divN (minv p) p (timesN p o y) bb).1) (u64s (remN (minv p) p (timesN p o y) bb)))] rfl ⟨.inl (hD _ (by omega)), .inl (times_spec2 hm o y l1 l2), trivial⟩ (at0 () trivial ⟨le_0, le_0, le_0, le_0, le_e (congrArg u64s ?_), trivial⟩)
          rw [if_pos hx1]
        · have hx1 : ¬ x % 2 = 1 := fun e => by
            have := beq_eq_false_iff_ne.mp h
            rw [and1 x h2] at this
            exact this (Int.ofNat_inj.mpr e)
          refine ev_skip (at0 () trivial ⟨le_0, le_0, le_0, le_0, le_e (congrArg u64s ?_), trivial⟩)
          rw [if_neg hx1]
      rintro ⟨⟩ -
      refine ev_region [u64s (timesN p y y), .tup 2 (two (u64s (divN (minv p) p (timesN p y y) bb).1) (u64s (remN (minv p) p (timesN p y y) bb)))] rfl ⟨.inl (hD _ (by omega)), .inl (times_spec2 hm y y l2 l2), trivial⟩ ?_
      exact ev_region [] rfl ⟨by decide, trivial⟩ (round0 (f, x / 2, if x % 2 = 1 then remN (minv p) p (timesN p o y) bb else o, remN (minv p) p (timesN p y y) bb) ⟨by rw [Nat.pow_succ] at h1; dsimp only; omega, by dsimp only; omega, hk, h4⟩ (Nat.lt_succ_self f)
        ⟨le_0, le_0, le_e (congrArg (fun z => PV.val (.int .u64 z)) (shr1 x)), le_0, le_0, trivial⟩)
    · have hx : x = 0 := by
        have := of_decide_eq_false h
        dsimp only at this
        omega
      refine at0 () trivial ⟨le_e (congrArg u64s ?_), trivial⟩
      rw [hx] at h4
      cases f with
      | zero => exact h4
      | succ f => exact h4
  rintro ⟨⟩ -
  exact ev_rs [] rfl trivial (ev_ret (ret2 (fz_p (PLe.refl _)) (fz_p (PLe.refl _))))

theorem Far_no {p : Nat} (hp : p < 18446744073709551616) (h : ¬ (p < 9223372036854775808 ∧ isB p = true)) (r : List Nat) (row at' : PV) :
    CallSpec Tryd.pr.P Tryd.pr.G 15 [u64 p, u64s r, row, at'] (.tup 2 (two (u64 0) (i64 14))) := by
  refine callSpec_of Tryd.pr Tryd.func15 rfl rfl rfl fun w0 ok0 hok hG => ?_
  refine ev_rs [] rfl trivial ?_
  refine ev_rs [.tup 2 (two nilS (i64 14))] rfl ⟨.inl (Char_no hp h _), trivial⟩ ?_
  refine ev_seq (ev_block (ev_rs [] rfl trivial (ev_ct rfl ?_)))
  exact ev_rs [] rfl trivial (ev_ret (ret2 (fz_p (PLe.refl _)) (fz_p (PLe.refl _))))

theorem Far_arg {p : Nat} (hm : MayM p) (hb : isB p = true) (r row : List Nat) (at' : PV) (hr : r.length < 1000000) (h : row.length < r.length) :
    CallSpec Tryd.pr.P Tryd.pr.G 15 [u64 p, u64s r, u64s row, at'] (.tup 2 (two (u64 0) (i64 1))) := by
  refine callSpec_of Tryd.pr Tryd.func15 rfl rfl rfl fun w0 ok0 hok hG => ?_
  refine ev_rs [] rfl trivial ?_
  refine ev_rs [.tup 2 (two (u64s (charN p r)) (i64 0))] rfl ⟨.inl (Char_ok hm hb r hr), trivial⟩ ?_
  refine ev_seq (ev_block (ev_rs [] rfl trivial (ev_cf rfl ?_)))
  refine ev_rs [] rfl trivial (ev_cond rfl (fun h2 => ?_) (fun h2 => ?_))
  · exact ev_rs [] rfl trivial (ev_ret (ret2 (fz_p (PLe.refl _)) (fz_p (PLe.refl _))))
  · exact absurd h (fun h => of_decide_eq_false h2 (Int.ofNat_lt.mpr h))

theorem Far_ok {p : Nat} (hm : MayM p) (hb : isB p = true) (r row : List Nat) (n : Nat) (hn : n < 18446744073709551616) (hr : r.length ≤ 16) (hrow : r.length ≤ row.length) (hl : row.length < 1000000) (hpo : farOk (minv p) p r n)
    (hx : (farX (minv p) p r n).length ≤ row.length) :
    CallSpec Tryd.pr.P Tryd.pr.G 15 [u64 p, u64s r, u64s row, u64 n] (.tup 2 (two (u64 (farF p (farX (minv p) p r n) row (farX (minv p) p r n).length)) (i64 0))) := by
  have hp2 := hm.1
  have hb0 : 0 < (normN p (charN p r)).length := by
    have h1 := length_charN p r
    have h2 : ((charN p r).map (· % p)).getD r.length 0 = 1 := by
      have h3 := charN_last p r
      rw [List.getD_eq_getElem?_getD, List.getElem?_map]
      rw [List.getD_eq_getElem?_getD] at h3
      cases hq : (charN p r)[r.length]? with
      | none => rw [hq] at h3; cases h3
      | some v =>
        rw [hq] at h3
        have : v = 1 := h3
        subst this
        exact Nat.mod_eq_of_lt (by omega)
    unfold normN trimN
    rw [List.length_take, List.length_map, h1]
    have : trimL ((charN p r).map (· % p)) (r.length + 1) = r.length + 1 := if_neg (by rw [h2]; omega)
    rw [this]; omega
  have hc := length_charN p r
  have hP := PowMod_spec hm [0, 1] n (charN p r) hn (by simp) (by omega) hb0 hpo
  obtain ⟨X, hX⟩ : ∃ X, farX (minv p) p r n = X := ⟨_, rfl⟩
  have hP : CallSpec _ _ _ _ (.tup 2 (two (u64s (farX (minv p) p r n)) (i64 0))) := hP
  rw [hX] at hP hx ⊢
  refine callSpec_of Tryd.pr Tryd.func15 rfl rfl rfl fun w0 ok0 hok hG => ?_
  refine ev_rs [] rfl trivial ?_
  refine ev_rs [.tup 2 (two (u64s (charN p r)) (i64 0))] rfl ⟨.inl (Char_ok hm hb r (by omega)), trivial⟩ ?_
  refine ev_at (α := Unit) (fun _ => True) (fun _ => [(0, .p (u64 p)), (2, .p (u64s row)), (3, .p (u64 n)), (10, .p (u64s (charN p r)))]) (fun _ => []) ?_ ?_
  · refine ev_block (ev_rs [] rfl trivial (ev_cf rfl ?_))
    refine ev_rs [] rfl trivial (ev_cond rfl (fun h2 => ?_) (fun h2 => ?_))
    · exact absurd (Int.ofNat_lt.mp (of_decide_eq_true h2)) (by omega)
    exact ev_skip (at0 () trivial ⟨le_0, le_0, le_0, le_0, trivial⟩)
  rintro ⟨⟩ -
  refine ev_rs [.tup 2 (two (polyF p) (i64 0))] rfl ⟨.inl (UNew_ok hm hb), trivial⟩ ?_
  refine ev_seq (ev_rs [] rfl trivial (ev_cf rfl (ev_sk ?_)))
  refine ev_rs [.tup 2 (two (u64s X) (i64 0))] rfl ?_ ?_
  · exact ⟨⟨⟨Nat.le_refl 2, trivial⟩, .inl (callSpec_args (as' := [polyF p, u64s [0, 1], u64 n, u64s (charN p r)]) ⟨PLe.refl _, PLe.lit rfl (fun j hj => by match j, hj with | 0, _ | 1, _ => rfl), PLe.refl _, PLe.refl _, trivial⟩ hP)⟩, trivial⟩
  refine ev_seq (ev_rs [] rfl trivial (ev_cf rfl (ev_sk ?_)))
  refine ev_rs [.tup 2 (two (newF p) (i64 0))] rfl ⟨.inl (New_spec hm), trivial⟩ ?_
  refine ev_rs [] rfl trivial ?_
  refine ev_at (α := Unit) (fun _ => True) (fun _ => [(11, .p (i64 0)), (15, .p (u64 (farF p X row X.length)))]) (fun _ => []) ?_ ?_
  · refine ev_rs [] rfl trivial ?_
    refine ev_block (ev_while0 (α := Nat) (fun i => i ≤ X.length) (fun i => [(2, .p (u64s row)), (11, .p (i64 0)), (14, .p (newF p)), (15, .p (u64 (farF p X row i))), (58, .p (u64s X)), (59, .p (i64 X.length)), (60, .p (i64 i))]) (fun i => X.length - i) 0
      (Nat.zero_le _) ⟨le_0, le_0, le_0, le_0, le_0, le_0, le_0, trivial⟩ ?_)
    rintro i h1
    refine ev_rs [] rfl trivial (ev_seq (ev_cond rfl (fun h => ev_sk ?_) (fun h => ev_exit ?_)))
    · have hi : i < X.length := Int.ofNat_lt.mp (of_decide_eq_true h)
      have hi2 : i < row.length := by omega
      refine ev_seq (ev_block ?_)
      refine ev_rs [] rfl ⟨hi, ⟨by omega, by omega⟩, trivial⟩ ?_
      refine ev_region [u64 (X.getD i 0 * row.getD i 0 % p), u64 (farF p X row (i + 1))] rfl ⟨.inl (Add_spec hm _ _), .inl (Mul_spec hm _ _), hi2, ⟨by omega, by omega⟩, trivial⟩ ?_
      exact ev_region [] rfl trivial (round0 (i + 1) hi (by omega) ⟨le_0, le_0, le_0, le_0, le_0, le_0, le_e (congrArg (fun z => PV.val (.int .i64 z)) (wrapI _ (by omega) (by omega))), trivial⟩)
    · have hi : i = X.length := by
        have := of_decide_eq_false h
        omega
      subst hi
      exact at0 () trivial ⟨le_0, le_0, trivial⟩
  rintro ⟨⟩ -
  exact ev_rs [] rfl trivial (ev_ret (ret2 (fz_p (PLe.refl _)) (fz_p (PLe.refl _))))

end Go.Proofs

/- The laws of recur: the chapter's example; what a rule's polynomial is. -/
set_option linter.unusedVariables false
namespace Go.Proofs
open Go Vinc Vinc.Num

theorem minv7 : minv 7 = iv7 := by
  funext x
  have hx : x % 7 < 7 := Nat.mod_lt _ (by decide)
  have h5 : x ^ 5 % 7 = (x % 7) ^ 5 % 7 := Nat.pow_mod _ _ _
  by_cases h0 : x % 7 = 0
  · rw [minv_none (by rw [← gcd_mod, h0]; decide)]
    show 0 = x ^ 5 % 7
    rw [h5, h0]
  · refine minv_eq (Nat.mod_lt _ (by decide)) ?_
    show x * (x ^ 5 % 7) % 7 = 1
    rw [Nat.mul_mod, Nat.mod_mod, h5]
    generalize x % 7 = r at *
    have : ∀ r, r < 7 → ¬ r = 0 → r * (r ^ 5 % 7) % 7 = 1 := by decide
    exact this r hx h0

theorem may7 : MayM 7 := ⟨by decide, by decide⟩
theorem isB7 : isB 7 = true := by decide +kernel

theorem awake_spec : CallSpec Tryd.pr.P Tryd.pr.G 9 [] (Vinc.bool true) := by
  have hF := Find_ok may7 isB7 [1, 1, 2, 3, 5, 1] (by decide)
  have hM := More_ok may7 isB7 [6, 6] [1, 1] 3 (by decide) (by decide) (by decide)
  have hX := Far_ok may7 isB7 [6, 6] [1, 1] 1000000 (by decide) (by decide) (by decide) (by decide) (by rw [minv7]; exact farOk7) (by rw [minv7]; exact farL7)
  rw [minv7] at hF hX
  have hF : CallSpec _ _ _ [u64 7, u64s [1, 1, 2, 3, 5, 1]] (.tup 2 (two (u64s (findN iv7 7 [1, 1, 2, 3, 5, 1] 6).now) (i64 0))) := hF
  rw [find7] at hF
  have e3 : ([1, 1].map (· % 7)) = [1, 1] := rfl
  rw [e3, more7] at hM
  rw [far7] at hX
  have hS1 := Same_spec [6, 6] [6, 6] (by decide) (by decide)
  have hS2 := Same_spec [1, 1, 2, 3, 5] [1, 1, 2, 3, 5] (by decide) (by decide)
  rw [decide_eq_true rfl] at hS1 hS2
  refine callSpec_of Tryd.pr Tryd.func9 rfl rfl rfl fun w0 ok0 hok hG => ?_
  refine ev_rs [] rfl trivial ?_
  refine ev_rs [.tup 2 (two (u64s [6, 6]) (i64 0))] rfl ⟨⟨⟨Nat.le_refl 6, trivial⟩, .inl (callSpec_args (as' := [u64 7, u64s [1, 1, 2, 3, 5, 1]]) ⟨PLe.refl _, PLe.lit rfl (fun j hj => ?_), trivial⟩ hF)⟩, trivial⟩ ?_
  · match j, hj with
    | 0, _ | 1, _ | 2, _ | 3, _ | 4, _ | 5, _ => rfl
  refine ev_rs [.tup 2 (two (u64s [1, 1, 2, 3, 5]) (i64 0))] rfl ⟨⟨⟨Nat.le_refl 2, Nat.le_refl 2, trivial⟩, .inl (callSpec_args (as' := [u64 7, u64s [6, 6], u64s [1, 1], i64 (3 : Nat)]) ⟨PLe.refl _, PLe.lit rfl (fun j hj => ?_), PLe.lit rfl (fun j hj => ?_), PLe.refl _, trivial⟩ hM)⟩, trivial⟩ ?_
  · match j, hj with
    | 0, _ | 1, _ => rfl
  · match j, hj with
    | 0, _ | 1, _ => rfl
  refine ev_rs [.tup 2 (two (u64 1) (i64 0))] rfl ⟨⟨⟨Nat.le_refl 2, Nat.le_refl 2, trivial⟩, .inl (callSpec_args (as' := [u64 7, u64s [6, 6], u64s [1, 1], u64 1000000]) ⟨PLe.refl _, PLe.lit rfl (fun j hj => ?_), PLe.lit rfl (fun j hj => ?_), PLe.refl _, trivial⟩ hX)⟩, trivial⟩ ?_
  · match j, hj with
    | 0, _ | 1, _ => rfl
  · match j, hj with
    | 0, _ | 1, _ => rfl
  refine ev_rs [Vinc.bool true, Vinc.bool true] rfl ?_ (ev_ret (ret1 (fz_p (PLe.of_eq rfl))))
  have hS2' : ∀ g : Nat → PV, (∀ j, j < 5 → g j = u64 ([1, 1, 2, 3, 5].getD j 0)) → CallOk Tryd.pr.P Tryd.pr.G 19 [u64s [1, 1, 2, 3, 5], .sl 5 1 g] (Vinc.bool true) := fun g hg =>
    .inl (callSpec_args (as' := [u64s [1, 1, 2, 3, 5], u64s [1, 1, 2, 3, 5]]) ⟨PLe.refl _, PLe.lit rfl hg, trivial⟩ hS2)
  have hS1' : ∀ g : Nat → PV, (∀ j, j < 2 → g j = u64 ([6, 6].getD j 0)) → CallOk Tryd.pr.P Tryd.pr.G 19 [u64s [6, 6], .sl 2 1 g] (Vinc.bool true) := fun g hg =>
    .inl (callSpec_args (as' := [u64s [6, 6], u64s [6, 6]]) ⟨PLe.refl _, PLe.lit rfl hg, trivial⟩ hS1)
  repeat' (first | exact trivial | exact gd_t | exact gd_f | exact Nat.le_refl 2 | exact Nat.le_refl 5 | exact (fun _ => rfl) | intro _ | apply And.intro | assumption | exact rfl)
  · refine hS2' _ (fun j hj => ?_)
    match j, hj with
    | 0, _ => rfl
    | 1, _ => rfl
    | 2, _ => rfl
    | 3, _ => rfl
    | 4, _ => rfl
  · refine hS1' _ (fun j hj => ?_)
    match j, hj with
    | 0, _ | 1, _ => rfl

/-- A number that is told to be a prime, and is not asked for. -/
theorem told_big {p : Nat} (h : ¬ Asked p) (hb : isB p = true) : 100000 < p := by
  rcases Nat.lt_or_ge 100000 p with h1 | h1
  · exact h1
  · rw [isB_not h h1] at hb; cases hb

theorem LawPrime_t {p : Nat} (h : Asked p) : CallSpec Tryd.pr.P Tryd.pr.G 11 [u64 p] (Vinc.bool true) := askedB_t h ▸ LawPrime_spec p
theorem LawPrime_f {p : Nat} (h : ¬ Asked p) : CallSpec Tryd.pr.P Tryd.pr.G 11 [u64 p] (Vinc.bool false) := askedB_f h ▸ LawPrime_spec p

theorem RecurChars_spec (p : Nat) (r : List Nat) (hp : p < 18446744073709551616) : CallSpec Tryd.pr.P Tryd.pr.G 4 [u64 p, u64s r] (Vinc.bool true) := by
  refine callSpec_of Tryd.pr Tryd.func4 rfl rfl rfl fun w0 ok0 hok hG => ?_
  refine ev_rs [] rfl trivial ?_
  refine ev_seq (ev_rs [] rfl trivial (ev_cond rfl (fun h => ?_) (fun h => ev_sk ?_)))
  · exact ev_rs [Vinc.bool true] rfl ⟨.inl awake_spec, trivial⟩ (ev_ret (ret1 (fz_p (PLe.refl _))))
  have hr : r.length ≤ 60 := by
    have := of_decide_eq_false h
    omega
  by_cases hA : Asked p
  · have hm := asked_may hA
    have hp0 := hm.1
    have hlen := length_charN p r
    have hlast := charN_last p r
    refine ev_rs [.tup 2 (two (u64s (charN p r)) (i64 0))] rfl ⟨.inl (Char_ok hm (isB_asked hA) r (by omega)), trivial⟩ ?_
    refine ev_seq (ev_rs [Vinc.bool true] rfl ⟨.inl (LawPrime_t hA), trivial⟩ (ev_cf rfl (ev_sk ?_)))
    have e1 : IntKind.wrap .i64 ((r.length : Int) + 1) = ((r.length + 1 : Nat) : Int) := by rw [wrapI _ (by omega) (by omega)]; rfl
    refine ev_seq (ev_rs [] rfl ?_ (ev_cond rfl (fun h => ?_) (fun h => ev_sk ?_)))
    · have hlt : r.length < (charN p r).length := by omega
      exact (by repeat' (first | exact trivial | exact gd_t | exact gd_f | exact hlt | exact Int.natCast_nonneg _ | exact Int.ofNat_lt.mpr hlt | exact (fun _ => rfl) | intro _ | apply And.intro | assumption | exact rfl | exact gd_t (by assumption) | exact gd_f (by assumption) | exact gd_a (by assumption) (by assumption) | exact gd_b (by assumption) (by assumption)))
    · exfalso
      have h : (bif (bif ((0 : Int) != 0) then true else (((charN p r).length : Int) != IntKind.wrap .i64 ((r.length : Int) + 1))) then true else ((((charN p r).getD r.length 0 : Nat) : Int) != 1)) = true := h
      rw [e1, hlen, hlast] at h
      have e2 : ((((r.length + 1 : Nat) : Int)) != ((r.length + 1 : Nat) : Int)) = false := bne_self_eq_false _
      rw [e2] at h
      cases h
    refine ev_at (α := Unit) (fun _ => True) (fun _ => []) (fun _ => []) ?_ ?_
    · refine ev_rs [] rfl trivial ?_
      refine ev_block (ev_while0 (α := Nat) (fun i => i ≤ r.length) (fun i => [(0, .p (u64 p)), (1, .p (u64s r)), (5, .p (u64s (charN p r))), (7, .p (i64 i))]) (fun i => r.length - i) 0
        (Nat.zero_le _) ⟨le_0, le_0, le_0, le_0, trivial⟩ ?_)
      rintro i h1
      refine ev_seq (ev_rs [] rfl trivial (ev_cond rfl (fun h => ev_sk ?_) (fun h => ev_exit ?_)))
      · have hi : i < r.length := Int.ofNat_lt.mp (of_decide_eq_true h)
        refine ev_seq (ev_block ?_)
        have e3 : IntKind.wrap .i64 (IntKind.wrap .i64 ((r.length : Int) - 1) - (i : Int)) = ((r.length - 1 - i : Nat) : Int) := by
          rw [wrapI ((r.length : Int) - 1) (by omega) (by omega), wrapI _ (by omega) (by omega)]; omega
        have hat := charN_at p r (r.length - 1 - i) (by omega)
        rw [show r.length - 1 - (r.length - 1 - i) = i by omega] at hat
        refine ev_ds [] (by kernel_rfl) rfl rfl ?_ (ev_cond rfl (fun h => ?_) (fun h => ?_))
        · rw [e3]
          exact ⟨by simp; omega, hi, ⟨by omega, by omega⟩, (by omega : r.length - 1 - i < (charN p r).length), ⟨by omega, by omega⟩, trivial⟩
        · exfalso
          have h : (((charN p r).getD (IntKind.wrap .i64 (IntKind.wrap .i64 ((r.length : Int) - 1) - (i : Int))).toNat 0 : Nat) != (((r.getD i 0 : Nat) : Int).tmod (p : Int))) = true := h
          rw [e3] at h
          have h : ((((charN p r).getD (r.length - 1 - i) 0 : Nat) : Int) != (((r.getD i 0 : Nat) : Int).tmod (p : Int))) = true := h
          rw [hat] at h
          exact (bne_iff_ne.mp h) rfl
        · refine ev_skip ?_
          exact ev_region [] rfl trivial (round0 (i + 1) hi (by omega) ⟨le_0, le_0, le_0, le_e (congrArg (fun z => PV.val (.int .i64 z)) (wrapI _ (by omega) (by omega))), trivial⟩)
      · exact at0 () trivial trivial
    rintro ⟨⟩ -
    exact ev_rs [Vinc.bool true] rfl ⟨.inl awake_spec, trivial⟩ (ev_ret (ret1 (fz_p (PLe.refl _))))
  by_cases hB : p < 9223372036854775808 ∧ isB p = true
  · have hbig := told_big hA hB.2
    have hm : MayM p := ⟨by omega, hB.1⟩
    refine ev_rs [.tup 2 (two (u64s (charN p r)) (i64 0))] rfl ⟨.inl (Char_ok hm hB.2 r (by omega)), trivial⟩ ?_
    refine ev_seq (ev_rs [Vinc.bool false] rfl ⟨.inl (LawPrime_f hA), trivial⟩ (ev_ct rfl ?_))
    refine ev_rs [Vinc.bool true] rfl (by repeat' (first | exact trivial | exact gd_t | exact gd_f | exact .inl awake_spec | exact (fun _ => rfl) | intro _ | apply And.intro | assumption | exact rfl | exact gd_t (by assumption) | exact gd_f (by assumption) | exact gd_a (by assumption) (by assumption) | exact gd_b (by assumption) (by assumption))) (ev_ret (ret1 (fz_p (PLe.of_eq (congrArg Vinc.bool ?_)))))
    have hd1 : decide ((p : Int) > 100000) = true := decide_eq_true (by omega)
    have hd2 : decide ((p : Int) < 9223372036854775808) = true := decide_eq_true (by omega)
    show (bif (bif (bif decide ((p : Int) > 100000) then decide ((p : Int) < 9223372036854775808) else false) then true else _) then true else false) = true
    rw [hd1, hd2]
    rfl
  · refine ev_rs [.tup 2 (two nilS (i64 14))] rfl ⟨.inl (Char_no hp hB _), trivial⟩ ?_
    refine ev_seq (ev_rs [Vinc.bool false] rfl ⟨.inl (LawPrime_f hA), trivial⟩ (ev_ct rfl ?_))
    refine ev_rs [Vinc.bool true] rfl (by repeat' (first | exact trivial | exact gd_t | exact gd_f | exact .inl awake_spec | exact (fun _ => rfl) | intro _ | apply And.intro | assumption | exact rfl | exact gd_t (by assumption) | exact gd_f (by assumption) | exact gd_a (by assumption) (by assumption) | exact gd_b (by assumption) (by assumption))) (ev_ret (ret1 (fz_p (PLe.of_eq (congrArg Vinc.bool ?_)))))
    have key : ∀ a b : Bool, (bif (bif (bif a then b else false) then true else true) then true else false) = true := by decide
    exact key _ _

end Go.Proofs

/- The reference of recur, walked; whether a row goes on by a rule. -/
set_option linter.unusedVariables false
namespace Go.Proofs
open Go Vinc Vinc.Num

/-- All are words. -/
def W64 (xs : List Nat) : Prop := ∀ x, x ∈ xs → x < 18446744073709551616

theorem W64.get {xs : List Nat} (h : W64 xs) (j : Nat) : xs.getD j 0 < 18446744073709551616 := getD_lt (by decide) h j

theorem RefNext_spec {p : Nat} (hm : MayM p) (r row : List Nat) (hr : r.length ≤ row.length) (hl : row.length < 1000000) (hw : W64 row) :
    CallSpec Tryd.pr.P Tryd.pr.G 28 [u64s r, u64s row, u64 p] (u64 (refNext p r row)) := by
  have hp0 := hm.1
  refine callSpec_of Tryd.pr Tryd.func28 rfl rfl rfl fun w0 ok0 hok hG => ?_
  refine ev_rs [] rfl trivial ?_
  refine ev_rs [] rfl trivial ?_
  refine ev_at (α := Unit) (fun _ => True) (fun _ => [(2, .p (u64 p)), (7, .p (u64 (nextF p r row r.length)))]) (fun _ => []) ?_ ?_
  · refine ev_rs [] rfl trivial ?_
    refine ev_block (ev_while0 (α := Nat) (fun i => i ≤ r.length) (fun i => [(0, .p (u64s r)), (1, .p (u64s row)), (2, .p (u64 p)), (7, .p (u64 (nextF p r row i))), (8, .p (i64 i))]) (fun i => r.length - i) 0
      (Nat.zero_le _) ⟨le_0, le_0, le_0, le_0, le_0, trivial⟩ ?_)
    rintro i h1
    refine ev_seq (ev_rs [] rfl trivial (ev_cond rfl (fun h => ev_sk ?_) (fun h => ev_exit ?_)))
    · have hi : i < r.length := Int.ofNat_lt.mp (of_decide_eq_true h)
      refine ev_seq (ev_block ?_)
      have e3 : IntKind.wrap .i64 (IntKind.wrap .i64 ((row.length : Int) - 1) - (i : Int)) = ((row.length - 1 - i : Nat) : Int) := by
        rw [wrapI ((row.length : Int) - 1) (by omega) (by omega), wrapI _ (by omega) (by omega)]; omega
      refine ev_draw [u64 (r.getD i 0 * row.getD (row.length - 1 - i) 0 % p), u64 (nextF p r row (i + 1))] (by kernel_rfl) rfl rfl ?_ ?_
      · rw [e3]
        exact ⟨.inl (RefAdd_spec hm _ _), .inl (RefMul_spec hm _ _ (hw.get _)), (by omega : row.length - 1 - i < row.length), ⟨by omega, by omega⟩, hi, ⟨by omega, by omega⟩, trivial⟩
      exact ev_region [] rfl trivial (round0 (i + 1) hi (by omega) ⟨le_0, le_0, le_0, le_0, le_e (congrArg (fun z => PV.val (.int .i64 z)) (wrapI _ (by omega) (by omega))), trivial⟩)
    · have hi : i = r.length := by
        have := of_decide_eq_false h
        omega
      subst hi
      exact at0 () trivial ⟨le_0, le_0, trivial⟩
  rintro ⟨⟩ -
  exact ev_rs [u64 (refNext p r row)] rfl ⟨.inl (RefSub_spec hm _ _), trivial⟩ (ev_ret (ret1 (fz_p (PLe.refl _))))

theorem W64.take {xs : List Nat} (h : W64 xs) (n : Nat) : W64 (xs.take n) := fun x hx => h x (List.mem_of_mem_take hx)

theorem RefHolds_spec {p : Nat} (hm : MayM p) (r row : List Nat) (hl : row.length < 1000000) (hrl : r.length < 1000000) (hw : W64 row) :
    CallSpec Tryd.pr.P Tryd.pr.G 12 [u64s r, u64s row, u64 p] (Vinc.bool (refHolds p r row)) := by
  have hp0 := hm.1
  refine callSpec_of Tryd.pr Tryd.func12 rfl rfl rfl fun w0 ok0 hok hG => ?_
  refine ev_rs [] rfl trivial ?_
  refine ev_at (α := Unit) (fun _ => ∀ i, i < row.length → r.length ≤ i → refNext p r (row.take i) = row.getD i 0 % p) (fun _ => []) (fun _ => []) ?_ ?_
  · refine ev_rs [] rfl trivial ?_
    refine ev_block (ev_while0 (α := Nat) (fun i => r.length ≤ i ∧ (i ≤ row.length ∨ i = r.length) ∧ ∀ j, j < i → j < row.length → r.length ≤ j → refNext p r (row.take j) = row.getD j 0 % p) (fun i => [(0, .p (u64s r)), (1, .p (u64s row)), (2, .p (u64 p)), (7, .p (i64 i))]) (fun i => row.length - i) r.length
      ⟨Nat.le_refl _, .inr rfl, fun j h1 _ h3 => by omega⟩ ⟨le_0, le_0, le_0, le_0, trivial⟩ ?_)
    rintro i ⟨h1, h2, h3⟩
    refine ev_seq (ev_rs [] rfl trivial (ev_cond rfl (fun h => ev_sk ?_) (fun h => ev_exit ?_)))
    · have hi : i < row.length := Int.ofNat_lt.mp (of_decide_eq_true h)
      have htl : (row.take i).length = i := by simp; omega
      refine ev_seq (ev_block ?_)
      refine ev_ds [u64 (refNext p r (row.take i))] (by kernel_rfl) rfl rfl ?_ (ev_cond rfl (fun h => ?_) (fun h => ?_))
      · exact ⟨by simp; omega, hi, ⟨by omega, by omega⟩, .inl (callSpec_args (as' := [u64s r, u64s (row.take i), u64 p]) ⟨PLe.refl _, PLe.take (by omega), PLe.refl _, trivial⟩ (RefNext_spec hm r (row.take i) (by omega) (by omega) (hw.take i))), ⟨by omega, by omega⟩, trivial⟩
      · have hne : refNext p r (row.take i) ≠ row.getD i 0 % p := fun e => (bne_iff_ne.mp h) (congrArg (fun n : Nat => (n : Int)) e)
        refine ev_rs [] rfl trivial (ev_ret (ret1 (fz_p (PLe.of_eq (congrArg Vinc.bool ?_)))))
        exact (decide_eq_false fun hall => hne (hall i hi h1)).symm
      · have heq : refNext p r (row.take i) = row.getD i 0 % p := Int.ofNat_inj.mp (bne_eq_false_iff_eq.mp h)
        refine ev_skip ?_
        refine ev_region [] rfl trivial (round0 (i + 1) ⟨by omega, .inl hi, fun j h4 h5 h6 => ?_⟩ (by omega) ⟨le_0, le_0, le_0, le_e (congrArg (fun z => PV.val (.int .i64 z)) (wrapI _ (by omega) (by omega))), trivial⟩)
        rcases Nat.lt_or_ge j i with hj | hj
        · exact h3 j hj h5 h6
        · rw [show j = i by omega]; exact heq
    · have hi : row.length ≤ i := by
        have := of_decide_eq_false h
        omega
      exact at0 () (fun j h4 h5 => h3 j (by omega) h4 h5) trivial
  rintro ⟨⟩ h
  refine ev_rs [] rfl trivial (ev_ret (ret1 (fz_p (PLe.of_eq (congrArg Vinc.bool ?_)))))
  exact (decide_eq_true h).symm

theorem take_snoc (xs : List Nat) (i : Nat) (hi : i < xs.length) : xs.take (i + 1) = xs.take i ++ [xs.getD i 0] := by
  rw [List.take_add_one, List.getD_eq_getElem?_getD, List.getElem?_eq_getElem hi]
  rfl

theorem refNext_lt {p : Nat} (hp : 0 < p) (r row : List Nat) : refNext p r row < p := Nat.mod_lt _ hp

theorem W64.more {p : Nat} (hp : 0 < p) (hp2 : p < 9223372036854775808) {r xs : List Nat} (h : W64 xs) : ∀ n, W64 (refMore p r xs n)
  | 0 => h
  | n + 1 => fun x hx => by
    unfold refMore at hx
    rcases List.mem_append.mp hx with hx | hx
    · exact W64.more hp hp2 h n x hx
    · have := List.mem_singleton.mp hx
      have h2 := refNext_lt hp r (refMore p r xs n)
      omega

theorem W64.mods {p : Nat} (hp : 0 < p) (hp2 : p < 9223372036854775808) (xs : List Nat) : W64 (xs.map (· % p)) := fun x hx => by
  obtain ⟨y, _, rfl⟩ := List.mem_map.mp hx
  have := Nat.mod_lt y hp
  show y % p < _
  omega

theorem RefMore_spec {p : Nat} (hm : MayM p) (r row : List Nat) (many : Nat) (hr : r.length ≤ row.length) (hl : row.length < 100000) (hmany : many ≤ 100000) :
    CallSpec Tryd.pr.P Tryd.pr.G 16 [u64s r, u64s row, i64 many, u64 p] (u64s (refMore p r (row.map (· % p)) many)) := by
  have hp0 := hm.1
  have hp2 := hm.2
  obtain ⟨ms, hms⟩ : ∃ ms, row.map (· % p) = ms := ⟨_, rfl⟩
  have hml : ms.length = row.length := by rw [← hms, List.length_map]
  have hmw : W64 ms := hms ▸ W64.mods (by omega) hp2 row
  have hmg : ∀ i, i < row.length → ms.getD i 0 = row.getD i 0 % p := fun i hi => by
    rw [← hms]
    simp [List.getD_eq_getElem?_getD, hi]
  rw [hms]
  refine callSpec_of Tryd.pr Tryd.func16 rfl rfl rfl fun w0 ok0 hok hG => ?_
  refine ev_rs [] rfl trivial ?_
  refine ev_rs [] rfl trivial (ev_nilown 9 9 rfl rfl ?_)
  refine ev_at (α := Unit) (fun _ => True) (fun _ => [(0, .p (u64s r)), (2, .p (i64 many)), (3, .p (u64 p)), (9, .own 9 0 row.length 1)]) (fun _ => [(9, ob64 ms)]) ?_ ?_
  · refine ev_rs [] rfl trivial ?_
    refine ev_block (ev_while (α := Nat) (fun i => i ≤ row.length) (fun i => [(0, .p (u64s r)), (1, .p (u64s row)), (2, .p (i64 many)), (3, .p (u64 p)), (9, .own 9 0 i 1), (10, .p (i64 i))]) (fun i => [(9, ob64 (ms.take i))]) (fun i => row.length - i) 0
      (Nat.zero_le _) (wk_ob rfl (fun hd => ⟨le_refl hd _, le_refl hd _, le_refl hd _, le_refl hd _, le_o rfl, le_refl hd _, trivial⟩)) ?_)
    rintro i h1
    refine ev_seq (ev_rs [] rfl trivial (ev_cond rfl (fun h => ev_sk ?_) (fun h => ev_exit ?_)))
    · have hi : i < row.length := Int.ofNat_lt.mp (of_decide_eq_true h)
      have htl : (ms.take i).length = i := by simp; omega
      refine ev_seq (ev_block ?_)
      refine ev_region [] rfl ?_ (ev_app 9 26 (ms.take i) [row.getD i 0 % p] rfl rfl (by rw [htl]; rfl) (by show i + 1 = _; rw [htl]; rfl) htl.symm (fun j hj => rfl) (fun j hj => ?_) ?_)
      · exact ⟨⟨by omega, htl, Nat.le_refl 1⟩, by simp; omega, hi, ⟨by omega, by omega⟩, trivial⟩
      · match j, hj with
        | 0, _ => rfl
      have hst : ms.take i ++ [row.getD i 0 % p] = ms.take (i + 1) := by rw [take_snoc ms i (by omega), hmg i hi]
      exact ev_region [] rfl trivial ⟨i + 1, hi, by dsimp only; omega, wk_ren (i' := 26) (congrArg (fun l => some (ob64 l)) hst) (fun hd => ⟨le_refl hd _, le_refl hd _, le_refl hd _, le_refl hd _, le_ren rfl (by rw [hst]; simp; omega), le_n hd (congrArg (fun z => PV.val (.int .i64 z)) (wrapI _ (by omega) (by omega))), trivial⟩)⟩
    · have hi : i = row.length := by
        have := of_decide_eq_false h
        omega
      subst hi
      exact at_ob () trivial (congrArg (fun l => some (ob64 l)) (by rw [← hml]; exact List.take_length)) (fun hd => ⟨le_refl hd _, le_refl hd _, le_refl hd _, le_o rfl, trivial⟩)
  rintro ⟨⟩ -
  refine ev_at (α := Unit) (fun _ => True) (fun _ => [(9, .own 9 0 (row.length + many) 1)]) (fun _ => [(9, ob64 (refMore p r ms many))]) ?_ ?_
  · refine ev_rs [] rfl trivial ?_
    refine ev_block (ev_while (α := Nat) (fun i => i ≤ many) (fun i => [(0, .p (u64s r)), (2, .p (i64 many)), (3, .p (u64 p)), (9, .own 9 0 (row.length + i) 1), (11, .p (i64 i))]) (fun i => [(9, ob64 (refMore p r ms i))]) (fun i => many - i) 0
      (Nat.zero_le _) (wk_ob rfl (fun hd => ⟨le_refl hd _, le_refl hd _, le_refl hd _, le_o rfl, le_refl hd _, trivial⟩)) ?_)
    rintro i h1
    refine ev_seq (ev_rs [] rfl trivial (ev_cond rfl (fun h => ev_sk ?_) (fun h => ev_exit ?_)))
    · have hi : i < many := Int.ofNat_lt.mp (of_decide_eq_true h)
      have hck : (refMore p r ms i).length = row.length + i := by rw [length_refMore, hml]
      have hw := W64.more (p := p) (by omega) hp2 (r := r) hmw i
      obtain ⟨ys, hys⟩ : ∃ ys, refMore p r ms i = ys := ⟨_, rfl⟩
      have hst : refMore p r ms (i + 1) = ys ++ [refNext p r ys] := by rw [← hys]; rfl
      rw [hys] at hck hw
      have hN := RefNext_spec hm r ys (by omega) (by omega) hw
      refine ev_seq (ev_block ?_)
      refine ev_eq 9 (.own 9 0 ys.length 1) (congrArg (fun n => AV.own 9 0 n 1) hck.symm) (ev_ob 9 (ob64 ys) (congrArg (fun l => some (ob64 l)) hys) ?_)
      refine ev_region [u64 (refNext p r ys)] rfl ?_ (ev_app 9 38 ys [refNext p r ys] rfl rfl rfl rfl rfl (fun j hj => rfl) (fun j hj => ?_) ?_)
      · exact ⟨⟨by omega, rfl, Nat.le_refl 1⟩, ⟨⟨(by omega : 0 + ys.length ≤ ys.length), trivial⟩, .inl hN⟩, trivial⟩
      · match j, hj with
        | 0, _ => rfl
      exact ev_region [] rfl trivial ⟨i + 1, hi, by dsimp only; omega, wk_ren (i' := 38) (congrArg (fun l => some (ob64 l)) hst.symm) (fun hd => ⟨le_refl hd _, le_refl hd _, le_refl hd _, le_ren rfl (by simp; omega), le_n hd (congrArg (fun z => PV.val (.int .i64 z)) (wrapI _ (by omega) (by omega))), trivial⟩)⟩
    · have hi : i = many := by
        have := of_decide_eq_false h
        omega
      subst hi
      exact at_ob () trivial rfl (fun hd => ⟨le_o rfl, trivial⟩)
  rintro ⟨⟩ -
  exact ev_rs [] rfl trivial (ev_ret (ret1 (fz_ob' rfl (by rw [length_refMore, hml]) rfl)))

end Go.Proofs

/- Whether a row goes on by a rule, and what it goes on to: the law, walked. -/
set_option linter.unusedVariables false
namespace Go.Proofs
open Go Vinc Vinc.Num

theorem More_any {p : Nat} (hm : MayM p) (hb : isB p = true) (r row : List Nat) (many : Int) (hmx : many ≤ 100000 ∨ 100000 < many) (hl : row.length < 1000000) :
    ∃ (l : List Nat) (e : Int), CallSpec Tryd.pr.P Tryd.pr.G 18 [u64 p, u64s r, u64s row, i64 many] (.tup 2 (two (u64s l) (i64 e))) := by
  by_cases h1 : many < 0 ∨ row.length < r.length
  · exact ⟨[], 1, callSpec_res (PLe.two2 PLe.nil (PLe.refl _)) (More_arg hm hb r row many h1)⟩
  · by_cases h2 : 100000 < many
    · exact ⟨[], 13, callSpec_res (PLe.two2 PLe.nil (PLe.refl _)) (More_limit hm hb r row many h2 (by omega))⟩
    · obtain ⟨n, rfl⟩ := Int.eq_ofNat_of_zero_le (by omega : 0 ≤ many)
      exact ⟨_, _, More_ok hm hb r row n (by omega) (by omega) hl⟩

theorem bool3 : ∀ a b c d : Bool, (bif (bif a then true else b) then true else (bif c then d else false)) = false → a = false ∧ b = false ∧ (c = true → d = false) := by decide

theorem RecurHolds_spec (p : Nat) (r row : List Nat) (many : Int) (hp : p < 18446744073709551616) (hwr : W64 r) (hw : W64 row) :
    CallSpec Tryd.pr.P Tryd.pr.G 6 [u64 p, .agg 2 (two (u64s r) (u64s row)), i64 many] (Vinc.bool true) := by
  refine callSpec_of Tryd.pr Tryd.func6 rfl rfl rfl fun w0 ok0 hok hG => ?_
  refine ev_rs [] rfl trivial ?_
  refine ev_rs [] rfl (by repeat' (first | exact trivial | exact gd_t | exact gd_f | exact leb rfl | exact Int.le_refl _ | exact (by decide : (0 : Int) < ((2 : Nat) : Int)) | exact (by decide : (0 : Int) ≤ 1) | exact (by decide : (1 : Int) < ((2 : Nat) : Int)) | exact (fun _ => rfl) | intro _ | apply And.intro | assumption | exact rfl | exact gd_t (by assumption) | exact gd_f (by assumption) | exact gd_a (by assumption) (by assumption) | exact gd_b (by assumption) (by assumption))) ?_
  refine ev_rs [] rfl (by repeat' (first | exact trivial | exact gd_t | exact gd_f | exact leb rfl | exact Int.le_refl _ | exact (by decide : (0 : Int) < ((2 : Nat) : Int)) | exact (by decide : (0 : Int) ≤ 1) | exact (by decide : (1 : Int) < ((2 : Nat) : Int)) | exact (fun _ => rfl) | intro _ | apply And.intro | assumption | exact rfl | exact gd_t (by assumption) | exact gd_f (by assumption) | exact gd_a (by assumption) (by assumption) | exact gd_b (by assumption) (by assumption))) ?_
  refine ev_seq (ev_rs [] rfl (by repeat' (first | exact trivial | exact gd_t | exact gd_f | exact (fun _ => rfl) | intro _ | apply And.intro | assumption | exact rfl | exact gd_t (by assumption) | exact gd_f (by assumption) | exact gd_a (by assumption) (by assumption) | exact gd_b (by assumption) (by assumption))) (ev_cond rfl (fun h => ?_) (fun h => ev_sk ?_)))
  · exact ev_rs [Vinc.bool true] rfl ⟨.inl awake_spec, trivial⟩ (ev_ret (ret1 (fz_p (PLe.refl _))))
  obtain ⟨g1, g2, g3⟩ := bool3 _ _ _ _ h
  have hr : r.length ≤ 60 := by have := of_decide_eq_false g1; omega
  have hrow : row.length ≤ 60 := by have := of_decide_eq_false g2; omega
  have hmany : many ≤ 100 ∨ 100000 < many := by
    by_cases h1 : many > 100
    · have := of_decide_eq_false (g3 (decide_eq_true h1)); omega
    · omega
  refine ev_wk (σ' := mk [(0, .p (u64 p)), (2, .p (i64 many)), (7, .p (u64s r)), (8, .p (u64s row))] []) (wk (fun i => i) ⟨le_0, le_0, le_0, le_0, trivial⟩ trivial rfl) ?_
  by_cases hA : Asked p
  · have hm := asked_may hA
    have hp0 := hm.1
    have hb := isB_asked hA
    have hRH := RefHolds_spec hm r row (by omega) (by omega) hw
    rw [← holds_ref (by omega) r row] at hRH
    have fin9 : ∀ x : Bool, (bif ((0 : Int) != 0) then true else !(x == x)) = false := by decide
    by_cases h1 : many < 0 ∨ row.length < r.length
    · refine ev_rs [.tup 2 (two (Vinc.bool (holdsB p r row)) (i64 0))] rfl ⟨.inl (Holds_ok hm hb r row (by omega) (by omega)), trivial⟩ ?_
      refine ev_rs [.tup 2 (two nilS (i64 1))] rfl ⟨.inl (More_arg hm hb r row many h1), trivial⟩ ?_
      refine ev_seq (ev_rs [Vinc.bool true] rfl ⟨.inl (LawPrime_t hA), trivial⟩ (ev_cf rfl (ev_sk ?_)))
      refine ev_seq (ev_rs [Vinc.bool (holdsB p r row)] rfl (by repeat' (first | exact trivial | exact gd_t | exact gd_f | exact .inl hRH | exact (fun _ => rfl) | intro _ | apply And.intro | assumption | exact rfl | exact gd_t (by assumption) | exact gd_f (by assumption) | exact gd_a (by assumption) (by assumption) | exact gd_b (by assumption) (by assumption))) (ev_cf (congrArg (fun b => AV.p (PV.val (.bool b))) (fin9 _)) (ev_sk ?_)))
      refine ev_seq (ev_rs [] rfl (by repeat' (first | exact trivial | exact gd_t | exact gd_f | exact (fun _ => rfl) | intro _ | apply And.intro | assumption | exact rfl | exact gd_t (by assumption) | exact gd_f (by assumption) | exact gd_a (by assumption) (by assumption) | exact gd_b (by assumption) (by assumption))) (ev_cond rfl (fun h => ?_) (fun h => ?_)))
      · exact ev_rs [Vinc.bool true] rfl (by repeat' (first | exact trivial | exact gd_t | exact gd_f | exact .inl awake_spec | exact (fun _ => rfl) | intro _ | apply And.intro | assumption | exact rfl | exact gd_t (by assumption) | exact gd_f (by assumption) | exact gd_a (by assumption) (by assumption) | exact gd_b (by assumption) (by assumption))) (ev_ret (ret1 (fz_p (PLe.refl _))))
      · exfalso
        rcases h1 with h1 | h1
        · rw [decide_eq_true h1] at h; cases h
        · rw [decide_eq_true (Int.ofNat_lt.mpr h1)] at h
          cases hd : decide (many < 0) <;> rw [hd] at h <;> cases h
    have d1 : decide (many < 0) = false := decide_eq_false (by omega)
    have d2 : decide ((row.length : Int) < (r.length : Int)) = false := decide_eq_false (by omega)
    have d3 : (bif decide (many < 0) then true else decide ((row.length : Int) < (r.length : Int))) = false := by rw [d1, d2]; rfl
    by_cases h2 : 100000 < many
    · refine ev_rs [.tup 2 (two (Vinc.bool (holdsB p r row)) (i64 0))] rfl ⟨.inl (Holds_ok hm hb r row (by omega) (by omega)), trivial⟩ ?_
      refine ev_rs [.tup 2 (two nilS (i64 13))] rfl ⟨.inl (More_limit hm hb r row many h2 (by omega)), trivial⟩ ?_
      refine ev_seq (ev_rs [Vinc.bool true] rfl ⟨.inl (LawPrime_t hA), trivial⟩ (ev_cf rfl (ev_sk ?_)))
      refine ev_seq (ev_rs [Vinc.bool (holdsB p r row)] rfl (by repeat' (first | exact trivial | exact gd_t | exact gd_f | exact .inl hRH | exact (fun _ => rfl) | intro _ | apply And.intro | assumption | exact rfl | exact gd_t (by assumption) | exact gd_f (by assumption) | exact gd_a (by assumption) (by assumption) | exact gd_b (by assumption) (by assumption))) (ev_cf (congrArg (fun b => AV.p (PV.val (.bool b))) (fin9 _)) (ev_sk ?_)))
      refine ev_seq (ev_rs [] rfl (by repeat' (first | exact trivial | exact gd_t | exact gd_f | exact (fun _ => rfl) | intro _ | apply And.intro | assumption | exact rfl | exact gd_t (by assumption) | exact gd_f (by assumption) | exact gd_a (by assumption) (by assumption) | exact gd_b (by assumption) (by assumption))) (ev_cf (congrArg (fun b => AV.p (PV.val (.bool b))) d3) (ev_sk ?_)))
      refine ev_seq (ev_rs [] rfl trivial (ev_ct (congrArg (fun b => AV.p (PV.val (.bool b))) (decide_eq_true h2)) ?_))
      exact ev_rs [Vinc.bool true] rfl (by repeat' (first | exact trivial | exact gd_t | exact gd_f | exact .inl awake_spec | exact (fun _ => rfl) | intro _ | apply And.intro | assumption | exact rfl | exact gd_t (by assumption) | exact gd_f (by assumption) | exact gd_a (by assumption) (by assumption) | exact gd_b (by assumption) (by assumption))) (ev_ret (ret1 (fz_p (PLe.refl _))))
    · obtain ⟨n, rfl⟩ := Int.eq_ofNat_of_zero_le (by omega : 0 ≤ many)
      obtain ⟨L, hL⟩ : ∃ L, moreN p r (row.map (· % p)) n = L := ⟨_, rfl⟩
      have hM := More_ok hm hb r row n (by omega) (by omega) (by omega)
      have hRM := RefMore_spec hm r row n (by omega) (by omega) (by omega)
      have hLl : L.length = row.length + n := by rw [← hL, length_moreN, List.length_map]
      rw [← more_ref (by omega) r (row.map (· % p)) (by rw [List.length_map]; omega) n] at hRM
      rw [hL] at hM hRM
      have hS := Same_spec L L (by omega) (by omega)
      rw [decide_eq_true rfl] at hS
      refine ev_rs [.tup 2 (two (Vinc.bool (holdsB p r row)) (i64 0))] rfl ⟨.inl (Holds_ok hm hb r row (by omega) (by omega)), trivial⟩ ?_
      refine ev_rs [.tup 2 (two (u64s L) (i64 0))] rfl ⟨.inl hM, trivial⟩ ?_
      refine ev_seq (ev_rs [Vinc.bool true] rfl ⟨.inl (LawPrime_t hA), trivial⟩ (ev_cf rfl (ev_sk ?_)))
      refine ev_seq (ev_rs [Vinc.bool (holdsB p r row)] rfl (by repeat' (first | exact trivial | exact gd_t | exact gd_f | exact .inl hRH | exact (fun _ => rfl) | intro _ | apply And.intro | assumption | exact rfl | exact gd_t (by assumption) | exact gd_f (by assumption) | exact gd_a (by assumption) (by assumption) | exact gd_b (by assumption) (by assumption))) (ev_cf (congrArg (fun b => AV.p (PV.val (.bool b))) (fin9 _)) (ev_sk ?_)))
      refine ev_seq (ev_rs [] rfl (by repeat' (first | exact trivial | exact gd_t | exact gd_f | exact (fun _ => rfl) | intro _ | apply And.intro | assumption | exact rfl | exact gd_t (by assumption) | exact gd_f (by assumption) | exact gd_a (by assumption) (by assumption) | exact gd_b (by assumption) (by assumption))) (ev_cf (congrArg (fun b => AV.p (PV.val (.bool b))) d3) (ev_sk ?_)))
      refine ev_seq (ev_rs [] rfl trivial (ev_cf (congrArg (fun b => AV.p (PV.val (.bool b))) (decide_eq_false h2)) (ev_sk ?_)))
      exact ev_rs [u64s L, Vinc.bool true, Vinc.bool true] rfl (by repeat' (first | exact trivial | exact gd_t | exact gd_f | exact .inl hRM | exact .inl hS | exact .inl awake_spec | exact (fun _ => rfl) | intro _ | apply And.intro | assumption | exact rfl | exact gd_t (by assumption) | exact gd_f (by assumption) | exact gd_a (by assumption) (by assumption) | exact gd_b (by assumption) (by assumption))) (ev_ret (ret1 (fz_p (PLe.refl _))))
  by_cases hB : p < 9223372036854775808 ∧ isB p = true
  · have hbig := told_big hA hB.2
    have hm : MayM p := ⟨by omega, hB.1⟩
    obtain ⟨l, e, hM⟩ := More_any hm hB.2 r row many (by omega) (by omega)
    refine ev_rs [.tup 2 (two (Vinc.bool (holdsB p r row)) (i64 0))] rfl ⟨.inl (Holds_ok hm hB.2 r row (by omega) (by omega)), trivial⟩ ?_
    refine ev_rs [.tup 2 (two (u64s l) (i64 e))] rfl ⟨.inl hM, trivial⟩ ?_
    refine ev_seq (ev_rs [Vinc.bool false] rfl ⟨.inl (LawPrime_f hA), trivial⟩ (ev_ct rfl ?_))
    refine ev_rs [Vinc.bool true] rfl (by repeat' (first | exact trivial | exact gd_t | exact gd_f | exact .inl awake_spec | exact (fun _ => rfl) | intro _ | apply And.intro | assumption | exact rfl | exact gd_t (by assumption) | exact gd_f (by assumption) | exact gd_a (by assumption) (by assumption) | exact gd_b (by assumption) (by assumption))) (ev_ret (ret1 (fz_p (PLe.of_eq (congrArg Vinc.bool ?_)))))
    have hd1 : decide ((p : Int) > 100000) = true := decide_eq_true (by omega)
    have hd2 : decide ((p : Int) < 9223372036854775808) = true := decide_eq_true (by omega)
    show (bif (bif (bif decide ((p : Int) > 100000) then decide ((p : Int) < 9223372036854775808) else false) then true else _) then true else false) = true
    rw [hd1, hd2]
    rfl
  · refine ev_rs [.tup 2 (two (Vinc.bool false) (i64 14))] rfl ⟨.inl (Holds_no hp hB _ _), trivial⟩ ?_
    refine ev_rs [.tup 2 (two nilS (i64 14))] rfl ⟨.inl (More_no hp hB _ _ _), trivial⟩ ?_
    refine ev_seq (ev_rs [Vinc.bool false] rfl ⟨.inl (LawPrime_f hA), trivial⟩ (ev_ct rfl ?_))
    refine ev_rs [Vinc.bool true] rfl (by repeat' (first | exact trivial | exact gd_t | exact gd_f | exact .inl awake_spec | exact (fun _ => rfl) | intro _ | apply And.intro | assumption | exact rfl | exact gd_t (by assumption) | exact gd_f (by assumption) | exact gd_a (by assumption) (by assumption) | exact gd_b (by assumption) (by assumption))) (ev_ret (ret1 (fz_p (PLe.of_eq (congrArg Vinc.bool ?_)))))
    have key : ∀ a b : Bool, (bif (bif (bif a then b else false) then true else true) then true else false) = true := by decide
    exact key _ _

end Go.Proofs

/- A row has a rule that is no longer than it: the law, walked. -/
set_option linter.unusedVariables false
namespace Go.Proofs
open Go Vinc Vinc.Num

theorem asked_iv {p : Nat} (h : Asked p) : ∀ x, x % p ≠ 0 → x * minv p x % p = 1 % p := fun x hx => by
  have hp := asked_prime h
  have hm := asked_may h
  have hg : Nat.gcd x p = 1 := by
    rw [Nat.gcd_comm]
    exact hp.coprime fun hd => hx (Nat.mod_eq_zero_of_dvd hd)
  rw [(minv_spec hm.1 hg).2, Nat.mod_eq_of_lt hm.1]

def noneB (p : Nat) (row : List Nat) (i : Nat) : Bool := decide (∀ j, j < i → row.getD j 0 % p = 0)

theorem noneB_step (p : Nat) (row : List Nat) (i : Nat) : (bif noneB p row i then (((row.getD i 0 : Nat) : Int).tmod (p : Int) == 0) else false) = noneB p row (i + 1) := by
  have e : ((((row.getD i 0 : Nat) : Int).tmod (p : Int)) == 0) = decide (row.getD i 0 % p = 0) := by
    by_cases h : row.getD i 0 % p = 0
    · rw [decide_eq_true h]
      exact beq_iff_eq.mpr (by rw [tmodN, h]; rfl)
    · rw [decide_eq_false h]
      exact beq_eq_false_iff_ne.mpr fun e => h (Int.ofNat_inj.mp e)
  rw [e]
  unfold noneB
  by_cases h1 : ∀ j, j < i → row.getD j 0 % p = 0
  · rw [decide_eq_true h1]
    by_cases h2 : row.getD i 0 % p = 0
    · rw [decide_eq_true h2, decide_eq_true]
      · rfl
      · intro j hj
        rcases Nat.lt_or_ge j i with h3 | h3
        · exact h1 j h3
        · rw [show j = i by omega]; exact h2
    · rw [decide_eq_false h2, decide_eq_false fun h3 => h2 (h3 i (Nat.lt_succ_self i))]
      rfl
  · rw [decide_eq_false h1, decide_eq_false (p := ∀ j, j < i + 1 → row.getD j 0 % p = 0) fun h3 => h1 fun j hj => h3 j (by omega)]
    rfl

theorem RecurAny_spec (p : Nat) (row : List Nat) (hp : p < 18446744073709551616) :
    CallSpec Tryd.pr.P Tryd.pr.G 8 [u64 p, u64s row] (Vinc.bool true) := by
  refine callSpec_of Tryd.pr Tryd.func8 rfl rfl rfl fun w0 ok0 hok hG => ?_
  refine ev_rs [] rfl trivial ?_
  by_cases hA : Asked p
  · have hm := asked_may hA
    have hp0 := hm.1
    have hb := isB_asked hA
    refine ev_seq (ev_rs [Vinc.bool true] rfl (by repeat' (first | exact trivial | exact gd_t | exact gd_f | exact .inl (LawPrime_t hA) | exact (fun _ => rfl) | intro _ | apply And.intro | assumption | exact rfl | exact gd_t (by assumption) | exact gd_f (by assumption) | exact gd_a (by assumption) (by assumption) | exact gd_b (by assumption) (by assumption))) (ev_cond rfl (fun h => ?_) (fun h => ev_sk ?_)))
    · exact ev_rs [Vinc.bool true] rfl ⟨.inl awake_spec, trivial⟩ (ev_ret (ret1 (fz_p (PLe.refl _))))
    have hl : row.length ≤ 60 := by
      cases hd : decide ((row.length : Int) > 60) with
      | true => rw [hd] at h; cases h
      | false => have := of_decide_eq_false hd; omega
    have hlen := find_len (minv p) p row
    have hh := find_holds (by omega : 1 < p) (minv p) (asked_iv hA) row
    have hn := find_none (by omega : 1 < p) (minv p) (asked_iv hA) row
    have hF := Find_ok hm hb row (by omega)
    obtain ⟨r, hr⟩ : ∃ r, (findN (minv p) p row row.length).now = r := ⟨_, rfl⟩
    rw [hr] at hlen hh hn hF
    have hH := Holds_ok hm hb r row (by omega) (by omega)
    rw [hh] at hH
    refine ev_rs [.tup 2 (two (u64s r) (i64 0))] rfl ⟨.inl hF, trivial⟩ ?_
    refine ev_rs [.tup 2 (two (Vinc.bool true) (i64 0))] rfl ⟨.inl hH, trivial⟩ ?_
    have hd : decide ((r.length : Int) > (row.length : Int)) = false := decide_eq_false (by omega)
    refine ev_seq (ev_rs [] rfl (by repeat' (first | exact trivial | exact gd_t | exact gd_f | exact (fun _ => rfl) | intro _ | apply And.intro | assumption | exact rfl | exact gd_t (by assumption) | exact gd_f (by assumption) | exact gd_a (by assumption) (by assumption) | exact gd_b (by assumption) (by assumption))) (ev_cf (congrArg (fun b => AV.p (PV.val (.bool b))) hd) (ev_sk ?_)))
    refine ev_rs [] rfl trivial ?_
    refine ev_at (α := Unit) (fun _ => True) (fun _ => [(5, .p (u64s r)), (9, .p (Vinc.bool (noneB p row row.length)))]) (fun _ => []) ?_ ?_
    · refine ev_rs [] rfl trivial ?_
      refine ev_block (ev_while0 (α := Nat) (fun i => i ≤ row.length) (fun i => [(0, .p (u64 p)), (1, .p (u64s row)), (5, .p (u64s r)), (9, .p (Vinc.bool (noneB p row i))), (10, .p (i64 i))]) (fun i => row.length - i) 0
        (Nat.zero_le _) ⟨le_0, le_0, le_0, le_e (congrArg Vinc.bool (decide_eq_true (fun j hj => by omega)).symm), le_0, trivial⟩ ?_)
      rintro i h1
      refine ev_seq (ev_rs [] rfl trivial (ev_cond rfl (fun h => ev_sk ?_) (fun h => ev_exit ?_)))
      · have hi : i < row.length := Int.ofNat_lt.mp (of_decide_eq_true h)
        refine ev_seq (ev_block ?_)
        refine ev_region [] rfl (by repeat' (first | exact trivial | exact gd_t | exact gd_f | exact hi | exact Int.natCast_nonneg _ | exact Int.ofNat_lt.mpr hi | exact (fun e => by simp at e; omega) | exact (fun _ => rfl) | intro _ | apply And.intro | assumption | exact rfl | exact gd_t (by assumption) | exact gd_f (by assumption) | exact gd_a (by assumption) (by assumption) | exact gd_b (by assumption) (by assumption))) ?_
        exact ev_region [] rfl trivial (round0 (i + 1) hi (by omega) ⟨le_0, le_0, le_0, le_e (congrArg Vinc.bool (noneB_step p row i)), le_e (congrArg (fun z => PV.val (.int .i64 z)) (wrapI _ (by omega) (by omega))), trivial⟩)
      · have hi : i = row.length := by
          have := of_decide_eq_false h
          omega
        subst hi
        exact at0 () trivial ⟨le_0, le_0, trivial⟩
    rintro ⟨⟩ -
    have hfin : (noneB p row row.length == (((r.length : Nat) : Int) == 0)) = true := by
      have e : (((r.length : Nat) : Int) == 0) = decide (r = []) := by
        by_cases h : r = []
        · rw [decide_eq_true h, h]; rfl
        · rw [decide_eq_false h]
          exact beq_eq_false_iff_ne.mpr fun e => h (List.eq_nil_of_length_eq_zero (Int.ofNat_inj.mp e))
      rw [e]
      unfold noneB
      rw [decide_eq_decide.mpr hn.symm]
      exact beq_self_eq_true _
    refine ev_rs [Vinc.bool true] rfl (by repeat' (first | exact trivial | exact gd_t | exact gd_f | exact .inl awake_spec | exact (fun _ => rfl) | intro _ | apply And.intro | assumption | exact rfl | exact gd_t (by assumption) | exact gd_f (by assumption) | exact gd_a (by assumption) (by assumption) | exact gd_b (by assumption) (by assumption))) (ev_ret (ret1 (fz_p (PLe.of_eq (congrArg Vinc.bool ?_)))))
    show (bif (noneB p row row.length == (((r.length : Nat) : Int) == 0)) then true else false) = true
    rw [hfin]
    rfl
  · refine ev_seq (ev_rs [Vinc.bool false] rfl (by repeat' (first | exact trivial | exact gd_t | exact gd_f | exact .inl (LawPrime_f hA) | exact (fun _ => rfl) | intro _ | apply And.intro | assumption | exact rfl | exact gd_t (by assumption) | exact gd_f (by assumption) | exact gd_a (by assumption) (by assumption) | exact gd_b (by assumption) (by assumption))) (ev_cond rfl (fun h => ?_) (fun h => ?_)))
    · exact ev_rs [Vinc.bool true] rfl ⟨.inl awake_spec, trivial⟩ (ev_ret (ret1 (fz_p (PLe.refl _))))
    · exfalso
      have h : (bif decide ((row.length : Int) > 60) then true else !false) = false := h
      cases hd : decide ((row.length : Int) > 60) <;> rw [hd] at h <;> cases h

end Go.Proofs

/- Whether equations have a solution: the rows are laid, one by one, as own rows of which there are as many as one likes. -/
set_option linter.unusedVariables false
namespace Go.Proofs
open Go Vinc Vinc.Num

theorem RInv_spec {p : Nat} (hm : MayM p) (x : Nat) (hx : x < 18446744073709551616) : CallSpec Tryd.pr.P Tryd.pr.G 30 [u64 x, u64 p] (u64 (rInv p x)) := by
  have hp0 := hm.1
  have hp2 := hm.2
  have e1 : IntKind.wrap .u64 ((p : Int) - 2) = ((p - 2 : Nat) : Int) := wrapSub p 2 (by omega) (by omega)
  refine callSpec_of Tryd.pr Tryd.func30 rfl rfl rfl fun w0 ok0 hok hG => ?_
  refine ev_rs [] rfl trivial ?_
  refine ev_rs [u64 (rInv p x)] rfl ?_ (ev_ret (ret1 (fz_p (PLe.refl _))))
  rw [e1]
  exact ⟨.inl (RefPow_spec hm x (p - 2) hx (by omega)), trivial⟩

namespace Sol

/-- The rows that there are so far. -/
def famE (p n : Nat) (row : List Nat) (m : Nat) : Nat → List Nat := fun x => if x < m then rowE p n row x else []

/-- The slice of the rows. -/
abbrev outO (n mm : Nat) (π : Nat → Nat) : Ob := ⟨mm, fun j => .own (π j + 200) 0 (n + 1) 1⟩

abbrev lay (p n : Nat) (row : List Nat) (m : Nat) (l : List (Nat × AV)) : List (Nat × AV) := (0, .p (i64 n)) :: (1, .p (u64s row)) :: (2, .p (u64 p)) :: (6, .p (Vinc.bool false)) :: (7, .own 190 0 m 1) :: l

abbrev S0 (p n : Nat) (row : List Nat) (m : Nat) : St := mkF (lay p n row m [(8, .p (i64 ((n + m : Nat) : Int)))]) [(190, outO n m (fun j => j))] (famE p n row m)

abbrev S2 (p n : Nat) (row : List Nat) (m k : Nat) : St :=
  mkF (lay p n row m [(8, .p (i64 ((n + m : Nat) : Int))), (9, .own 191 0 k 1), (10, .p (i64 (k : Nat)))]) [(190, outO n m (fun j => j)), (191, ob64 (tabL (fun c => row.getD (n + m - 1 - c) 0 % p) k))] (famE p n row m)

abbrev g44 : Nat → Nat := fun i => bif Nat.beq i 191 then 44 else i

/-- The rows in their order, how many are used, the column. -/
structure GS where
  k : Nat
  u : Nat
  π : Nat → Nat
  R : Nat → List Nat

structure GOk (p n mm : Nat) (row : List Nat) (a : GS) : Prop where
  fi : FI p n mm a.k a.u (rowE p n row) (fun j => a.R (a.π j))
  ok : ∀ j, j < mm → RowOk p n (a.R (a.π j))
  inj : ∀ i j, i < mm → j < mm → a.π i = a.π j → i = j

abbrev S4 (p n : Nat) (row : List Nat) (mm : Nat) (a : GS) : St := mkF (lay p n row mm [(11, .p (i64 (a.u : Nat))), (12, .p (i64 (a.k : Nat)))]) [(190, outO n mm a.π)] a.R

/-- Before the column is left. -/
abbrev S5 (p n : Nat) (row : List Nat) (mm k : Nat) (a : GS) : St := mkF (lay p n row mm [(11, .p (i64 (a.u : Nat))), (12, .p (i64 (k : Nat)))]) [(190, outO n mm a.π)] a.R

abbrev S6 (p n : Nat) (row : List Nat) (mm : Nat) (a : GS) (b : Int × Nat) : St :=
  mkF (lay p n row mm [(11, .p (i64 (a.u : Nat))), (12, .p (i64 (a.k : Nat))), (13, .p (i64 b.1)), (14, .p (i64 (b.2 : Nat)))]) [(190, outO n mm a.π)] a.R

def P6 (mm : Nat) (a : GS) (b : Int × Nat) : Prop :=
  a.u ≤ b.2 ∧ b.2 ≤ mm ∧ ((b.1 = -1 ∧ ∀ i, a.u ≤ i → i < b.2 → (a.R (a.π i)).getD a.k 0 = 0) ∨ ∃ q : Nat, b.1 = (q : Int) ∧ a.u ≤ q ∧ q < mm ∧ (a.R (a.π q)).getD a.k 0 ≠ 0)

/-- The column's row is found, and stands where it belongs. -/
abbrev S7 (p n : Nat) (row : List Nat) (mm : Nat) (a : GS) : St :=
  mkF (lay p n row mm [(11, .p (i64 (a.u : Nat))), (12, .p (i64 (a.k : Nat))), (15, .own (a.π a.u + 200) 0 (n + 1) 1)]) [(190, outO n mm a.π)] a.R

abbrev S8 (p n : Nat) (row : List Nat) (mm inv : Nat) (a : GS) (b : Nat × (Nat → List Nat)) : St :=
  mkF (lay p n row mm [(11, .p (i64 (a.u : Nat))), (12, .p (i64 (a.k : Nat))), (15, .own (a.π a.u + 200) 0 (n + 1) 1), (16, .p (u64 inv)), (17, .p (i64 (b.1 : Nat)))]) [(190, outO n mm a.π)] b.2

def P8 (p n mm inv : Nat) (a : GS) (b : Nat × (Nat → List Nat)) : Prop :=
  a.u + 1 ≤ b.1 ∧ b.1 ≤ mm ∧ ∀ j, j < mm → b.2 (a.π j) = if a.u < j ∧ j < b.1 then elimR p n a.k ((a.R (a.π j)).getD a.k 0 * inv % p) (a.R (a.π a.u)) (a.R (a.π j)) else a.R (a.π j)

abbrev S10 (p n : Nat) (row : List Nat) (mm inv : Nat) (a : GS) (i t : Nat) (RR : Nat → Nat → List Nat) (c : Nat) : St :=
  mkF (lay p n row mm [(11, .p (i64 (a.u : Nat))), (12, .p (i64 (a.k : Nat))), (15, .own (a.π a.u + 200) 0 (n + 1) 1), (16, .p (u64 inv)), (17, .p (i64 (i : Nat))), (18, .p (u64 t)), (19, .p (i64 (c : Nat)))]) [(190, outO n mm a.π)] (RR c)

def swpP (π : Nat → Nat) (a b : Nat) : Nat → Nat := fun j => if j = a then π b else if j = b then π a else π j

theorem swpP_at (π : Nat → Nat) (a b : Nat) : swpP π a b b = π a := by
  unfold swpP
  by_cases h : b = a
  · rw [if_pos h, h]
  · rw [if_neg h, if_pos rfl]

theorem swpP_inj {mm : Nat} {π : Nat → Nat} {a b : Nat} (ha : a < mm) (hb : b < mm) (h : ∀ i j, i < mm → j < mm → π i = π j → i = j) : ∀ i j, i < mm → j < mm → swpP π a b i = swpP π a b j → i = j := fun i j hi hj e => by
  have key : ∀ i, swpP π a b i = π (if i = a then b else if i = b then a else i) := fun i => by
    unfold swpP
    split
    · rfl
    · split <;> rfl
  have lt : ∀ i, i < mm → (if i = a then b else if i = b then a else i) < mm := fun i hi => by
    split
    · exact hb
    · split
      · exact ha
      · exact hi
  rw [key, key] at e
  have := h _ _ (lt i hi) (lt j hj) e
  revert this
  repeat' split
  all_goals (intro; omega)

theorem GOk.swap {p n mm : Nat} {row : List Nat} {a : GS} (h : GOk p n mm row a) {q : Nat} (h1 : a.u ≤ q) (h2 : q < mm) : GOk p n mm row ⟨a.k, a.u, swpP a.π q a.u, a.R⟩ := by
  refine ⟨?_, fun j hj => ?_, swpP_inj h2 (by omega) h.inj⟩
  · have e : (fun j => a.R (swpP a.π q a.u j)) = swpM (fun j => a.R (a.π j)) q a.u := by
      funext j
      unfold swpP swpM
      split
      · rfl
      · split <;> rfl
    show FI p n mm a.k a.u (rowE p n row) (fun j => a.R (swpP a.π q a.u j))
    rw [e]
    exact h.fi.swap h1 h2
  · show RowOk p n (a.R (swpP a.π q a.u j))
    unfold swpP
    split
    · exact h.ok _ (by omega)
    · split
      · exact h.ok _ h2
      · exact h.ok _ hj

theorem GOk.elim {p n mm inv : Nat} {row : List Nat} {a : GS} (hp : 0 < p) (h : GOk p n mm row a) (hk : a.k < n) (hu : a.u < mm) (hinv : cg p ((((a.R (a.π a.u)).getD a.k 0 : Nat) : Int) * inv) 1) {R : Nat → List Nat} (h8 : P8 p n mm inv a (mm, R)) :
    GOk p n mm row ⟨a.k + 1, a.u + 1, a.π, R⟩ := by
  have hR : ∀ j, j < mm → R (a.π j) = if a.u < j ∧ j < mm then elimR p n a.k ((a.R (a.π j)).getD a.k 0 * inv % p) (a.R (a.π a.u)) (a.R (a.π j)) else a.R (a.π j) := h8.2.2
  refine ⟨?_, fun j hj => ?_, h.inj⟩
  · refine FI.congr (M := fun j => if j < mm then R (a.π j) else a.R (a.π j)) (FI.elim (inv := inv) hp h.fi hk hu hinv (fun i hi => ?_) (fun i h1 h2 => ?_)) (fun j hj => (if_pos hj).symm)
    · show (if i < mm then R (a.π i) else a.R (a.π i)) = a.R (a.π i)
      split
      · rw [hR i (by assumption), if_neg (by omega)]
      · rfl
    · show (if i < mm then R (a.π i) else a.R (a.π i)) = _
      rw [if_pos h2, hR i h2, if_pos ⟨h1, h2⟩]
  · show RowOk p n (R (a.π j))
    rw [hR j hj]
    split
    · exact elimR_ok hp _ _ _ _ (h.ok j hj)
    · exact h.ok j hj

end Sol
open Sol

set_option maxRecDepth 40000 in
set_option maxHeartbeats 2000000 in
theorem Solves_no {p : Nat} (hm : MayM p) (hpr : IsPrime p) (n : Nat) (row : List Nat) (hn : n ≤ row.length) (hl : row.length ≤ 24) (hno : ¬ ∃ D, ∀ j, j < row.length - n → EqR p n (rowE p n row j) D) :
    CallSpec Tryd.pr.P Tryd.pr.G 13 [i64 n, u64s row, u64 p] (Vinc.bool false) := by
  have hp0 := hm.1
  have hp2 := hm.2
  obtain ⟨mm, hmm⟩ : ∃ mm, row.length - n = mm := ⟨_, rfl⟩
  rw [hmm] at hno
  refine callSpec_of Tryd.pr Tryd.func13 rfl rfl rfl fun w0 ok0 hok hG => ?_
  refine ev_rs [] rfl trivial ?_
  refine ev_rs [] rfl trivial ?_
  refine ev_atS (α := Unit) (fun _ => True) (fun _ => mkF (lay p n row mm []) [(190, outO n mm (fun j => j))] (famE p n row mm)) ?_ ?_
  · refine ev_rs [] rfl trivial ?_
    refine ev_fam (fun x => rfl) ?_
    refine ev_nilownS 7 190 1 (outO n 0 (fun j => j)) rfl rfl rfl ?_
    refine ev_block (ev_whileS (α := Nat) (fun m => m ≤ mm) (S0 p n row) (fun m => mm - m) 0 (Nat.zero_le _) ?_ ?_)
    · refine wk_I (all1 rfl) (fam_kept fun x => ?_) (fun hd => ⟨le_refl hd _, le_refl hd _, le_refl hd _, le_refl hd _, le_own (ρ := fun i => i) rfl, le_refl hd _, trivial⟩) (fun hd => ⟨⟨_, rfl, Nat.le_refl _, fun j hj => absurd hj (Nat.not_lt_zero j)⟩, trivial⟩)
      rfl
    rintro m h1
    refine ev_seq (ev_rs [] rfl trivial (ev_cond rfl (fun h => ev_sk ?_) (fun h => ev_exit ?_)))
    · have hi : n + m < row.length := Int.ofNat_lt.mp (of_decide_eq_true h)
      obtain ⟨f, hf⟩ : ∃ f : Nat → Nat, f = fun c => row.getD (n + m - 1 - c) 0 % p := ⟨_, rfl⟩
      obtain ⟨R, hR⟩ : ∃ R, famE p n row m = R := ⟨_, rfl⟩
      refine ev_seq (ev_block (ev_rs [] rfl trivial ?_))
      refine ev_atS (α := Unit) (fun _ => True) (fun _ => S2 p n row m n) ?_ ?_
      · refine ev_rs [] rfl trivial ?_
        refine ev_nilown 9 191 rfl rfl ?_
        refine ev_block (ev_whileS (α := Nat) (fun k => k ≤ n) (S2 p n row m) (fun k => n - k) 0 (Nat.zero_le _) ?_ ?_)
        · refine wk_I (all2 rfl rfl) (fam_kept fun x => rfl) (fun hd => ⟨le_refl hd _, le_refl hd _, le_refl hd _, le_refl hd _, le_own (ρ := fun i => i) rfl, le_refl hd _, le_own (ρ := fun i => i) rfl, le_refl hd _, trivial⟩)
            (fun hd => ⟨⟨_, rfl, Nat.le_refl _, fun j hj => le_row⟩, ⟨_, rfl, Nat.le_refl _, fun j hj => absurd hj (Nat.not_lt_zero j)⟩, trivial⟩)
        rintro k h2
        refine ev_seq (ev_rs [] rfl trivial (ev_cond rfl (fun h => ev_sk ?_) (fun h => ev_exit ?_)))
        · have hk : k < n := Int.ofNat_lt.mp (of_decide_eq_true h)
          have e3 : IntKind.wrap .i64 (IntKind.wrap .i64 (((n + m : Nat) : Int) - 1) - (k : Int)) = ((n + m - 1 - k : Nat) : Int) := by
            rw [wrapI (((n + m : Nat) : Int) - 1) (by omega) (by omega), wrapI _ (by omega) (by omega)]; omega
          have e4 : (IntKind.wrap .i64 (IntKind.wrap .i64 (((n + m : Nat) : Int) - 1) - (k : Int))).toNat < row.length := by rw [e3]; omega
          have d8 := tabL_length (fun c => row.getD (n + m - 1 - c) 0 % p) k
          have d9 := (tabL_snoc (fun c => row.getD (n + m - 1 - c) 0 % p) k).symm
          refine ev_seq (ev_block ?_)
          refine ev_region [] rfl ?_ ?_
          · exact ⟨⟨by omega, d8, Nat.le_refl 1⟩, by omega, e4, by rw [e3]; omega, trivial⟩
          refine ev_app 9 44 (tabL (fun c => row.getD (n + m - 1 - c) 0 % p) k) [row.getD (n + m - 1 - k) 0 % p] rfl rfl (show k + 1 = _ by rw [d8]; rfl) (show k + 1 = _ by rw [d8]; rfl) d8.symm (fun _ _ => rfl) (fun q hq => by
            match q, hq with
            | 0, _ => exact congrArg (fun z : Int => AV.p (.val (.int .u64 (((row.getD z.toNat 0 : Nat) : Int).tmod (p : Int))))) e3) ?_
          rw [d9]
          refine ev_region [] rfl trivial ⟨k + 1, hk, by dsimp only; omega, ?_⟩
          refine wk_G g44 (fun x => x + 200) (all2 (show (190 : Nat) < 200 by decide) (show (191 : Nat) < 200 by decide)) (all2 rfl rfl) (fam_kept fun x => rfl) (fun hd => ⟨le_refl hd _, le_refl hd _, le_refl hd _, le_refl hd _, le_own (ρ := famR g44 (fun x => x + 200)) (i := 190) rfl, le_refl hd _, ?_, le_n hd (congrArg (fun z => PV.val (.int .i64 z)) (wrapI _ (by omega) (by omega))), trivial⟩)
            (fun hd => ⟨⟨_, rfl, Nat.le_refl _, fun j hj => le_rowG rfl rfl⟩, ⟨_, rfl, Nat.le_refl _, fun j hj => le_refl hd _⟩, trivial⟩) ?_ (fun x y h => Nat.add_right_cancel h) ?_
          · exact le_ownG rfl rfl (tabL_length _ _)
          · exact all2 (all2 (fun _ => rfl) (fun h => absurd h (show ¬ (190 : Nat) = 44 by decide))) (all2 (fun h => absurd h (show ¬ (44 : Nat) = 190 by decide)) (fun _ => rfl))
          · exact all2 (fun x => show (190 : Nat) ≠ x + 200 by omega) (fun x => show (44 : Nat) ≠ x + 200 by omega)
        · have hk : k = n := by
            have := of_decide_eq_false h
            omega
          subst hk
          exact atS () trivial (wk_I (all2 rfl rfl) (fam_kept fun x => rfl) (fun hd => ⟨le_refl hd _, le_refl hd _, le_refl hd _, le_refl hd _, le_own (ρ := fun i => i) rfl, le_refl hd _, le_own (ρ := fun i => i) rfl, le_refl hd _, trivial⟩)
            (fun hd => ⟨⟨_, rfl, Nat.le_refl _, fun j hj => le_row⟩, ⟨_, rfl, Nat.le_refl _, fun j hj => le_refl hd _⟩, trivial⟩))
      rintro ⟨⟩ -
      have d8 := tabL_length (fun c => row.getD (n + m - 1 - c) 0 % p) n
      have hS : CallSpec Tryd.pr.P Tryd.pr.G 29 [u64 0, u64 (row.getD (n + m) 0), u64 p] (u64 (sb 0 (row.getD (n + m) 0) p)) := RefSub_spec hm 0 _
      refine ev_region [u64 (sb 0 (row.getD (n + m) 0) p)] rfl ?_ ?_
      · exact ⟨⟨by omega, rfl, Nat.le_refl 1⟩, ⟨by omega, d8, Nat.le_refl 1⟩, .inl hS, hi, ⟨by omega, by omega⟩, trivial⟩
      refine ev_app 54 54 (tabL (fun c => row.getD (n + m - 1 - c) 0 % p) n) [sb 0 (row.getD (n + m) 0) p] rfl rfl (show n + 1 = _ by rw [d8]; rfl) (show n + 1 = _ by rw [d8]; rfl) d8.symm (fun _ _ => rfl) (fun q hq => by
        match q, hq with
        | 0, _ => rfl) ?_
      refine ev_region [] rfl trivial ⟨m + 1, by omega, by dsimp only; omega, ?_⟩
      refine wk_G (fun i => bif Nat.beq i 190 then 56 else i) (fun x => if x = m then 54 else x + 200) (all1 (show (190 : Nat) < 200 by decide)) (all1 rfl) (fun x => ?_) (fun hd => ⟨le_refl hd _, le_refl hd _, le_refl hd _, le_refl hd _, le_ownG rfl rfl rfl, le_n hd (congrArg (fun z => PV.val (.int .i64 z)) ((wrapI _ (by omega) (by omega)).trans (by omega))), trivial⟩)
        (fun hd => ⟨⟨_, rfl, Nat.le_refl _, fun j hj => ?_⟩, trivial⟩) (all1 (all1 (fun _ => rfl))) (fun x y h => ?_) (all1 (fun x => ?_))
      · by_cases h3 : x = m
        · refine fam_at (if_pos h3) rfl ?_
          unfold famE
          rw [if_pos (by omega), h3]
          rfl
        · refine fam_at (if_neg h3) rfl ?_
          unfold famE
          by_cases h4 : x < m
          · rw [if_pos h4, if_pos (by omega)]
          · rw [if_neg h4, if_neg (by omega)]
      · have hj : j < m + 1 := hj
        exact le_appF1 hj (fun h3 => le_rowG (if_neg (Nat.ne_of_lt (show j < m from h3))).symm rfl) (fun h3 => le_rowG (G := fun x => if x = m then 54 else x + 200) (i := 54) (x := j) (if_pos h3).symm rfl)
      · have h : (if x = m then 54 else x + 200) = (if y = m then 54 else y + 200) := h
        split at h <;> split at h <;> omega
      · show (56 : Nat) ≠ if x = m then 54 else x + 200
        split <;> omega
    · have hk : m = mm := by
        have := of_decide_eq_false h
        omega
      subst hk
      exact atS () trivial (wk_I (all1 rfl) (fam_kept fun x => rfl) (fun hd => ⟨le_refl hd _, le_refl hd _, le_refl hd _, le_refl hd _, le_own (ρ := fun i => i) rfl, trivial⟩)
            (fun hd => ⟨⟨_, rfl, Nat.le_refl _, fun j hj => le_row⟩, trivial⟩))
  rintro ⟨⟩ -
  refine ev_rs [] rfl trivial ?_
  refine ev_atS (α := GS) (fun a => a.k = n ∧ GOk p n mm row a) (S4 p n row mm) ?_ ?_
  · refine ev_rs [] rfl trivial ?_
    refine ev_block (ev_whileS (α := GS) (fun a => a.k ≤ n ∧ GOk p n mm row a) (S4 p n row mm) (fun a => n - a.k) ⟨0, 0, fun j => j, famE p n row mm⟩ ⟨Nat.zero_le _, ?_, ?_, fun _ _ _ _ h => h⟩ ?_ ?_)
    · refine FI.congr (FI.start p n mm (rowE p n row)) fun j hj => ?_
      exact if_pos hj
    · intro j hj
      show RowOk p n (famE p n row mm j)
      rw [show famE p n row mm j = rowE p n row j from if_pos hj]
      exact rowE_ok (by omega) n row j
    · exact wk_I (all1 rfl) (fam_kept fun x => rfl) (fun hd => ⟨le_refl hd _, le_refl hd _, le_refl hd _, le_refl hd _, le_own (ρ := fun i => i) rfl, le_refl hd _, le_refl hd _, trivial⟩)
            (fun hd => ⟨⟨_, rfl, Nat.le_refl _, fun j hj => le_row⟩, trivial⟩)
    rintro a ⟨h1, h2⟩
    refine ev_seq (ev_rs [] rfl trivial (ev_cond rfl (fun h => ev_sk ?_) (fun h => ev_exit ?_)))
    · have hk : a.k < n := Int.ofNat_lt.mp (of_decide_eq_true h)
      have hum := h2.fi.le
      refine ev_atS (α := GS) (fun b => b.k = a.k + 1 ∧ GOk p n mm row b) (S5 p n row mm a.k) ?_ ?_
      · refine ev_block (ev_rs [] rfl trivial ?_)
        refine ev_atS (α := Int × Nat) (fun b => P6 mm a b ∧ b.2 = mm) (S6 p n row mm a) ?_ ?_
        · refine ev_rs [] rfl trivial ?_
          refine ev_block (ev_whileS (α := Int × Nat) (P6 mm a) (S6 p n row mm a) (fun b => mm - b.2) (-1, a.u) ⟨Nat.le_refl _, hum, .inl ⟨rfl, fun i h3 h4 => by omega⟩⟩ ?_ ?_)
          · exact wk_I (all1 rfl) (fam_kept fun x => rfl) (fun hd => ⟨le_refl hd _, le_refl hd _, le_refl hd _, le_refl hd _, le_own (ρ := fun i => i) rfl, le_refl hd _, le_refl hd _, le_refl hd _, le_refl hd _, trivial⟩)
              (fun hd => ⟨⟨_, rfl, Nat.le_refl _, fun j hj => le_row⟩, trivial⟩)
          rintro ⟨z, i⟩ h3
          refine ev_seq (ev_rs [] rfl trivial (ev_cond rfl (fun h => ev_sk ?_) (fun h => ev_exit ?_)))
          · have hi : i < mm := Int.ofNat_lt.mp (of_decide_eq_true h)
            have hui : a.u ≤ i := h3.1
            have hlen := (h2.ok i hi).1
            refine ev_seq (ev_block ?_)
            refine ev_rs [] rfl ⟨by show a.k < (a.R (a.π i)).length; omega, ⟨by omega, by omega⟩, hi, ⟨by omega, by omega⟩, trivial⟩ (ev_cond rfl (fun h => ?_) (fun h => ?_))
            · have hx : (a.R (a.π i)).getD a.k 0 ≠ 0 := fun e => by
                have h : ((((a.R (a.π i)).getD a.k 0 : Nat) : Int) != 0) = true := h
                rw [e] at h
                cases h
              refine ev_region [] rfl trivial (ev_region [] rfl trivial ⟨((i : Nat), i + 1), ⟨by show a.u ≤ i + 1; omega, hi, .inr ⟨i, rfl, hui, hi, hx⟩⟩, by dsimp only; omega, ?_⟩)
              exact wk_I (all1 rfl) (fam_kept fun x => rfl) (fun hd => ⟨le_refl hd _, le_refl hd _, le_refl hd _, le_refl hd _, le_own (ρ := fun i => i) rfl, le_refl hd _, le_refl hd _, le_refl hd _, le_n hd (congrArg (fun z => PV.val (.int .i64 z)) ((wrapI _ (by omega) (by omega)).trans (by omega))), trivial⟩)
                (fun hd => ⟨⟨_, rfl, Nat.le_refl _, fun j hj => le_row⟩, trivial⟩)
            · have hx : (a.R (a.π i)).getD a.k 0 = 0 := by
                have h : ((((a.R (a.π i)).getD a.k 0 : Nat) : Int) != 0) = false := h
                have h : (((a.R (a.π i)).getD a.k 0 : Nat) : Int) = 0 := by simpa using h
                omega
              refine ev_skip (ev_region [] rfl trivial ⟨(z, i + 1), ⟨by show a.u ≤ i + 1; omega, hi, ?_⟩, by dsimp only; omega, ?_⟩)
              · rcases h3.2.2 with ⟨e, h5⟩ | h5
                · refine .inl ⟨e, fun i' h6 h7 => ?_⟩
                  rcases Nat.lt_or_ge i' i with h8 | h8
                  · exact h5 i' h6 h8
                  · rw [show i' = i by have h7 : i' < i + 1 := h7; omega]
                    exact hx
                · exact .inr h5
              exact wk_I (all1 rfl) (fam_kept fun x => rfl) (fun hd => ⟨le_refl hd _, le_refl hd _, le_refl hd _, le_refl hd _, le_own (ρ := fun i => i) rfl, le_refl hd _, le_refl hd _, le_refl hd _, le_n hd (congrArg (fun z => PV.val (.int .i64 z)) ((wrapI _ (by omega) (by omega)).trans (by omega))), trivial⟩)
                (fun hd => ⟨⟨_, rfl, Nat.le_refl _, fun j hj => le_row⟩, trivial⟩)
          · have hi : i = mm := by
              have := of_decide_eq_false h
              have := h3.2.1
              omega
            exact atS (z, i) ⟨h3, hi⟩ (wk_I (all1 rfl) (fam_kept fun x => rfl) (fun hd => ⟨le_refl hd _, le_refl hd _, le_refl hd _, le_refl hd _, le_own (ρ := fun i => i) rfl, le_refl hd _, le_refl hd _, le_refl hd _, le_refl hd _, trivial⟩)
              (fun hd => ⟨⟨_, rfl, Nat.le_refl _, fun j hj => le_row⟩, trivial⟩))
        rintro ⟨z, i⟩ ⟨h3, h4⟩
        have h4 : mm = i := h4.symm
        subst h4
        refine ev_seq (ev_rs [] rfl trivial (ev_cond rfl (fun h => ev_exit ?_) (fun h => ev_sk ?_)))
        · have hz : z < 0 := of_decide_eq_true h
          refine atS (⟨a.k + 1, a.u, a.π, a.R⟩ : GS) ⟨rfl, h2.fi.skip ?_, h2.ok, h2.inj⟩ (wk_I (all1 rfl) (fam_kept fun x => rfl) (fun hd => ⟨le_refl hd _, le_refl hd _, le_refl hd _, le_refl hd _, le_own (ρ := fun i => i) rfl, le_refl hd _, le_refl hd _, trivial⟩)
            (fun hd => ⟨⟨_, rfl, Nat.le_refl _, fun j hj => le_row⟩, trivial⟩))
          rcases h3.2.2 with ⟨_, h5⟩ | ⟨q, h5, _⟩
          · exact h5
          · have h5 : z = q := h5
            omega
        have hz : ¬ z < 0 := of_decide_eq_false h
        obtain ⟨q, e, hq1, hq2, hq3⟩ : ∃ q : Nat, z = (q : Int) ∧ a.u ≤ q ∧ q < mm ∧ (a.R (a.π q)).getD a.k 0 ≠ 0 := by
          rcases h3.2.2 with ⟨h5, _⟩ | h5
          · have h5 : z = -1 := h5
            omega
          · exact h5
        subst e
        refine ev_rs [] rfl ⟨hq2, ⟨by omega, by omega⟩, trivial⟩ ?_
        refine ev_rs [] rfl ⟨hq2, ⟨by omega, by omega⟩, by show a.u < mm; omega, ⟨by omega, by omega⟩, trivial⟩ ?_
        refine ev_rs [] rfl ⟨by show a.u + 1 ≤ mm; omega, ⟨by omega, by omega⟩, trivial⟩ ?_
        refine ev_wk (σ' := S7 p n row mm ⟨a.k, a.u, swpP a.π q a.u, a.R⟩) (wk_I (all1 rfl) (fam_kept fun x => rfl) (fun hd => ⟨le_refl hd _, le_refl hd _, le_refl hd _, le_refl hd _, le_own (ρ := fun i => i) rfl, le_refl hd _, le_refl hd _, le_rowE ?_ rfl, trivial⟩)
            (fun hd => ⟨⟨_, rfl, Nat.le_refl _, fun j hj => le_upd (fun e => ?_) (fun e => le_upd (fun e' => ?_) (fun e' => ?_))⟩, trivial⟩)) ?_
        · exact (swpP_at a.π q a.u).symm
        · refine le_rowE ?_ rfl
          show a.π q = swpP a.π q a.u j
          rw [show j = a.u from e]
          exact (swpP_at a.π q a.u).symm
        · refine le_rowE ?_ rfl
          exact (if_pos (show j = q from e')).symm
        · refine le_rowE ?_ rfl
          exact ((if_neg (show ¬ j = q from e')).trans (if_neg (show ¬ j = a.u from e))).symm
        obtain ⟨b, hb⟩ : ∃ b : GS, (⟨a.k, a.u, swpP a.π q a.u, a.R⟩ : GS) = b := ⟨_, rfl⟩
        have hbk : b.k = a.k := by rw [← hb]
        have hbu : b.u = a.u := by rw [← hb]
        have hbo : GOk p n mm row b := hb ▸ h2.swap hq1 hq2
        have hbx : (b.R (b.π b.u)).getD b.k 0 ≠ 0 := by
          rw [← hb]
          show (a.R (swpP a.π q a.u a.u)).getD a.k 0 ≠ 0
          rw [swpP_at]
          exact hq3
        rw [hb]
        have hkn : b.k < n := by omega
        have hum2 : b.u < mm := by omega
        obtain ⟨hl1, hl2⟩ := hbo.ok b.u hum2
        have hI := RInv_spec hm ((b.R (b.π b.u)).getD b.k 0) (by have := hl2 b.k; omega)
        have hinv : cg p ((((b.R (b.π b.u)).getD b.k 0 : Nat) : Int) * rInv p ((b.R (b.π b.u)).getD b.k 0)) 1 := rInv_cg hpr (by
          rw [Nat.mod_eq_of_lt (hl2 _)]
          exact hbx)
        have hilt : rInv p ((b.R (b.π b.u)).getD b.k 0) < p := Nat.mod_lt _ (by omega)
        obtain ⟨inv, hinve⟩ : ∃ inv, rInv p ((b.R (b.π b.u)).getD b.k 0) = inv := ⟨_, rfl⟩
        rw [hinve] at hI hinv hilt
        refine ev_rs [u64 inv] rfl ⟨.inl hI, by show b.k < (b.R (b.π b.u)).length; omega, ⟨by omega, by omega⟩, trivial⟩ ?_
        refine ev_atS (α := Nat × (Nat → List Nat)) (fun x => P8 p n mm inv b x ∧ x.1 = mm) (S8 p n row mm inv b) ?_ ?_
        · refine ev_rs [] rfl trivial ?_
          refine ev_block (ev_whileS (α := Nat × (Nat → List Nat)) (P8 p n mm inv b) (S8 p n row mm inv b) (fun x => mm - x.1) (b.u + 1, b.R) ⟨Nat.le_refl _, hum2, fun j hj => (if_neg (by show ¬ (b.u < j ∧ j < b.u + 1); omega)).symm⟩ ?_ ?_)
          · exact wk_I (all1 rfl) (fam_kept fun x => rfl) (fun hd => ⟨le_refl hd _, le_refl hd _, le_refl hd _, le_refl hd _, le_own (ρ := fun i => i) rfl, le_refl hd _, le_refl hd _, le_row, le_refl hd _, le_n hd (congrArg (fun z => PV.val (.int .i64 z)) ((wrapI _ (by omega) (by omega)).trans (by omega))), trivial⟩)
              (fun hd => ⟨⟨_, rfl, Nat.le_refl _, fun j hj => le_row⟩, trivial⟩)
          rintro ⟨i, R⟩ ⟨h5, h6, h7⟩
          have h5 : b.u + 1 ≤ i := h5
          have h6 : i ≤ mm := h6
          have h7 : ∀ j, j < mm → R (b.π j) = if b.u < j ∧ j < i then elimR p n b.k ((b.R (b.π j)).getD b.k 0 * inv % p) (b.R (b.π b.u)) (b.R (b.π j)) else b.R (b.π j) := h7
          refine ev_seq (ev_rs [] rfl trivial (ev_cond rfl (fun h => ev_sk ?_) (fun h => ev_exit ?_)))
          · have hi : i < mm := Int.ofNat_lt.mp (of_decide_eq_true h)
            have e1 : R (b.π i) = b.R (b.π i) := by rw [h7 i hi, if_neg (by omega)]
            have e2 : R (b.π b.u) = b.R (b.π b.u) := by rw [h7 b.u hum2, if_neg (by omega)]
            have hne : b.π b.u ≠ b.π i := fun e => by have := hbo.inj _ _ hum2 hi e; omega
            obtain ⟨hr1, hr2⟩ := hbo.ok i hi
            have hM := RefMul_spec hm ((R (b.π i)).getD b.k 0) inv (by omega)
            obtain ⟨t, ht⟩ : ∃ t, (R (b.π i)).getD b.k 0 * inv % p = t := ⟨_, rfl⟩
            rw [ht] at hM
            rw [e1] at ht
            obtain ⟨RR, hRR⟩ : ∃ RR : Nat → Nat → List Nat, RR = fun c x => if x = b.π i then elimP p n b.k c t (b.R (b.π b.u)) (b.R (b.π i)) else R x := ⟨_, rfl⟩
            have r1 : ∀ c, RR c (b.π i) = elimP p n b.k c t (b.R (b.π b.u)) (b.R (b.π i)) := fun c => by rw [hRR]; exact if_pos rfl
            have r2 : ∀ c x, x ≠ b.π i → RR c x = R x := fun c x hx => by rw [hRR]; exact if_neg hx
            have r3 : ∀ c, RR c (b.π b.u) = b.R (b.π b.u) := fun c => (r2 c _ hne).trans e2
            have r4 : ∀ x, RR b.k x = R x := fun x => by
              by_cases hx : x = b.π i
              · rw [hx, r1, elimP_zero _ _ _ _ _ _ hr1, e1]
              · exact r2 _ _ hx
            refine ev_atS (α := Unit) (fun _ => True) (fun _ => S8 p n row mm inv b (i, RR (n + 1))) ?_ ?_
            · refine ev_block (ev_rs [u64 t] rfl ⟨.inl hM, by show b.k < (R (b.π i)).length; rw [e1]; omega, ⟨by omega, by omega⟩, hi, ⟨by omega, by omega⟩, trivial⟩ ?_)
              refine ev_rs [] rfl trivial ?_
              refine ev_block (ev_whileS (α := Nat) (fun c => b.k ≤ c ∧ c ≤ n + 1) (S10 p n row mm inv b i t RR) (fun c => n + 1 - c) b.k ⟨Nat.le_refl _, by omega⟩ ?_ ?_)
              · exact wk_I (all1 rfl) (fun x => fam_at rfl rfl (r4 x).symm) (fun hd => ⟨le_refl hd _, le_refl hd _, le_refl hd _, le_refl hd _, le_own (ρ := fun i => i) rfl, le_refl hd _, le_refl hd _, le_row, le_refl hd _, le_refl hd _, le_refl hd _, le_refl hd _, trivial⟩)
                  (fun hd => ⟨⟨_, rfl, Nat.le_refl _, fun j hj => le_row⟩, trivial⟩)
              rintro c ⟨h8, h9⟩
              refine ev_seq (ev_rs [] rfl trivial (ev_cond rfl (fun h => ev_sk ?_) (fun h => ev_exit ?_)))
              · have hc : c ≤ n := Int.ofNat_le.mp (of_decide_eq_true h)
                have q1 : (RR c (b.π i)).length = n + 1 := by rw [r1]; exact elimP_len ..
                have q2 : (RR c (b.π b.u)).length = n + 1 := by rw [r3]; exact hl1
                have q3 : (RR c (b.π b.u)).getD c 0 < p := by rw [r3]; exact hl2 c
                have hM2 := RefMul_spec hm t ((RR c (b.π b.u)).getD c 0) (by omega)
                obtain ⟨tm, htm⟩ : ∃ tm, t * (RR c (b.π b.u)).getD c 0 % p = tm := ⟨_, rfl⟩
                rw [htm] at hM2
                have hS2 : CallSpec Tryd.pr.P Tryd.pr.G 29 [u64 ((RR c (b.π i)).getD c 0), u64 tm, u64 p] (u64 (sb ((RR c (b.π i)).getD c 0) tm p)) := RefSub_spec hm _ _
                obtain ⟨sv, hsv⟩ : ∃ sv, sb ((RR c (b.π i)).getD c 0) tm p = sv := ⟨_, rfl⟩
                rw [hsv] at hS2
                have b1 : (0 : Int) ≤ (c : Int) := by omega
                have b2 : (c : Int) < ((n + 1 : Nat) : Int) := by omega
                have b3 : (0 : Int) ≤ (i : Int) := by omega
                have b4 : (i : Int) < (mm : Int) := by omega
                have b5 : c < (RR c (b.π b.u)).length := by omega
                have b6 : c < (RR c (b.π i)).length := by omega
                refine ev_seq (ev_block (ev_draw [u64 tm, u64 sv] (by kernel_rfl) rfl rfl ⟨b6, ⟨b1, b2⟩, .inl hS2, .inl hM2, b5, ⟨b1, b2⟩, b6, ⟨b1, b2⟩, hi, ⟨b3, b4⟩, hi, ⟨b3, b4⟩, trivial⟩ ?_))
                refine ev_region [] rfl trivial ⟨c + 1, ⟨by omega, by omega⟩, by dsimp only; omega, ?_⟩
                refine wk_I (all1 rfl) (fun x => ?_) (fun hd => ⟨le_refl hd _, le_refl hd _, le_refl hd _, le_refl hd _, le_own (ρ := fun i => i) rfl, le_refl hd _, le_refl hd _, le_row, le_refl hd _, le_refl hd _, le_refl hd _, le_n hd (congrArg (fun z => PV.val (.int .i64 z)) ((wrapI _ (by omega) (by omega)).trans (show ((c : Nat) : Int) + 1 = ((c + 1 : Nat) : Int) by omega))), trivial⟩)
                  (fun hd => ⟨⟨_, rfl, Nat.le_refl _, fun j hj => le_row⟩, trivial⟩)
                have hset : RR (c + 1) (b.π i) = (RR c (b.π i)).set c sv := by
                  rw [← hsv, ← htm, r1, r1, r3, elimP_at _ _ _ _ _ _ _ hc, elimP_set _ _ _ _ _ _ _ h8 hc]
                by_cases hx : x = b.π i
                · rw [hx]
                  refine ⟨_, upd_same _ _ _, ?_, fun j hj => ?_⟩
                  · rw [hset, List.length_set]
                    exact Nat.le_refl _
                  · rw [hset, getD_set _ _ _ _ b6]
                    show (if j = c then AV.p (u64 sv) else AV.p (u64 ((RR c (b.π i)).getD j 0))) = _
                    split <;> rfl
                · refine ⟨_, (upd_ne _ _ (show x + 200 ≠ b.π i + 200 by omega)).trans (famH_hi [(190, outO n mm b.π)] (RR c) x), ?_, fun j hj => ?_⟩
                  · show (RR (c + 1) x).length ≤ (RR c x).length
                    rw [r2 _ _ hx, r2 _ _ hx]
                    exact Nat.le_refl _
                  · show AV.p (u64 ((RR c x).getD j 0)) = AV.p (u64 ((RR (c + 1) x).getD j 0))
                    rw [r2 _ _ hx, r2 _ _ hx]
              · have hc : c = n + 1 := by
                  have := of_decide_eq_false h
                  omega
                subst hc
                exact atS () trivial (wk_I (all1 rfl) (fam_kept fun x => rfl) (fun hd => ⟨le_refl hd _, le_refl hd _, le_refl hd _, le_refl hd _, le_own (ρ := fun i => i) rfl, le_refl hd _, le_refl hd _, le_row, le_refl hd _, le_refl hd _, trivial⟩)
                  (fun hd => ⟨⟨_, rfl, Nat.le_refl _, fun j hj => le_row⟩, trivial⟩))
            rintro ⟨⟩ -
            refine ev_region [] rfl trivial ⟨(i + 1, RR (n + 1)), ⟨by show b.u + 1 ≤ i + 1; omega, hi, fun j hj => ?_⟩, by dsimp only; omega, ?_⟩
            · show RR (n + 1) (b.π j) = if b.u < j ∧ j < i + 1 then elimR p n b.k ((b.R (b.π j)).getD b.k 0 * inv % p) (b.R (b.π b.u)) (b.R (b.π j)) else b.R (b.π j)
              by_cases hji : j = i
              · subst hji
                rw [r1, elimP_all, if_pos (by omega), ht]
              · rw [r2 _ _ (fun e => hji (hbo.inj _ _ hj hi e)), h7 j hj]
                by_cases hq : b.u < j ∧ j < i
                · rw [if_pos hq, if_pos (by omega)]
                · rw [if_neg hq, if_neg (by omega)]
            exact wk_I (all1 rfl) (fam_kept fun x => rfl) (fun hd => ⟨le_refl hd _, le_refl hd _, le_refl hd _, le_refl hd _, le_own (ρ := fun i => i) rfl, le_refl hd _, le_refl hd _, le_row, le_refl hd _, le_n hd (congrArg (fun z => PV.val (.int .i64 z)) ((wrapI _ (by omega) (by omega)).trans (show ((i : Nat) : Int) + 1 = ((i + 1 : Nat) : Int) by omega))), trivial⟩)
              (fun hd => ⟨⟨_, rfl, Nat.le_refl _, fun j hj => le_row⟩, trivial⟩)
          · have hi : i = mm := by
              have := of_decide_eq_false h
              omega
            exact atS (i, R) ⟨⟨h5, h6, h7⟩, hi⟩ (wk_I (all1 rfl) (fam_kept fun x => rfl) (fun hd => ⟨le_refl hd _, le_refl hd _, le_refl hd _, le_refl hd _, le_own (ρ := fun i => i) rfl, le_refl hd _, le_refl hd _, le_row, le_refl hd _, le_refl hd _, trivial⟩)
              (fun hd => ⟨⟨_, rfl, Nat.le_refl _, fun j hj => le_row⟩, trivial⟩))
        rintro ⟨i, R⟩ ⟨h5, h6⟩
        have h6 : mm = i := h6.symm
        subst h6
        refine ev_region [] rfl trivial (atS (⟨b.k + 1, b.u + 1, b.π, R⟩ : GS) ⟨by show b.k + 1 = a.k + 1; omega, hbo.elim (by omega) hkn hum2 hinv h5⟩ ?_)
        exact wk_I (all1 rfl) (fam_kept fun x => rfl) (fun hd => ⟨le_refl hd _, le_refl hd _, le_refl hd _, le_refl hd _, le_own (ρ := fun i => i) rfl, le_n hd (congrArg (fun z => PV.val (.int .i64 z)) ((wrapI _ (by omega) (by omega)).trans (show ((b.u : Nat) : Int) + 1 = ((b.u + 1 : Nat) : Int) by omega))), le_n hd (congrArg (fun z : Nat => PV.val (.int .i64 z)) hbk), trivial⟩)
            (fun hd => ⟨⟨_, rfl, Nat.le_refl _, fun j hj => le_row⟩, trivial⟩)
      rintro b ⟨h3, h4⟩
      refine ev_region [] rfl trivial ⟨b, ⟨by omega, h4⟩, by dsimp only; omega, ?_⟩
      exact wk_I (all1 rfl) (fam_kept fun x => rfl) (fun hd => ⟨le_refl hd _, le_refl hd _, le_refl hd _, le_refl hd _, le_own (ρ := fun i => i) rfl, le_refl hd _, le_n hd (congrArg (fun z => PV.val (.int .i64 z)) ((wrapI _ (by omega) (by omega)).trans (by omega))), trivial⟩)
        (fun hd => ⟨⟨_, rfl, Nat.le_refl _, fun j hj => le_row⟩, trivial⟩)
    · have hk : a.k = n := by
        have := of_decide_eq_false h
        omega
      exact atS a ⟨hk, h2⟩ (wk_I (all1 rfl) (fam_kept fun x => rfl) (fun hd => ⟨le_refl hd _, le_refl hd _, le_refl hd _, le_refl hd _, le_own (ρ := fun i => i) rfl, le_refl hd _, le_refl hd _, trivial⟩)
        (fun hd => ⟨⟨_, rfl, Nat.le_refl _, fun j hj => le_row⟩, trivial⟩))
  rintro a ⟨h1, h2⟩
  have hum := h2.fi.le
  refine ev_atS (α := Unit) (fun _ => False) (fun _ => S4 p n row mm a) ?_ (fun _ h => h.elim)
  refine ev_rs [] rfl trivial ?_
  refine ev_block (ev_whileS (α := Nat) (fun i => a.u ≤ i ∧ i ≤ mm ∧ ∀ j, a.u ≤ j → j < i → (a.R (a.π j)).getD n 0 = 0) (fun i => mkF (lay p n row mm [(20, .p (i64 (i : Nat)))]) [(190, outO n mm a.π)] a.R) (fun i => mm - i) a.u ⟨Nat.le_refl _, hum, fun j h3 h4 => by omega⟩ ?_ ?_)
  · exact wk_I (all1 rfl) (fam_kept fun x => rfl) (fun hd => ⟨le_refl hd _, le_refl hd _, le_refl hd _, le_refl hd _, le_own (ρ := fun i => i) rfl, le_refl hd _, trivial⟩)
      (fun hd => ⟨⟨_, rfl, Nat.le_refl _, fun j hj => le_row⟩, trivial⟩)
  rintro i ⟨h3, h4, h5⟩
  refine ev_seq (ev_rs [] rfl trivial (ev_cond rfl (fun h => ev_sk ?_) (fun h => ev_exit ?_)))
  · have hi : i < mm := Int.ofNat_lt.mp (of_decide_eq_true h)
    have hlen := (h2.ok i hi).1
    refine ev_seq (ev_block ?_)
    refine ev_rs [] rfl ⟨by show n < (a.R (a.π i)).length; omega, ⟨by omega, by omega⟩, hi, ⟨by omega, by omega⟩, trivial⟩ (ev_cond rfl (fun h => ?_) (fun h => ?_))
    · exact ev_rs [] rfl trivial (ev_ret (ret1 (fz_p (PLe.refl _))))
    · have hx : (a.R (a.π i)).getD n 0 = 0 := by
        have h : ((((a.R (a.π i)).getD n 0 : Nat) : Int) != 0) = false := h
        have h : (((a.R (a.π i)).getD n 0 : Nat) : Int) = 0 := by simpa using h
        omega
      refine ev_skip (ev_region [] rfl trivial ⟨i + 1, ⟨by omega, hi, fun j h6 h7 => ?_⟩, by dsimp only; omega, ?_⟩)
      · rcases Nat.lt_or_ge j i with h8 | h8
        · exact h5 j h6 h8
        · rw [show j = i by omega]
          exact hx
      exact wk_I (all1 rfl) (fam_kept fun x => rfl) (fun hd => ⟨le_refl hd _, le_refl hd _, le_refl hd _, le_refl hd _, le_own (ρ := fun i => i) rfl, le_n hd (congrArg (fun z => PV.val (.int .i64 z)) ((wrapI _ (by omega) (by omega)).trans (by omega))), trivial⟩)
        (fun hd => ⟨⟨_, rfl, Nat.le_refl _, fun j hj => le_row⟩, trivial⟩)
  · have hi : i = mm := by
      have := of_decide_eq_false h
      omega
    subst hi
    exfalso
    have hf := h2.fi
    rw [h1] at hf
    exact hno (hf.done h5)

end Go.Proofs

/- What is found is a rule, and there is no shorter one: the law, walked. -/
set_option linter.unusedVariables false
namespace Go.Proofs
open Go Vinc Vinc.Num

set_option maxRecDepth 20000 in
theorem RecurFinds_spec (p : Nat) (row : List Nat) (hp : p < 18446744073709551616) (hw : W64 row) :
    CallSpec Tryd.pr.P Tryd.pr.G 3 [u64 p, u64s row] (Vinc.bool true) := by
  refine callSpec_of Tryd.pr Tryd.func3 rfl rfl rfl fun w0 ok0 hok hG => ?_
  refine ev_rs [] rfl trivial ?_
  refine ev_seq (ev_rs [] rfl trivial (ev_cond rfl (fun h => ?_) (fun h => ev_sk ?_)))
  · exact ev_rs [Vinc.bool true] rfl ⟨.inl awake_spec, trivial⟩ (ev_ret (ret1 (fz_p (PLe.refl _))))
  have hl : row.length ≤ 24 := by
    have := of_decide_eq_false h
    omega
  by_cases hA : Asked p
  · have hm := asked_may hA
    have hp0 := hm.1
    have hb := isB_asked hA
    have hh := find_holds (by omega : 1 < p) (minv p) (asked_iv hA) row
    have hlen := find_len (minv p) p row
    have hleast := fun D => find_least (by omega : 1 < p) (minv p) (asked_iv hA) row D row.length
    have hF := Find_ok hm hb row (by omega)
    obtain ⟨r, hr⟩ : ∃ r, (findN (minv p) p row row.length).now = r := ⟨_, rfl⟩
    rw [hr] at hlen hh hleast hF
    have hRH := RefHolds_spec hm r row (by omega) (by omega) hw
    rw [← holds_ref (by omega) r row, hh] at hRH
    refine ev_rs [.tup 2 (two (u64s r) (i64 0))] rfl ⟨.inl hF, trivial⟩ ?_
    refine ev_seq (ev_rs [Vinc.bool true] rfl ⟨.inl (LawPrime_t hA), trivial⟩ (ev_cf rfl (ev_sk ?_)))
    refine ev_seq (ev_rs [Vinc.bool true] rfl (by repeat' (first | exact trivial | exact gd_t | exact gd_f | exact .inl hRH | exact (fun _ => rfl) | intro _ | apply And.intro | assumption | exact rfl | exact gd_t (by assumption) | exact gd_f (by assumption) | exact gd_a (by assumption) (by assumption) | exact gd_b (by assumption) (by assumption))) (ev_cf rfl (ev_sk ?_)))
    refine ev_at (α := Unit) (fun _ => True) (fun _ => [(0, .p (u64 p)), (1, .p (u64s row)), (5, .p (u64s r))]) (fun _ => []) ?_ ?_
    · refine ev_rs [] rfl trivial ?_
      refine ev_block (ev_while0 (α := Nat) (fun i => i ≤ r.length) (fun i => [(0, .p (u64 p)), (1, .p (u64s row)), (5, .p (u64s r)), (7, .p (i64 i))]) (fun i => r.length - i) 0
        (Nat.zero_le _) ⟨le_0, le_0, le_0, le_0, trivial⟩ ?_)
      rintro n h1
      refine ev_seq (ev_rs [] rfl trivial (ev_cond rfl (fun h => ev_sk ?_) (fun h => ev_exit ?_)))
      · have hi : n < r.length := Int.ofNat_lt.mp (of_decide_eq_true h)
        have hS := Solves_no hm (asked_prime hA) n row (by omega) hl fun ⟨D, hD⟩ => by
          have h2 := hleast (tabL (fun k => (D k % p).toNat) n) (rule_of (by omega) row (by omega : n + (row.length - n) = row.length) hD)
          rw [tabL_length] at h2
          omega
        refine ev_seq (ev_block ?_)
        refine ev_rs [Vinc.bool false] rfl ⟨.inl hS, trivial⟩ (ev_cf rfl (ev_skip ?_))
        exact ev_region [] rfl trivial (round0 (n + 1) hi (by omega) ⟨le_0, le_0, le_0, le_e (congrArg (fun z => PV.val (.int .i64 z)) (wrapI _ (by omega) (by omega))), trivial⟩)
      · exact at0 () trivial ⟨le_0, le_0, le_0, trivial⟩
    rintro ⟨⟩ -
    exact ev_rs [Vinc.bool true] rfl ⟨.inl awake_spec, trivial⟩ (ev_ret (ret1 (fz_p (PLe.refl _))))
  by_cases hB : p < 9223372036854775808 ∧ isB p = true
  · have hbig := told_big hA hB.2
    have hm : MayM p := ⟨by omega, hB.1⟩
    obtain ⟨r, hr⟩ : ∃ r, (findN (minv p) p row row.length).now = r := ⟨_, rfl⟩
    have hF := Find_ok hm hB.2 row (by omega)
    rw [hr] at hF
    refine ev_rs [.tup 2 (two (u64s r) (i64 0))] rfl ⟨.inl hF, trivial⟩ ?_
    refine ev_seq (ev_rs [Vinc.bool false] rfl ⟨.inl (LawPrime_f hA), trivial⟩ (ev_ct rfl ?_))
    refine ev_rs [Vinc.bool true] rfl (by repeat' (first | exact trivial | exact gd_t | exact gd_f | exact .inl awake_spec | exact (fun _ => rfl) | intro _ | apply And.intro | assumption | exact rfl | exact gd_t (by assumption) | exact gd_f (by assumption) | exact gd_a (by assumption) (by assumption) | exact gd_b (by assumption) (by assumption))) (ev_ret (ret1 (fz_p (PLe.of_eq (congrArg Vinc.bool ?_)))))
    have hd1 : decide ((p : Int) > 100000) = true := decide_eq_true (by omega)
    have hd2 : decide ((p : Int) < 9223372036854775808) = true := decide_eq_true (by omega)
    show (bif (bif (bif decide ((p : Int) > 100000) then decide ((p : Int) < 9223372036854775808) else false) then true else _) then true else false) = true
    rw [hd1, hd2]
    rfl
  · refine ev_rs [.tup 2 (two nilS (i64 14))] rfl ⟨.inl (Find_no hp hB _), trivial⟩ ?_
    refine ev_seq (ev_rs [Vinc.bool false] rfl ⟨.inl (LawPrime_f hA), trivial⟩ (ev_ct rfl ?_))
    refine ev_rs [Vinc.bool true] rfl (by repeat' (first | exact trivial | exact gd_t | exact gd_f | exact .inl awake_spec | exact (fun _ => rfl) | intro _ | apply And.intro | assumption | exact rfl | exact gd_t (by assumption) | exact gd_f (by assumption) | exact gd_a (by assumption) (by assumption) | exact gd_b (by assumption) (by assumption))) (ev_ret (ret1 (fz_p (PLe.of_eq (congrArg Vinc.bool ?_)))))
    have key : ∀ a b : Bool, (bif (bif (bif a then b else false) then true else true) then true else false) = true := by decide
    exact key _ _

end Go.Proofs
