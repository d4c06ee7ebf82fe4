/- Part 5 of the proof's texts, joined: Types, Door, Bits, Div, Word, Ref03, Inv, Form, Field, Prime, Rec, Find, Poly, Half, Ref09, Upo, Upo2, Upo3, Law09, R1, R2, R3, S1, S2. -/
import Derived.Test.YtmfmgcnliihidaaDoorB4
import Derived.Test.YtmfmgcnliihidaaDoorProg
import Derived.Test.YtmfmgcnliihidaaDoorTie
import Derived.LaidMore
import Derived.Stop.Joined
import Derived.Lib.LaidTab
import Derived.Laws.Externs

/- The types of the program, and what is known of its variables. -/
namespace Go.Proofs
open Go Vinc

def Tryd.T0 : Nat → Option Vinc.TI
  | 2 => some ⟨.int .i64, 1, 8, [.int .i64 0]⟩
  | 3 => some ⟨.int .i64, 1, 8, [.int .i64 0]⟩
  | 4 => some ⟨.bool, 1, 1, [.bool false]⟩
  | 5 => some ⟨.int .u8, 1, 1, [.int .u8 0]⟩
  | 9 => some ⟨.str, 1, 16, [.string ⟨#[]⟩]⟩
  | 12 => some ⟨.int .u64, 1, 8, [.int .u64 0]⟩
  | 13 => some ⟨.struct [(0, 9), (1, 12)], 2, 24, [.string ⟨#[]⟩, .int .u64 0]⟩
  | 19 => some ⟨.struct [(0, 17)], 1, 8, [.pointer none]⟩
  | 21 => some ⟨.int .i32, 1, 4, [.int .i32 0]⟩
  | 22 => some ⟨.int .u64, 1, 8, [.int .u64 0]⟩
  | 23 => some ⟨.slice 22, 1, 24, [.slice none 0 0]⟩
  | 24 => some ⟨.slice 22, 1, 24, [.slice none 0 0]⟩
  | 26 => some ⟨.int .i64, 1, 8, [.int .i64 0]⟩
  | 39 => some ⟨.array 2 22, 2, 16, [.int .u64 0, .int .u64 0]⟩
  | 46 => some ⟨.pointer 75, 1, 8, [.pointer none]⟩
  | 47 => some ⟨.pointer 72, 1, 8, [.pointer none]⟩
  | 51 => some ⟨.slice 24, 1, 24, [.slice none 0 0]⟩
  | 71 => some ⟨.struct [(0, 22), (1, 22), (2, 22)], 3, 24, [.int .u64 0, .int .u64 0, .int .u64 0]⟩
  | 72 => some ⟨.struct [(0, 22), (1, 22), (2, 22)], 3, 24, [.int .u64 0, .int .u64 0, .int .u64 0]⟩
  | 74 => some ⟨.struct [(0, 47)], 1, 8, [.pointer none]⟩
  | 75 => some ⟨.struct [(0, 47)], 1, 8, [.pointer none]⟩
  | 80 => some ⟨.int .u64, 1, 8, [.int .u64 0]⟩
  | 86 => some ⟨.int .i64, 1, 8, [.int .i64 0]⟩
  | 95 => some ⟨.int .u32, 1, 4, [.int .u32 0]⟩
  | 99 => some ⟨.array 12 22, 12, 96, [.int .u64 0, .int .u64 0, .int .u64 0, .int .u64 0, .int .u64 0, .int .u64 0, .int .u64 0, .int .u64 0, .int .u64 0, .int .u64 0, .int .u64 0, .int .u64 0]⟩
  | 101 => some ⟨.int .u64, 1, 8, [.int .u64 0]⟩
  | 104 => some ⟨.pointer 3, 1, 8, [.pointer none]⟩
  | 108 => some ⟨.pointer 101, 1, 8, [.pointer none]⟩
  | 113 => some ⟨.array 64 5, 64, 64, [.int .u8 0, .int .u8 0, .int .u8 0, .int .u8 0, .int .u8 0, .int .u8 0, .int .u8 0, .int .u8 0, .int .u8 0, .int .u8 0, .int .u8 0, .int .u8 0, .int .u8 0, .int .u8 0, .int .u8 0, .int .u8 0, .int .u8 0, .int .u8 0, .int .u8 0, .int .u8 0, .int .u8 0, .int .u8 0, .int .u8 0, .int .u8 0, .int .u8 0, .int .u8 0, .int .u8 0, .int .u8 0, .int .u8 0, .int .u8 0, .int .u8 0, .int .u8 0, .int .u8 0, .int .u8 0, .int .u8 0, .int .u8 0, .int .u8 0, .int .u8 0, .int .u8 0, .int .u8 0, .int .u8 0, .int .u8 0, .int .u8 0, .int .u8 0, .int .u8 0, .int .u8 0, .int .u8 0, .int .u8 0, .int .u8 0, .int .u8 0, .int .u8 0, .int .u8 0, .int .u8 0, .int .u8 0, .int .u8 0, .int .u8 0, .int .u8 0, .int .u8 0, .int .u8 0, .int .u8 0, .int .u8 0, .int .u8 0, .int .u8 0, .int .u8 0]⟩
  | 114 => some ⟨.pointer 131, 1, 8, [.pointer none]⟩
  | 125 => some ⟨.pointer 5, 1, 8, [.pointer none]⟩
  | 130 => some ⟨.struct [(0, 9)], 1, 16, [.string ⟨#[]⟩]⟩
  | 131 => some ⟨.struct [(0, 9)], 1, 16, [.string ⟨#[]⟩]⟩
  | _ => none
theorem Tryd.hT0 : ∀ t i, Tryd.T0 t = some i → Vinc.TIok Tryd.prog t i := by
  intro t i h
  unfold Tryd.T0 at h
  split at h
  · obtain rfl := Option.some.inj h; exact ⟨Tryd.underlying2, by kernel_rfl⟩
  · obtain rfl := Option.some.inj h; exact ⟨Tryd.underlying3, by kernel_rfl⟩
  · obtain rfl := Option.some.inj h; exact ⟨Tryd.underlying4, by kernel_rfl⟩
  · obtain rfl := Option.some.inj h; exact ⟨Tryd.underlying5, by kernel_rfl⟩
  · obtain rfl := Option.some.inj h; exact ⟨Tryd.underlying9, by kernel_rfl⟩
  · obtain rfl := Option.some.inj h; exact ⟨Tryd.underlying12, by kernel_rfl⟩
  · obtain rfl := Option.some.inj h; exact ⟨⟨_, Tryd.underlying13, rfl⟩, by kernel_rfl⟩
  · obtain rfl := Option.some.inj h; exact ⟨⟨_, Tryd.underlying19, rfl⟩, by kernel_rfl⟩
  · obtain rfl := Option.some.inj h; exact ⟨Tryd.underlying21, by kernel_rfl⟩
  · obtain rfl := Option.some.inj h; exact ⟨Tryd.underlying22, by kernel_rfl⟩
  · obtain rfl := Option.some.inj h; exact ⟨Tryd.underlying23, by kernel_rfl⟩
  · obtain rfl := Option.some.inj h; exact ⟨Tryd.underlying24, by kernel_rfl⟩
  · obtain rfl := Option.some.inj h; exact ⟨Tryd.underlying26, by kernel_rfl⟩
  · obtain rfl := Option.some.inj h; exact ⟨Tryd.underlying39, by kernel_rfl⟩
  · obtain rfl := Option.some.inj h; exact ⟨Tryd.underlying46, by kernel_rfl⟩
  · obtain rfl := Option.some.inj h; exact ⟨Tryd.underlying47, by kernel_rfl⟩
  · obtain rfl := Option.some.inj h; exact ⟨Tryd.underlying51, by kernel_rfl⟩
  · obtain rfl := Option.some.inj h; exact ⟨⟨_, Tryd.underlying71, rfl⟩, by kernel_rfl⟩
  · obtain rfl := Option.some.inj h; exact ⟨⟨_, Tryd.underlying72, rfl⟩, by kernel_rfl⟩
  · obtain rfl := Option.some.inj h; exact ⟨⟨_, Tryd.underlying74, rfl⟩, by kernel_rfl⟩
  · obtain rfl := Option.some.inj h; exact ⟨⟨_, Tryd.underlying75, rfl⟩, by kernel_rfl⟩
  · obtain rfl := Option.some.inj h; exact ⟨Tryd.underlying80, by kernel_rfl⟩
  · obtain rfl := Option.some.inj h; exact ⟨Tryd.underlying86, by kernel_rfl⟩
  · obtain rfl := Option.some.inj h; exact ⟨Tryd.underlying95, by kernel_rfl⟩
  · obtain rfl := Option.some.inj h; exact ⟨Tryd.underlying99, by kernel_rfl⟩
  · obtain rfl := Option.some.inj h; exact ⟨Tryd.underlying101, by kernel_rfl⟩
  · obtain rfl := Option.some.inj h; exact ⟨Tryd.underlying104, by kernel_rfl⟩
  · obtain rfl := Option.some.inj h; exact ⟨Tryd.underlying108, by kernel_rfl⟩
  · obtain rfl := Option.some.inj h; exact ⟨Tryd.underlying113, by kernel_rfl⟩
  · obtain rfl := Option.some.inj h; exact ⟨Tryd.underlying114, by kernel_rfl⟩
  · obtain rfl := Option.some.inj h; exact ⟨Tryd.underlying125, by kernel_rfl⟩
  · obtain rfl := Option.some.inj h; exact ⟨⟨_, Tryd.underlying130, rfl⟩, by kernel_rfl⟩
  · obtain rfl := Option.some.inj h; exact ⟨⟨_, Tryd.underlying131, rfl⟩, by kernel_rfl⟩
  · cases h

/-- The table of zeros, as the program lays it. -/
def Tryd.G0 : Nat → PV := fun g => bif Nat.beq g 2 then .ptr 64 (fun j => .val (.int .u8 ((Vinc.Num.tab64.getD j 0 : Nat) : Int))) 0 else .any

/-- The program, with what is known of its variables. -/
noncomputable def Tryd.pr : Pr := ⟨Tryd.prog, Tryd.G0, Tryd.T0, Tryd.hT0⟩
end Go.Proofs

/- What the listed table gives the walks: the variable's cells are the table's numbers. -/
namespace Go.Proofs.YtmfmgcnliihidaaDoor
open Go Go.RowKit Vinc

/-- The list of what is laid. -/
abbrev laidL : List (String × DataW Unit) := [("math/bits.deBruijn64tab", Rows.laid_math_bits_deBruijn64tab)]

theorem gTab : Tryd.prog.globalNamed "math/bits.deBruijn64tab" = some 2 := by kernel_rfl
theorem gTabT : (Tryd.prog.globals[2]?).map (·.type) = some 113 := by kernel_rfl

/-- The table as a list of integers. -/
def zs64 : List Int := Vinc.Num.tab64.map fun n => ((n : Nat) : Int)

theorem laid_eq : laidL = [("math/bits.deBruijn64tab", Lib.tabData .u8 zs64)] := by kernel_rfl

/-- The door's own heap meets the condition. -/
theorem door_met (os : Os) (args : Array Value) : laidMetH Tryd.prog laidL ((World.doorLaid Tryd.prog 400 os).forCall (fun _ _ => 0) ⟨#[], args, []⟩).memory :=
  laidMetH_of_parts3 (fuel := 8) (laidMet_of_run' 8 (by kernel_rfl) (by kernel_rfl)) (by kernel_rfl) (by kernel_rfl)

/-- What is known of the variables. -/
theorem tab_of {W : World} (h : laidMetH Tryd.prog laidL W) : ∀ g, Rep W (fun b => b < W.heap.size) (Tryd.G0 g) (gptr g) := by
  rw [MakeChecks.laidMetH_plain _ _ _ (by kernel_rfl), laid_eq] at h
  have hT := Lib.tabIs_of_head gTab gTabT (show Tryd.prog.underlying 113 = some (.array 64 5) by kernel_rfl) (show Tryd.prog.underlying 5 = some (.int .u8) by kernel_rfl) (by kernel_rfl) (by kernel_rfl) h
  have hc : ∀ j, j < 64 → W.cell? ⟨2, j, none⟩ = some (.int .u8 ((Vinc.Num.tab64.getD j 0 : Nat) : Int)) := fun j hj => by
    have := hT.cell gTab j hj
    rw [this]
    congr 2
    show (Vinc.Num.tab64.map fun n => ((n : Nat) : Int)).getD j 0 = _
    rw [List.getD_eq_getElem?_getD, List.getD_eq_getElem?_getD, List.getElem?_map]
    cases Vinc.Num.tab64[j]? <;> rfl
  intro g
  show Rep W _ (bif Nat.beq g 2 then .ptr 64 (fun j => .val (.int .u8 ((Vinc.Num.tab64.getD j 0 : Nat) : Int))) 0 else .any) _
  cases hg : Nat.beq g 2 with
  | false => exact trivial
  | true =>
    obtain rfl : g = 2 := Nat.eq_of_beq_eq_true hg
    refine ⟨2, 0, rfl, ?_, fun j hj => ⟨_, (by rw [Nat.zero_add]; exact hc j hj), rfl, rfl⟩⟩
    have h0 := hc 0 (by decide)
    rcases Nat.lt_or_ge 2 W.heap.size with h | h
    · exact h
    · have hn : W.heap[2]? = none := Array.getElem?_eq_none h
      simp [World.cell?, hn] at h0

end Go.Proofs.YtmfmgcnliihidaaDoor

/- The functions of math/bits. -/
namespace Go.Proofs
open Go Vinc

/-- What the product of two words is, by halves. -/
theorem mul64_eq (x y : Nat) (hx : x < 18446744073709551616) (hy : y < 18446744073709551616) :
    ((x / 4294967296 * (y / 4294967296) % 18446744073709551616
        + ((x / 4294967296 * (y % 4294967296) % 18446744073709551616 + (x % 4294967296 * (y % 4294967296) % 18446744073709551616) / 4294967296) % 18446744073709551616) / 4294967296) % 18446744073709551616
        + ((((x / 4294967296 * (y % 4294967296) % 18446744073709551616 + (x % 4294967296 * (y % 4294967296) % 18446744073709551616) / 4294967296) % 18446744073709551616) % 4294967296
          + x % 4294967296 * (y / 4294967296) % 18446744073709551616) % 18446744073709551616) / 4294967296) % 18446744073709551616
      = x * y / 18446744073709551616 := by
  have hx0 : x % 4294967296 < 4294967296 := Nat.mod_lt _ (by decide)
  have hy0 : y % 4294967296 < 4294967296 := Nat.mod_lt _ (by decide)
  have hx1 : x / 4294967296 < 4294967296 := by omega
  have hy1 : y / 4294967296 < 4294967296 := by omega
  have ex : x = 4294967296 * (x / 4294967296) + x % 4294967296 := (Nat.div_add_mod x 4294967296).symm
  have ey : y = 4294967296 * (y / 4294967296) + y % 4294967296 := (Nat.div_add_mod y 4294967296).symm
  generalize x % 4294967296 = a at *
  generalize x / 4294967296 = b at *
  generalize y % 4294967296 = c at *
  generalize y / 4294967296 = d at *
  have e : x * y = 18446744073709551616 * (b * d) + 4294967296 * (b * c) + 4294967296 * (a * d) + a * c := by
    rw [ex, ey]; grind
  have h1 : b * d ≤ 4294967295 * 4294967295 := Nat.mul_le_mul (by omega) (by omega)
  have h2 : b * c ≤ 4294967295 * 4294967295 := Nat.mul_le_mul (by omega) (by omega)
  have h3 : a * d ≤ 4294967295 * 4294967295 := Nat.mul_le_mul (by omega) (by omega)
  have h4 : a * c ≤ 4294967295 * 4294967295 := Nat.mul_le_mul (by omega) (by omega)
  rw [e]
  clear e ex ey
  generalize b * d = bd at *
  generalize b * c = bc at *
  generalize a * d = ad at *
  generalize a * c = ac at *
  omega

theorem Mul64_spec (x y : Nat) (hx : x < 18446744073709551616) (hy : y < 18446744073709551616) :
    CallSpec Tryd.pr.P Tryd.pr.G 71 [u64 x, u64 y] (.tup 2 (two (u64 (x * y / 18446744073709551616)) (u64 (x * y % 18446744073709551616)))) := by
  refine callSpec_of Tryd.pr Tryd.func71 rfl rfl rfl fun w0 ok0 hok hG => ?_
  refine ev_rs [] rfl trivial ?_
  refine ev_rs [] rfl trivial (ev_n 6 (x % 4294967296) rfl (and32 x hx) ?_)
  refine ev_rs [] rfl ⟨by decide, trivial⟩ (ev_n 7 _ rfl (shr32 x) ?_)
  refine ev_rs [] rfl trivial (ev_n 8 _ rfl (and32 y hy) ?_)
  refine ev_rs [] rfl ⟨by decide, trivial⟩ (ev_n 9 _ rfl (shr32 y) ?_)
  refine ev_rs [] rfl trivial (ev_n 10 _ rfl (wrapMul _ _) ?_)
  refine ev_rs [] rfl ⟨by decide, trivial⟩ (ev_n 11 _ rfl (by simp only [wrapMul, wrapAdd, shr32]; rfl) ?_)
  refine ev_rs [] rfl trivial (ev_n 12 _ rfl (and32 _ (Nat.mod_lt _ (by decide))) ?_)
  refine ev_rs [] rfl ⟨by decide, trivial⟩ (ev_n 13 _ rfl (shr32 _) ?_)
  refine ev_rs [] rfl trivial (ev_n 12 _ rfl (by simp only [wrapMul, wrapAdd]; rfl) ?_)
  refine ev_rs [] rfl ⟨by decide, trivial⟩ (ev_n 4 _ rfl (by simp only [wrapMul, wrapAdd, shr32]; rfl) ?_)
  refine ev_rs [] rfl trivial (ev_n 5 _ rfl (wrapMul _ _) ?_)
  refine ev_ret (ret2 (fz_p (PLe.of_eq (congrArg u64 ?_))) (fz_p (PLe.refl _)))
  exact mul64_eq x y hx hy
/-- The place of a word's highest bit, counted from one. -/
def len64 (x : Nat) : Nat := if x = 0 then 0 else Nat.log2 x + 1

theorem len64_shift (x k : Nat) (h : 2 ^ k ≤ x) : len64 x = len64 (x / 2 ^ k) + k := by
  have h0 : 0 < 2 ^ k := Nat.two_pow_pos k
  have hx : x ≠ 0 := by omega
  have hd : x / 2 ^ k ≠ 0 := by
    have := Nat.div_pos h h0
    omega
  unfold len64
  rw [if_neg hx, if_neg hd]
  have h1 := Nat.log2_self_le hd
  have h2 := @Nat.lt_log2_self (x / 2 ^ k)
  have e : Nat.log2 x = Nat.log2 (x / 2 ^ k) + k := by
    apply (Nat.log2_eq_iff hx).mpr
    constructor
    · rw [Nat.pow_add]
      exact (Nat.le_div_iff_mul_le h0).mp h1
    · rw [show Nat.log2 (x / 2 ^ k) + k + 1 = (Nat.log2 (x / 2 ^ k) + 1) + k by omega, Nat.pow_add]
      exact (Nat.div_lt_iff_lt_mul h0).mp h2
  omega

theorem len_last (t : ByteArray) (h : ∀ y, y < 256 → (t.data.getD y 0).toNat = len64 y) (y n : Nat) (hy : y < 256) (hn : n ≤ 56) :
    IntKind.wrap .i64 ((n : Int) + IntKind.wrap .i64 (((t.data.getD (IntKind.wrap .u8 (y : Int)).toNat 0).toNat : Nat) : Int)) = ((len64 y + n : Nat) : Int) := by
  have h1 : (IntKind.wrap .u8 (y : Int)).toNat = y := by
    simp [IntKind.wrap, IntKind.signed, IntKind.bits]; omega
  have h2 : len64 y ≤ 64 := by
    unfold len64
    split
    · omega
    · rename_i h0
      have : Nat.log2 y < 8 := (Nat.log2_lt h0).mpr (by omega)
      omega
  rw [h1, h y hy, wrapI (len64 y : Int) (by omega) (by omega), wrapI _ (by omega) (by omega)]
  omega

theorem len_in (t : ByteArray) (h : t.data.size = 256) (y : Nat) : 0 ≤ IntKind.wrap .u8 (y : Int) ∧ IntKind.wrap .u8 (y : Int) < t.data.size := by
  rw [h]
  simp [IntKind.wrap, IntKind.signed, IntKind.bits]; omega

theorem Len64_spec (x : Nat) (hx : x < 18446744073709551616) : CallSpec Tryd.pr.P Tryd.pr.G 69 [u64 x] (i64 (len64 x)) := by
  refine callSpec_of Tryd.pr Tryd.func69 rfl rfl rfl fun w0 ok0 hok hG => ?_
  refine ev_rs [] rfl trivial ?_
  refine ev_at (α := Nat × Nat) (fun p => p.1 < 4294967296 ∧ p.2 ≤ 32 ∧ len64 x = len64 p.1 + p.2) (fun p => [(0, .p (u64 p.1)), (2, .p (i64 p.2))]) (fun _ => []) ?_ ?_
  · refine ev_rs [] rfl trivial (ev_cond rfl (fun hc => ?_) (fun hc => ?_))
    · refine ev_rs [] rfl ⟨by decide, trivial⟩ (ev_n 0 _ rfl (shr32 x) ?_)
      refine ev_region [] rfl trivial (at0 (x / 4294967296, 32) ⟨by omega, by omega, ?_⟩ ⟨le_0, le_0, trivial⟩)
      exact len64_shift x 32 (by simp at hc; omega)
    · refine ev_skip (at0 (x, 0) ⟨?_, by omega, rfl⟩ ⟨le_0, le_0, trivial⟩)
      simp at hc; omega
  rintro ⟨y, n⟩ ⟨hy, hn, e⟩
  refine ev_at (α := Nat × Nat) (fun p => p.1 < 65536 ∧ p.2 ≤ 48 ∧ len64 x = len64 p.1 + p.2) (fun p => [(0, .p (u64 p.1)), (2, .p (i64 p.2))]) (fun _ => []) ?_ ?_
  · refine ev_rs [] rfl trivial (ev_cond rfl (fun hc => ?_) (fun hc => ?_))
    · refine ev_rs [] rfl ⟨by decide, trivial⟩ (ev_n 0 _ rfl (shrN y 16 (by decide)) ?_)
      refine ev_region [] rfl trivial (at0 (y / 65536, n + 16) ⟨by omega, by omega, ?_⟩ ⟨le_0, le_e ?_, trivial⟩)
      · have h := len64_shift y 16 (by simp at hc; omega)
        simp only [Nat.reducePow] at h
        dsimp only at e ⊢
        omega
      · exact congrArg (fun z => PV.val (.int .i64 z)) (wrapI _ (by dsimp only at hn ⊢; omega) (by dsimp only at hn ⊢; omega))
    · refine ev_skip (at0 (y, n) ⟨?_, by omega, e⟩ ⟨le_0, le_0, trivial⟩)
      simp at hc; omega
  rintro ⟨y, n⟩ ⟨hy, hn, e⟩
  refine ev_at (α := Nat × Nat) (fun p => p.1 < 256 ∧ p.2 ≤ 56 ∧ len64 x = len64 p.1 + p.2) (fun p => [(0, .p (u64 p.1)), (2, .p (i64 p.2))]) (fun _ => []) ?_ ?_
  · refine ev_rs [] rfl trivial (ev_cond rfl (fun hc => ?_) (fun hc => ?_))
    · refine ev_rs [] rfl ⟨by decide, trivial⟩ (ev_n 0 _ rfl (shrN y 8 (by decide)) ?_)
      refine ev_region [] rfl trivial (at0 (y / 256, n + 8) ⟨by omega, by omega, ?_⟩ ⟨le_0, le_e ?_, trivial⟩)
      · have h := len64_shift y 8 (by simp at hc; omega)
        simp only [Nat.reducePow] at h
        dsimp only at e ⊢
        omega
      · exact congrArg (fun z => PV.val (.int .i64 z)) (wrapI _ (by dsimp only at hn ⊢; omega) (by dsimp only at hn ⊢; omega))
    · refine ev_skip (at0 (y, n) ⟨?_, by omega, e⟩ ⟨le_0, le_0, trivial⟩)
      simp at hc; omega
  rintro ⟨y, n⟩ ⟨hy, hn, e⟩
  refine ev_rs [] rfl ?_ ?_
  · exact ⟨len_in _ (by decide +kernel) y, trivial⟩
  · refine ev_ret (ret1 (fz_p (PLe.of_eq (congrArg (fun z => PV.val (.int .i64 z)) ?_))))
    exact (len_last _ (by decide +kernel) y n hy hn).trans (by rw [e])

theorem LeadingZeros64_spec (x : Nat) (hx : x < 18446744073709551616) : CallSpec Tryd.pr.P Tryd.pr.G 88 [u64 x] (i64 (64 - len64 x)) := by
  have hl : len64 x ≤ 64 := by
    unfold len64
    split
    · omega
    · rename_i h0
      have : Nat.log2 x < 64 := (Nat.log2_lt h0).mpr (by omega)
      omega
  refine callSpec_of Tryd.pr Tryd.func88 rfl rfl rfl fun w0 ok0 hok hG => ?_
  refine ev_rs [] rfl trivial ?_
  refine ev_rs [i64 (len64 x)] rfl ⟨.inl (Len64_spec x hx), trivial⟩ ?_
  refine ev_ret (ret1 (fz_p (PLe.of_eq (congrArg (fun z => PV.val (.int .i64 z)) ?_))))
  exact wrapI _ (by omega) (by omega)

end Go.Proofs

/- Division of two words by one. -/
set_option linter.unusedVariables false
namespace Go.Proofs
open Go Vinc

/-- The guess of a digit, and what the test of it says. -/
theorem knuth (u u1 y a b q r : Nat) (hy : y = a * 4294967296 + b) (ha : 2147483648 ≤ a) (ha' : a < 4294967296) (hb : b < 4294967296) (hu : u < y) (hu1 : u1 < 4294967296) (h1 : q * a + r = u)
    (hr : r < 4294967296) (hq : q ≤ 4294967297) :
    (4294967296 ≤ q ∨ (4294967296 * r % 18446744073709551616 + u1) % 18446744073709551616 < q * b % 18446744073709551616) ↔ (u * 4294967296 + u1) / y < q := by
  have hy0 : 0 < y := by omega
  have hlt : (u * 4294967296 + u1) / y < 4294967296 := by
    rw [Nat.div_lt_iff_lt_mul hy0]
    have : (u + 1) * 4294967296 ≤ y * 4294967296 := Nat.mul_le_mul_right _ hu
    rw [Nat.mul_comm 4294967296 y]
    omega
  have key : (u * 4294967296 + u1) / y < q ↔ 4294967296 * r + u1 < q * b := by
    rw [Nat.div_lt_iff_lt_mul hy0, hy, ← h1, Nat.mul_add, ← Nat.mul_assoc]
    have e : (q * a + r) * 4294967296 = q * a * 4294967296 + 4294967296 * r := by rw [Nat.add_mul, Nat.mul_comm r]
    rw [e]
    omega
  by_cases hc : 4294967296 ≤ q
  · constructor
    · intro _; omega
    · intro _; exact .inl hc
  · have hqb : q * b ≤ 4294967295 * 4294967295 := Nat.mul_le_mul (by omega) (by omega)
    rw [key, Nat.mod_eq_of_lt (by omega : q * b < _), Nat.mod_eq_of_lt (by omega : 4294967296 * r < _), Nat.mod_eq_of_lt (by omega : 4294967296 * r + u1 < _)]
    omega

/-- When the rest has grown beyond a digit, the guess is right. -/
theorem knuth_end (u u1 y a b q r : Nat) (hy : y = a * 4294967296 + b) (ha : 2147483648 ≤ a) (hb : b < 4294967296) (h1 : q * a + r = u)
    (hr : 4294967296 ≤ r) (hq : q ≤ 4294967296) : q ≤ (u * 4294967296 + u1) / y := by
  have hy0 : 0 < y := by omega
  refine (Nat.le_div_iff_mul_le hy0).mpr ?_
  rw [hy, ← h1, Nat.mul_add, ← Nat.mul_assoc, Nat.add_mul]
  have h2 : q * b ≤ 4294967296 * 4294967296 := Nat.mul_le_mul hq (by omega)
  have h3 : 4294967296 * 4294967296 ≤ r * 4294967296 := Nat.mul_le_mul_right _ hr
  omega

/-- The first guess. -/
theorem knuth_start (u u1 y a b : Nat) (hy : y = a * 4294967296 + b) (ha : 2147483648 ≤ a) (ha' : a < 4294967296) (hb : b < 4294967296) (hu : u < y) (hu1 : u1 < 4294967296) :
    u / a ≤ 4294967297 ∧ (u * 4294967296 + u1) / y ≤ u / a ∧ u % a < 4294967296 := by
  have h0 : 0 < a := by omega
  have hy0 : 0 < y := by omega
  refine ⟨?_, ?_, ?_⟩
  · apply Nat.le_of_lt_succ
    refine (Nat.div_lt_iff_lt_mul h0).mpr ?_
    generalize hk : (Nat.succ 4294967297) = k
    have hk' : k = 4294967298 := hk.symm
    rw [hk', Nat.mul_comm]
    omega
  · rw [Nat.le_div_iff_mul_le h0]
    have h1 : (u * 4294967296 + u1) / y * y ≤ u * 4294967296 + u1 := Nat.div_mul_le_self _ _
    generalize (u * 4294967296 + u1) / y = q at h1 ⊢
    rw [hy, Nat.mul_add, ← Nat.mul_assoc] at h1
    have h2 : q * a * 4294967296 ≤ u * 4294967296 + u1 := Nat.le_trans (Nat.le_add_right _ _) h1
    clear h1
    generalize q * a = qa at h2 ⊢
    omega
  · have := Nat.mod_lt u h0
    omega

theorem rest_aux (u u1 y m t : Nat) (h : m + t = u * 4294967296 + u1) (hm : t < y) (hu : u < y) (hu1 : u1 < 4294967296) (hy : y < 18446744073709551616) :
    ((u * 4294967296 % 18446744073709551616 + u1) % 18446744073709551616 + (18446744073709551616 - m % 18446744073709551616)) % 18446744073709551616 = t := by omega

/-- The rest behind a digit. -/
theorem knuth_rest (u u1 y : Nat) (hu : u < y) (hu1 : u1 < 4294967296) (hy : y < 18446744073709551616) :
    ((u * 4294967296 % 18446744073709551616 + u1) % 18446744073709551616 + (18446744073709551616 - (u * 4294967296 + u1) / y * y % 18446744073709551616)) % 18446744073709551616 = (u * 4294967296 + u1) % y := by
  have hy0 : 0 < y := by omega
  have h := Nat.div_add_mod (u * 4294967296 + u1) y
  have hm := Nat.mod_lt (u * 4294967296 + u1) hy0
  rw [Nat.mul_comm] at h
  exact rest_aux _ _ _ _ _ h hm hu hu1 hy

theorem digit_lt (u v y : Nat) (hu : u < y) (hv : v < 4294967296) : (u * 4294967296 + v) / y < 4294967296 := by
  rw [Nat.div_lt_iff_lt_mul (by omega)]
  have := Nat.mul_le_mul_right 4294967296 (show u + 1 ≤ y from hu)
  rw [Nat.mul_comm 4294967296 y]
  omega

/-- Words that share no place. -/
theorem or_apart (a b s : Nat) (ha : a < 18446744073709551616) (hb : b < 2 ^ s) (hd : 2 ^ s ∣ a) (hs : s ≤ 64) : bitI .or .u64 (a : Int) (b : Int) = ((a + b : Nat) : Int) := by
  have h2 : 2 ^ s ≤ 2 ^ 64 := Nat.pow_le_pow_right (by omega) hs
  obtain ⟨m, rfl⟩ := hd
  have hlt : 2 ^ s * m + b < 18446744073709551616 := by
    have e : 18446744073709551616 = 2 ^ s * 2 ^ (64 - s) := by rw [← Nat.pow_add, show s + (64 - s) = 64 by omega]
    rw [e] at ha ⊢
    have : m < 2 ^ (64 - s) := Nat.lt_of_mul_lt_mul_left ha
    have := Nat.mul_le_mul_left (2 ^ s) this
    rw [Nat.mul_succ] at this
    omega
  show IntKind.wrap .u64 (((BitVec.ofInt 64 ((2 ^ s * m : Nat) : Int) ||| BitVec.ofInt 64 (b : Int)).toNat : Nat) : Int) = _
  rw [BitVec.toNat_or, BitVec.ofInt_natCast, BitVec.ofInt_natCast, BitVec.toNat_ofNat, BitVec.toNat_ofNat, Nat.mod_eq_of_lt (by omega : 2 ^ s * m < 2 ^ 64), Nat.mod_eq_of_lt (by omega : b < 2 ^ 64),
    ← Nat.two_pow_add_eq_or_of_lt hb, wrapN, Nat.mod_eq_of_lt hlt]

theorem div_shift (n y s Q r : Nat) (h : n * 2 ^ s = Q * (y * 2 ^ s) + r) (hr : r < y * 2 ^ s) : n / y = Q ∧ n % y = r / 2 ^ s := by
  have h0 : 0 < 2 ^ s := Nat.two_pow_pos s
  have hy : 0 < y * 2 ^ s := by omega
  have h1 : n * 2 ^ s / (y * 2 ^ s) = Q := by
    rw [h, Nat.mul_comm Q, Nat.mul_add_div hy, Nat.div_eq_of_lt hr, Nat.add_zero]
  have h2 : n * 2 ^ s % (y * 2 ^ s) = r := by
    rw [h, Nat.mul_comm Q, Nat.mul_add_mod, Nat.mod_eq_of_lt hr]
  rw [Nat.mul_div_mul_right _ _ h0] at h1
  rw [Nat.mul_mod_mul_right] at h2
  exact ⟨h1, by rw [← h2, Nat.mul_div_cancel _ h0]⟩

theorem div_fin0 (u v1 v0 y q1 r1 q0 r0 : Nat) (d1 : y * q1 + r1 = u * 4294967296 + v1) (d2 : y * q0 + r0 = r1 * 4294967296 + v0) :
    u * 18446744073709551616 + (v1 * 4294967296 + v0) = (q1 * 4294967296 + q0) * y + r0 := by
  rw [Nat.add_mul, Nat.mul_comm q0, Nat.mul_right_comm, Nat.mul_comm q1]
  omega

theorem div_fin (N y s u v y' : Nat) (hN : N * 2 ^ s = u * 18446744073709551616 + v) (h0 : 0 < y') (hdiv : ∀ Q r, N * 2 ^ s = Q * y' + r → r < y' → N / y = Q ∧ N % y = r / 2 ^ s) :
    N / y = (u * 4294967296 + v / 4294967296) / y' * 4294967296 + ((u * 4294967296 + v / 4294967296) % y' * 4294967296 + v % 4294967296) / y'
    ∧ N % y = ((u * 4294967296 + v / 4294967296) % y' * 4294967296 + v % 4294967296) % y' / 2 ^ s := by
  refine hdiv _ _ ?_ (Nat.mod_lt _ h0)
  rw [hN]
  have hvv : v = v / 4294967296 * 4294967296 + v % 4294967296 := by omega
  exact (congrArg (u * 18446744073709551616 + ·) hvv).trans (div_fin0 u _ _ y' _ _ _ _ (Nat.div_add_mod _ _) (Nat.div_add_mod _ _))

/-- What is set up ahead of the digits. -/
theorem div_setup (hi lo y : Nat) (hhi : hi < y) (hlo : lo < 18446744073709551616) (hy : y < 18446744073709551616) : ∃ s y' a b u v v1 v0 : Nat,
    (len64 y ≤ 64 ∧ 64 - len64 y = s ∧ s ≤ 64) ∧ (y * 2 ^ s = y' ∧ y' < 18446744073709551616) ∧ (y' / 4294967296 = a ∧ y' % 4294967296 = b) ∧ (y' = a * 4294967296 + b ∧ 2147483648 ≤ a ∧ a < 4294967296 ∧ b < 4294967296)
    ∧ bitI .or .u64 ((hi * 2 ^ s % 18446744073709551616 : Nat) : Int) ((lo / 2 ^ (64 - s) : Nat) : Int) = (u : Int) ∧ u < y' ∧ lo * 2 ^ s % 18446744073709551616 = v ∧ v < 18446744073709551616 ∧ v / 4294967296 = v1 ∧ v % 4294967296 = v0
    ∧ v1 < 4294967296 ∧ v0 < 4294967296
    ∧ (hi * 18446744073709551616 + lo) / y = (u * 4294967296 + v1) / y' * 4294967296 + ((u * 4294967296 + v1) % y' * 4294967296 + v0) / y'
    ∧ (hi * 18446744073709551616 + lo) % y = ((u * 4294967296 + v1) % y' * 4294967296 + v0) % y' / 2 ^ s := by
  have hy0 : y ≠ 0 := by omega
  have hlz : len64 y ≤ 64 ∧ y * 2 ^ (64 - len64 y) < 18446744073709551616 ∧ 9223372036854775808 ≤ y * 2 ^ (64 - len64 y) := by
    unfold len64
    rw [if_neg hy0]
    have h1 : Nat.log2 y < 64 := (Nat.log2_lt hy0).mpr hy
    have h2 := Nat.log2_self_le hy0
    have h3 := @Nat.lt_log2_self y
    have e : (18446744073709551616 : Nat) = 2 ^ (Nat.log2 y + 1) * 2 ^ (64 - (Nat.log2 y + 1)) := by rw [← Nat.pow_add, show Nat.log2 y + 1 + (64 - (Nat.log2 y + 1)) = 64 by omega]
    have e' : (9223372036854775808 : Nat) = 2 ^ (Nat.log2 y) * 2 ^ (64 - (Nat.log2 y + 1)) := by rw [← Nat.pow_add, show Nat.log2 y + (64 - (Nat.log2 y + 1)) = 63 by omega]
    refine ⟨by omega, ?_, ?_⟩
    · rw [e]; exact Nat.mul_lt_mul_of_pos_right h3 (Nat.two_pow_pos _)
    · rw [e']; exact Nat.mul_le_mul_right _ h2
  obtain ⟨hl, hy1, hy2⟩ := hlz
  have hs64 : 64 - len64 y ≤ 64 := by omega
  generalize 64 - len64 y = s at hy1 hy2 hs64 ⊢
  have hps : 0 < 2 ^ s := Nat.two_pow_pos s
  have hpe : 2 ^ s * 2 ^ (64 - s) = 18446744073709551616 := by rw [← Nat.pow_add, show s + (64 - s) = 64 by omega]
  have hpt : 0 < 2 ^ (64 - s) := Nat.two_pow_pos _
  have hhs : hi * 2 ^ s < 18446744073709551616 := Nat.lt_of_le_of_lt (Nat.mul_le_mul_right _ (Nat.le_of_lt hhi)) hy1
  have hls : lo / 2 ^ (64 - s) < 2 ^ s := by
    rw [Nat.div_lt_iff_lt_mul hpt, hpe]; exact hlo
  have hN : (hi * 18446744073709551616 + lo) * 2 ^ s = (hi * 2 ^ s + lo / 2 ^ (64 - s)) * 18446744073709551616 + lo * 2 ^ s % 18446744073709551616 := by
    have h1 : lo * 2 ^ s / 18446744073709551616 = lo / 2 ^ (64 - s) := by
      rw [← hpe, Nat.mul_comm lo, Nat.mul_div_mul_left _ _ hps]
    have h2 := Nat.div_add_mod (lo * 2 ^ s) 18446744073709551616
    rw [h1] at h2
    rw [Nat.add_mul, Nat.add_mul, Nat.add_assoc, Nat.mul_comm (lo / _), h2, Nat.mul_right_comm]
  have hu : hi * 2 ^ s + lo / 2 ^ (64 - s) < y * 2 ^ s := by
    have := Nat.mul_le_mul_right (2 ^ s) hhi
    rw [Nat.succ_mul] at this
    omega
  have hor := or_apart (hi * 2 ^ s % 18446744073709551616) _ s (Nat.mod_lt _ (by decide)) hls (by rw [Nat.mod_eq_of_lt hhs]; exact ⟨hi, Nat.mul_comm _ _⟩) hs64
  have hv : lo * 2 ^ s % 18446744073709551616 < 18446744073709551616 := Nat.mod_lt _ (by decide)
  have hdiv := div_shift (hi * 18446744073709551616 + lo) y s
  rw [Nat.mod_eq_of_lt hhs] at hor
  refine ⟨s, _, _, _, hi * 2 ^ s + lo / 2 ^ (64 - s), _, _, _, ⟨hl, rfl, hs64⟩, ⟨rfl, hy1⟩, ⟨rfl, rfl⟩, ⟨by omega, by omega, by omega, by omega⟩, by rw [Nat.mod_eq_of_lt hhs]; exact hor, hu, rfl, hv, rfl, rfl, by omega, by omega, ?_⟩
  exact div_fin _ y s _ _ _ hN (by omega) hdiv

theorem test_iff (q b r v : Nat) : (bif decide ((q : Int) ≥ 4294967296) then true else decide (IntKind.wrap .u64 ((q : Int) * b) > IntKind.wrap .u64 (IntKind.wrap .u64 (4294967296 * (r : Int)) + v))) = true
    ↔ (4294967296 ≤ q ∨ (4294967296 * r % 18446744073709551616 + v) % 18446744073709551616 < q * b % 18446744073709551616) := by
  have e : (4294967296 * (r : Int)) = ((4294967296 : Nat) : Int) * (r : Int) := rfl
  rw [e, wrapMul, wrapMul, wrapAdd]
  by_cases h : 4294967296 ≤ q
  · rw [decide_eq_true (by omega : (q : Int) ≥ 4294967296)]
    simp [h]
  · rw [decide_eq_false (by omega : ¬ (q : Int) ≥ 4294967296)]
    simp only [cond_false, decide_eq_true_eq, gt_iff_lt, Int.ofNat_lt]
    omega

theorem Div64_spec (hi lo y : Nat) (hhi : hi < y) (hlo : lo < 18446744073709551616) (hy : y < 18446744073709551616) :
    CallSpec Tryd.pr.P Tryd.pr.G 84 [u64 hi, u64 lo, u64 y] (.tup 2 (two (u64 ((hi * 18446744073709551616 + lo) / y)) (u64 ((hi * 18446744073709551616 + lo) % y)))) := by
  have hy0 : y ≠ 0 := by omega
  obtain ⟨s, y', a, b, u, v, v1, v0, ⟨hl, hs, hs64⟩, ⟨hy1, hy2⟩, ⟨ea, eb⟩, ⟨hyy, ha, ha', hb⟩, hor, hu, ev, hv, ev1, ev0, hv1, hv0, hq, hr⟩ := div_setup hi lo y hhi hlo hy
  have hua := knuth_start u v1 y' a b hyy ha ha' hb hu hv1
  have hu2 : (u * 4294967296 + v1) % y' < y' := Nat.mod_lt _ (by omega)
  have hub := knuth_start ((u * 4294967296 + v1) % y') v0 y' a b hyy ha ha' hb hu2 hv0
  have hq1 := digit_lt u v1 y' hu hv1
  have hq0 := digit_lt ((u * 4294967296 + v1) % y') v0 y' hu2 hv0
  have kr1 := knuth_rest u v1 y' hu hv1 hy2
  have kr0 := knuth_rest ((u * 4294967296 + v1) % y') v0 y' hu2 hv0 hy2
  have ke1 := fun q r => knuth_end u v1 y' a b q r hyy ha hb
  have ke0 := fun q r => knuth_end ((u * 4294967296 + v1) % y') v0 y' a b q r hyy ha hb
  have kn1 := fun q r => knuth u v1 y' a b q r hyy ha ha' hb hu hv1
  have kn0 := fun q r => knuth ((u * 4294967296 + v1) % y') v0 y' a b q r hyy ha ha' hb hu2 hv0
  obtain ⟨u2, eu2⟩ : ∃ u2, (u * 4294967296 + v1) % y' = u2 := ⟨_, rfl⟩
  rw [eu2] at hu2 hub hq0 kr1 kr0 ke0 kn0 hq hr
  obtain ⟨q1, eq1⟩ : ∃ q1, (u * 4294967296 + v1) / y' = q1 := ⟨_, rfl⟩
  rw [eq1] at hua hq1 kr1 ke1 kn1 hq
  obtain ⟨q0, eq0⟩ : ∃ q0, (u2 * 4294967296 + v0) / y' = q0 := ⟨_, rfl⟩
  rw [eq0] at hub hq0 kr0 ke0 kn0 hq
  obtain ⟨r0, er0⟩ : ∃ r0, (u2 * 4294967296 + v0) % y' = r0 := ⟨_, rfl⟩
  rw [er0] at kr0 hr
  rw [hq, hr]
  refine callSpec_of Tryd.pr Tryd.func84 rfl rfl rfl fun w0 ok0 hok hG => ?_
  refine ev_rs [] rfl trivial ?_
  refine ev_seq (ev_rs [] rfl trivial (ev_cond rfl (fun h => absurd h (by simp; omega)) (fun _ => ev_sk ?_)))
  refine ev_seq (ev_rs [] rfl trivial (ev_cond rfl (fun h => absurd h (by simp; omega)) (fun _ => ev_sk ?_)))
  refine ev_seq (ev_rs [] rfl trivial (ev_cond rfl (fun h => ?_) (fun _ => ev_sk ?_)))
  · obtain rfl : hi = 0 := by simpa using h
    refine ev_ds [] (by kernel_rfl) rfl rfl ?_ ?_
    · exact ⟨by simpa using hy0, by simpa using hy0, trivial⟩
    · refine ev_ret (ret2 (fz_p (PLe.of_eq (congrArg (fun z => PV.val (.int .u64 z)) ?_))) (fz_p (PLe.of_eq (congrArg (fun z => PV.val (.int .u64 z)) ?_))))
      · rw [tdivN _ _ hlo, ← hq, Nat.zero_mul, Nat.zero_add]
      · rw [tmodN, ← hr, Nat.zero_mul, Nat.zero_add]
  refine ev_rs [i64 (64 - len64 y)] rfl ⟨.inl (LeadingZeros64_spec y hy), trivial⟩ (ev_n 8 s rfl (by rw [wrap64]; omega) ?_)
  refine ev_rs [] rfl ⟨by omega, trivial⟩ (ev_n 2 y' rfl ((shlN y s hs64).trans (by rw [hy1, Nat.mod_eq_of_lt hy2])) ?_)
  refine ev_rs [] rfl ⟨by decide, trivial⟩ (ev_n 9 a rfl ((shr32 _).trans (by rw [ea])) ?_)
  refine ev_rs [] rfl trivial (ev_n 10 b rfl ((and32 _ hy2).trans (by rw [eb])) ?_)
  have h64 : IntKind.wrap .u64 (64 - (s : Int)) = ((64 - s : Nat) : Int) := by rw [wrap64]; omega
  refine ev_rs [] rfl ?_ (ev_n 11 u rfl ?_ ?_)
  · refine ⟨?_, by omega, trivial⟩
    rw [h64]; omega
  · rw [h64, shlN hi s hs64, shrN lo (64 - s) (by omega)]
    exact hor
  refine ev_rs [] rfl ⟨by omega, trivial⟩ (ev_n 12 v rfl ((shlN lo s hs64).trans (by rw [ev])) ?_)
  refine ev_rs [] rfl ⟨by decide, trivial⟩ (ev_n 13 v1 rfl ((shr32 _).trans (by rw [ev1])) ?_)
  refine ev_rs [] rfl trivial (ev_n 14 v0 rfl ((and32 _ hv).trans (by rw [ev0])) ?_)
  refine ev_rs [] rfl ⟨by omega, trivial⟩ (ev_n 15 (u / a) rfl (tdivN _ _ (by omega)) ?_)
  refine ev_rs [] rfl trivial (ev_n 16 (u % a) rfl ?_ ?_)
  · have h1 := Nat.div_mul_le_self u a
    have h2 := Nat.div_add_mod u a
    rw [wrapMul, Nat.mod_eq_of_lt (by omega), wrapSub _ _ h1 (by omega)]
    rw [Nat.mul_comm] at h2
    omega
  refine ev_at (α := Unit) (fun _ => True) (fun _ => [(8, .p (u64 s)), (2, .p (u64 y')), (9, .p (u64 a)), (10, .p (u64 b)), (11, .p (u64 u)), (13, .p (u64 v1)), (14, .p (u64 v0)), (15, .p (u64 q1))]) (fun _ => []) ?_ ?_
  · refine ev_block (ev_while0 (α := Nat × Nat) (fun p => p.1 ≤ 4294967297 ∧ q1 ≤ p.1 ∧ p.2 < 4294967296 ∧ p.1 * a + p.2 = u)
      (fun p => [(8, .p (u64 s)), (2, .p (u64 y')), (9, .p (u64 a)), (10, .p (u64 b)), (11, .p (u64 u)), (13, .p (u64 v1)), (14, .p (u64 v0)), (15, .p (u64 p.1)), (16, .p (u64 p.2))]) (fun p => p.1) (u / a, u % a)
      ⟨hua.1, hua.2.1, hua.2.2, by rw [Nat.mul_comm]; exact Nat.div_add_mod u a⟩ ⟨le_0, le_0, le_0, le_0, le_0, le_0, le_0, le_0, le_0, trivial⟩ ?_)
    rintro ⟨q, r⟩ ⟨h1, h2, h3, h4⟩
    dsimp only at h1 h2 h3 h4
    refine ev_seq (ev_rs [] rfl ⟨⟨fun _ => rfl, gd_f⟩, by simp⟩ ?_)
    refine ev_cond rfl (fun h => ev_sk ?_) (fun h => ev_exit ?_)
    · have h5 := (kn1 q r h4 h3 h1).mp ((test_iff q b r v1).mp h)
      refine ev_block ?_
      refine ev_rs [] rfl trivial (ev_n 15 (q - 1) rfl (wrapSub q 1 (by omega) (by omega)) ?_)
      refine ev_rs [] rfl trivial (ev_n 16 (r + a) rfl ((wrapAdd r a).trans (by rw [Nat.mod_eq_of_lt (by omega)])) ?_)
      have h6 : (q - 1) * a + (r + a) = u := by
        rw [← h4]
        obtain ⟨k, rfl⟩ : ∃ k, q = k + 1 := ⟨q - 1, by omega⟩
        rw [Nat.add_sub_cancel, Nat.add_mul]
        omega
      refine ev_rs [] rfl trivial (ev_cond rfl (fun h' => ev_exit ?_) (fun h' => ev_skip ?_))
      · refine at0 () trivial ⟨le_0, le_0, le_0, le_0, le_0, le_0, le_0, le_e ?_, trivial⟩
        have h7 : 4294967296 ≤ r + a := by have := of_decide_eq_true h'; omega
        have h8 := ke1 (q - 1) (r + a) h6 h7 (by omega)
        rw [show q - 1 = q1 by omega]
      · refine round0 (q - 1, r + a) ⟨?_, ?_, ?_, h6⟩ ?_ ⟨le_0, le_0, le_0, le_0, le_0, le_0, le_0, le_0, le_0, trivial⟩
        · dsimp only; omega
        · dsimp only; omega
        · have := of_decide_eq_false h'; dsimp only; omega
        · dsimp only; omega
    · have h5 := (not_congr (kn1 q r h4 h3 h1)).mp (fun h' => Bool.noConfusion (h.symm.trans ((test_iff q b r v1).mpr h')))
      refine at0 () trivial ⟨le_0, le_0, le_0, le_0, le_0, le_0, le_0, le_e ?_, trivial⟩
      exact congrArg u64 (show q = _ by omega)
  rintro ⟨⟩ -
  refine ev_rs [] rfl trivial (ev_n 17 u2 rfl ?_ ?_)
  · show IntKind.wrap .u64 (IntKind.wrap .u64 (IntKind.wrap .u64 ((u : Int) * ((4294967296 : Nat) : Int)) + (v1 : Int)) - IntKind.wrap .u64 ((q1 : Int) * (y' : Int))) = _
    rw [wrapMul, wrapAdd, wrapMul, wrapSub' _ _ (Nat.le_of_lt (Nat.mod_lt _ (by decide)))]
    exact toN kr1
  refine ev_rs [] rfl ⟨by omega, trivial⟩ (ev_n 18 (u2 / a) rfl (tdivN _ _ (by omega)) ?_)
  refine ev_rs [] rfl trivial (ev_n 16 (u2 % a) rfl ?_ ?_)
  · have h1 := Nat.div_mul_le_self u2 a
    have h2 := Nat.div_add_mod u2 a
    have h3 : u2 / a < 18446744073709551616 := by omega
    rw [wrapMul, Nat.mod_eq_of_lt (by omega), wrapSub _ _ h1 (by omega)]
    rw [Nat.mul_comm] at h2
    omega
  refine ev_at (α := Unit) (fun _ => True) (fun _ => [(8, .p (u64 s)), (2, .p (u64 y')), (14, .p (u64 v0)), (15, .p (u64 q1)), (17, .p (u64 u2)), (18, .p (u64 q0))]) (fun _ => []) ?_ ?_
  · refine ev_block (ev_while0 (α := Nat × Nat) (fun p => p.1 ≤ 4294967297 ∧ q0 ≤ p.1 ∧ p.2 < 4294967296 ∧ p.1 * a + p.2 = u2)
      (fun p => [(8, .p (u64 s)), (2, .p (u64 y')), (9, .p (u64 a)), (10, .p (u64 b)), (14, .p (u64 v0)), (15, .p (u64 q1)), (17, .p (u64 u2)), (18, .p (u64 p.1)), (16, .p (u64 p.2))]) (fun p => p.1) (u2 / a, u2 % a)
      ⟨hub.1, hub.2.1, hub.2.2, by rw [Nat.mul_comm]; exact Nat.div_add_mod u2 a⟩ ⟨le_0, le_0, le_0, le_0, le_0, le_0, le_0, le_0, le_0, trivial⟩ ?_)
    rintro ⟨q, r⟩ ⟨h1, h2, h3, h4⟩
    dsimp only at h1 h2 h3 h4
    refine ev_seq (ev_rs [] rfl ⟨⟨fun _ => rfl, gd_f⟩, by simp⟩ ?_)
    refine ev_cond rfl (fun h => ev_sk ?_) (fun h => ev_exit ?_)
    · have h5 := (kn0 q r h4 h3 h1).mp ((test_iff q b r v0).mp h)
      refine ev_block ?_
      refine ev_rs [] rfl trivial (ev_n 18 (q - 1) rfl (wrapSub q 1 (by omega) (by omega)) ?_)
      refine ev_rs [] rfl trivial (ev_n 16 (r + a) rfl ((wrapAdd r a).trans (by rw [Nat.mod_eq_of_lt (by omega)])) ?_)
      have h6 : (q - 1) * a + (r + a) = u2 := by
        rw [← h4]
        obtain ⟨k, rfl⟩ : ∃ k, q = k + 1 := ⟨q - 1, by omega⟩
        rw [Nat.add_sub_cancel, Nat.add_mul]
        omega
      refine ev_rs [] rfl trivial (ev_cond rfl (fun h' => ev_exit ?_) (fun h' => ev_skip ?_))
      · refine at0 () trivial ⟨le_0, le_0, le_0, le_0, le_0, le_e ?_, trivial⟩
        have h7 : 4294967296 ≤ r + a := by have := of_decide_eq_true h'; omega
        have h8 := ke0 (q - 1) (r + a) h6 h7 (by omega)
        rw [show q - 1 = q0 by omega]
      · refine round0 (q - 1, r + a) ⟨?_, ?_, ?_, h6⟩ ?_ ⟨le_0, le_0, le_0, le_0, le_0, le_0, le_0, le_0, le_0, trivial⟩
        · dsimp only; omega
        · dsimp only; omega
        · have := of_decide_eq_false h'; dsimp only; omega
        · dsimp only; omega
    · have h5 := (not_congr (kn0 q r h4 h3 h1)).mp (fun h' => Bool.noConfusion (h.symm.trans ((test_iff q b r v0).mpr h')))
      refine at0 () trivial ⟨le_0, le_0, le_0, le_0, le_0, le_e ?_, trivial⟩
      exact congrArg u64 (show q = _ by omega)
  rintro ⟨⟩ -
  refine ev_rs [] rfl ⟨by omega, trivial⟩ ?_
  refine ev_ret (ret2 (fz_p (PLe.of_eq (congrArg (fun z => PV.val (.int .u64 z)) ?_))) (fz_p (PLe.of_eq (congrArg (fun z => PV.val (.int .u64 z)) ?_))))
  · show IntKind.wrap .u64 (IntKind.wrap .u64 ((q1 : Int) * ((4294967296 : Nat) : Int)) + (q0 : Int)) = _
    rw [wrapMul, wrapAdd, Nat.mod_eq_of_lt (by omega : q1 * 4294967296 < _), Nat.mod_eq_of_lt (by omega)]
  · show Int.fdiv (IntKind.wrap .u64 (IntKind.wrap .u64 (IntKind.wrap .u64 ((u2 : Int) * ((4294967296 : Nat) : Int)) + (v0 : Int)) - IntKind.wrap .u64 ((q0 : Int) * (y' : Int)))) _ = _
    rw [wrapMul, wrapAdd, wrapMul, wrapSub' _ _ (Nat.le_of_lt (Nat.mod_lt _ (by decide))), kr0]
    exact shrN _ s hs64

/-- The rest of two words by one. -/
theorem Rem64_spec (hi lo y : Nat) (hy0 : y ≠ 0) (hlo : lo < 18446744073709551616) (hy : y < 18446744073709551616) :
    CallSpec Tryd.pr.P Tryd.pr.G 72 [u64 hi, u64 lo, u64 y] (u64 ((hi * 18446744073709551616 + lo) % y)) := by
  refine callSpec_of Tryd.pr Tryd.func72 rfl rfl rfl fun w0 ok0 hok hG => ?_
  refine ev_rs [] rfl trivial ?_
  refine ev_rs [.tup 2 (two (u64 ((hi % y * 18446744073709551616 + lo) / y)) (u64 ((hi % y * 18446744073709551616 + lo) % y)))] rfl ⟨.inl ?_, by simpa using hy0, trivial⟩ ?_
  · exact Div64_spec (hi % y) lo y (Nat.mod_lt _ (by omega)) hlo hy
  refine ev_rs [] rfl trivial ?_
  refine ev_ret (ret1 (fz_p (PLe.of_eq (congrArg u64 ?_))))
  rw [Nat.add_mod, Nat.mod_mul_mod, ← Nat.add_mod]

end Go.Proofs

/- The numbers modulo a word: sums, differences, products, powers. -/
set_option linter.unusedVariables false
namespace Go.Proofs
open Go Vinc

/-- A field: its word, and what it keeps of it. -/
abbrev fld (m back two : Nat) : PV := .ptr 3 (three (u64 m) (u64 back) (u64 two)) 0

/-- A word that may be a modulus. -/
def MayM (m : Nat) : Prop := 2 ≤ m ∧ m < 9223372036854775808

theorem add_ge {x y m : Nat} (hm : 0 < m) (h : m ≤ x % m + y % m) : x % m + y % m - m = (x + y) % m := by
  have hx : x % m < m := Nat.mod_lt _ hm
  have hy : y % m < m := Nat.mod_lt _ hm
  rw [Nat.add_mod x y m]
  generalize x % m = a at *
  generalize y % m = b at *
  rw [Nat.mod_eq_sub_mod h, Nat.mod_eq_of_lt (by omega)]

theorem add_lt' {x y m : Nat} (h : x % m + y % m < m) : x % m + y % m = (x + y) % m := by
  rw [Nat.add_mod x y m, Nat.mod_eq_of_lt h]

/-- The difference modulo a number. -/
def subM (x y m : Nat) : Nat := (x % m + m - y % m) % m

theorem sub_lt' {x y m : Nat} (hm : 0 < m) (h : x % m < y % m) : x % m + m - y % m = subM x y m := by
  unfold subM
  rw [Nat.mod_eq_of_lt (by omega : x % m + m - y % m < m)]

theorem sub_ge {x y m : Nat} (hm : 0 < m) (h : y % m ≤ x % m) : x % m - y % m = subM x y m := by
  have hx : x % m < m := Nat.mod_lt _ hm
  unfold subM
  generalize x % m = a at *
  generalize y % m = b at *
  rw [show a + m - b = (a - b) + m by omega, Nat.add_mod_right, Nat.mod_eq_of_lt (by omega)]

section
variable {m b t : Nat}

theorem M_spec : CallSpec Tryd.pr.P Tryd.pr.G 55 [fld m b t] (u64 m) := by
  refine callSpec_of Tryd.pr Tryd.func55 rfl rfl rfl fun w0 ok0 hok hG => ?_
  refine ev_rs [] rfl trivial ?_
  refine ev_seq (ev_rs [] rfl trivial (ev_cf rfl (ev_sk ?_)))
  refine ev_rs [] rfl ⟨by decide, trivial⟩ ?_
  exact ev_ret (ret1 (fz_p (PLe.refl _)))

theorem M_nil : CallSpec Tryd.pr.P Tryd.pr.G 55 [nilP] (u64 0) := by
  refine callSpec_of Tryd.pr Tryd.func55 rfl rfl rfl fun w0 ok0 hok hG => ?_
  refine ev_rs [] rfl trivial ?_
  refine ev_seq (ev_rs [] rfl trivial (ev_ct rfl ?_))
  exact ev_rs [] rfl trivial (ev_ret (ret1 (fz_p (PLe.refl _))))

theorem Of_nil (x : Nat) : CallSpec Tryd.pr.P Tryd.pr.G 58 [nilP, u64 x] (u64 0) := by
  refine callSpec_of Tryd.pr Tryd.func58 rfl rfl rfl fun w0 ok0 hok hG => ?_
  refine ev_rs [] rfl trivial ?_
  refine ev_seq (ev_rs [] rfl trivial (ev_ct rfl ?_))
  exact ev_rs [] rfl trivial (ev_ret (ret1 (fz_p (PLe.refl _))))

theorem Of_spec (hm : MayM m) (x : Nat) : CallSpec Tryd.pr.P Tryd.pr.G 58 [fld m b t, u64 x] (u64 (x % m)) := by
  have hm0 : m ≠ 0 := by have := hm.1; omega
  refine callSpec_of Tryd.pr Tryd.func58 rfl rfl rfl fun w0 ok0 hok hG => ?_
  refine ev_rs [] rfl trivial ?_
  refine ev_seq (ev_rs [] rfl trivial (ev_cf rfl (ev_sk ?_)))
  refine ev_rs [] rfl ⟨by simpa using hm0, by decide, trivial⟩ ?_
  exact ev_ret (ret1 (fz_p (PLe.refl _)))

theorem Add_nil (x y : Nat) : CallSpec Tryd.pr.P Tryd.pr.G 54 [nilP, u64 x, u64 y] (u64 0) := by
  refine callSpec_of Tryd.pr Tryd.func54 rfl rfl rfl fun w0 ok0 hok hG => ?_
  refine ev_rs [] rfl trivial ?_
  refine ev_seq (ev_rs [] rfl trivial (ev_ct rfl ?_))
  exact ev_rs [] rfl trivial (ev_ret (ret1 (fz_p (PLe.refl _))))

theorem Add_spec (hm : MayM m) (x y : Nat) : CallSpec Tryd.pr.P Tryd.pr.G 54 [fld m b t, u64 x, u64 y] (u64 ((x + y) % m)) := by
  have hm0 : m ≠ 0 := by have := hm.1; omega
  have hm2 := hm.2
  have hx : x % m < m := Nat.mod_lt _ (by omega)
  have hy : y % m < m := Nat.mod_lt _ (by omega)
  have e := Nat.add_mod x y m
  refine callSpec_of Tryd.pr Tryd.func54 rfl rfl rfl fun w0 ok0 hok hG => ?_
  refine ev_rs [] rfl trivial ?_
  refine ev_seq (ev_rs [] rfl trivial (ev_cf rfl (ev_sk ?_)))
  refine ev_ds [] (by kernel_rfl) rfl rfl ⟨by simpa using hm0, by decide, by simpa using hm0, by decide, trivial⟩ (ev_n 7 (x % m + y % m) rfl ((wrapAdd _ _).trans (by rw [Nat.mod_eq_of_lt (by omega)])) ?_)
  refine ev_at (α := Unit) (fun _ => True) (fun _ => [(7, .p (u64 ((x + y) % m)))]) (fun _ => []) ?_ ?_
  · refine ev_rs [] rfl ⟨by decide, trivial⟩ (ev_cond rfl (fun h => ?_) (fun h => ?_))
    · have h' := of_decide_eq_true h
      refine ev_region [] rfl ⟨by decide, trivial⟩ (at0 () trivial ⟨le_e (congrArg (fun z => PV.val (.int .u64 z)) ?_), trivial⟩)
      show IntKind.wrap .u64 (((x % m + y % m : Nat) : Int) - (m : Int)) = _
      rw [wrapSub _ _ (by omega) (by omega)]
      exact toN (add_ge (by omega) (by omega))
    · have h' := of_decide_eq_false h
      refine ev_skip (at0 () trivial ⟨le_e (congrArg u64 ?_), trivial⟩)
      exact add_lt' (by omega)
  · rintro ⟨⟩ -
    refine ev_rs [] rfl trivial ?_
    exact ev_ret (ret1 (fz_p (PLe.refl _)))

theorem Sub_nil (x y : Nat) : CallSpec Tryd.pr.P Tryd.pr.G 27 [nilP, u64 x, u64 y] (u64 0) := by
  refine callSpec_of Tryd.pr Tryd.func27 rfl rfl rfl fun w0 ok0 hok hG => ?_
  refine ev_rs [] rfl trivial ?_
  refine ev_seq (ev_rs [] rfl trivial (ev_ct rfl ?_))
  exact ev_rs [] rfl trivial (ev_ret (ret1 (fz_p (PLe.refl _))))

theorem Sub_spec (hm : MayM m) (x y : Nat) : CallSpec Tryd.pr.P Tryd.pr.G 27 [fld m b t, u64 x, u64 y] (u64 (subM x y m)) := by
  have hm0 : m ≠ 0 := by have := hm.1; omega
  have hm2 := hm.2
  have hx : x % m < m := Nat.mod_lt _ (by omega)
  have hy : y % m < m := Nat.mod_lt _ (by omega)
  refine callSpec_of Tryd.pr Tryd.func27 rfl rfl rfl fun w0 ok0 hok hG => ?_
  refine ev_rs [] rfl trivial ?_
  refine ev_seq (ev_rs [] rfl trivial (ev_cf rfl (ev_sk ?_)))
  refine ev_ds [] (by kernel_rfl) rfl rfl ⟨by simpa using hm0, by decide, by simpa using hm0, by decide, trivial⟩ ?_
  refine ev_at (α := Nat) (fun z => y % m ≤ z ∧ z < 18446744073709551616 ∧ z - y % m = subM x y m) (fun z => [(1, .p (u64 z)), (2, .p (u64 (y % m)))]) (fun _ => []) ?_ ?_
  · refine ev_rs [] rfl trivial (ev_cond rfl (fun h => ?_) (fun h => ?_))
    · have h' := of_decide_eq_true h
      have h'' : x % m < y % m := Int.ofNat_lt.mp h'
      refine ev_region [] rfl ⟨by decide, trivial⟩ (at0 (x % m + m) ⟨by omega, by omega, ?_⟩ ⟨le_e (congrArg (fun z => PV.val (.int .u64 z)) ?_), le_0, trivial⟩)
      · exact sub_lt' (by omega) h''
      · show IntKind.wrap .u64 (((x % m : Nat) : Int) + (m : Int)) = _
        rw [wrapAdd, Nat.mod_eq_of_lt (by omega)]
    · have h' := of_decide_eq_false h
      have h'' : ¬ x % m < y % m := fun h => h' (Int.ofNat_lt.mpr h)
      refine ev_skip (at0 (x % m) ⟨by omega, by omega, sub_ge (by omega) (by omega)⟩ ⟨le_0, le_0, trivial⟩)
  · rintro z ⟨h1, h2, h3⟩
    refine ev_rs [] rfl trivial (ev_n 6 (z - y % m) rfl (wrapSub _ _ h1 h2) ?_)
    exact ev_ret (ret1 (fz_p (PLe.of_eq (congrArg u64 h3))))

theorem Mul_nil (x y : Nat) : CallSpec Tryd.pr.P Tryd.pr.G 56 [nilP, u64 x, u64 y] (u64 0) := by
  refine callSpec_of Tryd.pr Tryd.func56 rfl rfl rfl fun w0 ok0 hok hG => ?_
  refine ev_rs [] rfl trivial ?_
  refine ev_seq (ev_rs [] rfl trivial (ev_ct rfl ?_))
  exact ev_rs [] rfl trivial (ev_ret (ret1 (fz_p (PLe.refl _))))

theorem Mul_spec (hm : MayM m) (x y : Nat) : CallSpec Tryd.pr.P Tryd.pr.G 56 [fld m b t, u64 x, u64 y] (u64 (x * y % m)) := by
  have hm0 : m ≠ 0 := by have := hm.1; omega
  have hm2 := hm.2
  have hx : x % m < m := Nat.mod_lt _ (by omega)
  have hy : y % m < m := Nat.mod_lt _ (by omega)
  refine callSpec_of Tryd.pr Tryd.func56 rfl rfl rfl fun w0 ok0 hok hG => ?_
  refine ev_rs [] rfl trivial ?_
  refine ev_seq (ev_rs [] rfl trivial (ev_cf rfl (ev_sk ?_)))
  refine ev_ds [.tup 2 (two (u64 (x % m * (y % m) / 18446744073709551616)) (u64 (x % m * (y % m) % 18446744073709551616)))] (by kernel_rfl) rfl rfl
    ⟨.inl (Mul64_spec _ _ (by omega) (by omega)), by simpa using hm0, by decide, by simpa using hm0, by decide, trivial⟩ ?_
  have hlo : x % m * (y % m) % 18446744073709551616 < 18446744073709551616 := Nat.mod_lt _ (by decide)
  refine ev_rs [u64 (x * y % m)] rfl ⟨.inl ?_, by decide, trivial⟩ ?_
  · have h := Rem64_spec (x % m * (y % m) / 18446744073709551616) (x % m * (y % m) % 18446744073709551616) m hm0 hlo (by omega)
    rw [Nat.mul_comm (_ / _), Nat.div_add_mod, ← Nat.mul_mod] at h
    exact h
  exact ev_ret (ret1 (fz_p (PLe.refl _)))

end
end Go.Proofs

/- The document's answers of chapter 3, and powers. -/
set_option linter.unusedVariables false
namespace Go.Proofs
open Go Vinc

theorem RefAdd_spec {m : Nat} (hm : MayM m) (x y : Nat) : CallSpec Tryd.pr.P Tryd.pr.G 34 [u64 x, u64 y, u64 m] (u64 ((x + y) % m)) := by
  have hm0 : m ≠ 0 := by have := hm.1; omega
  have hm2 := hm.2
  have hx : x % m < m := Nat.mod_lt _ (by omega)
  have hy : y % m < m := Nat.mod_lt _ (by omega)
  refine callSpec_of Tryd.pr Tryd.func34 rfl rfl rfl fun w0 ok0 hok hG => ?_
  refine ev_rs [] rfl trivial ?_
  refine ev_ds [] (by kernel_rfl) rfl rfl ⟨by simpa using hm0, by simpa using hm0, by simpa using hm0, trivial⟩ ?_
  refine ev_ret (ret1 (fz_p (PLe.of_eq (congrArg (fun z => PV.val (.int .u64 z)) ?_))))
  show Int.tmod (IntKind.wrap .u64 (((x % m : Nat) : Int) + ((y % m : Nat) : Int))) (m : Int) = _
  rw [wrapAdd, Nat.mod_eq_of_lt (by omega : x % m + y % m < _), tmodN, ← Nat.add_mod]

theorem RefSub_spec {m : Nat} (hm : MayM m) (x y : Nat) : CallSpec Tryd.pr.P Tryd.pr.G 18 [u64 x, u64 y, u64 m] (u64 (subM x y m)) := by
  have hm0 : m ≠ 0 := by have := hm.1; omega
  have hm2 := hm.2
  have hx : x % m < m := Nat.mod_lt _ (by omega)
  have hy : y % m < m := Nat.mod_lt _ (by omega)
  refine callSpec_of Tryd.pr Tryd.func18 rfl rfl rfl fun w0 ok0 hok hG => ?_
  refine ev_rs [] rfl trivial ?_
  refine ev_ds [] (by kernel_rfl) rfl rfl ⟨by simpa using hm0, by simpa using hm0, by simpa using hm0, trivial⟩ ?_
  refine ev_ret (ret1 (fz_p (PLe.of_eq (congrArg (fun z => PV.val (.int .u64 z)) ?_))))
  show Int.tmod (IntKind.wrap .u64 (IntKind.wrap .u64 (((x % m : Nat) : Int) + (m : Int)) - ((y % m : Nat) : Int))) (m : Int) = _
  rw [wrapAdd, Nat.mod_eq_of_lt (by omega : x % m + m < _), wrapSub _ _ (by omega) (by omega), tmodN]
  rfl

/-- One step of a product by doubling. -/
theorem mul_step (o x y m t : Nat) (h : (o + x * y) % m = t) : ((if y % 2 = 1 then (o + x) % m else o) + (x + x) % m * (y / 2)) % m = t := by
  have hy := Nat.div_add_mod y 2
  have h0 : ((x + x) % m * (y / 2)) % m = ((x + x) * (y / 2)) % m := Nat.mod_mul_mod _ _ _
  split
  · rename_i h1
    have e : o + x * y = (o + x) + (x + x) * (y / 2) := by
      rw [h1] at hy
      generalize y / 2 = k at hy ⊢
      rw [← hy]
      grind
    rw [← h, e, Nat.add_mod, h0, Nat.mod_mod, ← Nat.add_mod]
  · rename_i h1
    have e : o + x * y = o + (x + x) * (y / 2) := by
      have h2 : y % 2 = 0 := by omega
      rw [h2] at hy
      generalize y / 2 = k at hy ⊢
      rw [← hy]
      grind
    rw [← h, e, Nat.add_mod, h0, ← Nat.add_mod]

theorem RefMul_spec {m : Nat} (hm : MayM m) (x y : Nat) (hy : y < 18446744073709551616) : CallSpec Tryd.pr.P Tryd.pr.G 19 [u64 x, u64 y, u64 m] (u64 (x * y % m)) := by
  have hm0 : m ≠ 0 := by have := hm.1; omega
  have hm2 := hm.2
  have hmp : 0 < m := by omega
  refine callSpec_of Tryd.pr Tryd.func19 rfl rfl rfl fun w0 ok0 hok hG => ?_
  refine ev_rs [] rfl trivial ?_
  refine ev_rs [] rfl trivial ?_
  refine ev_rs [] rfl ⟨by simpa using hm0, trivial⟩ ?_
  refine ev_rs [] rfl ⟨by simpa using hm0, trivial⟩ ?_
  refine ev_at (α := Unit) (fun _ => True) (fun _ => [(7, .p (u64 (x * y % m)))]) (fun _ => []) ?_ ?_
  · refine ev_block (ev_while0 (α := Nat × Nat × Nat) (fun p => p.1 < m ∧ (p.1 + p.2.1 * p.2.2) % m = x * y % m ∧ p.2.2 < 18446744073709551616)
      (fun p => [(0, .p (u64 p.2.1)), (1, .p (u64 p.2.2)), (2, .p (u64 m)), (7, .p (u64 p.1))]) (fun p => p.2.2) (0, x % m, y % m)
      ⟨hmp, by rw [Nat.zero_add, ← Nat.mul_mod], Nat.lt_of_le_of_lt (Nat.mod_le _ _) hy⟩ ⟨le_0, le_0, le_0, le_0, trivial⟩ ?_)
    rintro ⟨o, a, k⟩ ⟨h1, h2, h3⟩
    dsimp only at h1 h2 h3
    refine ev_seq (ev_rs [] rfl trivial (ev_cond rfl (fun h => ev_sk ?_) (fun h => ev_exit ?_)))
    · have hk : 0 < k := Int.ofNat_lt.mp (of_decide_eq_true h)
      refine ev_block ?_
      refine ev_at (α := Unit) (fun _ => True) (fun _ => [(0, .p (u64 a)), (1, .p (u64 k)), (2, .p (u64 m)), (7, .p (u64 (if k % 2 = 1 then (o + a) % m else o)))]) (fun _ => []) ?_ ?_
      · refine ev_rs [] rfl ⟨by decide, trivial⟩ (ev_cond rfl (fun h => ?_) (fun h => ?_))
        · have hk1 : k % 2 = 1 := Int.ofNat_inj.mp (beq_iff_eq.mp h)
          refine ev_region [u64 ((o + a) % m)] rfl ⟨.inl (RefAdd_spec hm o a), trivial⟩ (at0 () trivial ⟨le_0, le_0, le_0, le_e (congrArg u64 ?_), trivial⟩)
          rw [if_pos hk1]
        · have hk1 : ¬ k % 2 = 1 := fun e => (beq_eq_false_iff_ne.mp h) (Int.ofNat_inj.mpr e)
          refine ev_skip (at0 () trivial ⟨le_0, le_0, le_0, le_e (congrArg u64 ?_), trivial⟩)
          rw [if_neg hk1]
      rintro ⟨⟩ -
      refine ev_rs [u64 ((a + a) % m)] rfl ⟨.inl (RefAdd_spec hm a a), trivial⟩ ?_
      refine ev_region [] rfl ⟨by decide, trivial⟩ (round0 (if k % 2 = 1 then (o + a) % m else o, (a + a) % m, k / 2) ⟨?_, mul_step _ _ _ _ _ h2, by dsimp only; omega⟩ (by dsimp only; omega)
        ⟨le_0, le_e (congrArg (fun z => PV.val (.int .u64 z)) (tdivN k 2 h3)), le_0, le_0, trivial⟩)
      dsimp only
      split
      · exact Nat.mod_lt _ hmp
      · exact h1
    · have hk : k = 0 := by
        have := of_decide_eq_false h
        dsimp only at this
        omega
      refine at0 () trivial ⟨le_e (congrArg u64 ?_), trivial⟩
      rw [hk, Nat.mul_zero, Nat.add_zero, Nat.mod_eq_of_lt h1] at h2
      exact h2
  rintro ⟨⟩ -
  refine ev_rs [] rfl trivial ?_
  exact ev_ret (ret1 (fz_p (PLe.refl _)))

/-- One step of a power by squaring. -/
theorem pow_step (o x n m t : Nat) (h : (o * x ^ n) % m = t) : ((if n % 2 = 1 then o * x % m else o) * (x * x % m) ^ (n / 2)) % m = t := by
  have hn := Nat.div_add_mod n 2
  have h0 : ∀ a, (a * (x * x % m) ^ (n / 2)) % m = (a * (x * x) ^ (n / 2)) % m := fun a => by
    rw [Nat.mul_mod, Nat.pow_mod (x * x % m), Nat.mod_mod, ← Nat.pow_mod, ← Nat.mul_mod]
  rw [h0]
  have e2 : (x * x) ^ (n / 2) = x ^ (2 * (n / 2)) := by rw [Nat.pow_mul, Nat.pow_two]
  rw [e2]
  split
  · rename_i h1
    rw [Nat.mod_mul_mod, Nat.mul_assoc, ← Nat.pow_succ', ← h]
    congr 3
    omega
  · rw [← h]
    congr 3
    omega

theorem RefPow_spec {m : Nat} (hm : MayM m) (x n : Nat) (hx : x < 18446744073709551616) (hn : n < 18446744073709551616) : CallSpec Tryd.pr.P Tryd.pr.G 36 [u64 x, u64 n, u64 m] (u64 (x ^ n % m)) := by
  have hm0 : m ≠ 0 := by have := hm.1; omega
  have hm2 := hm.2
  have hmp : 0 < m := by omega
  refine callSpec_of Tryd.pr Tryd.func36 rfl rfl rfl fun w0 ok0 hok hG => ?_
  refine ev_rs [] rfl trivial ?_
  refine ev_rs [] rfl ⟨by simpa using hm0, trivial⟩ (ev_n 7 (1 % m) rfl (tmodN 1 m) ?_)
  refine ev_at (α := Unit) (fun _ => True) (fun _ => [(7, .p (u64 (x ^ n % m)))]) (fun _ => []) ?_ ?_
  · refine ev_block (ev_while0 (α := Nat × Nat × Nat) (fun p => p.1 < m ∧ (p.1 * p.2.1 ^ p.2.2) % m = x ^ n % m ∧ p.2.2 < 18446744073709551616 ∧ p.2.1 < 18446744073709551616)
      (fun p => [(0, .p (u64 p.2.1)), (1, .p (u64 p.2.2)), (2, .p (u64 m)), (7, .p (u64 p.1))]) (fun p => p.2.2) (1 % m, x, n)
      ⟨Nat.mod_lt _ hmp, by dsimp only; rw [Nat.mod_mul_mod, Nat.one_mul], hn, hx⟩ ⟨le_0, le_0, le_0, le_0, trivial⟩ ?_)
    rintro ⟨o, a, k⟩ ⟨h1, h2, h3, h4⟩
    dsimp only at h1 h2 h3 h4
    refine ev_seq (ev_rs [] rfl trivial (ev_cond rfl (fun h => ev_sk ?_) (fun h => ev_exit ?_)))
    · have hk : 0 < k := Int.ofNat_lt.mp (of_decide_eq_true h)
      refine ev_block ?_
      refine ev_at (α := Unit) (fun _ => True) (fun _ => [(0, .p (u64 a)), (1, .p (u64 k)), (2, .p (u64 m)), (7, .p (u64 (if k % 2 = 1 then o * a % m else o)))]) (fun _ => []) ?_ ?_
      · refine ev_rs [] rfl ⟨by decide, trivial⟩ (ev_cond rfl (fun h => ?_) (fun h => ?_))
        · have hk1 : k % 2 = 1 := Int.ofNat_inj.mp (beq_iff_eq.mp h)
          refine ev_region [u64 (o * a % m)] rfl ⟨.inl (RefMul_spec hm o a h4), trivial⟩ (at0 () trivial ⟨le_0, le_0, le_0, le_e (congrArg u64 ?_), trivial⟩)
          rw [if_pos hk1]
        · have hk1 : ¬ k % 2 = 1 := fun e => (beq_eq_false_iff_ne.mp h) (Int.ofNat_inj.mpr e)
          refine ev_skip (at0 () trivial ⟨le_0, le_0, le_0, le_e (congrArg u64 ?_), trivial⟩)
          rw [if_neg hk1]
      rintro ⟨⟩ -
      refine ev_rs [u64 (a * a % m)] rfl ⟨.inl (RefMul_spec hm a a h4), trivial⟩ ?_
      refine ev_region [] rfl ⟨by decide, trivial⟩ (round0 (if k % 2 = 1 then o * a % m else o, a * a % m, k / 2) ⟨?_, pow_step _ _ _ _ _ h2, by dsimp only; omega, ?_⟩ (by dsimp only; omega)
        ⟨le_0, le_e (congrArg (fun z => PV.val (.int .u64 z)) (tdivN k 2 h3)), le_0, le_0, trivial⟩)
      · dsimp only
        split
        · exact Nat.mod_lt _ hmp
        · exact h1
      · have := Nat.mod_lt (a * a) hmp
        dsimp only; omega
    · have hk : k = 0 := by
        have := of_decide_eq_false h
        dsimp only at this
        omega
      refine at0 () trivial ⟨le_e (congrArg u64 ?_), trivial⟩
      rw [hk, Nat.pow_zero, Nat.mul_one, Nat.mod_eq_of_lt h1] at h2
      exact h2
  rintro ⟨⟩ -
  refine ev_rs [] rfl trivial ?_
  exact ev_ret (ret1 (fz_p (PLe.refl _)))

/-- What is wrong with a number that is to be inverted. -/
def wrong (x m : Nat) : Nat := if x % m = 0 then 10 else if Nat.gcd (x % m) m = 1 then 0 else 11

/-- May a word be a modulus? -/
def mayB (m : Nat) : Bool := decide (2 ≤ m) && decide (m < 9223372036854775808)

theorem mayB_iff (m : Nat) : mayB m = true ↔ MayM m := by
  unfold mayB MayM
  simp only [Bool.and_eq_true, decide_eq_true_eq]

end Go.Proofs

/- Powers and inverses modulo a word. -/
set_option linter.unusedVariables false
namespace Go.Proofs
open Go Vinc

section
variable {m b t : Nat}

theorem Pow_nil (x n : Nat) (hn : n < 18446744073709551616) : CallSpec Tryd.pr.P Tryd.pr.G 53 [nilP, u64 x, u64 n] (u64 0) := by
  refine callSpec_of Tryd.pr Tryd.func53 rfl rfl rfl fun w0 ok0 hok hG => ?_
  refine ev_rs [] rfl trivial (ev_scope ?_)
  refine ev_rs [u64 0] rfl ⟨.inl (Of_nil 1), trivial⟩ (ev_seq (ev_label ?_))
  refine ev_at (α := Unit) (fun _ => True) (fun _ => [(7, .p (u64 0))]) (fun _ => []) ?_ ?_
  · refine ev_block (ev_while0 (α := Nat × Nat) (fun p => p.2 < 18446744073709551616)
      (fun p => [(0, .p nilP), (1, .p (u64 p.1)), (2, .p (u64 p.2)), (7, .p (u64 0))]) (fun p => p.2) (x, n) hn ⟨le_0, le_0, le_0, le_0, trivial⟩ ?_)
    rintro ⟨a, k⟩ h3
    dsimp only at h3
    refine ev_block ?_
    refine ev_at (α := Unit) (fun _ => 0 < k) (fun _ => [(0, .p nilP), (1, .p (u64 a)), (2, .p (u64 k)), (7, .p (u64 0))]) (fun _ => []) ?_ ?_
    · refine ev_block (ev_rs [] rfl trivial (ev_cond rfl (fun h => ev_exit ?_) (fun h => ?_)))
      · exact at0 () trivial ⟨le_0, trivial⟩
      have hk : 0 < k := by
        have : ¬ k = 0 := fun e => (beq_eq_false_iff_ne.mp h) (Int.ofNat_inj.mpr e)
        omega
      refine ev_rs [] rfl trivial (ev_cond rfl (fun h => ?_) (fun h => ?_))
      · exact ev_region [u64 0] rfl ⟨.inl (Mul_nil 0 a), trivial⟩ (at0 () hk ⟨le_0, le_0, le_0, le_0, trivial⟩)
      · exact ev_skip (at0 () hk ⟨le_0, le_0, le_0, le_0, trivial⟩)
    rintro ⟨⟩ hk
    refine ev_rs [u64 0] rfl ⟨.inl (Mul_nil a a), trivial⟩ ?_
    exact ev_region [] rfl ⟨by decide, trivial⟩ (round0 (0, k / 2) (by dsimp only; omega) (by dsimp only; omega) ⟨le_0, le_0, le_e (congrArg (fun z => PV.val (.int .u64 z)) (shr1 k)), le_0, trivial⟩)
  rintro ⟨⟩ -
  refine ev_rs [] rfl trivial ?_
  exact ev_ret (ret1 (fz_p (PLe.refl _)))

theorem Pow_spec (hm : MayM m) (x n : Nat) (hn : n < 18446744073709551616) : CallSpec Tryd.pr.P Tryd.pr.G 53 [fld m b t, u64 x, u64 n] (u64 (x ^ n % m)) := by
  have hm0 : m ≠ 0 := by have := hm.1; omega
  have hmp : 0 < m := by omega
  refine callSpec_of Tryd.pr Tryd.func53 rfl rfl rfl fun w0 ok0 hok hG => ?_
  refine ev_rs [] rfl trivial (ev_scope ?_)
  refine ev_rs [u64 (1 % m)] rfl ⟨.inl (Of_spec hm 1), trivial⟩ (ev_seq (ev_label ?_))
  refine ev_at (α := Unit) (fun _ => True) (fun _ => [(7, .p (u64 (x ^ n % m)))]) (fun _ => []) ?_ ?_
  · refine ev_block (ev_while0 (α := Nat × Nat × Nat) (fun p => p.1 < m ∧ (p.1 * p.2.1 ^ p.2.2) % m = x ^ n % m ∧ p.2.2 < 18446744073709551616)
      (fun p => [(0, .p (fld m b t)), (1, .p (u64 p.2.1)), (2, .p (u64 p.2.2)), (7, .p (u64 p.1))]) (fun p => p.2.2) (1 % m, x, n)
      ⟨Nat.mod_lt _ hmp, by dsimp only; rw [Nat.mod_mul_mod, Nat.one_mul], hn⟩ ⟨le_0, le_0, le_0, le_0, trivial⟩ ?_)
    rintro ⟨o, a, k⟩ ⟨h1, h2, h3⟩
    dsimp only at h1 h2 h3
    refine ev_block ?_
    refine ev_at (α := Unit) (fun _ => 0 < k) (fun _ => [(0, .p (fld m b t)), (1, .p (u64 a)), (2, .p (u64 k)), (7, .p (u64 (if k % 2 = 1 then o * a % m else o)))]) (fun _ => []) ?_ ?_
    · refine ev_block (ev_rs [] rfl trivial (ev_cond rfl (fun h => ev_exit ?_) (fun h => ?_)))
      · have hk : k = 0 := Int.ofNat_inj.mp (beq_iff_eq.mp h)
        refine at0 () trivial ⟨le_e (congrArg u64 ?_), trivial⟩
        rw [hk, Nat.pow_zero, Nat.mul_one, Nat.mod_eq_of_lt h1] at h2
        exact h2
      have hk : 0 < k := by
        have : ¬ k = 0 := fun e => (beq_eq_false_iff_ne.mp h) (Int.ofNat_inj.mpr e)
        omega
      refine ev_rs [] rfl trivial (ev_cond rfl (fun h => ?_) (fun h => ?_))
      · have hk1 : k % 2 = 1 := by
          have := beq_iff_eq.mp h
          rw [and1 k h3] at this
          exact Int.ofNat_inj.mp this
        refine ev_region [u64 (o * a % m)] rfl ⟨.inl (Mul_spec hm o a), trivial⟩ (at0 () hk ⟨le_0, le_0, le_0, le_e (congrArg u64 ?_), trivial⟩)
        rw [if_pos hk1]
      · have hk1 : ¬ k % 2 = 1 := fun e => by
          have := beq_eq_false_iff_ne.mp h
          rw [and1 k h3] at this
          exact this (Int.ofNat_inj.mpr e)
        refine ev_skip (at0 () hk ⟨le_0, le_0, le_0, le_e (congrArg u64 ?_), trivial⟩)
        rw [if_neg hk1]
    rintro ⟨⟩ hk
    refine ev_rs [u64 (a * a % m)] rfl ⟨.inl (Mul_spec hm a a), trivial⟩ ?_
    refine ev_region [] rfl ⟨by decide, trivial⟩ (round0 (if k % 2 = 1 then o * a % m else o, a * a % m, k / 2) ⟨?_, pow_step _ _ _ _ _ h2, by dsimp only; omega⟩ (by dsimp only; omega)
      ⟨le_0, le_0, le_e (congrArg (fun z => PV.val (.int .u64 z)) (shr1 k)), le_0, trivial⟩)
    dsimp only
    split
    · exact Nat.mod_lt _ hmp
    · exact h1
  rintro ⟨⟩ -
  refine ev_rs [] rfl trivial ?_
  exact ev_ret (ret1 (fz_p (PLe.refl _)))

/-- What x times is 1, modulo m; 0 where there is none. -/
noncomputable def minv (m x : Nat) : Nat := open Classical in if h : ∃ y, y < m ∧ x * y % m = 1 then Classical.choose h else 0

theorem minv_unique {m x y z : Nat} (hy : y < m) (hz : z < m) (h1 : x * y % m = 1) (h2 : x * z % m = 1) : y = z := by
  have e1 : y * (x * z) % m = y := by rw [Nat.mul_mod, h2, Nat.mul_one, Nat.mod_mod, Nat.mod_eq_of_lt hy]
  have e2 : z * (x * y) % m = z := by rw [Nat.mul_mod, h1, Nat.mul_one, Nat.mod_mod, Nat.mod_eq_of_lt hz]
  have e3 : y * (x * z) = z * (x * y) := by grind
  exact e1.symm.trans ((congrArg (· % m) e3).trans e2)

theorem minv_eq {m x y : Nat} (hy : y < m) (h : x * y % m = 1) : minv m x = y := by
  have hex : ∃ y, y < m ∧ x * y % m = 1 := ⟨y, hy, h⟩
  unfold minv
  rw [dif_pos hex]
  have := Classical.choose_spec hex
  exact minv_unique this.1 hy this.2 h

theorem gcd_of_inv {m x y : Nat} (h : x * y % m = 1) : Nat.gcd x m = 1 := by
  have h1 : Nat.gcd x m ∣ x * y := Nat.dvd_mul_right_of_dvd (Nat.gcd_dvd_left x m) y
  have h2 : Nat.gcd x m ∣ m := Nat.gcd_dvd_right x m
  have h3 : Nat.gcd x m ∣ x * y % m := (Nat.dvd_mod_iff h2).mpr h1
  rw [h] at h3
  exact Nat.dvd_one.mp h3

theorem minv_none {m x : Nat} (h : Nat.gcd x m ≠ 1) : minv m x = 0 := by
  unfold minv
  rw [dif_neg]
  rintro ⟨y, _, hy⟩
  exact h (gcd_of_inv hy)

theorem gcd_mod (x m : Nat) : Nat.gcd (x % m) m = Nat.gcd x m := by
  rw [← Nat.gcd_rec, Nat.gcd_comm]

theorem wrong_eq (x m : Nat) : wrong x m = if x % m = 0 then 10 else if Nat.gcd x m = 1 then 0 else 11 := by
  unfold wrong
  simp only [gcd_mod]

theorem wrong_gcd {x m : Nat} (hm : MayM m) : wrong x m = 0 ↔ Nat.gcd x m = 1 := by
  rw [wrong_eq]
  split
  · rename_i h
    constructor
    · intro h'; omega
    · intro h'
      have : m ∣ x := Nat.dvd_of_mod_eq_zero h
      rw [Nat.gcd_eq_right this] at h'
      have := hm.1; omega
  · split <;> simp_all

theorem subM_dvd {m : Nat} (hm : 0 < m) (x y : Nat) : (m : Int) ∣ (subM x y m : Int) - (x - y) := by
  have hx := Nat.div_add_mod x m
  have hy := Nat.div_add_mod y m
  have hlt : y % m < m := Nat.mod_lt _ hm
  have hs := Nat.div_add_mod (x % m + m - y % m) m
  unfold subM
  refine ⟨- ((x % m + m - y % m) / m : Nat) + 1 - (x / m : Nat) + (y / m : Nat), ?_⟩
  generalize (x % m + m - y % m) % m = c at *
  have h1 : ((x % m + m - y % m : Nat) : Int) = (x % m : Nat) + (m : Int) - (y % m : Nat) := by omega
  generalize (x % m + m - y % m) / m = d at *
  generalize x % m + m - y % m = e at *
  generalize x % m = xr at *
  generalize y % m = yr at *
  generalize x / m = xq at *
  generalize y / m = yq at *
  subst hx hy hs
  push_cast at h1 ⊢
  grind

theorem modeq_of_dvd {m a b : Nat} (h : (m : Int) ∣ (a : Int) - b) : a % m = b % m := by
  have := Int.emod_emod_of_dvd
  have h' := Int.emod_eq_emod_iff_emod_sub_eq_zero.mpr (Int.emod_eq_zero_of_dvd h)
  exact_mod_cast h'

theorem inv_step {m x r s a b' q : Nat} (hm : 0 < m) (h1 : (m : Int) ∣ (a : Int) * x - r) (h2 : (m : Int) ∣ (b' : Int) * x - s) (hq : q * s ≤ r) :
    (m : Int) ∣ (subM a (q * b' % m) m : Int) * x - ((r - q * s : Nat) : Int) := by
  obtain ⟨k1, h1⟩ := h1
  obtain ⟨k2, h2⟩ := h2
  obtain ⟨k3, h3⟩ := subM_dvd hm a (q * b' % m)
  have h4 := Nat.div_add_mod (q * b') m
  refine ⟨k3 * x + k1 - q * k2 + x * (q * b' / m : Nat), ?_⟩
  generalize subM a (q * b' % m) m = c at *
  generalize q * b' % m = d at *
  generalize q * b' / m = e at *
  have h5 : ((r - q * s : Nat) : Int) = r - q * s := by
    rw [Int.natCast_sub hq]; push_cast; rfl
  have h6 : (m : Int) * e + d = q * b' := by exact_mod_cast h4
  rw [h5]
  grind

theorem Inv_nil (x : Nat) : CallSpec Tryd.pr.P Tryd.pr.G 44 [nilP, u64 x] (.tup 2 (two (u64 0) (i64 2))) := by
  refine callSpec_of Tryd.pr Tryd.func44 rfl rfl rfl fun w0 ok0 hok hG => ?_
  refine ev_rs [] rfl trivial ?_
  refine ev_seq (ev_rs [] rfl trivial (ev_ct rfl ?_))
  exact ev_rs [] rfl trivial (ev_ret (ret2 (fz_p (PLe.refl _)) (fz_p (PLe.refl _))))

theorem Inv_spec (hm : MayM m) (x : Nat) : CallSpec Tryd.pr.P Tryd.pr.G 44 [fld m b t, u64 x] (.tup 2 (two (u64 (minv m x)) (i64 (wrong x m)))) := by
  have hm0 : m ≠ 0 := by have := hm.1; omega
  have hmp : 0 < m := by omega
  have hm2 := hm.2
  have hlt : x % m < m := Nat.mod_lt _ hmp
  refine callSpec_of Tryd.pr Tryd.func44 rfl rfl rfl fun w0 ok0 hok hG => ?_
  refine ev_rs [] rfl trivial ?_
  refine ev_seq (ev_rs [] rfl trivial (ev_cf rfl (ev_sk ?_)))
  refine ev_rs [] rfl ⟨by simpa using hm0, by decide, trivial⟩ ?_
  refine ev_seq (ev_rs [] rfl trivial (ev_cond rfl (fun h => ?_) (fun h => ev_sk ?_)))
  · have h' : x % m = 0 := Int.ofNat_inj.mp (beq_iff_eq.mp h)
    refine ev_rs [] rfl trivial (ev_ret (ret2 (fz_p (PLe.of_eq (congrArg u64 ?_))) (fz_p (PLe.of_eq (congrArg i64 ?_)))))
    · symm
      apply minv_none
      rw [← gcd_mod, h', Nat.gcd_zero_left]
      have := hm.1; omega
    · unfold wrong; rw [if_pos h']; rfl
  have h0 : ¬ x % m = 0 := fun e => (beq_eq_false_iff_ne.mp h) (Int.ofNat_inj.mpr e)
  refine ev_rs [] rfl ⟨by decide, trivial⟩ ?_
  refine ev_rs [] rfl trivial ?_
  refine ev_at (α := Nat × Nat) (fun p => p.1 = Nat.gcd x m ∧ p.2 < m ∧ (m : Int) ∣ (p.2 : Int) * x - p.1) (fun p => [(6, .p (u64 p.1)), (8, .p (u64 p.2))]) (fun _ => []) ?_ ?_
  · refine ev_block (ev_while0 (α := Nat × Nat × Nat × Nat) (fun p => (p.1 ≤ m ∧ p.2.1 < m) ∧ Nat.gcd p.1 p.2.1 = Nat.gcd x m ∧ (p.2.2.1 < m ∧ p.2.2.2 < m) ∧ (m : Int) ∣ (p.2.2.1 : Int) * x - p.1 ∧ (m : Int) ∣ (p.2.2.2 : Int) * x - p.2.1)
      (fun p => [(0, .p (fld m b t)), (6, .p (u64 p.1)), (7, .p (u64 p.2.1)), (8, .p (u64 p.2.2.1)), (9, .p (u64 p.2.2.2))]) (fun p => p.2.1) (m, x % m, 0, 1)
      ⟨⟨Nat.le_refl _, hlt⟩, by dsimp only; rw [Nat.gcd_comm, gcd_mod], ⟨hmp, hm.1⟩, ⟨-1, by dsimp only; omega⟩, ⟨(x / m : Nat), ?_⟩⟩ ⟨le_0, le_0, le_0, le_0, le_0, trivial⟩ ?_)
    · have := Nat.div_add_mod x m
      dsimp only
      have h' : (m : Int) * (x / m : Nat) + (x % m : Nat) = x := by exact_mod_cast this
      omega
    rintro ⟨r, s, a, k⟩ ⟨⟨h1, h2⟩, h3, ⟨h4, h5⟩, h6, h7⟩
    dsimp only at h1 h2 h3 h4 h5 h6 h7
    refine ev_seq (ev_rs [] rfl trivial (ev_cond rfl (fun h => ev_sk ?_) (fun h => ev_exit ?_)))
    · have hk : 0 < s := Int.ofNat_lt.mp (of_decide_eq_true h)
      have hk0 : s ≠ 0 := by omega
      have hds : r / s * s ≤ r := Nat.div_mul_le_self r s
      have hdm : r - r / s * s = r % s := by
        have := Nat.div_add_mod r s
        rw [Nat.mul_comm] at this
        omega
      have hrs : r % s < s := Nat.mod_lt _ hk
      refine ev_block ?_
      refine ev_rs [] rfl ⟨by simpa using hk0, trivial⟩ (ev_n 10 (r / s) rfl (tdivN _ _ (by omega)) ?_)
      refine ev_rs [] rfl trivial (ev_n 7 (r % s) rfl ?_ ?_)
      · dsimp only
        rw [wrapMul, Nat.mod_eq_of_lt (by omega), wrapSub _ _ hds (by omega), hdm]
      refine ev_region [u64 (r / s * k % m), u64 (subM a (r / s * k % m) m)] rfl ⟨.inl (Sub_spec hm _ _), .inl (Mul_spec hm _ _), trivial⟩
        (round0 (s, r % s, k, subM a (r / s * k % m) m) ⟨⟨by dsimp only; omega, by dsimp only; omega⟩, ?_, ⟨h5, ?_⟩, h7, ?_⟩ hrs ⟨le_0, le_0, le_0, le_0, le_0, trivial⟩)
      · dsimp only
        rw [← h3, Nat.gcd_comm s, ← Nat.gcd_rec, Nat.gcd_comm]
      · exact Nat.mod_lt _ hmp
      · dsimp only
        rw [← hdm]
        exact inv_step hmp h6 h7 hds
    · have hk : s = 0 := by
        have := of_decide_eq_false h
        dsimp only at this
        omega
      refine at0 (r, a) ⟨?_, h4, h6⟩ ⟨le_0, le_0, trivial⟩
      rw [hk, Nat.gcd_zero_right] at h3
      exact h3
  rintro ⟨r, a⟩ ⟨h1, h2, h3⟩
  dsimp only at h1 h2 h3
  refine ev_seq (ev_rs [] rfl trivial (ev_cond rfl (fun h => ?_) (fun h => ev_sk ?_)))
  · have hr : ¬ r = 1 := fun e => (bne_iff_ne.mp h) (Int.ofNat_inj.mpr e)
    refine ev_rs [] rfl trivial (ev_ret (ret2 (fz_p (PLe.of_eq (congrArg u64 ?_))) (fz_p (PLe.of_eq (congrArg i64 ?_)))))
    · exact (minv_none (h1 ▸ hr)).symm
    · rw [wrong_eq, if_neg h0, if_neg (h1 ▸ hr)]; rfl
  · have hr : r = 1 := Int.ofNat_inj.mp (bne_eq_false_iff_eq.mp h)
    refine ev_rs [] rfl trivial (ev_ret (ret2 (fz_p (PLe.of_eq (congrArg u64 ?_))) (fz_p (PLe.of_eq (congrArg i64 ?_)))))
    · symm
      apply minv_eq h2
      have := modeq_of_dvd (a := a * x) (b := 1) (by rw [hr] at h3; exact_mod_cast h3)
      rw [Nat.mul_comm, this]
      exact Nat.mod_eq_of_lt hm.1
    · rw [wrong_eq, if_neg h0, if_pos (h1 ▸ hr)]; rfl

end
end Go.Proofs

/- Montgomery's forms; a new field. -/
set_option linter.unusedVariables false
namespace Go.Proofs
open Go Vinc

/-- What a field keeps: what m times is -1 modulo 2 to the 64th; the form of the form of 1. -/
noncomputable def bk (m : Nat) : Nat := if m % 2 = 1 then 18446744073709551616 - minv 18446744073709551616 m else 0
def tw (m : Nat) : Nat := if m % 2 = 1 then 18446744073709551616 * 18446744073709551616 % m else 0

/-- A field that New has made. -/
noncomputable abbrev newF (m : Nat) : PV := fld m (bk m) (tw m)

/-- A number divided by 2 to the 64th, modulo m. -/
noncomputable def redc (m z : Nat) : Nat := z * minv m 18446744073709551616 % m

theorem odd_gcd {m : Nat} (h : m % 2 = 1) : Nat.gcd 18446744073709551616 m = 1 := by
  have : (18446744073709551616 : Nat) = 2 ^ 64 := rfl
  rw [this]
  apply Nat.Coprime.pow_left
  show Nat.gcd 2 m = 1
  rw [Nat.gcd_rec, h]
  rfl

/-- The inverse is one, where there is one. -/
theorem minv_spec {m x : Nat} (hm : 2 ≤ m) (h : Nat.gcd x m = 1) : minv m x < m ∧ x * minv m x % m = 1 := by
  have hex : ∃ y, y < m ∧ x * y % m = 1 := by
    have hb : (m : Int) ∣ (x : Int) * (Int.bmod 0 1) - 0 := ⟨0, by simp⟩
    obtain ⟨u, hu⟩ : ∃ u : Nat, x * u % m = 1 % m := by
      have key : ∀ n r s a b : Nat, s = n → Nat.gcd r s = 1 → (m : Int) ∣ (a : Int) * x - r → (m : Int) ∣ (b : Int) * x - s → ∃ u : Nat, x * u % m = 1 % m := by
        intro n
        induction n using Nat.strongRecOn with
        | ind n ih =>
          intro r s a b hs hg h1 h2
          by_cases h0 : s = 0
          · rw [h0, Nat.gcd_zero_right] at hg
            refine ⟨a, ?_⟩
            rw [hg] at h1
            have := modeq_of_dvd (a := a * x) (b := 1) (by exact_mod_cast h1)
            rw [Nat.mul_comm]; exact this
          · have hlt : r % s < s := Nat.mod_lt _ (by omega)
            have hd : r - r / s * s = r % s := by
              have := Nat.div_add_mod r s
              rw [Nat.mul_comm] at this
              omega
            refine ih (r % s) (by omega) s (r % s) b (subM a (r / s * b % m) m) rfl ?_ h2 ?_
            · rw [← hg, Nat.gcd_comm s, ← Nat.gcd_rec, Nat.gcd_comm]
            · rw [← hd]; exact inv_step (by omega) h1 h2 (Nat.div_mul_le_self r s)
      exact key x m x 0 1 rfl (by rw [Nat.gcd_comm]; exact h) ⟨-1, by simp⟩ ⟨0, by simp⟩
    refine ⟨u % m, Nat.mod_lt _ (by omega), ?_⟩
    rw [Nat.mul_mod, Nat.mod_mod, ← Nat.mul_mod, hu]
    exact Nat.mod_eq_of_lt (by omega)
  unfold minv
  rw [dif_pos hex]
  exact Classical.choose_spec hex

theorem redc_eq {m z s : Nat} (hm : 2 ≤ m) (ho : m % 2 = 1) (h : s * 18446744073709551616 % m = z % m) : s % m = redc m z := by
  obtain ⟨h1, h2⟩ := minv_spec hm (odd_gcd ho)
  unfold redc
  rw [Nat.mul_mod, ← h, ← Nat.mul_mod, Nat.mul_assoc, Nat.mul_mod, h2, Nat.mul_one, Nat.mod_mod]

section
variable {m b t : Nat}

theorem carry_aux (low l : Nat) (hl : low < 18446744073709551616) (hl' : l < 18446744073709551616) (h : (low + l) % 18446744073709551616 = 0) : (low + l) / 18446744073709551616 * 18446744073709551616 = low + l ∧ (low + l) / 18446744073709551616 ≤ 1 := by omega

theorem sum_lt {high low um m : Nat} (hh : high < m) (hl : low < 18446744073709551616) (h : um ≤ 18446744073709551615 * m) : high * 18446744073709551616 + low + um < 2 * m * 18446744073709551616 := by omega

theorem swap4 (a d w l : Nat) : a + d + (w + l) = a + w + (d + l) := by omega

theorem sum_eq {high h k l low um : Nat} (h1 : k * 18446744073709551616 = low + l) (h2 : 18446744073709551616 * h + l = um) : (high + h + k) * 18446744073709551616 = high * 18446744073709551616 + low + um := by
  rw [Nat.add_mul, Nat.add_mul, h1, ← h2, Nat.mul_comm _ h]
  exact swap4 _ _ _ _

/-- The quotient that a reduction makes. -/
theorem reduce_eq {high low : Nat} (hm : MayM m) (hb : (m * b + 1) % 18446744073709551616 = 0) (hh : high < m) (hl : low < 18446744073709551616) :
    let u := low * b % 18446744073709551616
    let h := u * m / 18446744073709551616
    let l := u * m % 18446744073709551616
    let k := (low + l) / 18446744073709551616
    k ≤ 1 ∧ high + h + k < 2 * m ∧ (high + h + k) * 18446744073709551616 = high * 18446744073709551616 + low + u * m := by
  intro u h l k
  have hu : u < 18446744073709551616 := Nat.mod_lt _ (by decide)
  have hul := Nat.div_add_mod (u * m) 18446744073709551616
  have hll : l < 18446744073709551616 := Nat.mod_lt _ (by decide)
  have hz : (low + l) % 18446744073709551616 = 0 := by
    have e1 : (low + u * m) % 18446744073709551616 = 0 := by
      show (low + low * b % 18446744073709551616 * m) % 18446744073709551616 = 0
      rw [Nat.add_mod, Nat.mod_mul_mod, ← Nat.add_mod, show low + low * b * m = low * (m * b + 1) by grind, Nat.mul_mod, hb, Nat.mul_zero, Nat.zero_mod]
    show (low + u * m % 18446744073709551616) % 18446744073709551616 = 0
    rw [Nat.add_mod, Nat.mod_mod, ← Nat.add_mod, e1]
  obtain ⟨hk1, hk2⟩ := carry_aux low l hl hll hz
  have hum : u * m ≤ 18446744073709551615 * m := Nat.mul_le_mul_right _ (by omega)
  have hs : (high + h + k) * 18446744073709551616 = high * 18446744073709551616 + low + u * m := sum_eq hk1 hul
  refine ⟨hk2, ?_, hs⟩
  exact Nat.lt_of_mul_lt_mul_right (Nat.lt_of_le_of_lt (Nat.le_of_eq hs) (sum_lt hh hl hum))

end
end Go.Proofs

/- A new field; Montgomery's forms; the inverses of many. -/
set_option linter.unusedVariables false
namespace Go.Proofs
open Go Vinc

section
variable {m b t : Nat}

/-! ### a new field -/

theorem New_bad (h : ¬ MayM m) : CallSpec Tryd.pr.P Tryd.pr.G 41 [u64 m] (.tup 2 (two nilP (i64 1))) := by
  refine callSpec_of Tryd.pr Tryd.func41 rfl rfl rfl fun w0 ok0 hok hG => ?_
  refine ev_rs [] rfl trivial ?_
  refine ev_seq (ev_rs [] rfl ⟨⟨fun _ => rfl, gd_f⟩, by simp⟩ (ev_ct ?_ ?_))
  · refine congrArg (fun b => AV.p (.val (.bool b))) (a₁ := bif decide ((m : Int) < 2) then true else decide ((m : Int) ≥ 9223372036854775808)) (a₂ := true) ?_
    by_cases h1 : m < 2
    · rw [decide_eq_true (by omega : (m : Int) < 2)]; rfl
    · rw [decide_eq_false (by omega : ¬ (m : Int) < 2)]
      exact decide_eq_true (by have : ¬ m < 9223372036854775808 := fun e => h ⟨by omega, e⟩
                               omega)
  exact ev_rs [] rfl trivial (ev_ret (ret2 (fz_p (PLe.refl _)) (fz_p (PLe.refl _))))

/-- A step of an inverse modulo W. -/
theorem newton_step {W m i E F c g : Nat} (hW : 0 < W) (hEF : E * E = F * c) (hF : F * g = W) (h : (E : Int) ∣ (m : Int) * i - 1) :
    (F : Int) ∣ (m : Int) * ((i * ((2 + (W - m * i % W)) % W) % W : Nat) : Int) - 1 := by
  obtain ⟨k, hk⟩ := h
  have hlt : m * i % W < W := Nat.mod_lt _ hW
  have h1 := Nat.div_add_mod (m * i) W
  generalize m * i % W = r at h1 hlt ⊢
  generalize m * i / W = q1 at h1 ⊢
  have h2 := Nat.div_add_mod (2 + (W - r)) W
  have e2 : ((2 + (W - r) : Nat) : Int) = 2 + W - r := by omega
  generalize 2 + (W - r) = z at h2 e2 ⊢
  generalize z % W = A at h2 ⊢
  generalize z / W = q2 at h2 ⊢
  have h3 := Nat.div_add_mod (i * A) W
  generalize i * A % W = I at h3 ⊢
  generalize i * A / W = q3 at h3 ⊢
  have h1' : (r : Int) = m * i - W * q1 := by
    have : (W : Int) * q1 + r = m * i := by exact_mod_cast h1
    omega
  have h2' : (A : Int) = z - W * q2 := by
    have : (W : Int) * q2 + A = z := by exact_mod_cast h2
    omega
  have h3' : (I : Int) = i * A - W * q3 := by
    have : (W : Int) * q3 + I = i * A := by exact_mod_cast h3
    omega
  have hEF' : (E : Int) * E = F * c := by exact_mod_cast hEF
  have hF' : (W : Int) = F * g := by exact_mod_cast hF.symm
  have e4 : (m : Int) * I - 1 = -(E * k) * (E * k) + W * (m * i * (1 + q1 - q2) - m * q3) := by
    rw [h3', h2', e2, h1', ← hk]
    grind
  have e5 : (E * k) * (E * k) = F * (c * k * k) := by
    rw [show (E * k) * (E * k) = (E * E) * (k * k) by grind, hEF']
    grind
  refine ⟨- (c * k * k) + g * (m * i * (1 + q1 - q2) - m * q3), ?_⟩
  rw [e4, Int.neg_mul, e5, hF']
  grind

theorem odd_sq {m : Nat} (h : m % 2 = 1) : (8 : Int) ∣ (m : Int) * m - 1 := by
  obtain ⟨j, rfl⟩ : ∃ j, m = 2 * j + 1 := ⟨m / 2, by omega⟩
  have h2 : j % 2 = 0 ∨ j % 2 = 1 := by omega
  rcases h2 with h2 | h2
  · obtain ⟨k, rfl⟩ : ∃ k, j = 2 * k := ⟨j / 2, by omega⟩
    exact ⟨k * (2 * k + 1), by push_cast; grind⟩
  · obtain ⟨k, rfl⟩ : ∃ k, j = 2 * k + 1 := ⟨j / 2, by omega⟩
    exact ⟨(2 * k + 1) * (k + 1), by push_cast; grind⟩

/-- How many places are right behind k steps. -/
def exq : Nat → Nat
  | 0 => 3
  | 1 => 6
  | 2 => 12
  | 3 => 24
  | 4 => 48
  | _ => 64

theorem exq_step {k i : Nat} (hk : k < 5) (h : ((2 ^ exq k : Nat) : Int) ∣ (m : Int) * i - 1) :
    ((2 ^ exq (k + 1) : Nat) : Int) ∣ (m : Int) * ((i * ((2 + (18446744073709551616 - m * i % 18446744073709551616)) % 18446744073709551616) % 18446744073709551616 : Nat) : Int) - 1 := by
  match k, hk with
  | 0, _ => exact newton_step (c := 1) (g := 2 ^ 58) (by decide) (by decide) (by decide) h
  | 1, _ => exact newton_step (c := 1) (g := 2 ^ 52) (by decide) (by decide) (by decide) h
  | 2, _ => exact newton_step (c := 1) (g := 2 ^ 40) (by decide) (by decide) (by decide) h
  | 3, _ => exact newton_step (c := 1) (g := 2 ^ 16) (by decide) (by decide) (by decide) h
  | 4, _ => exact newton_step (c := 2 ^ 32) (g := 1) (by decide) (by decide) (by decide) h

theorem minv64 {i : Nat} (hi : i < 18446744073709551616) (h : ((18446744073709551616 : Nat) : Int) ∣ (m : Int) * i - 1) : minv 18446744073709551616 m = i := by
  apply minv_eq hi
  have := modeq_of_dvd (a := m * i) (b := 1) (by exact_mod_cast h)
  rw [this]

theorem back_ok {i : Nat} (hi : i < 18446744073709551616) (h : ((18446744073709551616 : Nat) : Int) ∣ (m : Int) * i - 1) : (m * (18446744073709551616 - i) + 1) % 18446744073709551616 = 0 := by
  obtain ⟨k, hk⟩ := h
  apply Nat.mod_eq_zero_of_dvd
  have : ((18446744073709551616 : Nat) : Int) ∣ ((m * (18446744073709551616 - i) + 1 : Nat) : Int) := by
    refine ⟨m - k, ?_⟩
    have e : ((m * (18446744073709551616 - i) + 1 : Nat) : Int) = m * (((18446744073709551616 : Nat) : Int) - i) + 1 := by
      rw [Int.natCast_add, Int.natCast_mul, Int.natCast_sub (by omega)]
      rfl
    rw [e]
    generalize ((18446744073709551616 : Nat) : Int) = W at hk ⊢
    grind
  exact Int.natCast_dvd_natCast.mp this

theorem New_spec (hm : MayM m) : CallSpec Tryd.pr.P Tryd.pr.G 41 [u64 m] (.tup 2 (two (newF m) (i64 0))) := by
  have hm2 := hm.2
  have hm1 := hm.1
  refine callSpec_of Tryd.pr Tryd.func41 rfl rfl rfl fun w0 ok0 hok hG => ?_
  refine ev_rs [] rfl trivial ?_
  refine ev_seq (ev_rs [] rfl ⟨⟨fun _ => rfl, gd_f⟩, by simp⟩ (ev_cf ?_ (ev_sk ?_)))
  · refine congrArg (fun b => AV.p (.val (.bool b))) (a₁ := bif decide ((m : Int) < 2) then true else decide ((m : Int) ≥ 9223372036854775808)) (a₂ := false) ?_
    rw [decide_eq_false (by omega : ¬ (m : Int) < 2)]
    exact decide_eq_false (by omega)
  refine ev_rs [] rfl trivial ?_
  refine ev_at (α := Unit) (fun _ => True) (fun _ => [(4, .oat 15 0)]) (fun _ => [(15, ob3 (u64 m) (u64 (bk m)) (u64 (tw m)))]) ?_ ?_
  · refine ev_rs [] rfl trivial (ev_cond rfl (fun h => ?_) (fun h => ?_))
    · have h' := beq_iff_eq.mp h
      rw [and1 m (by omega)] at h'
      have ho : m % 2 = 1 := Int.ofNat_inj.mp h'
      refine ev_rs [] rfl trivial ?_
      refine ev_at (α := Nat) (fun i => i < 18446744073709551616 ∧ ((18446744073709551616 : Nat) : Int) ∣ (m : Int) * i - 1) (fun i => [(0, .p (u64 m)), (4, .oat 15 0), (5, .p (u64 i))]) (fun _ => [(15, ob3 (u64 m) (u64 0) (u64 0))]) ?_ ?_
      · refine ev_rs [] rfl trivial ?_
        refine ev_block (ev_while (α := Nat × Nat) (fun p => p.1 ≤ 5 ∧ p.2 < 18446744073709551616 ∧ ((2 ^ exq p.1 : Nat) : Int) ∣ (m : Int) * p.2 - 1)
          (fun p => [(0, .p (u64 m)), (4, .oat 15 0), (5, .p (u64 p.2)), (20, .p (i64 p.1))]) (fun _ => [(15, ob3 (u64 m) (u64 0) (u64 0))]) (fun p => 5 - p.1) (0, m) ⟨Nat.zero_le _, by dsimp only; omega, odd_sq ho⟩
          (wk1 _ rfl (Nat.le_refl _) (fun hd => cells3 (le_refl hd _) (le_refl hd _) (le_refl hd _)) (fun hd => ⟨le_refl hd _, le_a rfl, le_refl hd _, le_refl hd _, trivial⟩)) ?_)
        rintro ⟨k, i⟩ ⟨h1, h2, h3⟩
        dsimp only at h1 h2 h3
        refine ev_rs [] rfl trivial (ev_seq (ev_cond rfl (fun h => ev_sk ?_) (fun h => ev_exit ?_)))
        · have hk : k < 5 := Int.ofNat_lt.mp (of_decide_eq_true h)
          refine ev_seq (ev_block (ev_region [] rfl trivial ?_))
          refine ev_region [] rfl trivial ⟨(k + 1, i * ((2 + (18446744073709551616 - m * i % 18446744073709551616)) % 18446744073709551616) % 18446744073709551616), ⟨by dsimp only; omega, Nat.mod_lt _ (by decide), exq_step hk h3⟩, by dsimp only; omega,
            wk1 _ rfl (Nat.le_refl _) (fun hd j hj => le_refl hd _) (fun hd => ⟨le_refl hd _, le_a rfl, le_n hd (congrArg (fun z => PV.val (.int .u64 z)) ?_), le_n hd (congrArg (fun z => PV.val (.int .i64 z)) ?_), trivial⟩)⟩
          · show IntKind.wrap .u64 ((i : Int) * IntKind.wrap .u64 (((2 : Nat) : Int) - IntKind.wrap .u64 ((m : Int) * (i : Int)))) = _
            rw [wrapMul, wrapSub' _ _ (Nat.le_of_lt (Nat.mod_lt _ (by decide))), wrapMul]
          · exact wrapI _ (by dsimp only; omega) (by dsimp only; omega)
        · have hk : k = 5 := by
            have := of_decide_eq_false h
            dsimp only at this
            omega
          subst hk
          exact at1 i ⟨h2, h3⟩ _ rfl (Nat.le_refl _) (fun hd j hj => le_refl hd _) (fun hd => ⟨le_refl hd _, le_a rfl, le_refl hd _, trivial⟩)
      rintro i ⟨hi, hd⟩
      have hmi := minv64 hi hd
      have hi0 : 0 < i := by
        rcases Nat.eq_zero_or_pos i with h0 | h0
        · subst h0
          obtain ⟨k, hk⟩ := hd
          omega
        · exact h0
      have hbk : bk m = 18446744073709551616 - i := by unfold bk; rw [if_pos ho, hmi]
      refine ev_rs [] rfl ⟨leb rfl, trivial⟩ ?_
      refine ev_rs [] rfl ⟨by omega, trivial⟩ (ev_n 6 (18446744073709551616 % m) rfl ?_ ?_)
      · have e : IntKind.wrap .u64 (0 - (m : Int)) = ((18446744073709551616 - m : Nat) : Int) := by rw [wrap64]; omega
        rw [e, tmodN]
        have e2 : 18446744073709551616 = (18446744073709551616 - m) + m := by omega
        exact toN (by conv => rhs; rw [e2, Nat.add_mod_right])
      refine ev_region [u64 (tw m)] rfl ⟨leb rfl, ⟨⟨trivial, trivial⟩, .inl ?_⟩, trivial⟩ ?_
      · have hs := Mul_spec (b := bk m) (t := 0) hm (18446744073709551616 % m) (18446744073709551616 % m)
        have ht : 18446744073709551616 % m * (18446744073709551616 % m) % m = tw m := by
          unfold tw; rw [if_pos ho, ← Nat.mul_mod]
        rw [ht] at hs
        refine callSpec_args (as' := [fld m (bk m) 0, u64 (18446744073709551616 % m), u64 (18446744073709551616 % m)]) ⟨PLe.ptr (fun j hj => ?_), PLe.refl _, PLe.refl _, trivial⟩ hs
        match j, hj with
        | 0, _ => exact PLe.refl _
        | 1, _ =>
          refine PLe.of_eq (congrArg (fun z => PV.val (.int .u64 z)) (a₁ := IntKind.wrap .u64 (0 - (i : Int))) ?_)
          rw [wrap64, hbk]; omega
        | 2, _ => exact PLe.refl _
      · refine at1 () trivial _ rfl (Nat.le_refl _) (fun hd => cells3 (le_refl hd _) (le_n hd (congrArg (fun z => PV.val (.int .u64 z)) (a₁ := IntKind.wrap .u64 (0 - (i : Int))) ?_)) (le_refl hd _)) (fun hd => ⟨le_a rfl, trivial⟩)
        rw [wrap64, hbk]; omega
    · have h' := beq_eq_false_iff_ne.mp h
      rw [and1 m (by omega)] at h'
      have ho : ¬ m % 2 = 1 := fun e => h' (Int.ofNat_inj.mpr e)
      have hb : bk m = 0 := if_neg ho
      have ht : tw m = 0 := if_neg ho
      exact ev_skip (at1 () trivial _ rfl (Nat.le_refl _) (fun hd => cells3 (le_refl hd _) (le_n hd (by rw [hb]; rfl)) (le_n hd (by rw [ht]; rfl))) (fun hd => ⟨le_a rfl, trivial⟩))
  · rintro ⟨⟩ -
    refine ev_rs [] rfl trivial ?_
    refine ev_ret (ret2 (fz_oat rfl (Nat.le_refl _) (fun j hj => fz_p (PLe.refl _))) (fz_p (PLe.refl _)))

end
end Go.Proofs

/- The test of primes. -/
set_option linter.unusedVariables false
namespace Go.Proofs
open Go Vinc Vinc.Num

theorem and_neg64 (k j : Nat) (h : 2 ^ k * (2 * j + 1) < 18446744073709551616) :
    bitI .and .u64 ((2 ^ k * (2 * j + 1) : Nat) : Int) (((18446744073709551616 - 2 ^ k * (2 * j + 1) : Nat)) : Int) = ((2 ^ k : Nat) : Int) := by
  have h1 := and_neg k j 64 h
  have hp := Nat.two_pow_pos k
  have hle : 2 ^ k * 1 ≤ 2 ^ k * (2 * j + 1) := Nat.mul_le_mul_left _ (by omega)
  generalize 2 ^ k * (2 * j + 1) = x at h h1 hle ⊢
  show IntKind.wrap .u64 (((BitVec.ofInt 64 (x : Int) &&& BitVec.ofInt 64 ((18446744073709551616 - x : Nat) : Int)).toNat : Nat) : Int) = _
  rw [BitVec.toNat_and, BitVec.ofInt_natCast, BitVec.ofInt_natCast, BitVec.toNat_ofNat, BitVec.toNat_ofNat, Nat.mod_eq_of_lt (by omega : x < 2 ^ 64), Nat.mod_eq_of_lt (by omega : 18446744073709551616 - x < 2 ^ 64)]
  have h2 : x &&& (18446744073709551616 - x) = 2 ^ k := h1
  rw [h2, wrapN, Nat.mod_eq_of_lt (by omega)]

theorem TrailingZeros64_spec (k j : Nat) (hx : 2 ^ k * (2 * j + 1) < 18446744073709551616) : CallSpec Tryd.pr.P Tryd.pr.G 85 [u64 (2 ^ k * (2 * j + 1))] (i64 k) := by
  have hp := Nat.two_pow_pos k
  have hle : 2 ^ k * 1 ≤ 2 ^ k * (2 * j + 1) := Nat.mul_le_mul_left _ (by omega)
  have han := and_neg64 k j hx
  have hk : k < 64 := by
    by_cases h : k < 64
    · exact h
    · have h2 : 2 ^ 64 ≤ 2 ^ k := Nat.pow_le_pow_right (by omega) (by omega)
      omega
  obtain ⟨ht, hi⟩ := tab64_at k hk
  obtain ⟨x, ex⟩ : ∃ x, 2 ^ k * (2 * j + 1) = x := ⟨_, rfl⟩
  rw [ex] at hx hle han ⊢
  obtain ⟨q, eq⟩ : ∃ q, 2 ^ k * 285870213051353865 % 18446744073709551616 / 2 ^ 58 = q := ⟨_, rfl⟩
  rw [eq] at ht hi
  have hidx : (IntKind.wrap .u64 (bitI .and .u64 (x : Int) (IntKind.wrap .u64 (0 - (x : Int))) * 285870213051353865)).fdiv (2 ^ (min (Int.toNat 58) (IntKind.bits .u64))) = (q : Int) := by
    have e1 : IntKind.wrap .u64 (0 - (x : Int)) = ((18446744073709551616 - x : Nat) : Int) := by rw [wrap64]; omega
    have e2 : (285870213051353865 : Int) = ((285870213051353865 : Nat) : Int) := rfl
    rw [e1, han, e2, wrapMul]
    exact (shrN _ 58 (by decide)).trans (by rw [eq])
  refine callSpec_of Tryd.pr Tryd.func85 rfl rfl rfl fun w0 ok0 hok hG => ?_
  refine ev_rs [] rfl trivial ?_
  refine ev_seq (ev_rs [] rfl trivial (ev_cond rfl (fun h => absurd h (by simp; omega)) (fun _ => ev_sk ?_)))
  refine ev_rs [] rfl ?_ ?_
  · exact ⟨by rw [hidx]; exact hi, by rw [hidx]; omega, by decide, trivial⟩
  refine ev_ret (ret1 (fz_p (PLe.of_eq (congrArg (fun z => PV.val (.int .i64 z)) ?_))))
  rw [hidx]
  show IntKind.wrap .i64 ((tab64.getD q 0 : Nat) : Int) = _
  rw [ht]
  exact wrapI _ (by omega) (by omega)

theorem primeMul_spec (x y n : Nat) (hx : x < 18446744073709551616) (hy : y < 18446744073709551616) (hn : n ≠ 0) (hn' : n < 18446744073709551616) :
    CallSpec Tryd.pr.P Tryd.pr.G 86 [u64 x, u64 y, u64 n] (u64 (x * y % n)) := by
  refine callSpec_of Tryd.pr Tryd.func86 rfl rfl rfl fun w0 ok0 hok hG => ?_
  refine ev_rs [] rfl trivial ?_
  refine ev_rs [.tup 2 (two (u64 (x * y / 18446744073709551616)) (u64 (x * y % 18446744073709551616)))] rfl ⟨.inl (Mul64_spec x y hx hy), trivial⟩ ?_
  refine ev_rs [u64 (x * y % n)] rfl ⟨.inl ?_, trivial⟩ ?_
  · have h := Rem64_spec (x * y / 18446744073709551616) (x * y % 18446744073709551616) n hn (Nat.mod_lt _ (by decide)) hn'
    rw [Nat.mul_comm (_ / _), Nat.div_add_mod] at h
    exact h
  exact ev_ret (ret1 (fz_p (PLe.refl _)))

/-- The bases, as the test has them. -/
abbrev basesV : PV := .agg 12 (fun j => u64 (bases.getD j 0))

theorem bases_spec : CallSpec Tryd.pr.P Tryd.pr.G 73 [] basesV := by
  refine callSpec_of Tryd.pr Tryd.func73 rfl rfl rfl fun w0 ok0 hok hG => ?_
  refine ev_rs [] rfl trivial ?_
  refine ev_rs [] rfl ⟨leb rfl, trivial⟩ ?_
  refine ev_ret (ret_cell' (n := 12) (id := 0) rfl rfl rfl rfl rfl (leb rfl) (fun j hj => ?_))
  match j, hj with
  | 0, _ | 1, _ | 2, _ | 3, _ | 4, _ | 5, _ | 6, _ | 7, _ | 8, _ | 9, _ | 10, _ | 11, _ => exact fz_p (PLe.refl _)

theorem strong_spec (n b : Nat) (hn : 2 ≤ n) (hn64 : n < 18446744073709551616) (hb : b < 18446744073709551616) : CallSpec Tryd.pr.P Tryd.pr.G 74 [u64 n, u64 b] (bool (strongB n b)) := by
  have hn0 : n ≠ 0 := by omega
  have hnp : 0 < n := by omega
  obtain ⟨k, j, e⟩ := exists_tz (n - 1) (by omega)
  have hp := Nat.two_pow_pos k
  have hle : 2 ^ k * 1 ≤ 2 ^ k * (2 * j + 1) := Nat.mul_le_mul_left _ (by omega)
  have hk : k < 64 := by
    by_cases h : k < 64
    · exact h
    · have h2 : 2 ^ 64 ≤ 2 ^ k := Nat.pow_le_pow_right (by omega) (by omega)
      omega
  have ht : tz (n - 1) = k := by unfold tz; rw [e]; exact tzF_eq 64 k j hk
  have hd : (n - 1) / 2 ^ k = 2 * j + 1 := by rw [e]; exact Nat.mul_div_cancel_left _ hp
  have hT := TrailingZeros64_spec k j (by omega)
  have hd64 : 2 * j + 1 < 18446744073709551616 := by rw [← hd]; exact Nat.lt_of_le_of_lt (Nat.div_le_self _ _) (by omega)
  have hS : strongB n b = bif Nat.beq (b ^ (2 * j + 1) % n) 1 then true else sqs n (b ^ (2 * j + 1) % n) k := by
    unfold strongB
    rw [ht, hd, pw64_eq hn hd64]
  have hw1 : IntKind.wrap .u64 ((n : Int) - 1) = ((n - 1 : Nat) : Int) := wrapSub n 1 (by omega) (by omega)
  have hwk : IntKind.wrap .u64 (k : Int) = (k : Int) := by rw [wrapN, Nat.mod_eq_of_lt (by omega)]
  rw [← e] at hT
  rw [hS]
  refine callSpec_of Tryd.pr Tryd.func74 rfl rfl rfl fun w0 ok0 hok hG => ?_
  refine ev_rs [] rfl trivial ?_
  refine ev_rs [i64 k] rfl ⟨.inl (by rw [hw1]; exact hT), trivial⟩ ?_
  refine ev_ds [] (by kernel_rfl) rfl rfl ⟨by simpa using hn0, trivial⟩ ?_
  refine ev_at (α := Unit) (fun _ => True) (fun _ => [(0, .p (u64 n)), (5, .p (i64 k)), (6, .p (u64 (b ^ (2 * j + 1) % n)))]) (fun _ => []) ?_ ?_
  · refine ev_rs [] rfl ⟨by rw [hwk]; omega, trivial⟩ (ev_n 8 (2 * j + 1) rfl (by rw [hw1, hwk]; exact (shrN _ k (by omega)).trans (by rw [hd])) ?_)
    refine ev_block (ev_while0 (α := Nat × Nat × Nat) (fun p => p.1 < n ∧ p.2.1 < n ∧ p.1 * p.2.1 ^ p.2.2 % n = b ^ (2 * j + 1) % n ∧ p.2.2 < 18446744073709551616)
      (fun p => [(0, .p (u64 n)), (5, .p (i64 k)), (6, .p (u64 p.1)), (7, .p (u64 p.2.1)), (8, .p (u64 p.2.2))]) (fun p => p.2.2) (1, b % n, 2 * j + 1)
      ⟨hn, Nat.mod_lt _ hnp, by dsimp only; rw [Nat.one_mul, ← Nat.pow_mod], hd64⟩ ⟨le_0, le_0, le_0, le_0, le_0, trivial⟩ ?_)
    rintro ⟨o, a, x⟩ ⟨h1, h2, h3, h4⟩
    dsimp only at h1 h2 h3 h4
    refine ev_seq (ev_rs [] rfl trivial (ev_cond rfl (fun h => ev_sk ?_) (fun h => ev_exit ?_)))
    · have hx : 0 < x := Int.ofNat_lt.mp (of_decide_eq_true h)
      refine ev_seq (ev_block ?_)
      refine ev_at (α := Unit) (fun _ => True) (fun _ => [(0, .p (u64 n)), (5, .p (i64 k)), (6, .p (u64 (if x % 2 = 1 then o * a % n else o))), (7, .p (u64 a)), (8, .p (u64 x))]) (fun _ => []) ?_ ?_
      · refine ev_rs [] rfl trivial (ev_cond rfl (fun h => ?_) (fun h => ?_))
        · have hx1 : x % 2 = 1 := by
            have := beq_iff_eq.mp h
            rw [and1 x h4] at this
            exact Int.ofNat_inj.mp this
          refine ev_region [u64 (o * a % n)] rfl ⟨.inl (primeMul_spec o a n (by omega) (by omega) hn0 hn64), trivial⟩ (at0 () trivial ⟨le_0, le_0, le_e (congrArg u64 ?_), le_0, le_0, trivial⟩)
          rw [if_pos hx1]
        · have hx1 : ¬ x % 2 = 1 := fun e => by
            have := beq_eq_false_iff_ne.mp h
            rw [and1 x h4] at this
            exact this (Int.ofNat_inj.mpr e)
          refine ev_skip (at0 () trivial ⟨le_0, le_0, le_e (congrArg u64 ?_), le_0, le_0, trivial⟩)
          rw [if_neg hx1]
      rintro ⟨⟩ -
      refine ev_region [u64 (a * a % n)] rfl ⟨.inl (primeMul_spec a a n (by omega) (by omega) hn0 hn64), trivial⟩ ?_
      refine ev_region [] rfl ⟨by decide, trivial⟩ (round0 (if x % 2 = 1 then o * a % n else o, a * a % n, x / 2) ⟨?_, Nat.mod_lt _ hnp, (pw_step o a x n).trans h3, by dsimp only; omega⟩ (by dsimp only; omega)
        ⟨le_0, le_0, le_0, le_0, le_e (congrArg (fun z => PV.val (.int .u64 z)) (shr1 x)), trivial⟩)
      dsimp only
      split
      · exact Nat.mod_lt _ hnp
      · exact h1
    · have hx : x = 0 := by
        have := of_decide_eq_false h
        dsimp only at this
        omega
      refine at0 () trivial ⟨le_0, le_0, le_e (congrArg u64 ?_), trivial⟩
      rw [hx, Nat.pow_zero, Nat.mul_one, Nat.mod_eq_of_lt h1] at h3
      exact h3
  rintro ⟨⟩ -
  have hx0 : b ^ (2 * j + 1) % n < n := Nat.mod_lt _ hnp
  generalize b ^ (2 * j + 1) % n = x0 at hx0
  refine ev_seq (ev_rs [] rfl trivial (ev_cond rfl (fun h => ?_) (fun h => ev_sk ?_)))
  · have h1 : x0 = 1 := Int.ofNat_inj.mp (beq_iff_eq.mp h)
    refine ev_rs [] rfl trivial (ev_ret (ret1 (fz_p (PLe.of_eq (congrArg Vinc.bool ?_)))))
    rw [h1]; rfl
  have h1 : ¬ x0 = 1 := fun e => (beq_eq_false_iff_ne.mp h) (Int.ofNat_inj.mpr e)
  have h2 : Nat.beq x0 1 = false := by
    cases hb : Nat.beq x0 1
    · rfl
    · exact absurd (Nat.eq_of_beq_eq_true hb) h1
  rw [h2]
  refine ev_at (α := Unit) (fun _ => sqs n x0 k = false) (fun _ => []) (fun _ => []) ?_ ?_
  · refine ev_rs [] rfl trivial ?_
    refine ev_block (ev_while0 (α := Nat × Nat) (fun p => p.1 ≤ k ∧ p.2 < n ∧ sqs n x0 k = sqs n p.2 (k - p.1)) (fun p => [(0, .p (u64 n)), (6, .p (u64 p.2)), (37, .p (i64 k)), (38, .p (i64 p.1))]) (fun p => k - p.1) (0, x0)
      ⟨Nat.zero_le _, hx0, rfl⟩ ⟨le_0, le_0, le_0, le_0, trivial⟩ ?_)
    rintro ⟨i, x⟩ ⟨h3, h4, h5⟩
    dsimp only at h3 h4 h5
    refine ev_rs [] rfl trivial (ev_seq (ev_cond rfl (fun h => ev_sk ?_) (fun h => ev_exit ?_)))
    · have hi : i < k := Int.ofNat_lt.mp (of_decide_eq_true h)
      obtain ⟨t, et⟩ : ∃ t, k - i = t + 1 := ⟨k - i - 1, by omega⟩
      rw [et, show sqs n x (t + 1) = bif Nat.beq x (n - 1) then true else sqs n (x * x % n) t from rfl] at h5
      refine ev_seq (ev_block ?_)
      refine ev_seq (ev_rs [] rfl trivial (ev_cond rfl (fun h => ?_) (fun h => ev_sk ?_)))
      · have h' := beq_iff_eq.mp h
        rw [hw1] at h'
        have hx : x = n - 1 := Int.ofNat_inj.mp h'
        refine ev_rs [] rfl trivial (ev_ret (ret1 (fz_p (PLe.of_eq (congrArg Vinc.bool ?_)))))
        rw [hx, Nat.beq_refl] at h5
        exact h5.symm
      · have h' := beq_eq_false_iff_ne.mp h
        rw [hw1] at h'
        have hx : Nat.beq x (n - 1) = false := by
          cases hb : Nat.beq x (n - 1)
          · rfl
          · exact absurd (Int.ofNat_inj.mpr (Nat.eq_of_beq_eq_true hb)) h'
        rw [hx] at h5
        refine ev_region [u64 (x * x % n)] rfl ⟨.inl (primeMul_spec x x n (by omega) (by omega) hn0 hn64), trivial⟩ ?_
        refine ev_region [] rfl trivial (round0 (i + 1, x * x % n) ⟨hi, Nat.mod_lt _ hnp, ?_⟩ (by dsimp only; omega) ⟨le_0, le_0, le_0, le_e (congrArg (fun z => PV.val (.int .i64 z)) (wrapI _ (by dsimp only; omega) (by dsimp only; omega))), trivial⟩)
        dsimp only
        rw [show k - (i + 1) = t by omega]
        exact h5
    · have hi : k - i = 0 := by
        have := of_decide_eq_false h
        dsimp only at this
        omega
      rw [hi] at h5
      exact at0 () h5 trivial
  rintro ⟨⟩ h3
  refine ev_rs [] rfl trivial (ev_ret (ret1 (fz_p (PLe.of_eq (congrArg Vinc.bool ?_)))))
  rw [h3]; rfl

theorem bases_drop : ∀ i, i < 12 → bases.drop i = bases.getD i 0 :: bases.drop (i + 1) := by decide

theorem bases_lt : ∀ i, i < 12 → 2 ≤ bases.getD i 0 ∧ bases.getD i 0 < 38 := by decide

theorem beq_cast (a b : Nat) : ((a : Int) == (b : Int)) = Nat.beq a b := by
  cases h : Nat.beq a b
  · exact beq_eq_false_iff_ne.mpr fun e => Nat.ne_of_beq_eq_false h (Int.ofNat_inj.mp e)
  · exact beq_iff_eq.mpr (Int.ofNat_inj.mpr (Nat.eq_of_beq_eq_true h))

theorem Is_spec (n : Nat) (hn64 : n < 18446744073709551616) : CallSpec Tryd.pr.P Tryd.pr.G 57 [u64 n] (bool (isB n)) := by
  refine callSpec_of Tryd.pr Tryd.func57 rfl rfl rfl fun w0 ok0 hok hG => ?_
  refine ev_rs [] rfl trivial ?_
  refine ev_seq (ev_rs [] rfl trivial (ev_cond rfl (fun h => ?_) (fun h => ev_sk ?_)))
  · have hn : n < 2 := Int.ofNat_lt.mp (of_decide_eq_true h)
    have hb : isB n = false := by
      unfold isB
      rw [Nat.blt_eq.mpr hn]; rfl
    rw [hb]
    exact ev_rs [] rfl trivial (ev_ret (ret1 (fz_p (PLe.refl _))))
  have hn : 2 ≤ n := by
    have := of_decide_eq_false h
    omega
  have hlt : Nat.blt n 2 = false := by
    cases hb : Nat.blt n 2
    · rfl
    · have := Nat.blt_eq.mp hb
      omega
  have hI : isB n = match divB n bases with
    | some r => r
    | none => strongs n bases := by
    unfold isB
    rw [hlt]; rfl
  rw [hI]
  refine ev_at (α := Unit) (fun _ => divB n bases = none) (fun _ => [(0, .p (u64 n))]) (fun _ => []) ?_ ?_
  · refine ev_rs [basesV] rfl ⟨.inl bases_spec, trivial⟩ ?_
    refine ev_block (ev_while0 (α := Nat) (fun i => i ≤ 12 ∧ divB n bases = divB n (bases.drop i)) (fun i => [(0, .p (u64 n)), (9, .p basesV), (10, .p (i64 i))]) (fun i => 12 - i) 0
      ⟨by decide, rfl⟩ ⟨le_0, le_0, le_0, trivial⟩ ?_)
    rintro i ⟨h1, h2⟩
    refine ev_rs [] rfl trivial (ev_seq (ev_cond rfl (fun h => ev_sk ?_) (fun h => ev_exit ?_)))
    · have hi : i < 12 := Int.ofNat_lt.mp (of_decide_eq_true h)
      obtain ⟨hb1, hb2⟩ := bases_lt i hi
      have hb0 : (bases.getD i 0 : Int) ≠ 0 := by omega
      rw [bases_drop i hi, show divB n (bases.getD i 0 :: bases.drop (i + 1)) = bif Nat.beq (n % bases.getD i 0) 0 then some (Nat.beq n (bases.getD i 0)) else divB n (bases.drop (i + 1)) from rfl] at h2
      refine ev_seq (ev_block ?_)
      refine ev_rs [] rfl ⟨⟨⟨by omega, by omega⟩, hi⟩, trivial⟩ ?_
      refine ev_rs [] rfl ⟨hb0, trivial⟩ (ev_cond rfl (fun h => ?_) (fun h => ev_skip ?_))
      · have hd : n % bases.getD i 0 = 0 := Int.ofNat_inj.mp (beq_iff_eq.mp h)
        rw [hd] at h2
        rw [h2]
        refine ev_rs [] rfl trivial (ev_ret (ret1 (fz_p (PLe.of_eq (congrArg Vinc.bool ?_)))))
        exact beq_cast n _
      · have hd : Nat.beq (n % bases.getD i 0) 0 = false := by
          cases hb : Nat.beq (n % bases.getD i 0) 0
          · rfl
          · exact absurd (Int.ofNat_inj.mpr (Nat.eq_of_beq_eq_true hb)) (beq_eq_false_iff_ne.mp h)
        rw [hd] at h2
        exact ev_region [] rfl trivial (round0 (i + 1) ⟨hi, h2⟩ (by omega) ⟨le_0, le_0, le_e (congrArg (fun z => PV.val (.int .i64 z)) (wrapI _ (by omega) (by omega))), trivial⟩)
    · have hi : i = 12 := by
        have := of_decide_eq_false h
        omega
      subst hi
      exact at0 () h2 ⟨le_0, trivial⟩
  rintro ⟨⟩ hdn
  rw [hdn]
  refine ev_at (α := Unit) (fun _ => strongs n bases = true) (fun _ => []) (fun _ => []) ?_ ?_
  · refine ev_rs [basesV] rfl ⟨.inl bases_spec, trivial⟩ ?_
    refine ev_block (ev_while0 (α := Nat) (fun i => i ≤ 12 ∧ strongs n bases = strongs n (bases.drop i)) (fun i => [(0, .p (u64 n)), (21, .p basesV), (22, .p (i64 i))]) (fun i => 12 - i) 0
      ⟨by decide, rfl⟩ ⟨le_0, le_0, le_0, trivial⟩ ?_)
    rintro i ⟨h1, h2⟩
    refine ev_rs [] rfl trivial (ev_seq (ev_cond rfl (fun h => ev_sk ?_) (fun h => ev_exit ?_)))
    · have hi : i < 12 := Int.ofNat_lt.mp (of_decide_eq_true h)
      obtain ⟨hb1, hb2⟩ := bases_lt i hi
      rw [bases_drop i hi, show strongs n (bases.getD i 0 :: bases.drop (i + 1)) = bif strongB n (bases.getD i 0) then strongs n (bases.drop (i + 1)) else false from rfl] at h2
      refine ev_seq (ev_block ?_)
      refine ev_rs [] rfl ⟨⟨⟨by omega, by omega⟩, hi⟩, trivial⟩ ?_
      refine ev_rs [bool (strongB n (bases.getD i 0))] rfl ⟨.inl (strong_spec n _ hn hn64 (Nat.lt_trans hb2 (by decide))), trivial⟩ (ev_cond rfl (fun h => ?_) (fun h => ev_skip ?_))
      · rw [Bool.not_eq_true'] at h
        rw [h] at h2
        rw [h2]
        exact ev_rs [] rfl trivial (ev_ret (ret1 (fz_p (PLe.refl _))))
      · have h' : strongB n (bases.getD i 0) = true := by simpa using h
        rw [h'] at h2
        exact ev_region [] rfl trivial (round0 (i + 1) ⟨hi, h2⟩ (by omega) ⟨le_0, le_0, le_e (congrArg (fun z => PV.val (.int .i64 z)) (wrapI _ (by omega) (by omega))), trivial⟩)
    · have hi : i = 12 := by
        have := of_decide_eq_false h
        omega
      subst hi
      exact at0 () h2 trivial
  rintro ⟨⟩ hs
  rw [hs]
  exact ev_rs [] rfl trivial (ev_ret (ret1 (fz_p (PLe.refl _))))

/-- The primes that are asked. -/
def Asked (p : Nat) : Prop := p = 998244353 ∨ p = 9223372036854775783 ∨ p = 2305843009213693951 ∨ (p ≤ 100000 ∧ IsPrime p)

open Classical in
noncomputable def primeB (n : Nat) : Bool := decide (IsPrime n)

open Classical in
noncomputable def askedB (n : Nat) : Bool := decide (Asked n)

theorem primeB_f {n : Nat} (h : ¬ IsPrime n) : primeB n = false := by
  unfold primeB
  simp [h]

theorem primeB_t {n : Nat} (h : IsPrime n) : primeB n = true := by
  unfold primeB
  simp [h]

theorem askedB_f {n : Nat} (h : ¬ Asked n) : askedB n = false := by
  unfold askedB
  simp [h]

theorem askedB_t {n : Nat} (h : Asked n) : askedB n = true := by
  unfold askedB
  simp [h]

theorem asked_prime {p : Nat} (h : Asked p) : IsPrime p := by
  rcases h with rfl | rfl | rfl | h
  · exact great1
  · exact great3
  · exact great2
  · exact h.2

theorem asked_may {p : Nat} (h : Asked p) : MayM p := by
  have h1 := (asked_prime h).1
  refine ⟨h1, ?_⟩
  rcases h with rfl | rfl | rfl | h
  · decide
  · decide
  · decide
  · omega

theorem isB_asked {p : Nat} (h : Asked p) : isB p = true := isB_prime (asked_prime h) (by have := (asked_may h).2; omega)

/-- A small number that is not asked is told to be no prime. -/
theorem isB_not {p : Nat} (h : ¬ Asked p) (hp : p ≤ 100000) : isB p = false := by
  cases hb : isB p
  · rfl
  · exact absurd (.inr (.inr (.inr ⟨hp, isB_small hp hb⟩))) h

theorem RefIs_spec (n : Nat) (hn : n ≤ 100000) : CallSpec Tryd.pr.P Tryd.pr.G 10 [u64 n] (bool (primeB n)) := by
  refine callSpec_of Tryd.pr Tryd.func10 rfl rfl rfl fun w0 ok0 hok hG => ?_
  refine ev_rs [] rfl trivial ?_
  refine ev_seq (ev_rs [] rfl trivial (ev_cond rfl (fun h => ?_) (fun h => ev_sk ?_)))
  · have hn2 : n < 2 := Int.ofNat_lt.mp (of_decide_eq_true h)
    have hb : primeB n = false := primeB_f fun hp => by have := hp.1; omega
    rw [hb]
    exact ev_rs [] rfl trivial (ev_ret (ret1 (fz_p (PLe.refl _))))
  have hn2 : 2 ≤ n := by
    have := of_decide_eq_false h
    omega
  refine ev_at (α := Unit) (fun _ => IsPrime n) (fun _ => []) (fun _ => []) ?_ ?_
  · refine ev_rs [] rfl trivial ?_
    refine ev_block (ev_while0 (α := Nat) (fun d => 2 ≤ d ∧ d ≤ 100001 ∧ ∀ e, 2 ≤ e → e < d → ¬ e ∣ n) (fun d => [(0, .p (u64 n)), (3, .p (u64 d))]) (fun d => 100001 - d) 2
      ⟨by decide, by decide, fun e h1 h2 => by omega⟩ ⟨le_0, le_0, trivial⟩ ?_)
    rintro d ⟨h1, h2, h3⟩
    have hdd : d * d ≤ 100001 * 100001 := Nat.mul_le_mul h2 h2
    have hw : IntKind.wrap .u64 ((d : Int) * (d : Int)) = ((d * d : Nat) : Int) := by rw [wrapMul, Nat.mod_eq_of_lt (by omega)]
    have hd0 : (d : Int) ≠ 0 := by omega
    refine ev_seq (ev_rs [] rfl trivial (ev_cond rfl (fun h => ev_sk ?_) (fun h => ev_exit ?_)))
    · have h' := of_decide_eq_true h
      rw [hw] at h'
      have hle : d * d ≤ n := Int.ofNat_le.mp h'
      have hdn : d ≤ 100000 := by
        have : d * 1 ≤ d * d := Nat.mul_le_mul_left _ (by omega)
        omega
      refine ev_seq (ev_block ?_)
      refine ev_rs [] rfl ⟨hd0, trivial⟩ (ev_cond rfl (fun h => ?_) (fun h => ev_skip ?_))
      · have hd : n % d = 0 := Int.ofNat_inj.mp (beq_iff_eq.mp h)
        have hb : primeB n = false := primeB_f fun hp => by
          rcases hp.2 d (Nat.dvd_of_mod_eq_zero hd) with h4 | h4
          · omega
          · subst h4
            have : d * 2 ≤ d * d := Nat.mul_le_mul_left _ h1
            omega
        rw [hb]
        exact ev_rs [] rfl trivial (ev_ret (ret1 (fz_p (PLe.refl _))))
      · have hd : ¬ n % d = 0 := fun e => (beq_eq_false_iff_ne.mp h) (Int.ofNat_inj.mpr e)
        refine ev_region [] rfl trivial (round0 (d + 1) ⟨by omega, by omega, fun e h4 h5 => ?_⟩ (by omega) ⟨le_0, le_e (congrArg (fun z => PV.val (.int .u64 z)) ((wrapAdd d 1).trans (by rw [Nat.mod_eq_of_lt (by omega)]))), trivial⟩)
        rcases Nat.lt_or_ge e d with h6 | h6
        · exact h3 e h4 h6
        · rw [show e = d by omega]
          exact fun hdv => hd (Nat.mod_eq_zero_of_dvd hdv)
    · have h' := of_decide_eq_false h
      rw [hw] at h'
      have hgt : n < d * d := by
        rcases Nat.lt_or_ge n (d * d) with h4 | h4
        · exact h4
        · exact absurd (Int.ofNat_le.mpr h4) h'
      refine at0 () ?_ trivial
      obtain ⟨c, rfl⟩ : ∃ c, d = c + 1 := ⟨d - 1, by omega⟩
      refine prime_of_big hn2 hgt fun r hr hrn => ?_
      rcases Nat.lt_or_ge c r with h4 | h4
      · exact h4
      · exact absurd hrn (h3 r hr.1 (by omega))
  rintro ⟨⟩ hp
  have hb : primeB n = true := primeB_t hp
  rw [hb]
  exact ev_rs [] rfl trivial (ev_ret (ret1 (fz_p (PLe.refl _))))

theorem gd_a {a b : Bool} (h : a = true) (h' : b = true) : (a && (b == true)) = true := by rw [h, h']; rfl

theorem LawPrime_spec (p : Nat) : CallSpec Tryd.pr.P Tryd.pr.G 16 [u64 p] (bool (askedB p)) := by
  have key : (bif (bif (bif ((p : Int) == 998244353) then true else ((p : Int) == 9223372036854775783)) then true else ((p : Int) == 2305843009213693951)) then true else (bif decide ((p : Int) ≤ 100000) then primeB p else false)) = askedB p := by
    by_cases h1 : p = 998244353
    · subst h1; rw [askedB_t (.inl rfl)]; rfl
    by_cases h2 : p = 9223372036854775783
    · subst h2; rw [askedB_t (.inr (.inl rfl))]; rfl
    by_cases h3 : p = 2305843009213693951
    · subst h3; rw [askedB_t (.inr (.inr (.inl rfl)))]; rfl
    rw [beq_eq_false_iff_ne.mpr (by omega : (p : Int) ≠ 998244353), beq_eq_false_iff_ne.mpr (by omega : (p : Int) ≠ 9223372036854775783), beq_eq_false_iff_ne.mpr (by omega : (p : Int) ≠ 2305843009213693951)]
    simp only [cond_false]
    by_cases h4 : p ≤ 100000
    · rw [decide_eq_true (by omega : (p : Int) ≤ 100000)]
      simp only [cond_true]
      by_cases h5 : IsPrime p
      · rw [primeB_t h5, askedB_t (.inr (.inr (.inr ⟨h4, h5⟩)))]
      · rw [primeB_f h5, askedB_f]
        rintro (h | h | h | h)
        · exact h1 h
        · exact h2 h
        · exact h3 h
        · exact h5 h.2
    · rw [decide_eq_false (by omega : ¬ (p : Int) ≤ 100000), askedB_f]
      · rfl
      · rintro (h | h | h | h)
        · exact h1 h
        · exact h2 h
        · exact h3 h
        · exact h4 h.1
  refine callSpec_of Tryd.pr Tryd.func16 rfl rfl rfl fun w0 ok0 hok hG => ?_
  refine ev_rs [] rfl trivial ?_
  have hand : ∀ {a b : Bool}, (a && b) = true → a = true ∧ b = true := fun h => by simpa using h
  refine ev_rs [bool (primeB p)] rfl ?_ ?_
  · refine (by repeat' (first | exact trivial | exact gd_t | exact gd_f | exact .inl (RefIs_spec p (by have := of_decide_eq_true (beq_iff_eq.mp (hand (by assumption)).2); omega)) | exact (fun h => (hand h).1) | exact (fun h => (hand h).2) | exact gd_a (by assumption) (by assumption) | exact (fun _ => rfl) | intro _ | apply And.intro | assumption | exact rfl | exact gd_t (by assumption) | exact gd_f (by assumption) | exact gd_a (by assumption) (by assumption) | exact gd_b (by assumption) (by assumption)))
  · exact ev_ret (ret1 (fz_p (PLe.of_eq (congrArg Vinc.bool key))))

end Go.Proofs

/- The rows of recur, walked. -/
set_option linter.unusedVariables false
namespace Go.Proofs
open Go Vinc Vinc.Num

section
variable {m b t : Nat}

theorem Sb_spec (hm : MayM m) (x y : Nat) : CallSpec Tryd.pr.P Tryd.pr.G 27 [fld m b t, u64 x, u64 y] (u64 (sb x y m)) := Sub_spec hm x y

theorem Same_spec (xs ys : List Nat) (hl : xs.length < 1000000) (hl2 : ys.length < 1000000) : CallSpec Tryd.pr.P Tryd.pr.G 13 [u64s xs, u64s ys] (Vinc.bool (decide (xs = ys))) := by
  refine callSpec_of Tryd.pr Tryd.func13 rfl rfl rfl fun w0 ok0 hok hG => ?_
  refine ev_rs [] rfl trivial ?_
  refine ev_seq (ev_rs [] rfl trivial (ev_cond rfl (fun h => ?_) (fun h => ev_sk ?_)))
  · have hne : xs.length ≠ ys.length := fun e => (bne_iff_ne.mp h) (Int.ofNat_inj.mpr e)
    refine ev_rs [] rfl trivial (ev_ret (ret1 (fz_p (PLe.of_eq (congrArg Vinc.bool ?_)))))
    exact (decide_eq_false fun e => hne (congrArg _ e)).symm
  have hlen : xs.length = ys.length := Int.ofNat_inj.mp (bne_eq_false_iff_eq.mp h)
  refine ev_at (α := Unit) (fun _ => xs = ys) (fun _ => []) (fun _ => []) ?_ ?_
  · refine ev_rs [] rfl trivial ?_
    refine ev_block (ev_while0 (α := Nat) (fun i => i ≤ xs.length ∧ ∀ j, j < i → xs.getD j 0 = ys.getD j 0) (fun i => [(0, .p (u64s xs)), (1, .p (u64s ys)), (5, .p (i64 i))]) (fun i => xs.length - i) 0
      ⟨Nat.zero_le _, fun j h1 => by omega⟩ ⟨le_0, le_0, le_0, trivial⟩ ?_)
    rintro i ⟨h1, h3⟩
    refine ev_seq (ev_rs [] rfl trivial (ev_cond rfl (fun h => ev_sk ?_) (fun h => ev_exit ?_)))
    · have hi : i < xs.length := Int.ofNat_lt.mp (of_decide_eq_true h)
      refine ev_seq (ev_block ?_)
      refine ev_ds [] (by kernel_rfl) rfl rfl ⟨(hlen ▸ hi : i < ys.length), ⟨by omega, by omega⟩, hi, ⟨by omega, by omega⟩, trivial⟩ (ev_cond rfl (fun h => ?_) (fun h => ?_))
      · have hne : xs.getD i 0 ≠ ys.getD i 0 := fun e => (bne_iff_ne.mp h) (Int.ofNat_inj.mpr e)
        refine ev_rs [] rfl trivial (ev_ret (ret1 (fz_p (PLe.of_eq (congrArg Vinc.bool ?_)))))
        exact (decide_eq_false fun e => hne (by rw [e])).symm
      · have heq : xs.getD i 0 = ys.getD i 0 := Int.ofNat_inj.mp (bne_eq_false_iff_eq.mp h)
        refine ev_skip ?_
        refine ev_region [] rfl trivial (round0 (i + 1) ⟨hi, fun j h4 => ?_⟩ (by omega) ⟨le_0, le_0, le_e (congrArg (fun z => PV.val (.int .i64 z)) (wrapI _ (by omega) (by omega))), trivial⟩)
        rcases Nat.lt_or_ge j i with hj | hj
        · exact h3 j hj
        · rw [show j = i by omega]; exact heq
    · have hi : i = xs.length := by
        have := of_decide_eq_false h
        omega
      subst hi
      exact at0 () (list_eq hlen h3) trivial
  rintro ⟨⟩ h
  refine ev_rs [] rfl trivial (ev_ret (ret1 (fz_p (PLe.of_eq (congrArg Vinc.bool ?_)))))
  exact (decide_eq_true h).symm

end
end Go.Proofs

/- The search for a rule, walked. -/
set_option linter.unusedVariables false
namespace Go.Proofs
open Go Vinc Vinc.Num

end Go.Proofs

/- Polynomials over a field of words, walked: what powers modulo a polynomial need. -/
set_option linter.unusedVariables false
namespace Go.Proofs
open Go Vinc Vinc.Num

/-- A field of polynomials. -/
noncomputable abbrev polyF (p : Nat) : PV := .ptr 1 (fun _ => newF p) 0

theorem UNew_no {p : Nat} (hp : p < 18446744073709551616) (h : ¬ (p < 9223372036854775808 ∧ isB p = true)) : CallSpec Tryd.pr.P Tryd.pr.G 40 [u64 p] (.tup 2 (two nilP (i64 14))) := by
  refine callSpec_of Tryd.pr Tryd.func40 rfl rfl rfl fun w0 ok0 hok hG => ?_
  refine ev_rs [] rfl trivial ?_
  refine ev_seq (ev_rs [Vinc.bool (isB p)] rfl (by repeat' (first | exact trivial | exact gd_t | exact gd_f | exact .inl (Is_spec p hp) | exact (fun _ => rfl) | intro _ | apply And.intro | assumption | exact rfl | exact gd_t (by assumption) | exact gd_f (by assumption) | exact gd_a (by assumption) (by assumption) | exact gd_b (by assumption) (by assumption))) (ev_cond rfl (fun _ => ?_) (fun h2 => ?_)))
  · exact ev_rs [] rfl trivial (ev_ret (ret2 (fz_p (PLe.refl _)) (fz_p (PLe.refl _))))
  · exfalso
    apply h
    by_cases hq : p < 9223372036854775808
    · refine ⟨hq, ?_⟩
      rw [decide_eq_false (by omega)] at h2
      cases hb : isB p
      · rw [hb] at h2; cases h2
      · rfl
    · rw [decide_eq_true (by omega)] at h2
      cases h2

theorem UNew_ok {p : Nat} (hm : MayM p) (hb : isB p = true) : CallSpec Tryd.pr.P Tryd.pr.G 40 [u64 p] (.tup 2 (two (polyF p) (i64 0))) := by
  have hm2 := hm.2
  refine callSpec_of Tryd.pr Tryd.func40 rfl rfl rfl fun w0 ok0 hok hG => ?_
  refine ev_rs [] rfl trivial ?_
  refine ev_seq (ev_rs [Vinc.bool (isB p)] rfl (by repeat' (first | exact trivial | exact gd_t | exact gd_f | exact .inl (Is_spec p (by omega)) | exact (fun _ => rfl) | intro _ | apply And.intro | assumption | exact rfl | exact gd_t (by assumption) | exact gd_f (by assumption) | exact gd_a (by assumption) (by assumption) | exact gd_b (by assumption) (by assumption))) (ev_cond rfl (fun h => ?_) (fun _ => ev_sk ?_)))
  · exfalso
    rw [hb, decide_eq_false (by omega)] at h
    cases h
  refine ev_rs [.tup 2 (two (newF p) (i64 0))] rfl ⟨.inl (New_spec hm), trivial⟩ ?_
  refine ev_seq (ev_rs [] rfl trivial (ev_cf rfl (ev_sk ?_)))
  refine ev_rs [] rfl trivial (ev_ret (ret2 (fz_oat rfl (Nat.le_refl 1) (fun j hj => ?_)) (fz_p (PLe.refl _))))
  match j, hj with
  | 0, _ => exact fz_p (PLe.refl _)

theorem trim_spec (a : List Nat) (hl : a.length < 1099511627776) : CallSpec Tryd.pr.P Tryd.pr.G 51 [u64s a] (u64s (trimN a)) := by
  refine callSpec_of Tryd.pr Tryd.func51 rfl rfl rfl fun w0 ok0 hok hG => ?_
  refine ev_rs [] rfl trivial ?_
  refine ev_rs [] rfl trivial ?_
  refine ev_at (α := Unit) (fun _ => True) (fun _ => [(0, .p (u64s a)), (3, .p (i64 (trimL a a.length)))]) (fun _ => []) ?_ ?_
  · refine ev_block (ev_while0 (α := Nat) (fun n => n ≤ a.length ∧ trimL a n = trimL a a.length) (fun n => [(0, .p (u64s a)), (3, .p (i64 n))]) (fun n => n) a.length ⟨Nat.le_refl _, rfl⟩ ⟨le_0, le_0, trivial⟩ ?_)
    rintro n ⟨h1, h2⟩
    cases n with
    | zero =>
      exact ev_seq (ev_rs [] rfl (by repeat' (first | exact trivial | exact gd_t | exact gd_f | exact fun h => absurd h (by decide) | exact (fun _ => rfl) | intro _ | apply And.intro | assumption | exact rfl | exact gd_t (by assumption) | exact gd_f (by assumption) | exact gd_a (by assumption) (by assumption) | exact gd_b (by assumption) (by assumption))) (ev_cf rfl (ev_exit (at0 () trivial ⟨le_0, le_e (congrArg (fun z : Nat => i64 z) h2), trivial⟩))))
    | succ n =>
      have e1 : IntKind.wrap .i64 (((n + 1 : Nat) : Int) - 1) = (n : Int) := by rw [wrapI _ (by omega) (by omega)]; omega
      have hpos : decide (((n + 1 : Nat) : Int) > 0) = true := decide_eq_true (by omega)
      refine ev_seq (ev_rs [] rfl ?_ (ev_cond rfl (fun h => ev_sk ?_) (fun h => ev_exit ?_)))
      · rw [e1]
        exact (by repeat' (first | exact trivial | exact gd_t | exact gd_f | exact h1 | exact Int.natCast_nonneg _ | exact Int.ofNat_lt.mpr h1 | exact (fun _ => rfl) | intro _ | apply And.intro | assumption | exact rfl | exact gd_t (by assumption) | exact gd_f (by assumption) | exact gd_a (by assumption) (by assumption) | exact gd_b (by assumption) (by assumption)))
      · rw [hpos, e1] at h
        have h0 : a.getD n 0 = 0 := Int.ofNat_inj.mp (beq_iff_eq.mp h)
        refine ev_block (ev_region [] rfl trivial (round0 n ⟨by omega, ?_⟩ (Nat.lt_succ_self n) ⟨le_0, le_e (congrArg (fun z => PV.val (.int .i64 z)) e1), trivial⟩))
        rw [← h2]
        show _ = if a.getD n 0 = 0 then trimL a n else n + 1
        rw [if_pos h0]
      · rw [hpos, e1] at h
        have h0 : ¬ a.getD n 0 = 0 := fun e => (beq_eq_false_iff_ne.mp h) (Int.ofNat_inj.mpr e)
        refine at0 () trivial ⟨le_0, le_e (congrArg (fun z : Nat => i64 z) ?_), trivial⟩
        rw [← h2]
        show _ = if a.getD n 0 = 0 then trimL a n else n + 1
        rw [if_neg h0]
  rintro ⟨⟩ -
  have ht := trimL_le a a.length
  exact ev_rs [] rfl ⟨⟨by omega, by omega⟩, trivial⟩ (ev_ret (ret1 (fz_p (PLe.take ht))))

theorem Norm_spec {p : Nat} (hm : MayM p) (a : List Nat) (hl : a.length < 1000000) : CallSpec Tryd.pr.P Tryd.pr.G 42 [polyF p, u64s a] (u64s (normN p a)) := by
  refine callSpec_of Tryd.pr Tryd.func42 rfl rfl rfl fun w0 ok0 hok hG => ?_
  refine ev_rs [] rfl trivial ?_
  refine ev_seq (ev_rs [] rfl trivial (ev_cf rfl (ev_sk ?_)))
  refine ev_rs [] rfl ⟨⟨by omega, by omega, by omega⟩, trivial⟩ ?_
  refine ev_made 5 12 a.length rfl rfl rfl ?_
  refine ev_at (α := Unit) (fun _ => True) (fun _ => [(5, .p (u64s (a.map (· % p))))]) (fun _ => []) ?_ ?_
  · refine ev_rs [] rfl trivial ?_
    refine ev_block (ev_while (α := Nat) (fun i => i ≤ a.length) (fun i => [(0, .p (polyF p)), (1, .p (u64s a)), (5, .own 12 0 a.length 1), (13, .p (u64s a)), (14, .p (i64 a.length)), (15, .p (i64 i))]) (fun i => [(12, ob64 (mapK p a i))]) (fun i => a.length - i) 0
      (Nat.zero_le _) (wk_ob rfl (fun hd => ⟨le_refl hd _, le_refl hd _, le_o rfl, le_refl hd _, le_refl hd _, le_refl hd _, trivial⟩)) ?_)
    rintro i h1
    refine ev_rs [] rfl trivial (ev_seq (ev_cond rfl (fun h => ev_sk ?_) (fun h => ev_exit ?_)))
    · have hi : i < a.length := Int.ofNat_lt.mp (of_decide_eq_true h)
      have hck := length_mapK p a i
      refine ev_seq (ev_block ?_)
      refine ev_rs [] rfl ⟨hi, ⟨by omega, by omega⟩, trivial⟩ ?_
      refine ev_region [u64 (a.getD i 0 % p)] rfl ?_ ?_
      · exact ⟨(by omega : i + 1 ≤ (mapK p a i).length), ⟨by omega, by omega⟩, .inl (Of_spec hm _), Nat.zero_lt_one, trivial⟩
      refine ev_set 12 i (a.getD i 0 % p) rfl rfl rfl (by omega) ?_
      exact ev_region [] rfl trivial ⟨i + 1, hi, by dsimp only; omega, wk_ob rfl (fun hd => ⟨le_refl hd _, le_refl hd _, le_o rfl, le_refl hd _, le_refl hd _, le_n hd (congrArg (fun z => PV.val (.int .i64 z)) (wrapI _ (by omega) (by omega))), trivial⟩)⟩
    · have hi : i = a.length := by
        have := of_decide_eq_false h
        omega
      subst hi
      exact at0 () trivial ⟨le_fz' rfl (length_mapK p a a.length).symm (mapK_all p a), trivial⟩
  rintro ⟨⟩ -
  exact ev_rs [u64s (normN p a)] rfl ⟨.inl (trim_spec _ (by rw [List.length_map]; omega)), trivial⟩ (ev_ret (ret1 (fz_p (PLe.refl _))))

theorem one_spec {p : Nat} (hm : MayM p) (a b : List Nat) (hl : a.length < 1000000) (hl2 : b.length < 1000000) : CallSpec Tryd.pr.P Tryd.pr.G 81 [polyF p, u64s a, u64s b] (u64s (oneN p a b)) := by
  refine callSpec_of Tryd.pr Tryd.func81 rfl rfl rfl fun w0 ok0 hok hG => ?_
  refine ev_rs [] rfl trivial ?_
  refine ev_seq (ev_rs [] rfl (by repeat' (first | exact trivial | exact gd_t | exact gd_f | exact (fun _ => rfl) | intro _ | apply And.intro | assumption | exact rfl | exact gd_t (by assumption) | exact gd_f (by assumption) | exact gd_a (by assumption) (by assumption) | exact gd_b (by assumption) (by assumption))) (ev_cond rfl (fun h => ?_) (fun h => ev_sk ?_)))
  · have h0 : a.length = 0 ∨ b.length = 0 := by
      by_cases ha : a.length = 0
      · exact .inl ha
      · right
        have e : (((a.length : Nat) : Int) == 0) = false := beq_eq_false_iff_ne.mpr (by omega)
        rw [e] at h
        exact Int.ofNat_inj.mp (beq_iff_eq.mp h)
    have e : oneN p a b = [] := if_pos h0
    rw [e]
    exact ev_rs [] rfl trivial (ev_ret (ret1 (fz_p PLe.nil)))
  have h0 : ¬ (a.length = 0 ∨ b.length = 0) := by
    rintro (e | e)
    · rw [e] at h; cases h
    · rw [e] at h
      cases hd : (((a.length : Nat) : Int) == 0) <;> rw [hd] at h <;> cases h
  have e0 : oneN p a b = oneO p a b a.length := if_neg h0
  rw [e0]
  have e1 : IntKind.wrap .i64 (IntKind.wrap .i64 ((a.length : Int) + (b.length : Int)) - 1) = ((a.length + b.length - 1 : Nat) : Int) := by
    rw [wrapI ((a.length : Int) + (b.length : Int)) (by omega) (by omega), wrapI _ (by omega) (by omega)]; omega
  obtain ⟨L, hL⟩ : ∃ L, a.length + b.length - 1 = L := ⟨_, rfl⟩
  refine ev_rs [] rfl ?_ ?_
  · rw [e1]
    exact ⟨⟨by omega, by omega, by omega⟩, trivial⟩
  refine ev_made 7 26 L rfl rfl (show (IntKind.wrap .i64 (IntKind.wrap .i64 ((a.length : Int) + (b.length : Int)) - 1)).toNat = _ by rw [e1]; exact hL) ?_
  refine ev_at (α := Unit) (fun _ => True) (fun _ => [(7, .own 26 0 L 1)]) (fun _ => [(26, ob64 (oneO p a b a.length))]) ?_ ?_
  · refine ev_rs [] rfl trivial ?_
    refine ev_block (ev_while (α := Nat) (fun i => i ≤ a.length) (fun i => [(0, .p (polyF p)), (2, .p (u64s b)), (7, .own 26 0 L 1), (27, .p (u64s a)), (28, .p (i64 a.length)), (29, .p (i64 i))]) (fun i => [(26, ob64 (oneO p a b i))]) (fun i => a.length - i) 0
      (Nat.zero_le _) (wk_ob (congrArg (fun l => some (ob64 (List.replicate l 0))) hL.symm) (fun hd => ⟨le_refl hd _, le_refl hd _, le_o rfl, le_refl hd _, le_refl hd _, le_refl hd _, trivial⟩)) ?_)
    rintro i h1
    refine ev_rs [] rfl trivial (ev_seq (ev_cond rfl (fun h => ev_sk ?_) (fun h => ev_exit ?_)))
    · have hi : i < a.length := Int.ofNat_lt.mp (of_decide_eq_true h)
      refine ev_seq (ev_block ?_)
      refine ev_rs [] rfl ⟨hi, ⟨by omega, by omega⟩, trivial⟩ ?_
      refine ev_rs [] rfl trivial ?_
      refine ev_block (ev_while (α := Nat) (fun k => k ≤ b.length) (fun k => [(0, .p (polyF p)), (2, .p (u64s b)), (7, .own 26 0 L 1), (8, .p (i64 i)), (9, .p (u64 (a.getD i 0))), (27, .p (u64s a)), (28, .p (i64 a.length)), (29, .p (i64 i)), (34, .p (u64s b)), (35, .p (i64 b.length)), (36, .p (i64 k))])
        (fun k => [(26, ob64 (oneI p (a.getD i 0) b i (oneO p a b i) k))]) (fun k => b.length - k) 0
        (Nat.zero_le _) (wk_ob rfl (fun hd => ⟨le_refl hd _, le_refl hd _, le_o rfl, le_refl hd _, le_refl hd _, le_refl hd _, le_refl hd _, le_refl hd _, le_refl hd _, le_refl hd _, le_refl hd _, trivial⟩)) ?_)
      rintro k h2
      refine ev_rs [] rfl trivial (ev_seq (ev_cond rfl (fun h => ev_sk ?_) (fun h => ev_exit ?_)))
      · have hk : k < b.length := Int.ofNat_lt.mp (of_decide_eq_true h)
        refine ev_seq (ev_block ?_)
        refine ev_rs [] rfl ⟨hk, ⟨by omega, by omega⟩, trivial⟩ ?_
        have e2 : IntKind.wrap .i64 ((i : Int) + (k : Int)) = ((i + k : Nat) : Int) := by rw [wrapI _ (by omega) (by omega)]; rfl
        have hck : (oneI p (a.getD i 0) b i (oneO p a b i) k).length = L := by rw [length_oneI, length_oneO, hL]
        obtain ⟨o, ho⟩ : ∃ o, oneI p (a.getD i 0) b i (oneO p a b i) k = o := ⟨_, rfl⟩
        have hst : oneI p (a.getD i 0) b i (oneO p a b i) (k + 1) = o.set (i + k) ((o.getD (i + k) 0 + a.getD i 0 * b.getD k 0 % p) % p) := by rw [← ho]; rfl
        rw [ho] at hck
        refine ev_ob 26 (ob64 o) (congrArg (fun l => some (ob64 l)) ho) ?_
        refine ev_draw [u64 (a.getD i 0 * b.getD k 0 % p), u64 ((o.getD (i + k) 0 + a.getD i 0 * b.getD k 0 % p) % p)] (by kernel_rfl) rfl rfl ?_ ?_
        · rw [e2]
          exact ⟨(by omega : i + k + 1 ≤ o.length), ⟨by omega, by omega⟩, .inl (Add_spec hm _ _), .inl (Mul_spec hm _ _), Nat.zero_lt_one, (by omega : i + k < o.length), ⟨by omega, by omega⟩, Nat.zero_lt_one, trivial⟩
        refine ev_set 26 (i + k) ((o.getD (i + k) 0 + a.getD i 0 * b.getD k 0 % p) % p) rfl (by show (IntKind.wrap .i64 ((i : Int) + (k : Int))).toNat = _; rw [e2]; rfl) rfl (by omega) ?_
        exact ev_region [] rfl trivial ⟨k + 1, hk, by dsimp only; omega, wk_ob (congrArg (fun l => some (ob64 l)) hst.symm) (fun hd => ⟨le_refl hd _, le_refl hd _, le_o rfl, le_refl hd _, le_refl hd _, le_refl hd _, le_refl hd _, le_refl hd _, le_refl hd _, le_refl hd _, le_n hd (congrArg (fun z => PV.val (.int .i64 z)) (wrapI _ (by omega) (by omega))), trivial⟩)⟩
      · have hk : k = b.length := by
          have := of_decide_eq_false h
          omega
        subst hk
        exact ev_region [] rfl trivial ⟨i + 1, hi, by dsimp only; omega, wk_ob rfl (fun hd => ⟨le_refl hd _, le_refl hd _, le_o rfl, le_refl hd _, le_refl hd _, le_n hd (congrArg (fun z => PV.val (.int .i64 z)) (wrapI _ (by omega) (by omega))), trivial⟩)⟩
    · have hi : i = a.length := by
        have := of_decide_eq_false h
        omega
      subst hi
      exact at_ob () trivial rfl (fun hd => ⟨le_o rfl, trivial⟩)
  rintro ⟨⟩ -
  exact ev_rs [] rfl trivial (ev_ret (ret1 (fz_ob' rfl (by rw [length_oneO, hL]) rfl)))

theorem half_spec {p : Nat} (hm : MayM p) (a b : List Nat) (hl : a.length ≤ 16) (hl2 : b.length ≤ 16) : CallSpec Tryd.pr.P Tryd.pr.G 70 [polyF p, u64s a, u64s b] (u64s (oneN p a b)) := by
  refine callSpec_of Tryd.pr Tryd.func70 rfl rfl rfl fun w0 ok0 hok hG => ?_
  refine ev_rs [] rfl trivial ?_
  refine ev_rs [] rfl trivial ?_
  have hle : (if (b.length : Int) > (a.length : Int) then (b.length : Int) else (a.length : Int)) ≤ 16 := by split <;> omega
  refine ev_seq (ev_rs [] rfl (by repeat' (first | exact trivial | exact gd_t | exact gd_f | exact (fun _ => rfl) | intro _ | apply And.intro | assumption | exact rfl | exact gd_t (by assumption) | exact gd_f (by assumption) | exact gd_a (by assumption) (by assumption) | exact gd_b (by assumption) (by assumption))) (ev_cond rfl (fun h => ?_) (fun h => ?_)))
  · exact ev_rs [u64s (oneN p a b)] rfl ⟨.inl (one_spec hm a b (by omega) (by omega)), trivial⟩ (ev_ret (ret1 (fz_p (PLe.refl _))))
  · exfalso
    have e : decide ((if (b.length : Int) > (a.length : Int) then (b.length : Int) else (a.length : Int)) ≤ 16) = true := decide_eq_true hle
    have h : (bif (bif decide ((if (b.length : Int) > (a.length : Int) then (b.length : Int) else (a.length : Int)) ≤ 16) then true else _) then true else _) = false := h
    rw [e] at h
    cases h

theorem length_oneN (p : Nat) (a b : List Nat) : (oneN p a b).length ≤ a.length + b.length := by
  unfold oneN
  split
  · simp
  · rw [length_oneO]; omega

theorem times_spec2 {p : Nat} (hm : MayM p) (a b : List Nat) (hl : a.length ≤ 16) (hl2 : b.length ≤ 16) : CallSpec Tryd.pr.P Tryd.pr.G 49 [polyF p, u64s a, u64s b] (u64s (timesN p a b)) := by
  refine callSpec_of Tryd.pr Tryd.func49 rfl rfl rfl fun w0 ok0 hok hG => ?_
  refine ev_rs [] rfl trivial ?_
  have := length_oneN p a b
  exact ev_rs [u64s (oneN p a b), u64s (timesN p a b)] rfl ⟨.inl (trim_spec _ (by omega)), .inl (half_spec hm a b hl hl2), trivial⟩ (ev_ret (ret1 (fz_p (PLe.refl _))))

theorem divide_short {p : Nat} (a b : List Nat) (h : a.length < b.length) (hl2 : b.length < 1000000) :
    CallSpec Tryd.pr.P Tryd.pr.G 48 [polyF p, u64s a, u64s b] (.tup 2 (two (u64s []) (u64s a))) := by
  refine callSpec_of Tryd.pr Tryd.func48 rfl rfl rfl fun w0 ok0 hok hG => ?_
  refine ev_rs [] rfl trivial ?_
  refine ev_rs [] rfl ⟨⟨by omega, trivial⟩, trivial⟩ ?_
  refine ev_seq (ev_rs [] rfl trivial (ev_cond rfl (fun h2 => ?_) (fun h2 => ?_)))
  · exact ev_rs [] rfl trivial (ev_ret (ret2 (fz_p PLe.nil) (fz_ob rfl)))
  · exact absurd h (fun h => of_decide_eq_false h2 (Int.ofNat_lt.mpr h))

theorem divide_long {p : Nat} (hm : MayM p) (a b : List Nat) (hb0 : 0 < b.length) (h : b.length ≤ a.length) (hl : a.length < 1000000) :
    CallSpec Tryd.pr.P Tryd.pr.G 48 [polyF p, u64s a, u64s b] (.tup 2 (two (u64s (divN (minv p) p a b).1) (u64s (divN (minv p) p a b).2))) := by
  have e0 : divN (minv p) p a b = (trimN (divO p (minv p (b.getD (b.length - 1) 0)) b (a.length - (b.length - 1)) (List.replicate (a.length - (b.length - 1)) 0, a)).1,
      trimN (divO p (minv p (b.getD (b.length - 1) 0)) b (a.length - (b.length - 1)) (List.replicate (a.length - (b.length - 1)) 0, a)).2) := if_neg (by omega)
  rw [e0]
  obtain ⟨top, htop⟩ : ∃ top, b.length - 1 = top := ⟨_, rfl⟩
  obtain ⟨qn, hqn⟩ : ∃ qn, a.length - top = qn := ⟨_, rfl⟩
  obtain ⟨iv, hiv⟩ : ∃ iv, minv p (b.getD top 0) = iv := ⟨_, rfl⟩
  rw [htop, hqn, hiv]
  have e1 : IntKind.wrap .i64 ((b.length : Int) - 1) = (top : Int) := by rw [wrapI _ (by omega) (by omega)]; omega
  have e2 : IntKind.wrap .i64 ((a.length : Int) - (top : Int)) = (qn : Int) := by rw [wrapI _ (by omega) (by omega)]; omega
  have e3 : IntKind.wrap .i64 ((qn : Int) - 1) = (qn : Int) - 1 := wrapI _ (by omega) (by omega)
  refine callSpec_of Tryd.pr Tryd.func48 rfl rfl rfl fun w0 ok0 hok hG => ?_
  refine ev_rs [] rfl trivial ?_
  refine ev_rs [] rfl ⟨⟨by omega, trivial⟩, trivial⟩ ?_
  refine ev_seq (ev_rs [] rfl trivial (ev_cond rfl (fun h2 => ?_) (fun h2 => ev_sk ?_)))
  · exact absurd (Int.ofNat_lt.mp (of_decide_eq_true h2)) (by omega)
  refine ev_rs [] rfl trivial (ev_eq 9 (.p (i64 top)) (congrArg (fun z => AV.p (PV.val (.int .i64 z))) e1) ?_)
  refine ev_ds [.tup 2 (two (u64 iv) (i64 (wrong (b.getD top 0) p)))] (by kernel_rfl) rfl rfl ?_ ?_
  · rw [← hiv]
    exact ⟨.inl (Inv_spec hm _), (by omega : top < b.length), ⟨by omega, by omega⟩, Nat.zero_lt_one, trivial⟩
  refine ev_rs [] rfl ?_ ?_
  · rw [e2]
    exact ⟨⟨by omega, by omega, by omega⟩, trivial⟩
  refine ev_made 12 43 qn rfl rfl (show (IntKind.wrap .i64 ((a.length : Int) - (top : Int))).toNat = _ by rw [e2]; rfl) ?_
  refine ev_ob 17 (ob64 a) rfl ?_
  refine ev_at (α := Unit) (fun _ => True) (fun _ => [(8, .p (u64s (divO p iv b qn (List.replicate qn 0, a)).2)), (12, .p (u64s (divO p iv b qn (List.replicate qn 0, a)).1))]) (fun _ => []) ?_ ?_
  · refine ev_rs [] rfl trivial ?_
    refine ev_block (ev_while (α := Nat × List Nat × List Nat) (fun s => s.1 ≤ qn ∧ s.2.1.length = qn ∧ s.2.2.length = a.length ∧ divO p iv b s.1 (s.2.1, s.2.2) = divO p iv b qn (List.replicate qn 0, a))
      (fun s => [(0, .p (polyF p)), (2, .p (u64s b)), (8, .own 17 0 a.length 1), (9, .p (i64 top)), (10, .p (u64 iv)), (12, .own 43 0 qn 1), (13, .p (i64 ((s.1 : Int) - 1)))]) (fun s => [(17, ob64 s.2.2), (43, ob64 s.2.1)]) (fun s => s.1) (qn, List.replicate qn 0, a)
      ⟨Nat.le_refl _, List.length_replicate, rfl, rfl⟩ (wk_ob2 rfl rfl rfl rfl (fun hd => ⟨le_refl hd _, le_refl hd _, le_o rfl, le_refl hd _, le_refl hd _, le_o rfl, le_n hd (congrArg (fun z => PV.val (.int .i64 z)) e3), trivial⟩)) ?_)
    rintro ⟨n, q, l⟩ ⟨h1, h2, h3, h4⟩
    dsimp only at h1 h2 h3 h4
    refine ev_seq (ev_rs [] rfl trivial (ev_cond rfl (fun h => ev_sk ?_) (fun h => ev_exit ?_)))
    · have hn : 0 < n := by
        have := of_decide_eq_true h
        dsimp only at this
        omega
      obtain ⟨i, rfl⟩ : ∃ i, n = i + 1 := ⟨n - 1, by omega⟩
      obtain ⟨qi, hqi⟩ : ∃ qi, l.getD (i + top) 0 * iv % p = qi := ⟨_, rfl⟩
      have hst : divO p iv b i (q.set i qi, divI p qi b i l b.length) = divO p iv b qn (List.replicate qn 0, a) := by
        rw [← h4]
        show _ = divO p iv b i (q.set i (l.getD (i + (b.length - 1)) 0 * iv % p), divI p (l.getD (i + (b.length - 1)) 0 * iv % p) b i l b.length)
        rw [htop, hqi]
      refine ev_eq 13 (.p (i64 i)) (congrArg (fun z => AV.p (PV.val (.int .i64 z))) (show ((i + 1 : Nat) : Int) - 1 = i by omega)) ?_
      refine ev_seq (ev_block ?_)
      have e4 : IntKind.wrap .i64 ((i : Int) + (top : Int)) = ((i + top : Nat) : Int) := by rw [wrapI _ (by omega) (by omega)]; rfl
      refine ev_ds [u64 qi] (by kernel_rfl) rfl rfl ?_ ?_
      · rw [e4, ← hqi]
        exact ⟨(by omega : i + 1 ≤ q.length), ⟨by omega, by omega⟩, .inl (Mul_spec hm _ _), (by omega : i + top < l.length), ⟨by omega, by omega⟩, Nat.zero_lt_one, trivial⟩
      have hqq : (q.set i qi).getD i 0 = qi := by rw [getD_set _ _ _ _ (by omega), if_pos rfl]
      refine ev_set 43 i qi rfl rfl rfl (show i < q.length by omega) ?_
      refine ev_rs [] rfl trivial ?_
      refine ev_block (ev_while (α := Nat) (fun k => k ≤ b.length)
        (fun k => [(0, .p (polyF p)), (2, .p (u64s b)), (8, .own 17 0 a.length 1), (9, .p (i64 top)), (10, .p (u64 iv)), (12, .own 43 0 qn 1), (13, .p (i64 i)), (66, .p (u64s b)), (67, .p (i64 b.length)), (68, .p (i64 k))])
        (fun k => [(17, ob64 (divI p qi b i l k)), (43, ob64 (q.set i qi))]) (fun k => b.length - k) 0
        (Nat.zero_le _) (wk_ob2 rfl rfl rfl rfl (fun hd => ⟨le_refl hd _, le_refl hd _, le_o rfl, le_refl hd _, le_refl hd _, le_o rfl, le_refl hd _, le_refl hd _, le_refl hd _, le_refl hd _, trivial⟩)) ?_)
      rintro k h5
      refine ev_rs [] rfl trivial (ev_seq (ev_cond rfl (fun h => ev_sk ?_) (fun h => ev_exit ?_)))
      · have hk : k < b.length := Int.ofNat_lt.mp (of_decide_eq_true h)
        refine ev_seq (ev_block ?_)
        refine ev_rs [] rfl ⟨hk, ⟨by omega, by omega⟩, trivial⟩ ?_
        have e5 : IntKind.wrap .i64 ((i : Int) + (k : Int)) = ((i + k : Nat) : Int) := by rw [wrapI _ (by omega) (by omega)]; rfl
        have hdl : (divI p qi b i l k).length = a.length := by rw [length_divI, h3]
        obtain ⟨o, ho⟩ : ∃ o, divI p qi b i l k = o := ⟨_, rfl⟩
        have hst2 : divI p qi b i l (k + 1) = o.set (i + k) (sb (o.getD (i + k) 0) (qi * b.getD k 0 % p) p) := by rw [← ho]; rfl
        rw [ho] at hdl
        refine ev_ob 17 (ob64 o) (congrArg (fun l => some (ob64 l)) ho) ?_
        refine ev_draw [u64 (qi * b.getD k 0 % p), u64 (sb (o.getD (i + k) 0) (qi * b.getD k 0 % p) p)] (by kernel_rfl) rfl rfl ?_ ?_
        · rw [e5]
          refine ⟨(by omega : i + k + 1 ≤ o.length), ⟨by omega, by omega⟩, .inl (Sb_spec hm _ _), .inl ?_, (by rw [List.length_set]; omega : i < (q.set i qi).length), ⟨by omega, by omega⟩, Nat.zero_lt_one, (by omega : i + k < o.length), ⟨by omega, by omega⟩, Nat.zero_lt_one, trivial⟩
          show CallSpec _ _ _ [_, u64 ((q.set i qi).getD i 0), _] _
          rw [hqq]
          exact Mul_spec hm _ _
        refine ev_set 17 (i + k) (sb (o.getD (i + k) 0) (qi * b.getD k 0 % p) p) rfl (by show (IntKind.wrap .i64 ((i : Int) + (k : Int))).toNat = _; rw [e5]; rfl) rfl (by omega) ?_
        exact ev_region [] rfl trivial ⟨k + 1, hk, by dsimp only; omega, wk_ob2 rfl rfl (congrArg (fun l => some (ob64 l)) hst2.symm) rfl (fun hd => ⟨le_refl hd _, le_refl hd _, le_o rfl, le_refl hd _, le_refl hd _, le_o rfl, le_refl hd _, le_refl hd _, le_refl hd _, le_n hd (congrArg (fun z => PV.val (.int .i64 z)) (wrapI _ (by omega) (by omega))), trivial⟩)⟩
      · have hk : k = b.length := by
          have := of_decide_eq_false h
          omega
        subst hk
        exact ev_region [] rfl trivial ⟨(i, q.set i qi, divI p qi b i l b.length), ⟨by omega, by rw [List.length_set, h2], by rw [length_divI, h3], hst⟩, Nat.lt_succ_self i, wk_ob2 rfl rfl rfl rfl (fun hd => ⟨le_refl hd _, le_refl hd _, le_o rfl, le_refl hd _, le_refl hd _, le_o rfl, le_n hd (congrArg (fun z => PV.val (.int .i64 z)) (wrapI _ (by omega) (by omega))), trivial⟩)⟩
    · have hn : n = 0 := by
        have := of_decide_eq_false h
        dsimp only at this
        omega
      subst hn
      have h4 : (q, l) = _ := h4
      exact at0 () trivial ⟨le_fz' rfl h3.symm (congrArg Prod.snd h4), le_fz' rfl h2.symm (congrArg Prod.fst h4), trivial⟩
  rintro ⟨⟩ -
  obtain ⟨hA, hB⟩ := length_divO p iv b qn (List.replicate qn 0, a)
  have hA : _ = (List.replicate qn 0).length := hA
  have hB : _ = a.length := hB
  rw [List.length_replicate] at hA
  exact ev_rs [u64s (trimN (divO p iv b qn (List.replicate qn 0, a)).1), u64s (trimN (divO p iv b qn (List.replicate qn 0, a)).2)] rfl ⟨.inl (trim_spec _ (by omega)), .inl (trim_spec _ (by omega)), trivial⟩ (ev_ret (ret2 (fz_p (PLe.refl _)) (fz_p (PLe.refl _))))

theorem divide_spec {p : Nat} (hm : MayM p) (a b : List Nat) (hb0 : 0 < b.length) (hl : a.length < 1000000) (hl2 : b.length < 1000000) :
    CallSpec Tryd.pr.P Tryd.pr.G 48 [polyF p, u64s a, u64s b] (.tup 2 (two (u64s (divN (minv p) p a b).1) (u64s (divN (minv p) p a b).2))) := by
  rcases Nat.lt_or_ge a.length b.length with h | h
  · have e : divN (minv p) p a b = ([], a) := if_pos h
    rw [e]
    exact divide_short a b h hl2
  · exact divide_long hm a b hb0 h hl

theorem remN_len (iv : Nat → Nat) (p : Nat) (a b : List Nat) : (remN iv p a b).length ≤ a.length := by
  unfold remN divN
  split
  · exact Nat.le_refl _
  · have h := (length_divO p (iv (b.getD (b.length - 1) 0)) b (a.length - (b.length - 1)) (List.replicate (a.length - (b.length - 1)) 0, a)).2
    have h : _ = a.length := h
    show (trimN _).length ≤ _
    unfold trimN
    rw [List.length_take]
    omega

theorem PowMod_spec {p : Nat} (hm : MayM p) (a : List Nat) (n : Nat) (b : List Nat) (hn : n < 18446744073709551616) (ha : a.length ≤ 16) (hb : b.length ≤ 17) (hb0 : 0 < (normN p b).length)
    (hpo : powOk (minv p) p (normN p b) 64 n (remN (minv p) p [1] (normN p b)) (remN (minv p) p (normN p a) (normN p b))) :
    CallSpec Tryd.pr.P Tryd.pr.G 30 [polyF p, u64s a, u64 n, u64s b]
      (.tup 2 (two (u64s (powF (minv p) p (normN p b) 64 n (remN (minv p) p [1] (normN p b)) (remN (minv p) p (normN p a) (normN p b)))) (i64 0))) := by
  have hbl : (normN p b).length ≤ 17 := by
    unfold normN trimN
    rw [List.length_take, List.length_map]; omega
  have hal : (normN p a).length ≤ 16 := by
    unfold normN trimN
    rw [List.length_take, List.length_map]; omega
  obtain ⟨bb, hbb⟩ : ∃ bb, normN p b = bb := ⟨_, rfl⟩
  obtain ⟨aa, haa⟩ : ∃ aa, normN p a = aa := ⟨_, rfl⟩
  have hNa := Norm_spec hm a (by omega)
  have hNb := Norm_spec hm b (by omega)
  rw [hbb] at hNb hbl hb0 hpo ⊢
  rw [haa] at hNa hal hpo ⊢
  have hD : ∀ x : List Nat, x.length < 1000000 → CallSpec Tryd.pr.P Tryd.pr.G 48 [polyF p, u64s x, u64s bb] (.tup 2 (two (u64s (divN (minv p) p x bb).1) (u64s (remN (minv p) p x bb)))) := fun x hx => divide_spec hm x bb hb0 hx (by omega)
  have hT : ∀ x y : List Nat, (timesN p x y).length ≤ x.length + y.length := fun x y => by
    unfold timesN trimN
    rw [List.length_take]
    have := length_oneN p x y
    omega
  obtain ⟨o1, ho1⟩ : ∃ o1, remN (minv p) p [1] bb = o1 := ⟨_, rfl⟩
  obtain ⟨a1, ha1⟩ : ∃ a1, remN (minv p) p aa bb = a1 := ⟨_, rfl⟩
  have hD1 := hD [1] (by simp)
  have hD2 := hD aa (by omega)
  rw [ho1] at hD1
  rw [ha1] at hD2
  rw [ho1, ha1] at hpo
  rw [ho1, ha1]
  refine callSpec_of Tryd.pr Tryd.func30 rfl rfl rfl fun w0 ok0 hok hG => ?_
  refine ev_rs [] rfl trivial ?_
  refine ev_seq (ev_rs [] rfl trivial (ev_cf rfl (ev_sk ?_)))
  refine ev_rs [u64s aa, u64s bb] rfl ⟨.inl hNb, .inl hNa, trivial⟩ ?_
  refine ev_seq (ev_rs [] rfl trivial (ev_cond rfl (fun h => ?_) (fun h => ev_sk ?_)))
  · exfalso
    have : bb.length = 0 := Int.ofNat_inj.mp (beq_iff_eq.mp h)
    omega
  refine ev_rs [.tup 2 (two (u64s (divN (minv p) p [1] bb).1) (u64s o1))] rfl ?_ ?_
  · exact ⟨⟨⟨Nat.le_refl 1, trivial⟩, .inl (callSpec_args (as' := [polyF p, u64s [1], u64s bb]) ⟨PLe.refl _, PLe.lit rfl (fun j hj => by match j, hj with | 0, _ => rfl), PLe.refl _, trivial⟩ hD1)⟩, trivial⟩
  refine ev_rs [.tup 2 (two (u64s (divN (minv p) p aa bb).1) (u64s a1))] rfl ⟨.inl hD2, trivial⟩ ?_
  obtain ⟨R, hR⟩ : ∃ R, powF (minv p) p bb 64 n o1 a1 = R := ⟨_, rfl⟩
  rw [hR]
  refine ev_at (α := Unit) (fun _ => True) (fun _ => [(11, .p (u64s R))]) (fun _ => []) ?_ ?_
  · refine ev_block (ev_while0 (α := Nat × Nat × List Nat × List Nat) (fun s => s.2.1 < 2 ^ s.1 ∧ s.2.1 < 18446744073709551616 ∧ powOk (minv p) p bb s.1 s.2.1 s.2.2.1 s.2.2.2 ∧ powF (minv p) p bb s.1 s.2.1 s.2.2.1 s.2.2.2 = R)
      (fun s => [(0, .p (polyF p)), (1, .p (u64s s.2.2.2)), (2, .p (u64 s.2.1)), (3, .p (u64s bb)), (11, .p (u64s s.2.2.1))]) (fun s => s.1) (64, n, o1, a1)
      ⟨hn, hn, hpo, hR⟩ ⟨le_0, le_0, le_0, le_0, le_0, trivial⟩ ?_)
    rintro ⟨f, x, o, y⟩ ⟨h1, h2, h3, h4⟩
    dsimp only at h1 h2 h3 h4
    refine ev_seq (ev_rs [] rfl trivial (ev_cond rfl (fun h => ev_sk ?_) (fun h => ev_exit ?_)))
    · have hx : 0 < x := Int.ofNat_lt.mp (of_decide_eq_true h)
      have hx0 : x ≠ 0 := by omega
      obtain ⟨f, rfl⟩ : ∃ g, f = g + 1 := by
        cases f with
        | zero => simp at h1; omega
        | succ g => exact ⟨g, rfl⟩
      obtain ⟨l1, l2, hk⟩ := (show x = 0 ∨ _ from h3).resolve_left hx0
      have h4 : (if x = 0 then o else powF (minv p) p bb f (x / 2) (if x % 2 = 1 then remN (minv p) p (timesN p o y) bb else o) (remN (minv p) p (timesN p y y) bb)) = R := h4
      rw [if_neg hx0] at h4
      have ho16 : o.length ≤ 16 := l1
      have ht1 := hT o y
      have ht2 := hT y y
      refine ev_seq (ev_block ?_)
      refine ev_at (α := Unit) (fun _ => True) (fun _ => [(0, .p (polyF p)), (1, .p (u64s y)), (2, .p (u64 x)), (3, .p (u64s bb)), (11, .p (u64s (if x % 2 = 1 then remN (minv p) p (timesN p o y) bb else o)))]) (fun _ => []) ?_ ?_
      · refine ev_rs [] rfl trivial (ev_cond rfl (fun h => ?_) (fun h => ?_))
        · have hx1 : x % 2 = 1 := by
            have := beq_iff_eq.mp h
            rw [and1 x h2] at this
            exact Int.ofNat_inj.mp this
          refine ev_region [u64s (timesN p o y), .tup 2 (two (u64s (divN (minv p) p (timesN p o y) bb).1) (u64s (remN (minv p) p (timesN p o y) bb)))] rfl ⟨.inl (hD _ (by omega)), .inl (times_spec2 hm o y l1 l2), trivial⟩ (at0 () trivial ⟨le_0, le_0, le_0, le_0, le_e (congrArg u64s ?_), trivial⟩)
          rw [if_pos hx1]
        · have hx1 : ¬ x % 2 = 1 := fun e => by
            have := beq_eq_false_iff_ne.mp h
            rw [and1 x h2] at this
            exact this (Int.ofNat_inj.mpr e)
          refine ev_skip (at0 () trivial ⟨le_0, le_0, le_0, le_0, le_e (congrArg u64s ?_), trivial⟩)
          rw [if_neg hx1]
      rintro ⟨⟩ -
      refine ev_region [u64s (timesN p y y), .tup 2 (two (u64s (divN (minv p) p (timesN p y y) bb).1) (u64s (remN (minv p) p (timesN p y y) bb)))] rfl ⟨.inl (hD _ (by omega)), .inl (times_spec2 hm y y l2 l2), trivial⟩ ?_
      exact ev_region [] rfl ⟨by decide, trivial⟩ (round0 (f, x / 2, if x % 2 = 1 then remN (minv p) p (timesN p o y) bb else o, remN (minv p) p (timesN p y y) bb) ⟨by rw [Nat.pow_succ] at h1; dsimp only; omega, by dsimp only; omega, hk, h4⟩ (Nat.lt_succ_self f)
        ⟨le_0, le_0, le_e (congrArg (fun z => PV.val (.int .u64 z)) (shr1 x)), le_0, le_0, trivial⟩)
    · have hx : x = 0 := by
        have := of_decide_eq_false h
        dsimp only at this
        omega
      refine at0 () trivial ⟨le_e (congrArg u64s ?_), trivial⟩
      rw [hx] at h4
      cases f with
      | zero => exact h4
      | succ f => exact h4
  rintro ⟨⟩ -
  exact ev_rs [] rfl trivial (ev_ret (ret2 (fz_p (PLe.refl _)) (fz_p (PLe.refl _))))

end Go.Proofs

/- Sums, differences, products by halves, walked. -/
set_option linter.unusedVariables false
namespace Go.Proofs
open Go Vinc Vinc.Num

theorem at_spec (a : List Nat) (i : Nat) : CallSpec Tryd.pr.P Tryd.pr.G 50 [u64s a, i64 i] (u64 (a.getD i 0)) := by
  refine callSpec_of Tryd.pr Tryd.func50 rfl rfl rfl fun w0 ok0 hok hG => ?_
  refine ev_rs [] rfl trivial ?_
  refine ev_seq (ev_rs [] rfl trivial (ev_cond rfl (fun h => ?_) (fun h => ev_sk ?_)))
  · have hi : i < a.length := Int.ofNat_lt.mp (of_decide_eq_true h)
    exact ev_rs [] rfl ⟨hi, ⟨by omega, by omega⟩, trivial⟩ (ev_ret (ret1 (fz_p (PLe.refl _))))
  · have hi : a.length ≤ i := by
      have := of_decide_eq_false h
      omega
    rw [getD_ge hi]
    exact ev_rs [] rfl trivial (ev_ret (ret1 (fz_p (PLe.refl _))))

theorem UAdd_spec {p : Nat} (hm : MayM p) (a b : List Nat) (hl : a.length < 1000000) (hl2 : b.length < 1000000) : CallSpec Tryd.pr.P Tryd.pr.G 83 [polyF p, u64s a, u64s b] (u64s (addN p a b)) := by
  obtain ⟨L, hL⟩ : ∃ L, max a.length b.length = L := ⟨_, rfl⟩
  obtain ⟨f, hf⟩ : ∃ f : Nat → Nat, f = fun j => (a.getD j 0 + b.getD j 0) % p := ⟨_, rfl⟩
  have hall : tabK f L L = addL p a b := by rw [tabK_all, hf, ← hL]; rfl
  have hmax : (if (b.length : Int) > (a.length : Int) then (b.length : Int) else (a.length : Int)) = (L : Int) := by rw [← hL]; split <;> omega
  refine callSpec_of Tryd.pr Tryd.func83 rfl rfl rfl fun w0 ok0 hok hG => ?_
  refine ev_rs [] rfl trivial ?_
  refine ev_seq (ev_rs [] rfl trivial (ev_cf rfl (ev_sk ?_)))
  refine ev_rs [] rfl ?_ ?_
  · refine ⟨⟨?_, ?_, ?_⟩, trivial⟩
    all_goals
      show _ ≤ (_ : Int)
      first | exact Int.le_refl _ | skip
    · exact hmax ▸ Int.natCast_nonneg _
    · exact hmax ▸ (by omega : (L : Int) ≤ 1099511627776)
  refine ev_made 7 16 L rfl rfl (show (if (b.length : Int) > (a.length : Int) then (b.length : Int) else (a.length : Int)).toNat = _ by rw [hmax]; rfl) ?_
  refine ev_at (α := Unit) (fun _ => True) (fun _ => [(7, .p (u64s (addL p a b)))]) (fun _ => []) ?_ ?_
  · refine ev_rs [] rfl trivial ?_
    refine ev_block (ev_while (α := Nat) (fun i => i ≤ L) (fun i => [(0, .p (polyF p)), (1, .p (u64s a)), (2, .p (u64s b)), (7, .own 16 0 L 1), (18, .p (i64 L)), (19, .p (i64 i))]) (fun i => [(16, ob64 (tabK f L i))]) (fun i => L - i) 0
      (Nat.zero_le _) (wk_ob rfl (fun hd => ⟨le_refl hd _, le_refl hd _, le_refl hd _, le_o rfl, le_refl hd _, le_refl hd _, trivial⟩)) ?_)
    rintro i h1
    refine ev_rs [] rfl trivial (ev_seq (ev_cond rfl (fun h => ev_sk ?_) (fun h => ev_exit ?_)))
    · have hi : i < L := Int.ofNat_lt.mp (of_decide_eq_true h)
      have hck := length_tabK f L i
      have hfi : f i = (a.getD i 0 + b.getD i 0) % p := by rw [hf]
      refine ev_seq (ev_block ?_)
      refine ev_rs [] rfl trivial ?_
      refine ev_draw [u64 (a.getD i 0), u64 (b.getD i 0), u64 (f i)] (by kernel_rfl) rfl rfl ?_ ?_
      · rw [hfi]
        exact ⟨(by omega : i + 1 ≤ (tabK f L i).length), ⟨by omega, by omega⟩, .inl (Add_spec hm _ _), .inl (at_spec b i), .inl (at_spec a i), Nat.zero_lt_one, trivial⟩
      refine ev_set 16 i (f i) rfl rfl rfl (by omega) ?_
      exact ev_region [] rfl trivial ⟨i + 1, hi, by dsimp only; omega, wk_ob rfl (fun hd => ⟨le_refl hd _, le_refl hd _, le_refl hd _, le_o rfl, le_refl hd _, le_n hd (congrArg (fun z => PV.val (.int .i64 z)) (wrapI _ (by omega) (by omega))), trivial⟩)⟩
    · have hi : i = L := by
        have := of_decide_eq_false h
        omega
      subst hi
      exact at0 () trivial ⟨le_fz' rfl (length_tabK f i i).symm hall, trivial⟩
  rintro ⟨⟩ -
  exact ev_rs [u64s (addN p a b)] rfl ⟨.inl (trim_spec _ (by rw [length_addL]; omega)), trivial⟩ (ev_ret (ret1 (fz_p (PLe.refl _))))

theorem USub_spec {p : Nat} (hm : MayM p) (a b : List Nat) (hl : a.length < 1000000) (hl2 : b.length < 1000000) : CallSpec Tryd.pr.P Tryd.pr.G 32 [polyF p, u64s a, u64s b] (u64s (subN p a b)) := by
  obtain ⟨L, hL⟩ : ∃ L, max a.length b.length = L := ⟨_, rfl⟩
  obtain ⟨f, hf⟩ : ∃ f : Nat → Nat, f = fun j => sb (a.getD j 0) (b.getD j 0) p := ⟨_, rfl⟩
  have hall : tabK f L L = subL p a b := by rw [tabK_all, hf, ← hL]; rfl
  have hmax : (if (b.length : Int) > (a.length : Int) then (b.length : Int) else (a.length : Int)) = (L : Int) := by rw [← hL]; split <;> omega
  refine callSpec_of Tryd.pr Tryd.func32 rfl rfl rfl fun w0 ok0 hok hG => ?_
  refine ev_rs [] rfl trivial ?_
  refine ev_seq (ev_rs [] rfl trivial (ev_cf rfl (ev_sk ?_)))
  refine ev_rs [] rfl ?_ ?_
  · refine ⟨⟨?_, ?_, ?_⟩, trivial⟩
    all_goals
      show _ ≤ (_ : Int)
      first | exact Int.le_refl _ | skip
    · exact hmax ▸ Int.natCast_nonneg _
    · exact hmax ▸ (by omega : (L : Int) ≤ 1099511627776)
  refine ev_made 7 16 L rfl rfl (show (if (b.length : Int) > (a.length : Int) then (b.length : Int) else (a.length : Int)).toNat = _ by rw [hmax]; rfl) ?_
  refine ev_at (α := Unit) (fun _ => True) (fun _ => [(7, .p (u64s (subL p a b)))]) (fun _ => []) ?_ ?_
  · refine ev_rs [] rfl trivial ?_
    refine ev_block (ev_while (α := Nat) (fun i => i ≤ L) (fun i => [(0, .p (polyF p)), (1, .p (u64s a)), (2, .p (u64s b)), (7, .own 16 0 L 1), (18, .p (i64 L)), (19, .p (i64 i))]) (fun i => [(16, ob64 (tabK f L i))]) (fun i => L - i) 0
      (Nat.zero_le _) (wk_ob rfl (fun hd => ⟨le_refl hd _, le_refl hd _, le_refl hd _, le_o rfl, le_refl hd _, le_refl hd _, trivial⟩)) ?_)
    rintro i h1
    refine ev_rs [] rfl trivial (ev_seq (ev_cond rfl (fun h => ev_sk ?_) (fun h => ev_exit ?_)))
    · have hi : i < L := Int.ofNat_lt.mp (of_decide_eq_true h)
      have hck := length_tabK f L i
      have hfi : f i = sb (a.getD i 0) (b.getD i 0) p := by rw [hf]
      refine ev_seq (ev_block ?_)
      refine ev_rs [] rfl trivial ?_
      refine ev_draw [u64 (a.getD i 0), u64 (b.getD i 0), u64 (f i)] (by kernel_rfl) rfl rfl ?_ ?_
      · rw [hfi]
        exact ⟨(by omega : i + 1 ≤ (tabK f L i).length), ⟨by omega, by omega⟩, .inl (Sb_spec hm _ _), .inl (at_spec b i), .inl (at_spec a i), Nat.zero_lt_one, trivial⟩
      refine ev_set 16 i (f i) rfl rfl rfl (by omega) ?_
      exact ev_region [] rfl trivial ⟨i + 1, hi, by dsimp only; omega, wk_ob rfl (fun hd => ⟨le_refl hd _, le_refl hd _, le_refl hd _, le_o rfl, le_refl hd _, le_n hd (congrArg (fun z => PV.val (.int .i64 z)) (wrapI _ (by omega) (by omega))), trivial⟩)⟩
    · have hi : i = L := by
        have := of_decide_eq_false h
        omega
      subst hi
      exact at0 () trivial ⟨le_fz' rfl (length_tabK f i i).symm hall, trivial⟩
  rintro ⟨⟩ -
  exact ev_rs [u64s (subN p a b)] rfl ⟨.inl (trim_spec _ (by rw [length_subL]; omega)), trivial⟩ (ev_ret (ret1 (fz_p (PLe.refl _))))

theorem PLe.drop {xs : List Nat} {n : Nat} (hn : n ≤ xs.length) : PLe (.sl (xs.length - n) 1 (fun j => u64 (xs.getD (n + j) 0))) (u64s (xs.drop n)) :=
  PLe.words (by simp) (fun j hj => by
    rw [List.getD_eq_getElem?_getD, List.getD_eq_getElem?_getD, List.getElem?_drop])

theorem parted_spec (a : List Nat) (n : Nat) (hl : a.length < 1000000) (hn : 0 < n) : CallSpec Tryd.pr.P Tryd.pr.G 82 [u64s a, i64 n] (.tup 2 (two (u64s (a.take n)) (u64s (a.drop n)))) := by
  obtain ⟨m, rfl⟩ : ∃ m, n = m + 1 := ⟨n - 1, by omega⟩
  refine callSpec_of Tryd.pr Tryd.func82 rfl rfl rfl fun w0 ok0 hok hG => ?_
  refine ev_rs [] rfl trivial ?_
  refine ev_seq (ev_rs [] rfl trivial (ev_cond rfl (fun h => ?_) (fun h => ev_sk ?_)))
  · have hi : a.length ≤ m + 1 := Int.ofNat_le.mp (of_decide_eq_true h)
    rw [List.take_of_length_le hi, List.drop_eq_nil_of_le hi]
    exact ev_rs [] rfl trivial (ev_ret (ret2 (fz_p (PLe.refl _)) (fz_p PLe.nil)))
  · have hi : m + 1 ≤ a.length := by
      have := of_decide_eq_false h
      omega
    exact ev_ds [] (by kernel_rfl) rfl rfl ⟨⟨by omega, by omega⟩, ⟨by omega, by omega⟩, trivial⟩ (ev_ret (ret2 (fz_p (PLe.take hi)) (fz_p (PLe.drop hi))))

/-- The three parts of a product by halves. -/
def partOf (low mid high : List Nat) : Nat → List Nat
  | 0 => low
  | 1 => mid
  | _ => high

/-- What is laid, part by part. -/
def stage (p : Nat) (low mid high : List Nat) (n L : Nat) : Nat → List Nat
  | 0 => List.replicate L 0
  | i + 1 => accK p (partOf low mid high i) (i * n) (stage p low mid high n L i) (partOf low mid high i).length

theorem length_stage (p : Nat) (low mid high : List Nat) (n L : Nat) : ∀ i, (stage p low mid high n L i).length = L
  | 0 => List.length_replicate
  | i + 1 => by unfold stage; rw [length_accK, length_stage p low mid high n L i]

theorem half_small {p : Nat} (hm : MayM p) (a b : List Nat) (hl : a.length < 100000) (hl2 : b.length < 100000) (h0 : (a.length ≤ 16 ∧ b.length ≤ 16) ∨ a.length = 0 ∨ b.length = 0) : CallSpec Tryd.pr.P Tryd.pr.G 70 [polyF p, u64s a, u64s b] (u64s (oneN p a b)) := by
  refine callSpec_of Tryd.pr Tryd.func70 rfl rfl rfl fun w0 ok0 hok hG => ?_
  refine ev_rs [] rfl trivial ?_
  refine ev_rs [] rfl trivial ?_
  refine ev_seq (ev_rs [] rfl (by repeat' (first | exact trivial | exact gd_t | exact gd_f | exact (fun _ => rfl) | intro _ | apply And.intro | assumption | exact rfl | exact gd_t (by assumption) | exact gd_f (by assumption) | exact gd_a (by assumption) (by assumption) | exact gd_b (by assumption) (by assumption))) (ev_cond rfl (fun h => ?_) (fun h => ?_)))
  · exact ev_rs [u64s (oneN p a b)] rfl ⟨.inl (one_spec hm a b (by omega) (by omega)), trivial⟩ (ev_ret (ret1 (fz_p (PLe.refl _))))
  · exfalso
    have h : (bif (bif decide ((if (b.length : Int) > (a.length : Int) then (b.length : Int) else (a.length : Int)) ≤ 16) then true else (((a.length : Nat) : Int) == 0)) then true else (((b.length : Nat) : Int) == 0)) = false := h
    rcases h0 with h0 | h0 | h0
    · have e : decide ((if (b.length : Int) > (a.length : Int) then (b.length : Int) else (a.length : Int)) ≤ 16) = true := decide_eq_true (by split <;> omega)
      rw [e] at h
      cases h
    · rw [h0] at h
      cases hd : decide ((if (b.length : Int) > ((0 : Nat) : Int) then (b.length : Int) else ((0 : Nat) : Int)) ≤ 16) <;> rw [hd] at h <;> cases h
    · rw [h0] at h
      cases hd : (bif decide ((if ((0 : Nat) : Int) > (a.length : Int) then ((0 : Nat) : Int) else (a.length : Int)) ≤ 16) then true else (((a.length : Nat) : Int) == 0)) <;> rw [hd] at h <;> cases h

theorem length_addN (p : Nat) (a b : List Nat) : (addN p a b).length ≤ max a.length b.length := by
  unfold addN
  rw [length_trimN, ← length_addL p]
  exact trimL_le _ _

theorem length_subN (p : Nat) (a b : List Nat) : (subN p a b).length ≤ max a.length b.length := by
  unfold subN
  rw [length_trimN, ← length_subL p]
  exact trimL_le _ _

theorem half_all {p : Nat} (hm : MayM p) : ∀ (N : Nat) (a b : List Nat), max a.length b.length ≤ N → N < 100000 → CallSpec Tryd.pr.P Tryd.pr.G 70 [polyF p, u64s a, u64s b] (u64s (oneN p a b)) := by
  intro N
  induction N using Nat.strongRecOn with
  | ind N ih =>
  intro a b hN hN2
  by_cases h0 : (a.length ≤ 16 ∧ b.length ≤ 16) ∨ a.length = 0 ∨ b.length = 0
  · exact half_small hm a b (by omega) (by omega) h0
  have hp0 : 0 < p := by have := hm.1; omega
  obtain ⟨M, hM⟩ : ∃ M, max a.length b.length = M := ⟨_, rfl⟩
  obtain ⟨n, hn⟩ : ∃ n, (M + 1) / 2 = n := ⟨_, rfl⟩
  obtain ⟨L, hL⟩ : ∃ L, a.length + b.length - 1 = L := ⟨_, rfl⟩
  have hmax : (if (b.length : Int) > (a.length : Int) then (b.length : Int) else (a.length : Int)) = (M : Int) := by rw [← hM]; split <;> omega
  have ha1 : (a.take n).length ≤ n := by rw [List.length_take]; omega
  have hb1 : (b.take n).length ≤ n := by rw [List.length_take]; omega
  have ha2 : (a.drop n).length ≤ n := by rw [List.length_drop]; omega
  have hb2 : (b.drop n).length ≤ n := by rw [List.length_drop]; omega
  have hla := length_addN p (a.take n) (a.drop n)
  have hlb := length_addN p (b.take n) (b.drop n)
  have hlow := ih n (by omega) (a.take n) (b.take n) (by omega) (by omega)
  have hhigh := ih n (by omega) (a.drop n) (b.drop n) (by omega) (by omega)
  have hmid0 := ih n (by omega) (addN p (a.take n) (a.drop n)) (addN p (b.take n) (b.drop n)) (by omega) (by omega)
  have hjoin := join_all hp0 a b n (by omega) (by omega) (by omega)
  have l1 := low_len p a b n (by omega) (by omega)
  have l2 := mid_len' hp0 a b n (by omega) (by omega) (by omega)
  have l3 : (oneN p (a.drop n) (b.drop n)).length = 0 ∨ 2 * n + (oneN p (a.drop n) (b.drop n)).length ≤ L := by
    rw [length_oneN', List.length_drop, List.length_drop]
    split
    · exact .inl rfl
    · exact .inr (by omega)
  rw [hL] at l1 l2
  have hlm : (oneN p (addN p (a.take n) (a.drop n)) (addN p (b.take n) (b.drop n))).length ≤ 2 * n := by
    have := length_oneN p (addN p (a.take n) (a.drop n)) (addN p (b.take n) (b.drop n))
    omega
  have hll : (oneN p (a.take n) (b.take n)).length ≤ 2 * n := by
    have := length_oneN p (a.take n) (b.take n)
    omega
  have hlh : (oneN p (a.drop n) (b.drop n)).length ≤ 2 * n := by
    have := length_oneN p (a.drop n) (b.drop n)
    omega
  have hls1 := length_subN p (oneN p (addN p (a.take n) (a.drop n)) (addN p (b.take n) (b.drop n))) (oneN p (a.take n) (b.take n))
  have hmidE : midN p a b n = subN p (subN p (oneN p (addN p (a.take n) (a.drop n)) (addN p (b.take n) (b.drop n))) (oneN p (a.take n) (b.take n))) (oneN p (a.drop n) (b.drop n)) := rfl
  have hjoinE : joinN p a b n = accK p (oneN p (a.drop n) (b.drop n)) (2 * n) (accK p (midN p a b n) (1 * n) (accK p (oneN p (a.take n) (b.take n)) (0 * n) (List.replicate L 0) (oneN p (a.take n) (b.take n)).length) (midN p a b n).length) (oneN p (a.drop n) (b.drop n)).length := by rw [← hL]; rfl
  have hP1 := parted_spec a n (by omega) (by omega)
  have hP2 := parted_spec b n (by omega) (by omega)
  have hA1 := UAdd_spec hm (a.take n) (a.drop n) (by omega) (by omega)
  have hA2 := UAdd_spec hm (b.take n) (b.drop n) (by omega) (by omega)
  have hS1 := USub_spec hm (oneN p (addN p (a.take n) (a.drop n)) (addN p (b.take n) (b.drop n))) (oneN p (a.take n) (b.take n)) (by omega) (by omega)
  have hS2 := USub_spec hm (subN p (oneN p (addN p (a.take n) (a.drop n)) (addN p (b.take n) (b.drop n))) (oneN p (a.take n) (b.take n))) (oneN p (a.drop n) (b.drop n)) (by omega) (by omega)
  rw [← hmidE] at hS2
  rw [← hjoin, hjoinE]
  clear hmidE hjoinE hjoin hlm hll hlh hla hlb
  generalize oneN p (addN p (a.take n) (a.drop n)) (addN p (b.take n) (b.drop n)) = mid0 at *
  generalize addN p (a.take n) (a.drop n) = sa at *
  generalize addN p (b.take n) (b.drop n) = sb' at *
  generalize oneN p (a.take n) (b.take n) = low at *
  generalize oneN p (a.drop n) (b.drop n) = high at *
  generalize midN p a b n = mid at *
  generalize subN p mid0 low = sub1 at *
  generalize a.take n = al at *
  generalize a.drop n = ah at *
  generalize b.take n = bl at *
  generalize b.drop n = bh at *
  have hstage : stage p low mid high n L 3 = accK p high (2 * n) (accK p mid (1 * n) (accK p low (0 * n) (List.replicate L 0) low.length) mid.length) high.length := rfl
  rw [← hstage]
  have hbnd : ∀ i, i < 3 → ∀ k, k < (partOf low mid high i).length → i * n + k < L := fun i hi k hk => by
    match i, hi with
    | 0, _ => have hk : k < low.length := hk; omega
    | 1, _ => have hk : k < mid.length := hk; omega
    | 2, _ => have hk : k < high.length := hk; omega
  have e1 : IntKind.wrap .i64 ((IntKind.wrap .i64 ((M : Int) + 1)).tdiv 2) = (n : Int) := by
    rw [wrapI ((M : Int) + 1) (by omega) (by omega)]
    have : ((M : Int) + 1).tdiv 2 = ((M + 1) / 2 : Nat) := rfl
    rw [this, hn, wrapI _ (by omega) (by omega)]
  have e2 : IntKind.wrap .i64 (IntKind.wrap .i64 ((a.length : Int) + (b.length : Int)) - 1) = (L : Int) := by
    rw [wrapI ((a.length : Int) + (b.length : Int)) (by omega) (by omega), wrapI _ (by omega) (by omega)]; omega
  refine callSpec_of Tryd.pr Tryd.func70 rfl rfl rfl fun w0 ok0 hok hG => ?_
  refine ev_rs [] rfl trivial ?_
  refine ev_rs [] rfl trivial (ev_eq 7 (.p (i64 M)) (congrArg (fun z => AV.p (PV.val (.int .i64 z))) hmax) ?_)
  have hc : (bif (bif decide ((M : Int) ≤ 16) then true else (((a.length : Nat) : Int) == 0)) then true else (((b.length : Nat) : Int) == 0)) = false := by
    rw [decide_eq_false (by omega), beq_eq_false_iff_ne.mpr (by omega), beq_eq_false_iff_ne.mpr (by omega)]
    rfl
  refine ev_seq (ev_rs [] rfl (by repeat' (first | exact trivial | exact gd_t | exact gd_f | exact (fun _ => rfl) | intro _ | apply And.intro | assumption | exact rfl | exact gd_t (by assumption) | exact gd_f (by assumption) | exact gd_a (by assumption) (by assumption) | exact gd_b (by assumption) (by assumption))) (ev_cf (congrArg (fun z => AV.p (PV.val (.bool z))) hc) (ev_sk ?_)))
  refine ev_rs [] rfl ⟨by decide, trivial⟩ (ev_eq 7 (.p (i64 n)) (congrArg (fun z => AV.p (PV.val (.int .i64 z))) e1) ?_)
  refine ev_rs [.tup 2 (two (u64s al) (u64s ah))] rfl ⟨.inl hP1, trivial⟩ ?_
  refine ev_rs [.tup 2 (two (u64s bl) (u64s bh))] rfl ⟨.inl hP2, trivial⟩ ?_
  refine ev_rs [u64s low, u64s high] rfl ⟨.inl hhigh, .inl hlow, trivial⟩ ?_
  refine ev_rs [u64s sa, u64s sb', u64s mid0] rfl ⟨.inl hmid0, .inl hA2, .inl hA1, trivial⟩ ?_
  refine ev_rs [u64s sub1, u64s mid] rfl ⟨.inl hS2, .inl hS1, trivial⟩ ?_
  refine ev_wk (σ' := mk [(0, .p (polyF p)), (1, .p (u64s a)), (2, .p (u64s b)), (7, .p (i64 n)), (12, .p (u64s low)), (13, .p (u64s high)), (14, .p (u64s mid))] []) (wk (fun i => i) ⟨le_0, le_0, le_0, le_0, le_0, le_0, le_0, trivial⟩ trivial rfl) ?_
  refine ev_rs [] rfl ?_ ?_
  · rw [e2]
    exact ⟨⟨by omega, by omega, by omega⟩, trivial⟩
  refine ev_made 15 87 L rfl rfl (show (IntKind.wrap .i64 (IntKind.wrap .i64 ((a.length : Int) + (b.length : Int)) - 1)).toNat = _ by rw [e2]; rfl) ?_
  refine ev_at (α := Unit) (fun _ => True) (fun _ => [(15, .own 87 0 L 1)]) (fun _ => [(87, ob64 (stage p low mid high n L 3))]) ?_ ?_
  · refine ev_rs [] rfl trivial ?_
    refine ev_block (ev_while (α := Nat) (fun i => i ≤ 3) (fun i => [(0, .p (polyF p)), (7, .p (i64 n)), (15, .own 87 0 L 1), (91, .p (.sl 3 1 (fun j => u64s (partOf low mid high j)))), (92, .p (i64 (3 : Nat))), (93, .p (i64 i))]) (fun i => [(87, ob64 (stage p low mid high n L i))]) (fun i => 3 - i) 0
      (Nat.zero_le _) (wk1 _ rfl (Nat.le_refl _) (fun hr j _ => le_refl hr _) (fun hd => ⟨le_refl hd _, le_refl hd _, le_o rfl, le_freeze (i := 91) (off := 0) hd rfl (Nat.le_refl 3) (fun k hk => ?_) (fun j hj => ?_), le_refl hd _, le_refl hd _, trivial⟩)) ?_)
    · have := hOf_mem k hk
      simp at this
      show k ≠ 91
      omega
    · match j, hj with
      | 0, _ => exact le_refl hd _
      | 1, _ => exact le_refl hd _
      | 2, _ => exact le_refl hd _
    rintro i h1
    refine ev_rs [] rfl trivial (ev_seq (ev_cond rfl (fun h => ev_sk ?_) (fun h => ev_exit ?_)))
    · have hi : i < 3 := Int.ofNat_lt.mp (of_decide_eq_true h)
      obtain ⟨part, hpart⟩ : ∃ part, partOf low mid high i = part := ⟨_, rfl⟩
      have hb := hbnd i hi
      have hsl := length_stage p low mid high n L i
      have hst : stage p low mid high n L (i + 1) = accK p (partOf low mid high i) (i * n) (stage p low mid high n L i) (partOf low mid high i).length := rfl
      have hpl : (partOf low mid high i).length < 1000000 := by
        rcases Nat.eq_zero_or_pos (partOf low mid high i).length with h | h
        · omega
        · have := hb ((partOf low mid high i).length - 1) (by omega)
          omega
      have hin : i * n < 1000000 := by
        have : i * n ≤ 2 * n := Nat.mul_le_mul_right _ (by omega)
        omega
      rw [hpart] at hb hst hpl
      refine ev_seq (ev_block ?_)
      refine ev_rs [] rfl ⟨hi, ⟨by omega, by omega⟩, trivial⟩ (ev_eq 17 (.p (u64s part)) (congrArg (fun l => AV.p (u64s l)) hpart) ?_)
      refine ev_rs [] rfl trivial ?_
      refine ev_block (ev_while (α := Nat) (fun k => k ≤ part.length) (fun k => [(0, .p (polyF p)), (7, .p (i64 n)), (15, .own 87 0 L 1), (16, .p (i64 i)), (91, .p (.sl 3 1 (fun j => u64s (partOf low mid high j)))), (92, .p (i64 (3 : Nat))), (93, .p (i64 i)), (98, .p (u64s part)), (99, .p (i64 part.length)), (100, .p (i64 k))])
        (fun k => [(87, ob64 (accK p part (i * n) (stage p low mid high n L i) k))]) (fun k => part.length - k) 0
        (Nat.zero_le _) (wk_ob rfl (fun hd => ⟨le_refl hd _, le_refl hd _, le_o rfl, le_refl hd _, le_refl hd _, le_refl hd _, le_refl hd _, le_refl hd _, le_refl hd _, le_refl hd _, trivial⟩)) ?_)
      rintro k h2
      refine ev_rs [] rfl trivial (ev_seq (ev_cond rfl (fun h => ev_sk ?_) (fun h => ev_exit ?_)))
      · have hk : k < part.length := Int.ofNat_lt.mp (of_decide_eq_true h)
        have hbk := hb k hk
        obtain ⟨o, ho⟩ : ∃ o, accK p part (i * n) (stage p low mid high n L i) k = o := ⟨_, rfl⟩
        have hol : o.length = L := by rw [← ho, length_accK, hsl]
        have e3 : IntKind.wrap .i64 (IntKind.wrap .i64 ((i : Int) * (n : Int)) + (k : Int)) = ((i * n + k : Nat) : Int) := by
          rw [← Int.natCast_mul, wrapI ((i * n : Nat) : Int) (by omega) (by omega), wrapI _ (by omega) (by omega)]; omega
        refine ev_seq (ev_block ?_)
        refine ev_ob 87 (ob64 o) (congrArg (fun l => some (ob64 l)) ho) ?_
        refine ev_rs [] rfl ⟨hk, ⟨by omega, by omega⟩, trivial⟩ ?_
        refine ev_rs [] rfl trivial (ev_cond rfl (fun h => ?_) (fun h => ?_))
        · have hne : part.getD k 0 ≠ 0 := fun e => (bne_iff_ne.mp h) (Int.ofNat_inj.mpr e)
          have hsk : accK p part (i * n) (stage p low mid high n L i) (k + 1) = o.set (i * n + k) ((o.getD (i * n + k) 0 + part.getD k 0) % p) := by rw [← ho]; exact if_neg hne
          refine ev_draw [u64 ((o.getD (i * n + k) 0 + part.getD k 0) % p)] (by kernel_rfl) rfl rfl ?_ ?_
          · rw [e3]
            exact ⟨(by omega : i * n + k + 1 ≤ o.length), ⟨by omega, by omega⟩, .inl (Add_spec hm _ _), (by omega : i * n + k < o.length), ⟨by omega, by omega⟩, Nat.zero_lt_one, trivial⟩
          refine ev_set 87 (i * n + k) ((o.getD (i * n + k) 0 + part.getD k 0) % p) rfl (by show (IntKind.wrap .i64 (IntKind.wrap .i64 ((i : Int) * (n : Int)) + (k : Int))).toNat = _; rw [e3]; rfl) rfl (by omega) ?_
          exact ev_region [] rfl trivial ⟨k + 1, hk, by dsimp only; omega, wk_ob (congrArg (fun l => some (ob64 l)) hsk.symm) (fun hd => ⟨le_refl hd _, le_refl hd _, le_o rfl, le_refl hd _, le_refl hd _, le_refl hd _, le_refl hd _, le_refl hd _, le_refl hd _, le_n hd (congrArg (fun z => PV.val (.int .i64 z)) (wrapI _ (by omega) (by omega))), trivial⟩)⟩
        · have heq : part.getD k 0 = 0 := Int.ofNat_inj.mp (bne_eq_false_iff_eq.mp h)
          have hsk : accK p part (i * n) (stage p low mid high n L i) (k + 1) = o := by rw [← ho]; exact if_pos heq
          refine ev_skip ?_
          exact ev_region [] rfl trivial ⟨k + 1, hk, by dsimp only; omega, wk_ob (congrArg (fun l => some (ob64 l)) hsk.symm) (fun hd => ⟨le_refl hd _, le_refl hd _, le_o rfl, le_refl hd _, le_refl hd _, le_refl hd _, le_refl hd _, le_refl hd _, le_refl hd _, le_n hd (congrArg (fun z => PV.val (.int .i64 z)) (wrapI _ (by omega) (by omega))), trivial⟩)⟩
      · have hk : k = part.length := by
          have := of_decide_eq_false h
          omega
        subst hk
        exact ev_region [] rfl trivial ⟨i + 1, hi, by dsimp only; omega, wk_ob (congrArg (fun l => some (ob64 l)) hst.symm) (fun hd => ⟨le_refl hd _, le_refl hd _, le_o rfl, le_refl hd _, le_refl hd _, le_n hd (congrArg (fun z => PV.val (.int .i64 z)) (wrapI _ (by omega) (by omega))), trivial⟩)⟩
    · have hi : i = 3 := by
        have := of_decide_eq_false h
        omega
      subst hi
      exact at_ob () trivial rfl (fun hd => ⟨le_o rfl, trivial⟩)
  rintro ⟨⟩ -
  exact ev_rs [] rfl trivial (ev_ret (ret1 (fz_ob' rfl (length_stage p low mid high n L 3).symm rfl)))

theorem half_spec' {p : Nat} (hm : MayM p) (a b : List Nat) (hl : a.length < 50000) (hl2 : b.length < 50000) : CallSpec Tryd.pr.P Tryd.pr.G 70 [polyF p, u64s a, u64s b] (u64s (oneN p a b)) := half_all hm _ a b (Nat.le_refl _) (by omega)

theorem times_all {p : Nat} (hm : MayM p) (a b : List Nat) (hl : a.length < 50000) (hl2 : b.length < 50000) : CallSpec Tryd.pr.P Tryd.pr.G 49 [polyF p, u64s a, u64s b] (u64s (timesN p a b)) := by
  refine callSpec_of Tryd.pr Tryd.func49 rfl rfl rfl fun w0 ok0 hok hG => ?_
  refine ev_rs [] rfl trivial ?_
  have := length_oneN p a b
  exact ev_rs [u64s (oneN p a b), u64s (timesN p a b)] rfl ⟨.inl (trim_spec _ (by omega)), .inl (half_spec' hm a b hl hl2), trivial⟩ (ev_ret (ret1 (fz_p (PLe.refl _))))

end Go.Proofs

/- The reference of upoly, walked. -/
set_option linter.unusedVariables false
namespace Go.Proofs
open Go Vinc Vinc.Num

theorem tabL_scale (p : Nat) (a : List Nat) (x : Nat) : tabL (fun i => a.getD i 0 * x % p) a.length = scaleL p a x := by
  refine list_eq (by simp [tabL, scaleL]) fun j hj => ?_
  have hj : j < a.length := by simpa [tabL] using hj
  rw [getD_tabL, if_pos hj]
  unfold scaleL
  simp [List.getD_eq_getElem?_getD, hj]

theorem tabL_map (p : Nat) (a : List Nat) : tabL (fun i => a.getD i 0 % p) a.length = a.map (· % p) := by
  refine list_eq (by simp [tabL]) fun j hj => ?_
  have hj : j < a.length := by simpa [tabL] using hj
  rw [getD_tabL, if_pos hj]
  simp [List.getD_eq_getElem?_getD, hj]

theorem length_tabL (f : Nat → Nat) (n : Nat) : (tabL f n).length = n := by simp [tabL]

theorem RNorm_spec {p : Nat} (hm : MayM p) (a : List Nat) (hl : a.length < 1000000) : CallSpec Tryd.pr.P Tryd.pr.G 11 [u64s a, u64 p] (u64s (normN p a)) := by
  have hp0 := hm.1
  obtain ⟨ms, hms⟩ : ∃ ms, a.map (· % p) = ms := ⟨_, rfl⟩
  have hml : ms.length = a.length := by rw [← hms, List.length_map]
  obtain ⟨f, hf⟩ : ∃ f : Nat → Nat, f = fun i => a.getD i 0 % p := ⟨_, rfl⟩
  have hall : tabL f a.length = ms := by rw [hf, tabL_map, hms]
  have hN : normN p a = ms.take (trimL ms ms.length) := by unfold normN trimN; rw [hms]
  rw [hN]
  refine callSpec_of Tryd.pr Tryd.func11 rfl rfl rfl fun w0 ok0 hok hG => ?_
  refine ev_rs [] rfl trivial ?_
  refine ev_rs [] rfl trivial (ev_nilown 5 5 rfl rfl ?_)
  refine ev_at (α := Unit) (fun _ => True) (fun _ => [(5, .p (u64s ms))]) (fun _ => []) ?_ ?_
  · refine ev_rs [] rfl trivial ?_
    refine ev_block (ev_while (α := Nat) (fun i => i ≤ a.length) (fun i => [(0, .p (u64s a)), (1, .p (u64 p)), (5, .own 5 0 i 1), (6, .p (i64 i))]) (fun i => [(5, ob64 (tabL f i))]) (fun i => a.length - i) 0
      (Nat.zero_le _) (wk_ob rfl (fun hd => ⟨le_refl hd _, le_refl hd _, le_o rfl, le_refl hd _, trivial⟩)) ?_)
    rintro i h1
    refine ev_seq (ev_rs [] rfl trivial (ev_cond rfl (fun h => ev_sk ?_) (fun h => ev_exit ?_)))
    · have hi : i < a.length := Int.ofNat_lt.mp (of_decide_eq_true h)
      have htl := length_tabL f i
      have hfi : f i = a.getD i 0 % p := by rw [hf]
      refine ev_seq (ev_block ?_)
      refine ev_region [] rfl ?_ (ev_app 5 21 (tabL f i) [f i] rfl rfl (by rw [htl]; rfl) (by show i + 1 = _; rw [htl]; rfl) htl.symm (fun j hj => rfl) (fun j hj => ?_) ?_)
      · exact ⟨⟨by omega, htl, Nat.le_refl 1⟩, by simp; omega, hi, ⟨by omega, by omega⟩, trivial⟩
      · match j, hj with
        | 0, _ => rw [hfi]; rfl
      have hst : tabL f i ++ [f i] = tabL f (i + 1) := (tabL_snoc f i).symm
      exact ev_region [] rfl trivial ⟨i + 1, hi, by dsimp only; omega, wk_ren (i' := 21) (congrArg (fun l => some (ob64 l)) hst) (fun hd => ⟨le_refl hd _, le_refl hd _, le_ren rfl (by rw [hst, length_tabL]), le_n hd (congrArg (fun z => PV.val (.int .i64 z)) (wrapI _ (by omega) (by omega))), trivial⟩)⟩
    · have hi : i = a.length := by
        have := of_decide_eq_false h
        omega
      subst hi
      exact at0 () trivial ⟨le_fz' rfl (length_tabL f a.length).symm hall, trivial⟩
  rintro ⟨⟩ -
  have ht := trimL_le ms ms.length
  refine ev_at (α := Unit) (fun _ => True) (fun _ => [(5, .p (.sl (trimL ms ms.length) 1 (fun j => u64 (ms.getD j 0))))]) (fun _ => []) ?_ ?_
  · refine ev_block (ev_while0 (α := Nat) (fun n => n ≤ ms.length ∧ trimL ms n = trimL ms ms.length) (fun n => [(5, .p (.sl n 1 (fun j => u64 (ms.getD j 0))))]) (fun n => n) ms.length ⟨Nat.le_refl _, rfl⟩ ⟨le_0, trivial⟩ ?_)
    rintro n ⟨h1, h2⟩
    cases n with
    | zero =>
      exact ev_seq (ev_rs [] rfl (by repeat' (first | exact trivial | exact gd_t | exact gd_f | exact fun h => absurd h (by decide) | exact (fun _ => rfl) | intro _ | apply And.intro | assumption | exact rfl | exact gd_t (by assumption) | exact gd_f (by assumption) | exact gd_a (by assumption) (by assumption) | exact gd_b (by assumption) (by assumption))) (ev_cf rfl (ev_exit (at0 () trivial ⟨le_e (congrArg (fun z : Nat => PV.sl z 1 (fun j => u64 (ms.getD j 0))) h2), trivial⟩))))
    | succ n =>
      have e1 : IntKind.wrap .i64 (((n + 1 : Nat) : Int) - 1) = (n : Int) := by rw [wrapI _ (by omega) (by omega)]; omega
      have hpos : decide (((n + 1 : Nat) : Int) > 0) = true := decide_eq_true (by omega)
      have hn1 : n < n + 1 := Nat.lt_succ_self n
      refine ev_seq (ev_rs [] rfl ?_ (ev_cond rfl (fun h => ev_sk ?_) (fun h => ev_exit ?_)))
      · rw [e1]
        exact (by repeat' (first | exact trivial | exact gd_t | exact gd_f | exact hn1 | exact Int.natCast_nonneg _ | exact Int.ofNat_lt.mpr hn1 | exact (fun _ => rfl) | intro _ | apply And.intro | assumption | exact rfl | exact gd_t (by assumption) | exact gd_f (by assumption) | exact gd_a (by assumption) (by assumption) | exact gd_b (by assumption) (by assumption)))
      · rw [hpos, e1] at h
        have h0 : ms.getD n 0 = 0 := Int.ofNat_inj.mp (beq_iff_eq.mp h)
        refine ev_block (ev_region [] rfl ?_ (round0 n ⟨by omega, ?_⟩ (Nat.lt_succ_self n) ⟨le_e (congrArg (fun z : Int => PV.sl z.toNat 1 (fun j => u64 (ms.getD j 0))) e1), trivial⟩))
        · rw [e1]
          exact ⟨⟨by omega, by omega⟩, trivial⟩
        rw [← h2]
        show _ = if ms.getD n 0 = 0 then trimL ms n else n + 1
        rw [if_pos h0]
      · rw [hpos, e1] at h
        have h0 : ¬ ms.getD n 0 = 0 := fun e => (beq_eq_false_iff_ne.mp h) (Int.ofNat_inj.mpr e)
        refine at0 () trivial ⟨le_e (congrArg (fun z : Nat => PV.sl z 1 (fun j => u64 (ms.getD j 0))) ?_), trivial⟩
        rw [← h2]
        show _ = if ms.getD n 0 = 0 then trimL ms n else n + 1
        rw [if_neg h0]
  rintro ⟨⟩ -
  exact ev_rs [] rfl trivial (ev_ret (ret1 (fz_p (PLe.take ht))))

theorem length_normN (p : Nat) (a : List Nat) : (normN p a).length ≤ a.length := by
  unfold normN
  rw [length_trimN]
  have := trimL_le (a.map (· % p)) (a.map (· % p)).length
  rw [List.length_map] at this ⊢
  exact this

theorem length_rAdd (p : Nat) (a b : List Nat) : (rAdd p a b).length ≤ max a.length b.length := by
  have := length_normN p (addL p a b)
  rwa [length_addL] at this

theorem length_rSub (p : Nat) (a b : List Nat) : (rSub p a b).length ≤ max a.length b.length := by
  have h1 := length_rAdd p a (rScale p b (p - 1))
  have h2 := length_normN p (scaleL p b (p - 1))
  rw [length_scaleL] at h2
  have h1 : (rSub p a b).length ≤ max a.length (rScale p b (p - 1)).length := h1
  have h2 : (rScale p b (p - 1)).length ≤ b.length := h2
  omega

def W64 (xs : List Nat) : Prop := ∀ j, xs.getD j 0 < 18446744073709551616

theorem Mul06_spec {p : Nat} (hm : MayM p) (a b : List Nat) (hl : a.length < 100000) (hl2 : b.length < 100000) (hw : W64 b) : CallSpec Tryd.pr.P Tryd.pr.G 52 [u64s a, u64s b, u64 p] (u64s (oneN p a b)) := by
  refine callSpec_of Tryd.pr Tryd.func52 rfl rfl rfl fun w0 ok0 hok hG => ?_
  refine ev_rs [] rfl trivial ?_
  refine ev_seq (ev_rs [] rfl (by repeat' (first | exact trivial | exact gd_t | exact gd_f | exact (fun _ => rfl) | intro _ | apply And.intro | assumption | exact rfl | exact gd_t (by assumption) | exact gd_f (by assumption) | exact gd_a (by assumption) (by assumption) | exact gd_b (by assumption) (by assumption))) (ev_cond rfl (fun h => ?_) (fun h => ev_sk ?_)))
  · have h0 : a.length = 0 ∨ b.length = 0 := by
      by_cases ha : a.length = 0
      · exact .inl ha
      · right
        have e : (((a.length : Nat) : Int) == 0) = false := beq_eq_false_iff_ne.mpr (by omega)
        rw [e] at h
        exact Int.ofNat_inj.mp (beq_iff_eq.mp h)
    have e : oneN p a b = [] := if_pos h0
    rw [e]
    exact ev_rs [] rfl trivial (ev_ret (ret1 (fz_p PLe.nil)))
  have h0 : ¬ (a.length = 0 ∨ b.length = 0) := by
    rintro (e | e)
    · rw [e] at h; cases h
    · rw [e] at h
      cases hd : (((a.length : Nat) : Int) == 0) <;> rw [hd] at h <;> cases h
  have e0 : oneN p a b = oneO p a b a.length := if_neg h0
  rw [e0]
  have e1 : IntKind.wrap .i64 (IntKind.wrap .i64 ((a.length : Int) + (b.length : Int)) - 1) = ((a.length + b.length - 1 : Nat) : Int) := by
    rw [wrapI ((a.length : Int) + (b.length : Int)) (by omega) (by omega), wrapI _ (by omega) (by omega)]; omega
  obtain ⟨L, hL⟩ : ∃ L, a.length + b.length - 1 = L := ⟨_, rfl⟩
  refine ev_rs [] rfl ?_ ?_
  · rw [e1]
    exact ⟨⟨by omega, by omega, by omega⟩, trivial⟩
  refine ev_made 7 24 L rfl rfl (show (IntKind.wrap .i64 (IntKind.wrap .i64 ((a.length : Int) + (b.length : Int)) - 1)).toNat = _ by rw [e1]; exact hL) ?_
  refine ev_at (α := Unit) (fun _ => True) (fun _ => [(7, .own 24 0 L 1)]) (fun _ => [(24, ob64 (oneO p a b a.length))]) ?_ ?_
  · refine ev_rs [] rfl trivial ?_
    refine ev_block (ev_while (α := Nat) (fun i => i ≤ a.length) (fun i => [(0, .p (u64s a)), (1, .p (u64s b)), (2, .p (u64 p)), (7, .own 24 0 L 1), (8, .p (i64 i))]) (fun i => [(24, ob64 (oneO p a b i))]) (fun i => a.length - i) 0
      (Nat.zero_le _) (wk_ob (congrArg (fun l => some (ob64 (List.replicate l 0))) hL.symm) (fun hd => ⟨le_refl hd _, le_refl hd _, le_refl hd _, le_o rfl, le_refl hd _, trivial⟩)) ?_)
    rintro i h1
    refine ev_seq (ev_rs [] rfl trivial (ev_cond rfl (fun h => ev_sk ?_) (fun h => ev_exit ?_)))
    · have hi : i < a.length := Int.ofNat_lt.mp (of_decide_eq_true h)
      refine ev_seq (ev_block ?_)
      refine ev_rs [] rfl trivial ?_
      refine ev_block (ev_while (α := Nat) (fun k => k ≤ b.length) (fun k => [(0, .p (u64s a)), (1, .p (u64s b)), (2, .p (u64 p)), (7, .own 24 0 L 1), (8, .p (i64 i)), (9, .p (i64 k))])
        (fun k => [(24, ob64 (oneI p (a.getD i 0) b i (oneO p a b i) k))]) (fun k => b.length - k) 0
        (Nat.zero_le _) (wk_ob rfl (fun hd => ⟨le_refl hd _, le_refl hd _, le_refl hd _, le_o rfl, le_refl hd _, le_refl hd _, trivial⟩)) ?_)
      rintro k h2
      refine ev_seq (ev_rs [] rfl trivial (ev_cond rfl (fun h => ev_sk ?_) (fun h => ev_exit ?_)))
      · have hk : k < b.length := Int.ofNat_lt.mp (of_decide_eq_true h)
        refine ev_seq (ev_block ?_)
        have e2 : IntKind.wrap .i64 ((i : Int) + (k : Int)) = ((i + k : Nat) : Int) := by rw [wrapI _ (by omega) (by omega)]; rfl
        have hck : (oneI p (a.getD i 0) b i (oneO p a b i) k).length = L := by rw [length_oneI, length_oneO, hL]
        obtain ⟨o, ho⟩ : ∃ o, oneI p (a.getD i 0) b i (oneO p a b i) k = o := ⟨_, rfl⟩
        have hst : oneI p (a.getD i 0) b i (oneO p a b i) (k + 1) = o.set (i + k) ((o.getD (i + k) 0 + a.getD i 0 * b.getD k 0 % p) % p) := by rw [← ho]; rfl
        rw [ho] at hck
        refine ev_ob 24 (ob64 o) (congrArg (fun l => some (ob64 l)) ho) ?_
        refine ev_draw [u64 (a.getD i 0 * b.getD k 0 % p), u64 ((o.getD (i + k) 0 + a.getD i 0 * b.getD k 0 % p) % p)] (by kernel_rfl) rfl rfl ?_ ?_
        · rw [e2]
          exact ⟨(by omega : i + k + 1 ≤ o.length), ⟨by omega, by omega⟩, .inl (RefAdd_spec hm _ _), .inl (RefMul_spec hm _ _ (hw k)), hk, ⟨by omega, by omega⟩, hi, ⟨by omega, by omega⟩, (by omega : i + k < o.length), ⟨by omega, by omega⟩, trivial⟩
        refine ev_set 24 (i + k) ((o.getD (i + k) 0 + a.getD i 0 * b.getD k 0 % p) % p) rfl (by show (IntKind.wrap .i64 ((i : Int) + (k : Int))).toNat = _; rw [e2]; rfl) rfl (by omega) ?_
        exact ev_region [] rfl trivial ⟨k + 1, hk, by dsimp only; omega, wk_ob (congrArg (fun l => some (ob64 l)) hst.symm) (fun hd => ⟨le_refl hd _, le_refl hd _, le_refl hd _, le_o rfl, le_refl hd _, le_n hd (congrArg (fun z => PV.val (.int .i64 z)) (wrapI _ (by omega) (by omega))), trivial⟩)⟩
      · have hk : k = b.length := by
          have := of_decide_eq_false h
          omega
        subst hk
        exact ev_region [] rfl trivial ⟨i + 1, hi, by dsimp only; omega, wk_ob rfl (fun hd => ⟨le_refl hd _, le_refl hd _, le_refl hd _, le_o rfl, le_n hd (congrArg (fun z => PV.val (.int .i64 z)) (wrapI _ (by omega) (by omega))), trivial⟩)⟩
    · have hi : i = a.length := by
        have := of_decide_eq_false h
        omega
      subst hi
      exact at_ob () trivial rfl (fun hd => ⟨le_o rfl, trivial⟩)
  rintro ⟨⟩ -
  exact ev_rs [] rfl trivial (ev_ret (ret1 (fz_ob' rfl (by rw [length_oneO, hL]) rfl)))

theorem RMul_spec {p : Nat} (hm : MayM p) (a b : List Nat) (hl : a.length < 100000) (hl2 : b.length < 100000) (hw : W64 b) : CallSpec Tryd.pr.P Tryd.pr.G 33 [u64s a, u64s b, u64 p] (u64s (rMul p a b)) := by
  refine callSpec_of Tryd.pr Tryd.func33 rfl rfl rfl fun w0 ok0 hok hG => ?_
  refine ev_rs [] rfl trivial ?_
  have := length_oneN p a b
  exact ev_rs [u64s (oneN p a b), u64s (rMul p a b)] rfl ⟨.inl (RNorm_spec hm (oneN p a b) (by omega)), .inl (Mul06_spec hm a b hl hl2 hw), trivial⟩ (ev_ret (ret1 (fz_p (PLe.refl _))))

theorem nz_w64 {p : Nat} (hm : MayM p) {a : List Nat} (h : Nz p a) : W64 a := fun j => by
  have h1 := h.lt j
  have h2 := hm.2
  omega

theorem length_term (d c : Nat) : (term d c).length = d + 1 := by simp [term]

end Go.Proofs

/- Polynomials over a field of words, walked: division, derivatives, values, divisors. -/
set_option linter.unusedVariables false
namespace Go.Proofs
open Go Vinc Vinc.Num

theorem minv_lt {m : Nat} (hm : 0 < m) (x : Nat) : minv m x < m := by
  unfold minv
  split
  · rename_i h; exact (Classical.choose_spec h).1
  · exact hm

theorem asked_fd {p : Nat} (h : Asked p) : FdP p (minv p) := by
  have hm := asked_may h
  refine ⟨asked_prime h, fun x hx => ?_, minv_lt (by have := hm.1; omega)⟩
  have hg : Nat.gcd x p = 1 := by
    rw [Nat.gcd_comm]
    exact (asked_prime h).coprime fun hd => hx (Nat.mod_eq_zero_of_dvd hd)
  rw [(minv_spec hm.1 hg).2, Nat.mod_eq_of_lt hm.1]

theorem UP_spec {p : Nat} : CallSpec Tryd.pr.P Tryd.pr.G 43 [polyF p] (u64 p) := by
  refine callSpec_of Tryd.pr Tryd.func43 rfl rfl rfl fun w0 ok0 hok hG => ?_
  refine ev_rs [] rfl trivial ?_
  refine ev_seq (ev_rs [] rfl trivial (ev_cf rfl (ev_sk ?_)))
  exact ev_rs [u64 p] rfl ⟨.inl M_spec, Nat.zero_lt_one, trivial⟩ (ev_ret (ret1 (fz_p (PLe.refl _))))

theorem DivM_zero {p : Nat} (hm : MayM p) (a b : List Nat) (hl : a.length < 100000) (hl2 : b.length < 100000) (hb0 : (normN p b).length = 0) :
    CallSpec Tryd.pr.P Tryd.pr.G 38 [polyF p, u64s a, u64s b] (.tup 3 (three nilS nilS (i64 10))) := by
  refine callSpec_of Tryd.pr Tryd.func38 rfl rfl rfl fun w0 ok0 hok hG => ?_
  refine ev_rs [] rfl trivial ?_
  refine ev_seq (ev_rs [] rfl trivial (ev_cf rfl (ev_sk ?_)))
  refine ev_rs [u64s (normN p a), u64s (normN p b)] rfl ⟨.inl (Norm_spec hm b (by omega)), .inl (Norm_spec hm a (by omega)), trivial⟩ ?_
  refine ev_seq (ev_rs [] rfl trivial (ev_cond rfl (fun h => ?_) (fun h => ?_)))
  · exact ev_rs [] rfl trivial (ev_ret (ret3 (fz_p (PLe.refl _)) (fz_p (PLe.refl _)) (fz_p (PLe.refl _))))
  · exact absurd (congrArg (fun n : Nat => (n : Int)) hb0) (beq_eq_false_iff_ne.mp h)

theorem DivM_ok {p : Nat} (hm : MayM p) (a b : List Nat) (hl : a.length < 100000) (hl2 : b.length < 100000) (hb0 : 0 < (normN p b).length) :
    CallSpec Tryd.pr.P Tryd.pr.G 38 [polyF p, u64s a, u64s b] (.tup 3 (three (u64s (divN (minv p) p (normN p a) (normN p b)).1) (u64s (divN (minv p) p (normN p a) (normN p b)).2) (i64 0))) := by
  have la := length_normN p a
  have lb := length_normN p b
  refine callSpec_of Tryd.pr Tryd.func38 rfl rfl rfl fun w0 ok0 hok hG => ?_
  refine ev_rs [] rfl trivial ?_
  refine ev_seq (ev_rs [] rfl trivial (ev_cf rfl (ev_sk ?_)))
  refine ev_rs [u64s (normN p a), u64s (normN p b)] rfl ⟨.inl (Norm_spec hm b (by omega)), .inl (Norm_spec hm a (by omega)), trivial⟩ ?_
  refine ev_seq (ev_rs [] rfl trivial (ev_cond rfl (fun h => ?_) (fun h => ev_sk ?_)))
  · exfalso
    have : (normN p b).length = 0 := Int.ofNat_inj.mp (beq_iff_eq.mp h)
    omega
  refine ev_rs [.tup 2 (two (u64s (divN (minv p) p (normN p a) (normN p b)).1) (u64s (divN (minv p) p (normN p a) (normN p b)).2))] rfl ⟨.inl (divide_spec hm _ _ hb0 (by omega) (by omega)), trivial⟩ ?_
  exact ev_rs [] rfl trivial (ev_ret (ret3 (fz_p (PLe.refl _)) (fz_p (PLe.refl _)) (fz_p (PLe.refl _))))

theorem Deg_spec {p : Nat} (hm : MayM p) (a : List Nat) (hl : a.length < 100000) : CallSpec Tryd.pr.P Tryd.pr.G 25 [polyF p, u64s a] (i64 (((normN p a).length : Int) - 1)) := by
  have la := length_normN p a
  refine callSpec_of Tryd.pr Tryd.func25 rfl rfl rfl fun w0 ok0 hok hG => ?_
  refine ev_rs [] rfl trivial ?_
  refine ev_seq (ev_rs [] rfl trivial (ev_cf rfl (ev_sk ?_)))
  exact ev_rs [u64s (normN p a)] rfl ⟨.inl (Norm_spec hm a (by omega)), trivial⟩ (ev_ret (ret1 (fz_p (PLe.of_eq (congrArg (fun z => PV.val (.int .i64 z)) (wrapI _ (by omega) (by omega)))))))

theorem scale_spec {p : Nat} (hm : MayM p) (a : List Nat) (x : Nat) (hl : a.length < 100000) : CallSpec Tryd.pr.P Tryd.pr.G 45 [polyF p, u64s a, u64 x] (u64s (trimN (scaleL p a x))) := by
  obtain ⟨f, hf⟩ : ∃ f : Nat → Nat, f = fun i => a.getD i 0 * x % p := ⟨_, rfl⟩
  have hall : tabK f a.length a.length = scaleL p a x := by rw [tabK_all, hf]; exact tabL_scale p a x
  refine callSpec_of Tryd.pr Tryd.func45 rfl rfl rfl fun w0 ok0 hok hG => ?_
  refine ev_rs [] rfl trivial ?_
  refine ev_rs [] rfl ⟨⟨by omega, by omega, by omega⟩, trivial⟩ ?_
  refine ev_made 7 12 a.length rfl rfl rfl ?_
  refine ev_at (α := Unit) (fun _ => True) (fun _ => [(7, .p (u64s (scaleL p a x)))]) (fun _ => []) ?_ ?_
  · refine ev_rs [] rfl trivial ?_
    refine ev_block (ev_while (α := Nat) (fun i => i ≤ a.length) (fun i => [(0, .p (polyF p)), (2, .p (u64 x)), (7, .own 12 0 a.length 1), (13, .p (u64s a)), (14, .p (i64 a.length)), (15, .p (i64 i))]) (fun i => [(12, ob64 (tabK f a.length i))]) (fun i => a.length - i) 0
      (Nat.zero_le _) (wk_ob rfl (fun hd => ⟨le_refl hd _, le_refl hd _, le_o rfl, le_refl hd _, le_refl hd _, le_refl hd _, trivial⟩)) ?_)
    rintro i h1
    refine ev_rs [] rfl trivial (ev_seq (ev_cond rfl (fun h => ev_sk ?_) (fun h => ev_exit ?_)))
    · have hi : i < a.length := Int.ofNat_lt.mp (of_decide_eq_true h)
      have hck := length_tabK f a.length i
      have hfi : f i = a.getD i 0 * x % p := by rw [hf]
      refine ev_seq (ev_block ?_)
      refine ev_rs [] rfl ⟨hi, ⟨by omega, by omega⟩, trivial⟩ ?_
      refine ev_region [u64 (f i)] rfl ?_ ?_
      · rw [hfi]
        exact ⟨(by omega : i + 1 ≤ (tabK f a.length i).length), ⟨by omega, by omega⟩, .inl (Mul_spec hm _ _), Nat.zero_lt_one, trivial⟩
      refine ev_set 12 i (f i) rfl rfl rfl (by omega) ?_
      exact ev_region [] rfl trivial ⟨i + 1, hi, by dsimp only; omega, wk_ob rfl (fun hd => ⟨le_refl hd _, le_refl hd _, le_o rfl, le_refl hd _, le_refl hd _, le_n hd (congrArg (fun z => PV.val (.int .i64 z)) (wrapI _ (by omega) (by omega))), trivial⟩)⟩
    · have hi : i = a.length := by
        have := of_decide_eq_false h
        omega
      subst hi
      exact at0 () trivial ⟨le_fz' rfl (length_tabK f a.length a.length).symm hall, trivial⟩
  rintro ⟨⟩ -
  exact ev_rs [u64s (trimN (scaleL p a x))] rfl ⟨.inl (trim_spec _ (by rw [length_scaleL]; omega)), trivial⟩ (ev_ret (ret1 (fz_p (PLe.refl _))))

theorem Monic_spec {p : Nat} (hm : MayM p) (a : List Nat) (hl : a.length < 100000) : CallSpec Tryd.pr.P Tryd.pr.G 28 [polyF p, u64s a] (u64s (monicF (minv p) p (normN p a))) := by
  have la := length_normN p a
  have hN := Norm_spec hm a (by omega)
  generalize normN p a = na at *
  refine callSpec_of Tryd.pr Tryd.func28 rfl rfl rfl fun w0 ok0 hok hG => ?_
  refine ev_rs [] rfl trivial ?_
  refine ev_rs [u64s na] rfl ⟨.inl hN, trivial⟩ ?_
  refine ev_seq (ev_rs [] rfl trivial (ev_cond rfl (fun h => ?_) (fun h => ev_sk ?_)))
  · have h0 : na.length = 0 := Int.ofNat_inj.mp (beq_iff_eq.mp h)
    have e : na = [] := List.eq_nil_of_length_eq_zero h0
    rw [e]
    exact ev_rs [] rfl trivial (ev_ret (ret1 (fz_p PLe.nil)))
  have h0 : 0 < na.length := Nat.pos_of_ne_zero fun e => (beq_eq_false_iff_ne.mp h) (congrArg (fun n : Nat => (n : Int)) e)
  have e1 : IntKind.wrap .i64 ((na.length : Int) - 1) = ((na.length - 1 : Nat) : Int) := by rw [wrapI _ (by omega) (by omega)]; omega
  refine ev_ds [.tup 2 (two (u64 (minv p (na.getD (na.length - 1) 0))) (i64 (wrong (na.getD (na.length - 1) 0) p)))] (by kernel_rfl) rfl rfl ?_ ?_
  · rw [e1]
    exact ⟨.inl (Inv_spec hm _), (by omega : na.length - 1 < na.length), ⟨by omega, by omega⟩, Nat.zero_lt_one, trivial⟩
  exact ev_rs [u64s (monicF (minv p) p na)] rfl ⟨.inl (scale_spec hm na _ (by omega)), trivial⟩ (ev_ret (ret1 (fz_p (PLe.refl _))))

theorem Gcd_spec {p : Nat} (hm : MayM p) (hf : FdP p (minv p)) (a b : List Nat) (hl : a.length < 10000) (hl2 : b.length < 10000) : CallSpec Tryd.pr.P Tryd.pr.G 31 [polyF p, u64s a, u64s b] (u64s (gcdN (minv p) p a b)) := by
  have hp0 : 0 < p := hf.pos
  have la := length_normN p a
  have lb := length_normN p b
  have ha := Nz.norm hp0 a
  have hb := Nz.norm hp0 b
  have hNa := Norm_spec hm a (by omega)
  have hNb := Norm_spec hm b (by omega)
  obtain ⟨R, hR⟩ : ∃ R, gcdF (minv p) p ((normN p b).length + 1) (normN p a) (normN p b) = R := ⟨_, rfl⟩
  have hRz : Nz p R := hR ▸ gcdF_nz hf _ _ _ ha hb
  have hRl : R.length < 10000 := by
    have := gcdF_len hf ((normN p b).length + 1) (normN p a) (normN p b) 9999 ha hb (by omega) (by omega)
    rw [hR] at this
    omega
  have hG1 : gcdN (minv p) p a b = monicF (minv p) p (normN p R) := by unfold gcdN; rw [hR, hRz.norm_id hp0]
  rw [hG1]
  generalize normN p a = na at *
  generalize normN p b = nb at *
  refine callSpec_of Tryd.pr Tryd.func31 rfl rfl rfl fun w0 ok0 hok hG => ?_
  refine ev_rs [] rfl trivial ?_
  refine ev_seq (ev_rs [] rfl trivial (ev_cf rfl (ev_sk ?_)))
  refine ev_rs [u64s na, u64s nb] rfl ⟨.inl hNb, .inl hNa, trivial⟩ ?_
  refine ev_at (α := Unit) (fun _ => True) (fun _ => [(0, .p (polyF p)), (1, .p (u64s R))]) (fun _ => []) ?_ ?_
  · refine ev_block (ev_while0 (α := Nat × List Nat × List Nat) (fun s => s.2.2.length ≤ s.1 ∧ Nz p s.2.1 ∧ Nz p s.2.2 ∧ s.2.1.length < 10000 ∧ s.2.2.length < 10000 ∧ gcdF (minv p) p s.1 s.2.1 s.2.2 = R)
      (fun s => [(0, .p (polyF p)), (1, .p (u64s s.2.1)), (2, .p (u64s s.2.2))]) (fun s => s.1) (nb.length + 1, na, nb) ⟨by dsimp only; omega, ha, hb, by dsimp only; omega, by dsimp only; omega, hR⟩ ⟨le_0, le_0, le_0, trivial⟩ ?_)
    rintro ⟨f, x, y⟩ ⟨h1, h2, h3, h4, h5, h6⟩
    dsimp only at h1 h2 h3 h4 h5 h6
    refine ev_seq (ev_rs [] rfl trivial (ev_cond rfl (fun h => ev_sk ?_) (fun h => ev_exit ?_)))
    · have hy : 0 < y.length := Int.ofNat_lt.mp (of_decide_eq_true h)
      obtain ⟨f, rfl⟩ : ∃ g, f = g + 1 := ⟨f - 1, by omega⟩
      have hr := remN_nz hf h2 h3 hy
      have hst : gcdF (minv p) p f y (remN (minv p) p x y) = R := by rw [← h6]; exact (if_neg (by omega)).symm
      refine ev_block ?_
      refine ev_rs [.tup 2 (two (u64s (divN (minv p) p x y).1) (u64s (remN (minv p) p x y)))] rfl ⟨.inl (divide_spec hm x y hy (by omega) (by omega)), trivial⟩ ?_
      exact ev_region [] rfl trivial (round0 (f, y, remN (minv p) p x y) ⟨by dsimp only; omega, h3, hr.1, h5, by dsimp only; omega, hst⟩ (Nat.lt_succ_self f) ⟨le_0, le_0, le_0, trivial⟩)
    · have hy : y.length = 0 := by
        have := of_decide_eq_false h
        dsimp only at this
        omega
      refine at0 () trivial ⟨le_0, le_e (congrArg u64s ?_), trivial⟩
      rw [← h6]
      cases f with
      | zero => rfl
      | succ f => exact (if_pos hy).symm
  rintro ⟨⟩ -
  exact ev_rs [u64s (monicF (minv p) p (normN p R))] rfl ⟨.inl (Monic_spec hm R (by omega)), trivial⟩ (ev_ret (ret1 (fz_p (PLe.refl _))))

end Go.Proofs

/- Polynomials over a field of words, walked: derivatives, values, powers, the two polynomials. -/
set_option linter.unusedVariables false
namespace Go.Proofs
open Go Vinc Vinc.Num

theorem Eval_spec {p : Nat} (hm : MayM p) (a : List Nat) (x : Nat) (hl : a.length < 100000) : CallSpec Tryd.pr.P Tryd.pr.G 37 [polyF p, u64s a, u64 x] (u64 (evalF p x a a.length)) := by
  refine callSpec_of Tryd.pr Tryd.func37 rfl rfl rfl fun w0 ok0 hok hG => ?_
  refine ev_rs [] rfl trivial ?_
  refine ev_seq (ev_rs [] rfl trivial (ev_cf rfl (ev_sk ?_)))
  refine ev_rs [] rfl trivial ?_
  refine ev_at (α := Unit) (fun _ => True) (fun _ => [(7, .p (u64 (evalF p x a a.length)))]) (fun _ => []) ?_ ?_
  · refine ev_rs [] rfl trivial ?_
    refine ev_block (ev_while0 (α := Nat) (fun n => n ≤ a.length) (fun n => [(0, .p (polyF p)), (1, .p (u64s a)), (2, .p (u64 x)), (7, .p (u64 (evalF p x a n))), (8, .p (i64 ((a.length : Int) - 1 - n)))]) (fun n => a.length - n) 0
      (Nat.zero_le _) ⟨le_0, le_0, le_0, le_0, le_e (congrArg (fun z => PV.val (.int .i64 z)) (by rw [wrapI _ (by omega) (by omega)]; omega)), trivial⟩ ?_)
    rintro n h1
    refine ev_seq (ev_rs [] rfl trivial (ev_cond rfl (fun h => ev_sk ?_) (fun h => ev_exit ?_)))
    · have hn : n < a.length := by
        have := of_decide_eq_true h
        omega
      obtain ⟨i, hi⟩ : ∃ i, a.length - 1 - n = i := ⟨_, rfl⟩
      have hst : evalF p x a (n + 1) = (evalF p x a n * x % p + a.getD i 0) % p := by rw [← hi]; rfl
      refine ev_eq 8 (.p (i64 i)) (congrArg (fun z => AV.p (PV.val (.int .i64 z))) (by omega : (a.length : Int) - 1 - n = i)) ?_
      refine ev_seq (ev_block ?_)
      refine ev_draw [u64 (evalF p x a n * x % p), u64 (evalF p x a (n + 1))] (by kernel_rfl) rfl rfl ?_ ?_
      · rw [hst]
        exact ⟨.inl (Add_spec hm _ _), (by omega : i < a.length), ⟨by omega, by omega⟩, .inl (Mul_spec hm _ _), Nat.zero_lt_one, Nat.zero_lt_one, trivial⟩
      exact ev_region [] rfl trivial (round0 (n + 1) hn (by omega) ⟨le_0, le_0, le_0, le_0, le_e (congrArg (fun z => PV.val (.int .i64 z)) (by rw [wrapI _ (by omega) (by omega)]; omega)), trivial⟩)
    · have hn : n = a.length := by
        have := of_decide_eq_false h
        omega
      subst hn
      exact at0 () trivial ⟨le_0, trivial⟩
  rintro ⟨⟩ -
  exact ev_rs [] rfl trivial (ev_ret (ret1 (fz_p (PLe.refl _))))

theorem Value_spec {p : Nat} (hm : MayM p) (a : List Nat) (x : Nat) (hl : a.length < 100000) (hx : x < 18446744073709551616) : CallSpec Tryd.pr.P Tryd.pr.G 17 [u64s a, u64 x, u64 p] (u64 (evalF p x a a.length)) := by
  refine callSpec_of Tryd.pr Tryd.func17 rfl rfl rfl fun w0 ok0 hok hG => ?_
  refine ev_rs [] rfl trivial ?_
  refine ev_rs [] rfl trivial ?_
  refine ev_at (α := Unit) (fun _ => True) (fun _ => [(7, .p (u64 (evalF p x a a.length)))]) (fun _ => []) ?_ ?_
  · refine ev_rs [] rfl trivial ?_
    refine ev_block (ev_while0 (α := Nat) (fun n => n ≤ a.length) (fun n => [(0, .p (u64s a)), (1, .p (u64 x)), (2, .p (u64 p)), (7, .p (u64 (evalF p x a n))), (8, .p (i64 ((a.length : Int) - 1 - n)))]) (fun n => a.length - n) 0
      (Nat.zero_le _) ⟨le_0, le_0, le_0, le_0, le_e (congrArg (fun z => PV.val (.int .i64 z)) (by rw [wrapI _ (by omega) (by omega)]; omega)), trivial⟩ ?_)
    rintro n h1
    refine ev_seq (ev_rs [] rfl trivial (ev_cond rfl (fun h => ev_sk ?_) (fun h => ev_exit ?_)))
    · have hn : n < a.length := by
        have := of_decide_eq_true h
        omega
      obtain ⟨i, hi⟩ : ∃ i, a.length - 1 - n = i := ⟨_, rfl⟩
      have hst : evalF p x a (n + 1) = (evalF p x a n * x % p + a.getD i 0) % p := by rw [← hi]; rfl
      refine ev_eq 8 (.p (i64 i)) (congrArg (fun z => AV.p (PV.val (.int .i64 z))) (by omega : (a.length : Int) - 1 - n = i)) ?_
      refine ev_seq (ev_block ?_)
      refine ev_draw [u64 (evalF p x a n * x % p), u64 (evalF p x a (n + 1))] (by kernel_rfl) rfl rfl ?_ ?_
      · rw [hst]
        exact ⟨.inl (RefAdd_spec hm _ _), (by omega : i < a.length), ⟨by omega, by omega⟩, .inl (RefMul_spec hm _ _ hx), trivial⟩
      exact ev_region [] rfl trivial (round0 (n + 1) hn (by omega) ⟨le_0, le_0, le_0, le_0, le_e (congrArg (fun z => PV.val (.int .i64 z)) (by rw [wrapI _ (by omega) (by omega)]; omega)), trivial⟩)
    · have hn : n = a.length := by
        have := of_decide_eq_false h
        omega
      subst hn
      exact at0 () trivial ⟨le_0, trivial⟩
  rintro ⟨⟩ -
  exact ev_rs [] rfl trivial (ev_ret (ret1 (fz_p (PLe.refl _))))

theorem PowMod_zero {p : Nat} (hm : MayM p) (a : List Nat) (n : Nat) (b : List Nat) (hl : a.length < 100000) (hl2 : b.length < 100000) (hb0 : (normN p b).length = 0) :
    CallSpec Tryd.pr.P Tryd.pr.G 30 [polyF p, u64s a, u64 n, u64s b] (.tup 2 (two nilS (i64 10))) := by
  refine callSpec_of Tryd.pr Tryd.func30 rfl rfl rfl fun w0 ok0 hok hG => ?_
  refine ev_rs [] rfl trivial ?_
  refine ev_seq (ev_rs [] rfl trivial (ev_cf rfl (ev_sk ?_)))
  refine ev_rs [u64s (normN p a), u64s (normN p b)] rfl ⟨.inl (Norm_spec hm b (by omega)), .inl (Norm_spec hm a (by omega)), trivial⟩ ?_
  refine ev_seq (ev_rs [] rfl trivial (ev_cond rfl (fun h => ?_) (fun h => ?_)))
  · exact ev_rs [] rfl trivial (ev_ret (ret2 (fz_p (PLe.refl _)) (fz_p (PLe.refl _))))
  · exact absurd (congrArg (fun n : Nat => (n : Int)) hb0) (beq_eq_false_iff_ne.mp h)

end Go.Proofs

/- Polynomials over a field of words, walked: divisors with their polynomials. -/
set_option linter.unusedVariables false
namespace Go.Proofs
open Go Vinc Vinc.Num

theorem le_lit {c : Cx} {σ : St} {l : List (Nat × AV)} {i n : Nat} {o : Ob} {xs : List Nat} (h0 : σ.h i = some o) (hn : n = xs.length) (ho : xs.length ≤ o.n) (hf : ∀ j, j < xs.length → o.f j = .p (u64 (xs.getD j 0))) :
    Le c σ (mk l []) (fun i => i) (.own i 0 n 1) (.p (u64s xs)) := by
  subst hn
  exact le_freeze ren_nil h0 (by omega) (fun k hk => by cases hk) (fun j hj => by
    rw [Nat.zero_add, hf j (by omega)]
    exact le_refl ren_nil _)

theorem fz_lit {c : Cx} {σ : St} {i n : Nat} {o : Ob} {xs : List Nat} (h0 : σ.h i = some o) (hn : n = xs.length) (ho : xs.length ≤ o.n) (hf : ∀ j, j < xs.length → o.f j = .p (u64 (xs.getD j 0))) :
    FreezeLe c σ (.own i 0 n 1) (u64s xs) := by
  subst hn
  exact fz_own h0 (by omega) (fun j hj => by
    rw [Nat.zero_add, hf j (by omega)]
    exact fz_p (PLe.refl _))

/-- What is known of the last divisor and its polynomial. -/
theorem ext_facts {p : Nat} (hf : FdP p (minv p)) {a b : List Nat} (ha : Nz p a) (hb : Nz p b) (hb0 : 0 < b.length) {R S : List Nat} (hR : extF (minv p) p (b.length + 1) a [1] b [] = (R, S)) :
    Nz p R ∧ Nz p S ∧ 0 < R.length ∧ R.length ≤ b.length ∧ S.length ≤ a.length + b.length + 1 ∧ extR (minv p) p a b = (monicF (minv p) p R, remN (minv p) p (trimN (scaleL p S (minv p (R.getD (R.length - 1) 0)))) (divN (minv p) p b (monicF (minv p) p R)).1,
      (divN (minv p) p (subN p (monicF (minv p) p R) (timesN p (remN (minv p) p (trimN (scaleL p S (minv p (R.getD (R.length - 1) 0)))) (divN (minv p) p b (monicF (minv p) p R)).1) a)) b).1) := by
  have z := extF_nz hf (b.length + 1) a [1] b [] ha (Nz.one hf.prime.1) hb (Nz.nil hf.pos)
  have l := extF_len hf (b.length + 1) a [1] b [] b.length (by omega) ha (Nz.one hf.prime.1) hb (Nz.nil hf.pos) (Nat.le_refl _) (fun e => by omega)
  have l2 := (extF_bd (p := p) (iv := minv p) (a.length + b.length + 1) (b.length + 1) a [1] b [] (by simp; omega) (by simp; omega)).2
  rw [hR] at z l l2
  refine ⟨z.1, z.2, l.2, l.1, l2, ?_⟩
  unfold extR
  rw [if_neg (by omega), hR]

end Go.Proofs

/- The laws of upoly: the field, the chapter's example, division. -/
set_option linter.unusedVariables false
namespace Go.Proofs
open Go Vinc Vinc.Num

theorem minv7 : minv 7 = iv7 := by
  funext x
  have hx : x % 7 < 7 := Nat.mod_lt _ (by decide)
  have h5 : x ^ 5 % 7 = (x % 7) ^ 5 % 7 := Nat.pow_mod _ _ _
  by_cases h0 : x % 7 = 0
  · rw [minv_none (by rw [← gcd_mod, h0]; decide)]
    show 0 = x ^ 5 % 7
    rw [h5, h0]
  · refine minv_eq (Nat.mod_lt _ (by decide)) ?_
    show x * (x ^ 5 % 7) % 7 = 1
    rw [Nat.mul_mod, Nat.mod_mod, h5]
    generalize x % 7 = r at *
    have : ∀ r, r < 7 → ¬ r = 0 → r * (r ^ 5 % 7) % 7 = 1 := by decide
    exact this r hx h0

theorem may7 : MayM 7 := ⟨by decide, by decide⟩
theorem isB7 : isB 7 = true := by decide +kernel
theorem prime7 : IsPrime 7 := isB_small (by decide) isB7
theorem asked7 : Asked 7 := .inr (.inr (.inr ⟨by decide, prime7⟩))

theorem LawPrime_t {p : Nat} (h : Asked p) : CallSpec Tryd.pr.P Tryd.pr.G 16 [u64 p] (Vinc.bool true) := askedB_t h ▸ LawPrime_spec p
theorem LawPrime_f {p : Nat} (h : ¬ Asked p) : CallSpec Tryd.pr.P Tryd.pr.G 16 [u64 p] (Vinc.bool false) := askedB_f h ▸ LawPrime_spec p

theorem bool5 : ∀ a b : Bool, (bif a then true else b) = false → a = false ∧ b = false := by decide

def fewB (a b : List Nat) : Bool := bif decide ((a.length : Int) ≤ 40) then decide ((b.length : Int) ≤ 40) else false

theorem fewB_t {a b : List Nat} (h : (!fewB a b) = false) : a.length ≤ 40 ∧ b.length ≤ 40 := by
  unfold fewB at h
  cases h1 : decide ((a.length : Int) ≤ 40) <;> cases h2 : decide ((b.length : Int) ≤ 40) <;> rw [h1, h2] at h <;> try (cases h; done)
  have := of_decide_eq_true h1
  have := of_decide_eq_true h2
  omega

end Go.Proofs

/- roots, walked: powers, fields, what a seed tells apart; the reference's. -/
set_option linter.unusedVariables false
namespace Go.Proofs
open Go Vinc Vinc.Num

theorem PowModL_spec {p : Nat} (hm : MayM p) (hf : FdP p (minv p)) (a : List Nat) (n : Nat) (b : List Nat) (hn : n < 18446744073709551616) (ha : a.length ≤ 1000) (hb : b.length ≤ 1000) (hb0 : 0 < (normN p b).length) :
    CallSpec Tryd.pr.P Tryd.pr.G 30 [polyF p, u64s a, u64 n, u64s b]
      (.tup 2 (two (u64s (powF (minv p) p (normN p b) 64 n (remN (minv p) p [1] (normN p b)) (remN (minv p) p (normN p a) (normN p b)))) (i64 0))) := by
  have hbl : (normN p b).length ≤ 1000 := by
    unfold normN trimN
    rw [List.length_take, List.length_map]; omega
  have hal : (normN p a).length ≤ 1000 := by
    unfold normN trimN
    rw [List.length_take, List.length_map]; omega
  have hbz := Nz.norm hf.pos b
  have haz := Nz.norm hf.pos a
  obtain ⟨bb, hbb⟩ : ∃ bb, normN p b = bb := ⟨_, rfl⟩
  obtain ⟨aa, haa⟩ : ∃ aa, normN p a = aa := ⟨_, rfl⟩
  have hNa := Norm_spec hm a (by omega)
  have hNb := Norm_spec hm b (by omega)
  rw [hbb] at hNb hbl hb0 hbz ⊢
  rw [haa] at hNa hal haz ⊢
  have hD : ∀ x : List Nat, x.length < 1000000 → CallSpec Tryd.pr.P Tryd.pr.G 48 [polyF p, u64s x, u64s bb] (.tup 2 (two (u64s (divN (minv p) p x bb).1) (u64s (remN (minv p) p x bb)))) := fun x hx => divide_spec hm x bb hb0 hx (by omega)
  have hT : ∀ x y : List Nat, (timesN p x y).length ≤ x.length + y.length := fun x y => by
    unfold timesN trimN
    rw [List.length_take]
    have := length_oneN p x y
    omega
  have hz1 := remN_nz hf (Nz.one hf.prime.1) hbz hb0
  have hz2 := remN_nz hf haz hbz hb0
  obtain ⟨o1, ho1⟩ : ∃ o1, remN (minv p) p [1] bb = o1 := ⟨_, rfl⟩
  obtain ⟨a1, ha1⟩ : ∃ a1, remN (minv p) p aa bb = a1 := ⟨_, rfl⟩
  have hD1 := hD [1] (by simp)
  have hD2 := hD aa (by omega)
  rw [ho1] at hD1
  rw [ha1] at hD2
  rw [ho1] at hz1
  rw [ha1] at hz2
  rw [ho1, ha1]
  refine callSpec_of Tryd.pr Tryd.func30 rfl rfl rfl fun w0 ok0 hok hG => ?_
  refine ev_rs [] rfl trivial ?_
  refine ev_seq (ev_rs [] rfl trivial (ev_cf rfl (ev_sk ?_)))
  refine ev_rs [u64s aa, u64s bb] rfl ⟨.inl hNb, .inl hNa, trivial⟩ ?_
  refine ev_seq (ev_rs [] rfl trivial (ev_cond rfl (fun h => ?_) (fun h => ev_sk ?_)))
  · exfalso
    have : bb.length = 0 := Int.ofNat_inj.mp (beq_iff_eq.mp h)
    omega
  refine ev_rs [.tup 2 (two (u64s (divN (minv p) p [1] bb).1) (u64s o1))] rfl ?_ ?_
  · exact ⟨⟨⟨Nat.le_refl 1, trivial⟩, .inl (callSpec_args (as' := [polyF p, u64s [1], u64s bb]) ⟨PLe.refl _, PLe.lit rfl (fun j hj => by match j, hj with | 0, _ => rfl), PLe.refl _, trivial⟩ hD1)⟩, trivial⟩
  refine ev_rs [.tup 2 (two (u64s (divN (minv p) p aa bb).1) (u64s a1))] rfl ⟨.inl hD2, trivial⟩ ?_
  obtain ⟨R, hR⟩ : ∃ R, powF (minv p) p bb 64 n o1 a1 = R := ⟨_, rfl⟩
  rw [hR]
  refine ev_at (α := Unit) (fun _ => True) (fun _ => [(11, .p (u64s R))]) (fun _ => []) ?_ ?_
  · refine ev_block (ev_while0 (α := Nat × Nat × List Nat × List Nat) (fun s => s.2.1 < 2 ^ s.1 ∧ s.2.1 < 18446744073709551616 ∧ (s.2.2.1.length ≤ 1000 ∧ s.2.2.2.length ≤ 1000) ∧ powF (minv p) p bb s.1 s.2.1 s.2.2.1 s.2.2.2 = R)
      (fun s => [(0, .p (polyF p)), (1, .p (u64s s.2.2.2)), (2, .p (u64 s.2.1)), (3, .p (u64s bb)), (11, .p (u64s s.2.2.1))]) (fun s => s.1) (64, n, o1, a1)
      ⟨hn, hn, ⟨by dsimp only; omega, by dsimp only; omega⟩, hR⟩ ⟨le_0, le_0, le_0, le_0, le_0, trivial⟩ ?_)
    rintro ⟨f, x, o, y⟩ ⟨h1, h2, h3, h4⟩
    dsimp only at h1 h2 h3 h4
    refine ev_seq (ev_rs [] rfl trivial (ev_cond rfl (fun h => ev_sk ?_) (fun h => ev_exit ?_)))
    · have hx : 0 < x := Int.ofNat_lt.mp (of_decide_eq_true h)
      have hx0 : x ≠ 0 := by omega
      obtain ⟨f, rfl⟩ : ∃ g, f = g + 1 := by
        cases f with
        | zero => simp at h1; omega
        | succ g => exact ⟨g, rfl⟩
      obtain ⟨l1, l2⟩ := h3
      have h4 : (if x = 0 then o else powF (minv p) p bb f (x / 2) (if x % 2 = 1 then remN (minv p) p (timesN p o y) bb else o) (remN (minv p) p (timesN p y y) bb)) = R := h4
      rw [if_neg hx0] at h4
      have ho16 : o.length ≤ 1000 := l1
      have ht1 := hT o y
      have ht2 := hT y y
      have hol : (if x % 2 = 1 then remN (minv p) p (timesN p o y) bb else o).length ≤ 1000 := by
        split
        · have := (remN_nz hf (timesN_nz hf.pos o y) hbz hb0).2; omega
        · exact l1
      refine ev_seq (ev_block ?_)
      refine ev_at (α := Unit) (fun _ => True) (fun _ => [(0, .p (polyF p)), (1, .p (u64s y)), (2, .p (u64 x)), (3, .p (u64s bb)), (11, .p (u64s (if x % 2 = 1 then remN (minv p) p (timesN p o y) bb else o)))]) (fun _ => []) ?_ ?_
      · refine ev_rs [] rfl trivial (ev_cond rfl (fun h => ?_) (fun h => ?_))
        · have hx1 : x % 2 = 1 := by
            have := beq_iff_eq.mp h
            rw [and1 x h2] at this
            exact Int.ofNat_inj.mp this
          refine ev_region [u64s (timesN p o y), .tup 2 (two (u64s (divN (minv p) p (timesN p o y) bb).1) (u64s (remN (minv p) p (timesN p o y) bb)))] rfl ⟨.inl (hD _ (by omega)), .inl (times_all hm o y (by omega) (by omega)), trivial⟩ (at0 () trivial ⟨le_0, le_0, le_0, le_0, le_e (congrArg u64s ?_), trivial⟩)
          rw [if_pos hx1]
        · have hx1 : ¬ x % 2 = 1 := fun e => by
            have := beq_eq_false_iff_ne.mp h
            rw [and1 x h2] at this
            exact this (Int.ofNat_inj.mpr e)
          refine ev_skip (at0 () trivial ⟨le_0, le_0, le_0, le_0, le_e (congrArg u64s ?_), trivial⟩)
          rw [if_neg hx1]
      rintro ⟨⟩ -
      refine ev_region [u64s (timesN p y y), .tup 2 (two (u64s (divN (minv p) p (timesN p y y) bb).1) (u64s (remN (minv p) p (timesN p y y) bb)))] rfl ⟨.inl (hD _ (by omega)), .inl (times_all hm y y (by omega) (by omega)), trivial⟩ ?_
      exact ev_region [] rfl ⟨by decide, trivial⟩ (round0 (f, x / 2, if x % 2 = 1 then remN (minv p) p (timesN p o y) bb else o, remN (minv p) p (timesN p y y) bb) ⟨by rw [Nat.pow_succ] at h1; dsimp only; omega, by dsimp only; omega, ⟨hol, by have := (remN_nz hf (timesN_nz hf.pos y y) hbz hb0).2; dsimp only; omega⟩, h4⟩ (Nat.lt_succ_self f)
        ⟨le_0, le_0, le_e (congrArg (fun z => PV.val (.int .u64 z)) (shr1 x)), le_0, le_0, trivial⟩)
    · have hx : x = 0 := by
        have := of_decide_eq_false h
        dsimp only at this
        omega
      refine at0 () trivial ⟨le_e (congrArg u64s ?_), trivial⟩
      rw [hx] at h4
      cases f with
      | zero => exact h4
      | succ f => exact h4
  rintro ⟨⟩ -
  exact ev_rs [] rfl trivial (ev_ret (ret2 (fz_p (PLe.refl _)) (fz_p (PLe.refl _))))

theorem RtFields_ok {p : Nat} (hm : MayM p) (hb : isB p = true) : CallSpec Tryd.pr.P Tryd.pr.G 23 [u64 p] (.tup 3 (three (polyF p) (newF p) (i64 0))) := by
  refine callSpec_of Tryd.pr Tryd.func23 rfl rfl rfl fun w0 ok0 hok hG => ?_
  refine ev_rs [] rfl trivial ?_
  refine ev_rs [.tup 2 (two (polyF p) (i64 0))] rfl ⟨.inl (UNew_ok hm hb), trivial⟩ ?_
  refine ev_seq (ev_rs [] rfl trivial (ev_cf rfl (ev_sk ?_)))
  refine ev_rs [.tup 2 (two (newF p) (i64 0))] rfl ⟨.inl (New_spec hm), trivial⟩ ?_
  exact ev_rs [] rfl trivial (ev_ret (ret3 (fz_p (PLe.refl _)) (fz_p (PLe.refl _)) (fz_p (PLe.refl _))))

theorem RtFields_no {p : Nat} (hp : p < 18446744073709551616) (h : ¬ (p < 9223372036854775808 ∧ isB p = true)) : CallSpec Tryd.pr.P Tryd.pr.G 23 [u64 p] (.tup 3 (three nilP nilP (i64 14))) := by
  refine callSpec_of Tryd.pr Tryd.func23 rfl rfl rfl fun w0 ok0 hok hG => ?_
  refine ev_rs [] rfl trivial ?_
  refine ev_rs [.tup 2 (two nilP (i64 14))] rfl ⟨.inl (UNew_no hp h), trivial⟩ ?_
  refine ev_seq (ev_rs [] rfl trivial (ev_ct rfl ?_))
  exact ev_rs [] rfl trivial (ev_ret (ret3 (fz_p (PLe.refl _)) (fz_p (PLe.refl _)) (fz_p (PLe.refl _))))

theorem RtLess_spec {p : Nat} (hm : MayM p) (x : Nat) : CallSpec Tryd.pr.P Tryd.pr.G 39 [newF p, u64 x] (u64s (lin p x)) := by
  refine callSpec_of Tryd.pr Tryd.func39 rfl rfl rfl fun w0 ok0 hok hG => ?_
  refine ev_rs [] rfl trivial ?_
  refine ev_rs [u64 (sb 0 x p)] rfl ⟨.inl (Sb_spec hm 0 x), trivial⟩ (ev_ret (ret1 (fz_lit rfl rfl (Nat.le_refl 2) (fun j hj => ?_))))
  match j, hj with
  | 0, _ => rfl
  | 1, _ => rfl

theorem beq_one (n : Nat) : ((n : Int) == 1) = (n == 1) := by
  by_cases h : n = 1
  · subst h; rfl
  · rw [beq_eq_false_iff_ne.mpr h]
    exact beq_eq_false_iff_ne.mpr fun e => h (Int.ofNat_inj.mp e)

theorem half_p {p : Nat} (hp : 1 ≤ p) (hp2 : p < 18446744073709551616) : IntKind.wrap .u64 ((IntKind.wrap .u64 ((p : Int) - 1)).tdiv 2) = (((p - 1) / 2 : Nat) : Int) := by
  have e : IntKind.wrap .u64 ((p : Int) - 1) = ((p - 1 : Nat) : Int) := wrapSub p 1 hp hp2
  rw [e]
  exact tdivN (p - 1) 2 (by omega)

theorem high_spec {p : Nat} (hm : MayM p) (seed x : Nat) : CallSpec Tryd.pr.P Tryd.pr.G 35 [newF p, u64 seed, u64 x] (Vinc.bool (hiB p seed x)) := by
  have h1 := hm.1
  have h2 := hm.2
  have hA := Add_spec hm (b := bk p) (t := tw p) seed x
  have hP := Pow_spec hm (b := bk p) (t := tw p) ((seed + x) % p) ((p - 1) / 2) (by omega)
  refine callSpec_of Tryd.pr Tryd.func35 rfl rfl rfl fun w0 ok0 hok hG => ?_
  refine ev_rs [] rfl trivial ?_
  refine ev_rs [u64 ((seed + x) % p), u64 p, u64 (((seed + x) % p) ^ ((p - 1) / 2) % p)] rfl ?_ (ev_ret (ret1 (fz_p (PLe.of_eq (congrArg Vinc.bool (beq_one _))))))
  rw [half_p (by omega) (by omega)]
  exact (by repeat' (first | exact trivial | exact gd_t | exact gd_f | exact .inl hA | exact .inl hP | exact .inl M_spec | exact (by decide : (2 : Int) ≠ 0) | exact (fun _ => rfl) | intro _ | apply And.intro | assumption | exact rfl | exact gd_t (by assumption) | exact gd_f (by assumption) | exact gd_a (by assumption) (by assumption) | exact gd_b (by assumption) (by assumption)))

/-- Whether a seed tells two numbers apart. -/
def tellB (p seed x y : Nat) : Bool := if p = 2 then decide (x % 2 ≠ y % 2) else (hiB p seed x != hiB p seed y)

theorem mod2_ne (x y : Nat) : (((x : Int).tmod 2) != ((y : Int).tmod 2)) = decide (x % 2 ≠ y % 2) := by
  by_cases h : x % 2 = y % 2
  · rw [decide_eq_false (fun h' => h' h)]
    have : (x : Int).tmod 2 = (y : Int).tmod 2 := congrArg (fun n : Nat => (n : Int)) h
    rw [this]
    exact bne_self_eq_false _
  · rw [decide_eq_true h]
    exact bne_iff_ne.mpr fun e => h (Int.ofNat_inj.mp e)

theorem eq2_t {p : Nat} (h : p = 2) : ((p : Int) == 2) = true := by rw [h]; rfl
theorem eq2_f {p : Nat} (h : p ≠ 2) : ((p : Int) == 2) = false := beq_eq_false_iff_ne.mpr fun e => h (Int.ofNat_inj.mp e)

theorem Tells_ok {p : Nat} (hm : MayM p) (hb : isB p = true) (seed x y : Nat) : CallSpec Tryd.pr.P Tryd.pr.G 20 [u64 p, u64 seed, u64 x, u64 y] (.tup 2 (two (Vinc.bool (tellB p seed x y)) (i64 0))) := by
  refine callSpec_of Tryd.pr Tryd.func20 rfl rfl rfl fun w0 ok0 hok hG => ?_
  refine ev_rs [] rfl trivial ?_
  refine ev_rs [.tup 3 (three (polyF p) (newF p) (i64 0))] rfl ⟨.inl (RtFields_ok hm hb), trivial⟩ ?_
  refine ev_seq (ev_block (ev_rs [] rfl trivial (ev_cf rfl ?_)))
  by_cases h2 : p = 2
  · refine ev_rs [] rfl trivial (ev_ct (congrArg (fun z => AV.p (PV.val (.bool z))) (eq2_t h2)) ?_)
    refine ev_rs [] rfl (by repeat' (first | exact trivial | exact gd_t | exact gd_f | exact (by decide : (2 : Int) ≠ 0) | exact (fun _ => rfl) | intro _ | apply And.intro | assumption | exact rfl | exact gd_t (by assumption) | exact gd_f (by assumption) | exact gd_a (by assumption) (by assumption) | exact gd_b (by assumption) (by assumption))) (ev_ret (ret2 (fz_p (PLe.of_eq (congrArg Vinc.bool ?_))) (fz_p (PLe.refl _))))
    unfold tellB
    rw [if_pos h2]
    exact mod2_ne x y
  · refine ev_rs [] rfl trivial (ev_cf (congrArg (fun z => AV.p (PV.val (.bool z))) (eq2_f h2)) (ev_skip ?_))
    refine ev_rs [Vinc.bool (hiB p seed x), Vinc.bool (hiB p seed y)] rfl (by repeat' (first | exact trivial | exact gd_t | exact gd_f | exact .inl (high_spec hm seed x) | exact .inl (high_spec hm seed y) | exact (fun _ => rfl) | intro _ | apply And.intro | assumption | exact rfl | exact gd_t (by assumption) | exact gd_f (by assumption) | exact gd_a (by assumption) (by assumption) | exact gd_b (by assumption) (by assumption))) (ev_ret (ret2 (fz_p (PLe.of_eq (congrArg Vinc.bool ?_))) (fz_p (PLe.refl _))))
    unfold tellB
    rw [if_neg h2]
    rfl

theorem Tells_no {p : Nat} (hp : p < 18446744073709551616) (h : ¬ (p < 9223372036854775808 ∧ isB p = true)) (seed x y : Nat) : CallSpec Tryd.pr.P Tryd.pr.G 20 [u64 p, u64 seed, u64 x, u64 y] (.tup 2 (two (Vinc.bool false) (i64 14))) := by
  refine callSpec_of Tryd.pr Tryd.func20 rfl rfl rfl fun w0 ok0 hok hG => ?_
  refine ev_rs [] rfl trivial ?_
  refine ev_rs [.tup 3 (three nilP nilP (i64 14))] rfl ⟨.inl (RtFields_no hp h), trivial⟩ ?_
  refine ev_seq (ev_block (ev_rs [] rfl trivial (ev_ct rfl ?_)))
  exact ev_rs [] rfl trivial (ev_ret (ret2 (fz_p (PLe.refl _)) (fz_p (PLe.refl _))))

/-! ### the reference's -/

set_option maxRecDepth 40000 in
theorem RTells_spec {p : Nat} (hm : MayM p) (seed x y : Nat) : CallSpec Tryd.pr.P Tryd.pr.G 21 [u64 seed, u64 x, u64 y, u64 p] (Vinc.bool (tellB p seed x y)) := by
  have h1 := hm.1
  have h2' := hm.2
  have lt : ∀ z, z % p < 18446744073709551616 := fun z => by have := Nat.mod_lt z (show 0 < p by omega); omega
  have hP : ∀ z, CallSpec Tryd.pr.P Tryd.pr.G 36 [u64 ((z + seed) % p), u64 ((p - 1) / 2), u64 p] (u64 (((seed + z) % p) ^ ((p - 1) / 2) % p)) := fun z => by
    rw [Nat.add_comm seed z]
    exact RefPow_spec hm ((z + seed) % p) ((p - 1) / 2) (lt _) (by omega)
  refine callSpec_of Tryd.pr Tryd.func21 rfl rfl rfl fun w0 ok0 hok hG => ?_
  refine ev_rs [] rfl trivial ?_
  by_cases h2 : p = 2
  · refine ev_seq (ev_rs [] rfl trivial (ev_ct (congrArg (fun z => AV.p (PV.val (.bool z))) (eq2_t h2)) ?_))
    refine ev_rs [] rfl (by repeat' (first | exact trivial | exact gd_t | exact gd_f | exact (by decide : (2 : Int) ≠ 0) | exact (fun _ => rfl) | intro _ | apply And.intro | assumption | exact rfl | exact gd_t (by assumption) | exact gd_f (by assumption) | exact gd_a (by assumption) (by assumption) | exact gd_b (by assumption) (by assumption))) (ev_ret (ret1 (fz_p (PLe.of_eq (congrArg Vinc.bool ?_)))))
    unfold tellB
    rw [if_pos h2]
    exact mod2_ne x y
  · refine ev_seq (ev_rs [] rfl trivial (ev_cf (congrArg (fun z => AV.p (PV.val (.bool z))) (eq2_f h2)) (ev_sk ?_)))
    refine ev_rs [u64 ((x + seed) % p), u64 (((seed + x) % p) ^ ((p - 1) / 2) % p)] rfl ?_ ?_
    · rw [half_p (by omega) (by omega)]
      exact (by repeat' (first | exact trivial | exact gd_t | exact gd_f | exact .inl (RefAdd_spec hm x seed) | exact .inl (hP x) | exact (by decide : (2 : Int) ≠ 0) | exact (fun _ => rfl) | intro _ | apply And.intro | assumption | exact rfl | exact gd_t (by assumption) | exact gd_f (by assumption) | exact gd_a (by assumption) (by assumption) | exact gd_b (by assumption) (by assumption)))
    refine ev_rs [u64 ((y + seed) % p), u64 (((seed + y) % p) ^ ((p - 1) / 2) % p)] rfl ?_ ?_
    · rw [half_p (by omega) (by omega)]
      exact (by repeat' (first | exact trivial | exact gd_t | exact gd_f | exact .inl (RefAdd_spec hm y seed) | exact .inl (hP y) | exact (by decide : (2 : Int) ≠ 0) | exact (fun _ => rfl) | intro _ | apply And.intro | assumption | exact rfl | exact gd_t (by assumption) | exact gd_f (by assumption) | exact gd_a (by assumption) (by assumption) | exact gd_b (by assumption) (by assumption)))
    refine ev_rs [] rfl (by repeat' (first | exact trivial | exact gd_t | exact gd_f | exact (fun _ => rfl) | intro _ | apply And.intro | assumption | exact rfl | exact gd_t (by assumption) | exact gd_f (by assumption) | exact gd_a (by assumption) (by assumption) | exact gd_b (by assumption) (by assumption))) (ev_ret (ret1 (fz_p (PLe.of_eq (congrArg Vinc.bool ?_)))))
    unfold tellB
    rw [if_neg h2]
    unfold hiB
    rw [← beq_one, ← beq_one]
    rfl

/-- Whether one of the first seeds tells. -/
def toldB (p : Nat) (seeds : List Nat) (x y : Nat) : Nat → Bool
  | 0 => ((p : Int) == 2)
  | j + 1 => bif toldB p seeds x y j then true else tellB p (seeds.getD j 0) x y

theorem toldB_iff {p : Nat} (seeds : List Nat) (x y : Nat) : ∀ n, toldB p seeds x y n = true ↔ (p = 2 ∨ ∃ j, j < n ∧ hiB p (seeds.getD j 0) x ≠ hiB p (seeds.getD j 0) y)
  | 0 => by
    constructor
    · intro h
      exact .inl (Int.ofNat_inj.mp (beq_iff_eq.mp h))
    · rintro (h | ⟨j, h, _⟩)
      · exact eq2_t h
      · exact absurd h (Nat.not_lt_zero _)
  | n + 1 => by
    have ih := toldB_iff (p := p) seeds x y n
    unfold toldB
    cases hk : toldB p seeds x y n with
    | true =>
      refine ⟨fun _ => ?_, fun _ => rfl⟩
      rcases ih.mp hk with h | ⟨j, h1, h2⟩
      · exact .inl h
      · exact .inr ⟨j, by omega, h2⟩
    | false =>
      have hp2 : p ≠ 2 := fun e => by rw [ih.mpr (.inl e)] at hk; cases hk
      show tellB p (seeds.getD n 0) x y = true ↔ _
      unfold tellB
      rw [if_neg hp2, bne_iff_ne]
      constructor
      · intro h
        exact .inr ⟨n, by omega, h⟩
      · rintro (h | ⟨j, h1, h2⟩)
        · exact absurd h hp2
        · by_cases e : j = n
          · subst e; exact h2
          · rw [ih.mpr (.inr ⟨j, by omega, h2⟩)] at hk; cases hk

set_option maxRecDepth 20000 in
theorem RAll_spec {p : Nat} (hm : MayM p) (m seeds : List Nat) (hl : m.length < 100000) (hl2 : seeds.length < 100000) (R : Bool) (hR : R = true ↔ AllP p m seeds) : CallSpec Tryd.pr.P Tryd.pr.G 15 [u64s m, u64s seeds, u64 p] (Vinc.bool R) := by
  refine callSpec_of Tryd.pr Tryd.func15 rfl rfl rfl fun w0 ok0 hok hG => ?_
  refine ev_rs [] rfl trivial ?_
  refine ev_at (α := Unit) (fun _ => R = true) (fun _ => []) (fun _ => []) ?_ ?_
  · refine ev_rs [] rfl trivial ?_
    refine ev_block (ev_while0 (α := Nat) (fun i => i ≤ m.length ∧ ∀ i', i' < i → ∀ k, k < i' → toldB p seeds (m.getD i' 0) (m.getD k 0) seeds.length = true) (fun i => [(0, .p (u64s m)), (1, .p (u64s seeds)), (2, .p (u64 p)), (7, .p (i64 i))]) (fun i => m.length - i) 0
      ⟨Nat.zero_le _, fun i' h => absurd h (Nat.not_lt_zero _)⟩ ⟨le_0, le_0, le_0, le_0, trivial⟩ ?_)
    rintro i ⟨h1, h2⟩
    refine ev_seq (ev_rs [] rfl trivial (ev_cond rfl (fun h => ev_sk ?_) (fun h => ev_exit ?_)))
    · have hi : i < m.length := Int.ofNat_lt.mp (of_decide_eq_true h)
      refine ev_seq (ev_block ?_)
      refine ev_rs [] rfl trivial ?_
      refine ev_block (ev_while0 (α := Nat) (fun k => k ≤ i ∧ ∀ k', k' < k → toldB p seeds (m.getD i 0) (m.getD k' 0) seeds.length = true) (fun k => [(0, .p (u64s m)), (1, .p (u64s seeds)), (2, .p (u64 p)), (7, .p (i64 i)), (8, .p (i64 k))]) (fun k => i - k) 0
        ⟨Nat.zero_le _, fun k' h => absurd h (Nat.not_lt_zero _)⟩ ⟨le_0, le_0, le_0, le_0, le_0, trivial⟩ ?_)
      rintro k ⟨h3, h4⟩
      refine ev_seq (ev_rs [] rfl trivial (ev_cond rfl (fun h => ev_sk ?_) (fun h => ev_exit ?_)))
      · have hk : k < i := Int.ofNat_lt.mp (of_decide_eq_true h)
        have hkm : k < m.length := by omega
        have i0 : (0 : Int) ≤ (i : Int) := by omega
        have i1 : (i : Int) < (m.length : Int) := by omega
        have k0 : (0 : Int) ≤ (k : Int) := by omega
        have k1 : (k : Int) < (m.length : Int) := by omega
        refine ev_seq (ev_block ?_)
        refine ev_rs [] rfl trivial ?_
        refine ev_at (α := Unit) (fun _ => True) (fun _ => [(0, .p (u64s m)), (1, .p (u64s seeds)), (2, .p (u64 p)), (7, .p (i64 i)), (8, .p (i64 k)), (9, .p (Vinc.bool (toldB p seeds (m.getD i 0) (m.getD k 0) seeds.length)))]) (fun _ => []) ?_ ?_
        · refine ev_rs [] rfl trivial ?_
          refine ev_block (ev_while0 (α := Nat) (fun j => j ≤ seeds.length) (fun j => [(0, .p (u64s m)), (1, .p (u64s seeds)), (2, .p (u64 p)), (7, .p (i64 i)), (8, .p (i64 k)), (9, .p (Vinc.bool (toldB p seeds (m.getD i 0) (m.getD k 0) j))), (10, .p (i64 j))]) (fun j => seeds.length - j) 0
            (Nat.zero_le _) ⟨le_0, le_0, le_0, le_0, le_0, le_0, le_0, trivial⟩ ?_)
          rintro j h5
          refine ev_seq (ev_rs [] rfl trivial (ev_cond rfl (fun h => ev_sk ?_) (fun h => ev_exit ?_)))
          · have hj : j < seeds.length := Int.ofNat_lt.mp (of_decide_eq_true h)
            have j0 : (0 : Int) ≤ (j : Int) := by omega
            have j1 : (j : Int) < (seeds.length : Int) := by omega
            have hT := RTells_spec hm (seeds.getD j 0) (m.getD i 0) (m.getD k 0)
            refine ev_seq (ev_block (ev_draw [Vinc.bool (tellB p (seeds.getD j 0) (m.getD i 0) (m.getD k 0))] (by kernel_rfl) rfl rfl (by repeat' (first | exact trivial | exact gd_t | exact gd_f | exact .inl hT | exact hi | exact hj | exact hkm | exact i0 | exact i1 | exact j0 | exact j1 | exact k0 | exact k1 | exact (fun _ => rfl) | intro _ | apply And.intro | assumption | exact rfl | exact gd_t (by assumption) | exact gd_f (by assumption) | exact gd_a (by assumption) (by assumption) | exact gd_b (by assumption) (by assumption))) ?_))
            exact ev_region [] rfl trivial (round0 (j + 1) hj (by omega) ⟨le_0, le_0, le_0, le_0, le_0, le_0, le_e (congrArg (fun z => PV.val (.int .i64 z)) (wrapI _ (by omega) (by omega))), trivial⟩)
          · have hj : j = seeds.length := by
              have := of_decide_eq_false h
              omega
            subst hj
            exact at0 () trivial ⟨le_0, le_0, le_0, le_0, le_0, le_0, trivial⟩
        rintro ⟨⟩ -
        refine ev_rs [] rfl trivial (ev_cond rfl (fun h => ?_) (fun h => ev_skip ?_))
        · have h : (!toldB p seeds (m.getD i 0) (m.getD k 0) seeds.length) = true := h
          have hRf : R = false := by
            cases hv : R with
            | false => rfl
            | true =>
              have := hR.mp hv i hi k hk
              rw [(toldB_iff seeds _ _ _).mpr this] at h
              cases h
          exact ev_rs [] rfl trivial (ev_ret (ret1 (fz_p (PLe.of_eq (congrArg Vinc.bool hRf.symm)))))
        · have h : (!toldB p seeds (m.getD i 0) (m.getD k 0) seeds.length) = false := h
          have ht : toldB p seeds (m.getD i 0) (m.getD k 0) seeds.length = true := by
            cases hv : toldB p seeds (m.getD i 0) (m.getD k 0) seeds.length with
            | true => rfl
            | false => rw [hv] at h; cases h
          exact ev_region [] rfl trivial (round0 (k + 1) ⟨hk, fun k' hk' => by
            by_cases e : k' = k
            · rw [e]; exact ht
            · exact h4 k' (by omega)⟩ (by omega) ⟨le_0, le_0, le_0, le_0, le_e (congrArg (fun z => PV.val (.int .i64 z)) (wrapI _ (by omega) (by omega))), trivial⟩)
      · have hk : k = i := by
          have := of_decide_eq_false h
          omega
        subst hk
        exact ev_region [] rfl trivial (round0 (k + 1) ⟨hi, fun i' hi' => by
          by_cases e : i' = k
          · rw [e]; exact h4
          · exact h2 i' (by omega)⟩ (by omega) ⟨le_0, le_0, le_0, le_e (congrArg (fun z => PV.val (.int .i64 z)) (wrapI _ (by omega) (by omega))), trivial⟩)
    · have hi : i = m.length := by
        have := of_decide_eq_false h
        omega
      subst hi
      exact at0 () (hR.mpr fun i hi k hk => (toldB_iff seeds _ _ _).mp (h2 i hi k hk)) trivial
  rintro ⟨⟩ hRt
  exact ev_rs [] rfl trivial (ev_ret (ret1 (fz_p (PLe.of_eq (congrArg Vinc.bool hRt.symm)))))

end Go.Proofs

/- roots, walked: the reference's roots and products; roots modulo 2; the product of all x less a root; what a seed parts. -/
set_option linter.unusedVariables false
namespace Go.Proofs
open Go Vinc Vinc.Num

set_option maxRecDepth 40000 in
theorem RRoots_spec {p : Nat} (hm : MayM p) (a : List Nat) (hl : a.length < 100000) (hp20 : p < 1099511627776) : CallSpec Tryd.pr.P Tryd.pr.G 12 [u64s a, u64 p] (u64s (rootsN p a)) := by
  have h1 := hm.1
  rw [show rootsN p a = rootsT p a p from (rootsT_eq p a p).symm]
  refine callSpec_of Tryd.pr Tryd.func12 rfl rfl rfl fun w0 ok0 hok hG => ?_
  refine ev_rs [] rfl trivial ?_
  refine ev_rs [] rfl trivial (ev_nilown 5 5 rfl rfl ?_)
  refine ev_at (α := Unit) (fun _ => True) (fun _ => [(5, .p (u64s (rootsT p a p)))]) (fun _ => []) ?_ ?_
  · refine ev_rs [] rfl trivial ?_
    refine ev_block (ev_while (α := Nat) (fun i => i ≤ p) (fun i => [(0, .p (u64s a)), (1, .p (u64 p)), (5, .own 5 0 (rootsT p a i).length 1), (6, .p (u64 i))]) (fun i => [(5, ob64 (rootsT p a i))]) (fun i => p - i) 0
      (Nat.zero_le _) (wk_ob rfl (fun hd => ⟨le_refl hd _, le_refl hd _, le_o rfl, le_refl hd _, trivial⟩)) ?_)
    rintro i h2
    have hlen := rootsT_len p a i
    refine ev_seq (ev_rs [] rfl trivial (ev_cond rfl (fun h => ev_sk ?_) (fun h => ev_exit ?_)))
    · have hi : i < p := Int.ofNat_lt.mp (of_decide_eq_true h)
      have hi1 : IntKind.wrap .u64 ((i : Int) + 1) = ((i + 1 : Nat) : Int) := (wrapAdd i 1).trans (congrArg (fun n : Nat => (n : Int)) (Nat.mod_eq_of_lt (by omega)))
      refine ev_seq (ev_block ?_)
      refine ev_rs [u64 (evalN p i a)] rfl ⟨.inl (Value_spec hm a i hl (by omega)), trivial⟩ (ev_cond rfl (fun h => ?_) (fun h => ?_))
      · have hz : evalN p i a = 0 := Int.ofNat_inj.mp (beq_iff_eq.mp h)
        have hst : rootsT p a i ++ [i] = rootsT p a (i + 1) := (if_pos hz).symm
        refine ev_region [] rfl ⟨⟨by omega, rfl, Nat.le_refl 1⟩, trivial⟩ (ev_app 5 20 (rootsT p a i) [i] rfl rfl rfl rfl rfl (fun j hj => rfl) (fun j hj => ?_) ?_)
        · match j, hj with
          | 0, _ => rfl
        exact ev_region [] rfl trivial ⟨i + 1, hi, by dsimp only; omega, wk_ren (i' := 20) (congrArg (fun l => some (ob64 l)) hst) (fun hd => ⟨le_refl hd _, le_refl hd _, le_ren rfl (by rw [hst]), le_n hd (congrArg (fun z => PV.val (.int .u64 z)) hi1), trivial⟩)⟩
      · have hz : ¬ evalN p i a = 0 := fun e => beq_eq_false_iff_ne.mp h (by rw [e]; rfl)
        have hst : rootsT p a i = rootsT p a (i + 1) := (if_neg hz).symm
        refine ev_skip ?_
        exact ev_region [] rfl trivial ⟨i + 1, hi, by dsimp only; omega, wk_ren (i' := 5) (congrArg (fun l => some (ob64 l)) hst) (fun hd => ⟨le_refl hd _, le_refl hd _, le_ren rfl (by rw [hst]), le_n hd (congrArg (fun z => PV.val (.int .u64 z)) hi1), trivial⟩)⟩
    · have hi : i = p := by
        have := of_decide_eq_false h
        omega
      subst hi
      exact at0 () trivial ⟨le_fz' rfl rfl rfl, trivial⟩
  rintro ⟨⟩ -
  exact ev_rs [] rfl trivial (ev_ret (ret1 (fz_p (PLe.refl _))))

set_option maxRecDepth 40000 in
theorem small_spec (hm : MayM 2) (a : List Nat) (hl : a.length < 100000) : CallSpec Tryd.pr.P Tryd.pr.G 24 [polyF 2, u64s a] (u64s (rootsN 2 a)) := by
  rw [show rootsN 2 a = rootsT 2 a 2 from (rootsT_eq 2 a 2).symm]
  refine callSpec_of Tryd.pr Tryd.func24 rfl rfl rfl fun w0 ok0 hok hG => ?_
  refine ev_rs [] rfl trivial ?_
  refine ev_rs [] rfl trivial (ev_nilown 5 5 rfl rfl ?_)
  refine ev_at (α := Unit) (fun _ => True) (fun _ => [(5, .p (u64s (rootsT 2 a 2)))]) (fun _ => []) ?_ ?_
  · refine ev_rs [] rfl trivial ?_
    refine ev_block (ev_while (α := Nat) (fun i => i ≤ 2) (fun i => [(0, .p (polyF 2)), (1, .p (u64s a)), (5, .own 5 0 (rootsT 2 a i).length 1), (7, .p (u64 i))]) (fun i => [(5, ob64 (rootsT 2 a i))]) (fun i => 2 - i) 0
      (Nat.zero_le _) (wk_ob rfl (fun hd => ⟨le_refl hd _, le_refl hd _, le_o rfl, le_refl hd _, trivial⟩)) ?_)
    rintro i h2
    have hlen := rootsT_len 2 a i
    refine ev_rs [] rfl trivial ?_
    refine ev_seq (ev_cond rfl (fun h => ev_sk ?_) (fun h => ev_exit ?_))
    · have hi : i < 2 := Int.ofNat_lt.mp (of_decide_eq_true h)
      have hi1 : IntKind.wrap .u64 ((i : Int) + 1) = ((i + 1 : Nat) : Int) := (wrapAdd i 1).trans (congrArg (fun n : Nat => (n : Int)) (Nat.mod_eq_of_lt (by omega)))
      refine ev_seq (ev_block ?_)
      refine ev_rs [] rfl trivial ?_
      refine ev_rs [u64 (evalN 2 i a)] rfl ⟨.inl (Eval_spec hm a i hl), trivial⟩ (ev_cond rfl (fun h => ?_) (fun h => ?_))
      · have hz : evalN 2 i a = 0 := Int.ofNat_inj.mp (beq_iff_eq.mp h)
        have hst : rootsT 2 a i ++ [i] = rootsT 2 a (i + 1) := (if_pos hz).symm
        refine ev_region [] rfl ⟨⟨by omega, rfl, Nat.le_refl 1⟩, trivial⟩ (ev_app 5 18 (rootsT 2 a i) [i] rfl rfl rfl rfl rfl (fun j hj => rfl) (fun j hj => ?_) ?_)
        · match j, hj with
          | 0, _ => rfl
        exact ev_region [] rfl trivial ⟨i + 1, hi, by dsimp only; omega, wk_ren (i' := 18) (congrArg (fun l => some (ob64 l)) hst) (fun hd => ⟨le_refl hd _, le_refl hd _, le_ren rfl (by rw [hst]), le_n hd (congrArg (fun z => PV.val (.int .u64 z)) hi1), trivial⟩)⟩
      · have hz : ¬ evalN 2 i a = 0 := fun e => beq_eq_false_iff_ne.mp h (by rw [e]; rfl)
        have hst : rootsT 2 a i = rootsT 2 a (i + 1) := (if_neg hz).symm
        refine ev_skip ?_
        exact ev_region [] rfl trivial ⟨i + 1, hi, by dsimp only; omega, wk_ren (i' := 5) (congrArg (fun l => some (ob64 l)) hst) (fun hd => ⟨le_refl hd _, le_refl hd _, le_ren rfl (by rw [hst]), le_n hd (congrArg (fun z => PV.val (.int .u64 z)) hi1), trivial⟩)⟩
    · have hi : i = 2 := by
        have := of_decide_eq_false h
        omega
      subst hi
      exact at0 () trivial ⟨le_fz' rfl rfl rfl, trivial⟩
  rintro ⟨⟩ -
  exact ev_rs [] rfl trivial (ev_ret (ret1 (fz_p (PLe.refl _))))

/-- The product, taken from the left. -/
def prodT (p : Nat) (l : List Nat) : Nat → List Nat
  | 0 => [1]
  | i + 1 => timesN p (prodT p l i) (lin p (l.getD i 0))

theorem prodT_eq {p : Nat} (hp : 1 < p) (l : List Nat) : ∀ i, i ≤ l.length → prodT p l i = prodF p (l.take i)
  | 0, _ => rfl
  | i + 1, h => by
    show timesN p (prodT p l i) (lin p (l.getD i 0)) = _
    rw [prodT_eq hp l i (by omega), ← prodF_one hp, prodF_append hp]
    congr 1
    rw [List.take_add_one, List.getD_eq_getElem?_getD, List.getElem?_eq_getElem (by omega : i < l.length)]
    rfl

theorem prodT_len {p : Nat} (hp : 1 < p) (l : List Nat) (i : Nat) (h : i ≤ l.length) : (prodT p l i).length = i + 1 := by
  rw [prodT_eq hp l i h, (prodF_len hp _).1, List.length_take]; omega

theorem lin_w {p : Nat} (hm : MayM p) (c : Nat) : W64 (lin p c) := fun j => by
  have := (Nz.lin (p := p) hm.1 c).lt j
  have := hm.2
  omega

set_option maxRecDepth 40000 in
theorem RFrom_spec {p : Nat} (hm : MayM p) (l : List Nat) (hl : l.length < 10000) : CallSpec Tryd.pr.P Tryd.pr.G 14 [u64s l, u64 p] (u64s (prodF p l)) := by
  have h1 := hm.1
  rw [show prodF p l = prodT p l l.length from by rw [prodT_eq (by omega) l _ (Nat.le_refl _), List.take_length]]
  refine callSpec_of Tryd.pr Tryd.func14 rfl rfl rfl fun w0 ok0 hok hG => ?_
  refine ev_rs [] rfl trivial ?_
  refine ev_rs [] rfl (by repeat' (first | exact trivial | exact gd_t | exact gd_f | exact (fun _ => rfl) | intro _ | apply And.intro | assumption | exact rfl | exact gd_t (by assumption) | exact gd_f (by assumption) | exact gd_a (by assumption) (by assumption) | exact gd_b (by assumption) (by assumption))) ?_
  refine ev_at (α := Unit) (fun _ => True) (fun _ => [(5, .p (u64s (prodT p l l.length)))]) (fun _ => []) ?_ ?_
  · refine ev_rs [] rfl trivial ?_
    refine ev_block (ev_while0 (α := Nat) (fun i => i ≤ l.length) (fun i => [(0, .p (u64s l)), (1, .p (u64 p)), (5, .p (u64s (prodT p l i))), (6, .p (i64 i))]) (fun i => l.length - i) 0
      (Nat.zero_le _) ⟨le_0, le_0, le_freeze ren_nil rfl (Nat.le_refl 1) (fun k hk => by cases hk) (fun j hj => by
        match j, hj with
        | 0, _ => exact le_refl ren_nil _), le_0, trivial⟩ ?_)
    rintro i h2
    refine ev_seq (ev_rs [] rfl trivial (ev_cond rfl (fun h => ev_sk ?_) (fun h => ev_exit ?_)))
    · have hi : i < l.length := Int.ofNat_lt.mp (of_decide_eq_true h)
      have i0 : (0 : Int) ≤ (i : Int) := by omega
      have i1 : (i : Int) < (l.length : Int) := by omega
      have hS := RefSub_spec hm 0 (l.getD i 0)
      obtain ⟨z, hz⟩ : ∃ z, subM 0 (l.getD i 0) p = z := ⟨_, rfl⟩
      have hlz : lin p (l.getD i 0) = [z, 1] := by rw [← hz]; rfl
      have hM := RMul_spec hm (prodT p l i) (lin p (l.getD i 0)) (by rw [prodT_len (by omega) l i h2]; omega) (show (2 : Nat) < 100000 by decide) (lin_w hm _)
      rw [rMul_eq (by omega), show timesN p (prodT p l i) (lin p (l.getD i 0)) = prodT p l (i + 1) from rfl, hlz] at hM
      rw [hz] at hS
      refine ev_seq (ev_block (ev_region [u64 z, u64s (prodT p l (i + 1))] rfl (by repeat' (first | exact trivial | exact gd_t | exact gd_f | exact .inl hS | exact Nat.le_refl 2 | exact .inl (callSpec_args (as' := [u64s (prodT p l i), u64s [z, 1], u64 p]) ⟨PLe.refl _, PLe.lit2 rfl rfl, PLe.refl _, trivial⟩ hM) | exact hi | exact i0 | exact i1 | exact (fun _ => rfl) | intro _ | apply And.intro | assumption | exact rfl | exact gd_t (by assumption) | exact gd_f (by assumption) | exact gd_a (by assumption) (by assumption) | exact gd_b (by assumption) (by assumption))) ?_))
      exact ev_region [] rfl trivial (round0 (i + 1) hi (by omega) ⟨le_0, le_0, le_0, le_e (congrArg (fun z => PV.val (.int .i64 z)) (wrapI _ (by omega) (by omega))), trivial⟩)
    · have hi : i = l.length := by
        have := of_decide_eq_false h
        omega
      subst hi
      exact at0 () trivial ⟨le_0, trivial⟩
  rintro ⟨⟩ -
  exact ev_rs [] rfl trivial (ev_ret (ret1 (fz_p (PLe.refl _))))

end Go.Proofs

/- roots, walked: the product of all x less a root; what a seed parts. -/
set_option linter.unusedVariables false
namespace Go.Proofs
open Go Vinc Vinc.Num

theorem gcdN_norm {p : Nat} (hp : 0 < p) (x a : List Nat) : gcdN (minv p) p x a = gcdN (minv p) p x (normN p a) := by
  unfold gcdN
  rw [(Nz.norm hp a).norm_id hp]

theorem lin2_nz {p : Nat} (hp : 1 < p) (s : Nat) : Nz p [s % p, 1] := by
  refine ⟨rfl, fun j => ?_⟩
  match j with
  | 0 => exact Nat.mod_lt _ (by omega)
  | 1 => exact hp
  | j + 2 => rw [getD_ge (by simp)]; omega

theorem powY {p : Nat} (hf : FdP p (minv p)) (a b : List Nat) (n : Nat) (hn : n < 18446744073709551616) (ha : Nz p a) (hb0 : 0 < (normN p b).length) :
    ∃ Y, powF (minv p) p (normN p b) 64 n (remN (minv p) p [1] (normN p b)) (remN (minv p) p (normN p a) (normN p b)) = Y ∧ Nz p Y ∧ Y.length ≤ (normN p b).length ∧ Cm p (normN p b) Y (ppow p a n) := by
  have hp := hf.pos
  have hbz := Nz.norm hp b
  have h1 := remN_nz hf (Nz.one hf.prime.1) hbz hb0
  refine ⟨_, rfl, powF_nz hf hbz hb0 _ _ _ _ h1.1, powF_len hf hbz hb0 _ _ _ _ (by omega), ?_⟩
  rw [ha.norm_id hp]
  exact powmod_cm hf ha hbz hb0 hn

set_option maxRecDepth 40000 in
theorem Linear_ok {p : Nat} (hm : MayM p) (hb : isB p = true) (hf : FdP p (minv p)) (a : List Nat) (hl : a.length ≤ 500) (h0 : 0 < (normN p a).length) : CallSpec Tryd.pr.P Tryd.pr.G 9 [u64 p, u64s a] (.tup 2 (two (u64s (prodF p (rootsN p a))) (i64 0))) := by
  have hp := hf.pos
  have hp1 := hf.prime.1
  have hp2 := hm.2
  have hln := length_normN p a
  have hx : Nz p [0, 1] := by
    have := lin2_nz hp1 0
    rw [Nat.zero_mod] at this
    exact this
  obtain ⟨Y, hY, hYz, hYl, hYc⟩ := powY hf [0, 1] a p (by omega) hx h0
  have hP := PowModL_spec hm hf [0, 1] p a (by omega) (show (2 : Nat) ≤ 1000 by decide) (by omega) h0
  rw [hY] at hP
  have hG := Gcd_spec hm hf (subN p Y [0, 1]) a (by
    unfold subN trimN
    rw [List.length_take]
    have : (subL p Y [0, 1]).length ≤ max Y.length 2 := by unfold subL; simp
    omega) (by omega)
  rw [gcdN_norm hp, linear_all hf (Nz.norm hp a) h0 hYz hYc, rootsN_norm hp] at hG
  have hS := USub_spec hm Y [0, 1] (by omega) (show (2 : Nat) < 1000000 by decide)
  have hD := Deg_spec hm a (by omega)
  refine callSpec_of Tryd.pr Tryd.func9 rfl rfl rfl fun w0 ok0 hok hG => ?_
  refine ev_rs [] rfl trivial ?_
  refine ev_rs [.tup 3 (three (polyF p) (newF p) (i64 0))] rfl ⟨.inl (RtFields_ok hm hb), trivial⟩ ?_
  refine ev_seq (ev_block (ev_rs [] rfl trivial (ev_cf rfl ?_)))
  refine ev_rs [i64 (((normN p a).length : Int) - 1)] rfl ⟨.inl hD, trivial⟩ (ev_cond rfl (fun h => ?_) (fun h => ev_skip ?_))
  · exfalso
    have := of_decide_eq_true h
    omega
  refine ev_rs [.tup 2 (two (u64s Y) (i64 0))] rfl (by repeat' (first | exact trivial | exact gd_t | exact gd_f | exact Nat.le_refl 2 | exact .inl (callSpec_args (as' := [polyF p, u64s [0, 1], u64 p, u64s a]) ⟨PLe.refl _, PLe.lit2 rfl rfl, PLe.refl _, PLe.refl _, trivial⟩ hP) | exact (fun _ => rfl) | intro _ | apply And.intro | assumption | exact rfl | exact gd_t (by assumption) | exact gd_f (by assumption) | exact gd_a (by assumption) (by assumption) | exact gd_b (by assumption) (by assumption))) ?_
  refine ev_seq (ev_rs [] rfl trivial (ev_cf rfl (ev_sk ?_)))
  refine ev_rs [u64s (subN p Y [0, 1]), u64s (prodF p (rootsN p a))] rfl (by repeat' (first | exact trivial | exact gd_t | exact gd_f | exact Nat.le_refl 2 | exact .inl ‹_› | exact .inl (callSpec_args (as' := [polyF p, u64s Y, u64s [0, 1]]) ⟨PLe.refl _, PLe.refl _, PLe.lit2 rfl rfl, trivial⟩ hS) | exact (fun _ => rfl) | intro _ | apply And.intro | assumption | exact rfl | exact gd_t (by assumption) | exact gd_f (by assumption) | exact gd_a (by assumption) (by assumption) | exact gd_b (by assumption) (by assumption))) ?_
  exact ev_ret (ret2 (fz_p (PLe.refl _)) (fz_p (PLe.refl _)))

set_option maxRecDepth 40000 in
theorem Linear_zero {p : Nat} (hm : MayM p) (hb : isB p = true) (a : List Nat) (hl : a.length ≤ 500) (h0 : (normN p a).length = 0) : CallSpec Tryd.pr.P Tryd.pr.G 9 [u64 p, u64s a] (.tup 2 (two nilS (i64 1))) := by
  have hD := Deg_spec hm a (by omega)
  refine callSpec_of Tryd.pr Tryd.func9 rfl rfl rfl fun w0 ok0 hok hG => ?_
  refine ev_rs [] rfl trivial ?_
  refine ev_rs [.tup 3 (three (polyF p) (newF p) (i64 0))] rfl ⟨.inl (RtFields_ok hm hb), trivial⟩ ?_
  refine ev_seq (ev_block (ev_rs [] rfl trivial (ev_cf rfl ?_)))
  refine ev_rs [i64 (((normN p a).length : Int) - 1)] rfl ⟨.inl hD, trivial⟩ (ev_cond rfl (fun h => ?_) (fun h => ev_skip ?_))
  · exact ev_rs [] rfl trivial (ev_ret (ret2 (fz_p (PLe.refl _)) (fz_p (PLe.refl _))))
  · exfalso
    have := of_decide_eq_false h
    omega

set_option maxRecDepth 40000 in
theorem Linear_no {p : Nat} (hp : p < 18446744073709551616) (h : ¬ (p < 9223372036854775808 ∧ isB p = true)) (a : List Nat) : CallSpec Tryd.pr.P Tryd.pr.G 9 [u64 p, u64s a] (.tup 2 (two nilS (i64 14))) := by
  refine callSpec_of Tryd.pr Tryd.func9 rfl rfl rfl fun w0 ok0 hok hG => ?_
  refine ev_rs [] rfl trivial ?_
  refine ev_rs [.tup 3 (three nilP nilP (i64 14))] rfl ⟨.inl (RtFields_no hp h), trivial⟩ ?_
  refine ev_seq (ev_block (ev_rs [] rfl trivial (ev_ct rfl ?_)))
  exact ev_rs [] rfl trivial (ev_ret (ret2 (fz_p (PLe.refl _)) (fz_p (PLe.refl _))))

/-- The first of two parts that are not empty. -/
def cutT (f : Nat → Bool) (R : List Nat) (k : Nat) : List (List Nat) := (([R.filter f, R.filter fun x => !f x].take k).filter fun l => decide (0 < l.length))

theorem cutT_all (f : Nat → Bool) (R : List Nat) : cutT f R 2 = cutP f R := rfl

theorem cutT_snoc (f : Nat → Bool) (R : List Nat) {k : Nat} (hk : k < 2) (P : List Nat) (hP : [R.filter f, R.filter fun x => !f x].getD k [] = P) : cutT f R (k + 1) = if 0 < P.length then cutT f R k ++ [P] else cutT f R k := by
  unfold cutT
  subst hP
  match k, hk with
  | 0, _ =>
    show List.filter _ [R.filter f] = if 0 < (R.filter f).length then _ else _
    by_cases h : 0 < (R.filter f).length
    · rw [if_pos h]; simp [h]
    · rw [if_neg h]; simp [h]
  | 1, _ =>
    show List.filter _ ([R.filter f] ++ [R.filter fun x => !f x]) = if 0 < (R.filter fun x => !f x).length then List.filter _ [R.filter f] ++ _ else List.filter _ [R.filter f]
    rw [List.filter_append]
    by_cases h : 0 < (R.filter fun x => !f x).length
    · rw [if_pos h]
      congr 1
      exact List.filter_cons_of_pos (decide_eq_true h)
    · rw [if_neg h]
      have e : List.filter (fun l => decide (0 < l.length)) [R.filter fun x => !f x] = [] := List.filter_cons_of_neg (by rw [decide_eq_false h]; exact Bool.false_ne_true)
      rw [e, List.append_nil]

set_option maxRecDepth 40000 in
set_option maxHeartbeats 2000000 in
theorem split_ok {p : Nat} (hm : MayM p) (hf : FdP p (minv p)) (R : List Nat) (hd : Dist p R) (hl : R.length ≤ 500) (seed : Nat) : CallSpec Tryd.pr.P Tryd.pr.G 26 [polyF p, u64s (prodF p R), u64 seed] (.tup 2 (two (plS ((cutP (hiB p seed) R).map (prodF p))) (i64 0))) := by
  have hp := hf.pos
  have hp1 := hf.prime.1
  have hp2 := hm.2
  have hbl : ∀ Q : List Nat, (prodF p Q).length = Q.length + 1 := fun Q => (prodF_len hp1 Q).1
  have hbn : ∀ Q : List Nat, normN p (prodF p Q) = prodF p Q := fun Q => (Nz.prodF hp1 Q).norm_id hp
  have h0 : 0 < (normN p (prodF p R)).length := by rw [hbn, hbl]; omega
  obtain ⟨Y, hY, hYz, hYl, hYc⟩ := powY hf [seed % p, 1] (prodF p R) ((p - 1) / 2) (by omega) (lin2_nz hp1 seed) h0
  have hP := PowModL_spec hm hf [seed % p, 1] ((p - 1) / 2) (prodF p R) (by omega) (show (2 : Nat) ≤ 1000 by decide) (by rw [hbl]; omega) h0
  rw [hY] at hP
  rw [hbn] at hYl hYc
  rw [hbl] at hYl
  obtain ⟨hs1, hs2⟩ := split_all hf hd hYz seed hYc
  obtain ⟨A, hA⟩ : ∃ A, R.filter (hiB p seed) = A := ⟨_, rfl⟩
  obtain ⟨B, hB⟩ : ∃ B, (R.filter fun x => !hiB p seed x) = B := ⟨_, rfl⟩
  have hAl : A.length ≤ 500 := by rw [← hA]; exact Nat.le_trans (List.length_filter_le _ _) hl
  have hBl : B.length ≤ 500 := by rw [← hB]; exact Nat.le_trans (List.length_filter_le _ _) hl
  rw [hA] at hs1 hs2
  rw [hB] at hs2
  have hG := Gcd_spec hm hf (subN p Y [1]) (prodF p R) (by
    unfold subN trimN
    rw [List.length_take]
    have : (subL p Y [1]).length ≤ max Y.length 1 := by unfold subL; simp
    omega) (by rw [hbl]; omega)
  rw [hs1] at hG
  have hS := USub_spec hm Y [1] (by omega) (show (1 : Nat) < 1000000 by decide)
  have hD := DivM_ok hm (prodF p R) (prodF p A) (by rw [hbl]; omega) (by rw [hbl]; omega) (by rw [hbn, hbl]; omega)
  rw [hbn, hbn, hs2] at hD
  obtain ⟨rm, hrm⟩ : ∃ rm, (divN (minv p) p (prodF p R) (prodF p A)).2 = rm := ⟨_, rfl⟩
  rw [hrm] at hD
  obtain ⟨dA, hdA⟩ : ∃ dA, prodF p A = dA := ⟨_, rfl⟩
  obtain ⟨dB, hdB⟩ : ∃ dB, prodF p B = dB := ⟨_, rfl⟩
  have hz2 : ((2 : Int)) ≠ 0 := by decide
  have hpz : ((p : Nat) : Int) ≠ 0 := by omega
  have hPh : CallOk Tryd.pr.P Tryd.pr.G 30 [polyF p, .sl 2 1 (two (u64 (seed % p)) (u64 1)), u64 ((p - 1) / 2), u64s (prodF p R)] (.tup 2 (two (u64s Y) (i64 0))) :=
    .inl (callSpec_args (as' := [polyF p, u64s [seed % p, 1], u64 ((p - 1) / 2), u64s (prodF p R)]) ⟨PLe.refl _, PLe.lit2 rfl rfl, PLe.refl _, PLe.refl _, trivial⟩ hP)
  rw [hdA] at hG hD
  rw [hdB] at hD
  refine callSpec_of Tryd.pr Tryd.func26 rfl rfl rfl fun w0 ok0 hok hG' => ?_
  refine ev_rs [] rfl trivial ?_
  refine ev_ds [u64 p, u64 p, .tup 2 (two (u64s Y) (i64 0))] (by kernel_rfl) rfl rfl ?_ ?_
  · rw [half_p (by omega) (by omega)]
    exact (by repeat' (first | exact trivial | exact gd_t | exact gd_f | exact .inl UP_spec | exact hz2 | exact hpz | exact Nat.le_refl 2 | exact .inl (callSpec_args (as' := [polyF p, u64s [seed % p, 1], u64 ((p - 1) / 2), u64s (prodF p R)]) ⟨PLe.refl _, PLe.lit2 rfl rfl, PLe.refl _, PLe.refl _, trivial⟩ hP) | exact (fun _ => rfl) | intro _ | apply And.intro | assumption | exact rfl | exact gd_t (by assumption) | exact gd_f (by assumption) | exact gd_a (by assumption) (by assumption) | exact gd_b (by assumption) (by assumption)))
  refine ev_seq (ev_rs [] rfl trivial (ev_cf rfl (ev_sk ?_)))
  refine ev_rs [u64s (subN p Y [1]), u64s dA] rfl (by repeat' (first | exact trivial | exact gd_t | exact gd_f | exact Nat.le_refl 1 | exact .inl hG | exact .inl (callSpec_args (as' := [polyF p, u64s Y, u64s [1]]) ⟨PLe.refl _, PLe.refl _, PLe.lit1 rfl, trivial⟩ hS) | exact (fun _ => rfl) | intro _ | apply And.intro | assumption | exact rfl | exact gd_t (by assumption) | exact gd_f (by assumption) | exact gd_a (by assumption) (by assumption) | exact gd_b (by assumption) (by assumption))) ?_
  refine ev_rs [.tup 3 (three (u64s dB) (u64s rm) (i64 0))] rfl (by repeat' (first | exact trivial | exact gd_t | exact gd_f | exact .inl hD | exact (fun _ => rfl) | intro _ | apply And.intro | assumption | exact rfl | exact gd_t (by assumption) | exact gd_f (by assumption) | exact gd_a (by assumption) (by assumption) | exact gd_b (by assumption) (by assumption))) ?_
  refine ev_seq (ev_rs [] rfl trivial (ev_cf rfl (ev_sk ?_)))
  refine ev_rs [] rfl trivial (ev_nilob 13 13 (obP []) rfl rfl rfl ?_)
  have hcA : ∀ k, k < 2 → [dA, dB].getD k [] = prodF p ([A, B].getD k []) := fun k hk => by
    match k, hk with
    | 0, _ => exact hdA.symm
    | 1, _ => exact hdB.symm
  obtain ⟨X, hX⟩ : ∃ X : Nat → List (List Nat), X = fun k => (cutT (hiB p seed) R k).map (prodF p) := ⟨_, rfl⟩
  have hX0 : X 0 = [] := by rw [hX]; rfl
  have hX2 : X 2 = (cutP (hiB p seed) R).map (prodF p) := by rw [hX]; rfl
  have hXs : ∀ k, k < 2 → X (k + 1) = if 0 < ([A, B].getD k []).length then X k ++ [[dA, dB].getD k []] else X k := fun k hk => by
    rw [hX]
    dsimp only
    rw [cutT_snoc _ R hk ([A, B].getD k []) (by rw [hA, hB]), hcA k hk]
    split
    · rw [List.map_append]; rfl
    · rfl
  have hXl : ∀ k, (X k).length ≤ 2 := fun k => by
    rw [hX]
    dsimp only
    rw [List.length_map]
    unfold cutT
    refine Nat.le_trans (List.length_filter_le _ _) ?_
    rw [List.length_take]
    exact Nat.min_le_right _ 2
  rw [← hX2]
  refine ev_at (α := Unit) (fun _ => True) (fun _ => [(13, .p (plS (X 2)))]) (fun _ => []) ?_ ?_
  · refine ev_rs [] rfl (by repeat' (first | exact trivial | exact gd_t | exact gd_f | exact (fun _ => rfl) | intro _ | apply And.intro | assumption | exact rfl | exact gd_t (by assumption) | exact gd_f (by assumption) | exact gd_a (by assumption) (by assumption) | exact gd_b (by assumption) (by assumption))) ?_
    refine ev_block (ev_while (α := Nat) (fun k => k ≤ 2) (fun k => [(0, .p (polyF p)), (13, .own 13 0 (X k).length 1), (54, .p (plS [dA, dB])), (55, .p (i64 2)), (56, .p (i64 k))]) (fun k => [(13, obP (X k))]) (fun k => 2 - k) 0
      (Nat.zero_le _) (wk_P 13 (by rw [hX0]; rfl) (fun hd => ⟨le_refl hd _, le_r1 rfl (by rw [hX0]; rfl), le_freeze hd rfl (Nat.le_refl 2) (fun k hk => ?_) (fun j hj => ?_), le_refl hd _, le_refl hd _, trivial⟩)) ?_)
    · have := hOf_mem k hk
      simp at this
      subst this
      exact (by decide : (13 : Nat) ≠ 54)
    · match j, hj with
      | 0, _ => exact le_refl hd _
      | 1, _ => exact le_refl hd _
    rintro k h1
    have hXk := hXl k
    refine ev_rs [] rfl trivial ?_
    refine ev_seq (ev_cond rfl (fun h => ev_sk ?_) (fun h => ev_exit ?_))
    · have hk : k < 2 := Int.ofNat_lt.mp (of_decide_eq_true h)
      obtain ⟨P, hPk⟩ : ∃ P, [A, B].getD k [] = P := ⟨_, rfl⟩
      have hPl : P.length ≤ 500 := by
        rw [← hPk]
        match k, hk with
        | 0, _ => exact hAl
        | 1, _ => exact hBl
      obtain ⟨b, hbk⟩ : ∃ b, [dA, dB].getD k [] = b := ⟨_, rfl⟩
      have hbP : b = prodF p P := by rw [← hbk, hcA k hk, hPk]
      have hDg := Deg_spec hm b (by rw [hbP, hbl]; omega)
      rw [hbP, hbn, hbl, ← hbP] at hDg
      have hst := hXs k hk
      rw [hPk, hbk] at hst
      have k0 : (0 : Int) ≤ (k : Int) := by omega
      have k1 : (k : Int) < (2 : Int) := by omega
      refine ev_seq (ev_block ?_)
      refine ev_rs [] rfl (by repeat' (first | exact trivial | exact gd_t | exact gd_f | exact hk | exact k0 | exact k1 | exact (fun _ => rfl) | intro _ | apply And.intro | assumption | exact rfl | exact gd_t (by assumption) | exact gd_f (by assumption) | exact gd_a (by assumption) (by assumption) | exact gd_b (by assumption) (by assumption))) ?_
      refine ev_eq 15 (.p (u64s b)) (by rw [← hbk]; rfl) ?_
      refine ev_rs [i64 (((P.length + 1 : Nat) : Int) - 1)] rfl ⟨.inl hDg, trivial⟩ (ev_cond rfl (fun h => ?_) (fun h => ?_))
      · have hz : 0 < P.length := by
          have := of_decide_eq_true h
          omega
        rw [if_pos hz] at hst
        refine ev_region [] rfl ⟨⟨by omega, rfl, Nat.le_refl 1⟩, trivial⟩ (ev_appP 13 67 (X k) [b] rfl rfl rfl rfl rfl (fun j hj => rfl) (fun j hj => ?_) ?_)
        · match j, hj with
          | 0, _ => rfl
        exact ev_region [] rfl trivial ⟨k + 1, hk, by dsimp only; omega, wk_P 67 (congrArg (fun l => some (obP l)) hst.symm) (fun hd => ⟨le_refl hd _, le_r1 rfl (by rw [hst]), le_refl hd _, le_refl hd _, le_n hd (congrArg (fun z => PV.val (.int .i64 z)) (wrapI _ (by omega) (by omega))), trivial⟩)⟩
      · have hz : ¬ 0 < P.length := by
          have := of_decide_eq_false h
          omega
        rw [if_neg hz] at hst
        refine ev_skip ?_
        exact ev_region [] rfl trivial ⟨k + 1, hk, by dsimp only; omega, wk_P 13 (congrArg (fun l => some (obP l)) hst.symm) (fun hd => ⟨le_refl hd _, le_r1 rfl (by rw [hst]), le_refl hd _, le_refl hd _, le_n hd (congrArg (fun z => PV.val (.int .i64 z)) (wrapI _ (by omega) (by omega))), trivial⟩)⟩
    · have hk : k = 2 := by
        have := of_decide_eq_false h
        omega
      subst hk
      exact at0 () trivial ⟨le_fzP rfl rfl rfl, trivial⟩
  rintro ⟨⟩ -
  exact ev_rs [] rfl trivial (ev_ret (ret2 (fz_p (PLe.refl _)) (fz_p (PLe.refl _))))

end Go.Proofs

/- slices.Sort, walked: short rows. -/
set_option linter.unusedVariables false
namespace Go.Proofs
open Go Vinc Vinc.Num

theorem isNaN_spec (x : Nat) : CallSpec Tryd.pr.P Tryd.pr.G 80 [u64 x] (Vinc.bool false) := by
  refine callSpec_of Tryd.pr Tryd.func80 rfl rfl rfl fun w0 ok0 hok hG => ?_
  refine ev_rs [] rfl trivial ?_
  exact ev_rs [] rfl trivial (ev_ret (ret1 (fz_p (PLe.of_eq (congrArg Vinc.bool (bne_self_eq_false _))))))

theorem less_spec (x y : Nat) : CallSpec Tryd.pr.P Tryd.pr.G 65 [u64 x, u64 y] (Vinc.bool (decide ((x : Int) < (y : Int)))) := by
  refine callSpec_of Tryd.pr Tryd.func65 rfl rfl rfl fun w0 ok0 hok hG => ?_
  refine ev_rs [] rfl trivial ?_
  refine ev_rs [Vinc.bool false, Vinc.bool false] rfl ?_ ?_
  · exact (by repeat' (first | exact trivial | exact gd_t | exact gd_f | exact .inl (isNaN_spec x) | exact .inl (isNaN_spec y) | exact (fun _ => rfl) | intro _ | apply And.intro | assumption | exact rfl | exact gd_t (by assumption) | exact gd_f (by assumption) | exact gd_a (by assumption) (by assumption) | exact gd_b (by assumption) (by assumption)))
  exact ev_ret (ret1 (fz_p (PLe.refl _)))

theorem bitsLen_spec (x : Nat) (hx : x < 18446744073709551616) : CallSpec Tryd.pr.P Tryd.pr.G 47 [u64 x] (i64 (len64 x)) := by
  refine callSpec_of Tryd.pr Tryd.func47 rfl rfl rfl fun w0 ok0 hok hG => ?_
  refine ev_rs [] rfl trivial ?_
  refine ev_seq (ev_cf rfl (ev_sk ?_))
  exact ev_rs [i64 (len64 x)] rfl ⟨.inl (Len64_spec x hx), trivial⟩ (ev_ret (ret1 (fz_p (PLe.refl _))))

theorem sub20 (xs : List Nat) : ∀ q ∈ [((900 : Nat), ob64 xs)], ∀ j, j < q.2.n → subA ([((900 : Nat), ob64 xs)].map (·.1)) (q.2.f j) := fun q hq j hj => by
  obtain rfl := List.mem_singleton.mp hq
  trivial

theorem pre20 (xs ys : List Nat) : ∀ q ∈ [((900 : Nat), ob64 xs)], (hOf [((900 : Nat), ob64 ys)] q.1).isSome = true ∧ (fun i : Nat => i) q.1 = q.1 := fun q hq => by
  obtain rfl := List.mem_singleton.mp hq
  exact ⟨rfl, rfl⟩

theorem obs20 {c : Cx} {σ : St} {ys : List Nat} (h : σ.h 900 = some (ob64 ys)) : Obs c σ (mk [] [(900, ob64 ys)]) (fun i => i) [(900, ob64 ys)] :=
  ⟨⟨_, h, Nat.le_refl _, fun j _ => le_refl (ren_list fun q hq => by
    obtain rfl := List.mem_singleton.mp hq
    show (σ.h 900).isSome = true
    rw [h]; rfl) _⟩, trivial⟩

set_option maxHeartbeats 2000000 in
theorem ins_spec (xs : List Nat) (a b : Nat) (hab : a ≤ b) (hb : b ≤ xs.length) (hl : xs.length < 100000) :
    CallSpecX Tryd.pr.P Tryd.pr.G 59 [.own 900 0 xs.length 1, .p (i64 a), .p (i64 b)] [(900, ob64 xs)] [(900, ob64 (sortR xs a b))] (.p (.val (.tuple #[]))) := by
  refine callSpecX_of Tryd.pr Tryd.func59 rfl rfl rfl (fun z hz => ?_) (sub20 xs) fun w0 ok0 hok hG mine hmine lc => ?_
  · simp only [List.mem_cons, List.not_mem_nil, or_false] at hz
    rcases hz with rfl | rfl | rfl
    · exact List.mem_cons_self
    · trivial
    · trivial
  refine ev_rs [] rfl trivial ?_
  refine ev_block (ev_while (α := Nat × List Nat) (fun q => a + 1 ≤ q.1 ∧ (q.1 ≤ b ∨ q.1 = a + 1) ∧ Pm xs q.2 a b ∧ Asc q.2 a q.1)
    (fun q => [(0, .own 900 0 xs.length 1), (1, .p (i64 a)), (2, .p (i64 b)), (6, .p (i64 q.1)), (1000, .is 900 (lc 900))]) (fun q => [(900, ob64 q.2)]) (fun q => b - q.1) (a + 1, xs)
    ⟨Nat.le_refl _, .inr rfl, Pm.refl _ _ _, fun u v h1 h2 h3 => by dsimp only at h3; omega⟩ (wk_ob rfl (fun hd => ⟨le_o rfl, le_refl hd _, le_refl hd _, le_n hd (congrArg (fun z => PV.val (.int .i64 z)) (wrapI _ (by omega) (by omega))), le_s rfl, trivial⟩)) ?_)
  rintro ⟨i, ys⟩ ⟨h1, h2, h3, h4⟩
  dsimp only at h1 h2 h3 h4
  have hyl := h3.len
  refine ev_seq (ev_rs [] rfl trivial (ev_cond rfl (fun h => ev_sk ?_) (fun h => ev_exit ?_)))
  · have hi : i < b := Int.ofNat_lt.mp (of_decide_eq_true h)
    refine ev_seq (ev_block (ev_rs [] rfl trivial ?_))
    refine ev_block (ev_while (α := Nat × List Nat) (fun q => a ≤ q.1 ∧ q.1 ≤ i ∧ Pm xs q.2 a b ∧ InsI q.2 a i q.1)
      (fun q => [(0, .own 900 0 xs.length 1), (1, .p (i64 a)), (2, .p (i64 b)), (6, .p (i64 i)), (7, .p (i64 q.1)), (1000, .is 900 (lc 900))]) (fun q => [(900, ob64 q.2)]) (fun q => q.1) (i, ys)
      ⟨by dsimp only; omega, Nat.le_refl _, h3, InsI.start h4⟩ (wk_ob rfl (fun hd => ⟨le_o rfl, le_refl hd _, le_refl hd _, le_refl hd _, le_refl hd _, le_s rfl, trivial⟩)) ?_)
    rintro ⟨j, zs⟩ ⟨g1, g2, g3, g4⟩
    dsimp only at g1 g2 g3 g4
    have hzl := g3.len
    have fin : (j = a ∨ (a < j ∧ zs.getD (j - 1) 0 ≤ zs.getD j 0)) → Asc zs a (i + 1) := fun h => InsI.stop g4 h
    by_cases hj : a < j
    · obtain ⟨k, rfl⟩ : ∃ k, j = k + 1 := ⟨j - 1, by omega⟩
      have hc : decide (((k + 1 : Nat) : Int) > (a : Int)) = true := decide_eq_true (by omega)
      have ek : IntKind.wrap .i64 (((k + 1 : Nat) : Int) - 1) = (k : Int) := (wrapI _ (by omega) (by omega)).trans (by omega)
      have i0 : (0 : Int) ≤ ((k + 1 : Nat) : Int) := by omega
      have i1 : ((k + 1 : Nat) : Int) < (xs.length : Int) := by omega
      have hL : CallSpec Tryd.pr.P Tryd.pr.G 65 [u64 (zs.getD (k + 1) 0), u64 (zs.getD (IntKind.wrap .i64 (((k + 1 : Nat) : Int) - 1)).toNat 0)] (Vinc.bool (decide (((zs.getD (k + 1) 0 : Nat) : Int) < ((zs.getD k 0 : Nat) : Int)))) := by
        rw [ek]
        exact less_spec _ _
      have c1 : (IntKind.wrap .i64 (((k + 1 : Nat) : Int) - 1)).toNat < zs.length := by rw [ek, Int.toNat_natCast]; omega
      have c2 : 0 ≤ IntKind.wrap .i64 (((k + 1 : Nat) : Int) - 1) := by rw [ek]; omega
      have c3 : IntKind.wrap .i64 (((k + 1 : Nat) : Int) - 1) < (xs.length : Int) := by rw [ek]; omega
      have c4 : k + 1 < zs.length := by omega
      have e5 : (IntKind.wrap .i64 (((k + 1 : Nat) : Int) - 1)).toNat = k := by rw [ek, Int.toNat_natCast]
      refine ev_seq (ev_ds [Vinc.bool (decide (((zs.getD (k + 1) 0 : Nat) : Int) < ((zs.getD k 0 : Nat) : Int)))] (by kernel_rfl) rfl rfl (by repeat' (first | exact trivial | exact gd_t | exact gd_f | exact i0 | exact i1 | exact .inl hL | exact c1 | exact c2 | exact c3 | exact c4 | exact (fun _ => rfl) | intro _ | apply And.intro | assumption | exact rfl | exact gd_t (by assumption) | exact gd_f (by assumption) | exact gd_a (by assumption) (by assumption) | exact gd_b (by assumption) (by assumption))) ?_)
      by_cases hlt : zs.getD (k + 1) 0 < zs.getD k 0
      · have hcc : (bif decide (((k + 1 : Nat) : Int) > (a : Int)) then decide (((zs.getD (k + 1) 0 : Nat) : Int) < ((zs.getD k 0 : Nat) : Int)) else false) = true := by
          rw [hc]
          exact decide_eq_true (by omega)
        refine ev_ct (congrArg (fun z => AV.p (PV.val (.bool z))) hcc) (ev_sk ?_)
        refine ev_seq (ev_block (ev_draw [] (by kernel_rfl) rfl rfl (by repeat' (first | exact trivial | exact gd_t | exact gd_f | exact i0 | exact i1 | exact c1 | exact c2 | exact c3 | exact c4 | exact (fun _ => rfl) | intro _ | apply And.intro | assumption | exact rfl | exact gd_t (by assumption) | exact gd_f (by assumption) | exact gd_a (by assumption) (by assumption) | exact gd_b (by assumption) (by assumption))) (ev_swap 900 (k + 1) k rfl rfl (show (IntKind.wrap .i64 (((k + 1 : Nat) : Int) - 1)).toNat = k from e5) (show u64 (zs.getD (IntKind.wrap .i64 (((k + 1 : Nat) : Int) - 1)).toNat 0) = _ by rw [e5]) rfl c4 (show k < zs.length by omega) ?_)))
        exact ev_region [] rfl trivial ⟨(k, swp zs (k + 1) k), ⟨by dsimp only; omega, by dsimp only; omega, g3.swp (by omega) (by omega) (by omega) (by omega) hb, InsI.step g4 (by omega) g2 (by omega) hlt⟩, Nat.lt_succ_self k, wk_ob rfl (fun hd => ⟨le_o rfl, le_refl hd _, le_refl hd _, le_refl hd _, le_n hd (congrArg (fun z => PV.val (.int .i64 z)) ek), le_s rfl, trivial⟩)⟩
      · have hcc : (bif decide (((k + 1 : Nat) : Int) > (a : Int)) then decide (((zs.getD (k + 1) 0 : Nat) : Int) < ((zs.getD k 0 : Nat) : Int)) else false) = false := by
          rw [hc]
          exact decide_eq_false (by omega)
        refine ev_cf (congrArg (fun z => AV.p (PV.val (.bool z))) hcc) (ev_exit ?_)
        have hA := fin (.inr ⟨hj, by rw [Nat.add_sub_cancel]; exact Nat.le_of_not_lt hlt⟩)
        exact ev_region [] rfl trivial ⟨(i + 1, zs), ⟨by dsimp only; omega, .inl hi, g3, hA⟩, by dsimp only; omega, wk_ob rfl (fun hd => ⟨le_o rfl, le_refl hd _, le_refl hd _, le_n hd (congrArg (fun z => PV.val (.int .i64 z)) (wrapI _ (by omega) (by omega))), le_s rfl, trivial⟩)⟩
    · have hja : j = a := by omega
      have hc : decide ((j : Int) > (a : Int)) = false := decide_eq_false (by omega)
      have hno : ∀ {P : Prop}, (decide ((j : Int) > (a : Int)) == true) = true → P := fun e => by rw [hc] at e; cases e
      refine ev_seq (ev_ds [Vinc.bool false] (by kernel_rfl) rfl rfl (by repeat' (first | exact trivial | exact gd_t | exact gd_f | exact fun e => hno e | exact (fun _ => rfl) | intro _ | apply And.intro | assumption | exact rfl | exact gd_t (by assumption) | exact gd_f (by assumption) | exact gd_a (by assumption) (by assumption) | exact gd_b (by assumption) (by assumption))) ?_)
      refine ev_cf (congrArg (fun z => AV.p (PV.val (.bool z))) (show (bif decide ((j : Int) > (a : Int)) then false else false) = false by rw [hc]; rfl)) (ev_exit ?_)
      have hA := fin (.inl hja)
      exact ev_region [] rfl trivial ⟨(i + 1, zs), ⟨by dsimp only; omega, .inl hi, g3, hA⟩, by dsimp only; omega, wk_ob rfl (fun hd => ⟨le_o rfl, le_refl hd _, le_refl hd _, le_n hd (congrArg (fun z => PV.val (.int .i64 z)) (wrapI _ (by omega) (by omega))), le_s rfl, trivial⟩)⟩
  · have hi : b ≤ i := by
      have := of_decide_eq_false h
      omega
    have hys : ys = sortR xs a b := sortR_of hab hb h3 fun u v e1 e2 e3 => h4 u v e1 e2 (by omega)
    exact retX0 (fun i => i) (pre20 xs _) ⟨rfl, trivial⟩ (obs20 (congrArg (fun l => some (ob64 l)) hys)) rfl

end Go.Proofs

/- slices.Sort, walked: at most twelve words. -/
set_option linter.unusedVariables false
namespace Go.Proofs
open Go Vinc Vinc.Num

theorem pdq_small (xs : List Nat) (a b : Nat) (lim : Int) (hab : a ≤ b) (hb : b ≤ xs.length) (hl : xs.length < 100000) (h12 : b ≤ a + 12) :
    CallSpecX Tryd.pr.P Tryd.pr.G 46 [.own 900 0 xs.length 1, .p (i64 a), .p (i64 b), .p (i64 lim)] [(900, ob64 xs)] [(900, ob64 (sortR xs a b))] (.p (.val (.tuple #[]))) := by
  refine callSpecX_of Tryd.pr Tryd.func46 rfl rfl rfl (fun z hz => ?_) (sub20 xs) fun w0 ok0 hok hG mine hmine lc => ?_
  · simp only [List.mem_cons, List.not_mem_nil, or_false] at hz
    rcases hz with rfl | rfl | rfl | rfl
    · exact List.mem_cons_self
    · trivial
    · trivial
    · trivial
  refine ev_rs [] rfl trivial ?_
  refine ev_rs [] rfl trivial ?_
  refine ev_block (ev_while (α := Unit) (fun _ => True)
    (fun _ => [(0, .own 900 0 xs.length 1), (1, .p (i64 a)), (2, .p (i64 b)), (3, .p (i64 lim)), (1000, .is 900 (lc 900))]) (fun _ => [(900, ob64 xs)]) (fun _ => 0) ()
    trivial (wk_ob rfl (fun hd => ⟨le_o rfl, le_refl hd _, le_refl hd _, le_refl hd _, le_s rfl, trivial⟩)) ?_)
  rintro ⟨⟩ -
  have ew : IntKind.wrap .i64 ((b : Int) - (a : Int)) = (b : Int) - (a : Int) := wrapI _ (by omega) (by omega)
  have hc : decide (IntKind.wrap .i64 ((b : Int) - (a : Int)) ≤ 12) = true := by rw [ew]; exact decide_eq_true (by omega)
  refine ev_block ?_
  refine ev_rs [] rfl trivial ?_
  refine ev_seq (ev_rs [] rfl trivial (ev_ct (congrArg (fun z => AV.p (PV.val (.bool z))) hc) ?_))
  refine ev_rg [.x ⟨[.own 900 0 xs.length 1, .p (i64 a), .p (i64 b)], [(900, ob64 xs)], [(900, ob64 (sortR xs a b))], .p (.val (.tuple #[]))⟩] rfl ⟨⟨rfl, ⟨rfl, trivial⟩, ins_spec xs a b hab hb hl⟩, trivial⟩ (ev_ret ?_)
  exact retX0 (fun i => i) (pre20 xs _) ⟨rfl, trivial⟩ (obs20 rfl) rfl

theorem sort_spec (xs : List Nat) (h12 : xs.length ≤ 12) :
    CallSpecX Tryd.pr.P Tryd.pr.G 29 [.own 900 0 xs.length 1] [(900, ob64 xs)] [(900, ob64 (sortN xs))] (.p (.val (.tuple #[]))) := by
  have hw : IntKind.wrap .u64 (xs.length : Int) = (xs.length : Int) := (wrapN xs.length).trans (congrArg (fun n : Nat => (n : Int)) (Nat.mod_eq_of_lt (by omega)))
  have hB : CallSpec Tryd.pr.P Tryd.pr.G 47 [PV.val (.int .u64 (IntKind.wrap .u64 (xs.length : Int)))] (i64 (len64 xs.length)) := by
    rw [hw]
    exact bitsLen_spec _ (by omega)
  have hS := pdq_small xs 0 xs.length (len64 xs.length) (Nat.zero_le _) (Nat.le_refl _) (by omega) (by omega)
  rw [sortR_all] at hS
  refine callSpecX_of Tryd.pr Tryd.func29 rfl rfl rfl (fun z hz => ?_) (sub20 xs) fun w0 ok0 hok hG mine hmine lc => ?_
  · obtain rfl := List.mem_singleton.mp hz
    exact List.mem_cons_self
  refine ev_rs [] rfl trivial ?_
  refine ev_regionG [.v (i64 (len64 xs.length)), .x ⟨[.own 900 0 xs.length 1, .p (i64 0), .p (i64 xs.length), .p (i64 (len64 xs.length))], [(900, ob64 xs)], [(900, ob64 (sortN xs))], .p (.val (.tuple #[]))⟩] rfl (by repeat' (first | exact trivial | exact gd_t | exact gd_f | exact .inl hB | exact hS | exact (fun _ => rfl) | intro _ | apply And.intro | assumption | exact rfl | exact gd_t (by assumption) | exact gd_f (by assumption) | exact gd_a (by assumption) (by assumption) | exact gd_b (by assumption) (by assumption))) ?_
  exact retX0 (fun i => i) (pre20 xs _) ⟨rfl, trivial⟩ (obs20 rfl) rfl

end Go.Proofs
