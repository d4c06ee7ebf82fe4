/- Part 5 of the proof's texts, joined: Types, Door, Bits, Div, Word, Ref03, Inv, Form, Field, Prime, Rec, Find, Poly, Na, Nb, Nc, Nd, Ne, Nf, Ng, Nh, Ni, Nj, Nk. -/
import Derived.Test.YtmpfgaebmdbdeaaGreatDoorB4
import Derived.Test.YtmpfgaebmdbdeaaGreatDoorProg
import Derived.Test.YtmpfgaebmdbdeaaGreatDoorTie
import Derived.LaidMore
import Derived.Stop.Joined
import Derived.Lib.LaidTab
import Derived.Laws.Externs

/- The types of the program, and what is known of its variables. -/
namespace Go.Proofs
open Go Vinc

def Tryz.T0 : Nat → Option Vinc.TI
  | 2 => some ⟨.int .i64, 1, 8, [.int .i64 0]⟩
  | 3 => some ⟨.int .i64, 1, 8, [.int .i64 0]⟩
  | 4 => some ⟨.bool, 1, 1, [.bool false]⟩
  | 5 => some ⟨.int .u8, 1, 1, [.int .u8 0]⟩
  | 9 => some ⟨.str, 1, 16, [.string ⟨#[]⟩]⟩
  | 12 => some ⟨.int .u64, 1, 8, [.int .u64 0]⟩
  | 13 => some ⟨.struct [(0, 9), (1, 12)], 2, 24, [.string ⟨#[]⟩, .int .u64 0]⟩
  | 19 => some ⟨.struct [(0, 17)], 1, 8, [.pointer none]⟩
  | 21 => some ⟨.int .i32, 1, 4, [.int .i32 0]⟩
  | 22 => some ⟨.int .u64, 1, 8, [.int .u64 0]⟩
  | 23 => some ⟨.slice 22, 1, 24, [.slice none 0 0]⟩
  | 24 => some ⟨.slice 22, 1, 24, [.slice none 0 0]⟩
  | 25 => some ⟨.array 2 24, 2, 48, [.slice none 0 0, .slice none 0 0]⟩
  | 26 => some ⟨.pointer 66, 1, 8, [.pointer none]⟩
  | 31 => some ⟨.int .i64, 1, 8, [.int .i64 0]⟩
  | 37 => some ⟨.array 2 22, 2, 16, [.int .u64 0, .int .u64 0]⟩
  | 38 => some ⟨.array 2 3, 2, 16, [.int .i64 0, .int .i64 0]⟩
  | 47 => some ⟨.array 3 24, 3, 72, [.slice none 0 0, .slice none 0 0, .slice none 0 0]⟩
  | 64 => some ⟨.pointer 81, 1, 8, [.pointer none]⟩
  | 65 => some ⟨.struct [(0, 64)], 1, 8, [.pointer none]⟩
  | 66 => some ⟨.struct [(0, 64)], 1, 8, [.pointer none]⟩
  | 73 => some ⟨.int .u64, 1, 8, [.int .u64 0]⟩
  | 79 => some ⟨.slice 24, 1, 24, [.slice none 0 0]⟩
  | 80 => some ⟨.struct [(0, 22), (1, 22), (2, 22)], 3, 24, [.int .u64 0, .int .u64 0, .int .u64 0]⟩
  | 81 => some ⟨.struct [(0, 22), (1, 22), (2, 22)], 3, 24, [.int .u64 0, .int .u64 0, .int .u64 0]⟩
  | 84 => some ⟨.array 12 22, 12, 96, [.int .u64 0, .int .u64 0, .int .u64 0, .int .u64 0, .int .u64 0, .int .u64 0, .int .u64 0, .int .u64 0, .int .u64 0, .int .u64 0, .int .u64 0, .int .u64 0]⟩
  | 88 => some ⟨.slice 94, 1, 24, [.slice none 0 0]⟩
  | 92 => some ⟨.slice 22, 1, 24, [.slice none 0 0]⟩
  | 93 => some ⟨.struct [(0, 4), (1, 92)], 2, 32, [.bool false, .slice none 0 0]⟩
  | 94 => some ⟨.struct [(0, 4), (1, 92)], 2, 32, [.bool false, .slice none 0 0]⟩
  | 97 => some ⟨.array 3 23, 3, 72, [.slice none 0 0, .slice none 0 0, .slice none 0 0]⟩
  | 106 => some ⟨.array 64 5, 64, 64, [.int .u8 0, .int .u8 0, .int .u8 0, .int .u8 0, .int .u8 0, .int .u8 0, .int .u8 0, .int .u8 0, .int .u8 0, .int .u8 0, .int .u8 0, .int .u8 0, .int .u8 0, .int .u8 0, .int .u8 0, .int .u8 0, .int .u8 0, .int .u8 0, .int .u8 0, .int .u8 0, .int .u8 0, .int .u8 0, .int .u8 0, .int .u8 0, .int .u8 0, .int .u8 0, .int .u8 0, .int .u8 0, .int .u8 0, .int .u8 0, .int .u8 0, .int .u8 0, .int .u8 0, .int .u8 0, .int .u8 0, .int .u8 0, .int .u8 0, .int .u8 0, .int .u8 0, .int .u8 0, .int .u8 0, .int .u8 0, .int .u8 0, .int .u8 0, .int .u8 0, .int .u8 0, .int .u8 0, .int .u8 0, .int .u8 0, .int .u8 0, .int .u8 0, .int .u8 0, .int .u8 0, .int .u8 0, .int .u8 0, .int .u8 0, .int .u8 0, .int .u8 0, .int .u8 0, .int .u8 0, .int .u8 0, .int .u8 0, .int .u8 0, .int .u8 0]⟩
  | 107 => some ⟨.pointer 122, 1, 8, [.pointer none]⟩
  | 108 => some ⟨.array 3 107, 3, 24, [.pointer none, .pointer none, .pointer none]⟩
  | 121 => some ⟨.struct [(0, 64), (1, 3), (2, 23), (3, 22)], 4, 48, [.pointer none, .int .i64 0, .slice none 0 0, .int .u64 0]⟩
  | 122 => some ⟨.struct [(0, 64), (1, 3), (2, 23), (3, 22)], 4, 48, [.pointer none, .int .i64 0, .slice none 0 0, .int .u64 0]⟩
  | 128 => some ⟨.int .u32, 1, 4, [.int .u32 0]⟩
  | 132 => some ⟨.struct [(0, 3), (1, 22), (2, 22)], 3, 24, [.int .i64 0, .int .u64 0, .int .u64 0]⟩
  | 133 => some ⟨.struct [(0, 3), (1, 22), (2, 22)], 3, 24, [.int .i64 0, .int .u64 0, .int .u64 0]⟩
  | 156 => some ⟨.pointer 172, 1, 8, [.pointer none]⟩
  | 166 => some ⟨.pointer 5, 1, 8, [.pointer none]⟩
  | 171 => some ⟨.struct [(0, 9)], 1, 16, [.string ⟨#[]⟩]⟩
  | 172 => some ⟨.struct [(0, 9)], 1, 16, [.string ⟨#[]⟩]⟩
  | _ => none
theorem Tryz.hT0 : ∀ t i, Tryz.T0 t = some i → Vinc.TIok Tryz.prog t i := by
  intro t i h
  unfold Tryz.T0 at h
  split at h
  · obtain rfl := Option.some.inj h; exact ⟨Tryz.underlying2, by kernel_rfl⟩
  · obtain rfl := Option.some.inj h; exact ⟨Tryz.underlying3, by kernel_rfl⟩
  · obtain rfl := Option.some.inj h; exact ⟨Tryz.underlying4, by kernel_rfl⟩
  · obtain rfl := Option.some.inj h; exact ⟨Tryz.underlying5, by kernel_rfl⟩
  · obtain rfl := Option.some.inj h; exact ⟨Tryz.underlying9, by kernel_rfl⟩
  · obtain rfl := Option.some.inj h; exact ⟨Tryz.underlying12, by kernel_rfl⟩
  · obtain rfl := Option.some.inj h; exact ⟨⟨_, Tryz.underlying13, rfl⟩, by kernel_rfl⟩
  · obtain rfl := Option.some.inj h; exact ⟨⟨_, Tryz.underlying19, rfl⟩, by kernel_rfl⟩
  · obtain rfl := Option.some.inj h; exact ⟨Tryz.underlying21, by kernel_rfl⟩
  · obtain rfl := Option.some.inj h; exact ⟨Tryz.underlying22, by kernel_rfl⟩
  · obtain rfl := Option.some.inj h; exact ⟨Tryz.underlying23, by kernel_rfl⟩
  · obtain rfl := Option.some.inj h; exact ⟨Tryz.underlying24, by kernel_rfl⟩
  · obtain rfl := Option.some.inj h; exact ⟨Tryz.underlying25, by kernel_rfl⟩
  · obtain rfl := Option.some.inj h; exact ⟨Tryz.underlying26, by kernel_rfl⟩
  · obtain rfl := Option.some.inj h; exact ⟨Tryz.underlying31, by kernel_rfl⟩
  · obtain rfl := Option.some.inj h; exact ⟨Tryz.underlying37, by kernel_rfl⟩
  · obtain rfl := Option.some.inj h; exact ⟨Tryz.underlying38, by kernel_rfl⟩
  · obtain rfl := Option.some.inj h; exact ⟨Tryz.underlying47, by kernel_rfl⟩
  · obtain rfl := Option.some.inj h; exact ⟨Tryz.underlying64, by kernel_rfl⟩
  · obtain rfl := Option.some.inj h; exact ⟨⟨_, Tryz.underlying65, rfl⟩, by kernel_rfl⟩
  · obtain rfl := Option.some.inj h; exact ⟨⟨_, Tryz.underlying66, rfl⟩, by kernel_rfl⟩
  · obtain rfl := Option.some.inj h; exact ⟨Tryz.underlying73, by kernel_rfl⟩
  · obtain rfl := Option.some.inj h; exact ⟨Tryz.underlying79, by kernel_rfl⟩
  · obtain rfl := Option.some.inj h; exact ⟨⟨_, Tryz.underlying80, rfl⟩, by kernel_rfl⟩
  · obtain rfl := Option.some.inj h; exact ⟨⟨_, Tryz.underlying81, rfl⟩, by kernel_rfl⟩
  · obtain rfl := Option.some.inj h; exact ⟨Tryz.underlying84, by kernel_rfl⟩
  · obtain rfl := Option.some.inj h; exact ⟨Tryz.underlying88, by kernel_rfl⟩
  · obtain rfl := Option.some.inj h; exact ⟨Tryz.underlying92, by kernel_rfl⟩
  · obtain rfl := Option.some.inj h; exact ⟨⟨_, Tryz.underlying93, rfl⟩, by kernel_rfl⟩
  · obtain rfl := Option.some.inj h; exact ⟨⟨_, Tryz.underlying94, rfl⟩, by kernel_rfl⟩
  · obtain rfl := Option.some.inj h; exact ⟨Tryz.underlying97, by kernel_rfl⟩
  · obtain rfl := Option.some.inj h; exact ⟨Tryz.underlying106, by kernel_rfl⟩
  · obtain rfl := Option.some.inj h; exact ⟨Tryz.underlying107, by kernel_rfl⟩
  · obtain rfl := Option.some.inj h; exact ⟨Tryz.underlying108, by kernel_rfl⟩
  · obtain rfl := Option.some.inj h; exact ⟨⟨_, Tryz.underlying121, rfl⟩, by kernel_rfl⟩
  · obtain rfl := Option.some.inj h; exact ⟨⟨_, Tryz.underlying122, rfl⟩, by kernel_rfl⟩
  · obtain rfl := Option.some.inj h; exact ⟨Tryz.underlying128, by kernel_rfl⟩
  · obtain rfl := Option.some.inj h; exact ⟨⟨_, Tryz.underlying132, rfl⟩, by kernel_rfl⟩
  · obtain rfl := Option.some.inj h; exact ⟨⟨_, Tryz.underlying133, rfl⟩, by kernel_rfl⟩
  · obtain rfl := Option.some.inj h; exact ⟨Tryz.underlying156, by kernel_rfl⟩
  · obtain rfl := Option.some.inj h; exact ⟨Tryz.underlying166, by kernel_rfl⟩
  · obtain rfl := Option.some.inj h; exact ⟨⟨_, Tryz.underlying171, rfl⟩, by kernel_rfl⟩
  · obtain rfl := Option.some.inj h; exact ⟨⟨_, Tryz.underlying172, rfl⟩, by kernel_rfl⟩
  · cases h

/-- The table of zeros, as the program lays it. -/
def Tryz.G0 : Nat → PV := fun g => bif Nat.beq g 2 then .ptr 64 (fun j => .val (.int .u8 ((Vinc.Num.tab64.getD j 0 : Nat) : Int))) 0 else .any

/-- The program, with what is known of its variables. -/
noncomputable def Tryz.pr : Pr := ⟨Tryz.prog, Tryz.G0, Tryz.T0, Tryz.hT0⟩
end Go.Proofs

/- What the listed table gives the walks: the variable's cells are the table's numbers. -/
namespace Go.Proofs.YtmpfgaebmdbdeaaGreatDoor
open Go Go.RowKit Vinc

/-- The list of what is laid. -/
abbrev laidL : List (String × DataW Unit) := [("math/bits.deBruijn64tab", Rows.laid_math_bits_deBruijn64tab)]

theorem gTab : Tryz.prog.globalNamed "math/bits.deBruijn64tab" = some 2 := by kernel_rfl
theorem gTabT : (Tryz.prog.globals[2]?).map (·.type) = some 106 := by kernel_rfl

/-- The table as a list of integers. -/
def zs64 : List Int := Vinc.Num.tab64.map fun n => ((n : Nat) : Int)

theorem laid_eq : laidL = [("math/bits.deBruijn64tab", Lib.tabData .u8 zs64)] := by kernel_rfl

/-- The door's own heap meets the condition. -/
theorem door_met (os : Os) (args : Array Value) : laidMetH Tryz.prog laidL ((World.doorLaid Tryz.prog 400 os).forCall (fun _ _ => 0) ⟨#[], args, []⟩).memory :=
  laidMetH_of_parts3 (fuel := 8) (laidMet_of_run' 8 (by kernel_rfl) (by kernel_rfl)) (by kernel_rfl) (by kernel_rfl)

/-- What is known of the variables. -/
theorem tab_of {W : World} (h : laidMetH Tryz.prog laidL W) : ∀ g, Rep W (fun b => b < W.heap.size) (Tryz.G0 g) (gptr g) := by
  rw [MakeChecks.laidMetH_plain _ _ _ (by kernel_rfl), laid_eq] at h
  have hT := Lib.tabIs_of_head gTab gTabT (show Tryz.prog.underlying 106 = some (.array 64 5) by kernel_rfl) (show Tryz.prog.underlying 5 = some (.int .u8) by kernel_rfl) (by kernel_rfl) (by kernel_rfl) h
  have hc : ∀ j, j < 64 → W.cell? ⟨2, j, none⟩ = some (.int .u8 ((Vinc.Num.tab64.getD j 0 : Nat) : Int)) := fun j hj => by
    have := hT.cell gTab j hj
    rw [this]
    congr 2
    show (Vinc.Num.tab64.map fun n => ((n : Nat) : Int)).getD j 0 = _
    rw [List.getD_eq_getElem?_getD, List.getD_eq_getElem?_getD, List.getElem?_map]
    cases Vinc.Num.tab64[j]? <;> rfl
  intro g
  show Rep W _ (bif Nat.beq g 2 then .ptr 64 (fun j => .val (.int .u8 ((Vinc.Num.tab64.getD j 0 : Nat) : Int))) 0 else .any) _
  cases hg : Nat.beq g 2 with
  | false => exact trivial
  | true =>
    obtain rfl : g = 2 := Nat.eq_of_beq_eq_true hg
    refine ⟨2, 0, rfl, ?_, fun j hj => ⟨_, (by rw [Nat.zero_add]; exact hc j hj), rfl, rfl⟩⟩
    have h0 := hc 0 (by decide)
    rcases Nat.lt_or_ge 2 W.heap.size with h | h
    · exact h
    · have hn : W.heap[2]? = none := Array.getElem?_eq_none h
      simp [World.cell?, hn] at h0

end Go.Proofs.YtmpfgaebmdbdeaaGreatDoor

/- The functions of math/bits. -/
namespace Go.Proofs
open Go Vinc

/-- What the product of two words is, by halves. -/
theorem mul64_eq (x y : Nat) (hx : x < 18446744073709551616) (hy : y < 18446744073709551616) :
    ((x / 4294967296 * (y / 4294967296) % 18446744073709551616
        + ((x / 4294967296 * (y % 4294967296) % 18446744073709551616 + (x % 4294967296 * (y % 4294967296) % 18446744073709551616) / 4294967296) % 18446744073709551616) / 4294967296) % 18446744073709551616
        + ((((x / 4294967296 * (y % 4294967296) % 18446744073709551616 + (x % 4294967296 * (y % 4294967296) % 18446744073709551616) / 4294967296) % 18446744073709551616) % 4294967296
          + x % 4294967296 * (y / 4294967296) % 18446744073709551616) % 18446744073709551616) / 4294967296) % 18446744073709551616
      = x * y / 18446744073709551616 := by
  have hx0 : x % 4294967296 < 4294967296 := Nat.mod_lt _ (by decide)
  have hy0 : y % 4294967296 < 4294967296 := Nat.mod_lt _ (by decide)
  have hx1 : x / 4294967296 < 4294967296 := by omega
  have hy1 : y / 4294967296 < 4294967296 := by omega
  have ex : x = 4294967296 * (x / 4294967296) + x % 4294967296 := (Nat.div_add_mod x 4294967296).symm
  have ey : y = 4294967296 * (y / 4294967296) + y % 4294967296 := (Nat.div_add_mod y 4294967296).symm
  generalize x % 4294967296 = a at *
  generalize x / 4294967296 = b at *
  generalize y % 4294967296 = c at *
  generalize y / 4294967296 = d at *
  have e : x * y = 18446744073709551616 * (b * d) + 4294967296 * (b * c) + 4294967296 * (a * d) + a * c := by
    rw [ex, ey]; grind
  have h1 : b * d ≤ 4294967295 * 4294967295 := Nat.mul_le_mul (by omega) (by omega)
  have h2 : b * c ≤ 4294967295 * 4294967295 := Nat.mul_le_mul (by omega) (by omega)
  have h3 : a * d ≤ 4294967295 * 4294967295 := Nat.mul_le_mul (by omega) (by omega)
  have h4 : a * c ≤ 4294967295 * 4294967295 := Nat.mul_le_mul (by omega) (by omega)
  rw [e]
  clear e ex ey
  generalize b * d = bd at *
  generalize b * c = bc at *
  generalize a * d = ad at *
  generalize a * c = ac at *
  omega

theorem Mul64_spec (x y : Nat) (hx : x < 18446744073709551616) (hy : y < 18446744073709551616) :
    CallSpec Tryz.pr.P Tryz.pr.G 53 [u64 x, u64 y] (.tup 2 (two (u64 (x * y / 18446744073709551616)) (u64 (x * y % 18446744073709551616)))) := by
  refine callSpec_of Tryz.pr Tryz.func53 rfl rfl rfl fun w0 ok0 hok hG => ?_
  refine ev_rs [] rfl trivial ?_
  refine ev_rs [] rfl trivial (ev_n 6 (x % 4294967296) rfl (and32 x hx) ?_)
  refine ev_rs [] rfl ⟨by decide, trivial⟩ (ev_n 7 _ rfl (shr32 x) ?_)
  refine ev_rs [] rfl trivial (ev_n 8 _ rfl (and32 y hy) ?_)
  refine ev_rs [] rfl ⟨by decide, trivial⟩ (ev_n 9 _ rfl (shr32 y) ?_)
  refine ev_rs [] rfl trivial (ev_n 10 _ rfl (wrapMul _ _) ?_)
  refine ev_rs [] rfl ⟨by decide, trivial⟩ (ev_n 11 _ rfl (by simp only [wrapMul, wrapAdd, shr32]; rfl) ?_)
  refine ev_rs [] rfl trivial (ev_n 12 _ rfl (and32 _ (Nat.mod_lt _ (by decide))) ?_)
  refine ev_rs [] rfl ⟨by decide, trivial⟩ (ev_n 13 _ rfl (shr32 _) ?_)
  refine ev_rs [] rfl trivial (ev_n 12 _ rfl (by simp only [wrapMul, wrapAdd]; rfl) ?_)
  refine ev_rs [] rfl ⟨by decide, trivial⟩ (ev_n 4 _ rfl (by simp only [wrapMul, wrapAdd, shr32]; rfl) ?_)
  refine ev_rs [] rfl trivial (ev_n 5 _ rfl (wrapMul _ _) ?_)
  refine ev_ret (ret2 (fz_p (PLe.of_eq (congrArg u64 ?_))) (fz_p (PLe.refl _)))
  exact mul64_eq x y hx hy
/-- The place of a word's highest bit, counted from one. -/
def len64 (x : Nat) : Nat := if x = 0 then 0 else Nat.log2 x + 1

theorem len64_shift (x k : Nat) (h : 2 ^ k ≤ x) : len64 x = len64 (x / 2 ^ k) + k := by
  have h0 : 0 < 2 ^ k := Nat.two_pow_pos k
  have hx : x ≠ 0 := by omega
  have hd : x / 2 ^ k ≠ 0 := by
    have := Nat.div_pos h h0
    omega
  unfold len64
  rw [if_neg hx, if_neg hd]
  have h1 := Nat.log2_self_le hd
  have h2 := @Nat.lt_log2_self (x / 2 ^ k)
  have e : Nat.log2 x = Nat.log2 (x / 2 ^ k) + k := by
    apply (Nat.log2_eq_iff hx).mpr
    constructor
    · rw [Nat.pow_add]
      exact (Nat.le_div_iff_mul_le h0).mp h1
    · rw [show Nat.log2 (x / 2 ^ k) + k + 1 = (Nat.log2 (x / 2 ^ k) + 1) + k by omega, Nat.pow_add]
      exact (Nat.div_lt_iff_lt_mul h0).mp h2
  omega

theorem len_last (t : ByteArray) (h : ∀ y, y < 256 → (t.data.getD y 0).toNat = len64 y) (y n : Nat) (hy : y < 256) (hn : n ≤ 56) :
    IntKind.wrap .i64 ((n : Int) + IntKind.wrap .i64 (((t.data.getD (IntKind.wrap .u8 (y : Int)).toNat 0).toNat : Nat) : Int)) = ((len64 y + n : Nat) : Int) := by
  have h1 : (IntKind.wrap .u8 (y : Int)).toNat = y := by
    simp [IntKind.wrap, IntKind.signed, IntKind.bits]; omega
  have h2 : len64 y ≤ 64 := by
    unfold len64
    split
    · omega
    · rename_i h0
      have : Nat.log2 y < 8 := (Nat.log2_lt h0).mpr (by omega)
      omega
  rw [h1, h y hy, wrapI (len64 y : Int) (by omega) (by omega), wrapI _ (by omega) (by omega)]
  omega

theorem len_in (t : ByteArray) (h : t.data.size = 256) (y : Nat) : 0 ≤ IntKind.wrap .u8 (y : Int) ∧ IntKind.wrap .u8 (y : Int) < t.data.size := by
  rw [h]
  simp [IntKind.wrap, IntKind.signed, IntKind.bits]; omega

theorem Len64_spec (x : Nat) (hx : x < 18446744073709551616) : CallSpec Tryz.pr.P Tryz.pr.G 74 [u64 x] (i64 (len64 x)) := by
  refine callSpec_of Tryz.pr Tryz.func74 rfl rfl rfl fun w0 ok0 hok hG => ?_
  refine ev_rs [] rfl trivial ?_
  refine ev_at (α := Nat × Nat) (fun p => p.1 < 4294967296 ∧ p.2 ≤ 32 ∧ len64 x = len64 p.1 + p.2) (fun p => [(0, .p (u64 p.1)), (2, .p (i64 p.2))]) (fun _ => []) ?_ ?_
  · refine ev_rs [] rfl trivial (ev_cond rfl (fun hc => ?_) (fun hc => ?_))
    · refine ev_rs [] rfl ⟨by decide, trivial⟩ (ev_n 0 _ rfl (shr32 x) ?_)
      refine ev_region [] rfl trivial (at0 (x / 4294967296, 32) ⟨by omega, by omega, ?_⟩ ⟨le_0, le_0, trivial⟩)
      exact len64_shift x 32 (by simp at hc; omega)
    · refine ev_skip (at0 (x, 0) ⟨?_, by omega, rfl⟩ ⟨le_0, le_0, trivial⟩)
      simp at hc; omega
  rintro ⟨y, n⟩ ⟨hy, hn, e⟩
  refine ev_at (α := Nat × Nat) (fun p => p.1 < 65536 ∧ p.2 ≤ 48 ∧ len64 x = len64 p.1 + p.2) (fun p => [(0, .p (u64 p.1)), (2, .p (i64 p.2))]) (fun _ => []) ?_ ?_
  · refine ev_rs [] rfl trivial (ev_cond rfl (fun hc => ?_) (fun hc => ?_))
    · refine ev_rs [] rfl ⟨by decide, trivial⟩ (ev_n 0 _ rfl (shrN y 16 (by decide)) ?_)
      refine ev_region [] rfl trivial (at0 (y / 65536, n + 16) ⟨by omega, by omega, ?_⟩ ⟨le_0, le_e ?_, trivial⟩)
      · have h := len64_shift y 16 (by simp at hc; omega)
        simp only [Nat.reducePow] at h
        dsimp only at e ⊢
        omega
      · exact congrArg (fun z => PV.val (.int .i64 z)) (wrapI _ (by dsimp only at hn ⊢; omega) (by dsimp only at hn ⊢; omega))
    · refine ev_skip (at0 (y, n) ⟨?_, by omega, e⟩ ⟨le_0, le_0, trivial⟩)
      simp at hc; omega
  rintro ⟨y, n⟩ ⟨hy, hn, e⟩
  refine ev_at (α := Nat × Nat) (fun p => p.1 < 256 ∧ p.2 ≤ 56 ∧ len64 x = len64 p.1 + p.2) (fun p => [(0, .p (u64 p.1)), (2, .p (i64 p.2))]) (fun _ => []) ?_ ?_
  · refine ev_rs [] rfl trivial (ev_cond rfl (fun hc => ?_) (fun hc => ?_))
    · refine ev_rs [] rfl ⟨by decide, trivial⟩ (ev_n 0 _ rfl (shrN y 8 (by decide)) ?_)
      refine ev_region [] rfl trivial (at0 (y / 256, n + 8) ⟨by omega, by omega, ?_⟩ ⟨le_0, le_e ?_, trivial⟩)
      · have h := len64_shift y 8 (by simp at hc; omega)
        simp only [Nat.reducePow] at h
        dsimp only at e ⊢
        omega
      · exact congrArg (fun z => PV.val (.int .i64 z)) (wrapI _ (by dsimp only at hn ⊢; omega) (by dsimp only at hn ⊢; omega))
    · refine ev_skip (at0 (y, n) ⟨?_, by omega, e⟩ ⟨le_0, le_0, trivial⟩)
      simp at hc; omega
  rintro ⟨y, n⟩ ⟨hy, hn, e⟩
  refine ev_rs [] rfl ?_ ?_
  · exact ⟨len_in _ (by decide +kernel) y, trivial⟩
  · refine ev_ret (ret1 (fz_p (PLe.of_eq (congrArg (fun z => PV.val (.int .i64 z)) ?_))))
    exact (len_last _ (by decide +kernel) y n hy hn).trans (by rw [e])

theorem LeadingZeros64_spec (x : Nat) (hx : x < 18446744073709551616) : CallSpec Tryz.pr.P Tryz.pr.G 67 [u64 x] (i64 (64 - len64 x)) := by
  have hl : len64 x ≤ 64 := by
    unfold len64
    split
    · omega
    · rename_i h0
      have : Nat.log2 x < 64 := (Nat.log2_lt h0).mpr (by omega)
      omega
  refine callSpec_of Tryz.pr Tryz.func67 rfl rfl rfl fun w0 ok0 hok hG => ?_
  refine ev_rs [] rfl trivial ?_
  refine ev_rs [i64 (len64 x)] rfl ⟨.inl (Len64_spec x hx), trivial⟩ ?_
  refine ev_ret (ret1 (fz_p (PLe.of_eq (congrArg (fun z => PV.val (.int .i64 z)) ?_))))
  exact wrapI _ (by omega) (by omega)

theorem Add64_spec (x y k : Nat) (hk : k ≤ 1) : CallOk Tryz.pr.P Tryz.pr.G 109 [u64 x, u64 y, u64 k] (.tup 2 (two (u64 ((x + y + k) % 18446744073709551616)) (u64 ((x + y + k) / 18446744073709551616)))) := by
  refine .inr fun w ok vs hr => ?_
  obtain ⟨l⟩ := vs
  match l, hr with
  | [a, b, d], ⟨(ha : a = _), (hb : b = _), (hd : d = _), _⟩ =>
    subst ha hb hd
    refine ⟨.tuple #[.int .u64 (((x + y + k) % 18446744073709551616 : Nat) : Int), .int .u64 (((x + y + k) / 18446744073709551616 : Nat) : Int)], ?_, _, rfl, rfl, fun j hj => ?_⟩
    · show Sem.run Tryz.prog (callFunc 109 #[.int .u64 x, .int .u64 y, .int .u64 k]) w = _
      rw [run_callFunc_extern Tryz.func109 (by kernel_rfl) (by kernel_rfl) (by kernel_rfl) (e := add64Entry) (by kernel_rfl), run_add64 x y k (by omega) (by omega) (by omega) (by omega)]
      simp only [Result.andThen]
      congr 5 <;> omega
    · match j, hj with
      | 0, _ => rfl
      | 1, _ => rfl
end Go.Proofs

/- Division of two words by one. -/
set_option linter.unusedVariables false
namespace Go.Proofs
open Go Vinc

/-- The guess of a digit, and what the test of it says. -/
theorem knuth (u u1 y a b q r : Nat) (hy : y = a * 4294967296 + b) (ha : 2147483648 ≤ a) (ha' : a < 4294967296) (hb : b < 4294967296) (hu : u < y) (hu1 : u1 < 4294967296) (h1 : q * a + r = u)
    (hr : r < 4294967296) (hq : q ≤ 4294967297) :
    (4294967296 ≤ q ∨ (4294967296 * r % 18446744073709551616 + u1) % 18446744073709551616 < q * b % 18446744073709551616) ↔ (u * 4294967296 + u1) / y < q := by
  have hy0 : 0 < y := by omega
  have hlt : (u * 4294967296 + u1) / y < 4294967296 := by
    rw [Nat.div_lt_iff_lt_mul hy0]
    have : (u + 1) * 4294967296 ≤ y * 4294967296 := Nat.mul_le_mul_right _ hu
    rw [Nat.mul_comm 4294967296 y]
    omega
  have key : (u * 4294967296 + u1) / y < q ↔ 4294967296 * r + u1 < q * b := by
    rw [Nat.div_lt_iff_lt_mul hy0, hy, ← h1, Nat.mul_add, ← Nat.mul_assoc]
    have e : (q * a + r) * 4294967296 = q * a * 4294967296 + 4294967296 * r := by rw [Nat.add_mul, Nat.mul_comm r]
    rw [e]
    omega
  by_cases hc : 4294967296 ≤ q
  · constructor
    · intro _; omega
    · intro _; exact .inl hc
  · have hqb : q * b ≤ 4294967295 * 4294967295 := Nat.mul_le_mul (by omega) (by omega)
    rw [key, Nat.mod_eq_of_lt (by omega : q * b < _), Nat.mod_eq_of_lt (by omega : 4294967296 * r < _), Nat.mod_eq_of_lt (by omega : 4294967296 * r + u1 < _)]
    omega

/-- When the rest has grown beyond a digit, the guess is right. -/
theorem knuth_end (u u1 y a b q r : Nat) (hy : y = a * 4294967296 + b) (ha : 2147483648 ≤ a) (hb : b < 4294967296) (h1 : q * a + r = u)
    (hr : 4294967296 ≤ r) (hq : q ≤ 4294967296) : q ≤ (u * 4294967296 + u1) / y := by
  have hy0 : 0 < y := by omega
  refine (Nat.le_div_iff_mul_le hy0).mpr ?_
  rw [hy, ← h1, Nat.mul_add, ← Nat.mul_assoc, Nat.add_mul]
  have h2 : q * b ≤ 4294967296 * 4294967296 := Nat.mul_le_mul hq (by omega)
  have h3 : 4294967296 * 4294967296 ≤ r * 4294967296 := Nat.mul_le_mul_right _ hr
  omega

/-- The first guess. -/
theorem knuth_start (u u1 y a b : Nat) (hy : y = a * 4294967296 + b) (ha : 2147483648 ≤ a) (ha' : a < 4294967296) (hb : b < 4294967296) (hu : u < y) (hu1 : u1 < 4294967296) :
    u / a ≤ 4294967297 ∧ (u * 4294967296 + u1) / y ≤ u / a ∧ u % a < 4294967296 := by
  have h0 : 0 < a := by omega
  have hy0 : 0 < y := by omega
  refine ⟨?_, ?_, ?_⟩
  · apply Nat.le_of_lt_succ
    refine (Nat.div_lt_iff_lt_mul h0).mpr ?_
    generalize hk : (Nat.succ 4294967297) = k
    have hk' : k = 4294967298 := hk.symm
    rw [hk', Nat.mul_comm]
    omega
  · rw [Nat.le_div_iff_mul_le h0]
    have h1 : (u * 4294967296 + u1) / y * y ≤ u * 4294967296 + u1 := Nat.div_mul_le_self _ _
    generalize (u * 4294967296 + u1) / y = q at h1 ⊢
    rw [hy, Nat.mul_add, ← Nat.mul_assoc] at h1
    have h2 : q * a * 4294967296 ≤ u * 4294967296 + u1 := Nat.le_trans (Nat.le_add_right _ _) h1
    clear h1
    generalize q * a = qa at h2 ⊢
    omega
  · have := Nat.mod_lt u h0
    omega

theorem rest_aux (u u1 y m t : Nat) (h : m + t = u * 4294967296 + u1) (hm : t < y) (hu : u < y) (hu1 : u1 < 4294967296) (hy : y < 18446744073709551616) :
    ((u * 4294967296 % 18446744073709551616 + u1) % 18446744073709551616 + (18446744073709551616 - m % 18446744073709551616)) % 18446744073709551616 = t := by omega

/-- The rest behind a digit. -/
theorem knuth_rest (u u1 y : Nat) (hu : u < y) (hu1 : u1 < 4294967296) (hy : y < 18446744073709551616) :
    ((u * 4294967296 % 18446744073709551616 + u1) % 18446744073709551616 + (18446744073709551616 - (u * 4294967296 + u1) / y * y % 18446744073709551616)) % 18446744073709551616 = (u * 4294967296 + u1) % y := by
  have hy0 : 0 < y := by omega
  have h := Nat.div_add_mod (u * 4294967296 + u1) y
  have hm := Nat.mod_lt (u * 4294967296 + u1) hy0
  rw [Nat.mul_comm] at h
  exact rest_aux _ _ _ _ _ h hm hu hu1 hy

theorem digit_lt (u v y : Nat) (hu : u < y) (hv : v < 4294967296) : (u * 4294967296 + v) / y < 4294967296 := by
  rw [Nat.div_lt_iff_lt_mul (by omega)]
  have := Nat.mul_le_mul_right 4294967296 (show u + 1 ≤ y from hu)
  rw [Nat.mul_comm 4294967296 y]
  omega

/-- Words that share no place. -/
theorem or_apart (a b s : Nat) (ha : a < 18446744073709551616) (hb : b < 2 ^ s) (hd : 2 ^ s ∣ a) (hs : s ≤ 64) : bitI .or .u64 (a : Int) (b : Int) = ((a + b : Nat) : Int) := by
  have h2 : 2 ^ s ≤ 2 ^ 64 := Nat.pow_le_pow_right (by omega) hs
  obtain ⟨m, rfl⟩ := hd
  have hlt : 2 ^ s * m + b < 18446744073709551616 := by
    have e : 18446744073709551616 = 2 ^ s * 2 ^ (64 - s) := by rw [← Nat.pow_add, show s + (64 - s) = 64 by omega]
    rw [e] at ha ⊢
    have : m < 2 ^ (64 - s) := Nat.lt_of_mul_lt_mul_left ha
    have := Nat.mul_le_mul_left (2 ^ s) this
    rw [Nat.mul_succ] at this
    omega
  show IntKind.wrap .u64 (((BitVec.ofInt 64 ((2 ^ s * m : Nat) : Int) ||| BitVec.ofInt 64 (b : Int)).toNat : Nat) : Int) = _
  rw [BitVec.toNat_or, BitVec.ofInt_natCast, BitVec.ofInt_natCast, BitVec.toNat_ofNat, BitVec.toNat_ofNat, Nat.mod_eq_of_lt (by omega : 2 ^ s * m < 2 ^ 64), Nat.mod_eq_of_lt (by omega : b < 2 ^ 64),
    ← Nat.two_pow_add_eq_or_of_lt hb, wrapN, Nat.mod_eq_of_lt hlt]

theorem div_shift (n y s Q r : Nat) (h : n * 2 ^ s = Q * (y * 2 ^ s) + r) (hr : r < y * 2 ^ s) : n / y = Q ∧ n % y = r / 2 ^ s := by
  have h0 : 0 < 2 ^ s := Nat.two_pow_pos s
  have hy : 0 < y * 2 ^ s := by omega
  have h1 : n * 2 ^ s / (y * 2 ^ s) = Q := by
    rw [h, Nat.mul_comm Q, Nat.mul_add_div hy, Nat.div_eq_of_lt hr, Nat.add_zero]
  have h2 : n * 2 ^ s % (y * 2 ^ s) = r := by
    rw [h, Nat.mul_comm Q, Nat.mul_add_mod, Nat.mod_eq_of_lt hr]
  rw [Nat.mul_div_mul_right _ _ h0] at h1
  rw [Nat.mul_mod_mul_right] at h2
  exact ⟨h1, by rw [← h2, Nat.mul_div_cancel _ h0]⟩

theorem div_fin0 (u v1 v0 y q1 r1 q0 r0 : Nat) (d1 : y * q1 + r1 = u * 4294967296 + v1) (d2 : y * q0 + r0 = r1 * 4294967296 + v0) :
    u * 18446744073709551616 + (v1 * 4294967296 + v0) = (q1 * 4294967296 + q0) * y + r0 := by
  rw [Nat.add_mul, Nat.mul_comm q0, Nat.mul_right_comm, Nat.mul_comm q1]
  omega

theorem div_fin (N y s u v y' : Nat) (hN : N * 2 ^ s = u * 18446744073709551616 + v) (h0 : 0 < y') (hdiv : ∀ Q r, N * 2 ^ s = Q * y' + r → r < y' → N / y = Q ∧ N % y = r / 2 ^ s) :
    N / y = (u * 4294967296 + v / 4294967296) / y' * 4294967296 + ((u * 4294967296 + v / 4294967296) % y' * 4294967296 + v % 4294967296) / y'
    ∧ N % y = ((u * 4294967296 + v / 4294967296) % y' * 4294967296 + v % 4294967296) % y' / 2 ^ s := by
  refine hdiv _ _ ?_ (Nat.mod_lt _ h0)
  rw [hN]
  have hvv : v = v / 4294967296 * 4294967296 + v % 4294967296 := by omega
  exact (congrArg (u * 18446744073709551616 + ·) hvv).trans (div_fin0 u _ _ y' _ _ _ _ (Nat.div_add_mod _ _) (Nat.div_add_mod _ _))

/-- What is set up ahead of the digits. -/
theorem div_setup (hi lo y : Nat) (hhi : hi < y) (hlo : lo < 18446744073709551616) (hy : y < 18446744073709551616) : ∃ s y' a b u v v1 v0 : Nat,
    (len64 y ≤ 64 ∧ 64 - len64 y = s ∧ s ≤ 64) ∧ (y * 2 ^ s = y' ∧ y' < 18446744073709551616) ∧ (y' / 4294967296 = a ∧ y' % 4294967296 = b) ∧ (y' = a * 4294967296 + b ∧ 2147483648 ≤ a ∧ a < 4294967296 ∧ b < 4294967296)
    ∧ bitI .or .u64 ((hi * 2 ^ s % 18446744073709551616 : Nat) : Int) ((lo / 2 ^ (64 - s) : Nat) : Int) = (u : Int) ∧ u < y' ∧ lo * 2 ^ s % 18446744073709551616 = v ∧ v < 18446744073709551616 ∧ v / 4294967296 = v1 ∧ v % 4294967296 = v0
    ∧ v1 < 4294967296 ∧ v0 < 4294967296
    ∧ (hi * 18446744073709551616 + lo) / y = (u * 4294967296 + v1) / y' * 4294967296 + ((u * 4294967296 + v1) % y' * 4294967296 + v0) / y'
    ∧ (hi * 18446744073709551616 + lo) % y = ((u * 4294967296 + v1) % y' * 4294967296 + v0) % y' / 2 ^ s := by
  have hy0 : y ≠ 0 := by omega
  have hlz : len64 y ≤ 64 ∧ y * 2 ^ (64 - len64 y) < 18446744073709551616 ∧ 9223372036854775808 ≤ y * 2 ^ (64 - len64 y) := by
    unfold len64
    rw [if_neg hy0]
    have h1 : Nat.log2 y < 64 := (Nat.log2_lt hy0).mpr hy
    have h2 := Nat.log2_self_le hy0
    have h3 := @Nat.lt_log2_self y
    have e : (18446744073709551616 : Nat) = 2 ^ (Nat.log2 y + 1) * 2 ^ (64 - (Nat.log2 y + 1)) := by rw [← Nat.pow_add, show Nat.log2 y + 1 + (64 - (Nat.log2 y + 1)) = 64 by omega]
    have e' : (9223372036854775808 : Nat) = 2 ^ (Nat.log2 y) * 2 ^ (64 - (Nat.log2 y + 1)) := by rw [← Nat.pow_add, show Nat.log2 y + (64 - (Nat.log2 y + 1)) = 63 by omega]
    refine ⟨by omega, ?_, ?_⟩
    · rw [e]; exact Nat.mul_lt_mul_of_pos_right h3 (Nat.two_pow_pos _)
    · rw [e']; exact Nat.mul_le_mul_right _ h2
  obtain ⟨hl, hy1, hy2⟩ := hlz
  have hs64 : 64 - len64 y ≤ 64 := by omega
  generalize 64 - len64 y = s at hy1 hy2 hs64 ⊢
  have hps : 0 < 2 ^ s := Nat.two_pow_pos s
  have hpe : 2 ^ s * 2 ^ (64 - s) = 18446744073709551616 := by rw [← Nat.pow_add, show s + (64 - s) = 64 by omega]
  have hpt : 0 < 2 ^ (64 - s) := Nat.two_pow_pos _
  have hhs : hi * 2 ^ s < 18446744073709551616 := Nat.lt_of_le_of_lt (Nat.mul_le_mul_right _ (Nat.le_of_lt hhi)) hy1
  have hls : lo / 2 ^ (64 - s) < 2 ^ s := by
    rw [Nat.div_lt_iff_lt_mul hpt, hpe]; exact hlo
  have hN : (hi * 18446744073709551616 + lo) * 2 ^ s = (hi * 2 ^ s + lo / 2 ^ (64 - s)) * 18446744073709551616 + lo * 2 ^ s % 18446744073709551616 := by
    have h1 : lo * 2 ^ s / 18446744073709551616 = lo / 2 ^ (64 - s) := by
      rw [← hpe, Nat.mul_comm lo, Nat.mul_div_mul_left _ _ hps]
    have h2 := Nat.div_add_mod (lo * 2 ^ s) 18446744073709551616
    rw [h1] at h2
    rw [Nat.add_mul, Nat.add_mul, Nat.add_assoc, Nat.mul_comm (lo / _), h2, Nat.mul_right_comm]
  have hu : hi * 2 ^ s + lo / 2 ^ (64 - s) < y * 2 ^ s := by
    have := Nat.mul_le_mul_right (2 ^ s) hhi
    rw [Nat.succ_mul] at this
    omega
  have hor := or_apart (hi * 2 ^ s % 18446744073709551616) _ s (Nat.mod_lt _ (by decide)) hls (by rw [Nat.mod_eq_of_lt hhs]; exact ⟨hi, Nat.mul_comm _ _⟩) hs64
  have hv : lo * 2 ^ s % 18446744073709551616 < 18446744073709551616 := Nat.mod_lt _ (by decide)
  have hdiv := div_shift (hi * 18446744073709551616 + lo) y s
  rw [Nat.mod_eq_of_lt hhs] at hor
  refine ⟨s, _, _, _, hi * 2 ^ s + lo / 2 ^ (64 - s), _, _, _, ⟨hl, rfl, hs64⟩, ⟨rfl, hy1⟩, ⟨rfl, rfl⟩, ⟨by omega, by omega, by omega, by omega⟩, by rw [Nat.mod_eq_of_lt hhs]; exact hor, hu, rfl, hv, rfl, rfl, by omega, by omega, ?_⟩
  exact div_fin _ y s _ _ _ hN (by omega) hdiv

theorem test_iff (q b r v : Nat) : (bif decide ((q : Int) ≥ 4294967296) then true else decide (IntKind.wrap .u64 ((q : Int) * b) > IntKind.wrap .u64 (IntKind.wrap .u64 (4294967296 * (r : Int)) + v))) = true
    ↔ (4294967296 ≤ q ∨ (4294967296 * r % 18446744073709551616 + v) % 18446744073709551616 < q * b % 18446744073709551616) := by
  have e : (4294967296 * (r : Int)) = ((4294967296 : Nat) : Int) * (r : Int) := rfl
  rw [e, wrapMul, wrapMul, wrapAdd]
  by_cases h : 4294967296 ≤ q
  · rw [decide_eq_true (by omega : (q : Int) ≥ 4294967296)]
    simp [h]
  · rw [decide_eq_false (by omega : ¬ (q : Int) ≥ 4294967296)]
    simp only [cond_false, decide_eq_true_eq, gt_iff_lt, Int.ofNat_lt]
    omega

theorem Div64_spec (hi lo y : Nat) (hhi : hi < y) (hlo : lo < 18446744073709551616) (hy : y < 18446744073709551616) :
    CallSpec Tryz.pr.P Tryz.pr.G 61 [u64 hi, u64 lo, u64 y] (.tup 2 (two (u64 ((hi * 18446744073709551616 + lo) / y)) (u64 ((hi * 18446744073709551616 + lo) % y)))) := by
  have hy0 : y ≠ 0 := by omega
  obtain ⟨s, y', a, b, u, v, v1, v0, ⟨hl, hs, hs64⟩, ⟨hy1, hy2⟩, ⟨ea, eb⟩, ⟨hyy, ha, ha', hb⟩, hor, hu, ev, hv, ev1, ev0, hv1, hv0, hq, hr⟩ := div_setup hi lo y hhi hlo hy
  have hua := knuth_start u v1 y' a b hyy ha ha' hb hu hv1
  have hu2 : (u * 4294967296 + v1) % y' < y' := Nat.mod_lt _ (by omega)
  have hub := knuth_start ((u * 4294967296 + v1) % y') v0 y' a b hyy ha ha' hb hu2 hv0
  have hq1 := digit_lt u v1 y' hu hv1
  have hq0 := digit_lt ((u * 4294967296 + v1) % y') v0 y' hu2 hv0
  have kr1 := knuth_rest u v1 y' hu hv1 hy2
  have kr0 := knuth_rest ((u * 4294967296 + v1) % y') v0 y' hu2 hv0 hy2
  have ke1 := fun q r => knuth_end u v1 y' a b q r hyy ha hb
  have ke0 := fun q r => knuth_end ((u * 4294967296 + v1) % y') v0 y' a b q r hyy ha hb
  have kn1 := fun q r => knuth u v1 y' a b q r hyy ha ha' hb hu hv1
  have kn0 := fun q r => knuth ((u * 4294967296 + v1) % y') v0 y' a b q r hyy ha ha' hb hu2 hv0
  obtain ⟨u2, eu2⟩ : ∃ u2, (u * 4294967296 + v1) % y' = u2 := ⟨_, rfl⟩
  rw [eu2] at hu2 hub hq0 kr1 kr0 ke0 kn0 hq hr
  obtain ⟨q1, eq1⟩ : ∃ q1, (u * 4294967296 + v1) / y' = q1 := ⟨_, rfl⟩
  rw [eq1] at hua hq1 kr1 ke1 kn1 hq
  obtain ⟨q0, eq0⟩ : ∃ q0, (u2 * 4294967296 + v0) / y' = q0 := ⟨_, rfl⟩
  rw [eq0] at hub hq0 kr0 ke0 kn0 hq
  obtain ⟨r0, er0⟩ : ∃ r0, (u2 * 4294967296 + v0) % y' = r0 := ⟨_, rfl⟩
  rw [er0] at kr0 hr
  rw [hq, hr]
  refine callSpec_of Tryz.pr Tryz.func61 rfl rfl rfl fun w0 ok0 hok hG => ?_
  refine ev_rs [] rfl trivial ?_
  refine ev_seq (ev_rs [] rfl trivial (ev_cond rfl (fun h => absurd h (by simp; omega)) (fun _ => ev_sk ?_)))
  refine ev_seq (ev_rs [] rfl trivial (ev_cond rfl (fun h => absurd h (by simp; omega)) (fun _ => ev_sk ?_)))
  refine ev_seq (ev_rs [] rfl trivial (ev_cond rfl (fun h => ?_) (fun _ => ev_sk ?_)))
  · obtain rfl : hi = 0 := by simpa using h
    refine ev_ds [] (by kernel_rfl) rfl rfl ?_ ?_
    · exact ⟨by simpa using hy0, by simpa using hy0, trivial⟩
    · refine ev_ret (ret2 (fz_p (PLe.of_eq (congrArg (fun z => PV.val (.int .u64 z)) ?_))) (fz_p (PLe.of_eq (congrArg (fun z => PV.val (.int .u64 z)) ?_))))
      · rw [tdivN _ _ hlo, ← hq, Nat.zero_mul, Nat.zero_add]
      · rw [tmodN, ← hr, Nat.zero_mul, Nat.zero_add]
  refine ev_rs [i64 (64 - len64 y)] rfl ⟨.inl (LeadingZeros64_spec y hy), trivial⟩ (ev_n 8 s rfl (by rw [wrap64]; omega) ?_)
  refine ev_rs [] rfl ⟨by omega, trivial⟩ (ev_n 2 y' rfl ((shlN y s hs64).trans (by rw [hy1, Nat.mod_eq_of_lt hy2])) ?_)
  refine ev_rs [] rfl ⟨by decide, trivial⟩ (ev_n 9 a rfl ((shr32 _).trans (by rw [ea])) ?_)
  refine ev_rs [] rfl trivial (ev_n 10 b rfl ((and32 _ hy2).trans (by rw [eb])) ?_)
  have h64 : IntKind.wrap .u64 (64 - (s : Int)) = ((64 - s : Nat) : Int) := by rw [wrap64]; omega
  refine ev_rs [] rfl ?_ (ev_n 11 u rfl ?_ ?_)
  · refine ⟨?_, by omega, trivial⟩
    rw [h64]; omega
  · rw [h64, shlN hi s hs64, shrN lo (64 - s) (by omega)]
    exact hor
  refine ev_rs [] rfl ⟨by omega, trivial⟩ (ev_n 12 v rfl ((shlN lo s hs64).trans (by rw [ev])) ?_)
  refine ev_rs [] rfl ⟨by decide, trivial⟩ (ev_n 13 v1 rfl ((shr32 _).trans (by rw [ev1])) ?_)
  refine ev_rs [] rfl trivial (ev_n 14 v0 rfl ((and32 _ hv).trans (by rw [ev0])) ?_)
  refine ev_rs [] rfl ⟨by omega, trivial⟩ (ev_n 15 (u / a) rfl (tdivN _ _ (by omega)) ?_)
  refine ev_rs [] rfl trivial (ev_n 16 (u % a) rfl ?_ ?_)
  · have h1 := Nat.div_mul_le_self u a
    have h2 := Nat.div_add_mod u a
    rw [wrapMul, Nat.mod_eq_of_lt (by omega), wrapSub _ _ h1 (by omega)]
    rw [Nat.mul_comm] at h2
    omega
  refine ev_at (α := Unit) (fun _ => True) (fun _ => [(8, .p (u64 s)), (2, .p (u64 y')), (9, .p (u64 a)), (10, .p (u64 b)), (11, .p (u64 u)), (13, .p (u64 v1)), (14, .p (u64 v0)), (15, .p (u64 q1))]) (fun _ => []) ?_ ?_
  · refine ev_block (ev_while0 (α := Nat × Nat) (fun p => p.1 ≤ 4294967297 ∧ q1 ≤ p.1 ∧ p.2 < 4294967296 ∧ p.1 * a + p.2 = u)
      (fun p => [(8, .p (u64 s)), (2, .p (u64 y')), (9, .p (u64 a)), (10, .p (u64 b)), (11, .p (u64 u)), (13, .p (u64 v1)), (14, .p (u64 v0)), (15, .p (u64 p.1)), (16, .p (u64 p.2))]) (fun p => p.1) (u / a, u % a)
      ⟨hua.1, hua.2.1, hua.2.2, by rw [Nat.mul_comm]; exact Nat.div_add_mod u a⟩ ⟨le_0, le_0, le_0, le_0, le_0, le_0, le_0, le_0, le_0, trivial⟩ ?_)
    rintro ⟨q, r⟩ ⟨h1, h2, h3, h4⟩
    dsimp only at h1 h2 h3 h4
    refine ev_seq (ev_rs [] rfl ⟨⟨fun _ => rfl, gd_f⟩, by simp⟩ ?_)
    refine ev_cond rfl (fun h => ev_sk ?_) (fun h => ev_exit ?_)
    · have h5 := (kn1 q r h4 h3 h1).mp ((test_iff q b r v1).mp h)
      refine ev_block ?_
      refine ev_rs [] rfl trivial (ev_n 15 (q - 1) rfl (wrapSub q 1 (by omega) (by omega)) ?_)
      refine ev_rs [] rfl trivial (ev_n 16 (r + a) rfl ((wrapAdd r a).trans (by rw [Nat.mod_eq_of_lt (by omega)])) ?_)
      have h6 : (q - 1) * a + (r + a) = u := by
        rw [← h4]
        obtain ⟨k, rfl⟩ : ∃ k, q = k + 1 := ⟨q - 1, by omega⟩
        rw [Nat.add_sub_cancel, Nat.add_mul]
        omega
      refine ev_rs [] rfl trivial (ev_cond rfl (fun h' => ev_exit ?_) (fun h' => ev_skip ?_))
      · refine at0 () trivial ⟨le_0, le_0, le_0, le_0, le_0, le_0, le_0, le_e ?_, trivial⟩
        have h7 : 4294967296 ≤ r + a := by have := of_decide_eq_true h'; omega
        have h8 := ke1 (q - 1) (r + a) h6 h7 (by omega)
        rw [show q - 1 = q1 by omega]
      · refine round0 (q - 1, r + a) ⟨?_, ?_, ?_, h6⟩ ?_ ⟨le_0, le_0, le_0, le_0, le_0, le_0, le_0, le_0, le_0, trivial⟩
        · dsimp only; omega
        · dsimp only; omega
        · have := of_decide_eq_false h'; dsimp only; omega
        · dsimp only; omega
    · have h5 := (not_congr (kn1 q r h4 h3 h1)).mp (fun h' => Bool.noConfusion (h.symm.trans ((test_iff q b r v1).mpr h')))
      refine at0 () trivial ⟨le_0, le_0, le_0, le_0, le_0, le_0, le_0, le_e ?_, trivial⟩
      exact congrArg u64 (show q = _ by omega)
  rintro ⟨⟩ -
  refine ev_rs [] rfl trivial (ev_n 17 u2 rfl ?_ ?_)
  · show IntKind.wrap .u64 (IntKind.wrap .u64 (IntKind.wrap .u64 ((u : Int) * ((4294967296 : Nat) : Int)) + (v1 : Int)) - IntKind.wrap .u64 ((q1 : Int) * (y' : Int))) = _
    rw [wrapMul, wrapAdd, wrapMul, wrapSub' _ _ (Nat.le_of_lt (Nat.mod_lt _ (by decide)))]
    exact toN kr1
  refine ev_rs [] rfl ⟨by omega, trivial⟩ (ev_n 18 (u2 / a) rfl (tdivN _ _ (by omega)) ?_)
  refine ev_rs [] rfl trivial (ev_n 16 (u2 % a) rfl ?_ ?_)
  · have h1 := Nat.div_mul_le_self u2 a
    have h2 := Nat.div_add_mod u2 a
    have h3 : u2 / a < 18446744073709551616 := by omega
    rw [wrapMul, Nat.mod_eq_of_lt (by omega), wrapSub _ _ h1 (by omega)]
    rw [Nat.mul_comm] at h2
    omega
  refine ev_at (α := Unit) (fun _ => True) (fun _ => [(8, .p (u64 s)), (2, .p (u64 y')), (14, .p (u64 v0)), (15, .p (u64 q1)), (17, .p (u64 u2)), (18, .p (u64 q0))]) (fun _ => []) ?_ ?_
  · refine ev_block (ev_while0 (α := Nat × Nat) (fun p => p.1 ≤ 4294967297 ∧ q0 ≤ p.1 ∧ p.2 < 4294967296 ∧ p.1 * a + p.2 = u2)
      (fun p => [(8, .p (u64 s)), (2, .p (u64 y')), (9, .p (u64 a)), (10, .p (u64 b)), (14, .p (u64 v0)), (15, .p (u64 q1)), (17, .p (u64 u2)), (18, .p (u64 p.1)), (16, .p (u64 p.2))]) (fun p => p.1) (u2 / a, u2 % a)
      ⟨hub.1, hub.2.1, hub.2.2, by rw [Nat.mul_comm]; exact Nat.div_add_mod u2 a⟩ ⟨le_0, le_0, le_0, le_0, le_0, le_0, le_0, le_0, le_0, trivial⟩ ?_)
    rintro ⟨q, r⟩ ⟨h1, h2, h3, h4⟩
    dsimp only at h1 h2 h3 h4
    refine ev_seq (ev_rs [] rfl ⟨⟨fun _ => rfl, gd_f⟩, by simp⟩ ?_)
    refine ev_cond rfl (fun h => ev_sk ?_) (fun h => ev_exit ?_)
    · have h5 := (kn0 q r h4 h3 h1).mp ((test_iff q b r v0).mp h)
      refine ev_block ?_
      refine ev_rs [] rfl trivial (ev_n 18 (q - 1) rfl (wrapSub q 1 (by omega) (by omega)) ?_)
      refine ev_rs [] rfl trivial (ev_n 16 (r + a) rfl ((wrapAdd r a).trans (by rw [Nat.mod_eq_of_lt (by omega)])) ?_)
      have h6 : (q - 1) * a + (r + a) = u2 := by
        rw [← h4]
        obtain ⟨k, rfl⟩ : ∃ k, q = k + 1 := ⟨q - 1, by omega⟩
        rw [Nat.add_sub_cancel, Nat.add_mul]
        omega
      refine ev_rs [] rfl trivial (ev_cond rfl (fun h' => ev_exit ?_) (fun h' => ev_skip ?_))
      · refine at0 () trivial ⟨le_0, le_0, le_0, le_0, le_0, le_e ?_, trivial⟩
        have h7 : 4294967296 ≤ r + a := by have := of_decide_eq_true h'; omega
        have h8 := ke0 (q - 1) (r + a) h6 h7 (by omega)
        rw [show q - 1 = q0 by omega]
      · refine round0 (q - 1, r + a) ⟨?_, ?_, ?_, h6⟩ ?_ ⟨le_0, le_0, le_0, le_0, le_0, le_0, le_0, le_0, le_0, trivial⟩
        · dsimp only; omega
        · dsimp only; omega
        · have := of_decide_eq_false h'; dsimp only; omega
        · dsimp only; omega
    · have h5 := (not_congr (kn0 q r h4 h3 h1)).mp (fun h' => Bool.noConfusion (h.symm.trans ((test_iff q b r v0).mpr h')))
      refine at0 () trivial ⟨le_0, le_0, le_0, le_0, le_0, le_e ?_, trivial⟩
      exact congrArg u64 (show q = _ by omega)
  rintro ⟨⟩ -
  refine ev_rs [] rfl ⟨by omega, trivial⟩ ?_
  refine ev_ret (ret2 (fz_p (PLe.of_eq (congrArg (fun z => PV.val (.int .u64 z)) ?_))) (fz_p (PLe.of_eq (congrArg (fun z => PV.val (.int .u64 z)) ?_))))
  · show IntKind.wrap .u64 (IntKind.wrap .u64 ((q1 : Int) * ((4294967296 : Nat) : Int)) + (q0 : Int)) = _
    rw [wrapMul, wrapAdd, Nat.mod_eq_of_lt (by omega : q1 * 4294967296 < _), Nat.mod_eq_of_lt (by omega)]
  · show Int.fdiv (IntKind.wrap .u64 (IntKind.wrap .u64 (IntKind.wrap .u64 ((u2 : Int) * ((4294967296 : Nat) : Int)) + (v0 : Int)) - IntKind.wrap .u64 ((q0 : Int) * (y' : Int)))) _ = _
    rw [wrapMul, wrapAdd, wrapMul, wrapSub' _ _ (Nat.le_of_lt (Nat.mod_lt _ (by decide))), kr0]
    exact shrN _ s hs64

/-- The rest of two words by one. -/
theorem Rem64_spec (hi lo y : Nat) (hy0 : y ≠ 0) (hlo : lo < 18446744073709551616) (hy : y < 18446744073709551616) :
    CallSpec Tryz.pr.P Tryz.pr.G 54 [u64 hi, u64 lo, u64 y] (u64 ((hi * 18446744073709551616 + lo) % y)) := by
  refine callSpec_of Tryz.pr Tryz.func54 rfl rfl rfl fun w0 ok0 hok hG => ?_
  refine ev_rs [] rfl trivial ?_
  refine ev_rs [.tup 2 (two (u64 ((hi % y * 18446744073709551616 + lo) / y)) (u64 ((hi % y * 18446744073709551616 + lo) % y)))] rfl ⟨.inl ?_, by simpa using hy0, trivial⟩ ?_
  · exact Div64_spec (hi % y) lo y (Nat.mod_lt _ (by omega)) hlo hy
  refine ev_rs [] rfl trivial ?_
  refine ev_ret (ret1 (fz_p (PLe.of_eq (congrArg u64 ?_))))
  rw [Nat.add_mod, Nat.mod_mul_mod, ← Nat.add_mod]

end Go.Proofs

/- The numbers modulo a word: sums, differences, products, powers. -/
set_option linter.unusedVariables false
namespace Go.Proofs
open Go Vinc

/-- A field: its word, and what it keeps of it. -/
abbrev fld (m back two : Nat) : PV := .ptr 3 (three (u64 m) (u64 back) (u64 two)) 0

/-- A word that may be a modulus. -/
def MayM (m : Nat) : Prop := 2 ≤ m ∧ m < 9223372036854775808

theorem add_ge {x y m : Nat} (hm : 0 < m) (h : m ≤ x % m + y % m) : x % m + y % m - m = (x + y) % m := by
  have hx : x % m < m := Nat.mod_lt _ hm
  have hy : y % m < m := Nat.mod_lt _ hm
  rw [Nat.add_mod x y m]
  generalize x % m = a at *
  generalize y % m = b at *
  rw [Nat.mod_eq_sub_mod h, Nat.mod_eq_of_lt (by omega)]

theorem add_lt' {x y m : Nat} (h : x % m + y % m < m) : x % m + y % m = (x + y) % m := by
  rw [Nat.add_mod x y m, Nat.mod_eq_of_lt h]

/-- The difference modulo a number. -/
def subM (x y m : Nat) : Nat := (x % m + m - y % m) % m

theorem sub_lt' {x y m : Nat} (hm : 0 < m) (h : x % m < y % m) : x % m + m - y % m = subM x y m := by
  unfold subM
  rw [Nat.mod_eq_of_lt (by omega : x % m + m - y % m < m)]

theorem sub_ge {x y m : Nat} (hm : 0 < m) (h : y % m ≤ x % m) : x % m - y % m = subM x y m := by
  have hx : x % m < m := Nat.mod_lt _ hm
  unfold subM
  generalize x % m = a at *
  generalize y % m = b at *
  rw [show a + m - b = (a - b) + m by omega, Nat.add_mod_right, Nat.mod_eq_of_lt (by omega)]

section
variable {m b t : Nat}

theorem M_spec : CallSpec Tryz.pr.P Tryz.pr.G 46 [fld m b t] (u64 m) := by
  refine callSpec_of Tryz.pr Tryz.func46 rfl rfl rfl fun w0 ok0 hok hG => ?_
  refine ev_rs [] rfl trivial ?_
  refine ev_seq (ev_rs [] rfl trivial (ev_cf rfl (ev_sk ?_)))
  refine ev_rs [] rfl ⟨by decide, trivial⟩ ?_
  exact ev_ret (ret1 (fz_p (PLe.refl _)))

theorem M_nil : CallSpec Tryz.pr.P Tryz.pr.G 46 [nilP] (u64 0) := by
  refine callSpec_of Tryz.pr Tryz.func46 rfl rfl rfl fun w0 ok0 hok hG => ?_
  refine ev_rs [] rfl trivial ?_
  refine ev_seq (ev_rs [] rfl trivial (ev_ct rfl ?_))
  exact ev_rs [] rfl trivial (ev_ret (ret1 (fz_p (PLe.refl _))))

theorem Of_nil (x : Nat) : CallSpec Tryz.pr.P Tryz.pr.G 41 [nilP, u64 x] (u64 0) := by
  refine callSpec_of Tryz.pr Tryz.func41 rfl rfl rfl fun w0 ok0 hok hG => ?_
  refine ev_rs [] rfl trivial ?_
  refine ev_seq (ev_rs [] rfl trivial (ev_ct rfl ?_))
  exact ev_rs [] rfl trivial (ev_ret (ret1 (fz_p (PLe.refl _))))

theorem Of_spec (hm : MayM m) (x : Nat) : CallSpec Tryz.pr.P Tryz.pr.G 41 [fld m b t, u64 x] (u64 (x % m)) := by
  have hm0 : m ≠ 0 := by have := hm.1; omega
  refine callSpec_of Tryz.pr Tryz.func41 rfl rfl rfl fun w0 ok0 hok hG => ?_
  refine ev_rs [] rfl trivial ?_
  refine ev_seq (ev_rs [] rfl trivial (ev_cf rfl (ev_sk ?_)))
  refine ev_rs [] rfl ⟨by simpa using hm0, by decide, trivial⟩ ?_
  exact ev_ret (ret1 (fz_p (PLe.refl _)))

theorem Add_nil (x y : Nat) : CallSpec Tryz.pr.P Tryz.pr.G 39 [nilP, u64 x, u64 y] (u64 0) := by
  refine callSpec_of Tryz.pr Tryz.func39 rfl rfl rfl fun w0 ok0 hok hG => ?_
  refine ev_rs [] rfl trivial ?_
  refine ev_seq (ev_rs [] rfl trivial (ev_ct rfl ?_))
  exact ev_rs [] rfl trivial (ev_ret (ret1 (fz_p (PLe.refl _))))

theorem Add_spec (hm : MayM m) (x y : Nat) : CallSpec Tryz.pr.P Tryz.pr.G 39 [fld m b t, u64 x, u64 y] (u64 ((x + y) % m)) := by
  have hm0 : m ≠ 0 := by have := hm.1; omega
  have hm2 := hm.2
  have hx : x % m < m := Nat.mod_lt _ (by omega)
  have hy : y % m < m := Nat.mod_lt _ (by omega)
  have e := Nat.add_mod x y m
  refine callSpec_of Tryz.pr Tryz.func39 rfl rfl rfl fun w0 ok0 hok hG => ?_
  refine ev_rs [] rfl trivial ?_
  refine ev_seq (ev_rs [] rfl trivial (ev_cf rfl (ev_sk ?_)))
  refine ev_ds [] (by kernel_rfl) rfl rfl ⟨by simpa using hm0, by decide, by simpa using hm0, by decide, trivial⟩ (ev_n 7 (x % m + y % m) rfl ((wrapAdd _ _).trans (by rw [Nat.mod_eq_of_lt (by omega)])) ?_)
  refine ev_at (α := Unit) (fun _ => True) (fun _ => [(7, .p (u64 ((x + y) % m)))]) (fun _ => []) ?_ ?_
  · refine ev_rs [] rfl ⟨by decide, trivial⟩ (ev_cond rfl (fun h => ?_) (fun h => ?_))
    · have h' := of_decide_eq_true h
      refine ev_region [] rfl ⟨by decide, trivial⟩ (at0 () trivial ⟨le_e (congrArg (fun z => PV.val (.int .u64 z)) ?_), trivial⟩)
      show IntKind.wrap .u64 (((x % m + y % m : Nat) : Int) - (m : Int)) = _
      rw [wrapSub _ _ (by omega) (by omega)]
      exact toN (add_ge (by omega) (by omega))
    · have h' := of_decide_eq_false h
      refine ev_skip (at0 () trivial ⟨le_e (congrArg u64 ?_), trivial⟩)
      exact add_lt' (by omega)
  · rintro ⟨⟩ -
    refine ev_rs [] rfl trivial ?_
    exact ev_ret (ret1 (fz_p (PLe.refl _)))

theorem Sub_nil (x y : Nat) : CallSpec Tryz.pr.P Tryz.pr.G 47 [nilP, u64 x, u64 y] (u64 0) := by
  refine callSpec_of Tryz.pr Tryz.func47 rfl rfl rfl fun w0 ok0 hok hG => ?_
  refine ev_rs [] rfl trivial ?_
  refine ev_seq (ev_rs [] rfl trivial (ev_ct rfl ?_))
  exact ev_rs [] rfl trivial (ev_ret (ret1 (fz_p (PLe.refl _))))

theorem Sub_spec (hm : MayM m) (x y : Nat) : CallSpec Tryz.pr.P Tryz.pr.G 47 [fld m b t, u64 x, u64 y] (u64 (subM x y m)) := by
  have hm0 : m ≠ 0 := by have := hm.1; omega
  have hm2 := hm.2
  have hx : x % m < m := Nat.mod_lt _ (by omega)
  have hy : y % m < m := Nat.mod_lt _ (by omega)
  refine callSpec_of Tryz.pr Tryz.func47 rfl rfl rfl fun w0 ok0 hok hG => ?_
  refine ev_rs [] rfl trivial ?_
  refine ev_seq (ev_rs [] rfl trivial (ev_cf rfl (ev_sk ?_)))
  refine ev_ds [] (by kernel_rfl) rfl rfl ⟨by simpa using hm0, by decide, by simpa using hm0, by decide, trivial⟩ ?_
  refine ev_at (α := Nat) (fun z => y % m ≤ z ∧ z < 18446744073709551616 ∧ z - y % m = subM x y m) (fun z => [(1, .p (u64 z)), (2, .p (u64 (y % m)))]) (fun _ => []) ?_ ?_
  · refine ev_rs [] rfl trivial (ev_cond rfl (fun h => ?_) (fun h => ?_))
    · have h' := of_decide_eq_true h
      have h'' : x % m < y % m := Int.ofNat_lt.mp h'
      refine ev_region [] rfl ⟨by decide, trivial⟩ (at0 (x % m + m) ⟨by omega, by omega, ?_⟩ ⟨le_e (congrArg (fun z => PV.val (.int .u64 z)) ?_), le_0, trivial⟩)
      · exact sub_lt' (by omega) h''
      · show IntKind.wrap .u64 (((x % m : Nat) : Int) + (m : Int)) = _
        rw [wrapAdd, Nat.mod_eq_of_lt (by omega)]
    · have h' := of_decide_eq_false h
      have h'' : ¬ x % m < y % m := fun h => h' (Int.ofNat_lt.mpr h)
      refine ev_skip (at0 (x % m) ⟨by omega, by omega, sub_ge (by omega) (by omega)⟩ ⟨le_0, le_0, trivial⟩)
  · rintro z ⟨h1, h2, h3⟩
    refine ev_rs [] rfl trivial (ev_n 6 (z - y % m) rfl (wrapSub _ _ h1 h2) ?_)
    exact ev_ret (ret1 (fz_p (PLe.of_eq (congrArg u64 h3))))

theorem Mul_nil (x y : Nat) : CallSpec Tryz.pr.P Tryz.pr.G 42 [nilP, u64 x, u64 y] (u64 0) := by
  refine callSpec_of Tryz.pr Tryz.func42 rfl rfl rfl fun w0 ok0 hok hG => ?_
  refine ev_rs [] rfl trivial ?_
  refine ev_seq (ev_rs [] rfl trivial (ev_ct rfl ?_))
  exact ev_rs [] rfl trivial (ev_ret (ret1 (fz_p (PLe.refl _))))

theorem Mul_spec (hm : MayM m) (x y : Nat) : CallSpec Tryz.pr.P Tryz.pr.G 42 [fld m b t, u64 x, u64 y] (u64 (x * y % m)) := by
  have hm0 : m ≠ 0 := by have := hm.1; omega
  have hm2 := hm.2
  have hx : x % m < m := Nat.mod_lt _ (by omega)
  have hy : y % m < m := Nat.mod_lt _ (by omega)
  refine callSpec_of Tryz.pr Tryz.func42 rfl rfl rfl fun w0 ok0 hok hG => ?_
  refine ev_rs [] rfl trivial ?_
  refine ev_seq (ev_rs [] rfl trivial (ev_cf rfl (ev_sk ?_)))
  refine ev_ds [.tup 2 (two (u64 (x % m * (y % m) / 18446744073709551616)) (u64 (x % m * (y % m) % 18446744073709551616)))] (by kernel_rfl) rfl rfl
    ⟨.inl (Mul64_spec _ _ (by omega) (by omega)), by simpa using hm0, by decide, by simpa using hm0, by decide, trivial⟩ ?_
  have hlo : x % m * (y % m) % 18446744073709551616 < 18446744073709551616 := Nat.mod_lt _ (by decide)
  refine ev_rs [u64 (x * y % m)] rfl ⟨.inl ?_, by decide, trivial⟩ ?_
  · have h := Rem64_spec (x % m * (y % m) / 18446744073709551616) (x % m * (y % m) % 18446744073709551616) m hm0 hlo (by omega)
    rw [Nat.mul_comm (_ / _), Nat.div_add_mod, ← Nat.mul_mod] at h
    exact h
  exact ev_ret (ret1 (fz_p (PLe.refl _)))

end
end Go.Proofs

/- The document's answers of chapter 3, and powers. -/
set_option linter.unusedVariables false
namespace Go.Proofs
open Go Vinc

theorem RefAdd_spec {m : Nat} (hm : MayM m) (x y : Nat) : CallSpec Tryz.pr.P Tryz.pr.G 23 [u64 x, u64 y, u64 m] (u64 ((x + y) % m)) := by
  have hm0 : m ≠ 0 := by have := hm.1; omega
  have hm2 := hm.2
  have hx : x % m < m := Nat.mod_lt _ (by omega)
  have hy : y % m < m := Nat.mod_lt _ (by omega)
  refine callSpec_of Tryz.pr Tryz.func23 rfl rfl rfl fun w0 ok0 hok hG => ?_
  refine ev_rs [] rfl trivial ?_
  refine ev_ds [] (by kernel_rfl) rfl rfl ⟨by simpa using hm0, by simpa using hm0, by simpa using hm0, trivial⟩ ?_
  refine ev_ret (ret1 (fz_p (PLe.of_eq (congrArg (fun z => PV.val (.int .u64 z)) ?_))))
  show Int.tmod (IntKind.wrap .u64 (((x % m : Nat) : Int) + ((y % m : Nat) : Int))) (m : Int) = _
  rw [wrapAdd, Nat.mod_eq_of_lt (by omega : x % m + y % m < _), tmodN, ← Nat.add_mod]

/-- One step of a product by doubling. -/
theorem mul_step (o x y m t : Nat) (h : (o + x * y) % m = t) : ((if y % 2 = 1 then (o + x) % m else o) + (x + x) % m * (y / 2)) % m = t := by
  have hy := Nat.div_add_mod y 2
  have h0 : ((x + x) % m * (y / 2)) % m = ((x + x) * (y / 2)) % m := Nat.mod_mul_mod _ _ _
  split
  · rename_i h1
    have e : o + x * y = (o + x) + (x + x) * (y / 2) := by
      rw [h1] at hy
      generalize y / 2 = k at hy ⊢
      rw [← hy]
      grind
    rw [← h, e, Nat.add_mod, h0, Nat.mod_mod, ← Nat.add_mod]
  · rename_i h1
    have e : o + x * y = o + (x + x) * (y / 2) := by
      have h2 : y % 2 = 0 := by omega
      rw [h2] at hy
      generalize y / 2 = k at hy ⊢
      rw [← hy]
      grind
    rw [← h, e, Nat.add_mod, h0, ← Nat.add_mod]

theorem RefMul_spec {m : Nat} (hm : MayM m) (x y : Nat) (hy : y < 18446744073709551616) : CallSpec Tryz.pr.P Tryz.pr.G 22 [u64 x, u64 y, u64 m] (u64 (x * y % m)) := by
  have hm0 : m ≠ 0 := by have := hm.1; omega
  have hm2 := hm.2
  have hmp : 0 < m := by omega
  refine callSpec_of Tryz.pr Tryz.func22 rfl rfl rfl fun w0 ok0 hok hG => ?_
  refine ev_rs [] rfl trivial ?_
  refine ev_rs [] rfl trivial ?_
  refine ev_rs [] rfl ⟨by simpa using hm0, trivial⟩ ?_
  refine ev_rs [] rfl ⟨by simpa using hm0, trivial⟩ ?_
  refine ev_at (α := Unit) (fun _ => True) (fun _ => [(7, .p (u64 (x * y % m)))]) (fun _ => []) ?_ ?_
  · refine ev_block (ev_while0 (α := Nat × Nat × Nat) (fun p => p.1 < m ∧ (p.1 + p.2.1 * p.2.2) % m = x * y % m ∧ p.2.2 < 18446744073709551616)
      (fun p => [(0, .p (u64 p.2.1)), (1, .p (u64 p.2.2)), (2, .p (u64 m)), (7, .p (u64 p.1))]) (fun p => p.2.2) (0, x % m, y % m)
      ⟨hmp, by rw [Nat.zero_add, ← Nat.mul_mod], Nat.lt_of_le_of_lt (Nat.mod_le _ _) hy⟩ ⟨le_0, le_0, le_0, le_0, trivial⟩ ?_)
    rintro ⟨o, a, k⟩ ⟨h1, h2, h3⟩
    dsimp only at h1 h2 h3
    refine ev_seq (ev_rs [] rfl trivial (ev_cond rfl (fun h => ev_sk ?_) (fun h => ev_exit ?_)))
    · have hk : 0 < k := Int.ofNat_lt.mp (of_decide_eq_true h)
      refine ev_block ?_
      refine ev_at (α := Unit) (fun _ => True) (fun _ => [(0, .p (u64 a)), (1, .p (u64 k)), (2, .p (u64 m)), (7, .p (u64 (if k % 2 = 1 then (o + a) % m else o)))]) (fun _ => []) ?_ ?_
      · refine ev_rs [] rfl ⟨by decide, trivial⟩ (ev_cond rfl (fun h => ?_) (fun h => ?_))
        · have hk1 : k % 2 = 1 := Int.ofNat_inj.mp (beq_iff_eq.mp h)
          refine ev_region [u64 ((o + a) % m)] rfl ⟨.inl (RefAdd_spec hm o a), trivial⟩ (at0 () trivial ⟨le_0, le_0, le_0, le_e (congrArg u64 ?_), trivial⟩)
          rw [if_pos hk1]
        · have hk1 : ¬ k % 2 = 1 := fun e => (beq_eq_false_iff_ne.mp h) (Int.ofNat_inj.mpr e)
          refine ev_skip (at0 () trivial ⟨le_0, le_0, le_0, le_e (congrArg u64 ?_), trivial⟩)
          rw [if_neg hk1]
      rintro ⟨⟩ -
      refine ev_rs [u64 ((a + a) % m)] rfl ⟨.inl (RefAdd_spec hm a a), trivial⟩ ?_
      refine ev_region [] rfl ⟨by decide, trivial⟩ (round0 (if k % 2 = 1 then (o + a) % m else o, (a + a) % m, k / 2) ⟨?_, mul_step _ _ _ _ _ h2, by dsimp only; omega⟩ (by dsimp only; omega)
        ⟨le_0, le_e (congrArg (fun z => PV.val (.int .u64 z)) (tdivN k 2 h3)), le_0, le_0, trivial⟩)
      dsimp only
      split
      · exact Nat.mod_lt _ hmp
      · exact h1
    · have hk : k = 0 := by
        have := of_decide_eq_false h
        dsimp only at this
        omega
      refine at0 () trivial ⟨le_e (congrArg u64 ?_), trivial⟩
      rw [hk, Nat.mul_zero, Nat.add_zero, Nat.mod_eq_of_lt h1] at h2
      exact h2
  rintro ⟨⟩ -
  refine ev_rs [] rfl trivial ?_
  exact ev_ret (ret1 (fz_p (PLe.refl _)))

/-- One step of a power by squaring. -/
theorem pow_step (o x n m t : Nat) (h : (o * x ^ n) % m = t) : ((if n % 2 = 1 then o * x % m else o) * (x * x % m) ^ (n / 2)) % m = t := by
  have hn := Nat.div_add_mod n 2
  have h0 : ∀ a, (a * (x * x % m) ^ (n / 2)) % m = (a * (x * x) ^ (n / 2)) % m := fun a => by
    rw [Nat.mul_mod, Nat.pow_mod (x * x % m), Nat.mod_mod, ← Nat.pow_mod, ← Nat.mul_mod]
  rw [h0]
  have e2 : (x * x) ^ (n / 2) = x ^ (2 * (n / 2)) := by rw [Nat.pow_mul, Nat.pow_two]
  rw [e2]
  split
  · rename_i h1
    rw [Nat.mod_mul_mod, Nat.mul_assoc, ← Nat.pow_succ', ← h]
    congr 3
    omega
  · rw [← h]
    congr 3
    omega

/-- What is wrong with a number that is to be inverted. -/
def wrong (x m : Nat) : Nat := if x % m = 0 then 10 else if Nat.gcd (x % m) m = 1 then 0 else 11

/-- May a word be a modulus? -/
def mayB (m : Nat) : Bool := decide (2 ≤ m) && decide (m < 9223372036854775808)

theorem mayB_iff (m : Nat) : mayB m = true ↔ MayM m := by
  unfold mayB MayM
  simp only [Bool.and_eq_true, decide_eq_true_eq]

end Go.Proofs

/- Powers and inverses modulo a word. -/
set_option linter.unusedVariables false
namespace Go.Proofs
open Go Vinc

section
variable {m b t : Nat}

theorem Pow_nil (x n : Nat) (hn : n < 18446744073709551616) : CallSpec Tryz.pr.P Tryz.pr.G 102 [nilP, u64 x, u64 n] (u64 0) := by
  refine callSpec_of Tryz.pr Tryz.func102 rfl rfl rfl fun w0 ok0 hok hG => ?_
  refine ev_rs [] rfl trivial (ev_scope ?_)
  refine ev_rs [u64 0] rfl ⟨.inl (Of_nil 1), trivial⟩ (ev_seq (ev_label ?_))
  refine ev_at (α := Unit) (fun _ => True) (fun _ => [(7, .p (u64 0))]) (fun _ => []) ?_ ?_
  · refine ev_block (ev_while0 (α := Nat × Nat) (fun p => p.2 < 18446744073709551616)
      (fun p => [(0, .p nilP), (1, .p (u64 p.1)), (2, .p (u64 p.2)), (7, .p (u64 0))]) (fun p => p.2) (x, n) hn ⟨le_0, le_0, le_0, le_0, trivial⟩ ?_)
    rintro ⟨a, k⟩ h3
    dsimp only at h3
    refine ev_block ?_
    refine ev_at (α := Unit) (fun _ => 0 < k) (fun _ => [(0, .p nilP), (1, .p (u64 a)), (2, .p (u64 k)), (7, .p (u64 0))]) (fun _ => []) ?_ ?_
    · refine ev_block (ev_rs [] rfl trivial (ev_cond rfl (fun h => ev_exit ?_) (fun h => ?_)))
      · exact at0 () trivial ⟨le_0, trivial⟩
      have hk : 0 < k := by
        have : ¬ k = 0 := fun e => (beq_eq_false_iff_ne.mp h) (Int.ofNat_inj.mpr e)
        omega
      refine ev_rs [] rfl trivial (ev_cond rfl (fun h => ?_) (fun h => ?_))
      · exact ev_region [u64 0] rfl ⟨.inl (Mul_nil 0 a), trivial⟩ (at0 () hk ⟨le_0, le_0, le_0, le_0, trivial⟩)
      · exact ev_skip (at0 () hk ⟨le_0, le_0, le_0, le_0, trivial⟩)
    rintro ⟨⟩ hk
    refine ev_rs [u64 0] rfl ⟨.inl (Mul_nil a a), trivial⟩ ?_
    exact ev_region [] rfl ⟨by decide, trivial⟩ (round0 (0, k / 2) (by dsimp only; omega) (by dsimp only; omega) ⟨le_0, le_0, le_e (congrArg (fun z => PV.val (.int .u64 z)) (shr1 k)), le_0, trivial⟩)
  rintro ⟨⟩ -
  refine ev_rs [] rfl trivial ?_
  exact ev_ret (ret1 (fz_p (PLe.refl _)))

theorem Pow_spec (hm : MayM m) (x n : Nat) (hn : n < 18446744073709551616) : CallSpec Tryz.pr.P Tryz.pr.G 102 [fld m b t, u64 x, u64 n] (u64 (x ^ n % m)) := by
  have hm0 : m ≠ 0 := by have := hm.1; omega
  have hmp : 0 < m := by omega
  refine callSpec_of Tryz.pr Tryz.func102 rfl rfl rfl fun w0 ok0 hok hG => ?_
  refine ev_rs [] rfl trivial (ev_scope ?_)
  refine ev_rs [u64 (1 % m)] rfl ⟨.inl (Of_spec hm 1), trivial⟩ (ev_seq (ev_label ?_))
  refine ev_at (α := Unit) (fun _ => True) (fun _ => [(7, .p (u64 (x ^ n % m)))]) (fun _ => []) ?_ ?_
  · refine ev_block (ev_while0 (α := Nat × Nat × Nat) (fun p => p.1 < m ∧ (p.1 * p.2.1 ^ p.2.2) % m = x ^ n % m ∧ p.2.2 < 18446744073709551616)
      (fun p => [(0, .p (fld m b t)), (1, .p (u64 p.2.1)), (2, .p (u64 p.2.2)), (7, .p (u64 p.1))]) (fun p => p.2.2) (1 % m, x, n)
      ⟨Nat.mod_lt _ hmp, by dsimp only; rw [Nat.mod_mul_mod, Nat.one_mul], hn⟩ ⟨le_0, le_0, le_0, le_0, trivial⟩ ?_)
    rintro ⟨o, a, k⟩ ⟨h1, h2, h3⟩
    dsimp only at h1 h2 h3
    refine ev_block ?_
    refine ev_at (α := Unit) (fun _ => 0 < k) (fun _ => [(0, .p (fld m b t)), (1, .p (u64 a)), (2, .p (u64 k)), (7, .p (u64 (if k % 2 = 1 then o * a % m else o)))]) (fun _ => []) ?_ ?_
    · refine ev_block (ev_rs [] rfl trivial (ev_cond rfl (fun h => ev_exit ?_) (fun h => ?_)))
      · have hk : k = 0 := Int.ofNat_inj.mp (beq_iff_eq.mp h)
        refine at0 () trivial ⟨le_e (congrArg u64 ?_), trivial⟩
        rw [hk, Nat.pow_zero, Nat.mul_one, Nat.mod_eq_of_lt h1] at h2
        exact h2
      have hk : 0 < k := by
        have : ¬ k = 0 := fun e => (beq_eq_false_iff_ne.mp h) (Int.ofNat_inj.mpr e)
        omega
      refine ev_rs [] rfl trivial (ev_cond rfl (fun h => ?_) (fun h => ?_))
      · have hk1 : k % 2 = 1 := by
          have := beq_iff_eq.mp h
          rw [and1 k h3] at this
          exact Int.ofNat_inj.mp this
        refine ev_region [u64 (o * a % m)] rfl ⟨.inl (Mul_spec hm o a), trivial⟩ (at0 () hk ⟨le_0, le_0, le_0, le_e (congrArg u64 ?_), trivial⟩)
        rw [if_pos hk1]
      · have hk1 : ¬ k % 2 = 1 := fun e => by
          have := beq_eq_false_iff_ne.mp h
          rw [and1 k h3] at this
          exact this (Int.ofNat_inj.mpr e)
        refine ev_skip (at0 () hk ⟨le_0, le_0, le_0, le_e (congrArg u64 ?_), trivial⟩)
        rw [if_neg hk1]
    rintro ⟨⟩ hk
    refine ev_rs [u64 (a * a % m)] rfl ⟨.inl (Mul_spec hm a a), trivial⟩ ?_
    refine ev_region [] rfl ⟨by decide, trivial⟩ (round0 (if k % 2 = 1 then o * a % m else o, a * a % m, k / 2) ⟨?_, pow_step _ _ _ _ _ h2, by dsimp only; omega⟩ (by dsimp only; omega)
      ⟨le_0, le_0, le_e (congrArg (fun z => PV.val (.int .u64 z)) (shr1 k)), le_0, trivial⟩)
    dsimp only
    split
    · exact Nat.mod_lt _ hmp
    · exact h1
  rintro ⟨⟩ -
  refine ev_rs [] rfl trivial ?_
  exact ev_ret (ret1 (fz_p (PLe.refl _)))

/-- What x times is 1, modulo m; 0 where there is none. -/
noncomputable def minv (m x : Nat) : Nat := open Classical in if h : ∃ y, y < m ∧ x * y % m = 1 then Classical.choose h else 0

theorem minv_unique {m x y z : Nat} (hy : y < m) (hz : z < m) (h1 : x * y % m = 1) (h2 : x * z % m = 1) : y = z := by
  have e1 : y * (x * z) % m = y := by rw [Nat.mul_mod, h2, Nat.mul_one, Nat.mod_mod, Nat.mod_eq_of_lt hy]
  have e2 : z * (x * y) % m = z := by rw [Nat.mul_mod, h1, Nat.mul_one, Nat.mod_mod, Nat.mod_eq_of_lt hz]
  have e3 : y * (x * z) = z * (x * y) := by grind
  exact e1.symm.trans ((congrArg (· % m) e3).trans e2)

theorem minv_eq {m x y : Nat} (hy : y < m) (h : x * y % m = 1) : minv m x = y := by
  have hex : ∃ y, y < m ∧ x * y % m = 1 := ⟨y, hy, h⟩
  unfold minv
  rw [dif_pos hex]
  have := Classical.choose_spec hex
  exact minv_unique this.1 hy this.2 h

theorem gcd_of_inv {m x y : Nat} (h : x * y % m = 1) : Nat.gcd x m = 1 := by
  have h1 : Nat.gcd x m ∣ x * y := Nat.dvd_mul_right_of_dvd (Nat.gcd_dvd_left x m) y
  have h2 : Nat.gcd x m ∣ m := Nat.gcd_dvd_right x m
  have h3 : Nat.gcd x m ∣ x * y % m := (Nat.dvd_mod_iff h2).mpr h1
  rw [h] at h3
  exact Nat.dvd_one.mp h3

theorem minv_none {m x : Nat} (h : Nat.gcd x m ≠ 1) : minv m x = 0 := by
  unfold minv
  rw [dif_neg]
  rintro ⟨y, _, hy⟩
  exact h (gcd_of_inv hy)

theorem gcd_mod (x m : Nat) : Nat.gcd (x % m) m = Nat.gcd x m := by
  rw [← Nat.gcd_rec, Nat.gcd_comm]

theorem wrong_eq (x m : Nat) : wrong x m = if x % m = 0 then 10 else if Nat.gcd x m = 1 then 0 else 11 := by
  unfold wrong
  simp only [gcd_mod]

theorem wrong_gcd {x m : Nat} (hm : MayM m) : wrong x m = 0 ↔ Nat.gcd x m = 1 := by
  rw [wrong_eq]
  split
  · rename_i h
    constructor
    · intro h'; omega
    · intro h'
      have : m ∣ x := Nat.dvd_of_mod_eq_zero h
      rw [Nat.gcd_eq_right this] at h'
      have := hm.1; omega
  · split <;> simp_all

theorem subM_dvd {m : Nat} (hm : 0 < m) (x y : Nat) : (m : Int) ∣ (subM x y m : Int) - (x - y) := by
  have hx := Nat.div_add_mod x m
  have hy := Nat.div_add_mod y m
  have hlt : y % m < m := Nat.mod_lt _ hm
  have hs := Nat.div_add_mod (x % m + m - y % m) m
  unfold subM
  refine ⟨- ((x % m + m - y % m) / m : Nat) + 1 - (x / m : Nat) + (y / m : Nat), ?_⟩
  generalize (x % m + m - y % m) % m = c at *
  have h1 : ((x % m + m - y % m : Nat) : Int) = (x % m : Nat) + (m : Int) - (y % m : Nat) := by omega
  generalize (x % m + m - y % m) / m = d at *
  generalize x % m + m - y % m = e at *
  generalize x % m = xr at *
  generalize y % m = yr at *
  generalize x / m = xq at *
  generalize y / m = yq at *
  subst hx hy hs
  push_cast at h1 ⊢
  grind

theorem modeq_of_dvd {m a b : Nat} (h : (m : Int) ∣ (a : Int) - b) : a % m = b % m := by
  have := Int.emod_emod_of_dvd
  have h' := Int.emod_eq_emod_iff_emod_sub_eq_zero.mpr (Int.emod_eq_zero_of_dvd h)
  exact_mod_cast h'

theorem inv_step {m x r s a b' q : Nat} (hm : 0 < m) (h1 : (m : Int) ∣ (a : Int) * x - r) (h2 : (m : Int) ∣ (b' : Int) * x - s) (hq : q * s ≤ r) :
    (m : Int) ∣ (subM a (q * b' % m) m : Int) * x - ((r - q * s : Nat) : Int) := by
  obtain ⟨k1, h1⟩ := h1
  obtain ⟨k2, h2⟩ := h2
  obtain ⟨k3, h3⟩ := subM_dvd hm a (q * b' % m)
  have h4 := Nat.div_add_mod (q * b') m
  refine ⟨k3 * x + k1 - q * k2 + x * (q * b' / m : Nat), ?_⟩
  generalize subM a (q * b' % m) m = c at *
  generalize q * b' % m = d at *
  generalize q * b' / m = e at *
  have h5 : ((r - q * s : Nat) : Int) = r - q * s := by
    rw [Int.natCast_sub hq]; push_cast; rfl
  have h6 : (m : Int) * e + d = q * b' := by exact_mod_cast h4
  rw [h5]
  grind

theorem Inv_nil (x : Nat) : CallSpec Tryz.pr.P Tryz.pr.G 43 [nilP, u64 x] (.tup 2 (two (u64 0) (i64 2))) := by
  refine callSpec_of Tryz.pr Tryz.func43 rfl rfl rfl fun w0 ok0 hok hG => ?_
  refine ev_rs [] rfl trivial ?_
  refine ev_seq (ev_rs [] rfl trivial (ev_ct rfl ?_))
  exact ev_rs [] rfl trivial (ev_ret (ret2 (fz_p (PLe.refl _)) (fz_p (PLe.refl _))))

theorem Inv_spec (hm : MayM m) (x : Nat) : CallSpec Tryz.pr.P Tryz.pr.G 43 [fld m b t, u64 x] (.tup 2 (two (u64 (minv m x)) (i64 (wrong x m)))) := by
  have hm0 : m ≠ 0 := by have := hm.1; omega
  have hmp : 0 < m := by omega
  have hm2 := hm.2
  have hlt : x % m < m := Nat.mod_lt _ hmp
  refine callSpec_of Tryz.pr Tryz.func43 rfl rfl rfl fun w0 ok0 hok hG => ?_
  refine ev_rs [] rfl trivial ?_
  refine ev_seq (ev_rs [] rfl trivial (ev_cf rfl (ev_sk ?_)))
  refine ev_rs [] rfl ⟨by simpa using hm0, by decide, trivial⟩ ?_
  refine ev_seq (ev_rs [] rfl trivial (ev_cond rfl (fun h => ?_) (fun h => ev_sk ?_)))
  · have h' : x % m = 0 := Int.ofNat_inj.mp (beq_iff_eq.mp h)
    refine ev_rs [] rfl trivial (ev_ret (ret2 (fz_p (PLe.of_eq (congrArg u64 ?_))) (fz_p (PLe.of_eq (congrArg i64 ?_)))))
    · symm
      apply minv_none
      rw [← gcd_mod, h', Nat.gcd_zero_left]
      have := hm.1; omega
    · unfold wrong; rw [if_pos h']; rfl
  have h0 : ¬ x % m = 0 := fun e => (beq_eq_false_iff_ne.mp h) (Int.ofNat_inj.mpr e)
  refine ev_rs [] rfl ⟨by decide, trivial⟩ ?_
  refine ev_rs [] rfl trivial ?_
  refine ev_at (α := Nat × Nat) (fun p => p.1 = Nat.gcd x m ∧ p.2 < m ∧ (m : Int) ∣ (p.2 : Int) * x - p.1) (fun p => [(6, .p (u64 p.1)), (8, .p (u64 p.2))]) (fun _ => []) ?_ ?_
  · refine ev_block (ev_while0 (α := Nat × Nat × Nat × Nat) (fun p => (p.1 ≤ m ∧ p.2.1 < m) ∧ Nat.gcd p.1 p.2.1 = Nat.gcd x m ∧ (p.2.2.1 < m ∧ p.2.2.2 < m) ∧ (m : Int) ∣ (p.2.2.1 : Int) * x - p.1 ∧ (m : Int) ∣ (p.2.2.2 : Int) * x - p.2.1)
      (fun p => [(0, .p (fld m b t)), (6, .p (u64 p.1)), (7, .p (u64 p.2.1)), (8, .p (u64 p.2.2.1)), (9, .p (u64 p.2.2.2))]) (fun p => p.2.1) (m, x % m, 0, 1)
      ⟨⟨Nat.le_refl _, hlt⟩, by dsimp only; rw [Nat.gcd_comm, gcd_mod], ⟨hmp, hm.1⟩, ⟨-1, by dsimp only; omega⟩, ⟨(x / m : Nat), ?_⟩⟩ ⟨le_0, le_0, le_0, le_0, le_0, trivial⟩ ?_)
    · have := Nat.div_add_mod x m
      dsimp only
      have h' : (m : Int) * (x / m : Nat) + (x % m : Nat) = x := by exact_mod_cast this
      omega
    rintro ⟨r, s, a, k⟩ ⟨⟨h1, h2⟩, h3, ⟨h4, h5⟩, h6, h7⟩
    dsimp only at h1 h2 h3 h4 h5 h6 h7
    refine ev_seq (ev_rs [] rfl trivial (ev_cond rfl (fun h => ev_sk ?_) (fun h => ev_exit ?_)))
    · have hk : 0 < s := Int.ofNat_lt.mp (of_decide_eq_true h)
      have hk0 : s ≠ 0 := by omega
      have hds : r / s * s ≤ r := Nat.div_mul_le_self r s
      have hdm : r - r / s * s = r % s := by
        have := Nat.div_add_mod r s
        rw [Nat.mul_comm] at this
        omega
      have hrs : r % s < s := Nat.mod_lt _ hk
      refine ev_block ?_
      refine ev_rs [] rfl ⟨by simpa using hk0, trivial⟩ (ev_n 10 (r / s) rfl (tdivN _ _ (by omega)) ?_)
      refine ev_rs [] rfl trivial (ev_n 7 (r % s) rfl ?_ ?_)
      · dsimp only
        rw [wrapMul, Nat.mod_eq_of_lt (by omega), wrapSub _ _ hds (by omega), hdm]
      refine ev_region [u64 (r / s * k % m), u64 (subM a (r / s * k % m) m)] rfl ⟨.inl (Sub_spec hm _ _), .inl (Mul_spec hm _ _), trivial⟩
        (round0 (s, r % s, k, subM a (r / s * k % m) m) ⟨⟨by dsimp only; omega, by dsimp only; omega⟩, ?_, ⟨h5, ?_⟩, h7, ?_⟩ hrs ⟨le_0, le_0, le_0, le_0, le_0, trivial⟩)
      · dsimp only
        rw [← h3, Nat.gcd_comm s, ← Nat.gcd_rec, Nat.gcd_comm]
      · exact Nat.mod_lt _ hmp
      · dsimp only
        rw [← hdm]
        exact inv_step hmp h6 h7 hds
    · have hk : s = 0 := by
        have := of_decide_eq_false h
        dsimp only at this
        omega
      refine at0 (r, a) ⟨?_, h4, h6⟩ ⟨le_0, le_0, trivial⟩
      rw [hk, Nat.gcd_zero_right] at h3
      exact h3
  rintro ⟨r, a⟩ ⟨h1, h2, h3⟩
  dsimp only at h1 h2 h3
  refine ev_seq (ev_rs [] rfl trivial (ev_cond rfl (fun h => ?_) (fun h => ev_sk ?_)))
  · have hr : ¬ r = 1 := fun e => (bne_iff_ne.mp h) (Int.ofNat_inj.mpr e)
    refine ev_rs [] rfl trivial (ev_ret (ret2 (fz_p (PLe.of_eq (congrArg u64 ?_))) (fz_p (PLe.of_eq (congrArg i64 ?_)))))
    · exact (minv_none (h1 ▸ hr)).symm
    · rw [wrong_eq, if_neg h0, if_neg (h1 ▸ hr)]; rfl
  · have hr : r = 1 := Int.ofNat_inj.mp (bne_eq_false_iff_eq.mp h)
    refine ev_rs [] rfl trivial (ev_ret (ret2 (fz_p (PLe.of_eq (congrArg u64 ?_))) (fz_p (PLe.of_eq (congrArg i64 ?_)))))
    · symm
      apply minv_eq h2
      have := modeq_of_dvd (a := a * x) (b := 1) (by rw [hr] at h3; exact_mod_cast h3)
      rw [Nat.mul_comm, this]
      exact Nat.mod_eq_of_lt hm.1
    · rw [wrong_eq, if_neg h0, if_pos (h1 ▸ hr)]; rfl

end
end Go.Proofs

/- Montgomery's forms; a new field. -/
set_option linter.unusedVariables false
namespace Go.Proofs
open Go Vinc

/-- What a field keeps: what m times is -1 modulo 2 to the 64th; the form of the form of 1. -/
noncomputable def bk (m : Nat) : Nat := if m % 2 = 1 then 18446744073709551616 - minv 18446744073709551616 m else 0
def tw (m : Nat) : Nat := if m % 2 = 1 then 18446744073709551616 * 18446744073709551616 % m else 0

/-- A field that New has made. -/
noncomputable abbrev newF (m : Nat) : PV := fld m (bk m) (tw m)

/-- A number divided by 2 to the 64th, modulo m. -/
noncomputable def redc (m z : Nat) : Nat := z * minv m 18446744073709551616 % m

theorem odd_gcd {m : Nat} (h : m % 2 = 1) : Nat.gcd 18446744073709551616 m = 1 := by
  have : (18446744073709551616 : Nat) = 2 ^ 64 := rfl
  rw [this]
  apply Nat.Coprime.pow_left
  show Nat.gcd 2 m = 1
  rw [Nat.gcd_rec, h]
  rfl

/-- The inverse is one, where there is one. -/
theorem minv_spec {m x : Nat} (hm : 2 ≤ m) (h : Nat.gcd x m = 1) : minv m x < m ∧ x * minv m x % m = 1 := by
  have hex : ∃ y, y < m ∧ x * y % m = 1 := by
    have hb : (m : Int) ∣ (x : Int) * (Int.bmod 0 1) - 0 := ⟨0, by simp⟩
    obtain ⟨u, hu⟩ : ∃ u : Nat, x * u % m = 1 % m := by
      have key : ∀ n r s a b : Nat, s = n → Nat.gcd r s = 1 → (m : Int) ∣ (a : Int) * x - r → (m : Int) ∣ (b : Int) * x - s → ∃ u : Nat, x * u % m = 1 % m := by
        intro n
        induction n using Nat.strongRecOn with
        | ind n ih =>
          intro r s a b hs hg h1 h2
          by_cases h0 : s = 0
          · rw [h0, Nat.gcd_zero_right] at hg
            refine ⟨a, ?_⟩
            rw [hg] at h1
            have := modeq_of_dvd (a := a * x) (b := 1) (by exact_mod_cast h1)
            rw [Nat.mul_comm]; exact this
          · have hlt : r % s < s := Nat.mod_lt _ (by omega)
            have hd : r - r / s * s = r % s := by
              have := Nat.div_add_mod r s
              rw [Nat.mul_comm] at this
              omega
            refine ih (r % s) (by omega) s (r % s) b (subM a (r / s * b % m) m) rfl ?_ h2 ?_
            · rw [← hg, Nat.gcd_comm s, ← Nat.gcd_rec, Nat.gcd_comm]
            · rw [← hd]; exact inv_step (by omega) h1 h2 (Nat.div_mul_le_self r s)
      exact key x m x 0 1 rfl (by rw [Nat.gcd_comm]; exact h) ⟨-1, by simp⟩ ⟨0, by simp⟩
    refine ⟨u % m, Nat.mod_lt _ (by omega), ?_⟩
    rw [Nat.mul_mod, Nat.mod_mod, ← Nat.mul_mod, hu]
    exact Nat.mod_eq_of_lt (by omega)
  unfold minv
  rw [dif_pos hex]
  exact Classical.choose_spec hex

theorem redc_eq {m z s : Nat} (hm : 2 ≤ m) (ho : m % 2 = 1) (h : s * 18446744073709551616 % m = z % m) : s % m = redc m z := by
  obtain ⟨h1, h2⟩ := minv_spec hm (odd_gcd ho)
  unfold redc
  rw [Nat.mul_mod, ← h, ← Nat.mul_mod, Nat.mul_assoc, Nat.mul_mod, h2, Nat.mul_one, Nat.mod_mod]

section
variable {m b t : Nat}

theorem carry_aux (low l : Nat) (hl : low < 18446744073709551616) (hl' : l < 18446744073709551616) (h : (low + l) % 18446744073709551616 = 0) : (low + l) / 18446744073709551616 * 18446744073709551616 = low + l ∧ (low + l) / 18446744073709551616 ≤ 1 := by omega

theorem sum_lt {high low um m : Nat} (hh : high < m) (hl : low < 18446744073709551616) (h : um ≤ 18446744073709551615 * m) : high * 18446744073709551616 + low + um < 2 * m * 18446744073709551616 := by omega

theorem swap4 (a d w l : Nat) : a + d + (w + l) = a + w + (d + l) := by omega

theorem sum_eq {high h k l low um : Nat} (h1 : k * 18446744073709551616 = low + l) (h2 : 18446744073709551616 * h + l = um) : (high + h + k) * 18446744073709551616 = high * 18446744073709551616 + low + um := by
  rw [Nat.add_mul, Nat.add_mul, h1, ← h2, Nat.mul_comm _ h]
  exact swap4 _ _ _ _

/-- The quotient that a reduction makes. -/
theorem reduce_eq {high low : Nat} (hm : MayM m) (hb : (m * b + 1) % 18446744073709551616 = 0) (hh : high < m) (hl : low < 18446744073709551616) :
    let u := low * b % 18446744073709551616
    let h := u * m / 18446744073709551616
    let l := u * m % 18446744073709551616
    let k := (low + l) / 18446744073709551616
    k ≤ 1 ∧ high + h + k < 2 * m ∧ (high + h + k) * 18446744073709551616 = high * 18446744073709551616 + low + u * m := by
  intro u h l k
  have hu : u < 18446744073709551616 := Nat.mod_lt _ (by decide)
  have hul := Nat.div_add_mod (u * m) 18446744073709551616
  have hll : l < 18446744073709551616 := Nat.mod_lt _ (by decide)
  have hz : (low + l) % 18446744073709551616 = 0 := by
    have e1 : (low + u * m) % 18446744073709551616 = 0 := by
      show (low + low * b % 18446744073709551616 * m) % 18446744073709551616 = 0
      rw [Nat.add_mod, Nat.mod_mul_mod, ← Nat.add_mod, show low + low * b * m = low * (m * b + 1) by grind, Nat.mul_mod, hb, Nat.mul_zero, Nat.zero_mod]
    show (low + u * m % 18446744073709551616) % 18446744073709551616 = 0
    rw [Nat.add_mod, Nat.mod_mod, ← Nat.add_mod, e1]
  obtain ⟨hk1, hk2⟩ := carry_aux low l hl hll hz
  have hum : u * m ≤ 18446744073709551615 * m := Nat.mul_le_mul_right _ (by omega)
  have hs : (high + h + k) * 18446744073709551616 = high * 18446744073709551616 + low + u * m := sum_eq hk1 hul
  refine ⟨hk2, ?_, hs⟩
  exact Nat.lt_of_mul_lt_mul_right (Nat.lt_of_le_of_lt (Nat.le_of_eq hs) (sum_lt hh hl hum))

end
end Go.Proofs

/- A new field; Montgomery's forms; the inverses of many. -/
set_option linter.unusedVariables false
namespace Go.Proofs
open Go Vinc

section
variable {m b t : Nat}

/-! ### a new field -/

theorem New_bad (h : ¬ MayM m) : CallSpec Tryz.pr.P Tryz.pr.G 49 [u64 m] (.tup 2 (two nilP (i64 1))) := by
  refine callSpec_of Tryz.pr Tryz.func49 rfl rfl rfl fun w0 ok0 hok hG => ?_
  refine ev_rs [] rfl trivial ?_
  refine ev_seq (ev_rs [] rfl ⟨⟨fun _ => rfl, gd_f⟩, by simp⟩ (ev_ct ?_ ?_))
  · refine congrArg (fun b => AV.p (.val (.bool b))) (a₁ := bif decide ((m : Int) < 2) then true else decide ((m : Int) ≥ 9223372036854775808)) (a₂ := true) ?_
    by_cases h1 : m < 2
    · rw [decide_eq_true (by omega : (m : Int) < 2)]; rfl
    · rw [decide_eq_false (by omega : ¬ (m : Int) < 2)]
      exact decide_eq_true (by have : ¬ m < 9223372036854775808 := fun e => h ⟨by omega, e⟩
                               omega)
  exact ev_rs [] rfl trivial (ev_ret (ret2 (fz_p (PLe.refl _)) (fz_p (PLe.refl _))))

/-- A step of an inverse modulo W. -/
theorem newton_step {W m i E F c g : Nat} (hW : 0 < W) (hEF : E * E = F * c) (hF : F * g = W) (h : (E : Int) ∣ (m : Int) * i - 1) :
    (F : Int) ∣ (m : Int) * ((i * ((2 + (W - m * i % W)) % W) % W : Nat) : Int) - 1 := by
  obtain ⟨k, hk⟩ := h
  have hlt : m * i % W < W := Nat.mod_lt _ hW
  have h1 := Nat.div_add_mod (m * i) W
  generalize m * i % W = r at h1 hlt ⊢
  generalize m * i / W = q1 at h1 ⊢
  have h2 := Nat.div_add_mod (2 + (W - r)) W
  have e2 : ((2 + (W - r) : Nat) : Int) = 2 + W - r := by omega
  generalize 2 + (W - r) = z at h2 e2 ⊢
  generalize z % W = A at h2 ⊢
  generalize z / W = q2 at h2 ⊢
  have h3 := Nat.div_add_mod (i * A) W
  generalize i * A % W = I at h3 ⊢
  generalize i * A / W = q3 at h3 ⊢
  have h1' : (r : Int) = m * i - W * q1 := by
    have : (W : Int) * q1 + r = m * i := by exact_mod_cast h1
    omega
  have h2' : (A : Int) = z - W * q2 := by
    have : (W : Int) * q2 + A = z := by exact_mod_cast h2
    omega
  have h3' : (I : Int) = i * A - W * q3 := by
    have : (W : Int) * q3 + I = i * A := by exact_mod_cast h3
    omega
  have hEF' : (E : Int) * E = F * c := by exact_mod_cast hEF
  have hF' : (W : Int) = F * g := by exact_mod_cast hF.symm
  have e4 : (m : Int) * I - 1 = -(E * k) * (E * k) + W * (m * i * (1 + q1 - q2) - m * q3) := by
    rw [h3', h2', e2, h1', ← hk]
    grind
  have e5 : (E * k) * (E * k) = F * (c * k * k) := by
    rw [show (E * k) * (E * k) = (E * E) * (k * k) by grind, hEF']
    grind
  refine ⟨- (c * k * k) + g * (m * i * (1 + q1 - q2) - m * q3), ?_⟩
  rw [e4, Int.neg_mul, e5, hF']
  grind

theorem odd_sq {m : Nat} (h : m % 2 = 1) : (8 : Int) ∣ (m : Int) * m - 1 := by
  obtain ⟨j, rfl⟩ : ∃ j, m = 2 * j + 1 := ⟨m / 2, by omega⟩
  have h2 : j % 2 = 0 ∨ j % 2 = 1 := by omega
  rcases h2 with h2 | h2
  · obtain ⟨k, rfl⟩ : ∃ k, j = 2 * k := ⟨j / 2, by omega⟩
    exact ⟨k * (2 * k + 1), by push_cast; grind⟩
  · obtain ⟨k, rfl⟩ : ∃ k, j = 2 * k + 1 := ⟨j / 2, by omega⟩
    exact ⟨(2 * k + 1) * (k + 1), by push_cast; grind⟩

/-- How many places are right behind k steps. -/
def exq : Nat → Nat
  | 0 => 3
  | 1 => 6
  | 2 => 12
  | 3 => 24
  | 4 => 48
  | _ => 64

theorem exq_step {k i : Nat} (hk : k < 5) (h : ((2 ^ exq k : Nat) : Int) ∣ (m : Int) * i - 1) :
    ((2 ^ exq (k + 1) : Nat) : Int) ∣ (m : Int) * ((i * ((2 + (18446744073709551616 - m * i % 18446744073709551616)) % 18446744073709551616) % 18446744073709551616 : Nat) : Int) - 1 := by
  match k, hk with
  | 0, _ => exact newton_step (c := 1) (g := 2 ^ 58) (by decide) (by decide) (by decide) h
  | 1, _ => exact newton_step (c := 1) (g := 2 ^ 52) (by decide) (by decide) (by decide) h
  | 2, _ => exact newton_step (c := 1) (g := 2 ^ 40) (by decide) (by decide) (by decide) h
  | 3, _ => exact newton_step (c := 1) (g := 2 ^ 16) (by decide) (by decide) (by decide) h
  | 4, _ => exact newton_step (c := 2 ^ 32) (g := 1) (by decide) (by decide) (by decide) h

theorem minv64 {i : Nat} (hi : i < 18446744073709551616) (h : ((18446744073709551616 : Nat) : Int) ∣ (m : Int) * i - 1) : minv 18446744073709551616 m = i := by
  apply minv_eq hi
  have := modeq_of_dvd (a := m * i) (b := 1) (by exact_mod_cast h)
  rw [this]

theorem back_ok {i : Nat} (hi : i < 18446744073709551616) (h : ((18446744073709551616 : Nat) : Int) ∣ (m : Int) * i - 1) : (m * (18446744073709551616 - i) + 1) % 18446744073709551616 = 0 := by
  obtain ⟨k, hk⟩ := h
  apply Nat.mod_eq_zero_of_dvd
  have : ((18446744073709551616 : Nat) : Int) ∣ ((m * (18446744073709551616 - i) + 1 : Nat) : Int) := by
    refine ⟨m - k, ?_⟩
    have e : ((m * (18446744073709551616 - i) + 1 : Nat) : Int) = m * (((18446744073709551616 : Nat) : Int) - i) + 1 := by
      rw [Int.natCast_add, Int.natCast_mul, Int.natCast_sub (by omega)]
      rfl
    rw [e]
    generalize ((18446744073709551616 : Nat) : Int) = W at hk ⊢
    grind
  exact Int.natCast_dvd_natCast.mp this

theorem New_spec (hm : MayM m) : CallSpec Tryz.pr.P Tryz.pr.G 49 [u64 m] (.tup 2 (two (newF m) (i64 0))) := by
  have hm2 := hm.2
  have hm1 := hm.1
  refine callSpec_of Tryz.pr Tryz.func49 rfl rfl rfl fun w0 ok0 hok hG => ?_
  refine ev_rs [] rfl trivial ?_
  refine ev_seq (ev_rs [] rfl ⟨⟨fun _ => rfl, gd_f⟩, by simp⟩ (ev_cf ?_ (ev_sk ?_)))
  · refine congrArg (fun b => AV.p (.val (.bool b))) (a₁ := bif decide ((m : Int) < 2) then true else decide ((m : Int) ≥ 9223372036854775808)) (a₂ := false) ?_
    rw [decide_eq_false (by omega : ¬ (m : Int) < 2)]
    exact decide_eq_false (by omega)
  refine ev_rs [] rfl trivial ?_
  refine ev_at (α := Unit) (fun _ => True) (fun _ => [(4, .oat 15 0)]) (fun _ => [(15, ob3 (u64 m) (u64 (bk m)) (u64 (tw m)))]) ?_ ?_
  · refine ev_rs [] rfl trivial (ev_cond rfl (fun h => ?_) (fun h => ?_))
    · have h' := beq_iff_eq.mp h
      rw [and1 m (by omega)] at h'
      have ho : m % 2 = 1 := Int.ofNat_inj.mp h'
      refine ev_rs [] rfl trivial ?_
      refine ev_at (α := Nat) (fun i => i < 18446744073709551616 ∧ ((18446744073709551616 : Nat) : Int) ∣ (m : Int) * i - 1) (fun i => [(0, .p (u64 m)), (4, .oat 15 0), (5, .p (u64 i))]) (fun _ => [(15, ob3 (u64 m) (u64 0) (u64 0))]) ?_ ?_
      · refine ev_rs [] rfl trivial ?_
        refine ev_block (ev_while (α := Nat × Nat) (fun p => p.1 ≤ 5 ∧ p.2 < 18446744073709551616 ∧ ((2 ^ exq p.1 : Nat) : Int) ∣ (m : Int) * p.2 - 1)
          (fun p => [(0, .p (u64 m)), (4, .oat 15 0), (5, .p (u64 p.2)), (20, .p (i64 p.1))]) (fun _ => [(15, ob3 (u64 m) (u64 0) (u64 0))]) (fun p => 5 - p.1) (0, m) ⟨Nat.zero_le _, by dsimp only; omega, odd_sq ho⟩
          (wk1 _ rfl (Nat.le_refl _) (fun hd => cells3 (le_refl hd _) (le_refl hd _) (le_refl hd _)) (fun hd => ⟨le_refl hd _, le_a rfl, le_refl hd _, le_refl hd _, trivial⟩)) ?_)
        rintro ⟨k, i⟩ ⟨h1, h2, h3⟩
        dsimp only at h1 h2 h3
        refine ev_rs [] rfl trivial (ev_seq (ev_cond rfl (fun h => ev_sk ?_) (fun h => ev_exit ?_)))
        · have hk : k < 5 := Int.ofNat_lt.mp (of_decide_eq_true h)
          refine ev_seq (ev_block (ev_region [] rfl trivial ?_))
          refine ev_region [] rfl trivial ⟨(k + 1, i * ((2 + (18446744073709551616 - m * i % 18446744073709551616)) % 18446744073709551616) % 18446744073709551616), ⟨by dsimp only; omega, Nat.mod_lt _ (by decide), exq_step hk h3⟩, by dsimp only; omega,
            wk1 _ rfl (Nat.le_refl _) (fun hd j hj => le_refl hd _) (fun hd => ⟨le_refl hd _, le_a rfl, le_n hd (congrArg (fun z => PV.val (.int .u64 z)) ?_), le_n hd (congrArg (fun z => PV.val (.int .i64 z)) ?_), trivial⟩)⟩
          · show IntKind.wrap .u64 ((i : Int) * IntKind.wrap .u64 (((2 : Nat) : Int) - IntKind.wrap .u64 ((m : Int) * (i : Int)))) = _
            rw [wrapMul, wrapSub' _ _ (Nat.le_of_lt (Nat.mod_lt _ (by decide))), wrapMul]
          · exact wrapI _ (by dsimp only; omega) (by dsimp only; omega)
        · have hk : k = 5 := by
            have := of_decide_eq_false h
            dsimp only at this
            omega
          subst hk
          exact at1 i ⟨h2, h3⟩ _ rfl (Nat.le_refl _) (fun hd j hj => le_refl hd _) (fun hd => ⟨le_refl hd _, le_a rfl, le_refl hd _, trivial⟩)
      rintro i ⟨hi, hd⟩
      have hmi := minv64 hi hd
      have hi0 : 0 < i := by
        rcases Nat.eq_zero_or_pos i with h0 | h0
        · subst h0
          obtain ⟨k, hk⟩ := hd
          omega
        · exact h0
      have hbk : bk m = 18446744073709551616 - i := by unfold bk; rw [if_pos ho, hmi]
      refine ev_rs [] rfl ⟨leb rfl, trivial⟩ ?_
      refine ev_rs [] rfl ⟨by omega, trivial⟩ (ev_n 6 (18446744073709551616 % m) rfl ?_ ?_)
      · have e : IntKind.wrap .u64 (0 - (m : Int)) = ((18446744073709551616 - m : Nat) : Int) := by rw [wrap64]; omega
        rw [e, tmodN]
        have e2 : 18446744073709551616 = (18446744073709551616 - m) + m := by omega
        exact toN (by conv => rhs; rw [e2, Nat.add_mod_right])
      refine ev_region [u64 (tw m)] rfl ⟨leb rfl, ⟨⟨trivial, trivial⟩, .inl ?_⟩, trivial⟩ ?_
      · have hs := Mul_spec (b := bk m) (t := 0) hm (18446744073709551616 % m) (18446744073709551616 % m)
        have ht : 18446744073709551616 % m * (18446744073709551616 % m) % m = tw m := by
          unfold tw; rw [if_pos ho, ← Nat.mul_mod]
        rw [ht] at hs
        refine callSpec_args (as' := [fld m (bk m) 0, u64 (18446744073709551616 % m), u64 (18446744073709551616 % m)]) ⟨PLe.ptr (fun j hj => ?_), PLe.refl _, PLe.refl _, trivial⟩ hs
        match j, hj with
        | 0, _ => exact PLe.refl _
        | 1, _ =>
          refine PLe.of_eq (congrArg (fun z => PV.val (.int .u64 z)) (a₁ := IntKind.wrap .u64 (0 - (i : Int))) ?_)
          rw [wrap64, hbk]; omega
        | 2, _ => exact PLe.refl _
      · refine at1 () trivial _ rfl (Nat.le_refl _) (fun hd => cells3 (le_refl hd _) (le_n hd (congrArg (fun z => PV.val (.int .u64 z)) (a₁ := IntKind.wrap .u64 (0 - (i : Int))) ?_)) (le_refl hd _)) (fun hd => ⟨le_a rfl, trivial⟩)
        rw [wrap64, hbk]; omega
    · have h' := beq_eq_false_iff_ne.mp h
      rw [and1 m (by omega)] at h'
      have ho : ¬ m % 2 = 1 := fun e => h' (Int.ofNat_inj.mpr e)
      have hb : bk m = 0 := if_neg ho
      have ht : tw m = 0 := if_neg ho
      exact ev_skip (at1 () trivial _ rfl (Nat.le_refl _) (fun hd => cells3 (le_refl hd _) (le_n hd (by rw [hb]; rfl)) (le_n hd (by rw [ht]; rfl))) (fun hd => ⟨le_a rfl, trivial⟩))
  · rintro ⟨⟩ -
    refine ev_rs [] rfl trivial ?_
    refine ev_ret (ret2 (fz_oat rfl (Nat.le_refl _) (fun j hj => fz_p (PLe.refl _))) (fz_p (PLe.refl _)))

end
end Go.Proofs

/- The test of primes. -/
set_option linter.unusedVariables false
namespace Go.Proofs
open Go Vinc Vinc.Num

theorem and_neg64 (k j : Nat) (h : 2 ^ k * (2 * j + 1) < 18446744073709551616) :
    bitI .and .u64 ((2 ^ k * (2 * j + 1) : Nat) : Int) (((18446744073709551616 - 2 ^ k * (2 * j + 1) : Nat)) : Int) = ((2 ^ k : Nat) : Int) := by
  have h1 := and_neg k j 64 h
  have hp := Nat.two_pow_pos k
  have hle : 2 ^ k * 1 ≤ 2 ^ k * (2 * j + 1) := Nat.mul_le_mul_left _ (by omega)
  generalize 2 ^ k * (2 * j + 1) = x at h h1 hle ⊢
  show IntKind.wrap .u64 (((BitVec.ofInt 64 (x : Int) &&& BitVec.ofInt 64 ((18446744073709551616 - x : Nat) : Int)).toNat : Nat) : Int) = _
  rw [BitVec.toNat_and, BitVec.ofInt_natCast, BitVec.ofInt_natCast, BitVec.toNat_ofNat, BitVec.toNat_ofNat, Nat.mod_eq_of_lt (by omega : x < 2 ^ 64), Nat.mod_eq_of_lt (by omega : 18446744073709551616 - x < 2 ^ 64)]
  have h2 : x &&& (18446744073709551616 - x) = 2 ^ k := h1
  rw [h2, wrapN, Nat.mod_eq_of_lt (by omega)]

theorem TrailingZeros64_spec (k j : Nat) (hx : 2 ^ k * (2 * j + 1) < 18446744073709551616) : CallSpec Tryz.pr.P Tryz.pr.G 62 [u64 (2 ^ k * (2 * j + 1))] (i64 k) := by
  have hp := Nat.two_pow_pos k
  have hle : 2 ^ k * 1 ≤ 2 ^ k * (2 * j + 1) := Nat.mul_le_mul_left _ (by omega)
  have han := and_neg64 k j hx
  have hk : k < 64 := by
    by_cases h : k < 64
    · exact h
    · have h2 : 2 ^ 64 ≤ 2 ^ k := Nat.pow_le_pow_right (by omega) (by omega)
      omega
  obtain ⟨ht, hi⟩ := tab64_at k hk
  obtain ⟨x, ex⟩ : ∃ x, 2 ^ k * (2 * j + 1) = x := ⟨_, rfl⟩
  rw [ex] at hx hle han ⊢
  obtain ⟨q, eq⟩ : ∃ q, 2 ^ k * 285870213051353865 % 18446744073709551616 / 2 ^ 58 = q := ⟨_, rfl⟩
  rw [eq] at ht hi
  have hidx : (IntKind.wrap .u64 (bitI .and .u64 (x : Int) (IntKind.wrap .u64 (0 - (x : Int))) * 285870213051353865)).fdiv (2 ^ (min (Int.toNat 58) (IntKind.bits .u64))) = (q : Int) := by
    have e1 : IntKind.wrap .u64 (0 - (x : Int)) = ((18446744073709551616 - x : Nat) : Int) := by rw [wrap64]; omega
    have e2 : (285870213051353865 : Int) = ((285870213051353865 : Nat) : Int) := rfl
    rw [e1, han, e2, wrapMul]
    exact (shrN _ 58 (by decide)).trans (by rw [eq])
  refine callSpec_of Tryz.pr Tryz.func62 rfl rfl rfl fun w0 ok0 hok hG => ?_
  refine ev_rs [] rfl trivial ?_
  refine ev_seq (ev_rs [] rfl trivial (ev_cond rfl (fun h => absurd h (by simp; omega)) (fun _ => ev_sk ?_)))
  refine ev_rs [] rfl ?_ ?_
  · exact ⟨by rw [hidx]; exact hi, by rw [hidx]; omega, by decide, trivial⟩
  refine ev_ret (ret1 (fz_p (PLe.of_eq (congrArg (fun z => PV.val (.int .i64 z)) ?_))))
  rw [hidx]
  show IntKind.wrap .i64 ((tab64.getD q 0 : Nat) : Int) = _
  rw [ht]
  exact wrapI _ (by omega) (by omega)

theorem primeMul_spec (x y n : Nat) (hx : x < 18446744073709551616) (hy : y < 18446744073709551616) (hn : n ≠ 0) (hn' : n < 18446744073709551616) :
    CallSpec Tryz.pr.P Tryz.pr.G 63 [u64 x, u64 y, u64 n] (u64 (x * y % n)) := by
  refine callSpec_of Tryz.pr Tryz.func63 rfl rfl rfl fun w0 ok0 hok hG => ?_
  refine ev_rs [] rfl trivial ?_
  refine ev_rs [.tup 2 (two (u64 (x * y / 18446744073709551616)) (u64 (x * y % 18446744073709551616)))] rfl ⟨.inl (Mul64_spec x y hx hy), trivial⟩ ?_
  refine ev_rs [u64 (x * y % n)] rfl ⟨.inl ?_, trivial⟩ ?_
  · have h := Rem64_spec (x * y / 18446744073709551616) (x * y % 18446744073709551616) n hn (Nat.mod_lt _ (by decide)) hn'
    rw [Nat.mul_comm (_ / _), Nat.div_add_mod] at h
    exact h
  exact ev_ret (ret1 (fz_p (PLe.refl _)))

/-- The bases, as the test has them. -/
abbrev basesV : PV := .agg 12 (fun j => u64 (bases.getD j 0))

theorem bases_spec : CallSpec Tryz.pr.P Tryz.pr.G 55 [] basesV := by
  refine callSpec_of Tryz.pr Tryz.func55 rfl rfl rfl fun w0 ok0 hok hG => ?_
  refine ev_rs [] rfl trivial ?_
  refine ev_rs [] rfl ⟨leb rfl, trivial⟩ ?_
  refine ev_ret (ret_cell' (n := 12) (id := 0) rfl rfl rfl rfl rfl (leb rfl) (fun j hj => ?_))
  match j, hj with
  | 0, _ | 1, _ | 2, _ | 3, _ | 4, _ | 5, _ | 6, _ | 7, _ | 8, _ | 9, _ | 10, _ | 11, _ => exact fz_p (PLe.refl _)

theorem strong_spec (n b : Nat) (hn : 2 ≤ n) (hn64 : n < 18446744073709551616) (hb : b < 18446744073709551616) : CallSpec Tryz.pr.P Tryz.pr.G 56 [u64 n, u64 b] (bool (strongB n b)) := by
  have hn0 : n ≠ 0 := by omega
  have hnp : 0 < n := by omega
  obtain ⟨k, j, e⟩ := exists_tz (n - 1) (by omega)
  have hp := Nat.two_pow_pos k
  have hle : 2 ^ k * 1 ≤ 2 ^ k * (2 * j + 1) := Nat.mul_le_mul_left _ (by omega)
  have hk : k < 64 := by
    by_cases h : k < 64
    · exact h
    · have h2 : 2 ^ 64 ≤ 2 ^ k := Nat.pow_le_pow_right (by omega) (by omega)
      omega
  have ht : tz (n - 1) = k := by unfold tz; rw [e]; exact tzF_eq 64 k j hk
  have hd : (n - 1) / 2 ^ k = 2 * j + 1 := by rw [e]; exact Nat.mul_div_cancel_left _ hp
  have hT := TrailingZeros64_spec k j (by omega)
  have hd64 : 2 * j + 1 < 18446744073709551616 := by rw [← hd]; exact Nat.lt_of_le_of_lt (Nat.div_le_self _ _) (by omega)
  have hS : strongB n b = bif Nat.beq (b ^ (2 * j + 1) % n) 1 then true else sqs n (b ^ (2 * j + 1) % n) k := by
    unfold strongB
    rw [ht, hd, pw64_eq hn hd64]
  have hw1 : IntKind.wrap .u64 ((n : Int) - 1) = ((n - 1 : Nat) : Int) := wrapSub n 1 (by omega) (by omega)
  have hwk : IntKind.wrap .u64 (k : Int) = (k : Int) := by rw [wrapN, Nat.mod_eq_of_lt (by omega)]
  rw [← e] at hT
  rw [hS]
  refine callSpec_of Tryz.pr Tryz.func56 rfl rfl rfl fun w0 ok0 hok hG => ?_
  refine ev_rs [] rfl trivial ?_
  refine ev_rs [i64 k] rfl ⟨.inl (by rw [hw1]; exact hT), trivial⟩ ?_
  refine ev_ds [] (by kernel_rfl) rfl rfl ⟨by simpa using hn0, trivial⟩ ?_
  refine ev_at (α := Unit) (fun _ => True) (fun _ => [(0, .p (u64 n)), (5, .p (i64 k)), (6, .p (u64 (b ^ (2 * j + 1) % n)))]) (fun _ => []) ?_ ?_
  · refine ev_rs [] rfl ⟨by rw [hwk]; omega, trivial⟩ (ev_n 8 (2 * j + 1) rfl (by rw [hw1, hwk]; exact (shrN _ k (by omega)).trans (by rw [hd])) ?_)
    refine ev_block (ev_while0 (α := Nat × Nat × Nat) (fun p => p.1 < n ∧ p.2.1 < n ∧ p.1 * p.2.1 ^ p.2.2 % n = b ^ (2 * j + 1) % n ∧ p.2.2 < 18446744073709551616)
      (fun p => [(0, .p (u64 n)), (5, .p (i64 k)), (6, .p (u64 p.1)), (7, .p (u64 p.2.1)), (8, .p (u64 p.2.2))]) (fun p => p.2.2) (1, b % n, 2 * j + 1)
      ⟨hn, Nat.mod_lt _ hnp, by dsimp only; rw [Nat.one_mul, ← Nat.pow_mod], hd64⟩ ⟨le_0, le_0, le_0, le_0, le_0, trivial⟩ ?_)
    rintro ⟨o, a, x⟩ ⟨h1, h2, h3, h4⟩
    dsimp only at h1 h2 h3 h4
    refine ev_seq (ev_rs [] rfl trivial (ev_cond rfl (fun h => ev_sk ?_) (fun h => ev_exit ?_)))
    · have hx : 0 < x := Int.ofNat_lt.mp (of_decide_eq_true h)
      refine ev_seq (ev_block ?_)
      refine ev_at (α := Unit) (fun _ => True) (fun _ => [(0, .p (u64 n)), (5, .p (i64 k)), (6, .p (u64 (if x % 2 = 1 then o * a % n else o))), (7, .p (u64 a)), (8, .p (u64 x))]) (fun _ => []) ?_ ?_
      · refine ev_rs [] rfl trivial (ev_cond rfl (fun h => ?_) (fun h => ?_))
        · have hx1 : x % 2 = 1 := by
            have := beq_iff_eq.mp h
            rw [and1 x h4] at this
            exact Int.ofNat_inj.mp this
          refine ev_region [u64 (o * a % n)] rfl ⟨.inl (primeMul_spec o a n (by omega) (by omega) hn0 hn64), trivial⟩ (at0 () trivial ⟨le_0, le_0, le_e (congrArg u64 ?_), le_0, le_0, trivial⟩)
          rw [if_pos hx1]
        · have hx1 : ¬ x % 2 = 1 := fun e => by
            have := beq_eq_false_iff_ne.mp h
            rw [and1 x h4] at this
            exact this (Int.ofNat_inj.mpr e)
          refine ev_skip (at0 () trivial ⟨le_0, le_0, le_e (congrArg u64 ?_), le_0, le_0, trivial⟩)
          rw [if_neg hx1]
      rintro ⟨⟩ -
      refine ev_region [u64 (a * a % n)] rfl ⟨.inl (primeMul_spec a a n (by omega) (by omega) hn0 hn64), trivial⟩ ?_
      refine ev_region [] rfl ⟨by decide, trivial⟩ (round0 (if x % 2 = 1 then o * a % n else o, a * a % n, x / 2) ⟨?_, Nat.mod_lt _ hnp, (pw_step o a x n).trans h3, by dsimp only; omega⟩ (by dsimp only; omega)
        ⟨le_0, le_0, le_0, le_0, le_e (congrArg (fun z => PV.val (.int .u64 z)) (shr1 x)), trivial⟩)
      dsimp only
      split
      · exact Nat.mod_lt _ hnp
      · exact h1
    · have hx : x = 0 := by
        have := of_decide_eq_false h
        dsimp only at this
        omega
      refine at0 () trivial ⟨le_0, le_0, le_e (congrArg u64 ?_), trivial⟩
      rw [hx, Nat.pow_zero, Nat.mul_one, Nat.mod_eq_of_lt h1] at h3
      exact h3
  rintro ⟨⟩ -
  have hx0 : b ^ (2 * j + 1) % n < n := Nat.mod_lt _ hnp
  generalize b ^ (2 * j + 1) % n = x0 at hx0
  refine ev_seq (ev_rs [] rfl trivial (ev_cond rfl (fun h => ?_) (fun h => ev_sk ?_)))
  · have h1 : x0 = 1 := Int.ofNat_inj.mp (beq_iff_eq.mp h)
    refine ev_rs [] rfl trivial (ev_ret (ret1 (fz_p (PLe.of_eq (congrArg Vinc.bool ?_)))))
    rw [h1]; rfl
  have h1 : ¬ x0 = 1 := fun e => (beq_eq_false_iff_ne.mp h) (Int.ofNat_inj.mpr e)
  have h2 : Nat.beq x0 1 = false := by
    cases hb : Nat.beq x0 1
    · rfl
    · exact absurd (Nat.eq_of_beq_eq_true hb) h1
  rw [h2]
  refine ev_at (α := Unit) (fun _ => sqs n x0 k = false) (fun _ => []) (fun _ => []) ?_ ?_
  · refine ev_rs [] rfl trivial ?_
    refine ev_block (ev_while0 (α := Nat × Nat) (fun p => p.1 ≤ k ∧ p.2 < n ∧ sqs n x0 k = sqs n p.2 (k - p.1)) (fun p => [(0, .p (u64 n)), (6, .p (u64 p.2)), (37, .p (i64 k)), (38, .p (i64 p.1))]) (fun p => k - p.1) (0, x0)
      ⟨Nat.zero_le _, hx0, rfl⟩ ⟨le_0, le_0, le_0, le_0, trivial⟩ ?_)
    rintro ⟨i, x⟩ ⟨h3, h4, h5⟩
    dsimp only at h3 h4 h5
    refine ev_rs [] rfl trivial (ev_seq (ev_cond rfl (fun h => ev_sk ?_) (fun h => ev_exit ?_)))
    · have hi : i < k := Int.ofNat_lt.mp (of_decide_eq_true h)
      obtain ⟨t, et⟩ : ∃ t, k - i = t + 1 := ⟨k - i - 1, by omega⟩
      rw [et, show sqs n x (t + 1) = bif Nat.beq x (n - 1) then true else sqs n (x * x % n) t from rfl] at h5
      refine ev_seq (ev_block ?_)
      refine ev_seq (ev_rs [] rfl trivial (ev_cond rfl (fun h => ?_) (fun h => ev_sk ?_)))
      · have h' := beq_iff_eq.mp h
        rw [hw1] at h'
        have hx : x = n - 1 := Int.ofNat_inj.mp h'
        refine ev_rs [] rfl trivial (ev_ret (ret1 (fz_p (PLe.of_eq (congrArg Vinc.bool ?_)))))
        rw [hx, Nat.beq_refl] at h5
        exact h5.symm
      · have h' := beq_eq_false_iff_ne.mp h
        rw [hw1] at h'
        have hx : Nat.beq x (n - 1) = false := by
          cases hb : Nat.beq x (n - 1)
          · rfl
          · exact absurd (Int.ofNat_inj.mpr (Nat.eq_of_beq_eq_true hb)) h'
        rw [hx] at h5
        refine ev_region [u64 (x * x % n)] rfl ⟨.inl (primeMul_spec x x n (by omega) (by omega) hn0 hn64), trivial⟩ ?_
        refine ev_region [] rfl trivial (round0 (i + 1, x * x % n) ⟨hi, Nat.mod_lt _ hnp, ?_⟩ (by dsimp only; omega) ⟨le_0, le_0, le_0, le_e (congrArg (fun z => PV.val (.int .i64 z)) (wrapI _ (by dsimp only; omega) (by dsimp only; omega))), trivial⟩)
        dsimp only
        rw [show k - (i + 1) = t by omega]
        exact h5
    · have hi : k - i = 0 := by
        have := of_decide_eq_false h
        dsimp only at this
        omega
      rw [hi] at h5
      exact at0 () h5 trivial
  rintro ⟨⟩ h3
  refine ev_rs [] rfl trivial (ev_ret (ret1 (fz_p (PLe.of_eq (congrArg Vinc.bool ?_)))))
  rw [h3]; rfl

theorem bases_drop : ∀ i, i < 12 → bases.drop i = bases.getD i 0 :: bases.drop (i + 1) := by decide

theorem bases_lt : ∀ i, i < 12 → 2 ≤ bases.getD i 0 ∧ bases.getD i 0 < 38 := by decide

theorem beq_cast (a b : Nat) : ((a : Int) == (b : Int)) = Nat.beq a b := by
  cases h : Nat.beq a b
  · exact beq_eq_false_iff_ne.mpr fun e => Nat.ne_of_beq_eq_false h (Int.ofNat_inj.mp e)
  · exact beq_iff_eq.mpr (Int.ofNat_inj.mpr (Nat.eq_of_beq_eq_true h))

theorem Is_spec (n : Nat) (hn64 : n < 18446744073709551616) : CallSpec Tryz.pr.P Tryz.pr.G 48 [u64 n] (bool (isB n)) := by
  refine callSpec_of Tryz.pr Tryz.func48 rfl rfl rfl fun w0 ok0 hok hG => ?_
  refine ev_rs [] rfl trivial ?_
  refine ev_seq (ev_rs [] rfl trivial (ev_cond rfl (fun h => ?_) (fun h => ev_sk ?_)))
  · have hn : n < 2 := Int.ofNat_lt.mp (of_decide_eq_true h)
    have hb : isB n = false := by
      unfold isB
      rw [Nat.blt_eq.mpr hn]; rfl
    rw [hb]
    exact ev_rs [] rfl trivial (ev_ret (ret1 (fz_p (PLe.refl _))))
  have hn : 2 ≤ n := by
    have := of_decide_eq_false h
    omega
  have hlt : Nat.blt n 2 = false := by
    cases hb : Nat.blt n 2
    · rfl
    · have := Nat.blt_eq.mp hb
      omega
  have hI : isB n = match divB n bases with
    | some r => r
    | none => strongs n bases := by
    unfold isB
    rw [hlt]; rfl
  rw [hI]
  refine ev_at (α := Unit) (fun _ => divB n bases = none) (fun _ => [(0, .p (u64 n))]) (fun _ => []) ?_ ?_
  · refine ev_rs [basesV] rfl ⟨.inl bases_spec, trivial⟩ ?_
    refine ev_block (ev_while0 (α := Nat) (fun i => i ≤ 12 ∧ divB n bases = divB n (bases.drop i)) (fun i => [(0, .p (u64 n)), (9, .p basesV), (10, .p (i64 i))]) (fun i => 12 - i) 0
      ⟨by decide, rfl⟩ ⟨le_0, le_0, le_0, trivial⟩ ?_)
    rintro i ⟨h1, h2⟩
    refine ev_rs [] rfl trivial (ev_seq (ev_cond rfl (fun h => ev_sk ?_) (fun h => ev_exit ?_)))
    · have hi : i < 12 := Int.ofNat_lt.mp (of_decide_eq_true h)
      obtain ⟨hb1, hb2⟩ := bases_lt i hi
      have hb0 : (bases.getD i 0 : Int) ≠ 0 := by omega
      rw [bases_drop i hi, show divB n (bases.getD i 0 :: bases.drop (i + 1)) = bif Nat.beq (n % bases.getD i 0) 0 then some (Nat.beq n (bases.getD i 0)) else divB n (bases.drop (i + 1)) from rfl] at h2
      refine ev_seq (ev_block ?_)
      refine ev_rs [] rfl ⟨⟨⟨by omega, by omega⟩, hi⟩, trivial⟩ ?_
      refine ev_rs [] rfl ⟨hb0, trivial⟩ (ev_cond rfl (fun h => ?_) (fun h => ev_skip ?_))
      · have hd : n % bases.getD i 0 = 0 := Int.ofNat_inj.mp (beq_iff_eq.mp h)
        rw [hd] at h2
        rw [h2]
        refine ev_rs [] rfl trivial (ev_ret (ret1 (fz_p (PLe.of_eq (congrArg Vinc.bool ?_)))))
        exact beq_cast n _
      · have hd : Nat.beq (n % bases.getD i 0) 0 = false := by
          cases hb : Nat.beq (n % bases.getD i 0) 0
          · rfl
          · exact absurd (Int.ofNat_inj.mpr (Nat.eq_of_beq_eq_true hb)) (beq_eq_false_iff_ne.mp h)
        rw [hd] at h2
        exact ev_region [] rfl trivial (round0 (i + 1) ⟨hi, h2⟩ (by omega) ⟨le_0, le_0, le_e (congrArg (fun z => PV.val (.int .i64 z)) (wrapI _ (by omega) (by omega))), trivial⟩)
    · have hi : i = 12 := by
        have := of_decide_eq_false h
        omega
      subst hi
      exact at0 () h2 ⟨le_0, trivial⟩
  rintro ⟨⟩ hdn
  rw [hdn]
  refine ev_at (α := Unit) (fun _ => strongs n bases = true) (fun _ => []) (fun _ => []) ?_ ?_
  · refine ev_rs [basesV] rfl ⟨.inl bases_spec, trivial⟩ ?_
    refine ev_block (ev_while0 (α := Nat) (fun i => i ≤ 12 ∧ strongs n bases = strongs n (bases.drop i)) (fun i => [(0, .p (u64 n)), (21, .p basesV), (22, .p (i64 i))]) (fun i => 12 - i) 0
      ⟨by decide, rfl⟩ ⟨le_0, le_0, le_0, trivial⟩ ?_)
    rintro i ⟨h1, h2⟩
    refine ev_rs [] rfl trivial (ev_seq (ev_cond rfl (fun h => ev_sk ?_) (fun h => ev_exit ?_)))
    · have hi : i < 12 := Int.ofNat_lt.mp (of_decide_eq_true h)
      obtain ⟨hb1, hb2⟩ := bases_lt i hi
      rw [bases_drop i hi, show strongs n (bases.getD i 0 :: bases.drop (i + 1)) = bif strongB n (bases.getD i 0) then strongs n (bases.drop (i + 1)) else false from rfl] at h2
      refine ev_seq (ev_block ?_)
      refine ev_rs [] rfl ⟨⟨⟨by omega, by omega⟩, hi⟩, trivial⟩ ?_
      refine ev_rs [bool (strongB n (bases.getD i 0))] rfl ⟨.inl (strong_spec n _ hn hn64 (Nat.lt_trans hb2 (by decide))), trivial⟩ (ev_cond rfl (fun h => ?_) (fun h => ev_skip ?_))
      · rw [Bool.not_eq_true'] at h
        rw [h] at h2
        rw [h2]
        exact ev_rs [] rfl trivial (ev_ret (ret1 (fz_p (PLe.refl _))))
      · have h' : strongB n (bases.getD i 0) = true := by simpa using h
        rw [h'] at h2
        exact ev_region [] rfl trivial (round0 (i + 1) ⟨hi, h2⟩ (by omega) ⟨le_0, le_0, le_e (congrArg (fun z => PV.val (.int .i64 z)) (wrapI _ (by omega) (by omega))), trivial⟩)
    · have hi : i = 12 := by
        have := of_decide_eq_false h
        omega
      subst hi
      exact at0 () h2 trivial
  rintro ⟨⟩ hs
  rw [hs]
  exact ev_rs [] rfl trivial (ev_ret (ret1 (fz_p (PLe.refl _))))

/-- The primes that are asked. -/
def Asked (p : Nat) : Prop := p = 998244353 ∨ p = 9223372036854775783 ∨ p = 2305843009213693951 ∨ (p ≤ 100000 ∧ IsPrime p)

open Classical in
noncomputable def primeB (n : Nat) : Bool := decide (IsPrime n)

open Classical in
noncomputable def askedB (n : Nat) : Bool := decide (Asked n)

theorem primeB_f {n : Nat} (h : ¬ IsPrime n) : primeB n = false := by
  unfold primeB
  simp [h]

theorem primeB_t {n : Nat} (h : IsPrime n) : primeB n = true := by
  unfold primeB
  simp [h]

theorem askedB_f {n : Nat} (h : ¬ Asked n) : askedB n = false := by
  unfold askedB
  simp [h]

theorem askedB_t {n : Nat} (h : Asked n) : askedB n = true := by
  unfold askedB
  simp [h]

theorem asked_prime {p : Nat} (h : Asked p) : IsPrime p := by
  rcases h with rfl | rfl | rfl | h
  · exact great1
  · exact great3
  · exact great2
  · exact h.2

theorem asked_may {p : Nat} (h : Asked p) : MayM p := by
  have h1 := (asked_prime h).1
  refine ⟨h1, ?_⟩
  rcases h with rfl | rfl | rfl | h
  · decide
  · decide
  · decide
  · omega

theorem isB_asked {p : Nat} (h : Asked p) : isB p = true := isB_prime (asked_prime h) (by have := (asked_may h).2; omega)

/-- A small number that is not asked is told to be no prime. -/
theorem isB_not {p : Nat} (h : ¬ Asked p) (hp : p ≤ 100000) : isB p = false := by
  cases hb : isB p
  · rfl
  · exact absurd (.inr (.inr (.inr ⟨hp, isB_small hp hb⟩))) h

theorem RefIs_spec (n : Nat) (hn : n ≤ 100000) : CallSpec Tryz.pr.P Tryz.pr.G 50 [u64 n] (bool (primeB n)) := by
  refine callSpec_of Tryz.pr Tryz.func50 rfl rfl rfl fun w0 ok0 hok hG => ?_
  refine ev_rs [] rfl trivial ?_
  refine ev_seq (ev_rs [] rfl trivial (ev_cond rfl (fun h => ?_) (fun h => ev_sk ?_)))
  · have hn2 : n < 2 := Int.ofNat_lt.mp (of_decide_eq_true h)
    have hb : primeB n = false := primeB_f fun hp => by have := hp.1; omega
    rw [hb]
    exact ev_rs [] rfl trivial (ev_ret (ret1 (fz_p (PLe.refl _))))
  have hn2 : 2 ≤ n := by
    have := of_decide_eq_false h
    omega
  refine ev_at (α := Unit) (fun _ => IsPrime n) (fun _ => []) (fun _ => []) ?_ ?_
  · refine ev_rs [] rfl trivial ?_
    refine ev_block (ev_while0 (α := Nat) (fun d => 2 ≤ d ∧ d ≤ 100001 ∧ ∀ e, 2 ≤ e → e < d → ¬ e ∣ n) (fun d => [(0, .p (u64 n)), (3, .p (u64 d))]) (fun d => 100001 - d) 2
      ⟨by decide, by decide, fun e h1 h2 => by omega⟩ ⟨le_0, le_0, trivial⟩ ?_)
    rintro d ⟨h1, h2, h3⟩
    have hdd : d * d ≤ 100001 * 100001 := Nat.mul_le_mul h2 h2
    have hw : IntKind.wrap .u64 ((d : Int) * (d : Int)) = ((d * d : Nat) : Int) := by rw [wrapMul, Nat.mod_eq_of_lt (by omega)]
    have hd0 : (d : Int) ≠ 0 := by omega
    refine ev_seq (ev_rs [] rfl trivial (ev_cond rfl (fun h => ev_sk ?_) (fun h => ev_exit ?_)))
    · have h' := of_decide_eq_true h
      rw [hw] at h'
      have hle : d * d ≤ n := Int.ofNat_le.mp h'
      have hdn : d ≤ 100000 := by
        have : d * 1 ≤ d * d := Nat.mul_le_mul_left _ (by omega)
        omega
      refine ev_seq (ev_block ?_)
      refine ev_rs [] rfl ⟨hd0, trivial⟩ (ev_cond rfl (fun h => ?_) (fun h => ev_skip ?_))
      · have hd : n % d = 0 := Int.ofNat_inj.mp (beq_iff_eq.mp h)
        have hb : primeB n = false := primeB_f fun hp => by
          rcases hp.2 d (Nat.dvd_of_mod_eq_zero hd) with h4 | h4
          · omega
          · subst h4
            have : d * 2 ≤ d * d := Nat.mul_le_mul_left _ h1
            omega
        rw [hb]
        exact ev_rs [] rfl trivial (ev_ret (ret1 (fz_p (PLe.refl _))))
      · have hd : ¬ n % d = 0 := fun e => (beq_eq_false_iff_ne.mp h) (Int.ofNat_inj.mpr e)
        refine ev_region [] rfl trivial (round0 (d + 1) ⟨by omega, by omega, fun e h4 h5 => ?_⟩ (by omega) ⟨le_0, le_e (congrArg (fun z => PV.val (.int .u64 z)) ((wrapAdd d 1).trans (by rw [Nat.mod_eq_of_lt (by omega)]))), trivial⟩)
        rcases Nat.lt_or_ge e d with h6 | h6
        · exact h3 e h4 h6
        · rw [show e = d by omega]
          exact fun hdv => hd (Nat.mod_eq_zero_of_dvd hdv)
    · have h' := of_decide_eq_false h
      rw [hw] at h'
      have hgt : n < d * d := by
        rcases Nat.lt_or_ge n (d * d) with h4 | h4
        · exact h4
        · exact absurd (Int.ofNat_le.mpr h4) h'
      refine at0 () ?_ trivial
      obtain ⟨c, rfl⟩ : ∃ c, d = c + 1 := ⟨d - 1, by omega⟩
      refine prime_of_big hn2 hgt fun r hr hrn => ?_
      rcases Nat.lt_or_ge c r with h4 | h4
      · exact h4
      · exact absurd hrn (h3 r hr.1 (by omega))
  rintro ⟨⟩ hp
  have hb : primeB n = true := primeB_t hp
  rw [hb]
  exact ev_rs [] rfl trivial (ev_ret (ret1 (fz_p (PLe.refl _))))

theorem gd_a {a b : Bool} (h : a = true) (h' : b = true) : (a && (b == true)) = true := by rw [h, h']; rfl

theorem LawPrime_spec (p : Nat) : CallSpec Tryz.pr.P Tryz.pr.G 31 [u64 p] (bool (askedB p)) := by
  have key : (bif (bif (bif ((p : Int) == 998244353) then true else ((p : Int) == 9223372036854775783)) then true else ((p : Int) == 2305843009213693951)) then true else (bif decide ((p : Int) ≤ 100000) then primeB p else false)) = askedB p := by
    by_cases h1 : p = 998244353
    · subst h1; rw [askedB_t (.inl rfl)]; rfl
    by_cases h2 : p = 9223372036854775783
    · subst h2; rw [askedB_t (.inr (.inl rfl))]; rfl
    by_cases h3 : p = 2305843009213693951
    · subst h3; rw [askedB_t (.inr (.inr (.inl rfl)))]; rfl
    rw [beq_eq_false_iff_ne.mpr (by omega : (p : Int) ≠ 998244353), beq_eq_false_iff_ne.mpr (by omega : (p : Int) ≠ 9223372036854775783), beq_eq_false_iff_ne.mpr (by omega : (p : Int) ≠ 2305843009213693951)]
    simp only [cond_false]
    by_cases h4 : p ≤ 100000
    · rw [decide_eq_true (by omega : (p : Int) ≤ 100000)]
      simp only [cond_true]
      by_cases h5 : IsPrime p
      · rw [primeB_t h5, askedB_t (.inr (.inr (.inr ⟨h4, h5⟩)))]
      · rw [primeB_f h5, askedB_f]
        rintro (h | h | h | h)
        · exact h1 h
        · exact h2 h
        · exact h3 h
        · exact h5 h.2
    · rw [decide_eq_false (by omega : ¬ (p : Int) ≤ 100000), askedB_f]
      · rfl
      · rintro (h | h | h | h)
        · exact h1 h
        · exact h2 h
        · exact h3 h
        · exact h4 h.1
  refine callSpec_of Tryz.pr Tryz.func31 rfl rfl rfl fun w0 ok0 hok hG => ?_
  refine ev_rs [] rfl trivial ?_
  have hand : ∀ {a b : Bool}, (a && b) = true → a = true ∧ b = true := fun h => by simpa using h
  refine ev_rs [bool (primeB p)] rfl ?_ ?_
  · refine (by repeat' (first | exact trivial | exact gd_t | exact gd_f | exact .inl (RefIs_spec p (by have := of_decide_eq_true (beq_iff_eq.mp (hand (by assumption)).2); omega)) | exact (fun h => (hand h).1) | exact (fun h => (hand h).2) | exact gd_a (by assumption) (by assumption) | exact (fun _ => rfl) | intro _ | apply And.intro | assumption | exact rfl | exact gd_t (by assumption) | exact gd_f (by assumption) | exact gd_a (by assumption) (by assumption) | exact gd_b (by assumption) (by assumption)))
  · exact ev_ret (ret1 (fz_p (PLe.of_eq (congrArg Vinc.bool key))))

end Go.Proofs

/- The rows of recur, walked. -/
set_option linter.unusedVariables false
namespace Go.Proofs
open Go Vinc Vinc.Num

section
variable {m b t : Nat}

theorem Sb_spec (hm : MayM m) (x y : Nat) : CallSpec Tryz.pr.P Tryz.pr.G 47 [fld m b t, u64 x, u64 y] (u64 (sb x y m)) := Sub_spec hm x y

theorem Same_spec (xs ys : List Nat) (hl : xs.length < 1000000) (hl2 : ys.length < 1000000) : CallSpec Tryz.pr.P Tryz.pr.G 13 [u64s xs, u64s ys] (Vinc.bool (decide (xs = ys))) := by
  refine callSpec_of Tryz.pr Tryz.func13 rfl rfl rfl fun w0 ok0 hok hG => ?_
  refine ev_rs [] rfl trivial ?_
  refine ev_seq (ev_rs [] rfl trivial (ev_cond rfl (fun h => ?_) (fun h => ev_sk ?_)))
  · have hne : xs.length ≠ ys.length := fun e => (bne_iff_ne.mp h) (Int.ofNat_inj.mpr e)
    refine ev_rs [] rfl trivial (ev_ret (ret1 (fz_p (PLe.of_eq (congrArg Vinc.bool ?_)))))
    exact (decide_eq_false fun e => hne (congrArg _ e)).symm
  have hlen : xs.length = ys.length := Int.ofNat_inj.mp (bne_eq_false_iff_eq.mp h)
  refine ev_at (α := Unit) (fun _ => xs = ys) (fun _ => []) (fun _ => []) ?_ ?_
  · refine ev_rs [] rfl trivial ?_
    refine ev_block (ev_while0 (α := Nat) (fun i => i ≤ xs.length ∧ ∀ j, j < i → xs.getD j 0 = ys.getD j 0) (fun i => [(0, .p (u64s xs)), (1, .p (u64s ys)), (5, .p (i64 i))]) (fun i => xs.length - i) 0
      ⟨Nat.zero_le _, fun j h1 => by omega⟩ ⟨le_0, le_0, le_0, trivial⟩ ?_)
    rintro i ⟨h1, h3⟩
    refine ev_seq (ev_rs [] rfl trivial (ev_cond rfl (fun h => ev_sk ?_) (fun h => ev_exit ?_)))
    · have hi : i < xs.length := Int.ofNat_lt.mp (of_decide_eq_true h)
      refine ev_seq (ev_block ?_)
      refine ev_ds [] (by kernel_rfl) rfl rfl ⟨(hlen ▸ hi : i < ys.length), ⟨by omega, by omega⟩, hi, ⟨by omega, by omega⟩, trivial⟩ (ev_cond rfl (fun h => ?_) (fun h => ?_))
      · have hne : xs.getD i 0 ≠ ys.getD i 0 := fun e => (bne_iff_ne.mp h) (Int.ofNat_inj.mpr e)
        refine ev_rs [] rfl trivial (ev_ret (ret1 (fz_p (PLe.of_eq (congrArg Vinc.bool ?_)))))
        exact (decide_eq_false fun e => hne (by rw [e])).symm
      · have heq : xs.getD i 0 = ys.getD i 0 := Int.ofNat_inj.mp (bne_eq_false_iff_eq.mp h)
        refine ev_skip ?_
        refine ev_region [] rfl trivial (round0 (i + 1) ⟨hi, fun j h4 => ?_⟩ (by omega) ⟨le_0, le_0, le_e (congrArg (fun z => PV.val (.int .i64 z)) (wrapI _ (by omega) (by omega))), trivial⟩)
        rcases Nat.lt_or_ge j i with hj | hj
        · exact h3 j hj
        · rw [show j = i by omega]; exact heq
    · have hi : i = xs.length := by
        have := of_decide_eq_false h
        omega
      subst hi
      exact at0 () (list_eq hlen h3) trivial
  rintro ⟨⟩ h
  refine ev_rs [] rfl trivial (ev_ret (ret1 (fz_p (PLe.of_eq (congrArg Vinc.bool ?_)))))
  exact (decide_eq_true h).symm

end
end Go.Proofs

/- The search for a rule, walked. -/
set_option linter.unusedVariables false
namespace Go.Proofs
open Go Vinc Vinc.Num

end Go.Proofs

/- Polynomials over a field of words, walked: what powers modulo a polynomial need. -/
set_option linter.unusedVariables false
namespace Go.Proofs
open Go Vinc Vinc.Num

/-- A field of polynomials. -/
noncomputable abbrev polyF (p : Nat) : PV := .ptr 1 (fun _ => newF p) 0

theorem UNew_no {p : Nat} (hp : p < 18446744073709551616) (h : ¬ (p < 9223372036854775808 ∧ isB p = true)) : CallSpec Tryz.pr.P Tryz.pr.G 30 [u64 p] (.tup 2 (two nilP (i64 14))) := by
  refine callSpec_of Tryz.pr Tryz.func30 rfl rfl rfl fun w0 ok0 hok hG => ?_
  refine ev_rs [] rfl trivial ?_
  refine ev_seq (ev_rs [Vinc.bool (isB p)] rfl (by repeat' (first | exact trivial | exact gd_t | exact gd_f | exact .inl (Is_spec p hp) | exact (fun _ => rfl) | intro _ | apply And.intro | assumption | exact rfl | exact gd_t (by assumption) | exact gd_f (by assumption) | exact gd_a (by assumption) (by assumption) | exact gd_b (by assumption) (by assumption))) (ev_cond rfl (fun _ => ?_) (fun h2 => ?_)))
  · exact ev_rs [] rfl trivial (ev_ret (ret2 (fz_p (PLe.refl _)) (fz_p (PLe.refl _))))
  · exfalso
    apply h
    by_cases hq : p < 9223372036854775808
    · refine ⟨hq, ?_⟩
      rw [decide_eq_false (by omega)] at h2
      cases hb : isB p
      · rw [hb] at h2; cases h2
      · rfl
    · rw [decide_eq_true (by omega)] at h2
      cases h2

theorem UNew_ok {p : Nat} (hm : MayM p) (hb : isB p = true) : CallSpec Tryz.pr.P Tryz.pr.G 30 [u64 p] (.tup 2 (two (polyF p) (i64 0))) := by
  have hm2 := hm.2
  refine callSpec_of Tryz.pr Tryz.func30 rfl rfl rfl fun w0 ok0 hok hG => ?_
  refine ev_rs [] rfl trivial ?_
  refine ev_seq (ev_rs [Vinc.bool (isB p)] rfl (by repeat' (first | exact trivial | exact gd_t | exact gd_f | exact .inl (Is_spec p (by omega)) | exact (fun _ => rfl) | intro _ | apply And.intro | assumption | exact rfl | exact gd_t (by assumption) | exact gd_f (by assumption) | exact gd_a (by assumption) (by assumption) | exact gd_b (by assumption) (by assumption))) (ev_cond rfl (fun h => ?_) (fun _ => ev_sk ?_)))
  · exfalso
    rw [hb, decide_eq_false (by omega)] at h
    cases h
  refine ev_rs [.tup 2 (two (newF p) (i64 0))] rfl ⟨.inl (New_spec hm), trivial⟩ ?_
  refine ev_seq (ev_rs [] rfl trivial (ev_cf rfl (ev_sk ?_)))
  refine ev_rs [] rfl trivial (ev_ret (ret2 (fz_oat rfl (Nat.le_refl 1) (fun j hj => ?_)) (fz_p (PLe.refl _))))
  match j, hj with
  | 0, _ => exact fz_p (PLe.refl _)

theorem trim_spec (a : List Nat) (hl : a.length < 1099511627776) : CallSpec Tryz.pr.P Tryz.pr.G 33 [u64s a] (u64s (trimN a)) := by
  refine callSpec_of Tryz.pr Tryz.func33 rfl rfl rfl fun w0 ok0 hok hG => ?_
  refine ev_rs [] rfl trivial ?_
  refine ev_rs [] rfl trivial ?_
  refine ev_at (α := Unit) (fun _ => True) (fun _ => [(0, .p (u64s a)), (3, .p (i64 (trimL a a.length)))]) (fun _ => []) ?_ ?_
  · refine ev_block (ev_while0 (α := Nat) (fun n => n ≤ a.length ∧ trimL a n = trimL a a.length) (fun n => [(0, .p (u64s a)), (3, .p (i64 n))]) (fun n => n) a.length ⟨Nat.le_refl _, rfl⟩ ⟨le_0, le_0, trivial⟩ ?_)
    rintro n ⟨h1, h2⟩
    cases n with
    | zero =>
      exact ev_seq (ev_rs [] rfl (by repeat' (first | exact trivial | exact gd_t | exact gd_f | exact fun h => absurd h (by decide) | exact (fun _ => rfl) | intro _ | apply And.intro | assumption | exact rfl | exact gd_t (by assumption) | exact gd_f (by assumption) | exact gd_a (by assumption) (by assumption) | exact gd_b (by assumption) (by assumption))) (ev_cf rfl (ev_exit (at0 () trivial ⟨le_0, le_e (congrArg (fun z : Nat => i64 z) h2), trivial⟩))))
    | succ n =>
      have e1 : IntKind.wrap .i64 (((n + 1 : Nat) : Int) - 1) = (n : Int) := by rw [wrapI _ (by omega) (by omega)]; omega
      have hpos : decide (((n + 1 : Nat) : Int) > 0) = true := decide_eq_true (by omega)
      refine ev_seq (ev_rs [] rfl ?_ (ev_cond rfl (fun h => ev_sk ?_) (fun h => ev_exit ?_)))
      · rw [e1]
        exact (by repeat' (first | exact trivial | exact gd_t | exact gd_f | exact h1 | exact Int.natCast_nonneg _ | exact Int.ofNat_lt.mpr h1 | exact (fun _ => rfl) | intro _ | apply And.intro | assumption | exact rfl | exact gd_t (by assumption) | exact gd_f (by assumption) | exact gd_a (by assumption) (by assumption) | exact gd_b (by assumption) (by assumption)))
      · rw [hpos, e1] at h
        have h0 : a.getD n 0 = 0 := Int.ofNat_inj.mp (beq_iff_eq.mp h)
        refine ev_block (ev_region [] rfl trivial (round0 n ⟨by omega, ?_⟩ (Nat.lt_succ_self n) ⟨le_0, le_e (congrArg (fun z => PV.val (.int .i64 z)) e1), trivial⟩))
        rw [← h2]
        show _ = if a.getD n 0 = 0 then trimL a n else n + 1
        rw [if_pos h0]
      · rw [hpos, e1] at h
        have h0 : ¬ a.getD n 0 = 0 := fun e => (beq_eq_false_iff_ne.mp h) (Int.ofNat_inj.mpr e)
        refine at0 () trivial ⟨le_0, le_e (congrArg (fun z : Nat => i64 z) ?_), trivial⟩
        rw [← h2]
        show _ = if a.getD n 0 = 0 then trimL a n else n + 1
        rw [if_neg h0]
  rintro ⟨⟩ -
  have ht := trimL_le a a.length
  exact ev_rs [] rfl ⟨⟨by omega, by omega⟩, trivial⟩ (ev_ret (ret1 (fz_p (PLe.take ht))))

theorem Norm_spec {p : Nat} (hm : MayM p) (a : List Nat) (hl : a.length < 1000000) : CallSpec Tryz.pr.P Tryz.pr.G 19 [polyF p, u64s a] (u64s (normN p a)) := by
  refine callSpec_of Tryz.pr Tryz.func19 rfl rfl rfl fun w0 ok0 hok hG => ?_
  refine ev_rs [] rfl trivial ?_
  refine ev_seq (ev_rs [] rfl trivial (ev_cf rfl (ev_sk ?_)))
  refine ev_rs [] rfl ⟨⟨by omega, by omega, by omega⟩, trivial⟩ ?_
  refine ev_made 5 12 a.length rfl rfl rfl ?_
  refine ev_at (α := Unit) (fun _ => True) (fun _ => [(5, .p (u64s (a.map (· % p))))]) (fun _ => []) ?_ ?_
  · refine ev_rs [] rfl trivial ?_
    refine ev_block (ev_while (α := Nat) (fun i => i ≤ a.length) (fun i => [(0, .p (polyF p)), (1, .p (u64s a)), (5, .own 12 0 a.length 1), (13, .p (u64s a)), (14, .p (i64 a.length)), (15, .p (i64 i))]) (fun i => [(12, ob64 (mapK p a i))]) (fun i => a.length - i) 0
      (Nat.zero_le _) (wk_ob rfl (fun hd => ⟨le_refl hd _, le_refl hd _, le_o rfl, le_refl hd _, le_refl hd _, le_refl hd _, trivial⟩)) ?_)
    rintro i h1
    refine ev_rs [] rfl trivial (ev_seq (ev_cond rfl (fun h => ev_sk ?_) (fun h => ev_exit ?_)))
    · have hi : i < a.length := Int.ofNat_lt.mp (of_decide_eq_true h)
      have hck := length_mapK p a i
      refine ev_seq (ev_block ?_)
      refine ev_rs [] rfl ⟨hi, ⟨by omega, by omega⟩, trivial⟩ ?_
      refine ev_region [u64 (a.getD i 0 % p)] rfl ?_ ?_
      · exact ⟨(by omega : i + 1 ≤ (mapK p a i).length), ⟨by omega, by omega⟩, .inl (Of_spec hm _), Nat.zero_lt_one, trivial⟩
      refine ev_set 12 i (a.getD i 0 % p) rfl rfl rfl (by omega) ?_
      exact ev_region [] rfl trivial ⟨i + 1, hi, by dsimp only; omega, wk_ob rfl (fun hd => ⟨le_refl hd _, le_refl hd _, le_o rfl, le_refl hd _, le_refl hd _, le_n hd (congrArg (fun z => PV.val (.int .i64 z)) (wrapI _ (by omega) (by omega))), trivial⟩)⟩
    · have hi : i = a.length := by
        have := of_decide_eq_false h
        omega
      subst hi
      exact at0 () trivial ⟨le_fz' rfl (length_mapK p a a.length).symm (mapK_all p a), trivial⟩
  rintro ⟨⟩ -
  exact ev_rs [u64s (normN p a)] rfl ⟨.inl (trim_spec _ (by rw [List.length_map]; omega)), trivial⟩ (ev_ret (ret1 (fz_p (PLe.refl _))))

theorem one_spec {p : Nat} (hm : MayM p) (a b : List Nat) (hl : a.length < 1000000) (hl2 : b.length < 1000000) : CallSpec Tryz.pr.P Tryz.pr.G 35 [polyF p, u64s a, u64s b] (u64s (oneN p a b)) := by
  refine callSpec_of Tryz.pr Tryz.func35 rfl rfl rfl fun w0 ok0 hok hG => ?_
  refine ev_rs [] rfl trivial ?_
  refine ev_seq (ev_rs [] rfl (by repeat' (first | exact trivial | exact gd_t | exact gd_f | exact (fun _ => rfl) | intro _ | apply And.intro | assumption | exact rfl | exact gd_t (by assumption) | exact gd_f (by assumption) | exact gd_a (by assumption) (by assumption) | exact gd_b (by assumption) (by assumption))) (ev_cond rfl (fun h => ?_) (fun h => ev_sk ?_)))
  · have h0 : a.length = 0 ∨ b.length = 0 := by
      by_cases ha : a.length = 0
      · exact .inl ha
      · right
        have e : (((a.length : Nat) : Int) == 0) = false := beq_eq_false_iff_ne.mpr (by omega)
        rw [e] at h
        exact Int.ofNat_inj.mp (beq_iff_eq.mp h)
    have e : oneN p a b = [] := if_pos h0
    rw [e]
    exact ev_rs [] rfl trivial (ev_ret (ret1 (fz_p PLe.nil)))
  have h0 : ¬ (a.length = 0 ∨ b.length = 0) := by
    rintro (e | e)
    · rw [e] at h; cases h
    · rw [e] at h
      cases hd : (((a.length : Nat) : Int) == 0) <;> rw [hd] at h <;> cases h
  have e0 : oneN p a b = oneO p a b a.length := if_neg h0
  rw [e0]
  have e1 : IntKind.wrap .i64 (IntKind.wrap .i64 ((a.length : Int) + (b.length : Int)) - 1) = ((a.length + b.length - 1 : Nat) : Int) := by
    rw [wrapI ((a.length : Int) + (b.length : Int)) (by omega) (by omega), wrapI _ (by omega) (by omega)]; omega
  obtain ⟨L, hL⟩ : ∃ L, a.length + b.length - 1 = L := ⟨_, rfl⟩
  refine ev_rs [] rfl ?_ ?_
  · rw [e1]
    exact ⟨⟨by omega, by omega, by omega⟩, trivial⟩
  refine ev_made 7 26 L rfl rfl (show (IntKind.wrap .i64 (IntKind.wrap .i64 ((a.length : Int) + (b.length : Int)) - 1)).toNat = _ by rw [e1]; exact hL) ?_
  refine ev_at (α := Unit) (fun _ => True) (fun _ => [(7, .own 26 0 L 1)]) (fun _ => [(26, ob64 (oneO p a b a.length))]) ?_ ?_
  · refine ev_rs [] rfl trivial ?_
    refine ev_block (ev_while (α := Nat) (fun i => i ≤ a.length) (fun i => [(0, .p (polyF p)), (2, .p (u64s b)), (7, .own 26 0 L 1), (27, .p (u64s a)), (28, .p (i64 a.length)), (29, .p (i64 i))]) (fun i => [(26, ob64 (oneO p a b i))]) (fun i => a.length - i) 0
      (Nat.zero_le _) (wk_ob (congrArg (fun l => some (ob64 (List.replicate l 0))) hL.symm) (fun hd => ⟨le_refl hd _, le_refl hd _, le_o rfl, le_refl hd _, le_refl hd _, le_refl hd _, trivial⟩)) ?_)
    rintro i h1
    refine ev_rs [] rfl trivial (ev_seq (ev_cond rfl (fun h => ev_sk ?_) (fun h => ev_exit ?_)))
    · have hi : i < a.length := Int.ofNat_lt.mp (of_decide_eq_true h)
      refine ev_seq (ev_block ?_)
      refine ev_rs [] rfl ⟨hi, ⟨by omega, by omega⟩, trivial⟩ ?_
      refine ev_rs [] rfl trivial ?_
      refine ev_block (ev_while (α := Nat) (fun k => k ≤ b.length) (fun k => [(0, .p (polyF p)), (2, .p (u64s b)), (7, .own 26 0 L 1), (8, .p (i64 i)), (9, .p (u64 (a.getD i 0))), (27, .p (u64s a)), (28, .p (i64 a.length)), (29, .p (i64 i)), (34, .p (u64s b)), (35, .p (i64 b.length)), (36, .p (i64 k))])
        (fun k => [(26, ob64 (oneI p (a.getD i 0) b i (oneO p a b i) k))]) (fun k => b.length - k) 0
        (Nat.zero_le _) (wk_ob rfl (fun hd => ⟨le_refl hd _, le_refl hd _, le_o rfl, le_refl hd _, le_refl hd _, le_refl hd _, le_refl hd _, le_refl hd _, le_refl hd _, le_refl hd _, le_refl hd _, trivial⟩)) ?_)
      rintro k h2
      refine ev_rs [] rfl trivial (ev_seq (ev_cond rfl (fun h => ev_sk ?_) (fun h => ev_exit ?_)))
      · have hk : k < b.length := Int.ofNat_lt.mp (of_decide_eq_true h)
        refine ev_seq (ev_block ?_)
        refine ev_rs [] rfl ⟨hk, ⟨by omega, by omega⟩, trivial⟩ ?_
        have e2 : IntKind.wrap .i64 ((i : Int) + (k : Int)) = ((i + k : Nat) : Int) := by rw [wrapI _ (by omega) (by omega)]; rfl
        have hck : (oneI p (a.getD i 0) b i (oneO p a b i) k).length = L := by rw [length_oneI, length_oneO, hL]
        obtain ⟨o, ho⟩ : ∃ o, oneI p (a.getD i 0) b i (oneO p a b i) k = o := ⟨_, rfl⟩
        have hst : oneI p (a.getD i 0) b i (oneO p a b i) (k + 1) = o.set (i + k) ((o.getD (i + k) 0 + a.getD i 0 * b.getD k 0 % p) % p) := by rw [← ho]; rfl
        rw [ho] at hck
        refine ev_ob 26 (ob64 o) (congrArg (fun l => some (ob64 l)) ho) ?_
        refine ev_draw [u64 (a.getD i 0 * b.getD k 0 % p), u64 ((o.getD (i + k) 0 + a.getD i 0 * b.getD k 0 % p) % p)] (by kernel_rfl) rfl rfl ?_ ?_
        · rw [e2]
          exact ⟨(by omega : i + k + 1 ≤ o.length), ⟨by omega, by omega⟩, .inl (Add_spec hm _ _), .inl (Mul_spec hm _ _), Nat.zero_lt_one, (by omega : i + k < o.length), ⟨by omega, by omega⟩, Nat.zero_lt_one, trivial⟩
        refine ev_set 26 (i + k) ((o.getD (i + k) 0 + a.getD i 0 * b.getD k 0 % p) % p) rfl (by show (IntKind.wrap .i64 ((i : Int) + (k : Int))).toNat = _; rw [e2]; rfl) rfl (by omega) ?_
        exact ev_region [] rfl trivial ⟨k + 1, hk, by dsimp only; omega, wk_ob (congrArg (fun l => some (ob64 l)) hst.symm) (fun hd => ⟨le_refl hd _, le_refl hd _, le_o rfl, le_refl hd _, le_refl hd _, le_refl hd _, le_refl hd _, le_refl hd _, le_refl hd _, le_refl hd _, le_n hd (congrArg (fun z => PV.val (.int .i64 z)) (wrapI _ (by omega) (by omega))), trivial⟩)⟩
      · have hk : k = b.length := by
          have := of_decide_eq_false h
          omega
        subst hk
        exact ev_region [] rfl trivial ⟨i + 1, hi, by dsimp only; omega, wk_ob rfl (fun hd => ⟨le_refl hd _, le_refl hd _, le_o rfl, le_refl hd _, le_refl hd _, le_n hd (congrArg (fun z => PV.val (.int .i64 z)) (wrapI _ (by omega) (by omega))), trivial⟩)⟩
    · have hi : i = a.length := by
        have := of_decide_eq_false h
        omega
      subst hi
      exact at_ob () trivial rfl (fun hd => ⟨le_o rfl, trivial⟩)
  rintro ⟨⟩ -
  exact ev_rs [] rfl trivial (ev_ret (ret1 (fz_ob' rfl (by rw [length_oneO, hL]) rfl)))

theorem half_spec {p : Nat} (hm : MayM p) (a b : List Nat) (hl : a.length ≤ 16) (hl2 : b.length ≤ 16) : CallSpec Tryz.pr.P Tryz.pr.G 34 [polyF p, u64s a, u64s b] (u64s (oneN p a b)) := by
  refine callSpec_of Tryz.pr Tryz.func34 rfl rfl rfl fun w0 ok0 hok hG => ?_
  refine ev_rs [] rfl trivial ?_
  refine ev_rs [] rfl trivial ?_
  have hle : (if (b.length : Int) > (a.length : Int) then (b.length : Int) else (a.length : Int)) ≤ 16 := by split <;> omega
  refine ev_seq (ev_rs [] rfl (by repeat' (first | exact trivial | exact gd_t | exact gd_f | exact (fun _ => rfl) | intro _ | apply And.intro | assumption | exact rfl | exact gd_t (by assumption) | exact gd_f (by assumption) | exact gd_a (by assumption) (by assumption) | exact gd_b (by assumption) (by assumption))) (ev_cond rfl (fun h => ?_) (fun h => ?_)))
  · exact ev_rs [u64s (oneN p a b)] rfl ⟨.inl (one_spec hm a b (by omega) (by omega)), trivial⟩ (ev_ret (ret1 (fz_p (PLe.refl _))))
  · exfalso
    have e : decide ((if (b.length : Int) > (a.length : Int) then (b.length : Int) else (a.length : Int)) ≤ 16) = true := decide_eq_true hle
    have h : (bif (bif decide ((if (b.length : Int) > (a.length : Int) then (b.length : Int) else (a.length : Int)) ≤ 16) then true else _) then true else _) = false := h
    rw [e] at h
    cases h

theorem length_oneN (p : Nat) (a b : List Nat) : (oneN p a b).length ≤ a.length + b.length := by
  unfold oneN
  split
  · simp
  · rw [length_oneO]; omega

theorem times_spec2 {p : Nat} (hm : MayM p) (a b : List Nat) (hl : a.length ≤ 16) (hl2 : b.length ≤ 16) : CallSpec Tryz.pr.P Tryz.pr.G 44 [polyF p, u64s a, u64s b] (u64s (timesN p a b)) := by
  refine callSpec_of Tryz.pr Tryz.func44 rfl rfl rfl fun w0 ok0 hok hG => ?_
  refine ev_rs [] rfl trivial ?_
  have := length_oneN p a b
  exact ev_rs [u64s (oneN p a b), u64s (timesN p a b)] rfl ⟨.inl (trim_spec _ (by omega)), .inl (half_spec hm a b hl hl2), trivial⟩ (ev_ret (ret1 (fz_p (PLe.refl _))))

theorem divide_short {p : Nat} (a b : List Nat) (h : a.length < b.length) (hl2 : b.length < 1000000) :
    CallSpec Tryz.pr.P Tryz.pr.G 38 [polyF p, u64s a, u64s b] (.tup 2 (two (u64s []) (u64s a))) := by
  refine callSpec_of Tryz.pr Tryz.func38 rfl rfl rfl fun w0 ok0 hok hG => ?_
  refine ev_rs [] rfl trivial ?_
  refine ev_rs [] rfl ⟨⟨by omega, trivial⟩, trivial⟩ ?_
  refine ev_seq (ev_rs [] rfl trivial (ev_cond rfl (fun h2 => ?_) (fun h2 => ?_)))
  · exact ev_rs [] rfl trivial (ev_ret (ret2 (fz_p PLe.nil) (fz_ob rfl)))
  · exact absurd h (fun h => of_decide_eq_false h2 (Int.ofNat_lt.mpr h))

theorem divide_long {p : Nat} (hm : MayM p) (a b : List Nat) (hb0 : 0 < b.length) (h : b.length ≤ a.length) (hl : a.length < 1000000) :
    CallSpec Tryz.pr.P Tryz.pr.G 38 [polyF p, u64s a, u64s b] (.tup 2 (two (u64s (divN (minv p) p a b).1) (u64s (divN (minv p) p a b).2))) := by
  have e0 : divN (minv p) p a b = (trimN (divO p (minv p (b.getD (b.length - 1) 0)) b (a.length - (b.length - 1)) (List.replicate (a.length - (b.length - 1)) 0, a)).1,
      trimN (divO p (minv p (b.getD (b.length - 1) 0)) b (a.length - (b.length - 1)) (List.replicate (a.length - (b.length - 1)) 0, a)).2) := if_neg (by omega)
  rw [e0]
  obtain ⟨top, htop⟩ : ∃ top, b.length - 1 = top := ⟨_, rfl⟩
  obtain ⟨qn, hqn⟩ : ∃ qn, a.length - top = qn := ⟨_, rfl⟩
  obtain ⟨iv, hiv⟩ : ∃ iv, minv p (b.getD top 0) = iv := ⟨_, rfl⟩
  rw [htop, hqn, hiv]
  have e1 : IntKind.wrap .i64 ((b.length : Int) - 1) = (top : Int) := by rw [wrapI _ (by omega) (by omega)]; omega
  have e2 : IntKind.wrap .i64 ((a.length : Int) - (top : Int)) = (qn : Int) := by rw [wrapI _ (by omega) (by omega)]; omega
  have e3 : IntKind.wrap .i64 ((qn : Int) - 1) = (qn : Int) - 1 := wrapI _ (by omega) (by omega)
  refine callSpec_of Tryz.pr Tryz.func38 rfl rfl rfl fun w0 ok0 hok hG => ?_
  refine ev_rs [] rfl trivial ?_
  refine ev_rs [] rfl ⟨⟨by omega, trivial⟩, trivial⟩ ?_
  refine ev_seq (ev_rs [] rfl trivial (ev_cond rfl (fun h2 => ?_) (fun h2 => ev_sk ?_)))
  · exact absurd (Int.ofNat_lt.mp (of_decide_eq_true h2)) (by omega)
  refine ev_rs [] rfl trivial (ev_eq 9 (.p (i64 top)) (congrArg (fun z => AV.p (PV.val (.int .i64 z))) e1) ?_)
  refine ev_ds [.tup 2 (two (u64 iv) (i64 (wrong (b.getD top 0) p)))] (by kernel_rfl) rfl rfl ?_ ?_
  · rw [← hiv]
    exact ⟨.inl (Inv_spec hm _), (by omega : top < b.length), ⟨by omega, by omega⟩, Nat.zero_lt_one, trivial⟩
  refine ev_rs [] rfl ?_ ?_
  · rw [e2]
    exact ⟨⟨by omega, by omega, by omega⟩, trivial⟩
  refine ev_made 12 43 qn rfl rfl (show (IntKind.wrap .i64 ((a.length : Int) - (top : Int))).toNat = _ by rw [e2]; rfl) ?_
  refine ev_ob 17 (ob64 a) rfl ?_
  refine ev_at (α := Unit) (fun _ => True) (fun _ => [(8, .p (u64s (divO p iv b qn (List.replicate qn 0, a)).2)), (12, .p (u64s (divO p iv b qn (List.replicate qn 0, a)).1))]) (fun _ => []) ?_ ?_
  · refine ev_rs [] rfl trivial ?_
    refine ev_block (ev_while (α := Nat × List Nat × List Nat) (fun s => s.1 ≤ qn ∧ s.2.1.length = qn ∧ s.2.2.length = a.length ∧ divO p iv b s.1 (s.2.1, s.2.2) = divO p iv b qn (List.replicate qn 0, a))
      (fun s => [(0, .p (polyF p)), (2, .p (u64s b)), (8, .own 17 0 a.length 1), (9, .p (i64 top)), (10, .p (u64 iv)), (12, .own 43 0 qn 1), (13, .p (i64 ((s.1 : Int) - 1)))]) (fun s => [(17, ob64 s.2.2), (43, ob64 s.2.1)]) (fun s => s.1) (qn, List.replicate qn 0, a)
      ⟨Nat.le_refl _, List.length_replicate, rfl, rfl⟩ (wk_ob2 rfl rfl rfl rfl (fun hd => ⟨le_refl hd _, le_refl hd _, le_o rfl, le_refl hd _, le_refl hd _, le_o rfl, le_n hd (congrArg (fun z => PV.val (.int .i64 z)) e3), trivial⟩)) ?_)
    rintro ⟨n, q, l⟩ ⟨h1, h2, h3, h4⟩
    dsimp only at h1 h2 h3 h4
    refine ev_seq (ev_rs [] rfl trivial (ev_cond rfl (fun h => ev_sk ?_) (fun h => ev_exit ?_)))
    · have hn : 0 < n := by
        have := of_decide_eq_true h
        dsimp only at this
        omega
      obtain ⟨i, rfl⟩ : ∃ i, n = i + 1 := ⟨n - 1, by omega⟩
      obtain ⟨qi, hqi⟩ : ∃ qi, l.getD (i + top) 0 * iv % p = qi := ⟨_, rfl⟩
      have hst : divO p iv b i (q.set i qi, divI p qi b i l b.length) = divO p iv b qn (List.replicate qn 0, a) := by
        rw [← h4]
        show _ = divO p iv b i (q.set i (l.getD (i + (b.length - 1)) 0 * iv % p), divI p (l.getD (i + (b.length - 1)) 0 * iv % p) b i l b.length)
        rw [htop, hqi]
      refine ev_eq 13 (.p (i64 i)) (congrArg (fun z => AV.p (PV.val (.int .i64 z))) (show ((i + 1 : Nat) : Int) - 1 = i by omega)) ?_
      refine ev_seq (ev_block ?_)
      have e4 : IntKind.wrap .i64 ((i : Int) + (top : Int)) = ((i + top : Nat) : Int) := by rw [wrapI _ (by omega) (by omega)]; rfl
      refine ev_ds [u64 qi] (by kernel_rfl) rfl rfl ?_ ?_
      · rw [e4, ← hqi]
        exact ⟨(by omega : i + 1 ≤ q.length), ⟨by omega, by omega⟩, .inl (Mul_spec hm _ _), (by omega : i + top < l.length), ⟨by omega, by omega⟩, Nat.zero_lt_one, trivial⟩
      have hqq : (q.set i qi).getD i 0 = qi := by rw [getD_set _ _ _ _ (by omega), if_pos rfl]
      refine ev_set 43 i qi rfl rfl rfl (show i < q.length by omega) ?_
      refine ev_rs [] rfl trivial ?_
      refine ev_block (ev_while (α := Nat) (fun k => k ≤ b.length)
        (fun k => [(0, .p (polyF p)), (2, .p (u64s b)), (8, .own 17 0 a.length 1), (9, .p (i64 top)), (10, .p (u64 iv)), (12, .own 43 0 qn 1), (13, .p (i64 i)), (66, .p (u64s b)), (67, .p (i64 b.length)), (68, .p (i64 k))])
        (fun k => [(17, ob64 (divI p qi b i l k)), (43, ob64 (q.set i qi))]) (fun k => b.length - k) 0
        (Nat.zero_le _) (wk_ob2 rfl rfl rfl rfl (fun hd => ⟨le_refl hd _, le_refl hd _, le_o rfl, le_refl hd _, le_refl hd _, le_o rfl, le_refl hd _, le_refl hd _, le_refl hd _, le_refl hd _, trivial⟩)) ?_)
      rintro k h5
      refine ev_rs [] rfl trivial (ev_seq (ev_cond rfl (fun h => ev_sk ?_) (fun h => ev_exit ?_)))
      · have hk : k < b.length := Int.ofNat_lt.mp (of_decide_eq_true h)
        refine ev_seq (ev_block ?_)
        refine ev_rs [] rfl ⟨hk, ⟨by omega, by omega⟩, trivial⟩ ?_
        have e5 : IntKind.wrap .i64 ((i : Int) + (k : Int)) = ((i + k : Nat) : Int) := by rw [wrapI _ (by omega) (by omega)]; rfl
        have hdl : (divI p qi b i l k).length = a.length := by rw [length_divI, h3]
        obtain ⟨o, ho⟩ : ∃ o, divI p qi b i l k = o := ⟨_, rfl⟩
        have hst2 : divI p qi b i l (k + 1) = o.set (i + k) (sb (o.getD (i + k) 0) (qi * b.getD k 0 % p) p) := by rw [← ho]; rfl
        rw [ho] at hdl
        refine ev_ob 17 (ob64 o) (congrArg (fun l => some (ob64 l)) ho) ?_
        refine ev_draw [u64 (qi * b.getD k 0 % p), u64 (sb (o.getD (i + k) 0) (qi * b.getD k 0 % p) p)] (by kernel_rfl) rfl rfl ?_ ?_
        · rw [e5]
          refine ⟨(by omega : i + k + 1 ≤ o.length), ⟨by omega, by omega⟩, .inl (Sb_spec hm _ _), .inl ?_, (by rw [List.length_set]; omega : i < (q.set i qi).length), ⟨by omega, by omega⟩, Nat.zero_lt_one, (by omega : i + k < o.length), ⟨by omega, by omega⟩, Nat.zero_lt_one, trivial⟩
          show CallSpec _ _ _ [_, u64 ((q.set i qi).getD i 0), _] _
          rw [hqq]
          exact Mul_spec hm _ _
        refine ev_set 17 (i + k) (sb (o.getD (i + k) 0) (qi * b.getD k 0 % p) p) rfl (by show (IntKind.wrap .i64 ((i : Int) + (k : Int))).toNat = _; rw [e5]; rfl) rfl (by omega) ?_
        exact ev_region [] rfl trivial ⟨k + 1, hk, by dsimp only; omega, wk_ob2 rfl rfl (congrArg (fun l => some (ob64 l)) hst2.symm) rfl (fun hd => ⟨le_refl hd _, le_refl hd _, le_o rfl, le_refl hd _, le_refl hd _, le_o rfl, le_refl hd _, le_refl hd _, le_refl hd _, le_n hd (congrArg (fun z => PV.val (.int .i64 z)) (wrapI _ (by omega) (by omega))), trivial⟩)⟩
      · have hk : k = b.length := by
          have := of_decide_eq_false h
          omega
        subst hk
        exact ev_region [] rfl trivial ⟨(i, q.set i qi, divI p qi b i l b.length), ⟨by omega, by rw [List.length_set, h2], by rw [length_divI, h3], hst⟩, Nat.lt_succ_self i, wk_ob2 rfl rfl rfl rfl (fun hd => ⟨le_refl hd _, le_refl hd _, le_o rfl, le_refl hd _, le_refl hd _, le_o rfl, le_n hd (congrArg (fun z => PV.val (.int .i64 z)) (wrapI _ (by omega) (by omega))), trivial⟩)⟩
    · have hn : n = 0 := by
        have := of_decide_eq_false h
        dsimp only at this
        omega
      subst hn
      have h4 : (q, l) = _ := h4
      exact at0 () trivial ⟨le_fz' rfl h3.symm (congrArg Prod.snd h4), le_fz' rfl h2.symm (congrArg Prod.fst h4), trivial⟩
  rintro ⟨⟩ -
  obtain ⟨hA, hB⟩ := length_divO p iv b qn (List.replicate qn 0, a)
  have hA : _ = (List.replicate qn 0).length := hA
  have hB : _ = a.length := hB
  rw [List.length_replicate] at hA
  exact ev_rs [u64s (trimN (divO p iv b qn (List.replicate qn 0, a)).1), u64s (trimN (divO p iv b qn (List.replicate qn 0, a)).2)] rfl ⟨.inl (trim_spec _ (by omega)), .inl (trim_spec _ (by omega)), trivial⟩ (ev_ret (ret2 (fz_p (PLe.refl _)) (fz_p (PLe.refl _))))

theorem divide_spec {p : Nat} (hm : MayM p) (a b : List Nat) (hb0 : 0 < b.length) (hl : a.length < 1000000) (hl2 : b.length < 1000000) :
    CallSpec Tryz.pr.P Tryz.pr.G 38 [polyF p, u64s a, u64s b] (.tup 2 (two (u64s (divN (minv p) p a b).1) (u64s (divN (minv p) p a b).2))) := by
  rcases Nat.lt_or_ge a.length b.length with h | h
  · have e : divN (minv p) p a b = ([], a) := if_pos h
    rw [e]
    exact divide_short a b h hl2
  · exact divide_long hm a b hb0 h hl

theorem remN_len (iv : Nat → Nat) (p : Nat) (a b : List Nat) : (remN iv p a b).length ≤ a.length := by
  unfold remN divN
  split
  · exact Nat.le_refl _
  · have h := (length_divO p (iv (b.getD (b.length - 1) 0)) b (a.length - (b.length - 1)) (List.replicate (a.length - (b.length - 1)) 0, a)).2
    have h : _ = a.length := h
    show (trimN _).length ≤ _
    unfold trimN
    rw [List.length_take]
    omega

theorem PowMod_spec {p : Nat} (hm : MayM p) (a : List Nat) (n : Nat) (b : List Nat) (hn : n < 18446744073709551616) (ha : a.length ≤ 16) (hb : b.length ≤ 17) (hb0 : 0 < (normN p b).length)
    (hpo : powOk (minv p) p (normN p b) 64 n (remN (minv p) p [1] (normN p b)) (remN (minv p) p (normN p a) (normN p b))) :
    CallSpec Tryz.pr.P Tryz.pr.G 25 [polyF p, u64s a, u64 n, u64s b]
      (.tup 2 (two (u64s (powF (minv p) p (normN p b) 64 n (remN (minv p) p [1] (normN p b)) (remN (minv p) p (normN p a) (normN p b)))) (i64 0))) := by
  have hbl : (normN p b).length ≤ 17 := by
    unfold normN trimN
    rw [List.length_take, List.length_map]; omega
  have hal : (normN p a).length ≤ 16 := by
    unfold normN trimN
    rw [List.length_take, List.length_map]; omega
  obtain ⟨bb, hbb⟩ : ∃ bb, normN p b = bb := ⟨_, rfl⟩
  obtain ⟨aa, haa⟩ : ∃ aa, normN p a = aa := ⟨_, rfl⟩
  have hNa := Norm_spec hm a (by omega)
  have hNb := Norm_spec hm b (by omega)
  rw [hbb] at hNb hbl hb0 hpo ⊢
  rw [haa] at hNa hal hpo ⊢
  have hD : ∀ x : List Nat, x.length < 1000000 → CallSpec Tryz.pr.P Tryz.pr.G 38 [polyF p, u64s x, u64s bb] (.tup 2 (two (u64s (divN (minv p) p x bb).1) (u64s (remN (minv p) p x bb)))) := fun x hx => divide_spec hm x bb hb0 hx (by omega)
  have hT : ∀ x y : List Nat, (timesN p x y).length ≤ x.length + y.length := fun x y => by
    unfold timesN trimN
    rw [List.length_take]
    have := length_oneN p x y
    omega
  obtain ⟨o1, ho1⟩ : ∃ o1, remN (minv p) p [1] bb = o1 := ⟨_, rfl⟩
  obtain ⟨a1, ha1⟩ : ∃ a1, remN (minv p) p aa bb = a1 := ⟨_, rfl⟩
  have hD1 := hD [1] (by simp)
  have hD2 := hD aa (by omega)
  rw [ho1] at hD1
  rw [ha1] at hD2
  rw [ho1, ha1] at hpo
  rw [ho1, ha1]
  refine callSpec_of Tryz.pr Tryz.func25 rfl rfl rfl fun w0 ok0 hok hG => ?_
  refine ev_rs [] rfl trivial ?_
  refine ev_seq (ev_rs [] rfl trivial (ev_cf rfl (ev_sk ?_)))
  refine ev_rs [u64s aa, u64s bb] rfl ⟨.inl hNb, .inl hNa, trivial⟩ ?_
  refine ev_seq (ev_rs [] rfl trivial (ev_cond rfl (fun h => ?_) (fun h => ev_sk ?_)))
  · exfalso
    have : bb.length = 0 := Int.ofNat_inj.mp (beq_iff_eq.mp h)
    omega
  refine ev_rs [.tup 2 (two (u64s (divN (minv p) p [1] bb).1) (u64s o1))] rfl ?_ ?_
  · exact ⟨⟨⟨Nat.le_refl 1, trivial⟩, .inl (callSpec_args (as' := [polyF p, u64s [1], u64s bb]) ⟨PLe.refl _, PLe.lit rfl (fun j hj => by match j, hj with | 0, _ => rfl), PLe.refl _, trivial⟩ hD1)⟩, trivial⟩
  refine ev_rs [.tup 2 (two (u64s (divN (minv p) p aa bb).1) (u64s a1))] rfl ⟨.inl hD2, trivial⟩ ?_
  obtain ⟨R, hR⟩ : ∃ R, powF (minv p) p bb 64 n o1 a1 = R := ⟨_, rfl⟩
  rw [hR]
  refine ev_at (α := Unit) (fun _ => True) (fun _ => [(11, .p (u64s R))]) (fun _ => []) ?_ ?_
  · refine ev_block (ev_while0 (α := Nat × Nat × List Nat × List Nat) (fun s => s.2.1 < 2 ^ s.1 ∧ s.2.1 < 18446744073709551616 ∧ powOk (minv p) p bb s.1 s.2.1 s.2.2.1 s.2.2.2 ∧ powF (minv p) p bb s.1 s.2.1 s.2.2.1 s.2.2.2 = R)
      (fun s => [(0, .p (polyF p)), (1, .p (u64s s.2.2.2)), (2, .p (u64 s.2.1)), (3, .p (u64s bb)), (11, .p (u64s s.2.2.1))]) (fun s => s.1) (64, n, o1, a1)
      ⟨hn, hn, hpo, hR⟩ ⟨le_0, le_0, le_0, le_0, le_0, trivial⟩ ?_)
    rintro ⟨f, x, o, y⟩ ⟨h1, h2, h3, h4⟩
    dsimp only at h1 h2 h3 h4
    refine ev_seq (ev_rs [] rfl trivial (ev_cond rfl (fun h => ev_sk ?_) (fun h => ev_exit ?_)))
    · have hx : 0 < x := Int.ofNat_lt.mp (of_decide_eq_true h)
      have hx0 : x ≠ 0 := by omega
      obtain ⟨f, rfl⟩ : ∃ g, f = g + 1 := by
        cases f with
        | zero => simp at h1; omega
        | succ g => exact ⟨g, rfl⟩
      obtain ⟨l1, l2, hk⟩ := (show x = 0 ∨ _ from h3).resolve_left hx0
      have h4 : (if x = 0 then o else powF (minv p) p bb f (x / 2) (if x % 2 = 1 then remN (minv p) p (timesN p o y) bb else o) (remN (minv p) p (timesN p y y) bb)) = R := h4
      rw [if_neg hx0] at h4
      have ho16 : o.length ≤ 16 := l1
      have ht1 := hT o y
      have ht2 := hT y y
      refine ev_seq (ev_block ?_)
      refine ev_at (α := Unit) (fun _ => True) (fun _ => [(0, .p (polyF p)), (1, .p (u64s y)), (2, .p (u64 x)), (3, .p (u64s bb)), (11, .p (u64s (if x % 2 = 1 then remN (minv p) p (timesN p o y) bb else o)))]) (fun _ => []) ?_ ?_
      · refine ev_rs [] rfl trivial (ev_cond rfl (fun h => ?_) (fun h => ?_))
        · have hx1 : x % 2 = 1 := by
            have := beq_iff_eq.mp h
            rw [and1 x h2] at this
            exact Int.ofNat_inj.mp this
          refine ev_region [u64s (timesN p o y), .tup 2 (two (u64s (divN (minv p) p (timesN p o y) bb).1) (u64s (remN (minv p) p (timesN p o y) bb)))] rfl ⟨.inl (hD _ (by omega)), .inl (times_spec2 hm o y l1 l2), trivial⟩ (at0 () trivial ⟨le_0, le_0, le_0, le_0, le_e (congrArg u64s ?_), trivial⟩)
          rw [if_pos hx1]
        · have hx1 : ¬ x % 2 = 1 := fun e => by
            have := beq_eq_false_iff_ne.mp h
            rw [and1 x h2] at this
            exact this (Int.ofNat_inj.mpr e)
          refine ev_skip (at0 () trivial ⟨le_0, le_0, le_0, le_0, le_e (congrArg u64s ?_), trivial⟩)
          rw [if_neg hx1]
      rintro ⟨⟩ -
      refine ev_region [u64s (timesN p y y), .tup 2 (two (u64s (divN (minv p) p (timesN p y y) bb).1) (u64s (remN (minv p) p (timesN p y y) bb)))] rfl ⟨.inl (hD _ (by omega)), .inl (times_spec2 hm y y l2 l2), trivial⟩ ?_
      exact ev_region [] rfl ⟨by decide, trivial⟩ (round0 (f, x / 2, if x % 2 = 1 then remN (minv p) p (timesN p o y) bb else o, remN (minv p) p (timesN p y y) bb) ⟨by rw [Nat.pow_succ] at h1; dsimp only; omega, by dsimp only; omega, hk, h4⟩ (Nat.lt_succ_self f)
        ⟨le_0, le_0, le_e (congrArg (fun z => PV.val (.int .u64 z)) (shr1 x)), le_0, le_0, trivial⟩)
    · have hx : x = 0 := by
        have := of_decide_eq_false h
        dsimp only at this
        omega
      refine at0 () trivial ⟨le_e (congrArg u64s ?_), trivial⟩
      rw [hx] at h4
      cases f with
      | zero => exact h4
      | succ f => exact h4
  rintro ⟨⟩ -
  exact ev_rs [] rfl trivial (ev_ret (ret2 (fz_p (PLe.refl _)) (fz_p (PLe.refl _))))

end Go.Proofs

/- Numbers as words, walked: sums, products by a word, what is left. -/
set_option linter.unusedVariables false
namespace Go.Proofs
open Go Vinc Vinc.Num

theorem natTrim_spec (a : List Nat) (hl : a.length < 1099511627776) : CallSpec Tryz.pr.P Tryz.pr.G 73 [u64s a] (u64s (trimN a)) := by
  refine callSpec_of Tryz.pr Tryz.func73 rfl rfl rfl fun w0 ok0 hok hG => ?_
  refine ev_rs [] rfl trivial ?_
  refine ev_rs [] rfl trivial ?_
  refine ev_at (α := Unit) (fun _ => True) (fun _ => [(0, .p (u64s a)), (3, .p (i64 (trimL a a.length)))]) (fun _ => []) ?_ ?_
  · refine ev_block (ev_while0 (α := Nat) (fun n => n ≤ a.length ∧ trimL a n = trimL a a.length) (fun n => [(0, .p (u64s a)), (3, .p (i64 n))]) (fun n => n) a.length ⟨Nat.le_refl _, rfl⟩ ⟨le_0, le_0, trivial⟩ ?_)
    rintro n ⟨h1, h2⟩
    cases n with
    | zero =>
      exact ev_seq (ev_rs [] rfl (by repeat' (first | exact trivial | exact gd_t | exact gd_f | exact fun h => absurd h (by decide) | exact (fun _ => rfl) | intro _ | apply And.intro | assumption | exact rfl | exact gd_t (by assumption) | exact gd_f (by assumption) | exact gd_a (by assumption) (by assumption) | exact gd_b (by assumption) (by assumption))) (ev_cf rfl (ev_exit (at0 () trivial ⟨le_0, le_e (congrArg (fun z : Nat => i64 z) h2), trivial⟩))))
    | succ n =>
      have e1 : IntKind.wrap .i64 (((n + 1 : Nat) : Int) - 1) = (n : Int) := by rw [wrapI _ (by omega) (by omega)]; omega
      have hpos : decide (((n + 1 : Nat) : Int) > 0) = true := decide_eq_true (by omega)
      refine ev_seq (ev_rs [] rfl ?_ (ev_cond rfl (fun h => ev_sk ?_) (fun h => ev_exit ?_)))
      · rw [e1]
        exact (by repeat' (first | exact trivial | exact gd_t | exact gd_f | exact h1 | exact Int.natCast_nonneg _ | exact Int.ofNat_lt.mpr h1 | exact (fun _ => rfl) | intro _ | apply And.intro | assumption | exact rfl | exact gd_t (by assumption) | exact gd_f (by assumption) | exact gd_a (by assumption) (by assumption) | exact gd_b (by assumption) (by assumption)))
      · rw [hpos, e1] at h
        have h0 : a.getD n 0 = 0 := Int.ofNat_inj.mp (beq_iff_eq.mp h)
        refine ev_block (ev_region [] rfl trivial (round0 n ⟨by omega, ?_⟩ (Nat.lt_succ_self n) ⟨le_0, le_e (congrArg (fun z => PV.val (.int .i64 z)) e1), trivial⟩))
        rw [← h2]
        show _ = if a.getD n 0 = 0 then trimL a n else n + 1
        rw [if_pos h0]
      · rw [hpos, e1] at h
        have h0 : ¬ a.getD n 0 = 0 := fun e => (beq_eq_false_iff_ne.mp h) (Int.ofNat_inj.mpr e)
        refine at0 () trivial ⟨le_0, le_e (congrArg (fun z : Nat => i64 z) ?_), trivial⟩
        rw [← h2]
        show _ = if a.getD n 0 = 0 then trimL a n else n + 1
        rw [if_neg h0]
  rintro ⟨⟩ -
  have ht := trimL_le a a.length
  exact ev_rs [] rfl ⟨⟨by omega, by omega⟩, trivial⟩ (ev_ret (ret1 (fz_p (PLe.take ht))))

theorem natNorm_spec (a : List Nat) (hl : a.length < 1099511627776) : CallSpec Tryz.pr.P Tryz.pr.G 113 [u64s a] (u64s (trimN a)) := by
  have ht := trimL_le a a.length
  have hT := natTrim_spec a hl
  have hlen : (trimN a).length ≤ a.length := by rw [length_trimN]; exact ht
  generalize trimN a = o at *
  refine callSpec_of Tryz.pr Tryz.func113 rfl rfl rfl fun w0 ok0 hok hG => ?_
  refine ev_rs [] rfl trivial ?_
  exact ev_rs [u64s o] rfl ⟨⟨by omega, trivial⟩, .inl hT, trivial⟩ (ev_ret (ret1 (fz_ob rfl)))

theorem natAt_spec (a : List Nat) (i : Nat) : CallSpec Tryz.pr.P Tryz.pr.G 110 [u64s a, i64 i] (u64 (a.getD i 0)) := by
  refine callSpec_of Tryz.pr Tryz.func110 rfl rfl rfl fun w0 ok0 hok hG => ?_
  refine ev_rs [] rfl trivial ?_
  refine ev_seq (ev_rs [] rfl trivial (ev_cond rfl (fun h => ?_) (fun h => ev_sk ?_)))
  · have hi : i < a.length := Int.ofNat_lt.mp (of_decide_eq_true h)
    exact ev_rs [] rfl ⟨hi, ⟨by omega, by omega⟩, trivial⟩ (ev_ret (ret1 (fz_p (PLe.refl _))))
  · have hi : a.length ≤ i := by
      have := of_decide_eq_false h
      omega
    rw [getD_ge hi]
    exact ev_rs [] rfl trivial (ev_ret (ret1 (fz_p (PLe.refl _))))

theorem add_lt_pow {x y a b L : Nat} (hx : x < BW ^ a) (hy : y < BW ^ b) (ha : a ≤ L) (hb : b ≤ L) : x + y < BW ^ (L + 1) := by
  have h1 : x < BW ^ L := Nat.lt_of_lt_of_le hx (Nat.pow_le_pow_right BW_pos ha)
  have h2 : y < BW ^ L := Nat.lt_of_lt_of_le hy (Nat.pow_le_pow_right BW_pos hb)
  have h3 : BW ^ L * 2 ≤ BW ^ L * BW := Nat.mul_le_mul_left _ (by decide)
  rw [Nat.pow_succ]
  omega

set_option maxRecDepth 20000 in
theorem natAdd_spec (x y : Nat) (hx : x < BW ^ 8) (hy : y < BW ^ 8) (hs : x + y < BW ^ 8) : CallSpec Tryz.pr.P Tryz.pr.G 96 [u64s (wds x), u64s (wds y)] (u64s (wds (x + y))) := by
  have lx := wds_len8 x
  have ly := wds_len8 y
  have px := lt_wds hx
  have py := lt_wds hy
  have gx := getD_wds hx
  have gy := getD_wds hy
  obtain ⟨f, hf⟩ : ∃ f, dig (x + y) = f := ⟨_, rfl⟩
  have hfi : ∀ i, (dig x i + dig y i + carA x y i) % 18446744073709551616 = f i := fun i => by rw [← hf]; exact (dig_add x y i).symm
  have hci : ∀ i, (dig x i + dig y i + carA x y i) / 18446744073709551616 = carA x y (i + 1) := fun i => (carA_succ x y i).symm
  have hc1 := carA_le x y
  obtain ⟨L, hL⟩ : ∃ L, max (wds x).length (wds y).length = L := ⟨_, rfl⟩
  have hlt := add_lt_pow px py (L := L) (by omega) (by omega)
  have htr := trim_dig hs hlt
  rw [hf] at htr
  generalize wds (x + y) = z at *
  generalize wds x = a at *
  generalize wds y = b at *
  have hmax : IntKind.wrap .i64 ((if (b.length : Int) > (a.length : Int) then (b.length : Int) else (a.length : Int)) + 1) = ((L + 1 : Nat) : Int) := by
    have : (if (b.length : Int) > (a.length : Int) then (b.length : Int) else (a.length : Int)) = (L : Int) := by rw [← hL]; split <;> omega
    rw [this, wrapI _ (by omega) (by omega)]; rfl
  have hT := natTrim_spec (tabL f (L + 1)) (by rw [len_tabL]; omega)
  rw [htr] at hT
  refine callSpec_of Tryz.pr Tryz.func96 rfl rfl rfl fun w0 ok0 hok hG => ?_
  refine ev_rs [] rfl trivial ?_
  refine ev_rs [] rfl ?_ ?_
  · refine ⟨⟨?_, ?_, ?_⟩, trivial⟩
    · exact hmax ▸ Int.natCast_nonneg _
    · exact Int.le_refl _
    · exact hmax ▸ (by omega : ((L + 1 : Nat) : Int) ≤ 1099511627776)
  refine ev_made 5 14 (L + 1) rfl rfl (show (IntKind.wrap .i64 ((if (b.length : Int) > (a.length : Int) then (b.length : Int) else (a.length : Int)) + 1)).toNat = _ by rw [hmax]; rfl) ?_
  refine ev_rs [] rfl trivial ?_
  refine ev_at (α := Unit) (fun _ => True) (fun _ => [(5, .p (u64s (tabL f (L + 1))))]) (fun _ => []) ?_ ?_
  · refine ev_rs [] rfl trivial ?_
    refine ev_block (ev_while (α := Nat) (fun i => i ≤ L + 1) (fun i => [(0, .p (u64s a)), (1, .p (u64s b)), (5, .own 14 0 (L + 1) 1), (6, .p (u64 (carA x y i))), (16, .p (i64 (L + 1 : Nat))), (17, .p (i64 i))]) (fun i => [(14, ob64 (tabK f (L + 1) i))]) (fun i => L + 1 - i) 0
      (Nat.zero_le _) (wk_ob rfl (fun hd => ⟨le_refl hd _, le_refl hd _, le_o rfl, le_n hd (congrArg u64 (carA_zero x y).symm), le_refl hd _, le_refl hd _, trivial⟩)) ?_)
    rintro i h1
    refine ev_rs [] rfl trivial (ev_seq (ev_cond rfl (fun h => ev_sk ?_) (fun h => ev_exit ?_)))
    · have hi : i < L + 1 := Int.ofNat_lt.mp (of_decide_eq_true h)
      have hck := length_tabK f (L + 1) i
      have hA := natAt_spec a i
      have hB := natAt_spec b i
      have hC := Add64_spec (dig x i) (dig y i) (carA x y i) (hc1 i)
      rw [gx] at hA
      rw [gy] at hB
      rw [hfi, hci] at hC
      refine ev_seq (ev_block ?_)
      refine ev_rs [] rfl trivial ?_
      refine ev_region [u64 (dig x i), u64 (dig y i), .tup 2 (two (u64 (f i)) (u64 (carA x y (i + 1))))] rfl ?_ ?_
      · exact ⟨(by omega : i + 1 ≤ (tabK f (L + 1) i).length), ⟨by omega, by omega⟩, hC, .inl hB, .inl hA, trivial⟩
      refine ev_set 14 i (f i) rfl rfl rfl (by omega) ?_
      exact ev_region [] rfl trivial ⟨i + 1, hi, by dsimp only; omega, wk_ob rfl (fun hd => ⟨le_refl hd _, le_refl hd _, le_o rfl, le_refl hd _, le_refl hd _, le_n hd (congrArg (fun z => PV.val (.int .i64 z)) (wrapI _ (by omega) (by omega))), trivial⟩)⟩
    · have hi : i = L + 1 := by
        have := of_decide_eq_false h
        omega
      subst hi
      exact at0 () trivial ⟨le_fz' rfl (length_tabK f (L + 1) (L + 1)).symm (tabK_all f (L + 1)), trivial⟩
  rintro ⟨⟩ -
  exact ev_rs [u64s z] rfl ⟨.inl hT, trivial⟩ (ev_ret (ret1 (fz_p (PLe.refl _))))

end Go.Proofs

/- Numbers as words, walked: products by a word, what is left, which is less. -/
set_option linter.unusedVariables false
namespace Go.Proofs
open Go Vinc Vinc.Num

theorem sub9 (xs : List Nat) : ∀ q ∈ [((900 : Nat), ob64 xs)], ∀ j, j < q.2.n → subA ([((900 : Nat), ob64 xs)].map (·.1)) (q.2.f j) := fun q hq j hj => by
  obtain rfl := List.mem_singleton.mp hq
  trivial

theorem pre9 (xs ys : List Nat) : ∀ q ∈ [((900 : Nat), ob64 xs)], (hOf [((900 : Nat), ob64 ys)] q.1).isSome = true ∧ (fun i : Nat => i) q.1 = q.1 := fun q hq => by
  obtain rfl := List.mem_singleton.mp hq
  exact ⟨rfl, rfl⟩

theorem obs9 {c : Cx} {σ : St} {ys : List Nat} (h : σ.h 900 = some (ob64 ys)) : Obs c σ (mk [] [(900, ob64 ys)]) (fun i => i) [(900, ob64 ys)] :=
  ⟨⟨_, h, Nat.le_refl _, fun j _ => le_refl (ren_list fun q hq => by
    obtain rfl := List.mem_singleton.mp hq
    show (σ.h 900).isSome = true
    rw [h]; rfl) _⟩, trivial⟩

theorem tabK_full {f : Nat → Nat} {n i : Nat} (hi : i ≤ n) (h : ∀ j, i ≤ j → j < n → f j = 0) : tabK f n i = tabL f n := by
  refine list_ext (n := n) (length_tabK f n i) (len_tabL f n) fun j hj => ?_
  rw [tabK_at f n i hi, getD_tabL, if_pos hj]
  split
  · rfl
  · exact (h j (by omega) hj).symm

set_option maxRecDepth 40000 in
theorem into_spec (x w : Nat) (hx : x < BW ^ 8) (hw : w < BW) (a : List Nat) (ha : wds x = a) (L : Nat) (hL : a.length = L) :
    CallSpecX Tryz.pr.P Tryz.pr.G 112 [.own 900 0 (L + 2) 1, .p (u64s a), .p (u64 w), .p (i64 ((0 : Nat) : Int))] [(900, ob64 (tabK (dig (x * w)) (L + 2) 0))] [(900, ob64 (tabL (dig (x * w)) (L + 2)))] (.p (.val (.tuple #[]))) := by
  have lx : a.length ≤ 8 := ha ▸ wds_len8 x
  have px : x < BW ^ L := by have := lt_wds hx; rw [ha, hL] at this; exact this
  have gx : ∀ j, a.getD j 0 = dig x j := fun j => by rw [← ha]; exact getD_wds hx j
  have hw' : w < 18446744073709551616 := hw
  obtain ⟨f, hf⟩ : ∃ f, dig (x * w) = f := ⟨_, rfl⟩
  obtain ⟨cm, hcm⟩ : ∃ cm, carM x w = cm := ⟨_, rfl⟩
  have hcl : ∀ i, cm i < 18446744073709551616 := fun i => by rw [← hcm]; exact carM_lt hw
  have hfi : ∀ i, (dig x i * w + cm i) % 18446744073709551616 = f i := fun i => by rw [← hf, ← hcm]; exact (dig_mul x w i).symm
  have hci : ∀ i, (dig x i * w + cm i) / 18446744073709551616 = cm (i + 1) := fun i => by rw [← hcm]; exact (carM_succ x w i).symm
  have hfl : ∀ i, f i < 18446744073709551616 := fun i => by rw [← hfi i]; exact Nat.mod_lt _ (by decide)
  have hlast : cm L = f L := by rw [← hf, ← hcm]; exact carM_last px hw
  have hz : ∀ j, L + 1 ≤ j → f j = 0 := fun j hj => by rw [← hf]; exact dig_ge (Num.mul_lt px hw) hj
  have hc0 : cm 0 = 0 := by rw [← hcm]; exact carM_zero x w
  have dl := dig_lt' x
  rw [hf]
  clear hf hcm
  generalize dig x = d at *
  refine callSpecX_of Tryz.pr Tryz.func112 rfl rfl rfl (fun z hz => ?_) (sub9 _) fun w0 ok0 hok hG mine hmine lc => ?_
  · simp only [List.mem_cons, List.not_mem_nil, or_false] at hz
    rcases hz with rfl | rfl | rfl | rfl
    · exact List.mem_cons_self
    · trivial
    · trivial
    · trivial
  refine ev_rs [] rfl trivial ?_
  have e0 : ∀ i : Nat, i ≤ L + 2 → IntKind.wrap .i64 (((0 : Nat) : Int) + (i : Int)) = (i : Int) := fun i hi => by rw [wrapI _ (by omega) (by omega)]; omega
  refine ev_at (α := Unit) (fun _ => True) (fun _ => [(0, .own 900 0 (L + 2) 1), (1, .p (u64s a)), (3, .p (i64 ((0 : Nat) : Int))), (8, .p (u64 (f L))), (1000, .is 900 (lc 900))]) (fun _ => [(900, ob64 (tabK f (L + 2) L))]) ?_ ?_
  · refine ev_rs [] rfl trivial ?_
    refine ev_block (ev_while (α := Nat) (fun i => i ≤ L) (fun i => [(0, .own 900 0 (L + 2) 1), (1, .p (u64s a)), (2, .p (u64 w)), (3, .p (i64 ((0 : Nat) : Int))), (8, .p (u64 (cm i))), (15, .p (u64s a)), (16, .p (i64 L)), (17, .p (i64 i)), (1000, .is 900 (lc 900))]) (fun i => [(900, ob64 (tabK f (L + 2) i))]) (fun i => L - i) 0
      (Nat.zero_le _) (wk_ob rfl (fun hd => ⟨le_o rfl, le_refl hd _, le_refl hd _, le_refl hd _, le_n hd (congrArg u64 hc0.symm), le_refl hd _, le_n hd (congrArg (fun n : Nat => i64 n) hL), le_refl hd _, le_s rfl, trivial⟩)) ?_)
    rintro i h1
    refine ev_rs [] rfl trivial (ev_seq (ev_cond rfl (fun h => ev_sk ?_) (fun h => ev_exit ?_)))
    · have hi : i < L := Int.ofNat_lt.mp (of_decide_eq_true h)
      have hck := length_tabK f (L + 2) i
      have e1 := e0 i (by omega)
      have e2 : (IntKind.wrap .i64 (((0 : Nat) : Int) + (i : Int))).toNat = i := by rw [e1, Int.toNat_natCast]
      have hg : (tabK f (L + 2) i).getD i 0 = 0 := by rw [tabK_at f _ i (by omega), if_neg (Nat.lt_irrefl i)]
      have hM := Mul64_spec (d i) w (dl i) hw'
      obtain ⟨hi', hhi⟩ : ∃ z, d i * w / 18446744073709551616 = z := ⟨_, rfl⟩
      obtain ⟨lo, hlo⟩ : ∃ z, d i * w % 18446744073709551616 = z := ⟨_, rfl⟩
      rw [hhi, hlo] at hM
      have c1 := hcl i
      have c2 := hcl (i + 1)
      have g1 := hfi i
      have g2 := hci i
      have g3 := hfl i
      have hA1 := Add64_spec lo (cm i) 0 (by decide)
      have a1 : (lo + cm i + 0) % 18446744073709551616 = f i := by omega
      obtain ⟨k1, hk1⟩ : ∃ z, (lo + cm i + 0) / 18446744073709551616 = z := ⟨_, rfl⟩
      rw [a1, hk1] at hA1
      have a2 : hi' + k1 = cm (i + 1) := by omega
      have hA2 : CallOk Tryz.pr.P Tryz.pr.G 109 [u64 ((tabK f (L + 2) i).getD (IntKind.wrap .i64 (((0 : Nat) : Int) + (i : Int))).toNat 0), u64 (f i), u64 0] (.tup 2 (two (u64 (f i)) (u64 0))) := by
        have := Add64_spec 0 (f i) 0 (by decide)
        rw [show (0 + f i + 0) % 18446744073709551616 = f i by omega, show (0 + f i + 0) / 18446744073709551616 = 0 by omega] at this
        rw [e2, hg]
        exact this
      have b1 : (0 : Int) ≤ IntKind.wrap .i64 (((0 : Nat) : Int) + (i : Int)) := by rw [e1]; omega
      have b2 : IntKind.wrap .i64 (((0 : Nat) : Int) + (i : Int)) < ((L + 2 : Nat) : Int) := by rw [e1]; omega
      have b3 : (IntKind.wrap .i64 (((0 : Nat) : Int) + (i : Int))).toNat < (tabK f (L + 2) i).length := by rw [e2]; omega
      have b4 : (IntKind.wrap .i64 (((0 : Nat) : Int) + (i : Int))).toNat + 1 ≤ (tabK f (L + 2) i).length := by rw [e2]; omega
      have hil : (i : Int) < (a.length : Int) := by omega
      refine ev_seq (ev_block ?_)
      refine ev_rs [] rfl ⟨(by omega : i < a.length), ⟨by omega, hil⟩, trivial⟩ (ev_n 10 (d i) rfl (toN (gx i)) ?_)
      refine ev_rs [.tup 2 (two (u64 hi') (u64 lo))] rfl ⟨.inl hM, trivial⟩ ?_
      refine ev_rs [] rfl trivial ?_
      refine ev_rs [.tup 2 (two (u64 (f i)) (u64 k1))] rfl ⟨hA1, trivial⟩ ?_
      refine ev_rs [] rfl trivial (ev_n 11 (cm (i + 1)) rfl (by rw [wrapAdd, a2, Nat.mod_eq_of_lt c2]) ?_)
      refine ev_rs [.tup 2 (two (u64 (f i)) (u64 0))] rfl (by repeat' (first | exact trivial | exact gd_t | exact gd_f | exact hA2 | exact b1 | exact b2 | exact b3 | exact b4 | exact (fun _ => rfl) | intro _ | apply And.intro | assumption | exact rfl | exact gd_t (by assumption) | exact gd_f (by assumption) | exact gd_a (by assumption) (by assumption) | exact gd_b (by assumption) (by assumption))) ?_
      refine ev_set 900 i (f i) rfl e2 rfl (by omega) ?_
      refine ev_region [] rfl trivial ?_
      exact ev_region [] rfl trivial ⟨i + 1, hi, by dsimp only; omega, wk_ob rfl (fun hd => ⟨le_o rfl, le_refl hd _, le_refl hd _, le_refl hd _, le_n hd (congrArg (fun z => PV.val (.int .u64 z)) (show IntKind.wrap .u64 (((cm (i + 1) : Nat) : Int) + ((0 : Nat) : Int)) = ((cm (i + 1) : Nat) : Int) by rw [wrapAdd, Nat.add_zero, Nat.mod_eq_of_lt c2])), le_refl hd _, le_refl hd _, le_n hd (congrArg (fun z => PV.val (.int .i64 z)) (wrapI _ (by omega) (by omega))), le_s rfl, trivial⟩)⟩
    · have hi : i = L := by
        have := of_decide_eq_false h
        omega
      subst hi
      exact at_ob () trivial rfl (fun hd => ⟨le_o rfl, le_refl hd _, le_refl hd _, le_n hd (congrArg u64 hlast), le_s rfl, trivial⟩)
  rintro ⟨⟩ -
  refine ev_rs [] rfl trivial (ev_eq 14 (.p (i64 L)) (congrArg (fun z => AV.p (PV.val (.int .i64 z))) (by rw [hL]; exact e0 L (by omega))) ?_)
  obtain ⟨cc, cc1, cc2⟩ : ∃ cc : Nat → Nat, cc L = f L ∧ cc (L + 1) = 0 := ⟨fun k => if k = L then f L else 0, if_pos rfl, if_neg (by omega)⟩
  refine ev_block (ev_while (α := Nat) (fun k => k = L ∨ k = L + 1) (fun k => [(0, .own 900 0 (L + 2) 1), (8, .p (u64 (cc k))), (14, .p (i64 k)), (1000, .is 900 (lc 900))]) (fun k => [(900, ob64 (tabK f (L + 2) k))]) (fun k => L + 1 - k) L
    (.inl rfl) (wk_ob rfl (fun hd => ⟨le_o rfl, le_n hd (congrArg u64 cc1.symm), le_refl hd _, le_s rfl, trivial⟩)) ?_)
  rintro k hk
  refine ev_seq (ev_rs [] rfl trivial (ev_cond rfl (fun h => ev_sk ?_) (fun h => ev_exit ?_)))
  · have h0 : 0 < cc k := Int.ofNat_lt.mp (of_decide_eq_true h)
    rcases hk with rfl | rfl
    · have hck := length_tabK f (k + 2) k
      have hg : (tabK f (k + 2) k).getD k 0 = 0 := by rw [tabK_at f _ k (by omega), if_neg (Nat.lt_irrefl k)]
      have g3 := hfl k
      have hA2 : CallOk Tryz.pr.P Tryz.pr.G 109 [u64 ((tabK f (k + 2) k).getD k 0), u64 (cc k), u64 0] (.tup 2 (two (u64 (f k)) (u64 0))) := by
        have := Add64_spec 0 (f k) 0 (by decide)
        rw [show (0 + f k + 0) % 18446744073709551616 = f k by omega, show (0 + f k + 0) / 18446744073709551616 = 0 by omega] at this
        rw [hg, cc1]
        exact this
      have b1 : (0 : Int) ≤ (k : Int) := by omega
      have b2 : (k : Int) < ((k + 2 : Nat) : Int) := by omega
      have b3 : k < (tabK f (k + 2) k).length := by omega
      have b4 : k + 1 ≤ (tabK f (k + 2) k).length := by omega
      refine ev_seq (ev_block ?_)
      refine ev_region [.tup 2 (two (u64 (f k)) (u64 0))] rfl (by repeat' (first | exact trivial | exact gd_t | exact gd_f | exact hA2 | exact b1 | exact b2 | exact b3 | exact b4 | exact (fun _ => rfl) | intro _ | apply And.intro | assumption | exact rfl | exact gd_t (by assumption) | exact gd_f (by assumption) | exact gd_a (by assumption) (by assumption) | exact gd_b (by assumption) (by assumption))) ?_
      refine ev_set 900 k (f k) rfl rfl rfl b3 ?_
      exact ev_region [] rfl trivial ⟨k + 1, .inr rfl, by dsimp only; omega, wk_ob rfl (fun hd => ⟨le_o rfl, le_n hd (congrArg u64 cc2.symm), le_n hd (congrArg (fun z => PV.val (.int .i64 z)) (wrapI _ (by omega) (by omega))), le_s rfl, trivial⟩)⟩
    · rw [cc2] at h0
      exact absurd h0 (Nat.lt_irrefl 0)
  · have h0 : cc k = 0 := by
      have := of_decide_eq_false h
      omega
    have hall : tabK f (L + 2) k = tabL f (L + 2) := by
      rcases hk with rfl | rfl
      · refine tabK_full (by omega) fun j h1 h2 => ?_
        rcases Nat.eq_or_lt_of_le h1 with h3 | h3
        · rw [← h3, ← cc1, h0]
        · exact hz j h3
      · exact tabK_full (by omega) fun j h1 h2 => hz j h1
    exact retX0 (fun i => i) (pre9 _ _) ⟨rfl, trivial⟩ (obs9 (congrArg (fun l => some (ob64 l)) hall)) rfl

end Go.Proofs

/- Numbers as words, walked: products by a word, what is left, which is less; division by what is greater. -/
set_option linter.unusedVariables false
namespace Go.Proofs
open Go Vinc Vinc.Num

theorem natMul_spec (x w : Nat) (hx : x < BW ^ 8) (hw : w < BW) (hxw : x * w < BW ^ 8) : CallSpec Tryz.pr.P Tryz.pr.G 99 [u64s (wds x), u64s (wds w)] (u64s (wds (x * w))) := by
  have lx := wds_len8 x
  have px := lt_wds hx
  have tx := natTrim_spec (wds x) (by omega)
  rw [trim_wds] at tx
  have lw := len_wds (BW8 hw) (L := 1) (by rw [Nat.pow_one]; exact hw)
  have tw := natTrim_spec (wds w) (by omega)
  rw [trim_wds] at tw
  obtain ⟨f, hf⟩ : ∃ f, dig (x * w) = f := ⟨_, rfl⟩
  obtain ⟨b, hb⟩ : ∃ b, wds w = b := ⟨_, rfl⟩
  obtain ⟨a, ha⟩ : ∃ a, wds x = a := ⟨_, rfl⟩
  have hI := fun hL => into_spec x w hx hw a ha a.length hL
  rw [hf] at hI
  have hbw : b.length = 1 → b.getD 0 0 = w := fun h => by
    rw [← hb, getD_wds (BW8 hw)]
    unfold dig
    rw [Nat.pow_zero, Nat.div_one, Nat.mod_eq_of_lt hw]
  obtain ⟨n, hn⟩ : ∃ n, a.length + b.length + 1 = n := ⟨_, rfl⟩
  have hlt : x * w < BW ^ n := by
    rw [ha] at px
    rcases Nat.eq_zero_or_pos b.length with h0 | h0
    · have hw0 : w = 0 := by
        rcases Nat.eq_zero_or_pos w with h | h
        · exact h
        · have := wds_pos (BW8 hw) h
          rw [hb] at this
          omega
      rw [hw0, Nat.mul_zero]
      exact BW_pow n
    · exact Nat.lt_of_lt_of_le (Num.mul_lt px hw) (Nat.pow_le_pow_right BW_pos (by omega))
  have htr := trim_dig hxw hlt
  rw [hf] at htr
  have hT := natTrim_spec (tabL f n) (by rw [len_tabL, ← hn, ← ha, ← hb]; omega)
  rw [htr] at hT
  have hz0 : b.length = 0 → tabK f n 0 = tabL f n := fun h => by
    have hw0 : w = 0 := by
      rcases Nat.eq_zero_or_pos w with h1 | h1
      · exact h1
      · have := wds_pos (BW8 hw) h1
        rw [hb] at this
        omega
    refine tabK_full (Nat.zero_le _) fun j _ _ => ?_
    rw [← hf, hw0, Nat.mul_zero]
    unfold dig
    rw [Nat.zero_div, Nat.zero_mod]
  rw [hb] at lw tw ⊢
  rw [ha] at lx tx ⊢
  generalize wds (x * w) = z at *
  have hmk : IntKind.wrap .i64 (IntKind.wrap .i64 ((a.length : Int) + (b.length : Int)) + 1) = (n : Int) := by
    rw [wrapI ((a.length : Int) + (b.length : Int)) (by omega) (by omega), wrapI _ (by omega) (by omega)]; omega
  refine callSpec_of Tryz.pr Tryz.func99 rfl rfl rfl fun w0 ok0 hok hG => ?_
  refine ev_rs [] rfl trivial ?_
  refine ev_rs [u64s a, u64s b] rfl ⟨.inl tw, .inl tx, trivial⟩ ?_
  refine ev_rs [] rfl ?_ ?_
  · refine ⟨⟨?_, ?_, ?_⟩, trivial⟩
    · exact hmk ▸ Int.natCast_nonneg _
    · exact Int.le_refl _
    · exact hmk ▸ (by omega : (n : Int) ≤ 1099511627776)
  refine ev_made 5 18 n rfl rfl (show (IntKind.wrap .i64 (IntKind.wrap .i64 ((a.length : Int) + (b.length : Int)) + 1)).toNat = _ by rw [hmk]; rfl) ?_
  refine ev_at (α := Unit) (fun _ => True) (fun _ => [(5, .p (u64s (tabL f n)))]) (fun _ => []) ?_ ?_
  · refine ev_rs [] rfl trivial ?_
    obtain ⟨g, g0, g1⟩ : ∃ g : Nat → List Nat, g 0 = tabK f n 0 ∧ g 1 = tabL f n := ⟨fun i => if i = 0 then tabK f n 0 else tabL f n, rfl, rfl⟩
    have hgl : ∀ i, i ≤ 1 → (g i).length = n := fun i hi => by
      rcases (by omega : i = 0 ∨ i = 1) with rfl | rfl
      · rw [g0]; exact length_tabK f n 0
      · rw [g1]; exact len_tabL f n
    refine ev_block (ev_while (α := Nat) (fun i => i ≤ b.length) (fun i => [(0, .p (u64s a)), (5, .own 900 0 n 1), (19, .p (u64s b)), (20, .p (i64 b.length)), (21, .p (i64 i))]) (fun i => [(900, ob64 (g i))]) (fun i => b.length - i) 0
      (Nat.zero_le _) (wk_ren (i' := 18) (congrArg (fun l => some (ob64 l)) g0.symm) (fun hd => ⟨le_refl hd _, le_ren rfl rfl, le_refl hd _, le_refl hd _, le_refl hd _, trivial⟩)) ?_)
    rintro i h1
    refine ev_rs [] rfl trivial (ev_seq (ev_cond rfl (fun h => ev_sk ?_) (fun h => ev_exit ?_)))
    · have hi : i < b.length := Int.ofNat_lt.mp (of_decide_eq_true h)
      have hi0 : i = 0 := by omega
      subst hi0
      have hb1 : b.length = 1 := by omega
      have hn2 : a.length + 2 = n := by omega
      have hI := hI rfl
      rw [hn2] at hI
      refine ev_seq (ev_block ?_)
      refine ev_rs [] rfl ⟨hi, ⟨by omega, by omega⟩, trivial⟩ (ev_n 7 w rfl (toN (hbw hb1)) ?_)
      refine ev_ob 900 (ob64 (tabK f n 0)) (congrArg (fun l => some (ob64 l)) g0) ?_
      refine ev_regionG [.x ⟨[.own 900 0 n 1, .p (u64s a), .p (u64 w), .p (i64 ((0 : Nat) : Int))], [(900, ob64 (tabK f n 0))], [(900, ob64 (tabL f n))], .p (.val (.tuple #[]))⟩] rfl ⟨⟨rfl, ⟨rfl, trivial⟩, hI⟩, trivial⟩ ?_
      exact ev_region [] rfl trivial ⟨1, by omega, by dsimp only; omega, wk_ob (congrArg (fun l => some (ob64 l)) g1.symm) (fun hd => ⟨le_refl hd _, le_o rfl, le_refl hd _, le_refl hd _, le_n hd (congrArg (fun z => PV.val (.int .i64 z)) (wrapI _ (by omega) (by omega))), trivial⟩)⟩
    · have hi : i = b.length := by
        have := of_decide_eq_false h
        omega
      subst hi
      have hgt : g b.length = tabL f n := by
        rcases (by omega : b.length = 0 ∨ b.length = 1) with h0 | h0
        · rw [h0, g0]; exact hz0 h0
        · rw [h0]; exact g1
      exact at0 () trivial ⟨le_fz' rfl (hgl b.length lw).symm hgt, trivial⟩
  rintro ⟨⟩ -
  exact ev_rs [u64s z] rfl ⟨.inl hT, trivial⟩ (ev_ret (ret1 (fz_p (PLe.refl _))))

/-! ### what is left -/

/-- A table, filled from its end. -/
def tabD (f : Nat → Nat) (n k : Nat) : List Nat := tabL (fun j => if j < k then 0 else f j) n

theorem tabD_set (f : Nat → Nat) (n k : Nat) (hk : k < n) : (tabD f n (k + 1)).set k (f k) = tabD f n k := by
  refine list_ext (n := n) (by rw [List.length_set]; exact len_tabL _ n) (len_tabL _ n) fun j hj => ?_
  rw [getD_set _ _ _ _ (by rw [show (tabD f n (k + 1)).length = n from len_tabL _ n]; exact hk)]
  unfold tabD
  rw [getD_tabL, getD_tabL, if_pos hj, if_pos hj]
  split
  · rename_i h; rw [h, if_neg (Nat.lt_irrefl k)]
  · split
    · rw [if_pos (by omega)]
    · rw [if_neg (by omega)]

theorem tabD_rep (f : Nat → Nat) (n : Nat) : tabD f n n = List.replicate n 0 := by
  refine list_ext (n := n) (len_tabL _ n) List.length_replicate fun j hj => ?_
  unfold tabD
  rw [getD_tabL, if_pos hj, if_pos hj, getD_rep]

theorem tabD_zero (f : Nat → Nat) (n : Nat) : tabD f n 0 = tabL f n := by
  refine list_ext (n := n) (len_tabL _ n) (len_tabL _ n) fun j hj => ?_
  unfold tabD
  rw [getD_tabL, getD_tabL, if_pos hj, if_pos hj, if_neg (Nat.not_lt_zero j)]

set_option maxRecDepth 40000 in
theorem natDivWord_spec (x w : Nat) (hx : x < BW ^ 8) (hw0 : 0 < w) (hw : w < BW) : CallSpec Tryz.pr.P Tryz.pr.G 66 [u64s (wds x), u64 w] (.tup 3 (three (u64s (trimN (tabL (quoD x w) (wds x).length))) (u64 (x % w)) (i64 0))) := by
  have lx := wds_len8 x
  have px := lt_wds hx
  have gx := getD_wds hx
  have hw' : w < 18446744073709551616 := hw
  have dl := dig_lt' x
  obtain ⟨f, hf⟩ : ∃ f, quoD x w = f := ⟨_, rfl⟩
  obtain ⟨r, hr⟩ : ∃ r : Nat → Nat, r = fun k => x / BW ^ k % w := ⟨_, rfl⟩
  have hrl : ∀ k, r k < w := fun k => by rw [hr]; exact Nat.mod_lt _ hw0
  have hfi : ∀ k, (r (k + 1) * 18446744073709551616 + dig x k) / w = f k := fun k => by rw [← hf, hr]; rfl
  have hri : ∀ k, (r (k + 1) * 18446744073709551616 + dig x k) % w = r k := fun k => by rw [hr]; exact (left_step x w k).symm
  have hr0 : r 0 = x % w := by rw [hr]; show x / BW ^ 0 % w = _; rw [Nat.pow_zero, Nat.div_one]
  have hrL : r (wds x).length = 0 := by rw [hr]; show x / BW ^ _ % w = 0; rw [Nat.div_eq_of_lt px, Nat.zero_mod]
  rw [hf, ← hr0]
  clear hf hr
  obtain ⟨a, ha⟩ : ∃ a, wds x = a := ⟨_, rfl⟩
  rw [ha] at lx px gx hrL ⊢
  generalize dig x = d at *
  have hT := natTrim_spec (tabL f a.length) (by rw [len_tabL]; omega)
  generalize trimN (tabL f a.length) = q at *
  refine callSpec_of Tryz.pr Tryz.func66 rfl rfl rfl fun w0 ok0 hok hG => ?_
  refine ev_rs [] rfl trivial ?_
  refine ev_seq (ev_rs [] rfl trivial (ev_cf (congrArg (fun z => AV.p (PV.val (.bool z))) (show ((w : Int) == 0) = false from beq_eq_false_iff_ne.mpr (by omega))) (ev_sk ?_)))
  refine ev_rs [] rfl ⟨⟨by omega, by omega, by omega⟩, trivial⟩ ?_
  refine ev_made 7 14 a.length rfl rfl rfl ?_
  refine ev_rs [] rfl trivial ?_
  refine ev_at (α := Unit) (fun _ => True) (fun _ => [(7, .p (u64s (tabL f a.length))), (8, .p (u64 (r 0)))]) (fun _ => []) ?_ ?_
  · refine ev_rs [] rfl trivial ?_
    refine ev_block (ev_while (α := Nat) (fun k => k ≤ a.length) (fun k => [(0, .p (u64s a)), (1, .p (u64 w)), (7, .own 14 0 a.length 1), (8, .p (u64 (r k))), (9, .p (i64 ((k : Int) - 1)))]) (fun k => [(14, ob64 (tabD f a.length k))]) (fun k => k) a.length
      (Nat.le_refl _) (wk_ob (congrArg (fun l => some (ob64 l)) (tabD_rep f a.length).symm) (fun hd => ⟨le_refl hd _, le_refl hd _, le_o rfl, le_n hd (congrArg u64 hrL.symm), le_n hd (congrArg (fun z => PV.val (.int .i64 z)) (wrapI _ (by omega) (by omega))), trivial⟩)) ?_)
    rintro k h1
    refine ev_seq (ev_rs [] rfl trivial (ev_cond rfl (fun h => ev_sk ?_) (fun h => ev_exit ?_)))
    · have hk0 : (0 : Int) ≤ (k : Int) - 1 := of_decide_eq_true h
      obtain ⟨j, rfl⟩ : ∃ j, k = j + 1 := ⟨k - 1, by omega⟩
      have ej : ((j + 1 : Nat) : Int) - 1 = (j : Int) := by omega
      have hck : (tabD f a.length (j + 1)).length = a.length := len_tabL _ _
      have hD := Div64_spec (r (j + 1)) (d j) w (hrl _) (dl j) hw'
      rw [hfi, hri] at hD
      have hcall : CallOk Tryz.pr.P Tryz.pr.G 61 [u64 (r (j + 1)), u64 (a.getD j 0), u64 w] (.tup 2 (two (u64 (f j)) (u64 (r j)))) := by rw [gx]; exact .inl hD
      refine ev_eq 9 (.p (i64 j)) (congrArg (fun z => AV.p (PV.val (.int .i64 z))) ej) ?_
      have b1 : (0 : Int) ≤ (j : Int) := by omega
      have b2 : (j : Int) < (a.length : Int) := by omega
      have b3 : j < a.length := by omega
      have b4 : j + 1 ≤ (tabD f a.length (j + 1)).length := by omega
      refine ev_seq (ev_block ?_)
      refine ev_region [.tup 2 (two (u64 (f j)) (u64 (r j)))] rfl (by repeat' (first | exact trivial | exact gd_t | exact gd_f | exact hcall | exact b1 | exact b2 | exact b3 | exact b4 | exact (fun _ => rfl) | intro _ | apply And.intro | assumption | exact rfl | exact gd_t (by assumption) | exact gd_f (by assumption) | exact gd_a (by assumption) (by assumption) | exact gd_b (by assumption) (by assumption))) ?_
      refine ev_set 14 j (f j) rfl rfl rfl (by omega) ?_
      exact ev_region [] rfl trivial ⟨j, by omega, by dsimp only; omega, wk_ob (congrArg (fun l => some (ob64 l)) (tabD_set f a.length j b3)) (fun hd => ⟨le_refl hd _, le_refl hd _, le_o rfl, le_refl hd _, le_n hd (congrArg (fun z => PV.val (.int .i64 z)) (wrapI _ (by omega) (by omega))), trivial⟩)⟩
    · have hk : k = 0 := by
        have := of_decide_eq_false h
        omega
      subst hk
      exact at0 () trivial ⟨le_fz' rfl (show a.length = (tabD f a.length 0).length from (len_tabL _ _).symm) (tabD_zero f a.length), le_refl ren_nil _, trivial⟩
  rintro ⟨⟩ -
  exact ev_rs [u64s q] rfl ⟨.inl hT, trivial⟩ (ev_ret (ret3 (fz_p (PLe.refl _)) (fz_p (PLe.refl _)) (fz_p (PLe.refl _))))

end Go.Proofs

/- Numbers as words, walked: which is less; division by what is greater. Whole numbers (from 0 on). -/
set_option linter.unusedVariables false
namespace Go.Proofs
open Go Vinc Vinc.Num

set_option maxRecDepth 40000 in
theorem natCmp_lt (x y : Nat) (h : x < y) (hy : y < BW ^ 8) : CallSpec Tryz.pr.P Tryz.pr.G 97 [u64s (wds x), u64s (wds y)] (i64 (-1)) := by
  have hx : x < BW ^ 8 := Nat.lt_trans h hy
  have lx := wds_len8 x
  have ly := wds_len8 y
  have px := lt_wds hx
  have py := lt_wds hy
  have gx := getD_wds hx
  have gy := getD_wds hy
  have hle := len_lt hx hy h
  have tx := natTrim_spec (wds x) (by omega)
  have ty := natTrim_spec (wds y) (by omega)
  rw [trim_wds] at tx ty
  obtain ⟨a, ha⟩ : ∃ a, wds x = a := ⟨_, rfl⟩
  obtain ⟨b, hb⟩ : ∃ b, wds y = b := ⟨_, rfl⟩
  rw [ha] at lx px gx hle tx ⊢
  rw [hb] at ly py gy hle ty ⊢
  refine callSpec_of Tryz.pr Tryz.func97 rfl rfl rfl fun w0 ok0 hok hG => ?_
  refine ev_rs [] rfl trivial ?_
  refine ev_rs [u64s a, u64s b] rfl ⟨.inl ty, .inl tx, trivial⟩ ?_
  by_cases hll : a.length < b.length
  · refine ev_seq (ev_block ?_)
    refine ev_rs [] rfl trivial (ev_ct (congrArg (fun z => AV.p (PV.val (.bool z))) (decide_eq_true (by omega) : decide ((a.length : Int) < (b.length : Int)) = true)) ?_)
    exact ev_rs [] rfl trivial (ev_ret (ret1 (fz_p (PLe.refl _))))
  have hl2 : a.length = b.length := by omega
  refine ev_seq (ev_block ?_)
  refine ev_rs [] rfl trivial (ev_cf (congrArg (fun z => AV.p (PV.val (.bool z))) (decide_eq_false (by omega) : decide ((a.length : Int) < (b.length : Int)) = false)) ?_)
  refine ev_rs [] rfl trivial (ev_cf (congrArg (fun z => AV.p (PV.val (.bool z))) (decide_eq_false (by omega) : decide ((a.length : Int) > (b.length : Int)) = false)) (ev_skip ?_))
  refine ev_at (α := Unit) (fun _ => False) (fun _ => []) (fun _ => []) ?_ ?_
  · refine ev_rs [] rfl trivial ?_
    refine ev_block (ev_while0 (α := Nat) (fun k => k ≤ a.length ∧ x / BW ^ k = y / BW ^ k) (fun k => [(0, .p (u64s a)), (1, .p (u64s b)), (5, .p (i64 ((k : Int) - 1)))]) (fun k => k) a.length
      ⟨Nat.le_refl _, by rw [Nat.div_eq_of_lt px, hl2, Nat.div_eq_of_lt py]⟩ ⟨le_0, le_0, le_e (congrArg (fun z => PV.val (.int .i64 z)) (wrapI _ (by omega) (by omega))), trivial⟩ ?_)
    rintro k ⟨h1, h2⟩
    refine ev_seq (ev_rs [] rfl trivial (ev_cond rfl (fun h => ev_sk ?_) (fun h => ?_)))
    · have hk0 : (0 : Int) ≤ (k : Int) - 1 := of_decide_eq_true h
      obtain ⟨j, rfl⟩ : ∃ j, k = j + 1 := ⟨k - 1, by omega⟩
      have ej : ((j + 1 : Nat) : Int) - 1 = (j : Int) := by omega
      have b1 : (0 : Int) ≤ (j : Int) := by omega
      have b2 : (j : Int) < (a.length : Int) := by omega
      have b3 : j < a.length := by omega
      have b4 : (j : Int) < (b.length : Int) := by omega
      have b5 : j < b.length := by omega
      refine ev_eq 5 (.p (i64 j)) (congrArg (fun z => AV.p (PV.val (.int .i64 z))) ej) ?_
      refine ev_seq (ev_block (ev_block ?_))
      refine ev_ds [] (by kernel_rfl) rfl rfl (by repeat' (first | exact trivial | exact gd_t | exact gd_f | exact b1 | exact b2 | exact b3 | exact b4 | exact b5 | exact (fun _ => rfl) | intro _ | apply And.intro | assumption | exact rfl | exact gd_t (by assumption) | exact gd_f (by assumption) | exact gd_a (by assumption) (by assumption) | exact gd_b (by assumption) (by assumption))) (ev_cond rfl (fun h => ?_) (fun h => ?_))
      · exact ev_rs [] rfl trivial (ev_ret (ret1 (fz_p (PLe.refl _))))
      have c1 : ¬ ((a.getD j 0 : Nat) : Int) < ((b.getD j 0 : Nat) : Int) := of_decide_eq_false h
      refine ev_ds [] (by kernel_rfl) rfl rfl (by repeat' (first | exact trivial | exact gd_t | exact gd_f | exact b1 | exact b2 | exact b3 | exact b4 | exact b5 | exact (fun _ => rfl) | intro _ | apply And.intro | assumption | exact rfl | exact gd_t (by assumption) | exact gd_f (by assumption) | exact gd_a (by assumption) (by assumption) | exact gd_b (by assumption) (by assumption))) (ev_cond rfl (fun h => ?_) (fun h => ?_))
      · exfalso
        have c2 : ((a.getD j 0 : Nat) : Int) > ((b.getD j 0 : Nat) : Int) := of_decide_eq_true h
        rw [gx, gy] at c2
        have := top_lt h2.symm (by omega)
        omega
      have c2 : ¬ ((a.getD j 0 : Nat) : Int) > ((b.getD j 0 : Nat) : Int) := of_decide_eq_false h
      have ed : dig x j = dig y j := by
        rw [gx, gy] at c1 c2
        omega
      refine ev_skip ?_
      exact ev_region [] rfl trivial (round0 j ⟨by omega, top_eq h2 ed⟩ (Nat.lt_succ_self j) ⟨le_0, le_0, le_e (congrArg (fun z => PV.val (.int .i64 z)) (wrapI _ (by omega) (by omega))), trivial⟩)
    · exfalso
      have hk : k = 0 := by
        have := of_decide_eq_false h
        omega
      rw [hk, Nat.pow_zero, Nat.div_one, Nat.div_one] at h2
      omega
  rintro ⟨⟩ hF
  exact hF.elim

theorem natDivMod_lt (x y : Nat) (h : x < y) (hy : y < BW ^ 8) : CallSpec Tryz.pr.P Tryz.pr.G 107 [u64s (wds x), u64s (wds y)] (.tup 3 (three nilS (u64s (wds x)) (i64 0))) := by
  have hC := natCmp_lt x y h hy
  have lx := wds_len8 x
  have ly := wds_len8 y
  have hpos := wds_pos hy (by omega)
  have tx := natTrim_spec (wds x) (by omega)
  have ty := natTrim_spec (wds y) (by omega)
  have nx := natNorm_spec (wds x) (by omega)
  rw [trim_wds] at tx ty nx
  generalize wds x = a at *
  generalize wds y = b at *
  refine callSpec_of Tryz.pr Tryz.func107 rfl rfl rfl fun w0 ok0 hok hG => ?_
  refine ev_rs [] rfl trivial ?_
  refine ev_rs [u64s a, u64s b] rfl ⟨.inl ty, .inl tx, trivial⟩ ?_
  refine ev_seq (ev_block ?_)
  refine ev_rs [] rfl trivial (ev_cf (congrArg (fun z => AV.p (PV.val (.bool z))) (show ((b.length : Int) == 0) = false from beq_eq_false_iff_ne.mpr (by omega))) ?_)
  refine ev_rs [i64 (-1)] rfl ⟨.inl hC, trivial⟩ (ev_ct rfl ?_)
  exact ev_rs [u64s a] rfl ⟨.inl nx, trivial⟩ (ev_ret (ret3 (fz_p (PLe.refl _)) (fz_p (PLe.refl _)) (fz_p (PLe.refl _))))

/-! ### whole numbers from 0 on -/

/-- A whole number by its words. -/
abbrev bigW (a : List Nat) : PV := .agg 2 (two (Vinc.bool false) (u64s a))
abbrev bigP (n : Nat) : PV := bigW (wds n)

theorem fz_big {c : Cx} {σ : St} {o : Ob} {a : List Nat} (h0 : o.f 0 = .p (Vinc.bool false)) (h1 : o.f 1 = .p (u64s a)) : ∀ j, j < 2 → FreezeLe c σ (o.f j) (two (Vinc.bool false) (u64s a) j) := fun j hj => by
  match j, hj with
  | 0, _ => rw [h0]; exact fz_p (PLe.refl _)
  | 1, _ => rw [h1]; exact fz_p (PLe.refl _)

theorem made_spec (a : List Nat) : CallSpec Tryz.pr.P Tryz.pr.G 95 [Vinc.bool false, u64s a] (bigW a) := by
  refine callSpec_of Tryz.pr Tryz.func95 rfl rfl rfl fun w0 ok0 hok hG => ?_
  refine ev_rs [] rfl trivial ?_
  refine ev_rs [] rfl (by repeat' (first | exact trivial | exact gd_t | exact gd_f | exact leb rfl | exact (fun _ => rfl) | intro _ | apply And.intro | assumption | exact rfl | exact gd_t (by assumption) | exact gd_f (by assumption) | exact gd_a (by assumption) (by assumption) | exact gd_b (by assumption) (by assumption))) ?_
  exact ev_ret (ret_cell' (n := 2) (id := 4) rfl rfl rfl rfl rfl (leb rfl) (fz_big rfl rfl))

theorem madeNil_spec : CallSpec Tryz.pr.P Tryz.pr.G 95 [Vinc.bool false, nilS] (bigW []) := callSpec_args (as' := [Vinc.bool false, u64s []]) ⟨PLe.refl _, PLe.nil, trivial⟩ (made_spec [])

set_option maxRecDepth 20000 in
theorem From_spec (a : List Nat) (hl : a.length < 1099511627776) : CallSpec Tryz.pr.P Tryz.pr.G 100 [Vinc.bool false, u64s a] (bigW (trimN a)) := by
  have hN := natNorm_spec a hl
  generalize trimN a = t at *
  refine callSpec_of Tryz.pr Tryz.func100 rfl rfl rfl fun w0 ok0 hok hG => ?_
  refine ev_rs [] rfl trivial ?_
  refine ev_rs [u64s t, bigW t] rfl (by repeat' (first | exact trivial | exact gd_t | exact gd_f | exact leb rfl | exact .inl hN | exact .inl (made_spec t) | exact (fun _ => rfl) | intro _ | apply And.intro | assumption | exact rfl | exact gd_t (by assumption) | exact gd_f (by assumption) | exact gd_a (by assumption) (by assumption) | exact gd_b (by assumption) (by assumption))) ?_
  exact ev_ret (ret_cell' (n := 2) (id := 4) rfl rfl rfl rfl rfl (leb rfl) (fz_big rfl rfl))

theorem PLe.lit1 {g : Nat → PV} {x : Nat} (h : g 0 = u64 x) : PLe (.sl 1 1 g) (u64s [x]) := PLe.lit rfl fun j hj => by
  have hj : j < 1 := hj
  have e : j = 0 := by omega
  rw [e]
  exact h

theorem crtOf_spec (w : Nat) (hw : w < BW) : CallSpec Tryz.pr.P Tryz.pr.G 86 [u64 w] (bigP w) := by
  have hF := From_spec [w] (show (1 : Nat) < 1099511627776 by decide)
  rw [← wds_word hw] at hF
  refine callSpec_of Tryz.pr Tryz.func86 rfl rfl rfl fun w0 ok0 hok hG => ?_
  refine ev_rs [] rfl trivial ?_
  refine ev_rs [bigP w] rfl (by repeat' (first | exact trivial | exact gd_t | exact gd_f | exact leb rfl | exact .inl (callSpec_args (as' := [Vinc.bool false, u64s [w]]) ⟨PLe.refl _, PLe.lit1 rfl, trivial⟩ hF) | exact Nat.le_refl 1 | exact (fun _ => rfl) | intro _ | apply And.intro | assumption | exact rfl | exact gd_t (by assumption) | exact gd_f (by assumption) | exact gd_a (by assumption) (by assumption) | exact gd_b (by assumption) (by assumption))) ?_
  exact ev_ret (ret_cell' (n := 2) (id := 2) rfl rfl rfl rfl rfl (leb rfl) (fz_big rfl rfl))

theorem wds1 : wds 1 = [1] := wds_one (by decide) (by decide)

theorem bigOf_one : CallSpec Tryz.pr.P Tryz.pr.G 71 [i64 1] (bigP 1) := by
  show CallSpec _ _ _ _ (bigW (wds 1))
  rw [wds1]
  refine callSpec_of Tryz.pr Tryz.func71 rfl rfl rfl fun w0 ok0 hok hG => ?_
  refine ev_rs [] rfl trivial ?_
  refine ev_seq (ev_block ?_)
  refine ev_rs [] rfl trivial (ev_cf rfl ?_)
  refine ev_rs [] rfl trivial (ev_cf rfl (ev_skip ?_))
  refine ev_rs [] rfl (by repeat' (first | exact trivial | exact gd_t | exact gd_f | exact leb rfl | exact (fun _ => rfl) | intro _ | apply And.intro | assumption | exact rfl | exact gd_t (by assumption) | exact gd_f (by assumption) | exact gd_a (by assumption) (by assumption) | exact gd_b (by assumption) (by assumption))) ?_
  refine ev_ret (ret_cell' (n := 2) (id := 2) rfl rfl rfl rfl rfl (leb rfl) (fun j hj => ?_))
  match j, hj with
  | 0, _ => exact fz_p (PLe.refl _)
  | 1, _ => exact fz_own rfl (Nat.le_refl 1) (fun j hj => by
      match j, hj with
      | 0, _ => exact fz_p (PLe.refl _))

theorem sign_pos (n : Nat) (hn : n < BW ^ 8) (h0 : 0 < n) : CallSpec Tryz.pr.P Tryz.pr.G 82 [bigP n] (i64 1) := by
  have hp := wds_pos hn h0
  show CallSpec _ _ _ [bigW (wds n)] _
  generalize wds n = a at *
  refine callSpec_of Tryz.pr Tryz.func82 rfl rfl rfl fun w0 ok0 hok hG => ?_
  refine ev_rs [] rfl trivial ?_
  refine ev_rs [] rfl trivial ?_
  refine ev_seq (ev_block (ev_seq (ev_block (ev_seq (ev_block (ev_seq (ev_seq (ev_rs [] rfl (by repeat' (first | exact trivial | exact gd_t | exact gd_f | exact leb rfl | exact (fun _ => rfl) | intro _ | apply And.intro | assumption | exact rfl | exact gd_t (by assumption) | exact gd_f (by assumption) | exact gd_a (by assumption) (by assumption) | exact gd_b (by assumption) (by assumption))) (ev_cf rfl (ev_sk ?_))))))))))
  refine ev_rs [] rfl (by repeat' (first | exact trivial | exact gd_t | exact gd_f | exact leb rfl | exact (fun _ => rfl) | intro _ | apply And.intro | assumption | exact rfl | exact gd_t (by assumption) | exact gd_f (by assumption) | exact gd_a (by assumption) (by assumption) | exact gd_b (by assumption) (by assumption))) (ev_ct (congrArg (fun z => AV.p (PV.val (.bool z))) (decide_eq_true (by omega) : decide ((a.length : Int) > 0) = true)) (ev_exit ?_))
  refine ev_seq (ev_rs [] rfl trivial (ev_ret (ret1 (fz_p (PLe.refl _)))))

theorem sign_zero : CallSpec Tryz.pr.P Tryz.pr.G 82 [bigP 0] (i64 0) := by
  show CallSpec _ _ _ [bigW (wds 0)] _
  rw [wds_zero]
  refine callSpec_of Tryz.pr Tryz.func82 rfl rfl rfl fun w0 ok0 hok hG => ?_
  refine ev_rs [] rfl trivial ?_
  refine ev_rs [] rfl trivial ?_
  refine ev_seq (ev_block (ev_seq (ev_block (ev_seq (ev_block (ev_seq (ev_seq (ev_rs [] rfl (by repeat' (first | exact trivial | exact gd_t | exact gd_f | exact leb rfl | exact (fun _ => rfl) | intro _ | apply And.intro | assumption | exact rfl | exact gd_t (by assumption) | exact gd_f (by assumption) | exact gd_a (by assumption) (by assumption) | exact gd_b (by assumption) (by assumption))) (ev_cf rfl (ev_sk ?_))))))))))
  refine ev_rs [] rfl (by repeat' (first | exact trivial | exact gd_t | exact gd_f | exact leb rfl | exact (fun _ => rfl) | intro _ | apply And.intro | assumption | exact rfl | exact gd_t (by assumption) | exact gd_f (by assumption) | exact gd_a (by assumption) (by assumption) | exact gd_b (by assumption) (by assumption))) (ev_cf rfl (ev_sk (ev_exit ?_)))
  exact ev_rs [] rfl trivial (ev_ret (ret1 (fz_p (PLe.refl _))))

end Go.Proofs

/- Whole numbers from 0 on, walked: sums, products by a word, division by what is greater, what is left. -/
set_option linter.unusedVariables false
namespace Go.Proofs
open Go Vinc Vinc.Num

theorem PLe.big {n : Nat} {g : Nat → PV} {a : List Nat} (hn : n = 2) (h0 : g 0 = Vinc.bool false) (h1 : g 1 = u64s a) : PLe (.agg n g) (bigW a) := by
  subst hn
  refine PLe.agg fun j hj => ?_
  match j, hj with
  | 0, _ => exact PLe.of_eq h0
  | 1, _ => exact PLe.of_eq h1

theorem bigMod_spec (x w : Nat) (hx : x < BW ^ 8) (hw0 : 0 < w) (hw : w < BW) : CallSpec Tryz.pr.P Tryz.pr.G 60 [bigP x, u64 w] (.tup 2 (two (u64 (x % w)) (i64 0))) := by
  have hD := natDivWord_spec x w hx hw0 hw
  generalize trimN (tabL (quoD x w) (wds x).length) = q at *
  show CallSpec _ _ _ [bigW (wds x), _] _
  generalize wds x = a at *
  refine callSpec_of Tryz.pr Tryz.func60 rfl rfl rfl fun w0 ok0 hok hG => ?_
  refine ev_rs [] rfl trivial ?_
  refine ev_rs [.tup 3 (three (u64s q) (u64 (x % w)) (i64 0))] rfl (by repeat' (first | exact trivial | exact gd_t | exact gd_f | exact leb rfl | exact .inl hD | exact (fun _ => rfl) | intro _ | apply And.intro | assumption | exact rfl | exact gd_t (by assumption) | exact gd_f (by assumption) | exact gd_a (by assumption) (by assumption) | exact gd_b (by assumption) (by assumption))) ?_
  refine ev_seq (ev_rs [] rfl (by repeat' (first | exact trivial | exact gd_t | exact gd_f | exact leb rfl | exact (fun _ => rfl) | intro _ | apply And.intro | assumption | exact rfl | exact gd_t (by assumption) | exact gd_f (by assumption) | exact gd_a (by assumption) (by assumption) | exact gd_b (by assumption) (by assumption))) (ev_cf rfl (ev_sk ?_)))
  exact ev_rs [] rfl trivial (ev_ret (ret2 (fz_p (PLe.refl _)) (fz_p (PLe.refl _))))

set_option maxRecDepth 20000 in
theorem bigAdd_spec (x y : Nat) (hx : x < BW ^ 8) (hy : y < BW ^ 8) (hs : x + y < BW ^ 8) : CallSpec Tryz.pr.P Tryz.pr.G 84 [bigP x, bigP y] (bigP (x + y)) := by
  have hA := natAdd_spec x y hx hy hs
  show CallSpec _ _ _ [bigW (wds x), bigW (wds y)] (bigW (wds (x + y)))
  generalize wds (x + y) = z at *
  generalize wds x = a at *
  generalize wds y = b at *
  refine callSpec_of Tryz.pr Tryz.func84 rfl rfl rfl fun w0 ok0 hok hG => ?_
  refine ev_rs [] rfl trivial ?_
  refine ev_seq (ev_rs [] rfl (by repeat' (first | exact trivial | exact gd_t | exact gd_f | exact leb rfl | exact (fun _ => rfl) | intro _ | apply And.intro | assumption | exact rfl | exact gd_t (by assumption) | exact gd_f (by assumption) | exact gd_a (by assumption) (by assumption) | exact gd_b (by assumption) (by assumption))) (ev_ct rfl ?_))
  refine ev_ds [u64s z, bigW z] (by kernel_rfl) rfl rfl (by repeat' (first | exact trivial | exact gd_t | exact gd_f | exact leb rfl | exact .inl hA | exact .inl (made_spec z) | exact (fun _ => rfl) | intro _ | apply And.intro | assumption | exact rfl | exact gd_t (by assumption) | exact gd_f (by assumption) | exact gd_a (by assumption) (by assumption) | exact gd_b (by assumption) (by assumption))) ?_
  exact ev_ret (ret_cell' (n := 2) (id := 4) rfl rfl rfl rfl rfl (leb rfl) (fz_big rfl rfl))

set_option maxRecDepth 20000 in
theorem bigMul_spec (x w : Nat) (hx : x < BW ^ 8) (hw : w < BW) (hxw : x * w < BW ^ 8) : CallSpec Tryz.pr.P Tryz.pr.G 85 [bigP x, bigP w] (bigP (x * w)) := by
  have hM := natMul_spec x w hx hw hxw
  show CallSpec _ _ _ [bigW (wds x), bigW (wds w)] (bigW (wds (x * w)))
  generalize wds (x * w) = z at *
  generalize wds x = a at *
  generalize wds w = b at *
  refine callSpec_of Tryz.pr Tryz.func85 rfl rfl rfl fun w0 ok0 hok hG => ?_
  refine ev_rs [] rfl trivial ?_
  refine ev_ds [u64s z, bigW z] (by kernel_rfl) rfl rfl (by repeat' (first | exact trivial | exact gd_t | exact gd_f | exact leb rfl | exact .inl hM | exact .inl (made_spec z) | exact (fun _ => rfl) | intro _ | apply And.intro | assumption | exact rfl | exact gd_t (by assumption) | exact gd_f (by assumption) | exact gd_a (by assumption) (by assumption) | exact gd_b (by assumption) (by assumption))) ?_
  exact ev_ret (ret_cell' (n := 2) (id := 4) rfl rfl rfl rfl rfl (leb rfl) (fz_big rfl rfl))

set_option maxRecDepth 20000 in
theorem quoRem_lt (x y : Nat) (h : x < y) (hy : y < BW ^ 8) : CallSpec Tryz.pr.P Tryz.pr.G 93 [bigP x, bigP y] (.tup 3 (three (bigW []) (bigP x) (i64 0))) := by
  have hD := natDivMod_lt x y h hy
  show CallSpec _ _ _ [bigW (wds x), bigW (wds y)] (.tup 3 (three (bigW []) (bigW (wds x)) _))
  generalize wds x = a at *
  generalize wds y = b at *
  refine callSpec_of Tryz.pr Tryz.func93 rfl rfl rfl fun w0 ok0 hok hG => ?_
  refine ev_rs [] rfl trivial ?_
  refine ev_rs [.tup 3 (three nilS (u64s a) (i64 0))] rfl (by repeat' (first | exact trivial | exact gd_t | exact gd_f | exact leb rfl | exact .inl hD | exact (fun _ => rfl) | intro _ | apply And.intro | assumption | exact rfl | exact gd_t (by assumption) | exact gd_f (by assumption) | exact gd_a (by assumption) (by assumption) | exact gd_b (by assumption) (by assumption))) ?_
  refine ev_seq (ev_rs [] rfl trivial (ev_cf rfl (ev_sk ?_)))
  refine ev_ds [bigW [], bigW a] (by kernel_rfl) rfl rfl (by repeat' (first | exact trivial | exact gd_t | exact gd_f | exact leb rfl | exact .inl madeNil_spec | exact .inl (made_spec a) | exact (fun _ => rfl) | intro _ | apply And.intro | assumption | exact rfl | exact gd_t (by assumption) | exact gd_f (by assumption) | exact gd_a (by assumption) (by assumption) | exact gd_b (by assumption) (by assumption))) ?_
  exact ev_ret (retM3 (res_cell' (n := 2) (id := 4) rfl rfl rfl rfl rfl (leb rfl) (fz_big rfl rfl)) (res_cell' (n := 2) (id := 5) rfl rfl rfl rfl rfl (leb rfl) (fz_big rfl rfl)) (fz_p (PLe.refl _)))

set_option maxRecDepth 20000 in
theorem bigDivMod_lt (x y : Nat) (h : x < y) (hy : y < BW ^ 8) : CallSpec Tryz.pr.P Tryz.pr.G 83 [bigP x, bigP y] (.tup 3 (three (bigW []) (bigP x) (i64 0))) := by
  have hQ := quoRem_lt x y h hy
  have hSy := sign_pos y hy (by omega)
  obtain ⟨z, hz, hSx⟩ : ∃ z : Int, (z = 0 ∨ z = 1) ∧ CallSpec Tryz.pr.P Tryz.pr.G 82 [bigW (wds x)] (i64 z) := by
    rcases Nat.eq_zero_or_pos x with h0 | h0
    · subst h0; exact ⟨0, .inl rfl, sign_zero⟩
    · exact ⟨1, .inr rfl, sign_pos x (by omega) h0⟩
  show CallSpec _ _ _ [bigW (wds x), bigW (wds y)] (.tup 3 (three (bigW []) (bigW (wds x)) _))
  have hQ : CallSpec Tryz.pr.P Tryz.pr.G 93 [bigW (wds x), bigW (wds y)] (.tup 3 (three (bigW []) (bigW (wds x)) (i64 0))) := hQ
  have hSy : CallSpec Tryz.pr.P Tryz.pr.G 82 [bigW (wds y)] (i64 1) := hSy
  generalize wds x = a at *
  generalize wds y = b at *
  have hc : decide (IntKind.wrap .i64 (z * 1) < 0) = false := by
    rcases hz with rfl | rfl <;> rfl
  refine callSpec_of Tryz.pr Tryz.func83 rfl rfl rfl fun w0 ok0 hok hG => ?_
  refine ev_rs [] rfl trivial ?_
  refine ev_rs [.tup 3 (three (bigW []) (bigW a) (i64 0))] rfl (by repeat' (first | exact trivial | exact gd_t | exact gd_f | exact leb rfl | exact .inl (callSpec_args (as' := [bigW a, bigW b]) ⟨PLe.big rfl rfl rfl, PLe.big rfl rfl rfl, trivial⟩ hQ) | exact (fun _ => rfl) | intro _ | apply And.intro | assumption | exact rfl | exact gd_t (by assumption) | exact gd_f (by assumption) | exact gd_a (by assumption) (by assumption) | exact gd_b (by assumption) (by assumption))) ?_
  refine ev_seq (ev_ds [i64 z, i64 1] (by kernel_rfl) rfl rfl (by repeat' (first | exact trivial | exact gd_t | exact gd_f | exact leb rfl | exact .inl (callSpec_args (as' := [bigW a]) ⟨PLe.big rfl rfl rfl, trivial⟩ hSx) | exact .inl (callSpec_args (as' := [bigW b]) ⟨PLe.big rfl rfl rfl, trivial⟩ hSy) | exact (fun _ => rfl) | intro _ | apply And.intro | assumption | exact rfl | exact gd_t (by assumption) | exact gd_f (by assumption) | exact gd_a (by assumption) (by assumption) | exact gd_b (by assumption) (by assumption))) (ev_cf (congrArg (fun z => AV.p (PV.val (.bool z))) hc) (ev_sk ?_)))
  refine ev_ds [] (by kernel_rfl) rfl rfl (by repeat' (first | exact trivial | exact gd_t | exact gd_f | exact leb rfl | exact (fun _ => rfl) | intro _ | apply And.intro | assumption | exact rfl | exact gd_t (by assumption) | exact gd_f (by assumption) | exact gd_a (by assumption) (by assumption) | exact gd_b (by assumption) (by assumption))) ?_
  exact ev_ret (retM3 (res_cell' (n := 2) (id := 4) rfl rfl rfl rfl rfl (leb rfl) (fz_big rfl rfl)) (res_cell' (n := 2) (id := 5) rfl rfl rfl rfl rfl (leb rfl) (fz_big rfl rfl)) (fz_p (PLe.refl _)))

theorem may_spec {m : Nat} (hm : MayM m) : CallSpec Tryz.pr.P Tryz.pr.G 81 [u64 m] (Vinc.bool true) := by
  have h1 := hm.1
  have h2 := hm.2
  refine callSpec_of Tryz.pr Tryz.func81 rfl rfl rfl fun w0 ok0 hok hG => ?_
  refine ev_rs [] rfl trivial ?_
  refine ev_rs [] rfl (by repeat' (first | exact trivial | exact gd_t | exact gd_f | exact (fun _ => rfl) | intro _ | apply And.intro | assumption | exact rfl | exact gd_t (by assumption) | exact gd_f (by assumption) | exact gd_a (by assumption) (by assumption) | exact gd_b (by assumption) (by assumption))) (ev_ret (ret1 (fz_p (PLe.of_eq (congrArg Vinc.bool ?_)))))
  rw [decide_eq_true (show (m : Int) ≥ 2 by omega), decide_eq_true (show (m : Int) < 9223372036854775808 by omega)]
  rfl

end Go.Proofs

/- A number, told by what is left of it, walked. -/
set_option linter.unusedVariables false
namespace Go.Proofs
open Go Vinc Vinc.Num

theorem minv_cg {m x : Nat} (hm : 2 ≤ m) (h : Nat.gcd x m = 1) : cg m ((minv m x : Int) * (x : Int)) 1 := by
  obtain ⟨h1, h2⟩ := minv_spec hm h
  have h3 : cg m ((x * minv m x % m : Nat) : Int) ((x : Int) * (minv m x : Nat)) := cg_mul2 _ _
  rw [h2, Int.mul_comm] at h3
  exact h3.symm

set_option maxRecDepth 40000 in
theorem step_spec {m : Nat} (hm : MayM m) (all c : Nat) (h0 : 0 < all) (hg : Nat.gcd all m = 1) (ha : all < BW ^ 8) (hall : all * m < BW ^ 8) :
    CallSpec Tryz.pr.P Tryz.pr.G 72 [bigP (c % all), bigP all, u64 (c % m), u64 m] (.tup 3 (three (bigP (c % (all * m))) (bigP (all * m)) (i64 0))) := by
  have hm1 := hm.1
  have hm2 := hm.2
  have hmW : m < BW := Nat.lt_trans hm2 (by decide)
  have hx : c % all < all := Nat.mod_lt _ h0
  have hgm : Nat.gcd (all % m) m = 1 := (gcd_mod all m).trans hg
  have hinv : cg m ((minv m (all % m) : Int) * (all : Int)) 1 := ((cg.refl _).mul (cg.mod all).symm).trans (minv_cg hm1 hgm)
  have hstep := crt_step (c := c) h0 (by omega : 0 < m) hinv
  have hSg := sign_pos all ha h0
  have hDM := bigDivMod_lt (c % all) all hx ha
  have hM1 := bigMod_spec all m ha (by omega) hmW
  have hM2 := bigMod_spec (c % all) m (by omega) (by omega) hmW
  have hI := Inv_spec (b := bk m) (t := tw m) hm (all % m)
  rw [(wrong_gcd hm).mpr hgm] at hI
  have hS := Sb_spec (b := bk m) (t := tw m) hm (c % m) (c % all % m)
  obtain ⟨s, hs⟩ : ∃ s, sb (c % m) (c % all % m) m = s := ⟨_, rfl⟩
  rw [hs] at hS hstep
  have hMu := Mul_spec (b := bk m) (t := tw m) hm s (minv m (all % m))
  obtain ⟨t, ht⟩ : ∃ t, s * minv m (all % m) % m = t := ⟨_, rfl⟩
  rw [ht] at hMu hstep
  have htm : t < m := by rw [← ht]; exact Nat.mod_lt _ (by omega)
  have hat : all * t < BW ^ 8 := Nat.lt_of_le_of_lt (Nat.mul_le_mul_left _ (Nat.le_of_lt htm)) hall
  have hlt : c % (all * m) < all * m := Nat.mod_lt _ (Nat.mul_pos h0 (by omega))
  have hO1 := crtOf_spec t (by omega)
  have hO2 := crtOf_spec m hmW
  have hP1 := bigMul_spec all t ha (by omega) hat
  have hP2 := bigMul_spec all m ha hmW hall
  have hA := bigAdd_spec (c % all) (all * t) (by omega) hat (by omega)
  rw [hstep] at hA
  have hSg : CallSpec Tryz.pr.P Tryz.pr.G 82 [bigW (wds all)] (i64 1) := hSg
  have hDM : CallSpec Tryz.pr.P Tryz.pr.G 83 [bigW (wds (c % all)), bigW (wds all)] (.tup 3 (three (bigW []) (bigW (wds (c % all))) (i64 0))) := hDM
  have hM1 : CallSpec Tryz.pr.P Tryz.pr.G 60 [bigW (wds all), u64 m] (.tup 2 (two (u64 (all % m)) (i64 0))) := hM1
  have hM2 : CallSpec Tryz.pr.P Tryz.pr.G 60 [bigW (wds (c % all)), u64 m] (.tup 2 (two (u64 (c % all % m)) (i64 0))) := hM2
  have hO1 : CallSpec Tryz.pr.P Tryz.pr.G 86 [u64 t] (bigW (wds t)) := hO1
  have hO2 : CallSpec Tryz.pr.P Tryz.pr.G 86 [u64 m] (bigW (wds m)) := hO2
  have hP1 : CallSpec Tryz.pr.P Tryz.pr.G 85 [bigW (wds all), bigW (wds t)] (bigW (wds (all * t))) := hP1
  have hP2 : CallSpec Tryz.pr.P Tryz.pr.G 85 [bigW (wds all), bigW (wds m)] (bigW (wds (all * m))) := hP2
  have hA : CallSpec Tryz.pr.P Tryz.pr.G 84 [bigW (wds (c % all)), bigW (wds (all * t))] (bigW (wds (c % (all * m)))) := hA
  show CallSpec _ _ _ [bigW (wds (c % all)), bigW (wds all), _, _] (.tup 3 (three (bigW (wds (c % (all * m)))) (bigW (wds (all * m))) _))
  generalize wds (c % (all * m)) = z1 at *
  generalize wds (all * m) = z2 at *
  generalize wds (all * t) = z3 at *
  generalize wds (c % all) = x1 at *
  generalize wds all = y1 at *
  generalize wds t = t1 at *
  generalize wds m = m1 at *
  generalize minv m (all % m) = iv at *
  generalize all % m = am at *
  generalize c % all % m = xm at *
  generalize c % m = r at *
  have hNew := New_spec hm
  refine callSpec_of Tryz.pr Tryz.func72 rfl rfl rfl fun w0 ok0 hok hG => ?_
  refine ev_rs [] rfl trivial ?_
  refine ev_seq (ev_rs [i64 1, Vinc.bool true] rfl (by repeat' (first | exact trivial | exact gd_t | exact gd_f | exact leb rfl | exact .inl (callSpec_args (as' := [bigW y1]) ⟨PLe.big rfl rfl rfl, trivial⟩ hSg) | exact .inl (may_spec hm) | exact (fun _ => rfl) | intro _ | apply And.intro | assumption | exact rfl | exact gd_t (by assumption) | exact gd_f (by assumption) | exact gd_a (by assumption) (by assumption) | exact gd_b (by assumption) (by assumption))) (ev_cf rfl (ev_sk ?_)))
  refine ev_rs [.tup 2 (two (newF m) (i64 0))] rfl ⟨.inl hNew, trivial⟩ ?_
  refine ev_seq (ev_rs [] rfl trivial (ev_cf rfl (ev_sk ?_)))
  refine ev_rs [.tup 3 (three (bigW []) (bigW x1) (i64 0))] rfl (by repeat' (first | exact trivial | exact gd_t | exact gd_f | exact leb rfl | exact .inl (callSpec_args (as' := [bigW x1, bigW y1]) ⟨PLe.big rfl rfl rfl, PLe.big rfl rfl rfl, trivial⟩ hDM) | exact (fun _ => rfl) | intro _ | apply And.intro | assumption | exact rfl | exact gd_t (by assumption) | exact gd_f (by assumption) | exact gd_a (by assumption) (by assumption) | exact gd_b (by assumption) (by assumption))) ?_
  refine ev_rs [.tup 2 (two (u64 am) (i64 0))] rfl (by repeat' (first | exact trivial | exact gd_t | exact gd_f | exact leb rfl | exact .inl (callSpec_args (as' := [bigW y1, u64 m]) ⟨PLe.big rfl rfl rfl, PLe.refl _, trivial⟩ hM1) | exact (fun _ => rfl) | intro _ | apply And.intro | assumption | exact rfl | exact gd_t (by assumption) | exact gd_f (by assumption) | exact gd_a (by assumption) (by assumption) | exact gd_b (by assumption) (by assumption))) ?_
  refine ev_rs [.tup 2 (two (u64 xm) (i64 0))] rfl (by repeat' (first | exact trivial | exact gd_t | exact gd_f | exact leb rfl | exact .inl (callSpec_args (as' := [bigW x1, u64 m]) ⟨PLe.big rfl rfl rfl, PLe.refl _, trivial⟩ hM2) | exact (fun _ => rfl) | intro _ | apply And.intro | assumption | exact rfl | exact gd_t (by assumption) | exact gd_f (by assumption) | exact gd_a (by assumption) (by assumption) | exact gd_b (by assumption) (by assumption))) ?_
  refine ev_rs [.tup 2 (two (u64 iv) (i64 ((0 : Nat) : Int)))] rfl ⟨.inl hI, trivial⟩ ?_
  refine ev_seq (ev_rs [] rfl trivial (ev_cf rfl (ev_sk ?_)))
  refine ev_rs [u64 s, u64 t] rfl ⟨.inl hMu, .inl hS, trivial⟩ ?_
  refine ev_ds [bigW t1, bigW z3, bigW z1, bigW m1, bigW z2] (by kernel_rfl) rfl rfl (by repeat' (first | exact trivial | exact gd_t | exact gd_f | exact leb rfl | exact .inl hO1 | exact .inl hO2 | exact .inl (callSpec_args (as' := [bigW y1, bigW t1]) ⟨PLe.big rfl rfl rfl, PLe.refl _, trivial⟩ hP1) | exact .inl (callSpec_args (as' := [bigW y1, bigW m1]) ⟨PLe.big rfl rfl rfl, PLe.refl _, trivial⟩ hP2) | exact .inl (callSpec_args (as' := [bigW x1, bigW z3]) ⟨PLe.big rfl rfl rfl, PLe.refl _, trivial⟩ hA) | exact (fun _ => rfl) | intro _ | apply And.intro | assumption | exact rfl | exact gd_t (by assumption) | exact gd_f (by assumption) | exact gd_a (by assumption) (by assumption) | exact gd_b (by assumption) (by assumption))) ?_
  exact ev_ret (retM3 (res_cell' (n := 2) (id := 8) rfl rfl rfl rfl rfl (leb rfl) (fz_big rfl rfl)) (res_cell' (n := 2) (id := 9) rfl rfl rfl rfl rfl (leb rfl) (fz_big rfl rfl)) (fz_p (PLe.refl _)))

end Go.Proofs

/- A number, told by what is left of it by many words, walked. -/
set_option linter.unusedVariables false
namespace Go.Proofs
open Go Vinc Vinc.Num

/-- The product of the first words. -/
def prodK (ms : List Nat) : Nat → Nat
  | 0 => 1
  | i + 1 => prodK ms i * ms.getD i 0

theorem crtWrong_spec (ls ms : List Nat) (hl : ls.length = ms.length) (hm : ∀ i, i < ms.length → MayM (ms.getD i 0)) (h1024 : ms.length ≤ 1024) : CallSpec Tryz.pr.P Tryz.pr.G 70 [u64s ls, u64s ms] (i64 0) := by
  refine callSpec_of Tryz.pr Tryz.func70 rfl rfl rfl fun w0 ok0 hok hG => ?_
  refine ev_rs [] rfl trivial ?_
  refine ev_seq (ev_rs [] rfl trivial (ev_cf (congrArg (fun z => AV.p (PV.val (.bool z))) (show ((ls.length : Int) != (ms.length : Int)) = false by rw [hl]; exact bne_self_eq_false _)) (ev_sk ?_)))
  refine ev_at (α := Unit) (fun _ => True) (fun _ => [(1, .p (u64s ms))]) (fun _ => []) ?_ ?_
  · refine ev_rs [] rfl trivial ?_
    refine ev_block (ev_while0 (α := Nat) (fun i => i ≤ ms.length) (fun i => [(1, .p (u64s ms)), (12, .p (u64s ms)), (13, .p (i64 ms.length)), (14, .p (i64 i))]) (fun i => ms.length - i) 0
      (Nat.zero_le _) ⟨le_0, le_0, le_0, le_0, trivial⟩ ?_)
    rintro i h1
    refine ev_rs [] rfl trivial (ev_seq (ev_cond rfl (fun h => ev_sk ?_) (fun h => ev_exit ?_)))
    · have hi : i < ms.length := Int.ofNat_lt.mp (of_decide_eq_true h)
      refine ev_seq (ev_block ?_)
      refine ev_rs [] rfl ⟨hi, ⟨by omega, by omega⟩, trivial⟩ ?_
      refine ev_rs [Vinc.bool true] rfl ⟨.inl (may_spec (hm i hi)), trivial⟩ (ev_cf rfl (ev_skip ?_))
      exact ev_region [] rfl trivial (round0 (i + 1) hi (by omega) ⟨le_0, le_0, le_0, le_e (congrArg (fun z => PV.val (.int .i64 z)) (wrapI _ (by omega) (by omega))), trivial⟩)
    · exact at0 () trivial ⟨le_0, trivial⟩
  rintro ⟨⟩ -
  refine ev_seq (ev_rs [] rfl trivial (ev_cf (congrArg (fun z => AV.p (PV.val (.bool z))) (decide_eq_false (by omega) : decide ((ms.length : Int) > 1024) = false)) (ev_sk ?_)))
  exact ev_rs [] rfl trivial (ev_ret (ret1 (fz_p (PLe.refl _))))

abbrev bigOb (a : List Nat) : Ob := ⟨2, fun j => .p (two (Vinc.bool false) (u64s a) j)⟩
abbrev anyOb (n : Nat) : Ob := ⟨n, fun _ => .p .any⟩

/-- The state of the loop by a jump. -/
abbrev liftL (ls ms : List Nat) (i : Nat) : List (Nat × AV) := [(0, .p (u64s ls)), (1, .p (u64s ms)), (4, .oat 904 0), (5, .oat 905 0), (8, .oat 908 0), (9, .oat 909 0), (11, .p (i64 i))]
abbrev liftH (x a : List Nat) : List (Nat × Ob) := [(904, anyOb 2), (905, anyOb 2), (908, bigOb x), (909, bigOb a)]

theorem lift_wk {c : Cx} {σ : St} {ρ : Nat → Nat} {ls ms x a : List Nat} {i : Nat} {o4 o5 o8 o9 : Ob} (hi : injOk ρ [904, 905, 908, 909] = true) (h4 : σ.h (ρ 904) = some o4) (h5 : σ.h (ρ 905) = some o5) (h8 : σ.h (ρ 908) = some o8) (h9 : σ.h (ρ 909) = some o9)
    (n4 : 2 ≤ o4.n) (n5 : 2 ≤ o5.n) (n8 : 2 ≤ o8.n) (n9 : 2 ≤ o9.n) (t0 : σ.t 0 = .p (u64s ls)) (t1 : σ.t 1 = .p (u64s ms)) (t4 : σ.t 4 = .oat (ρ 904) 0) (t5 : σ.t 5 = .oat (ρ 905) 0) (t8 : σ.t 8 = .oat (ρ 908) 0) (t9 : σ.t 9 = .oat (ρ 909) 0) (t11 : σ.t 11 = .p (i64 i))
    (x0 : o8.f 0 = .p (Vinc.bool false)) (x1 : ∃ y, o8.f 1 = .p y ∧ PLe y (u64s x)) (a0 : o9.f 0 = .p (Vinc.bool false)) (a1 : ∃ y, o9.f 1 = .p y ∧ PLe y (u64s a)) (f4 : ∀ j, j < 2 → ∃ y, o4.f j = .p y) (f5 : ∀ j, j < 2 → ∃ y, o5.f j = .p y) :
    Wk c σ (mk (liftL ls ms i) (liftH x a)) := by
  have hr : Ren σ (mk (liftL ls ms i) (liftH x a)) ρ := ren_list fun p hp => by
    simp only [List.mem_cons, List.not_mem_nil, or_false] at hp
    rcases hp with rfl | rfl | rfl | rfl
    · rw [h4]; rfl
    · rw [h5]; rfl
    · rw [h8]; rfl
    · rw [h9]; rfl
  refine wk ρ ⟨?_, ?_, ?_, ?_, ?_, ?_, ?_, trivial⟩ ⟨⟨o4, h4, n4, fun j hj => ?_⟩, ⟨o5, h5, n5, fun j hj => ?_⟩, ⟨o8, h8, n8, fun j hj => ?_⟩, ⟨o9, h9, n9, fun j hj => ?_⟩, trivial⟩ hi
  · rw [t0]; exact le_refl hr _
  · rw [t1]; exact le_refl hr _
  · rw [t4]; exact le_oat (ρ := ρ) rfl
  · rw [t5]; exact le_oat (ρ := ρ) rfl
  · rw [t8]; exact le_oat (ρ := ρ) rfl
  · rw [t9]; exact le_oat (ρ := ρ) rfl
  · rw [t11]; exact le_refl hr _
  · obtain ⟨y, hy⟩ := f4 j hj; rw [hy]; exact le_p hr (PLe.any _)
  · obtain ⟨y, hy⟩ := f5 j hj; rw [hy]; exact le_p hr (PLe.any _)
  · match j, hj with
    | 0, _ => rw [x0]; exact le_refl hr _
    | 1, _ => obtain ⟨y, hy, hle⟩ := x1; rw [hy]; exact le_p hr hle
  · match j, hj with
    | 0, _ => rw [a0]; exact le_refl hr _
    | 1, _ => obtain ⟨y, hy, hle⟩ := a1; rw [hy]; exact le_p hr hle

set_option maxRecDepth 40000 in
theorem lift_spec (ls ms : List Nat) (c : Nat) (hl : ls.length = ms.length) (hm : ∀ i, i < ms.length → MayM (ms.getD i 0)) (h8 : ms.length ≤ 8) (hc : ∀ i, i < ms.length → ls.getD i 0 = c % ms.getD i 0)
    (hg : ∀ i, i < ms.length → Nat.gcd (prodK ms i) (ms.getD i 0) = 1) (hb : ∀ i, i ≤ ms.length → prodK ms i < BW ^ 8) :
    CallSpec Tryz.pr.P Tryz.pr.G 65 [u64s ls, u64s ms] (.tup 3 (three (bigP (c % prodK ms ms.length)) (bigP (prodK ms ms.length)) (i64 0))) := by
  have hpos : ∀ i, i ≤ ms.length → 0 < prodK ms i := fun i => by
    induction i with
    | zero => exact fun _ => Nat.zero_lt_one
    | succ i ih =>
      intro hi
      have := (hm i (by omega)).1
      exact Nat.mul_pos (ih (by omega)) (by omega)
  have hW := crtWrong_spec ls ms hl hm (by omega)
  obtain ⟨X, hX⟩ : ∃ X : Nat → List Nat, X = fun i => wds (c % prodK ms i) := ⟨_, rfl⟩
  obtain ⟨Y, hY⟩ : ∃ Y : Nat → List Nat, Y = fun i => wds (prodK ms i) := ⟨_, rfl⟩
  have hS : ∀ i, i < ms.length → CallSpec Tryz.pr.P Tryz.pr.G 72 [bigW (X i), bigW (Y i), u64 (ls.getD i 0), u64 (ms.getD i 0)] (.tup 3 (three (bigW (X (i + 1))) (bigW (Y (i + 1))) (i64 0))) := fun i hi => by
    rw [hX, hY, hc i hi]
    exact step_spec (hm i hi) (prodK ms i) c (hpos i (by omega)) (hg i hi) (hb i (by omega)) (hb (i + 1) hi)
  have hX0 : X 0 = [] := by rw [hX]; show wds (c % 1) = []; rw [Nat.mod_one, wds_zero]
  have hY0 : Y 0 = [1] := by rw [hY]; exact wds1
  have hO : CallSpec Tryz.pr.P Tryz.pr.G 71 [i64 1] (bigW (Y 0)) := by rw [hY]; exact bigOf_one
  show CallSpec _ _ _ _ (.tup 3 (three (bigW (wds (c % prodK ms ms.length))) (bigW (wds (prodK ms ms.length))) _))
  rw [show wds (c % prodK ms ms.length) = X ms.length by rw [hX], show wds (prodK ms ms.length) = Y ms.length by rw [hY]]
  clear hX hY hc hg hb hpos
  refine callSpec_of Tryz.pr Tryz.func65 rfl rfl rfl fun w0 ok0 hok hG => ?_
  refine ev_rs [] rfl trivial ?_
  refine ev_jumps (α := Nat) 0 (fun i => i ≤ ms.length) (fun i => mk (liftL ls ms i) (liftH (X i) (Y i))) (fun i => ms.length - i) rfl ?_ ?_
  · refine ev_seq (ev_rs [i64 0] rfl ⟨.inl hW, trivial⟩ (ev_rs [] rfl trivial (ev_cf rfl (ev_sk ?_))))
    refine ev_rs [bigW (Y 0)] rfl (by repeat' (first | exact trivial | exact gd_t | exact gd_f | exact leb rfl | exact .inl hO | exact (fun _ => rfl) | intro _ | apply And.intro | assumption | exact rfl | exact gd_t (by assumption) | exact gd_f (by assumption) | exact gd_a (by assumption) (by assumption) | exact gd_b (by assumption) (by assumption))) ?_
    refine ev_rs [] rfl trivial ?_
    refine ev_rs [] rfl trivial ?_
    refine ev_seq (ev_label ?_)
    have two2 : ∀ (z : Value) (j : Nat), j < 2 → ∃ y : PV, (AV.p (.val z)) = .p y := fun z j _ => ⟨_, rfl⟩
    refine ev_wk (σ' := mk (liftL ls ms 0) (liftH (X 0) (Y 0))) (lift_wk (ρ := fun i => i - 900) rfl rfl rfl rfl rfl (leb rfl) (leb rfl) (leb rfl) (leb rfl) rfl rfl rfl rfl rfl rfl rfl rfl ⟨_, rfl, hX0 ▸ PLe.nil⟩ rfl ⟨_, rfl, PLe.refl _⟩ (fun j _ => ⟨_, rfl⟩) (fun j _ => ⟨_, rfl⟩)) ?_
    refine ev_seq (ev_rs [] rfl trivial (ev_cond rfl (fun h => ?_) (fun h => ?_)))
    · have hi : 0 < ms.length := Int.ofNat_lt.mp (of_decide_eq_true h)
      have hil : 0 < ls.length := by omega
      have b1 : (0 : Int) ≤ ((0 : Nat) : Int) := by omega
      have b2 : ((0 : Nat) : Int) < (ms.length : Int) := by omega
      have b3 : ((0 : Nat) : Int) < (ls.length : Int) := by omega
      refine ev_seq (ev_ds [.tup 3 (three (bigW (X (0 + 1))) (bigW (Y (0 + 1))) (i64 0))] (by kernel_rfl) rfl rfl (by repeat' (first | exact trivial | exact gd_t | exact gd_f | exact leb rfl | exact .inl (callSpec_args (as' := [bigW (X 0), bigW (Y 0), u64 (ls.getD 0 0), u64 (ms.getD 0 0)]) ⟨PLe.big rfl rfl rfl, PLe.big rfl rfl rfl, PLe.refl _, PLe.refl _, trivial⟩ (hS 0 hi)) | exact hi | exact hil | exact b1 | exact b2 | exact b3 | exact (fun _ => rfl) | intro _ | apply And.intro | assumption | exact rfl | exact gd_t (by assumption) | exact gd_f (by assumption) | exact gd_a (by assumption) (by assumption) | exact gd_b (by assumption) (by assumption))) ?_)
      refine ev_rs [] rfl trivial (ev_cf rfl (ev_sk ?_))
      refine ev_rs [] rfl trivial (ev_goto ⟨rfl, 0 + 1, hi, lift_wk (ρ := fun i => i) rfl rfl rfl rfl rfl (leb rfl) (leb rfl) (leb rfl) (leb rfl) rfl rfl rfl rfl rfl rfl (congrArg (fun z => AV.p (PV.val (.int .i64 z))) (wrapI _ (by omega) (by omega))) rfl ⟨_, rfl, PLe.refl _⟩ rfl ⟨_, rfl, PLe.refl _⟩ (fun j _ => ⟨_, rfl⟩) (fun j _ => ⟨_, rfl⟩)⟩)
    · have hi : 0 = ms.length := by
        have := of_decide_eq_false h
        omega
      refine ev_sk (ev_ds [] (by kernel_rfl) rfl rfl (by repeat' (first | exact trivial | exact gd_t | exact gd_f | exact leb rfl | exact (fun _ => rfl) | intro _ | apply And.intro | assumption | exact rfl | exact gd_t (by assumption) | exact gd_f (by assumption) | exact gd_a (by assumption) (by assumption) | exact gd_b (by assumption) (by assumption))) ?_)
      rw [← hi]
      exact ev_ret (retM3 (res_cell' (n := 2) (id := 904) rfl rfl rfl rfl rfl (leb rfl) (fz_big rfl rfl)) (res_cell' (n := 2) (id := 905) rfl rfl rfl rfl rfl (leb rfl) (fz_big rfl rfl)) (fz_p (PLe.refl _)))
  · rintro i hi0
    refine ev_seq (ev_skip ?_)
    refine ev_seq (ev_rs [] rfl trivial (ev_cond rfl (fun h => ?_) (fun h => ?_)))
    · have hi : i < ms.length := Int.ofNat_lt.mp (of_decide_eq_true h)
      have hil : i < ls.length := by omega
      have b1 : (0 : Int) ≤ ((i : Nat) : Int) := by omega
      have b2 : ((i : Nat) : Int) < (ms.length : Int) := by omega
      have b3 : ((i : Nat) : Int) < (ls.length : Int) := by omega
      refine ev_seq (ev_ds [.tup 3 (three (bigW (X (i + 1))) (bigW (Y (i + 1))) (i64 0))] (by kernel_rfl) rfl rfl (by repeat' (first | exact trivial | exact gd_t | exact gd_f | exact leb rfl | exact .inl (callSpec_args (as' := [bigW (X i), bigW (Y i), u64 (ls.getD i 0), u64 (ms.getD i 0)]) ⟨PLe.big rfl rfl rfl, PLe.big rfl rfl rfl, PLe.refl _, PLe.refl _, trivial⟩ (hS i hi)) | exact hi | exact hil | exact b1 | exact b2 | exact b3 | exact (fun _ => rfl) | intro _ | apply And.intro | assumption | exact rfl | exact gd_t (by assumption) | exact gd_f (by assumption) | exact gd_a (by assumption) (by assumption) | exact gd_b (by assumption) (by assumption))) ?_)
      refine ev_rs [] rfl trivial (ev_cf rfl (ev_sk ?_))
      refine ev_rs [] rfl trivial (ev_goto ⟨rfl, i + 1, hi, (by omega), lift_wk (ρ := fun i => i) rfl rfl rfl rfl rfl (leb rfl) (leb rfl) (leb rfl) (leb rfl) rfl rfl rfl rfl rfl rfl (congrArg (fun z => AV.p (PV.val (.int .i64 z))) (wrapI _ (by omega) (by omega))) rfl ⟨_, rfl, PLe.refl _⟩ rfl ⟨_, rfl, PLe.refl _⟩ (fun j _ => ⟨_, rfl⟩) (fun j _ => ⟨_, rfl⟩)⟩)
    · have hi : i = ms.length := by
        have := of_decide_eq_false h
        omega
      refine ev_sk (ev_ds [] (by kernel_rfl) rfl rfl (by repeat' (first | exact trivial | exact gd_t | exact gd_f | exact leb rfl | exact (fun _ => rfl) | intro _ | apply And.intro | assumption | exact rfl | exact gd_t (by assumption) | exact gd_f (by assumption) | exact gd_a (by assumption) (by assumption) | exact gd_b (by assumption) (by assumption))) ?_)
      rw [← hi]
      exact ev_ret (retM3 (res_cell' (n := 2) (id := 904) rfl rfl rfl rfl rfl (leb rfl) (fz_big rfl rfl)) (res_cell' (n := 2) (id := 905) rfl rfl rfl rfl rfl (leb rfl) (fz_big rfl rfl)) (fz_p (PLe.refl _)))

end Go.Proofs

/- Transforms at some points, walked: a plan, its parts. -/
set_option linter.unusedVariables false
namespace Go.Proofs
open Go Vinc Vinc.Num

noncomputable def planC (p K : Nat) (rs : List Nat) (hf : Nat) : Nat → PV
  | 0 => newF p
  | 1 => i64 K
  | 2 => u64s rs
  | _ => u64 hf

/-- A plan. -/
noncomputable abbrev planP (p K : Nat) (rs : List Nat) (hf : Nat) : PV := .ptr 4 (planC p K rs hf) 0

/-- A part. -/
abbrev partP (k s c : Nat) : PV := .agg 3 (three (i64 k) (u64 s) (u64 c))

theorem PLe.part {n : Nat} {g : Nat → PV} {k s c : Nat} (hn : n = 3) (h0 : g 0 = i64 k) (h1 : g 1 = u64 s) (h2 : g 2 = u64 c) : PLe (.agg n g) (partP k s c) := by
  subst hn
  refine PLe.agg fun j hj => ?_
  match j, hj with
  | 0, _ => exact PLe.of_eq h0
  | 1, _ => exact PLe.of_eq h1
  | 2, _ => exact PLe.of_eq h2

theorem fz_part {c : Cx} {σ : St} {o : Ob} {k s d : Nat} (h0 : o.f 0 = .p (i64 k)) (h1 : o.f 1 = .p (u64 s)) (h2 : o.f 2 = .p (u64 d)) : ∀ j, j < 3 → FreezeLe c σ (o.f j) (three (i64 k) (u64 s) (u64 d) j) := fun j hj => by
  match j, hj with
  | 0, _ => rw [h0]; exact fz_p (PLe.refl _)
  | 1, _ => rw [h1]; exact fz_p (PLe.refl _)
  | 2, _ => rw [h2]; exact fz_p (PLe.refl _)

theorem shl_pow : ∀ K : Nat, K < 12 → IntKind.wrap .i64 (1 * 2 ^ (min (IntKind.wrap .u64 (K : Int)).toNat (IntKind.bits .i64))) = ((2 ^ K : Nat) : Int) := by decide
theorem shl_fit : ∀ K : Nat, K < 12 → 0 ≤ IntKind.wrap .u64 (K : Int) := by decide
theorem pow_fit : ∀ K : Nat, K < 12 → 2 ^ K ≤ 2048 := by decide

section
variable {p K hlf : Nat} {rs : List Nat}

theorem Most_spec (hK : K < 12) : CallSpec Tryz.pr.P Tryz.pr.G 78 [planP p K rs hlf] (i64 ((2 ^ K : Nat) : Int)) := by
  refine callSpec_of Tryz.pr Tryz.func78 rfl rfl rfl fun w0 ok0 hok hG => ?_
  refine ev_rs [] rfl trivial ?_
  refine ev_seq (ev_rs [] rfl trivial (ev_cf rfl (ev_sk ?_)))
  refine ev_rs [] rfl (by repeat' (first | exact trivial | exact gd_t | exact gd_f | exact leb rfl | exact shl_fit K hK | exact (fun _ => rfl) | intro _ | apply And.intro | assumption | exact rfl | exact gd_t (by assumption) | exact gd_f (by assumption) | exact gd_a (by assumption) (by assumption) | exact gd_b (by assumption) (by assumption))) (ev_ret (ret1 (fz_p (PLe.of_eq (congrArg (fun z => PV.val (.int .i64 z)) (shl_pow K hK))))))

theorem tftOf_spec (hm : MayM p) (k s : Nat) (hk : k < 100) : CallSpec Tryz.pr.P Tryz.pr.G 91 [planP p K rs hlf, i64 k, u64 s] (partP k s (sqK p (k - 1) s)) := by
  have e1 : IntKind.wrap .i64 ((k : Int) - 1) = (k : Int) - 1 := wrapI _ (by omega) (by omega)
  refine callSpec_of Tryz.pr Tryz.func91 rfl rfl rfl fun w0 ok0 hok hG => ?_
  refine ev_rs [] rfl trivial ?_
  refine ev_rs [] rfl trivial ?_
  refine ev_at (α := Unit) (fun _ => True) (fun _ => [(1, .p (i64 k)), (2, .p (u64 s)), (6, .oat 6 0), (7, .p (u64 (sqK p (k - 1) s)))]) (fun _ => [(6, anyOb 3)]) ?_ ?_
  · refine ev_rs [] rfl trivial ?_
    refine ev_block (ev_while (α := Nat) (fun i => i ≤ k - 1) (fun i => [(0, .p (planP p K rs hlf)), (1, .p (i64 k)), (2, .p (u64 s)), (6, .oat 6 0), (7, .p (u64 (sqK p i s))), (10, .p (i64 ((k : Int) - 1))), (11, .p (i64 i))]) (fun _ => [(6, anyOb 3)]) (fun i => k - 1 - i) 0
      (Nat.zero_le _) (wk1 _ rfl (leb rfl) (fun hr j _ => le_p hr (PLe.any _)) (fun hd => ⟨le_refl hd _, le_refl hd _, le_refl hd _, le_a rfl, le_refl hd _, le_n hd (congrArg (fun z => PV.val (.int .i64 z)) e1), le_refl hd _, trivial⟩)) ?_)
    rintro i h1
    refine ev_rs [] rfl trivial (ev_seq (ev_cond rfl (fun h => ev_sk ?_) (fun h => ev_exit ?_)))
    · have hi : (i : Int) < (k : Int) - 1 := of_decide_eq_true h
      have hM := Mul_spec (b := bk p) (t := tw p) hm (sqK p i s) (sqK p i s)
      refine ev_seq (ev_block ?_)
      refine ev_region [u64 (sqK p i s * sqK p i s % p)] rfl (by repeat' (first | exact trivial | exact gd_t | exact gd_f | exact leb rfl | exact .inl hM | exact (fun _ => rfl) | intro _ | apply And.intro | assumption | exact rfl | exact gd_t (by assumption) | exact gd_f (by assumption) | exact gd_a (by assumption) (by assumption) | exact gd_b (by assumption) (by assumption))) ?_
      exact ev_region [] rfl trivial ⟨i + 1, by omega, by dsimp only; omega, wk1 _ rfl (leb rfl) (fun hr j _ => le_refl hr _) (fun hd => ⟨le_refl hd _, le_refl hd _, le_refl hd _, le_a rfl, le_refl hd _, le_refl hd _, le_n hd (congrArg (fun z => PV.val (.int .i64 z)) (wrapI _ (by omega) (by omega))), trivial⟩)⟩
    · have hi : i = k - 1 := by
        have := of_decide_eq_false h
        omega
      subst hi
      exact at1 () trivial _ rfl (leb rfl) (fun hr j _ => le_refl hr _) (fun hd => ⟨le_refl hd _, le_refl hd _, le_a rfl, le_refl hd _, trivial⟩)
  rintro ⟨⟩ -
  refine ev_rs [] rfl (by repeat' (first | exact trivial | exact gd_t | exact gd_f | exact leb rfl | exact (fun _ => rfl) | intro _ | apply And.intro | assumption | exact rfl | exact gd_t (by assumption) | exact gd_f (by assumption) | exact gd_a (by assumption) (by assumption) | exact gd_b (by assumption) (by assumption))) ?_
  exact ev_ret (ret_cell' (n := 3) (id := 6) rfl rfl rfl rfl rfl (leb rfl) (fz_part rfl rfl rfl))

theorem first_spec (hm : MayM p) (k s c : Nat) (hk : k < 99) : CallSpec Tryz.pr.P Tryz.pr.G 104 [planP p K rs hlf, partP (k + 1) s c] (partP k s (sqK p (k - 1) s)) := by
  have hO := tftOf_spec (K := K) (hlf := hlf) (rs := rs) hm k s (by omega)
  have e1 : IntKind.wrap .i64 (((k + 1 : Nat) : Int) - 1) = (k : Int) := (wrapI _ (by omega) (by omega)).trans (by omega)
  have hO' : CallSpec Tryz.pr.P Tryz.pr.G 91 [planP p K rs hlf, i64 (IntKind.wrap .i64 (((k + 1 : Nat) : Int) - 1)), u64 s] (partP k s (sqK p (k - 1) s)) := by rw [e1]; exact hO
  generalize sqK p (k - 1) s = d at *
  refine callSpec_of Tryz.pr Tryz.func104 rfl rfl rfl fun w0 ok0 hok hG => ?_
  refine ev_rs [] rfl trivial ?_
  refine ev_rs [partP k s d] rfl (by repeat' (first | exact trivial | exact gd_t | exact gd_f | exact leb rfl | exact .inl hO' | exact (fun _ => rfl) | intro _ | apply And.intro | assumption | exact rfl | exact gd_t (by assumption) | exact gd_f (by assumption) | exact gd_a (by assumption) (by assumption) | exact gd_b (by assumption) (by assumption))) ?_
  exact ev_ret (ret_cell' (n := 3) (id := 4) rfl rfl rfl rfl rfl (leb rfl) (fz_part rfl rfl rfl))

set_option maxRecDepth 20000 in
theorem second_spec (hm : MayM p) (k s c : Nat) (hk : k < 99) (hr : k + 1 < rs.length) : CallSpec Tryz.pr.P Tryz.pr.G 105 [planP p K rs hlf, partP (k + 1) s c] (partP k (s * rs.getD (k + 1) 0 % p) (sqK p (k - 1) (s * rs.getD (k + 1) 0 % p))) := by
  have hO := tftOf_spec (K := K) (hlf := hlf) (rs := rs) hm k (s * rs.getD (k + 1) 0 % p) (by omega)
  have hM := Mul_spec (b := bk p) (t := tw p) hm s (rs.getD (k + 1) 0)
  have e1 : IntKind.wrap .i64 (((k + 1 : Nat) : Int) - 1) = (k : Int) := (wrapI _ (by omega) (by omega)).trans (by omega)
  have b1 : (0 : Int) ≤ ((k + 1 : Nat) : Int) := by omega
  have b2 : ((k + 1 : Nat) : Int) < (rs.length : Int) := by omega
  generalize s * rs.getD (k + 1) 0 % p = s2 at *
  have hO' : CallSpec Tryz.pr.P Tryz.pr.G 91 [planP p K rs hlf, i64 (IntKind.wrap .i64 (((k + 1 : Nat) : Int) - 1)), u64 s2] (partP k s2 (sqK p (k - 1) s2)) := by rw [e1]; exact hO
  generalize sqK p (k - 1) s2 = d at *
  refine callSpec_of Tryz.pr Tryz.func105 rfl rfl rfl fun w0 ok0 hok hG => ?_
  refine ev_rs [] rfl trivial ?_
  refine ev_ds [u64 s2, partP k s2 d] (by kernel_rfl) rfl rfl (by repeat' (first | exact trivial | exact gd_t | exact gd_f | exact leb rfl | exact .inl hM | exact .inl hO' | exact b1 | exact b2 | exact hr | exact (fun _ => rfl) | intro _ | apply And.intro | assumption | exact rfl | exact gd_t (by assumption) | exact gd_f (by assumption) | exact gd_a (by assumption) (by assumption) | exact gd_b (by assumption) (by assumption))) ?_
  exact ev_ret (ret_cell' (n := 3) (id := 4) rfl rfl rfl rfl rfl (leb rfl) (fz_part rfl rfl rfl))

theorem padded_spec (hm : MayM p) (hK : K < 12) (l : List Nat) (hl : l.length ≤ 2 ^ K) : CallSpec Tryz.pr.P Tryz.pr.G 90 [planP p K rs hlf, u64s l] (u64s (padN p (2 ^ K) l)) := by
  have hMo := Most_spec (p := p) (hlf := hlf) (rs := rs) hK
  have hN := pow_fit K hK
  unfold padN
  generalize 2 ^ K = N at *
  obtain ⟨f, hff⟩ : ∃ f : Nat → Nat, f = fun i => l.getD i 0 % p := ⟨_, rfl⟩
  have hfull : tabK f N l.length = tabL f N := tabK_full hl fun j h1 h2 => by rw [hff]; show l.getD j 0 % p = 0; rw [getD_ge h1, Nat.zero_mod]
  have hfi : ∀ i, l.getD i 0 % p = f i := fun i => by rw [hff]
  rw [← hff]
  refine callSpec_of Tryz.pr Tryz.func90 rfl rfl rfl fun w0 ok0 hok hG => ?_
  refine ev_rs [] rfl trivial ?_
  have b1 : (0 : Int) ≤ (N : Int) := by omega
  have b2 : (N : Int) ≤ 1099511627776 := by omega
  refine ev_rs [i64 N] rfl (by repeat' (first | exact trivial | exact gd_t | exact gd_f | exact .inl hMo | exact b1 | exact b2 | exact Int.le_refl _ | exact (fun _ => rfl) | intro _ | apply And.intro | assumption | exact rfl | exact gd_t (by assumption) | exact gd_f (by assumption) | exact gd_a (by assumption) (by assumption) | exact gd_b (by assumption) (by assumption))) ?_
  refine ev_made 5 10 N rfl rfl rfl ?_
  refine ev_at (α := Unit) (fun _ => True) (fun _ => [(5, .p (u64s (tabL f N)))]) (fun _ => []) ?_ ?_
  · refine ev_rs [] rfl trivial ?_
    refine ev_block (ev_while (α := Nat) (fun i => i ≤ l.length) (fun i => [(0, .p (planP p K rs hlf)), (5, .own 10 0 N 1), (11, .p (u64s l)), (12, .p (i64 l.length)), (13, .p (i64 i))]) (fun i => [(10, ob64 (tabK f N i))]) (fun i => l.length - i) 0
      (Nat.zero_le _) (wk_ob rfl (fun hd => ⟨le_refl hd _, le_o rfl, le_refl hd _, le_refl hd _, le_refl hd _, trivial⟩)) ?_)
    rintro i h1
    refine ev_rs [] rfl trivial (ev_seq (ev_cond rfl (fun h => ev_sk ?_) (fun h => ev_exit ?_)))
    · have hi : i < l.length := Int.ofNat_lt.mp (of_decide_eq_true h)
      have hck := length_tabK f N i
      have hO := Of_spec (b := bk p) (t := tw p) hm (l.getD i 0)
      rw [hfi] at hO
      have b3 : (0 : Int) ≤ (i : Int) := by omega
      have b4 : (i : Int) < (N : Int) := by omega
      have b5 : i + 1 ≤ (tabK f N i).length := by omega
      refine ev_seq (ev_block ?_)
      refine ev_rs [] rfl ⟨hi, ⟨by omega, by omega⟩, trivial⟩ ?_
      refine ev_region [u64 (f i)] rfl (by repeat' (first | exact trivial | exact gd_t | exact gd_f | exact leb rfl | exact .inl hO | exact b3 | exact b4 | exact b5 | exact (fun _ => rfl) | intro _ | apply And.intro | assumption | exact rfl | exact gd_t (by assumption) | exact gd_f (by assumption) | exact gd_a (by assumption) (by assumption) | exact gd_b (by assumption) (by assumption))) ?_
      refine ev_set 10 i (f i) rfl rfl rfl (by omega) ?_
      exact ev_region [] rfl trivial ⟨i + 1, hi, by dsimp only; omega, wk_ob rfl (fun hd => ⟨le_refl hd _, le_o rfl, le_refl hd _, le_refl hd _, le_n hd (congrArg (fun z => PV.val (.int .i64 z)) (wrapI _ (by omega) (by omega))), trivial⟩)⟩
    · have hi : i = l.length := by
        have := of_decide_eq_false h
        omega
      subst hi
      exact at0 () trivial ⟨le_fz' rfl (length_tabK f N l.length).symm hfull, trivial⟩
  rintro ⟨⟩ -
  exact ev_rs [] rfl trivial (ev_ret (ret1 (fz_p (PLe.refl _))))
end

end Go.Proofs

/- Transforms at some points, walked: the values. -/
set_option linter.unusedVariables false
namespace Go.Proofs
open Go Vinc Vinc.Num

abbrev partOb (k s c : Nat) : Ob := ob3 (i64 k) (u64 s) (u64 c)

section
variable {p K hlf : Nat} {rs : List Nat}

theorem values_zero (l : List Nat) (k s c : Nat) (g : Nat → PV) : CallSpecO Tryz.pr.P Tryz.pr.G 89 [planP p K rs hlf, u64s l, partP k s c, i64 ((0 : Nat) : Int)] 0 1 g := by
  refine callSpecO_of Tryz.pr Tryz.func89 rfl rfl rfl fun w0 ok0 hok hG => ?_
  refine ev_rs [] rfl (by repeat' (first | exact trivial | exact gd_t | exact gd_f | exact leb rfl | exact (fun _ => rfl) | intro _ | apply And.intro | assumption | exact rfl | exact gd_t (by assumption) | exact gd_f (by assumption) | exact gd_a (by assumption) (by assumption) | exact gd_b (by assumption) (by assumption))) ?_
  refine ev_seq (ev_block ?_)
  refine ev_rs [] rfl trivial (ev_ct rfl ?_)
  exact ev_rs [] rfl trivial (ev_ret (.inl ⟨8, rfl, rfl, rfl⟩))

theorem values_one (l : List Nat) (hl : l.length = 1) (s c : Nat) : CallSpecO Tryz.pr.P Tryz.pr.G 89 [planP p K rs hlf, u64s l, partP 0 s c, i64 ((1 : Nat) : Int)] 1 1 (fun j => u64 ([l.getD 0 0].getD j 0)) := by
  have b1 : (0 : Int) < (l.length : Int) := by omega
  have b2 : 0 < l.length := by omega
  refine callSpecO_of Tryz.pr Tryz.func89 rfl rfl rfl fun w0 ok0 hok hG => ?_
  refine ev_rs [] rfl (by repeat' (first | exact trivial | exact gd_t | exact gd_f | exact leb rfl | exact (fun _ => rfl) | intro _ | apply And.intro | assumption | exact rfl | exact gd_t (by assumption) | exact gd_f (by assumption) | exact gd_a (by assumption) (by assumption) | exact gd_b (by assumption) (by assumption))) ?_
  refine ev_seq (ev_block ?_)
  refine ev_rs [] rfl trivial (ev_cf rfl ?_)
  refine ev_rs [] rfl (by repeat' (first | exact trivial | exact gd_t | exact gd_f | exact leb rfl | exact (fun _ => rfl) | intro _ | apply And.intro | assumption | exact rfl | exact gd_t (by assumption) | exact gd_f (by assumption) | exact gd_a (by assumption) (by assumption) | exact gd_b (by assumption) (by assumption))) (ev_ct rfl ?_)
  refine ev_rs [] rfl (by repeat' (first | exact trivial | exact gd_t | exact gd_f | exact leb rfl | exact b1 | exact b2 | exact Int.le_refl _ | exact (fun _ => rfl) | intro _ | apply And.intro | assumption | exact rfl | exact gd_t (by assumption) | exact gd_f (by assumption) | exact gd_a (by assumption) (by assumption) | exact gd_b (by assumption) (by assumption))) (ev_ret (.inr ⟨8, 25, _, rfl, rfl, rfl, leb rfl, fun j hj => ?_⟩))
  have hj : j < 1 := by omega
  have e : j = 0 := by omega
  subst e
  exact ⟨_, rfl, rfl⟩

set_option maxRecDepth 40000 in
theorem values_spec (hm : MayM p) (hlen : rs.length = K + 1) (hK : K < 12) : ∀ (k s : Nat) (l : List Nat) (n : Nat), k ≤ K → l.length = 2 ^ k → n ≤ 2 ^ k →
    CallSpecO Tryz.pr.P Tryz.pr.G 89 [planP p K rs hlf, u64s l, partP k s (sqK p (k - 1) s), i64 n] n 1 (fun j => u64 ((vals p (fun i => rs.getD i 0) k s l n).getD j 0)) := by
  intro k
  induction k with
  | zero =>
    intro s l n hk hl hn
    have e0 : (2 : Nat) ^ 0 = 1 := rfl
    rcases (by omega : n = 0 ∨ n = 1) with rfl | rfl
    · exact values_zero l 0 s _ _
    · exact values_one l hl s _
  | succ k ih =>
    intro s l n hk hl hn
    rcases Nat.eq_zero_or_pos n with rfl | hn0
    · exact values_zero l (k + 1) s _ _
    have e2 : 2 ^ (k + 1) = 2 ^ k * 2 := Nat.pow_succ 2 k
    have hh0 : 0 < 2 ^ k := Nat.pow_pos (by decide)
    have hh1 : 2 ^ k ≤ 2048 := pow_fit k (by omega)
    have hV := vals_succ p (fun i => rs.getD i 0) k s l n hl
    obtain ⟨r, hr⟩ : ∃ r : Nat → Nat, (fun i => rs.getD i 0) = r := ⟨_, rfl⟩
    rw [hr] at hV ih ⊢
    have hrk : rs.getD (k + 1) 0 = r (k + 1) := by rw [← hr]
    have hFi := first_spec (K := K) (hlf := hlf) (rs := rs) hm k s (sqK p k s) (by omega)
    have hSe := second_spec (K := K) (hlf := hlf) (rs := rs) hm k s (sqK p k s) (by omega) (by omega)
    rw [hrk] at hSe hV
    have hv1 := ih s (sumL p (sqK p k s) (2 ^ k) l) (min n (2 ^ k)) (by omega) (len_sumL _ _ _ _) (by omega)
    have hv2 := ih (s * r (k + 1) % p) (lessL p (sqK p k s) (2 ^ k) l) (n - 2 ^ k) (by omega) (len_lessL _ _ _ _) (by omega)
    have hl1 := vals_len p r k s (sumL p (sqK p k s) (2 ^ k) l) (min n (2 ^ k)) (len_sumL _ _ _ _) (by omega)
    have hl2 := vals_len p r k (s * r (k + 1) % p) (lessL p (sqK p k s) (2 ^ k) l) (n - 2 ^ k) (len_lessL _ _ _ _) (by omega)
    have hz2 : n ≤ 2 ^ k → vals p r k (s * r (k + 1) % p) (lessL p (sqK p k s) (2 ^ k) l) (n - 2 ^ k) = [] := fun h => by rw [show n - 2 ^ k = 0 by omega, vals_zero]
    rw [show k + 1 - 1 = k from rfl, hV]
    obtain ⟨c, hc⟩ : ∃ c, sqK p k s = c := ⟨_, rfl⟩
    rw [hc] at hFi hSe hv1 hv2 hl1 hl2 hz2 ⊢
    obtain ⟨fs, hfs⟩ : ∃ f : Nat → Nat, f = fun i => (l.getD i 0 + c * l.getD (2 ^ k + i) 0 % p) % p := ⟨_, rfl⟩
    obtain ⟨fl, hfl⟩ : ∃ f : Nat → Nat, f = fun i => sb (l.getD i 0) (c * l.getD (2 ^ k + i) 0 % p) p := ⟨_, rfl⟩
    have es : sumL p c (2 ^ k) l = tabL fs (2 ^ k) := by rw [hfs]; rfl
    have el : lessL p c (2 ^ k) l = tabL fl (2 ^ k) := by rw [hfl]; rfl
    have hfsi : ∀ i, (l.getD i 0 + c * l.getD (2 ^ k + i) 0 % p) % p = fs i := fun i => by rw [hfs]
    have hfli : ∀ i, sb (l.getD i 0) (c * l.getD (2 ^ k + i) 0 % p) p = fl i := fun i => by rw [hfl]
    rw [es] at hv1 hl1 ⊢
    rw [el] at hv2 hl2 hz2 ⊢
    clear hfs hfl es el hV
    generalize vals p r k s (tabL fs (2 ^ k)) (min n (2 ^ k)) = v1 at *
    generalize vals p r k (s * r (k + 1) % p) (tabL fl (2 ^ k)) (n - 2 ^ k) = v2 at *
    generalize s * r (k + 1) % p = s2 at *
    generalize sqK p (k - 1) s = d1 at *
    generalize sqK p (k - 1) s2 = d2 at *
    generalize 2 ^ k = h at *
    clear ih hr hrk
    have ew : IntKind.wrap .i64 ((l.length : Int).tdiv 2) = (h : Int) := by
      rw [show (l.length : Int).tdiv 2 = ((l.length / 2 : Nat) : Int) from rfl, show l.length / 2 = h by omega, wrapI _ (by omega) (by omega)]
    have c1 : (0 : Int) ≤ (h : Int) := by omega
    have c2 : (h : Int) ≤ 1099511627776 := by omega
    refine callSpecO_of Tryz.pr Tryz.func89 rfl rfl rfl fun w0 ok0 hok hG => ?_
    refine ev_rs [] rfl (by repeat' (first | exact trivial | exact gd_t | exact gd_f | exact leb rfl | exact (fun _ => rfl) | intro _ | apply And.intro | assumption | exact rfl | exact gd_t (by assumption) | exact gd_f (by assumption) | exact gd_a (by assumption) (by assumption) | exact gd_b (by assumption) (by assumption))) ?_
    refine ev_seq (ev_block ?_)
    refine ev_rs [] rfl trivial (ev_cf (congrArg (fun z => AV.p (PV.val (.bool z))) (show ((n : Int) == 0) = false from beq_eq_false_iff_ne.mpr (by omega))) ?_)
    refine ev_rs [] rfl (by repeat' (first | exact trivial | exact gd_t | exact gd_f | exact leb rfl | exact (fun _ => rfl) | intro _ | apply And.intro | assumption | exact rfl | exact gd_t (by assumption) | exact gd_f (by assumption) | exact gd_a (by assumption) (by assumption) | exact gd_b (by assumption) (by assumption))) (ev_cf (congrArg (fun z => AV.p (PV.val (.bool z))) (show (((k + 1 : Nat) : Int) == 0) = false from beq_eq_false_iff_ne.mpr (by omega))) (ev_skip ?_))
    refine ev_rs [] rfl (by repeat' (first | exact trivial | exact gd_t | exact gd_f | exact by decide | exact (fun _ => rfl) | intro _ | apply And.intro | assumption | exact rfl | exact gd_t (by assumption) | exact gd_f (by assumption) | exact gd_a (by assumption) (by assumption) | exact gd_b (by assumption) (by assumption))) (ev_eq 9 (.p (i64 h)) (congrArg (fun z => AV.p (PV.val (.int .i64 z))) ew) ?_)
    refine ev_ds [] (by kernel_rfl) rfl rfl (by repeat' (first | exact trivial | exact gd_t | exact gd_f | exact c1 | exact c2 | exact Int.le_refl _ | exact (fun _ => rfl) | intro _ | apply And.intro | assumption | exact rfl | exact gd_t (by assumption) | exact gd_f (by assumption) | exact gd_a (by assumption) (by assumption) | exact gd_b (by assumption) (by assumption))) ?_
    refine ev_made 10 30 h rfl rfl rfl (ev_made 11 32 h rfl rfl rfl ?_)
    refine ev_at (α := Unit) (fun _ => True) (fun _ => [(0, .p (planP p K rs hlf)), (3, .p (i64 n)), (6, .oat 906 0), (9, .p (i64 h)), (10, .p (u64s (tabL fs h))), (11, .p (u64s (tabL fl h)))]) (fun _ => [(906, partOb (k + 1) s c)]) ?_ ?_
    · refine ev_rs [] rfl trivial ?_
      refine ev_block (ev_while (α := Nat) (fun i => i ≤ h) (fun i => [(0, .p (planP p K rs hlf)), (1, .p (u64s l)), (3, .p (i64 n)), (6, .oat 906 0), (9, .p (i64 h)), (10, .own 930 0 h 1), (11, .own 932 0 h 1), (33, .p (i64 h)), (34, .p (i64 i))])
        (fun i => [(906, partOb (k + 1) s c), (930, ob64 (tabK fs h i)), (932, ob64 (tabK fl h i))]) (fun i => h - i) 0 (Nat.zero_le _)
        (wk_l (fun i => i - 900) (all3 rfl rfl rfl) (fun hd => ⟨le_refl hd _, le_refl hd _, le_refl hd _, le_oat (ρ := fun i => i - 900) (i := 906) rfl, le_refl hd _, le_own (ρ := fun i => i - 900) (i := 930) rfl, le_own (ρ := fun i => i - 900) (i := 932) rfl, le_refl hd _, le_refl hd _, trivial⟩)
          (fun hd => ⟨⟨_, rfl, leb rfl, fun j _ => le_refl hd _⟩, ⟨_, rfl, Nat.le_refl _, fun j _ => le_refl hd _⟩, ⟨_, rfl, Nat.le_refl _, fun j _ => le_refl hd _⟩, trivial⟩) rfl) ?_)
      rintro i h1
      refine ev_rs [] rfl trivial (ev_seq (ev_cond rfl (fun hlt => ev_sk ?_) (fun hlt => ev_exit ?_)))
      · have hi : i < h := Int.ofNat_lt.mp (of_decide_eq_true hlt)
        have k1 := length_tabK fs h i
        have k2 := length_tabK fl h i
        have eh : IntKind.wrap .i64 ((h : Int) + (i : Int)) = ((h + i : Nat) : Int) := by rw [wrapI _ (by omega) (by omega)]; omega
        have hM := Mul_spec (b := bk p) (t := tw p) hm c (l.getD (h + i) 0)
        have hM' : CallSpec Tryz.pr.P Tryz.pr.G 42 [newF p, u64 c, u64 (l.getD (IntKind.wrap .i64 ((h : Int) + (i : Int))).toNat 0)] (u64 (c * l.getD (h + i) 0 % p)) := by rw [eh]; exact hM
        have hf1 := hfsi i
        have hf2 := hfli i
        obtain ⟨x, hx⟩ : ∃ x, c * l.getD (h + i) 0 % p = x := ⟨_, rfl⟩
        rw [hx] at hM' hf1 hf2
        have hA := Add_spec (b := bk p) (t := tw p) hm (l.getD i 0) x
        have hS := Sb_spec (b := bk p) (t := tw p) hm (l.getD i 0) x
        rw [hf1] at hA
        rw [hf2] at hS
        have d1 : (0 : Int) ≤ IntKind.wrap .i64 ((h : Int) + (i : Int)) := by rw [eh]; omega
        have d2 : IntKind.wrap .i64 ((h : Int) + (i : Int)) < (l.length : Int) := by rw [eh]; omega
        have d3 : (IntKind.wrap .i64 ((h : Int) + (i : Int))).toNat < l.length := by rw [eh, Int.toNat_natCast]; omega
        have d4 : (0 : Int) ≤ (i : Int) := by omega
        have d5 : (i : Int) < (l.length : Int) := by omega
        have d6 : i < l.length := by omega
        have d7 : (i : Int) < (h : Int) := by omega
        have d8 : i + 1 ≤ (tabK fs h i).length := by omega
        have d9 : i + 1 ≤ (tabK fl h i).length := by omega
        refine ev_seq (ev_block ?_)
        refine ev_rs [] rfl trivial ?_
        refine ev_ds [u64 x] (by kernel_rfl) rfl rfl (by repeat' (first | exact trivial | exact gd_t | exact gd_f | exact leb rfl | exact .inl hM' | exact d1 | exact d2 | exact d3 | exact (fun _ => rfl) | intro _ | apply And.intro | assumption | exact rfl | exact gd_t (by assumption) | exact gd_f (by assumption) | exact gd_a (by assumption) (by assumption) | exact gd_b (by assumption) (by assumption))) ?_
        refine ev_draw [u64 (fs i), u64 (fl i)] (by kernel_rfl) rfl rfl (by repeat' (first | exact trivial | exact gd_t | exact gd_f | exact leb rfl | exact .inl hA | exact .inl hS | exact d4 | exact d5 | exact d6 | exact d7 | exact d8 | exact d9 | exact (fun _ => rfl) | intro _ | apply And.intro | assumption | exact rfl | exact gd_t (by assumption) | exact gd_f (by assumption) | exact gd_a (by assumption) (by assumption) | exact gd_b (by assumption) (by assumption))) ?_
        refine ev_set 930 i (fs i) rfl rfl rfl (by omega) (ev_set 932 i (fl i) rfl rfl rfl (by omega) ?_)
        exact ev_region [] rfl trivial ⟨i + 1, hi, by dsimp only; omega, wk_l (fun i => i) (all3 rfl rfl rfl) (fun hd => ⟨le_refl hd _, le_refl hd _, le_refl hd _, le_a rfl, le_refl hd _, le_o rfl, le_o rfl, le_refl hd _, le_n hd (congrArg (fun z => PV.val (.int .i64 z)) (wrapI _ (by omega) (by omega))), trivial⟩)
          (fun hd => ⟨⟨_, rfl, leb rfl, fun j _ => le_refl hd _⟩, ⟨_, rfl, Nat.le_refl _, fun j _ => le_refl hd _⟩, ⟨_, rfl, Nat.le_refl _, fun j _ => le_refl hd _⟩, trivial⟩) rfl⟩
      · have hi : i = h := by
          have := of_decide_eq_false hlt
          omega
        subst hi
        exact at_l (fun i => i) () trivial (all1 rfl) (fun hd => ⟨le_refl hd _, le_refl hd _, le_a rfl, le_refl hd _, le_fzH hd rfl (length_tabK fs i i).symm (tabK_all fs i) (all1 (show (906 : Nat) ≠ 930 by decide)), le_fzH hd rfl (length_tabK fl i i).symm (tabK_all fl i) (all1 (show (906 : Nat) ≠ 932 by decide)), trivial⟩)
          (fun hd => ⟨⟨_, rfl, leb rfl, fun j _ => le_refl hd _⟩, trivial⟩) rfl
    rintro ⟨⟩ -
    have em : (if (h : Int) < (n : Int) then (h : Int) else (n : Int)) = ((min n h : Nat) : Int) := by split <;> omega
    obtain ⟨m, hmm⟩ : ∃ m, min n h = m := ⟨_, rfl⟩
    rw [hmm] at em hv1 hl1
    refine ev_rs [partP k s d1, ownR m 1 (fun j => u64 (v1.getD j 0))] rfl (by repeat' (first | exact trivial | exact gd_t | exact gd_f | exact leb rfl | exact .inl (callSpec_args (as' := [planP p K rs hlf, partP (k + 1) s c]) ⟨PLe.refl _, PLe.part rfl rfl rfl rfl, trivial⟩ hFi) | exact callSpecO_args (as' := [planP p K rs hlf, u64s (tabL fs h), partP k s d1, i64 m]) ⟨PLe.refl _, PLe.refl _, PLe.refl _, PLe.of_eq (congrArg (fun z => PV.val (.int .i64 z)) em), trivial⟩ hv1 | exact (fun _ => rfl) | intro _ | apply And.intro | assumption | exact rfl | exact gd_t (by assumption) | exact gd_f (by assumption) | exact gd_a (by assumption) (by assumption) | exact gd_b (by assumption) (by assumption))) ?_
    refine ev_seq (ev_rs [] rfl trivial (ev_cond rfl (fun hlt => ?_) (fun hlt => ?_)))
    · have hgt : h < n := Int.ofNat_lt.mp (of_decide_eq_true hlt)
      have en : IntKind.wrap .i64 ((n : Int) - (h : Int)) = ((n - h : Nat) : Int) := by rw [wrapI _ (by omega) (by omega)]; omega
      have q1 : m + (n - h) ≤ 1099511627776 := by omega
      have q2 : 0 + (n - h) ≤ n - h := by omega
      refine ev_region [partP k s2 d2, ownR (n - h) 1 (fun j => u64 (v2.getD j 0))] rfl (by repeat' (first | exact trivial | exact gd_t | exact gd_f | exact leb rfl | exact .inl (callSpec_args (as' := [planP p K rs hlf, partP (k + 1) s c]) ⟨PLe.refl _, PLe.part rfl rfl rfl rfl, trivial⟩ hSe) | exact callSpecO_args (as' := [planP p K rs hlf, u64s (tabL fl h), partP k s2 d2, i64 ((n - h : Nat) : Int)]) ⟨PLe.refl _, PLe.refl _, PLe.refl _, PLe.of_eq (congrArg (fun z => PV.val (.int .i64 z)) en), trivial⟩ hv2 | exact q1 | exact q2 | exact rfl | exact (fun _ => rfl) | intro _ | apply And.intro | assumption | exact rfl | exact gd_t (by assumption) | exact gd_f (by assumption) | exact gd_a (by assumption) (by assumption) | exact gd_b (by assumption) (by assumption))) ?_
      refine ev_app 14 99 v1 v2 rfl rfl (show m + (n - h) = v1.length + v2.length by omega) (show m + (n - h) = v1.length + v2.length by omega) (show m = v1.length by omega) (fun j _ => rfl) (fun j _ => rfl) ?_
      have el : (v1 ++ v2).length = n := by rw [List.length_append]; omega
      refine ev_eq 14 (.own 99 0 n 1) (congrArg (fun z => AV.own 99 0 z 1) el) ?_
      exact ev_rs [] rfl trivial (ev_ret (.inr ⟨8, 99, _, rfl, rfl, rfl, (show n * 1 ≤ (v1 ++ v2).length by omega), fun j hj => ⟨_, rfl, rfl⟩⟩))
    · have hle : n ≤ h := by
        have := of_decide_eq_false hlt
        omega
      rw [hz2 hle, List.append_nil]
      have hmn : m = n := by omega
      refine ev_sk (ev_eq 14 (.own 85 0 n 1) (congrArg (fun z => AV.own 85 0 z 1) hmn) ?_)
      exact ev_rs [] rfl trivial (ev_ret (.inr ⟨8, 85, _, rfl, rfl, rfl, (show n * 1 ≤ m by omega), fun j hj => ⟨_, rfl, rfl⟩⟩))
end

end Go.Proofs

/- Transforms at some points, walked: the values of a polynomial; back again. -/
set_option linter.unusedVariables false
namespace Go.Proofs
open Go Vinc Vinc.Num

theorem whol_len {p : Nat} {r : Nat → Nat} {half : Nat} {iv : Nat → Nat} : ∀ k s vs kn, vs.length + kn.length = 2 ^ k → (whol p r half iv k s vs kn).length = 2 ^ k
  | 0, s, vs, kn, h => by
    have e0 : (2 : Nat) ^ 0 = 1 := rfl
    unfold whol
    split <;> omega
  | k + 1, s, vs, kn, h => by
    have e : 2 ^ (k + 1) = 2 ^ k * 2 := Nat.pow_succ 2 k
    unfold whol
    split
    · omega
    · split
      · rw [len_tabL]; omega
      · rw [len_tabL]; omega

/-- Two tables, one behind the other, filled side by side. -/
def pairK (A B : Nat → Nat) (h i : Nat) : List Nat := tabL (fun j => if j < h then (if j < i then A j else 0) else (if j - h < i then B (j - h) else 0)) (2 * h)

theorem pairK_len (A B : Nat → Nat) (h i : Nat) : (pairK A B h i).length = 2 * h := len_tabL _ _

theorem pairK_zero (A B : Nat → Nat) (h : Nat) : pairK A B h 0 = List.replicate (2 * h) 0 := by
  refine list_ext (n := 2 * h) (len_tabL _ _) List.length_replicate fun j hj => ?_
  unfold pairK
  rw [getD_tabL, if_pos hj, getD_rep]
  split
  · rw [if_neg (Nat.not_lt_zero _)]
  · rw [if_neg (Nat.not_lt_zero _)]

theorem pairK_set (A B : Nat → Nat) (h i : Nat) (hi : i < h) : ((pairK A B h i).set i (A i)).set (h + i) (B i) = pairK A B h (i + 1) := by
  refine list_ext (n := 2 * h) (by rw [List.length_set, List.length_set, pairK_len]) (len_tabL _ _) fun j hj => ?_
  rw [getD_set _ _ _ _ (by rw [List.length_set, pairK_len]; omega), getD_set _ _ _ _ (by rw [pairK_len]; omega)]
  unfold pairK
  rw [getD_tabL, getD_tabL, if_pos hj, if_pos hj]
  by_cases h1 : j = h + i
  · rw [if_pos h1, if_neg (by omega), if_pos (by omega), show j - h = i by omega]
  · rw [if_neg h1]
    by_cases h2 : j = i
    · rw [if_pos h2, if_pos (by omega), if_pos (by omega), h2]
    · rw [if_neg h2]
      by_cases h3 : j < h
      · rw [if_pos h3, if_pos h3]
        by_cases h4 : j < i
        · rw [if_pos h4, if_pos (by omega)]
        · rw [if_neg h4, if_neg (by omega)]
      · rw [if_neg h3, if_neg h3]
        by_cases h4 : j - h < i
        · rw [if_pos h4, if_pos (by omega)]
        · rw [if_neg h4, if_neg (by omega)]

theorem pairK_full (A B : Nat → Nat) (h : Nat) : pairK A B h h = tabL (fun j => if j < h then A j else B (j - h)) (2 * h) := by
  refine list_ext (n := 2 * h) (len_tabL _ _) (len_tabL _ _) fun j hj => ?_
  unfold pairK
  rw [getD_tabL, getD_tabL, if_pos hj, if_pos hj]
  by_cases h3 : j < h
  · rw [if_pos h3, if_pos h3, if_pos h3]
  · rw [if_neg h3, if_neg h3, if_pos (by omega)]

section
variable {p K hlf : Nat} {rs : List Nat}

set_option maxRecDepth 40000 in
theorem Go_own (hm : MayM p) (hlen : rs.length = K + 1) (hK : K < 12) (l : List Nat) (n : Nat) (hl : l.length ≤ 2 ^ K) (hn : n ≤ 2 ^ K) :
    CallSpecX Tryz.pr.P Tryz.pr.G 79 [.p (planP p K rs hlf), .p (u64s l), .p (i64 n)] [] [(900, ob64 (vals p (fun i => rs.getD i 0) K 1 (padN p (2 ^ K) l) n))] (.tp 2 (twoA (.own 900 0 n 1) (.p (i64 0)))) := by
  have hMo := Most_spec (p := p) (hlf := hlf) (rs := rs) hK
  have hP := padded_spec (hlf := hlf) (rs := rs) hm hK l hl
  have hO := tftOf_spec (K := K) (hlf := hlf) (rs := rs) hm K 1 (by omega)
  have hpl : (padN p (2 ^ K) l).length = 2 ^ K := len_tabL _ _
  have hV := values_spec (hlf := hlf) hm hlen hK K 1 (padN p (2 ^ K) l) n (Nat.le_refl _) hpl hn
  have hvl := vals_len p (fun i => rs.getD i 0) K 1 (padN p (2 ^ K) l) n hpl hn
  generalize vals p (fun i => rs.getD i 0) K 1 (padN p (2 ^ K) l) n = v at *
  generalize padN p (2 ^ K) l = pd at *
  generalize sqK p (K - 1) 1 = d at *
  generalize 2 ^ K = N at *
  have hc2 : (bif decide ((n : Int) < 0) then true else decide ((n : Int) > (N : Int))) = false := by rw [decide_eq_false (by omega), decide_eq_false (by omega)]; rfl
  refine callSpecX_of Tryz.pr Tryz.func79 rfl rfl rfl (fun z hz => ?_) (fun q hq => by cases hq) fun w0 ok0 hok hG mine hmine lc => ?_
  · simp only [List.mem_cons, List.not_mem_nil, or_false] at hz
    rcases hz with rfl | rfl | rfl <;> trivial
  refine ev_rs [] rfl trivial ?_
  refine ev_seq (ev_block ?_)
  refine ev_rs [] rfl trivial (ev_cf rfl ?_)
  refine ev_rs [i64 N] rfl (by repeat' (first | exact trivial | exact gd_t | exact gd_f | exact .inl hMo | exact (fun _ => rfl) | intro _ | apply And.intro | assumption | exact rfl | exact gd_t (by assumption) | exact gd_f (by assumption) | exact gd_a (by assumption) (by assumption) | exact gd_b (by assumption) (by assumption))) (ev_cf (congrArg (fun z => AV.p (PV.val (.bool z))) (decide_eq_false (by omega) : decide ((l.length : Int) > (N : Int)) = false)) ?_)
  refine ev_rs [i64 N] rfl (by repeat' (first | exact trivial | exact gd_t | exact gd_f | exact .inl hMo | exact (fun _ => rfl) | intro _ | apply And.intro | assumption | exact rfl | exact gd_t (by assumption) | exact gd_f (by assumption) | exact gd_a (by assumption) (by assumption) | exact gd_b (by assumption) (by assumption))) (ev_cf (congrArg (fun z => AV.p (PV.val (.bool z))) hc2) (ev_skip ?_))
  refine ev_ds [u64s pd, partP K 1 d, ownR n 1 (fun j => u64 (v.getD j 0))] (by kernel_rfl) rfl rfl (by repeat' (first | exact trivial | exact gd_t | exact gd_f | exact leb rfl | exact .inl hP | exact .inl hO | exact hV | exact (fun _ => rfl) | intro _ | apply And.intro | assumption | exact rfl | exact gd_t (by assumption) | exact gd_f (by assumption) | exact gd_a (by assumption) (by assumption) | exact gd_b (by assumption) (by assumption))) ?_
  have hr : ∀ {c : Cx} {σ : St} {o : Ob}, σ.h 37 = some o → Ren σ (mk [] [(900, ob64 v)]) (fun _ => 37) := fun h => ren_list (all1 (by show (St.h _ 37).isSome = true; rw [h]; rfl))
  refine ev_ret (retX2 (fun _ => 37) (fun q hq => by cases hq) trivial ⟨⟨_, rfl, (show v.length ≤ n by omega), fun j _ => le_refl (ren_list (all1 rfl)) _⟩, trivial⟩ rfl (le_own (ρ := fun _ => 37) (i := 900) rfl) (le_refl (ren_list (all1 rfl)) _))

set_option maxRecDepth 40000 in
theorem Go_spec (hm : MayM p) (hlen : rs.length = K + 1) (hK : K < 12) (l : List Nat) (n : Nat) (hl : l.length ≤ 2 ^ K) (hn : n ≤ 2 ^ K) :
    CallSpec Tryz.pr.P Tryz.pr.G 79 [planP p K rs hlf, u64s l, i64 n] (.tup 2 (two (u64s (vals p (fun i => rs.getD i 0) K 1 (padN p (2 ^ K) l) n)) (i64 0))) := by
  have hMo := Most_spec (p := p) (hlf := hlf) (rs := rs) hK
  have hP := padded_spec (hlf := hlf) (rs := rs) hm hK l hl
  have hO := tftOf_spec (K := K) (hlf := hlf) (rs := rs) hm K 1 (by omega)
  have hpl : (padN p (2 ^ K) l).length = 2 ^ K := len_tabL _ _
  have hV := values_spec (hlf := hlf) hm hlen hK K 1 (padN p (2 ^ K) l) n (Nat.le_refl _) hpl hn
  have hvl := vals_len p (fun i => rs.getD i 0) K 1 (padN p (2 ^ K) l) n hpl hn
  generalize vals p (fun i => rs.getD i 0) K 1 (padN p (2 ^ K) l) n = v at *
  generalize padN p (2 ^ K) l = pd at *
  generalize sqK p (K - 1) 1 = d at *
  generalize 2 ^ K = N at *
  have hc2 : (bif decide ((n : Int) < 0) then true else decide ((n : Int) > (N : Int))) = false := by rw [decide_eq_false (by omega), decide_eq_false (by omega)]; rfl
  refine callSpec_of Tryz.pr Tryz.func79 rfl rfl rfl fun w0 ok0 hok hG => ?_
  refine ev_rs [] rfl trivial ?_
  refine ev_seq (ev_block ?_)
  refine ev_rs [] rfl trivial (ev_cf rfl ?_)
  refine ev_rs [i64 N] rfl (by repeat' (first | exact trivial | exact gd_t | exact gd_f | exact .inl hMo | exact (fun _ => rfl) | intro _ | apply And.intro | assumption | exact rfl | exact gd_t (by assumption) | exact gd_f (by assumption) | exact gd_a (by assumption) (by assumption) | exact gd_b (by assumption) (by assumption))) (ev_cf (congrArg (fun z => AV.p (PV.val (.bool z))) (decide_eq_false (by omega) : decide ((l.length : Int) > (N : Int)) = false)) ?_)
  refine ev_rs [i64 N] rfl (by repeat' (first | exact trivial | exact gd_t | exact gd_f | exact .inl hMo | exact (fun _ => rfl) | intro _ | apply And.intro | assumption | exact rfl | exact gd_t (by assumption) | exact gd_f (by assumption) | exact gd_a (by assumption) (by assumption) | exact gd_b (by assumption) (by assumption))) (ev_cf (congrArg (fun z => AV.p (PV.val (.bool z))) hc2) (ev_skip ?_))
  refine ev_ds [u64s pd, partP K 1 d, ownR n 1 (fun j => u64 (v.getD j 0))] (by kernel_rfl) rfl rfl (by repeat' (first | exact trivial | exact gd_t | exact gd_f | exact leb rfl | exact .inl hP | exact .inl hO | exact hV | exact (fun _ => rfl) | intro _ | apply And.intro | assumption | exact rfl | exact gd_t (by assumption) | exact gd_f (by assumption) | exact gd_a (by assumption) (by assumption) | exact gd_b (by assumption) (by assumption))) ?_
  subst hvl
  exact ev_ret (ret2 (fz_ob (xs := v) rfl) (fz_p (PLe.refl _)))
end

end Go.Proofs

/- Transforms at some points, walked: back again, where the second half is known. -/
set_option linter.unusedVariables false
namespace Go.Proofs
open Go Vinc Vinc.Num

theorem sl_drop (xs : List Nat) (m : Nat) : PV.sl (xs.length - m) 1 (shiftF (fun j => u64 (xs.getD j 0)) m) = u64s (xs.drop m) := by
  show _ = PV.sl (xs.drop m).length 1 _
  rw [List.length_drop]
  congr 1
  funext j
  rw [shiftF_eq, drop_getD]

abbrev ren2 (a b : Nat) : Nat → Nat := fun i => bif Nat.beq i a then b else i

/-- The contract of whole, at a k. -/
def WholeAt (p K hlf : Nat) (rs : List Nat) (k : Nat) : Prop := ∀ (s : Nat) (vs kn : List Nat), vs.length + kn.length = 2 ^ k →
  CallSpec Tryz.pr.P Tryz.pr.G 92 [planP p K rs hlf, u64s vs, u64s kn, partP k s (sqK p (k - 1) s)] (u64s (whol p (fun i => rs.getD i 0) hlf (minv p) k s vs kn))

section
variable {p K hlf : Nat} {rs : List Nat}

set_option maxRecDepth 40000 in
theorem low_spec (hm : MayM p) (k : Nat) (hk : k < 12) (ih : WholeAt p K hlf rs k) (s : Nat) (vs kn : List Nat) (hl : vs.length + kn.length = 2 ^ (k + 1)) (h0 : vs.length ≠ 0) (hlt : vs.length < 2 ^ k) :
    CallSpec Tryz.pr.P Tryz.pr.G 106 [planP p K rs hlf, u64s vs, u64s kn, partP (k + 1) s (sqK p k s), i64 ((2 ^ k : Nat) : Int)] (u64s (whol p (fun i => rs.getD i 0) hlf (minv p) (k + 1) s vs kn)) := by
  have e2 : 2 ^ (k + 1) = 2 ^ k * 2 := Nat.pow_succ 2 k
  have hN := pow_fit k hk
  have hW : whol p (fun i => rs.getD i 0) hlf (minv p) (k + 1) s vs kn = (tabL (fun i => if i < 2 ^ k then sb ((whol p (fun i => rs.getD i 0) hlf (minv p) k s vs (tabL (fun i => (kn.getD i 0 + sqK p k s * (kn.drop (2 ^ k - vs.length)).getD (vs.length + i) 0 % p) % p) (2 ^ k - vs.length))).getD i 0) (sqK p k s * (kn.drop (2 ^ k - vs.length)).getD i 0 % p) p else (kn.drop (2 ^ k - vs.length)).getD (i - 2 ^ k) 0) (2 * 2 ^ k)) := by
    show (if vs.length = 0 then kn else if vs.length < 2 ^ k then _ else _) = _
    rw [if_neg h0, if_pos hlt]
  rw [hW]
  clear hW
  have hFi := first_spec (K := K) (hlf := hlf) (rs := rs) hm k s (sqK p k s) (by omega)
  obtain ⟨c, hc⟩ : ∃ c, sqK p k s = c := ⟨_, rfl⟩
  rw [hc] at hFi ⊢
  obtain ⟨n, hn⟩ : ∃ n, vs.length = n := ⟨_, rfl⟩
  rw [hn] at hl h0 hlt ⊢
  obtain ⟨hi, hhi⟩ : ∃ hi, kn.drop (2 ^ k - n) = hi := ⟨_, rfl⟩
  have hhl : hi.length = 2 ^ k := by rw [← hhi, List.length_drop]; omega
  rw [hhi]
  obtain ⟨f, hf⟩ : ∃ f : Nat → Nat, f = fun i => (kn.getD i 0 + c * hi.getD (n + i) 0 % p) % p := ⟨_, rfl⟩
  have hfi : ∀ i, (kn.getD i 0 + c * hi.getD (n + i) 0 % p) % p = f i := fun i => by rw [hf]
  rw [← hf]
  clear hf
  have hu := ih s vs (tabL f (2 ^ k - n)) (by rw [len_tabL]; omega)
  have hul := whol_len (p := p) (r := fun i => rs.getD i 0) (half := hlf) (iv := minv p) k s vs (tabL f (2 ^ k - n)) (by rw [len_tabL]; omega)
  generalize whol p (fun i => rs.getD i 0) hlf (minv p) k s vs (tabL f (2 ^ k - n)) = u at *
  generalize sqK p (k - 1) s = d1 at *
  obtain ⟨fa, hfa⟩ : ∃ f : Nat → Nat, f = fun i => sb (u.getD i 0) (c * hi.getD i 0 % p) p := ⟨_, rfl⟩
  have hfai : ∀ i, sb (u.getD i 0) (c * hi.getD i 0 % p) p = fa i := fun i => by rw [hfa]
  obtain ⟨fb, hfb⟩ : ∃ f : Nat → Nat, f = fun i => hi.getD i 0 := ⟨_, rfl⟩
  have hfbi : ∀ i, hi.getD i 0 = fb i := fun i => by rw [hfb]
  have hfin : pairK fa fb (2 ^ k) (2 ^ k) = tabL (fun i => if i < 2 ^ k then sb (u.getD i 0) (c * hi.getD i 0 % p) p else hi.getD (i - 2 ^ k) 0) (2 * 2 ^ k) := by rw [pairK_full, hfa, hfb]
  rw [← hfin]
  clear hfa hfb hfin
  generalize 2 ^ k = h at *
  have ehn : IntKind.wrap .i64 ((h : Int) - (n : Int)) = ((h - n : Nat) : Int) := by rw [wrapI _ (by omega) (by omega)]; omega
  have eh2 : IntKind.wrap .i64 (2 * (h : Int)) = ((2 * h : Nat) : Int) := by rw [wrapI _ (by omega) (by omega)]; omega
  refine callSpec_of Tryz.pr Tryz.func106 rfl rfl rfl fun w0 ok0 hok hG => ?_
  refine ev_rs [] rfl (by repeat' (first | exact trivial | exact gd_t | exact gd_f | exact leb rfl | exact (fun _ => rfl) | intro _ | apply And.intro | assumption | exact rfl | exact gd_t (by assumption) | exact gd_f (by assumption) | exact gd_a (by assumption) (by assumption) | exact gd_b (by assumption) (by assumption))) ?_
  refine ev_rs [] rfl trivial (ev_eq 11 (.p (i64 n)) (congrArg (fun n : Nat => AV.p (i64 n)) hn) ?_)
  have a1 : (0 : Int) ≤ IntKind.wrap .i64 ((h : Int) - (n : Int)) := by rw [ehn]; omega
  have a2 : IntKind.wrap .i64 ((h : Int) - (n : Int)) ≤ (kn.length : Int) := by rw [ehn]; omega
  refine ev_rs [] rfl (by repeat' (first | exact trivial | exact gd_t | exact gd_f | exact a1 | exact a2 | exact (fun _ => rfl) | intro _ | apply And.intro | assumption | exact rfl | exact gd_t (by assumption) | exact gd_f (by assumption) | exact gd_a (by assumption) (by assumption) | exact gd_b (by assumption) (by assumption))) (ev_eq 12 (.p (u64s hi)) ?_ ?_)
  · show AV.p (PV.sl (kn.length - (IntKind.wrap .i64 ((h : Int) - (n : Int))).toNat) 1 (shiftF (fun j => u64 (kn.getD j 0)) (IntKind.wrap .i64 ((h : Int) - (n : Int))).toNat)) = _
    rw [sl_drop, ehn, Int.toNat_natCast, hhi]
  refine ev_rs [] rfl trivial (ev_nilown 13 913 rfl rfl ?_)
  refine ev_at (α := Unit) (fun _ => True) (fun _ => [(0, .p (planP p K rs hlf)), (1, .p (u64s vs)), (4, .p (i64 h)), (8, .oat 908 0), (12, .p (u64s hi)), (13, .p (u64s (tabL f (h - n))))]) (fun _ => [(908, partOb (k + 1) s c)]) ?_ ?_
  · refine ev_rs [] rfl trivial ?_
    refine ev_block (ev_while (α := Nat) (fun j => j ≤ h - n) (fun j => [(0, .p (planP p K rs hlf)), (1, .p (u64s vs)), (2, .p (u64s kn)), (4, .p (i64 h)), (8, .oat 908 0), (11, .p (i64 n)), (12, .p (u64s hi)), (13, .own 913 0 j 1), (14, .p (i64 ((n + j : Nat) : Int)))])
      (fun j => [(908, partOb (k + 1) s c), (913, ob64 (tabL f j))]) (fun j => h - n - j) 0 (Nat.zero_le _)
      (wk_l (ren2 908 8) (all2 rfl rfl) (fun hd => ⟨le_refl hd _, le_refl hd _, le_refl hd _, le_refl hd _, le_oat (ρ := ren2 908 8) (i := 908) rfl, le_refl hd _, le_refl hd _, le_own (ρ := ren2 908 8) (i := 913) rfl, le_refl hd _, trivial⟩)
        (fun hd => ⟨⟨_, rfl, leb rfl, fun j _ => le_refl hd _⟩, ⟨_, rfl, Nat.le_refl _, fun j _ => le_refl hd _⟩, trivial⟩) rfl) ?_)
    rintro j h1
    refine ev_seq (ev_rs [] rfl trivial (ev_cond rfl (fun hq => ev_sk ?_) (fun hq => ev_exit ?_)))
    · have hj : j < h - n := by
        have hq' : ((n + j : Nat) : Int) < (h : Int) := of_decide_eq_true hq
        omega
      have ej : IntKind.wrap .i64 (((n + j : Nat) : Int) - (n : Int)) = (j : Int) := by rw [wrapI _ (by omega) (by omega)]; omega
      have hM := Mul_spec (b := bk p) (t := tw p) hm c (hi.getD (n + j) 0)
      have hf1 := hfi j
      obtain ⟨x, hx⟩ : ∃ x, c * hi.getD (n + j) 0 % p = x := ⟨_, rfl⟩
      rw [hx] at hM hf1
      have hA := Add_spec (b := bk p) (t := tw p) hm (kn.getD j 0) x
      rw [hf1] at hA
      have hA' : CallSpec Tryz.pr.P Tryz.pr.G 39 [newF p, u64 (kn.getD (IntKind.wrap .i64 (((n + j : Nat) : Int) - (n : Int))).toNat 0), u64 x] (u64 (f j)) := by rw [ej]; exact hA
      have d1 : (0 : Int) ≤ IntKind.wrap .i64 (((n + j : Nat) : Int) - (n : Int)) := by rw [ej]; omega
      have d2 : IntKind.wrap .i64 (((n + j : Nat) : Int) - (n : Int)) < (kn.length : Int) := by rw [ej]; omega
      have d3 : (IntKind.wrap .i64 (((n + j : Nat) : Int) - (n : Int))).toNat < kn.length := by rw [ej, Int.toNat_natCast]; omega
      have d4 : (0 : Int) ≤ ((n + j : Nat) : Int) := by omega
      have d5 : ((n + j : Nat) : Int) < (hi.length : Int) := by omega
      have d6 : n + j < hi.length := by omega
      have d7 : j + 1 ≤ 1099511627776 := by omega
      have d8 : (tabL f j).length = j := len_tabL _ _
      refine ev_seq (ev_block ?_)
      refine ev_draw [u64 x, u64 (f j)] (by kernel_rfl) rfl rfl (by repeat' (first | exact trivial | exact gd_t | exact gd_f | exact leb rfl | exact .inl hM | exact .inl hA' | exact d1 | exact d2 | exact d3 | exact d4 | exact d5 | exact d6 | exact d7 | exact d8 | exact (fun _ => rfl) | intro _ | apply And.intro | assumption | exact rfl | exact gd_t (by assumption) | exact gd_f (by assumption) | exact gd_a (by assumption) (by assumption) | exact gd_b (by assumption) (by assumption))) ?_
      refine ev_app 13 55 (tabL f j) [f j] rfl rfl (show j + 1 = _ by rw [d8]; rfl) (show j + 1 = _ by rw [d8]; rfl) d8.symm (fun _ _ => rfl) (fun q hq => by match q, hq with | 0, _ => rfl) ?_
      have d9 : tabL f j ++ [f j] = tabL f (j + 1) := (tabL_snoc f j).symm
      refine ev_eq 13 (.own 55 0 (j + 1) 1) (congrArg (fun z => AV.own 55 0 z 1) (by rw [d9]; exact len_tabL _ _)) (ev_ob 55 (ob64 (tabL f (j + 1))) (congrArg (fun l => some (ob64 l)) d9) ?_)
      exact ev_region [] rfl trivial ⟨j + 1, hj, by dsimp only; omega, wk_l (ren2 913 55) (all2 rfl rfl) (fun hd => ⟨le_refl hd _, le_refl hd _, le_refl hd _, le_refl hd _, le_oat (ρ := ren2 913 55) (i := 908) rfl, le_refl hd _, le_refl hd _, le_own (ρ := ren2 913 55) (i := 913) rfl, le_n hd (congrArg (fun z => PV.val (.int .i64 z)) ((wrapI _ (by omega) (by omega)).trans (by omega))), trivial⟩)
        (fun hd => ⟨⟨_, rfl, leb rfl, fun j _ => le_refl hd _⟩, ⟨_, rfl, Nat.le_refl _, fun j _ => le_refl hd _⟩, trivial⟩) rfl⟩
    · have hj : j = h - n := by
        have hq' : ¬ ((n + j : Nat) : Int) < (h : Int) := of_decide_eq_false hq
        omega
      subst hj
      exact at_l (fun i => i) () trivial (all1 rfl) (fun hd => ⟨le_refl hd _, le_refl hd _, le_refl hd _, le_a rfl, le_refl hd _, le_fzH hd rfl (len_tabL f (h - n)).symm rfl (all1 (show (908 : Nat) ≠ 913 by decide)), trivial⟩)
        (fun hd => ⟨⟨_, rfl, leb rfl, fun j _ => le_refl hd _⟩, trivial⟩) rfl
  rintro ⟨⟩ -
  refine ev_rs [partP k s d1, u64s u] rfl (by repeat' (first | exact trivial | exact gd_t | exact gd_f | exact leb rfl | exact .inl (callSpec_args (as' := [planP p K rs hlf, partP (k + 1) s c]) ⟨PLe.refl _, PLe.part rfl rfl rfl rfl, trivial⟩ hFi) | exact .inl hu | exact (fun _ => rfl) | intro _ | apply And.intro | assumption | exact rfl | exact gd_t (by assumption) | exact gd_f (by assumption) | exact gd_a (by assumption) (by assumption) | exact gd_b (by assumption) (by assumption))) ?_
  have c1 : (0 : Int) ≤ IntKind.wrap .i64 (2 * (h : Int)) := by rw [eh2]; omega
  have c2 : IntKind.wrap .i64 (2 * (h : Int)) ≤ 1099511627776 := by rw [eh2]; omega
  refine ev_rs [] rfl (by repeat' (first | exact trivial | exact gd_t | exact gd_f | exact c1 | exact c2 | exact Int.le_refl _ | exact (fun _ => rfl) | intro _ | apply And.intro | assumption | exact rfl | exact gd_t (by assumption) | exact gd_f (by assumption) | exact gd_a (by assumption) (by assumption) | exact gd_b (by assumption) (by assumption))) ?_
  refine ev_made 16 65 (2 * h) rfl rfl (show (IntKind.wrap .i64 (2 * (h : Int))).toNat = _ by rw [eh2]; rfl) ?_
  refine ev_at (α := Unit) (fun _ => True) (fun _ => [(16, .p (u64s (pairK fa fb h h)))]) (fun _ => []) ?_ ?_
  · refine ev_rs [] rfl trivial ?_
    refine ev_block (ev_while (α := Nat) (fun i => i ≤ h) (fun i => [(0, .p (planP p K rs hlf)), (4, .p (i64 h)), (8, .oat 908 0), (12, .p (u64s hi)), (15, .p (u64s u)), (16, .own 916 0 (2 * h) 1), (66, .p (i64 h)), (67, .p (i64 i))])
      (fun i => [(908, partOb (k + 1) s c), (916, ob64 (pairK fa fb h i))]) (fun i => h - i) 0 (Nat.zero_le _)
      (wk_l (ren2 916 65) (all2 rfl rfl) (fun hd => ⟨le_refl hd _, le_refl hd _, le_oat (ρ := ren2 916 65) (i := 908) rfl, le_refl hd _, le_refl hd _, le_own (ρ := ren2 916 65) (i := 916) rfl, le_refl hd _, le_refl hd _, trivial⟩)
        (fun hd => ⟨⟨_, rfl, leb rfl, fun j _ => le_refl hd _⟩, ⟨_, rfl, (by show (pairK fa fb h 0).length ≤ (List.replicate (2 * h) 0).length; rw [pairK_zero]; exact Nat.le_refl _), fun j _ => by show Le _ _ _ _ (.p (u64 ((List.replicate (2 * h) 0).getD j 0))) (.p (u64 ((pairK fa fb h 0).getD j 0))); rw [pairK_zero]; exact le_refl hd _⟩, trivial⟩) rfl) ?_)
    rintro i h1
    refine ev_rs [] rfl trivial (ev_seq (ev_cond rfl (fun hq => ev_sk ?_) (fun hq => ev_exit ?_)))
    · have hil : i < h := Int.ofNat_lt.mp (of_decide_eq_true hq)
      have hpl := pairK_len fa fb h i
      have ehi : IntKind.wrap .i64 ((h : Int) + (i : Int)) = ((h + i : Nat) : Int) := by rw [wrapI _ (by omega) (by omega)]; omega
      have hM := Mul_spec (b := bk p) (t := tw p) hm c (hi.getD i 0)
      have hf1 := hfai i
      obtain ⟨x, hx⟩ : ∃ x, c * hi.getD i 0 % p = x := ⟨_, rfl⟩
      rw [hx] at hM hf1
      have hS := Sb_spec (b := bk p) (t := tw p) hm (u.getD i 0) x
      rw [hf1] at hS
      have d1 : (0 : Int) ≤ (i : Int) := by omega
      have d2 : (i : Int) < (u.length : Int) := by omega
      have d3 : i < u.length := by omega
      have d4 : (i : Int) < (hi.length : Int) := by omega
      have d5 : i < hi.length := by omega
      have d6 : (i : Int) < ((2 * h : Nat) : Int) := by omega
      have d7 : i + 1 ≤ (pairK fa fb h i).length := by omega
      have d8 : (0 : Int) ≤ IntKind.wrap .i64 ((h : Int) + (i : Int)) := by rw [ehi]; omega
      have d9 : IntKind.wrap .i64 ((h : Int) + (i : Int)) < ((2 * h : Nat) : Int) := by rw [ehi]; omega
      have d10 : (IntKind.wrap .i64 ((h : Int) + (i : Int))).toNat + 1 ≤ ((pairK fa fb h i).set i (fa i)).length := by rw [List.length_set, ehi, Int.toNat_natCast]; omega
      refine ev_seq (ev_block ?_)
      refine ev_rs [] rfl trivial ?_
      refine ev_ds [u64 x, u64 (fa i)] (by kernel_rfl) rfl rfl (by repeat' (first | exact trivial | exact gd_t | exact gd_f | exact leb rfl | exact .inl hM | exact .inl hS | exact d1 | exact d2 | exact d3 | exact d4 | exact d5 | exact d6 | exact d7 | exact (fun _ => rfl) | intro _ | apply And.intro | assumption | exact rfl | exact gd_t (by assumption) | exact gd_f (by assumption) | exact gd_a (by assumption) (by assumption) | exact gd_b (by assumption) (by assumption))) ?_
      refine ev_set 916 i (fa i) rfl rfl rfl (by omega) ?_
      refine ev_region [] rfl (by repeat' (first | exact trivial | exact gd_t | exact gd_f | exact d1 | exact d4 | exact d5 | exact d8 | exact d9 | exact d10 | exact (fun _ => rfl) | intro _ | apply And.intro | assumption | exact rfl | exact gd_t (by assumption) | exact gd_f (by assumption) | exact gd_a (by assumption) (by assumption) | exact gd_b (by assumption) (by assumption))) ?_
      refine ev_set 916 (h + i) (fb i) rfl (by show (IntKind.wrap .i64 ((h : Int) + (i : Int))).toNat = _; rw [ehi]; rfl) (congrArg u64 (hfbi i)) (by rw [List.length_set]; omega) ?_
      exact ev_region [] rfl trivial ⟨i + 1, hil, by dsimp only; omega, wk_l (fun i => i) (all2 rfl rfl) (fun hd => ⟨le_refl hd _, le_refl hd _, le_a rfl, le_refl hd _, le_refl hd _, le_o rfl, le_refl hd _, le_n hd (congrArg (fun z => PV.val (.int .i64 z)) (wrapI _ (by omega) (by omega))), trivial⟩)
        (fun hd => ⟨⟨_, rfl, leb rfl, fun j _ => le_refl hd _⟩, ⟨_, congrArg (fun l => some (ob64 l)) (pairK_set fa fb h i hil), Nat.le_refl _, fun j _ => le_refl hd _⟩, trivial⟩) rfl⟩
    · have hil : i = h := by
        have := of_decide_eq_false hq
        omega
      subst hil
      exact at0 () trivial ⟨le_fz' rfl (pairK_len fa fb i i).symm rfl, trivial⟩
  rintro ⟨⟩ -
  exact ev_rs [] rfl trivial (ev_ret (ret1 (fz_p (PLe.refl _))))
end

end Go.Proofs
