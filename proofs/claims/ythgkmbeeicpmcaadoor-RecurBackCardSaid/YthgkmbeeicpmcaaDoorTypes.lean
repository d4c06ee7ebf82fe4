/- The types of the program, and what is known of its variables. -/
import Derived.Test.YthgkmbeeicpmcaaDoorVincN
import Derived.Test.YthgkmbeeicpmcaaDoorVincTz
import Derived.Test.YthgkmbeeicpmcaaDoorProg
namespace Go.Proofs
open Go Vinc

def Tryd.T0 : Nat → Option Vinc.TI
  | 2 => some ⟨.int .i64, 1, 8, [.int .i64 0]⟩
  | 3 => some ⟨.int .i64, 1, 8, [.int .i64 0]⟩
  | 4 => some ⟨.bool, 1, 1, [.bool false]⟩
  | 5 => some ⟨.int .u8, 1, 1, [.int .u8 0]⟩
  | 9 => some ⟨.str, 1, 16, [.string ⟨#[]⟩]⟩
  | 12 => some ⟨.int .u64, 1, 8, [.int .u64 0]⟩
  | 13 => some ⟨.struct [(0, 9), (1, 12)], 2, 24, [.string ⟨#[]⟩, .int .u64 0]⟩
  | 19 => some ⟨.struct [(0, 17)], 1, 8, [.pointer none]⟩
  | 21 => some ⟨.int .i32, 1, 4, [.int .i32 0]⟩
  | 22 => some ⟨.int .u64, 1, 8, [.int .u64 0]⟩
  | 23 => some ⟨.slice 22, 1, 24, [.slice none 0 0]⟩
  | 25 => some ⟨.slice 22, 1, 24, [.slice none 0 0]⟩
  | 26 => some ⟨.int .i64, 1, 8, [.int .i64 0]⟩
  | 33 => some ⟨.slice 22, 1, 24, [.slice none 0 0]⟩
  | 36 => some ⟨.array 2 23, 2, 48, [.slice none 0 0, .slice none 0 0]⟩
  | 48 => some ⟨.pointer 65, 1, 8, [.pointer none]⟩
  | 57 => some ⟨.slice 23, 1, 24, [.slice none 0 0]⟩
  | 59 => some ⟨.pointer 69, 1, 8, [.pointer none]⟩
  | 64 => some ⟨.struct [(0, 22), (1, 22), (2, 22)], 3, 24, [.int .u64 0, .int .u64 0, .int .u64 0]⟩
  | 65 => some ⟨.struct [(0, 22), (1, 22), (2, 22)], 3, 24, [.int .u64 0, .int .u64 0, .int .u64 0]⟩
  | 68 => some ⟨.struct [(0, 48)], 1, 8, [.pointer none]⟩
  | 69 => some ⟨.struct [(0, 48)], 1, 8, [.pointer none]⟩
  | 73 => some ⟨.int .u64, 1, 8, [.int .u64 0]⟩
  | 75 => some ⟨.array 12 22, 12, 96, [.int .u64 0, .int .u64 0, .int .u64 0, .int .u64 0, .int .u64 0, .int .u64 0, .int .u64 0, .int .u64 0, .int .u64 0, .int .u64 0, .int .u64 0, .int .u64 0]⟩
  | 83 => some ⟨.slice 33, 1, 24, [.slice none 0 0]⟩
  | 84 => some ⟨.array 64 5, 64, 64, [.int .u8 0, .int .u8 0, .int .u8 0, .int .u8 0, .int .u8 0, .int .u8 0, .int .u8 0, .int .u8 0, .int .u8 0, .int .u8 0, .int .u8 0, .int .u8 0, .int .u8 0, .int .u8 0, .int .u8 0, .int .u8 0, .int .u8 0, .int .u8 0, .int .u8 0, .int .u8 0, .int .u8 0, .int .u8 0, .int .u8 0, .int .u8 0, .int .u8 0, .int .u8 0, .int .u8 0, .int .u8 0, .int .u8 0, .int .u8 0, .int .u8 0, .int .u8 0, .int .u8 0, .int .u8 0, .int .u8 0, .int .u8 0, .int .u8 0, .int .u8 0, .int .u8 0, .int .u8 0, .int .u8 0, .int .u8 0, .int .u8 0, .int .u8 0, .int .u8 0, .int .u8 0, .int .u8 0, .int .u8 0, .int .u8 0, .int .u8 0, .int .u8 0, .int .u8 0, .int .u8 0, .int .u8 0, .int .u8 0, .int .u8 0, .int .u8 0, .int .u8 0, .int .u8 0, .int .u8 0, .int .u8 0, .int .u8 0, .int .u8 0, .int .u8 0]⟩
  | 86 => some ⟨.pointer 105, 1, 8, [.pointer none]⟩
  | 94 => some ⟨.int .u32, 1, 4, [.int .u32 0]⟩
  | 98 => some ⟨.pointer 5, 1, 8, [.pointer none]⟩
  | 104 => some ⟨.struct [(0, 9)], 1, 16, [.string ⟨#[]⟩]⟩
  | 105 => some ⟨.struct [(0, 9)], 1, 16, [.string ⟨#[]⟩]⟩
  | _ => none
theorem Tryd.hT0 : ∀ t i, Tryd.T0 t = some i → Vinc.TIok Tryd.prog t i := by
  intro t i h
  unfold Tryd.T0 at h
  split at h
  · obtain rfl := Option.some.inj h; exact ⟨Tryd.underlying2, by kernel_rfl⟩
  · obtain rfl := Option.some.inj h; exact ⟨Tryd.underlying3, by kernel_rfl⟩
  · obtain rfl := Option.some.inj h; exact ⟨Tryd.underlying4, by kernel_rfl⟩
  · obtain rfl := Option.some.inj h; exact ⟨Tryd.underlying5, by kernel_rfl⟩
  · obtain rfl := Option.some.inj h; exact ⟨Tryd.underlying9, by kernel_rfl⟩
  · obtain rfl := Option.some.inj h; exact ⟨Tryd.underlying12, by kernel_rfl⟩
  · obtain rfl := Option.some.inj h; exact ⟨⟨_, Tryd.underlying13, rfl⟩, by kernel_rfl⟩
  · obtain rfl := Option.some.inj h; exact ⟨⟨_, Tryd.underlying19, rfl⟩, by kernel_rfl⟩
  · obtain rfl := Option.some.inj h; exact ⟨Tryd.underlying21, by kernel_rfl⟩
  · obtain rfl := Option.some.inj h; exact ⟨Tryd.underlying22, by kernel_rfl⟩
  · obtain rfl := Option.some.inj h; exact ⟨Tryd.underlying23, by kernel_rfl⟩
  · obtain rfl := Option.some.inj h; exact ⟨Tryd.underlying25, by kernel_rfl⟩
  · obtain rfl := Option.some.inj h; exact ⟨Tryd.underlying26, by kernel_rfl⟩
  · obtain rfl := Option.some.inj h; exact ⟨Tryd.underlying33, by kernel_rfl⟩
  · obtain rfl := Option.some.inj h; exact ⟨Tryd.underlying36, by kernel_rfl⟩
  · obtain rfl := Option.some.inj h; exact ⟨Tryd.underlying48, by kernel_rfl⟩
  · obtain rfl := Option.some.inj h; exact ⟨Tryd.underlying57, by kernel_rfl⟩
  · obtain rfl := Option.some.inj h; exact ⟨Tryd.underlying59, by kernel_rfl⟩
  · obtain rfl := Option.some.inj h; exact ⟨⟨_, Tryd.underlying64, rfl⟩, by kernel_rfl⟩
  · obtain rfl := Option.some.inj h; exact ⟨⟨_, Tryd.underlying65, rfl⟩, by kernel_rfl⟩
  · obtain rfl := Option.some.inj h; exact ⟨⟨_, Tryd.underlying68, rfl⟩, by kernel_rfl⟩
  · obtain rfl := Option.some.inj h; exact ⟨⟨_, Tryd.underlying69, rfl⟩, by kernel_rfl⟩
  · obtain rfl := Option.some.inj h; exact ⟨Tryd.underlying73, by kernel_rfl⟩
  · obtain rfl := Option.some.inj h; exact ⟨Tryd.underlying75, by kernel_rfl⟩
  · obtain rfl := Option.some.inj h; exact ⟨Tryd.underlying83, by kernel_rfl⟩
  · obtain rfl := Option.some.inj h; exact ⟨Tryd.underlying84, by kernel_rfl⟩
  · obtain rfl := Option.some.inj h; exact ⟨Tryd.underlying86, by kernel_rfl⟩
  · obtain rfl := Option.some.inj h; exact ⟨Tryd.underlying94, by kernel_rfl⟩
  · obtain rfl := Option.some.inj h; exact ⟨Tryd.underlying98, by kernel_rfl⟩
  · obtain rfl := Option.some.inj h; exact ⟨⟨_, Tryd.underlying104, rfl⟩, by kernel_rfl⟩
  · obtain rfl := Option.some.inj h; exact ⟨⟨_, Tryd.underlying105, rfl⟩, by kernel_rfl⟩
  · cases h

/-- The table of zeros, as the program lays it. -/
def Tryd.G0 : Nat → PV := fun g => bif Nat.beq g 2 then .ptr 64 (fun j => .val (.int .u8 ((Vinc.Num.tab64.getD j 0 : Nat) : Int))) 0 else .any

/-- The program, with what is known of its variables. -/
noncomputable def Tryd.pr : Pr := ⟨Tryd.prog, Tryd.G0, Tryd.T0, Tryd.hT0⟩
end Go.Proofs
