/- The types of the program, and what is known of its variables. -/
import Derived.Test.YtmpfgaebmdbdeaaGreatDoorVincN
import Derived.Test.YtmpfgaebmdbdeaaGreatDoorVincTz
import Derived.Test.YtmpfgaebmdbdeaaGreatDoorProg
namespace Go.Proofs
open Go Vinc

def Tryz.T0 : Nat → Option Vinc.TI
  | 2 => some ⟨.int .i64, 1, 8, [.int .i64 0]⟩
  | 3 => some ⟨.int .i64, 1, 8, [.int .i64 0]⟩
  | 4 => some ⟨.bool, 1, 1, [.bool false]⟩
  | 5 => some ⟨.int .u8, 1, 1, [.int .u8 0]⟩
  | 9 => some ⟨.str, 1, 16, [.string ⟨#[]⟩]⟩
  | 12 => some ⟨.int .u64, 1, 8, [.int .u64 0]⟩
  | 13 => some ⟨.struct [(0, 9), (1, 12)], 2, 24, [.string ⟨#[]⟩, .int .u64 0]⟩
  | 19 => some ⟨.struct [(0, 17)], 1, 8, [.pointer none]⟩
  | 21 => some ⟨.int .i32, 1, 4, [.int .i32 0]⟩
  | 22 => some ⟨.int .u64, 1, 8, [.int .u64 0]⟩
  | 23 => some ⟨.slice 22, 1, 24, [.slice none 0 0]⟩
  | 24 => some ⟨.slice 22, 1, 24, [.slice none 0 0]⟩
  | 25 => some ⟨.array 2 24, 2, 48, [.slice none 0 0, .slice none 0 0]⟩
  | 26 => some ⟨.pointer 66, 1, 8, [.pointer none]⟩
  | 31 => some ⟨.int .i64, 1, 8, [.int .i64 0]⟩
  | 37 => some ⟨.array 2 22, 2, 16, [.int .u64 0, .int .u64 0]⟩
  | 38 => some ⟨.array 2 3, 2, 16, [.int .i64 0, .int .i64 0]⟩
  | 47 => some ⟨.array 3 24, 3, 72, [.slice none 0 0, .slice none 0 0, .slice none 0 0]⟩
  | 64 => some ⟨.pointer 81, 1, 8, [.pointer none]⟩
  | 65 => some ⟨.struct [(0, 64)], 1, 8, [.pointer none]⟩
  | 66 => some ⟨.struct [(0, 64)], 1, 8, [.pointer none]⟩
  | 73 => some ⟨.int .u64, 1, 8, [.int .u64 0]⟩
  | 79 => some ⟨.slice 24, 1, 24, [.slice none 0 0]⟩
  | 80 => some ⟨.struct [(0, 22), (1, 22), (2, 22)], 3, 24, [.int .u64 0, .int .u64 0, .int .u64 0]⟩
  | 81 => some ⟨.struct [(0, 22), (1, 22), (2, 22)], 3, 24, [.int .u64 0, .int .u64 0, .int .u64 0]⟩
  | 84 => some ⟨.array 12 22, 12, 96, [.int .u64 0, .int .u64 0, .int .u64 0, .int .u64 0, .int .u64 0, .int .u64 0, .int .u64 0, .int .u64 0, .int .u64 0, .int .u64 0, .int .u64 0, .int .u64 0]⟩
  | 88 => some ⟨.slice 94, 1, 24, [.slice none 0 0]⟩
  | 92 => some ⟨.slice 22, 1, 24, [.slice none 0 0]⟩
  | 93 => some ⟨.struct [(0, 4), (1, 92)], 2, 32, [.bool false, .slice none 0 0]⟩
  | 94 => some ⟨.struct [(0, 4), (1, 92)], 2, 32, [.bool false, .slice none 0 0]⟩
  | 97 => some ⟨.array 3 23, 3, 72, [.slice none 0 0, .slice none 0 0, .slice none 0 0]⟩
  | 106 => some ⟨.array 64 5, 64, 64, [.int .u8 0, .int .u8 0, .int .u8 0, .int .u8 0, .int .u8 0, .int .u8 0, .int .u8 0, .int .u8 0, .int .u8 0, .int .u8 0, .int .u8 0, .int .u8 0, .int .u8 0, .int .u8 0, .int .u8 0, .int .u8 0, .int .u8 0, .int .u8 0, .int .u8 0, .int .u8 0, .int .u8 0, .int .u8 0, .int .u8 0, .int .u8 0, .int .u8 0, .int .u8 0, .int .u8 0, .int .u8 0, .int .u8 0, .int .u8 0, .int .u8 0, .int .u8 0, .int .u8 0, .int .u8 0, .int .u8 0, .int .u8 0, .int .u8 0, .int .u8 0, .int .u8 0, .int .u8 0, .int .u8 0, .int .u8 0, .int .u8 0, .int .u8 0, .int .u8 0, .int .u8 0, .int .u8 0, .int .u8 0, .int .u8 0, .int .u8 0, .int .u8 0, .int .u8 0, .int .u8 0, .int .u8 0, .int .u8 0, .int .u8 0, .int .u8 0, .int .u8 0, .int .u8 0, .int .u8 0, .int .u8 0, .int .u8 0, .int .u8 0, .int .u8 0]⟩
  | 107 => some ⟨.pointer 122, 1, 8, [.pointer none]⟩
  | 108 => some ⟨.array 3 107, 3, 24, [.pointer none, .pointer none, .pointer none]⟩
  | 121 => some ⟨.struct [(0, 64), (1, 3), (2, 23), (3, 22)], 4, 48, [.pointer none, .int .i64 0, .slice none 0 0, .int .u64 0]⟩
  | 122 => some ⟨.struct [(0, 64), (1, 3), (2, 23), (3, 22)], 4, 48, [.pointer none, .int .i64 0, .slice none 0 0, .int .u64 0]⟩
  | 128 => some ⟨.int .u32, 1, 4, [.int .u32 0]⟩
  | 132 => some ⟨.struct [(0, 3), (1, 22), (2, 22)], 3, 24, [.int .i64 0, .int .u64 0, .int .u64 0]⟩
  | 133 => some ⟨.struct [(0, 3), (1, 22), (2, 22)], 3, 24, [.int .i64 0, .int .u64 0, .int .u64 0]⟩
  | 156 => some ⟨.pointer 172, 1, 8, [.pointer none]⟩
  | 166 => some ⟨.pointer 5, 1, 8, [.pointer none]⟩
  | 171 => some ⟨.struct [(0, 9)], 1, 16, [.string ⟨#[]⟩]⟩
  | 172 => some ⟨.struct [(0, 9)], 1, 16, [.string ⟨#[]⟩]⟩
  | _ => none
theorem Tryz.hT0 : ∀ t i, Tryz.T0 t = some i → Vinc.TIok Tryz.prog t i := by
  intro t i h
  unfold Tryz.T0 at h
  split at h
  · obtain rfl := Option.some.inj h; exact ⟨Tryz.underlying2, by kernel_rfl⟩
  · obtain rfl := Option.some.inj h; exact ⟨Tryz.underlying3, by kernel_rfl⟩
  · obtain rfl := Option.some.inj h; exact ⟨Tryz.underlying4, by kernel_rfl⟩
  · obtain rfl := Option.some.inj h; exact ⟨Tryz.underlying5, by kernel_rfl⟩
  · obtain rfl := Option.some.inj h; exact ⟨Tryz.underlying9, by kernel_rfl⟩
  · obtain rfl := Option.some.inj h; exact ⟨Tryz.underlying12, by kernel_rfl⟩
  · obtain rfl := Option.some.inj h; exact ⟨⟨_, Tryz.underlying13, rfl⟩, by kernel_rfl⟩
  · obtain rfl := Option.some.inj h; exact ⟨⟨_, Tryz.underlying19, rfl⟩, by kernel_rfl⟩
  · obtain rfl := Option.some.inj h; exact ⟨Tryz.underlying21, by kernel_rfl⟩
  · obtain rfl := Option.some.inj h; exact ⟨Tryz.underlying22, by kernel_rfl⟩
  · obtain rfl := Option.some.inj h; exact ⟨Tryz.underlying23, by kernel_rfl⟩
  · obtain rfl := Option.some.inj h; exact ⟨Tryz.underlying24, by kernel_rfl⟩
  · obtain rfl := Option.some.inj h; exact ⟨Tryz.underlying25, by kernel_rfl⟩
  · obtain rfl := Option.some.inj h; exact ⟨Tryz.underlying26, by kernel_rfl⟩
  · obtain rfl := Option.some.inj h; exact ⟨Tryz.underlying31, by kernel_rfl⟩
  · obtain rfl := Option.some.inj h; exact ⟨Tryz.underlying37, by kernel_rfl⟩
  · obtain rfl := Option.some.inj h; exact ⟨Tryz.underlying38, by kernel_rfl⟩
  · obtain rfl := Option.some.inj h; exact ⟨Tryz.underlying47, by kernel_rfl⟩
  · obtain rfl := Option.some.inj h; exact ⟨Tryz.underlying64, by kernel_rfl⟩
  · obtain rfl := Option.some.inj h; exact ⟨⟨_, Tryz.underlying65, rfl⟩, by kernel_rfl⟩
  · obtain rfl := Option.some.inj h; exact ⟨⟨_, Tryz.underlying66, rfl⟩, by kernel_rfl⟩
  · obtain rfl := Option.some.inj h; exact ⟨Tryz.underlying73, by kernel_rfl⟩
  · obtain rfl := Option.some.inj h; exact ⟨Tryz.underlying79, by kernel_rfl⟩
  · obtain rfl := Option.some.inj h; exact ⟨⟨_, Tryz.underlying80, rfl⟩, by kernel_rfl⟩
  · obtain rfl := Option.some.inj h; exact ⟨⟨_, Tryz.underlying81, rfl⟩, by kernel_rfl⟩
  · obtain rfl := Option.some.inj h; exact ⟨Tryz.underlying84, by kernel_rfl⟩
  · obtain rfl := Option.some.inj h; exact ⟨Tryz.underlying88, by kernel_rfl⟩
  · obtain rfl := Option.some.inj h; exact ⟨Tryz.underlying92, by kernel_rfl⟩
  · obtain rfl := Option.some.inj h; exact ⟨⟨_, Tryz.underlying93, rfl⟩, by kernel_rfl⟩
  · obtain rfl := Option.some.inj h; exact ⟨⟨_, Tryz.underlying94, rfl⟩, by kernel_rfl⟩
  · obtain rfl := Option.some.inj h; exact ⟨Tryz.underlying97, by kernel_rfl⟩
  · obtain rfl := Option.some.inj h; exact ⟨Tryz.underlying106, by kernel_rfl⟩
  · obtain rfl := Option.some.inj h; exact ⟨Tryz.underlying107, by kernel_rfl⟩
  · obtain rfl := Option.some.inj h; exact ⟨Tryz.underlying108, by kernel_rfl⟩
  · obtain rfl := Option.some.inj h; exact ⟨⟨_, Tryz.underlying121, rfl⟩, by kernel_rfl⟩
  · obtain rfl := Option.some.inj h; exact ⟨⟨_, Tryz.underlying122, rfl⟩, by kernel_rfl⟩
  · obtain rfl := Option.some.inj h; exact ⟨Tryz.underlying128, by kernel_rfl⟩
  · obtain rfl := Option.some.inj h; exact ⟨⟨_, Tryz.underlying132, rfl⟩, by kernel_rfl⟩
  · obtain rfl := Option.some.inj h; exact ⟨⟨_, Tryz.underlying133, rfl⟩, by kernel_rfl⟩
  · obtain rfl := Option.some.inj h; exact ⟨Tryz.underlying156, by kernel_rfl⟩
  · obtain rfl := Option.some.inj h; exact ⟨Tryz.underlying166, by kernel_rfl⟩
  · obtain rfl := Option.some.inj h; exact ⟨⟨_, Tryz.underlying171, rfl⟩, by kernel_rfl⟩
  · obtain rfl := Option.some.inj h; exact ⟨⟨_, Tryz.underlying172, rfl⟩, by kernel_rfl⟩
  · cases h

/-- The table of zeros, as the program lays it. -/
def Tryz.G0 : Nat → PV := fun g => bif Nat.beq g 2 then .ptr 64 (fun j => .val (.int .u8 ((Vinc.Num.tab64.getD j 0 : Nat) : Int))) 0 else .any

/-- The program, with what is known of its variables. -/
noncomputable def Tryz.pr : Pr := ⟨Tryz.prog, Tryz.G0, Tryz.T0, Tryz.hT0⟩
end Go.Proofs
