/- The types of the program, and what is known of its variables. -/
import Derived.Test.YtmpfgaebmdbdeaaDoorVincN
import Derived.Test.YtmpfgaebmdbdeaaDoorVincTz
import Derived.Test.YtmpfgaebmdbdeaaDoorProg
namespace Go.Proofs
open Go Vinc

def Tryd.T0 : Nat → Option Vinc.TI
  | 2 => some ⟨.int .i64, 1, 8, [.int .i64 0]⟩
  | 3 => some ⟨.int .i64, 1, 8, [.int .i64 0]⟩
  | 4 => some ⟨.bool, 1, 1, [.bool false]⟩
  | 5 => some ⟨.int .u8, 1, 1, [.int .u8 0]⟩
  | 9 => some ⟨.str, 1, 16, [.string ⟨#[]⟩]⟩
  | 12 => some ⟨.int .u64, 1, 8, [.int .u64 0]⟩
  | 13 => some ⟨.struct [(0, 9), (1, 12)], 2, 24, [.string ⟨#[]⟩, .int .u64 0]⟩
  | 19 => some ⟨.struct [(0, 17)], 1, 8, [.pointer none]⟩
  | 21 => some ⟨.int .i32, 1, 4, [.int .i32 0]⟩
  | 22 => some ⟨.int .u64, 1, 8, [.int .u64 0]⟩
  | 23 => some ⟨.slice 22, 1, 24, [.slice none 0 0]⟩
  | 24 => some ⟨.slice 22, 1, 24, [.slice none 0 0]⟩
  | 25 => some ⟨.pointer 63, 1, 8, [.pointer none]⟩
  | 30 => some ⟨.int .i64, 1, 8, [.int .i64 0]⟩
  | 46 => some ⟨.array 2 24, 2, 48, [.slice none 0 0, .slice none 0 0]⟩
  | 61 => some ⟨.pointer 75, 1, 8, [.pointer none]⟩
  | 62 => some ⟨.struct [(0, 61)], 1, 8, [.pointer none]⟩
  | 63 => some ⟨.struct [(0, 61)], 1, 8, [.pointer none]⟩
  | 71 => some ⟨.int .u64, 1, 8, [.int .u64 0]⟩
  | 74 => some ⟨.struct [(0, 22), (1, 22), (2, 22)], 3, 24, [.int .u64 0, .int .u64 0, .int .u64 0]⟩
  | 75 => some ⟨.struct [(0, 22), (1, 22), (2, 22)], 3, 24, [.int .u64 0, .int .u64 0, .int .u64 0]⟩
  | 78 => some ⟨.array 12 22, 12, 96, [.int .u64 0, .int .u64 0, .int .u64 0, .int .u64 0, .int .u64 0, .int .u64 0, .int .u64 0, .int .u64 0, .int .u64 0, .int .u64 0, .int .u64 0, .int .u64 0]⟩
  | 83 => some ⟨.slice 24, 1, 24, [.slice none 0 0]⟩
  | 87 => some ⟨.array 64 5, 64, 64, [.int .u8 0, .int .u8 0, .int .u8 0, .int .u8 0, .int .u8 0, .int .u8 0, .int .u8 0, .int .u8 0, .int .u8 0, .int .u8 0, .int .u8 0, .int .u8 0, .int .u8 0, .int .u8 0, .int .u8 0, .int .u8 0, .int .u8 0, .int .u8 0, .int .u8 0, .int .u8 0, .int .u8 0, .int .u8 0, .int .u8 0, .int .u8 0, .int .u8 0, .int .u8 0, .int .u8 0, .int .u8 0, .int .u8 0, .int .u8 0, .int .u8 0, .int .u8 0, .int .u8 0, .int .u8 0, .int .u8 0, .int .u8 0, .int .u8 0, .int .u8 0, .int .u8 0, .int .u8 0, .int .u8 0, .int .u8 0, .int .u8 0, .int .u8 0, .int .u8 0, .int .u8 0, .int .u8 0, .int .u8 0, .int .u8 0, .int .u8 0, .int .u8 0, .int .u8 0, .int .u8 0, .int .u8 0, .int .u8 0, .int .u8 0, .int .u8 0, .int .u8 0, .int .u8 0, .int .u8 0, .int .u8 0, .int .u8 0, .int .u8 0, .int .u8 0]⟩
  | 88 => some ⟨.pointer 106, 1, 8, [.pointer none]⟩
  | 96 => some ⟨.int .u32, 1, 4, [.int .u32 0]⟩
  | 100 => some ⟨.pointer 5, 1, 8, [.pointer none]⟩
  | 105 => some ⟨.struct [(0, 9)], 1, 16, [.string ⟨#[]⟩]⟩
  | 106 => some ⟨.struct [(0, 9)], 1, 16, [.string ⟨#[]⟩]⟩
  | _ => none
theorem Tryd.hT0 : ∀ t i, Tryd.T0 t = some i → Vinc.TIok Tryd.prog t i := by
  intro t i h
  unfold Tryd.T0 at h
  split at h
  · obtain rfl := Option.some.inj h; exact ⟨Tryd.underlying2, by kernel_rfl⟩
  · obtain rfl := Option.some.inj h; exact ⟨Tryd.underlying3, by kernel_rfl⟩
  · obtain rfl := Option.some.inj h; exact ⟨Tryd.underlying4, by kernel_rfl⟩
  · obtain rfl := Option.some.inj h; exact ⟨Tryd.underlying5, by kernel_rfl⟩
  · obtain rfl := Option.some.inj h; exact ⟨Tryd.underlying9, by kernel_rfl⟩
  · obtain rfl := Option.some.inj h; exact ⟨Tryd.underlying12, by kernel_rfl⟩
  · obtain rfl := Option.some.inj h; exact ⟨⟨_, Tryd.underlying13, rfl⟩, by kernel_rfl⟩
  · obtain rfl := Option.some.inj h; exact ⟨⟨_, Tryd.underlying19, rfl⟩, by kernel_rfl⟩
  · obtain rfl := Option.some.inj h; exact ⟨Tryd.underlying21, by kernel_rfl⟩
  · obtain rfl := Option.some.inj h; exact ⟨Tryd.underlying22, by kernel_rfl⟩
  · obtain rfl := Option.some.inj h; exact ⟨Tryd.underlying23, by kernel_rfl⟩
  · obtain rfl := Option.some.inj h; exact ⟨Tryd.underlying24, by kernel_rfl⟩
  · obtain rfl := Option.some.inj h; exact ⟨Tryd.underlying25, by kernel_rfl⟩
  · obtain rfl := Option.some.inj h; exact ⟨Tryd.underlying30, by kernel_rfl⟩
  · obtain rfl := Option.some.inj h; exact ⟨Tryd.underlying46, by kernel_rfl⟩
  · obtain rfl := Option.some.inj h; exact ⟨Tryd.underlying61, by kernel_rfl⟩
  · obtain rfl := Option.some.inj h; exact ⟨⟨_, Tryd.underlying62, rfl⟩, by kernel_rfl⟩
  · obtain rfl := Option.some.inj h; exact ⟨⟨_, Tryd.underlying63, rfl⟩, by kernel_rfl⟩
  · obtain rfl := Option.some.inj h; exact ⟨Tryd.underlying71, by kernel_rfl⟩
  · obtain rfl := Option.some.inj h; exact ⟨⟨_, Tryd.underlying74, rfl⟩, by kernel_rfl⟩
  · obtain rfl := Option.some.inj h; exact ⟨⟨_, Tryd.underlying75, rfl⟩, by kernel_rfl⟩
  · obtain rfl := Option.some.inj h; exact ⟨Tryd.underlying78, by kernel_rfl⟩
  · obtain rfl := Option.some.inj h; exact ⟨Tryd.underlying83, by kernel_rfl⟩
  · obtain rfl := Option.some.inj h; exact ⟨Tryd.underlying87, by kernel_rfl⟩
  · obtain rfl := Option.some.inj h; exact ⟨Tryd.underlying88, by kernel_rfl⟩
  · obtain rfl := Option.some.inj h; exact ⟨Tryd.underlying96, by kernel_rfl⟩
  · obtain rfl := Option.some.inj h; exact ⟨Tryd.underlying100, by kernel_rfl⟩
  · obtain rfl := Option.some.inj h; exact ⟨⟨_, Tryd.underlying105, rfl⟩, by kernel_rfl⟩
  · obtain rfl := Option.some.inj h; exact ⟨⟨_, Tryd.underlying106, rfl⟩, by kernel_rfl⟩
  · cases h

/-- The table of zeros, as the program lays it. -/
def Tryd.G0 : Nat → PV := fun g => bif Nat.beq g 2 then .ptr 64 (fun j => .val (.int .u8 ((Vinc.Num.tab64.getD j 0 : Nat) : Int))) 0 else .any

/-- The program, with what is known of its variables. -/
noncomputable def Tryd.pr : Pr := ⟨Tryd.prog, Tryd.G0, Tryd.T0, Tryd.hT0⟩
end Go.Proofs
