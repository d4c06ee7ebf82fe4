/- The types of the program, and what is known of its variables. -/
import Derived.Test.YtkfdcmlmjmmgmaaVincN
import Derived.Test.YtkfdcmlmjmmgmaaProg
namespace Go.Proofs
open Go Vinc

def Try.T0 : Nat → Option Vinc.TI
  | 2 => some ⟨.int .i64, 1, 8, [.int .i64 0]⟩
  | 3 => some ⟨.int .i64, 1, 8, [.int .i64 0]⟩
  | 4 => some ⟨.bool, 1, 1, [.bool false]⟩
  | 5 => some ⟨.int .u8, 1, 1, [.int .u8 0]⟩
  | 9 => some ⟨.str, 1, 16, [.string ⟨#[]⟩]⟩
  | 12 => some ⟨.int .u64, 1, 8, [.int .u64 0]⟩
  | 13 => some ⟨.struct [(0, 9), (1, 12)], 2, 24, [.string ⟨#[]⟩, .int .u64 0]⟩
  | 19 => some ⟨.struct [(0, 17)], 1, 8, [.pointer none]⟩
  | 21 => some ⟨.int .i32, 1, 4, [.int .i32 0]⟩
  | 22 => some ⟨.int .u64, 1, 8, [.int .u64 0]⟩
  | 23 => some ⟨.pointer 50, 1, 8, [.pointer none]⟩
  | 27 => some ⟨.int .i64, 1, 8, [.int .i64 0]⟩
  | 37 => some ⟨.array 3 22, 3, 24, [.int .u64 0, .int .u64 0, .int .u64 0]⟩
  | 39 => some ⟨.array 2 22, 2, 16, [.int .u64 0, .int .u64 0]⟩
  | 41 => some ⟨.slice 22, 1, 24, [.slice none 0 0]⟩
  | 49 => some ⟨.struct [(0, 22), (1, 22), (2, 22)], 3, 24, [.int .u64 0, .int .u64 0, .int .u64 0]⟩
  | 50 => some ⟨.struct [(0, 22), (1, 22), (2, 22)], 3, 24, [.int .u64 0, .int .u64 0, .int .u64 0]⟩
  | 54 => some ⟨.int .u64, 1, 8, [.int .u64 0]⟩
  | 60 => some ⟨.pointer 78, 1, 8, [.pointer none]⟩
  | 68 => some ⟨.int .u32, 1, 4, [.int .u32 0]⟩
  | 72 => some ⟨.pointer 5, 1, 8, [.pointer none]⟩
  | 77 => some ⟨.struct [(0, 9)], 1, 16, [.string ⟨#[]⟩]⟩
  | 78 => some ⟨.struct [(0, 9)], 1, 16, [.string ⟨#[]⟩]⟩
  | _ => none
theorem Try.hT0 : ∀ t i, Try.T0 t = some i → Vinc.TIok Try.prog t i := by
  intro t i h
  unfold Try.T0 at h
  split at h
  · obtain rfl := Option.some.inj h; exact ⟨Try.underlying2, by kernel_rfl⟩
  · obtain rfl := Option.some.inj h; exact ⟨Try.underlying3, by kernel_rfl⟩
  · obtain rfl := Option.some.inj h; exact ⟨Try.underlying4, by kernel_rfl⟩
  · obtain rfl := Option.some.inj h; exact ⟨Try.underlying5, by kernel_rfl⟩
  · obtain rfl := Option.some.inj h; exact ⟨Try.underlying9, by kernel_rfl⟩
  · obtain rfl := Option.some.inj h; exact ⟨Try.underlying12, by kernel_rfl⟩
  · obtain rfl := Option.some.inj h; exact ⟨⟨_, Try.underlying13, rfl⟩, by kernel_rfl⟩
  · obtain rfl := Option.some.inj h; exact ⟨⟨_, Try.underlying19, rfl⟩, by kernel_rfl⟩
  · obtain rfl := Option.some.inj h; exact ⟨Try.underlying21, by kernel_rfl⟩
  · obtain rfl := Option.some.inj h; exact ⟨Try.underlying22, by kernel_rfl⟩
  · obtain rfl := Option.some.inj h; exact ⟨Try.underlying23, by kernel_rfl⟩
  · obtain rfl := Option.some.inj h; exact ⟨Try.underlying27, by kernel_rfl⟩
  · obtain rfl := Option.some.inj h; exact ⟨Try.underlying37, by kernel_rfl⟩
  · obtain rfl := Option.some.inj h; exact ⟨Try.underlying39, by kernel_rfl⟩
  · obtain rfl := Option.some.inj h; exact ⟨Try.underlying41, by kernel_rfl⟩
  · obtain rfl := Option.some.inj h; exact ⟨⟨_, Try.underlying49, rfl⟩, by kernel_rfl⟩
  · obtain rfl := Option.some.inj h; exact ⟨⟨_, Try.underlying50, rfl⟩, by kernel_rfl⟩
  · obtain rfl := Option.some.inj h; exact ⟨Try.underlying54, by kernel_rfl⟩
  · obtain rfl := Option.some.inj h; exact ⟨Try.underlying60, by kernel_rfl⟩
  · obtain rfl := Option.some.inj h; exact ⟨Try.underlying68, by kernel_rfl⟩
  · obtain rfl := Option.some.inj h; exact ⟨Try.underlying72, by kernel_rfl⟩
  · obtain rfl := Option.some.inj h; exact ⟨⟨_, Try.underlying77, rfl⟩, by kernel_rfl⟩
  · obtain rfl := Option.some.inj h; exact ⟨⟨_, Try.underlying78, rfl⟩, by kernel_rfl⟩
  · cases h

/-- The program, with nothing known of its variables. -/
noncomputable def Try.pr : Pr := ⟨Try.prog, fun _ => .any, Try.T0, Try.hT0⟩
end Go.Proofs
