/- The functions of math/bits. -/
import Derived.Test.YtmpfgaebmdbdeaaGreatDoorVincN
import Derived.Test.YtmpfgaebmdbdeaaGreatDoorTypes
import Derived.Laws.Externs
namespace Go.Proofs
open Go Vinc

/-- What the product of two words is, by halves. -/
theorem mul64_eq (x y : Nat) (hx : x < 18446744073709551616) (hy : y < 18446744073709551616) :
    ((x / 4294967296 * (y / 4294967296) % 18446744073709551616
        + ((x / 4294967296 * (y % 4294967296) % 18446744073709551616 + (x % 4294967296 * (y % 4294967296) % 18446744073709551616) / 4294967296) % 18446744073709551616) / 4294967296) % 18446744073709551616
        + ((((x / 4294967296 * (y % 4294967296) % 18446744073709551616 + (x % 4294967296 * (y % 4294967296) % 18446744073709551616) / 4294967296) % 18446744073709551616) % 4294967296
          + x % 4294967296 * (y / 4294967296) % 18446744073709551616) % 18446744073709551616) / 4294967296) % 18446744073709551616
      = x * y / 18446744073709551616 := by
  have hx0 : x % 4294967296 < 4294967296 := Nat.mod_lt _ (by decide)
  have hy0 : y % 4294967296 < 4294967296 := Nat.mod_lt _ (by decide)
  have hx1 : x / 4294967296 < 4294967296 := by omega
  have hy1 : y / 4294967296 < 4294967296 := by omega
  have ex : x = 4294967296 * (x / 4294967296) + x % 4294967296 := (Nat.div_add_mod x 4294967296).symm
  have ey : y = 4294967296 * (y / 4294967296) + y % 4294967296 := (Nat.div_add_mod y 4294967296).symm
  generalize x % 4294967296 = a at *
  generalize x / 4294967296 = b at *
  generalize y % 4294967296 = c at *
  generalize y / 4294967296 = d at *
  have e : x * y = 18446744073709551616 * (b * d) + 4294967296 * (b * c) + 4294967296 * (a * d) + a * c := by
    rw [ex, ey]; grind
  have h1 : b * d ≤ 4294967295 * 4294967295 := Nat.mul_le_mul (by omega) (by omega)
  have h2 : b * c ≤ 4294967295 * 4294967295 := Nat.mul_le_mul (by omega) (by omega)
  have h3 : a * d ≤ 4294967295 * 4294967295 := Nat.mul_le_mul (by omega) (by omega)
  have h4 : a * c ≤ 4294967295 * 4294967295 := Nat.mul_le_mul (by omega) (by omega)
  rw [e]
  clear e ex ey
  generalize b * d = bd at *
  generalize b * c = bc at *
  generalize a * d = ad at *
  generalize a * c = ac at *
  omega

theorem Mul64_spec (x y : Nat) (hx : x < 18446744073709551616) (hy : y < 18446744073709551616) :
    CallSpec Tryz.pr.P Tryz.pr.G 53 [u64 x, u64 y] (.tup 2 (two (u64 (x * y / 18446744073709551616)) (u64 (x * y % 18446744073709551616)))) := by
  refine callSpec_of Tryz.pr Tryz.func53 rfl rfl rfl fun w0 ok0 hok hG => ?_
  refine ev_rs [] rfl trivial ?_
  refine ev_rs [] rfl trivial (ev_n 6 (x % 4294967296) rfl (and32 x hx) ?_)
  refine ev_rs [] rfl ⟨by decide, trivial⟩ (ev_n 7 _ rfl (shr32 x) ?_)
  refine ev_rs [] rfl trivial (ev_n 8 _ rfl (and32 y hy) ?_)
  refine ev_rs [] rfl ⟨by decide, trivial⟩ (ev_n 9 _ rfl (shr32 y) ?_)
  refine ev_rs [] rfl trivial (ev_n 10 _ rfl (wrapMul _ _) ?_)
  refine ev_rs [] rfl ⟨by decide, trivial⟩ (ev_n 11 _ rfl (by simp only [wrapMul, wrapAdd, shr32]; rfl) ?_)
  refine ev_rs [] rfl trivial (ev_n 12 _ rfl (and32 _ (Nat.mod_lt _ (by decide))) ?_)
  refine ev_rs [] rfl ⟨by decide, trivial⟩ (ev_n 13 _ rfl (shr32 _) ?_)
  refine ev_rs [] rfl trivial (ev_n 12 _ rfl (by simp only [wrapMul, wrapAdd]; rfl) ?_)
  refine ev_rs [] rfl ⟨by decide, trivial⟩ (ev_n 4 _ rfl (by simp only [wrapMul, wrapAdd, shr32]; rfl) ?_)
  refine ev_rs [] rfl trivial (ev_n 5 _ rfl (wrapMul _ _) ?_)
  refine ev_ret (ret2 (fz_p (PLe.of_eq (congrArg u64 ?_))) (fz_p (PLe.refl _)))
  exact mul64_eq x y hx hy
/-- The place of a word's highest bit, counted from one. -/
def len64 (x : Nat) : Nat := if x = 0 then 0 else Nat.log2 x + 1

theorem len64_shift (x k : Nat) (h : 2 ^ k ≤ x) : len64 x = len64 (x / 2 ^ k) + k := by
  have h0 : 0 < 2 ^ k := Nat.two_pow_pos k
  have hx : x ≠ 0 := by omega
  have hd : x / 2 ^ k ≠ 0 := by
    have := Nat.div_pos h h0
    omega
  unfold len64
  rw [if_neg hx, if_neg hd]
  have h1 := Nat.log2_self_le hd
  have h2 := @Nat.lt_log2_self (x / 2 ^ k)
  have e : Nat.log2 x = Nat.log2 (x / 2 ^ k) + k := by
    apply (Nat.log2_eq_iff hx).mpr
    constructor
    · rw [Nat.pow_add]
      exact (Nat.le_div_iff_mul_le h0).mp h1
    · rw [show Nat.log2 (x / 2 ^ k) + k + 1 = (Nat.log2 (x / 2 ^ k) + 1) + k by omega, Nat.pow_add]
      exact (Nat.div_lt_iff_lt_mul h0).mp h2
  omega

theorem len_last (t : ByteArray) (h : ∀ y, y < 256 → (t.data.getD y 0).toNat = len64 y) (y n : Nat) (hy : y < 256) (hn : n ≤ 56) :
    IntKind.wrap .i64 ((n : Int) + IntKind.wrap .i64 (((t.data.getD (IntKind.wrap .u8 (y : Int)).toNat 0).toNat : Nat) : Int)) = ((len64 y + n : Nat) : Int) := by
  have h1 : (IntKind.wrap .u8 (y : Int)).toNat = y := by
    simp [IntKind.wrap, IntKind.signed, IntKind.bits]; omega
  have h2 : len64 y ≤ 64 := by
    unfold len64
    split
    · omega
    · rename_i h0
      have : Nat.log2 y < 8 := (Nat.log2_lt h0).mpr (by omega)
      omega
  rw [h1, h y hy, wrapI (len64 y : Int) (by omega) (by omega), wrapI _ (by omega) (by omega)]
  omega

theorem len_in (t : ByteArray) (h : t.data.size = 256) (y : Nat) : 0 ≤ IntKind.wrap .u8 (y : Int) ∧ IntKind.wrap .u8 (y : Int) < t.data.size := by
  rw [h]
  simp [IntKind.wrap, IntKind.signed, IntKind.bits]; omega

theorem Len64_spec (x : Nat) (hx : x < 18446744073709551616) : CallSpec Tryz.pr.P Tryz.pr.G 74 [u64 x] (i64 (len64 x)) := by
  refine callSpec_of Tryz.pr Tryz.func74 rfl rfl rfl fun w0 ok0 hok hG => ?_
  refine ev_rs [] rfl trivial ?_
  refine ev_at (α := Nat × Nat) (fun p => p.1 < 4294967296 ∧ p.2 ≤ 32 ∧ len64 x = len64 p.1 + p.2) (fun p => [(0, .p (u64 p.1)), (2, .p (i64 p.2))]) (fun _ => []) ?_ ?_
  · refine ev_rs [] rfl trivial (ev_cond rfl (fun hc => ?_) (fun hc => ?_))
    · refine ev_rs [] rfl ⟨by decide, trivial⟩ (ev_n 0 _ rfl (shr32 x) ?_)
      refine ev_region [] rfl trivial (at0 (x / 4294967296, 32) ⟨by omega, by omega, ?_⟩ ⟨le_0, le_0, trivial⟩)
      exact len64_shift x 32 (by simp at hc; omega)
    · refine ev_skip (at0 (x, 0) ⟨?_, by omega, rfl⟩ ⟨le_0, le_0, trivial⟩)
      simp at hc; omega
  rintro ⟨y, n⟩ ⟨hy, hn, e⟩
  refine ev_at (α := Nat × Nat) (fun p => p.1 < 65536 ∧ p.2 ≤ 48 ∧ len64 x = len64 p.1 + p.2) (fun p => [(0, .p (u64 p.1)), (2, .p (i64 p.2))]) (fun _ => []) ?_ ?_
  · refine ev_rs [] rfl trivial (ev_cond rfl (fun hc => ?_) (fun hc => ?_))
    · refine ev_rs [] rfl ⟨by decide, trivial⟩ (ev_n 0 _ rfl (shrN y 16 (by decide)) ?_)
      refine ev_region [] rfl trivial (at0 (y / 65536, n + 16) ⟨by omega, by omega, ?_⟩ ⟨le_0, le_e ?_, trivial⟩)
      · have h := len64_shift y 16 (by simp at hc; omega)
        simp only [Nat.reducePow] at h
        dsimp only at e ⊢
        omega
      · exact congrArg (fun z => PV.val (.int .i64 z)) (wrapI _ (by dsimp only at hn ⊢; omega) (by dsimp only at hn ⊢; omega))
    · refine ev_skip (at0 (y, n) ⟨?_, by omega, e⟩ ⟨le_0, le_0, trivial⟩)
      simp at hc; omega
  rintro ⟨y, n⟩ ⟨hy, hn, e⟩
  refine ev_at (α := Nat × Nat) (fun p => p.1 < 256 ∧ p.2 ≤ 56 ∧ len64 x = len64 p.1 + p.2) (fun p => [(0, .p (u64 p.1)), (2, .p (i64 p.2))]) (fun _ => []) ?_ ?_
  · refine ev_rs [] rfl trivial (ev_cond rfl (fun hc => ?_) (fun hc => ?_))
    · refine ev_rs [] rfl ⟨by decide, trivial⟩ (ev_n 0 _ rfl (shrN y 8 (by decide)) ?_)
      refine ev_region [] rfl trivial (at0 (y / 256, n + 8) ⟨by omega, by omega, ?_⟩ ⟨le_0, le_e ?_, trivial⟩)
      · have h := len64_shift y 8 (by simp at hc; omega)
        simp only [Nat.reducePow] at h
        dsimp only at e ⊢
        omega
      · exact congrArg (fun z => PV.val (.int .i64 z)) (wrapI _ (by dsimp only at hn ⊢; omega) (by dsimp only at hn ⊢; omega))
    · refine ev_skip (at0 (y, n) ⟨?_, by omega, e⟩ ⟨le_0, le_0, trivial⟩)
      simp at hc; omega
  rintro ⟨y, n⟩ ⟨hy, hn, e⟩
  refine ev_rs [] rfl ?_ ?_
  · exact ⟨len_in _ (by decide +kernel) y, trivial⟩
  · refine ev_ret (ret1 (fz_p (PLe.of_eq (congrArg (fun z => PV.val (.int .i64 z)) ?_))))
    exact (len_last _ (by decide +kernel) y n hy hn).trans (by rw [e])

theorem LeadingZeros64_spec (x : Nat) (hx : x < 18446744073709551616) : CallSpec Tryz.pr.P Tryz.pr.G 67 [u64 x] (i64 (64 - len64 x)) := by
  have hl : len64 x ≤ 64 := by
    unfold len64
    split
    · omega
    · rename_i h0
      have : Nat.log2 x < 64 := (Nat.log2_lt h0).mpr (by omega)
      omega
  refine callSpec_of Tryz.pr Tryz.func67 rfl rfl rfl fun w0 ok0 hok hG => ?_
  refine ev_rs [] rfl trivial ?_
  refine ev_rs [i64 (len64 x)] rfl ⟨.inl (Len64_spec x hx), trivial⟩ ?_
  refine ev_ret (ret1 (fz_p (PLe.of_eq (congrArg (fun z => PV.val (.int .i64 z)) ?_))))
  exact wrapI _ (by omega) (by omega)

theorem Add64_spec (x y k : Nat) (hk : k ≤ 1) : CallOk Tryz.pr.P Tryz.pr.G 109 [u64 x, u64 y, u64 k] (.tup 2 (two (u64 ((x + y + k) % 18446744073709551616)) (u64 ((x + y + k) / 18446744073709551616)))) := by
  refine .inr fun w ok vs hr => ?_
  obtain ⟨l⟩ := vs
  match l, hr with
  | [a, b, d], ⟨(ha : a = _), (hb : b = _), (hd : d = _), _⟩ =>
    subst ha hb hd
    refine ⟨.tuple #[.int .u64 (((x + y + k) % 18446744073709551616 : Nat) : Int), .int .u64 (((x + y + k) / 18446744073709551616 : Nat) : Int)], ?_, _, rfl, rfl, fun j hj => ?_⟩
    · show Sem.run Tryz.prog (callFunc 109 #[.int .u64 x, .int .u64 y, .int .u64 k]) w = _
      rw [run_callFunc_extern Tryz.func109 (by kernel_rfl) (by kernel_rfl) (by kernel_rfl) (e := add64Entry) (by kernel_rfl), run_add64 x y k (by omega) (by omega) (by omega) (by omega)]
      simp only [Result.andThen]
      congr 5 <;> omega
    · match j, hj with
      | 0, _ => rfl
      | 1, _ => rfl
end Go.Proofs
