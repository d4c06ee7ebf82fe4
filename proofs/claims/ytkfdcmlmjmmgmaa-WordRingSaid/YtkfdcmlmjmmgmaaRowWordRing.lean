/- The statement WordRing: the call returns true for every input, and the arguments read as they did. No conditions. -/
import Derived.Test.YtkfdcmlmjmmgmaaRows
import Derived.Test.YtkfdcmlmjmmgmaaLaws03
import Derived.Test.YtkfdcmlmjmmgmaaVincS
import Derived.WalkKit
import Derived.ProofKit
import Derived.OpenShut
import Derived.ShutString
import Derived.ChangeOld
import Derived.Below
import Derived.SizedLaws
namespace Go.Proofs.Ytkfdcmlmjmmgmaa.wordRing
open Go.ChangeShapes Go.WideShapes Go.ChangeAt Go.RowKit Vinc
set_option linter.unusedVariables false
theorem own : ownKnob Try.prog.godebug = none := by kernel_rfl
theorem laidOut : laidOutB Try.prog = true := by kernel_rfl
set_option maxRecDepth 100000 in
theorem lifted (os : Os) (started : os.Started) (H : Type) (enc : TypeId × Value → H) :
    ReturnsInHanded {} Try.checked os 6 .any (Rows.wordRingSpec.pre6 enc Try.prog Try.f6 Rows.wordRingRow.domain false) (Rows.wordRingSpec.post enc Try.prog Try.f6 false true false false) := by
  refine returnsInHanded_of_change_sized (C := Try.checked) own started (by kernel_rfl) Try.func6
    (ChangeSpec.witness6 (enc := enc) (C := Try.checked) false ⟨#[], #[.int .u64 0, .agg #[.int .u64 0, .int .u64 0, .int .u64 0]], []⟩ 8 (by kernel_rfl) (by kernel_rfl) (by kernel_rfl) (by kernel_rfl)) ?_
  intro W base args ds gs before hval0 hW hcnd hsz0 _
  have hval : ∀ (j : Nat) t v, Try.f6.params[j]? = some t → args[j]? = some v → Value.okWide Try.prog W .any base t v := hval0
  have hW' := hW
  obtain ⟨p, q, hA0, hV, rfl, hfz, hnd⟩ := hW
  have hA : DataW.TrodAll enc Try.prog W 0 (fun _ => true) true Try.f6.params.toList args.toList ds p := hA0
  rw [Try.params6] at hA hval
  obtain ⟨v0, vs0, d0, ds0, p0, q0, hargs, rfl, rfl, h0, r0⟩ := trodAll_cons hA
  obtain ⟨v1, vs1, d1, ds1, p1, q1, rfl, rfl, rfl, h1, r1⟩ := trodAll_cons r0
  obtain ⟨rfl, rfl, rfl⟩ := trodAll_nil r1
  obtain rfl : args = #[v0, v1] := by cases args; simp_all
  obtain ⟨rfl, rfl⟩ := trodVars_none hV
  obtain ⟨a0, rfl, rfl, rfl, w0⟩ := open_int Try.underlying22 (hval 0 22 v0 rfl rfl) h0
  obtain ⟨n0, rfl, b0⟩ := word_of w0
  have lt1 : ∀ x ∈ p1, x.block < W.heap.size := by obtain ⟨m, hm⟩ := h1; exact DataW.trod_lt m _ _ _ hm
  obtain ⟨n1_0, n1_1, n1_2, rfl, b1_0, b1_1, b1_2⟩ := open_words3 Try.underlying37 Try.underlying22 (by kernel_rfl) (by kernel_rfl) (hval 1 37 v1 rfl rfl) h1
  clear hA0 hval0 hsz0
  have hs := WordRing_spec n0 n1_0 n1_1 n1_2
  refine (hs.2 W (fun b => b < W.heap.size) #[.int .u64 (n0 : Int), .agg #[.int .u64 (n1_0 : Int), .int .u64 (n1_1 : Int), .int .u64 (n1_2 : Int)]] (fun _ h => h) (fun _ => trivial) ⟨rfl, rep_arr3 _ _ _, trivial⟩).mono fun e W' ⟨v, he, bel, hv⟩ => ?_
  obtain rfl : v = .bool true := hv
  subst he
  exact ⟨_, rfl, _, _, _, [], _, [], hW', trodAll_mk1 (shut_bool Try.underlying4 _), (trodAll_cons_mk (shut_int Try.underlying22 w0) (trodAll_cons_mk (Below.trod laidOut (by kernel_rfl) (of_decide_eq_true (by kernel_rfl)) h1 bel lt1) trodAll_mk0)), rfl, bel.frame _, fun h => by cases h⟩
theorem over : Rows.wordRingRow.holds Try.pinned (OpenSpec.ofChange Rows.wordRingSpec) :=
  OpenClaim.holds_of_wide 6 Try.f6 rfl rfl rfl rfl rfl rfl rfl ⟨rfl, rfl, rfl, rfl, rfl⟩ rfl rfl rfl rfl rfl (by kernel_rfl) Try.func6 (by kernel_rfl)
    (of_decide_eq_true (by kernel_rfl)) (by unfold Func.isWrapper; first | (rw [if_pos (by decide +kernel)]; kernel_rfl) | (rw [if_neg (by decide +kernel)]; exact ⟨rfl, rfl⟩))
    (fun os started H enc _ => lifted os started H enc)
end Go.Proofs.Ytkfdcmlmjmmgmaa.wordRing
namespace Go.Proofs.Ytkfdcmlmjmmgmaa
/-- The statement WordRing. -/
theorem wordRing_holds : Rows.WordRingSaid := wordRing.over
#print axioms wordRing_holds
end Go.Proofs.Ytkfdcmlmjmmgmaa
