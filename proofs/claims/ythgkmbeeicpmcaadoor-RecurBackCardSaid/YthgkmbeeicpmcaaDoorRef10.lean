/- The reference of recur, walked; whether a row goes on by a rule. -/
import Derived.Test.YthgkmbeeicpmcaaDoorLaw10
import Derived.Test.YthgkmbeeicpmcaaDoorVincM
import Derived.Test.YthgkmbeeicpmcaaDoorVincQ
set_option linter.unusedVariables false
namespace Go.Proofs
open Go Vinc Vinc.Num

/-- All are words. -/
def W64 (xs : List Nat) : Prop := ∀ x, x ∈ xs → x < 18446744073709551616

theorem W64.get {xs : List Nat} (h : W64 xs) (j : Nat) : xs.getD j 0 < 18446744073709551616 := getD_lt (by decide) h j

theorem RefNext_spec {p : Nat} (hm : MayM p) (r row : List Nat) (hr : r.length ≤ row.length) (hl : row.length < 1000000) (hw : W64 row) :
    CallSpec Tryd.pr.P Tryd.pr.G 28 [u64s r, u64s row, u64 p] (u64 (refNext p r row)) := by
  have hp0 := hm.1
  refine callSpec_of Tryd.pr Tryd.func28 rfl rfl rfl fun w0 ok0 hok hG => ?_
  refine ev_rs [] rfl trivial ?_
  refine ev_rs [] rfl trivial ?_
  refine ev_at (α := Unit) (fun _ => True) (fun _ => [(2, .p (u64 p)), (7, .p (u64 (nextF p r row r.length)))]) (fun _ => []) ?_ ?_
  · refine ev_rs [] rfl trivial ?_
    refine ev_block (ev_while0 (α := Nat) (fun i => i ≤ r.length) (fun i => [(0, .p (u64s r)), (1, .p (u64s row)), (2, .p (u64 p)), (7, .p (u64 (nextF p r row i))), (8, .p (i64 i))]) (fun i => r.length - i) 0
      (Nat.zero_le _) ⟨le_0, le_0, le_0, le_0, le_0, trivial⟩ ?_)
    rintro i h1
    refine ev_seq (ev_rs [] rfl trivial (ev_cond rfl (fun h => ev_sk ?_) (fun h => ev_exit ?_)))
    · have hi : i < r.length := Int.ofNat_lt.mp (of_decide_eq_true h)
      refine ev_seq (ev_block ?_)
      have e3 : IntKind.wrap .i64 (IntKind.wrap .i64 ((row.length : Int) - 1) - (i : Int)) = ((row.length - 1 - i : Nat) : Int) := by
        rw [wrapI ((row.length : Int) - 1) (by omega) (by omega), wrapI _ (by omega) (by omega)]; omega
      refine ev_draw [u64 (r.getD i 0 * row.getD (row.length - 1 - i) 0 % p), u64 (nextF p r row (i + 1))] (by kernel_rfl) rfl rfl ?_ ?_
      · rw [e3]
        exact ⟨.inl (RefAdd_spec hm _ _), .inl (RefMul_spec hm _ _ (hw.get _)), (by omega : row.length - 1 - i < row.length), ⟨by omega, by omega⟩, hi, ⟨by omega, by omega⟩, trivial⟩
      exact ev_region [] rfl trivial (round0 (i + 1) hi (by omega) ⟨le_0, le_0, le_0, le_0, le_e (congrArg (fun z => PV.val (.int .i64 z)) (wrapI _ (by omega) (by omega))), trivial⟩)
    · have hi : i = r.length := by
        have := of_decide_eq_false h
        omega
      subst hi
      exact at0 () trivial ⟨le_0, le_0, trivial⟩
  rintro ⟨⟩ -
  exact ev_rs [u64 (refNext p r row)] rfl ⟨.inl (RefSub_spec hm _ _), trivial⟩ (ev_ret (ret1 (fz_p (PLe.refl _))))

theorem W64.take {xs : List Nat} (h : W64 xs) (n : Nat) : W64 (xs.take n) := fun x hx => h x (List.mem_of_mem_take hx)

theorem RefHolds_spec {p : Nat} (hm : MayM p) (r row : List Nat) (hl : row.length < 1000000) (hrl : r.length < 1000000) (hw : W64 row) :
    CallSpec Tryd.pr.P Tryd.pr.G 12 [u64s r, u64s row, u64 p] (Vinc.bool (refHolds p r row)) := by
  have hp0 := hm.1
  refine callSpec_of Tryd.pr Tryd.func12 rfl rfl rfl fun w0 ok0 hok hG => ?_
  refine ev_rs [] rfl trivial ?_
  refine ev_at (α := Unit) (fun _ => ∀ i, i < row.length → r.length ≤ i → refNext p r (row.take i) = row.getD i 0 % p) (fun _ => []) (fun _ => []) ?_ ?_
  · refine ev_rs [] rfl trivial ?_
    refine ev_block (ev_while0 (α := Nat) (fun i => r.length ≤ i ∧ (i ≤ row.length ∨ i = r.length) ∧ ∀ j, j < i → j < row.length → r.length ≤ j → refNext p r (row.take j) = row.getD j 0 % p) (fun i => [(0, .p (u64s r)), (1, .p (u64s row)), (2, .p (u64 p)), (7, .p (i64 i))]) (fun i => row.length - i) r.length
      ⟨Nat.le_refl _, .inr rfl, fun j h1 _ h3 => by omega⟩ ⟨le_0, le_0, le_0, le_0, trivial⟩ ?_)
    rintro i ⟨h1, h2, h3⟩
    refine ev_seq (ev_rs [] rfl trivial (ev_cond rfl (fun h => ev_sk ?_) (fun h => ev_exit ?_)))
    · have hi : i < row.length := Int.ofNat_lt.mp (of_decide_eq_true h)
      have htl : (row.take i).length = i := by simp; omega
      refine ev_seq (ev_block ?_)
      refine ev_ds [u64 (refNext p r (row.take i))] (by kernel_rfl) rfl rfl ?_ (ev_cond rfl (fun h => ?_) (fun h => ?_))
      · exact ⟨by simp; omega, hi, ⟨by omega, by omega⟩, .inl (callSpec_args (as' := [u64s r, u64s (row.take i), u64 p]) ⟨PLe.refl _, PLe.take (by omega), PLe.refl _, trivial⟩ (RefNext_spec hm r (row.take i) (by omega) (by omega) (hw.take i))), ⟨by omega, by omega⟩, trivial⟩
      · have hne : refNext p r (row.take i) ≠ row.getD i 0 % p := fun e => (bne_iff_ne.mp h) (congrArg (fun n : Nat => (n : Int)) e)
        refine ev_rs [] rfl trivial (ev_ret (ret1 (fz_p (PLe.of_eq (congrArg Vinc.bool ?_)))))
        exact (decide_eq_false fun hall => hne (hall i hi h1)).symm
      · have heq : refNext p r (row.take i) = row.getD i 0 % p := Int.ofNat_inj.mp (bne_eq_false_iff_eq.mp h)
        refine ev_skip ?_
        refine ev_region [] rfl trivial (round0 (i + 1) ⟨by omega, .inl hi, fun j h4 h5 h6 => ?_⟩ (by omega) ⟨le_0, le_0, le_0, le_e (congrArg (fun z => PV.val (.int .i64 z)) (wrapI _ (by omega) (by omega))), trivial⟩)
        rcases Nat.lt_or_ge j i with hj | hj
        · exact h3 j hj h5 h6
        · rw [show j = i by omega]; exact heq
    · have hi : row.length ≤ i := by
        have := of_decide_eq_false h
        omega
      exact at0 () (fun j h4 h5 => h3 j (by omega) h4 h5) trivial
  rintro ⟨⟩ h
  refine ev_rs [] rfl trivial (ev_ret (ret1 (fz_p (PLe.of_eq (congrArg Vinc.bool ?_)))))
  exact (decide_eq_true h).symm

theorem take_snoc (xs : List Nat) (i : Nat) (hi : i < xs.length) : xs.take (i + 1) = xs.take i ++ [xs.getD i 0] := by
  rw [List.take_add_one, List.getD_eq_getElem?_getD, List.getElem?_eq_getElem hi]
  rfl

theorem refNext_lt {p : Nat} (hp : 0 < p) (r row : List Nat) : refNext p r row < p := Nat.mod_lt _ hp

theorem W64.more {p : Nat} (hp : 0 < p) (hp2 : p < 9223372036854775808) {r xs : List Nat} (h : W64 xs) : ∀ n, W64 (refMore p r xs n)
  | 0 => h
  | n + 1 => fun x hx => by
    unfold refMore at hx
    rcases List.mem_append.mp hx with hx | hx
    · exact W64.more hp hp2 h n x hx
    · have := List.mem_singleton.mp hx
      have h2 := refNext_lt hp r (refMore p r xs n)
      omega

theorem W64.mods {p : Nat} (hp : 0 < p) (hp2 : p < 9223372036854775808) (xs : List Nat) : W64 (xs.map (· % p)) := fun x hx => by
  obtain ⟨y, _, rfl⟩ := List.mem_map.mp hx
  have := Nat.mod_lt y hp
  show y % p < _
  omega

theorem RefMore_spec {p : Nat} (hm : MayM p) (r row : List Nat) (many : Nat) (hr : r.length ≤ row.length) (hl : row.length < 100000) (hmany : many ≤ 100000) :
    CallSpec Tryd.pr.P Tryd.pr.G 16 [u64s r, u64s row, i64 many, u64 p] (u64s (refMore p r (row.map (· % p)) many)) := by
  have hp0 := hm.1
  have hp2 := hm.2
  obtain ⟨ms, hms⟩ : ∃ ms, row.map (· % p) = ms := ⟨_, rfl⟩
  have hml : ms.length = row.length := by rw [← hms, List.length_map]
  have hmw : W64 ms := hms ▸ W64.mods (by omega) hp2 row
  have hmg : ∀ i, i < row.length → ms.getD i 0 = row.getD i 0 % p := fun i hi => by
    rw [← hms]
    simp [List.getD_eq_getElem?_getD, hi]
  rw [hms]
  refine callSpec_of Tryd.pr Tryd.func16 rfl rfl rfl fun w0 ok0 hok hG => ?_
  refine ev_rs [] rfl trivial ?_
  refine ev_rs [] rfl trivial (ev_nilown 9 9 rfl rfl ?_)
  refine ev_at (α := Unit) (fun _ => True) (fun _ => [(0, .p (u64s r)), (2, .p (i64 many)), (3, .p (u64 p)), (9, .own 9 0 row.length 1)]) (fun _ => [(9, ob64 ms)]) ?_ ?_
  · refine ev_rs [] rfl trivial ?_
    refine ev_block (ev_while (α := Nat) (fun i => i ≤ row.length) (fun i => [(0, .p (u64s r)), (1, .p (u64s row)), (2, .p (i64 many)), (3, .p (u64 p)), (9, .own 9 0 i 1), (10, .p (i64 i))]) (fun i => [(9, ob64 (ms.take i))]) (fun i => row.length - i) 0
      (Nat.zero_le _) (wk_ob rfl (fun hd => ⟨le_refl hd _, le_refl hd _, le_refl hd _, le_refl hd _, le_o rfl, le_refl hd _, trivial⟩)) ?_)
    rintro i h1
    refine ev_seq (ev_rs [] rfl trivial (ev_cond rfl (fun h => ev_sk ?_) (fun h => ev_exit ?_)))
    · have hi : i < row.length := Int.ofNat_lt.mp (of_decide_eq_true h)
      have htl : (ms.take i).length = i := by simp; omega
      refine ev_seq (ev_block ?_)
      refine ev_region [] rfl ?_ (ev_app 9 26 (ms.take i) [row.getD i 0 % p] rfl rfl (by rw [htl]; rfl) (by show i + 1 = _; rw [htl]; rfl) htl.symm (fun j hj => rfl) (fun j hj => ?_) ?_)
      · exact ⟨⟨by omega, htl, Nat.le_refl 1⟩, by simp; omega, hi, ⟨by omega, by omega⟩, trivial⟩
      · match j, hj with
        | 0, _ => rfl
      have hst : ms.take i ++ [row.getD i 0 % p] = ms.take (i + 1) := by rw [take_snoc ms i (by omega), hmg i hi]
      exact ev_region [] rfl trivial ⟨i + 1, hi, by dsimp only; omega, wk_ren (i' := 26) (congrArg (fun l => some (ob64 l)) hst) (fun hd => ⟨le_refl hd _, le_refl hd _, le_refl hd _, le_refl hd _, le_ren rfl (by rw [hst]; simp; omega), le_n hd (congrArg (fun z => PV.val (.int .i64 z)) (wrapI _ (by omega) (by omega))), trivial⟩)⟩
    · have hi : i = row.length := by
        have := of_decide_eq_false h
        omega
      subst hi
      exact at_ob () trivial (congrArg (fun l => some (ob64 l)) (by rw [← hml]; exact List.take_length)) (fun hd => ⟨le_refl hd _, le_refl hd _, le_refl hd _, le_o rfl, trivial⟩)
  rintro ⟨⟩ -
  refine ev_at (α := Unit) (fun _ => True) (fun _ => [(9, .own 9 0 (row.length + many) 1)]) (fun _ => [(9, ob64 (refMore p r ms many))]) ?_ ?_
  · refine ev_rs [] rfl trivial ?_
    refine ev_block (ev_while (α := Nat) (fun i => i ≤ many) (fun i => [(0, .p (u64s r)), (2, .p (i64 many)), (3, .p (u64 p)), (9, .own 9 0 (row.length + i) 1), (11, .p (i64 i))]) (fun i => [(9, ob64 (refMore p r ms i))]) (fun i => many - i) 0
      (Nat.zero_le _) (wk_ob rfl (fun hd => ⟨le_refl hd _, le_refl hd _, le_refl hd _, le_o rfl, le_refl hd _, trivial⟩)) ?_)
    rintro i h1
    refine ev_seq (ev_rs [] rfl trivial (ev_cond rfl (fun h => ev_sk ?_) (fun h => ev_exit ?_)))
    · have hi : i < many := Int.ofNat_lt.mp (of_decide_eq_true h)
      have hck : (refMore p r ms i).length = row.length + i := by rw [length_refMore, hml]
      have hw := W64.more (p := p) (by omega) hp2 (r := r) hmw i
      obtain ⟨ys, hys⟩ : ∃ ys, refMore p r ms i = ys := ⟨_, rfl⟩
      have hst : refMore p r ms (i + 1) = ys ++ [refNext p r ys] := by rw [← hys]; rfl
      rw [hys] at hck hw
      have hN := RefNext_spec hm r ys (by omega) (by omega) hw
      refine ev_seq (ev_block ?_)
      refine ev_eq 9 (.own 9 0 ys.length 1) (congrArg (fun n => AV.own 9 0 n 1) hck.symm) (ev_ob 9 (ob64 ys) (congrArg (fun l => some (ob64 l)) hys) ?_)
      refine ev_region [u64 (refNext p r ys)] rfl ?_ (ev_app 9 38 ys [refNext p r ys] rfl rfl rfl rfl rfl (fun j hj => rfl) (fun j hj => ?_) ?_)
      · exact ⟨⟨by omega, rfl, Nat.le_refl 1⟩, ⟨⟨(by omega : 0 + ys.length ≤ ys.length), trivial⟩, .inl hN⟩, trivial⟩
      · match j, hj with
        | 0, _ => rfl
      exact ev_region [] rfl trivial ⟨i + 1, hi, by dsimp only; omega, wk_ren (i' := 38) (congrArg (fun l => some (ob64 l)) hst.symm) (fun hd => ⟨le_refl hd _, le_refl hd _, le_refl hd _, le_ren rfl (by simp; omega), le_n hd (congrArg (fun z => PV.val (.int .i64 z)) (wrapI _ (by omega) (by omega))), trivial⟩)⟩
    · have hi : i = many := by
        have := of_decide_eq_false h
        omega
      subst hi
      exact at_ob () trivial rfl (fun hd => ⟨le_o rfl, trivial⟩)
  rintro ⟨⟩ -
  exact ev_rs [] rfl trivial (ev_ret (ret1 (fz_ob' rfl (by rw [length_refMore, hml]) rfl)))

end Go.Proofs
