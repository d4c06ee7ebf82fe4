/- copy; calls; one operation; the theorem on operations. -/
import Derived.Test.YtmpfgaebmdbdeaaGreatDoorVincJ
set_option linter.unusedSimpArgs false
set_option linter.unusedVariables false
namespace Vinc
open Go Go.RowKit

variable {c : Cx} {σ : St} {L : Locs} {a : Act} {w : World}

theorem run_copies {P : Program} {t t' ty e : TypeId} {fi : TypeInfo} (ht : P.underlying t = some (.slice e)) (hi : P.info? e = some fi) {Y : Value} {base : Option Addr} {dLen dCap m : Nat} {news : List Value}
    (hnews : (Builtin.firstCells fi.size (Nat.min m dLen) Y).run P w = .ok news.toArray w) (hlen : (Builtin.lenOf Y).run P w = .ok m w) {w' : World}
    (hst : (match base with | some a => storeCells a news | none => (pure () : Sem Unit)).run P w = .ok () w') :
    (Builtin.copy_ #[t, t'] ty #[.slice base dLen dCap, Y]).run P w = .ok (.int .i64 (Nat.min m dLen)) w' := by
  cases base with
  | none =>
    have : w' = w := by simp at hst; exact hst.symm
    subst this
    simp [Builtin.copy_, run_underlying ht, Go.sizeOf, typeInfo, hi, hlen, hnews, goInt]
  | some ad =>
    simp only at hst
    simp [Builtin.copy_, run_underlying ht, Go.sizeOf, typeInfo, hi, hlen, hnews, hst, goInt]

theorem copy_sound (I : Inv c σ L a w) (V : Operand → AV) (o : Oper) (hV : VOk w (σ.ok c L w) L V a.eval o.op) {args : Array Operand} {ts : Array TypeId} (ho : o.op = .call ⟨.builtin .copy, args, ts⟩) {d : Nat} {fr : Bool}
    {out : Out} (h : coreH c.T V σ.h fr d o.op = some out) (hC : CP out.C) : HSound c σ a w o out := by
  rw [ho] at h hV
  simp only [coreH] at h
  split at h
  · rename_i x y t t' ha ht
    have hx := hV x (by simp [Op.operands, Call.operands, ha])
    have hy := hV y (by simp [Op.operands, Call.operands, ha])
    have e1 : args.map a.eval = #[a.eval x, a.eval y] := map_of_toList ha _
    have e2 : ts = #[t, t'] := Array.toList_inj.mp ht
    split at h
    · rename_i e he
      have hu := sliceT_of he
      split at h
      · rename_i i hT
        have hb := bif_some h
        clear h
        obtain ⟨hz, h⟩ := hb
        have hs1 : i.size = 1 := Nat.eq_of_beq_eq_true hz
        obtain ⟨fi, z, hfi, hfs, hfb, hfz, hzl⟩ := info_of hT
        split at h
        · rename_i m g k hsrc
          split at h
          · rename_i i0 off n s hvx
            rw [hvx] at hx
            split at h
            · rename_i ob h0
              have hb := bif_some h
              clear h
              obtain ⟨hcond, h⟩ := hb
              rw [Bool.and_eq_true] at hcond
              obtain rfl : s = 1 := Nat.eq_of_beq_eq_true hcond.1
              cases h
              obtain ⟨hon, hk⟩ : off + n ≤ ob.n ∧ kC k := hC
              obtain ⟨news, n1, n2, n3, n4, n5⟩ := srcA_rep I (Nat.le_refl 1) hsrc hy hk
              rw [Nat.mul_one] at n1 n2
              have hmin : Nat.min m n ≤ m := Nat.min_le_left _ _
              have hmin2 : Nat.min m n ≤ n := Nat.min_le_right _ _
              have n6 : (Builtin.firstCells fi.size (Nat.min m n) (a.eval y)).run c.P w = .ok (news.take (Nat.min m n)).toArray w := by
                rw [hfs, hs1, n5 _ hmin w rfl, Nat.mul_one]
              have hlt : (news.take (Nat.min m n)).length = Nat.min m n := by rw [List.length_take, n1]; exact Nat.min_eq_left hmin
              have hu1 : ∀ j, (upd σ.u i0 true) j = false → σ.u j = false := by
                intro j hj; simp only [upd] at hj; split at hj
                · cases hj
                · exact hj
              have fin : ∀ {w' : World}, (Builtin.copy_ #[t, t'] o.type #[a.eval x, a.eval y]).run c.P w = .ok (.int .i64 (Nat.min m n)) w' →
                  Inv c ⟨σ.t, upd σ.h i0 (some ⟨ob.n, fun j => if off ≤ j then (if j < off + Nat.min m n then g (j - off) else ob.f j) else ob.f j⟩), upd σ.u i0 true⟩ L a w' →
                  HSound c σ a w o ⟨.p (.val (.int .i64 (Nat.min m n))), [(i0, some ⟨ob.n, fun j => if off ≤ j then (if j < off + Nat.min m n then g (j - off) else ob.f j) else ob.f j⟩)], some (off + n ≤ ob.n ∧ kC k)⟩ := by
                intro w' h1 h2
                refine ⟨.value (.int .i64 (Nat.min m n)), _, w', L, ?_, .inl rfl, h2, rfl⟩
                simp only [execOp, ho, resolve, Sem.run_bind, Sem.run_pure, Result.andThen_ok, invoke, builtin, e1, e2, h1]
              have same0 : n = 0 → Inv c ⟨σ.t, upd σ.h i0 (some ⟨ob.n, fun j => if off ≤ j then (if j < off + Nat.min m n then g (j - off) else ob.f j) else ob.f j⟩), upd σ.u i0 true⟩ L a w := by
                intro hn
                refine I.same (o' := ⟨ob.n, fun j => if off ≤ j then (if j < off + Nat.min m n then g (j - off) else ob.f j) else ob.f j⟩) h0 rfl (fun j hj => ?_) hu1
                show (if off ≤ j then (if j < off + Nat.min m n then g (j - off) else ob.f j) else ob.f j) = ob.f j
                by_cases h1 : off ≤ j
                · rw [if_pos h1, if_neg (by omega)]
                · rw [if_neg h1]
              rcases hx with ⟨hL, hn, hX⟩ | ⟨B, o', hL, hn, hX⟩ | ⟨B, cap, hL, hX, hcap, cs, e', hh, hsz⟩
              · subst hn
                obtain ⟨A, hX⟩ := hX
                have hnil : news.take (Nat.min m 0) = [] := List.eq_nil_of_length_eq_zero (by rw [hlt]; omega)
                exact fin (by rw [hX]; exact run_copies (base := A) (dCap := 0) hu hfi n6 n3 (by rw [hnil]; cases A <;> rfl)) (same0 rfl)
              · subst hn
                have hnil : news.take (Nat.min m 0) = [] := List.eq_nil_of_length_eq_zero (by rw [hlt]; omega)
                exact fin (by rw [hX]; exact run_copies (base := some ⟨B, o', none⟩) (dCap := 0) hu hfi n6 n3 (by rw [hnil]; rfl)) (same0 rfl)
              · rcases I.objCells h0 with ⟨hn, _⟩ | ⟨B', cs', e'', hB', hh', hn', hc⟩
                · rw [hL] at hn; cases hn
                rw [hL] at hB'
                cases hB'
                rw [hh] at hh'
                cases hh'
                have hcell : ∀ j, j < Nat.min m n → isCell ((news.take (Nat.min m n)).getD j undef) = true ∧ RepA w (σ.ok c L w) L (g j) ((news.take (Nat.min m n)).getD j undef) := by
                  intro j hj
                  have : (news.take (Nat.min m n)).getD j undef = news.getD j undef := by
                    rw [List.getD_eq_getElem?_getD, List.getD_eq_getElem?_getD, List.getElem?_take_of_lt hj]
                  rw [this]; exact n2 j (by omega)
                have hst := run_storeCells_at c.P B off e' (news.take (Nat.min m n)) 0 cs w hh (by rw [hlt]; omega) (fun u hu => by
                  obtain ⟨j, hj, hje⟩ := List.mem_iff_getElem.mp hu
                  have := (hcell j (by omega)).1
                  rw [List.getD_eq_getElem?_getD, List.getElem?_eq_getElem hj] at this
                  rw [← hje]; exact this)
                rw [Nat.add_zero] at hst
                have hspl := splice_size cs off (news.take (Nat.min m n)) (by rw [hlt]; omega)
                obtain ⟨I', _⟩ := I.write (o' := ⟨ob.n, fun j => if off ≤ j then (if j < off + Nat.min m n then g (j - off) else ob.f j) else ob.f j⟩) h0 hL hh hspl (by rw [hspl]; exact hn') (fun j hj => by
                  show isCell _ = true ∧ RepA w _ L (if off ≤ j then (if j < off + Nat.min m n then g (j - off) else ob.f j) else ob.f j) _
                  rw [splice_getD cs off _ (by rw [hlt]; omega), hlt]
                  by_cases h1 : off ≤ j
                  · by_cases h2 : j < off + Nat.min m n
                    · rw [if_pos ⟨h1, h2⟩, if_pos h1, if_pos h2]; exact hcell _ (by omega)
                    · rw [if_neg (fun e => h2 e.2), if_pos h1, if_neg h2]; exact hc j hj
                  · rw [if_neg (fun e => h1 e.1), if_neg h1]; exact hc j hj) hu1
                exact fin (by rw [hX]; exact run_copies (base := some ⟨B, off, none⟩) (dCap := cap) hu hfi n6 n3 hst) I'
            · cases h
          · cases h
        · cases h
      · cases h
    · cases h
  · cases h

theorem coreH_sound (I : Inv c σ L a w) (V : Operand → AV) (o : Oper) (hV : VOk w (σ.ok c L w) L V a.eval o.op) {d : Nat} {fr : Bool} (hd : fr = true → σ.u d = false)
    {out : Out} (h : coreH c.T V σ.h fr d o.op = some out) (hC : CP out.C) : HSound c σ a w o out := by
  cases hop : o.op with
  | alloc t => exact alloc_sound I V o hop hd h
  | box t x => exact box_sound I V o hV hop hd h
  | buildSlice t n ps => exact buildSlice_sound I V o hV hop hd h
  | makeSlice t l k => exact makeSlice_sound I V o hV hop hd h hC
  | store t x v => exact store_sound I V o hV hop h hC
  | call cl =>
    obtain ⟨cal, args, ts⟩ := cl
    cases cal with
    | value f => rw [hop] at h; simp only [coreH] at h; cases h
    | invoke r m => rw [hop] at h; simp only [coreH] at h; cases h
    | builtin b =>
      cases b
      case append => exact append_sound I V o hV hop hd h hC
      case copy => exact copy_sound I V o hV hop h hC
      all_goals (rw [hop] at h; simp only [coreH] at h; cases h)
  | _ => rw [hop] at h; simp only [coreH] at h; cases h

/-! ### calls -/

theorem viewA_rep (I : Inv c σ L a w) {x : AV} {y : PV} {k : Option (Nat × Prop)} {v : Value} (h : viewA σ.h x = some (y, k)) (hk : kC k) (hr : RepA w (σ.ok c L w) L x v) :
    Rep w (fun b => b < w.heap.size) y v ∧ (k = none → Rep w (σ.ok c L w) y v) := by
  have hlt : ∀ x v, Rep w (σ.ok c L w) x v → Rep w (fun b => b < w.heap.size) x v := fun x v => Rep.mono (fun _ _ => rfl) (fun b hb => I.ok_lt hb) x v
  have hpv : ∀ x v, RepA w (σ.ok c L w) L x v → Rep w (fun b => b < w.heap.size) (pvOf x) v := by
    intro x v hr
    cases x with
    | p y => exact hlt _ _ hr
    | _ => exact trivial
  unfold viewA at h
  split at h
  · cases h
    exact ⟨hlt _ _ hr, fun _ => hr⟩
  · cases h
  · rename_i i0 off n s
    split at h
    · rename_i o h0
      cases h
      refine ⟨?_, fun h => by cases h⟩
      have hk : off + mulS n s ≤ o.n := hk
      rw [mulS_eq] at hk
      rcases hr with ⟨hL, hn, hX⟩ | ⟨B, o', hL, hn, hX⟩ | ⟨B, cap, hL, hX, hcap, cs, e', hh, hsz⟩
      · subst hn; obtain ⟨A, hX⟩ := hX; exact ⟨A, 0, hX, by omega, .inl (by simp)⟩
      · subst hn; exact ⟨_, 0, hX, by omega, .inl (by simp)⟩
      · refine ⟨_, cap, hX, hcap, .inr ⟨B, off, rfl, (I.own _ _ hL).2, fun j hj => ?_⟩⟩
        rcases I.objCells h0 with ⟨hn, _⟩ | ⟨B', cs', e'', hB', hh', hn', hc⟩
        · rw [hL] at hn; cases hn
        rw [hL] at hB'
        cases hB'
        rw [hh] at hh'
        cases hh'
        have hlt : off + j < cs.size := by omega
        obtain ⟨h1, h2⟩ := hc (off + j) (by omega)
        refine ⟨cs.getD (off + j) undef, by simp [World.cell?, hh, Array.getD_eq_getD_getElem?, hlt], h1, ?_⟩
        show Rep w _ (pvOf (shiftF o.f off j)) _
        rw [shiftF_eq]
        exact hpv _ _ h2
    · cases h
  · rename_i i0 off
    split at h
    · rename_i o h0
      cases h
      refine ⟨?_, fun h => by cases h⟩
      obtain ⟨B, hL, hX⟩ := hr
      refine ⟨B, 0, by rw [hX, Nat.zero_add], (I.own _ _ hL).2, fun j hj => ?_⟩
      rcases I.objCells h0 with ⟨hn, _⟩ | ⟨B', cs', e'', hB', hh', hn', hc⟩
      · rw [hL] at hn; cases hn
      rw [hL] at hB'
      cases hB'
      have hlt : j < cs'.size := by omega
      obtain ⟨h1, h2⟩ := hc j hj
      refine ⟨cs'.getD j undef, by simp [World.cell?, hh', Array.getD_eq_getD_getElem?, hlt], h1, hpv _ _ h2⟩
    · cases h

theorem viewL_rep (I : Inv c σ L a w) : ∀ {xs : List AV} {vs : List Value} {ys : List PV} {b : Bool} {C : Prop}, viewL σ.h xs = some (ys, b, C) → (b = false → C) → xs.length = vs.length →
    (∀ (k : Nat) (x : AV) (v : Value), xs[k]? = some x → vs[k]? = some v → RepA w (σ.ok c L w) L x v) → RepL w (fun q => q < w.heap.size) ys vs ∧ (b = true → RepL w (σ.ok c L w) ys vs)
  | [], [], ys, b, C, h, _, _, _ => by cases h; exact ⟨trivial, fun _ => trivial⟩
  | [], _ :: _, _, _, _, _, _, hl, _ => by simp at hl
  | _ :: _, [], _, _, _, _, _, hl, _ => by simp at hl
  | x :: xs, v :: vs, ys, b, C, h, hC, hl, hr => by
    unfold viewL at h
    have h0 := hr 0 x v rfl rfl
    split at h
    · rename_i y ys' b' C' h1 h2
      cases h
      obtain ⟨a1, a2⟩ := viewA_rep I h1 trivial h0
      obtain ⟨b1, b2⟩ := viewL_rep I h2 hC (by simpa using hl) (fun k x v hx hv => hr (k + 1) x v hx hv)
      exact ⟨⟨a1, b1⟩, fun hb => ⟨a2 rfl, b2 hb⟩⟩
    · rename_i y q C1 ys' b' C2 h1 h2
      cases h
      have hCC := hC rfl
      obtain ⟨a1, a2⟩ := viewA_rep I h1 hCC.1 h0
      obtain ⟨b1, b2⟩ := viewL_rep I h2 (fun _ => hCC.2) (by simpa using hl) (fun k x v hx hv => hr (k + 1) x v hx hv)
      exact ⟨⟨a1, b1⟩, fun hb => by cases hb⟩
    · cases h

theorem flatN_rep {w w' : World} {ok ok' : Nat → Prop} : ∀ (n : Nat) (f : Nat → PV), flat.flatN n f = true → ∀ j, j < n → ∀ v, Rep w ok (f j) v → Rep w' ok' (f j) v
  | 0, f, _, j, hj, _, _ => by omega
  | n + 1, f, h, j, hj, v, hr => by
    unfold flat.flatN at h
    rw [Bool.and_eq_true] at h
    by_cases hjn : j = n
    · subst hjn
      cases hf : f j <;> rw [hf] at h hr <;> simp at h
      · trivial
      · exact hr
    · exact flatN_rep n f h.2 j (by omega) v hr

theorem flat_rep {w w' : World} {ok ok' : Nat → Prop} {x : PV} {v : Value} (h : flat x = true) (hr : Rep w ok x v) : Rep w' ok' x v := by
  cases x with
  | any => trivial
  | val y => exact hr
  | tup n f =>
    obtain ⟨cs, rfl, hs, hc⟩ := hr
    exact ⟨cs, rfl, hs, fun j hj => flatN_rep n f h j hj _ (hc j hj)⟩
  | _ => cases h

/-- What a call does. -/
theorem coreC_sound (I : Inv c σ L a w) (V : Operand → AV) (o : Oper) (hV : VOk w (σ.ok c L w) L V a.eval o.op) {r : PV} {x : AV} {C : Option Prop} (h : coreC c.toPr V σ.h r o.op = some (x, C)) (hC : CP C)
    {K : Act → World → Prop} {Q : Exit → Act → World → Prop} (hK : ∀ v w', Inv c σ L a w' → RepA w' (σ.ok c L w') L x v → K (a.put o.dst v) w') : o.wp c.P a w K Q := by
  cases hop : o.op <;> rw [hop] at h <;> simp only [coreC] at h <;> try (cases h; done)
  rename_i cl
  obtain ⟨cal, args, ts⟩ := cl
  simp only at h
  split at h
  · rename_i f hf
    cases cal with
    | invoke => cases hf
    | builtin => cases hf
    | value y =>
      simp only [calleeF] at hf
      have hy := hV y (by rw [hop]; simp [Op.operands, Call.operands])
      have hey : a.eval y = .func (.func f) #[] #[] := by
        split at hf
        · rename_i f' first captured hvy
          split at hf
          · rename_i h1 h2
            cases hf
            rw [hvy] at hy
            have hy : a.eval y = _ := hy
            rw [hy, Array.toList_inj.mp (show first.toList = (#[] : Array Value).toList from h1), Array.toList_inj.mp (show captured.toList = (#[] : Array Value).toList from h2)]
          · cases hf
        · cases hf
      have hargs : ∀ (k : Nat) (x : AV) (v : Value), (args.toList.map V)[k]? = some x → (args.map a.eval).toList[k]? = some v → RepA w (σ.ok c L w) L x v := by
        intro k x v hx hv
        rw [List.getElem?_map] at hx
        rw [Array.toList_map, List.getElem?_map] at hv
        cases hk : args.toList[k]? with
        | none => rw [hk] at hx; cases hx
        | some z =>
          rw [hk] at hx hv
          cases hx
          cases hv
          have hmem : z ∈ args.toList := List.mem_of_getElem? hk
          exact hV z (by rw [hop]; simp [Op.operands, Call.operands]; right; exact Array.mem_toList_iff.mp hmem)
      have hlen : (args.toList.map V).length = (args.map a.eval).toList.length := by simp
      have run : (execOp a.eval o).run c.P w = (callFunc f (args.map a.eval)).run c.P w := by
        simp only [execOp, hop, resolve, Deferred.ofValue, hey, Sem.run_bind, Sem.run_pure, Result.andThen_ok, invoke, Array.append_empty, Array.empty_append, pure_bind]
      have key : ∀ (as : List PV) (ok : Nat → Prop), (∀ b, ok b → b < w.heap.size) → RepL w ok as (args.map a.eval).toList → (∀ g, Rep w ok (c.G g) (gptr g)) → CallOk c.P c.G f as r →
          (∀ v w', Below w.heap.size w w' → Rep w' (fun b => ok b ∨ (w.heap.size ≤ b ∧ b < w'.heap.size)) r v → RepA w' (σ.ok c L w') L x v) → o.wp c.P a w K Q := by
        intro as ok hokl hrl hg hco hres
        rcases hco with ⟨⟨fn, hfn, hnm, hbd⟩, hcs⟩ | hext
        · have hr : (execOp a.eval o).run c.P w = .ok (.enter f (args.map a.eval)) w := by
            rw [run]
            unfold callFunc
            simp only [Sem.run_bind, run_program, Result.andThen_ok, hfn, hnm, Bool.false_eq_true, if_false, hbd, Sem.run_pure]
          unfold Oper.wp
          rw [hr, Oper.upon_enter]
          refine Calls.mono (hcs w ok (args.map a.eval) hokl hg hrl) ?_
          rintro e w' ⟨v, rfl, hbel, hrep⟩
          exact hK v w' (I.called hbel).1 (hres v w' hbel hrep)
        · obtain ⟨v, hv, hrep⟩ := hext w ok (args.map a.eval) hrl
          unfold Oper.wp
          rw [run, hv, Oper.upon_value]
          refine hK v w I (hres v w (Below.refl _ _) (Rep.mono (fun _ _ => rfl) (fun _ h => .inl h) _ _ hrep))
      split at h
      · rename_i as C' hvl
        cases h
        have hco : CallOk c.P c.G f as r := hC
        obtain ⟨_, h2⟩ := viewL_rep I hvl (fun hb => by cases hb) hlen hargs
        refine key as (σ.ok c L w) (fun b hb => I.ok_lt hb) (h2 rfl) (fun g => I.glob g) hco (fun v w' hbel hrep => ?_)
        refine Rep.mono (fun _ _ => rfl) (fun b hb => ?_) _ _ hrep
        rcases hb with hb | ⟨h1, h2⟩
        · exact ⟨hb.1.imp id (fun h => ⟨h.1, by have := hbel.size; omega⟩), hb.2⟩
        · refine ⟨.inr ⟨Nat.le_trans I.below.size h1, h2⟩, fun ⟨i, _, hLi⟩ => ?_⟩
          have := (I.own i b hLi).2; omega
      · rename_i as C' hvl
        have hb := bif_some h
        clear h
        obtain ⟨hfl, h⟩ := hb
        cases h
        obtain ⟨hC', hco⟩ : C' ∧ CallOk c.P c.G f as r := hC
        obtain ⟨h1, _⟩ := viewL_rep I hvl (fun _ => hC') hlen hargs
        refine key as (fun b => b < w.heap.size) (fun _ h => h) h1 (fun g => Rep.mono (fun _ _ => rfl) (fun b hb => I.ok_lt hb) _ _ (I.glob g)) hco (fun v w' hbel hrep => flat_rep hfl hrep)
      · cases h
  · cases h

/-- A call's operand, and its arguments. -/
theorem call_parts {ok : Nat → Prop} (V : Operand → AV) (o : Oper) {cal : Callee} {args : Array Operand} {ts : Array TypeId} (hop : o.op = .call ⟨cal, args, ts⟩) (hV : VOk w ok L V a.eval o.op) {f : FuncId} (hf : calleeF V cal = some f) :
    (execOp a.eval o).run c.P w = (callFunc f (args.map a.eval)).run c.P w ∧
    (∀ (k : Nat) (x : AV) (v : Value), (args.toList.map V)[k]? = some x → (args.map a.eval).toList[k]? = some v → RepA w ok L x v) ∧ (args.toList.map V).length = (args.map a.eval).toList.length := by
  cases cal with
  | invoke => cases hf
  | builtin => cases hf
  | value y =>
    simp only [calleeF] at hf
    have hy := hV y (by rw [hop]; simp [Op.operands, Call.operands])
    have hey : a.eval y = .func (.func f) #[] #[] := by
      split at hf
      · rename_i f' first captured hvy
        split at hf
        · rename_i h1 h2
          cases hf
          rw [hvy] at hy
          have hy : a.eval y = _ := hy
          rw [hy, Array.toList_inj.mp (show first.toList = (#[] : Array Value).toList from h1), Array.toList_inj.mp (show captured.toList = (#[] : Array Value).toList from h2)]
        · cases hf
      · cases hf
    refine ⟨?_, fun k x v hx hv => ?_, by simp⟩
    · simp only [execOp, hop, resolve, Deferred.ofValue, hey, Sem.run_bind, Sem.run_pure, Result.andThen_ok, invoke, Array.append_empty, Array.empty_append, pure_bind]
    · rw [List.getElem?_map] at hx
      rw [Array.toList_map, List.getElem?_map] at hv
      cases hk : args.toList[k]? with
      | none => rw [hk] at hx; cases hx
      | some z =>
        rw [hk] at hx hv
        cases hx
        cases hv
        have hmem : z ∈ args.toList := List.mem_of_getElem? hk
        exact hV z (by rw [hop]; simp [Op.operands, Call.operands]; right; exact Array.mem_toList_iff.mp hmem)

theorem bif_some' {α : Type} {b : Bool} {x : Option α} {r : α} (h : (bif b then none else x) = some r) : b = false ∧ x = some r := by
  cases b
  · exact ⟨rfl, h⟩
  · cases h

theorem Inv.drops : ∀ {ids : List Nat} {σ : St}, Inv c σ L a w → Inv c ⟨σ.t, applyH (dropH ids) σ.h, applyU (dropH ids) σ.u⟩ L a w
  | [], _, I => I
  | i :: ids, σ, I => by
    have I1 := I.drop i (u' := upd σ.u i true) (fun j hj => by
      simp only [upd] at hj
      split at hj
      · cases hj
      · exact hj)
    exact Inv.drops (ids := ids) (σ := ⟨σ.t, upd σ.h i none, upd σ.u i true⟩) I1

theorem applyH_drop : ∀ {ids : List Nat} {h : Nat → Option Ob} {i : Nat}, (applyH (dropH ids) h i).isSome → i ∉ ids ∧ applyH (dropH ids) h i = h i
  | [], _, _, _ => ⟨by simp, rfl⟩
  | k :: ids, h, i, hs => by
    have hs : (applyH (dropH ids) (upd h k none) i).isSome := hs
    obtain ⟨h1, h2⟩ := applyH_drop (ids := ids) hs
    rw [h2] at hs
    by_cases hik : i = k
    · subst hik; rw [upd_same] at hs; cases hs
    · rw [upd_ne _ _ hik] at h2
      exact ⟨by simp [hik, h1], h2⟩

/-- The state in which the shown objects are nobody's. -/
abbrev St.drops (σ : St) (ids : List Nat) : St := ⟨σ.t, applyH (dropH ids) σ.h, applyU (dropH ids) σ.u⟩

theorem ok_drops {ids : List Nat} {b : Nat} (h : σ.ok c L w b) : (σ.drops ids).ok c L w b :=
  ⟨h.1, fun ⟨i, hi, hL⟩ => h.2 ⟨i, by have := (applyH_drop hi).2; rwa [← this], hL⟩⟩

theorem ok_dropped (I : Inv c σ L a w) {ids : List Nat} {i B : Nat} {o : Ob} (hi : i ∈ ids) (h0 : σ.h i = some o) (hB : L i = some (some B)) : (σ.drops ids).ok c L w B :=
  ⟨.inr (I.own i B hB), fun ⟨j, hj, hL⟩ => by
    obtain ⟨h1, h2⟩ := applyH_drop hj
    have hj2 : (σ.h j).isSome := by rw [← h2]; exact hj
    have := I.inj j i B hj2 (by rw [h0]; rfl) hL hB
    exact h1 (this ▸ hi)⟩

theorem viewA_drop (I : Inv c σ L a w) {ids : List Nat} {x : AV} {y : PV} {k : Option (Nat × Prop)} {v : Value} (hid : ∀ i ∈ idsA [x], i ∈ ids) (h : viewA σ.h x = some (y, k)) (hk : kC k) (hr : RepA w (σ.ok c L w) L x v) :
    Rep w ((σ.drops ids).ok c L w) y v := by
  have hlt : ∀ x v, Rep w (σ.ok c L w) x v → Rep w ((σ.drops ids).ok c L w) x v := fun x v => Rep.mono (fun _ _ => rfl) (fun b hb => ok_drops hb) x v
  have hpv : ∀ x v, RepA w (σ.ok c L w) L x v → Rep w ((σ.drops ids).ok c L w) (pvOf x) v := by
    intro x v hr
    cases x with
    | p y => exact hlt _ _ hr
    | _ => exact trivial
  unfold viewA at h
  split at h
  · cases h
    exact hlt _ _ hr
  · cases h
  · rename_i i0 off n s
    split at h
    · rename_i o h0
      cases h
      have hk : off + mulS n s ≤ o.n := hk
      rw [mulS_eq] at hk
      rcases hr with ⟨hL, hn, hX⟩ | ⟨B, o', hL, hn, hX⟩ | ⟨B, cap, hL, hX, hcap, cs, e', hh, hsz⟩
      · subst hn; obtain ⟨A, hX⟩ := hX; exact ⟨A, 0, hX, by omega, .inl (by simp)⟩
      · subst hn; exact ⟨_, 0, hX, by omega, .inl (by simp)⟩
      · refine ⟨_, cap, hX, hcap, .inr ⟨B, off, rfl, ok_dropped I (hid i0 (by simp [idsA])) h0 hL, fun j hj => ?_⟩⟩
        rcases I.objCells h0 with ⟨hn, _⟩ | ⟨B', cs', e'', hB', hh', hn', hc⟩
        · rw [hL] at hn; cases hn
        rw [hL] at hB'
        cases hB'
        rw [hh] at hh'
        cases hh'
        have hlt : off + j < cs.size := by omega
        obtain ⟨h1, h2⟩ := hc (off + j) (by omega)
        refine ⟨cs.getD (off + j) undef, by simp [World.cell?, hh, Array.getD_eq_getD_getElem?, hlt], h1, ?_⟩
        show Rep w _ (pvOf (shiftF o.f off j)) _
        rw [shiftF_eq]
        exact hpv _ _ h2
    · cases h
  · rename_i i0 off
    split at h
    · rename_i o h0
      cases h
      obtain ⟨B, hL, hX⟩ := hr
      refine ⟨B, 0, by rw [hX, Nat.zero_add], ok_dropped I (hid i0 (by simp [idsA])) h0 hL, fun j hj => ?_⟩
      rcases I.objCells h0 with ⟨hn, _⟩ | ⟨B', cs', e'', hB', hh', hn', hc⟩
      · rw [hL] at hn; cases hn
      rw [hL] at hB'
      cases hB'
      have hlt : j < cs'.size := by omega
      obtain ⟨h1, h2⟩ := hc j hj
      refine ⟨cs'.getD j undef, by simp [World.cell?, hh', Array.getD_eq_getD_getElem?, hlt], h1, hpv _ _ h2⟩
    · cases h

theorem idsA_cons (x : AV) (l : List AV) : idsA (x :: l) = idsA [x] ++ idsA l := by cases x <;> rfl

theorem viewL_drop (I : Inv c σ L a w) {ids : List Nat} : ∀ {xs : List AV} {vs : List Value} {ys : List PV} {b : Bool} {C : Prop}, (∀ i ∈ idsA xs, i ∈ ids) → viewL σ.h xs = some (ys, b, C) → (b = false → C) → xs.length = vs.length →
    (∀ (k : Nat) (x : AV) (v : Value), xs[k]? = some x → vs[k]? = some v → RepA w (σ.ok c L w) L x v) → RepL w ((σ.drops ids).ok c L w) ys vs
  | [], [], ys, b, C, _, h, _, _, _ => by cases h; exact trivial
  | [], _ :: _, _, _, _, _, _, _, hl, _ => by simp at hl
  | _ :: _, [], _, _, _, _, _, _, hl, _ => by simp at hl
  | x :: xs, v :: vs, ys, b, C, hi, h, hC, hl, hr => by
    unfold viewL at h
    have h0 := hr 0 x v rfl rfl
    have hi1 : ∀ i ∈ idsA [x], i ∈ ids := fun i hm => hi i (by rw [idsA_cons]; exact List.mem_append_left _ hm)
    have hi2 : ∀ i ∈ idsA xs, i ∈ ids := fun i hm => hi i (by rw [idsA_cons]; exact List.mem_append_right _ hm)
    split at h
    · rename_i y ys' b' C' h1 h2
      cases h
      exact ⟨viewA_drop I hi1 h1 trivial h0, viewL_drop I hi2 h2 hC (by simpa using hl) (fun k x v hx hv => hr (k + 1) x v hx hv)⟩
    · rename_i y q C1 ys' b' C2 h1 h2
      cases h
      have hCC := hC rfl
      exact ⟨viewA_drop I hi1 h1 hCC.1 h0, viewL_drop I hi2 h2 (fun _ => hCC.2) (by simpa using hl) (fun k x v hx hv => hr (k + 1) x v hx hv)⟩
    · cases h

theorem coreZ_sound (I : Inv c σ L a w) (V : Operand → AV) (o : Oper) (hV : VOk w (σ.ok c L w) L V a.eval o.op) {d : Nat} {fr : Bool} (hd : fr = true → σ.u d = false) {r : PV} {out : Out} (h : coreZ c.toPr V σ.h fr d r o.op = some out) (hC : CP out.C)
    {K : Act → World → Prop} {Q : Exit → Act → World → Prop} (hK : ∀ v w' L', Inv c ⟨σ.t, applyH out.hw σ.h, applyU out.hw σ.u⟩ L' a w' → RepA w' ((⟨σ.t, applyH out.hw σ.h, applyU out.hw σ.u⟩ : St).ok c L' w') L' out.x v → K (a.put o.dst v) w') : o.wp c.P a w K Q := by
  have hu' : ∀ j, (upd σ.u d true) j = false → σ.u j = false ∧ j ≠ d := by
    intro j hj; simp only [upd] at hj; split at hj
    · cases hj
    · rename_i hne; exact ⟨hj, hne⟩
  cases hop : o.op <;> rw [hop] at h <;> try (cases h; done)
  case call cl =>
    obtain ⟨cal, args, ts⟩ := cl
    simp only [coreZ] at h
    split at h
    · rename_i fr0
      split at h
      · rename_i n s g hg
        have hb := bif_some h
        clear h
        obtain ⟨hfr, h⟩ := hb
        have hd := hd hfr
        split at h
        · rename_i q hq
          split at h
          · rename_i as b C' hvl
            cases h
            obtain ⟨hC', ⟨fn, hfn, hnm, hbd⟩, hcs⟩ : C' ∧ CallSpecO c.P c.G q as n s g := hC
            obtain ⟨run, hargs, hlen⟩ := call_parts (c := c) (L := L) V o hop hV hq
            obtain ⟨h1, _⟩ := viewL_rep I hvl (fun _ => hC') hlen hargs
            have hr : (execOp a.eval o).run c.P w = .ok (.enter q (args.map a.eval)) w := by
              rw [run]
              unfold callFunc
              simp only [Sem.run_bind, run_program, Result.andThen_ok, hfn, hnm, Bool.false_eq_true, if_false, hbd, Sem.run_pure]
            unfold Oper.wp
            rw [hr, Oper.upon_enter]
            refine Calls.mono (hcs w (fun b => b < w.heap.size) (args.map a.eval) (fun _ h => h) (fun g => Rep.mono (fun _ _ => rfl) (fun b hb => I.ok_lt hb) _ _ (I.glob g)) h1) ?_
            rintro e w' ⟨v, B, rfl, hbel, hBs, hown⟩
            cases B with
            | none =>
              obtain ⟨hn, A, hv⟩ := hown
              subst hn
              have I1 := (I.called hbel).1.allocNil hd hu' ⟨mulS 0 s, fun j => .p (g j)⟩ (by show mulS 0 s = 0; rw [mulS_eq]; simp)
              exact hK v w' _ I1 (.inl ⟨upd_same _ _ _, rfl, A, hv⟩)
            | some B =>
              obtain ⟨cs, e, k1, k2, k3, k4⟩ := hown
              obtain ⟨hB1, hB2⟩ := hBs B rfl
              have I1 := I.adopt hd hu' hbel B hB1 hB2 ⟨mulS n s, fun j => .p (g j)⟩ ⟨cs, e, k1, by show mulS n s ≤ _; rw [mulS_eq]; exact k2, fun j hj => by
                have hj : j < n * s := by have : j < mulS n s := hj; rwa [mulS_eq] at this
                exact ⟨(k3 j hj).1, _, rfl, (k3 j hj).2⟩⟩
              refine hK v w' _ I1 ?_
              rcases k4 with ⟨hn, o', hv⟩ | ⟨cap, hv, hcap, hsz⟩
              · exact .inr (.inl ⟨B, o', upd_same _ _ _, hn, hv⟩)
              · exact .inr (.inr ⟨B, cap, upd_same _ _ _, hv, hcap, cs, e, k1, by omega⟩)
          · cases h
        · cases h
      · cases h
    · split at h
      · rename_i q hq
        split at h
        · rename_i as C' hvl
          have hb := bif_some' h
          clear h
          obtain ⟨_, h⟩ := hb
          cases h
          obtain ⟨hC', hco⟩ : C' ∧ CallOk c.P c.G q as r := hC
          obtain ⟨run, hargs, hlen⟩ := call_parts (c := c) (L := L) V o hop hV hq
          have hrl := viewL_drop I (ids := idsA (args.toList.map V)) (fun _ h => h) hvl (fun _ => hC') hlen hargs
          have I1 := I.drops (ids := idsA (args.toList.map V))
          rcases hco with ⟨⟨fn, hfn, hnm, hbd⟩, hcs⟩ | hext
          · have hr : (execOp a.eval o).run c.P w = .ok (.enter q (args.map a.eval)) w := by
              rw [run]
              unfold callFunc
              simp only [Sem.run_bind, run_program, Result.andThen_ok, hfn, hnm, Bool.false_eq_true, if_false, hbd, Sem.run_pure]
            unfold Oper.wp
            rw [hr, Oper.upon_enter]
            refine Calls.mono (hcs w _ (args.map a.eval) (fun b hb => I1.ok_lt hb) (fun g => I1.glob g) hrl) ?_
            rintro e w' ⟨v, rfl, hbel, hrep⟩
            refine hK v w' L (I1.called hbel).1 (Rep.mono (fun _ _ => rfl) (fun b hb => ?_) _ _ hrep)
            rcases hb with hb | ⟨h1, h2⟩
            · exact ⟨hb.1.imp id (fun h => ⟨h.1, by have := hbel.size; omega⟩), hb.2⟩
            · refine ⟨.inr ⟨Nat.le_trans I.below.size h1, h2⟩, fun ⟨i, _, hLi⟩ => ?_⟩
              have := (I.own i b hLi).2; omega
          · obtain ⟨v, hv, hrep⟩ := hext w _ (args.map a.eval) hrl
            unfold Oper.wp
            rw [run, hv, Oper.upon_value]
            exact hK v w L I1 hrep
        · cases h
      · cases h

end Vinc
