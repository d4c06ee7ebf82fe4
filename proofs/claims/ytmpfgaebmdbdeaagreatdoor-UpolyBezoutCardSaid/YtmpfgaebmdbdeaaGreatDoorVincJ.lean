/- append and copy in the model. -/
import Derived.Test.YtmpfgaebmdbdeaaGreatDoorVincI
set_option linter.unusedSimpArgs false
set_option linter.unusedVariables false
namespace Vinc
open Go Go.RowKit

variable {c : Cx} {σ : St} {L : Locs} {a : Act} {w : World}

theorem run_append_grows {P : Program} {t ty e : TypeId} {fi : TypeInfo} {z : Value} (ht : P.underlying t = some (.slice e)) (hi : P.info? e = some fi) (hz : fi.zero = some z) {Y : Value} {base : Option Addr} {sLen sCap m : Nat}
    {olds news : List Value} (holds : ∀ W : World, W.heap = w.heap → (Builtin.firstCells fi.size sLen (.slice base sLen sCap)).run P W = .ok olds.toArray W)
    (hnews : ∀ W : World, W.heap = w.heap → (Builtin.firstCells fi.size m Y).run P W = .ok news.toArray W) (hlen : (Builtin.lenOf Y).run P w = .ok m w) (hg : sCap < sLen + m) (hsmall : sLen + m ≤ 1099511627776) (hb : fi.bytes ≤ 128) :
    (Builtin.append_ #[t, t] ty #[.slice base sLen sCap, Y]).run P w = .ok (.slice (some ⟨w.heap.size, 0, none⟩) (sLen + m) (grownCap w (sLen + m) sCap e))
      (w.drew.alloc (.cells (olds.toArray ++ news.toArray ++ Builtin.zeroCells z.cells (grownCap w (sLen + m) sCap e - (sLen + m))) e)) := by
  have hn : ¬ (sLen + m ≤ sCap) := by omega
  have h63' : ¬ (9223372036854775807 < ((sLen : Int) + (m : Int))) := by omega
  have hbytes : (sLen + m) * fi.bytes ≤ 140737488355328 := by
    have : (sLen + m) * fi.bytes ≤ 1099511627776 * 128 := Nat.mul_le_mul hsmall hb
    omega
  have h48' : ¬ (281474976710656 < Builtin.nextslicecap (sLen + m) sCap * fi.bytes) := by
    have := growslice_fits (old := sCap) hg hbytes
    omega
  have h1 := holds w.drew rfl
  have h2 := hnews w.drew rfl
  simp [Builtin.append_, run_underlying ht, Go.sizeOf, typeInfo, zeroValue, hi, hz, hlen, hn, h63', h48', Question.forced, h1, h2, newRow, grownCap]
  congr 2
  apply Array.ext'
  simp [List.append_assoc]

theorem run_append_rooms {P : Program} {t ty e : TypeId} {fi : TypeInfo} (ht : P.underlying t = some (.slice e)) (hi : P.info? e = some fi) {Y : Value} {base : Option Addr} {sLen sCap m : Nat}
    {news : List Value} (hnews : (Builtin.firstCells fi.size m Y).run P w = .ok news.toArray w) (hlen : (Builtin.lenOf Y).run P w = .ok m w) (hg : sLen + m ≤ sCap) {w' : World}
    (hst : (match base with | some a => storeCells (a.add (sLen * fi.size)) news | none => (pure () : Sem Unit)).run P w = .ok () w') :
    (Builtin.append_ #[t, t] ty #[.slice base sLen sCap, Y]).run P w = .ok (.slice base (sLen + m) sCap) w' := by
  cases base with
  | none =>
    have : w' = w := by simp at hst; exact hst.symm
    subst this
    simp [Builtin.append_, run_underlying ht, Go.sizeOf, typeInfo, hi, hlen, hg, hnews]
  | some ad =>
    simp only at hst
    simp [Builtin.append_, run_underlying ht, Go.sizeOf, typeInfo, hi, hlen, hg, hnews, hst]

/-- What the new row holds. -/
theorem grown_getD (olds news : List Value) (zs : Array Value) (j : Nat) (hj : j < olds.length + news.length) :
    (olds.toArray ++ news.toArray ++ zs).getD j undef = if j < olds.length then olds.getD j undef else news.getD (j - olds.length) undef := by
  rw [Array.getD_eq_getD_getElem?, Array.getElem?_append_left (by simp; omega)]
  by_cases h : j < olds.length
  · rw [if_pos h, Array.getElem?_append_left (by simpa using h), List.getElem?_toArray, List.getD_eq_getElem?_getD]
  · rw [if_neg h, Array.getElem?_append_right (by simp; omega), List.getElem?_toArray, List.getD_eq_getElem?_getD, List.size_toArray]

/-- The common end: the new slice lies in a new block. -/
theorem append_new (I : Inv c σ L a w) {d e : Nat} (hd : σ.u d = false) {u' : Nat → Bool} (hu : ∀ i, u' i = false → σ.u i = false ∧ i ≠ d) {s n m cap : Nat} {f g : Nat → AV} {olds news : List Value} {zs : Array Value}
    (ho : olds.length = n * s) (hn : news.length = m * s) (hz : zs.size = (cap - (n + m)) * s) (hcap : n + m ≤ cap)
    (hof : ∀ j, j < n * s → isCell (olds.getD j undef) = true ∧ RepA w (σ.ok c L w) L (f j) (olds.getD j undef))
    (hnf : ∀ j, j < m * s → isCell (news.getD j undef) = true ∧ RepA w (σ.ok c L w) L (g j) (news.getD j undef)) (x : Nat → AV) (hx : ∀ j, j < (n + m) * s → x j = if j < n * s then f j else g (j - n * s)) :
    ∃ L', Inv c ⟨σ.t, upd σ.h d (some ⟨(n + m) * s, x⟩), u'⟩ L' a (w.drew.alloc (.cells (olds.toArray ++ news.toArray ++ zs) e)) ∧
      RepA (w.drew.alloc (.cells (olds.toArray ++ news.toArray ++ zs) e)) ((⟨σ.t, upd σ.h d (some ⟨(n + m) * s, x⟩), u'⟩ : St).ok c L' (w.drew.alloc (.cells (olds.toArray ++ news.toArray ++ zs) e))) L'
        (.own d 0 (n + m) s) (.slice (some ⟨w.heap.size, 0, none⟩) (n + m) cap) := by
  have hsum : (n + m) * s = n * s + m * s := Nat.add_mul ..
  obtain ⟨I1, hm1⟩ := I.drew
  have hsz : (olds.toArray ++ news.toArray ++ zs).size = cap * s := by
    simp only [Array.size_append, List.size_toArray, ho, hn, hz]
    rw [← hsum, ← Nat.add_mul]; congr 1; omega
  obtain ⟨I2, _⟩ := I1.alloc hd hu (olds.toArray ++ news.toArray ++ zs) e ⟨(n + m) * s, x⟩ (by rw [hsz]; exact Nat.mul_le_mul_right _ hcap) (fun j hj => by
    have hj : j < (n + m) * s := hj
    show isCell _ = true ∧ RepA _ _ _ (x j) _
    rw [grown_getD _ _ _ _ (by rw [ho, hn]; omega), hx j hj, ho]
    by_cases h : j < n * s
    · rw [if_pos h, if_pos h]; exact ⟨(hof j h).1, hm1 _ _ (hof j h).2⟩
    · rw [if_neg h, if_neg h]; exact ⟨(hnf _ (by omega)).1, hm1 _ _ (hnf _ (by omega)).2⟩)
  exact ⟨_, I2, .inr (.inr ⟨w.heap.size, cap, upd_same _ _ _, rfl, hcap, _, e, heap_alloc_new w.drew _, by rw [hsz]; omega⟩)⟩

theorem zeroCells_size {i : TI} {z : Value} (h : z.cells.size = i.size) (n : Nat) : (Builtin.zeroCells z.cells n).size = n * i.size := by rw [size_zeroCells, h]

theorem zsize {i : TI} {z : Value} (h : z.cells.toList = i.zero) (hz : zeroOk i = true) : z.cells.size = i.size := by
  unfold zeroOk at hz
  rw [Bool.and_eq_true] at hz
  have hs : i.zero.length = i.size := Nat.eq_of_beq_eq_true hz.2
  rw [← Array.length_toList, h, hs]

set_option maxHeartbeats 1000000 in
theorem append_sound (I : Inv c σ L a w) (V : Operand → AV) (o : Oper) (hV : VOk w (σ.ok c L w) L V a.eval o.op) {args : Array Operand} {ts : Array TypeId} (ho : o.op = .call ⟨.builtin .append, args, ts⟩) {d : Nat} {fr : Bool}
    (hd : fr = true → σ.u d = false) {out : Out} (h : coreH c.T V σ.h fr d o.op = some out) (hC : CP out.C) : HSound c σ a w o out := by
  rw [ho] at h hV
  simp only [coreH] at h
  split at h
  · rename_i x y t t' ha ht
    have hx := hV x (by simp [Op.operands, Call.operands, ha])
    have hy := hV y (by simp [Op.operands, Call.operands, ha])
    have e1 : args.map a.eval = #[a.eval x, a.eval y] := map_of_toList ha _
    have hb := bif_some h
    clear h
    obtain ⟨hfr, h⟩ := hb
    rw [Bool.and_eq_true] at hfr
    obtain rfl : t = t' := Nat.eq_of_beq_eq_true hfr.2
    have hd := hd hfr.1
    have e2 : ts = #[t, t] := Array.toList_inj.mp ht
    have fin : ∀ {r : Value} {w' : World} {L' : Locs}, (Builtin.append_ #[t, t] o.type #[a.eval x, a.eval y]).run c.P w = .ok r w' → Inv c ⟨σ.t, applyH out.hw σ.h, applyU out.hw σ.u⟩ L' a w' →
        RepA w' ((⟨σ.t, applyH out.hw σ.h, applyU out.hw σ.u⟩ : St).ok c L' w') L' out.x r → HSound c σ a w o out := by
      intro r w' L' h1 h2 h3
      refine ⟨.value r, r, w', L', ?_, .inl rfl, h2, h3⟩
      simp only [execOp, ho, resolve, Sem.run_bind, Sem.run_pure, Result.andThen_ok, invoke, builtin, e1, e2, h1]
    split at h
    · rename_i e he
      have hu := sliceT_of he
      split at h
      · rename_i i hT
        have hb := bif_some h
        clear h
        obtain ⟨hz, h⟩ := hb
        rw [Bool.and_eq_true, Bool.and_eq_true] at hz
        have hs1 : 1 ≤ i.size := Nat.le_of_ble_eq_true hz.2
        have hb128 : i.bytes ≤ 128 := Nat.le_of_ble_eq_true hz.1.2
        obtain ⟨fi, z, hfi, hfs, hfb, hfz, hzl⟩ := info_of hT
        have hzs := zsize hzl hz.1.1
        split at h
        · rename_i m g k hsrc
          split at h
          · -- onto nil
            rename_i hvx
            rw [hvx] at hx
            have hX : a.eval x = .slice none 0 0 := hx
            cases h
            obtain ⟨hm, hk⟩ : m ≤ 1099511627776 ∧ kC k := hC
            obtain ⟨news, n1, n2, n3, n4, n5⟩ := srcA_rep I hs1 hsrc hy hk
            have n6 : ∀ W : World, W.heap = w.heap → (Builtin.firstCells fi.size m (a.eval y)).run c.P W = .ok news.toArray W := by
              intro W hW; rw [hfs, n5 m (Nat.le_refl _) W hW, ← n1, List.take_length]
            have hu' : ∀ j, (upd σ.u d true) j = false → σ.u j = false ∧ j ≠ d := by
              intro j hj; simp only [upd] at hj; split at hj
              · cases hj
              · rename_i hne; exact ⟨hj, hne⟩
            by_cases hm0 : m = 0
            · subst hm0
              have hr := run_append_rooms (P := c.P) (ty := o.type) (w := w) (w' := w) (base := none) (sLen := 0) (sCap := 0) hu hfi (n6 w rfl) n3 (by omega) rfl
              refine fin (by rw [hX]; exact hr) (I.allocNil hd hu' _ (by show mulS 0 i.size = 0; rw [mulS_eq]; simp)) (.inl ⟨upd_same _ _ _, rfl, none, rfl⟩)
            · have hr := run_append_grows (P := c.P) (ty := o.type) (w := w) (base := none) (sLen := 0) (sCap := 0) (olds := []) hu hfi hfz (fun W hW => by simp [Builtin.firstCells]) n6 n3 (by omega) (by omega) (by omega)
              obtain ⟨L', I', hR⟩ := append_new I (e := e) hd hu' (s := i.size) (n := 0) (m := m) (cap := grownCap w (0 + m) 0 e) (f := g) (g := g) (olds := []) (news := news) (by simp) n1
                (zeroCells_size hzs _) (grownCap_ge _ _ _ _) (fun j hj => by omega) n2 g (fun j hj => by simp)
              rw [Nat.zero_add] at I' hR hr
              refine fin (by rw [hX]; exact hr) (L' := L') ?_ ?_
              · show Inv c ⟨σ.t, upd σ.h d (some ⟨mulS m i.size, g⟩), upd σ.u d true⟩ L' a _
                rw [mulS_eq]; exact I'
              · show RepA _ ((⟨σ.t, upd σ.h d (some ⟨mulS m i.size, g⟩), upd σ.u d true⟩ : St).ok c L' _) L' _ _
                rw [mulS_eq]; exact hR
          · -- onto an object of the call's own
            rename_i i0 off n s hvx
            rw [hvx] at hx
            split at h
            · rename_i ob h0
              split at h
              · have hb := bif_some h
                clear h
                obtain ⟨hcond, h⟩ := hb
                rw [Bool.and_eq_true] at hcond
                obtain rfl : s = i.size := Nat.eq_of_beq_eq_true hcond.1
                cases h
                obtain ⟨hm, hon, hk⟩ : n + m ≤ 1099511627776 ∧ ob.n = mulS n i.size ∧ kC k := hC
                rw [mulS_eq] at hon
                obtain ⟨news, n1, n2, n3, n4, n5⟩ := srcA_rep I hs1 hsrc hy hk
                have n6 : ∀ W : World, W.heap = w.heap → (Builtin.firstCells fi.size m (a.eval y)).run c.P W = .ok news.toArray W := by
                  intro W hW; rw [hfs, n5 m (Nat.le_refl _) W hW, ← n1, List.take_length]
                have hne : i0 ≠ d := by
                  rintro rfl
                  obtain ⟨B, hB, _⟩ := I.live i0 ob h0
                  rw [I.fresh _ hd] at hB; cases hB
                have hu1 : ∀ j, (upd σ.u i0 true) j = false → σ.u j = false := by
                  intro j hj; simp only [upd] at hj; split at hj
                  · cases hj
                  · exact hj
                have hd1 : (upd σ.u i0 true) d = false := by rw [upd_ne _ _ (fun e => hne e.symm)]; exact hd
                have hu' : ∀ j, (upd (upd σ.u i0 true) d true) j = false → (upd σ.u i0 true) j = false ∧ j ≠ d := by
                  intro j hj
                  by_cases hjd : j = d
                  · subst hjd; rw [upd_same] at hj; cases hj
                  · rw [upd_ne _ _ hjd] at hj; exact ⟨hj, hjd⟩
                have hu2 : ∀ j, (upd (upd σ.u i0 true) d true) j = false → σ.u j = false ∧ j ≠ d := fun j hj => ⟨hu1 j (hu' j hj).1, (hu' j hj).2⟩
                have hxf : ∀ j, appF (mulS n i.size) ob.f g j = if j < n * i.size then ob.f j else g (j - n * i.size) := fun j => by rw [mulS_eq]; rfl
                -- the object is given up, the new one lies in a new block
                have grows : ∀ (base : Option Addr) (cap : Nat) (olds : List Value), a.eval x = .slice base n cap → cap < n + m → olds.length = n * i.size →
                    (∀ W : World, W.heap = w.heap → (Builtin.firstCells fi.size n (.slice base n cap)).run c.P W = .ok olds.toArray W) →
                    (∀ j, j < n * i.size → isCell (olds.getD j undef) = true ∧ RepA w (σ.ok c L w) L (ob.f j) (olds.getD j undef)) → HSound c σ a w o
                      ⟨.own d 0 (n + m) i.size, [(i0, none), (d, some ⟨mulS (n + m) i.size, appF (mulS n i.size) ob.f g⟩)], some (n + m ≤ 1099511627776 ∧ ob.n = mulS n i.size ∧ kC k)⟩ := by
                  intro base cap olds hX hcap ho1 ho2 ho3
                  have hr := run_append_grows (P := c.P) (ty := o.type) (w := w) hu hfi hfz ho2 n6 n3 hcap hm (by omega)
                  have I1 := I.drop i0 hu1
                  have hok1 : ∀ b, σ.ok c L w b → (⟨σ.t, upd σ.h i0 none, upd σ.u i0 true⟩ : St).ok c L w b := fun b ⟨h1, h2⟩ => ⟨h1, fun ⟨q, hq, hL⟩ => h2 ⟨q, by
                    simp only [upd] at hq; split at hq
                    · cases hq
                    · exact hq, hL⟩⟩
                  have hm1 := RepA.mono (w := w) (L := L) (fun _ _ => rfl) hok1 (fun _ _ h => h) (RowsKept.refl w L)
                  obtain ⟨L', I', hR⟩ := append_new I1 (e := e) hd1 hu' (s := i.size) (n := n) (m := m) (cap := grownCap w (n + m) cap e) (f := ob.f) (g := g) (olds := olds) (news := news) ho1 n1
                    (zeroCells_size hzs _) (grownCap_ge _ _ _ _) (fun j hj => ⟨(ho3 j hj).1, hm1 _ _ (ho3 j hj).2⟩) (fun j hj => ⟨(n2 j hj).1, hm1 _ _ (n2 j hj).2⟩) _ (fun j _ => hxf j)
                  refine fin (by rw [hX]; exact hr) (L' := L') ?_ ?_
                  · show Inv c ⟨σ.t, upd (upd σ.h i0 none) d (some ⟨mulS (n + m) i.size, _⟩), upd (upd σ.u i0 true) d true⟩ L' a _
                    rw [mulS_eq (n + m)]; exact I'
                  · show RepA _ ((⟨σ.t, upd (upd σ.h i0 none) d (some ⟨mulS (n + m) i.size, _⟩), upd (upd σ.u i0 true) d true⟩ : St).ok c L' _) L' _ _
                    rw [mulS_eq (n + m)]; exact hR
                rcases hx with ⟨hL, hn, hX⟩ | ⟨B, o', hL, hn, hX⟩ | ⟨B, cap, hL, hX, hcap, cs, e', hh, hsz⟩
                · subst hn
                  obtain ⟨A, hX⟩ := hX
                  by_cases hm0 : m = 0
                  · subst hm0
                    have hnil : news = [] := List.eq_nil_of_length_eq_zero (by simpa using n1)
                    subst hnil
                    have hr := run_append_rooms (P := c.P) (ty := o.type) (w := w) (w' := w) (base := A) (sLen := 0) (sCap := 0) hu hfi (n6 w rfl) n3 (by omega) (by cases A <;> rfl)
                    have I1 := I.drop i0 hu1
                    refine fin (by rw [hX]; exact hr) (I1.allocNil hd1 hu' _ (by show mulS (0 + 0) i.size = 0; rw [mulS_eq]; simp)) (.inl ⟨upd_same _ _ _, rfl, A, rfl⟩)
                  · exact grows A 0 [] hX (by omega) (by simp) (fun W hW => by cases A <;> simp [Builtin.firstCells, loadCells, loadCellsFrom]) (fun j hj => by omega)
                · subst hn
                  by_cases hm0 : m = 0
                  · subst hm0
                    have hnil : news = [] := List.eq_nil_of_length_eq_zero (by simpa using n1)
                    subst hnil
                    have hr := run_append_rooms (P := c.P) (ty := o.type) (w := w) (w' := w) (base := some ⟨B, o', none⟩) (sLen := 0) (sCap := 0) hu hfi (n6 w rfl) n3 (by omega) rfl
                    have I1 := I.move h0 hd hu2
                    have I2 := I1.same (i0 := d) (o := ob) (o' := ⟨mulS (0 + 0) i.size, appF (mulS 0 i.size) ob.f g⟩) (upd_same _ _ _) (by rw [hon, mulS_eq]) (fun j hj => by rw [hon] at hj; omega) (u' := upd (upd σ.u i0 true) d true) (fun _ h => h)
                    rw [upd_upd] at I2
                    exact fin (by rw [hX]; exact hr) I2 (.inr (.inl ⟨B, o', by rw [upd_same]; exact hL, rfl, rfl⟩))
                  · exact grows _ 0 [] hX (by omega) (by simp) (fun W hW => by simp [Builtin.firstCells, loadCells, loadCellsFrom]) (fun j hj => by omega)
                · rw [Nat.zero_add] at hsz
                  rcases I.objCells h0 with ⟨hn, _⟩ | ⟨B', cs', e'', hB', hh', hn', hc⟩
                  · rw [hL] at hn; cases hn
                  rw [hL] at hB'
                  cases hB'
                  rw [hh] at hh'
                  cases hh'
                  by_cases hroom : n + m ≤ cap
                  · have hle : (n + m) * i.size ≤ cs.size := Nat.le_trans (Nat.mul_le_mul_right _ hroom) hsz
                    rw [Nat.add_mul] at hle
                    have hst := run_storeCells_at c.P B (n * i.size) e' news 0 cs w hh (by omega) (fun u hu => by
                      obtain ⟨j, hj, hje⟩ := List.mem_iff_getElem.mp hu
                      have := (n2 j (by omega)).1
                      rw [List.getD_eq_getElem?_getD, List.getElem?_eq_getElem hj] at this
                      rw [← hje]; exact this)
                    rw [Nat.add_zero] at hst
                    have hr := run_append_rooms (P := c.P) (ty := o.type) (w := w) (base := some ⟨B, 0, none⟩) (sLen := n) (sCap := cap) hu hfi (n6 w rfl) n3 hroom (by
                      simp only [add_lit, Nat.zero_add, hfs]; exact hst)
                    have I1 := I.move h0 hd hu2
                    have hok1 : ∀ b, σ.ok c L w b → (⟨σ.t, upd (upd σ.h i0 none) d (some ob), upd (upd σ.u i0 true) d true⟩ : St).ok c (upd L d (L i0)) w b := by
                      intro b hb
                      refine ⟨hb.1, fun ⟨q, hq, hLq⟩ => ?_⟩
                      by_cases hqd : q = d
                      · subst hqd
                        simp only [upd_same] at hLq
                        exact hb.2 ⟨i0, by rw [h0]; rfl, hLq⟩
                      · simp only [upd_ne _ _ hqd] at hq hLq
                        refine hb.2 ⟨q, ?_, hLq⟩
                        simp only [upd] at hq; split at hq
                        · cases hq
                        · exact hq
                    have hm1 := RepA.mono (w := w) (L := L) (L' := upd L d (L i0)) (fun _ _ => rfl) hok1 (fun q B hq => by
                      rw [upd_ne _ _ (fun e => by subst e; rw [I.fresh _ hd] at hq; cases hq)]; exact hq) (RowsKept.refl w L)
                    have hspl := splice_size cs (n * i.size) news (by omega)
                    obtain ⟨I2, _⟩ := I1.write (i0 := d) (o := ob) (o' := ⟨mulS (n + m) i.size, appF (mulS n i.size) ob.f g⟩) (upd_same _ _ _) (by rw [upd_same]; exact hL) hh hspl (by
                      show mulS (n + m) i.size ≤ _
                      rw [hspl, mulS_eq, Nat.add_mul]; omega) (fun j hj => by
                      have hj : j < n * i.size + m * i.size := by have : j < mulS (n + m) i.size := hj; rwa [mulS_eq, Nat.add_mul] at this
                      show isCell _ = true ∧ RepA w _ _ (appF (mulS n i.size) ob.f g j) _
                      rw [splice_getD cs _ _ (by omega), hxf, n1]
                      by_cases hjn : j < n * i.size
                      · rw [if_pos hjn, if_neg (by omega)]; exact ⟨(hc j (by omega)).1, hm1 _ _ (hc j (by omega)).2⟩
                      · rw [if_neg hjn, if_pos (by omega)]; exact ⟨(n2 _ (by omega)).1, hm1 _ _ (n2 _ (by omega)).2⟩) (u' := upd (upd σ.u i0 true) d true) (fun _ h => h)
                    rw [upd_upd] at I2
                    exact fin (by rw [hX]; exact hr) I2 (.inr (.inr ⟨B, cap, by rw [upd_same]; exact hL, rfl, hroom, _, e', setRow_heap w B cs _ e' _ hh, by rw [hspl, Nat.zero_add]; exact hsz⟩))
                  · have hso : SrcOk c σ L w i.size n ob.f (a.eval x) := srcOk_of _ cap hX (.inr ⟨B, 0, rfl, fun j hj => by
                      have hlt : j < cs.size := by omega
                      refine ⟨cs.getD j undef, ?_, hc j (by omega)⟩
                      simp [World.cell?, hh, Array.getD_eq_getD_getElem?, hlt]⟩)
                    obtain ⟨olds, o1, o2, o3, o4, o5⟩ := hso
                    refine grows _ cap olds hX (by omega) o1 (fun W hW => ?_) o2
                    rw [hfs, ← hX, o5 n (Nat.le_refl _) W hW, ← o1, List.take_length]
              · cases h
            · cases h
          · cases h
        · cases h
      · cases h
    · cases h
  · cases h

end Vinc
