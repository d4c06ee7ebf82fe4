/- coreV in the model: the theorem. -/
import Derived.Test.YtmpfgaebmdbdeaaGreatDoorVincW
set_option linter.unusedSimpArgs false
set_option linter.unusedVariables false
namespace Vinc
open Go Go.RowKit

variable {w : World}

/-! ### a struct or an array that is built -/

theorem foldl_fill (off : Nat) : ∀ (l : List Value) (s : Nat) (cs : Array Value) (j : Nat), off + s + l.length ≤ cs.size →
    ((l.zipIdx s).foldl (fun (cs : Array Value) (x : Value × Nat) => cs.setIfInBounds (off + x.2) x.1) cs).size = cs.size ∧
    ((l.zipIdx s).foldl (fun (cs : Array Value) (x : Value × Nat) => cs.setIfInBounds (off + x.2) x.1) cs).getD j undef =
      if off + s ≤ j ∧ j < off + s + l.length then l.getD (j - (off + s)) undef else cs.getD j undef
  | [], s, cs, j, _ => by
    simp only [List.zipIdx_nil, List.foldl_nil, List.length_nil, Nat.add_zero, true_and]
    rw [if_neg (by omega)]
  | v :: l, s, cs, j, h => by
    have hl : off + (s + 1) + l.length ≤ (cs.setIfInBounds (off + s) v).size := by simp at h ⊢; omega
    obtain ⟨h1, h2⟩ := foldl_fill off l (s + 1) (cs.setIfInBounds (off + s) v) j hl
    simp only [List.zipIdx_cons, List.foldl_cons]
    refine ⟨by rw [h1]; simp, ?_⟩
    rw [h2]
    have hs : off + s < cs.size := by simp at h; omega
    by_cases hj : off + (s + 1) ≤ j ∧ j < off + (s + 1) + l.length
    · rw [if_pos hj, if_pos (by simp; omega)]
      rw [show j - (off + s) = (j - (off + (s + 1))) + 1 by omega]
      rfl
    · rw [if_neg hj]
      by_cases hj2 : j = off + s
      · subst hj2
        rw [if_pos (by simp), Array.getD_eq_getD_getElem?]
        simp [hs]
      · rw [if_neg (by simp; omega), Array.getD_eq_getD_getElem?, Array.getD_eq_getD_getElem?, Array.getElem?_setIfInBounds]
        rw [if_neg (fun e => hj2 e.symm)]

theorem cells_one {v : Value} (h : isCell v = true) : v.cells = #[v] := by cases v <;> first | rfl | simp [Value.oneCell'] at h

theorem cellish_cell {ok : Nat → Prop} {L : Locs} {x : AV} {v : Value} (h : cellish x = true) (hr : RepA w ok L x v) : isCell v = true := by
  unfold cellish at h
  split at h
  · obtain rfl : v = _ := hr; exact h
  · obtain ⟨A, cap, rfl, _⟩ := hr; rfl
  · obtain ⟨b, o, rfl, _⟩ := hr; rfl
  · rcases hr with ⟨_, _, A, rfl⟩ | ⟨_, _, _, _, rfl⟩ | ⟨B, cap, _, rfl, _⟩ <;> rfl
  · obtain ⟨B, _, rfl⟩ := hr; rfl
  · cases h

theorem placeOf_of {c : Pr} {t k o : Nat} {i j : TI} (hT : c.T t = some i) (h : placeOf c.T i k = some (o, j)) :
    (∃ gs fd, c.P.underlying t = some (.struct gs) ∧ gs[k]? = some fd ∧ fd.offset = o ∧ c.T fd.type = some j) ∨
    (∃ n e, c.P.underlying t = some (.array n e) ∧ c.T e = some j ∧ o = k * j.size) := by
  have ht := tyOf hT
  unfold placeOf at h
  split at h
  · rename_i fs hty
    rw [hty] at ht
    obtain ⟨gs, hg, hm⟩ := ht
    split at h
    · rename_i o' ft hk
      split at h
      · rename_i i' hi
        cases h
        rw [← hm, List.getElem?_map] at hk
        cases hgk : gs.toList[k]? with
        | none => rw [hgk] at hk; simp at hk
        | some fd =>
          rw [hgk] at hk
          simp only [Option.map_some, Option.some.injEq, Prod.mk.injEq] at hk
          rw [Array.getElem?_toList] at hgk
          obtain ⟨rfl, rfl⟩ := hk
          exact .inl ⟨gs, fd, hg, hgk, rfl, hi⟩
      · cases h
    · cases h
  · rename_i n e hty
    rw [hty] at ht
    split at h
    · rename_i j' hj
      cases h
      exact .inr ⟨n, e, ht, hj, mulS_eq _ _⟩
    · cases h
  · cases h

/-- A row of cells of a value that is being built. -/
def CellsAre (w : World) (ok : Nat → Prop) (n : Nat) (f : Nat → PV) (cs : Array Value) : Prop :=
  cs.size = n ∧ ∀ j, j < n → isCell (cs.getD j undef) = true ∧ Rep w ok (f j) (cs.getD j undef)

theorem buildA_fill {c : Pr} {V : Operand → AV} {ρ : Operand → Value} {t : Nat} {i : TI} (hT : c.T t = some i) {ok : Nat → Prop} {L : Locs} (place : Nat → Option (Nat × Nat))
    (hplace : ∀ k o j, placeOf c.T i k = some (o, j) → place k = some (o, j.size)) :
    ∀ (ps : List (Nat × Operand)) (f : Nat → PV) (g : Nat → PV) (cs : Array Value), (∀ p ∈ ps, RepA w ok L (V p.2) (ρ p.2)) → buildA c.T V i ps f = some g → CellsAre w ok i.size f cs →
    ∃ cs', Instr.fill place cs (ps.map fun p => (p.1, ρ p.2)) = some cs' ∧ CellsAre w ok i.size g cs'
  | [], f, g, cs, _, h, hc => by cases h; exact ⟨cs, rfl, hc⟩
  | (k, y) :: ps, f, g, cs, hV, h, hc => by
    unfold buildA at h
    split at h
    · rename_i o j hpl
      obtain ⟨hle, h⟩ := bif_some h
      have hle : o + j.size ≤ i.size := Nat.le_of_ble_eq_true hle
      split at h
      · rename_i x hx
        have hr := hV (k, y) (by simp)
        simp only [hx] at hr
        have step : ∀ (cells : Array Value) (gg : Nat → PV), (ρ y).cells = cells → cells.size = j.size → (∀ q, q < j.size → isCell (cells.getD q undef) = true ∧ Rep w ok (gg q) (cells.getD q undef)) →
            ∀ f', (∀ q, q < i.size → f' q = if o ≤ q ∧ q < o + j.size then gg (q - o) else f q) → buildA c.T V i ps f' = some g →
            ∃ cs', Instr.fill place cs (((k, y) :: ps).map fun p => (p.1, ρ p.2)) = some cs' ∧ CellsAre w ok i.size g cs' := by
          intro cells gg hcells hsz hgg f' hf' hb
          have hfl := fun q => foldl_fill o cells.toList 0 cs q (by rw [Array.length_toList, hsz, hc.1]; omega)
          have hc' : CellsAre w ok i.size f' ((cells.toList.zipIdx 0).foldl (fun (cs : Array Value) (x : Value × Nat) => cs.setIfInBounds (o + x.2) x.1) cs) := by
            refine ⟨(hfl 0).1.trans hc.1, fun q hq => ?_⟩
            rw [(hfl q).2, hf' q hq]
            simp only [Nat.add_zero, Array.length_toList, hsz]
            by_cases hq2 : o ≤ q ∧ q < o + j.size
            · rw [if_pos hq2, if_pos hq2]
              have := hgg (q - o) (by omega)
              rwa [show cells.toList.getD (q - o) undef = cells.getD (q - o) undef by simp [List.getD_eq_getElem?_getD, Array.getD_eq_getD_getElem?]]
            · rw [if_neg hq2, if_neg hq2]; exact hc.2 q hq
          obtain ⟨cs', h1, h2⟩ := buildA_fill hT place hplace ps f' g _ (fun p hp => hV p (by simp [hp])) hb hc'
          refine ⟨cs', ?_, h2⟩
          simp only [List.map_cons, Instr.fill, hplace k o j hpl, hcells, hsz, hc.1]
          have e1 : (j.size != j.size || decide (o + j.size > i.size)) = false := by simp; omega
          have e2 : ¬ ((j.size ≠ j.size) || decide (o + j.size > i.size)) = true := by simp; omega
          rw [if_neg e2]
          rw [← h1]
          congr 1
          rw [← Array.foldl_toList, Array.toList_zipIdx]
        rcases bif_some2 h with ⟨ha, h⟩ | ⟨ha, h⟩
        · split at h
          · rename_i n gg hag
            obtain ⟨hn, h⟩ := bif_some h
            have hn : n = j.size := Nat.eq_of_beq_eq_true hn
            obtain ⟨cells, hv, hsz, hcc⟩ := asAgg_rep hag hr
            refine step cells gg (by rw [hv]; rfl) (hsz.trans hn) (by rw [← hn]; exact hcc) _ (fun q _ => ?_) h
            by_cases h1 : o ≤ q
            · by_cases h2 : q < o + j.size
              · rw [if_pos h1, if_pos h2, if_pos ⟨h1, h2⟩]
              · rw [if_pos h1, if_neg h2, if_neg (fun e => h2 e.2)]
            · rw [if_neg h1, if_neg (fun e => h1 e.1)]
          · cases h
        · obtain ⟨hce, h⟩ := bif_some h
          rw [Bool.and_eq_true] at hce
          have hs1 : j.size = 1 := Nat.eq_of_beq_eq_true hce.1
          have hcell := cellish_cell (L := L) hce.2 hr
          refine step #[ρ y] (fun _ => x) (cells_one hcell) (by simp [hs1]) (fun q hq => ?_) _ (fun q _ => ?_) h
          · have : q = 0 := by omega
            subst this
            exact ⟨hcell, hr⟩
          · simp only [upd, hs1]
            by_cases h1 : q = o
            · subst h1; rw [if_pos rfl, if_pos (by omega)]
            · rw [if_neg h1, if_neg (by omega)]
      · cases h
    · cases h

/-! ### all of them -/

def VOk (w : World) (ok : Nat → Prop) (L : Locs) (V : Operand → AV) (ρ : Operand → Value) (op : Op) : Prop :=
  ∀ y, y ∈ op.operands.toList → RepA w ok L (V y) (ρ y)

theorem run_indexAt_slice {P : Program} {t e : Nat} (hu : P.underlying t = some (.slice e)) {s : Nat} (hs : (Go.sizeOf e).run P w = .ok s w) {k : IntKind} {z : Int} (a : Addr) (n cap : Nat) (h : 0 ≤ z ∧ z < n) :
    (Instr.indexAt t (.slice (some a) n cap) (.int k z)).run P w = .ok (.pointer (some (a.add (z.toNat * s)))) w := by
  simp [Instr.indexAt, asIntOf, run_underlying hu, h, hs]

theorem run_indexAt_array {P : Program} {t e n : Nat} (hu : P.underlying t = some (.array n e)) {s : Nat} (hs : (Go.sizeOf e).run P w = .ok s w) {k : IntKind} {z : Int} (a : Addr) (h : 0 ≤ z ∧ z < n) :
    (Instr.indexAt t (.pointer (some a)) (.int k z)).run P w = .ok (.pointer (some (a.add (z.toNat * s)))) w := by
  simp [Instr.indexAt, asIntOf, run_underlying hu, h, hs, Instr.sureAddr]

theorem lenV_run {c : Pr} {ok : Nat → Prop} {L : Locs} {t : Nat} {x : AV} {n : Nat} {v : Value} (h : lenV (c.T t) x = some n) (hr : RepA w ok L x v) (ty : TypeId) :
    (Builtin.len_ #[t] ty #[v]).run c.P w = .ok (.int .i64 n) w := by
  unfold lenV at h
  split at h
  · rename_i e he
    have hu := sliceT_of he
    have key : ∀ A cap, (Builtin.len_ #[t] ty #[.slice A n cap]).run c.P w = .ok (.int .i64 n) w := by
      intro A cap
      simp [Builtin.len_, run_underlying hu, goInt]
    split at h
    · cases h; obtain ⟨A, cap, rfl, _⟩ := hr; exact key A cap
    · cases h
      rcases hr with ⟨_, hn, A, rfl⟩ | ⟨_, _, _, hn, rfl⟩ | ⟨B, cap, _, rfl, _⟩
      · subst hn; exact key _ _
      · subst hn; exact key _ _
      · exact key _ _
    · cases h; obtain rfl : v = _ := hr; exact key _ _
    · cases h
  · split at h
    · obtain ⟨hs, h⟩ := bif_some h
      have hu := isStrT_of hs
      cases h
      obtain rfl : v = _ := hr
      simp [Builtin.len_, run_underlying hu, goInt]
    · cases h

theorem map_of_toList {α β : Type} {a : Array α} {l : List α} (h : a.toList = l) (f : α → β) : a.map f = (l.map f).toArray := by
  subst h; apply Array.toList_inj.mp; simp

theorem run_mapM {P : Program} {α β : Type} (f : α → Sem β) (g : α → β) : ∀ (l : List α), (∀ x ∈ l, (f x).run P w = .ok (g x) w) → (List.mapM f l).run P w = .ok (l.map g) w
  | [], _ => rfl
  | x :: l, h => by
    rw [List.mapM_cons]
    simp only [Sem.run_bind, h x (by simp), Result.andThen_ok, run_mapM f g l (fun y hy => h y (by simp [hy])), Sem.run_pure, List.map_cons]

theorem run_mapM_array {P : Program} {α β : Type} (f : α → Sem β) (g : α → β) (a : Array α) (h : ∀ x ∈ a.toList, (f x).run P w = .ok (g x) w) : (a.mapM f).run P w = .ok (a.map g) w := by
  rw [Array.mapM_eq_mapM_toList, Sem.run_map, run_mapM f g a.toList h]
  exact congrArg (fun x => Result.ok x w) (map_of_toList rfl g).symm

theorem zero_of {c : Pr} {t : Nat} {i : TI} (hT : c.T t = some i) (hz : zeroOk i = true) :
    ∃ z, (zeroValue t).run c.P w = .ok z w ∧ z.cells.toList = i.zero ∧ z.cells.size = i.size ∧ ∀ j, j < i.size → isCell (z.cells.getD j undef) = true ∧ z.cells.getD j undef = i.zero.getD j undef := by
  obtain ⟨f, z, hf, _, _, hz', hc⟩ := info_of hT
  unfold zeroOk at hz
  rw [Bool.and_eq_true] at hz
  have hs : i.zero.length = i.size := Nat.eq_of_beq_eq_true hz.2
  have hg : ∀ j, z.cells.getD j undef = i.zero.getD j undef := by
    intro j
    rw [← hc, Array.getD_eq_getD_getElem?, List.getD_eq_getElem?_getD, Array.getElem?_toList]
  refine ⟨z, by simp [zeroValue, typeInfo, hf, hz'], hc, by rw [← Array.length_toList, hc, hs], fun j hj => ⟨?_, hg j⟩⟩
  rw [hg]
  have hj' : j < i.zero.length := by omega
  rw [List.getD_eq_getElem?_getD, List.getElem?_eq_getElem hj']
  exact List.all_eq_true.mp hz.1 _ (List.getElem_mem hj')

theorem build_run {c : Pr} {V : Operand → AV} {ρ : Operand → Value} {t : Nat} {i : TI} (hT : c.T t = some i) (hok : (isAggT i && fieldsOk c.T i && zeroOk i) = true) {ok : Nat → Prop} {L : Locs}
    (ps : Array (Nat × Operand)) (g : Nat → PV) (hV : ∀ p ∈ ps.toList, RepA w ok L (V p.2) (ρ p.2)) (h : buildA c.T V i ps.toList (fun j => .val (i.zero.getD j undef)) = some g) :
    ∃ v, (Instr.build t (ps.map fun (i, x) => (i, ρ x))).run c.P w = .ok v w ∧ Rep w ok (.agg i.size g) v := by
  rw [Bool.and_eq_true, Bool.and_eq_true] at hok
  obtain ⟨⟨ha, hfo⟩, hz⟩ := hok
  obtain ⟨z, hzr, _, hzs, hzc⟩ := zero_of (w := w) hT hz
  have hcells : CellsAre w ok i.size (fun j => .val (i.zero.getD j undef)) z.cells := ⟨hzs, fun j hj => ⟨(hzc j hj).1, (hzc j hj).2⟩⟩
  have hmap : (ps.map fun (i, x) => (i, ρ x)).toList = ps.toList.map fun p => (p.1, ρ p.2) := by rw [Array.toList_map]
  have ht := tyOf hT
  unfold isAggT at ha
  split at ha
  · rename_i fs hty
    rw [hty] at ht
    obtain ⟨gs, hu, hm⟩ := ht
    have hfs : ∀ fd ∈ gs.toList, ∃ j, c.T fd.type = some j := by
      intro fd hfd
      unfold fieldsOk at hfo
      rw [hty] at hfo
      have := List.all_eq_true.mp hfo (fd.offset, fd.type) (by rw [← hm]; exact List.mem_map_of_mem hfd)
      exact Option.isSome_iff_exists.mp this
    have hpl := run_mapM_array (P := c.P) (w := w) (fun (f : Field) => (do pure (f.offset, ← Go.sizeOf f.type) : Sem (Nat × Nat))) (fun f => (f.offset, ((c.T f.type).map (·.size)).getD 0)) gs (by
      intro fd hfd
      obtain ⟨j, hj⟩ := hfs fd hfd
      simp [run_sizeOf' hj, hj])
    obtain ⟨cs, h1, h2⟩ := buildA_fill (w := w) hT ((gs.map fun f => (f.offset, ((c.T f.type).map (·.size)).getD 0))[·]?) (fun k o j hpk => by
      rcases placeOf_of hT hpk with ⟨gs', fd, hu', hk, ho, hj⟩ | ⟨n, e, hu', _⟩
      · rw [hu] at hu'
        cases hu'
        simp [hk, hj, ho]
      · rw [hu] at hu'; cases hu') ps.toList _ g z.cells hV h hcells
    refine ⟨.agg cs, ?_, cs, rfl, h2.1, h2.2⟩
    rw [← hmap] at h1
    simp only [Instr.build, Sem.run_bind, hzr, Result.andThen_ok, run_underlying hu, hpl, h1, Sem.run_pure]
  · rename_i n e hty
    rw [hty] at ht
    have hu : c.P.underlying t = some (.array n e) := ht
    unfold fieldsOk at hfo
    rw [hty] at hfo
    obtain ⟨j, hj⟩ := Option.isSome_iff_exists.mp hfo
    obtain ⟨cs, h1, h2⟩ := buildA_fill (w := w) hT (fun q => some (q * j.size, j.size)) (fun k o j' hpk => by
      rcases placeOf_of hT hpk with ⟨gs', fd, hu', hk, ho, hj'⟩ | ⟨n', e', hu', hj', ho⟩
      · rw [hu] at hu'; cases hu'
      · rw [hu] at hu'
        cases hu'
        rw [hj] at hj'
        cases hj'
        rw [ho]) ps.toList _ g z.cells hV h hcells
    refine ⟨.agg cs, ?_, cs, rfl, h2.1, h2.2⟩
    rw [← hmap] at h1
    simp only [Instr.build, Sem.run_bind, hzr, Result.andThen_ok, run_underlying hu, run_sizeOf' hj, h1, Sem.run_pure]
  · cases ha

theorem minmax_run {b : Bool} {x y : AV} {v X Y : Value} {ok : Nat → Prop} {L : Locs} (h : minmax b x y = some v) (hx : RepA w ok L x X) (hy : RepA w ok L y Y) (P : Program) (ts : Array TypeId) (t : TypeId) :
    ((if b then Builtin.max_ else Builtin.min_) ts t #[X, Y]).run P w = .ok v w := by
  unfold minmax at h
  split at h
  · rename_i k a k' b'
    obtain ⟨hk, h⟩ := bif_some h
    cases h
    obtain rfl : X = _ := hx
    obtain rfl : Y = _ := hy
    cases b
    · simp [Builtin.min_, Builtin.min2]
    · simp [Builtin.max_, Builtin.max2]
  · cases h

set_option maxHeartbeats 1000000 in
theorem coreV_sound {c : Cx} {σ : St} {L : Locs} {a : Act} (I : Inv c σ L a w) (V : Operand → AV) (o : Oper) (hV : VOk w (σ.ok c L w) L V a.eval o.op)
    {x : AV} {C : Option Prop} (h : coreV c.T V σ.h o.op = some (x, C)) (hC : CP C) :
    ∃ v, (execOp a.eval o).run c.P w = .ok (.value v) w ∧ RepA w (σ.ok c L w) L x v := by
  obtain ⟨dst, op, ty, pos, aft, gd⟩ := o
  cases op
  case move y =>
    cases h
    exact ⟨_, rfl, hV y (by simp [Op.operands])⟩
  case assign y =>
    cases h
    exact ⟨_, rfl, hV y (by simp [Op.operands])⟩
  case pick cc y z =>
    simp only [coreV, addO_eq] at h
    split at h
    · rename_i b hb
      have hcc := hV cc (by simp [Op.operands])
      rw [hb] at hcc
      have hcc : a.eval cc = .bool b := hcc
      split at h
      · rename_i v1 v2 h1 h2
        cases h
        obtain ⟨g1, g2⟩ := hC
        refine ⟨.bool (bif b then v1 else v2), ?_, rfl⟩
        cases b
        · have := boolOf_rep h2 (g2 rfl) (hV z (by simp [Op.operands]))
          simp [execOp, hcc, asBool, this]
        · have := boolOf_rep h1 (g1 rfl) (hV y (by simp [Op.operands]))
          simp [execOp, hcc, asBool, this]
      · cases h
    · rename_i g b hb
      have hcc := hV cc (by simp [Op.operands])
      rw [hb] at hcc
      split at h
      · rename_i v1 v2 h1 h2
        cases h
        obtain ⟨g0, g1, g2⟩ := hC
        have hcc : a.eval cc = .bool b := hcc.1 g0
        refine ⟨.bool (bif b then v1 else v2), ?_, rfl⟩
        cases b
        · have := boolOf_rep h2 (g2 rfl) (hV z (by simp [Op.operands]))
          simp [execOp, hcc, asBool, this]
        · have := boolOf_rep h1 (g1 rfl) (hV y (by simp [Op.operands]))
          simp [execOp, hcc, asBool, this]
      · cases h
    · cases h
  case binOp op t y z t' =>
    simp only [coreV, addO_eq] at h
    split at h
    · rename_i v C' hb
      cases h
      obtain ⟨h1, h2⟩ := bin_run hb hC (hV y (by simp [Op.operands])) (hV z (by simp [Op.operands])) y z
      exact ⟨v, by simp [execOp, h1, h2], rfl⟩
    · cases h
  case unOp op t y =>
    simp only [coreV, addO_eq] at h
    have hy := hV y (by simp [Op.operands])
    split at h
    · rename_i k n hx
      cases h
      rw [hx] at hy
      have hy : a.eval y = _ := hy
      exact ⟨_, by simp [execOp, hy, Op.unary, Op.intArith], rfl⟩
    · rename_i b hx
      cases h
      rw [hx] at hy
      have hy : a.eval y = _ := hy
      exact ⟨_, by simp [execOp, hy, Op.unary], rfl⟩
    · cases h
  case convert s d y =>
    simp only [coreV, addO_eq] at h
    have hy := hV y (by simp [Op.operands])
    split at h
    · rename_i i k sz by_ z k' n hS hT hx
      cases h
      rw [hx] at hy
      have hy : a.eval y = _ := hy
      have hd : c.P.underlying d = some (.int k) := tyOf hT
      have hs : ∃ ds, c.P.underlying s = some ds := by
        have := tyOf hS
        cases hty : i.ty <;> rw [hty] at this <;> simp only [TyOk] at this
        case struct fs => obtain ⟨_, h, _⟩ := this; exact ⟨_, h⟩
        case func => obtain ⟨_, _, _, h⟩ := this; exact ⟨_, h⟩
        all_goals exact ⟨_, this⟩
      obtain ⟨ds, hs⟩ := hs
      refine ⟨_, ?_, rfl⟩
      have : (convert s d (a.eval y)).run c.P w = .ok (.int k (k.wrap n)) w := by
        rw [hy]
        unfold convert
        simp only [Sem.run_bind, run_underlying hs, run_underlying hd, Result.andThen_ok]
        cases ds <;> rfl
      simp only [execOp, Sem.run_bind, this, Result.andThen_ok, Sem.run_pure]
    · cases h
  case nilCheck y =>
    simp only [coreV, addO_eq] at h
    have hy := hV y (by simp [Op.operands])
    split at h
    · rename_i n f off hx
      cases h
      rw [hx] at hy
      obtain ⟨b, o, he, hr⟩ := id hy
      exact ⟨a.eval y, by simp [execOp, he], hy⟩
    · rename_i i' off hx
      cases h
      rw [hx] at hy
      obtain ⟨B, _, he⟩ := id hy
      exact ⟨a.eval y, by simp [execOp, he], hy⟩
    · cases h
  case fieldAddr s y k =>
    simp only [coreV, addO_eq] at h
    have hy := hV y (by simp [Op.operands])
    split at h
    · rename_i o i hf
      obtain ⟨gs, fd, hu, hk, rfl, hi, hz⟩ := fieldT_of hf
      split at h
      · rename_i n f off hx
        cases h
        rw [hx] at hy
        obtain ⟨b, o, he, hb, hr⟩ := hy
        refine ⟨.pointer (some ⟨b, o + (off + fd.offset), none⟩), ?_, b, o, rfl, hb, hr⟩
        simp [execOp, he, Instr.fieldAt, run_underlying hu, hk, Instr.sureAddr, run_fieldPlace hi hz, Nat.add_assoc]
      · rename_i id off hx
        cases h
        rw [hx] at hy
        obtain ⟨B, hB, he⟩ := hy
        refine ⟨.pointer (some ⟨B, off + fd.offset, none⟩), ?_, B, hB, rfl⟩
        simp [execOp, he, Instr.fieldAt, run_underlying hu, hk, Instr.sureAddr, run_fieldPlace hi hz]
      · cases h
    · cases h
  case field s y k =>
    simp only [coreV, addO_eq] at h
    have hy := hV y (by simp [Op.operands])
    split at h
    · rename_i o i z hf hx
      obtain ⟨gs, fd, hu, hk, rfl, hi, hz⟩ := fieldT_of hf
      rw [hx] at hy
      split at h
      · rename_i n f hag
        cases h
        obtain ⟨cs, he, hn, hc⟩ := asAgg_rep hag hy
        obtain ⟨v, h1, h2⟩ := part_part hi rfl hC cs hn hc
        exact ⟨v, by simp [execOp, he, Instr.field, run_underlying hu, hk, asAgg, h1, Go.asAgg], h2⟩
      · cases h
    · cases h
  case load t y =>
    simp only [coreV, addO_eq] at h
    have hy := hV y (by simp [Op.operands])
    split at h
    · rename_i i hT
      split at h
      · rename_i n f off hx
        cases h
        rw [hx] at hy
        obtain ⟨b, o, he, hb, hr⟩ := hy
        obtain ⟨v, h1, h2⟩ := part_load (w := w) hT rfl hC b o hr
        exact ⟨v, by simp [execOp, he, Instr.loadAt, Instr.sureAddr, h1], h2⟩
      · rename_i id off hx
        split at h
        · rename_i o ho
          cases h
          rw [hx] at hy
          obtain ⟨B, hB, he⟩ := hy
          obtain ⟨B', hB', hat⟩ := I.live id o ho
          rw [hB] at hB'
          obtain rfl := Option.some.inj hB'
          obtain ⟨cs, e, hh, hn, hc⟩ := hat
          obtain ⟨v, h1, h2⟩ := partO_load (w := w) (o := o) hT rfl hC B (ok := σ.ok c L w) (L := L) (fun j hj => by
            have hjs : j < cs.size := by omega
            refine ⟨cs.getD j undef, ?_, hc j hj⟩
            simp [World.cell?, hh, Array.getD_eq_getD_getElem?, hjs])
          exact ⟨v, by simp [execOp, he, Instr.loadAt, Instr.sureAddr, h1], h2⟩
        · cases h
      · cases h
    · cases h
  case indexAddr t y ix =>
    simp only [coreV, addO_eq] at h
    have hy := hV y (by simp [Op.operands])
    have hix := hV ix (by simp [Op.operands])
    split at h
    · rename_i k z hz
      rw [hz] at hix
      have hix : a.eval ix = _ := hix
      split at h
      · rename_i e he
        have hu := sliceT_of he
        split at h
        · rename_i i hi
          split at h
          · rename_i n s f hx
            obtain ⟨hs, h⟩ := bif_some h
            cases h
            rw [Bool.and_eq_true] at hs
            obtain rfl : s = i.size := Nat.eq_of_beq_eq_true hs.1
            have h1 : 1 ≤ i.size := Nat.le_of_ble_eq_true hs.2
            rw [hx] at hy
            obtain ⟨A, cap, hv, hcap, hr⟩ := hy
            have hC : 0 ≤ z ∧ z < n := hC
            rcases hr with hr | ⟨b, o, rfl, hb, hr⟩
            · have : n = 0 := by rcases Nat.mul_eq_zero.mp hr with h | h <;> omega
              omega
            · refine ⟨.pointer (some ⟨b, o + z.toNat * i.size, none⟩), ?_, b, o, by rw [mulS_eq], hb, by rw [mulS_eq]; exact hr⟩
              simp only [execOp, hv, hix, Sem.run_bind, run_indexAt_slice hu (run_sizeOf' hi w) _ _ _ hC, Result.andThen_ok, Sem.run_pure, add_lit]
          · rename_i id off n s hx
            cases h
            rw [hx] at hy
            have hC : 0 ≤ z ∧ z < n := hC
            rcases hy with ⟨_, hn, _⟩ | ⟨_, _, _, hn, _⟩ | ⟨B, cap, hB, hv, hcap, _⟩
            · omega
            · omega
            · refine ⟨.pointer (some ⟨B, off + z.toNat * i.size, none⟩), ?_, B, hB, by rw [mulS_eq]⟩
              simp only [execOp, hv, hix, Sem.run_bind, run_indexAt_slice hu (run_sizeOf' hi w) _ _ _ hC, Result.andThen_ok, Sem.run_pure, add_lit]
          · cases h
        · cases h
      · split at h
        · rename_i n e he
          have hu := arrT_of he
          split at h
          · rename_i i hi
            split at h
            · rename_i m f off hx
              cases h
              rw [hx] at hy
              have hC : 0 ≤ z ∧ z < n := hC
              obtain ⟨b, o, hv, hb, hr⟩ := hy
              refine ⟨.pointer (some ⟨b, o + (off + z.toNat * i.size), none⟩), ?_, b, o, by rw [mulS_eq], hb, hr⟩
              simp only [execOp, hv, hix, Sem.run_bind, run_indexAt_array hu (run_sizeOf' hi w) _ hC, Result.andThen_ok, Sem.run_pure, add_lit, Nat.add_assoc]
            · rename_i id off hx
              cases h
              rw [hx] at hy
              have hC : 0 ≤ z ∧ z < n := hC
              obtain ⟨B, hB, hv⟩ := hy
              refine ⟨.pointer (some ⟨B, off + z.toNat * i.size, none⟩), ?_, B, hB, by rw [mulS_eq]⟩
              simp only [execOp, hv, hix, Sem.run_bind, run_indexAt_array hu (run_sizeOf' hi w) _ hC, Result.andThen_ok, Sem.run_pure, add_lit]
            · cases h
          · cases h
        · cases h
    · cases h
  case index t y ix =>
    simp only [coreV, addO_eq] at h
    have hy := hV y (by simp [Op.operands])
    have hix := hV ix (by simp [Op.operands])
    split at h
    · rename_i k z n e x' hz he hx
      rw [hz] at hix
      rw [hx] at hy
      have hix : a.eval ix = _ := hix
      have hu := arrT_of he
      split at h
      · rename_i i m f hi hag
        cases h
        obtain ⟨hb, hC'⟩ := hC
        obtain ⟨cs, hv, hn, hc⟩ := asAgg_rep hag hy
        obtain ⟨v, h1, h2⟩ := part_part hi rfl hC' cs hn hc
        rw [mulS_eq] at h1
        exact ⟨v, by simp [execOp, hv, hix, Instr.index, asIntOf, run_underlying hu, hb, run_sizeOf' hi, h1], h2⟩
      · cases h
    · rename_i k z s hz he hx
      rw [hz] at hix
      rw [hx] at hy
      have hix : a.eval ix = _ := hix
      have hy : a.eval y = _ := hy
      obtain ⟨hs, h⟩ := bif_some h
      have hu := isStrT_of hs
      cases h
      obtain ⟨h0, h1⟩ := hC
      have hlt : z.toNat < s.data.size := by omega
      have e : s[z.toNat]? = some (s.data.getD z.toNat 0) := by
        rw [getElem?_pos s z.toNat hlt]
        rw [show s.data.getD z.toNat 0 = s.data[z.toNat] by rw [Array.getD_eq_getD_getElem?, Array.getElem?_eq_getElem hlt]; rfl]
        rfl
      exact ⟨_, by simp [execOp, hy, hix, Instr.index, asIntOf, run_underlying hu, h0, e], rfl⟩
    · cases h
  case extract y i =>
    simp only [coreV, addO_eq] at h
    have hy := hV y (by simp [Op.operands])
    split at h
    · rename_i n f hx
      obtain ⟨hlt, h⟩ := bif_some h
      cases h
      rw [hx] at hy
      obtain ⟨cs, hv, hn, hc⟩ := hy
      have hi : i < n := Nat.blt_eq.mp hlt
      refine ⟨cs.getD i undef, ?_, hc i hi⟩
      have : cs[i]? = some (cs.getD i undef) := by
        rw [Array.getD_eq_getD_getElem?]; have : i < cs.size := by omega
        simp [this]
      simp only [execOp, hv, Instr.extract, Sem.run_bind]
      rw [this]
      rfl
    · cases h
  case slice t y lo hi mx =>
    simp only [coreV, addO_eq] at h
    have hy := hV y (by simp [Op.operands])
    have hlo : ∀ x, lo.map V = some x → ∃ v, lo.map a.eval = some v ∧ RepA w (σ.ok c L w) L x v := by
      intro x hx
      cases lo with
      | none => cases hx
      | some l => cases hx; exact ⟨_, rfl, hV l (by simp [Op.operands])⟩
    have hhi : ∀ x, hi.map V = some x → ∃ v, hi.map a.eval = some v ∧ RepA w (σ.ok c L w) L x v := by
      intro x hx
      cases hi with
      | none => cases hx
      | some l => cases hx; exact ⟨_, rfl, hV l (by simp [Op.operands])⟩
    have hmx : ∀ x, mx.map V = some x → ∃ v, mx.map a.eval = some v ∧ RepA w (σ.ok c L w) L x v := by
      intro x hx
      cases mx with
      | none => cases hx
      | some l => cases hx; exact ⟨_, rfl, hV l (by simp [Op.operands])⟩
    have nn : ∀ (q : Option Operand), q.map V = none → q.map a.eval = none := by intro q h; cases q <;> simp at h ⊢
    split at h
    · rename_i e he
      have hu := sliceT_of he
      split at h
      · rename_i i hT
        have run : ∀ (A : Option Addr) (n cap l m : Nat) (C' : Prop), cutOf n (lo.map V) (hi.map V) (mx.map V) = some ⟨l, m, C'⟩ → C' → n ≤ cap →
            ∃ M, (a.eval y = .slice A n cap → (execOp a.eval ⟨dst, .slice t y lo hi mx, ty, pos, aft, gd⟩).run c.P w = .ok (.value (.slice (if M = l then A else A.map (·.add (l * i.size))) m (M - l))) w)
              ∧ l + m ≤ n ∧ l + m ≤ M ∧ M ≤ cap := by
          intro A n cap l m C' hcut hC' hcap
          obtain ⟨h', M, hr, h1, h2, h3, h4⟩ := cutOf_run hcut hC' c.P (w := w) hlo (nn lo) hhi (nn hi) hmx (nn mx) cap hcap
          refine ⟨M, fun hv => ?_, by omega, by omega, h4⟩
          simp only [execOp, hv, Instr.sliceAt, Instr.slice, Sem.run_bind, run_underlying hu, Result.andThen_ok, hr, run_sizeOf' hT, Sem.run_pure]
          rw [show h' - l = m by omega]
        split at h
        · rename_i n s f hx
          obtain ⟨hs, h⟩ := bif_some h
          obtain rfl : s = i.size := Nat.eq_of_beq_eq_true hs
          split at h
          · rename_i l m C' hcut
            cases h
            rw [hx] at hy
            obtain ⟨A, cap, hv, hcap, hr⟩ := hy
            obtain ⟨M, h1, h2, h3, h4⟩ := run A n cap l m C' hcut hC hcap
            refine ⟨_, h1 hv, _, _, rfl, by omega, ?_⟩
            by_cases hm : m * i.size = 0
            · exact .inl hm
            · rcases hr with hr | ⟨b, o, rfl, hb, hr⟩
              · have : m * i.size ≤ n * i.size := Nat.mul_le_mul_right _ (by omega)
                omega
              · right
                have hm0 : 0 < m := by rcases Nat.eq_zero_or_pos m with h | h <;> simp_all
                rw [if_neg (by omega)]
                refine ⟨b, o + l * i.size, by simp [add_lit], hb, fun j hj => ?_⟩
                rw [mulS_eq, shiftF_eq]
                have := hr (l * i.size + j) (by
                  have : (l + m) * i.size ≤ n * i.size := Nat.mul_le_mul_right _ h2
                  rw [Nat.add_mul] at this; omega)
                rwa [← Nat.add_assoc] at this
          · cases h
        · rename_i id off n s hx
          obtain ⟨hs, h⟩ := bif_some h
          obtain rfl : s = i.size := Nat.eq_of_beq_eq_true hs
          split at h
          · rename_i l m C' hcut
            cases h
            rw [hx] at hy
            rcases hy with ⟨hL, hn, hv⟩ | ⟨B, o, hB, hn, hv⟩ | ⟨B, cap, hB, hv, hcap, cs, e', hh, hsz⟩
            · subst hn
              obtain ⟨A, hv⟩ := hv
              obtain ⟨M, h1, h2, h3, h4⟩ := run A 0 0 l m C' hcut hC (Nat.le_refl _)
              refine ⟨_, h1 hv, .inl ⟨hL, by omega, A, ?_⟩⟩
              have hM : M = 0 := by omega
              have hl : l = 0 := by omega
              have hm : m = 0 := by omega
              subst hM; subst hl; subst hm
              simp
            · subst hn
              obtain ⟨M, h1, h2, h3, h4⟩ := run _ 0 0 l m C' hcut hC (Nat.le_refl _)
              refine ⟨_, h1 hv, .inr (.inl ⟨B, o, hB, by omega, ?_⟩)⟩
              have hM : M = 0 := by omega
              have hl : l = 0 := by omega
              have hm : m = 0 := by omega
              subst hM; subst hl; subst hm
              simp
            · obtain ⟨M, h1, h2, h3, h4⟩ := run _ n cap l m C' hcut hC hcap
              refine ⟨_, h1 hv, ?_⟩
              by_cases hMl : M = l
              · -- at the very end: the model keeps the old address, and nothing is left
                have hm : m = 0 := by omega
                refine .inr (.inl ⟨B, off, hB, hm, ?_⟩)
                rw [if_pos hMl, hm, hMl, Nat.sub_self]
              · refine .inr (.inr ⟨B, M - l, hB, ?_, by omega, cs, e', hh, ?_⟩)
                · rw [if_neg hMl, mulS_eq]; simp [add_lit]
                · rw [mulS_eq]
                  have e1 : l * i.size + (M - l) * i.size = M * i.size := by rw [← Nat.add_mul]; congr 1; omega
                  have e2 : M * i.size ≤ cap * i.size := Nat.mul_le_mul_right _ h4
                  omega
          · cases h
        · rename_i hx
          split at h
          · rename_i l m C' hcut
            cases h
            rw [hx] at hy
            have hv : a.eval y = .slice none 0 0 := hy
            obtain ⟨M, h1, h2, h3, h4⟩ := run none 0 0 l m C' hcut hC (Nat.le_refl _)
            refine ⟨_, h1 hv, ?_⟩
            have hM : M = 0 := by omega
            have hl : l = 0 := by omega
            have hm : m = 0 := by omega
            subst hM; subst hl; subst hm
            rfl
          · cases h
        · cases h
      · cases h
    · cases h
  case build t ps =>
    simp only [coreV, addO_eq] at h
    split at h
    · rename_i i hT
      obtain ⟨hok, h⟩ := bif_some h
      split at h
      · rename_i f hf
        cases h
        obtain ⟨v, h1, h2⟩ := build_run (w := w) (ρ := a.eval) hT hok ps f (fun p hp => hV p.2 (by simp only [Op.operands, List.mem_map]; exact ⟨p, hp, rfl⟩)) hf
        exact ⟨v, by simp [execOp, h1], h2⟩
      · cases h
    · cases h
  case makeFunc fn first captured =>
    cases fn <;> simp only [coreV] at h <;> try (cases h; done)
    split at h
    · rename_i f h1 h2
      cases h
      refine ⟨.func (.func _) #[] #[], ?_, rfl⟩
      have e1 : first.map a.eval = #[] := map_of_toList h1 _
      have e2 : captured.map a.eval = #[] := map_of_toList h2 _
      simp [execOp, Instr.makeFunc, e1, e2]
    · cases h
  case call cl =>
    obtain ⟨cal, args, ts⟩ := cl
    cases cal with
    | value f => simp only [coreV] at h; cases h
    | invoke r m => simp only [coreV] at h; cases h
    | builtin b =>
      cases b <;> simp only [coreV] at h <;> (try (cases h; done))
      · split at h
        · rename_i y t ha ht
          split at h
          · rename_i n hn
            cases h
            have hy := hV y (by simp [Op.operands, Call.operands, ha])
            have e1 : args.map a.eval = #[a.eval y] := map_of_toList ha _
            have e2 : ts = #[t] := Array.toList_inj.mp ht
            refine ⟨_, ?_, rfl⟩
            simp only [execOp, resolve, Sem.run_bind, Sem.run_pure, Result.andThen_ok, invoke, builtin, e1, e2, lenV_run hn hy]
          · cases h
        · cases h
      · split at h
        · rename_i y z ha
          split at h
          · rename_i v hv
            cases h
            have hy := hV y (by simp [Op.operands, Call.operands, ha])
            have hz := hV z (by simp [Op.operands, Call.operands, ha])
            have e1 : args.map a.eval = #[a.eval y, a.eval z] := map_of_toList ha _
            refine ⟨_, ?_, rfl⟩
            have hm := minmax_run hv hy hz c.P ts ty
            simp only [if_true] at hm
            simp only [execOp, resolve, Sem.run_bind, Sem.run_pure, Result.andThen_ok, invoke, builtin, e1, hm]
          · cases h
        · cases h
      · split at h
        · rename_i y z ha
          split at h
          · rename_i v hv
            cases h
            have hy := hV y (by simp [Op.operands, Call.operands, ha])
            have hz := hV z (by simp [Op.operands, Call.operands, ha])
            have e1 : args.map a.eval = #[a.eval y, a.eval z] := map_of_toList ha _
            refine ⟨_, ?_, rfl⟩
            have hm := minmax_run hv hy hz c.P ts ty
            simp only [Bool.false_eq_true, if_false] at hm
            simp only [execOp, resolve, Sem.run_bind, Sem.run_pure, Result.andThen_ok, invoke, builtin, e1, hm]
          · cases h
        · cases h
  all_goals (simp only [coreV] at h; cases h)

end Vinc
