/- A region whose order is drawn: where no two operations that may stand in either order touch what the other writes, the order of the text tells all. -/
import Derived.Test.YtmpfgaebmdbdeaaGreatDoorVincL
set_option linter.unusedSimpArgs false
set_option linter.unusedVariables false
namespace Vinc
open Go Go.RowKit

/-- The objects that a value names. -/
def idA : AV → List Nat
  | .own i _ _ _ => [i]
  | .oat i _ => [i]
  | .gd _ x => idA x
  | _ => []

def idsO (V : Operand → AV) : List Operand → List Nat
  | [] => []
  | y :: ys => idA (V y) ++ idsO V ys

theorem mem_idsO {V : Operand → AV} : ∀ {ys : List Operand} {y : Operand} {i : Nat}, y ∈ ys → i ∈ idA (V y) → i ∈ idsO V ys
  | z :: ys, y, i, hy, hi => by
    unfold idsO
    cases hy with
    | head => exact List.mem_append_left _ hi
    | tail _ hm => exact List.mem_append_right _ (mem_idsO hm hi)

section congr
variable {T : Nat → Option TI} {V V' : Operand → AV} {h h' : Nat → Option Ob}

theorem buildA_congr {i : TI} : ∀ (ps : List (Nat × Operand)) (f : Nat → PV), (∀ p ∈ ps, V p.2 = V' p.2) → buildA T V i ps f = buildA T V' i ps f
  | [], _, _ => rfl
  | (k, y) :: ps, f, hv => by
    have h0 := hv (k, y) (by simp)
    have ih := fun f => buildA_congr (i := i) ps f (fun p hp => hv p (by simp [hp]))
    simp only [buildA, h0, ih]

theorem fillS_congr {i : TI} {n : Nat} : ∀ (ps : List (Nat × Operand)) (f : Nat → AV), (∀ p ∈ ps, V p.2 = V' p.2) → fillS V i n ps f = fillS V' i n ps f
  | [], _, _ => rfl
  | (k, y) :: ps, f, hv => by
    have h0 := hv (k, y) (by simp)
    have ih := fun f => fillS_congr (i := i) (n := n) ps f (fun p hp => hv p (by simp [hp]))
    simp only [fillS, h0, ih]

theorem coreV_congr {op : Op} (hv : ∀ y ∈ op.operands.toList, V y = V' y) (hh : ∀ y ∈ op.operands.toList, ∀ i ∈ idA (V y), h i = h' i) : coreV T V h op = coreV T V' h' op := by
  cases op with
  | move x => simp only [coreV, hv x (by simp [Op.operands])]
  | assign x => simp only [coreV, hv x (by simp [Op.operands])]
  | pick a b d => simp only [coreV, hv a (by simp [Op.operands]), hv b (by simp [Op.operands]), hv d (by simp [Op.operands])]
  | binOp op t x y t' => simp only [coreV, hv x (by simp [Op.operands]), hv y (by simp [Op.operands])]
  | unOp op t x => simp only [coreV, hv x (by simp [Op.operands])]
  | convert s d x => simp only [coreV, hv x (by simp [Op.operands])]
  | nilCheck x => simp only [coreV, hv x (by simp [Op.operands])]
  | fieldAddr s x k => simp only [coreV, hv x (by simp [Op.operands])]
  | field s x k => simp only [coreV, hv x (by simp [Op.operands])]
  | load t x =>
    have h1 := hv x (by simp [Op.operands])
    have h2 := hh x (by simp [Op.operands])
    simp only [coreV, ← h1]
    cases T t with
    | none => rfl
    | some i =>
      cases hx : V x with
      | oat id off => rw [hx] at h2; simp only [h2 id (by simp [idA])]
      | p y => cases y <;> rfl
      | _ => rfl
  | indexAddr t x i => simp only [coreV, hv x (by simp [Op.operands]), hv i (by simp [Op.operands])]
  | index t x i => simp only [coreV, hv x (by simp [Op.operands]), hv i (by simp [Op.operands])]
  | extract x i => simp only [coreV, hv x (by simp [Op.operands])]
  | slice t x lo hi mx =>
    have h0 := hv x (by simp [Op.operands])
    have h1 : lo.map V = lo.map V' := by cases lo with
      | none => rfl
      | some l => simp [hv l (by simp [Op.operands])]
    have h2 : hi.map V = hi.map V' := by cases hi with
      | none => rfl
      | some l => simp [hv l (by simp [Op.operands])]
    have h3 : mx.map V = mx.map V' := by cases mx with
      | none => rfl
      | some l => simp [hv l (by simp [Op.operands])]
    simp only [coreV, h0, h1, h2, h3]
  | build t ps =>
    have hb := fun i f => buildA_congr (T := T) (i := i) ps.toList f (fun p hp => hv p.2 (by simp only [Op.operands, List.mem_map]; exact ⟨p, hp, rfl⟩))
    simp only [coreV, hb]
  | makeFunc fn first captured => cases fn <;> simp only [coreV]
  | call cl =>
    obtain ⟨cal, args, ts⟩ := cl
    cases cal with
    | value f => simp only [coreV]
    | invoke r m => simp only [coreV]
    | builtin b =>
      have ha : ∀ y ∈ args.toList, V y = V' y := fun y hy => hv y (by simp [Op.operands, Call.operands]; exact Array.mem_toList_iff.mp hy)
      cases b <;> simp only [coreV]
      · generalize args.toList = l at ha ⊢
        generalize ts.toList = k
        match l, k with
        | [], _ => rfl
        | [x], [] => rfl
        | [x], [t] => simp only [ha x (by simp)]
        | [x], _ :: _ :: _ => rfl
        | _ :: _ :: _, _ => rfl
      · generalize args.toList = l at ha ⊢
        match l with
        | [] => rfl
        | [x] => rfl
        | [x, y] => simp only [ha x (by simp), ha y (by simp)]
        | _ :: _ :: _ :: _ => rfl
      · generalize args.toList = l at ha ⊢
        match l with
        | [] => rfl
        | [x] => rfl
        | [x, y] => simp only [ha x (by simp), ha y (by simp)]
        | _ :: _ :: _ :: _ => rfl
  | _ => rfl

theorem srcA_congr {s : Nat} {x : AV} (hh : ∀ i ∈ idA x, h i = h' i) : srcA h s x = srcA h' s x := by
  unfold srcA
  split
  · rfl
  · rfl
  · rename_i id off n s'; simp only [hh id (by simp [idA])]
  · rfl

theorem coreH_congr {op : Op} {fr : Bool} {d : Nat} (hv : ∀ y ∈ op.operands.toList, V y = V' y) (hh : ∀ y ∈ op.operands.toList, ∀ i ∈ idA (V y), h i = h' i) : coreH T V h fr d op = coreH T V' h' fr d op := by
  cases op with
  | box t x => simp only [coreH, hv x (by simp [Op.operands])]
  | buildSlice t n ps =>
    have hb := fun i n f => fillS_congr (i := i) (n := n) ps.toList f (fun p hp => hv p.2 (by simp only [Op.operands, List.mem_map]; exact ⟨p, hp, rfl⟩))
    simp only [coreH, hb]
  | makeSlice t l k => simp only [coreH, hv l (by simp [Op.operands]), hv k (by simp [Op.operands])]
  | store t x v =>
    have h1 := hv x (by simp [Op.operands])
    have h3 := hv v (by simp [Op.operands])
    have h2 := hh x (by simp [Op.operands])
    simp only [coreH, ← h1, ← h3]
    cases T t with
    | none => rfl
    | some i =>
      cases hx : V x with
      | oat id off => rw [hx] at h2; simp only [h2 id (by simp [idA])]
      | _ => rfl
  | call cl =>
    obtain ⟨cal, args, ts⟩ := cl
    cases cal with
    | value f => simp only [coreH]
    | invoke r m => simp only [coreH]
    | builtin b =>
      have ha : ∀ y ∈ args.toList, V y = V' y := fun y hy => hv y (by simp [Op.operands, Call.operands]; exact Array.mem_toList_iff.mp hy)
      have hb : ∀ y ∈ args.toList, ∀ i ∈ idA (V y), h i = h' i := fun y hy => hh y (by simp [Op.operands, Call.operands]; exact Array.mem_toList_iff.mp hy)
      cases b <;> simp only [coreH]
      · generalize args.toList = l at ha hb ⊢
        generalize ts.toList = k
        match l, k with
        | [], _ => rfl
        | [x], _ => rfl
        | [x, y], [] => rfl
        | [x, y], [t] => rfl
        | [x, y], [t, t'] =>
          have h1 := hb x (by simp)
          have h2 := fun s => srcA_congr (s := s) (hb y (by simp))
          simp only [← ha x (by simp), ← ha y (by simp), h2]
          cases hx : V x with
          | own id off n s => rw [hx] at h1; simp only [h1 id (by simp [idA])]
          | p y =>
            cases y with
            | val v =>
              cases v with
              | slice a n c =>
                cases a with
                | none =>
                  cases n with
                  | zero => cases c <;> rfl
                  | succ _ => rfl
                | some _ => rfl
              | _ => rfl
            | _ => rfl
          | _ => rfl
        | [x, y], _ :: _ :: _ :: _ => rfl
        | _ :: _ :: _ :: _, _ => rfl
      · generalize args.toList = l at ha hb ⊢
        generalize ts.toList = k
        match l, k with
        | [], _ => rfl
        | [x], _ => rfl
        | [x, y], [] => rfl
        | [x, y], [t] => rfl
        | [x, y], [t, t'] =>
          have h1 := hb x (by simp)
          have h2 := fun s => srcA_congr (s := s) (hb y (by simp))
          simp only [← ha x (by simp), ← ha y (by simp), h2]
          cases hx : V x with
          | own id off n s => rw [hx] at h1; simp only [h1 id (by simp [idA])]
          | p y =>
            cases y with
            | val v =>
              cases v with
              | slice a n c =>
                cases a with
                | none =>
                  cases n with
                  | zero => cases c <;> rfl
                  | succ _ => rfl
                | some _ => rfl
              | _ => rfl
            | _ => rfl
          | _ => rfl
        | [x, y], _ :: _ :: _ :: _ => rfl
        | _ :: _ :: _ :: _, _ => rfl
  | _ => rfl

theorem viewA_congr {x : AV} (hh : ∀ i ∈ idA x, h i = h' i) : viewA h x = viewA h' x := by
  cases x with
  | own id off n s' => simp only [viewA, hh id (by simp [idA])]
  | oat id off => simp only [viewA, hh id (by simp [idA])]
  | _ => rfl

theorem viewL_congr : ∀ {xs : List AV}, (∀ x ∈ xs, ∀ i ∈ idA x, h i = h' i) → viewL h xs = viewL h' xs
  | [], _ => rfl
  | x :: xs, hh => by
    simp only [viewL, viewA_congr (hh x (by simp)), viewL_congr (xs := xs) (fun x hx => hh x (by simp [hx]))]

theorem coreC_congr {pr : Pr} {op : Op} {r : PV} (hv : ∀ y ∈ op.operands.toList, V y = V' y) (hh : ∀ y ∈ op.operands.toList, ∀ i ∈ idA (V y), h i = h' i) : coreC pr V h r op = coreC pr V' h' r op := by
  cases op with
  | call cl =>
    obtain ⟨cal, args, ts⟩ := cl
    have ha : ∀ y ∈ args.toList, V y = V' y := fun y hy => hv y (by simp [Op.operands, Call.operands]; right; exact Array.mem_toList_iff.mp hy)
    have hb : ∀ y ∈ args.toList, ∀ i ∈ idA (V y), h i = h' i := fun y hy => hh y (by simp [Op.operands, Call.operands]; right; exact Array.mem_toList_iff.mp hy)
    have hc : calleeF V cal = calleeF V' cal := by
      cases cal with
      | value f => simp only [calleeF, hv f (by simp [Op.operands, Call.operands])]
      | _ => rfl
    have hm : args.toList.map V = args.toList.map V' := List.map_congr_left ha
    have hl : viewL h (args.toList.map V') = viewL h' (args.toList.map V') := by
      rw [← hm]
      exact viewL_congr (fun x hx => by
        obtain ⟨y, hy, rfl⟩ := List.mem_map.mp hx
        exact hb y hy)
    simp only [coreC, hc, hm, hl]
  | _ => rfl

theorem coreZ_congr {pr : Pr} {op : Op} {fr : Bool} {d : Nat} {r : PV} (hv : ∀ y ∈ op.operands.toList, V y = V' y) (hh : ∀ y ∈ op.operands.toList, ∀ i ∈ idA (V y), h i = h' i) : coreZ pr V h fr d r op = coreZ pr V' h' fr d r op := by
  cases op with
  | call cl =>
    obtain ⟨cal, args, ts⟩ := cl
    have ha : ∀ y ∈ args.toList, V y = V' y := fun y hy => hv y (by simp [Op.operands, Call.operands]; right; exact Array.mem_toList_iff.mp hy)
    have hb : ∀ y ∈ args.toList, ∀ i ∈ idA (V y), h i = h' i := fun y hy => hh y (by simp [Op.operands, Call.operands]; right; exact Array.mem_toList_iff.mp hy)
    have hc : calleeF V cal = calleeF V' cal := by
      cases cal with
      | value f => simp only [calleeF, hv f (by simp [Op.operands, Call.operands])]
      | _ => rfl
    have hm : args.toList.map V = args.toList.map V' := List.map_congr_left ha
    have hl : viewL h (args.toList.map V') = viewL h' (args.toList.map V') := by
      rw [← hm]
      exact viewL_congr (fun x hx => by
        obtain ⟨y, hy, rfl⟩ := List.mem_map.mp hx
        exact hb y hy)
    simp only [coreZ, hc, hm, hl]
  | _ => rfl

theorem core_congr {pr : Pr} {op : Op} {fr : Bool} {d : Nat} {r : PV} (hv : ∀ y ∈ op.operands.toList, V y = V' y) (hh : ∀ y ∈ op.operands.toList, ∀ i ∈ idA (V y), h i = h' i) :
    core pr V h fr d r op = core pr V' h' fr d r op := by
  simp only [core, coreZ_congr hv hh, coreV_congr hv hh, coreH_congr hv hh, coreC_congr hv hh]

theorem gds_congr : ∀ {ys : List Operand} {acc : Option Prop}, (∀ y ∈ ys, V y = V' y) → gds V ys acc = gds V' ys acc
  | [], _, _ => rfl
  | y :: ys, acc, hv => by
    simp only [gds, hv y (by simp), gds_congr (ys := ys) (fun y hy => hv y (by simp [hy]))]
end congr

/-- What an operation answers, before it is laid into the state. -/
def outS (pr : Pr) (N : Nat) (gops : Array Oper) (o : Oper) (r : PV) (t : Nat → AV) (h : Nat → Option Ob) (u : Nat → Bool) : Option Out :=
  match o.guard with
  | none => match core pr (evT pr t) h (freshOf u o.dst) (o.dst.getD 0) r o.op with
    | some out => match o.dst with
      | some d => bif Nat.blt d N then some out else none
      | none => some out
    | none => none
  | some (j, want) => match guardOf gops t j want with
    | some b => match core pr (Vg (isPick o.op) (evT pr t)) h false 0 r o.op with
      | some ⟨x, [], C⟩ => match o.dst with
        | some d => bif Nat.blt d N then some ⟨.gd b x, [], guardC b (gds (evT pr t) (needs (isPick o.op) o.op.operands.toList) none) C⟩ else none
        | none => some ⟨.gd b x, [], guardC b (gds (evT pr t) (needs (isPick o.op) o.op.operands.toList) none) C⟩
      | some _ => none
      | none => bif b then match core pr (Vg (isPick o.op) (evT pr t)) h (freshOf u o.dst) (o.dst.getD 0) r o.op with
        | some ⟨x, hw, C⟩ => match o.dst with
          | some d => bif Nat.blt d N then some ⟨x, hw, guardC b (gds (evT pr t) (needs (isPick o.op) o.op.operands.toList) none) C⟩ else none
          | none => some ⟨x, hw, guardC b (gds (evT pr t) (needs (isPick o.op) o.op.operands.toList) none) C⟩
        | none => none else none
    | none => none

def putT (dst : Option Nat) (x : AV) (t : Nat → AV) : Nat → AV := match dst with
  | some d => upd t d x
  | none => t

theorem putS_eq {N : Nat} {dst : Option Nat} {t : Nat → AV} {h : Nat → Option Ob} {u : Nat → Bool} {x : AV} {hw : List (Nat × Option Ob)} {C : Option Prop} :
    putS N dst t h u ⟨x, hw, C⟩ = (match dst with | some d => bif Nat.blt d N then some ⟨upd t d x, applyH hw h, applyU hw u, C⟩ else none | none => some ⟨t, applyH hw h, applyU hw u, C⟩) := by
  unfold putS
  cases dst with
  | none => cases hw <;> rfl
  | some d =>
    simp only [force_eq]
    cases hw <;> rfl

theorem stp_eq {pr : Pr} {N : Nat} {gops : Array Oper} {o : Oper} {r : PV} {t : Nat → AV} {h : Nat → Option Ob} {u : Nat → Bool} :
    stp pr N gops o r t h u = match outS pr N gops o r t h u with
      | some ⟨x, hw, C⟩ => some ⟨putT o.dst x t, applyH hw h, applyU hw u, C⟩
      | none => none := by
  unfold stp outS
  cases hg : o.guard with
  | none =>
    simp only
    cases core pr (evT pr t) h (freshOf u o.dst) (o.dst.getD 0) r o.op with
    | none => rfl
    | some out =>
      obtain ⟨x, hw, C⟩ := out
      simp only [putS_eq]
      cases o.dst with
      | none => rfl
      | some d => cases hb : Nat.blt d N <;> simp only [hb, cond_true, cond_false] <;> rfl
  | some g =>
    obtain ⟨j, want⟩ := g
    simp only
    cases guardOf gops t j want with
    | none => rfl
    | some b =>
      simp only
      cases core pr (Vg (isPick o.op) (evT pr t)) h false 0 r o.op with
      | none =>
        cases b with
        | false => rfl
        | true =>
          simp only [cond_true]
          cases core pr (Vg (isPick o.op) (evT pr t)) h (freshOf u o.dst) (o.dst.getD 0) r o.op with
          | none => rfl
          | some out =>
            obtain ⟨x, hw, C⟩ := out
            simp only [putS_eq]
            cases o.dst with
            | none => rfl
            | some d => cases hb : Nat.blt d N <;> simp only [hb, cond_true, cond_false] <;> rfl
      | some out =>
        obtain ⟨x, hw, C⟩ := out
        cases hw with
        | cons _ _ => rfl
        | nil =>
          simp only [force_eq, putS_eq]
          cases o.dst with
          | none => rfl
          | some d => cases hb : Nat.blt d N <;> simp only [hb, cond_true, cond_false] <;> rfl

/-- The slots that an operation reads. -/
def readsOf (gops : Array Oper) (o : Oper) : List Nat := o.looksAt gops

theorem outS_congr {pr : Pr} {N : Nat} {gops : Array Oper} {o : Oper} {r : PV} {t t' : Nat → AV} {h h' : Nat → Option Ob} {u u' : Nat → Bool}
    (ht : ∀ k ∈ o.looksAt gops, t k = t' k) (hh : ∀ i ∈ idsO (evT pr t) o.op.operands.toList, h i = h' i) (hu : ∀ d, o.dst = some d → u d = u' d) :
    outS pr N gops o r t h u = outS pr N gops o r t' h' u' := by
  have hev : ∀ y ∈ o.op.operands.toList, evT pr t y = evT pr t' y := by
    intro y hy
    cases y with
    | tmp k => exact ht k (by simp only [Oper.looksAt]; exact List.mem_append_left _ (List.mem_filterMap.mpr ⟨.tmp k, hy, rfl⟩))
    | _ => rfl
  have hh1 : ∀ y ∈ o.op.operands.toList, ∀ i ∈ idA (evT pr t y), h i = h' i := fun y hy i hi => hh i (mem_idsO hy hi)
  have hfr : freshOf u o.dst = freshOf u' o.dst := by
    cases hd : o.dst with
    | none => rfl
    | some d => simp only [freshOf, hu d hd]
  unfold outS
  cases hg : o.guard with
  | none => simp only [core_congr hev hh1, hfr]
  | some g =>
    obtain ⟨j, want⟩ := g
    have hgo : guardOf gops t j want = guardOf gops t' j want := by
      unfold guardOf
      cases hj : gops[j]? with
      | none => rfl
      | some og =>
        cases hd : og.dst with
        | none => simp [hd]
        | some d =>
          have : t d = t' d := ht d (by
            simp only [Oper.looksAt, hg, hj, Option.bind_some, hd]
            exact List.mem_append_right _ (by simp))
          simp only [hd, this]
    cases hp : isPick o.op with
    | true =>
      simp only [hgo, Vg, needs, core_congr hev hh1, gds, hfr]
    | false =>
      have hev' : ∀ y ∈ o.op.operands.toList, ungd (evT pr t y) = ungd (evT pr t' y) := fun y hy => by rw [hev y hy]
      have hh2 : ∀ y ∈ o.op.operands.toList, ∀ i ∈ idA (ungd (evT pr t y)), h i = h' i := by
        intro y hy i hi
        refine hh1 y hy i ?_
        cases hx : evT pr t y <;> rw [hx] at hi <;> exact hi
      simp only [hgo, Vg, needs, core_congr (V := fun y => ungd (evT pr t y)) (V' := fun y => ungd (evT pr t' y)) hev' hh2, gds_congr hev, hfr]

def hids (hw : List (Nat × Option Ob)) : List Nat := hw.map (·.1)

theorem applyH_not : ∀ {l : List (Nat × Option Ob)} {h : Nat → Option Ob} {i : Nat}, i ∉ hids l → applyH l h i = h i
  | [], _, _, _ => rfl
  | (k, o) :: l, h, i, hi => by
    simp only [hids, List.map_cons, List.mem_cons, not_or] at hi
    simp only [applyH]
    rw [applyH_not (l := l) hi.2, upd_ne _ _ hi.1]

theorem applyH_at : ∀ {l : List (Nat × Option Ob)} {h h' : Nat → Option Ob} {i : Nat}, h i = h' i → applyH l h i = applyH l h' i
  | [], _, _, _, e => e
  | (k, o) :: l, h, h', i, e => by
    simp only [applyH]
    refine applyH_at (l := l) ?_
    simp only [upd]; split
    · rfl
    · exact e

theorem applyU_not : ∀ {l : List (Nat × Option Ob)} {h : Nat → Bool} {i : Nat}, i ∉ hids l → applyU l h i = h i
  | [], _, _, _ => rfl
  | (k, o) :: l, h, i, hi => by
    simp only [hids, List.map_cons, List.mem_cons, not_or] at hi
    simp only [applyU]
    rw [applyU_not (l := l) hi.2, upd_ne _ _ hi.1]

theorem applyU_at : ∀ {l : List (Nat × Option Ob)} {h h' : Nat → Bool} {i : Nat}, h i = h' i → applyU l h i = applyU l h' i
  | [], _, _, _, e => e
  | (k, o) :: l, h, h', i, e => by
    simp only [applyU]
    refine applyU_at (l := l) ?_
    simp only [upd]; split
    · rfl
    · exact e

theorem applyH_comm {l m : List (Nat × Option Ob)} {h : Nat → Option Ob} (hd : ∀ i ∈ hids l, i ∉ hids m) : applyH l (applyH m h) = applyH m (applyH l h) := by
  funext i
  by_cases hi : i ∈ hids l
  · rw [applyH_not (l := m) (hd i hi)]
    exact applyH_at (applyH_not (hd i hi))
  · rw [applyH_not (l := l) hi]
    exact applyH_at (applyH_not hi).symm

theorem applyU_comm {l m : List (Nat × Option Ob)} {h : Nat → Bool} (hd : ∀ i ∈ hids l, i ∉ hids m) : applyU l (applyU m h) = applyU m (applyU l h) := by
  funext i
  by_cases hi : i ∈ hids l
  · rw [applyU_not (l := m) (hd i hi)]
    exact applyU_at (applyU_not (hd i hi))
  · rw [applyU_not (l := l) hi]
    exact applyU_at (applyU_not hi).symm

/-- What an operation touches: the objects that it names, the ones that it writes, its own slot's number. -/
structure Foot where
  ids : List Nat
  hw : List Nat
  d : List Nat

def footOf (pr : Pr) (o : Oper) (t : Nat → AV) (hw : List (Nat × Option Ob)) : Foot := ⟨idsO (evT pr t) o.op.operands.toList, hids hw, o.dst.toList⟩

def disj (a b : List Nat) : Bool := a.all fun i => !b.contains i

theorem disj_of {a b : List Nat} (h : disj a b = true) : ∀ i ∈ a, i ∉ b := by
  intro i hi hb
  have := List.all_eq_true.mp h i hi
  simp [hb] at this

def footsApart (x y : Foot) : Bool := disj x.hw (y.ids ++ y.hw ++ y.d) && disj y.hw (x.ids ++ x.hw ++ x.d)

/-- TWO OPERATIONS THAT STAND NEXT TO EACH OTHER CHANGE PLACES. -/
theorem swap {pr : Pr} {N : Nat} {gops : Array Oper} {o1 o2 : Oper} {r1 r2 : PV} {t : Nat → AV} {h : Nat → Option Ob} {u : Nat → Bool} {x1 x2 : AV} {hw1 hw2 : List (Nat × Option Ob)} {C1 C2 : Option Prop}
    (h1 : outS pr N gops o1 r1 t h u = some ⟨x1, hw1, C1⟩) (h2 : outS pr N gops o2 r2 (putT o1.dst x1 t) (applyH hw1 h) (applyU hw1 u) = some ⟨x2, hw2, C2⟩)
    (ha : o1.apart gops o2 = true) (hf : footsApart (footOf pr o1 t hw1) (footOf pr o2 (putT o1.dst x1 t) hw2) = true) :
    outS pr N gops o2 r2 t h u = some ⟨x2, hw2, C2⟩ ∧ outS pr N gops o1 r1 (putT o2.dst x2 t) (applyH hw2 h) (applyU hw2 u) = some ⟨x1, hw1, C1⟩ ∧
    putT o1.dst x1 (putT o2.dst x2 t) = putT o2.dst x2 (putT o1.dst x1 t) ∧ applyH hw1 (applyH hw2 h) = applyH hw2 (applyH hw1 h) ∧ applyU hw1 (applyU hw2 u) = applyU hw2 (applyU hw1 u) ∧
    footOf pr o2 t hw2 = footOf pr o2 (putT o1.dst x1 t) hw2 ∧ footOf pr o1 (putT o2.dst x2 t) hw1 = footOf pr o1 t hw1 := by
  obtain ⟨a1, a2, a3⟩ := Oper.apart_spec ha
  unfold footsApart at hf
  rw [Bool.and_eq_true] at hf
  have f1 := disj_of hf.1
  have f2 := disj_of hf.2
  have et2 : ∀ k ∈ o2.looksAt gops, putT o1.dst x1 t k = t k := by
    intro k hk
    cases hd : o1.dst with
    | none => rfl
    | some d => exact upd_ne _ _ (fun e => a1 d hd (e ▸ hk))
  have et1 : ∀ k ∈ o1.looksAt gops, putT o2.dst x2 t k = t k := by
    intro k hk
    cases hd : o2.dst with
    | none => rfl
    | some d => exact upd_ne _ _ (fun e => a3 d hd (e ▸ hk))
  have ev_of : ∀ (o : Oper) (s s' : Nat → AV), (∀ k ∈ o.looksAt gops, s k = s' k) → ∀ ys, (∀ y ∈ ys, y ∈ o.op.operands.toList) → idsO (evT pr s) ys = idsO (evT pr s') ys := by
    intro o s s' hs ys
    induction ys with
    | nil => intro _; rfl
    | cons y ys ih =>
      intro hy
      have : evT pr s y = evT pr s' y := by
        cases y with
        | tmp k => exact hs k (by simp only [Oper.looksAt]; exact List.mem_append_left _ (List.mem_filterMap.mpr ⟨.tmp k, hy _ (by simp), rfl⟩))
        | _ => rfl
      simp only [idsO, this, ih (fun y h => hy y (by simp [h]))]
  have fo2 : footOf pr o2 t hw2 = footOf pr o2 (putT o1.dst x1 t) hw2 := by
    unfold footOf; rw [ev_of o2 t (putT o1.dst x1 t) (fun k hk => (et2 k hk).symm) _ (fun _ h => h)]
  have fo1 : footOf pr o1 (putT o2.dst x2 t) hw1 = footOf pr o1 t hw1 := by
    unfold footOf; rw [ev_of o1 (putT o2.dst x2 t) t et1 _ (fun _ h => h)]
  have e2 : outS pr N gops o2 r2 t h u = outS pr N gops o2 r2 (putT o1.dst x1 t) (applyH hw1 h) (applyU hw1 u) := by
    refine outS_congr (fun k hk => (et2 k hk).symm) (fun i hi => ?_) (fun d hd => ?_)
    · refine (applyH_not (fun hm => f1 i hm ?_)).symm
      rw [← fo2]
      simp only [footOf]
      exact List.mem_append_left _ (List.mem_append_left _ hi)
    · refine (applyU_not (fun hm => f1 d hm ?_)).symm
      exact List.mem_append_right _ (by simp [footOf, hd])
  have e1 : outS pr N gops o1 r1 (putT o2.dst x2 t) (applyH hw2 h) (applyU hw2 u) = outS pr N gops o1 r1 t h u := by
    refine (outS_congr (fun k hk => (et1 k hk).symm) (fun i hi => ?_) (fun d hd => ?_)).symm
    · refine (applyH_not (fun hm => f2 i hm ?_)).symm
      simp only [footOf]
      exact List.mem_append_left _ (List.mem_append_left _ hi)
    · refine (applyU_not (fun hm => f2 d hm ?_)).symm
      exact List.mem_append_right _ (by simp [footOf, hd])
  refine ⟨e2.trans h2, e1.trans h1, ?_, applyH_comm (fun i hi hm => f1 i hi ?_), applyU_comm (fun i hi hm => f1 i hi ?_), fo2, fo1⟩
  · cases hd1 : o1.dst with
    | none => rfl
    | some d1 =>
      cases hd2 : o2.dst with
      | none => rfl
      | some d2 =>
        have hne : d2 ≠ d1 := fun e => a2 d1 hd1 (by rw [hd2, e])
        exact upd_comm _ _ _ hne
  · exact List.mem_append_left _ (List.mem_append_right _ hm)
  · exact List.mem_append_left _ (List.mem_append_right _ hm)

end Vinc
