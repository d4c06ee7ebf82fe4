/- Runs of code over abstract states: the rules of sequence, branch, block, loop, scope; weakening; how a contract of a function is had. -/
import Derived.Test.YtmpfgaebmdbdeaaGreatDoorVincA
import Derived.ScopeJumps
set_option linter.unusedSimpArgs false
set_option linter.unusedVariables false
namespace Vinc
open Go Go.RowKit

/-- Code 'd', run in a state that 'σ' stands for, comes to an end that 'Q' allows. -/
def Post (c : Cx) (Q : Exit → St → Prop) : Exit → Act → World → Prop := fun e a' w' => ∃ σ' L', Q e σ' ∧ Inv c σ' L' a' w'

def Ev (c : Cx) (d : Code) (Q : Exit → St → Prop) (σ : St) : Prop := ∀ L a w, Inv c σ L a w → d.wp c.P (Post c Q) a w

/-- The same at the head of a loop. -/
def EvL (c : Cx) (d : Code) (Q : Exit → St → Prop) (σ : St) : Prop := ∀ L a w, Inv c σ L a w →
  ∀ (b : Frame) (k : List Item) (cs : List Frame), ∃ e a' w', Post c Q e a' w' ∧ Arrives c.P (lone (b.at a (.code d :: .inLoop d :: k)) cs w) b k cs e a' w'

variable {c : Cx} {Q Q' : Exit → St → Prop} {σ σ' : St}

theorem ev_mono {d : Code} (h : Ev c d Q σ) (hq : ∀ e σ, Q e σ → Q' e σ) : Ev c d Q' σ :=
  fun L a w I => wp_mono (h L a w I) fun _ _ _ ⟨s, l, q, i⟩ => ⟨s, l, hq _ _ q, i⟩

theorem ev_skip (h : Q .normal σ) : Ev c .skip Q σ := fun L _ _ I => wp_skip ⟨σ, L, h, I⟩
theorem ev_label {l : Nat} (h : Q .normal σ) : Ev c (.label l) Q σ := fun L _ _ I => wp_label ⟨σ, L, h, I⟩
theorem ev_exit {id : Nat} (h : Q (.exit id) σ) : Ev c (.exit id) Q σ := fun L _ _ I => wp_exit ⟨σ, L, h, I⟩
theorem ev_goto {l : Nat} (h : Q (.goto l) σ) : Ev c (.goto l) Q σ := fun L _ _ I => wp_goto ⟨σ, L, h, I⟩
theorem ev_ret (h : Q .ret σ) : Ev c .ret Q σ := fun L _ _ I => wp_ret ⟨σ, L, h, I⟩

/-- What holds behind the first part: the second one runs. -/
def Seq (c : Cx) (y : Code) (Q : Exit → St → Prop) : Exit → St → Prop
  | .normal, σ => Ev c y Q σ
  | e, σ => Q e σ

theorem ev_seq {x y : Code} (h : Ev c x (Seq c y Q) σ) : Ev c (.seq x y) Q σ := fun L a w I =>
  wp_seq (wp_mono (h L a w I) fun e a' w' ⟨s, l, q, i⟩ => by
    cases e
    case normal => exact q l a' w' i
    all_goals exact ⟨s, l, q, i⟩)

theorem ev_seq2 {x y : Code} (h : Ev c x (fun e s => (e = .normal ∧ Ev c y Q s)) σ) : Ev c (.seq x y) Q σ :=
  ev_seq (ev_mono h fun e s ⟨he, hs⟩ => by subst he; exact hs)

theorem ev_cond {x : Operand} {y z : Code} {b : Bool} (hx : σ.ev c x = .p (.val (.bool b))) (ht : b = true → Ev c y Q σ) (hf : b = false → Ev c z Q σ) :
    Ev c (.cond x y z) Q σ := fun L a w I => by
  have h := I.ev x
  rw [hx] at h
  have h' : a.eval x = .bool b := h
  cases b
  · exact wp_cond h' (hf rfl L a w I)
  · exact wp_cond h' (ht rfl L a w I)

def InBlock (id : Nat) (Q : Exit → St → Prop) : Exit → St → Prop
  | .exit i, σ => if i = id then Q .normal σ else Q (.exit i) σ
  | e, σ => Q e σ

theorem ev_block {id : Nat} {d : Code} (h : Ev c d (InBlock id Q) σ) : Ev c (.block id d) Q σ := fun L a w I =>
  wp_block (wp_mono (h L a w I) fun e a' w' ⟨s, l, q, i⟩ => by
    cases e
    case exit j =>
      simp only [Exit.inBlock, InBlock] at q ⊢
      split at q
      · rename_i hj; rw [if_pos hj]; exact ⟨s, l, q, i⟩
      · rename_i hj; rw [if_neg hj]; exact ⟨s, l, q, i⟩
    all_goals exact ⟨s, l, q, i⟩)

theorem ev_loop {d : Code} (h : EvL c d Q σ) : Ev c (.loop d) Q σ := fun L a w I b k cs =>
  let ⟨e, a', w', q, r⟩ := h L a w I b k cs
  ⟨e, a', w', q, .of_steps (.one step_loop) r⟩

def Round (c : Cx) (d : Code) (Q : Exit → St → Prop) : Exit → St → Prop
  | .normal, σ => EvL c d Q σ
  | e, σ => Q e σ

theorem evl_step {d : Code} (h : Ev c d (Round c d Q) σ) : EvL c d Q σ := fun L a w I b k cs => by
  obtain ⟨e, a₁, w₁, ⟨s, l, q, i⟩, harr⟩ := h L a w I b (.inLoop d :: k) cs
  cases e with
  | normal =>
    obtain ⟨e₂, a₂, w₂, hq₂, harr₂⟩ := q l a₁ w₁ i b k cs
    exact ⟨e₂, a₂, w₂, hq₂, .of_steps (Steps.trans harr (.one step_inLoop)) harr₂⟩
  | exit id => exact ⟨_, a₁, w₁, ⟨s, l, q, i⟩, .pass (x := .inLoop d) rfl (fun _ _ => .inl (by simp)) harr⟩
  | goto l' => exact ⟨_, a₁, w₁, ⟨s, l, q, i⟩, .pass (x := .inLoop d) rfl (fun _ _ => .inl (by simp)) harr⟩
  | ret => exact ⟨_, a₁, w₁, ⟨s, l, q, i⟩, .pass (x := .inLoop d) rfl (fun _ _ => .inl (by simp)) harr⟩
  | panic ch => exact ⟨_, a₁, w₁, ⟨s, l, q, i⟩, .pass (x := .inLoop d) rfl (fun _ _ => .inl (by simp)) harr⟩
  | outgrown => exact ⟨_, a₁, w₁, ⟨s, l, q, i⟩, .pass (x := .inLoop d) rfl (fun _ _ => .inl (by simp)) harr⟩

def NoGoto (Q : Exit → St → Prop) : Exit → St → Prop
  | .goto _, _ => False
  | e, σ => Q e σ

theorem ev_scope {d : Code} (h : Ev c d (NoGoto Q) σ) : Ev c (.scope d) Q σ := fun L a w I =>
  wp_scope_straight (wp_mono (h L a w I) fun e a' w' ⟨s, l, q, i⟩ => by
    cases e
    case goto l' => exact q.elim
    all_goals exact ⟨s, l, q, i⟩)

/-- One state says less than another. -/
def Wk (c : Cx) (σ σ' : St) : Prop := ∀ L a w, Inv c σ L a w → ∃ L', Inv c σ' L' a w

theorem ev_wk {d : Code} (h : Wk c σ σ') (h' : Ev c d Q σ') : Ev c d Q σ := fun L a w I => let ⟨L', I'⟩ := h L a w I; h' L' a w I'
theorem evl_wk {d : Code} (h : Wk c σ σ') (h' : EvL c d Q σ') : EvL c d Q σ := fun L a w I => let ⟨L', I'⟩ := h L a w I; h' L' a w I'

/-- What a value of the call's own is for whoever called: nobody writes any more. -/
def FreezeLe (c : Cx) (σ : St) (x : AV) (y : PV) : Prop := ∀ L a w, Inv c σ L a w → ∀ v, RepA w (σ.ok c L w) L x v →
  Rep w (fun b => c.ok0 b ∨ (c.w0.heap.size ≤ b ∧ b < w.heap.size)) y v

/-- The results of a function, read off its slots. -/
def RetLe (c : Cx) (σ : St) (rs : List ResultVar) (y : PV) : Prop :=
  (rs = [] ∧ y = .val (.tuple #[])) ∨ (∃ t, rs = [.tmp t] ∧ FreezeLe c σ (σ.t t) y) ∨
  (∃ n f, y = .tup n f ∧ 2 ≤ rs.length ∧ rs.length = n ∧ ∀ j, j < n → ∃ t, rs[j]? = some (.tmp t) ∧ FreezeLe c σ (σ.t t) (f j)) ∨
  ∃ t ty, rs = [.cell t ty] ∧ ∀ L a w, Inv c σ L a w → ∃ b q v, a.tmps.getD t undef = .pointer (some ⟨b, q, none⟩) ∧ (loadVar ty ⟨b, q, none⟩).run c.P w = .ok v w ∧
    Rep w (fun b => c.ok0 b ∨ (c.w0.heap.size ≤ b ∧ b < w.heap.size)) y v

def Fin (c : Cx) (rs : List ResultVar) (y : PV) : Exit → St → Prop
  | .normal, σ | .ret, σ => RetLe c σ rs y
  | _, _ => False

theorem mapM_run {α β : Type} (f : α → Sem β) (g : α → β) : ∀ (l : List α), (∀ x, x ∈ l → f x = pure (g x)) → List.mapM f l = pure (l.map g)
  | [], _ => rfl
  | x :: l, h => by
    rw [List.mapM_cons, h x (by simp), mapM_run f g l (fun y hy => h y (by simp [hy]))]
    rfl

def slotOf (a : Act) : ResultVar → Value
  | .tmp t => a.tmps.getD t undef
  | .cell _ _ => undef

def resV : List Value → Value
  | [v] => v
  | vs => .tuple vs.toArray

theorem resV_eq (x : Array Value) : (if h : x.size = 1 then x[0] else .tuple x) = resV x.toList := by
  obtain ⟨l⟩ := x
  match l with
  | [] => rfl
  | [v] => rfl
  | v :: v' :: l => rw [dif_neg (by simp)]; rfl

theorem results_eq (P : Program) (w : World) (a : Act) (fn : Func) (hg : ∀ x ∈ fn.results.toList, ∃ t, x = .tmp t) :
    (results fn a.tmps).run P w = .ok (resV (fn.results.toList.map (slotOf a))) w := by
  unfold results
  rw [Array.mapM_eq_mapM_toList, mapM_run _ (slotOf a) fn.results.toList (by rintro x hx; obtain ⟨t, rfl⟩ := hg x hx; rfl)]
  show Result.ok (if h : (fn.results.toList.map (slotOf a)).toArray.size = 1 then (fn.results.toList.map (slotOf a)).toArray[0] else .tuple (fn.results.toList.map (slotOf a)).toArray) w = _
  rw [resV_eq]

theorem results_run {c : Cx} {σ : St} {L : Locs} {a : Act} {w : World} (I : Inv c σ L a w) (fn : Func) (y : PV) (h : RetLe c σ fn.results.toList y) :
    ∃ v, (results fn a.tmps).run c.P w = .ok v w ∧ Rep w (fun b => c.ok0 b ∨ (c.w0.heap.size ≤ b ∧ b < w.heap.size)) y v := by
  have key := results_eq c.P w a fn
  generalize hrs : fn.results.toList = rs at h key
  rcases h with ⟨rfl, rfl⟩ | ⟨t, rfl, h⟩ | ⟨n, f, rfl, h2, hn, hf⟩ | ⟨t, ty, rfl, h⟩
  · exact ⟨_, key (by simp), rfl⟩
  · exact ⟨_, key (by simp), h L a w I _ (I.tmps t)⟩
  · match rs, h2, key with
    | r :: r' :: rs, _, key =>
      refine ⟨_, key ?_, ?_⟩
      · intro x hx
        obtain ⟨j, hj, he⟩ := List.mem_iff_getElem.mp hx
        obtain ⟨t, ht, _⟩ := hf j (by omega)
        rw [List.getElem?_eq_getElem hj] at ht
        exact ⟨t, by rw [← he]; exact Option.some.inj ht⟩
      · refine ⟨_, rfl, by simpa using hn, fun j hj => ?_⟩
        obtain ⟨t, ht, hfz⟩ := hf j hj
        have : ((r :: r' :: rs).map (slotOf a)).toArray.getD j undef = a.tmps.getD t undef := by
          rw [Array.getD_eq_getD_getElem?, List.getElem?_toArray, List.getElem?_map, ht]
          rfl
        have h3 := hfz L a w I _ (I.tmps t)
        rw [← this] at h3
        exact h3
  · obtain ⟨b, q, v, h1, h2, h3⟩ := h L a w I
    refine ⟨v, ?_, h3⟩
    unfold results
    rw [Array.mapM_eq_mapM_toList, hrs, List.mapM_cons, List.mapM_nil]
    dsimp only
    rw [h1]
    have e : (asAddr (.pointer (some ⟨b, q, none⟩)) : Sem Addr) = pure ⟨b, q, none⟩ := rfl
    simp [e, Sem.run_bind, h2, Sem.run_pure]

/-- The state in which a body begins. -/
def initT (as : List PV) : Nat → AV := fun k => match as[k]? with
  | some x => .p x
  | none => .p (.val undef)

def init (as : List PV) : St := ⟨initT as, fun _ => none, fun _ => false⟩

theorem init_inv (pr : Pr) {fn : Func} {as : List PV} (hl : as.length ≤ fn.ntmps) (w : World) (ok : Nat → Prop) (vs : Array Value) (hok : ∀ b, ok b → b < w.heap.size) (hG : ∀ g, Rep w ok (pr.G g) (gptr g)) (hr : RepL w ok as vs.toList) :
    Inv { toPr := pr, w0 := w, ok0 := ok, N := fn.ntmps, hok := hok, hG := hG } (init as) (fun _ => none) { tmps := vs ++ Array.replicate (fn.ntmps - vs.size) undef, defers := [] } w := by
  let c : Cx := { toPr := pr, w0 := w, ok0 := ok, N := fn.ntmps, hok := hok, hG := hG }
  have hlen : as.length = vs.size := by rw [hr.length, Array.length_toList]
  refine ⟨Below.refl _ _, rfl, by simp; show _ = fn.ntmps; omega, fun _ _ => rfl, fun _ _ h => by simp [init] at h, fun _ _ h => by simp at h, fun _ _ _ h => by simp [init] at h, fun k => ?_⟩
  show RepA w _ _ (initT as k) _
  unfold initT
  have hmono : ∀ x v, Rep w ok x v → Rep w ((init as).ok c (fun _ => none) w) x v :=
    Rep.mono (fun _ _ => rfl) (fun b hb => ⟨.inl hb, fun ⟨i, _, hL⟩ => by simp at hL⟩)
  cases hk : as[k]? with
  | some x =>
    obtain ⟨v, hv, hrep⟩ := hr.get k x hk
    have hkl : k < vs.size := by
      rw [← hlen]; exact (List.getElem?_eq_some_iff.mp hk).1
    have : (vs ++ Array.replicate (fn.ntmps - vs.size) undef).getD k undef = v := by
      rw [Array.getD_eq_getD_getElem?, Array.getElem?_append_left hkl]
      rw [Array.getElem?_toList] at hv
      rw [hv]; rfl
    show Rep w _ x _
    rw [this]
    exact hmono _ _ hrep
  | none =>
    have hkl : vs.size ≤ k := by
      rw [← hlen]; exact List.getElem?_eq_none_iff.mp hk
    show _ = _
    rw [Array.getD_eq_getD_getElem?, Array.getElem?_append_right hkl]
    by_cases hk2 : k - vs.size < fn.ntmps - vs.size
    · simp [hk2]
    · simp [hk2]

/-- THE CONTRACT OF A FUNCTION OUT OF THE RUN OF ITS BODY. -/
theorem callSpec_of (pr : Pr) {f : FuncId} {fn : Func} {d : Code} {as : List PV} {res : PV} (hf : pr.P.funcs[f]? = some fn) (hb : fn.body = some d)
    (hn : (fn.name == "runtime.NumGoroutine") = false) (hl : Nat.ble as.length fn.ntmps = true)
    (h : ∀ w0 ok0 hok hG, Ev { toPr := pr, w0 := w0, ok0 := ok0, N := fn.ntmps, hok := hok, hG := hG } d (Fin { toPr := pr, w0 := w0, ok0 := ok0, N := fn.ntmps, hok := hok, hG := hG } fn.results.toList res) (init as)) : CallSpec pr.P pr.G f as res := by
  refine ⟨⟨fn, hf, hn, by simp [hb]⟩, fun w ok vs hok hG hr => ?_⟩
  replace hl := Nat.le_of_ble_eq_true hl
  let c : Cx := { toPr := pr, w0 := w, ok0 := ok, N := fn.ntmps, hok := hok, hG := hG }
  have I : Inv c (init as) (fun _ => none) { tmps := vs ++ Array.replicate (fn.ntmps - vs.size) undef, defers := [] } w := init_inv pr hl w ok vs hok hG hr
  refine calls_of_wp hf hb (wp_mono (h w ok hok hG _ _ _ I) fun e a' w' ⟨σ', L', hq, I'⟩ => ?_)
  cases e with
  | normal =>
    obtain ⟨v, hv, hrep⟩ := results_run I' fn res hq
    exact ⟨I'.defers, v, hv, v, rfl, I'.below, hrep⟩
  | ret =>
    obtain ⟨v, hv, hrep⟩ := results_run I' fn res hq
    exact ⟨I'.defers, v, hv, v, rfl, I'.below, hrep⟩
  | exit id => exact hq.elim
  | goto l => exact hq.elim
  | panic ch => exact hq.elim
  | outgrown => exact hq.elim

/-- A result that is a slice of the call's own, given to the caller for good. -/
def RetO (c : Cx) (σ : St) (rs : List ResultVar) (n s : Nat) (g : Nat → PV) : Prop :=
  (∃ t, rs = [.tmp t] ∧ σ.t t = .p (.val (.slice none 0 0)) ∧ n = 0) ∨
  ∃ t id o, rs = [.tmp t] ∧ σ.t t = .own id 0 n s ∧ σ.h id = some o ∧ n * s ≤ o.n ∧ ∀ j, j < n * s → ∃ x, o.f j = .p (.val x) ∧ g j = .val x

def FinO (c : Cx) (rs : List ResultVar) (n s : Nat) (g : Nat → PV) : Exit → St → Prop
  | .normal, σ | .ret, σ => RetO c σ rs n s g
  | _, _ => False

theorem resultsO_run {c : Cx} {σ : St} {L : Locs} {a : Act} {w : World} (I : Inv c σ L a w) (fn : Func) (n s : Nat) (g : Nat → PV) (h : RetO c σ fn.results.toList n s g) :
    ∃ v B, (results fn a.tmps).run c.P w = .ok v w ∧ (∀ b, B = some b → c.w0.heap.size ≤ b ∧ b < w.heap.size) ∧ OwnRep w B n s g v := by
  have key := results_eq c.P w a fn
  rcases h with ⟨t, hrs, ht, hn⟩ | ⟨t, id, o, hrs, ht, ho, hn, hg⟩
  · rw [hrs] at key
    have hv := I.tmps t
    rw [ht] at hv
    exact ⟨_, none, key (by simp), fun b hb => (by cases hb), hn, none, hv⟩
  rw [hrs] at key
  have key := key (by simp)
  have hv := I.tmps t
  rw [ht] at hv
  obtain ⟨B, hB, hat⟩ := I.live id o ho
  refine ⟨_, B, key, fun b hb => I.own id b (hb ▸ hB), ?_⟩
  show OwnRep w B n s g (a.tmps.getD t undef)
  rcases hv with ⟨h1, h2, h3⟩ | ⟨b, o', h1, h2, h3⟩ | ⟨b, cap, h1, h2, h3, cs, e, h4, h5⟩
  · rw [h1] at hB
    cases hB
    exact ⟨h2, h3⟩
  · rw [h1] at hB
    cases hB
    obtain ⟨cs, e, k1, k2, k3⟩ := hat
    subst h2
    exact ⟨cs, e, k1, by omega, fun j hj => by omega, .inl ⟨rfl, o', h3⟩⟩
  · rw [h1] at hB
    cases hB
    obtain ⟨cs', e', k1, k2, k3⟩ := hat
    rw [h4] at k1
    cases k1
    refine ⟨cs, e, h4, by omega, fun j hj => ?_, .inr ⟨cap, h2, h3, by omega⟩⟩
    obtain ⟨q1, q2⟩ := k3 j (by omega)
    obtain ⟨x, e1, e2⟩ := hg j hj
    rw [e1] at q2
    rw [e2]
    exact ⟨q1, q2⟩

/-- THE CONTRACT OF A FUNCTION WHOSE RESULT IS A NEW SLICE. -/
theorem callSpecO_of (pr : Pr) {f : FuncId} {fn : Func} {d : Code} {as : List PV} {n s : Nat} {g : Nat → PV} (hf : pr.P.funcs[f]? = some fn) (hb : fn.body = some d)
    (hn : (fn.name == "runtime.NumGoroutine") = false) (hl : Nat.ble as.length fn.ntmps = true)
    (h : ∀ w0 ok0 hok hG, Ev { toPr := pr, w0 := w0, ok0 := ok0, N := fn.ntmps, hok := hok, hG := hG } d (FinO { toPr := pr, w0 := w0, ok0 := ok0, N := fn.ntmps, hok := hok, hG := hG } fn.results.toList n s g) (init as)) : CallSpecO pr.P pr.G f as n s g := by
  refine ⟨⟨fn, hf, hn, by simp [hb]⟩, fun w ok vs hok hG hr => ?_⟩
  replace hl := Nat.le_of_ble_eq_true hl
  let c : Cx := { toPr := pr, w0 := w, ok0 := ok, N := fn.ntmps, hok := hok, hG := hG }
  have hlen : as.length = vs.size := by rw [hr.length, Array.length_toList]
  have I : Inv c (init as) (fun _ => none) { tmps := vs ++ Array.replicate (fn.ntmps - vs.size) undef, defers := [] } w := init_inv pr hl w ok vs hok hG hr
  refine calls_of_wp hf hb (wp_mono (h w ok hok hG _ _ _ I) fun e a' w' ⟨σ', L', hq, I'⟩ => ?_)
  cases e with
  | normal =>
    obtain ⟨v, B, hv, hrep⟩ := resultsO_run I' fn n s g hq
    exact ⟨I'.defers, v, hv, v, B, rfl, I'.below, hrep⟩
  | ret =>
    obtain ⟨v, B, hv, hrep⟩ := resultsO_run I' fn n s g hq
    exact ⟨I'.defers, v, hv, v, B, rfl, I'.below, hrep⟩
  | exit id => exact hq.elim
  | goto l => exact hq.elim
  | panic ch => exact hq.elim
  | outgrown => exact hq.elim

end Vinc
