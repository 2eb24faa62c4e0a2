/- The calculus within a round of a range over a function, and the range itself. No condition. -/
import Derived.Test.YtcjaoiiklfbhoaaEwLib
import Derived.Test.YtcjaoiiklfbhoaaSub
import Derived.RangeFuncIn
import Derived.RangeFuncCalls
import Derived.RangeFuncLeaves
import Derived.RangeFuncRecord
import Derived.TacticsIn
import Derived.OrdersIn
namespace Go.EW
open Go.RowKit

/-- The fence of a round; of whatever stands outside. -/
inductive Wid : Fence → Prop
  | out : Wid Fence.wide
  | round (l : Nat) : Wid (Fence.wide.inRound l)
theorem Wid.fn {F : Fence} (h : Wid F) (f : FuncId) : F.fn f := by cases h <;> trivial
theorem Wid.dep {F : Fence} (h : Wid F) : F.depth = none := by cases h <;> rfl
theorem Wid.calls {F : Fence} (h : Wid F) {n : Nat} {P : Program} {f : FuncId} {args : Array Value} {w : World} {R : Ending → World → Prop} (hc : Calls P f args w R) : CallsIn F n P f args w R := by
  cases h with
  | out => exact callsIn_wide.2 hc
  | round l => exact CallsIn.inRound l (callsIn_wide.2 hc)
theorem Wid.rows {F : Fence} (h : Wid F) {n : Nat} {P : Program} {row : String} {args : Array Value} {w : World} {R : Value → World → Prop} (hc : Rows P row args w R) : RowsIn F n P row args w R := by
  have h0 : RowsIn Fence.wide n P row args w R := fun c cs _ => let ⟨v, w', r, s⟩ := hc c cs; ⟨v, w', r, stepsIn_wide.2 s⟩
  cases h with
  | out => exact h0
  | round l => exact h0

def noDefer (o : Oper) : Bool := match o.op with
  | .defer _ => false
  | _ => true
theorem noDefer_spec {o : Oper} (h : noDefer o = true) : ∀ c, o.op ≠ .defer c := by
  intro c e
  rw [noDefer, e] at h
  cases h

theorem op_in {F : Fence} (hF : Wid F) {n : Nat} {P : Program} {o : Oper} {a : Act} {w : World} {K : Act → World → Prop} {Q : Exit → Act → World → Prop} (ho : noDefer o = true) (h : o.wp P a w K Q) : o.wpIn F n P a w K Q := by
  refine ⟨fun f _ => hF.fn f, ?_⟩
  rw [Oper.semAt_eq _ _ _ (noDefer_spec ho)]
  unfold Oper.wp at h
  have hd : ¬ (F.depth.isSome = true) := by rw [hF.dep]; simp
  generalize (execOp a.eval o).run P w = r at *
  cases r with
  | ok x w' =>
    cases x with
    | value v => exact h
    | skip => exact h
    | defer d => exact h
    | enter f args => exact ⟨fun e => absurd e hd, hF.calls h⟩
    | row s args => exact ⟨fun e => absurd e hd, hF.rows h⟩
    | _ => exact h.elim
  | halt x w' => cases x <;> exact h

theorem list_in {F : Fence} (hF : Wid F) {n : Nat} {P : Program} {ops : Array Oper} {Q : Exit → Act → World → Prop} (hL : ¬ LetsOut Q) : ∀ (l : List Oper) (a : Act) (w : World), (l.all noDefer) = true → wpList P ops Q l a w → wpListIn F n P ops Q l a w
  | [], a, w, _, h => h
  | o :: r, a, w, hd, h => by
    rw [List.all_cons, Bool.and_eq_true] at hd
    unfold wpListIn
    unfold wpList at h
    split
    · rename_i hw
      rw [if_pos hw] at h
      rcases h with h | h
      · exact Oper.wpIn_mono (fun a' w' h' => list_in hF hL r a' w' hd.2 h') (op_in hF hd.1 h)
      · exact (hL h.2).elim
    · rename_i hw
      rw [if_neg hw] at h
      exact ⟨fun f _ => hF.fn f, list_in hF hL r _ _ hd.2 h⟩

theorem any_in {F : Fence} (hF : Wid F) {n : Nat} {P : Program} {md : Region.Mode} {ops : Array Oper} {Q : Exit → Act → World → Prop} (hL : ¬ LetsOut Q) (hd : (ops.all noDefer) = true) : ∀ (fuel : Nat) (listed : Array Bool) (a : Act) (w : World), wpAny P md ops Q fuel listed a w → wpAnyIn F n P md ops Q fuel listed a w
  | 0, _, _, _, h => h
  | fuel + 1, listed, a, w, h => by
    refine ⟨h.1, fun i hi => ?_⟩
    have h' := h.2 i hi
    unfold wpOpIn
    unfold wpOp at h'
    cases ho : ops[i]? with
    | none =>
      rw [ho] at h'
      exact any_in hF hL hd fuel _ a w h'
    | some o =>
      rw [ho] at h'
      have hdo : noDefer o = true := by
        have := Array.all_eq_true.1 hd i (Array.getElem?_eq_some_iff.1 ho).1
        rwa [(Array.getElem?_eq_some_iff.1 ho).2] at this
      dsimp only at h' ⊢
      split
      · rename_i hw
        rw [if_pos hw] at h'
        rcases h' with h' | h'
        · exact Oper.wpIn_mono (fun a' w' h2 => any_in hF hL hd fuel _ a' w' h2) (op_in hF hdo h')
        · exact (hL h'.2).elim
      · rename_i hw
        rw [if_neg hw] at h'
        exact ⟨fun f _ => hF.fn f, any_in hF hL hd fuel _ _ _ h'⟩

section
variable {P : Program} {ops : Array Oper} {Q : Exit → Act → World → Prop} {n m : Nat} {env : Env} {w : World} {K : Act → World → Prop} {D : List Deferred} {F : Fence}

/-! ### Control, within a fence -/
theorem i_seq {x y : Code} (h : KW D (Code.wpIn F m P x (Exit.then (Code.wpIn F m P y Q) Q)) n env w) : KW D (Code.wpIn F m P (.seq x y) Q) n env w := fun a ha => wpIn_seq (h a ha)
theorem i_block {id : Nat} {c : Code} (h : KW D (Code.wpIn F m P c (Exit.inBlock id Q)) n env w) : KW D (Code.wpIn F m P (.block id c) Q) n env w := fun a ha => wpIn_block (h a ha)
theorem i_skip (h : KW D (Q .normal) n env w) : KW D (Code.wpIn F m P .skip Q) n env w := fun a ha => wpIn_skip (h a ha)
theorem i_ret (h : KW D (Q .ret) n env w) : KW D (Code.wpIn F m P .ret Q) n env w := fun a ha => wpIn_ret (h a ha)
theorem i_exit {id : Nat} (h : KW D (Q (.exit id)) n env w) : KW D (Code.wpIn F m P (.exit id) Q) n env w := fun a ha => wpIn_exit (h a ha)
theorem i_region {id : Nat} {l : List Oper} (hF : Wid F) (hL : ¬ LetsOut Q) (hd : (l.all noDefer) = true) (h : KW D (wpList P l.toArray Q l) n env w) : KW D (Code.wpIn F m P (.region id l.toArray false) Q) n env w := fun a ha => wpIn_region_lit (list_in hF hL l a w hd (h a ha))
theorem i_cond {c : Operand} {x y : Code} {b : Bool} (hc : ev env c = some (.bool b)) (ht : b = true → KW D (Code.wpIn F m P x Q) n env w) (hf : b = false → KW D (Code.wpIn F m P y Q) n env w) :
    KW D (Code.wpIn F m P (.cond c x y) Q) n env w := fun a ha => by
  have he := ha.ev hc
  cases b
  · exact wpIn_cond_false he (hf rfl a ha)
  · exact wpIn_cond_true he (ht rfl a ha)
theorem i_yes {c : Operand} {x y : Code} {b : Bool} (hc : ev env c = some (.bool b)) (hb : b = true) (h : KW D (Code.wpIn F m P x Q) n env w) : KW D (Code.wpIn F m P (.cond c x y) Q) n env w :=
  i_cond hc (fun _ => h) (fun h => by subst hb; cases h)
theorem i_no {c : Operand} {x y : Code} {b : Bool} (hc : ev env c = some (.bool b)) (hb : b = false) (h : KW D (Code.wpIn F m P y Q) n env w) : KW D (Code.wpIn F m P (.cond c x y) Q) n env w :=
  i_cond hc (fun h => by subst hb; cases h) (fun _ => h)
theorem i_dec {c : Operand} {x y : Code} {p : Prop} [Decidable p] (hc : ev env c = some (.bool (decide p))) (ht : p → KW D (Code.wpIn F m P x Q) n env w) (hf : ¬ p → KW D (Code.wpIn F m P y Q) n env w) :
    KW D (Code.wpIn F m P (.cond c x y) Q) n env w :=
  i_cond hc (fun h => ht (of_decide_eq_true h)) (fun h => hf (of_decide_eq_false h))
theorem i_joinN {σ : Type} (E : σ → Env) (J : σ → World → Prop) {x : Code} (hx : KW D (Code.wpIn F m P x (Exit.then (Join D E J n) Q)) n env w) (hy : ∀ s w', J s w' → KW D (Q .normal) n (E s) w') : KW D (Code.wpIn F m P x Q) n env w :=
  fun a ha => wpIn_mono (hx a ha) (fun e a' w' h => by
    cases e with
    | normal => obtain ⟨s, hf, hj⟩ := h; exact hy s w' hj a' hf
    | exit id => exact h
    | goto l => exact h
    | ret => exact h
    | panic ch => exact h
    | outgrown => exact h)
theorem i_draw {id : Nat} {l : List Oper} (hF : Wid F) (hL : ¬ LetsOut Q) (hd : (l.toArray.all noDefer) = true) (k : Nat) (ord : List (Nat × Bool)) (S : World → Prop) (hm : P.follows .mixedOrders = true) (hB : drawB l.toArray k ord = true)
    (h : ∀ w', Ext w w' → w'.heap.size = w.heap.size → KW D (wpOrd P l.toArray Q k ord S) n env w') : KW D (Code.wpIn F m P (.region id l.toArray true) Q) n env w := by
  intro a ha
  simp only [drawB, Bool.and_eq_true] at hB
  obtain ⟨⟨⟨hsel, hlen⟩, hw⟩, hord⟩ := hB
  have hlen' : ord.length = l.toArray.size := by simpa using hlen
  refine wpIn_region_any hm ?_
  refine any_in hF hL hd _ _ _ _ ?_
  rw [← hlen']
  refine wpAny_of_G (S := S) (n := k) _ _ _ _ (wpAnyG_of_ord hsel (waits_of hw) ord S _ _ _ ⟨by simp [hlen'], fun j oj _ hl => ?_⟩ (by rw [hlen']; exact hord) (h { w with drawn := w.drawn + 1 } ⟨rfl, rfl, rfl, Nat.le_refl _, fun _ _ _ => rfl⟩ rfl a ha))
  rw [getD_replicate_false] at hl
  cases hl
theorem i_loop {σ : Type} (E : σ → Env) (J : σ → World → Prop) (μ : σ → Nat) {c : Code} (s0 : σ) (hE : Sub (E s0) env) (hJ : J s0 w)
    (round : ∀ s w, J s w → KW D (Code.wpIn F m P c (Exit.then (Again D E J μ n s) Q)) n (E s) w) : KW D (Code.wpIn F m P (.loop c) Q) n env w := by
  intro a ha
  let I : Act → World → Prop := fun a w => ∃ s, FitsD D n (E s) a ∧ J s w
  have hmin : ∀ a w, I a w → ∃ s, (FitsD D n (E s) a ∧ J s w) ∧ ∀ s', FitsD D n (E s') a ∧ J s' w → μ s ≤ μ s' := by
    intro a w ⟨s, hs⟩
    have key : ∀ k s, μ s = k → (FitsD D n (E s) a ∧ J s w) → ∃ s, (FitsD D n (E s) a ∧ J s w) ∧ ∀ s', FitsD D n (E s') a ∧ J s' w → μ s ≤ μ s' := by
      intro k
      induction k using Nat.strongRecOn with
      | _ k ih =>
        intro s hm hs
        by_cases hx : ∃ s', (FitsD D n (E s') a ∧ J s' w) ∧ μ s' < μ s
        · obtain ⟨s', h', hlt⟩ := hx
          exact ih (μ s') (hm ▸ hlt) s' rfl h'
        · refine ⟨s, hs, fun s' h' => ?_⟩
          rcases Nat.lt_or_ge (μ s') (μ s) with h | h
          · exact (hx ⟨s', h', h⟩).elim
          · exact h
    exact key _ s rfl hs
  let mm : Act → World → Nat := fun a w => @dite _ (I a w) (Classical.propDecidable _) (fun h => μ (Classical.choose (hmin a w h))) (fun _ => 0)
  refine wpIn_loop I mm ⟨s0, ha.sub hE, hJ⟩ ?_
  intro a w hI
  have hc := Classical.choose_spec (hmin a w hI)
  have hm : mm a w = μ (Classical.choose (hmin a w hI)) := by simp only [mm]; rw [dif_pos hI]
  refine wpIn_mono (round _ w hc.1.2 a hc.1.1) ?_
  intro e a' w' hq
  cases e with
  | normal =>
    obtain ⟨s', hf, hj, hlt⟩ := hq
    have hI' : I a' w' := ⟨s', hf, hj⟩
    refine ⟨hI', ?_⟩
    have hm' : mm a' w' = μ (Classical.choose (hmin a' w' hI')) := by simp only [mm]; rw [dif_pos hI']
    rw [hm, hm']
    exact Nat.lt_of_le_of_lt ((Classical.choose_spec (hmin a' w' hI')).2 s' ⟨hf, hj⟩) hlt
  | exit id => exact hq
  | goto l => exact hq
  | ret => exact hq
  | panic ch => exact hq
  | outgrown => exact hq

/-! ### A function that holds a range over a function -/
/-- What is asked of the body of a function that holds a range: it returns. -/
def postR (P : Program) (fn : Func) (R : Ending → World → Prop) : Exit → Act → World → Prop
  | .normal, a, w => LeavesInM Fence.wide 0 P fn a.tmps R a.defers .returning w
  | .ret, a, w => LeavesInM Fence.wide 0 P fn a.tmps R a.defers .returning w
  | _, _, _ => False
theorem postR_M {fn : Func} {R : Ending → World → Prop} : ∀ e a w, postR P fn R e a w → bodyPostM Fence.wide 0 P fn R e a w := by
  intro e a w h
  cases e <;> first | exact h | exact h.elim
theorem enterM {f : FuncId} {fn : Func} {c : Code} {args : List Value} {R : Ending → World → Prop} (hf : P.funcs[f]? = some fn) (hb : fn.body = some c) (hn : fn.ntmps = n) (hle : Nat.ble args.length n = true)
    (h : KW [] (Code.wp P c (postR P fn R)) n (argsEnv 0 args) w) : Calls P f args.toArray w R := by
  have hle' : args.length ≤ n := by simpa using hle
  refine callsIn_wide.1 (callsIn_of_wp_marks (n := 0) hf hb trivial (wpIn_wide.2 (wp_mono (h _ ⟨⟨?_, ?_⟩, rfl⟩) postR_M)) rfl)
  · simp [hn]; omega
  · intro i v hi
    obtain ⟨_, h2⟩ := look_argsEnv args 0 i v hi
    have hlt := (List.getElem?_eq_some_iff.1 h2).1
    simp only [Nat.sub_zero] at h2 hlt
    rw [Array.getElem?_append, if_pos (by simpa using hlt)]
    simpa using h2

def mark (d : Nat) : List Deferred := [{ target := .collected d, args := #[] }]

theorem results_of {a : Act} {fn : Func} {rs : List ResultVar} {vs : List Value} (ha : Fits n env a) (hrs : fn.results = rs.toArray) (hr : ResV P env w rs vs) : (results fn a.tmps).run P w = .ok (handed vs) w := by
  have h := hr.run ha
  simp only [results_one, hrs, List.mapM_toArray, Sem.run_bind, Sem.run_map, h, Result.andThen]
  rcases vs with _ | ⟨v, _ | ⟨u, r⟩⟩ <;> rfl

/-- Leaving ahead of the range; behind it. -/
theorem retM0 {fn : Func} {R : Ending → World → Prop} {rs : List ResultVar} {vs : List Value} (hrs : fn.results = rs.toArray) (hr : ResV P env w rs vs) (hR : R (.returned (handed vs)) w) : KW [] (postR P fn R .ret) n env w := by
  intro a ha
  show LeavesInM _ _ _ _ _ _ a.defers _ _
  rw [ha.defers]
  exact ⟨_, results_of ha.toFits hrs hr, hR⟩
theorem retM1 {fn : Func} {R : Ending → World → Prop} {rs : List ResultVar} {vs : List Value} {d : Nat} (hrs : fn.results = rs.toArray) (hd : w.heap[d]? = some (.deferred (some []))) (hr : ∀ w', Keep (fun b => b = d) w w' → w'.heap.size = w.heap.size → ResV P env w' rs vs ∧ R (.returned (handed vs)) w') : KW (mark d) (postR P fn R .ret) n env w := by
  intro a ha
  show LeavesInM _ _ _ _ _ _ a.defers _ _
  rw [ha.defers]
  have hk : Keep (fun b => b = d) w (w.putObj d (.deferred none)) := ⟨rfl, rfl, rfl, by simp [World.putObj], fun k _ hne => World.putObj_heap_other (fun e => hne e)⟩
  obtain ⟨h1, h2⟩ := hr _ hk (by simp [World.putObj])
  exact ⟨by simp, .inl ⟨d, _, rfl, run_takeDeferred hd, _, results_of ha.toFits hrs h1, h2⟩⟩

/-! ### The range -/
def Two (d : Nat) : Nat → Prop := fun b => b = d ∨ b = d + 1
def sameAt (d : Nat) (W W' : World) : Prop := W'.heap[d]? = W.heap[d]? ∧ W'.heap[d + 1]? = W.heap[d + 1]?
/-- How a round's body may be left. -/
def roundQ (d : Nat) (J : Nat → World → Prop) (Jx : Code → World → Prop) (i : Nat) (W : World) : Exit → Act → World → Prop
  | .normal, _, W' => sameAt d W W' ∧ J (i + 1) W'
  | .ret, _, W' => sameAt d W W' ∧ Jx .ret W'
  | .exit id, _, W' => sameAt d W W' ∧ Jx (.exit id) W'
  | _, _, _ => False

/-- An iterator's contract: it hands out N values, number i of which is as Pv i says. -/
def Iter (P : Program) (gf : FuncId) (lb : List Value) (N : Nat) (J : Nat → World → Prop) (Pv : Nat → World → Value → Prop) : Prop :=
  ∀ (l m : Nat) (J' : Nat → World → Prop) (Jx' : World → Prop), (∀ i W, J' i W → J i W) → (∀ i W W', J' i W → Ext W W' → J' i W') →
    (∀ i W v, i < N → Pv i W v → J' i W → YieldAt Fence.wide m P l #[v] W (fun e W' => (e = .returned (.bool true) ∧ J' (i + 1) W') ∨ (e = .returned (.bool false) ∧ Jx' W'))) →
    ∀ W, J' 0 W → CallsIn Fence.wide (m + 1) P gf (#[.func (.yield l) #[] #[]] ++ lb.toArray) W (fun e W' => (∃ v, e = .returned v) ∧ (J' N W' ∨ Jx' W'))

theorem keep_put (W : World) (d l : Nat) (o : Obj) (hl : Two d l) : Keep (Two d) W (W.putObj l o) ∧ (W.putObj l o).heap.size = W.heap.size :=
  ⟨⟨rfl, rfl, rfl, by simp [World.putObj], fun k _ hne => World.putObj_heap_other (fun e => hne (e ▸ hl))⟩, by simp [World.putObj]⟩

theorem c_rangeF {g : Operand} {p : Tmp} {assign body : Code} {gf : FuncId} {lb : List Value} [hB : Bod P gf] (N : Nat) (J : Nat → World → Prop) (Jx : Code → World → Prop) (Pv : Nat → World → Value → Prop) (E1 : Value → Env)
    (hg : ev env g = some (.func (.func gf) #[] lb.toArray)) (hp : Nat.blt p n = true)
    (hJ : ∀ i W W', J i W → Keep (Two w.heap.size) W W' → W'.heap.size = W.heap.size → J i W') (hJx : ∀ c W W', Jx c W → Keep (Two w.heap.size) W W' → W'.heap.size = W.heap.size → Jx c W')
    (hPv : ∀ i W W' v, Pv i W v → Keep (Two w.heap.size) W W' → W'.heap.size = W.heap.size → Pv i W' v) (hJe : ∀ i W W', J i W → Ext W W' → J i W') (h0 : ∀ W, Ext w W → W.heap.size = w.heap.size + 2 → J 0 W) (it : Iter P gf lb N J Pv)
    (hassign : ∀ l m v W, KW [] (Code.wpIn (Fence.wide.inRound l) m P assign (Exit.then (fun a₁ w₁ => w₁ = W ∧ FitsD [] n (E1 v) a₁) (fun _ _ _ => False))) n ((p, v) :: env) W)
    (hbody : ∀ l m i v W, w.heap.size + 1 < W.heap.size → i < N → J i W → Pv i W v → KW [] (Code.wpIn (Fence.wide.inRound l) m P body (roundQ w.heap.size J Jx i W)) n (E1 v) W)
    (hdone : ∀ W, J N W → W.heap[w.heap.size]? = some (.deferred (some [])) → KW (mark w.heap.size ++ D) (Q .normal) n env W)
    (hstop : ∀ c W, Jx c W → W.heap[w.heap.size]? = some (.deferred (some [])) → KW (mark w.heap.size ++ D) (Code.wp P c Q) n env W) :
    KW D (Code.wp P (.rangeFunc g #[p] assign body) Q) n env w := by
  intro a ha
  refine wpIn_wide (n := 2).1 (wpIn_rangeFunc (F := Fence.wide) ?_)
  intro fn hfn
  obtain ⟨rec, hrec⟩ : ∃ rec : LoopState → Option Code → Loop, rec = fun st pe => { state := st, pending := pe, fn, tmps := a.tmps, params := #[p], assign, body, defers := w.heap.size } := ⟨_, rfl⟩
  obtain ⟨d, hd⟩ : ∃ d, d = w.heap.size := ⟨_, rfl⟩
  obtain ⟨W1, hW1⟩ : ∃ W1, (w.alloc (.deferred (some []))).alloc (.loop (rec .ready none)) = W1 := ⟨_, rfl⟩
  have hNa := New.of_alloc w (.deferred (some []))
  have hNb := New.of_alloc (w.alloc (.deferred (some []))) (.loop (rec .ready none))
  rw [hW1] at hNb
  have hsa := hNa.size
  have hL1 : W1.heap[d + 1]? = some (.loop (rec .ready none)) := by
    have := hNb.at
    rwa [hsa, ← hd] at this
  have hK1 : W1.heap[d]? = some (.deferred (some [])) := by
    rw [hd]
    exact hNb.ext.at hNa.at
  have hI1 : J 0 W1 := h0 _ (hNa.ext.trans hNb.ext) (by have := hNb.size; omega)
  rw [← hd] at hJ hJx hPv hbody hdone hstop
  have hev : a.eval g = .func (.func gf) #[] lb.toArray := ha.ev hg
  refine ⟨w.heap.size + 1, [{ target := .collected w.heap.size, args := #[] }], W1, { target := .fn (.func gf) lb.toArray, args := #[.func (.yield (w.heap.size + 1)) #[] #[]] }, W1, gf,
    #[.func (.yield (w.heap.size + 1)) #[] #[]] ++ lb.toArray, W1, ?_, ?_, ?_, ?_, (fun e => by cases e), ?_⟩
  · rw [← hW1, hrec]; exact run_enterLoop_outer _ _ _ _ _
  · simp only [resolve, hev]
    simp [Deferred.ofValue, Act.eval]
  · exact fun _ _ => trivial
  · have := run_call (w := W1) hB (#[.func (.yield (w.heap.size + 1)) #[] #[]] ++ lb.toArray)
    simpa [invoke] using this
  rw [← hd]
  refine (it (d + 1) 0 (fun i W => J i W ∧ W.heap[d + 1]? = some (.loop (rec .ready none)) ∧ W.heap[d]? = some (.deferred (some [])))
    (fun W => ∃ c, Jx c W ∧ W.heap[d + 1]? = some (.loop (rec .done (some c))) ∧ W.heap[d]? = some (.deferred (some [])))
    (fun i W h => h.1) (fun i W W' h k => ⟨hJe _ _ _ h.1 k, k.at h.2.1, k.at h.2.2⟩) ?_ W1 ⟨hI1, hL1, hK1⟩).mono ?_
  · rintro i W v hi hpv ⟨hj, hl, hk⟩
    have hlt : d + 1 < W.heap.size := blk_lt hl
    have hy := run_yield (P := P) (args := #[v]) hl (by rw [hrec]; rfl)
    rw [hrec] at hy
    refine ⟨fn, _, assign, body, hy, roundIn_of_wpIn hfn ?_⟩
    have hfit : FitsD [] n ((p, v) :: env) { tmps := (#[p].zip #[v]).foldl (fun t (p, v) => t.setIfInBounds p v) a.tmps, defers := [] } := by
      have h1 := ha.toFits.put hp v
      have e : (a.put (some p) v).tmps = (#[p].zip #[v]).foldl (fun t (p, v) => t.setIfInBounds p v) a.tmps := by simp [Act.put]
      exact ⟨⟨by rw [← e]; exact h1.size, fun i u hi => by rw [← e]; exact h1.here i u hi⟩, rfl⟩
    refine wpIn_mono (hassign (d + 1) 0 v W _ hfit) ?_
    rintro e a1 w1 hq
    cases e with
    | normal =>
      obtain ⟨rfl, hf1⟩ := hq
      refine ⟨_, run_beginRound hl (by rw [hrec]), ?_⟩
      obtain ⟨hkp, hsz⟩ := keep_put w1 d (d + 1) (.loop { rec .ready none with state := .busy }) (.inr rfl)
      have hl2 : (w1.putObj (d + 1) (.loop { rec .ready none with state := .busy })).heap[d + 1]? = some (.loop { rec .ready none with state := .busy }) := World.putObj_heap_same hlt
      have hk2 : (w1.putObj (d + 1) (.loop { rec .ready none with state := .busy })).heap[d]? = some (.deferred (some [])) := (World.putObj_heap_other (by omega)).trans hk
      refine wpIn_mono (hbody (d + 1) 0 i v _ (by rw [hsz]; exact hlt) hi (hJ _ _ _ hj hkp hsz) (hPv _ _ _ _ hpv hkp hsz) a1 hf1) ?_
      have fin : ∀ (jump : Option Code) (W3 : World), sameAt d (w1.putObj (d + 1) (.loop { rec .ready none with state := .busy })) W3 →
          (Instr.endRound (d + 1) jump).run P W3 = .ok (.bool jump.isNone) (W3.putObj (d + 1) (.loop (rec (if jump.isNone then .ready else .done) jump))) ∧
          (W3.putObj (d + 1) (.loop (rec (if jump.isNone then .ready else .done) jump))).heap[d + 1]? = some (.loop (rec (if jump.isNone then .ready else .done) jump)) ∧
          (W3.putObj (d + 1) (.loop (rec (if jump.isNone then .ready else .done) jump))).heap[d]? = some (.deferred (some [])) := fun jump W3 hs => by
        have hl3 := hs.2.trans hl2
        have := run_endRound (P := P) jump hl3
        rw [hrec] at this ⊢
        exact ⟨this, World.putObj_heap_same (blk_lt hl3), (World.putObj_heap_other (by omega)).trans (hs.1.trans hk2)⟩
      rintro e a3 W3 hp3
      cases e with
      | normal =>
        obtain ⟨hs, hj3⟩ := hp3
        obtain ⟨hr, hl4, hk4⟩ := fin none W3 hs
        obtain ⟨hkp3, hsz3⟩ := keep_put W3 d (d + 1) (.loop (rec .ready none)) (.inr rfl)
        exact ⟨_, _, hr, .inl ⟨rfl, hJ _ _ _ hj3 hkp3 hsz3, hl4, hk4⟩⟩
      | ret =>
        obtain ⟨hs, hj3⟩ := hp3
        obtain ⟨hr, hl4, hk4⟩ := fin (some .ret) W3 hs
        obtain ⟨hkp3, hsz3⟩ := keep_put W3 d (d + 1) (.loop (rec .done (some .ret))) (.inr rfl)
        exact ⟨_, _, hr, .inr ⟨rfl, .ret, hJx _ _ _ hj3 hkp3 hsz3, hl4, hk4⟩⟩
      | exit id =>
        obtain ⟨hs, hj3⟩ := hp3
        obtain ⟨hr, hl4, hk4⟩ := fin (some (.exit id)) W3 hs
        obtain ⟨hkp3, hsz3⟩ := keep_put W3 d (d + 1) (.loop (rec .done (some (.exit id)))) (.inr rfl)
        exact ⟨_, _, hr, .inr ⟨rfl, .exit id, hJx _ _ _ hj3 hkp3 hsz3, hl4, hk4⟩⟩
      | goto t => exact hp3.elim
      | panic ch => exact hp3.elim
      | outgrown => exact hp3.elim
    | exit id => exact hq.elim
    | goto t => exact hq.elim
    | ret => exact hq.elim
    | panic ch => exact hq.elim
    | outgrown => exact hq.elim
  · have hfit : FitsD (mark d ++ D) n env { a with defers := [{ target := .collected d, args := #[] }] ++ a.defers } := by
      refine ⟨⟨ha.size, ha.here⟩, ?_⟩
      rw [ha.defers]
      rfl
    rintro e W2 ⟨⟨v, rfl⟩, (⟨hj, hl, hk⟩ | ⟨c, hj, hl, hk⟩)⟩
    · have he := run_endLoop (P := P) hl (by rw [hrec]; simp)
      rw [hrec] at he
      obtain ⟨hkp, hsz⟩ := keep_put W2 d (d + 1) (.loop { rec .ready none with state := .exhausted }) (.inr rfl)
      rw [hrec] at hkp hsz
      exact ⟨none, _, he, hdone _ (hJ _ _ _ hj hkp hsz) ((World.putObj_heap_other (by omega)).trans hk) _ hfit⟩
    · have he := run_endLoop (P := P) hl (by rw [hrec]; simp)
      rw [hrec] at he
      obtain ⟨hkp, hsz⟩ := keep_put W2 d (d + 1) (.loop { rec .done (some c) with state := .exhausted }) (.inr rfl)
      rw [hrec] at hkp hsz
      exact ⟨some c, _, he, wpIn_wide.2 (hstop c _ (hJx _ _ _ hj hkp hsz) ((World.putObj_heap_other (by omega)).trans hk) _ hfit)⟩

def AgainD {σ : Type} (Dd : σ → List Deferred) (E : σ → Env) (J : σ → World → Prop) (μ : σ → Nat) (n : Nat) (s : σ) : Act → World → Prop :=
  fun a w => ∃ s', FitsD (Dd s') n (E s') a ∧ J s' w ∧ μ s' < μ s
theorem e_againD {σ : Type} {Dd : σ → List Deferred} {E : σ → Env} {J : σ → World → Prop} {μ : σ → Nat} {s : σ} (s' : σ) (hD : Dd s' = D) (hE : Sub (E s') env) (hJ : J s' w) (hμ : μ s' < μ s) :
    KW D (AgainD Dd E J μ n s) n env w := fun _ ha => ⟨s', hD ▸ ha.sub hE, hJ, hμ⟩
theorem c_loopD {σ : Type} (Dd : σ → List Deferred) (E : σ → Env) (J : σ → World → Prop) (μ : σ → Nat) {c : Code} (s0 : σ) (hD : Dd s0 = D) (hE : Sub (E s0) env) (hJ : J s0 w)
    (round : ∀ s w, J s w → KW (Dd s) (Code.wp P c (Exit.then (AgainD Dd E J μ n s) Q)) n (E s) w) : KW D (Code.wp P (.loop c) Q) n env w := by
  intro a ha
  let I : Act → World → Prop := fun a w => ∃ s, FitsD (Dd s) n (E s) a ∧ J s w
  have hmin : ∀ a w, I a w → ∃ s, (FitsD (Dd s) n (E s) a ∧ J s w) ∧ ∀ s', FitsD (Dd s') n (E s') a ∧ J s' w → μ s ≤ μ s' := by
    intro a w ⟨s, hs⟩
    have key : ∀ k s, μ s = k → (FitsD (Dd s) n (E s) a ∧ J s w) → ∃ s, (FitsD (Dd s) n (E s) a ∧ J s w) ∧ ∀ s', FitsD (Dd s') n (E s') a ∧ J s' w → μ s ≤ μ s' := by
      intro k
      induction k using Nat.strongRecOn with
      | _ k ih =>
        intro s hm hs
        by_cases hx : ∃ s', (FitsD (Dd s') n (E s') a ∧ J s' w) ∧ μ s' < μ s
        · obtain ⟨s', h', hlt⟩ := hx
          exact ih (μ s') (hm ▸ hlt) s' rfl h'
        · refine ⟨s, hs, fun s' h' => ?_⟩
          rcases Nat.lt_or_ge (μ s') (μ s) with h | h
          · exact (hx ⟨s', h', h⟩).elim
          · exact h
    exact key _ s rfl hs
  let mm : Act → World → Nat := fun a w => @dite _ (I a w) (Classical.propDecidable _) (fun h => μ (Classical.choose (hmin a w h))) (fun _ => 0)
  refine wp_loop I mm ⟨s0, hD.symm ▸ ha.sub hE, hJ⟩ ?_
  intro a w hI
  have hc := Classical.choose_spec (hmin a w hI)
  have hm : mm a w = μ (Classical.choose (hmin a w hI)) := by simp only [mm]; rw [dif_pos hI]
  refine wp_mono (round _ w hc.1.2 a hc.1.1) ?_
  intro e a' w' hq
  cases e with
  | normal =>
    obtain ⟨s', hf, hj, hlt⟩ := hq
    have hI' : I a' w' := ⟨s', hf, hj⟩
    refine ⟨hI', ?_⟩
    have hm' : mm a' w' = μ (Classical.choose (hmin a' w' hI')) := by simp only [mm]; rw [dif_pos hI']
    rw [hm, hm']
    exact Nat.lt_of_le_of_lt ((Classical.choose_spec (hmin a' w' hI')).2 s' ⟨hf, hj⟩) hlt
  | exit id => exact hq
  | goto l => exact hq
  | ret => exact hq
  | panic ch => exact hq
  | outgrown => exact hq

def marks (ds : List Nat) : List Deferred := ds.map fun d => { target := .collected d, args := #[] }
theorem retMs {fn : Func} {R : Ending → World → Prop} {rs : List ResultVar} {vs : List Value} (ds : List Nat) (hn : ds.Nodup) (hrs : fn.results = rs.toArray) (hd : ∀ d ∈ ds, w.heap[d]? = some (.deferred (some [])))
    (hr : ∀ w', Keep (fun b => b ∈ ds) w w' → w'.heap.size = w.heap.size → ResV P env w' rs vs ∧ R (.returned (handed vs)) w') : KW (marks ds) (postR P fn R .ret) n env w := by
  intro a ha
  show LeavesInM _ _ _ _ _ _ a.defers _ _
  rw [ha.defers]
  have key : ∀ (r : List Nat) (w1 : World), r.Nodup → (∀ d ∈ r, d ∈ ds) → (∀ d ∈ r, w1.heap[d]? = some (.deferred (some []))) → Keep (fun b => b ∈ ds) w w1 → w1.heap.size = w.heap.size → LeavesInM Fence.wide 0 P fn a.tmps R (marks r) .returning w1 := by
    intro r
    induction r with
    | nil =>
      intro w1 _ _ _ hk hs
      obtain ⟨h1, h2⟩ := hr w1 hk hs
      exact ⟨_, results_of ha.toFits hrs h1, h2⟩
    | cons d r ih =>
      intro w1 hnd hin hdd hk hs
      obtain ⟨hnd1, hnd2⟩ := List.nodup_cons.1 hnd
      refine ⟨by simp, .inl ⟨d, _, rfl, run_takeDeferred (hdd d (by simp)), ih _ hnd2 (fun x hx => hin x (by simp [hx])) (fun x hx => ?_) ?_ ?_⟩⟩
      · exact (World.putObj_heap_other (fun e => hnd1 (by cases e; exact hx))).trans (hdd x (by simp [hx]))
      · exact hk.trans (G := fun b => b = d) ⟨rfl, rfl, rfl, by simp [World.putObj], fun k _ hne => World.putObj_heap_other (fun e => hne e)⟩ (fun x _ e => e ▸ hin d (by simp))
      · simpa [World.putObj] using hs
  exact key ds w hn (fun _ h => h) hd (Keep.refl _ _) rfl

/-- Leaving with a result in a variable of one cell. -/
theorem retMc {fn : Func} {R : Ending → World → Prop} {t : Tmp} {T : TypeId} {td : TypeDesc} {b : Nat} {v : Value} (ds : List Nat) (hn : ds.Nodup) (hrs : fn.results = #[.cell t T]) [hu : Und P T td] (h1 : oneD td = true) (hv : look env t = some (.pointer (some ⟨b, 0, none⟩)))
    (hb : w.cell? ⟨b, 0, none⟩ = some v) (hd : ∀ d ∈ ds, w.heap[d]? = some (.deferred (some []))) (hR : ∀ w', Keep (fun b => b ∈ ds) w w' → R (.returned v) w') : KW (marks ds) (postR P fn R .ret) n env w :=
  retMs (rs := [.cell t T]) (vs := [v]) ds hn hrs hd (fun w' hk _ => ⟨⟨_, v, [], hv, run_loadVar1 hu h1 (hk.cell hb (fun e => by
    have h2 := hd _ e
    unfold World.cell? at hb
    dsimp only at hb
    rw [h2] at hb
    cases hb)), rfl, rfl⟩, hR w' hk⟩)
theorem c_joinD {σ : Type} {D' : List Deferred} (E : σ → Env) (J : σ → World → Prop) {x : Code} (hx : KW D (Code.wp P x (Exit.then (Join D' E J n) Q)) n env w) (hy : ∀ s w', J s w' → KW D' K n (E s) w') : KW D (Code.wp P x (Exit.then K Q)) n env w :=
  fun a ha => wp_mono (hx a ha) (fun e a' w' h => by
    cases e with
    | normal => obtain ⟨s, hf, hj⟩ := h; exact hy s w' hj a' hf
    | exit id => exact h
    | goto l => exact h
    | ret => exact h
    | panic ch => exact h
    | outgrown => exact h)
/-- A function value held against nil. -/
theorem y_eqlNil0 {t yt ty : TypeId} {td : TypeDesc} {x y : Operand} [hu : Und P t td] (hf : (match td with | .func _ _ _ => true | _ => false) = true) (hx : ev env x = some .nilFunc) (hy : ev env y = some .nilFunc) (hg : P.eqGuardType P.depth t = false) : Yld P n env w ty (.binOp .eql t x y yt) (.bool true) := fun z _ _ _ _ hz => by
  cases td <;> simp at hf
  have : (Op.equal t .nilFunc .nilFunc).run P w = .ok true w := by
    show (Op.equalIn (9999 + 1) t _ _).run P w = _
    generalize 9999 = k
    simp only [Op.equalIn, Sem.run_bind, run_und hu, Result.andThen_ok, Sem.run_pure]
  simp [execOp, hz.ev hx, hz.ev hy, eqGuard, hg, binOp, this]
theorem y_eqlNil1 {t yt ty : TypeId} {td : TypeDesc} {x y : Operand} {f : Fn} {A B : Array Value} [hu : Und P t td] (hf : (match td with | .func _ _ _ => true | _ => false) = true) (hx : ev env x = some (.func f A B)) (hy : ev env y = some .nilFunc) (hg : P.eqGuardType P.depth t = false) : Yld P n env w ty (.binOp .eql t x y yt) (.bool false) := fun z _ _ _ _ hz => by
  cases td <;> simp at hf
  have : (Op.equal t (.func f A B) .nilFunc).run P w = .ok false w := by
    show (Op.equalIn (9999 + 1) t _ _).run P w = _
    generalize 9999 = k
    simp only [Op.equalIn, Sem.run_bind, run_und hu, Result.andThen_ok, Sem.run_pure]
  simp [execOp, hz.ev hx, hz.ev hy, eqGuard, hg, binOp, this]

/-! ### The iterator's side -/
theorem enterIn {f : FuncId} {fn : Func} {c : Code} {args : List Value} {R : Ending → World → Prop} (hf : P.funcs[f]? = some fn) (hb : fn.body = some c) (hn : fn.ntmps = n) (hle : Nat.ble args.length n = true)
    (h : KW [] (Code.wpIn Fence.wide m P c (bodyPost P fn R)) n (argsEnv 0 args) w) : CallsIn Fence.wide m P f args.toArray w R := by
  have hle' : args.length ≤ n := by simpa using hle
  refine callsIn_of_wp hf hb trivial (h _ ⟨⟨?_, ?_⟩, rfl⟩) rfl
  · simp [hn]; omega
  · intro i v hi
    obtain ⟨_, h2⟩ := look_argsEnv args 0 i v hi
    have hlt := (List.getElem?_eq_some_iff.1 h2).1
    simp only [Nat.sub_zero] at h2 hlt
    rw [Array.getElem?_append, if_pos (by simpa using hlt)]
    simpa using h2

theorem i_regionY {id : Nat} {l : List Oper} (h : KW D (wpListIn F m P l.toArray Q l) n env w) : KW D (Code.wpIn F m P (.region id l.toArray false) Q) n env w := fun a ha => wpIn_region_lit (h a ha)
theorem li_nil (h : KW D (Q .normal) n env w) : KW D (wpListIn F m P ops Q []) n env w := h
theorem li_step {o : Oper} {rest : List Oper} (hF : Wid F) (hL : ¬ LetsOut Q) (hd : noDefer o = true) (h : StepW D P ops Q o (wpListIn F m P ops Q rest) n env w) : KW D (wpListIn F m P ops Q (o :: rest)) n env w := by
  intro a ha
  have h := h a ha
  unfold wpListIn
  split
  · rename_i hw
    rw [if_pos hw] at h
    rcases h with h | h
    · exact op_in hF hd h
    · exact (hL h.2).elim
  · rename_i hw
    rw [if_neg hw] at h
    exact ⟨fun f _ => hF.fn f, h⟩
theorem li_rest {l : List Oper} (hF : Wid F) (hL : ¬ LetsOut Q) (hd : (l.all noDefer) = true) (h : KW D (wpList P ops Q l) n env w) : KW D (wpListIn F m P ops Q l) n env w := fun a ha => list_in hF hL l a w hd (h a ha)
/-- yield is called. -/
theorem li_yield {l k d : Nat} {f : Operand} {v : Value} {args : List Operand} {argTypes : Array TypeId} {ty : TypeId} {pos : String} {aft : Array Edge} {rest : List Oper} {R : Ending → World → Prop} (hf : ev env f = some (.func (.yield l) #[] #[])) (hargs : evs env args = some [v]) (hd : Nat.blt d n = true)
    (hy : YieldAt Fence.wide k P l #[v] w R) (hK : ∀ e w', R e w' → ∃ u, e = .returned u ∧ KW D (wpListIn Fence.wide (k + 1) P ops Q rest) n ((d, u) :: env) w') :
    KW D (wpListIn Fence.wide (k + 1) P ops Q (⟨some d, .call { callee := .value f, args := args.toArray, argTypes := argTypes }, ty, pos, aft, none⟩ :: rest)) n env w := by
  intro a ha
  obtain ⟨fn, tmps, assign, body, hrun, hR⟩ := hy
  unfold wpListIn
  rw [if_pos (by simp [Region.wanted])]
  refine ⟨fun _ _ => trivial, ?_⟩
  rw [Oper.semAt_eq _ _ _ (by intro c e; cases e)]
  have hx : (execOp a.eval ⟨some d, .call { callee := .value f, args := args.toArray, argTypes := argTypes }, ty, pos, aft, none⟩).run P w = .ok (.round l fn tmps assign body) w := by
    simp [execOp, resolve, Deferred.ofValue, ha.ev hf, ha.evsL hargs, invoke, hrun]
  rw [hx]
  refine ⟨(fun e => by cases e), hR.mono (fun e w' he => ?_)⟩
  obtain ⟨u, rfl, h⟩ := hK e w' he
  exact h _ (ha.put hd u)
end
end Go.EW
