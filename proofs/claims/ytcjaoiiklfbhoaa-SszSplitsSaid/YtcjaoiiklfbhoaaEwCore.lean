/- A calculus for walking translated Go code with an explicit environment: what is known of the temporaries is a list of pairs, what is known of memory is a world. No condition. -/
import Derived.WalkKit
namespace Go.EW
open Go.RowKit

abbrev Env := List (Nat × Value)

/-- What is known of temporary n. -/
def look : Env → Nat → Option Value
  | [], _ => none
  | (i, v) :: r, n => bif Nat.beq i n then some v else look r n

theorem look_hit (i : Nat) (v : Value) (r : Env) : look ((i, v) :: r) i = some v := by simp [look]
theorem look_miss {i j : Nat} (v : Value) (r : Env) (h : i ≠ j) : look ((i, v) :: r) j = look r j := by
  have : Nat.beq i j = false := by
    cases hb : Nat.beq i j with
    | false => rfl
    | true => exact (h (Nat.eq_of_beq_eq_true hb)).elim
  simp [look, this]

/-- What an operand holds. -/
def ev (env : Env) : Operand → Option Value
  | .tmp t => look env t
  | .const v => some v
  | .global g => some (.pointer (some ⟨g, 0, none⟩))
  | .func f => some (.func (.func f) #[] #[])

def evs (env : Env) : List Operand → Option (List Value)
  | [] => some []
  | x :: r => match ev env x with
    | some v => match evs env r with
      | some vs => some (v :: vs)
      | none => none
    | none => none

/-- Parts with their places. -/
def evp (env : Env) : List (Nat × Operand) → Option (List (Nat × Value))
  | [] => some []
  | (i, x) :: r => match ev env x with
    | some v => match evp env r with
      | some vs => some ((i, v) :: vs)
      | none => none
    | none => none

def evo (env : Env) : Option Operand → Option (Option Value)
  | none => some none
  | some x => match ev env x with
    | some v => some (some v)
    | none => none

/-- The frame holds what env says. -/
structure Fits (n : Nat) (env : Env) (a : Act) : Prop where
  size : a.tmps.size = n
  here : ∀ i v, look env i = some v → a.tmps[i]? = some v

/-- .. and its deferred calls are D. -/
structure FitsD (D : List Deferred) (n : Nat) (env : Env) (a : Act) : Prop extends Fits n env a where
  defers : a.defers = D

theorem Fits.ev {n : Nat} {env : Env} {a : Act} (h : Fits n env a) {x : Operand} {v : Value} (hx : ev env x = some v) : a.eval x = v := by
  cases x with
  | tmp t =>
    have := h.here t v hx
    simp [Act.eval, this]
  | const u => cases hx; rfl
  | global g => cases hx; rfl
  | func f => cases hx; rfl

theorem Fits.evsL {n : Nat} {env : Env} {a : Act} (h : Fits n env a) : ∀ {xs : List Operand} {vs : List Value}, evs env xs = some vs → xs.map a.eval = vs
  | [], vs, hx => by simp [evs] at hx; simp [hx]
  | x :: r, vs, hx => by
    simp only [evs] at hx
    split at hx
    · rename_i v hv
      split at hx
      · rename_i us hu
        simp only [Option.some.injEq] at hx
        subst hx
        simp [h.ev hv, h.evsL hu]
      · cases hx
    · cases hx

theorem Fits.evs {n : Nat} {env : Env} {a : Act} (h : Fits n env a) {xs : List Operand} {vs : List Value} (hx : EW.evs env xs = some vs) : xs.toArray.map a.eval = vs.toArray := by
  rw [List.map_toArray, h.evsL hx]

theorem Fits.evpL {n : Nat} {env : Env} {a : Act} (h : Fits n env a) : ∀ {xs : List (Nat × Operand)} {vs : List (Nat × Value)}, evp env xs = some vs → xs.map (fun p => (p.1, a.eval p.2)) = vs
  | [], vs, hx => by simp [evp] at hx; simp [hx]
  | (i, x) :: r, vs, hx => by
    simp only [evp] at hx
    split at hx
    · rename_i v hv
      split at hx
      · rename_i us hu
        simp only [Option.some.injEq] at hx
        subst hx
        simp [h.ev hv, h.evpL hu]
      · cases hx
    · cases hx

theorem Fits.evp {n : Nat} {env : Env} {a : Act} (h : Fits n env a) {xs : List (Nat × Operand)} {vs : List (Nat × Value)} (hx : EW.evp env xs = some vs) : xs.toArray.map (fun p => (p.1, a.eval p.2)) = vs.toArray := by
  rw [List.map_toArray, h.evpL hx]

theorem Fits.evo {n : Nat} {env : Env} {a : Act} (h : Fits n env a) {x : Option Operand} {v : Option Value} (hx : EW.evo env x = some v) : x.map a.eval = v := by
  cases x with
  | none => simpa [EW.evo] using hx
  | some x =>
    simp only [EW.evo] at hx
    split at hx
    · rename_i u hu
      simp only [Option.some.injEq] at hx
      subst hx
      simp [h.ev hu]
    · cases hx

theorem Fits.put {n : Nat} {env : Env} {a : Act} (h : Fits n env a) {d : Nat} (hd : Nat.blt d n = true) (v : Value) : Fits n ((d, v) :: env) (a.put (some d) v) := by
  have hd' : d < n := by simpa [Nat.blt_eq] using hd
  refine ⟨by simp [Act.put, h.size], ?_⟩
  intro i u hi
  by_cases hid : d = i
  · subst hid
    rw [look_hit] at hi
    cases hi
    simp [Act.put, h.size, hd']
  · rw [look_miss _ _ hid] at hi
    simp [Act.put, hid, h.here i u hi]

theorem FitsD.put {D : List Deferred} {n : Nat} {env : Env} {a : Act} (h : FitsD D n env a) {d : Nat} (hd : Nat.blt d n = true) (v : Value) : FitsD D n ((d, v) :: env) (a.put (some d) v) := ⟨h.toFits.put hd v, by simp [Act.put, h.defers]⟩
theorem FitsD.putNone {D : List Deferred} {n : Nat} {env : Env} {a : Act} (h : FitsD D n env a) (v : Value) : FitsD D n env (a.put none v) := h

/-- Everything that E says, env says. -/
def Sub : Env → Env → Prop
  | [], _ => True
  | (i, v) :: r, env => look env i = some v ∧ Sub r env

theorem Sub.look : ∀ {E env : Env}, Sub E env → ∀ i v, EW.look E i = some v → EW.look env i = some v
  | [], _, _, i, v, h => by simp [EW.look] at h
  | (j, u) :: r, env, hs, i, v, h => by
    by_cases hij : j = i
    · subst hij
      rw [look_hit] at h
      cases h
      exact hs.1
    · rw [look_miss _ _ hij] at h
      exact hs.2.look i v h

theorem Fits.sub {n : Nat} {env E : Env} {a : Act} (h : Fits n env a) (hs : Sub E env) : Fits n E a := ⟨h.size, fun i v hi => h.here i v (hs.look i v hi)⟩
theorem FitsD.sub {D : List Deferred} {n : Nat} {env E : Env} {a : Act} (h : FitsD D n env a) (hs : Sub E env) : FitsD D n E a := ⟨h.toFits.sub hs, h.defers⟩

/-- What is to be shown of a continuation, whatever frame holds what env says. -/
def KW (D : List Deferred) (K : Act → World → Prop) (n : Nat) (env : Env) (w : World) : Prop := ∀ a, FitsD D n env a → K a w

section
variable {P : Program} {ops : Array Oper} {Q : Exit → Act → World → Prop} {n : Nat} {env : Env} {w : World} {K : Act → World → Prop} {D : List Deferred}

theorem KW.sub {E : Env} (h : KW D K n E w) (hs : Sub E env) : KW D K n env w := fun a ha => h a (ha.sub hs)

/-! ### Control -/

theorem c_seq {x y : Code} (h : KW D (Code.wp P x (Exit.then (Code.wp P y Q) Q)) n env w) : KW D (Code.wp P (.seq x y) Q) n env w := fun a ha => wp_seq (h a ha)
theorem c_block {id : Nat} {c : Code} (h : KW D (Code.wp P c (Exit.inBlock id Q)) n env w) : KW D (Code.wp P (.block id c) Q) n env w := fun a ha => wp_block (h a ha)
theorem c_skip (h : KW D (Q .normal) n env w) : KW D (Code.wp P .skip Q) n env w := fun a ha => wp_skip (h a ha)
theorem c_ret (h : KW D (Q .ret) n env w) : KW D (Code.wp P .ret Q) n env w := fun a ha => wp_ret (h a ha)
theorem c_exit {id : Nat} (h : KW D (Q (.exit id)) n env w) : KW D (Code.wp P (.exit id) Q) n env w := fun a ha => wp_exit (h a ha)
theorem c_region {id : Nat} {l : List Oper} (h : KW D (wpList P l.toArray Q l) n env w) : KW D (Code.wp P (.region id l.toArray false) Q) n env w := fun a ha => wp_region_lit (h a ha)
theorem c_nil (h : KW D (Q .normal) n env w) : KW D (wpList P ops Q []) n env w := h

theorem c_cond {c : Operand} {x y : Code} {b : Bool} (hc : ev env c = some (.bool b)) (ht : b = true → KW D (Code.wp P x Q) n env w) (hf : b = false → KW D (Code.wp P y Q) n env w) :
    KW D (Code.wp P (.cond c x y) Q) n env w := fun a ha => by
  have he := ha.ev hc
  cases b
  · exact wp_cond_false he (hf rfl a ha)
  · exact wp_cond_true he (ht rfl a ha)

theorem c_yes {c : Operand} {x y : Code} {b : Bool} (hc : ev env c = some (.bool b)) (hb : b = true) (h : KW D (Code.wp P x Q) n env w) : KW D (Code.wp P (.cond c x y) Q) n env w :=
  c_cond hc (fun _ => h) (fun h => by subst hb; cases h)
theorem c_no {c : Operand} {x y : Code} {b : Bool} (hc : ev env c = some (.bool b)) (hb : b = false) (h : KW D (Code.wp P y Q) n env w) : KW D (Code.wp P (.cond c x y) Q) n env w :=
  c_cond hc (fun h => by subst hb; cases h) (fun _ => h)
/-- A test of a proposition: decided by a fact, or both ways. -/
theorem c_decT {c : Operand} {x y : Code} {p : Prop} [Decidable p] (hc : ev env c = some (.bool (decide p))) (hp : p) (h : KW D (Code.wp P x Q) n env w) : KW D (Code.wp P (.cond c x y) Q) n env w :=
  c_cond hc (fun _ => h) (fun e => absurd hp (of_decide_eq_false e))
theorem c_decF {c : Operand} {x y : Code} {p : Prop} [Decidable p] (hc : ev env c = some (.bool (decide p))) (hp : ¬ p) (h : KW D (Code.wp P y Q) n env w) : KW D (Code.wp P (.cond c x y) Q) n env w :=
  c_cond hc (fun e => absurd (of_decide_eq_true e) hp) (fun _ => h)
theorem c_dec {c : Operand} {x y : Code} {p : Prop} [Decidable p] (hc : ev env c = some (.bool (decide p))) (ht : p → KW D (Code.wp P x Q) n env w) (hf : ¬ p → KW D (Code.wp P y Q) n env w) :
    KW D (Code.wp P (.cond c x y) Q) n env w :=
  c_cond hc (fun h => ht (of_decide_eq_true h)) (fun h => hf (of_decide_eq_false h))

/-- A loop: states s, what the frame holds at state s, what holds of s and the world, a measure. -/
def Again {σ : Type} (D : List Deferred) (E : σ → Env) (J : σ → World → Prop) (μ : σ → Nat) (n : Nat) (s : σ) : Act → World → Prop :=
  fun a w => ∃ s', FitsD D n (E s') a ∧ J s' w ∧ μ s' < μ s

theorem c_loop {σ : Type} (E : σ → Env) (J : σ → World → Prop) (μ : σ → Nat) {c : Code} (s0 : σ) (hE : Sub (E s0) env) (hJ : J s0 w)
    (round : ∀ s w, J s w → KW D (Code.wp P c (Exit.then (Again D E J μ n s) Q)) n (E s) w) : KW D (Code.wp P (.loop c) Q) n env w := by
  intro a ha
  let I : Act → World → Prop := fun a w => ∃ s, FitsD D n (E s) a ∧ J s w
  have hmin : ∀ a w, I a w → ∃ s, (FitsD D n (E s) a ∧ J s w) ∧ ∀ s', FitsD D n (E s') a ∧ J s' w → μ s ≤ μ s' := by
    intro a w ⟨s, hs⟩
    have key : ∀ m s, μ s = m → (FitsD D n (E s) a ∧ J s w) → ∃ s, (FitsD D n (E s) a ∧ J s w) ∧ ∀ s', FitsD D n (E s') a ∧ J s' w → μ s ≤ μ s' := by
      intro m
      induction m using Nat.strongRecOn with
      | _ m ih =>
        intro s hm hs
        by_cases hx : ∃ s', (FitsD D n (E s') a ∧ J s' w) ∧ μ s' < μ s
        · obtain ⟨s', h', hlt⟩ := hx
          exact ih (μ s') (hm ▸ hlt) s' rfl h'
        · refine ⟨s, hs, fun s' h' => ?_⟩
          rcases Nat.lt_or_ge (μ s') (μ s) with h | h
          · exact (hx ⟨s', h', h⟩).elim
          · exact h
    exact key _ s rfl hs
  let m : Act → World → Nat := fun a w => @dite _ (I a w) (Classical.propDecidable _) (fun h => μ (Classical.choose (hmin a w h))) (fun _ => 0)
  refine wp_loop I m ⟨s0, ha.sub hE, hJ⟩ ?_
  intro a w hI
  have hc := Classical.choose_spec (hmin a w hI)
  have hm : m a w = μ (Classical.choose (hmin a w hI)) := by simp only [m]; rw [dif_pos hI]
  refine wp_mono (round _ w hc.1.2 a hc.1.1) ?_
  intro e a' w' hq
  cases e with
  | normal =>
    obtain ⟨s', hf, hj, hlt⟩ := hq
    have hI' : I a' w' := ⟨s', hf, hj⟩
    refine ⟨hI', ?_⟩
    have hm' : m a' w' = μ (Classical.choose (hmin a' w' hI')) := by simp only [m]; rw [dif_pos hI']
    rw [hm, hm']
    exact Nat.lt_of_le_of_lt ((Classical.choose_spec (hmin a' w' hI')).2 s' ⟨hf, hj⟩) hlt
  | exit id => exact hq
  | goto l => exact hq
  | ret => exact hq
  | panic ch => exact hq
  | outgrown => exact hq

/-! ### Ends -/

theorem e_then (h : KW D K n env w) : KW D (Exit.then K Q .normal) n env w := h
theorem e_again {σ : Type} {E : σ → Env} {J : σ → World → Prop} {μ : σ → Nat} {s : σ} (s' : σ) (hE : Sub (E s') env) (hJ : J s' w) (hμ : μ s' < μ s) :
    KW D (Again D E J μ n s) n env w := fun _ ha => ⟨s', ha.sub hE, hJ, hμ⟩
theorem e_then_ret (h : KW D (Q .ret) n env w) : KW D (Exit.then K Q .ret) n env w := h
theorem e_then_exit {id : Nat} (h : KW D (Q (.exit id)) n env w) : KW D (Exit.then K Q (.exit id)) n env w := h
theorem e_block_normal {id : Nat} (h : KW D (Q .normal) n env w) : KW D (Exit.inBlock id Q .normal) n env w := h
theorem e_block_ret {id : Nat} (h : KW D (Q .ret) n env w) : KW D (Exit.inBlock id Q .ret) n env w := h
theorem e_block_here {id : Nat} (h : KW D (Q .normal) n env w) : KW D (Exit.inBlock id Q (.exit id)) n env w := fun a ha => by
  show (if id = id then Q .normal a w else Q (.exit id) a w)
  rw [if_pos rfl]; exact h a ha
theorem e_block_past {id id' : Nat} (hne : Nat.beq id' id = false) (h : KW D (Q (.exit id')) n env w) : KW D (Exit.inBlock id Q (.exit id')) n env w := fun a ha => by
  show (if id' = id then Q .normal a w else Q (.exit id') a w)
  rw [if_neg (fun e => by subst e; simp at hne)]; exact h a ha

/-- A function's results: temporaries, or variables in memory. -/
def ResV (P : Program) (env : Env) (w : World) : List ResultVar → List Value → Prop
  | [], vs => vs = []
  | .tmp t :: r, vs => ∃ v us, look env t = some v ∧ vs = v :: us ∧ ResV P env w r us
  | .cell b t :: r, vs => ∃ p v us, look env b = some (.pointer (some p)) ∧ (loadVar t p).run P w = .ok v w ∧ vs = v :: us ∧ ResV P env w r us

/-- The value handed back. -/
def handed : List Value → Value
  | [v] => v
  | vs => .tuple vs.toArray

def resOne (tmps : Array Value) : ResultVar → Sem Value
  | .tmp t => pure (tmps.getD t undef)
  | .cell b t => do loadVar t (← asAddr (tmps.getD b undef))

theorem results_one (fn : Func) (tmps : Array Value) : results fn tmps = (do
    let vs ← fn.results.mapM (resOne tmps)
    pure (if h : vs.size = 1 then vs[0] else .tuple vs)) := by
  unfold results
  congr 2

theorem ResV.run {a : Act} (ha : Fits n env a) : ∀ {rs : List ResultVar} {vs : List Value}, ResV P env w rs vs → (rs.mapM (resOne a.tmps)).run P w = Result.ok vs w
  | [], vs, h => by simp [ResV] at h; subst h; rfl
  | .tmp t :: r, vs, h => by
    obtain ⟨v, us, hv, rfl, hr⟩ := h
    have := ha.here t v hv
    simp [List.mapM_cons, ResV.run ha hr, this, resOne]
  | .cell b t :: r, vs, h => by
    obtain ⟨p, v, us, hb, hl, rfl, hr⟩ := h
    have := ha.here b _ hb
    simp [List.mapM_cons, ResV.run ha hr, this, asAddr, hl, resOne]

theorem bodyPost_of {fn : Func} {R : Ending → World → Prop} {rs : List ResultVar} {vs : List Value} (hrs : fn.results = rs.toArray) (hr : ResV P env w rs vs) (hR : R (.returned (handed vs)) w) :
    KW [] (bodyPost P fn R .ret) n env w := by
  intro a ha
  refine ⟨ha.defers, handed vs, ?_, hR⟩
  have h := hr.run ha.toFits
  simp only [results_one, hrs, List.mapM_toArray, Sem.run_bind, Sem.run_map, h, Result.andThen]
  rcases vs with _ | ⟨v, _ | ⟨u, r⟩⟩ <;> rfl

theorem bodyPost_end_of {fn : Func} {R : Ending → World → Prop} {rs : List ResultVar} {vs : List Value} (hrs : fn.results = rs.toArray) (hr : ResV P env w rs vs) (hR : R (.returned (handed vs)) w) :
    KW [] (bodyPost P fn R .normal) n env w := fun a ha => bodyPost_of (P := P) (n := n) (env := env) hrs hr hR a ha

theorem ret0 {fn : Func} {R : Ending → World → Prop} (hrs : fn.results = #[]) (hR : R (.returned (.tuple #[])) w) : KW [] (bodyPost P fn R .ret) n env w := bodyPost_of (rs := []) (vs := []) hrs rfl hR
theorem end0 {fn : Func} {R : Ending → World → Prop} (hrs : fn.results = #[]) (hR : R (.returned (.tuple #[])) w) : KW [] (bodyPost P fn R .normal) n env w := bodyPost_of (rs := []) (vs := []) (n := n) (env := env) hrs rfl hR
theorem ret1 {fn : Func} {R : Ending → World → Prop} {t : Tmp} {v : Value} (hrs : fn.results = #[.tmp t]) (hv : look env t = some v) (hR : R (.returned v) w) : KW [] (bodyPost P fn R .ret) n env w :=
  bodyPost_of (rs := [.tmp t]) (vs := [v]) hrs ⟨v, [], hv, rfl, rfl⟩ hR
theorem ret2 {fn : Func} {R : Ending → World → Prop} {t u : Tmp} {v x : Value} (hrs : fn.results = #[.tmp t, .tmp u]) (hv : look env t = some v) (hx : look env u = some x) (hR : R (.returned (.tuple #[v, x])) w) : KW [] (bodyPost P fn R .ret) n env w :=
  bodyPost_of (rs := [.tmp t, .tmp u]) (vs := [v, x]) hrs ⟨v, [x], hv, rfl, x, [], hx, rfl, rfl⟩ hR
theorem retC1 {fn : Func} {R : Ending → World → Prop} {t : Tmp} {T : TypeId} {p : Addr} {v : Value} (hrs : fn.results = #[.cell t T]) (hv : look env t = some (.pointer (some p))) (hl : (loadVar T p).run P w = .ok v w) (hR : R (.returned v) w) : KW [] (bodyPost P fn R .ret) n env w :=
  bodyPost_of (rs := [.cell t T]) (vs := [v]) hrs ⟨p, v, [], hv, hl, rfl, rfl⟩ hR
theorem retC2 {fn : Func} {R : Ending → World → Prop} {t u : Tmp} {T : TypeId} {p : Addr} {v x : Value} (hrs : fn.results = #[.cell t T, .tmp u]) (hv : look env t = some (.pointer (some p))) (hl : (loadVar T p).run P w = .ok v w) (hx : look env u = some x) (hR : R (.returned (.tuple #[v, x])) w) : KW [] (bodyPost P fn R .ret) n env w :=
  bodyPost_of (rs := [.cell t T, .tmp u]) (vs := [v, x]) hrs ⟨p, v, [x], hv, hl, rfl, x, [], hx, rfl, rfl⟩ hR

/-! ### Entering -/

def argsEnv : Nat → List Value → Env
  | _, [] => []
  | i, v :: r => (i, v) :: argsEnv (i + 1) r

theorem look_argsEnv : ∀ (vs : List Value) (i j : Nat) (v : Value), look (argsEnv i vs) j = some v → i ≤ j ∧ vs[j - i]? = some v
  | [], _, _, _, h => by simp [argsEnv, look] at h
  | u :: r, i, j, v, h => by
    by_cases hij : i = j
    · subst hij
      simp only [argsEnv] at h
      rw [look_hit] at h
      cases h
      simp
    · simp only [argsEnv] at h
      rw [look_miss _ _ hij] at h
      obtain ⟨h1, h2⟩ := look_argsEnv r (i + 1) j v h
      refine ⟨by omega, ?_⟩
      rw [show j - i = (j - (i + 1)) + 1 by omega]
      simpa using h2

theorem enter {f : FuncId} {fn : Func} {c : Code} {args : List Value} {R : Ending → World → Prop} (hf : P.funcs[f]? = some fn) (hb : fn.body = some c) (hn : fn.ntmps = n) (hle : Nat.ble args.length n = true)
    (h : KW [] (Code.wp P c (bodyPost P fn R)) n (argsEnv 0 args) w) : Calls P f args.toArray w R := by
  have hle' : args.length ≤ n := by simpa using hle
  refine calls_of_wp hf hb (h _ ⟨⟨?_, ?_⟩, rfl⟩)
  · simp [hn]; omega
  · intro i v hi
    obtain ⟨_, h2⟩ := look_argsEnv args 0 i v hi
    have hlt := (List.getElem?_eq_some_iff.1 h2).1
    simp only [Nat.sub_zero] at h2 hlt
    rw [Array.getElem?_append, if_pos (by simpa using hlt)]
    simpa using h2
end
end Go.EW
