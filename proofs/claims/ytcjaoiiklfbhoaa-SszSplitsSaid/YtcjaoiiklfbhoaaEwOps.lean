/- The steps of the calculus: what each operation yields, and what it does to memory. No condition. -/
import Derived.Test.YtcjaoiiklfbhoaaEwCore
namespace Go.EW
open Go.RowKit

/-! ### Tables -/
class Und (P : Program) (t : TypeId) (d : outParam TypeDesc) : Prop where
  eq : P.underlying t = some d
class Siz (P : Program) (t : TypeId) (n : outParam Nat) : Prop where
  eq : (P.info? t).map (·.size) = some n
class Zer (P : Program) (t : TypeId) (z : outParam Value) : Prop where
  eq : (P.info? t).map (·.zero) = some (some z)
class Byt (P : Program) (t : TypeId) (n : outParam Nat) : Prop where
  eq : (P.info? t).map (·.bytes) = some n
/-- Field f of struct s begins at cell o. -/
class Fld (P : Program) (s : TypeId) (f : Nat) (o : outParam Nat) : Prop where
  eq : ∃ fs fld sz, P.underlying s = some (.struct fs) ∧ fs[f]? = some fld ∧ fld.offset = o ∧ (P.info? fld.type).map (·.size) = some sz ∧ Nat.beq sz 0 = false
/-- Function f has a body, and none of the names that the machine takes for itself. -/
class Bod (P : Program) (f : FuncId) : Prop where
  eq : (P.funcs[f]?).map (fun fn => (fn.body.isNone, fn.name == "runtime.NumGoroutine")) = some (false, false)

section
variable {P : Program} {w : World}
theorem run_size {t : TypeId} {n : Nat} (h : Siz P t n) : (sizeOf t).run P w = .ok n w := by
  have := h.eq
  cases hi : P.info? t with
  | none => rw [hi] at this; cases this
  | some i =>
    rw [hi] at this
    simp only [Option.map_some, Option.some.injEq] at this
    simp [sizeOf, typeInfo, hi, this]
theorem run_zero {t : TypeId} {z : Value} (h : Zer P t z) : (zeroValue t).run P w = .ok z w := by
  have := h.eq
  cases hi : P.info? t with
  | none => rw [hi] at this; cases this
  | some i =>
    rw [hi] at this
    simp only [Option.map_some, Option.some.injEq] at this
    simp [zeroValue, typeInfo, hi, this]
theorem run_und {t : TypeId} {d : TypeDesc} (h : Und P t d) : (underlying t).run P w = .ok d w := run_underlying h.eq w
theorem info_all {t : TypeId} {n b : Nat} {z : Value} (hs : Siz P t n) (hz : Zer P t z) (hb : Byt P t b) : ∃ i, P.info? t = some i ∧ i.zero = some z ∧ i.size = n ∧ i.bytes = b := by
  have h1 := hs.eq; have h2 := hz.eq; have h3 := hb.eq
  cases hi : P.info? t with
  | none => rw [hi] at h1; cases h1
  | some i =>
    rw [hi] at h1 h2 h3
    simp only [Option.map_some, Option.some.injEq] at h1 h2 h3
    exact ⟨i, rfl, h2, h1, h3⟩
end

/-- Is a type's variable one cell? -/
def oneD : TypeDesc → Bool
  | .struct _ => false
  | .array _ _ => false
  | _ => true

/-! ### Operations that yield a value and leave the world alone -/

/-- Operation op yields v in world w. -/
def Yld (P : Program) (n : Nat) (env : Env) (w : World) (ty : TypeId) (op : Op) (v : Value) : Prop :=
  ∀ a dst pos aft g, Fits n env a → (execOp a.eval ⟨dst, op, ty, pos, aft, g⟩).run P w = .ok (.value v) w

/-- One step, and what comes behind it. -/
def StepW (D : List Deferred) (P : Program) (ops : Array Oper) (Q : Exit → Act → World → Prop) (o : Oper) (K : Act → World → Prop) (n : Nat) (env : Env) (w : World) : Prop :=
  ∀ a, FitsD D n env a → if Region.wanted o (yielded ops a.tmps) then o.wp P a w K Q ∨ (o.asks P a w ∧ LetsOut Q) else K (a.put o.dst undef) w

def guardB (ops : Array Oper) (env : Env) (j : Nat) : Option Bool :=
  match ops[j]? with
  | some o => match o.dst with
    | some d => match look env d with
      | some (.bool b) => some b
      | _ => none
    | none => none
  | none => none

section
variable {P : Program} {ops : Array Oper} {Q : Exit → Act → World → Prop} {n : Nat} {env : Env} {w : World} {K : Act → World → Prop} {ty : TypeId} {pos : String} {aft : Array Edge} {D : List Deferred}

theorem l_step {o : Oper} {rest : List Oper} (h : StepW D P ops Q o (wpList P ops Q rest) n env w) : KW D (wpList P ops Q (o :: rest)) n env w := fun a ha => h a ha

theorem s_val {op : Op} {d : Nat} {v : Value} {w' : World} (hd : Nat.blt d n = true) (hr : ∀ a, Fits n env a → (execOp a.eval ⟨some d, op, ty, pos, aft, none⟩).run P w = .ok (.value v) w')
    (hK : KW D K n ((d, v) :: env) w') : StepW D P ops Q ⟨some d, op, ty, pos, aft, none⟩ K n env w := by
  intro a ha
  rw [if_pos (by simp [Region.wanted])]
  left
  unfold Oper.wp
  rw [hr a ha.toFits]
  exact hK _ (ha.put hd v)

theorem s_valN {op : Op} {v : Value} {w' : World} (hr : ∀ a, Fits n env a → (execOp a.eval ⟨none, op, ty, pos, aft, none⟩).run P w = .ok (.value v) w')
    (hK : KW D K n env w') : StepW D P ops Q ⟨none, op, ty, pos, aft, none⟩ K n env w := by
  intro a ha
  rw [if_pos (by simp [Region.wanted])]
  left
  unfold Oper.wp
  rw [hr a ha.toFits]
  exact hK _ ha

theorem s_skip {op : Op} {w' : World} (hr : ∀ a, Fits n env a → (execOp a.eval ⟨none, op, ty, pos, aft, none⟩).run P w = .ok .skip w')
    (hK : KW D K n env w') : StepW D P ops Q ⟨none, op, ty, pos, aft, none⟩ K n env w := by
  intro a ha
  rw [if_pos (by simp [Region.wanted])]
  left
  unfold Oper.wp
  rw [hr a ha.toFits]
  exact hK _ ha

theorem s_y {op : Op} {d : Nat} {v : Value} (hy : Yld P n env w ty op v) (hd : Nat.blt d n = true) (hK : KW D K n ((d, v) :: env) w) : StepW D P ops Q ⟨some d, op, ty, pos, aft, none⟩ K n env w :=
  s_val hd (fun a ha => hy a _ _ _ _ ha) hK

theorem l_y {op : Op} {d : Nat} {v : Value} {rest : List Oper} (hy : Yld P n env w ty op v) (hd : Nat.blt d n = true) (hK : KW D (wpList P ops Q rest) n ((d, v) :: env) w) :
    KW D (wpList P ops Q (⟨some d, op, ty, pos, aft, none⟩ :: rest)) n env w := l_step (s_y hy hd hK)

theorem guard_yielded {j : Nat} {b : Bool} {a : Act} (ha : Fits n env a) (hg : guardB ops env j = some b) : yielded ops a.tmps j = some b := by
  unfold guardB at hg
  unfold yielded
  split at hg
  · rename_i o ho
    split at hg
    · rename_i d hd
      split at hg
      · rename_i b' hl
        cases hg
        simp [ho, hd, ha.here d _ hl]
      · cases hg
    · cases hg
  · cases hg

theorem s_wanted {dst : Option Tmp} {op : Op} {j : Nat} {b b' : Bool} (hg : guardB ops env j = some b') (hb : b' = b) (h : StepW D P ops Q ⟨dst, op, ty, pos, aft, none⟩ K n env w) : StepW D P ops Q ⟨dst, op, ty, pos, aft, some (j, b)⟩ K n env w := by
  subst hb
  intro a ha
  have h1 := h a ha
  rw [if_pos (by simp [Region.wanted])] at h1
  rw [if_pos (by simp [Region.wanted, guard_yielded ha.toFits hg])]
  exact h1
theorem s_unwanted {d : Nat} {op : Op} {j : Nat} {b b' : Bool} (hg : guardB ops env j = some b') (hb : b' = !b) (hd : Nat.blt d n = true) (h : KW D K n ((d, undef) :: env) w) : StepW D P ops Q ⟨some d, op, ty, pos, aft, some (j, b)⟩ K n env w := by
  subst hb
  intro a ha
  rw [if_neg (by simp [Region.wanted, guard_yielded ha.toFits hg])]
  exact h _ (ha.put hd undef)

theorem y_move {x : Operand} {v : Value} (hx : ev env x = some v) : Yld P n env w ty (.move x) v := fun a _ _ _ _ ha => by simp [execOp, ha.ev hx]
theorem y_assign {x : Operand} {v : Value} (hx : ev env x = some v) : Yld P n env w ty (.assign x) v := fun a _ _ _ _ ha => by simp [execOp, ha.ev hx]
theorem y_pickT {c x y : Operand} {v : Value} {b : Bool} (hc : ev env c = some (.bool b)) (hb : b = true) (hx : ev env x = some v) : Yld P n env w ty (.pick c x y) v := fun a _ _ _ _ ha => by subst hb; simp [execOp, ha.ev hc, ha.ev hx, asBool]
theorem y_pickF {c x y : Operand} {v : Value} {b : Bool} (hc : ev env c = some (.bool b)) (hb : b = false) (hy : ev env y = some v) : Yld P n env w ty (.pick c x y) v := fun a _ _ _ _ ha => by subst hb; simp [execOp, ha.ev hc, ha.ev hy, asBool]
theorem y_pick {c x y : Operand} {b : Bool} {v u : Value} (hc : ev env c = some (.bool b)) (hx : ev env x = some v) (hy : ev env y = some u) : Yld P n env w ty (.pick c x y) (bif b then v else u) := fun a _ _ _ _ ha => by
  cases b <;> simp [execOp, ha.ev hc, ha.ev hx, ha.ev hy, asBool]
theorem y_nilCheck {x : Operand} {p : Addr} (hx : ev env x = some (.pointer (some p))) : Yld P n env w ty (.nilCheck x) (.pointer (some p)) := fun a _ _ _ _ ha => by simp [execOp, ha.ev hx]
theorem y_nilCheckF {x : Operand} {f : FuncId} {A B : Array Value} (hx : ev env x = some (.func (.func f) A B)) : Yld P n env w ty (.nilCheck x) (.func (.func f) A B) := fun a _ _ _ _ ha => by simp [execOp, ha.ev hx]
theorem y_extract {x : Operand} {i : Nat} {vs : Array Value} {v : Value} (hx : ev env x = some (.tuple vs)) (hv : vs[i]? = some v) : Yld P n env w ty (.extract x i) v := fun a _ _ _ _ ha => by simp [execOp, ha.ev hx, Instr.extract, hv]
theorem y_not {t : TypeId} {x : Operand} {b : Bool} (hx : ev env x = some (.bool b)) : Yld P n env w ty (.unOp .not t x) (.bool !b) := fun a _ _ _ _ ha => by simp [execOp, ha.ev hx, Op.unary]
theorem y_makeFunc {fn : Fn} {first captured : List Operand} {A B : List Value} (h1 : evs env first = some A) (h2 : evs env captured = some B) : Yld P n env w ty (.makeFunc fn first.toArray captured.toArray) (.func fn A.toArray B.toArray) := fun a _ _ _ _ ha => by
  simp [execOp, Instr.makeFunc, ha.evsL h1, ha.evsL h2]

/-- The address of a field. -/
theorem y_fieldAddr {s : TypeId} {x : Operand} {f : Nat} {b off o : Nat} (hx : ev env x = some (.pointer (some ⟨b, off, none⟩))) [hf : Fld P s f o] :
    Yld P n env w ty (.fieldAddr s x f) (.pointer (some ⟨b, off + o, none⟩)) := fun a _ _ _ _ ha => by
  obtain ⟨fs, fld, sz, hu, hff, rfl, hs, hne⟩ := hf.eq
  have hne' : sz ≠ 0 := fun e => by subst e; simp at hne
  have : (⟨b, off, none⟩ : Addr).add fld.offset = ⟨b, off + fld.offset, none⟩ := by unfold Addr.add; split <;> simp_all
  simp [execOp, ha.ev hx, Instr.fieldAt, run_und ⟨hu⟩, hff, Instr.sureAddr, fieldPlace, run_size ⟨hs⟩, hne', this]

/-- The address of an element: of a slice; of an array behind a pointer. -/
theorem y_indexAddr {t : TypeId} {x i : Operand} {b off sz len cap : Nat} {e : TypeId} {k : IntKind} {ii : Int} (j : Nat) [hu : Und P t (.slice e)] [hs : Siz P e sz] (hx : ev env x = some (.slice (some ⟨b, off, none⟩) len cap)) (hi : ev env i = some (.int k ii)) (hj : ii = (j : Int)) (hlt : j < len) :
    Yld P n env w ty (.indexAddr t x i) (.pointer (some ⟨b, off + j * sz, none⟩)) := fun a _ _ _ _ ha => by
  subst hj
  have : (⟨b, off, none⟩ : Addr).add (j * sz) = ⟨b, off + j * sz, none⟩ := by unfold Addr.add; split <;> simp_all
  have h2 : (j : Int) < (len : Int) := by omega
  simp [execOp, ha.ev hx, ha.ev hi, Instr.indexAt, asIntOf, run_und hu, run_size hs, this, hlt]

theorem y_indexAddrA {t : TypeId} {x i : Operand} {b off sz len : Nat} {e : TypeId} {k : IntKind} {ii : Int} (j : Nat) [hu : Und P t (.array len e)] [hs : Siz P e sz] (hx : ev env x = some (.pointer (some ⟨b, off, none⟩))) (hi : ev env i = some (.int k ii)) (hj : ii = (j : Int)) (hlt : j < len) :
    Yld P n env w ty (.indexAddr t x i) (.pointer (some ⟨b, off + j * sz, none⟩)) := fun a _ _ _ _ ha => by
  subst hj
  have : (⟨b, off, none⟩ : Addr).add (j * sz) = ⟨b, off + j * sz, none⟩ := by unfold Addr.add; split <;> simp_all
  simp [execOp, ha.ev hx, ha.ev hi, Instr.indexAt, Instr.sureAddr, asIntOf, run_und hu, run_size hs, this, hlt]

/-- Reading a variable. -/
theorem y_load {t : TypeId} {x : Operand} {p : Addr} {v : Value} (hx : ev env x = some (.pointer (some p))) (hl : (loadVar t p).run P w = .ok v w) : Yld P n env w ty (.load t x) v := fun a _ _ _ _ ha => by
  simp [execOp, ha.ev hx, Instr.loadAt, Instr.sureAddr, hl]

theorem run_loadVar1 {t : TypeId} {d : TypeDesc} {p : Addr} {v : Value} (hu : Und P t d) (h1 : oneD d = true) (hc : w.cell? p = some v) : (loadVar t p).run P w = .ok v w := by
  have : (isAgg t).run P w = .ok false w := by
    unfold isAgg
    rw [Sem.run_bind, run_und hu]
    cases d <;> simp_all [oneD, Result.andThen]
  simp [loadVar, this, hc]

theorem y_load1 {t : TypeId} {d : TypeDesc} {x : Operand} {p : Addr} {v : Value} [hu : Und P t d] (hx : ev env x = some (.pointer (some p))) (h1 : oneD d = true) (hc : w.cell? p = some v) : Yld P n env w ty (.load t x) v :=
  y_load hx (run_loadVar1 hu h1 hc)

theorem run_loadVarN {t : TypeId} {d : TypeDesc} {p : Addr} {cs : List Value} {sz : Nat} (hu : Und P t d) (h1 : oneD d = false) (hs : Siz P t sz) (hl : cs.length = sz) (hc : ∀ j v, cs[j]? = some v → w.cell? (p.add j) = some v) : (loadVar t p).run P w = .ok (.agg cs.toArray) w := by
  have : (isAgg t).run P w = .ok true w := by
    unfold isAgg
    rw [Sem.run_bind, run_und hu]
    cases d <;> simp_all [oneD, Result.andThen]
  have h2 := run_loadCells_list (P := P) w p cs hc
  rw [hl] at h2
  simp [loadVar, this, run_size hs, h2]

/-! Whole numbers -/
theorem y_add {t yt : TypeId} {x y : Operand} {k : IntKind} {a b : Int} (hx : ev env x = some (.int k a)) (hy : ev env y = some (.int k b)) (hw : k.wrap (a + b) = a + b) : Yld P n env w ty (.binOp .add t x y yt) (.int k (a + b)) := fun e _ _ _ _ ha => by
  simp [execOp, ha.ev hx, ha.ev hy, eqGuard, binOp, Op.intArith, hw]
theorem y_sub {t yt : TypeId} {x y : Operand} {k : IntKind} {a b : Int} (hx : ev env x = some (.int k a)) (hy : ev env y = some (.int k b)) (hw : k.wrap (a - b) = a - b) : Yld P n env w ty (.binOp .sub t x y yt) (.int k (a - b)) := fun e _ _ _ _ ha => by
  simp [execOp, ha.ev hx, ha.ev hy, eqGuard, binOp, Op.intArith, hw]
theorem y_mul {t yt : TypeId} {x y : Operand} {k : IntKind} {a b : Int} (hx : ev env x = some (.int k a)) (hy : ev env y = some (.int k b)) (hw : k.wrap (a * b) = a * b) : Yld P n env w ty (.binOp .mul t x y yt) (.int k (a * b)) := fun e _ _ _ _ ha => by
  simp [execOp, ha.ev hx, ha.ev hy, eqGuard, binOp, Op.intArith, hw]
theorem y_addW {t yt : TypeId} {x y : Operand} {k : IntKind} {a b : Int} (hx : ev env x = some (.int k a)) (hy : ev env y = some (.int k b)) : Yld P n env w ty (.binOp .add t x y yt) (.int k (k.wrap (a + b))) := fun e _ _ _ _ ha => by
  simp [execOp, ha.ev hx, ha.ev hy, eqGuard, binOp, Op.intArith]
theorem y_quo {t yt : TypeId} {x y : Operand} {k : IntKind} {a b : Int} (hx : ev env x = some (.int k a)) (hy : ev env y = some (.int k b)) (hb : b ≠ 0) (ha0 : 0 ≤ a) (hw : k.wrap (a / b) = a / b) : Yld P n env w ty (.binOp .quo t x y yt) (.int k (a / b)) := fun e _ _ _ _ ha => by
  simp [execOp, ha.ev hx, ha.ev hy, eqGuard, binOp, Op.intDiv, hb, Int.tdiv_eq_ediv_of_nonneg ha0, hw]
theorem y_rem {t yt : TypeId} {x y : Operand} {k : IntKind} {a b : Int} (hx : ev env x = some (.int k a)) (hy : ev env y = some (.int k b)) (hb : b ≠ 0) (ha0 : 0 ≤ a) : Yld P n env w ty (.binOp .rem t x y yt) (.int k (a % b)) := fun e _ _ _ _ ha => by
  simp [execOp, ha.ev hx, ha.ev hy, eqGuard, binOp, Op.intDiv, hb, Int.tmod_eq_emod_of_nonneg ha0]
theorem y_lss {t yt : TypeId} {x y : Operand} {k : IntKind} {a b : Int} (hx : ev env x = some (.int k a)) (hy : ev env y = some (.int k b)) : Yld P n env w ty (.binOp .lss t x y yt) (.bool (decide (a < b))) := fun e _ _ _ _ ha => by
  simp [execOp, ha.ev hx, ha.ev hy, eqGuard, binOp, Op.intCmp]
theorem y_leq {t yt : TypeId} {x y : Operand} {k : IntKind} {a b : Int} (hx : ev env x = some (.int k a)) (hy : ev env y = some (.int k b)) : Yld P n env w ty (.binOp .leq t x y yt) (.bool (decide (a ≤ b))) := fun e _ _ _ _ ha => by
  simp [execOp, ha.ev hx, ha.ev hy, eqGuard, binOp, Op.intCmp]
theorem y_gtr {t yt : TypeId} {x y : Operand} {k : IntKind} {a b : Int} (hx : ev env x = some (.int k a)) (hy : ev env y = some (.int k b)) : Yld P n env w ty (.binOp .gtr t x y yt) (.bool (decide (b < a))) := fun e _ _ _ _ ha => by
  simp [execOp, ha.ev hx, ha.ev hy, eqGuard, binOp, Op.intCmp]
theorem y_geq {t yt : TypeId} {x y : Operand} {k : IntKind} {a b : Int} (hx : ev env x = some (.int k a)) (hy : ev env y = some (.int k b)) : Yld P n env w ty (.binOp .geq t x y yt) (.bool (decide (b ≤ a))) := fun e _ _ _ _ ha => by
  simp [execOp, ha.ev hx, ha.ev hy, eqGuard, binOp, Op.intCmp]
theorem y_eql {t yt : TypeId} {x y : Operand} {k : IntKind} {a b : Int} (hx : ev env x = some (.int k a)) (hy : ev env y = some (.int k b)) : Yld P n env w ty (.binOp .eql t x y yt) (.bool (decide (a = b))) := fun e _ _ _ _ ha => by
  simp [execOp, ha.ev hx, ha.ev hy, eqGuard, binOp, Op.intCmp]
  rfl
theorem y_neq {t yt : TypeId} {x y : Operand} {k : IntKind} {a b : Int} (hx : ev env x = some (.int k a)) (hy : ev env y = some (.int k b)) : Yld P n env w ty (.binOp .neq t x y yt) (.bool (!decide (a = b))) := fun e _ _ _ _ ha => by
  simp [execOp, ha.ev hx, ha.ev hy, eqGuard, binOp, Op.intCmp]
  rfl
theorem y_conv {s d : TypeId} {x : Operand} {k k' : IntKind} {a : Int} {ds : TypeDesc} [hs : Und P s ds] [hd : Und P d (.int k')] (hx : ev env x = some (.int k a)) : Yld P n env w ty (.convert s d x) (.int k' (k'.wrap a)) := fun e _ _ _ _ ha => by
  simp [execOp, ha.ev hx, convert, run_und hs, run_und hd, Conv.intToInt]
theorem y_convI {s d : TypeId} {x : Operand} {k k' : IntKind} {a : Int} {ds : TypeDesc} [hs : Und P s ds] [hd : Und P d (.int k')] (hx : ev env x = some (.int k a)) (hw : k'.wrap a = a) : Yld P n env w ty (.convert s d x) (.int k' a) := fun e _ _ _ _ ha => by
  simp [execOp, ha.ev hx, convert, run_und hs, run_und hd, Conv.intToInt, hw]
theorem y_shl {t yt : TypeId} {x y : Operand} {k k' : IntKind} {a b : Int} (hx : ev env x = some (.int k a)) (hy : ev env y = some (.int k' b)) (h0 : 0 ≤ b) : Yld P n env w ty (.binOp .shl t x y yt) (.int k (k.wrap (a * 2 ^ min b.toNat k.bits))) := fun e _ _ _ _ ha => by
  have : ¬ b < 0 := by omega
  simp [execOp, ha.ev hx, ha.ev hy, eqGuard, binOp, Op.shift, this]
theorem y_shr {t yt : TypeId} {x y : Operand} {k k' : IntKind} {a b : Int} (hx : ev env x = some (.int k a)) (hy : ev env y = some (.int k' b)) (h0 : 0 ≤ b) : Yld P n env w ty (.binOp .shr t x y yt) (.int k (a.fdiv (2 ^ min b.toNat k.bits))) := fun e _ _ _ _ ha => by
  have : ¬ b < 0 := by omega
  simp [execOp, ha.ev hx, ha.ev hy, eqGuard, binOp, Op.shift, this]

/-- '|' and '&' on numbers of a kind. -/
def orK (k : IntKind) (a b : Int) : Int := k.wrap ((BitVec.ofInt k.bits a ||| BitVec.ofInt k.bits b).toNat : Int)
def andK (k : IntKind) (a b : Int) : Int := k.wrap ((BitVec.ofInt k.bits a &&& BitVec.ofInt k.bits b).toNat : Int)
def xorK (k : IntKind) (a b : Int) : Int := k.wrap ((BitVec.ofInt k.bits a ^^^ BitVec.ofInt k.bits b).toNat : Int)
theorem y_or {t yt : TypeId} {x y : Operand} {k : IntKind} {a b : Int} (hx : ev env x = some (.int k a)) (hy : ev env y = some (.int k b)) : Yld P n env w ty (.binOp .or t x y yt) (.int k (orK k a b)) := fun e _ _ _ _ ha => by
  simp [execOp, ha.ev hx, ha.ev hy, eqGuard, binOp, Op.intBits, orK]
theorem y_and {t yt : TypeId} {x y : Operand} {k : IntKind} {a b : Int} (hx : ev env x = some (.int k a)) (hy : ev env y = some (.int k b)) : Yld P n env w ty (.binOp .and t x y yt) (.int k (andK k a b)) := fun e _ _ _ _ ha => by
  simp [execOp, ha.ev hx, ha.ev hy, eqGuard, binOp, Op.intBits, andK]
theorem y_xor {t yt : TypeId} {x y : Operand} {k : IntKind} {a b : Int} (hx : ev env x = some (.int k a)) (hy : ev env y = some (.int k b)) : Yld P n env w ty (.binOp .xor t x y yt) (.int k (xorK k a b)) := fun e _ _ _ _ ha => by
  simp [execOp, ha.ev hx, ha.ev hy, eqGuard, binOp, Op.intBits, xorK]

/-! Builtins that only look -/
theorem y_len {t e : TypeId} {x : Operand} {a : Option Addr} {len cap : Nat} [hu : Und P t (.slice e)] (hx : ev env x = some (.slice a len cap)) : Yld P n env w ty (.call { callee := .builtin .len, args := #[x], argTypes := #[t] }) (.int .i64 (len : Int)) := fun e _ _ _ _ ha => by
  simp [execOp, resolve, invoke, builtin, Builtin.len_, ha.ev hx, run_und hu, goInt]
theorem y_max {t u : TypeId} {x y : Operand} {k : IntKind} {a b : Int} (hx : ev env x = some (.int k a)) (hy : ev env y = some (.int k b)) : Yld P n env w ty (.call { callee := .builtin .max, args := #[x, y], argTypes := #[t, u] }) (.int k (max a b)) := fun e _ _ _ _ ha => by
  simp [execOp, resolve, invoke, builtin, Builtin.max_, Builtin.max2, ha.ev hx, ha.ev hy]
  omega
theorem y_min {t u : TypeId} {x y : Operand} {k : IntKind} {a b : Int} (hx : ev env x = some (.int k a)) (hy : ev env y = some (.int k b)) : Yld P n env w ty (.call { callee := .builtin .min, args := #[x, y], argTypes := #[t, u] }) (.int k (min a b)) := fun e _ _ _ _ ha => by
  simp [execOp, resolve, invoke, builtin, Builtin.min_, Builtin.min2, ha.ev hx, ha.ev hy]
  omega

/-! Slices of slices and of arrays -/
/-- The address behind l elements, unless nothing is left. -/
theorem y_slice {t e : TypeId} {x : Operand} {lo hi mx : Option Operand} {lv hv mv : Option Value} {a : Option Addr} {len cap l h m sz : Nat} [hu : Und P t (.slice e)] [hs : Siz P e sz] (hx : ev env x = some (.slice a len cap)) (h1 : evo env lo = some lv) (h2 : evo env hi = some hv) (h3 : evo env mx = some mv)
    (hb : (Instr.sliceBounds true len cap lv hv mv).run P w = .ok (l, h, m) w) : Yld P n env w ty (.slice t x lo hi mx) (.slice (if m = l then a else a.map (·.add (l * sz))) (h - l) (m - l)) := fun e _ _ _ _ ha => by
  simp [execOp, Instr.sliceAt, Instr.slice, ha.ev hx, ha.evo h1, ha.evo h2, ha.evo h3, run_und hu, run_size hs, hb]
theorem y_sliceA {t e : TypeId} {x : Operand} {lo hi mx : Option Operand} {lv hv mv : Option Value} {a : Addr} {len l h m sz : Nat} [hu : Und P t (.array len e)] [hs : Siz P e sz] (hx : ev env x = some (.pointer (some a))) (h1 : evo env lo = some lv) (h2 : evo env hi = some hv) (h3 : evo env mx = some mv)
    (hb : (Instr.sliceBounds false len len lv hv mv).run P w = .ok (l, h, m) w) : Yld P n env w ty (.slice t x lo hi mx) (.slice (some (if m = l then a else a.add (l * sz))) (h - l) (m - l)) := fun e _ _ _ _ ha => by
  simp [execOp, Instr.sliceAt, Instr.sureAddr, ha.ev hx, ha.evo h1, ha.evo h2, ha.evo h3, run_und hu, run_size hs, hb]

theorem y_build {t : TypeId} {parts : List (Nat × Operand)} {vs : List (Nat × Value)} {v : Value} (hp : evp env parts = some vs) (hb : (Instr.build t vs.toArray).run P w = .ok v w) : Yld P n env w ty (.build t parts.toArray) v := fun a _ _ _ _ ha => by
  have := ha.evp hp
  simp only [execOp, Sem.run_bind]
  rw [show (parts.toArray.map fun x => match x with | (i, x) => (i, a.eval x)) = vs.toArray from this]
  simp [hb]
end
end Go.EW
