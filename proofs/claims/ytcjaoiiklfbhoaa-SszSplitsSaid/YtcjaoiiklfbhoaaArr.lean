/- Arrays of bytes compared. No condition. -/
import Derived.Test.YtcjaoiiklfbhoaaEwLib
import Derived.ChangeKeysEq
namespace Go.EW
open Go.RowKit

section
variable {P : Program} {ops : Array Oper} {Q : Exit → Act → World → Prop} {n : Nat} {env : Env} {w : World} {K : Act → World → Prop} {ty : TypeId} {pos : String} {aft : Array Edge} {D : List Deferred}

/-- The guard was itself not carried out. -/
def guardU (ops : Array Oper) (env : Env) (j : Nat) : Bool :=
  match ops[j]? with
  | some o => match o.dst with
    | some d => match look env d with
      | some (.tuple vs) => vs.isEmpty
      | _ => false
    | none => false
  | none => false
theorem guardU_yielded {j : Nat} {a : Act} (ha : Fits n env a) (hg : guardU ops env j = true) : yielded ops a.tmps j = none := by
  unfold guardU at hg
  unfold yielded
  split at hg
  · rename_i o ho
    split at hg
    · rename_i d hd
      split at hg
      · rename_i vs hl
        simp [ho, hd, ha.here d _ hl]
      · cases hg
    · cases hg
  · cases hg
theorem s_unwanted0 {d : Nat} {op : Op} {j : Nat} {b : Bool} (hg : guardU ops env j = true) (hd : Nat.blt d n = true) (h : KW D K n ((d, undef) :: env) w) : StepW D P ops Q ⟨some d, op, ty, pos, aft, some (j, b)⟩ K n env w := by
  intro a ha
  rw [if_neg (by simp [Region.wanted, guardU_yielded ha.toFits hg])]
  exact h _ (ha.put hd undef)

theorem run_part1 {e : TypeId} {d : TypeDesc} {cs : Array Value} {j : Nat} {v : Value} (hu : Und P e d) (h1 : oneD d = true) (hv : cs[j]? = some v) : (part e cs j).run P w = .ok v w := by
  have : (isAgg e).run P w = .ok false w := by
    unfold isAgg
    rw [Sem.run_bind, run_und hu]
    cases d <;> simp_all [oneD, Result.andThen]
  simp [part, this, hv]

theorem run_eqItems {e : TypeId} (he : Und P e (.int .u8)) (d : Nat) (a b : List UInt8) : ∀ (is : List Nat), (∀ j ∈ is, j < a.length ∧ j < b.length) →
    (Op.eqItems (d + 1) e 1 (a.map bc).toArray (b.map bc).toArray is).run P w = .ok (is.all fun j => a.getD j 0 == b.getD j 0) w
  | [], _ => by simp [Op.eqItems]
  | j :: is, h => by
    obtain ⟨h1, h2⟩ := h j (by simp)
    have ih := run_eqItems he d a b is (fun k hk => h k (by simp [hk]))
    have p1 := run_part1 (w := w) (cs := (a.map bc).toArray) (j := j * 1) (v := bc (a.getD j 0)) he rfl (by simp [h1, List.getD])
    have p2 := run_part1 (w := w) (cs := (b.map bc).toArray) (j := j * 1) (v := bc (b.getD j 0)) he rfl (by simp [h2, List.getD])
    have hq : (Op.equalIn (d + 1) e (bc (a.getD j 0)) (bc (b.getD j 0))).run P w = .ok (a.getD j 0 == b.getD j 0) w := by
      have hbe : ((((a.getD j 0).toNat : Int)) == ((b.getD j 0).toNat : Int)) = (a.getD j 0 == b.getD j 0) := by
        rw [Bool.eq_iff_iff]
        simp only [beq_iff_eq, Int.natCast_inj]
        exact UInt8.toNat_inj
      simp only [Op.equalIn, Sem.run_bind, run_und he, Result.andThen_ok, bc, if_true, Sem.run_pure, hbe]
    simp only [Op.eqItems, Sem.run_bind, p1, p2, hq, Result.andThen_ok, List.all_cons]
    cases hx : (a.getD j 0 == b.getD j 0) with
    | false => simp
    | true => simpa using ih

theorem all_range_eq (a b : List UInt8) (h : a.length = b.length) : ((List.range a.length).all fun j => a.getD j 0 == b.getD j 0) = decide (a = b) := by
  rw [Bool.eq_iff_iff]
  simp only [List.all_eq_true, List.mem_range, beq_iff_eq, decide_eq_true_eq]
  constructor
  · intro hx
    refine List.ext_getElem h (fun i h1 h2 => ?_)
    have := hx i h1
    simpa [List.getD, h1, h2] using this
  · rintro rfl _ _
    rfl

theorem run_equalA {t e : TypeId} {len : Nat} {a b : List UInt8} (hu : Und P t (.array len e)) (he : Und P e (.int .u8)) (hs : Siz P e 1) (ha : a.length = len) (hb : b.length = len) :
    (Op.equal t (.agg (a.map bc).toArray) (.agg (b.map bc).toArray)).run P w = .ok (decide (a = b)) w := by
  have h1 := hs.eq
  cases hi : P.info? e with
  | none => rw [hi] at h1; cases h1
  | some i =>
    rw [hi] at h1
    simp only [Option.map_some, Option.some.injEq] at h1
    have hc : P.cellsOf e = 1 := by simp [Program.cellsOf, hi, h1]
    have := run_equalIn_array w 9999 (a.map bc).toArray (b.map bc).toArray hu.eq hi
    rw [hc, run_eqItems he 9998 a b (List.range len) (fun j hj => by have := List.mem_range.1 hj; omega)] at this
    rw [← ha, all_range_eq a b (by omega)] at this
    exact this

theorem y_eqlA {t e yt : TypeId} {x y : Operand} {len : Nat} {a b : List UInt8} {r : Bool} [hu : Und P t (.array len e)] [he : Und P e (.int .u8)] [hs : Siz P e 1] (hx : ev env x = some (.agg (a.map bc).toArray)) (hy : ev env y = some (.agg (b.map bc).toArray)) (ha : a.length = len) (hb : b.length = len) (hg : P.eqGuardType P.depth t = false) (hr : decide (a = b) = r) :
    Yld P n env w ty (.binOp .eql t x y yt) (.bool r) := fun z _ _ _ _ hz => by
  subst hr
  simp [execOp, hz.ev hx, hz.ev hy, eqGuard, hg, binOp, run_equalA hu he hs ha hb]
theorem y_neqA {t e yt : TypeId} {x y : Operand} {len : Nat} {a b : List UInt8} {r : Bool} [hu : Und P t (.array len e)] [he : Und P e (.int .u8)] [hs : Siz P e 1] (hx : ev env x = some (.agg (a.map bc).toArray)) (hy : ev env y = some (.agg (b.map bc).toArray)) (ha : a.length = len) (hb : b.length = len) (hg : P.eqGuardType P.depth t = false) (hr : (!decide (a = b)) = r) :
    Yld P n env w ty (.binOp .neq t x y yt) (.bool r) := fun z _ _ _ _ hz => by
  subst hr
  simp [execOp, hz.ev hx, hz.ev hy, eqGuard, hg, binOp, run_equalA hu he hs ha hb]
theorem run_equalB {t : TypeId} {a b : Bool} (hu : Und P t .bool) : (Op.equal t (.bool a) (.bool b)).run P w = .ok (a == b) w := by
  show (Op.equalIn (9999 + 1) t _ _).run P w = _
  generalize 9999 = d
  simp only [Op.equalIn, Sem.run_bind, run_und hu, Result.andThen_ok, Sem.run_pure]
theorem y_neqB {t yt : TypeId} {x y : Operand} {a b : Bool} [hu : Und P t .bool] (hx : ev env x = some (.bool a)) (hy : ev env y = some (.bool b)) : Yld P n env w ty (.binOp .neq t x y yt) (.bool (a != b)) := fun e _ _ _ _ ha => by
  simp [execOp, ha.ev hx, ha.ev hy, eqGuard, binOp, run_equalB hu]
  cases a <;> cases b <;> rfl
theorem y_eqlB {t yt : TypeId} {x y : Operand} {a b : Bool} [hu : Und P t .bool] (hx : ev env x = some (.bool a)) (hy : ev env y = some (.bool b)) : Yld P n env w ty (.binOp .eql t x y yt) (.bool (a == b)) := fun e _ _ _ _ ha => by
  simp [execOp, ha.ev hx, ha.ev hy, eqGuard, binOp, run_equalB hu]
end
end Go.EW
