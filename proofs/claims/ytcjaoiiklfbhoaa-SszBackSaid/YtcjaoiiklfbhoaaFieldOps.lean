/- Steps over fields: the table of sizes, kinds. No condition. -/
import Derived.Test.YtcjaoiiklfbhoaaWLaw
import Derived.Test.YtcjaoiiklfbhoaaArr
namespace Go.EW
open Go.RowKit Go.Proofs
set_option maxRecDepth 100000

section
variable {P : Program} {n : Nat} {env : Env} {w : World} {ty : TypeId}
theorem y_index {t e : TypeId} {d : TypeDesc} {x i : Operand} {len : Nat} {cs : List Value} {k : IntKind} {ii : Int} {v : Value} (j : Nat) [hu : Und P t (.array len e)] [he : Und P e d] [hs : Siz P e 1] (hx : ev env x = some (.agg cs.toArray)) (hi : ev env i = some (.int k ii)) (h1 : oneD d = true) (hj : ii = (j : Int)) (hlt : j < len) (hv : cs[j]? = some v) :
    Yld P n env w ty (.index t x i) v := fun a _ _ _ _ ha => by
  subst hj
  have hp := run_part1 (P := P) (w := w) (cs := cs.toArray) (j := j * 1) he h1 (by simpa using hv)
  have h2 : (j : Int) < (len : Int) := by omega
  simp [execOp, ha.ev hx, ha.ev hi, Instr.index, asIntOf, run_und hu, run_size hs]
  simp at hp
  simp [hp, hlt]
end

section
variable {P : Program} {Q : Exit → Act → World → Prop} {n : Nat} {env : Env} {w : World}
theorem c_joinN {σ : Type} (E : σ → Env) (J : σ → World → Prop) {x : Code} (hx : KW (Code.wp P x (Exit.then (Join E J n) Q)) n env w) (hy : ∀ s w', J s w' → KW (Q .normal) n (E s) w') : KW (Code.wp P x Q) n env w :=
  fun a ha => wp_mono (hx a ha) (fun e a' w' h => by
    cases e with
    | normal => obtain ⟨s, hf, hj⟩ := h; exact hy s w' hj a' hf
    | exit id => exact h
    | goto l => exact h
    | ret => exact h
    | panic ch => exact h
    | outgrown => exact h)
end

theorem build_four (w : World) (a : Int) : (Instr.build 50 [(0, Value.int .i64 a), (1, Value.int .i64 8), (2, Value.int .i64 32), (3, Value.int .i64 4)].toArray).run Try.prog w = .ok (.agg [Value.int .i64 a, Value.int .i64 8, Value.int .i64 32, Value.int .i64 4].toArray) w := by kernel_rfl

theorem wrap_u64_in (n : Int) : IntKind.u64.wrap n % 4 = ((kindOf (n, 0, []) : Nat) : Int) := by
  have : IntKind.u64.wrap n = n % 18446744073709551616 := by simp [IntKind.wrap, IntKind.bits, IntKind.signed]
  rw [this]
  unfold kindOf
  omega

theorem field_one {f : FieldV} {a : Option Addr} {l c : Nat} : ∀ u ∈ fieldRow f (.slice a l c), u.oneCell' = true := by
  intro u hu
  simp only [fieldRow, List.mem_cons, List.not_mem_nil, or_false] at hu
  rcases hu with rfl | rfl | rfl <;> rfl

theorem four_at (f : FieldV) (a : Int) (ha : a = (f.2.2.length : Int)) : [Value.int .i64 a, Value.int .i64 8, Value.int .i64 32, Value.int .i64 4][kindOf f]? = some (.int .i64 (fsz f : Int)) := by
  subst ha
  have h4 := kindOf_lt f
  have : kindOf f = 0 ∨ kindOf f = 1 ∨ kindOf f = 2 ∨ kindOf f = 3 := by omega
  unfold fsz
  rcases this with h | h | h | h <;> rw [h] <;> rfl

end Go.EW
