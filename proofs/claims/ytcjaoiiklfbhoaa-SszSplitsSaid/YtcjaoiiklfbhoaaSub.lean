/- Slices of slices. No condition. -/
import Derived.Test.YtcjaoiiklfbhoaaEwLib
import Derived.Test.YtcjaoiiklfbhoaaArr
namespace Go.EW
open Go.RowKit Go.Proofs

theorem blk_cellL {w : World} {b off : Nat} {l : List Value} {T : TypeId} {fr : Nat × Nat} {v : Value} (hb : w.heap[b]? = some (.cells l.toArray T fr)) (hv : l[off]? = some v) : w.cell? ⟨b, off, none⟩ = some v := blk_cell hb (by simpa using hv)

section
variable {P : Program} {ops : Array Oper} {Q : Exit → Act → World → Prop} {S : World → Prop} {n m : Nat} {env : Env} {w : World} {ty : TypeId} {pos : String} {aft : Array Edge} {D : List Deferred}
/-- The guard was itself not carried out. -/
theorem o_skipG0 {i d j : Nat} {b : Bool} {op : Op} {r : List (Nat × Bool)} (hi : ops[i]? = some ⟨some d, op, ty, pos, aft, some (j, b)⟩) (hg : guardU ops env j = true) (hQ : PanicQ Q) (hS : S w) (hd : Nat.blt d m = true)
    (hK : KW D (wpOrd P ops Q n r S) m ((d, undef) :: env) w) : KW D (wpOrd P ops Q n ((i, true) :: r) S) m env w :=
  fun a ha => ⟨S, fun _ h => h, hS, _, undef, hi, .inr ⟨by simp [Region.wanted, guardU_yielded ha.toFits hg], rfl⟩, fun c a w => hQ c a d undef w, hK _ (ha.put hd undef)⟩
end

theorem Rd.sub {w : World} {F : Nat → Prop} {a : Option Addr} {len cap : Nat} {cs : List Value} (h : Rd w F (.slice a len cap) len 1 cs) {l k m : Nat} (h1 : l ≤ k) (h2 : k ≤ len) (h3 : k ≤ m) (h4 : m ≤ cap) :
    Rd w F (.slice (if m = l then a else a.map (·.add (l * 1))) (k - l) (m - l)) (k - l) 1 ((cs.drop l).take (k - l)) := by
  obtain ⟨a', cap', hv, hlc, hlen, hn, hp⟩ := h
  cases hv
  rw [Nat.mul_one] at hlen
  refine ⟨_, _, rfl, by omega, by rw [List.length_take, List.length_drop, Nat.mul_one]; omega, fun e => ?_, fun p e => ?_⟩
  · split at e
    · have := hn e; omega
    · cases a with
      | none => have := hn rfl; omega
      | some p => cases e
  · have key : ∀ q, a = some q → (k - l ≠ 0 → F q.block) ∧ ∀ j u, ((cs.drop l).take (k - l))[j]? = some u → w.cell? (q.add (l + j)) = some u := by
      intro q hq
      obtain ⟨hF, hc⟩ := hp q hq
      refine ⟨fun hne => hF (by omega), fun j u hj => hc _ _ ?_⟩
      rw [List.getElem?_take] at hj
      split at hj
      · rwa [List.getElem?_drop] at hj
      · cases hj
    split at e
    · obtain ⟨hF, hc⟩ := key p e
      refine ⟨hF, fun j u hj => ?_⟩
      have := (List.getElem?_eq_some_iff.1 hj).1
      rw [List.length_take] at this
      omega
    · cases a with
      | none => cases e
      | some q =>
        obtain ⟨hF, hc⟩ := key q rfl
        cases e
        have hb : (q.add (l * 1)).block = q.block := by unfold Addr.add; split <;> rfl
        refine ⟨fun hne => by rw [hb]; exact hF hne, fun j u hj => ?_⟩
        rw [Addr.add_add, Nat.mul_one]
        exact hc j u hj

section
variable {P : Program} {n : Nat} {env : Env} {w : World} {ty : TypeId} {D : List Deferred}
theorem run_bounds3 (len cap l k m : Nat) (k1 k2 k3 : IntKind) (h1 : l ≤ k) (h3 : k ≤ m) (h4 : m ≤ cap) :
    (Instr.sliceBounds true len cap (some (.int k1 (l : Int))) (some (.int k2 (k : Int))) (some (.int k3 (m : Int)))).run P w = .ok (l, k, m) w := by
  simp [Instr.sliceBounds, Instr.sliceBound, asIntOf, h1, h3, h4]
theorem run_bounds2 (len cap l k : Nat) (k1 k2 : IntKind) (h1 : l ≤ k) (h3 : k ≤ cap) :
    (Instr.sliceBounds true len cap (some (.int k1 (l : Int))) (some (.int k2 (k : Int))) none).run P w = .ok (l, k, cap) w := by
  simp [Instr.sliceBounds, Instr.sliceBound, asIntOf, h1, h3]
theorem run_boundsH (len cap k : Nat) (k2 : IntKind) (h3 : k ≤ cap) :
    (Instr.sliceBounds true len cap none (some (.int k2 (k : Int))) none).run P w = .ok (0, k, cap) w := by
  simp [Instr.sliceBounds, Instr.sliceBound, asIntOf, h3]

theorem evo_some {x : Operand} {v : Value} (h : ev env x = some v) : evo env (some x) = some (some v) := by simp [evo, h]
/-- x[l:k:m]. -/
theorem y_slice3 {t e : TypeId} {x lo hi mx : Operand} {a : Option Addr} {len cap sz : Nat} {k1 k2 k3 : IntKind} {lv hv mv : Int} (l k m : Nat) [hu : Und P t (.slice e)] [hs : Siz P e sz] (hx : ev env x = some (.slice a len cap)) (hl : ev env lo = some (.int k1 lv)) (hh : ev env hi = some (.int k2 hv)) (hm : ev env mx = some (.int k3 mv))
    (e1 : lv = (l : Int)) (e2 : hv = (k : Int)) (e3 : mv = (m : Int)) (h1 : l ≤ k) (h3 : k ≤ m) (h4 : m ≤ cap) : Yld P n env w ty (.slice t x (some lo) (some hi) (some mx)) (.slice (if m = l then a else a.map (·.add (l * sz))) (k - l) (m - l)) := by
  subst e1 e2 e3
  exact y_slice (hu := hu) (hs := hs) hx (evo_some hl) (evo_some hh) (evo_some hm) (run_bounds3 len cap l k m _ _ _ h1 h3 h4)
/-- x[l:k]. -/
theorem y_slice2 {t e : TypeId} {x lo hi : Operand} {a : Option Addr} {len cap sz : Nat} {k1 k2 : IntKind} {lv hv : Int} (l k : Nat) [hu : Und P t (.slice e)] [hs : Siz P e sz] (hx : ev env x = some (.slice a len cap)) (hl : ev env lo = some (.int k1 lv)) (hh : ev env hi = some (.int k2 hv))
    (e1 : lv = (l : Int)) (e2 : hv = (k : Int)) (h1 : l ≤ k) (h3 : k ≤ cap) : Yld P n env w ty (.slice t x (some lo) (some hi) none) (.slice (if cap = l then a else a.map (·.add (l * sz))) (k - l) (cap - l)) := by
  subst e1 e2
  exact y_slice (hu := hu) (hs := hs) hx (evo_some hl) (evo_some hh) rfl (run_bounds2 len cap l k _ _ h1 h3)
/-- x[:k]. -/
theorem y_sliceH {t e : TypeId} {x hi : Operand} {a : Option Addr} {len cap sz : Nat} {k2 : IntKind} {hv : Int} (k : Nat) [hu : Und P t (.slice e)] [hs : Siz P e sz] (hx : ev env x = some (.slice a len cap)) (hh : ev env hi = some (.int k2 hv))
    (e2 : hv = (k : Int)) (h3 : k ≤ cap) : Yld P n env w ty (.slice t x none (some hi) none) (.slice (if cap = 0 then a else a.map (·.add (0 * sz))) (k - 0) (cap - 0)) := by
  subst e2
  exact y_slice (hu := hu) (hs := hs) hx rfl (evo_some hh) rfl (run_boundsH len cap k _ h3)
end
theorem Rd.cap {w : World} {F : Nat → Prop} {a : Option Addr} {len cap sz : Nat} {cs : List Value} (h : Rd w F (.slice a len cap) len sz cs) : len ≤ cap := by
  obtain ⟨a', cap', hv, hlc, _⟩ := h
  cases hv
  exact hlc
/-- x[:k], read. -/
theorem Rd.subH {w : World} {F : Nat → Prop} {a : Option Addr} {len cap : Nat} {cs : List Value} (h : Rd w F (.slice a len cap) len 1 cs) {k : Nat} (h2 : k ≤ len) :
    Rd w F (.slice (if cap = 0 then a else a.map (·.add (0 * 1))) (k - 0) (cap - 0)) k 1 (cs.take k) := by
  have := h.cap
  have := h.sub (l := 0) (k := k) (m := cap) (by omega) h2 (by omega) (by omega)
  simpa using this
/-- x[l:k], read. -/
theorem Rd.sub2 {w : World} {F : Nat → Prop} {a : Option Addr} {len cap : Nat} {cs : List Value} (h : Rd w F (.slice a len cap) len 1 cs) {l k : Nat} (h1 : l ≤ k) (h2 : k ≤ len) :
    Rd w F (.slice (if cap = l then a else a.map (·.add (l * 1))) (k - l) (cap - l)) (k - l) 1 ((cs.drop l).take (k - l)) := by
  have := h.cap
  exact h.sub h1 h2 (by omega) (by omega)
end Go.EW
