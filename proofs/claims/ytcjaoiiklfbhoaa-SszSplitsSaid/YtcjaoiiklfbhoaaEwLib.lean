/- Small lemmas that the walks share. No condition. -/
import Derived.Test.YtcjaoiiklfbhoaaEwTab
namespace Go.EW
open Go.RowKit

theorem own_keep {w w' : World} {base e sz n : Nat} {v : Value} {xs : List Value} {F : Nat → Prop} (h : w.ownsRow base e sz v n xs) (k : Keep F w w') (hF : ∀ b, v.ownBlock = some b → ¬ F b) : w'.ownsRow base e sz v n xs := by
  refine ⟨h.1, ?_⟩
  rcases h.2 with hn | ⟨g, cap, cur, rfl, hb, hg, r⟩
  · exact .inl hn
  · exact .inr ⟨g, cap, cur, rfl, hb, k.at hg (hF g rfl), r⟩
theorem own_ext {w w' : World} {base e sz n : Nat} {v : Value} {xs : List Value} (h : w.ownsRow base e sz v n xs) (k : Ext w w') : w'.ownsRow base e sz v n xs := own_keep h k (fun _ _ h => h)
theorem own_base {w : World} {base base' e sz n : Nat} {v : Value} {xs : List Value} (h : w.ownsRow base e sz v n xs) (hb : base' ≤ base) : w.ownsRow base' e sz v n xs := by
  refine ⟨h.1, ?_⟩
  rcases h.2 with hn | ⟨g, cap, cur, rfl, hg, r⟩
  · exact .inl hn
  · exact .inr ⟨g, cap, cur, rfl, Nat.le_trans hb hg, r⟩
/-- Behind an append onto a row that the call made itself. -/
theorem Keep.grownOwn {F : Nat → Prop} {w0 w1 w2 : World} {base e sz n : Nat} {v : Value} {xs : List Value} (h : Keep F w0 w1) (hg : w1.grownBy w2 v.ownBlock) (ho : w1.ownsRow base e sz v n xs) (hb : w0.heap.size ≤ base) : Keep F w0 w2 :=
  h.trans (Keep.of_grown hg) (fun x hx hk => by have := (ho.lt x hk.symm).1; omega)
/-- What is written is new. -/
theorem Keep.trans' {F : Nat → Prop} {a b c : World} (h : Keep F a b) (k : Keep (fun x => x = a.heap.size) b c) : Keep F a c := h.thenNew k (fun x e => by omega)
theorem own_len {w : World} {base e sz n : Nat} {v : Value} {xs : List Value} (h : w.ownsRow base e sz v n xs) : xs.length = n * sz := h.1

theorem bc_one (l : List UInt8) : ∀ c ∈ l.map bc, c.oneCell' = true := by
  intro c hc
  obtain ⟨b, _, rfl⟩ := List.mem_map.1 hc
  rfl

theorem New.lit {w w' : World} {cs : List Value} {T len sz : Nat} (h : New w w' (.cells cs.toArray T (0, 0))) (hl : cs.length = len * sz) : Rd w' (fun k => k = w.heap.size) (.slice (some ⟨w.heap.size, 0, none⟩) len len) len sz cs :=
  Rd.of_blk h.at (Nat.le_refl _) hl (fun j u hj => by simpa using hj)

/-- A literal without elements, as a row of the call's own; one with elements. -/
theorem New.own {w w' : World} {cs : List Value} {T len sz : Nat} (h : New w w' (.cells cs.toArray T (0, 0))) (hl : cs.length = len * sz) (hm : len ≤ maxLen) : w'.ownsRow w.heap.size T sz (.slice (some ⟨w.heap.size, 0, none⟩) len len) len cs :=
  ⟨hl, .inr ⟨w.heap.size, len, cs.toArray, rfl, Nat.le_refl _, h.at, Nat.le_refl _, hm, by simpa using hl, by rw [← hl]; simp⟩⟩
theorem New.own0 {w w' : World} {T sz : Nat} (h : New w w' (.cells #[] T (0, 0))) : w'.ownsRow w.heap.size T sz (.slice (some ⟨w.heap.size, 0, none⟩) 0 0) 0 [] :=
  New.own (cs := []) h (by simp) (by simp [maxLen])

/-- A row of the call's own with cells of it written over. -/
theorem own_splice {w w' : World} {base T g n cap o : Nat} {cur : Array Value} {xs cs : List Value} (h : w.ownsRow base T 1 (.slice (some ⟨g, 0, none⟩) n cap) n xs) (hg : w.heap[g]? = some (.cells cur T (0, 0))) (hU : Upd w w' g (.cells (splice cur o cs) T (0, 0))) (ho : o + cs.length ≤ n) :
    w'.ownsRow base T 1 (.slice (some ⟨g, 0, none⟩) n cap) n (xs.take o ++ cs ++ xs.drop (o + cs.length)) := by
  obtain ⟨hl, h⟩ := h
  rcases h with ⟨h, _⟩ | ⟨g', cap', cur', hv, hb, hg', hnc, hcm, hcs, ht⟩
  · cases h
  · cases hv
    rw [hg] at hg'
    cases hg'
    rw [Nat.mul_one] at hl hcs ht
    refine ⟨by simp; omega, .inr ⟨g, cap, _, rfl, hb, hU.at_, hnc, hcm, ?_, ?_⟩⟩
    · simp [splice]; omega
    · rw [Nat.mul_one, ← ht]
      simp only [splice]
      have h1 : (cur.toList.take n).take o = cur.toList.take o := by rw [List.take_take, Nat.min_eq_left (by omega)]
      have h2 : (cur.toList.take n).drop (o + cs.length) = (cur.toList.drop (o + cs.length)).take (n - (o + cs.length)) := by rw [List.drop_take]
      rw [h1, h2, List.take_append, List.take_of_length_le (by simp; omega)]
      congr 2
      simp; omega
/-- A row of the call's own with one cell of it written over. -/
theorem own_set {w w' : World} {base T g n cap o : Nat} {cur : Array Value} {xs : List Value} {u : Value} (h : w.ownsRow base T 1 (.slice (some ⟨g, 0, none⟩) n cap) n xs) (hg : w.heap[g]? = some (.cells cur T (0, 0))) (hU : Upd w w' g (.cells (cur.setIfInBounds o u) T (0, 0))) :
    w'.ownsRow base T 1 (.slice (some ⟨g, 0, none⟩) n cap) n (xs.set o u) := by
  obtain ⟨hl, h⟩ := h
  rcases h with ⟨h, _⟩ | ⟨g', cap', cur', hv, hb, hg', hnc, hcm, hcs, ht⟩
  · cases h
  · cases hv
    rw [hg] at hg'
    cases hg'
    refine ⟨by simpa using hl, .inr ⟨g, cap, _, rfl, hb, hU.at_, hnc, hcm, by simpa using hcs, ?_⟩⟩
    rw [← ht, Array.toList_setIfInBounds, List.take_set]
/-- The row behind a slice of the call's own. -/
theorem own_blk {w : World} {base T sz n : Nat} {v : Value} {xs : List Value} (h : w.ownsRow base T sz v n xs) (hn : 0 < n) : ∃ g cap cur, v = .slice (some ⟨g, 0, none⟩) n cap ∧ base ≤ g ∧ w.heap[g]? = some (.cells cur T (0, 0)) ∧ n ≤ cap ∧ cur.size = cap * sz := by
  rcases h.2 with ⟨_, rfl⟩ | ⟨g, cap, cur, rfl, hb, hg, hnc, _, hcs, _⟩
  · omega
  · exact ⟨g, cap, cur, rfl, hb, hg, hnc, hcs⟩

/-- Elements of one cell each, written out. -/
theorem cellsOf_one : ∀ {vs : List Value}, (∀ u ∈ vs, u.oneCell' = true) → cellsOf vs = vs
  | [], _ => rfl
  | v :: r, h => by
    have hv : v.cells = #[v] := by
      have := h v (by simp)
      cases v <;> first | rfl | simp [Value.oneCell'] at this
    have := cellsOf_one (vs := r) (fun u hu => h u (by simp [hu]))
    simp only [cellsOf, List.flatMap_cons, hv] at this ⊢
    rw [this]; rfl
theorem size_one {vs : List Value} (h : ∀ u ∈ vs, u.oneCell' = true) : ∀ u ∈ vs, u.cells.size = 1 := by
  intro u hu
  have := h u hu
  cases u <;> first | rfl | simp [Value.oneCell'] at this

section
variable {P : Program} {ops : Array Oper} {Q : Exit → Act → World → Prop} {n : Nat} {env : Env} {w : World} {K : Act → World → Prop} {ty : TypeId} {pos : String} {aft : Array Edge} {D : List Deferred}

theorem y_convE {s d : TypeId} {x : Operand} {k k' : IntKind} {a b : Int} {ds : TypeDesc} [hs : Und P s ds] [hd : Und P d (.int k')] (hx : ev env x = some (.int k a)) (hw : k'.wrap a = b) : Yld P n env w ty (.convert s d x) (.int k' b) := by
  subst hw
  exact y_conv hx

theorem y_eqlE {t yt : TypeId} {x y : Operand} {k : IntKind} {a b : Int} {r : Bool} (hx : ev env x = some (.int k a)) (hy : ev env y = some (.int k b)) (hr : decide (a = b) = r) : Yld P n env w ty (.binOp .eql t x y yt) (.bool r) := by
  subst hr
  exact y_eql hx hy
theorem y_neqE {t yt : TypeId} {x y : Operand} {k : IntKind} {a b : Int} {r : Bool} (hx : ev env x = some (.int k a)) (hy : ev env y = some (.int k b)) (hr : (!decide (a = b)) = r) : Yld P n env w ty (.binOp .neq t x y yt) (.bool r) := by
  subst hr
  exact y_neq hx hy
theorem y_andE {t yt : TypeId} {x y : Operand} {k : IntKind} {a b r : Int} (hx : ev env x = some (.int k a)) (hy : ev env y = some (.int k b)) (hr : andK k a b = r) : Yld P n env w ty (.binOp .and t x y yt) (.int k r) := by
  subst hr
  exact y_and hx hy
theorem y_orE {t yt : TypeId} {x y : Operand} {k : IntKind} {a b r : Int} (hx : ev env x = some (.int k a)) (hy : ev env y = some (.int k b)) (hr : orK k a b = r) : Yld P n env w ty (.binOp .or t x y yt) (.int k r) := by
  subst hr
  exact y_or hx hy
theorem y_shlE {t yt : TypeId} {x y : Operand} {k k' : IntKind} {a b r : Int} (hx : ev env x = some (.int k a)) (hy : ev env y = some (.int k' b)) (h0 : 0 ≤ b) (hr : k.wrap (a * 2 ^ min b.toNat k.bits) = r) : Yld P n env w ty (.binOp .shl t x y yt) (.int k r) := by
  subst hr
  exact y_shl hx hy h0
theorem y_shrE {t yt : TypeId} {x y : Operand} {k k' : IntKind} {a b r : Int} (hx : ev env x = some (.int k a)) (hy : ev env y = some (.int k' b)) (h0 : 0 ≤ b) (hr : a.fdiv (2 ^ min b.toNat k.bits) = r) : Yld P n env w ty (.binOp .shr t x y yt) (.int k r) := by
  subst hr
  exact y_shr hx hy h0
theorem y_quoE {t yt : TypeId} {x y : Operand} {a b r : Int} (hx : ev env x = some (.int .i64 a)) (hy : ev env y = some (.int .i64 b)) (hb : 0 < b) (ha0 : 0 ≤ a) (hm : a ≤ 9223372036854775807) (hr : a / b = r) : Yld P n env w ty (.binOp .quo t x y yt) (.int .i64 r) := by
  subst hr
  have h1 := Int.ediv_nonneg ha0 (Int.le_of_lt hb)
  have h2 := Int.ediv_le_self b ha0
  exact y_quo hx hy (by omega) ha0 (IntWalk.i64_in _ (by omega))
theorem y_remE {t yt : TypeId} {x y : Operand} {k : IntKind} {a b r : Int} (hx : ev env x = some (.int k a)) (hy : ev env y = some (.int k b)) (hb : b ≠ 0) (ha0 : 0 ≤ a) (hr : a % b = r) : Yld P n env w ty (.binOp .rem t x y yt) (.int k r) := by
  subst hr
  exact y_rem hx hy hb ha0

/-! Text -/
theorem y_eqlS {t yt : TypeId} {x y : Operand} {a b : List UInt8} {r : Bool} (hx : ev env x = some (.string ⟨a.toArray⟩)) (hy : ev env y = some (.string ⟨b.toArray⟩)) (hr : decide (a = b) = r) : Yld P n env w ty (.binOp .eql t x y yt) (.bool r) := fun e _ _ _ _ ha => by
  subst hr
  have : (a == b) = decide (a = b) := by rw [Bool.eq_iff_iff]; simp
  simp [execOp, ha.ev hx, ha.ev hy, eqGuard, binOp, Op.stringOp, this]
theorem y_neqS {t yt : TypeId} {x y : Operand} {a b : List UInt8} {r : Bool} (hx : ev env x = some (.string ⟨a.toArray⟩)) (hy : ev env y = some (.string ⟨b.toArray⟩)) (hr : (!decide (a = b)) = r) : Yld P n env w ty (.binOp .neq t x y yt) (.bool r) := fun e _ _ _ _ ha => by
  subst hr
  have : (a == b) = decide (a = b) := by rw [Bool.eq_iff_iff]; simp
  simp [execOp, ha.ev hx, ha.ev hy, eqGuard, binOp, Op.stringOp, this]
theorem y_addS {t yt : TypeId} {x y : Operand} {a b : List UInt8} (hx : ev env x = some (.string ⟨a.toArray⟩)) (hy : ev env y = some (.string ⟨b.toArray⟩)) (hl : a.length + b.length ≤ 9223372036854775807) : Yld P n env w ty (.binOp .add t x y yt) (.string ⟨(a ++ b).toArray⟩) := fun e _ _ _ _ ha => by
  have h1 : ¬ (((a.length + b.length : Nat) : Int) > IntKind.i64.max) := by
    have : IntKind.i64.max = 9223372036854775807 := by decide
    omega
  have h2 : (⟨a.toArray⟩ : ByteArray) ++ (⟨b.toArray⟩ : ByteArray) = ⟨(a ++ b).toArray⟩ := by
    apply ByteArray.ext
    simp
  have h3 : (ByteArray.mk a.toArray).size = a.length := by simp [ByteArray.size]
  have h4 : (ByteArray.mk b.toArray).size = b.length := by simp [ByteArray.size]
  simp only [execOp, ha.ev hx, ha.ev hy, eqGuard, binOp, Op.stringOp, h3, h4, h2]
  simp only [if_neg h1]
  rfl

/-- A conversion of bytes to bytes marks the array. -/
theorem s_mark {t e d : Nat} {x : Operand} {b off len cap T : Nat} {cs : Array Value} [hu : Und P t (.slice e)] [he : Und P e (.int .u8)] (hx : ev env x = some (.slice (some ⟨b, off, none⟩) len cap)) (hb : w.heap[b]? = some (.cells cs T (0, 0))) (hd : Nat.blt d n = true)
    (hK : ∀ w', Upd w w' b (.cells cs T (cs.size, cs.size + 1)) → KW D K n ((d, .slice (some ⟨b, off, none⟩) len cap) :: env) w') : StepW D P ops Q ⟨some d, .convert t t x, ty, pos, aft, none⟩ K n env w := by
  have hlt := blk_lt hb
  refine s_val hd (fun a ha => ?_) (hK (w.freeze ⟨b, cs.size, none⟩ 1) ⟨?_, ?_, ⟨rfl, rfl, rfl, ?_, fun k hk hne => ?_⟩⟩)
  · simp [execOp, ha.ev hx, convert, run_und hu, run_und he, markStringish, World.shape?, hb]
  · simp [World.freeze, Array.getElem?_modify, hb]
  · simp [World.freeze]
  · simp [World.freeze]
  · simp only [World.freeze, Nat.succ_ne_self, if_false]
    simp [Array.getElem?_modify, Ne.symm hne]

/-- Where ways meet again: what the frame holds there, and what holds of the world. -/
def Join {σ : Type} (D : List Deferred) (E : σ → Env) (J : σ → World → Prop) (n : Nat) : Act → World → Prop := fun a w => ∃ s, FitsD D n (E s) a ∧ J s w
theorem c_seqJ {σ : Type} (E : σ → Env) (J : σ → World → Prop) {x y : Code} (hx : KW D (Code.wp P x (Exit.then (Join D E J n) Q)) n env w) (hy : ∀ s w', J s w' → KW D (Code.wp P y Q) n (E s) w') : KW D (Code.wp P (.seq x y) Q) n env w :=
  fun a ha => wp_seq (wp_mono (hx a ha) (fun e a' w' h => by
    cases e with
    | normal => obtain ⟨s, hf, hj⟩ := h; exact hy s w' hj a' hf
    | exit id => exact h
    | goto l => exact h
    | ret => exact h
    | panic ch => exact h
    | outgrown => exact h))
theorem c_joinK {σ : Type} (E : σ → Env) (J : σ → World → Prop) {x : Code} (hx : KW D (Code.wp P x (Exit.then (Join D E J n) Q)) n env w) (hy : ∀ s w', J s w' → KW D K n (E s) w') : KW D (Code.wp P x (Exit.then K Q)) n env w :=
  fun a ha => wp_mono (hx a ha) (fun e a' w' h => by
    cases e with
    | normal => obtain ⟨s, hf, hj⟩ := h; exact hy s w' hj a' hf
    | exit id => exact h
    | goto l => exact h
    | ret => exact h
    | panic ch => exact h
    | outgrown => exact h)
theorem e_join {σ : Type} {E : σ → Env} {J : σ → World → Prop} (s : σ) (hE : Sub (E s) env) (hJ : J s w) : KW D (Join D E J n) n env w := fun _ ha => ⟨s, ha.sub hE, hJ⟩

/-- A literal of elements of one cell. -/
theorem s_lit {t e d k : Nat} {parts : List (Nat × Operand)} {ps : List (Nat × Value)} {z : Value} (vs : List Value) [hu : Und P t (.slice e)] [hs : Siz P e 1] [hz : Zer P e z] (hp : evp env parts = some ps) (hps : ps = vs.zipIdx.map fun (v, i) => (i, v)) (hk : vs.length = k) (hv : ∀ u ∈ vs, u.oneCell' = true)
    (hsz : k ≤ 16777216) (hd : Nat.blt d n = true) (hK : ∀ w', New w w' (.cells vs.toArray e (0, 0)) → KW D K n ((d, .slice (some ⟨w.heap.size, 0, none⟩) k k) :: env) w') : StepW D P ops Q ⟨some d, .buildSlice t k parts.toArray, ty, pos, aft, none⟩ K n env w :=
  s_buildSlice hp hps hk (size_one hv) (by omega) hd (fun w' h => hK w' (by rw [cellsOf_one hv] at h; exact h))
theorem y_loadN {t : TypeId} {d : TypeDesc} {x : Operand} {p : Addr} {cs : List Value} {sz : Nat} [hu : Und P t d] [hs : Siz P t sz] (hx : ev env x = some (.pointer (some p))) (h1 : oneD d = false) (hl : cs.length = sz) (hc : ∀ j v, cs[j]? = some v → w.cell? (p.add j) = some v) : Yld P n env w ty (.load t x) (.agg cs.toArray) :=
  y_load hx (run_loadVarN hu h1 hs hl hc)

/-- x[lo:] where something is left. -/
theorem y_sliceLo {t e : TypeId} {x lo : Operand} {b off len cap h sz : Nat} {k : IntKind} {lv : Int} [hu : Und P t (.slice e)] [hs : Siz P e sz] (hx : ev env x = some (.slice (some ⟨b, off, none⟩) len cap)) (hl : ev env lo = some (.int k lv)) (hlv : lv = (h : Int)) (h1 : h ≤ len) (h2 : h < cap) :
    Yld P n env w ty (.slice t x (some lo) none none) (.slice (some ⟨b, off + h * sz, none⟩) (len - h) (cap - h)) := by
  subst hlv
  have hb : (Instr.sliceBounds true len cap (some (.int k (h : Int))) none none).run P w = .ok (h, len, cap) w := by
    simp [Instr.sliceBounds, Instr.sliceBound, asIntOf, h1]
  have := y_slice (P := P) (n := n) (env := env) (w := w) (ty := ty) (t := t) (lo := some lo) (hi := none) (mx := none) (hu := hu) (hs := hs) hx (by simp [evo, hl]) rfl rfl hb
  rw [if_neg (by omega)] at this
  simpa [add_off] using this

/-- copy(x, y) where y is no longer than x. -/
theorem s_copy {d : Nat} {t u e : TypeId} {x y : Operand} {g o dLen dCap m T : Nat} {yv : Value} {F : Nat → Prop} {cur : Array Value} {cs : List Value} [hu : Und P t (.slice e)] [hs : Siz P e 1] (hx : ev env x = some (.slice (some ⟨g, o, none⟩) dLen dCap)) (hy : ev env y = some yv) (hr : Rd w F yv m 1 cs) (hm : m ≤ dLen) (hg : w.heap[g]? = some (.cells cur T (0, 0))) (hfit : o + m ≤ cur.size) (h1 : ∀ c ∈ cs, c.oneCell' = true) (hd : Nat.blt d n = true)
    (hK : ∀ w', Upd w w' g (.cells (splice cur o cs) T (0, 0)) → KW D K n ((d, .int .i64 (m : Int)) :: env) w') : StepW D P ops Q ⟨some d, .call { callee := .builtin .copy, args := #[x, y], argTypes := #[t, u] }, ty, pos, aft, none⟩ K n env w := by
  obtain ⟨a0, cap, rfl, hlc, hlen, hn, hp⟩ := hr
  rw [Nat.mul_one] at hlen
  cases a0 with
  | none =>
    obtain ⟨rfl, rfl⟩ := hn rfl
    have hnil : cs = [] := List.eq_nil_of_length_eq_zero hlen
    subst hnil
    refine s_val hd (fun a ha => ?_) (hK w ⟨by rw [hg]; simp [splice], rfl, Keep.refl _ _⟩)
    have hrun := run_copy_nil (P := P) w t u ty e ⟨g, o, none⟩ dLen dCap hu.eq (by rw [hs.eq]; rfl)
    simp [execOp, resolve, invoke, builtin, ha.ev hx, ha.ev hy, hrun, goInt]
  | some p =>
    have hrun := run_copy_row (P := P) w t u ty e g o dLen dCap p m cap cur T cs hu.eq hs.eq hg (by rw [hlen]; exact (Nat.min_eq_left hm).symm) (hp p rfl).2 (by omega) h1
    refine s_val hd (fun a ha => ?_) (hK _ (Upd.of_setRow hg))
    rw [show splice cur o cs = (List.take o cur.toList ++ cs ++ List.drop (o + cs.length) cur.toList).toArray from rfl]
    simp only [execOp, resolve, invoke, builtin, List.map_toArray, List.map_cons, List.map_nil, ha.ev hx, ha.ev hy, Sem.run_bind, Sem.run_pure, Result.andThen_ok, hrun, goInt, hlen]

/-- a[:] of an array behind a pointer. -/
theorem y_sliceAll {t e : TypeId} {x : Operand} {p : Addr} {len sz : Nat} [hu : Und P t (.array len e)] [hs : Siz P e sz] (hx : ev env x = some (.pointer (some p))) : Yld P n env w ty (.slice t x none none none) (.slice (some p) len len) := by
  have h := y_sliceA (P := P) (n := n) (env := env) (w := w) (ty := ty) (t := t) (lo := none) (hi := none) (mx := none) (l := 0) (h := len) (m := len) (sz := sz) (hu := hu) (hs := hs) hx rfl rfl rfl rfl
  simpa [Addr.add] using h
end

theorem Rd.opn {w : World} {F : Nat → Prop} {a : Option Addr} {len len' cap sz : Nat} {cs : List Value} (h : Rd w F (.slice a len' cap) len sz cs) (hl : 0 < len) (hs : 0 < sz) : ∃ b off, a = some ⟨b, off, none⟩ ∧ F b ∧ ∀ j u, cs[j]? = some u → w.cell? ⟨b, off + j, none⟩ = some u := by
  obtain ⟨a', cap', hv, _, hlen, hn, hp⟩ := h
  cases hv
  cases a with
  | none => have := (hn rfl).1; omega
  | some p =>
    obtain ⟨hF, hc⟩ := hp p rfl
    obtain ⟨b, off, spot⟩ := p
    have h0 : 0 < cs.length := by rw [hlen]; exact Nat.mul_pos hl hs
    obtain ⟨u, hu⟩ : ∃ u, cs[0]? = some u := ⟨cs[0], by simp [h0]⟩
    have hz := hc 0 u hu
    have hspot : spot = none := by simpa [Addr.add] using World.cell?_spot hz
    subst hspot
    exact ⟨b, off, rfl, hF (by omega), fun j u hj => by have := hc j u hj; rwa [add_off] at this⟩
theorem Rd.lenEq {w : World} {F : Nat → Prop} {a : Option Addr} {len len' cap sz : Nat} {cs : List Value} (h : Rd w F (.slice a len' cap) len sz cs) : len' = len := by
  obtain ⟨a', cap', hv, _⟩ := h
  cases hv
  rfl
theorem Rd.shape {w : World} {F : Nat → Prop} {v : Value} {len sz : Nat} {cs : List Value} (h : Rd w F v len sz cs) : ∃ a cap, v = .slice a len cap := by
  obtain ⟨a, cap, rfl, _⟩ := h
  exact ⟨a, cap, rfl⟩

theorem splice_all {cs : Array Value} {vs : List Value} (h : cs.size = vs.length) : splice cs 0 vs = vs.toArray := by
  apply Array.ext'
  have : List.drop vs.length cs.toList = [] := List.drop_eq_nil_of_le (by simp [h])
  simp [splice, this]

/-- Element i of rows of sz cells. -/
theorem row_at {sz : Nat} : ∀ (rows : List (List Value)) (i : Nat) (r : List Value), (∀ u ∈ rows, u.length = sz) → rows[i]? = some r → ∀ j u, r[j]? = some u → rows.flatten[i * sz + j]? = some u
  | [], i, r, _, hi => by simp at hi
  | x :: rest, 0, r, h, hi => by
    simp at hi
    subst hi
    intro j u hj
    have := (List.getElem?_eq_some_iff.1 hj).1
    rw [Nat.zero_mul, Nat.zero_add, List.flatten_cons, List.getElem?_append_left this]
    exact hj
  | x :: rest, i + 1, r, h, hi => by
    intro j u hj
    have hx : x.length = sz := h x (by simp)
    have := row_at rest i r (fun u hu => h u (by simp [hu])) (by simpa using hi) j u hj
    rw [List.flatten_cons, List.getElem?_append_right (by rw [hx, Nat.succ_mul]; omega)]
    rw [← this]
    congr 1
    rw [hx, Nat.succ_mul]; omega
end Go.EW
