/- The steps of the calculus that make or write memory, and what is kept. No condition. -/
import Derived.Test.YtcjaoiiklfbhoaaEwOps
namespace Go.EW
open Go.RowKit

/-! ### What is kept -/
/-- From w to w' only blocks in F, and new ones, have turned. -/
structure Keep (F : Nat → Prop) (w w' : World) : Prop where
  os : w'.os = w.os
  tape : w'.tape = w.tape
  output : w'.output = w.output
  size : w.heap.size ≤ w'.heap.size
  old : ∀ k, k < w.heap.size → ¬ F k → w'.heap[k]? = w.heap[k]?

def No : Nat → Prop := fun _ => False
abbrev Ext (w w' : World) : Prop := Keep No w w'

theorem Keep.refl (F : Nat → Prop) (w : World) : Keep F w w := ⟨rfl, rfl, rfl, Nat.le_refl _, fun _ _ _ => rfl⟩
theorem Keep.trans {F G : Nat → Prop} {a b c : World} (h : Keep F a b) (k : Keep G b c) (hG : ∀ x, x < a.heap.size → G x → F x) : Keep F a c :=
  ⟨k.os.trans h.os, k.tape.trans h.tape, k.output.trans h.output, Nat.le_trans h.size k.size, fun x hx hF => (k.old x (Nat.lt_of_lt_of_le hx h.size) (fun g => hF (hG x hx g))).trans (h.old x hx hF)⟩
theorem Keep.mono {F G : Nat → Prop} {a b : World} (h : Keep F a b) (hG : ∀ x, x < a.heap.size → F x → G x) : Keep G a b :=
  ⟨h.os, h.tape, h.output, h.size, fun x hx hF => h.old x hx (fun g => hF (hG x hx g))⟩
theorem Keep.of_ext {F : Nat → Prop} {a b : World} (h : Ext a b) : Keep F a b := h.mono (fun _ _ h => h.elim)
theorem Keep.thenExt {F : Nat → Prop} {a b c : World} (h : Keep F a b) (k : Ext b c) : Keep F a c := h.trans k (fun _ _ h => h.elim)
theorem Keep.ext_then {F : Nat → Prop} {a b c : World} (h : Ext a b) (k : Keep F b c) : Keep F a c := (Keep.of_ext h).trans k (fun _ _ h => h)
/-- What is written is new. -/
theorem Keep.thenNew {F G : Nat → Prop} {a b c : World} (h : Keep F a b) (k : Keep G b c) (hG : ∀ x, G x → a.heap.size ≤ x) : Keep F a c := h.trans k (fun x hx g => by have := hG x g; omega)
theorem Ext.trans {a b c : World} (h : Ext a b) (k : Ext b c) : Ext a c := Keep.thenExt h k
theorem Ext.at {a b : World} (h : Ext a b) {k : Nat} {o : Obj} (hk : a.heap[k]? = some o) : b.heap[k]? = some o :=
  (h.old k (Array.getElem?_eq_some_iff.1 hk).1 (fun h => h)).trans hk
theorem Keep.at {F : Nat → Prop} {a b : World} (h : Keep F a b) {k : Nat} {o : Obj} (hk : a.heap[k]? = some o) (hF : ¬ F k) : b.heap[k]? = some o :=
  (h.old k (Array.getElem?_eq_some_iff.1 hk).1 hF).trans hk
theorem Keep.drew {F : Nat → Prop} {a b : World} (h : Keep F a b) : Keep F a b.drew := ⟨h.os, h.tape, h.output, h.size, h.old⟩
theorem Keep.from_drew {F : Nat → Prop} {a b : World} (h : Keep F a.drew b) : Keep F a b := ⟨h.os, h.tape, h.output, h.size, h.old⟩
theorem Keep.below {F : Nat → Prop} {a b : World} (h : Keep F a b) (hF : ∀ x, F x → a.heap.size ≤ x) : Below a.heap.size a b :=
  ⟨h.os, h.tape, h.output, h.size, fun k hk => h.old k hk (fun g => by have := hF k g; omega)⟩
theorem Ext.below {a b : World} (h : Ext a b) : Below a.heap.size a b := Keep.below h (fun _ h => h.elim)
theorem Keep.cell {F : Nat → Prop} {a b : World} (h : Keep F a b) {p : Addr} {v : Value} (hc : a.cell? p = some v) (hF : ¬ F p.block) : b.cell? p = some v :=
  (World.cell?_of_block (h.old _ (World.block_lt_of_cell? a p hc) hF)).trans hc
theorem blk_lt {w : World} {k : Nat} {o : Obj} (h : w.heap[k]? = some o) : k < w.heap.size := (Array.getElem?_eq_some_iff.1 h).1
theorem Keep.of_grown {w w' : World} {row : Option Nat} (h : w.grownBy w' row) : Keep (fun k => some k = row) w w' := ⟨h.os, h.tape, h.output, h.size, fun k hk hn => h.block k hk hn⟩

theorem blk_cell {w : World} {b off : Nat} {cs : Array Value} {T : TypeId} {fr : Nat × Nat} {v : Value} (hb : w.heap[b]? = some (.cells cs T fr)) (hv : cs[off]? = some v) : w.cell? ⟨b, off, none⟩ = some v := by
  simp [World.cell?, hb, hv]
theorem add_off (b off j : Nat) : (⟨b, off, none⟩ : Addr).add j = ⟨b, off + j, none⟩ := by unfold Addr.add; split <;> simp_all
theorem blk_cells {w : World} {b off : Nat} {cs : Array Value} {T : TypeId} {fr : Nat × Nat} {us : List Value} (hb : w.heap[b]? = some (.cells cs T fr)) (hu : ∀ j u, us[j]? = some u → cs[off + j]? = some u) : ∀ j u, us[j]? = some u → w.cell? ((⟨b, off, none⟩ : Addr).add j) = some u := by
  intro j u h
  rw [add_off]
  exact blk_cell hb (hu j u h)

/-- A new block o. -/
structure New (w w' : World) (o : Obj) : Prop where
  eq : ∃ d, w' = { w with heap := w.heap.push o, drawn := d }
theorem New.of_alloc (w : World) (o : Obj) : New w (w.alloc o) o := ⟨⟨w.drawn, rfl⟩⟩
theorem New.at {w w' : World} {o : Obj} (h : New w w' o) : w'.heap[w.heap.size]? = some o := by obtain ⟨d, rfl⟩ := h.eq; simp
theorem New.size {w w' : World} {o : Obj} (h : New w w' o) : w'.heap.size = w.heap.size + 1 := by obtain ⟨d, rfl⟩ := h.eq; simp
theorem New.ext {w w' : World} {o : Obj} (h : New w w' o) : Ext w w' := by
  obtain ⟨d, rfl⟩ := h.eq
  exact ⟨rfl, rfl, rfl, by simp, fun k hk _ => by simp only [Array.getElem?_push]; rw [if_neg (by omega)]⟩

/-- Block b has become o. -/
structure Upd (w w' : World) (b : Nat) (o : Obj) : Prop where
  at_ : w'.heap[b]? = some o
  size : w'.heap.size = w.heap.size
  keep : Keep (fun k => k = b) w w'

theorem Upd.of_setRow {w : World} {g : Nat} {old cs : Array Value} {T : TypeId} {fr : Nat × Nat} (hg : w.heap[g]? = some (.cells old T fr)) : Upd w (w.setRow g cs) g (.cells cs T fr) :=
  ⟨setRow_heap w g old cs T fr hg, by simp [World.setRow], ⟨rfl, rfl, rfl, by simp [World.setRow], fun k _ hne => setRow_other w g k cs hne⟩⟩
theorem Upd.other {w w' : World} {b : Nat} {o : Obj} (h : Upd w w' b o) {k : Nat} {x : Obj} (hk : w.heap[k]? = some x) (hne : k ≠ b) : w'.heap[k]? = some x := h.keep.at hk hne

/-! ### Slices that can be read -/
/-- Slice v of len elements, sz cells each: its cells are cs, and all of them lie in blocks of F. -/
def Rd (w : World) (F : Nat → Prop) (v : Value) (len sz : Nat) (cs : List Value) : Prop :=
  ∃ a cap, v = .slice a len cap ∧ len ≤ cap ∧ cs.length = len * sz ∧ (a = none → len = 0 ∧ cap = 0) ∧ ∀ p, a = some p → (len ≠ 0 → F p.block) ∧ ∀ j u, cs[j]? = some u → w.cell? (p.add j) = some u

theorem Rd.keep {w w' : World} {F G : Nat → Prop} {v : Value} {len sz : Nat} {cs : List Value} (h : Rd w F v len sz cs) (k : Keep G w w') (hG : ∀ b, F b → ¬ G b) : Rd w' F v len sz cs := by
  obtain ⟨a, cap, hv, hl, hlen, hn, hp⟩ := h
  refine ⟨a, cap, hv, hl, hlen, hn, fun p e => ⟨(hp p e).1, fun j u hj => ?_⟩⟩
  have hne : len ≠ 0 := by rintro rfl; have := (List.getElem?_eq_some_iff.1 hj).1; simp [hlen] at this
  have hb : (p.add j).block = p.block := by unfold Addr.add; split <;> rfl
  exact k.cell ((hp p e).2 j u hj) (by rw [hb]; exact hG _ ((hp p e).1 hne))
theorem Rd.ext {w w' : World} {F : Nat → Prop} {v : Value} {len sz : Nat} {cs : List Value} (h : Rd w F v len sz cs) (k : Ext w w') : Rd w' F v len sz cs := h.keep k (fun _ _ h => h)
theorem Rd.mono {w : World} {F G : Nat → Prop} {v : Value} {len sz : Nat} {cs : List Value} (h : Rd w F v len sz cs) (hG : ∀ b, F b → G b) : Rd w G v len sz cs := by
  obtain ⟨a, cap, hv, hl, hlen, hn, hp⟩ := h
  exact ⟨a, cap, hv, hl, hlen, hn, fun p e => ⟨fun h => hG _ ((hp p e).1 h), (hp p e).2⟩⟩
theorem Rd.nil (w : World) (F : Nat → Prop) (sz : Nat) : Rd w F (.slice none 0 0) 0 sz [] := ⟨none, 0, rfl, Nat.le_refl _, by simp, fun _ => ⟨rfl, rfl⟩, fun p e => by cases e⟩
theorem Rd.len {w : World} {F : Nat → Prop} {v : Value} {len sz : Nat} {cs : List Value} (h : Rd w F v len sz cs) : cs.length = len * sz := by obtain ⟨_, _, _, _, h, _⟩ := h; exact h

/-- A row of the call's own reads. -/
theorem Rd.of_own {w : World} {base e sz len : Nat} {v : Value} {cs : List Value} (h : w.ownsRow base e sz v len cs) : Rd w (fun b => some b = v.ownBlock) v len sz cs := by
  obtain ⟨hl, h⟩ := h
  rcases h with ⟨rfl, rfl⟩ | ⟨g, cap, cur, rfl, hb, hg, hnc, hcm, hcs, ht⟩
  · have : cs = [] := List.eq_nil_of_length_eq_zero (by simpa using hl)
    subst this
    exact Rd.nil _ _ _
  · refine ⟨_, cap, rfl, hnc, hl, (fun e => by cases e), fun p e => ?_⟩
    cases e
    refine ⟨fun _ => by simp [Value.ownBlock], fun j u hj => ?_⟩
    rw [add_off]
    refine blk_cell hg ?_
    rw [← ht, List.getElem?_take] at hj
    split at hj
    · simpa using hj
    · cases hj

theorem Rd.of_blk {w : World} {b off len cap sz : Nat} {cur : Array Value} {T : TypeId} {fr : Nat × Nat} {cs : List Value} (hb : w.heap[b]? = some (.cells cur T fr)) (hl : len ≤ cap) (hlen : cs.length = len * sz) (hc : ∀ j u, cs[j]? = some u → cur[off + j]? = some u) :
    Rd w (fun k => k = b) (.slice (some ⟨b, off, none⟩) len cap) len sz cs :=
  ⟨_, cap, rfl, hl, hlen, (fun e => by cases e), fun p e => by cases e; exact ⟨fun _ => rfl, blk_cells hb hc⟩⟩

section
variable {P : Program} {ops : Array Oper} {Q : Exit → Act → World → Prop} {n : Nat} {env : Env} {w : World} {K : Act → World → Prop} {ty : TypeId} {pos : String} {aft : Array Edge} {D : List Deferred}

theorem s_alloc {t d : Nat} {z : Value} [hz : Zer P t z] (hd : Nat.blt d n = true) (hK : ∀ w', New w w' (.cells z.cells t (0, 0)) → KW D K n ((d, .pointer (some ⟨w.heap.size, 0, none⟩)) :: env) w') : StepW D P ops Q ⟨some d, .alloc t, ty, pos, aft, none⟩ K n env w :=
  s_val hd (fun a _ => by simp [execOp, Instr.alloc, run_zero hz, newVar, newRow]) (hK _ (New.of_alloc w _))

theorem s_box {t d : Nat} {x : Operand} {v : Value} (hx : ev env x = some v) (hd : Nat.blt d n = true) (hK : ∀ w', New w w' (.cells v.cells t (0, 0)) → KW D K n ((d, .pointer (some ⟨w.heap.size, 0, none⟩)) :: env) w') : StepW D P ops Q ⟨some d, .box t x, ty, pos, aft, none⟩ K n env w :=
  s_val hd (fun a ha => by simp [execOp, Instr.box, newVar, newRow, ha.ev hx]) (hK _ (New.of_alloc w _))

/-- A store of one cell. -/
theorem s_store1 {t : TypeId} {x y : Operand} {b off : Nat} {v : Value} {cs : Array Value} {T : TypeId} [hs : Siz P t 1] (hx : ev env x = some (.pointer (some ⟨b, off, none⟩))) (hy : ev env y = some v) (h1 : v.oneCell' = true) (hb : w.heap[b]? = some (.cells cs T (0, 0))) (hoff : off < cs.size)
    (hK : ∀ w', Upd w w' b (.cells (cs.setIfInBounds off v) T (0, 0)) → KW D K n env w') : StepW D P ops Q ⟨none, .store t x y, ty, pos, aft, none⟩ K n env w := by
  have hv : v.cells = #[v] := by cases v <;> first | rfl | simp [Value.oneCell'] at h1
  have hst := run_storeCells_at P b off T [v] 0 cs w hb (by simp; omega) (by simpa using h1)
  have hspl : (cs.toList.take (off + 0) ++ [v] ++ cs.toList.drop (off + 0 + [v].length)).toArray = cs.setIfInBounds off v := by
    apply Array.ext'
    simp [List.set_eq_take_append_cons_drop, hoff]
  rw [hspl] at hst
  refine s_skip (fun a ha => ?_) (hK _ (Upd.of_setRow hb))
  simp [execOp, Instr.storeAt, Instr.sureAddr, ha.ev hx, ha.ev hy, storeVar, hv, run_size hs, hst]

def splice (cs : Array Value) (off : Nat) (vs : List Value) : Array Value := (cs.toList.take off ++ vs ++ cs.toList.drop (off + vs.length)).toArray

/-- A store of a variable of several cells. -/
theorem s_storeN {t : TypeId} {x y : Operand} {b off sz : Nat} {vs : List Value} {cs : Array Value} {T : TypeId} [hs : Siz P t sz] (hx : ev env x = some (.pointer (some ⟨b, off, none⟩))) (hy : ev env y = some (.agg vs.toArray)) (hl : vs.length = sz) (h1 : ∀ u ∈ vs, u.oneCell' = true) (hb : w.heap[b]? = some (.cells cs T (0, 0))) (hoff : off + sz ≤ cs.size)
    (hK : ∀ w', Upd w w' b (.cells (splice cs off vs) T (0, 0)) → KW D K n env w') : StepW D P ops Q ⟨none, .store t x y, ty, pos, aft, none⟩ K n env w := by
  subst hl
  have hst := run_storeCells_at P b off T vs 0 cs w hb (by simpa using hoff) h1
  refine s_skip (fun a ha => ?_) (hK _ (Upd.of_setRow hb))
  simp only [Nat.add_zero] at hst
  simp [execOp, Instr.storeAt, Instr.sureAddr, ha.ev hx, ha.ev hy, storeVar, Value.cells, run_size hs, hst, splice]

/-! ### Literals of slices -/
def cellsOf (vs : List Value) : List Value := vs.flatMap fun v => v.cells.toList

theorem fill_row (sz : Nat) : ∀ (vs : List Value) (k : Nat) (pre post : List Value) (tail : Nat), (∀ u ∈ vs, u.cells.size = sz) → pre.length = k * sz → post.length = vs.length * sz + tail →
    Instr.fill (fun i => some (i * sz, sz)) (pre ++ post).toArray ((vs.zipIdx k).map fun (v, i) => (i, v)) = some (pre ++ cellsOf vs ++ post.drop (vs.length * sz)).toArray
  | [], k, pre, post, tail, _, _, _ => by simp [Instr.fill, cellsOf]
  | v :: r, k, pre, post, tail, hv, hp, hq => by
    have hvl : v.cells.toList.length = sz := by simpa using hv v (by simp)
    have hvs : v.cells.size = sz := hv v (by simp)
    have hlen : (v :: r).length * sz = sz + r.length * sz := by rw [List.length_cons, Nat.succ_mul]; omega
    rw [hlen] at hq ⊢
    have hfold : ∀ (us : List Value) (j : Nat) (a m b : List Value), a.length = k * sz + j → m.length = us.length → (us.zipIdx j).foldl (fun (cs : Array Value) (x : Value × Nat) => cs.setIfInBounds (k * sz + x.2) x.1) (a ++ m ++ b).toArray = (a ++ us ++ b).toArray := by
      intro us
      induction us with
      | nil => intro j a m b ha hm; simp at hm; simp [hm]
      | cons u us ih =>
        intro j a m b ha hm
        match m, hm with
        | x :: m, hm =>
          simp only [List.zipIdx_cons, List.foldl_cons]
          have h1 : (a ++ x :: m ++ b).toArray.setIfInBounds (k * sz + j) u = ((a ++ [u]) ++ m ++ b).toArray := by
            apply Array.ext'
            simp [← ha]
          rw [h1, ih (j + 1) (a ++ [u]) m b (by simp; omega) (by simpa using hm)]
          simp
    have hsplit : post = post.take sz ++ post.drop sz := (List.take_append_drop sz post).symm
    have htk : (post.take sz).length = v.cells.toList.length := by simp; omega
    have hstep := hfold v.cells.toList 0 pre (post.take sz) (post.drop sz) (by omega) htk
    have ih := fill_row sz r (k + 1) (pre ++ v.cells.toList) (post.drop sz) tail (fun u hu => hv u (by simp [hu])) (by simp [hp, hvs, Nat.succ_mul]) (by simp; omega)
    simp only [List.zipIdx_cons, List.map_cons, Instr.fill]
    rw [if_neg (by simp [hvs, hp]; omega)]
    have e1 : (pre ++ post).toArray = (pre ++ post.take sz ++ post.drop sz).toArray := by rw [List.append_assoc, ← hsplit]
    have e2 : v.cells.zipIdx.foldl (fun (cs : Array Value) (x : Value × Nat) => cs.setIfInBounds (k * sz + x.2) x.1) (pre ++ post.take sz ++ post.drop sz).toArray = (v.cells.toList.zipIdx 0).foldl (fun (cs : Array Value) (x : Value × Nat) => cs.setIfInBounds (k * sz + x.2) x.1) (pre ++ post.take sz ++ post.drop sz).toArray := by
      rw [← Array.foldl_toList, Array.toList_zipIdx]
    rw [e1]
    show Instr.fill _ (v.cells.zipIdx.foldl (fun (cs : Array Value) (x : Value × Nat) => cs.setIfInBounds (k * sz + x.2) x.1) _) _ = _
    rw [e2, hstep, ih]
    simp [cellsOf]

theorem cellsOf_length {sz : Nat} : ∀ {vs : List Value}, (∀ u ∈ vs, u.cells.size = sz) → (cellsOf vs).length = vs.length * sz
  | [], _ => by simp [cellsOf]
  | v :: r, h => by
    have h1 := h v (by simp)
    have h2 := cellsOf_length (vs := r) (fun u hu => h u (by simp [hu]))
    simp only [cellsOf, List.flatMap_cons, List.length_append, List.length_cons, Nat.succ_mul] at h2 ⊢
    rw [h2]; simp [h1]; omega

/-- A literal whose elements stand in their order. -/
theorem s_buildSlice {t e d k sz : Nat} {parts : List (Nat × Operand)} {ps : List (Nat × Value)} {vs : List Value} {z : Value} [hu : Und P t (.slice e)] [hs : Siz P e sz] [hz : Zer P e z] (hp : evp env parts = some ps) (hps : ps = vs.zipIdx.map fun (v, i) => (i, v)) (hk : vs.length = k) (hv : ∀ u ∈ vs, u.cells.size = sz)
    (hsz : k * sz ≤ 16777216) (hd : Nat.blt d n = true) (hK : ∀ w', New w w' (.cells (cellsOf vs).toArray e (0, 0)) → KW D K n ((d, .slice (some ⟨w.heap.size, 0, none⟩) k k) :: env) w') : StepW D P ops Q ⟨some d, .buildSlice t k parts.toArray, ty, pos, aft, none⟩ K n env w := by
  subst hk
  refine s_val hd (fun a ha => ?_) (hK _ (New.of_alloc w _))
  have hev := ha.evp hp
  have hfill : ∀ (zs : Array Value), zs.size = vs.length * sz → Instr.fill (fun i => some (i * sz, sz)) zs ps = some (cellsOf vs).toArray := by
    intro zs hzl
    have := fill_row sz vs 0 [] zs.toList 0 hv (by simp) (by simpa using hzl)
    simp only [List.nil_append, Array.toArray_toList] at this
    rw [hps, this]
    simp [← hzl]
  simp only [execOp, Sem.run_bind]
  rw [show (parts.toArray.map fun x => match x with | (i, x) => (i, a.eval x)) = ps.toArray from hev]
  simp only [Instr.buildSlice, Sem.run_bind, run_und hu, run_size hs, Result.andThen]
  rw [if_neg (by omega)]
  by_cases h0 : vs.length * sz = 0
  · have hz0 := hfill (Array.map (fun _ => (default : Value)) (Array.range 0)) (by simp [h0])
    simp [h0, hz0, newRow]
  · simp [h0, run_zero hz, hfill _ (show (Array.map (fun x => z.cells[x % z.cells.size]!) (Array.range (vs.length * sz))).size = vs.length * sz by simp), newRow]

/-- make([]T, k). -/
theorem s_make {t e d k sz by_ : Nat} {x y : Operand} {kx ky : IntKind} {xv yv : Int} {z : Value} [hu : Und P t (.slice e)] [hs : Siz P e sz] [hz : Zer P e z] [hb : Byt P e by_] (hx : ev env x = some (.int kx xv)) (hy : ev env y = some (.int ky yv)) (hxk : xv = (k : Int)) (hyk : yv = (k : Int))
    (h1 : by_ * k ≤ 281474976710656) (h2 : k ≤ maxLen) (hd : Nat.blt d n = true)
    (hK : ∀ w', Ext w w' → w'.ownsRow w.heap.size e sz (.slice (some ⟨w.heap.size, 0, none⟩) k k) k (madeCells z.cells (k * sz)).toList → KW D K n ((d, .slice (some ⟨w.heap.size, 0, none⟩) k k) :: env) w') : StepW D P ops Q ⟨some d, .makeSlice t x y, ty, pos, aft, none⟩ K n env w := by
  subst hxk hyk
  obtain ⟨i, hi, hiz, his, hib⟩ := info_all hs hz hb
  obtain ⟨w', hrun, hown, hg⟩ := run_make_full (P := P) w w.heap.size t e i z sz hu.eq hi hiz his kx ky k (by rw [hib]; exact h1) h2 (Nat.le_refl _)
  refine s_val hd (fun a ha => ?_) (hK w' ⟨hg.os, hg.tape, hg.output, hg.size, fun b hb' _ => hg.block b hb' (by simp)⟩ hown)
  simp [execOp, ha.ev hx, ha.ev hy, hrun]

/-- Where the row lies behind an append: where it lay, or in a new block. -/
theorem run_append_where (base : Nat) (t ty e : TypeId) (i : TypeInfo) (z : Value) (ht : P.underlying t = some (.slice e)) (hi : P.info? e = some i) (hz : i.zero = some z)
    (v : Value) (n : Nat) (xs : List Value) (hown : w.ownsRow base e i.size v n xs)
    (a : Addr) (m c : Nat) (news : List Value) (hl : news.length = m * i.size) (hnews : ∀ j u, news[j]? = some u → w.cell? (a.add j) = some u) (h1 : ∀ u ∈ news, u.oneCell' = true)
    (h63 : n + m ≤ maxLen) (hbytes : (n + m) * i.bytes ≤ 140737488355328) {v' : Value} {w' : World} (hrun : (Builtin.append_ #[t, t] ty #[v, .slice (some a) m c]).run P w = .ok v' w') :
    ∀ k, v'.ownBlock = some k → v.ownBlock = some k ∨ w.heap.size ≤ k := by
  have hsmall : n + m ≤ 9223372036854775807 := by simp only [maxLen] at h63; omega
  rcases hown.2 with ⟨rfl, rfl⟩ | ⟨g, cap, cur, rfl, hbg, hg, hnc, hcm, hcs, htake⟩
  · have hx : xs = [] := List.eq_nil_of_length_eq_zero (by simpa using hown.1)
    subst hx
    by_cases hm : m = 0
    · subst hm
      have hn : news = [] := List.eq_nil_of_length_eq_zero (by simpa using hl)
      subst hn
      have hr : (Builtin.append_ #[t, t] ty #[.slice none 0 0, .slice (some a) 0 c]).run P w = .ok (.slice none 0 0) w := by
        simp [Builtin.append_, run_underlying ht, sizeOf, typeInfo, hi, Builtin.lenOf, Builtin.firstCells, loadCells, loadCellsFrom]
      rw [hr] at hrun
      cases hrun
      intro k hk
      exact .inl hk
    · have hr := run_append_nil (P := P) w t ty e i z ht hi hz a m c news hl hnews (by omega) (by omega) (by have hb := hbytes; simp only [Nat.zero_add] at hb; omega)
      rw [hr] at hrun
      cases hrun
      intro k hk
      simp [Value.ownBlock] at hk
      exact .inr (by omega)
  · by_cases hroom : n + m ≤ cap
    · have hfit : n * i.size + news.length ≤ cur.size := by rw [hl, hcs, ← Nat.add_mul]; exact Nat.mul_le_mul_right _ hroom
      have hr := run_append_room (P := P) w t ty e i ht hi g n cap cur hg a m c news hl hnews h1 hroom hfit
      rw [hr] at hrun
      cases hrun
      intro k hk
      exact .inl hk
    · have holds : ∀ j u, xs[j]? = some u → w.cell? ((⟨g, 0, none⟩ : Addr).add j) = some u := hown.cells (g := g) rfl
      have hr := run_append_grow (P := P) w t ty e i z ht hi hz ⟨g, 0, none⟩ n cap xs hown.1 holds a m c news hl hnews (by omega) (by omega) (growslice_fits (by omega) hbytes)
      rw [hr] at hrun
      cases hrun
      intro k hk
      simp [Value.ownBlock] at hk
      exact .inr (by omega)

/-- append(x, y...): x nil or the call's own; y whatever slice. -/
theorem s_append {t e d sz by_ base m len : Nat} {x y : Operand} {v u : Value} {z : Value} {xs news : List Value} {F : Nat → Prop} [hu : Und P t (.slice e)] [hs : Siz P e sz] [hz : Zer P e z] [hb : Byt P e by_]
    (hx : ev env x = some v) (hy : ev env y = some u) (hown : w.ownsRow base e sz v len xs) (hr : Rd w F u m sz news) (h1 : ∀ c ∈ news, c.oneCell' = true) (hzs : z.cells.size = sz) (hsz : 0 < sz) (h63 : len + m ≤ maxLen) (hby : (len + m) * by_ ≤ 140737488355328) (hbase : base ≤ w.heap.size) (hd : Nat.blt d n = true)
    (hK : ∀ v' w', w'.ownsRow base e sz v' (len + m) (xs ++ news) → w.grownBy w' v.ownBlock → (∀ k, v'.ownBlock = some k → v.ownBlock = some k ∨ w.heap.size ≤ k) → KW D K n ((d, v') :: env) w') : StepW D P ops Q ⟨some d, .call { callee := .builtin .append, args := #[x, y], argTypes := #[t, t] }, ty, pos, aft, none⟩ K n env w := by
  obtain ⟨i, hi, hiz, his, hib⟩ := info_all hs hz hb
  obtain ⟨a0, cap, rfl, hlc, hlen, hn, hp⟩ := hr
  have runs : ∀ a, Fits n env a → (execOp a.eval ⟨some d, .call { callee := .builtin .append, args := #[x, y], argTypes := #[t, t] }, ty, pos, aft, none⟩).run P w = ((Builtin.append_ #[t, t] ty #[v, .slice a0 m cap]).run P w).andThen fun r w' => .ok (.value r) w' := by
    intro a ha
    simp [execOp, resolve, invoke, builtin, ha.ev hx, ha.ev hy]
  cases a0 with
  | none =>
    obtain ⟨rfl, rfl⟩ := hn rfl
    have hnil : news = [] := List.eq_nil_of_length_eq_zero (by simpa using hlen)
    subst hnil
    have hrun := run_append_owned_none (P := P) w base t ty e i sz hu.eq hi v len xs hown
    refine s_val hd (fun a ha => by rw [runs a ha, hrun]; rfl) (hK v w (by simpa using hown) ⟨rfl, rfl, rfl, Nat.le_refl _, fun _ _ _ => rfl⟩ (fun k hk => .inl hk))
  | some p =>
    obtain ⟨v', w', hrun, hown', hg, _⟩ := run_append_own (P := P) w base t ty e i z sz by_ hu.eq hi hiz his hib hzs hsz v len xs hown p m cap news hlen (hp p rfl).2 h1 h63 hby hbase
    subst his hib
    exact s_val hd (fun a ha => by rw [runs a ha, hrun]; rfl) (hK v' w' hown' hg (run_append_where base t ty e i z hu.eq hi hiz v len xs hown p m cap news hlen (hp p rfl).2 h1 h63 hby hrun))

/-! ### Text and bytes -/
/-- Bytes as cells. -/
def bc (b : UInt8) : Value := .int .u8 (b.toNat : Int)

theorem y_str {s d : TypeId} {e : TypeId} {x : Operand} {v : Value} {len : Nat} {F : Nat → Prop} {bs : List UInt8} [hs : Und P s (.slice e)] [he : Und P e (.int .u8)] [hd : Und P d .string] (hx : ev env x = some v) (hr : Rd w F v len 1 (bs.map bc)) :
    Yld P n env w ty (.convert s d x) (.string ⟨bs.toArray⟩) := fun a _ _ _ _ ha => by
  obtain ⟨a0, cap, rfl, hlc, hlen, hn, hp⟩ := hr
  simp only [execOp, ha.ev hx, Sem.run_bind, run_convert_bytes_string w s d e a0 len cap hs.eq he.eq hd.eq]
  cases a0 with
  | none =>
    obtain ⟨rfl, rfl⟩ := hn rfl
    have : bs = [] := by simpa using hlen
    subst this
    rfl
  | some p =>
    have hl := run_loadCells_list (P := P) w p (bs.map bc) (hp p rfl).2
    rw [hlen, Nat.mul_one] at hl
    have hm : bs.map bc = (bs.map fun b => (b.toNat : Int)).map (Value.int .u8) := by simp [bc]
    rw [hm] at hl
    rw [run_bytesToString w p len cap _ hl]
    have hfold : ∀ (l : List UInt8) (acc : ByteArray), (l.map fun b => (b.toNat : Int)).foldl (fun (r : ByteArray) (n : Int) => r.push (UInt8.ofNat n.toNat)) acc = ⟨acc.data ++ l.toArray⟩ := by
      intro l
      induction l with
      | nil => intro acc; simp
      | cons b l ih =>
        intro acc
        simp only [List.map_cons, List.foldl_cons]
        rw [ih]
        congr 1
        apply Array.ext'
        simp [ByteArray.push]
    rw [hfold]
    simp [Result.andThen]

/-! ### Calls -/
theorem run_call {f : FuncId} (h : Bod P f) (args : Array Value) : (callFunc f args).run P w = .ok (.enter f args) w := by
  have := h.eq
  cases hf : P.funcs[f]? with
  | none => rw [hf] at this; cases this
  | some fn =>
    rw [hf] at this
    simp only [Option.map_some, Option.some.injEq, Prod.mk.injEq] at this
    have h2 : (fn.name = "runtime.NumGoroutine") = False := by simpa using this.2
    have h1 : (fn.body = none) = False := by
      have := this.1
      cases hb : fn.body with
      | none => rw [hb] at this; cases this
      | some c => simp
    simp [callFunc, hf, h1, h2]

theorem s_call {f : Operand} {F : FuncId} {A B vs us : List Value} {args : List Operand} {argTypes : Array TypeId} {d : Nat} {R : Ending → World → Prop} [hB : Bod P F] (hf : ev env f = some (.func (.func F) A.toArray B.toArray)) (hargs : evs env args = some vs) (hus : A ++ vs ++ B = us)
    (hd : Nat.blt d n = true) (hc : Calls P F us.toArray w R) (hK : ∀ e w', R e w' → ∃ v, e = .returned v ∧ KW D K n ((d, v) :: env) w') :
    StepW D P ops Q ⟨some d, .call { callee := .value f, args := args.toArray, argTypes := argTypes }, ty, pos, aft, none⟩ K n env w := by
  subst hus
  intro a ha
  rw [if_pos (by simp [Region.wanted])]
  left
  unfold Oper.wp
  have hrun : (execOp a.eval ⟨some d, .call { callee := .value f, args := args.toArray, argTypes := argTypes }, ty, pos, aft, none⟩).run P w = .ok (.enter F (A ++ vs ++ B).toArray) w := by
    simp [execOp, resolve, Deferred.ofValue, ha.ev hf, ha.evsL hargs, invoke, run_call hB]
  rw [hrun]
  refine hc.mono fun e w' hR => ?_
  obtain ⟨v, rfl, h⟩ := hK e w' hR
  exact h _ (ha.put hd v)

theorem s_callN {f : Operand} {F : FuncId} {A B vs us : List Value} {args : List Operand} {argTypes : Array TypeId} {R : Ending → World → Prop} [hB : Bod P F] (hf : ev env f = some (.func (.func F) A.toArray B.toArray)) (hargs : evs env args = some vs) (hus : A ++ vs ++ B = us)
    (hc : Calls P F us.toArray w R) (hK : ∀ e w', R e w' → ∃ v, e = .returned v ∧ KW D K n env w') :
    StepW D P ops Q ⟨none, .call { callee := .value f, args := args.toArray, argTypes := argTypes }, ty, pos, aft, none⟩ K n env w := by
  subst hus
  intro a ha
  rw [if_pos (by simp [Region.wanted])]
  left
  unfold Oper.wp
  have hrun : (execOp a.eval ⟨none, .call { callee := .value f, args := args.toArray, argTypes := argTypes }, ty, pos, aft, none⟩).run P w = .ok (.enter F (A ++ vs ++ B).toArray) w := by
    simp [execOp, resolve, Deferred.ofValue, ha.ev hf, ha.evsL hargs, invoke, run_call hB]
  rw [hrun]
  refine hc.mono fun e w' hR => ?_
  obtain ⟨v, rfl, h⟩ := hK e w' hR
  exact h _ ha
end
end Go.EW
