/- Regions that draw their order: one order that a check accepts serves for all. No condition. -/
import Derived.Test.YtcjaoiiklfbhoaaEwMem
import Derived.OrdersHeld
import Derived.StillTail
namespace Go.EW
open Go.RowKit

section
variable {P : Program} {ops : Array Oper} {Q : Exit → Act → World → Prop} {md : Region.Mode} {S : World → Prop} {n : Nat} {D : List Deferred}

/-- Whatever order is picked from here on; S holds behind every operation ahead of number n. -/
def wpAnyG (P : Program) (md : Region.Mode) (ops : Array Oper) (Q : Exit → Act → World → Prop) (S : World → Prop) (n : Nat) : Nat → Array Bool → Act → World → Prop
  | 0, listed, a, w => Region.ready md ops listed = [] ∧ Q .normal a w
  | fuel + 1, listed, a, w =>
    (Region.ready md ops listed = [] → Q .normal a w) ∧
    ∀ i ∈ Region.ready md ops listed, wpOp P ops Q i (fun a' w' => (i < n → S w') ∧ wpAnyG P md ops Q S n fuel (listed.setIfInBounds i true) a' w') a w

theorem wpAny_of_G : ∀ (fuel : Nat) (listed : Array Bool) (a : Act) (w : World), wpAnyG P md ops Q S n fuel listed a w → wpAny P md ops Q fuel listed a w
  | 0, _, _, _, h => h
  | fuel + 1, _, _, _, h => ⟨h.1, fun i hi => wpOp_mono (fun a' w' h' => wpAny_of_G fuel _ a' w' h'.2) (h.2 i hi)⟩

/-- While a number below n is to come, none from n on may come. -/
def Waits (md : Region.Mode) (ops : Array Oper) (n : Nat) : Prop :=
  ∀ listed, HeadInv md ops n listed → ∀ i, i < n → listed.getD i true = false → ∀ t, n ≤ t → t ∉ Region.ready md ops listed

theorem wpAnyG_first {i : Nat} {oi : Oper} {v : Value} (hi : ops[i]? = some oi) (hsel : ∀ (j : Nat) (o : Oper) cs b, ops[j]? = some o → o.op ≠ .select cs b)
    (hQ : ∀ c a w, Q (.panic c) (a.put oi.dst v) w → Q (.panic c) a w) (hW : Waits md ops n) (hin : i < n) :
    ∀ (fuel : Nat) (listed : Array Bool) (a : Act) (w : World), HeadInv md ops n listed →
      (∀ j oj, ops[j]? = some oj → j ≠ i → listed.getD j true = false → (∀ e ∈ oj.after, Region.binds md e = true → e.on ≠ i) → oi.apart ops oj = true) →
      i ∈ Region.ready md ops listed → YieldsIf P ops S oi v a → S w →
      wpAnyG P md ops Q S n fuel (listed.setIfInBounds i true) (a.put oi.dst v) w → wpAnyG P md ops Q S n (fuel + 1) listed a w := by
  intro fuel
  induction fuel with
  | zero =>
    intro listed a w _ _ hr hy hS H
    refine ⟨fun h => (by rw [h] at hr; cases hr), fun j hj => ?_⟩
    by_cases hji : j = i
    · subst hji; exact hy.wpOp hi hS ⟨fun _ => hS, H⟩
    · have := ready_mono hj hji
      rw [H.1] at this
      cases this
  | succ fuel ih =>
    intro listed a w inv hfree hr hy hS H
    refine ⟨fun h => (by rw [h] at hr; cases hr), fun j hj => ?_⟩
    by_cases hji : j = i
    · subst hji; exact hy.wpOp hi hS ⟨fun _ => hS, H⟩
    · have hun := (mem_ready.1 hr).1
      have hjn : j < n := by
        rcases Nat.lt_or_ge j n with h | h
        · exact h
        · exact absurd hj (hW listed inv i hin hun j h)
      have h1 := H.2 j (ready_mono hj hji)
      obtain ⟨hjun, oj, hoj, hall⟩ := mem_ready.1 hj
      have hnot : ∀ e ∈ oj.after, Region.binds md e = true → e.on ≠ i := fun e he hb heq => by
        have h1 := hall e he hb
        rw [heq, getD_both hun] at h1
        cases h1
      have h2 := wpOp_putIf hoj (hfree j oj hoj hji hjun hnot) (fun cs b => hsel i oi cs b hi) (fun cs b => hsel j oj cs b hoj) hQ hy h1
      have hfree' : ∀ k ok, ops[k]? = some ok → k ≠ i → (listed.setIfInBounds j true).getD k true = false →
          (∀ e ∈ ok.after, Region.binds md e = true → e.on ≠ i) → oi.apart ops ok = true := fun k ok hk hki hun hno => by
        refine hfree k ok hk hki ?_ hno
        by_cases hjk : j = k
        · subst hjk; exact hjun
        · rw [getD_set_ne true hjk] at hun; exact hun
      refine wpOp_mono (fun a' w' h3 => ⟨fun h => h3.2.1 h, ih (listed.setIfInBounds j true) a' w' (inv.set hj hjn) hfree' (ready_mono hr (Ne.symm hji)) h3.1 (h3.2.1 hjn) ?_⟩) h2
      rw [Array.setIfInBounds_comm _ _ hji]
      exact h3.2.2

theorem wpAnyG_mono {S' : World → Prop} (hS : ∀ w, S' w → S w) : ∀ (fuel : Nat) (listed : Array Bool) (a : Act) (w : World), wpAnyG P md ops Q S' n fuel listed a w → wpAnyG P md ops Q S n fuel listed a w
  | 0, _, _, _, h => h
  | fuel + 1, _, _, _, h => ⟨h.1, fun i hi => wpOp_mono (fun a' w' h' => ⟨fun hn => hS _ (h'.1 hn), wpAnyG_mono hS fuel _ a' w' h'.2⟩) (h.2 i hi)⟩

/-- One order: held operations (true) where they may come and leave their value in every world of S; the others where they alone may come. S may grow stronger from step to step. -/
def wpOrd (P : Program) (ops : Array Oper) (Q : Exit → Act → World → Prop) (n : Nat) : List (Nat × Bool) → (World → Prop) → Act → World → Prop
  | [], _, a, w => Q .normal a w
  | (i, true) :: r, S, a, w => ∃ S' : World → Prop, (∀ w, S' w → S w) ∧ S' w ∧ ∃ o v, ops[i]? = some o ∧ YieldsIf P ops S' o v a ∧ (∀ c a w, Q (.panic c) (a.put o.dst v) w → Q (.panic c) a w) ∧ wpOrd P ops Q n r S' (a.put o.dst v) w
  | (i, false) :: r, S, a, w => ∃ S' : World → Prop, (∀ w, S' w → S w) ∧ wpOp P ops Q i (fun a' w' => (i < n → S' w') ∧ wpOrd P ops Q n r S' a' w') a w

def ordB (md : Region.Mode) (ops : Array Oper) (n : Nat) : List (Nat × Bool) → Array Bool → Bool
  | [], listed => (Region.ready md ops listed).isEmpty
  | (i, true) :: r, listed => Nat.blt i n && (Region.ready md ops listed).contains i && Region.free md ops listed i && (List.range ops.size).all (fun t => Nat.blt t n || !(listed.getD t false)) && ordB md ops n r (listed.setIfInBounds i true)
  | (i, false) :: r, listed => decide (Region.ready md ops listed = [i]) && ordB md ops n r (listed.setIfInBounds i true)

/-- Closed: whatever has come, what it waits for has come. -/
structure Shut (md : Region.Mode) (ops : Array Oper) (listed : Array Bool) : Prop where
  size : listed.size = ops.size
  closed : ∀ j oj, ops[j]? = some oj → listed.getD j false = true → ∀ e ∈ oj.after, Region.binds md e = true → listed.getD e.on false = true

theorem Shut.set {listed : Array Bool} {i : Nat} (inv : Shut md ops listed) (hi : i ∈ Region.ready md ops listed) : Shut md ops (listed.setIfInBounds i true) := by
  obtain ⟨_, oi, hoi, hall⟩ := mem_ready.1 hi
  refine ⟨by simp [inv.size], fun j oj hj hl e he hb => ?_⟩
  by_cases hij : i = j
  · subst hij
    have : oj = oi := Option.some.inj (hj.symm.trans hoi)
    subst this
    exact getD_set_true (hall e he hb)
  · rw [getD_set_ne false hij] at hl
    exact getD_set_true (inv.closed j oj hj hl e he hb)

theorem wpAnyG_of_ord (hsel : Region.noSelect ops = true) (hW : Waits md ops n) : ∀ (ord : List (Nat × Bool)) (S : World → Prop) (listed : Array Bool) (a : Act) (w : World), Shut md ops listed → ordB md ops n ord listed = true → wpOrd P ops Q n ord S a w → wpAnyG P md ops Q S n ord.length listed a w
  | [], S, listed, a, w, _, hB, h => ⟨by simpa [ordB] using hB, h⟩
  | (i, true) :: r, S, listed, a, w, inv, hB, h => by
    simp only [ordB, Bool.and_eq_true] at hB
    obtain ⟨⟨⟨⟨hin, hr⟩, hf⟩, ht⟩, hB'⟩ := hB
    obtain ⟨S', hSS, hS, o, v, ho, hy, hQ, h'⟩ := h
    have hr' : i ∈ Region.ready md ops listed := by simpa using hr
    have hin' : i < n := by simpa using hin
    have hI : HeadInv md ops n listed := by
      refine ⟨inv.size, inv.closed, fun t ht1 ht2 => ?_⟩
      have := List.all_eq_true.1 ht t (by simpa using ht2)
      simp only [Bool.or_eq_true, Bool.not_eq_true'] at this
      rcases this with h | h
      · have : t < n := by simpa using h
        omega
      · exact getD_in (by rw [inv.size]; exact ht2) h
    exact wpAnyG_mono hSS _ _ _ _ (wpAnyG_first ho (Region.noSelect_spec hsel) hQ hW hin' r.length listed a w hI (Region.free_spec ho hf) hr' hy hS (wpAnyG_of_ord hsel hW r S' _ _ _ (inv.set hr') hB' h'))
  | (i, false) :: r, S, listed, a, w, inv, hB, h => by
    simp only [ordB, Bool.and_eq_true, decide_eq_true_eq] at hB
    obtain ⟨hr, hB'⟩ := hB
    obtain ⟨S', hSS, h⟩ := h
    refine wpAnyG_mono hSS _ _ _ _ ⟨fun h0 => (by rw [h0] at hr; cases hr), fun j hj => ?_⟩
    have hji : j = i := by rw [hr] at hj; simpa using hj
    subst hji
    exact wpOp_mono (fun a' w' h' => ⟨h'.1, wpAnyG_of_ord hsel hW r S' _ a' w' (inv.set hj) hB' h'.2⟩) h

/-- The check of an order: n: the number from which on the operations come last, one by one (or how many there are). -/
def drawB (ops : Array Oper) (n : Nat) (ord : List (Nat × Bool)) : Bool :=
  Region.noSelect ops && Nat.beq ord.length ops.size && (Nat.ble ops.size n || (Region.sinkB .any ops n && Region.chainB .any ops n)) && ordB .any ops n ord (Array.replicate ops.size false)

theorem waits_of {ops : Array Oper} (h : (Nat.ble ops.size n || (Region.sinkB .any ops n && Region.chainB .any ops n)) = true) : Waits .any ops n := by
  intro listed inv i hin hun t ht hr
  obtain ⟨_, o, ho, _⟩ := mem_ready.1 hr
  have htl : t < ops.size := (Array.getElem?_eq_some_iff.1 ho).1
  simp only [Bool.or_eq_true, Bool.and_eq_true] at h
  rcases h with h | ⟨hs, hc⟩
  · have : ops.size ≤ n := by simpa using h
    omega
  · exact tail_waits hs hc (by omega) inv _ i rfl hin hun t ht hr

section
variable {env : Env} {w : World} {K : Act → World → Prop} {m : Nat} {ty : TypeId} {pos : String} {aft : Array Edge} {D : List Deferred}

theorem c_draw {id : Nat} {l : List Oper} (n : Nat) (ord : List (Nat × Bool)) (S : World → Prop) (hm : P.follows .mixedOrders = true) (hB : drawB l.toArray n ord = true)
    (h : ∀ w', Ext w w' → w'.heap.size = w.heap.size → KW D (wpOrd P l.toArray Q n ord S) m env w') : KW D (Code.wp P (.region id l.toArray true) Q) m env w := by
  intro a ha
  simp only [drawB, Bool.and_eq_true] at hB
  obtain ⟨⟨⟨hsel, hlen⟩, hw⟩, hord⟩ := hB
  have hlen' : ord.length = l.toArray.size := by simpa using hlen
  refine wp_region_any hm ?_
  rw [← hlen']
  refine wpAny_of_G (S := S) (n := n) _ _ _ _ (wpAnyG_of_ord hsel (waits_of hw) ord S _ _ _ ⟨by simp [hlen'], fun j oj _ hl => ?_⟩ (by rw [hlen']; exact hord) (h { w with drawn := w.drawn + 1 } ⟨rfl, rfl, rfl, Nat.le_refl _, fun _ _ _ => rfl⟩ rfl a ha))
  rw [getD_replicate_false] at hl
  cases hl

/-- No panic of ours hangs on the frame's temporaries. -/
def PanicQ (Q : Exit → Act → World → Prop) : Prop := ∀ (c : List PanicEntry) (a : Act) (d : Nat) (v : Value) (w : World), Q (.panic c) (a.put (some d) v) w → Q (.panic c) a w

theorem o_held {i d : Nat} {op : Op} {v : Value} {r : List (Nat × Bool)} (hi : ops[i]? = some ⟨some d, op, ty, pos, aft, none⟩) (hQ : PanicQ Q) (hS : S w) (hy : ∀ w', S w' → Yld P m env w' ty op v) (hd : Nat.blt d m = true)
    (hK : KW D (wpOrd P ops Q n r S) m ((d, v) :: env) w) : KW D (wpOrd P ops Q n ((i, true) :: r) S) m env w :=
  fun a ha => ⟨S, fun _ h => h, hS, _, v, hi, .inl ⟨by simp [Region.wanted], fun w' hw => hy w' hw a _ _ _ _ ha.toFits⟩, fun c a w => hQ c a d v w, hK _ (ha.put hd v)⟩

theorem o_heldG {i d j : Nat} {b b' : Bool} {op : Op} {v : Value} {r : List (Nat × Bool)} (hi : ops[i]? = some ⟨some d, op, ty, pos, aft, some (j, b)⟩) (hg : guardB ops env j = some b') (hb : b' = b) (hQ : PanicQ Q) (hS : S w) (hy : ∀ w', S w' → Yld P m env w' ty op v) (hd : Nat.blt d m = true)
    (hK : KW D (wpOrd P ops Q n r S) m ((d, v) :: env) w) : KW D (wpOrd P ops Q n ((i, true) :: r) S) m env w :=
  fun a ha => ⟨S, fun _ h => h, hS, _, v, hi, .inl ⟨by simp [Region.wanted, guard_yielded ha.toFits hg, hb], fun w' hw => hy w' hw a _ _ _ _ ha.toFits⟩, fun c a w => hQ c a d v w, hK _ (ha.put hd v)⟩

theorem o_skipG {i d j : Nat} {b b' : Bool} {op : Op} {r : List (Nat × Bool)} (hi : ops[i]? = some ⟨some d, op, ty, pos, aft, some (j, b)⟩) (hg : guardB ops env j = some b') (hb : b' = !b) (hQ : PanicQ Q) (hS : S w) (hd : Nat.blt d m = true)
    (hK : KW D (wpOrd P ops Q n r S) m ((d, undef) :: env) w) : KW D (wpOrd P ops Q n ((i, true) :: r) S) m env w :=
  fun a ha => ⟨S, fun _ h => h, hS, _, undef, hi, .inr ⟨by simp [Region.wanted, guard_yielded ha.toFits hg, hb], rfl⟩, fun c a w => hQ c a d undef w, hK _ (ha.put hd undef)⟩

/-- An operation that comes alone. -/
theorem o_step {i : Nat} {o : Oper} {r : List (Nat × Bool)} (hi : ops[i]? = some o) (h : StepW D P ops Q o (fun a' w' => (i < n → S w') ∧ wpOrd P ops Q n r S a' w') m env w) : KW D (wpOrd P ops Q n ((i, false) :: r) S) m env w := by
  intro a ha
  refine ⟨S, fun _ h => h, ?_⟩
  unfold wpOp
  simp only [hi]
  exact h a ha

theorem o_next {i : Nat} {r : List (Nat × Bool)} (hS : i < n → S w) (hK : KW D (wpOrd P ops Q n r S) m env w) : KW D (fun a' w' => (i < n → S w') ∧ wpOrd P ops Q n r S a' w') m env w := fun a ha => ⟨hS, hK a ha⟩
/-- From here on more is known of every world. -/
theorem o_str {S' : World → Prop} {ord : List (Nat × Bool)} (hS : ∀ w, S' w → S w) (h : KW D (wpOrd P ops Q n ord S') m env w) : KW D (wpOrd P ops Q n ord S) m env w := by
  intro a ha
  have h' := h a ha
  match ord, h' with
  | [], h' => exact h'
  | (i, true) :: r, ⟨S'', hSS, rest⟩ => exact ⟨S'', fun w hw => hS w (hSS w hw), rest⟩
  | (i, false) :: r, ⟨S'', hSS, rest⟩ => exact ⟨S'', fun w hw => hS w (hSS w hw), rest⟩
theorem o_nil (h : KW D (Q .normal) m env w) : KW D (wpOrd P ops Q n [] S) m env w := h
end
end
end Go.EW
