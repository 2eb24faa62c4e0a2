/- ssz.Writer: what its block holds, and what Fixed and Part do to it. Conditions: lengths below 1000000000. -/
import Derived.Test.YtcjaoiiklfbhoaaPut
namespace Go.EW
open Go.RowKit Go.Proofs
set_option maxRecDepth 100000

theorem own_ne {w : World} {base e sz n : Nat} {v : Value} {xs : List Value} {p T : Nat} {cs : Array Value} {fr : Nat × Nat} (ho : w.ownsRow base e sz v n xs) (hb : w.heap[p]? = some (.cells cs T fr)) (hT : e ≠ T) : ∀ b, v.ownBlock = some b → b ≠ p := by
  rintro b hv rfl
  rcases ho.2 with ⟨rfl, _⟩ | ⟨g, cap, cur, rfl, _, hg, _⟩
  · simp [Value.ownBlock] at hv
  · simp [Value.ownBlock] at hv
    subst hv
    rw [hg] at hb
    cases hb
    exact hT rfl
theorem own_ne2 {w : World} {base base' e e' sz sz' n n' : Nat} {v v' : Value} {xs xs' : List Value} (ho : w.ownsRow base e sz v n xs) (ho' : w.ownsRow base' e' sz' v' n' xs') (hT : e ≠ e') : ∀ b, v.ownBlock = some b → v'.ownBlock ≠ some b := by
  intro b hv hv'
  rcases ho'.2 with ⟨rfl, _⟩ | ⟨g, cap, cur, rfl, _, hg, _⟩
  · simp [Value.ownBlock] at hv'
  · simp [Value.ownBlock] at hv'
    subst hv'
    exact own_ne ho hg hT _ hv rfl
theorem own_one {w : World} {base e sz n : Nat} {v : Value} {xs : List Value} (ho : w.ownsRow base e sz v n xs) : v.oneCell' = true := by
  rcases ho.2 with ⟨rfl, _⟩ | ⟨g, cap, cur, rfl, _⟩ <;> rfl
theorem Rd.one {w : World} {F : Nat → Prop} {v : Value} {len sz : Nat} {cs : List Value} (h : Rd w F v len sz cs) : v.oneCell' = true := by
  obtain ⟨a, cap, rfl, _⟩ := h; rfl

/-- Slices of bytes that read as ps. -/
def PartsRd (w : World) (G : Nat → Prop) : List Value → List (List UInt8) → Prop
  | [], [] => True
  | v :: vs, b :: bs => Rd w G v b.length 1 (b.map bc) ∧ PartsRd w G vs bs
  | _, _ => False
theorem PartsRd.keep {w w' : World} {G F : Nat → Prop} (k : Keep F w w') (hF : ∀ b, G b → ¬ F b) : ∀ {vs : List Value} {ps : List (List UInt8)}, PartsRd w G vs ps → PartsRd w' G vs ps
  | [], [], _ => trivial
  | _ :: _, _ :: _, ⟨h1, h2⟩ => ⟨h1.keep k hF, PartsRd.keep k hF h2⟩
  | [], _ :: _, h => h.elim
  | _ :: _, [], h => h.elim
theorem PartsRd.mono {w : World} {G F : Nat → Prop} (hF : ∀ b, G b → F b) : ∀ {vs : List Value} {ps : List (List UInt8)}, PartsRd w G vs ps → PartsRd w F vs ps
  | [], [], _ => trivial
  | _ :: _, _ :: _, ⟨h1, h2⟩ => ⟨h1.mono hF, PartsRd.mono hF h2⟩
  | [], _ :: _, h => h.elim
  | _ :: _, [], h => h.elim
theorem PartsRd.snoc {w : World} {G : Nat → Prop} {v : Value} {b : List UInt8} (h1 : Rd w G v b.length 1 (b.map bc)) : ∀ {vs : List Value} {ps : List (List UInt8)}, PartsRd w G vs ps → PartsRd w G (vs ++ [v]) (ps ++ [b])
  | [], [], _ => ⟨h1, trivial⟩
  | _ :: _, _ :: _, ⟨h2, h3⟩ => ⟨h2, PartsRd.snoc h1 h3⟩
  | [], _ :: _, h => h.elim
  | _ :: _, [], h => h.elim
theorem PartsRd.length {w : World} {G : Nat → Prop} : ∀ {vs : List Value} {ps : List (List UInt8)}, PartsRd w G vs ps → vs.length = ps.length
  | [], [], _ => rfl
  | _ :: _, _ :: _, ⟨_, h⟩ => by simp [PartsRd.length h]
  | [], _ :: _, h => h.elim
  | _ :: _, [], h => h.elim
theorem PartsRd.at {w : World} {G : Nat → Prop} : ∀ {vs : List Value} {ps : List (List UInt8)}, PartsRd w G vs ps → ∀ (i : Nat) (hi : i < ps.length), ∃ v, vs[i]? = some v ∧ Rd w G v (ps[i]).length 1 (ps[i].map bc)
  | [], [], _, i, hi => by simp at hi
  | v :: _, b :: _, ⟨h1, h2⟩, i, hi => by
    cases i with
    | zero => exact ⟨v, rfl, h1⟩
    | succ i => simpa using PartsRd.at h2 i (by simpa using hi)
  | [], _ :: _, h, _, _ => h.elim
  | _ :: _, [], h, _, _ => h.elim
theorem PartsRd.one {w : World} {G : Nat → Prop} : ∀ {vs : List Value} {ps : List (List UInt8)}, PartsRd w G vs ps → ∀ v ∈ vs, v.oneCell' = true
  | [], [], _, v, hv => by simp at hv
  | u :: _, _ :: _, ⟨h1, h2⟩, v, hv => by
    rcases List.mem_cons.1 hv with rfl | hv
    · exact h1.one
    · exact PartsRd.one h2 v hv
  | [], _ :: _, h, _, _ => h.elim
  | _ :: _, [], h, _, _ => h.elim

/-- Number n as an int's cell. -/
def ic (n : Nat) : Value := .int .i64 (n : Int)
theorem ic_one (l : List Nat) : ∀ c ∈ l.map ic, c.oneCell' = true := by
  intro c hc
  obtain ⟨b, _, rfl⟩ := List.mem_map.1 hc
  rfl

/-- The Writer at block p: its fixed bytes, its holes, its parts; all that it holds lies in F. -/
structure WS (w : World) (F : Nat → Prop) (p : Nat) (fx : List UInt8) (hs : List Nat) (ps : List (List UInt8)) : Prop where
  parts : ∃ vf vh vp vs G, w.heap[p]? = some (.cells #[vf, vh, vp] 47 (0, 0)) ∧ w.ownsRow 0 5 1 vf fx.length (fx.map bc) ∧ w.ownsRow 0 3 1 vh hs.length (hs.map ic) ∧ w.ownsRow 0 23 1 vp ps.length vs ∧ PartsRd w G vs ps ∧
    F p ∧ (∀ b, vf.ownBlock = some b → F b ∧ ¬ G b) ∧ (∀ b, vh.ownBlock = some b → F b ∧ ¬ G b) ∧ (∀ b, vp.ownBlock = some b → F b ∧ ¬ G b) ∧ (∀ b, G b → F b) ∧ ¬ G p
  lt : ∀ b, F b → b < w.heap.size

/-- What has come to the footprint is new. -/
def Grow (w : World) (F F' : Nat → Prop) : Prop := ∀ b, F' b → F b ∨ w.heap.size ≤ b

theorem WS.keep {w w' : World} {F H : Nat → Prop} {p : Nat} {fx : List UInt8} {hs : List Nat} {ps : List (List UInt8)} (h : WS w F p fx hs ps) (k : Keep H w w') (hd : ∀ b, F b → ¬ H b) : WS w' F p fx hs ps := by
  obtain ⟨⟨vf, vh, vp, vs, G, hp, hf, hh, hv, hr, hFp, hFf, hFh, hFv, hG, hGp⟩, hlt⟩ := h
  exact ⟨⟨vf, vh, vp, vs, G, k.at hp (hd p hFp), own_keep hf k (fun b e => hd b (hFf b e).1), own_keep hh k (fun b e => hd b (hFh b e).1), own_keep hv k (fun b e => hd b (hFv b e).1), hr.keep k (fun b e => hd b (hG b e)), hFp, hFf, hFh, hFv, hG, hGp⟩,
    fun b e => Nat.lt_of_lt_of_le (hlt b e) k.size⟩
theorem WS.ext {w w' : World} {F : Nat → Prop} {p : Nat} {fx : List UInt8} {hs : List Nat} {ps : List (List UInt8)} (h : WS w F p fx hs ps) (k : Ext w w') : WS w' F p fx hs ps := h.keep k (fun _ _ h => h)

/-- A new Writer. -/
theorem WS.new {w w' : World} (h : New w w' (.cells #[.slice none 0 0, .slice none 0 0, .slice none 0 0] 47 (0, 0))) : WS w' (fun b => b = w.heap.size) w.heap.size [] [] [] :=
  ⟨⟨_, _, _, [], No, h.at, World.ownsRow_nil _ _ _ _, World.ownsRow_nil _ _ _ _, World.ownsRow_nil _ _ _ _, trivial, rfl, fun _ e => by simp [Value.ownBlock] at e, fun _ e => by simp [Value.ownBlock] at e, fun _ e => by simp [Value.ownBlock] at e, fun _ h => h.elim, fun h => h⟩,
    fun b e => by have := h.size; omega⟩

set_option maxHeartbeats 400000 in
theorem fixed_any (p : Nat) (F G : Nat → Prop) (fx : List UInt8) (hs : List Nat) (ps : List (List UInt8)) (v : Value) (bs : List UInt8) (w : World) (h : WS w F p fx hs ps) (hb : Rd w G v bs.length 1 (bs.map bc)) (hsz : fx.length + bs.length ≤ 1000000000) :
    Calls Try.prog 19 [.pointer (some ⟨p, 0, none⟩), v].toArray w fun e w' => e = .returned (.tuple #[]) ∧ ∃ F', WS w' F' p (fx ++ bs) hs ps ∧ Keep F w w' ∧ Grow w F F' := by
  obtain ⟨⟨vf, vh, vp, vs, G', hp, hf, hh, hv, hr, hFp, hFf, hFh, hFv, hG, hGp⟩, hlt⟩ := h
  refine enter Try.func19 rfl Try.ntmps19 rfl ?_
  repeat (first | ((with_reducible apply l_y); (· first | exact y_move rfl | exact y_assign rfl | exact y_nilCheck rfl | exact y_fieldAddr rfl | exact y_load1 rfl rfl (blk_cell (by assumption) rfl) | exact y_len rfl | exact y_lss rfl rfl | exact y_eql rfl rfl | exact y_leq rfl rfl | exact y_gtr rfl rfl | exact y_geq rfl rfl | exact y_neq rfl rfl | exact y_not rfl | exact y_extract rfl rfl | exact y_nilCheckF rfl | exact y_makeFunc rfl rfl | exact y_max rfl rfl | exact y_min rfl rfl | (refine y_add rfl rfl (IntWalk.i64_in _ ?_); omega) | (refine y_sub rfl rfl (IntWalk.i64_in _ ?_); omega) | (refine y_mul rfl rfl (IntWalk.i64_in _ ?_); omega) | (refine y_quo rfl rfl ?_ ?_ (IntWalk.i64_in _ ?_) <;> omega) | (refine y_rem rfl rfl ?_ ?_ <;> omega) | (refine y_pickT rfl ?_ rfl; (first | (with_reducible rfl) | assumption | exact decide_eq_false (by omega) | exact decide_eq_true (by omega))) | (refine y_pickF rfl ?_ rfl; (first | (with_reducible rfl) | assumption | exact decide_eq_false (by omega) | exact decide_eq_true (by omega)))); (· rfl)) | (with_reducible refine c_seq ?_) | (with_reducible refine c_region ?_) | (with_reducible refine c_nil ?_) | (with_reducible refine e_then ?_) | (with_reducible refine c_block ?_) | (with_reducible refine c_skip ?_) | (with_reducible refine c_ret ?_) | (with_reducible refine c_exit ?_) | (with_reducible refine e_then_ret ?_) | (with_reducible refine e_then_exit ?_) | (with_reducible refine e_block_normal ?_) | (with_reducible refine e_block_ret ?_) | (with_reducible refine e_block_here ?_) | ((with_reducible refine e_block_past ?_ ?_); (· rfl)) | ((with_reducible apply c_yes); (· rfl); (· first | (with_reducible rfl) | exact Bool.not_false | assumption | exact decide_eq_true (by omega))) | ((with_reducible apply c_no); (· rfl); (· first | (with_reducible rfl) | exact Bool.not_true | assumption | exact decide_eq_false (by omega))))
  refine l_step (s_append (base := 0) rfl rfl hf hb (bc_one _) rfl ?_ ?_ ?_ ?_ rfl ?_)
  · omega
  · unfold maxLen; omega
  · omega
  · exact Nat.zero_le _
  intro vf' w1 hf1 hg1 hw1
  have hp1 : w1.heap[p]? = some (.cells #[vf, vh, vp] 47 (0, 0)) := (hg1.block p (blk_lt hp) (fun e => own_ne hf hp (by decide) p e.symm rfl)).trans hp
  repeat (first | ((with_reducible apply l_y); (· first | exact y_move rfl | exact y_assign rfl | exact y_nilCheck rfl | exact y_fieldAddr rfl | exact y_load1 rfl rfl (blk_cell (by assumption) rfl) | exact y_len rfl | exact y_lss rfl rfl | exact y_eql rfl rfl | exact y_leq rfl rfl | exact y_gtr rfl rfl | exact y_geq rfl rfl | exact y_neq rfl rfl | exact y_not rfl | exact y_extract rfl rfl | exact y_nilCheckF rfl | exact y_makeFunc rfl rfl | exact y_max rfl rfl | exact y_min rfl rfl | (refine y_add rfl rfl (IntWalk.i64_in _ ?_); omega) | (refine y_sub rfl rfl (IntWalk.i64_in _ ?_); omega) | (refine y_mul rfl rfl (IntWalk.i64_in _ ?_); omega) | (refine y_quo rfl rfl ?_ ?_ (IntWalk.i64_in _ ?_) <;> omega) | (refine y_rem rfl rfl ?_ ?_ <;> omega) | (refine y_pickT rfl ?_ rfl; (first | (with_reducible rfl) | assumption | exact decide_eq_false (by omega) | exact decide_eq_true (by omega))) | (refine y_pickF rfl ?_ rfl; (first | (with_reducible rfl) | assumption | exact decide_eq_false (by omega) | exact decide_eq_true (by omega)))); (· rfl)) | (with_reducible refine c_seq ?_) | (with_reducible refine c_region ?_) | (with_reducible refine c_nil ?_) | (with_reducible refine e_then ?_) | (with_reducible refine c_block ?_) | (with_reducible refine c_skip ?_) | (with_reducible refine c_ret ?_) | (with_reducible refine c_exit ?_) | (with_reducible refine e_then_ret ?_) | (with_reducible refine e_then_exit ?_) | (with_reducible refine e_block_normal ?_) | (with_reducible refine e_block_ret ?_) | (with_reducible refine e_block_here ?_) | ((with_reducible refine e_block_past ?_ ?_); (· rfl)) | ((with_reducible apply c_yes); (· rfl); (· first | (with_reducible rfl) | exact Bool.not_false | assumption | exact decide_eq_true (by omega))) | ((with_reducible apply c_no); (· rfl); (· first | (with_reducible rfl) | exact Bool.not_true | assumption | exact decide_eq_false (by omega))))
  refine l_step (s_store1 rfl rfl (own_one hf1) hp1 (by simp) ?_)
  intro w2 hU
  repeat (first | ((with_reducible apply l_y); (· first | exact y_move rfl | exact y_assign rfl | exact y_nilCheck rfl | exact y_fieldAddr rfl | exact y_load1 rfl rfl (blk_cell (by assumption) rfl) | exact y_len rfl | exact y_lss rfl rfl | exact y_eql rfl rfl | exact y_leq rfl rfl | exact y_gtr rfl rfl | exact y_geq rfl rfl | exact y_neq rfl rfl | exact y_not rfl | exact y_extract rfl rfl | exact y_nilCheckF rfl | exact y_makeFunc rfl rfl | exact y_max rfl rfl | exact y_min rfl rfl | (refine y_add rfl rfl (IntWalk.i64_in _ ?_); omega) | (refine y_sub rfl rfl (IntWalk.i64_in _ ?_); omega) | (refine y_mul rfl rfl (IntWalk.i64_in _ ?_); omega) | (refine y_quo rfl rfl ?_ ?_ (IntWalk.i64_in _ ?_) <;> omega) | (refine y_rem rfl rfl ?_ ?_ <;> omega) | (refine y_pickT rfl ?_ rfl; (first | (with_reducible rfl) | assumption | exact decide_eq_false (by omega) | exact decide_eq_true (by omega))) | (refine y_pickF rfl ?_ rfl; (first | (with_reducible rfl) | assumption | exact decide_eq_false (by omega) | exact decide_eq_true (by omega)))); (· rfl)) | (with_reducible refine c_seq ?_) | (with_reducible refine c_region ?_) | (with_reducible refine c_nil ?_) | (with_reducible refine e_then ?_) | (with_reducible refine c_block ?_) | (with_reducible refine c_skip ?_) | (with_reducible refine c_ret ?_) | (with_reducible refine c_exit ?_) | (with_reducible refine e_then_ret ?_) | (with_reducible refine e_then_exit ?_) | (with_reducible refine e_block_normal ?_) | (with_reducible refine e_block_ret ?_) | (with_reducible refine e_block_here ?_) | ((with_reducible refine e_block_past ?_ ?_); (· rfl)) | ((with_reducible apply c_yes); (· rfl); (· first | (with_reducible rfl) | exact Bool.not_false | assumption | exact decide_eq_true (by omega))) | ((with_reducible apply c_no); (· rfl); (· first | (with_reducible rfl) | exact Bool.not_true | assumption | exact decide_eq_false (by omega))))
  refine end0 Try.results19 ⟨rfl, fun b => F b ∨ vf'.ownBlock = some b, ⟨⟨vf', vh, vp, vs, G', hU.at_, ?_, ?_, ?_, ?_, .inl hFp, ?_, fun b e => ⟨.inl (hFh b e).1, (hFh b e).2⟩, fun b e => ⟨.inl (hFv b e).1, (hFv b e).2⟩, fun b e => .inl (hG b e), hGp⟩, ?_⟩, ?_, ?_⟩
  · have := own_keep hf1 hU.keep (own_ne hf1 hp1 (by decide))
    simpa using this
  · exact own_keep (own_keep hh (Keep.of_grown hg1) (fun b e e' => own_ne2 hh hf (by decide) b e e'.symm)) hU.keep (fun b e => own_ne hh hp (by decide) b e)
  · exact own_keep (own_keep hv (Keep.of_grown hg1) (fun b e e' => own_ne2 hv hf (by decide) b e e'.symm)) hU.keep (fun b e => own_ne hv hp (by decide) b e)
  · exact (hr.keep (Keep.of_grown hg1) (fun b e e' => (hFf b e'.symm).2 e)).keep hU.keep (fun b e e' => hGp (e' ▸ e))
  · intro b e
    refine ⟨.inr e, fun g => ?_⟩
    rcases hw1 b e with e' | e'
    · exact (hFf b e').2 g
    · have := hlt b (hG b g); omega
  · intro b e
    have hs1 := hU.size
    have hs2 := hg1.size
    rcases e with e | e
    · have := hlt b e; omega
    · have := (hf1.lt b e).2; omega
  · refine ((Keep.of_grown hg1).mono (fun x _ e => (hFf x e.symm).1)).trans hU.keep (fun x _ e => by subst e; exact hFp)
  · intro b e
    rcases e with e | e
    · exact .inl e
    · rcases hw1 b e with e' | e'
      · exact .inl (hFf b e').1
      · exact .inr e'
end Go.EW
