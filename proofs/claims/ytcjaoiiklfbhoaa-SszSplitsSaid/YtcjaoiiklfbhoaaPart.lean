/- ssz.Writer: Part. Conditions: lengths below 1000000000. -/
import Derived.Test.YtcjaoiiklfbhoaaWriter2
namespace Go.EW
open Go.RowKit Go.Proofs
set_option maxRecDepth 100000

/-- The Writer at block p with its three slices named. -/
structure WSat (w : World) (F G : Nat → Prop) (p : Nat) (vf vh vp : Value) (vs : List Value) (fx : List UInt8) (hs : List Nat) (ps : List (List UInt8)) : Prop where
  blk : w.heap[p]? = some (.cells #[vf, vh, vp] 47 (0, 0))
  f : w.ownsRow 0 5 1 vf fx.length (fx.map bc)
  h : w.ownsRow 0 3 1 vh hs.length (hs.map ic)
  q : w.ownsRow 0 23 1 vp ps.length vs
  r : PartsRd w G vs ps
  Fp : F p
  Ff : ∀ b, vf.ownBlock = some b → F b ∧ ¬ G b
  Fh : ∀ b, vh.ownBlock = some b → F b ∧ ¬ G b
  Fq : ∀ b, vp.ownBlock = some b → F b ∧ ¬ G b
  GF : ∀ b, G b → F b
  Gp : ¬ G p
  lt : ∀ b, F b → b < w.heap.size

theorem WS.at_ {w : World} {F : Nat → Prop} {p : Nat} {fx : List UInt8} {hs : List Nat} {ps : List (List UInt8)} (h : WS w F p fx hs ps) : ∃ G vf vh vp vs, WSat w F G p vf vh vp vs fx hs ps := by
  obtain ⟨⟨vf, vh, vp, vs, G, hp, hf, hh, hv, hr, hFp, hFf, hFh, hFv, hG, hGp⟩, hlt⟩ := h
  exact ⟨G, vf, vh, vp, vs, hp, hf, hh, hv, hr, hFp, hFf, hFh, hFv, hG, hGp, hlt⟩
theorem WSat.ws {w : World} {F G : Nat → Prop} {p : Nat} {vf vh vp : Value} {vs : List Value} {fx : List UInt8} {hs : List Nat} {ps : List (List UInt8)} (h : WSat w F G p vf vh vp vs fx hs ps) : WS w F p fx hs ps :=
  ⟨⟨vf, vh, vp, vs, G, h.blk, h.f, h.h, h.q, h.r, h.Fp, h.Ff, h.Fh, h.Fq, h.GF, h.Gp⟩, h.lt⟩
theorem WSat.keep {w w' : World} {F G H : Nat → Prop} {p : Nat} {vf vh vp : Value} {vs : List Value} {fx : List UInt8} {hs : List Nat} {ps : List (List UInt8)} (h : WSat w F G p vf vh vp vs fx hs ps) (k : Keep H w w') (hd : ∀ b, F b → ¬ H b) : WSat w' F G p vf vh vp vs fx hs ps :=
  ⟨k.at h.blk (hd p h.Fp), own_keep h.f k (fun b e => hd b (h.Ff b e).1), own_keep h.h k (fun b e => hd b (h.Fh b e).1), own_keep h.q k (fun b e => hd b (h.Fq b e).1), h.r.keep k (fun b e => hd b (h.GF b e)), h.Fp, h.Ff, h.Fh, h.Fq, h.GF, h.Gp,
    fun b e => Nat.lt_of_lt_of_le (h.lt b e) k.size⟩
theorem WSat.ext {w w' : World} {F G : Nat → Prop} {p : Nat} {vf vh vp : Value} {vs : List Value} {fx : List UInt8} {hs : List Nat} {ps : List (List UInt8)} (h : WSat w F G p vf vh vp vs fx hs ps) (k : Ext w w') : WSat w' F G p vf vh vp vs fx hs ps := h.keep k (fun _ _ h => h)

section
variable {w w1 w2 : World} {F G : Nat → Prop} {p : Nat} {vf vh vp v' : Value} {vs : List Value} {fx : List UInt8} {hs : List Nat} {ps : List (List UInt8)}

/-- The block of the Writer is none of its rows. -/
theorem WSat.blk1 (h : WSat w F G p vf vh vp vs fx hs ps) {v : Value} (hv : v = vf ∨ v = vh ∨ v = vp) (hg : w.grownBy w1 v.ownBlock) : w1.heap[p]? = some (.cells #[vf, vh, vp] 47 (0, 0)) := by
  refine (hg.block p (blk_lt h.blk) (fun e => ?_)).trans h.blk
  rcases hv with rfl | rfl | rfl
  · exact own_ne h.f h.blk (by decide) p e.symm rfl
  · exact own_ne h.h h.blk (by decide) p e.symm rfl
  · exact own_ne h.q h.blk (by decide) p e.symm rfl

theorem WSat.putHoles (h : WSat w F G p vf vh vp vs fx hs ps) {x : Nat} (ho : w1.ownsRow 0 3 1 v' (hs.length + 1) (hs.map ic ++ [ic x])) (hg : w.grownBy w1 vh.ownBlock) (hw : ∀ k, v'.ownBlock = some k → vh.ownBlock = some k ∨ w.heap.size ≤ k) (hU : Upd w1 w2 p (.cells #[vf, v', vp] 47 (0, 0))) :
    ∃ F', WSat w2 F' G p vf v' vp vs fx (hs ++ [x]) ps ∧ Wr w F w2 F' := by
  have hb1 := h.blk1 (.inr (.inl rfl)) hg
  refine ⟨fun b => F b ∨ v'.ownBlock = some b, ⟨hU.at_, ?_, ?_, ?_, ?_, .inl h.Fp, fun b e => ⟨.inl (h.Ff b e).1, (h.Ff b e).2⟩, ?_, fun b e => ⟨.inl (h.Fq b e).1, (h.Fq b e).2⟩, fun b e => .inl (h.GF b e), h.Gp, ?_⟩, ?_, ?_⟩
  · exact own_keep (own_keep h.f (Keep.of_grown hg) (fun b e e' => own_ne2 h.f h.h (by decide) b e e'.symm)) hU.keep (fun b e => own_ne h.f h.blk (by decide) b e)
  · have := own_keep ho hU.keep (own_ne ho hb1 (by decide))
    simpa using this
  · exact own_keep (own_keep h.q (Keep.of_grown hg) (fun b e e' => own_ne2 h.q h.h (by decide) b e e'.symm)) hU.keep (fun b e => own_ne h.q h.blk (by decide) b e)
  · exact (h.r.keep (Keep.of_grown hg) (fun b e e' => (h.Fh b e'.symm).2 e)).keep hU.keep (fun b e e' => h.Gp (e' ▸ e))
  · intro b e
    refine ⟨.inr e, fun g => ?_⟩
    rcases hw b e with e' | e'
    · exact (h.Fh b e').2 g
    · have := h.lt b (h.GF b g); omega
  · intro b e
    have hs1 := hU.size
    have hs2 := hg.size
    rcases e with e | e
    · have := h.lt b e; omega
    · have := (ho.lt b e).2; omega
  · exact ((Keep.of_grown hg).mono (fun x _ e => (h.Fh x e.symm).1)).trans hU.keep (fun x _ e => by subst e; exact h.Fp)
  · intro b e
    rcases e with e | e
    · exact .inl e
    · rcases hw b e with e' | e'
      · exact .inl (h.Fh b e').1
      · exact .inr e'

theorem WSat.putFixed (h : WSat w F G p vf vh vp vs fx hs ps) {bs : List UInt8} (ho : w1.ownsRow 0 5 1 v' (fx.length + bs.length) (fx.map bc ++ bs.map bc)) (hg : w.grownBy w1 vf.ownBlock) (hw : ∀ k, v'.ownBlock = some k → vf.ownBlock = some k ∨ w.heap.size ≤ k) (hU : Upd w1 w2 p (.cells #[v', vh, vp] 47 (0, 0))) :
    ∃ F', WSat w2 F' G p v' vh vp vs (fx ++ bs) hs ps ∧ Wr w F w2 F' := by
  have hb1 := h.blk1 (.inl rfl) hg
  refine ⟨fun b => F b ∨ v'.ownBlock = some b, ⟨hU.at_, ?_, ?_, ?_, ?_, .inl h.Fp, ?_, fun b e => ⟨.inl (h.Fh b e).1, (h.Fh b e).2⟩, fun b e => ⟨.inl (h.Fq b e).1, (h.Fq b e).2⟩, fun b e => .inl (h.GF b e), h.Gp, ?_⟩, ?_, ?_⟩
  · have := own_keep ho hU.keep (own_ne ho hb1 (by decide))
    simpa using this
  · exact own_keep (own_keep h.h (Keep.of_grown hg) (fun b e e' => own_ne2 h.h h.f (by decide) b e e'.symm)) hU.keep (fun b e => own_ne h.h h.blk (by decide) b e)
  · exact own_keep (own_keep h.q (Keep.of_grown hg) (fun b e e' => own_ne2 h.q h.f (by decide) b e e'.symm)) hU.keep (fun b e => own_ne h.q h.blk (by decide) b e)
  · exact (h.r.keep (Keep.of_grown hg) (fun b e e' => (h.Ff b e'.symm).2 e)).keep hU.keep (fun b e e' => h.Gp (e' ▸ e))
  · intro b e
    refine ⟨.inr e, fun g => ?_⟩
    rcases hw b e with e' | e'
    · exact (h.Ff b e').2 g
    · have := h.lt b (h.GF b g); omega
  · intro b e
    have hs1 := hU.size
    have hs2 := hg.size
    rcases e with e | e
    · have := h.lt b e; omega
    · have := (ho.lt b e).2; omega
  · exact ((Keep.of_grown hg).mono (fun x _ e => (h.Ff x e.symm).1)).trans hU.keep (fun x _ e => by subst e; exact h.Fp)
  · intro b e
    rcases e with e | e
    · exact .inl e
    · rcases hw b e with e' | e'
      · exact .inl (h.Ff b e').1
      · exact .inr e'

/-- A part: its own bytes lie in D, a new block. -/
theorem WSat.putParts (h : WSat w F G p vf vh vp vs fx hs ps) {D : Nat → Prop} {v : Value} {b : List UInt8} (hd : Rd w D v b.length 1 (b.map bc)) (hD : ∀ x, D x → ¬ F x ∧ x < w.heap.size) (ho : w1.ownsRow 0 23 1 v' (ps.length + 1) (vs ++ [v])) (hg : w.grownBy w1 vp.ownBlock) (hw : ∀ k, v'.ownBlock = some k → vp.ownBlock = some k ∨ w.heap.size ≤ k) (hU : Upd w1 w2 p (.cells #[vf, vh, v'] 47 (0, 0))) :
    ∃ F' G', WSat w2 F' G' p vf vh v' (vs ++ [v]) fx hs (ps ++ [b]) ∧ Keep F w w2 ∧ ∀ x, F' x → F x ∨ D x ∨ w.heap.size ≤ x := by
  have hb1 := h.blk1 (.inr (.inr rfl)) hg
  refine ⟨fun b => F b ∨ D b ∨ v'.ownBlock = some b, fun b => G b ∨ D b, ⟨hU.at_, ?_, ?_, ?_, ?_, .inl h.Fp, ?_, ?_, ?_, ?_, ?_, ?_⟩, ?_, ?_⟩
  · exact own_keep (own_keep h.f (Keep.of_grown hg) (fun b e e' => own_ne2 h.f h.q (by decide) b e e'.symm)) hU.keep (fun b e => own_ne h.f h.blk (by decide) b e)
  · exact own_keep (own_keep h.h (Keep.of_grown hg) (fun b e e' => own_ne2 h.h h.q (by decide) b e e'.symm)) hU.keep (fun b e => own_ne h.h h.blk (by decide) b e)
  · have := own_keep ho hU.keep (own_ne ho hb1 (by decide))
    simpa using this
  · refine PartsRd.snoc ?_ ?_
    · exact ((hd.keep (Keep.of_grown hg) (fun b e e' => (hD b e).1 (h.Fq b e'.symm).1)).keep hU.keep (fun b e e' => (hD b e).1 (e' ▸ h.Fp))).mono (fun _ e => .inr e)
    · exact ((h.r.keep (Keep.of_grown hg) (fun b e e' => (h.Fq b e'.symm).2 e)).keep hU.keep (fun b e e' => h.Gp (e' ▸ e))).mono (fun _ e => .inl e)
  · exact fun b e => ⟨.inl (h.Ff b e).1, fun g => g.elim (h.Ff b e).2 (fun d => (hD b d).1 (h.Ff b e).1)⟩
  · exact fun b e => ⟨.inl (h.Fh b e).1, fun g => g.elim (h.Fh b e).2 (fun d => (hD b d).1 (h.Fh b e).1)⟩
  · intro b e
    refine ⟨.inr (.inr e), fun g => ?_⟩
    rcases hw b e with e' | e'
    · exact g.elim (h.Fq b e').2 (fun d => (hD b d).1 (h.Fq b e').1)
    · rcases g with g | d
      · have := h.lt b (h.GF b g); omega
      · have := (hD b d).2; omega
  · exact fun b g => g.elim (fun g => .inl (h.GF b g)) (fun d => .inr (.inl d))
  · exact fun g => g.elim h.Gp (fun d => (hD p d).1 h.Fp)
  · intro b e
    have hs1 := hU.size
    have hs2 := hg.size
    rcases e with e | e | e
    · have := h.lt b e; omega
    · have := (hD b e).2; omega
    · have := (ho.lt b e).2; omega
  · exact ((Keep.of_grown hg).mono (fun x _ e => (h.Fq x e.symm).1)).trans hU.keep (fun x _ e => by subst e; exact h.Fp)
  · intro b e
    rcases e with e | e | e
    · exact .inl e
    · exact .inr (.inl e)
    · rcases hw b e with e' | e'
      · exact .inl (h.Fq b e').1
      · exact .inr (.inr e')
end

set_option maxHeartbeats 1000000 in
theorem part_any (p : Nat) (F G : Nat → Prop) (fx : List UInt8) (hs : List Nat) (ps : List (List UInt8)) (v : Value) (bs : List UInt8) (w : World) (h : WS w F p fx hs ps) (hb : Rd w G v bs.length 1 (bs.map bc)) (hG : ∀ b, G b → ¬ F b ∧ b < w.heap.size) (hsz : fx.length ≤ 1000000000) (hsz2 : bs.length ≤ 1000000000) (hh : hs.length ≤ 1000000000) (hq : ps.length ≤ 1000000000) :
    Calls Try.prog 24 [.pointer (some ⟨p, 0, none⟩), v].toArray w fun e w' => e = .returned (.tuple #[]) ∧ ∃ F', WS w' F' p (fx ++ [0, 0, 0, 0]) (hs ++ [fx.length]) (ps ++ [bs]) ∧ Wr w F w' F' := by
  obtain ⟨H, vf, vh, vp, vs, h0⟩ := h.at_
  refine enter Try.func24 rfl Try.ntmps24 rfl ?_
  repeat (first | ((with_reducible apply l_y); (· first | exact y_move rfl | exact y_assign rfl | exact y_nilCheck rfl | exact y_fieldAddr rfl | exact y_load1 rfl rfl (blk_cell (by assumption) rfl) | exact y_len rfl | exact y_lss rfl rfl | exact y_eql rfl rfl | exact y_leq rfl rfl | exact y_gtr rfl rfl | exact y_geq rfl rfl | exact y_neq rfl rfl | exact y_not rfl | exact y_extract rfl rfl | exact y_nilCheckF rfl | exact y_makeFunc rfl rfl | exact y_max rfl rfl | exact y_min rfl rfl | (refine y_add rfl rfl (IntWalk.i64_in _ ?_); omega) | (refine y_sub rfl rfl (IntWalk.i64_in _ ?_); omega) | (refine y_mul rfl rfl (IntWalk.i64_in _ ?_); omega) | (refine y_quo rfl rfl ?_ ?_ (IntWalk.i64_in _ ?_) <;> omega) | (refine y_rem rfl rfl ?_ ?_ <;> omega) | (refine y_pickT rfl ?_ rfl; (first | (with_reducible rfl) | assumption | exact decide_eq_false (by omega) | exact decide_eq_true (by omega))) | (refine y_pickF rfl ?_ rfl; (first | (with_reducible rfl) | assumption | exact decide_eq_false (by omega) | exact decide_eq_true (by omega)))); (· rfl)) | (with_reducible refine c_seq ?_) | (with_reducible refine c_region ?_) | (with_reducible refine c_nil ?_) | (with_reducible refine e_then ?_) | (with_reducible refine c_block ?_) | (with_reducible refine c_skip ?_) | (with_reducible refine c_ret ?_) | (with_reducible refine c_exit ?_) | (with_reducible refine e_then_ret ?_) | (with_reducible refine e_then_exit ?_) | (with_reducible refine e_block_normal ?_) | (with_reducible refine e_block_ret ?_) | (with_reducible refine e_block_here ?_) | ((with_reducible refine e_block_past ?_ ?_); (· rfl)) | ((with_reducible apply c_yes); (· rfl); (· first | (with_reducible rfl) | exact Bool.not_false | assumption | exact decide_eq_true (by omega))) | ((with_reducible apply c_no); (· rfl); (· first | (with_reducible rfl) | exact Bool.not_true | assumption | exact decide_eq_false (by omega))))
  -- region 0: the hole
  refine c_draw 12 [(0, true), (1, true), (2, true), (3, true), (4, true), (5, true), (6, true), (7, true), (8, true), (9, true), (10, false), (11, false), (12, false), (13, false), (14, false)] (fun w' => w'.heap[p]? = some (.cells #[vf, vh, vp] 47 (0, 0))) mixed (by decide +kernel) ?_
  intro w1 hE1 hs1
  have h1 := h0.ext hE1
  have hp1 := h1.blk
  obtain ⟨af, cf, hvf⟩ := (Rd.of_own h1.f).shape
  subst hvf
  repeat (first | ((with_reducible apply o_held); (· rfl); (· exact fun _ _ _ _ _ h => h); (· exact hp1); (· intro w' hw; first | exact y_move rfl | exact y_assign rfl | exact y_nilCheck rfl | exact y_fieldAddr rfl | exact y_load1 rfl rfl (blk_cell hw rfl) | exact y_load1 rfl rfl (blk_cell (hw.at (by assumption)) rfl) | exact y_len rfl | exact y_lss rfl rfl | exact y_eql rfl rfl | exact y_leq rfl rfl | exact y_gtr rfl rfl | exact y_geq rfl rfl | exact y_neq rfl rfl | exact y_not rfl | exact y_extract rfl rfl | exact y_nilCheckF rfl | exact y_makeFunc rfl rfl | exact y_max rfl rfl | exact y_min rfl rfl | (refine y_add rfl rfl (IntWalk.i64_in _ ?_); omega) | (refine y_sub rfl rfl (IntWalk.i64_in _ ?_); omega) | (refine y_mul rfl rfl (IntWalk.i64_in _ ?_); omega) | (refine y_quo rfl rfl ?_ ?_ (IntWalk.i64_in _ ?_) <;> omega) | (refine y_rem rfl rfl ?_ ?_ <;> omega) | (refine y_pickT rfl ?_ rfl; (first | (with_reducible rfl) | assumption | exact decide_eq_false (by omega) | exact decide_eq_true (by omega))) | (refine y_pickF rfl ?_ rfl; (first | (with_reducible rfl) | assumption | exact decide_eq_false (by omega) | exact decide_eq_true (by omega)))); (· rfl)) | ((with_reducible apply o_heldG); (· rfl); (· rfl); (· first | (with_reducible rfl) | assumption | exact decide_eq_false (by omega) | exact decide_eq_true (by omega)); (· exact fun _ _ _ _ _ h => h); (· exact hp1); (· intro w' hw; first | exact y_move rfl | exact y_assign rfl | exact y_nilCheck rfl | exact y_fieldAddr rfl | exact y_load1 rfl rfl (blk_cell hw rfl) | exact y_load1 rfl rfl (blk_cell (hw.at (by assumption)) rfl) | exact y_len rfl | exact y_lss rfl rfl | exact y_eql rfl rfl | exact y_leq rfl rfl | exact y_gtr rfl rfl | exact y_geq rfl rfl | exact y_neq rfl rfl | exact y_not rfl | exact y_extract rfl rfl | exact y_nilCheckF rfl | exact y_makeFunc rfl rfl | exact y_max rfl rfl | exact y_min rfl rfl | (refine y_add rfl rfl (IntWalk.i64_in _ ?_); omega) | (refine y_sub rfl rfl (IntWalk.i64_in _ ?_); omega) | (refine y_mul rfl rfl (IntWalk.i64_in _ ?_); omega) | (refine y_quo rfl rfl ?_ ?_ (IntWalk.i64_in _ ?_) <;> omega) | (refine y_rem rfl rfl ?_ ?_ <;> omega) | (refine y_pickT rfl ?_ rfl; (first | (with_reducible rfl) | assumption | exact decide_eq_false (by omega) | exact decide_eq_true (by omega))) | (refine y_pickF rfl ?_ rfl; (first | (with_reducible rfl) | assumption | exact decide_eq_false (by omega) | exact decide_eq_true (by omega)))); (· rfl)) | ((with_reducible apply o_skipG); (· rfl); (· rfl); (· first | (with_reducible rfl) | assumption | exact decide_eq_false (by omega) | exact decide_eq_true (by omega)); (· exact fun _ _ _ _ _ h => h); (· exact hp1); (· rfl)))
  refine o_step rfl (s_lit [ic fx.length] rfl rfl rfl (ic_one [_]) (by omega) rfl ?_)
  intro w2 hN2
  have h2 := h1.ext hN2.ext
  refine o_next (fun _ => h2.blk) ?_
  refine o_step rfl (s_append (base := 0) rfl rfl h2.h (hN2.lit (sz := 1) rfl) (ic_one [_]) rfl ?_ ?_ ?_ ?_ rfl ?_)
  · omega
  · unfold maxLen; omega
  · omega
  · exact Nat.zero_le _
  intro vh' w3 hO3 hg3 hw3
  have hp3 := h2.blk1 (.inr (.inl rfl)) hg3
  refine o_next (fun _ => hp3) ?_
  repeat (first | ((with_reducible apply o_step); (· rfl); (apply s_y); (· first | exact y_move rfl | exact y_assign rfl | exact y_nilCheck rfl | exact y_fieldAddr rfl | exact y_load1 rfl rfl (blk_cell (by assumption) rfl) | exact y_len rfl | exact y_lss rfl rfl | exact y_eql rfl rfl | exact y_leq rfl rfl | exact y_gtr rfl rfl | exact y_geq rfl rfl | exact y_neq rfl rfl | exact y_not rfl | exact y_extract rfl rfl | exact y_nilCheckF rfl | exact y_makeFunc rfl rfl | exact y_max rfl rfl | exact y_min rfl rfl | (refine y_add rfl rfl (IntWalk.i64_in _ ?_); omega) | (refine y_sub rfl rfl (IntWalk.i64_in _ ?_); omega) | (refine y_mul rfl rfl (IntWalk.i64_in _ ?_); omega) | (refine y_quo rfl rfl ?_ ?_ (IntWalk.i64_in _ ?_) <;> omega) | (refine y_rem rfl rfl ?_ ?_ <;> omega) | (refine y_pickT rfl ?_ rfl; (first | (with_reducible rfl) | assumption | exact decide_eq_false (by omega) | exact decide_eq_true (by omega))) | (refine y_pickF rfl ?_ rfl; (first | (with_reducible rfl) | assumption | exact decide_eq_false (by omega) | exact decide_eq_true (by omega)))); (· rfl); (refine o_next (fun h => absurd h (by omega)) ?_)) | refine o_nil ?_)
  refine o_step rfl (s_store1 rfl rfl (own_one hO3) hp3 ?_ ?_)
  · simp
  intro w4 hU4
  refine o_next (fun h => absurd h (by omega)) ?_
  repeat (first | ((with_reducible apply o_step); (· rfl); (apply s_y); (· first | exact y_move rfl | exact y_assign rfl | exact y_nilCheck rfl | exact y_fieldAddr rfl | exact y_load1 rfl rfl (blk_cell (by assumption) rfl) | exact y_len rfl | exact y_lss rfl rfl | exact y_eql rfl rfl | exact y_leq rfl rfl | exact y_gtr rfl rfl | exact y_geq rfl rfl | exact y_neq rfl rfl | exact y_not rfl | exact y_extract rfl rfl | exact y_nilCheckF rfl | exact y_makeFunc rfl rfl | exact y_max rfl rfl | exact y_min rfl rfl | (refine y_add rfl rfl (IntWalk.i64_in _ ?_); omega) | (refine y_sub rfl rfl (IntWalk.i64_in _ ?_); omega) | (refine y_mul rfl rfl (IntWalk.i64_in _ ?_); omega) | (refine y_quo rfl rfl ?_ ?_ (IntWalk.i64_in _ ?_) <;> omega) | (refine y_rem rfl rfl ?_ ?_ <;> omega) | (refine y_pickT rfl ?_ rfl; (first | (with_reducible rfl) | assumption | exact decide_eq_false (by omega) | exact decide_eq_true (by omega))) | (refine y_pickF rfl ?_ rfl; (first | (with_reducible rfl) | assumption | exact decide_eq_false (by omega) | exact decide_eq_true (by omega)))); (· rfl); (refine o_next (fun h => absurd h (by omega)) ?_)) | refine o_nil ?_)
  obtain ⟨F4, h4, hR4⟩ := h2.putHoles (x := fx.length) hO3 hg3 hw3 hU4
  have hR4' : Wr w F w4 F4 := (Wr.ext (hE1.trans hN2.ext)).trans hR4
  -- region 1: four bytes for the place
  have hp4 := h4.blk
  repeat (first | ((with_reducible apply l_y); (· first | exact y_move rfl | exact y_assign rfl | exact y_nilCheck rfl | exact y_fieldAddr rfl | exact y_load1 rfl rfl (blk_cell (by assumption) rfl) | exact y_len rfl | exact y_lss rfl rfl | exact y_eql rfl rfl | exact y_leq rfl rfl | exact y_gtr rfl rfl | exact y_geq rfl rfl | exact y_neq rfl rfl | exact y_not rfl | exact y_extract rfl rfl | exact y_nilCheckF rfl | exact y_makeFunc rfl rfl | exact y_max rfl rfl | exact y_min rfl rfl | (refine y_add rfl rfl (IntWalk.i64_in _ ?_); omega) | (refine y_sub rfl rfl (IntWalk.i64_in _ ?_); omega) | (refine y_mul rfl rfl (IntWalk.i64_in _ ?_); omega) | (refine y_quo rfl rfl ?_ ?_ (IntWalk.i64_in _ ?_) <;> omega) | (refine y_rem rfl rfl ?_ ?_ <;> omega) | (refine y_pickT rfl ?_ rfl; (first | (with_reducible rfl) | assumption | exact decide_eq_false (by omega) | exact decide_eq_true (by omega))) | (refine y_pickF rfl ?_ rfl; (first | (with_reducible rfl) | assumption | exact decide_eq_false (by omega) | exact decide_eq_true (by omega)))); (· rfl)) | (with_reducible refine c_seq ?_) | (with_reducible refine c_region ?_) | (with_reducible refine c_nil ?_) | (with_reducible refine e_then ?_) | (with_reducible refine c_block ?_) | (with_reducible refine c_skip ?_) | (with_reducible refine c_ret ?_) | (with_reducible refine c_exit ?_) | (with_reducible refine e_then_ret ?_) | (with_reducible refine e_then_exit ?_) | (with_reducible refine e_block_normal ?_) | (with_reducible refine e_block_ret ?_) | (with_reducible refine e_block_here ?_) | ((with_reducible refine e_block_past ?_ ?_); (· rfl)) | ((with_reducible apply c_yes); (· rfl); (· first | (with_reducible rfl) | exact Bool.not_false | assumption | exact decide_eq_true (by omega))) | ((with_reducible apply c_no); (· rfl); (· first | (with_reducible rfl) | exact Bool.not_true | assumption | exact decide_eq_false (by omega))))
  refine l_step (s_lit [bc 0, bc 0, bc 0, bc 0] rfl rfl rfl (bc_one [_, _, _, _]) (by omega) rfl ?_)
  intro w5 hN5
  have h5 := h4.ext hN5.ext
  refine l_step (s_append (base := 0) rfl rfl h5.f (hN5.lit (sz := 1) rfl) (bc_one [_, _, _, _]) rfl ?_ ?_ ?_ ?_ rfl ?_)
  · omega
  · unfold maxLen; omega
  · omega
  · exact Nat.zero_le _
  intro vf' w6 hO6 hg6 hw6
  have hp6 := h5.blk1 (.inl rfl) hg6
  repeat (first | ((with_reducible apply l_y); (· first | exact y_move rfl | exact y_assign rfl | exact y_nilCheck rfl | exact y_fieldAddr rfl | exact y_load1 rfl rfl (blk_cell (by assumption) rfl) | exact y_len rfl | exact y_lss rfl rfl | exact y_eql rfl rfl | exact y_leq rfl rfl | exact y_gtr rfl rfl | exact y_geq rfl rfl | exact y_neq rfl rfl | exact y_not rfl | exact y_extract rfl rfl | exact y_nilCheckF rfl | exact y_makeFunc rfl rfl | exact y_max rfl rfl | exact y_min rfl rfl | (refine y_add rfl rfl (IntWalk.i64_in _ ?_); omega) | (refine y_sub rfl rfl (IntWalk.i64_in _ ?_); omega) | (refine y_mul rfl rfl (IntWalk.i64_in _ ?_); omega) | (refine y_quo rfl rfl ?_ ?_ (IntWalk.i64_in _ ?_) <;> omega) | (refine y_rem rfl rfl ?_ ?_ <;> omega) | (refine y_pickT rfl ?_ rfl; (first | (with_reducible rfl) | assumption | exact decide_eq_false (by omega) | exact decide_eq_true (by omega))) | (refine y_pickF rfl ?_ rfl; (first | (with_reducible rfl) | assumption | exact decide_eq_false (by omega) | exact decide_eq_true (by omega)))); (· rfl)) | (with_reducible refine c_seq ?_) | (with_reducible refine c_region ?_) | (with_reducible refine c_nil ?_) | (with_reducible refine e_then ?_) | (with_reducible refine c_block ?_) | (with_reducible refine c_skip ?_) | (with_reducible refine c_ret ?_) | (with_reducible refine c_exit ?_) | (with_reducible refine e_then_ret ?_) | (with_reducible refine e_then_exit ?_) | (with_reducible refine e_block_normal ?_) | (with_reducible refine e_block_ret ?_) | (with_reducible refine e_block_here ?_) | ((with_reducible refine e_block_past ?_ ?_); (· rfl)) | ((with_reducible apply c_yes); (· rfl); (· first | (with_reducible rfl) | exact Bool.not_false | assumption | exact decide_eq_true (by omega))) | ((with_reducible apply c_no); (· rfl); (· first | (with_reducible rfl) | exact Bool.not_true | assumption | exact decide_eq_false (by omega))))
  refine l_step (s_store1 rfl rfl (own_one hO6) hp6 ?_ ?_)
  · simp
  intro w7 hU7
  obtain ⟨F7, h7, hR7⟩ := h5.putFixed (bs := [0, 0, 0, 0]) hO6 hg6 hw6 hU7
  have hR7' : Wr w F w7 F7 := hR4'.trans ((Wr.ext hN5.ext).trans hR7)
  have hGF7 := hR7'.apart (fun b g => (hG b g).1) (fun b g => (hG b g).2)
  have hb7 := hb.keep hR7'.keep (fun b g => (hG b g).1)
  repeat (first | ((with_reducible apply l_y); (· first | exact y_move rfl | exact y_assign rfl | exact y_nilCheck rfl | exact y_fieldAddr rfl | exact y_load1 rfl rfl (blk_cell (by assumption) rfl) | exact y_len rfl | exact y_lss rfl rfl | exact y_eql rfl rfl | exact y_leq rfl rfl | exact y_gtr rfl rfl | exact y_geq rfl rfl | exact y_neq rfl rfl | exact y_not rfl | exact y_extract rfl rfl | exact y_nilCheckF rfl | exact y_makeFunc rfl rfl | exact y_max rfl rfl | exact y_min rfl rfl | (refine y_add rfl rfl (IntWalk.i64_in _ ?_); omega) | (refine y_sub rfl rfl (IntWalk.i64_in _ ?_); omega) | (refine y_mul rfl rfl (IntWalk.i64_in _ ?_); omega) | (refine y_quo rfl rfl ?_ ?_ (IntWalk.i64_in _ ?_) <;> omega) | (refine y_rem rfl rfl ?_ ?_ <;> omega) | (refine y_pickT rfl ?_ rfl; (first | (with_reducible rfl) | assumption | exact decide_eq_false (by omega) | exact decide_eq_true (by omega))) | (refine y_pickF rfl ?_ rfl; (first | (with_reducible rfl) | assumption | exact decide_eq_false (by omega) | exact decide_eq_true (by omega)))); (· rfl)) | (with_reducible refine c_seq ?_) | (with_reducible refine c_region ?_) | (with_reducible refine c_nil ?_) | (with_reducible refine e_then ?_) | (with_reducible refine c_block ?_) | (with_reducible refine c_skip ?_) | (with_reducible refine c_ret ?_) | (with_reducible refine c_exit ?_) | (with_reducible refine e_then_ret ?_) | (with_reducible refine e_then_exit ?_) | (with_reducible refine e_block_normal ?_) | (with_reducible refine e_block_ret ?_) | (with_reducible refine e_block_here ?_) | ((with_reducible refine e_block_past ?_ ?_); (· rfl)) | ((with_reducible apply c_yes); (· rfl); (· first | (with_reducible rfl) | exact Bool.not_false | assumption | exact decide_eq_true (by omega))) | ((with_reducible apply c_no); (· rfl); (· first | (with_reducible rfl) | exact Bool.not_true | assumption | exact decide_eq_false (by omega))))
  -- region 2: the part's own bytes
  refine c_draw 10 [(0, true), (1, true), (2, true), (3, true), (4, true), (6, true), (5, false), (7, false), (8, false), (9, false), (10, false), (11, false), (12, false)] (fun w' => w'.heap[p]? = some (.cells #[vf', vh', vp] 47 (0, 0))) mixed (by decide +kernel) ?_
  intro w8 hE8 hs8
  have h8 := h7.ext hE8
  have hp8 := h8.blk
  repeat (first | ((with_reducible apply o_held); (· rfl); (· exact fun _ _ _ _ _ h => h); (· exact hp8); (· intro w' hw; first | exact y_move rfl | exact y_assign rfl | exact y_nilCheck rfl | exact y_fieldAddr rfl | exact y_load1 rfl rfl (blk_cell hw rfl) | exact y_load1 rfl rfl (blk_cell (hw.at (by assumption)) rfl) | exact y_len rfl | exact y_lss rfl rfl | exact y_eql rfl rfl | exact y_leq rfl rfl | exact y_gtr rfl rfl | exact y_geq rfl rfl | exact y_neq rfl rfl | exact y_not rfl | exact y_extract rfl rfl | exact y_nilCheckF rfl | exact y_makeFunc rfl rfl | exact y_max rfl rfl | exact y_min rfl rfl | (refine y_add rfl rfl (IntWalk.i64_in _ ?_); omega) | (refine y_sub rfl rfl (IntWalk.i64_in _ ?_); omega) | (refine y_mul rfl rfl (IntWalk.i64_in _ ?_); omega) | (refine y_quo rfl rfl ?_ ?_ (IntWalk.i64_in _ ?_) <;> omega) | (refine y_rem rfl rfl ?_ ?_ <;> omega) | (refine y_pickT rfl ?_ rfl; (first | (with_reducible rfl) | assumption | exact decide_eq_false (by omega) | exact decide_eq_true (by omega))) | (refine y_pickF rfl ?_ rfl; (first | (with_reducible rfl) | assumption | exact decide_eq_false (by omega) | exact decide_eq_true (by omega)))); (· rfl)) | ((with_reducible apply o_heldG); (· rfl); (· rfl); (· first | (with_reducible rfl) | assumption | exact decide_eq_false (by omega) | exact decide_eq_true (by omega)); (· exact fun _ _ _ _ _ h => h); (· exact hp8); (· intro w' hw; first | exact y_move rfl | exact y_assign rfl | exact y_nilCheck rfl | exact y_fieldAddr rfl | exact y_load1 rfl rfl (blk_cell hw rfl) | exact y_load1 rfl rfl (blk_cell (hw.at (by assumption)) rfl) | exact y_len rfl | exact y_lss rfl rfl | exact y_eql rfl rfl | exact y_leq rfl rfl | exact y_gtr rfl rfl | exact y_geq rfl rfl | exact y_neq rfl rfl | exact y_not rfl | exact y_extract rfl rfl | exact y_nilCheckF rfl | exact y_makeFunc rfl rfl | exact y_max rfl rfl | exact y_min rfl rfl | (refine y_add rfl rfl (IntWalk.i64_in _ ?_); omega) | (refine y_sub rfl rfl (IntWalk.i64_in _ ?_); omega) | (refine y_mul rfl rfl (IntWalk.i64_in _ ?_); omega) | (refine y_quo rfl rfl ?_ ?_ (IntWalk.i64_in _ ?_) <;> omega) | (refine y_rem rfl rfl ?_ ?_ <;> omega) | (refine y_pickT rfl ?_ rfl; (first | (with_reducible rfl) | assumption | exact decide_eq_false (by omega) | exact decide_eq_true (by omega))) | (refine y_pickF rfl ?_ rfl; (first | (with_reducible rfl) | assumption | exact decide_eq_false (by omega) | exact decide_eq_true (by omega)))); (· rfl)) | ((with_reducible apply o_skipG); (· rfl); (· rfl); (· first | (with_reducible rfl) | assumption | exact decide_eq_false (by omega) | exact decide_eq_true (by omega)); (· exact fun _ _ _ _ _ h => h); (· exact hp8); (· rfl)))
  refine o_step rfl (s_lit [] rfl rfl rfl (bc_one []) (by omega) rfl ?_)
  intro w9 hN9
  refine o_next (fun _ => hN9.ext.at hp8) ?_
  refine o_step rfl (s_append (base := w8.heap.size) rfl rfl hN9.own0 ((hb7.ext hE8).ext hN9.ext) (bc_one _) rfl ?_ ?_ ?_ ?_ rfl ?_)
  · omega
  · unfold maxLen; omega
  · omega
  · (have := hN9.size; omega)
  intro bv w10 hO10 hg10 hw10
  have hE10 : Ext w8 w10 := hN9.ext.grownOwn hg10 (hN9.own0 (sz := 1)) (Nat.le_refl _)
  refine o_next (fun _ => hE10.at hp8) ?_
  refine o_step rfl (s_lit [bv] rfl rfl rfl (by intro u hu; simp at hu; subst hu; exact own_one hO10) (by omega) rfl ?_)
  intro w11 hN11
  have hE11 : Ext w8 w11 := hE10.trans hN11.ext
  have h11 := h8.ext hE11
  refine o_next (fun _ => h11.blk) ?_
  refine o_step rfl (s_append (base := 0) rfl rfl h11.q (hN11.lit (sz := 1) rfl) (by intro u hu; simp at hu; subst hu; exact own_one hO10) rfl ?_ ?_ ?_ ?_ rfl ?_)
  · omega
  · unfold maxLen; omega
  · omega
  · exact Nat.zero_le _
  intro vq w12 hO12 hg12 hw12
  have hp12 := h11.blk1 (.inr (.inr rfl)) hg12
  refine o_next (fun _ => hp12) ?_
  repeat (first | ((with_reducible apply o_step); (· rfl); (apply s_y); (· first | exact y_move rfl | exact y_assign rfl | exact y_nilCheck rfl | exact y_fieldAddr rfl | exact y_load1 rfl rfl (blk_cell (by assumption) rfl) | exact y_len rfl | exact y_lss rfl rfl | exact y_eql rfl rfl | exact y_leq rfl rfl | exact y_gtr rfl rfl | exact y_geq rfl rfl | exact y_neq rfl rfl | exact y_not rfl | exact y_extract rfl rfl | exact y_nilCheckF rfl | exact y_makeFunc rfl rfl | exact y_max rfl rfl | exact y_min rfl rfl | (refine y_add rfl rfl (IntWalk.i64_in _ ?_); omega) | (refine y_sub rfl rfl (IntWalk.i64_in _ ?_); omega) | (refine y_mul rfl rfl (IntWalk.i64_in _ ?_); omega) | (refine y_quo rfl rfl ?_ ?_ (IntWalk.i64_in _ ?_) <;> omega) | (refine y_rem rfl rfl ?_ ?_ <;> omega) | (refine y_pickT rfl ?_ rfl; (first | (with_reducible rfl) | assumption | exact decide_eq_false (by omega) | exact decide_eq_true (by omega))) | (refine y_pickF rfl ?_ rfl; (first | (with_reducible rfl) | assumption | exact decide_eq_false (by omega) | exact decide_eq_true (by omega)))); (· rfl); (refine o_next (fun h => absurd h (by omega)) ?_)) | refine o_nil ?_)
  refine o_step rfl (s_store1 rfl rfl (own_one hO12) hp12 ?_ ?_)
  · simp
  intro w13 hU13
  refine o_next (fun h => absurd h (by omega)) ?_
  repeat (first | ((with_reducible apply o_step); (· rfl); (apply s_y); (· first | exact y_move rfl | exact y_assign rfl | exact y_nilCheck rfl | exact y_fieldAddr rfl | exact y_load1 rfl rfl (blk_cell (by assumption) rfl) | exact y_len rfl | exact y_lss rfl rfl | exact y_eql rfl rfl | exact y_leq rfl rfl | exact y_gtr rfl rfl | exact y_geq rfl rfl | exact y_neq rfl rfl | exact y_not rfl | exact y_extract rfl rfl | exact y_nilCheckF rfl | exact y_makeFunc rfl rfl | exact y_max rfl rfl | exact y_min rfl rfl | (refine y_add rfl rfl (IntWalk.i64_in _ ?_); omega) | (refine y_sub rfl rfl (IntWalk.i64_in _ ?_); omega) | (refine y_mul rfl rfl (IntWalk.i64_in _ ?_); omega) | (refine y_quo rfl rfl ?_ ?_ (IntWalk.i64_in _ ?_) <;> omega) | (refine y_rem rfl rfl ?_ ?_ <;> omega) | (refine y_pickT rfl ?_ rfl; (first | (with_reducible rfl) | assumption | exact decide_eq_false (by omega) | exact decide_eq_true (by omega))) | (refine y_pickF rfl ?_ rfl; (first | (with_reducible rfl) | assumption | exact decide_eq_false (by omega) | exact decide_eq_true (by omega)))); (· rfl); (refine o_next (fun h => absurd h (by omega)) ?_)) | refine o_nil ?_)
  have hO11 := own_ext hO10 hN11.ext
  have hsz11 := hE11.size
  obtain ⟨F13, G13, h13, hK13, hF13⟩ := h11.putParts (D := fun x => some x = bv.ownBlock) (Rd.of_own (by simpa using hO11)) (fun x hx => ⟨fun hF => by have := (hO11.lt x hx.symm).1; have := h8.lt x hF; omega, (hO11.lt x hx.symm).2⟩) hO12 hg12 hw12 hU13
  refine end0 Try.results24 ⟨rfl, F13, h13.ws, hR7'.trans ⟨(Keep.of_ext (hE8.trans hE11)).trans hK13 (fun _ _ h => h), fun x hx => ?_⟩⟩
  have hsz8 := hE8.size
  rcases hF13 x hx with h | h | h
  · exact .inl h
  · have := (hO11.lt x h.symm).1
    exact .inr (by omega)
  · exact .inr (by omega)
end Go.EW
