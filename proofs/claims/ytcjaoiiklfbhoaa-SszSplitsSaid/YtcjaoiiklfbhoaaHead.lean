/- The program's first row as words, and the closed facts that hang on it. No condition. -/
import Derived.Test.YtcjaoiiklfbhoaaRows
import Derived.WalkKit
import Derived.ProofKit
namespace Go.EW
open Go.Proofs
set_option maxRecDepth 100000
def joinW : List (List Char) → List Char
  | [] => []
  | [w] => w
  | w :: u :: r => w ++ Char.ofNat 32 :: joinW (u :: r)
theorem ws_cons (c : Char) (r : List Char) (h : c ≠ Char.ofNat 32) (w : List Char) (ws : List (List Char)) (e : wordsSigns r = w :: ws) : wordsSigns (c :: r) = (c :: w) :: ws := by
  rw [wordsSigns, e]
  exact h
theorem ws_word : ∀ (w : List Char), (∀ c ∈ w, c ≠ Char.ofNat 32) → ∀ (r : List Char), wordsSigns (w ++ Char.ofNat 32 :: r) = w :: wordsSigns r
  | [], _, r => rfl
  | c :: w, h, r => ws_cons c _ (h c (by simp)) w _ (ws_word w (fun x hx => h x (by simp [hx])) r)
theorem ws_last : ∀ (w : List Char), (∀ c ∈ w, c ≠ Char.ofNat 32) → wordsSigns w = [w]
  | [], _ => rfl
  | c :: w, h => ws_cons c _ (h c (by simp)) w [] (ws_last w (fun x hx => h x (by simp [hx])))
theorem ws_join : ∀ (W : List (List Char)), W ≠ [] → (W.all fun w => w.all fun c => !decide (c = Char.ofNat 32)) = true → wordsSigns (joinW W) = W
  | [], h, _ => (h rfl).elim
  | [w], _, h => ws_last w (by simpa using h)
  | w :: u :: r, _, h => by
    have hw : ∀ c ∈ w, c ≠ Char.ofNat 32 := by
      intro c hc e
      simp only [List.all_cons, Bool.and_eq_true, List.all_eq_true] at h
      have := h.1 c hc
      simp [e] at this
    rw [joinW, ws_word w hw, ws_join (u :: r) (by simp) (by simp only [List.all_cons, Bool.and_eq_true] at h ⊢; exact h.2)]
def headWords : List (List Char) := ([[104, 97, 114, 110, 101, 115, 115], [48, 49, 51, 55, 99, 99, 56, 97, 49, 55, 49, 57, 101, 53, 52, 100, 54, 99, 57, 55, 48, 53, 99, 54, 53, 102, 97, 97, 49, 100, 101, 99, 50, 102, 100, 54, 49, 97, 101, 97, 57, 101, 56, 98, 97, 97, 55, 57, 102, 99, 53, 98, 101, 48, 99, 55, 101, 102, 51, 48, 48, 52, 49, 100], [99, 117, 116], [97, 116], [107, 101, 121, 115, 116, 111, 110, 101, 47, 107, 101, 121, 115, 116, 111, 110, 101, 108, 97, 119, 48, 52, 46, 83, 115, 122, 66, 105, 116, 115], [107, 101, 121, 115, 116, 111, 110, 101, 47, 107, 101, 121, 115, 116, 111, 110, 101, 108, 97, 119, 48, 52, 46, 83, 115, 122, 87, 114, 105, 116, 101, 115], [107, 101, 121, 115, 116, 111, 110, 101, 47, 107, 101, 121, 115, 116, 111, 110, 101, 108, 97, 119, 48, 52, 46, 83, 115, 122, 83, 112, 108, 105, 116, 115], [107, 101, 121, 115, 116, 111, 110, 101, 47, 107, 101, 121, 115, 116, 111, 110, 101, 108, 97, 119, 48, 52, 46, 83, 115, 122, 70, 101, 119], [107, 101, 121, 115, 116, 111, 110, 101, 47, 107, 101, 121, 115, 116, 111, 110, 101, 108, 97, 119, 48, 52, 46, 83, 115, 122, 82, 101, 97, 100, 115], [107, 101, 121, 115, 116, 111, 110, 101, 47, 107, 101, 121, 115, 116, 111, 110, 101, 108, 97, 119, 48, 52, 46, 83, 115, 122, 66, 97, 99, 107], [107, 101, 121, 115, 116, 111, 110, 101, 47, 107, 101, 121, 115, 116, 111, 110, 101, 108, 97, 119, 48, 52, 46, 83, 115, 122, 74, 111, 105, 110, 115], [107, 101, 121, 115, 116, 111, 110, 101, 47, 107, 101, 121, 115, 116, 111, 110, 101, 108, 97, 119, 48, 52, 46, 83, 115, 122, 80, 97, 114, 116, 115], [107, 101, 121, 115, 116, 111, 110, 101, 47, 107, 101, 121, 115, 116, 111, 110, 101, 108, 97, 119, 48, 52, 46, 83, 115, 122, 76, 105, 115, 116, 115]] : List (List Nat)).map (fun w => w.map Char.ofNat)
theorem head_chars : Try.prog.initOrder = String.ofList (joinW headWords) := by kernel_rfl
theorem head_words : wordsSigns Try.prog.initOrder.toList = headWords := by
  rw [head_chars, String.toList_ofList]
  exact ws_join headWords (by simp [headWords]) (by kernel_rfl)

theorem enter_of (P : Program) (W rest : List (List Char)) (h : wordsSigns P.initOrder.toList = W) (hb : behindMainWord W = "cut".toList :: rest) (hs : stripLifts liftWords ("cut".toList :: rest) = ([], "cut".toList :: rest)) (hl : P.laysLater = false) (hr : P.bearsReflect = false) (hd : P.doorFits [] = true) : P.mayEnter = true := by
  unfold Program.mayEnter
  rw [h, hb]
  simp only [hs]
  simp [hl, hr, hd]
theorem headLifts_of (P : Program) (W rest : List (List Char)) (h : wordsSigns P.initOrder.toList = W) (hb : behindMainWord W = "cut".toList :: rest) (hs : stripLifts liftWords ("cut".toList :: rest) = ([], "cut".toList :: rest)) : P.headLifts = [] := by
  unfold Program.headLifts
  rw [h, hb]
  simp only [hs]
  simp
theorem lifts_of (P : Program) (W rest : List (List Char)) (h : wordsSigns P.initOrder.toList = W) (hb : behindMainWord W = "cut".toList :: rest) (hs : stripLifts liftWords ("cut".toList :: rest) = ([], "cut".toList :: rest)) : P.liftsFinal = false := by
  have hL := headLifts_of P W rest h hb hs
  unfold Program.liftsFinal
  rw [h, hb, hL]
  simp
theorem make_of (P : Program) (W rest : List (List Char)) (h : wordsSigns P.initOrder.toList = W) (hb : behindMainWord W = "cut".toList :: rest) : P.make = some .cut := by
  unfold Program.make
  rw [h, hb]
  simp
theorem head_behind : behindMainWord headWords = "cut".toList :: (headWords.drop 3) := by kernel_rfl
theorem head_strip : stripLifts liftWords ("cut".toList :: (headWords.drop 3)) = ([], "cut".toList :: (headWords.drop 3)) := by kernel_rfl
theorem fc_enter : Try.prog.mayEnter = true := enter_of _ _ _ head_words head_behind head_strip (by kernel_rfl) (by kernel_rfl) (by kernel_rfl)
theorem fc_lifts : Try.prog.liftsFinal = false := lifts_of _ _ _ head_words head_behind head_strip
theorem fc_make : Try.prog.make = some .cut := make_of _ _ _ head_words head_behind
end Go.EW
