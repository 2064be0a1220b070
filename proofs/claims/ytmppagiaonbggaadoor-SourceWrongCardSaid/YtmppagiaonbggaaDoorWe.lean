/- Texts of one proof, merged: XRf XO4 XO5 XO6 XE2 XE3 XE4 XE5 XE6 XE7. -/
import Derived.Test.YtmppagiaonbggaaDoorWd
import Derived.RangeFuncNested
import Derived.RangeFuncBound
import Derived.RangeFuncCalls
import Derived.RangeFuncBox
import Derived.RangeFuncLeaves
import Derived.WalkKit
import Derived.OwnWalkIn
import Derived.TacticsInMore
import Derived.LoopNIn
import Derived.LoopIn
import Derived.Shelf.Abstract
import Derived.Shelf.RegionOpen
/- A range over a function, told by what is owned: the loop's own blocks are no cells, so what is owned abides them. -/
namespace Go.Proofs.YtmppagiaonbggaaDoor
set_option linter.unusedVariables false
set_option linter.unusedSimpArgs false
set_option maxRecDepth 100000
open Go.RowKit

def CelB (n : Nat) (w : World) (k : Nat) : Prop := k < n ∨ ∃ o : Obj, w.heap[k]? = some o ∧ o.isCells = true
/-- What it says hangs, from block n on, on blocks of cells alone. -/
class Cel (n : Nat) (A : HP) : Prop where
  cut : ∀ (w : World) (F : Nat → Prop), A w F → A w (fun k => F k ∧ CelB n w k)
instance Cel.emp {n : Nat} : Cel n Emp := ⟨fun _ _ h => h⟩
instance Cel.fact {n : Nat} {p : Prop} : Cel n (Fact p) := ⟨fun _ _ h => h⟩
instance Cel.hex {n : Nat} {α : Type} {A : α → HP} [h : ∀ x, Cel n (A x)] : Cel n (Hex A) := ⟨fun w F ⟨x, hx⟩ => ⟨x, (h x).cut w F hx⟩⟩
instance Cel.bk {n g : Nat} {t : TypeId} {cs : Array Value} : Cel n (Bk g t cs) := ⟨fun _ _ ⟨hF, hg⟩ => ⟨⟨hF, .inr ⟨_, hg, rfl⟩⟩, hg⟩⟩
instance Cel.rw {m : Nat} {e : TypeId} {size : Nat} {v : Value} {n : Nat} {xs : List Value} : Cel m (Rw e size v n xs) := ⟨fun w F ⟨ho, hF⟩ => ⟨ho, fun k hk => ⟨hF k hk, by
  rcases ho.2 with ⟨rfl, _⟩ | ⟨g, cap, cur, rfl, _, hg, _⟩
  · simp [Value.ownBlock] at hk
  · simp [Value.ownBlock] at hk
    subst hk
    exact .inr ⟨_, hg, rfl⟩⟩⟩⟩
instance Cel.sep {n : Nat} {A C : HP} [a : Cel n A] [c : Cel n C] : Cel n (A * C) := ⟨fun w F ⟨F1, F2, hd, h1, h2, ha, hc⟩ =>
  ⟨fun k => F1 k ∧ CelB n w k, fun k => F2 k ∧ CelB n w k, fun k hk hk' => hd k hk.1 hk'.1, fun k hk => ⟨h1 k hk.1, hk.2⟩, fun k hk => ⟨h2 k hk.1, hk.2⟩, a.cut w F1 ha, c.cut w F2 hc⟩⟩

/-- These blocks are as they were. -/
def Same (s : Nat → Prop) (W : World) : HP := fun w F => ∀ k, s k → F k ∧ w.heap[k]? = W.heap[k]?
instance Loc.same {B : Nat} {s : Nat → Prop} {W : World} : Loc B (Same s W) where
  keep := fun w w' F h _ hs k hk => ⟨(hs k hk).1, (h k (hs k hk).1).trans (hs k hk).2⟩
  up := fun w F F' h hs k hk => ⟨h k (hs k hk).1, (hs k hk).2⟩
theorem Cel.same {n : Nat} {s : Nat → Prop} {W : World} (hs : ∀ k, s k → k < n) : Cel n (Same s W) := ⟨fun w F h k hk => ⟨⟨(h k hk).1, .inl (hs k hk)⟩, (h k hk).2⟩⟩
/-- All that is no cells, from n on, as it was. -/
def Non (n : Nat) (W : World) : HP := fun w F => ∀ k o, n ≤ k → W.heap[k]? = some o → o.isCells = false → F k ∧ w.heap[k]? = some o
instance Loc.non {B n : Nat} {W : World} : Loc B (Non n W) where
  keep := fun w w' F h _ hs k o hn ho hc => ⟨(hs k o hn ho hc).1, (h k (hs k o hn ho hc).1).trans (hs k o hn ho hc).2⟩
  up := fun w F F' h hs k o hn ho hc => ⟨h k (hs k o hn ho hc).1, (hs k o hn ho hc).2⟩
theorem Own.non {B n : Nat} {A : HP} [c : Cel n A] {W : World} (h : Own B A W) (hn : B ≤ n) : Own B (A * Non n W) W := by
  obtain ⟨F, hf, ha⟩ := h
  refine ⟨fun k => (F k ∧ CelB n W k) ∨ (n ≤ k ∧ ∃ o, W.heap[k]? = some o ∧ o.isCells = false), fun k hk => ?_, fun k => F k ∧ CelB n W k, fun k => n ≤ k ∧ ∃ o, W.heap[k]? = some o ∧ o.isCells = false, fun k hk hk' => ?_, fun k hk => .inl hk, fun k hk => .inr hk, c.cut W F ha, fun k o h1 h2 h3 => ⟨⟨h1, o, h2, h3⟩, h2⟩⟩
  · rcases hk with hk | ⟨h1, o, h2, _⟩
    · exact hf k hk.1
    · exact ⟨by omega, (Array.getElem?_eq_some_iff.1 h2).1⟩
  · obtain ⟨hn', o', h3, h4⟩ := hk'
    rcases hk.2 with h | ⟨o, h1, h2⟩
    · omega
    rw [h1] at h3
    cases h3
    rw [h2] at h4
    cases h4
/-- The deferred calls' block of a range over a function. -/
def Dk (D : Nat) : HP := fun w F => F D ∧ w.heap[D]? = some (.deferred (some []))
instance Loc.dk {B D : Nat} : Loc B (Dk D) where
  keep := fun _ _ _ h _ ⟨hf, hg⟩ => ⟨hf, (h D hf).trans hg⟩
  up := fun _ _ _ h ⟨hf, hg⟩ => ⟨h D hf, hg⟩
theorem Own.dk {B D n : Nat} {A : HP} [c : Cel n A] {W : World} (h : Own B A W) (hB : B ≤ D) (hn : n ≤ D) (hD : W.heap[D]? = some (.deferred (some []))) : Own B (A * Dk D) W := by
  obtain ⟨F, hf, ha⟩ := h
  refine ⟨fun k => (F k ∧ CelB n W k) ∨ k = D, fun k hk => ?_, fun k => F k ∧ CelB n W k, fun k => k = D, fun k hk hk' => ?_, fun k hk => .inl hk, fun k hk => .inr hk, c.cut W F ha, rfl, hD⟩
  · rcases hk with hk | rfl
    · exact hf k hk.1
    · exact ⟨hB, (Array.getElem?_eq_some_iff.1 hD).1⟩
  · subst hk'
    rcases hk.2 with h | ⟨o, h1, h2⟩
    · omega
    rw [hD] at h1
    cases h1
    cases h2
/-- A step that turns one block that is no cells. -/
theorem Own.abide {B n : Nat} {A : HP} [c : Cel n A] [Loc B A] {W W' : World} {row : Option Nat} (hB : B ≤ W.heap.size) (hn : B ≤ n) (h : Own B A W) (hg : W.grownBy W' row) (hr : ∀ r, row = some r → n ≤ r ∧ ∃ o : Obj, W.heap[r]? = some o ∧ o.isCells = false) : Own B A W' := by
  obtain ⟨F, hf, ha⟩ := h
  refine ⟨fun k => F k ∧ CelB n W k, fun k hk => ⟨(hf k hk.1).1, Nat.lt_of_lt_of_le (hf k hk.1).2 hg.size⟩, Loc.keep (B := B) W W' _ (fun k hk => hg.block k (hf k hk.1).2 (fun e => ?_)) (fun k hk => hg.block k (by omega) (fun e => ?_)) (c.cut W F ha)⟩
  · obtain ⟨hn', o, h1, h2⟩ := hr k e.symm
    rcases hk.2 with h | ⟨o', h3, h4⟩
    · omega
    rw [h1] at h3
    cases h3
    rw [h2] at h4
    cases h4
  · have := (hr k e.symm).1
    omega

/-- What a round must keep of the memory that the iterator reads: these blocks. -/
def KpS (s : Nat → Prop) (W W' : World) : Prop := ∀ k, s k → W'.heap[k]? = W.heap[k]?
theorem KpS.t {s : Nat → Prop} {A B C : World} (h : KpS s A B) (k : KpS s B C) : KpS s A C := fun i hi => (k i hi).trans (h i hi)
theorem KpS.b {s : Nat → Prop} {w : World} (hs : ∀ k, s k → k < w.heap.size) (W : World) (l : Nat) (o o' : Obj) (hl : w.heap.size ≤ l) (h : W.heap[l]? = some o) (_ : o.isCells = false) (_ : o.isWalk = false) : KpS s W (W.putObj l o') := fun k hk => by
  have := hs k hk
  exact (grownBy_putObj' W l o').block k (by have := (Array.getElem?_eq_some_iff.1 h).1; omega) (by simp; omega)

/-- What a loop leaves alone, set aside: its blocks are kept, and behind the loop it is there again. -/
theorem Own.fix {B : Nat} {A C : HP} [Loc B A] {w : World} (h : Own B (A * C) w) : ∃ s : Nat → Prop, (∀ k, s k → k < w.heap.size) ∧ A w s ∧ Own B (C * Same s w) w ∧
    ∀ (W : World) (C' D : HP), Below B w W → Own B (C' * (Same s w * D)) W → Own B (C' * (A * D)) W := by
  obtain ⟨F, hf, F1, F2, hd, h1, h2, ha, hc⟩ := h
  refine ⟨F1, fun k hk => (hf k (h1 k hk)).2, ha, ⟨F, hf, F2, F1, fun k hk hk' => hd k hk' hk, h2, h1, hc, fun k hk => ⟨hk, rfl⟩⟩, fun W C' D hb hO => ?_⟩
  obtain ⟨G, hg, G1, G2, gd, g1, g2, hC', H1, H2, hd2, k1, k2, hS, hD⟩ := hO
  exact ⟨G, hg, G1, G2, gd, g1, g2, hC', H1, H2, hd2, k1, k2, Loc.up (B := B) W _ H1 (fun k hk => (hS k hk).1) (Loc.keep (B := B) w W _ (fun k hk => (hS k hk).2) (fun k hk => hb.block k hk) ha), hD⟩
/-- How a round may be left. -/
def hpPost {α : Type} (B : Nat) (A : List α → HP) (Ax : Code → List α → HP) (R : HP) (W : World) (xs : List α) : Exit → Act → World → Prop
  | .normal, _, W' => Own B (A xs * R) W' ∧ Below B W W'
  | .ret, _, W' => Own B (Ax .ret xs * R) W' ∧ Below B W W'
  | .exit id, _, W' => Own B (Ax (.exit id) xs * R) W' ∧ Below B W W'
  | .goto t, _, W' => Own B (Ax (.goto t) xs * R) W' ∧ Below B W W'
  | .panic _, _, _ => False
  | .outgrown, _, _ => False

theorem keeps_of {B n : Nat} {s : Nat → Prop} {C : HP} {W W' w0 : World} (hB : B ≤ W.heap.size) (hsz : W.heap.size ≤ W'.heap.size) (h : Own B (C * (Same s w0 * Non n W)) W') : KeepsFrom n W W' := by
  obtain ⟨F, hf, F1, F2, hd, h1, h2, hc, F3, F4, hd', h3, h4, hs, hn⟩ := h
  exact ⟨hsz, fun k o hk ho hc => (hn k o hk ho hc).2⟩

/-- THE RULE: a range over a function, in a call that goes on alone. -/
theorem wp_rangeFunc_hp {α : Type} {P : Program} {g : Operand} {ps : Array Tmp} {assign body : Code} {Q : Exit → Act → World → Prop} {a : Act} {w : World}
    {gf : Nat} {lb : Array Value} (hg : a.eval g = .func (.func gf) #[] lb) (eg : ∀ args w, (callFunc gf args).run P w = .ok (.enter gf args) w)
    {encs : α → Array Value} {S Sp : List α → Prop} {N : Nat} (s : Nat → Prop) (hs : ∀ k, s k → k < w.heap.size) (hseq : SeqStopsK Fence.wide 4 P gf lb encs (KpS s) S Sp N w) (hps : ∀ x, (encs x).size = ps.size)
    (B : Nat) (A : List α → HP) (Ax : Code → List α → HP) [∀ xs, Loc B (A xs)] [∀ xs, Cel w.heap.size (A xs)] [∀ c xs, Loc B (Ax c xs)] [∀ c xs, Cel w.heap.size (Ax c xs)] (hB : B ≤ w.heap.size) (h0 : Own B (A [] * Same s w) w) (fin : α → Array Value → Array Value) (a₁ : α → Act) (ha₁ : ∀ x, a₁ x = { tmps := fin x ((ps.zip (encs x)).foldl (fun t (p, v) => t.setIfInBounds p v) a.tmps), defers := [] })
    (hassign : ∀ (l : Nat) (x : α) (W : World) (K : Act → World → Prop), K (a₁ x) W →
      assign.wpIn (Fence.wide.inRound l) 3 P (Exit.then K (fun _ _ _ => False)) { tmps := (ps.zip (encs x)).foldl (fun t (p, v) => t.setIfInBounds p v) a.tmps, defers := [] } W)
    (hbody : ∀ (l : Nat) (pre : List α) (x : α) (W : World) (R : HP) [Loc B R], B ≤ W.heap.size → Below B w W → Own B (A pre * R) W → pre.length < N → body.wpIn (Fence.wide.inRound l) 3 P (hpPost B A Ax R W (pre ++ [x])) (a₁ x) W)
    (hdone : ∀ (D : Nat) (xs : List α) (W : World), S xs → B ≤ W.heap.size → Below B w W → Own B (A xs * (Same s w * Dk D)) W → Q .normal { a with defers := { target := .collected D, args := #[] } :: a.defers } W)
    (hstop : ∀ (D : Nat) (c : Code) (pre : List α) (W : World), Sp pre → B ≤ W.heap.size → Below B w W → Own B (Ax c pre * (Same s w * Dk D)) W → c.wp P Q { a with defers := { target := .collected D, args := #[] } :: a.defers } W) :
    (Code.rangeFunc g ps assign body).wp P Q a w := by
  have cs : Cel w.heap.size (Same s w) := Cel.same hs
  refine (wpIn_wide (n := 5)).1 ?_
  refine wpIn_rangeFunc_ownG (F := Fence.wide) (n := 5) rfl (by omega) hg trivial eg hseq KpS.t (KpS.b hs) (Below.refl _ _) hps
    (fun pre W => (Own B (A pre * Same s w) W ∧ B ≤ W.heap.size) ∧ Below B w W) (fun c pre W => (Own B (Ax c pre * Same s w) W ∧ B ≤ W.heap.size) ∧ Below B w W)
    (OwnFrom.and (fun _ _ _ _ hs hg hr => ⟨hs.1.abide hs.2 hB hg hr, Nat.le_trans hs.2 hg.size⟩) (ownFrom_below hB hB))
    (fun c => OwnFrom.and (fun _ _ _ _ hs hg hr => ⟨hs.1.abide hs.2 hB hg hr, Nat.le_trans hs.2 hg.size⟩) (ownFrom_below hB hB))
    ⟨⟨h0, hB⟩, Below.refl _ _⟩ a₁ hassign ?_ ?_ ?_
  · intro l pre x W ⟨⟨hO, hBW⟩, hb⟩ hN
    have hO2 : Own B (A pre * (Same s w * Non w.heap.size W)) W := (hO.non (n := w.heap.size) hB).assoc
    have hsame : ∀ k, s k → W.heap[k]? = w.heap[k]? := by
      obtain ⟨F, hf, F1, F2, hd, h1, h2, hc, hs⟩ := hO
      exact fun k hk => (hs k hk).2
    refine Code.wpIn_mono (fun e a' W' h => ?_) (hbody l pre x W (Same s w * Non w.heap.size W) hBW hb hO2 hN)
    have fin : ∀ (C : HP), Own B (C * (Same s w * Non w.heap.size W)) W' → Below B W W' → KeepsFrom w.heap.size W W' ∧ KpS s W W' ∧ (Own B (C * Same s w) W' ∧ B ≤ W'.heap.size) ∧ Below B w W' := by
      intro C h hb'
      refine ⟨keeps_of hBW hb'.size h, ?_, ⟨h.assoc'.left, Nat.le_trans hBW hb'.size⟩, hb.trans hb'⟩
      obtain ⟨F, hf, F1, F2, hd, h1, h2, hc, F3, F4, hd', h3, h4, hs', hn⟩ := h
      exact fun k hk => (hs' k hk).2.trans (hsame k hk).symm
    cases e with
    | normal => obtain ⟨k1, k2, k3, k4⟩ := fin _ h.1 h.2; exact ⟨k1, k2, k3, k4⟩
    | ret => obtain ⟨k1, k2, k3, k4⟩ := fin _ h.1 h.2; exact ⟨k1, k3, k4⟩
    | exit id => obtain ⟨k1, k2, k3, k4⟩ := fin _ h.1 h.2; exact ⟨k1, k3, k4⟩
    | goto t => obtain ⟨k1, k2, k3, k4⟩ := fin _ h.1 h.2; exact ⟨k1, k3, k4⟩
    | panic c => exact h
    | outgrown => exact h
  · intro D xs W hD hS ⟨⟨hO, hBW⟩, hb⟩ hK
    exact hdone D xs W hS hBW hb ((hO.dk (n := w.heap.size) (Nat.le_trans hB hD) hD hK).assoc)
  · intro D c pre W hD hS ⟨⟨hO, hBW⟩, hb⟩ hK
    exact wpIn_wide.2 (hstop D c pre W hS hBW hb ((hO.dk (n := w.heap.size) (Nat.le_trans hB hD) hD hK).assoc))

/-- The call's end behind one loop: the deferred calls' block is struck. -/
theorem ret_hp {n D B : Nat} {P : Program} {fn : Func} {R : Ending → World → Prop} {a : Act} {W : World} {A : HP} [Loc B A] {v : Value} (hB : B ≤ W.heap.size) (hd : a.defers = [{ target := .collected D, args := #[] }]) (hO : Own B (Dk D * A) W)
    (hres : ∀ W', Own B A W' → (results fn a.tmps).run P W' = .ok v W') (hR : ∀ W', Own B A W' → Below B W W' → R (.returned v) W') : bodyPostM Fence.wide n P fn R .ret a W := by
  have hK : W.heap[D]? = some (.deferred (some [])) := by
    obtain ⟨F, hf, F1, F2, hd, h1, h2, hc, hs⟩ := hO
    exact hc.2
  have hBD : B ≤ D := by
    obtain ⟨F, hf, F1, F2, hd, h1, h2, hc, hs⟩ := hO
    exact (hf D (h1 D hc.1)).1
  have hg := grownBy_putObj' W D (.deferred none)
  have hO' : Own B A (W.putObj D (.deferred none)) := (Own.turn (A' := Emp) hB hO hg.size (fun F hF ⟨hFD, _⟩ => ⟨fun _ => False, fun _ h => h.elim, trivial, fun k hk hn => hg.block k hk (fun e => hn (by injection e with e; exact e ▸ hFD))⟩)).right
  have hb : Below B W (W.putObj D (.deferred none)) := (Below.refl B W).grown hg hB (fun k e => by cases e; exact hBD)
  unfold bodyPostM
  simp only [hd]
  exact ⟨by simp, .inl ⟨_, _, rfl, run_takeDeferred hK, _, hres _ hO', hR _ hO' hb⟩⟩
end Go.Proofs.YtmppagiaonbggaaDoor

/- The walks over the search for a number's end, and over slices.Backward of bytes. -/
namespace Go.Proofs.YtmppagiaonbggaaDoor
set_option linter.unusedVariables false
set_option linter.unusedSimpArgs false
set_option maxRecDepth 100000
open Go.RowKit Go.Shelf

attribute [local go_sem] Oper.semAt_some

def endI (l : List UInt8) : Int := match endN l with | none => -1 | some k => (k : Int)
theorem endN_none : ∀ {l : List UInt8}, (∀ j (h : j < l.length), ¬ l[j].toNat < 128) → endN l = none
  | [], _ => rfl
  | c :: l, h => by
    unfold endN
    rw [if_neg (show ¬ c.toNat < 128 from h 0 (by simp)), endN_none (fun j hj => h (j + 1) (by simpa using hj))]
    rfl
theorem endN_some : ∀ {l : List UInt8} {i : Nat} (hi : i < l.length), (∀ j (h : j < l.length), j < i → ¬ l[j].toNat < 128) → l[i].toNat < 128 → endN l = some i
  | [], i, hi, _, _ => absurd hi (by simp)
  | c :: l, 0, _, _, h1 => by unfold endN; rw [if_pos (show c.toNat < 128 from h1)]
  | c :: l, i + 1, hi, h, h1 => by
    unfold endN
    rw [if_neg (show ¬ c.toNat < 128 from h 0 (by simp) (by omega)), endN_some (l := l) (i := i) (by simpa using hi) (fun j hj hlt => h (j + 1) (by simpa using hj) (by omega)) h1]
    rfl

def upto {α : Type} (f : Nat → α) (k : Nat) : List α := (List.range k).map f
theorem upto_succ {α : Type} (f : Nat → α) (k : Nat) : upto f (k + 1) = upto f k ++ [f k] := by simp [upto, List.range_succ]
theorem upto_length {α : Type} (f : Nat → α) (k : Nat) : (upto f k).length = k := by simp [upto]
def bwdF (l : List UInt8) (k : Nat) : Nat × UInt8 := (l.length - 1 - k, (l[l.length - 1 - k]?).getD 0)
def encNB (x : Nat × UInt8) : Array Value := #[.int .i64 (x.1 : Int), .int .u8 (x.2.toNat : Int)]

end Go.Proofs.YtmppagiaonbggaaDoor

/- The walks over Number and Bytes of package octet's reader. -/
namespace Go.Proofs.YtmppagiaonbggaaDoor
set_option linter.unusedVariables false
set_option linter.unusedSimpArgs false
set_option maxRecDepth 100000
open Go.RowKit Go.Shelf

attribute [local go_sem] Oper.semAt_some

def valB (xs : List (Nat × UInt8)) : Nat := xs.foldl (fun n x => 128 * n + x.2.toNat % 128) 0
theorem valB_snoc (xs : List (Nat × UInt8)) (x : Nat × UInt8) : valB (xs ++ [x]) = 128 * valB xs + x.2.toNat % 128 := by unfold valB; rw [List.foldl_append]; rfl
theorem valB_lt (xs : List (Nat × UInt8)) : valB xs < 128 ^ xs.length := by
  have : ∀ ys : List (Nat × UInt8), valB ys.reverse < 128 ^ ys.length := by
    intro ys
    induction ys with
    | nil => decide
    | cons y ys ih => rw [List.reverse_cons, valB_snoc, List.length_cons, Nat.pow_succ]; omega
  have h := this xs.reverse
  rwa [List.reverse_reverse, List.length_reverse] at h
theorem valB_bwd (l : List UInt8) : ∀ k, k ≤ l.length → valB (upto (bwdF l) k) = lebV (l.drop (l.length - k))
  | 0, _ => by rw [Nat.sub_zero, List.drop_length]; rfl
  | k + 1, hk => by
    rw [upto_succ, valB_snoc, valB_bwd l k (by omega)]
    have hi : l.length - (k + 1) < l.length := by omega
    rw [List.drop_eq_getElem_cons hi, lebV, show l.length - (k + 1) + 1 = l.length - k by omega]
    have : (bwdF l k).2 = l[l.length - (k + 1)] := by unfold bwdF; rw [show l.length - 1 - k = l.length - (k + 1) by omega]; simp [hi]
    rw [this]; omega


end Go.Proofs.YtmppagiaonbggaaDoor

/- The walks over Bytes of package octet's reader, and over the reference's numbers and bytes. -/
namespace Go.Proofs.YtmppagiaonbggaaDoor
set_option linter.unusedVariables false
set_option linter.unusedSimpArgs false
set_option maxRecDepth 100000
open Go.RowKit

end Go.Proofs.YtmppagiaonbggaaDoor

/- Package entry: the walk over what holds of all. -/
namespace Go.Proofs.YtmppagiaonbggaaDoor
set_option linter.unusedVariables false
set_option linter.unusedSimpArgs false
set_option maxRecDepth 100000
open Go.RowKit

def allB (p : Nat → Bool) (n : Nat) : Bool := (List.range n).all p
theorem allB_true {p : Nat → Bool} {n : Nat} : allB p n = true ↔ ∀ i, i < n → p i = true := by
  unfold allB; rw [List.all_eq_true]; simp
theorem allB_false {p : Nat → Bool} {n i : Nat} (h : i < n) (hp : p i = false) : allB p n = false := by
  cases hh : allB p n
  · rfl
  · have := allB_true.1 hh i h
    rw [hp] at this; cases this
set_option maxHeartbeats 1600000 in
/-- Does a function answer yes at each entry? What it keeps of its own: I. -/
theorem all_any (N : FuncId) (hN : ∀ (xs : Array Value) (W : World), (callFunc N xs).run Tryd.prog W = .ok (.enter N xs) W) (caps : Array Value) (I : Nat → World → Prop) (p : Nat → Bool) (A : Option Addr) (c : Nat) (l : List En) (hl : l.length ≤ 9223372036854775807) (w0 w : World) (hb : Below w0.heap.size w0 w) (hr : RdA 7 enL w0 A l) (h0 : I 0 w)
    (hal : ∀ i W o, I i W → I i (W.alloc o)) (hf : ∀ i (h : i < l.length) W, Below w0.heap.size w0 W → I i W → Calls Tryd.prog N (#[.agg (enL l[i]).toArray] ++ caps) W fun e W' => e = .returned (.bool (p i)) ∧ (p i = true → I (i + 1) W') ∧ Below w0.heap.size W W') :
    Calls Tryd.prog 57 #[.slice A l.length c, .func (.func N) #[] caps] w fun e W' => e = .returned (.bool (allB p l.length)) ∧ Below w0.heap.size w0 W' := by
  have Hr := Lib.hid hr
  have Hf := Lib.hid hf
  have Hal := Lib.hid hal
  have H0 := Lib.hid h0
  clear hr hf hal h0
  have n1 : (l.length : Int) ≤ 9223372036854775807 := by omega
  go_enter Tryd.func57, Tryd.ntmps57
  go_wp2
  go_loopg [9] l.length (fun k v wr => ∃ i : Nat, k + i = l.length ∧ v = .int .i64 i ∧ Below w0.heap.size w0 wr ∧ Hid (I i wr) ∧ Hid (∀ j, j < i → p j = true))
  case atStart => exact ⟨0, by omega, rfl, hb, H0, Lib.hid (fun j h => absurd h (Nat.not_lt_zero _))⟩
  case round =>
    clear hb H0
    obtain ⟨i, hk, rfl, hb, hi, hp⟩ := hrel
    by_cases hlt : (i : Int) < (l.length : Int)
    · obtain ⟨j, rfl⟩ : ∃ j, gk = j + 1 := ⟨gk - 1, by omega⟩
      have hil : i < l.length := by omega
      have i0 : (0 : Int) ≤ (i : Int) := by omega
      obtain ⟨b, off, rfl, q, d⟩ := Hr.out.below hb i hil
      have Hk := Lib.hid hk
      have HF := Lib.hid (fun W => Hf.out i hil W)
      have hp2 : Hid (p i = true → ∀ j, j < i + 1 → p j = true) := Lib.hid (fun h j hj => by
        by_cases e : j = i
        · subst e; exact h
        · exact hp.out j (by omega))
      generalize hpi : p i = pi at *
      have Hpi := Lib.hid hpi
      clear hk hp hpi
      generalize l[i] = x at *
      obtain ⟨path, kind, mode, time, tgt, beg, size⟩ := x
      have d0 := d 0 _ rfl
      have d1 := d 1 _ rfl
      have d2 := d 2 _ rfl
      have d3 := d 3 _ rfl
      have d4 := d 4 _ rfl
      have d5 := d 5 _ rfl
      have d6 := d 6 _ rfl
      simp only [Nat.add_zero] at d0 d1 d2 d3 d4 d5 d6
      clear d
      have hal1 := Lib.hid (Hal.out i wr (.cells #[.string (str path), .int .i64 kind, .int .i64 mode, .int .i64 time, .string (str tgt), .int .i64 beg, .int .i64 size] 71) hi.out)
      have hb1 := hb.alloc hb.size (.cells #[.string (str path), .int .i64 kind, .int .i64 mode, .int .i64 time, .string (str tgt), .int .i64 beg, .int .i64 size] 71)
      go_wp2_with fail
      refine (HF.out _ hb1 hal1.out).mono ?_
      rintro e wz ⟨rfl, hI, b⟩
      have HI := Lib.hid hI
      have hb2 := hb1.trans b
      clear hI b hb1 hb hi hal1 HF d0 d1 d2 d3 d4 d5 d6
      cases pi with
      | true =>
        go_wp2
        go_roundg j
        case measure => omega
        case rel => exact ⟨i + 1, by have := Hk.out; omega, rfl, hb2, Lib.hid (HI.out (by trivial)), Lib.hid (hp2.out (by trivial))⟩
      | false =>
        go_wp2
        go_ret
        exact ⟨by rw [allB_false hil Hpi.out]; rfl, hb2⟩
    · go_wp2
      go_ret
      exact ⟨by rw [allB_true.2 (fun j hj => hp.out j (by omega))]; rfl, hb⟩
end Go.Proofs.YtmppagiaonbggaaDoor

/- Package entry: the walks over the entries of files, and over their paths. -/
namespace Go.Proofs.YtmppagiaonbggaaDoor
set_option linter.unusedVariables false
set_option linter.unusedSimpArgs false
set_option maxRecDepth 100000
open Go.RowKit

/-- A file. -/
structure Fi where
  path : List UInt8
  kind : Int
  mode : Int
  time : Int
  data : List UInt8
  tgt : List UInt8
deriving DecidableEq
instance : Inhabited Fi := ⟨⟨[], 0, 0, 0, [], []⟩⟩
/-- A file with the slice that its data lie in. -/
def fiL (x : Fi × Value) : List Value := [.string (str x.1.path), .int .i64 x.1.kind, .int .i64 x.1.mode, .int .i64 x.1.time, x.2, .string (str x.1.tgt)]
/-- Files, as they lie. -/
def RdF (w : World) (A : Option Addr) (l : List (Fi × Value)) : Prop := RdA 6 fiL w A l ∧ ∀ x ∈ l, Rd w x.2 (bytesU x.1.data)
theorem RdF.below {w w' : World} {A : Option Addr} {l : List (Fi × Value)} (h : RdF w A l) (hb : Below w.heap.size w w') : RdF w' A l := ⟨h.1.below hb, fun x hx => (h.2 x hx).below hb⟩
theorem RdF.get {w : World} {A : Option Addr} {l : List (Fi × Value)} (h : RdF w A l) (i : Nat) (hi : i < l.length) : ∃ (Ad : Option Addr) (cd : Nat), l[i].2 = .slice Ad l[i].1.data.length cd := by
  obtain ⟨Ad, cd, hv, _⟩ := h.2 _ (List.getElem_mem hi)
  exact ⟨Ad, cd, by rw [hv]; simp [bytesU]⟩

/-- The entries of files, from a place on. -/
def entsFrom : Int → List Fi → List En
  | _, [] => []
  | at_, f :: l => ⟨f.path, f.kind, f.mode, f.time, f.tgt, at_, f.data.length⟩ :: entsFrom (at_ + f.data.length) l
def ents (l : List Fi) : List En := entsFrom 0 l
def dataLen (l : List Fi) : Nat := (l.map fun f => f.data.length).sum
theorem entsFrom_length : ∀ (a : Int) (l : List Fi), (entsFrom a l).length = l.length
  | _, [] => rfl
  | a, f :: l => by simp [entsFrom, entsFrom_length]
theorem entsFrom_snoc : ∀ (a : Int) (l : List Fi) (f : Fi), entsFrom a (l ++ [f]) = entsFrom a l ++ [⟨f.path, f.kind, f.mode, f.time, f.tgt, a + (dataLen l : Int), f.data.length⟩]
  | a, [], f => by simp [entsFrom, dataLen]
  | a, g :: l, f => by
    rw [List.cons_append]
    unfold entsFrom
    rw [entsFrom_snoc, List.cons_append]
    congr 4
    unfold dataLen
    simp
    omega
theorem dataLen_snoc (l : List Fi) (f : Fi) : dataLen (l ++ [f]) = dataLen l + f.data.length := by simp [dataLen]
theorem dataLen_take (l : List Fi) (i : Nat) : dataLen (l.take i) ≤ dataLen l := by
  have : dataLen l = dataLen (l.take i) + dataLen (l.drop i) := by
    conv => lhs; rw [← List.take_append_drop i l]
    unfold dataLen
    rw [List.map_append, List.sum_append]
  omega

theorem infoEn : (Tryd.prog.info? 71).map (fun i => (i.zero, i.size, i.bytes)) = some (some (.agg #[.string ByteArray.empty, .int .i64 0, .int .i64 0, .int .i64 0, .string ByteArray.empty, .int .i64 0, .int .i64 0]), 7, 72) := by kernel_rfl

set_option maxRecDepth 100000 in
set_option maxHeartbeats 3200000 in
theorem entries_any (A : Option Addr) (c : Nat) (l : List (Fi × Value)) (hl : l.length ≤ 4294967296) (hs : dataLen (l.map (·.1)) ≤ 4294967296) (w : World) (hr : RdF w A l) :
    Calls Tryd.prog 33 #[.slice A l.length c] w (RetA 7 enL w (ents (l.map (·.1)))) := by
  obtain ⟨i0, hi, hz0, hz1, hz2⟩ := info_parts infoEn
  have Hi0 := Lib.hid (And.intro hi (And.intro hz0 (And.intro hz1 hz2)))
  have hO := (Own.start w.heap.size w).rw_nil 71 7
  have hb := Below.refl w.heap.size w
  have Hr := Lib.hid (fun w1 (b : Below w.heap.size w w1) => hr.below b)
  have Hd := Lib.hid (fun i => dataLen_take (l.map (·.1)) i)
  have Hs := Lib.hid hs
  have n1 : (l.length : Int) ≤ 4294967296 := by omega
  clear hr hi hz0 hz1 hz2 hs
  go_enter Tryd.func33, Tryd.ntmps33
  go_wp2
  go_loopg [3, 4, 9] l.length (fun k v a u wr => ∃ (i : Nat) (A' : Option Addr) (c' : Nat), k + i = l.length ∧ u = .int .i64 i ∧ a = .int .i64 (dataLen ((l.take i).map (·.1)) : Int) ∧ v = .slice A' i c' ∧ Below w.heap.size w wr ∧ Own w.heap.size (Rw 71 7 (.slice A' i c') i (flat enL (ents ((l.take i).map (·.1)))) * Emp) wr)
  case atStart => exact ⟨0, none, 0, by omega, rfl, rfl, rfl, hb, hO⟩
  case round =>
    clear hb hO
    obtain ⟨i, A', c', hk, rfl, rfl, rfl, hb, ho⟩ := hrel
    by_cases hlt : (i : Int) < (l.length : Int)
    · obtain ⟨j, rfl⟩ : ∃ j, gk = j + 1 := ⟨gk - 1, by omega⟩
      have hil : i < l.length := by omega
      have i0' : (0 : Int) ≤ (i : Int) := by omega
      obtain ⟨b, off, rfl, q, d⟩ := (Hr.out _ hb).1 i hil
      obtain ⟨Ad, cd, hdv⟩ := (Hr.out _ hb).get i hil
      have Hk := Lib.hid hk
      have htk : (l.take (i + 1)).map (·.1) = (l.take i).map (·.1) ++ [l[i].1] := by rw [List.take_succ_eq_append_getElem hil, List.map_append]; rfl
      have hsn : ents ((l.take (i + 1)).map (·.1)) = ents ((l.take i).map (·.1)) ++ [⟨l[i].1.path, l[i].1.kind, l[i].1.mode, l[i].1.time, l[i].1.tgt, (dataLen ((l.take i).map (·.1)) : Int), l[i].1.data.length⟩] := by
        rw [htk]; unfold ents; rw [entsFrom_snoc, Int.zero_add]
      have hdl : dataLen ((l.take (i + 1)).map (·.1)) = dataLen ((l.take i).map (·.1)) + l[i].1.data.length := by rw [htk, dataLen_snoc]
      have hle := Hd.out (i + 1)
      rw [← List.map_take, hdl] at hle
      have hle := Nat.le_trans hle Hs.out
      generalize dataLen ((l.take i).map (·.1)) = D at *
      have Hsn := Lib.hid hsn
      have Hdl := Lib.hid hdl
      clear htk hsn hdl hk
      generalize ents ((l.take i).map (·.1)) = E at *
      generalize l[i] = x at *
      obtain ⟨⟨path, kind, mode, time, data, tgt⟩, dv⟩ := x
      simp only at hdv hle Hsn Hdl
      subst hdv
      generalize data.length = dn at *
      have d0 := d 0 _ rfl
      have d1 := d 1 _ rfl
      have d2 := d 2 _ rfl
      have d3 := d 3 _ rfl
      have d4 := d 4 _ rfl
      have d5 := d 5 _ rfl
      simp only [Nat.add_zero] at d0 d1 d2 d3 d4 d5
      clear d
      have D0 : (D : Int) ≤ 4294967296 := by omega
      have D1 : (dn : Int) ≤ 4294967296 := by omega
      have o1 := (ho.new hb.size 57 #[.string (str path), .int .i64 kind, .int .i64 mode, .int .i64 time, .slice Ad dn cd, .string (str tgt)]).cast (sep_left_comm _ _ _)
      have hb1 := hb.alloc hb.size (.cells #[.string (str path), .int .i64 kind, .int .i64 mode, .int .i64 time, .slice Ad dn cd, .string (str tgt)] 57)
      obtain ⟨g2, cap2, w2, hrun, o2, b2⟩ := row_append (P := Tryd.prog) hb1.size Tryd.underlying39 Hi0.out.1 Hi0.out.2.1 Hi0.out.2.2.1 Hi0.out.2.2.2 rfl (by omega) o1 #[.string (str path), .int .i64 kind, .int .i64 mode, .int .i64 time, .string (str tgt), .int .i64 D, .int .i64 dn] rfl
        (by intro u hu; simp at hu; rcases hu with rfl | rfl | rfl | rfl | rfl | rfl | rfl <;> rfl) (by omega) (by omega)
      rw [World.size_alloc] at hrun
      have Hrun := Lib.hid hrun
      have hb2 := hb1.trans b2
      have k4 : w2.cell? ⟨wr.heap.size, 4, none⟩ = some (.slice Ad dn cd) := (o2.cast (sep_left_comm _ _ _)).cell 4
      have o3 := (o2.cast (sep_left_comm _ _ _)).drop
      clear hrun o1 hb1 hb ho b2 o2
      go_wp2_with (at_builtin; refine wpList_append_at rfl (.tmp 13) (.tmp 29) 39 rfl rfl rfl Hrun.out ?_)
      go_roundg j
      case measure => omega
      case rel => exact ⟨i + 1, some ⟨g2, 0, none⟩, cap2, by have := Hk.out; omega, rfl, congrArg (Value.int .i64) (by rw [Hdl.out]; omega), rfl, hb2, by rw [Hsn.out, flat_snoc]; exact o3⟩
    · obtain rfl : i = l.length := by omega
      rw [List.take_length] at ho
      go_wp2
      go_ret
      exact RetA.mk rfl (by unfold ents; rw [entsFrom_length]; simp) ho.cap (ho.rdA enL_len (by unfold ents; rw [entsFrom_length]; simp)) hb
end Go.Proofs.YtmppagiaonbggaaDoor

/- Package entry: the walks over paths, and over what is amiss with entries. -/
namespace Go.Proofs.YtmppagiaonbggaaDoor
set_option linter.unusedVariables false
set_option linter.unusedSimpArgs false
set_option maxRecDepth 100000
open Go.RowKit

def strL (x : List UInt8) : List Value := [.string (str x)]
theorem strL_len (x : List UInt8) : (strL x).length = 1 := rfl
theorem rds_of_rdA {w : World} {A : Option Addr} {l : List (List UInt8)} (h : RdA 1 strL w A l) : RdS w A l := fun i hi => by
  obtain ⟨b, off, ha, _, hc⟩ := h i hi
  refine ⟨b, off, ha, ?_⟩
  have := hc 0 _ rfl
  rwa [Nat.mul_one, Nat.add_zero] at this
theorem flat_strL (l : List (List UInt8)) : flat strL l = strsV l := by
  induction l with
  | nil => rfl
  | cons a l ih => show strL a ++ flat strL l = _; rw [ih]; rfl
theorem RdA.cells7 {w : World} {b off : Nat} {i : Nat} {e : En} (d : ∀ j u, (enL e)[j]? = some u → w.cell? ⟨b, off + i * 7 + j, none⟩ = some u) :
    w.cell? ⟨b, off + i * 7, none⟩ = some (.string (str e.path)) ∧ w.cell? ⟨b, off + i * 7 + 1, none⟩ = some (.int .i64 e.kind) ∧ w.cell? ⟨b, off + i * 7 + 2, none⟩ = some (.int .i64 e.mode) ∧ w.cell? ⟨b, off + i * 7 + 3, none⟩ = some (.int .i64 e.time) ∧
    w.cell? ⟨b, off + i * 7 + 4, none⟩ = some (.string (str e.tgt)) ∧ w.cell? ⟨b, off + i * 7 + 5, none⟩ = some (.int .i64 e.beg) ∧ w.cell? ⟨b, off + i * 7 + 6, none⟩ = some (.int .i64 e.size) :=
  ⟨d 0 _ rfl, d 1 _ rfl, d 2 _ rfl, d 3 _ rfl, d 4 _ rfl, d 5 _ rfl, d 6 _ rfl⟩

set_option maxRecDepth 100000 in
set_option maxHeartbeats 3200000 in
theorem paths_any (A : Option Addr) (c : Nat) (l : List En) (hl : l.length ≤ 4294967296) (w : World) (hr : RdA 7 enL w A l) :
    Calls Tryd.prog 54 #[.slice A l.length c] w (RetA 1 strL w (l.map (·.path))) := by
  obtain ⟨i0, hi, hz0, hz1, hz2⟩ := info_parts infoStr
  have Hi0 := Lib.hid (And.intro hi (And.intro hz0 (And.intro hz1 hz2)))
  have hO := (Own.start w.heap.size w).rw_nil 9 1
  have hb := Below.refl w.heap.size w
  have Hr := Lib.hid (fun w1 (b : Below w.heap.size w w1) => hr.below b)
  have n1 : (l.length : Int) ≤ 4294967296 := by omega
  clear hr hi hz0 hz1 hz2
  go_enter Tryd.func54, Tryd.ntmps54
  go_wp2
  go_loopg [3, 8] l.length (fun k v u wr => ∃ (i : Nat) (A' : Option Addr) (c' : Nat), k + i = l.length ∧ u = .int .i64 i ∧ v = .slice A' i c' ∧ Below w.heap.size w wr ∧ Own w.heap.size (Rw 9 1 (.slice A' i c') i (flat strL ((l.take i).map (·.path))) * Emp) wr)
  case atStart => exact ⟨0, none, 0, by omega, rfl, rfl, hb, hO⟩
  case round =>
    clear hb hO
    obtain ⟨i, A', c', hk, rfl, rfl, hb, ho⟩ := hrel
    by_cases hlt : (i : Int) < (l.length : Int)
    · obtain ⟨j, rfl⟩ : ∃ j, gk = j + 1 := ⟨gk - 1, by omega⟩
      have hil : i < l.length := by omega
      have i0' : (0 : Int) ≤ (i : Int) := by omega
      obtain ⟨b, off, rfl, q, d⟩ := Hr.out _ hb i hil
      have Hk := Lib.hid hk
      have Hsn : Hid ((l.take (i + 1)).map (·.path) = (l.take i).map (·.path) ++ [l[i].path]) := Lib.hid (by rw [List.take_succ_eq_append_getElem hil, List.map_append]; rfl)
      clear hk
      generalize (l.take i).map (·.path) = E at *
      generalize l[i] = x at *
      obtain ⟨path, kind, mode, time, tgt, beg, size⟩ := x
      obtain ⟨d0, d1, d2, d3, d4, d5, d6⟩ := RdA.cells7 d
      simp only at d0 d1 d2 d3 d4 d5 d6 Hsn
      clear d
      have o1 := ho.alloc_keep hb.size (.cells #[.string (str path), .int .i64 kind, .int .i64 mode, .int .i64 time, .string (str tgt), .int .i64 beg, .int .i64 size] 71)
      have hb1 := hb.alloc hb.size (.cells #[.string (str path), .int .i64 kind, .int .i64 mode, .int .i64 time, .string (str tgt), .int .i64 beg, .int .i64 size] 71)
      obtain ⟨g2, cap2, w2, hrun, o2, b2⟩ := row_append (P := Tryd.prog) hb1.size Tryd.underlying83 Hi0.out.1 Hi0.out.2.1 Hi0.out.2.2.1 Hi0.out.2.2.2 rfl (by omega) o1 #[.string (str path)] rfl
        (by intro u hu; simp at hu; rcases hu with rfl; rfl) (by omega) (by omega)
      rw [World.size_alloc] at hrun
      have Hrun := Lib.hid hrun
      have hb2 := hb1.trans b2
      clear hrun o1 hb1 hb ho b2
      go_wp2_with (at_builtin; refine wpList_append_at rfl (.tmp 12) (.tmp 15) 83 rfl rfl rfl Hrun.out ?_)
      go_roundg j
      case measure => omega
      case rel => exact ⟨i + 1, some ⟨g2, 0, none⟩, cap2, by have := Hk.out; omega, rfl, rfl, hb2, by rw [Hsn.out, flat_snoc]; exact o2⟩
    · obtain rfl : i = l.length := by omega
      rw [List.take_length] at ho
      go_wp2
      go_ret
      exact RetA.mk rfl (by simp) ho.cap (ho.rdA strL_len (by simp)) hb

theorem allB_list {α : Type} [Inhabited α] (q : α → Bool) (l : List α) (d : α) : allB (fun i => q (l.getD i d)) l.length = l.all q := by
  rw [Bool.eq_iff_iff, allB_true, List.all_eq_true]
  constructor
  · intro h x hx
    obtain ⟨i, hi, rfl⟩ := List.mem_iff_getElem.1 hx
    have := h i hi
    simpa [hi] using this
  · intro h i hi
    have := h l[i] (List.getElem_mem hi)
    simpa [hi] using this

set_option maxHeartbeats 1600000 in
theorem allstr_any (A : Option Addr) (c : Nat) (l : List (List UInt8)) (hl : l.length ≤ 9223372036854775807) (hx : ∀ x ∈ l, x.length ≤ 9223372036854775807) (w : World) (h : Sh w) (hr : RdS w A l) :
    Calls Tryd.prog 53 #[.slice A l.length c, .func (.func 55) #[] #[]] w fun e w' => e = .returned (.bool (l.all okPath)) ∧ Below w.heap.size w w' := by
  have hb := Below.refl w.heap.size w
  have Hh := Lib.hid (fun w1 (b : Below w.heap.size w w1) => sh_below h b)
  have Hr := Lib.hid (fun w1 (b : Below w.heap.size w w1) => hr.below b)
  have Hx := Lib.hid hx
  have n1 : (l.length : Int) ≤ 9223372036854775807 := by omega
  clear h hr hx
  go_enter Tryd.func53, Tryd.ntmps53
  go_wp2
  go_loopg [9] l.length (fun k v wr => ∃ i : Nat, k + i = l.length ∧ v = .int .i64 i ∧ Below w.heap.size w wr ∧ Hid (∀ j, j < i → okPath (l.getD j []) = true))
  case atStart => exact ⟨0, by omega, rfl, hb, Lib.hid (fun j h => absurd h (Nat.not_lt_zero _))⟩
  case round =>
    clear hb
    obtain ⟨i, hk, rfl, hb, hp⟩ := hrel
    by_cases hlt : (i : Int) < (l.length : Int)
    · obtain ⟨j, rfl⟩ : ∃ j, gk = j + 1 := ⟨gk - 1, by omega⟩
      have hil : i < l.length := by omega
      have i0 : (0 : Int) ≤ (i : Int) := by omega
      obtain ⟨b, off, rfl, q, d⟩ := (Hr.out _ hb).at_ i hil
      have Hk := Lib.hid hk
      have hg : l.getD i [] = l[i] := by simp [hil]
      have R := Lib.hid (fun w1 h1 => right_any (str l[i]) (by have := Hx.out _ (List.getElem_mem hil); exact this) w1 h1)
      rw [data_str, ← hg] at R
      have hp2 : Hid (okPath (l.getD i []) = true → ∀ j, j < i + 1 → okPath (l.getD j []) = true) := Lib.hid (fun h j hj => by
        by_cases e : j = i
        · subst e; exact h
        · exact hp.out j (by omega))
      have hbad : Hid (okPath (l.getD i []) = false → l.all okPath = false) := Lib.hid (fun h => by rw [← allB_list okPath l []]; exact allB_false hil h)
      clear hk hp
      generalize okPath (l.getD i []) = y at *
      rw [hg] at *
      generalize l[i] = x at *
      clear hg
      go_wp2_with fail
      refine (R.out _ (Hh.out _ hb)).mono ?_
      rintro e wz ⟨rfl, b⟩
      replace hb := hb.trans (b.mono hb.size)
      clear b
      cases y with
      | true =>
        go_wp2
        go_roundg j
        case measure => omega
        case rel => exact ⟨i + 1, by have := Hk.out; omega, rfl, hb, Lib.hid (hp2.out (by trivial))⟩
      | false =>
        go_wp2
        go_ret
        exact ⟨by rw [hbad.out (by trivial)]; rfl, hb⟩
    · have hall : Hid (l.all okPath = true) := Lib.hid (by rw [← allB_list okPath l []]; exact allB_true.2 (fun j hj => hp.out j (by omega)))
      go_wp2
      go_ret
      exact ⟨by rw [hall.out]; rfl, hb⟩
/-! what is amiss -/
def pairB : List (List UInt8) → Bool
  | [] => true
  | x :: l => (match l with | [] => true | y :: _ => decide (cmpL (psplit x) (psplit y) < 0)) && pairB l
theorem pairB_index : ∀ l : List (List UInt8), pairB l = true ↔ ∀ i (h : i + 1 < l.length), cmpL (psplit (l[i]'(by omega))) (psplit l[i + 1]) < 0
  | [] => by simp [pairB]
  | [x] => by simp [pairB]
  | x :: y :: l => by
    have ih := pairB_index (y :: l)
    unfold pairB
    rw [Bool.and_eq_true, ih, decide_eq_true_eq]
    constructor
    · rintro ⟨h1, h2⟩ i hi
      cases i with
      | zero => exact h1
      | succ i => exact h2 i (by simpa using hi)
    · intro h
      exact ⟨h 0 (by simp), fun i hi => h (i + 1) (by simpa using hi)⟩
def sortedB (l : List (List UInt8)) : Bool := l.all okPath && pairB l
theorem sortedB_iff (l : List (List UInt8)) : sortedB l = true ↔ SortedP l := by
  unfold sortedB SortedP
  rw [Bool.and_eq_true, List.all_eq_true, pairB_index]
  constructor
  · rintro ⟨h1, h2⟩ i hi
    refine ⟨h1 _ (List.getElem_mem hi), fun h0 => ?_⟩
    obtain ⟨j, rfl⟩ : ∃ j, i = j + 1 := ⟨i - 1, by omega⟩
    exact h2 j hi
  · intro h
    refine ⟨fun x hx => ?_, fun i hi => (h (i + 1) hi).2 (by omega)⟩
    obtain ⟨i, hi, rfl⟩ := List.mem_iff_getElem.1 hx
    exact (h i hi).1
def capA (a s : Int) : Int := min (a + min (max s 0) 4194305) 4194305
def sumC (l : List En) : Int := l.foldl (fun a e => capA a e.size) 0
def whyE (l : List En) : Int :=
  if (l.map (·.path)).all okPath = false then 9
  else if sortedB (l.map (·.path)) = false then 10
  else if 1024 < l.length ∨ 4194304 < sumC l ∨ l.all (fun e => decide (e.size ≤ 1048576)) = false then 7
  else if l.all plainB = false then 1
  else 0
end Go.Proofs.YtmppagiaonbggaaDoor

/- Package entry: the walk over what is amiss with entries. -/
namespace Go.Proofs.YtmppagiaonbggaaDoor
set_option linter.unusedVariables false
set_option linter.unusedSimpArgs false
set_option maxRecDepth 100000
open Go.RowKit

theorem all_pure (N : FuncId) (hN : ∀ (xs : Array Value) (W : World), (callFunc N xs).run Tryd.prog W = .ok (.enter N xs) W) (q : En → Bool) (A : Option Addr) (c : Nat) (l : List En) (hl : l.length ≤ 9223372036854775807) (w : World) (hr : RdA 7 enL w A l)
    (hf : ∀ e ∈ l, ∀ W, Calls Tryd.prog N #[.agg (enL e).toArray] W fun x W' => x = .returned (.bool (q e)) ∧ Below W.heap.size W W') :
    Calls Tryd.prog 57 #[.slice A l.length c, .func (.func N) #[] #[]] w fun e W' => e = .returned (.bool (l.all q)) ∧ Below w.heap.size w W' := by
  have h := all_any N hN #[] (fun _ _ => True) (fun i => q (l.getD i default)) A c l hl w w (Below.refl _ _) hr trivial (fun _ _ _ _ => trivial) (fun i hi W hb _ => by
    have hg : l.getD i default = l[i] := by simp [hi]
    rw [hg, Array.append_empty]
    exact (hf _ (List.getElem_mem hi) W).mono fun e W' ⟨he, hb'⟩ => ⟨he, fun _ => trivial, hb'.mono hb.size⟩)
  rw [allB_list q l default] at h
  exact h
theorem run_small (xs : Array Value) (W : World) : (callFunc 58 xs).run Tryd.prog W = .ok (.enter 58 xs) W := by kernel_rfl
theorem run_plain (xs : Array Value) (W : World) : (callFunc 59 xs).run Tryd.prog W = .ok (.enter 59 xs) W := by kernel_rfl

theorem whyE_eq (l : List En) : whyE l = if (l.map (·.path)).all okPath = false then 9
  else if sortedB (l.map (·.path)) = false then 10
  else if 1024 < l.length ∨ 4194304 < sumC l ∨ l.all (fun e => decide (e.size ≤ 1048576)) = false then 7
  else if l.all plainB = false then 1
  else 0 := rfl
theorem capA_range {a s : Int} (h0 : 0 ≤ a) : 0 ≤ capA a s ∧ capA a s ≤ 4194305 := by unfold capA; omega
theorem sumC_snoc (l : List En) (e : En) : sumC (l ++ [e]) = capA (sumC l) e.size := by unfold sumC; rw [List.foldl_append]; rfl
theorem sumC_range (l : List En) : 0 ≤ sumC l ∧ sumC l ≤ 4194305 := by
  rcases List.eq_nil_or_concat l with rfl | ⟨m, e, rfl⟩
  · exact ⟨Int.le_refl _, by decide⟩
  · rw [List.concat_eq_append, sumC_snoc]
    refine capA_range ?_
    have : ∀ (l : List En) (a : Int), 0 ≤ a → 0 ≤ l.foldl (fun a e => capA a e.size) a := by
      intro l
      induction l with
      | nil => intro a h; exact h
      | cons e l ih => intro a h; exact ih _ (capA_range h).1
    exact this m 0 (Int.le_refl _)

set_option maxRecDepth 100000 in
set_option maxHeartbeats 3200000 in
theorem why_any (A : Option Addr) (c : Nat) (l : List En) (hl : l.length ≤ 4294967296) (ok : ∀ e ∈ l, e.ok) (hx : ∀ e ∈ l, e.path.length ≤ 4294967280) (w : World) (h : Sh w) (hr : RdA 7 enL w A l) :
    Calls Tryd.prog 32 #[.slice A l.length c] w fun e w' => e = .returned (.int .i64 (whyE l)) ∧ Below w.heap.size w w' := by
  have hb := Below.refl w.heap.size w
  have Hh := Lib.hid (fun w1 (b : Below w.heap.size w w1) => sh_below h b)
  have Hr := Lib.hid (fun w1 (b : Below w.heap.size w w1) => hr.below b)
  have Ok := Lib.hid ok
  have Hx := Lib.hid hx
  have n1 : (l.length : Int) ≤ 4294967296 := by omega
  clear h hr ok hx
  go_enter Tryd.func32, Tryd.ntmps32
  go_wp2
  go_loopg [3, 8] l.length (fun k a v wr => ∃ i : Nat, k + i = l.length ∧ v = .int .i64 i ∧ a = .int .i64 (sumC (l.take i)) ∧ Below w.heap.size w wr)
  case atStart => exact ⟨0, by omega, rfl, rfl, hb⟩
  case round =>
    clear hb
    obtain ⟨i, hk, rfl, rfl, hb⟩ := hrel
    by_cases hlt : (i : Int) < (l.length : Int)
    · obtain ⟨j, rfl⟩ : ∃ j, gk = j + 1 := ⟨gk - 1, by omega⟩
      have hil : i < l.length := by omega
      have i0' : (0 : Int) ≤ (i : Int) := by omega
      obtain ⟨b, off, rfl, q, d⟩ := Hr.out _ hb i hil
      have Hk := Lib.hid hk
      have Hsn : Hid (sumC (l.take (i + 1)) = capA (sumC (l.take i)) l[i].size) := Lib.hid (by rw [List.take_succ_eq_append_getElem hil, sumC_snoc])
      obtain ⟨a0, a1⟩ := sumC_range (l.take i)
      have hz := (Ok.out _ (List.getElem_mem hil)).size
      clear hk
      generalize sumC (l.take i) = a at *
      generalize l[i] = x at *
      obtain ⟨path, kind, mode, time, tgt, beg, size⟩ := x
      obtain ⟨d0, d1, d2, d3, d4, d5, d6⟩ := RdA.cells7 d
      simp only [okI] at d0 d1 d2 d3 d4 d5 d6 Hsn hz
      obtain ⟨z0, z1⟩ := hz
      clear d
      have hb1 := hb.alloc hb.size (.cells #[.string (str path), .int .i64 kind, .int .i64 mode, .int .i64 time, .string (str tgt), .int .i64 beg, .int .i64 size] 71)
      clear hb
      go_wp2
      go_roundg j
      case measure => omega
      case rel => exact ⟨i + 1, by have := Hk.out; omega, rfl, congrArg (Value.int .i64) (by rw [Hsn.out]; rfl), hb1⟩
    · obtain rfl : i = l.length := by omega
      rw [List.take_length]
      have hsz : (l.map (·.path)).length = l.length := by simp
      have P := Lib.hid (fun w1 hr => paths_any A c l hl w1 hr)
      have hxp : ∀ x ∈ l.map (·.path), x.length ≤ 4294967280 := fun x hx => by
        obtain ⟨e, he, rfl⟩ := List.mem_map.1 hx
        exact Hx.out e he
      have S1 := Lib.hid (fun A' c' w1 h1 hr => allstr_any A' c' (l.map (·.path)) (by rw [hsz]; omega) (fun x hx => by have := hxp x hx; omega) w1 h1 hr)
      have S2 := Lib.hid (fun A' c' w1 h1 hr => sorted_any A' c' (l.map (·.path)) (by rw [hsz]; omega) hxp w1 h1 hr)
      have Q1 := Lib.hid (fun w1 hr => all_pure _ run_small (fun e => decide (e.size ≤ 1048576)) A c l (by omega) w1 hr (fun e _ W => small_any e W))
      have Q2 := Lib.hid (fun w1 hr => all_pure _ run_plain plainB A c l (by omega) w1 hr (fun e he W => plain_any e (Ok.out e he) W))
      have hso := Lib.hid (sortedB_iff (l.map (·.path)))
      have hn : (l.length == (l.map (·.path)).length) = true := by rw [hsz]; simp
      have hw := Lib.hid (whyE_eq l)
      obtain ⟨a0, a1⟩ := sumC_range l
      have Ha := Lib.hid (And.intro a0 a1)
      clear hk hsz hxp hn a0 a1
      obtain ⟨z, hzz⟩ : ∃ z, whyE l = z := ⟨_, rfl⟩
      have Hz := Lib.hid hzz
      rw [hzz] at hw
      clear hzz
      generalize sumC l = a at *
      generalize l.all plainB = y4 at *
      generalize l.all (fun e => decide (e.size ≤ 1048576)) = y3 at *
      generalize l.map (·.path) = ps at *
      generalize ps.all okPath = y1 at *
      generalize sortedB ps = y2 at *
      obtain ⟨a0, a1⟩ := Ha.out
      clear Ha
      cases y1 with
      | false =>
        have hz : Hid (z = 9) := Lib.hid (by rw [hw.out]; rfl)
        clear hw
        go_wp2_with fail
        refine (P.out _ (Hr.out _ hb)).mono ?_
        rintro e wz ⟨A1, c1, rfl, k1, r1, b⟩
        replace hb := hb.trans (b.mono hb.size)
        have R1 := Lib.hid (rds_of_rdA r1)
        clear b r1
        go_wp2_with fail
        refine (S1.out _ _ _ (Hh.out _ hb) R1.out).mono ?_
        rintro e wz ⟨rfl, b⟩
        replace hb := hb.trans (b.mono hb.size)
        clear b
        go_wp2
        go_ret
        exact ⟨by rw [Hz.out, hz.out]; rfl, hb⟩
      | true =>
      have hw2 : z = if y2 = false then 10 else if 1024 < l.length ∨ 4194304 < a ∨ y3 = false then 7 else if y4 = false then 1 else 0 := by rw [hw.out]; rfl
      replace hw := Lib.hid hw2
      clear hw2
      cases y2 with
      | false =>
        have hz : Hid (z = 10) := Lib.hid (by rw [hw.out]; rfl)
        clear hw
        go_wp2_with fail
        refine (P.out _ (Hr.out _ hb)).mono ?_
        rintro e wz ⟨A1, c1, rfl, k1, r1, b⟩
        replace hb := hb.trans (b.mono hb.size)
        have R1 := Lib.hid (rds_of_rdA r1)
        clear b r1
        go_wp2_with fail
        refine (S1.out _ _ _ (Hh.out _ hb) R1.out).mono ?_
        rintro e wz ⟨rfl, b⟩
        replace hb := hb.trans (b.mono hb.size)
        clear b
        go_wp2_with fail
        refine (P.out _ (Hr.out _ hb)).mono ?_
        rintro e wz ⟨A1, c1, rfl, k1, r1, b⟩
        replace hb := hb.trans (b.mono hb.size)
        have R1 := Lib.hid (rds_of_rdA r1)
        clear b r1
        go_wp2_with fail
        refine (S2.out _ _ _ (Hh.out _ hb) R1.out).mono ?_
        rintro e wz ⟨r, rfl, hr, b⟩
        obtain rfl : r = false := by
          cases r
          · rfl
          · exact absurd (hso.out.2 (hr.1 rfl)) (by simp)
        replace hb := hb.trans (b.mono hb.size)
        clear b hr
        go_wp2
        go_ret
        exact ⟨by rw [Hz.out, hz.out]; rfl, hb⟩
      | true =>
      have hw2 : z = if 1024 < l.length ∨ 4194304 < a ∨ y3 = false then 7 else if y4 = false then 1 else 0 := by rw [hw.out]; rfl
      replace hw := Lib.hid hw2
      clear hw2
      go_wp2_with fail
      refine (P.out _ (Hr.out _ hb)).mono ?_
      rintro e wz ⟨A1, c1, rfl, k1, r1, b⟩
      replace hb := hb.trans (b.mono hb.size)
      have R1 := Lib.hid (rds_of_rdA r1)
      clear b r1
      go_wp2_with fail
      refine (S1.out _ _ _ (Hh.out _ hb) R1.out).mono ?_
      rintro e wz ⟨rfl, b⟩
      replace hb := hb.trans (b.mono hb.size)
      clear b
      go_wp2_with fail
      refine (P.out _ (Hr.out _ hb)).mono ?_
      rintro e wz ⟨A1, c1, rfl, k1, r1, b⟩
      replace hb := hb.trans (b.mono hb.size)
      have R1 := Lib.hid (rds_of_rdA r1)
      clear b r1
      go_wp2_with fail
      refine (S2.out _ _ _ (Hh.out _ hb) R1.out).mono ?_
      rintro e wz ⟨r, rfl, hr, b⟩
      obtain rfl : r = true := hr.2 (hso.out.1 (by simp))
      replace hb := hb.trans (b.mono hb.size)
      clear b hr
      by_cases h1 : (1024 : Int) < (l.length : Int)
      · have hz : Hid (z = 7) := Lib.hid (by rw [hw.out, if_pos (.inl (by omega))])
        clear hw
        go_wp2
        go_ret
        exact ⟨by rw [Hz.out, hz.out]; rfl, hb⟩
      by_cases h2 : 4194304 < a
      · have hz : Hid (z = 7) := Lib.hid (by rw [hw.out, if_pos (.inr (.inl h2))])
        clear hw
        go_wp2
        go_ret
        exact ⟨by rw [Hz.out, hz.out]; rfl, hb⟩
      cases y3 with
      | false =>
        have hz : Hid (z = 7) := Lib.hid (by rw [hw.out, if_pos (.inr (.inr rfl))])
        clear hw
        go_wp2_with fail
        refine (Q1.out _ (Hr.out _ hb)).mono ?_
        rintro e wz ⟨rfl, b⟩
        replace hb := hb.trans (b.mono hb.size)
        clear b
        go_wp2
        go_ret
        exact ⟨by rw [Hz.out, hz.out]; rfl, hb⟩
      | true =>
      have hw2 : z = if y4 = false then 1 else 0 := by rw [hw.out, if_neg (by simp; omega)]
      replace hw := Lib.hid hw2
      clear hw2
      cases y4 with
      | false =>
        have hz : Hid (z = 1) := Lib.hid (by rw [hw.out]; rfl)
        clear hw
        go_wp2_with fail
        refine (Q1.out _ (Hr.out _ hb)).mono ?_
        rintro e wz ⟨rfl, b⟩
        replace hb := hb.trans (b.mono hb.size)
        clear b
        go_wp2_with fail
        refine (Q2.out _ (Hr.out _ hb)).mono ?_
        rintro e wz ⟨rfl, b⟩
        replace hb := hb.trans (b.mono hb.size)
        clear b
        go_wp2
        go_ret
        exact ⟨by rw [Hz.out, hz.out]; rfl, hb⟩
      | true =>
        have hz : Hid (z = 0) := Lib.hid (by rw [hw.out]; rfl)
        clear hw
        go_wp2_with fail
        refine (Q1.out _ (Hr.out _ hb)).mono ?_
        rintro e wz ⟨rfl, b⟩
        replace hb := hb.trans (b.mono hb.size)
        clear b
        go_wp2_with fail
        refine (Q2.out _ (Hr.out _ hb)).mono ?_
        rintro e wz ⟨rfl, b⟩
        replace hb := hb.trans (b.mono hb.size)
        clear b
        go_wp2
        go_ret
        exact ⟨by rw [Hz.out, hz.out]; rfl, hb⟩
end Go.Proofs.YtmppagiaonbggaaDoor

/- Package entry: the walks over Of, Right and Fine. -/
namespace Go.Proofs.YtmppagiaonbggaaDoor
set_option linter.unusedVariables false
set_option linter.unusedSimpArgs false
set_option maxRecDepth 100000
open Go.RowKit

/-- What a call leaves that returns a slice and an error. -/
def Ret2A {α : Type} (k : Nat) (cs : α → List Value) (w : World) (l : List α) (z : Int) (e : Ending) (w' : World) : Prop := ∃ A c, e = .returned (.tuple #[.slice A l.length c, .int .i64 z]) ∧ (l.length ≤ c ∧ c ≤ 9223372036854775807) ∧ RdA k cs w' A l ∧ Below w.heap.size w w'
theorem Ret2A.mk {α : Type} {k : Nat} {cs : α → List Value} {w w' : World} {l : List α} {z : Int} {e : Ending} {A : Option Addr} {n c : Nat} {z' : Int} (he : e = .returned (.tuple #[.slice A n c, .int .i64 z'])) (hn : n = l.length) (hz : z' = z) (hc : n ≤ c ∧ c ≤ 9223372036854775807) (hr : RdA k cs w' A l) (hb : Below w.heap.size w w') : Ret2A k cs w l z e w' := ⟨A, c, by rw [he, hn, hz], by rw [← hn]; exact hc, hr, hb⟩

/-- What every file of Go is. -/
structure Fi.ok (f : Fi) : Prop where
  path : f.path.length ≤ 4294967280
  kind : okI f.kind
  mode : okI f.mode
  time : okI f.time
  tgt : f.tgt.length ≤ 9223372036854775807
theorem entsFrom_ok : ∀ (l : List Fi) (a : Int), (∀ f ∈ l, f.ok) → 0 ≤ a → a + (dataLen l : Int) ≤ 4294967296 → ∀ e ∈ entsFrom a l, e.ok ∧ e.path.length ≤ 4294967280
  | [], _, _, _, _ => fun e he => by cases he
  | f :: l, a, h, h0, h1 => fun e he => by
    have hd : dataLen (f :: l) = f.data.length + dataLen l := rfl
    have hf := h f List.mem_cons_self
    unfold entsFrom at he
    rcases List.mem_cons.1 he with rfl | he
    · exact ⟨⟨by have := hf.path; simp only; omega, hf.kind, hf.mode, hf.time, hf.tgt, ⟨by simp only; omega, by simp only; omega⟩, ⟨by simp only; omega, by simp only; omega⟩⟩, hf.path⟩
    · exact entsFrom_ok l _ (fun g hg => h g (List.mem_cons_of_mem _ hg)) (by omega) (by omega) e he
theorem ents_ok {l : List Fi} (h : ∀ f ∈ l, f.ok) (hs : dataLen l ≤ 4294967296) : ∀ e ∈ ents l, e.ok ∧ e.path.length ≤ 4294967280 := entsFrom_ok l 0 h (Int.le_refl _) (by omega)
def ofE (l : List Fi) : List En := if whyE (ents l) = 0 then ents l else []

set_option maxHeartbeats 1600000 in
theorem ofE_any (A : Option Addr) (c : Nat) (l : List (Fi × Value)) (hl : l.length ≤ 4294967296) (hs : dataLen (l.map (·.1)) ≤ 4294967296) (ok : ∀ x ∈ l, x.1.ok) (w : World) (h : Sh w) (hr : RdF w A l) :
    Calls Tryd.prog 17 #[.slice A l.length c] w (Ret2A 7 enL w (ofE (l.map (·.1))) (whyE (ents (l.map (·.1))))) := by
  have hb := Below.refl w.heap.size w
  have Hh := Lib.hid (fun w1 (b : Below w.heap.size w w1) => sh_below h b)
  have hk := ents_ok (l := l.map (·.1)) (by intro f hf; obtain ⟨x, hx, rfl⟩ := List.mem_map.1 hf; exact ok x hx) hs
  have hel : (ents (l.map (·.1))).length = l.length := by unfold ents; rw [entsFrom_length]; simp
  have E1 := Lib.hid (entries_any A c l hl hs w hr)
  have W1 := Lib.hid (fun A' c' w1 h1 hr => why_any A' c' (ents (l.map (·.1))) (by omega) (fun e he => (hk e he).1) (fun e he => (hk e he).2) w1 h1 hr)
  have Ho := Lib.hid (show ofE (l.map (·.1)) = if whyE (ents (l.map (·.1))) = 0 then ents (l.map (·.1)) else [] from rfl)
  clear hk hel h hr
  generalize ofE (l.map (·.1)) = o at *
  generalize ents (l.map (·.1)) = es at *
  generalize whyE es = z at *
  by_cases h0 : z = 0
  · subst h0
    obtain rfl : o = es := Ho.out
    go_enter Tryd.func17, Tryd.ntmps17
    go_wp2_with fail
    refine E1.out.mono ?_
    rintro e w1 ⟨A1, c1, rfl, k1, r1, b1⟩
    have R1 := Lib.hid r1
    clear r1
    go_wp2_with fail
    refine (W1.out _ _ _ (Hh.out _ b1) R1.out).mono ?_
    rintro e w2 ⟨rfl, b2⟩
    have R2 := Lib.hid (R1.out.below b2)
    have hb2 := b1.trans (b2.mono b1.size)
    clear b1 b2
    go_wp2
    go_ret2
    exact Ret2A.mk rfl rfl rfl k1 R2.out hb2
  · obtain rfl : o = [] := by rw [Ho.out, if_neg h0]
    have h0' : (z == 0) = false := by simpa using h0
    go_enter Tryd.func17, Tryd.ntmps17
    go_wp2_with fail
    refine E1.out.mono ?_
    rintro e w1 ⟨A1, c1, rfl, k1, r1, b1⟩
    have R1 := Lib.hid r1
    clear r1
    go_wp2_with fail
    refine (W1.out _ _ _ (Hh.out _ b1) R1.out).mono ?_
    rintro e w2 ⟨rfl, b2⟩
    have hb2 := b1.trans (b2.mono b1.size)
    clear b1 b2
    go_wp2
    go_ret2
    exact Ret2A.mk rfl rfl rfl cap0 RdA.nil hb2

theorem rightE_any (A : Option Addr) (c : Nat) (l : List (Fi × Value)) (hl : l.length ≤ 4294967296) (hs : dataLen (l.map (·.1)) ≤ 4294967296) (ok : ∀ x ∈ l, x.1.ok) (w : World) (h : Sh w) (hr : RdF w A l) :
    Calls Tryd.prog 16 #[.slice A l.length c] w fun e w' => e = .returned (.bool (whyE (ents (l.map (·.1))) == 0)) ∧ Below w.heap.size w w' := by
  have hb := Below.refl w.heap.size w
  have Hh := Lib.hid (fun w1 (b : Below w.heap.size w w1) => sh_below h b)
  have hk := ents_ok (l := l.map (·.1)) (by intro f hf; obtain ⟨x, hx, rfl⟩ := List.mem_map.1 hf; exact ok x hx) hs
  have hel : (ents (l.map (·.1))).length = l.length := by unfold ents; rw [entsFrom_length]; simp
  have E1 := Lib.hid (entries_any A c l hl hs w hr)
  have W1 := Lib.hid (fun A' c' w1 h1 hr => why_any A' c' (ents (l.map (·.1))) (by omega) (fun e he => (hk e he).1) (fun e he => (hk e he).2) w1 h1 hr)
  clear hk hel h hr
  generalize ents (l.map (·.1)) = es at *
  generalize whyE es = z at *
  go_enter Tryd.func16, Tryd.ntmps16
  go_wp2_with fail
  refine E1.out.mono ?_
  rintro e w1 ⟨A1, c1, rfl, k1, r1, b1⟩
  have R1 := Lib.hid r1
  clear r1
  go_wp2_with fail
  refine (W1.out _ _ _ (Hh.out _ b1) R1.out).mono ?_
  rintro e w2 ⟨rfl, b2⟩
  have hb2 := b1.trans (b2.mono b1.size)
  clear b1 b2
  go_wp2
  go_ret
  exact ⟨rfl, hb2⟩

/-! Fine -/
def begB : Int → List En → Bool
  | _, [] => true
  | a, e :: l => (e.beg == a) && begB (a + e.size) l
def fineB (l : List En) : Bool := (whyE l == 0) && begB 0 l
def sumS (l : List En) : Int := (l.map (·.size)).sum
theorem sumS_snoc (l : List En) (e : En) : sumS (l ++ [e]) = sumS l + e.size := by simp [sumS]
theorem begB_index : ∀ (l : List En) (a : Int), begB a l = true ↔ ∀ i (h : i < l.length), l[i].beg = a + sumS (l.take i)
  | [], a => by simp [begB]
  | e :: l, a => by
    have ih := begB_index l (a + e.size)
    unfold begB
    rw [Bool.and_eq_true, ih, beq_iff_eq]
    constructor
    · rintro ⟨h1, h2⟩ i hi
      cases i with
      | zero => simpa [sumS] using h1
      | succ i =>
        have := h2 i (by simpa using hi)
        simp only [List.getElem_cons_succ, List.take_succ_cons]
        rw [this]; simp [sumS]; omega
    · intro h
      refine ⟨by have := h 0 (by simp); simpa [sumS] using this, fun i hi => ?_⟩
      have := h (i + 1) (by simpa using hi)
      simp only [List.getElem_cons_succ, List.take_succ_cons] at this
      rw [this]; simp [sumS]; omega
theorem whyE_zero {l : List En} (h : whyE l = 0) : sortedB (l.map (·.path)) = true ∧ l.length ≤ 1024 ∧ sumC l ≤ 4194304 ∧ ∀ e ∈ l, plainP e := by
  rw [whyE_eq] at h
  by_cases h1 : (l.map (·.path)).all okPath = false
  · rw [if_pos h1] at h; cases h
  rw [if_neg h1] at h
  by_cases h2 : sortedB (l.map (·.path)) = false
  · rw [if_pos h2] at h; cases h
  rw [if_neg h2] at h
  by_cases h3 : 1024 < l.length ∨ 4194304 < sumC l ∨ l.all (fun e => decide (e.size ≤ 1048576)) = false
  · rw [if_pos h3] at h; cases h
  rw [if_neg h3] at h
  by_cases h4 : l.all plainB = false
  · rw [if_pos h4] at h; cases h
  refine ⟨by simpa using h2, by omega, by omega, fun e he => ?_⟩
  have h5 : l.all plainB = true := by simpa using h4
  have := List.all_eq_true.1 h5 e he
  exact of_decide_eq_true this
theorem sumS_range : ∀ {l : List En}, (∀ e ∈ l, plainP e) → 0 ≤ sumS l ∧ sumS l ≤ 1048576 * l.length
  | [], _ => by simp [sumS]
  | e :: l, h => by
    have ih := sumS_range (l := l) (fun x hx => h x (List.mem_cons_of_mem _ hx))
    have he := h e List.mem_cons_self
    have : sumS (e :: l) = e.size + sumS l := by simp [sumS]
    obtain ⟨_, _, _, _, h5, h6, _⟩ := he
    rw [this, List.length_cons]
    omega

theorem fine1_any (e : En) (g : Nat) (a : Int) (ha : 0 ≤ a) (ha' : a ≤ 4294967296) (he : 0 ≤ e.size) (he' : e.size ≤ 4294967296) (B : Nat) (w : World) (hg : Own B (Bk g 3 #[.int .i64 a] * Emp) w) :
    Calls Tryd.prog 60 #[.agg (enL e).toArray, .pointer (some ⟨g, 0, none⟩)] w fun x w' => x = .returned (.bool (e.beg == a)) ∧ Own B (Bk g 3 #[.int .i64 (a + e.size)] * Emp) w' ∧ Below B w w' := by
  obtain ⟨path, kind, mode, time, tgt, beg, size⟩ := e
  simp only at he he'
  simp only [enL]
  have hk := hg.bk
  have hB : B ≤ w.heap.size := by omega
  have o1 := hg.alloc_keep hB (.cells #[.string (str path), .int .i64 kind, .int .i64 mode, .int .i64 time, .string (str tgt), .int .i64 beg, .int .i64 size] 71)
  have hb1 := (Below.refl B w).alloc hB (.cells #[.string (str path), .int .i64 kind, .int .i64 mode, .int .i64 time, .string (str tgt), .int .i64 beg, .int .i64 size] 71)
  have c0 := o1.cell 0
  have f0 := o1.unfrozen 0
  have o2 := o1.set (Nat.le_trans hB hb1.size) 0 (.int .i64 (a + size))
  have hb2 := hb1.trans (o1.below_set 0 (.int .i64 (a + size)))
  have hne : ¬ w.heap.size = g := by omega
  have hne2 : ¬ g = w.heap.size := by omega
  clear hg hk o1
  go_enter Tryd.func60, Tryd.ntmps60
  go_wp2
  go_ret
  exact ⟨rfl, o2, hb2⟩

set_option maxHeartbeats 1600000 in
theorem fine_any (A : Option Addr) (c : Nat) (l : List En) (hl : l.length ≤ 4294967296) (ok : ∀ e ∈ l, e.ok) (hx : ∀ e ∈ l, e.path.length ≤ 4294967280) (w : World) (h : Sh w) (hr : RdA 7 enL w A l) :
    Calls Tryd.prog 34 #[.slice A l.length c] w fun e w' => e = .returned (.bool (fineB l)) ∧ Below w.heap.size w w' := by
  have hb := Below.refl w.heap.size w
  have Hr := Lib.hid (fun w1 (b : Below w.heap.size w w1) => hr.below b)
  have Hr0 := Lib.hid hr
  have W1 := Lib.hid (why_any A c l hl ok hx w h hr)
  have Hf := Lib.hid (show fineB l = ((whyE l == 0) && begB 0 l) from rfl)
  by_cases h0 : whyE l = 0
  · obtain ⟨_, hl2, _, hp⟩ := whyE_zero h0
    have Hp := Lib.hid hp
    have hB0 : Hid (∀ r, (r = true ↔ ∀ i, i < l.length → ((l.getD i default).beg == sumS (l.take i)) = true) → r = fineB l) := Lib.hid (fun r hr => by
      rw [Hf.out, h0, Bool.eq_iff_iff, hr]
      simp only [beq_self_eq_true, Bool.true_and]
      rw [begB_index]
      constructor
      · intro h i hi
        have := h i hi
        rw [beq_iff_eq] at this
        rw [Int.zero_add, ← this]; simp [hi]
      · intro h i hi
        have := h i hi
        rw [Int.zero_add] at this
        rw [beq_iff_eq, ← this]; simp [hi])
    have A1 := Lib.hid (fun (g : Nat) (W : World) (b : Below w.heap.size w W) (ho : Own w.heap.size (Bk g 3 #[.int .i64 0] * Emp) W) =>
      all_any 60 (fun _ _ => by kernel_rfl) #[.pointer (some ⟨g, 0, none⟩)] (fun i W => Own w.heap.size (Bk g 3 #[.int .i64 (sumS (l.take i))] * Emp) W) (fun i => (l.getD i default).beg == sumS (l.take i)) A c l (by omega) w W b Hr0.out (by simpa [sumS] using ho)
        (fun i W o h => h.alloc_keep (by have := h.bk; omega) o) (fun i hi W hb hI => by
          have hg : l.getD i default = l[i] := by simp [hi]
          have hs1 := sumS_range (l := l.take i) (fun e he => Hp.out e (List.mem_of_mem_take he))
          have hz := Hp.out _ (List.getElem_mem hi)
          obtain ⟨_, _, _, _, h5, h6, _⟩ := hz
          have hlt : (l.take i).length ≤ 1024 := by rw [List.length_take]; omega
          rw [hg]
          refine (fine1_any l[i] g (sumS (l.take i)) hs1.1 (by omega) h5 (by omega) w.heap.size W hI).mono ?_
          rintro e W' ⟨rfl, ho, hb'⟩
          refine ⟨rfl, fun _ => ?_, hb'⟩
          rw [List.take_succ_eq_append_getElem hi, sumS_snoc]
          exact ho))
    rw [h0] at W1
    clear h hr h0 hl2 hp Hf Hp
    go_enter Tryd.func34, Tryd.ntmps34
    go_wp2_with fail
    refine W1.out.mono ?_
    rintro e w1 ⟨rfl, b1⟩
    have o1 := (Own.start w.heap.size w1).new b1.size 3 #[.int .i64 0]
    have hb1 := b1.alloc b1.size (.cells #[.int .i64 0] 3)
    clear b1
    go_wp2_with fail
    refine (A1.out _ _ hb1 o1).mono ?_
    rintro e w2 ⟨rfl, b2⟩
    have hf2 := hB0.out _ allB_true
    rw [hf2]
    clear hB0 hf2 A1 o1 hb1
    go_wp2
    go_ret
    exact ⟨rfl, b2⟩
  · have h0' : (whyE l == 0) = false := by simpa using h0
    have Hf2 : Hid (fineB l = false) := Lib.hid (by rw [Hf.out, h0']; rfl)
    clear h hr Hf h0
    generalize whyE l = z at *
    have h0 : ¬ z = 0 := by simpa using h0'
    go_enter Tryd.func34, Tryd.ntmps34
    go_wp2_with fail
    refine W1.out.mono ?_
    rintro e w1 ⟨rfl, b1⟩
    go_wp2
    go_ret
    exact ⟨by rw [Hf2.out]; rfl, b1⟩
end Go.Proofs.YtmppagiaonbggaaDoor

/- Package entry: the walks over Total, Find and Within. -/
namespace Go.Proofs.YtmppagiaonbggaaDoor
set_option linter.unusedVariables false
set_option linter.unusedSimpArgs false
set_option maxRecDepth 100000
open Go.RowKit

theorem fineB_true {l : List En} (h : fineB l = true) : whyE l = 0 ∧ ∀ i (hi : i < l.length), l[i].beg = sumS (l.take i) := by
  unfold fineB at h
  rw [Bool.and_eq_true, beq_iff_eq, begB_index] at h
  exact ⟨h.1, fun i hi => by have := h.2 i hi; rw [Int.zero_add] at this; exact this⟩
theorem fine_bounds {l : List En} (h : fineB l = true) (i : Nat) (hi : i < l.length) : 0 ≤ l[i].beg ∧ l[i].beg ≤ 1073741824 ∧ 0 ≤ l[i].size ∧ l[i].size ≤ 1048576 := by
  obtain ⟨h1, h2⟩ := fineB_true h
  obtain ⟨_, hl, _, hp⟩ := whyE_zero h1
  have hs := sumS_range (l := l.take i) (fun e he => hp e (List.mem_of_mem_take he))
  have hlt : (l.take i).length ≤ 1024 := by rw [List.length_take]; omega
  obtain ⟨_, _, _, _, h5, h6, _⟩ := hp _ (List.getElem_mem hi)
  rw [h2 i hi]
  exact ⟨hs.1, by omega, h5, h6⟩
def totalE (l : List En) : Int := if fineB l then sumS l else 0
theorem totalE_last {l : List En} {m : Nat} (h : fineB l = true) (hm : l.length = m + 1) : totalE l = (l[m]'(by omega)).beg + (l[m]'(by omega)).size := by
  unfold totalE
  rw [if_pos h, (fineB_true h).2 m (by omega), ← sumS_snoc, ← List.take_succ_eq_append_getElem (by omega), ← hm, List.take_length]

set_option maxHeartbeats 1600000 in
theorem total_any (A : Option Addr) (c : Nat) (l : List En) (hl : l.length ≤ 4294967296) (ok : ∀ e ∈ l, e.ok) (hx : ∀ e ∈ l, e.path.length ≤ 4294967280) (w : World) (h : Sh w) (hr : RdA 7 enL w A l) :
    Calls Tryd.prog 25 #[.slice A l.length c] w fun e w' => e = .returned (.int .i64 (totalE l)) ∧ Below w.heap.size w w' := by
  have F := Lib.hid (fine_any A c l hl ok hx w h hr)
  have Hr := Lib.hid (fun w1 (b : Below w.heap.size w w1) => hr.below b)
  have n1 : (l.length : Int) ≤ 4294967296 := by omega
  cases hf : fineB l with
  | false =>
    rw [hf] at F
    have Ht : Hid (totalE l = 0) := Lib.hid (by unfold totalE; rw [hf]; rfl)
    clear hf h hr
    by_cases h0 : l.length = 0
    · have h0' : ((l.length : Int) == 0) = true := by rw [h0]; rfl
      have h0n : (l.length == 0) = true := by simpa using h0
      clear h0
      go_enter Tryd.func25, Tryd.ntmps25
      go_wp2
      go_ret
      exact ⟨by rw [Ht.out]; rfl, Below.refl _ _⟩
    · have h0' : ((l.length : Int) == 0) = false := by rw [beq_eq_false_iff_ne]; omega
      have h0n : (l.length == 0) = false := by simpa using h0
      go_enter Tryd.func25, Tryd.ntmps25
      go_wp2_with fail
      refine F.out.mono ?_
      rintro e w1 ⟨rfl, b1⟩
      go_wp2
      go_ret
      exact ⟨by rw [Ht.out]; rfl, b1⟩
  | true =>
    rw [hf] at F
    by_cases h0 : l.length = 0
    · have h0' : ((l.length : Int) == 0) = true := by rw [h0]; rfl
      have h0n : (l.length == 0) = true := by simpa using h0
      have Ht : Hid (totalE l = 0) := Lib.hid (by
        unfold totalE; rw [hf]
        obtain rfl := List.eq_nil_of_length_eq_zero h0
        rfl)
      clear h0 hf h hr
      go_enter Tryd.func25, Tryd.ntmps25
      go_wp2
      go_ret
      exact ⟨by rw [Ht.out]; rfl, Below.refl _ _⟩
    · obtain ⟨m, hm⟩ : ∃ m, l.length = m + 1 := ⟨l.length - 1, by omega⟩
      have Ht := Lib.hid (totalE_last hf hm)
      have hbd := fine_bounds hf m (by omega)
      have h0' : ((m : Int) + 1 == 0) = false := by simp; omega
      have hm0 : (0 : Int) ≤ (m : Int) := by omega
      have hm1 : (m : Int) < (m : Int) + 1 := by omega
      have hm2 : (m : Int) ≤ 4294967296 := by omega
      have Hr2 := Lib.hid (fun w1 b => Hr.out w1 b m (by omega))
      rw [hm] at F n1 ⊢
      clear hf h hr h0 Hr
      generalize l[m] = x at *
      clear hm
      obtain ⟨path, kind, mode, time, tgt, beg, size⟩ := x
      simp only at hbd Ht
      obtain ⟨z1, z2, z3, z4⟩ := hbd
      go_enter Tryd.func25, Tryd.ntmps25
      go_wp2_with fail
      refine F.out.mono ?_
      rintro e w1 ⟨rfl, b1⟩
      obtain ⟨b, off, rfl, q, d⟩ := Hr2.out w1 b1
      obtain ⟨d0, d1, d2, d3, d4, d5, d6⟩ := RdA.cells7 d
      simp only at d0 d1 d2 d3 d4 d5 d6
      clear d Hr2
      have hb1 := b1.alloc b1.size (.cells #[.string (str path), .int .i64 kind, .int .i64 mode, .int .i64 time, .string (str tgt), .int .i64 beg, .int .i64 size] 71)
      go_wp2
      go_ret
      exact ⟨by rw [Ht.out]; rfl, hb1⟩

def findE (l : List En) (p : List UInt8) : Option En := l.find? (fun e => decide (e.path = p))
def FindP (w : World) (r : Option En) (e : Ending) (w' : World) : Prop := e = .returned (.tuple #[.agg (enL (r.getD default)).toArray, .bool r.isSome]) ∧ Below w.heap.size w w'

def withinE (l : List En) (n : Int) : List En := if fineB l then l.takeWhile (fun e => decide (e.beg + e.size ≤ n)) else []
theorem takeWhile_take {α : Type} (q : α → Bool) : ∀ (l : List α) (i : Nat), (∀ x ∈ l.take i, q x = true) → l.takeWhile q = l.take i ++ (l.drop i).takeWhile q
  | l, 0, _ => by simp
  | [], i + 1, _ => by simp
  | a :: l, i + 1, h => by
    have h1 : q a = true := h a (by simp)
    rw [List.takeWhile_cons, if_pos h1, takeWhile_take q l i (fun x hx => h x (by simp [hx]))]
    simp

end Go.Proofs.YtmppagiaonbggaaDoor
