/- Texts of one proof, merged: XSl XLaw XQ1 XQ2 XQ3 XZs XE0 XQ4. -/
import Derived.WalkKit
import Derived.Below
import Derived.Laws.OwnMore
import Derived.Deep.Draws
import Derived.Maps.AppendAt
import Derived.Deep.AppendLies
import Derived.Deep.Slices
import Derived.ProofKit
import Derived.SizedLaws
import Derived.OpenShut
import Derived.ChangeOld
import Derived.Lib.SplitLaws
import Derived.Lib.LastIndexByte
import Derived.Test.YtmppagiaonbggaaDoorProg
import Derived.BigQuiet
import Derived.RowKit
import Derived.KernelRfl
import Derived.Deep.LoopGhost
import Derived.Lib.Hide
import Derived.Laws.RangeAny
import Derived.Laws.RangeString
import Derived.Test.YtmppagiaonbggaaDoorShelf
import Derived.Laws.Rows
import Derived.ChangeAgain
import Derived.Test.YtmppagiaonbggaaDoorRows
import Derived.Test.YtmppagiaonbggaaDoorCards
import Derived.Test.YtmppagiaonbggaaDoorTie
import Derived.Deep.DeepHandedRow
import Derived.Deep.DeepWitnessRowRef
import Derived.Lib.LaidIn
import Derived.SevenTiedAt
import Derived.Carry
import Derived.ChangeMaps
/- Separation-style words for the heap: what a call owns, and what it leaves alone. -/
namespace Go.Proofs.YtmppagiaonbggaaDoor
set_option linter.unusedVariables false
set_option linter.unusedSimpArgs false
set_option maxRecDepth 100000
open Go.RowKit

/-- A heap predicate: of a world, and of the blocks that it speaks of. -/
def HP := World → (Nat → Prop) → Prop

/-- What it says hangs on its own blocks, and on those below B, alone; and on no block that is not there. -/
class Loc (B : Nat) (R : HP) : Prop where
  keep : ∀ (w w' : World) (F : Nat → Prop), (∀ k, F k → w'.heap[k]? = w.heap[k]?) → (∀ k, k < B → w'.heap[k]? = w.heap[k]?) → R w F → R w' F
  up : ∀ (w : World) (F F' : Nat → Prop), (∀ k, F k → F' k) → R w F → R w F'

def Sep (A C : HP) : HP := fun w F => ∃ F1 F2 : Nat → Prop, (∀ k, F1 k → ¬ F2 k) ∧ (∀ k, F1 k → F k) ∧ (∀ k, F2 k → F k) ∧ A w F1 ∧ C w F2
instance : Mul HP := ⟨Sep⟩

def Emp : HP := fun _ _ => True
/-- A fact that no memory bears on. -/
def Fact (p : Prop) : HP := fun _ _ => p
def Hex {α : Type} (A : α → HP) : HP := fun w F => ∃ x, A x w F
/-- A block that is known whole. -/
def Bk (g : Nat) (t : TypeId) (cs : Array Value) : HP := fun w F => F g ∧ w.heap[g]? = some (.cells cs t (0, 0))
/-- A slice that owns its array: nil, or at the head of a block. -/
def Rw (e : TypeId) (size : Nat) (v : Value) (n : Nat) (xs : List Value) : HP := fun w F => w.ownsRow 0 e size v n xs ∧ ∀ k, v.ownBlock = some k → F k

instance Loc.sep {B : Nat} {A C : HP} [a : Loc B A] [c : Loc B C] : Loc B (A * C) where
  keep := fun w w' F h hb ⟨F1, F2, hd, h1, h2, ha, hc⟩ => ⟨F1, F2, hd, h1, h2, a.keep w w' F1 (fun k hk => h k (h1 k hk)) hb ha, c.keep w w' F2 (fun k hk => h k (h2 k hk)) hb hc⟩
  up := fun w F F' h ⟨F1, F2, hd, h1, h2, ha, hc⟩ => ⟨F1, F2, hd, fun k hk => h k (h1 k hk), fun k hk => h k (h2 k hk), ha, hc⟩
instance Loc.emp {B : Nat} : Loc B Emp := ⟨fun _ _ _ _ _ h => h, fun _ _ _ _ h => h⟩
instance Loc.fact {B : Nat} {p : Prop} : Loc B (Fact p) := ⟨fun _ _ _ _ _ h => h, fun _ _ _ _ h => h⟩
instance Loc.hex {B : Nat} {α : Type} {A : α → HP} [h : ∀ x, Loc B (A x)] : Loc B (Hex A) where
  keep := fun w w' F h1 h2 ⟨x, hx⟩ => ⟨x, (h x).keep w w' F h1 h2 hx⟩
  up := fun w F F' h1 ⟨x, hx⟩ => ⟨x, (h x).up w F F' h1 hx⟩
instance Loc.bk {B g : Nat} {t : TypeId} {cs : Array Value} : Loc B (Bk g t cs) where
  keep := fun _ _ _ h _ ⟨hf, hg⟩ => ⟨hf, (h g hf).trans hg⟩
  up := fun _ _ _ h ⟨hf, hg⟩ => ⟨h g hf, hg⟩
theorem ownsRow_of {w w' : World} {e : TypeId} {size : Nat} {v : Value} {n : Nat} {xs : List Value} (h : w.ownsRow 0 e size v n xs) (hk : ∀ k, v.ownBlock = some k → w'.heap[k]? = w.heap[k]?) : w'.ownsRow 0 e size v n xs := by
  refine ⟨h.1, ?_⟩
  rcases h.2 with hn | ⟨g, cap, cur, rfl, hb, hg, r⟩
  · exact .inl hn
  · exact .inr ⟨g, cap, cur, rfl, hb, by rw [hk g (by simp [Value.ownBlock])]; exact hg, r⟩
instance Loc.rw {B : Nat} {e : TypeId} {size : Nat} {v : Value} {n : Nat} {xs : List Value} : Loc B (Rw e size v n xs) where
  keep := fun _ _ _ h _ ⟨ho, hf⟩ => ⟨ownsRow_of ho fun k hk => h k (hf k hk), hf⟩
  up := fun _ _ _ h ⟨ho, hf⟩ => ⟨ho, fun k hk => h k (hf k hk)⟩

theorem sep_comm (A C : HP) : (A * C) = (C * A) := by
  funext w F
  apply propext
  exact ⟨fun ⟨F1, F2, hd, h1, h2, a, c⟩ => ⟨F2, F1, fun k hk hk' => hd k hk' hk, h2, h1, c, a⟩, fun ⟨F1, F2, hd, h1, h2, a, c⟩ => ⟨F2, F1, fun k hk hk' => hd k hk' hk, h2, h1, c, a⟩⟩
theorem sep_assoc (A C D : HP) : ((A * C) * D) = (A * (C * D)) := by
  funext w F
  apply propext
  constructor
  · rintro ⟨F12, F3, hd, h1, h2, ⟨F1, F2, hd', h1', h2', a, c⟩, d⟩
    exact ⟨F1, fun k => F2 k ∨ F3 k, fun k hk hk' => hk'.elim (hd' k hk) (hd k (h1' k hk)), fun k hk => h1 k (h1' k hk), fun k hk => hk.elim (fun h => h1 k (h2' k h)) (h2 k), a,
      F2, F3, fun k hk => hd k (h2' k hk), fun k hk => .inl hk, fun k hk => .inr hk, c, d⟩
  · rintro ⟨F1, F23, hd, h1, h2, a, F2, F3, hd', h1', h2', c, d⟩
    exact ⟨fun k => F1 k ∨ F2 k, F3, fun k hk hk' => hk.elim (fun h => hd k h (h2' k hk')) (fun h => hd' k h hk'), fun k hk => hk.elim (h1 k) (fun h => h2 k (h1' k h)), fun k hk => h2 k (h2' k hk),
      ⟨F1, F2, fun k hk hk' => hd k hk (h1' k hk'), fun k hk => .inl hk, fun k hk => .inr hk, a, c⟩, d⟩
instance : Std.Commutative (α := HP) (· * ·) := ⟨sep_comm⟩
instance : Std.Associative (α := HP) (· * ·) := ⟨sep_assoc⟩
theorem sep_left_comm (A C D : HP) : (A * (C * D)) = (C * (A * D)) := by rw [← sep_assoc, sep_comm A C, sep_assoc]

/-- WHAT IS OWNED, OF ALL BLOCKS FROM B ON. -/
def Own (B : Nat) (A : HP) (w : World) : Prop := ∃ F : Nat → Prop, (∀ k, F k → B ≤ k ∧ k < w.heap.size) ∧ A w F

section
variable {B : Nat} {A C R : HP} {w w' : World}

theorem Own.mono (h : Own B A w) (hm : ∀ w F, A w F → C w F) : Own B C w := let ⟨F, hf, ha⟩ := h; ⟨F, hf, hm w F ha⟩
theorem Own.cast (h : Own B A w) (e : A = C) : Own B C w := e ▸ h
theorem Own.swap (h : Own B (A * C) w) : Own B (C * A) w := h.cast (sep_comm _ _)
theorem Own.assoc (h : Own B ((A * C) * R) w) : Own B (A * (C * R)) w := h.cast (sep_assoc _ _ _)
theorem Own.assoc' (h : Own B (A * (C * R)) w) : Own B ((A * C) * R) w := h.cast (sep_assoc _ _ _).symm
theorem Own.drop [Loc B C] (h : Own B (A * C) w) : Own B C w := let ⟨F, hf, F1, F2, hd, h1, h2, ha, hc⟩ := h; ⟨F2, fun k hk => hf k (h2 k hk), hc⟩
theorem Own.left (h : Own B (A * C) w) : Own B A w := let ⟨F, hf, F1, F2, hd, h1, h2, ha, hc⟩ := h; ⟨F1, fun k hk => hf k (h1 k hk), ha⟩
theorem Own.right (h : Own B (A * C) w) : Own B C w := let ⟨F, hf, F1, F2, hd, h1, h2, ha, hc⟩ := h; ⟨F2, fun k hk => hf k (h2 k hk), hc⟩
theorem Own.emp (h : Own B R w) : Own B (Emp * R) w := let ⟨F, hf, hr⟩ := h; ⟨F, hf, fun _ => False, F, fun _ h => h.elim, fun _ h => h.elim, fun _ h => h, trivial, hr⟩
theorem Own.start (B : Nat) (w : World) : Own B Emp w := ⟨fun _ => False, fun _ h => h.elim, trivial⟩
theorem Own.fact {p : Prop} (hp : p) (h : Own B R w) : Own B (Fact p * R) w := let ⟨F, hf, hr⟩ := h; ⟨F, hf, fun _ => False, F, fun _ h => h.elim, fun _ h => h.elim, fun _ h => h, hp, hr⟩
theorem Own.fact_out {p : Prop} (h : Own B (Fact p * R) w) : p := let ⟨_, _, _, _, _, _, _, hp, _⟩ := h; hp
theorem Own.hex {α : Type} {A : α → HP} (h : Own B (Hex A * R) w) : ∃ x, Own B (A x * R) w := let ⟨F, hf, F1, F2, hd, h1, h2, ⟨x, ha⟩, hc⟩ := h; ⟨x, F, hf, F1, F2, hd, h1, h2, ha, hc⟩
theorem Own.to_hex {α : Type} {A : α → HP} (x : α) (h : Own B (A x * R) w) : Own B (Hex A * R) w := let ⟨F, hf, F1, F2, hd, h1, h2, ha, hc⟩ := h; ⟨F, hf, F1, F2, hd, h1, h2, ⟨x, ha⟩, hc⟩

/-- A world in which no block that was there has turned. -/
theorem Own.grow [Loc B A] (h : Own B A w) (hs : w.heap.size ≤ w'.heap.size) (hk : ∀ k, k < w.heap.size → w'.heap[k]? = w.heap[k]?) (hB : B ≤ w.heap.size) : Own B A w' := by
  obtain ⟨F, hf, ha⟩ := h
  exact ⟨F, fun k hk' => ⟨(hf k hk').1, Nat.lt_of_lt_of_le (hf k hk').2 hs⟩, Loc.keep (B := B) w w' F (fun k hk' => hk k (hf k hk').2) (fun k hk' => hk k (by omega)) ha⟩
theorem Own.drew (h : Own B A w) [Loc B A] (hB : B ≤ w.heap.size) : Own B A w.drew := h.grow (w' := w.drew) (Nat.le_refl _) (fun _ _ => rfl) hB
theorem Own.drewN (h : Own B A w) [Loc B A] (hB : B ≤ w.heap.size) (n : Nat) : Own B A (w.drewN n) := h.grow (w' := w.drewN n) (Nat.le_refl _) (fun _ _ => rfl) hB
theorem Own.grown (h : Own B A w) [Loc B A] (hB : B ≤ w.heap.size) (hb : Below w.heap.size w w') : Own B A w' := h.grow hb.size hb.block hB
theorem Own.alloc_keep (h : Own B A w) [Loc B A] (hB : B ≤ w.heap.size) (o : Obj) : Own B A (w.alloc o) := h.grow (by simp) (fun k hk => Below.heap_alloc w o k hk) hB

/-- The owned blocks, and the new ones, may turn; the rest R is as it was. -/
theorem Own.turn [Loc B R] {A' : HP} (hB : B ≤ w.heap.size) (h : Own B (A * R) w) (hs : w.heap.size ≤ w'.heap.size)
    (ht : ∀ F, (∀ k, F k → B ≤ k ∧ k < w.heap.size) → A w F → ∃ F' : Nat → Prop, (∀ k, F' k → F k ∨ (w.heap.size ≤ k ∧ k < w'.heap.size)) ∧ A' w' F' ∧ (∀ k, k < w.heap.size → ¬ F k → w'.heap[k]? = w.heap[k]?)) :
    Own B (A' * R) w' := by
  obtain ⟨F, hf, F1, F2, hd, h1, h2, ha, hr⟩ := h
  obtain ⟨F', hf', ha', hk⟩ := ht F1 (fun k hk => hf k (h1 k hk)) ha
  have hlt1 : ∀ k, F1 k → B ≤ k ∧ k < w.heap.size := fun k hk => hf k (h1 k hk)
  have hlt2 : ∀ k, F2 k → B ≤ k ∧ k < w.heap.size := fun k hk => hf k (h2 k hk)
  refine ⟨fun k => F' k ∨ F2 k, ?_, F', F2, ?_, fun k hk => .inl hk, fun k hk => .inr hk, ha', ?_⟩
  · intro k hk
    rcases hk with hk | hk
    · rcases hf' k hk with h | h
      · have := hlt1 k h; omega
      · omega
    · have := hlt2 k hk; omega
  · intro k hk hk2
    rcases hf' k hk with h | h
    · exact hd k h hk2
    · have := hlt2 k hk2; omega
  · refine Loc.keep (B := B) w w' F2 (fun k hk2 => hk k (hlt2 k hk2).2 (fun h => hd k h hk2)) (fun k hkB => hk k (by omega) (fun h => ?_)) hr
    have := hlt1 k h; omega

/-! blocks -/
theorem Own.bk {g : Nat} {t : TypeId} {cs : Array Value} (h : Own B (Bk g t cs * R) w) : w.heap[g]? = some (.cells cs t (0, 0)) ∧ B ≤ g ∧ g < w.heap.size := by
  obtain ⟨F, hf, F1, F2, hd, h1, h2, ⟨hg, hh⟩, hr⟩ := h
  exact ⟨hh, (hf g (h1 g hg)).1, (hf g (h1 g hg)).2⟩
theorem Own.cell {g : Nat} {t : TypeId} {cs : Array Value} (h : Own B (Bk g t cs * R) w) (i : Nat) : w.cell? ⟨g, i, none⟩ = cs[i]? := cell_of_row w g i cs t (0, 0) h.bk.1
theorem Own.unfrozen {g : Nat} {t : TypeId} {cs : Array Value} (h : Own B (Bk g t cs * R) w) (i : Nat) : w.frozen? ⟨g, i, none⟩ = false := by
  have := h.bk.1
  simp [World.frozen?, this]
theorem Own.set [Loc B R] {g : Nat} {t : TypeId} {cs : Array Value} (hB : B ≤ w.heap.size) (h : Own B (Bk g t cs * R) w) (i : Nat) (u : Value) : Own B (Bk g t (cs.setIfInBounds i u) * R) (w.setCell ⟨g, i, none⟩ u) := by
  refine Own.turn hB h (by simp [World.setCell]) fun F _ ⟨hF, hg⟩ => ⟨F, fun k hk => .inl hk, ⟨hF, ?_⟩, fun k _ hk => Below.heap_setCell _ _ _ _ (fun e => hk (by subst e; exact hF))⟩
  simp [World.setCell, Array.getElem?_modify, hg]
theorem Own.new [Loc B R] (hB : B ≤ w.heap.size) (h : Own B R w) (t : TypeId) (cs : Array Value) : Own B (Bk w.heap.size t cs * R) (w.alloc (.cells cs t)) := by
  refine Own.turn hB h.emp (by simp) fun F _ _ => ⟨fun k => k = w.heap.size, fun k hk => .inr (by simp; omega), ⟨rfl, heap_alloc_new w _⟩, fun k hk _ => Below.heap_alloc w _ k hk⟩
theorem Own.below_set {g : Nat} {t : TypeId} {cs : Array Value} (h : Own B (Bk g t cs * R) w) (i : Nat) (u : Value) : Below B w (w.setCell ⟨g, i, none⟩ u) := (Below.refl B w).setCell (p := ⟨g, i, none⟩) h.bk.2.1 u

/-! rows -/
theorem Own.rw_nil [Loc B R] (h : Own B R w) (e : TypeId) (size : Nat) : Own B (Rw e size (.slice none 0 0) 0 [] * R) w :=
  let ⟨F, hf, hr⟩ := h; ⟨F, hf, fun _ => False, F, fun _ h => h.elim, fun _ h => h.elim, fun _ h => h, ⟨World.ownsRow_nil w 0 e size, fun k hk => by simp [Value.ownBlock] at hk⟩, hr⟩
theorem Own.row {e : TypeId} {size : Nat} {v : Value} {n : Nat} {xs : List Value} (h : Own B (Rw e size v n xs * R) w) : w.ownsRow B e size v n xs := by
  obtain ⟨F, hf, F1, F2, hd, h1, h2, ⟨ho, hb⟩, hr⟩ := h
  refine ⟨ho.1, ?_⟩
  rcases ho.2 with hn | ⟨g, cap, cur, rfl, _, r⟩
  · exact .inl hn
  · exact .inr ⟨g, cap, cur, rfl, (hf g (h1 g (hb g (by simp [Value.ownBlock])))).1, r⟩
/-- Behind a law that ends in 'ownsRow' and 'grownBy' (append). -/
theorem Own.appended [Loc B R] {e : TypeId} {size : Nat} {v v' : Value} {n n' : Nat} {xs xs' : List Value} (hB : B ≤ w.heap.size) (h : Own B (Rw e size v n xs * R) w) (ho : w'.ownsRow B e size v' n' xs') (hg : w.grownBy w' v.ownBlock)
    (hat : v'.ownBlock = v.ownBlock ∨ v'.ownBlock = some w.heap.size) : Own B (Rw e size v' n' xs' * R) w' ∧ Below B w w' := by
  have hrow := h.row
  refine ⟨Own.turn hB h hg.size fun F hF ⟨_, hb⟩ => ⟨fun k => v'.ownBlock = some k, fun k hk => ?_, ⟨⟨ho.1, ?_⟩, fun k hk => hk⟩, fun k hk hn => hg.block k hk (fun e => hn (hb k e.symm))⟩, ?_⟩
  · rcases hat with e | e
    · exact .inl (hb k (e ▸ hk))
    · have : k = w.heap.size := by rw [e] at hk; injection hk with hk; exact hk.symm
      subst this
      exact .inr ⟨Nat.le_refl _, (ho.lt _ hk).2⟩
  · rcases ho.2 with hn | ⟨g, cap, cur, rfl, _, r⟩
    · exact .inl hn
    · exact .inr ⟨g, cap, cur, rfl, Nat.zero_le _, r⟩
  · exact (Below.refl B w).grown hg hB (fun k hk => (hrow.lt k hk).1)
/-- A row that is no nil, as a block. -/
theorem Own.rw_of_bk [Loc B R] {g : Nat} {t : TypeId} {cs : Array Value} {size n : Nat} (h : Own B (Bk g t cs * R) w) (hs : cs.size = n * size) (hn : n ≤ maxLen) : Own B (Rw t size (.slice (some ⟨g, 0, none⟩) n n) n cs.toList * R) w := by
  refine h.mono fun w F ⟨F1, F2, hd, h1, h2, ⟨hg, hh⟩, hr⟩ => ⟨F1, F2, hd, h1, h2, ⟨⟨by simpa using hs, .inr ⟨g, n, cs, rfl, Nat.zero_le _, hh, Nat.le_refl _, hn, hs, ?_⟩⟩, fun k hk => ?_⟩, hr⟩
  · rw [List.take_of_length_le (by simp [hs])]
  · simp [Value.ownBlock] at hk; subst hk; exact hg
end

/-- What stands while a statement of open order goes on: what is owned, and all below B as it was at w. -/
def St (B : Nat) (A : HP) (w w' : World) : Prop := B ≤ w'.heap.size ∧ Own B A w' ∧ Below B w w'
section
variable {B : Nat} {A : HP} {w w1 w2 : World}
theorem St.drew [Loc B A] (hB : B ≤ w.heap.size) (h : Own B A w) : St B A w w.drew := ⟨hB, h.drew hB, (Below.refl B w).drew⟩
theorem St.alloc [Loc B A] (h : St B A w w1) (o : Obj) : St B A w (w1.alloc o) := ⟨by have := h.1; simp; omega, h.2.1.alloc_keep h.1 o, h.2.2.alloc h.1 o⟩
theorem St.grown [Loc B A] (h : St B A w w1) (hb : Below w1.heap.size w1 w2) : St B A w w2 := ⟨Nat.le_trans h.1 hb.size, h.2.1.grown h.1 hb, h.2.2.trans (hb.mono h.1)⟩
end

/-- A row that the call made itself. -/
theorem Own.fresh {B : Nat} {R : HP} [Loc B R] {w w' : World} {e : TypeId} {size : Nat} {v : Value} {n : Nat} {xs : List Value} (hB : B ≤ w.heap.size) (h : Own B R w) (ho : w'.ownsRow w.heap.size e size v n xs) (hb : Below w.heap.size w w') : Own B (Rw e size v n xs * R) w' := by
  refine Own.turn hB h.emp hb.size fun F _ _ => ⟨fun k => v.ownBlock = some k, fun k hk => .inr (ho.lt k hk), ⟨⟨ho.1, ?_⟩, fun k hk => hk⟩, fun k hk _ => hb.block k hk⟩
  rcases ho.2 with hn | ⟨g, cap, cur, rfl, _, r⟩
  · exact .inl hn
  · exact .inr ⟨g, cap, cur, rfl, Nat.zero_le _, r⟩

/-- A slice value reads as these cells (each element one cell). -/
def Rd (w : World) (v : Value) (xs : List Value) : Prop := ∃ A c, v = .slice A xs.length c ∧ (xs ≠ [] → ∃ ad, A = some ad ∧ ∀ j u, xs[j]? = some u → w.cell? (ad.add j) = some u)
theorem add_block (a : Addr) (n : Nat) : (a.add n).block = a.block := by unfold Addr.add; split <;> rfl
theorem Rd.nil (w : World) : Rd w (.slice none 0 0) [] := ⟨none, 0, rfl, fun h => absurd rfl h⟩
theorem Rd.below {w w' : World} {v : Value} {xs : List Value} (h : Rd w v xs) (hb : Below w.heap.size w w') : Rd w' v xs := by
  obtain ⟨A, c, hv, hr⟩ := h
  refine ⟨A, c, hv, fun hne => ?_⟩
  obtain ⟨ad, ha, hc⟩ := hr hne
  exact ⟨ad, ha, fun j u hu => (hb.cell (World.block_lt_of_cell? w _ (hc j u hu))).trans (hc j u hu)⟩
theorem Rd.below' {w w' : World} {v : Value} {xs : List Value} {B : Nat} (h : Rd w v xs) (hlt : ∀ A n c, v = .slice (some A) n c → A.block < B) (hb : Below B w w') : Rd w' v xs := by
  obtain ⟨A, c, rfl, hr⟩ := h
  refine ⟨A, c, rfl, fun hne => ?_⟩
  obtain ⟨ad, rfl, hc⟩ := hr hne
  exact ⟨ad, rfl, fun j u hu => (hb.cell (by rw [add_block]; exact hlt _ _ _ rfl)).trans (hc j u hu)⟩
/-- An owned row reads as what it holds. -/
theorem Own.rd {B : Nat} {R : HP} {w : World} {e : TypeId} {v : Value} {n : Nat} {xs : List Value} (h : Own B (Rw e 1 v n xs * R) w) : Rd w v xs := by
  have hr := h.row
  have hl : xs.length = n := by have := hr.1; omega
  rcases hr.2 with ⟨rfl, hn⟩ | ⟨g, cap, cur, rfl, _⟩
  · subst hn
    obtain rfl : xs = [] := List.eq_nil_of_length_eq_zero hl
    exact Rd.nil w
  · exact ⟨_, cap, by rw [hl], fun _ => ⟨_, rfl, hr.cells (g := g) rfl⟩⟩
end Go.Proofs.YtmppagiaonbggaaDoor

/- The arguments of a law, as its walk wants them. -/
namespace Go.Proofs.YtmppagiaonbggaaDoor
set_option linter.unusedVariables false
set_option linter.unusedSimpArgs false
set_option maxRecDepth 100000
open Go.RowKit Go.Deep Go.ChangeShapes Go.WideShapes

section
variable {H : Type} {enc : TypeId × Value → H} {P : Program} {W : World} {base : Nat} {spare : Nat → Bool} {held : Bool}

/-- A slice of one-cell elements that came in, by what each element's own reading gives. -/
theorem rd_slice1 {α : Type} [Inhabited α] (f : α → Value) (ok : α → Prop) {t e : TypeId} {v : Value} {d : DataW H} {p : List MemPlace} (ht : P.underlying t = some (.slice e)) (hC : P.cellsOf e = 1)
    (hel : ∀ (fuel : Nat) (u : Value) (y : DataW H × List MemPlace), DataW.trod enc P W base spare held fuel e [u] = some y → ∃ a, u = f a ∧ ok a)
    (hv : ∃ A n c, v = .slice A n c) (h : DataW.Trod enc P W base spare held t v d p) : ∃ (A : Option Addr) (l : List α) (c : Nat), v = .slice A l.length c ∧ Rd W v (l.map f) ∧ l.length ≤ c ∧ c ≤ maxLen ∧ ∀ a ∈ l, ok a := by
  obtain ⟨A, n, c, rfl⟩ := hv
  obtain ⟨fuel, hf⟩ := h
  rcases open_slice1 ht hC hf with ⟨hcs, _⟩ | ⟨a, len, cap, m, k, V, D, Pl, hcs, hb, hl, hm, hmm, hx, hi⟩
  · simp [Value.cells] at hcs
    obtain ⟨rfl, rfl, rfl⟩ := hcs
    exact ⟨none, [], 0, rfl, Rd.nil W, Nat.le_refl _, by unfold maxLen; omega, by simp⟩
  · simp [Value.cells] at hcs
    obtain ⟨rfl, rfl, rfl⟩ := hcs
    have hlm : n ≤ m := by rw [hmm]; split <;> omega
    obtain ⟨g, hg⟩ := choose_lt (n := n) (p := fun i a => V i = f a ∧ ok a) (fun i hin => hel k (V i) _ (hi i (by omega)).2)
    refine ⟨some a, (List.range n).map g, c, by simp, ⟨some a, c, by simp, fun _ => ⟨a, rfl, fun j u hu => ?_⟩⟩, by simpa using hl, hm, ?_⟩
    · have hj : j < n := by
        have := (List.getElem?_eq_some_iff.1 hu).1
        simpa using this
      have e : (((List.range n).map g).map f)[j]? = some (f (g j)) := by simp [hj]
      rw [e] at hu
      injection hu with hu
      subst hu
      rw [(hi j (by omega)).1, (hg j hj).1]
    · intro x hx
      obtain ⟨i, hir, rfl⟩ := List.mem_map.1 hx
      exact (hg i (List.mem_range.1 hir)).2

theorem rd_bools {t e : TypeId} {v : Value} {d : DataW H} {p : List MemPlace} (ht : P.underlying t = some (.slice e)) (he : P.underlying e = some .bool) (hC : P.cellsOf e = 1)
    (hv : ∃ A n c, v = .slice A n c) (h : DataW.Trod enc P W base spare held t v d p) : ∃ (A : Option Addr) (l : List Bool) (c : Nat), v = .slice A l.length c ∧ Rd W v (l.map Value.bool) ∧ l.length ≤ c ∧ c ≤ maxLen ∧ ∀ a ∈ l, True :=
  rd_slice1 Value.bool (fun _ => True) ht hC (fun fuel u y hy => by
    obtain ⟨b, hb, _⟩ := DataW.trod_bool he hy
    exact ⟨b, by simpa using hb, trivial⟩) hv h
theorem rd_ints {k : IntKind} {t e : TypeId} {v : Value} {d : DataW H} {p : List MemPlace} (ht : P.underlying t = some (.slice e)) (he : P.underlying e = some (.int k)) (hC : P.cellsOf e = 1)
    (hv : ∃ A n c, v = .slice A n c) (h : DataW.Trod enc P W base spare held t v d p) : ∃ (A : Option Addr) (l : List Int) (c : Nat), v = .slice A l.length c ∧ Rd W v (l.map (Value.int k)) ∧ l.length ≤ c ∧ c ≤ maxLen ∧ ∀ a ∈ l, (Lit.int k a).wf = true :=
  rd_slice1 (Value.int k) (fun a => (Lit.int k a).wf = true) ht hC (fun fuel u y hy => by
    obtain ⟨n, hn, _, hw⟩ := DataW.trod_int he hy
    exact ⟨n, by simpa using hn, hw⟩) hv h
end
end Go.Proofs.YtmppagiaonbggaaDoor

/- A text cut at each slash: plain laws. -/
namespace Go.Proofs.YtmppagiaonbggaaDoor
set_option linter.unusedVariables false
set_option linter.unusedSimpArgs false
set_option maxRecDepth 100000

/-- The parts of a text between its slashes. -/
def psplit : List UInt8 → List (List UInt8)
  | [] => [[]]
  | c :: l => if c = 47 then [] :: psplit l else match psplit l with
    | [] => [[c]]
    | p :: ps => (c :: p) :: ps
theorem psplit_ne : ∀ l, psplit l ≠ []
  | [] => by simp [psplit]
  | c :: l => by
    unfold psplit
    split
    · simp
    · split <;> simp
theorem psplit_slash (l : List UInt8) : psplit (47 :: l) = [] :: psplit l := by rw [psplit, if_pos rfl]
theorem psplit_other {c : UInt8} (h : c ≠ 47) {l p : List UInt8} {ps : List (List UInt8)} (hl : psplit l = p :: ps) : psplit (c :: l) = (c :: p) :: ps := by
  rw [psplit, if_neg h, hl]

theorem split_psplit : ∀ s : List UInt8, Lib.splitK [47] 0 (Lib.count s [47]) s = psplit s
  | [] => by rw [Lib.count_one]; rfl
  | b :: l => by
    have ih := split_psplit l
    by_cases hb : b = 47
    · subst hb
      rw [psplit_slash, Lib.count_cons_eq, Nat.add_comm, ← ih]
      have hix : Lib.index ((47 : UInt8) :: l) [47] = 0 := by rw [Lib.index]; simp [List.isPrefixOf]
      conv => lhs; unfold Lib.splitK
      rw [hix]
      rw [if_neg (by decide)]
      rfl
    · have hp : ([47] : List UInt8).isPrefixOf (b :: l) = false := by simp [List.isPrefixOf, Ne.symm hb]
      have hix : Lib.index (b :: l) [47] = if Lib.index l [47] == -1 then -1 else Lib.index l [47] + 1 := by rw [Lib.index, hp]; simp
      rw [Lib.count_cons_ne b 47 l hb]
      cases hk : Lib.count l [47] with
      | zero =>
        rw [hk] at ih
        exact (psplit_other hb ih.symm).symm
      | succ k =>
        rw [hk] at ih
        have hm : Lib.index l [47] ≠ -1 := fun e => by rw [Lib.count_miss e] at hk; cases hk
        have hge := Lib.index_ge l [47]
        obtain ⟨j, hj⟩ : ∃ j : Nat, Lib.index l [47] = j := ⟨(Lib.index l [47]).toNat, by omega⟩
        have hne : ¬ (Lib.index l [47] == -1) = true := fun e => hm (beq_iff_eq.1 e)
        rw [if_neg hne, hj] at hix
        unfold Lib.splitK at ih ⊢
        rw [if_neg hne, hj] at ih
        rw [hix, if_neg (by simp; omega)]
        have e1 : ((j : Int) + 1).toNat = j + 1 := by omega
        have e2 : ((j : Nat) : Int).toNat = j := by omega
        rw [e2] at ih
        rw [e1]
        rw [psplit_other hb ih.symm]
        simp [List.take_succ_cons, List.drop_succ_cons, Nat.add_right_comm]

def str (l : List UInt8) : ByteArray := ⟨l.toArray⟩
theorem str_data (s : ByteArray) : str s.data.toList = s := rfl
theorem data_str (l : List UInt8) : (str l).data.toList = l := rfl
def slash : ByteArray := ⟨#[47]⟩
theorem splitB_psplit (s : ByteArray) : Lib.splitB slash 0 (Lib.countB s slash) s = (psplit s.data.toList).map str := by
  have h := Lib.splitB_data slash 0 (Lib.countB s slash) s
  have h2 : Lib.splitK slash.data.toList 0 (Lib.countB s slash) s.data.toList = psplit s.data.toList := split_psplit _
  rw [h2] at h
  rw [← h, List.map_map]
  have : (str ∘ fun b : ByteArray => b.data.toList) = id := rfl
  rw [this, List.map_id]
theorem countB_psplit (s : ByteArray) : Lib.countB s slash + 1 = (psplit s.data.toList).length := by
  have h := Lib.splitB_all slash (by decide) 0 (Lib.countB s slash) s rfl
  rw [splitB_psplit, List.length_map] at h
  exact h.symm
end Go.Proofs.YtmppagiaonbggaaDoor

/- The walk over what may be a part of a path. -/
namespace Go.Proofs.YtmppagiaonbggaaDoor
set_option linter.unusedVariables false
set_option linter.unusedSimpArgs false
set_option maxRecDepth 100000
open Go.RowKit

def okByte (c : UInt8) : Bool := decide (33 ≤ c.toNat) && decide (c.toNat ≤ 126) && decide (c.toNat ≠ 92)
/-- May a text be a part? -/
def okPart (l : List UInt8) : Bool := l.all okByte && decide (1 ≤ l.length) && decide (l.length ≤ 64) && decide (l ≠ [46]) && decide (l ≠ [46, 46])

theorem all_get {s : ByteArray} (h : ∀ j (hj : j < s.size), okByte s[j] = true) : s.data.toList.all okByte = true := by
  rw [List.all_eq_true]
  intro c hc
  obtain ⟨i, hi, rfl⟩ := List.mem_iff_getElem.1 hc
  exact h i (by simpa using hi)
theorem not_all_get {s : ByteArray} (j : Nat) (hj : j < s.size) (h : okByte s[j] = false) : s.data.toList.all okByte = false := by
  rw [List.all_eq_false]
  refine ⟨s[j], ?_, by simp [h]⟩
  exact List.mem_iff_getElem.2 ⟨j, by simpa using hj, rfl⟩
theorem okPart_bad {l : List UInt8} (h : l.all okByte = false) : okPart l = false := by unfold okPart; rw [h]; rfl

set_option maxHeartbeats 1600000 in
theorem part_any (s : ByteArray) (hs : s.size ≤ 9223372036854775807) (w : World) : Calls Tryd.prog 73 #[.string s] w fun e w' => e = .returned (.bool (okPart s.data.toList)) ∧ Below w.heap.size w w' := by
  have hit := fun pos => (Below.refl w.heap.size w).alloc (Nat.le_refl _) (.stringIter s pos)
  have Hit : Hid (∀ pos, Below w.heap.size w (w.iter s pos)) := Lib.hid hit
  clear hit
  have hsz : (s.size : Int) ≤ 9223372036854775807 := by omega
  go_enter Tryd.func73, Tryd.ntmps73
  go_wp2
  go_loopg [] s.size (fun k wr => ∃ pos, pos + k = s.size ∧ wr = w.iter s pos ∧ Hid (∀ j (hj : j < s.size), j < pos → okByte s[j] = true))
  case atStart => exact ⟨0, by omega, rfl, Lib.hid (fun j hj h => by omega)⟩
  case round =>
    obtain ⟨pos, hk, rfl, hgood⟩ := hrel
    by_cases hk0 : gk = 0
    · subst hk0
      have hn := fun ty => run_next_end (P := Tryd.prog) w s pos ty (by omega)
      have hall := all_get (s := s) (fun j hj => hgood.out j hj (by omega))
      have hlen : s.data.toList.length = s.size := rfl
      have hfin : okPart s.data.toList = (decide (1 ≤ s.size) && decide (s.size ≤ 64) && !decide (s.toList = [46]) && !decide (s.toList = [46, 46])) := by
        unfold okPart
        rw [hall, hlen, ByteArray.toList_eq]
        simp only [ne_eq, Bool.true_and, decide_not]
      have Hfin := Lib.hid hfin
      clear hfin hall hlen
      by_cases h1 : 1 ≤ (s.size : Int)
      · by_cases h2 : (s.size : Int) ≤ 64
        · by_cases h3 : s.toList = [46]
          · have Hf : Hid (okPart s.data.toList = false) := Lib.hid (by rw [Hfin.out, decide_eq_true h3]; simp)
            go_wp2
            go_ret
            exact ⟨by rw [Hf.out]; rfl, Hit.out _⟩
          · by_cases h4 : s.toList = [46, 46]
            · have Hf : Hid (okPart s.data.toList = false) := Lib.hid (by rw [Hfin.out, decide_eq_true h4]; simp)
              go_wp2
              go_ret
              exact ⟨by rw [Hf.out]; rfl, Hit.out _⟩
            · have Hf : Hid (okPart s.data.toList = true) := Lib.hid (by rw [Hfin.out, decide_eq_true (show 1 ≤ s.size by omega), decide_eq_true (show s.size ≤ 64 by omega), decide_eq_false h3, decide_eq_false h4]; rfl)
              have h3' : (s.toList == [46]) = false := by simpa using h3
              have h4' : (s.toList == [46, 46]) = false := by simpa using h4
              go_wp2
              go_ret
              refine ⟨?_, Hit.out _⟩
              rw [Hf.out]
              first
                | rfl
                | (show Ending.returned (.bool (!(s.toList == [46]) && !(s.toList == [46, 46]))) = _
                   simp [h3, h4])
        · have Hf : Hid (okPart s.data.toList = false) := Lib.hid (by rw [Hfin.out, decide_eq_false (show ¬ s.size ≤ 64 by omega)]; simp)
          go_wp2
          go_ret
          exact ⟨by rw [Hf.out]; rfl, Hit.out _⟩
      · have Hf : Hid (okPart s.data.toList = false) := Lib.hid (by rw [Hfin.out, decide_eq_false (show ¬ 1 ≤ s.size by omega)]; rfl)
        go_wp2
        go_ret
        exact ⟨by rw [Hf.out]; rfl, Hit.out _⟩
    · obtain ⟨j, rfl⟩ : ∃ j, gk = j + 1 := ⟨gk - 1, by omega⟩
      have hlt : pos < s.size := by omega
      have hge := decode_high s pos hlt
      have hasc := decode_ascii s pos hlt
      by_cases hb : okByte s[pos] = true
      · have hb' := hb
        simp only [okByte, Bool.and_eq_true, decide_eq_true_eq] at hb'
        have hn := fun ty => run_next_ascii (P := Tryd.prog) w s pos ty hlt (by omega)
        obtain ⟨c, hc⟩ : ∃ c : Nat, (s[pos]'hlt).toNat = c := ⟨_, rfl⟩
        rw [hc] at hb' hn
        clear hge hasc
        have c0 : ¬ (c : Int) < 33 := by omega
        have c1 : ¬ 126 < (c : Int) := by omega
        have c2 : ((c : Int) == 92) = false := by simp; omega
        have hgood2 : Hid (∀ j (hj : j < s.size), j < pos + 1 → okByte s[j] = true) := Lib.hid (fun j' hj hlt' => by
          by_cases h : j' = pos
          · subst h; exact hb
          · exact hgood.out j' hj (by omega))
        clear hc hb
        go_wp2
        go_roundg j
        case measure => omega
        case rel => exact ⟨pos + 1, by omega, rfl, hgood2⟩
      · have hbad : okPart s.data.toList = false := okPart_bad (not_all_get pos hlt (by simpa using hb))
        have hn := fun ty => run_next_any (P := Tryd.prog) w s pos ty hlt
        have hle := decode_le s pos
        obtain ⟨c, hc⟩ : ∃ c : Nat, (s[pos]'hlt).toNat = c := ⟨_, rfl⟩
        simp only [okByte, hc, Bool.and_eq_true, decide_eq_true_eq] at hb
        rw [hc] at hge hasc
        have hcase : (Utf8.decode s pos).1 < 33 ∨ (¬ (Utf8.decode s pos).1 < 33 ∧ 126 < (Utf8.decode s pos).1) ∨ (Utf8.decode s pos).1 = 92 := by
          by_cases ha : c < 128
          · rw [hasc ha]
            show c < 33 ∨ (¬ c < 33 ∧ 126 < c) ∨ c = 92
            omega
          · have := (hge (by omega)).1
            right; left
            omega
        have Hbad := Lib.hid hbad
        clear hge hasc hb hc hbad
        generalize (Utf8.decode s pos).1 = r at hcase hn hle
        generalize (Utf8.decode s pos).2 = d at hn
        rcases hcase with h | ⟨h, h'⟩ | h
        · have c0 : (r : Int) < 33 := by omega
          go_wp2
          go_ret
          exact ⟨by rw [Hbad.out]; rfl, Hit.out _⟩
        · have c0 : ¬ (r : Int) < 33 := by omega
          have c1 : (126 : Int) < (r : Int) := by omega
          go_wp2
          go_ret
          exact ⟨by rw [Hbad.out]; rfl, Hit.out _⟩
        · subst h
          go_wp2
          go_ret
          exact ⟨by rw [Hbad.out]; rfl, Hit.out _⟩
end Go.Proofs.YtmppagiaonbggaaDoor

/- The walks over the search for a text that may be no part, and over what may be a path. -/
namespace Go.Proofs.YtmppagiaonbggaaDoor
set_option linter.unusedVariables false
set_option linter.unusedSimpArgs false
set_option maxRecDepth 100000
open Go.RowKit

/-- Texts as a slice's cells hold them. -/
def RdS (W : World) (A : Option Addr) (l : List (List UInt8)) : Prop := ∀ i (h : i < l.length), ∃ b off, A = some ⟨b, off, none⟩ ∧ W.cell? ⟨b, off + i, none⟩ = some (.string (str l[i]))
theorem RdS.below {W W' : World} {A : Option Addr} {l : List (List UInt8)} (h : RdS W A l) (hb : Below W.heap.size W W') : RdS W' A l := fun i hi => by
  obtain ⟨b, off, ha, hc⟩ := h i hi
  exact ⟨b, off, ha, (hb.cell (World.block_lt_of_cell? W _ hc)).trans hc⟩

theorem not_any (s : ByteArray) (hs : s.size ≤ 9223372036854775807) (w : World) : Calls Tryd.prog 72 #[.string s] w fun e w' => e = .returned (.bool (!okPart s.data.toList)) ∧ Below w.heap.size w w' := by
  go_enter Tryd.func72, Tryd.ntmps72
  go_wp2_with (go_at_call 73; refine (part_any s hs _).mono ?_; rintro e w1 ⟨rfl, b1⟩)
  go_ret
  exact ⟨rfl, b1⟩

set_option maxHeartbeats 800000 in
theorem indexFunc_any (A : Option Addr) (c : Nat) (l : List (List UInt8)) (hl : l.length ≤ 4294967296) (hx : ∀ x ∈ l, x.length ≤ 4294967296) (w : World) (hr : RdS w A l) :
    Calls Tryd.prog 80 #[.slice A l.length c, .func (.func 72) #[] #[]] w fun e w' => ∃ r : Int, e = .returned (.int .i64 r) ∧ -1 ≤ r ∧ r ≤ 4294967296 ∧ (0 ≤ r ↔ l.all okPart = false) ∧ Below w.heap.size w w' := by
  have Hr := Lib.hid hr
  have Hx := Lib.hid hx
  clear hr hx
  have hl' : (l.length : Int) ≤ 4294967296 := by omega
  go_enter Tryd.func80, Tryd.ntmps80
  go_wp2
  go_loopg [8] l.length (fun k i wr => k ≤ l.length ∧ i = .int .i64 ((l.length : Int) - (k : Int)) ∧ Below w.heap.size w wr ∧ Hid (∀ j (h : j < l.length), j < l.length - k → okPart l[j] = true))
  case atStart => exact ⟨Nat.le_refl _, congrArg (Value.int .i64) (by omega), Below.refl _ _, Lib.hid (fun j h h2 => by omega)⟩
  case round =>
    obtain ⟨hk, rfl, hbb, hg⟩ := hrel
    by_cases hk0 : gk ≠ 0
    · obtain ⟨j, rfl⟩ : ∃ j, gk = j + 1 := ⟨gk - 1, by omega⟩
      obtain ⟨i, hi⟩ : ∃ i : Nat, i + (j + 1) = l.length := ⟨l.length - (j + 1), by omega⟩
      have hil : i < l.length := by omega
      obtain ⟨b, off, rfl, hcell⟩ := Hr.out i hil
      have hcw : wr.cell? ⟨b, off + i, none⟩ = some (.string (str l[i])) := (hbb.cell (World.block_lt_of_cell? w _ hcell)).trans hcell
      have hxi := Hx.out _ (List.getElem_mem hil)
      have hg2 : okPart l[i] = true → Hid (∀ j' (h : j' < l.length), j' < l.length - j → okPart l[j'] = true) := fun h1 => Lib.hid (fun j' h h2 => by
        by_cases e : j' = i
        · subst e; exact h1
        · exact hg.out j' h (by omega))
      have hbad : okPart l[i] = false → Hid (l.all okPart = false) := fun h1 => Lib.hid (by
        rw [List.all_eq_false]
        exact ⟨_, List.getElem_mem hil, by simp [h1]⟩)
      have Hg2 := Lib.hid hg2
      have Hbad := Lib.hid hbad
      clear hg2 hbad
      generalize l[i] = x at hcw hxi Hg2 Hbad hcell
      have e1 : (l.length : Int) - ((j + 1 : Nat) : Int) = (i : Int) := by omega
      have i0 : (0 : Int) ≤ (i : Int) := by omega
      have i1 : (i : Int) < (l.length : Int) := by omega
      rw [e1]
      clear e1 hcell
      have Hi := Lib.hid hi
      clear hi
      go_wp2_with fail
      refine (not_any (str x) (by show x.length ≤ _; omega) wr).mono ?_
      rintro e w3 ⟨rfl, b3⟩
      have b3 := hbb.trans (b3.mono hbb.size)
      clear hcw hbb
      cases hok : okPart x with
      | true =>
        have hv : okPart (str x).data.toList = true := hok
        rw [hv]
        go_wp2
        go_roundg j
        case measure => omega
        case rel => exact ⟨by omega, congrArg (Value.int .i64) (by have := Hi.out; omega), b3, Hg2.out hok⟩
      | false =>
        have hv : okPart (str x).data.toList = false := hok
        rw [hv]
        go_wp2
        go_ret
        exact ⟨i, rfl, by omega, by omega, ⟨fun _ => (Hbad.out hok).out, fun _ => i0⟩, b3⟩
    · obtain rfl : gk = 0 := by omega
      have hall : l.all okPart = true := by
        rw [List.all_eq_true]
        intro x hx
        obtain ⟨i, hi, rfl⟩ := List.mem_iff_getElem.1 hx
        exact hg.out i hi (by omega)
      have Hall := Lib.hid hall
      clear hall
      go_wp2
      go_ret
      exact ⟨-1, rfl, by omega, by omega, ⟨fun h => by omega, fun h => by rw [Hall.out] at h; cases h⟩, hbb⟩

theorem containsFunc_any (A : Option Addr) (c : Nat) (l : List (List UInt8)) (hl : l.length ≤ 4294967296) (hx : ∀ x ∈ l, x.length ≤ 4294967296) (w : World) (hr : RdS w A l) :
    Calls Tryd.prog 74 #[.slice A l.length c, .func (.func 72) #[] #[]] w fun e w' => e = .returned (.bool (!l.all okPart)) ∧ Below w.heap.size w w' := by
  have hc := indexFunc_any A c l hl hx w hr
  clear hr
  cases hv : l.all okPart with
  | true =>
    rw [hv] at hc
    have Hc := Lib.hid hc
    clear hc
    go_enter Tryd.func74, Tryd.ntmps74
    go_wp2_with fail
    refine Hc.out.mono ?_
    rintro e w1 ⟨r, rfl, r0, r1, r2, b1⟩
    have h : ¬ 0 ≤ r := fun h => by have := r2.1 h; revert this; simp
    clear r2
    go_wp2
    go_ret
    refine ⟨?_, b1⟩
    show Ending.returned (.bool (decide (0 ≤ r))) = _
    rw [decide_eq_false (show ¬ 0 ≤ r by omega)]
    rfl
  | false =>
    rw [hv] at hc
    have Hc := Lib.hid hc
    clear hc
    go_enter Tryd.func74, Tryd.ntmps74
    go_wp2_with fail
    refine Hc.out.mono ?_
    rintro e w1 ⟨r, rfl, r0, r1, r2, b1⟩
    have h : 0 ≤ r := r2.2 (by simp)
    clear r2
    go_wp2
    go_ret
    refine ⟨?_, b1⟩
    first
      | rfl
      | (show Ending.returned (.bool (decide (0 ≤ r))) = _
         rw [decide_eq_true h]
         rfl)

/-- What every world of a call has: the program's own variables as they were shaped. -/
abbrev Sh (w : World) : Prop := w.ShapedOpen Tryd.prog
theorem sh_below {w w' : World} (h : Sh w) (hb : Below w.heap.size w w') : Sh w' := h.keptBut (hb.frame (fun _ => False)) (fun _ h => h.elim)

/-- strings.Split at a slash. -/
theorem split_any (s : ByteArray) (hs : s.size < 4294967281) (w : World) (h : Sh w) : Calls Tryd.prog 75 #[.string s, .string slash] w fun e w' => e = .returned (.slice (some ⟨w.heap.size, 0, none⟩) (psplit s.data.toList).length (psplit s.data.toList).length) ∧ RdS w' (some ⟨w.heap.size, 0, none⟩) (psplit s.data.toList) ∧ Below w.heap.size w w' := by
  refine (Tryd.strings_Split_shaped s slash w h hs (by decide)).mono ?_
  rintro e w' ⟨rfl, rfl⟩
  rw [countB_psplit, splitB_psplit]
  refine ⟨rfl, fun i hi => ⟨w.heap.size, 0, rfl, ?_⟩, (Below.refl _ w).alloc (Nat.le_refl _) _⟩
  rw [cell_of_row _ _ _ _ _ _ (heap_alloc_new w _)]
  simp [hi]
end Go.Proofs.YtmppagiaonbggaaDoor

/- What the cards of this seat share: a world in which the listed tables lie as the program's text lays them. -/
namespace Go.Proofs.YtmppagiaonbggaaDoor
set_option linter.unusedVariables false
set_option linter.unusedSimpArgs false
set_option maxRecDepth 100000
open Go.ChangeShapes Go.WideShapes Go.ChangeAt Go.RowKit
theorem own : ownKnob Tryd.prog.godebug = none := by kernel_rfl
theorem laidOut : laidOutB Tryd.prog = true := by kernel_rfl
def litVals : DataW Unit → List Value
  | .lit (.int k n) => [.int k n]
  | .agg l => l.filterMap fun d => match d with | .lit (.int k n) => some (.int k n) | _ => none
  | _ => []
def flatVals : DataW Unit → List Value
  | .agg l => l.flatMap litVals
  | _ => []
noncomputable def laidWorld (os : Os) : World :=
  let w0 := World.holding Tryd.prog os ⟨#[], #[], []⟩
  let put (h : Array Obj) (g : Nat) (cs : Array Value) : Array Obj := h.modify g fun
    | .cells _ t frozen => .cells cs t frozen
    | o => o
  let h1 := put w0.heap 0 (flatVals Rows.laid_portmanteau_digest_table).toArray
  let h2 := put (h1) 3 (flatVals Rows.laid_unicode_utf8_acceptRanges).toArray
  let h3 := put (h2) 2 (flatVals Rows.laid_unicode_utf8_first).toArray
  { w0 with heap := h3 }
theorem laid_met (os : Os) (args : Array Value) : laidMet Tryd.prog Rows.sourcePlansRow.laid ((laidWorld os).forCall (fun _ _ => 0) ⟨#[], args, []⟩).memory :=
  (LaidIn.of_run [0, 2, 3] 8 (by kernel_rfl) (by kernel_rfl) (by kernel_rfl) (by kernel_rfl)).met
section
variable {H : Type} {enc : TypeId × Value → H} {P : Program} {W : World} {base : Nat} {spare : Nat → Bool} {held : Bool}
theorem rd_strs {t e : TypeId} {v : Value} {d : DataW H} {p : List MemPlace} (ht : P.underlying t = some (.slice e)) (he : P.underlying e = some .string) (hC : P.cellsOf e = 1)
    (hv : ∃ A n c, v = .slice A n c) (h : DataW.Trod enc P W base spare held t v d p) : ∃ (A : Option Addr) (l : List (List UInt8)) (c : Nat), v = .slice A l.length c ∧ Rd W v (l.map fun x => Value.string (str x)) ∧ l.length ≤ c ∧ c ≤ maxLen ∧ ∀ a ∈ l, a.length ≤ maxLen :=
  rd_slice1 (fun x : List UInt8 => Value.string (str x)) (fun a => a.length ≤ maxLen) ht hC (fun fuel u y hy => by
    obtain ⟨b, hb, _, hw⟩ := DataW.trod_string he hy
    exact ⟨b.data.toList, by simp only [str_data]; simpa using hb, hw⟩) hv h
end
theorem rds_of_rd {W : World} {A : Option Addr} {c : Nat} {l : List (List UInt8)} (h : Rd W (.slice A l.length c) (l.map fun x => Value.string (str x))) : RdS W A l := by
  obtain ⟨A', c', hv, hr⟩ := h
  injection hv with h1 h2 h3
  subst h1
  intro i hi
  have hne : (l.map fun x => Value.string (str x)) ≠ [] := by
    intro h
    have := congrArg List.length h
    simp at this
    subst this
    simp at hi
  obtain ⟨ad, ha, hc⟩ := hr hne
  have h0 := hc i (.string (str l[i])) (by simp [hi])
  obtain ⟨b, off, spot⟩ := ad
  have hsp : spot = none := by
    have h1 : 0 < l.length := by omega
    have := World.cell?_spot (hc 0 (.string (str l[0])) (by simp [h1]))
    simpa [Addr.add] using this
  subst hsp
  refine ⟨b, off, ha, ?_⟩
  rwa [Addr.add_lit] at h0
end Go.Proofs.YtmppagiaonbggaaDoor

/- Slices of structs as they lie: what they read as, and how they grow. -/
namespace Go.Proofs.YtmppagiaonbggaaDoor
set_option linter.unusedVariables false
set_option linter.unusedSimpArgs false
set_option maxRecDepth 100000
open Go.RowKit

/-- A slice's elements, each of k cells, as they lie. -/
def RdA {α : Type} (k : Nat) (cs : α → List Value) (w : World) (A : Option Addr) (l : List α) : Prop :=
  ∀ i (h : i < l.length), ∃ b off, A = some ⟨b, off, none⟩ ∧ b < w.heap.size ∧ ∀ j u, (cs l[i])[j]? = some u → w.cell? ⟨b, off + i * k + j, none⟩ = some u
theorem RdA.below {α : Type} {k : Nat} {cs : α → List Value} {w w' : World} {A : Option Addr} {l : List α} (h : RdA k cs w A l) (hb : Below w.heap.size w w') : RdA k cs w' A l := fun i hi => by
  obtain ⟨b, off, ha, hlt, hc⟩ := h i hi
  exact ⟨b, off, ha, Nat.lt_of_lt_of_le hlt hb.size, fun j u hu => (hb.cell (p := ⟨b, off + i * k + j, none⟩) hlt).trans (hc j u hu)⟩
/-- The same where all that was there below B stays. -/
theorem RdA.below' {α : Type} {k B : Nat} {cs : α → List Value} {w w' : World} {A : Option Addr} {l : List α} (h : RdA k cs w A l) (hB : w.heap.size ≤ B) (hb : Below B w w') : RdA k cs w' A l := h.below (hb.mono hB)
theorem RdA.nil {α : Type} {k : Nat} {cs : α → List Value} {w : World} {A : Option Addr} : RdA k cs w A ([] : List α) := fun i h => absurd h (Nat.not_lt_zero _)

/-- What a call leaves that returns a slice of its own, or of what was there. -/
def RetA {α : Type} (k : Nat) (cs : α → List Value) (w : World) (l : List α) (e : Ending) (w' : World) : Prop := ∃ A c, e = .returned (.slice A l.length c) ∧ (l.length ≤ c ∧ c ≤ 9223372036854775807) ∧ RdA k cs w' A l ∧ Below w.heap.size w w'
theorem RetA.mk {α : Type} {k : Nat} {cs : α → List Value} {w w' : World} {l : List α} {e : Ending} {A : Option Addr} {n c : Nat} (he : e = .returned (.slice A n c)) (hn : n = l.length) (hc : n ≤ c ∧ c ≤ 9223372036854775807) (hr : RdA k cs w' A l) (hb : Below w.heap.size w w') : RetA k cs w l e w' := ⟨A, c, by rw [he, hn], by rw [← hn]; exact hc, hr, hb⟩
def flat {α : Type} (cs : α → List Value) (l : List α) : List Value := l.flatMap cs
theorem flat_snoc {α : Type} (cs : α → List Value) (l : List α) (a : α) : flat cs (l ++ [a]) = flat cs l ++ cs a := by unfold flat; rw [List.flatMap_append]; simp
theorem flat_get {α : Type} {k : Nat} {cs : α → List Value} (hk : ∀ a, (cs a).length = k) : ∀ (l : List α) (i : Nat) (h : i < l.length) (j : Nat) (u : Value), (cs l[i])[j]? = some u → (flat cs l)[i * k + j]? = some u
  | [], i, h, _, _, _ => absurd h (Nat.not_lt_zero _)
  | a :: l, 0, _, j, u, hu => by
    have hu : (cs a)[j]? = some u := hu
    show (cs a ++ flat cs l)[0 * k + j]? = some u
    rw [Nat.zero_mul, Nat.zero_add, List.getElem?_append_left (List.getElem?_eq_some_iff.1 hu).1]
    exact hu
  | a :: l, i + 1, h, j, u, hu => by
    show (cs a ++ flat cs l)[(i + 1) * k + j]? = some u
    rw [List.getElem?_append_right (by rw [hk, Nat.succ_mul]; omega), hk, show (i + 1) * k + j - k = i * k + j by rw [Nat.succ_mul]; omega]
    exact flat_get hk l i (by simpa using h) j u hu
theorem flat_length {α : Type} {k : Nat} {cs : α → List Value} (hk : ∀ a, (cs a).length = k) (l : List α) : (flat cs l).length = l.length * k := by
  induction l with
  | nil => simp [flat]
  | cons a l ih =>
    show (cs a ++ flat cs l).length = _
    rw [List.length_append, hk, ih, List.length_cons, Nat.succ_mul]; omega

/-- An owned row reads as what it holds. -/
theorem Own.rdA {α : Type} {k B : Nat} {cs : α → List Value} {R : HP} {w : World} {e : TypeId} {A : Option Addr} {n c : Nat} {l : List α} (hk : ∀ a, (cs a).length = k) (hn : n = l.length) (h : Own B (Rw e k (.slice A n c) n (flat cs l) * R) w) : RdA k cs w A l := by
  intro i hi
  have hr := h.row
  obtain ⟨g, cap, hf, _⟩ := hr.form (by omega)
  injection hf with h1 h2 h3
  subst h1
  have hlt := hr.lt g (by simp [Value.ownBlock])
  refine ⟨g, 0, rfl, hlt.2, fun j u hu => ?_⟩
  rw [Nat.zero_add]
  have := hr.cells (g := g) rfl (i * k + j) u (flat_get hk l i hi j u hu)
  rw [Addr.add_lit, Nat.zero_add] at this
  exact this

/-- An owned row's room. -/
theorem Own.cap {k B : Nat} {xs : List Value} {R : HP} {w : World} {e : TypeId} {A : Option Addr} {n c : Nat} (h : Own B (Rw e k (.slice A n c) n xs * R) w) : n ≤ c ∧ c ≤ 9223372036854775807 := by
  rcases h.row.2 with ⟨hv, hn⟩ | ⟨g, cap, cur, hv, _, _, h1, h2, _⟩
  · injection hv with _ h1 h2
    subst hn; subst h2
    exact ⟨Nat.le_refl _, by decide⟩
  · injection hv with _ _ h3
    subst h3
    exact ⟨h1, h2⟩
theorem cap0 : 0 ≤ 0 ∧ 0 ≤ 9223372036854775807 := ⟨Nat.le_refl _, by decide⟩
/-- One element more. -/
theorem row_append {P : Program} {B : Nat} {R : HP} [Loc B R] {w : World} (hB : B ≤ w.heap.size) {t e : TypeId} {i0 : TypeInfo} {z : Value} {k bytes : Nat} (ht : P.underlying t = some (.slice e)) (hi : P.info? e = some i0) (hz : i0.zero = some z)
    (hs : i0.size = k) (hy : i0.bytes = bytes) (hzs : z.cells.size = k) (hk : 0 < k) {v : Value} {n : Nat} {xs : List Value} (h : Own B (Rw e k v n xs * R) w) (cs : Array Value) (hcs : cs.size = k) (h1 : ∀ u ∈ cs.toList, u.oneCell' = true)
    (hn : n + 1 ≤ 9223372036854775807) (hby : (n + 1) * bytes ≤ 140737488355328) :
    ∃ g cap w', (Builtin.append_ #[t, t] t #[v, .slice (some ⟨w.heap.size, 0, none⟩) 1 1]).run P (w.alloc (.cells cs e)) = .ok (.slice (some ⟨g, 0, none⟩) (n + 1) cap) w' ∧
      Own B (Rw e k (.slice (some ⟨g, 0, none⟩) (n + 1) cap) (n + 1) (xs ++ cs.toList) * R) w' ∧ Below B w w' := by
  have h0 := h.alloc_keep hB (.cells cs e)
  have hB1 : B ≤ (w.alloc (.cells cs e)).heap.size := by simp; omega
  obtain ⟨v', w', hr, h2, h3, _, h5⟩ := run_append_own_at (P := P) (w.alloc (.cells cs e)) B t t e i0 z k bytes ht hi hz hs hy hzs hk v n xs h0.row
    ⟨w.heap.size, 0, none⟩ 1 1 cs.toList (by simp [hcs]) (fun j u hj => by
      rw [Addr.add_lit, Nat.zero_add, cell_of_row _ _ _ _ _ _ (heap_alloc_new w _)]
      simpa using hj) h1 (by unfold maxLen; omega) hby hB1
  have h6 := Own.appended hB1 h0 h2 h3 h5
  obtain ⟨g, cap, rfl, _⟩ := h2.form (by omega)
  exact ⟨g, cap, w', hr, h6.1, ((Below.refl B w).alloc hB _).trans h6.2⟩
/-- The operation that appends, met by its run. -/
theorem wpList_append_at {P : Program} {ops : Array Oper} {Q : Exit → Act → World → Prop} {rest : List Oper} {o : Oper} {a : Act} {w w' : World} (hgd : o.guard = none) (s x : Operand) (t : TypeId) {v u v' : Value}
    (ho : o.op = .call { callee := .builtin .append, args := #[s, x], argTypes := #[t, t] }) (hs : a.eval s = v) (hx : a.eval x = u) (hr : (Builtin.append_ #[t, t] o.type #[v, u]).run P w = .ok v' w')
    (h : wpList P ops Q rest (a.put o.dst v') w') : wpList P ops Q (o :: rest) a w := by
  refine wpList_plain hgd fun K hK => ?_
  unfold Oper.wp execOp
  simp only [ho, resolve, invoke, builtin, Sem.run_bind, Sem.run_pure, Result.andThen_ok, List.map_toArray, List.map_cons, List.map_nil, hs, hx, hr]
  exact hK _ _ h
/-- Two results: a struct that lies in memory, and a plain one. -/
theorem results_cell_tmp {P : Program} {fn : Func} {p q : Tmp} {ty : TypeId} (h : fn.results = #[.cell p ty, .tmp q]) (tmps : Array Value) (w : World) (g : Nat) (t : TypeId) (cs : Array Value) (fr : Nat × Nat) (d : TypeDesc)
    (hp : tmps.getD p undef = .pointer (some ⟨g, 0, none⟩)) (hg : w.heap[g]? = some (.cells cs t fr))
    (hu : P.underlying ty = some d) (hd : (match d with | .struct _ | .array _ _ => true | _ => false) = true) (hi : (P.info? ty).map (·.size) = some cs.size) :
    (results fn tmps).run P w = .ok (.tuple #[.agg cs, tmps.getD q undef]) w := by
  have hp' : tmps[p]?.getD undef = .pointer (some ⟨g, 0, none⟩) := by simpa using hp
  simp [results, h, hp', asAddr, run_loadVar_row w g t ty cs fr d hg hu hd hi]
theorem Own.step {B : Nat} {R : HP} [Loc B R] {w : World} {g : Nat} {t : TypeId} {cs : Array Value} (hB : B ≤ w.heap.size) (h : Own B (Bk g t cs * R) w) (i : Nat) (u : Value) :
    B ≤ (w.setCell ⟨g, i, none⟩ u).heap.size ∧ Own B (Bk g t (cs.setIfInBounds i u) * R) (w.setCell ⟨g, i, none⟩ u) ∧ Below B w (w.setCell ⟨g, i, none⟩ u) :=
  ⟨by simpa [World.setCell] using hB, h.set hB i u, h.below_set i u⟩
/-- A block of seven cells, stored over whole. -/
theorem Own.set7 {B : Nat} {R : HP} [Loc B R] {w : World} {g : Nat} {t : TypeId} {c0 c1 c2 c3 c4 c5 c6 : Value} (hB : B ≤ w.heap.size) (h : Own B (Bk g t #[c0, c1, c2, c3, c4, c5, c6] * R) w) (v0 v1 v2 v3 v4 v5 v6 : Value) :
    Own B (Bk g t #[v0, v1, v2, v3, v4, v5, v6] * R) (((((((w.setCell ⟨g, 0, none⟩ v0).setCell ⟨g, 1, none⟩ v1).setCell ⟨g, 2, none⟩ v2).setCell ⟨g, 3, none⟩ v3).setCell ⟨g, 4, none⟩ v4).setCell ⟨g, 5, none⟩ v5).setCell ⟨g, 6, none⟩ v6) ∧
    Below B w (((((((w.setCell ⟨g, 0, none⟩ v0).setCell ⟨g, 1, none⟩ v1).setCell ⟨g, 2, none⟩ v2).setCell ⟨g, 3, none⟩ v3).setCell ⟨g, 4, none⟩ v4).setCell ⟨g, 5, none⟩ v5).setCell ⟨g, 6, none⟩ v6) := by
  obtain ⟨k0, s0, b0⟩ := Own.step hB h 0 v0
  obtain ⟨k1, s1, b1⟩ := Own.step k0 s0 1 v1
  obtain ⟨k2, s2, b2⟩ := Own.step k1 s1 2 v2
  obtain ⟨k3, s3, b3⟩ := Own.step k2 s2 3 v3
  obtain ⟨k4, s4, b4⟩ := Own.step k3 s3 4 v4
  obtain ⟨k5, s5, b5⟩ := Own.step k4 s4 5 v5
  obtain ⟨k6, s6, b6⟩ := Own.step k5 s5 6 v6
  simp only [List.setIfInBounds_toArray, List.set_cons_zero, List.set_cons_succ] at s6
  exact ⟨s6, b0.trans (b1.trans (b2.trans (b3.trans (b4.trans (b5.trans b6)))))⟩
end Go.Proofs.YtmppagiaonbggaaDoor

/- The walks over Right, Parts, Compare, Parent and Below of package path. -/
namespace Go.Proofs.YtmppagiaonbggaaDoor
set_option linter.unusedVariables false
set_option linter.unusedSimpArgs false
set_option maxRecDepth 100000
open Go.RowKit

/-- May a text be a path? -/
def okPath (s : List UInt8) : Bool := decide (s.length ≤ 256) && (psplit s).all okPart
theorem psplit_len : ∀ s : List UInt8, (psplit s).length ≤ s.length + 1 ∧ ∀ x ∈ psplit s, x.length ≤ s.length
  | [] => by simp [psplit]
  | c :: l => by
    obtain ⟨h1, h2⟩ := psplit_len l
    by_cases hc : c = 47
    · subst hc
      rw [psplit_slash]
      refine ⟨by simp; exact h1, fun x hx => ?_⟩
      rcases List.mem_cons.1 hx with rfl | hx
      · simp
      · have := h2 x hx; simp; omega
    · obtain ⟨p, ps, hl⟩ : ∃ p ps, psplit l = p :: ps := by
        cases h : psplit l with
        | nil => exact absurd h (psplit_ne l)
        | cons p ps => exact ⟨p, ps, rfl⟩
      rw [hl] at h1 h2
      rw [psplit_other hc hl]
      refine ⟨by simp at h1 ⊢; omega, fun x hx => ?_⟩
      rcases List.mem_cons.1 hx with rfl | hx
      · have := h2 p List.mem_cons_self; simp; omega
      · have := h2 x (List.mem_cons_of_mem _ hx); simp; omega

set_option maxHeartbeats 800000 in
theorem right_any (s : ByteArray) (hs : s.size ≤ 9223372036854775807) (w : World) (h : Sh w) : Calls Tryd.prog 55 #[.string s] w fun e w' => e = .returned (.bool (okPath s.data.toList)) ∧ Below w.heap.size w w' := by
  have hsz : s.data.toList.length = s.size := rfl
  obtain ⟨hl1, hl2⟩ := psplit_len s.data.toList
  by_cases hle : s.size ≤ 256
  · have hsp := split_any s (by omega) w h
    have hv : okPath s.data.toList = (psplit s.data.toList).all okPart := by unfold okPath; rw [hsz, decide_eq_true hle]; rfl
    rw [hv]
    have hct := fun (W : World) (hr : RdS W (some ⟨w.heap.size, 0, none⟩) (psplit s.data.toList)) => containsFunc_any (some ⟨w.heap.size, 0, none⟩) (psplit s.data.toList).length (psplit s.data.toList) (by omega) (fun x hx => by have := hl2 x hx; omega) W hr
    have Hsp := Lib.hid hsp
    have Hct := Lib.hid hct
    have hle' : (s.size : Int) ≤ 256 := by omega
    clear hsp hct hv hl2 hl1
    generalize psplit s.data.toList = l at Hsp Hct
    cases hall : l.all okPart with
    | true =>
      have Hct2 := Hct.out
      rw [hall] at Hct2
      have Hct3 := Lib.hid Hct2
      clear Hct2 Hct
      go_enter Tryd.func55, Tryd.ntmps55
      go_wp2_with fail
      refine Hsp.out.mono ?_
      rintro e w1 ⟨rfl, r1, b1⟩
      go_wp2_with fail
      refine (Hct3.out w1 r1).mono ?_
      rintro e w2 ⟨rfl, b2⟩
      go_wp2
      go_ret
      exact ⟨rfl, b1.trans (b2.mono b1.size)⟩
    | false =>
      have Hct2 := Hct.out
      rw [hall] at Hct2
      have Hct3 := Lib.hid Hct2
      clear Hct2 Hct
      go_enter Tryd.func55, Tryd.ntmps55
      go_wp2_with fail
      refine Hsp.out.mono ?_
      rintro e w1 ⟨rfl, r1, b1⟩
      go_wp2_with fail
      refine (Hct3.out w1 r1).mono ?_
      rintro e w2 ⟨rfl, b2⟩
      go_wp2
      go_ret
      exact ⟨rfl, b1.trans (b2.mono b1.size)⟩
  · have hv : okPath s.data.toList = false := by unfold okPath; rw [hsz, decide_eq_false hle]; rfl
    rw [hv]
    have hle' : ¬ (s.size : Int) ≤ 256 := by omega
    clear hv hl1 hl2
    go_enter Tryd.func55, Tryd.ntmps55
    go_wp2
    go_ret
    exact ⟨rfl, Below.refl _ _⟩
end Go.Proofs.YtmppagiaonbggaaDoor
