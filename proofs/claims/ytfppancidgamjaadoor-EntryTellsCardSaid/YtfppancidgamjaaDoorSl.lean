/- Separation-style words for the heap: what a call owns, and what it leaves alone. -/
import Derived.WalkKit
import Derived.Below
import Derived.Laws.OwnMore
import Derived.Deep.Draws
import Derived.Maps.AppendAt
import Derived.Deep.AppendLies
namespace Go.Proofs.YtfppancidgamjaaDoor
set_option linter.unusedVariables false
set_option linter.unusedSimpArgs false
open Go.RowKit

/-- A heap predicate: of a world, and of the blocks that it speaks of. -/
def HP := World → (Nat → Prop) → Prop

/-- What it says hangs on its own blocks, and on those below B, alone; and on no block that is not there. -/
class Loc (B : Nat) (R : HP) : Prop where
  keep : ∀ (w w' : World) (F : Nat → Prop), (∀ k, F k → w'.heap[k]? = w.heap[k]?) → (∀ k, k < B → w'.heap[k]? = w.heap[k]?) → R w F → R w' F
  up : ∀ (w : World) (F F' : Nat → Prop), (∀ k, F k → F' k) → R w F → R w F'

def Sep (A C : HP) : HP := fun w F => ∃ F1 F2 : Nat → Prop, (∀ k, F1 k → ¬ F2 k) ∧ (∀ k, F1 k → F k) ∧ (∀ k, F2 k → F k) ∧ A w F1 ∧ C w F2
instance : Mul HP := ⟨Sep⟩

def Emp : HP := fun _ _ => True
/-- A fact that no memory bears on. -/
def Fact (p : Prop) : HP := fun _ _ => p
def Hex {α : Type} (A : α → HP) : HP := fun w F => ∃ x, A x w F
/-- A block that is known whole. -/
def Bk (g : Nat) (t : TypeId) (cs : Array Value) : HP := fun w F => F g ∧ w.heap[g]? = some (.cells cs t (0, 0))
/-- A slice that owns its array: nil, or at the head of a block. -/
def Rw (e : TypeId) (size : Nat) (v : Value) (n : Nat) (xs : List Value) : HP := fun w F => w.ownsRow 0 e size v n xs ∧ ∀ k, v.ownBlock = some k → F k

instance Loc.sep {B : Nat} {A C : HP} [a : Loc B A] [c : Loc B C] : Loc B (A * C) where
  keep := fun w w' F h hb ⟨F1, F2, hd, h1, h2, ha, hc⟩ => ⟨F1, F2, hd, h1, h2, a.keep w w' F1 (fun k hk => h k (h1 k hk)) hb ha, c.keep w w' F2 (fun k hk => h k (h2 k hk)) hb hc⟩
  up := fun w F F' h ⟨F1, F2, hd, h1, h2, ha, hc⟩ => ⟨F1, F2, hd, fun k hk => h k (h1 k hk), fun k hk => h k (h2 k hk), ha, hc⟩
instance Loc.emp {B : Nat} : Loc B Emp := ⟨fun _ _ _ _ _ h => h, fun _ _ _ _ h => h⟩
instance Loc.fact {B : Nat} {p : Prop} : Loc B (Fact p) := ⟨fun _ _ _ _ _ h => h, fun _ _ _ _ h => h⟩
instance Loc.hex {B : Nat} {α : Type} {A : α → HP} [h : ∀ x, Loc B (A x)] : Loc B (Hex A) where
  keep := fun w w' F h1 h2 ⟨x, hx⟩ => ⟨x, (h x).keep w w' F h1 h2 hx⟩
  up := fun w F F' h1 ⟨x, hx⟩ => ⟨x, (h x).up w F F' h1 hx⟩
instance Loc.bk {B g : Nat} {t : TypeId} {cs : Array Value} : Loc B (Bk g t cs) where
  keep := fun _ _ _ h _ ⟨hf, hg⟩ => ⟨hf, (h g hf).trans hg⟩
  up := fun _ _ _ h ⟨hf, hg⟩ => ⟨h g hf, hg⟩
theorem ownsRow_of {w w' : World} {e : TypeId} {size : Nat} {v : Value} {n : Nat} {xs : List Value} (h : w.ownsRow 0 e size v n xs) (hk : ∀ k, v.ownBlock = some k → w'.heap[k]? = w.heap[k]?) : w'.ownsRow 0 e size v n xs := by
  refine ⟨h.1, ?_⟩
  rcases h.2 with hn | ⟨g, cap, cur, rfl, hb, hg, r⟩
  · exact .inl hn
  · exact .inr ⟨g, cap, cur, rfl, hb, by rw [hk g (by simp [Value.ownBlock])]; exact hg, r⟩
instance Loc.rw {B : Nat} {e : TypeId} {size : Nat} {v : Value} {n : Nat} {xs : List Value} : Loc B (Rw e size v n xs) where
  keep := fun _ _ _ h _ ⟨ho, hf⟩ => ⟨ownsRow_of ho fun k hk => h k (hf k hk), hf⟩
  up := fun _ _ _ h ⟨ho, hf⟩ => ⟨ho, fun k hk => h k (hf k hk)⟩

theorem sep_comm (A C : HP) : (A * C) = (C * A) := by
  funext w F
  apply propext
  exact ⟨fun ⟨F1, F2, hd, h1, h2, a, c⟩ => ⟨F2, F1, fun k hk hk' => hd k hk' hk, h2, h1, c, a⟩, fun ⟨F1, F2, hd, h1, h2, a, c⟩ => ⟨F2, F1, fun k hk hk' => hd k hk' hk, h2, h1, c, a⟩⟩
theorem sep_assoc (A C D : HP) : ((A * C) * D) = (A * (C * D)) := by
  funext w F
  apply propext
  constructor
  · rintro ⟨F12, F3, hd, h1, h2, ⟨F1, F2, hd', h1', h2', a, c⟩, d⟩
    exact ⟨F1, fun k => F2 k ∨ F3 k, fun k hk hk' => hk'.elim (hd' k hk) (hd k (h1' k hk)), fun k hk => h1 k (h1' k hk), fun k hk => hk.elim (fun h => h1 k (h2' k h)) (h2 k), a,
      F2, F3, fun k hk => hd k (h2' k hk), fun k hk => .inl hk, fun k hk => .inr hk, c, d⟩
  · rintro ⟨F1, F23, hd, h1, h2, a, F2, F3, hd', h1', h2', c, d⟩
    exact ⟨fun k => F1 k ∨ F2 k, F3, fun k hk hk' => hk.elim (fun h => hd k h (h2' k hk')) (fun h => hd' k h hk'), fun k hk => hk.elim (h1 k) (fun h => h2 k (h1' k h)), fun k hk => h2 k (h2' k hk),
      ⟨F1, F2, fun k hk hk' => hd k hk (h1' k hk'), fun k hk => .inl hk, fun k hk => .inr hk, a, c⟩, d⟩
instance : Std.Commutative (α := HP) (· * ·) := ⟨sep_comm⟩
instance : Std.Associative (α := HP) (· * ·) := ⟨sep_assoc⟩
theorem sep_left_comm (A C D : HP) : (A * (C * D)) = (C * (A * D)) := by rw [← sep_assoc, sep_comm A C, sep_assoc]

/-- WHAT IS OWNED, OF ALL BLOCKS FROM B ON. -/
def Own (B : Nat) (A : HP) (w : World) : Prop := ∃ F : Nat → Prop, (∀ k, F k → B ≤ k ∧ k < w.heap.size) ∧ A w F

section
variable {B : Nat} {A C R : HP} {w w' : World}

theorem Own.mono (h : Own B A w) (hm : ∀ w F, A w F → C w F) : Own B C w := let ⟨F, hf, ha⟩ := h; ⟨F, hf, hm w F ha⟩
theorem Own.cast (h : Own B A w) (e : A = C) : Own B C w := e ▸ h
theorem Own.swap (h : Own B (A * C) w) : Own B (C * A) w := h.cast (sep_comm _ _)
theorem Own.assoc (h : Own B ((A * C) * R) w) : Own B (A * (C * R)) w := h.cast (sep_assoc _ _ _)
theorem Own.assoc' (h : Own B (A * (C * R)) w) : Own B ((A * C) * R) w := h.cast (sep_assoc _ _ _).symm
theorem Own.drop [Loc B C] (h : Own B (A * C) w) : Own B C w := let ⟨F, hf, F1, F2, hd, h1, h2, ha, hc⟩ := h; ⟨F2, fun k hk => hf k (h2 k hk), hc⟩
theorem Own.left (h : Own B (A * C) w) : Own B A w := let ⟨F, hf, F1, F2, hd, h1, h2, ha, hc⟩ := h; ⟨F1, fun k hk => hf k (h1 k hk), ha⟩
theorem Own.right (h : Own B (A * C) w) : Own B C w := let ⟨F, hf, F1, F2, hd, h1, h2, ha, hc⟩ := h; ⟨F2, fun k hk => hf k (h2 k hk), hc⟩
theorem Own.emp (h : Own B R w) : Own B (Emp * R) w := let ⟨F, hf, hr⟩ := h; ⟨F, hf, fun _ => False, F, fun _ h => h.elim, fun _ h => h.elim, fun _ h => h, trivial, hr⟩
theorem Own.start (B : Nat) (w : World) : Own B Emp w := ⟨fun _ => False, fun _ h => h.elim, trivial⟩
theorem Own.fact {p : Prop} (hp : p) (h : Own B R w) : Own B (Fact p * R) w := let ⟨F, hf, hr⟩ := h; ⟨F, hf, fun _ => False, F, fun _ h => h.elim, fun _ h => h.elim, fun _ h => h, hp, hr⟩
theorem Own.fact_out {p : Prop} (h : Own B (Fact p * R) w) : p := let ⟨_, _, _, _, _, _, _, hp, _⟩ := h; hp
theorem Own.hex {α : Type} {A : α → HP} (h : Own B (Hex A * R) w) : ∃ x, Own B (A x * R) w := let ⟨F, hf, F1, F2, hd, h1, h2, ⟨x, ha⟩, hc⟩ := h; ⟨x, F, hf, F1, F2, hd, h1, h2, ha, hc⟩
theorem Own.to_hex {α : Type} {A : α → HP} (x : α) (h : Own B (A x * R) w) : Own B (Hex A * R) w := let ⟨F, hf, F1, F2, hd, h1, h2, ha, hc⟩ := h; ⟨F, hf, F1, F2, hd, h1, h2, ⟨x, ha⟩, hc⟩

/-- A world in which no block that was there has turned. -/
theorem Own.grow [Loc B A] (h : Own B A w) (hs : w.heap.size ≤ w'.heap.size) (hk : ∀ k, k < w.heap.size → w'.heap[k]? = w.heap[k]?) (hB : B ≤ w.heap.size) : Own B A w' := by
  obtain ⟨F, hf, ha⟩ := h
  exact ⟨F, fun k hk' => ⟨(hf k hk').1, Nat.lt_of_lt_of_le (hf k hk').2 hs⟩, Loc.keep (B := B) w w' F (fun k hk' => hk k (hf k hk').2) (fun k hk' => hk k (by omega)) ha⟩
theorem Own.drew (h : Own B A w) [Loc B A] (hB : B ≤ w.heap.size) : Own B A w.drew := h.grow (w' := w.drew) (Nat.le_refl _) (fun _ _ => rfl) hB
theorem Own.drewN (h : Own B A w) [Loc B A] (hB : B ≤ w.heap.size) (n : Nat) : Own B A (w.drewN n) := h.grow (w' := w.drewN n) (Nat.le_refl _) (fun _ _ => rfl) hB
theorem Own.grown (h : Own B A w) [Loc B A] (hB : B ≤ w.heap.size) (hb : Below w.heap.size w w') : Own B A w' := h.grow hb.size hb.block hB
theorem Own.alloc_keep (h : Own B A w) [Loc B A] (hB : B ≤ w.heap.size) (o : Obj) : Own B A (w.alloc o) := h.grow (by simp) (fun k hk => Below.heap_alloc w o k hk) hB

/-- The owned blocks, and the new ones, may turn; the rest R is as it was. -/
theorem Own.turn [Loc B R] {A' : HP} (hB : B ≤ w.heap.size) (h : Own B (A * R) w) (hs : w.heap.size ≤ w'.heap.size)
    (ht : ∀ F, (∀ k, F k → B ≤ k ∧ k < w.heap.size) → A w F → ∃ F' : Nat → Prop, (∀ k, F' k → F k ∨ (w.heap.size ≤ k ∧ k < w'.heap.size)) ∧ A' w' F' ∧ (∀ k, k < w.heap.size → ¬ F k → w'.heap[k]? = w.heap[k]?)) :
    Own B (A' * R) w' := by
  obtain ⟨F, hf, F1, F2, hd, h1, h2, ha, hr⟩ := h
  obtain ⟨F', hf', ha', hk⟩ := ht F1 (fun k hk => hf k (h1 k hk)) ha
  have hlt1 : ∀ k, F1 k → B ≤ k ∧ k < w.heap.size := fun k hk => hf k (h1 k hk)
  have hlt2 : ∀ k, F2 k → B ≤ k ∧ k < w.heap.size := fun k hk => hf k (h2 k hk)
  refine ⟨fun k => F' k ∨ F2 k, ?_, F', F2, ?_, fun k hk => .inl hk, fun k hk => .inr hk, ha', ?_⟩
  · intro k hk
    rcases hk with hk | hk
    · rcases hf' k hk with h | h
      · have := hlt1 k h; omega
      · omega
    · have := hlt2 k hk; omega
  · intro k hk hk2
    rcases hf' k hk with h | h
    · exact hd k h hk2
    · have := hlt2 k hk2; omega
  · refine Loc.keep (B := B) w w' F2 (fun k hk2 => hk k (hlt2 k hk2).2 (fun h => hd k h hk2)) (fun k hkB => hk k (by omega) (fun h => ?_)) hr
    have := hlt1 k h; omega

/-! blocks -/
theorem Own.bk {g : Nat} {t : TypeId} {cs : Array Value} (h : Own B (Bk g t cs * R) w) : w.heap[g]? = some (.cells cs t (0, 0)) ∧ B ≤ g ∧ g < w.heap.size := by
  obtain ⟨F, hf, F1, F2, hd, h1, h2, ⟨hg, hh⟩, hr⟩ := h
  exact ⟨hh, (hf g (h1 g hg)).1, (hf g (h1 g hg)).2⟩
theorem Own.cell {g : Nat} {t : TypeId} {cs : Array Value} (h : Own B (Bk g t cs * R) w) (i : Nat) : w.cell? ⟨g, i, none⟩ = cs[i]? := cell_of_row w g i cs t (0, 0) h.bk.1
theorem Own.unfrozen {g : Nat} {t : TypeId} {cs : Array Value} (h : Own B (Bk g t cs * R) w) (i : Nat) : w.frozen? ⟨g, i, none⟩ = false := by
  have := h.bk.1
  simp [World.frozen?, this]
theorem Own.set [Loc B R] {g : Nat} {t : TypeId} {cs : Array Value} (hB : B ≤ w.heap.size) (h : Own B (Bk g t cs * R) w) (i : Nat) (u : Value) : Own B (Bk g t (cs.setIfInBounds i u) * R) (w.setCell ⟨g, i, none⟩ u) := by
  refine Own.turn hB h (by simp [World.setCell]) fun F _ ⟨hF, hg⟩ => ⟨F, fun k hk => .inl hk, ⟨hF, ?_⟩, fun k _ hk => Below.heap_setCell _ _ _ _ (fun e => hk (by subst e; exact hF))⟩
  simp [World.setCell, Array.getElem?_modify, hg]
theorem Own.new [Loc B R] (hB : B ≤ w.heap.size) (h : Own B R w) (t : TypeId) (cs : Array Value) : Own B (Bk w.heap.size t cs * R) (w.alloc (.cells cs t)) := by
  refine Own.turn hB h.emp (by simp) fun F _ _ => ⟨fun k => k = w.heap.size, fun k hk => .inr (by simp; omega), ⟨rfl, heap_alloc_new w _⟩, fun k hk _ => Below.heap_alloc w _ k hk⟩
theorem Own.below_set {g : Nat} {t : TypeId} {cs : Array Value} (h : Own B (Bk g t cs * R) w) (i : Nat) (u : Value) : Below B w (w.setCell ⟨g, i, none⟩ u) := (Below.refl B w).setCell (p := ⟨g, i, none⟩) h.bk.2.1 u

/-! rows -/
theorem Own.rw_nil [Loc B R] (h : Own B R w) (e : TypeId) (size : Nat) : Own B (Rw e size (.slice none 0 0) 0 [] * R) w :=
  let ⟨F, hf, hr⟩ := h; ⟨F, hf, fun _ => False, F, fun _ h => h.elim, fun _ h => h.elim, fun _ h => h, ⟨World.ownsRow_nil w 0 e size, fun k hk => by simp [Value.ownBlock] at hk⟩, hr⟩
theorem Own.row {e : TypeId} {size : Nat} {v : Value} {n : Nat} {xs : List Value} (h : Own B (Rw e size v n xs * R) w) : w.ownsRow B e size v n xs := by
  obtain ⟨F, hf, F1, F2, hd, h1, h2, ⟨ho, hb⟩, hr⟩ := h
  refine ⟨ho.1, ?_⟩
  rcases ho.2 with hn | ⟨g, cap, cur, rfl, _, r⟩
  · exact .inl hn
  · exact .inr ⟨g, cap, cur, rfl, (hf g (h1 g (hb g (by simp [Value.ownBlock])))).1, r⟩
/-- Behind a law that ends in 'ownsRow' and 'grownBy' (append). -/
theorem Own.appended [Loc B R] {e : TypeId} {size : Nat} {v v' : Value} {n n' : Nat} {xs xs' : List Value} (hB : B ≤ w.heap.size) (h : Own B (Rw e size v n xs * R) w) (ho : w'.ownsRow B e size v' n' xs') (hg : w.grownBy w' v.ownBlock)
    (hat : v'.ownBlock = v.ownBlock ∨ v'.ownBlock = some w.heap.size) : Own B (Rw e size v' n' xs' * R) w' ∧ Below B w w' := by
  have hrow := h.row
  refine ⟨Own.turn hB h hg.size fun F hF ⟨_, hb⟩ => ⟨fun k => v'.ownBlock = some k, fun k hk => ?_, ⟨⟨ho.1, ?_⟩, fun k hk => hk⟩, fun k hk hn => hg.block k hk (fun e => hn (hb k e.symm))⟩, ?_⟩
  · rcases hat with e | e
    · exact .inl (hb k (e ▸ hk))
    · have : k = w.heap.size := by rw [e] at hk; injection hk with hk; exact hk.symm
      subst this
      exact .inr ⟨Nat.le_refl _, (ho.lt _ hk).2⟩
  · rcases ho.2 with hn | ⟨g, cap, cur, rfl, _, r⟩
    · exact .inl hn
    · exact .inr ⟨g, cap, cur, rfl, Nat.zero_le _, r⟩
  · exact (Below.refl B w).grown hg hB (fun k hk => (hrow.lt k hk).1)
/-- A row that is no nil, as a block. -/
theorem Own.rw_of_bk [Loc B R] {g : Nat} {t : TypeId} {cs : Array Value} {size n : Nat} (h : Own B (Bk g t cs * R) w) (hs : cs.size = n * size) (hn : n ≤ maxLen) : Own B (Rw t size (.slice (some ⟨g, 0, none⟩) n n) n cs.toList * R) w := by
  refine h.mono fun w F ⟨F1, F2, hd, h1, h2, ⟨hg, hh⟩, hr⟩ => ⟨F1, F2, hd, h1, h2, ⟨⟨by simpa using hs, .inr ⟨g, n, cs, rfl, Nat.zero_le _, hh, Nat.le_refl _, hn, hs, ?_⟩⟩, fun k hk => ?_⟩, hr⟩
  · rw [List.take_of_length_le (by simp [hs])]
  · simp [Value.ownBlock] at hk; subst hk; exact hg
end

/-- What stands while a statement of open order goes on: what is owned, and all below B as it was at w. -/
def St (B : Nat) (A : HP) (w w' : World) : Prop := B ≤ w'.heap.size ∧ Own B A w' ∧ Below B w w'
section
variable {B : Nat} {A : HP} {w w1 w2 : World}
theorem St.drew [Loc B A] (hB : B ≤ w.heap.size) (h : Own B A w) : St B A w w.drew := ⟨hB, h.drew hB, (Below.refl B w).drew⟩
theorem St.alloc [Loc B A] (h : St B A w w1) (o : Obj) : St B A w (w1.alloc o) := ⟨by have := h.1; simp; omega, h.2.1.alloc_keep h.1 o, h.2.2.alloc h.1 o⟩
theorem St.grown [Loc B A] (h : St B A w w1) (hb : Below w1.heap.size w1 w2) : St B A w w2 := ⟨Nat.le_trans h.1 hb.size, h.2.1.grown h.1 hb, h.2.2.trans (hb.mono h.1)⟩
end

/-- A row that the call made itself. -/
theorem Own.fresh {B : Nat} {R : HP} [Loc B R] {w w' : World} {e : TypeId} {size : Nat} {v : Value} {n : Nat} {xs : List Value} (hB : B ≤ w.heap.size) (h : Own B R w) (ho : w'.ownsRow w.heap.size e size v n xs) (hb : Below w.heap.size w w') : Own B (Rw e size v n xs * R) w' := by
  refine Own.turn hB h.emp hb.size fun F _ _ => ⟨fun k => v.ownBlock = some k, fun k hk => .inr (ho.lt k hk), ⟨⟨ho.1, ?_⟩, fun k hk => hk⟩, fun k hk _ => hb.block k hk⟩
  rcases ho.2 with hn | ⟨g, cap, cur, rfl, _, r⟩
  · exact .inl hn
  · exact .inr ⟨g, cap, cur, rfl, Nat.zero_le _, r⟩

/-- A slice value reads as these cells (each element one cell). -/
def Rd (w : World) (v : Value) (xs : List Value) : Prop := ∃ A c, v = .slice A xs.length c ∧ (xs ≠ [] → ∃ ad, A = some ad ∧ ∀ j u, xs[j]? = some u → w.cell? (ad.add j) = some u)
theorem add_block (a : Addr) (n : Nat) : (a.add n).block = a.block := by unfold Addr.add; split <;> rfl
theorem Rd.nil (w : World) : Rd w (.slice none 0 0) [] := ⟨none, 0, rfl, fun h => absurd rfl h⟩
theorem Rd.below {w w' : World} {v : Value} {xs : List Value} (h : Rd w v xs) (hb : Below w.heap.size w w') : Rd w' v xs := by
  obtain ⟨A, c, hv, hr⟩ := h
  refine ⟨A, c, hv, fun hne => ?_⟩
  obtain ⟨ad, ha, hc⟩ := hr hne
  exact ⟨ad, ha, fun j u hu => (hb.cell (World.block_lt_of_cell? w _ (hc j u hu))).trans (hc j u hu)⟩
theorem Rd.below' {w w' : World} {v : Value} {xs : List Value} {B : Nat} (h : Rd w v xs) (hlt : ∀ A n c, v = .slice (some A) n c → A.block < B) (hb : Below B w w') : Rd w' v xs := by
  obtain ⟨A, c, rfl, hr⟩ := h
  refine ⟨A, c, rfl, fun hne => ?_⟩
  obtain ⟨ad, rfl, hc⟩ := hr hne
  exact ⟨ad, rfl, fun j u hu => (hb.cell (by rw [add_block]; exact hlt _ _ _ rfl)).trans (hc j u hu)⟩
/-- An owned row reads as what it holds. -/
theorem Own.rd {B : Nat} {R : HP} {w : World} {e : TypeId} {v : Value} {n : Nat} {xs : List Value} (h : Own B (Rw e 1 v n xs * R) w) : Rd w v xs := by
  have hr := h.row
  have hl : xs.length = n := by have := hr.1; omega
  rcases hr.2 with ⟨rfl, hn⟩ | ⟨g, cap, cur, rfl, _⟩
  · subst hn
    obtain rfl : xs = [] := List.eq_nil_of_length_eq_zero hl
    exact Rd.nil w
  · exact ⟨_, cap, by rw [hl], fun _ => ⟨_, rfl, hr.cells (g := g) rfl⟩⟩
end Go.Proofs.YtfppancidgamjaaDoor
