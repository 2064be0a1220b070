/- Slices of structs as they lie: what they read as, and how they grow. -/
import Derived.Test.YtfppancidgamjaaDoorSl
import Derived.Lib.Hide
import Derived.Laws.OwnMore
import Derived.Laws.Rows
import Derived.KernelRfl
namespace Go.Proofs.YtfppancidgamjaaDoor
set_option linter.unusedVariables false
set_option linter.unusedSimpArgs false
open Go.RowKit

/-- A slice's elements, each of k cells, as they lie. -/
def RdA {α : Type} (k : Nat) (cs : α → List Value) (w : World) (A : Option Addr) (l : List α) : Prop :=
  ∀ i (h : i < l.length), ∃ b off, A = some ⟨b, off, none⟩ ∧ b < w.heap.size ∧ ∀ j u, (cs l[i])[j]? = some u → w.cell? ⟨b, off + i * k + j, none⟩ = some u
theorem RdA.below {α : Type} {k : Nat} {cs : α → List Value} {w w' : World} {A : Option Addr} {l : List α} (h : RdA k cs w A l) (hb : Below w.heap.size w w') : RdA k cs w' A l := fun i hi => by
  obtain ⟨b, off, ha, hlt, hc⟩ := h i hi
  exact ⟨b, off, ha, Nat.lt_of_lt_of_le hlt hb.size, fun j u hu => (hb.cell (p := ⟨b, off + i * k + j, none⟩) hlt).trans (hc j u hu)⟩
/-- The same where all that was there below B stays. -/
theorem RdA.below' {α : Type} {k B : Nat} {cs : α → List Value} {w w' : World} {A : Option Addr} {l : List α} (h : RdA k cs w A l) (hB : w.heap.size ≤ B) (hb : Below B w w') : RdA k cs w' A l := h.below (hb.mono hB)
theorem RdA.nil {α : Type} {k : Nat} {cs : α → List Value} {w : World} {A : Option Addr} : RdA k cs w A ([] : List α) := fun i h => absurd h (Nat.not_lt_zero _)

/-- What a call leaves that returns a slice of its own, or of what was there. -/
def RetA {α : Type} (k : Nat) (cs : α → List Value) (w : World) (l : List α) (e : Ending) (w' : World) : Prop := ∃ A c, e = .returned (.slice A l.length c) ∧ (l.length ≤ c ∧ c ≤ 9223372036854775807) ∧ RdA k cs w' A l ∧ Below w.heap.size w w'
theorem RetA.mk {α : Type} {k : Nat} {cs : α → List Value} {w w' : World} {l : List α} {e : Ending} {A : Option Addr} {n c : Nat} (he : e = .returned (.slice A n c)) (hn : n = l.length) (hc : n ≤ c ∧ c ≤ 9223372036854775807) (hr : RdA k cs w' A l) (hb : Below w.heap.size w w') : RetA k cs w l e w' := ⟨A, c, by rw [he, hn], by rw [← hn]; exact hc, hr, hb⟩
def flat {α : Type} (cs : α → List Value) (l : List α) : List Value := l.flatMap cs
theorem flat_snoc {α : Type} (cs : α → List Value) (l : List α) (a : α) : flat cs (l ++ [a]) = flat cs l ++ cs a := by unfold flat; rw [List.flatMap_append]; simp
theorem flat_get {α : Type} {k : Nat} {cs : α → List Value} (hk : ∀ a, (cs a).length = k) : ∀ (l : List α) (i : Nat) (h : i < l.length) (j : Nat) (u : Value), (cs l[i])[j]? = some u → (flat cs l)[i * k + j]? = some u
  | [], i, h, _, _, _ => absurd h (Nat.not_lt_zero _)
  | a :: l, 0, _, j, u, hu => by
    have hu : (cs a)[j]? = some u := hu
    show (cs a ++ flat cs l)[0 * k + j]? = some u
    rw [Nat.zero_mul, Nat.zero_add, List.getElem?_append_left (List.getElem?_eq_some_iff.1 hu).1]
    exact hu
  | a :: l, i + 1, h, j, u, hu => by
    show (cs a ++ flat cs l)[(i + 1) * k + j]? = some u
    rw [List.getElem?_append_right (by rw [hk, Nat.succ_mul]; omega), hk, show (i + 1) * k + j - k = i * k + j by rw [Nat.succ_mul]; omega]
    exact flat_get hk l i (by simpa using h) j u hu
theorem flat_length {α : Type} {k : Nat} {cs : α → List Value} (hk : ∀ a, (cs a).length = k) (l : List α) : (flat cs l).length = l.length * k := by
  induction l with
  | nil => simp [flat]
  | cons a l ih =>
    show (cs a ++ flat cs l).length = _
    rw [List.length_append, hk, ih, List.length_cons, Nat.succ_mul]; omega

/-- An owned row reads as what it holds. -/
theorem Own.rdA {α : Type} {k B : Nat} {cs : α → List Value} {R : HP} {w : World} {e : TypeId} {A : Option Addr} {n c : Nat} {l : List α} (hk : ∀ a, (cs a).length = k) (hn : n = l.length) (h : Own B (Rw e k (.slice A n c) n (flat cs l) * R) w) : RdA k cs w A l := by
  intro i hi
  have hr := h.row
  obtain ⟨g, cap, hf, _⟩ := hr.form (by omega)
  injection hf with h1 h2 h3
  subst h1
  have hlt := hr.lt g (by simp [Value.ownBlock])
  refine ⟨g, 0, rfl, hlt.2, fun j u hu => ?_⟩
  rw [Nat.zero_add]
  have := hr.cells (g := g) rfl (i * k + j) u (flat_get hk l i hi j u hu)
  rw [Addr.add_lit, Nat.zero_add] at this
  exact this

/-- An owned row's room. -/
theorem Own.cap {k B : Nat} {xs : List Value} {R : HP} {w : World} {e : TypeId} {A : Option Addr} {n c : Nat} (h : Own B (Rw e k (.slice A n c) n xs * R) w) : n ≤ c ∧ c ≤ 9223372036854775807 := by
  rcases h.row.2 with ⟨hv, hn⟩ | ⟨g, cap, cur, hv, _, _, h1, h2, _⟩
  · injection hv with _ h1 h2
    subst hn; subst h2
    exact ⟨Nat.le_refl _, by decide⟩
  · injection hv with _ _ h3
    subst h3
    exact ⟨h1, h2⟩
theorem cap0 : 0 ≤ 0 ∧ 0 ≤ 9223372036854775807 := ⟨Nat.le_refl _, by decide⟩
/-- One element more. -/
theorem row_append {P : Program} {B : Nat} {R : HP} [Loc B R] {w : World} (hB : B ≤ w.heap.size) {t e : TypeId} {i0 : TypeInfo} {z : Value} {k bytes : Nat} (ht : P.underlying t = some (.slice e)) (hi : P.info? e = some i0) (hz : i0.zero = some z)
    (hs : i0.size = k) (hy : i0.bytes = bytes) (hzs : z.cells.size = k) (hk : 0 < k) {v : Value} {n : Nat} {xs : List Value} (h : Own B (Rw e k v n xs * R) w) (cs : Array Value) (hcs : cs.size = k) (h1 : ∀ u ∈ cs.toList, u.oneCell' = true)
    (hn : n + 1 ≤ 9223372036854775807) (hby : (n + 1) * bytes ≤ 140737488355328) :
    ∃ g cap w', (Builtin.append_ #[t, t] t #[v, .slice (some ⟨w.heap.size, 0, none⟩) 1 1]).run P (w.alloc (.cells cs e)) = .ok (.slice (some ⟨g, 0, none⟩) (n + 1) cap) w' ∧
      Own B (Rw e k (.slice (some ⟨g, 0, none⟩) (n + 1) cap) (n + 1) (xs ++ cs.toList) * R) w' ∧ Below B w w' := by
  have h0 := h.alloc_keep hB (.cells cs e)
  have hB1 : B ≤ (w.alloc (.cells cs e)).heap.size := by simp; omega
  obtain ⟨v', w', hr, h2, h3, _, h5⟩ := run_append_own_at (P := P) (w.alloc (.cells cs e)) B t t e i0 z k bytes ht hi hz hs hy hzs hk v n xs h0.row
    ⟨w.heap.size, 0, none⟩ 1 1 cs.toList (by simp [hcs]) (fun j u hj => by
      rw [Addr.add_lit, Nat.zero_add, cell_of_row _ _ _ _ _ _ (heap_alloc_new w _)]
      simpa using hj) h1 (by unfold maxLen; omega) hby hB1
  have h6 := Own.appended hB1 h0 h2 h3 h5
  obtain ⟨g, cap, rfl, _⟩ := h2.form (by omega)
  exact ⟨g, cap, w', hr, h6.1, ((Below.refl B w).alloc hB _).trans h6.2⟩
/-- The operation that appends, met by its run. -/
theorem wpList_append_at {P : Program} {ops : Array Oper} {Q : Exit → Act → World → Prop} {rest : List Oper} {o : Oper} {a : Act} {w w' : World} (hgd : o.guard = none) (s x : Operand) (t : TypeId) {v u v' : Value}
    (ho : o.op = .call { callee := .builtin .append, args := #[s, x], argTypes := #[t, t] }) (hs : a.eval s = v) (hx : a.eval x = u) (hr : (Builtin.append_ #[t, t] o.type #[v, u]).run P w = .ok v' w')
    (h : wpList P ops Q rest (a.put o.dst v') w') : wpList P ops Q (o :: rest) a w := by
  refine wpList_plain hgd fun K hK => ?_
  unfold Oper.wp execOp
  simp only [ho, resolve, invoke, builtin, Sem.run_bind, Sem.run_pure, Result.andThen_ok, List.map_toArray, List.map_cons, List.map_nil, hs, hx, hr]
  exact hK _ _ h
/-- Two results: a struct that lies in memory, and a plain one. -/
theorem results_cell_tmp {P : Program} {fn : Func} {p q : Tmp} {ty : TypeId} (h : fn.results = #[.cell p ty, .tmp q]) (tmps : Array Value) (w : World) (g : Nat) (t : TypeId) (cs : Array Value) (fr : Nat × Nat) (d : TypeDesc)
    (hp : tmps.getD p undef = .pointer (some ⟨g, 0, none⟩)) (hg : w.heap[g]? = some (.cells cs t fr))
    (hu : P.underlying ty = some d) (hd : (match d with | .struct _ | .array _ _ => true | _ => false) = true) (hi : (P.info? ty).map (·.size) = some cs.size) :
    (results fn tmps).run P w = .ok (.tuple #[.agg cs, tmps.getD q undef]) w := by
  have hp' : tmps[p]?.getD undef = .pointer (some ⟨g, 0, none⟩) := by simpa using hp
  simp [results, h, hp', asAddr, run_loadVar_row w g t ty cs fr d hg hu hd hi]
theorem Own.step {B : Nat} {R : HP} [Loc B R] {w : World} {g : Nat} {t : TypeId} {cs : Array Value} (hB : B ≤ w.heap.size) (h : Own B (Bk g t cs * R) w) (i : Nat) (u : Value) :
    B ≤ (w.setCell ⟨g, i, none⟩ u).heap.size ∧ Own B (Bk g t (cs.setIfInBounds i u) * R) (w.setCell ⟨g, i, none⟩ u) ∧ Below B w (w.setCell ⟨g, i, none⟩ u) :=
  ⟨by simpa [World.setCell] using hB, h.set hB i u, h.below_set i u⟩
/-- A block of seven cells, stored over whole. -/
theorem Own.set7 {B : Nat} {R : HP} [Loc B R] {w : World} {g : Nat} {t : TypeId} {c0 c1 c2 c3 c4 c5 c6 : Value} (hB : B ≤ w.heap.size) (h : Own B (Bk g t #[c0, c1, c2, c3, c4, c5, c6] * R) w) (v0 v1 v2 v3 v4 v5 v6 : Value) :
    Own B (Bk g t #[v0, v1, v2, v3, v4, v5, v6] * R) (((((((w.setCell ⟨g, 0, none⟩ v0).setCell ⟨g, 1, none⟩ v1).setCell ⟨g, 2, none⟩ v2).setCell ⟨g, 3, none⟩ v3).setCell ⟨g, 4, none⟩ v4).setCell ⟨g, 5, none⟩ v5).setCell ⟨g, 6, none⟩ v6) ∧
    Below B w (((((((w.setCell ⟨g, 0, none⟩ v0).setCell ⟨g, 1, none⟩ v1).setCell ⟨g, 2, none⟩ v2).setCell ⟨g, 3, none⟩ v3).setCell ⟨g, 4, none⟩ v4).setCell ⟨g, 5, none⟩ v5).setCell ⟨g, 6, none⟩ v6) := by
  obtain ⟨k0, s0, b0⟩ := Own.step hB h 0 v0
  obtain ⟨k1, s1, b1⟩ := Own.step k0 s0 1 v1
  obtain ⟨k2, s2, b2⟩ := Own.step k1 s1 2 v2
  obtain ⟨k3, s3, b3⟩ := Own.step k2 s2 3 v3
  obtain ⟨k4, s4, b4⟩ := Own.step k3 s3 4 v4
  obtain ⟨k5, s5, b5⟩ := Own.step k4 s4 5 v5
  obtain ⟨k6, s6, b6⟩ := Own.step k5 s5 6 v6
  simp only [List.setIfInBounds_toArray, List.set_cons_zero, List.set_cons_succ] at s6
  exact ⟨s6, b0.trans (b1.trans (b2.trans (b3.trans (b4.trans (b5.trans b6)))))⟩
end Go.Proofs.YtfppancidgamjaaDoor
