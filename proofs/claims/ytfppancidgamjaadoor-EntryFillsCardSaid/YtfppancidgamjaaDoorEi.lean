/- Bytes appended to a row of bytes; files with the rows that their data lie in. -/
import Derived.Test.YtfppancidgamjaaDoorEf
namespace Go.Proofs.YtfppancidgamjaaDoor
set_option linter.unusedVariables false
set_option linter.unusedSimpArgs false
open Go.RowKit

theorem infoU8 : (Tryd.prog.info? 5).map (fun i => (i.zero, i.size, i.bytes)) = some (some (.int .u8 0), 1, 1) := by kernel_rfl
theorem run_append_none {P : Program} {w : World} (base : Nat) (t ty e : TypeId) (i : TypeInfo) (size : Nat) (ht : P.underlying t = some (.slice e)) (hi : P.info? e = some i)
    (v : Value) (n : Nat) (xs : List Value) (hown : w.ownsRow base e size v n xs) (c : Nat) :
    (Builtin.append_ #[t, t] ty #[v, .slice none 0 c]).run P w = .ok v w := by
  rcases hown.2 with ⟨rfl, rfl⟩ | ⟨g, cap, cur, rfl, _, _, hnc, _⟩
  · simp [Builtin.append_, run_underlying ht, sizeOf, typeInfo, hi, Builtin.lenOf, Builtin.firstCells]
  · simp [Builtin.append_, run_underlying ht, sizeOf, typeInfo, hi, Builtin.lenOf, Builtin.firstCells, hnc, storeCells]
theorem bytesU_length (l : List UInt8) : (bytesU l).length = l.length := by simp [bytesU]
theorem bytesU_append (a b : List UInt8) : bytesU (a ++ b) = bytesU a ++ bytesU b := by simp [bytesU]
set_option maxRecDepth 100000 in
/-- Bytes that one can read go behind a row that one owns. -/
theorem byte_append {B : Nat} {R : HP} [Loc B R] {w : World} (hB : B ≤ w.heap.size) {v : Value} {xs ys : List UInt8} {A : Option Addr} {c : Nat} (h : Own B (Rw 5 1 v xs.length (bytesU xs) * R) w) (hr : Rd w (.slice A ys.length c) (bytesU ys))
    (hn : xs.length + ys.length ≤ 140737488355328) :
    ∃ v' w', (Builtin.append_ #[39, 39] 39 #[v, .slice A ys.length c]).run Tryd.prog w = .ok v' w' ∧ Own B (Rw 5 1 v' (xs ++ ys).length (bytesU (xs ++ ys)) * R) w' ∧ Below B w w' := by
  obtain ⟨i0, hi, hz0, hz1, hz2⟩ := info_parts infoU8
  obtain ⟨A', c', hv, hrd⟩ := hr
  injection hv with e1 e2 e3
  subst e1; subst e3
  cases A with
  | none =>
    obtain rfl : ys = [] := by
      cases ys with
      | nil => rfl
      | cons y ys =>
        obtain ⟨ad, h1, _⟩ := hrd (by simp [bytesU])
        cases h1
    refine ⟨v, w, run_append_none (P := Tryd.prog) B 39 39 5 i0 1 Tryd.underlying39 hi v xs.length (bytesU xs) h.row c, by simpa using h, Below.refl B w⟩
  | some ad =>
    obtain ⟨v', w', hr, h2, h3, _, h5⟩ := run_append_own_at (P := Tryd.prog) w B 39 39 5 i0 _ 1 1 Tryd.underlying39 hi hz0 hz1 hz2 rfl (by omega) v xs.length (bytesU xs) h.row
      ad ys.length c (bytesU ys) (by rw [bytesU_length]; omega) (by
        intro j x hj
        have hne : bytesU ys ≠ [] := by intro e; rw [e] at hj; simp at hj
        obtain ⟨ad', h1, h2⟩ := hrd hne
        injection h1 with h1
        subst h1
        exact h2 j x hj) (by intro x hx; obtain ⟨y, _, rfl⟩ := List.mem_map.1 hx; rfl) (by unfold maxLen; omega) (by omega) hB
    have h6 := Own.appended hB h h2 h3 h5
    refine ⟨v', w', hr, ?_, h6.2⟩
    have := h6.1
    rw [List.length_append, bytesU_append]
    exact this
/-- A part of bytes that one can read. -/
theorem Rd.part {w : World} {A : Option Addr} {n c : Nat} {xs : List Value} (h : Rd w (.slice A n c) xs) (i m c' : Nat) (ys : List Value) (hy : ys = (xs.drop i).take m) (hm : ys.length = m) : Rd w (.slice (A.map (·.add i)) m c') ys := by
  obtain ⟨A', c1, hv, hrd⟩ := h
  injection hv with e1 e2 e3
  subst e1
  refine ⟨_, c', by rw [hm], fun hne => ?_⟩
  have hx : xs ≠ [] := by intro e; subst e; simp at hy; exact hne hy
  obtain ⟨ad, rfl, hc⟩ := hrd hx
  refine ⟨ad.add i, rfl, fun j u hj => ?_⟩
  rw [hy, List.getElem?_take] at hj
  split at hj
  · rw [List.getElem?_drop] at hj
    have := hc _ _ hj
    rw [Addr.add_add]
    exact this
  · cases hj
/-- The rows that files' data lie in. -/
def Dat : List (Fi × Value) → HP
  | [] => Emp
  | x :: l => Rw 5 1 x.2 x.1.data.length (bytesU x.1.data) * Dat l
instance Loc.dat {B : Nat} : (l : List (Fi × Value)) → Loc B (Dat l)
  | [] => inferInstanceAs (Loc B Emp)
  | x :: l => by
    have := Loc.dat (B := B) l
    exact inferInstanceAs (Loc B (Rw 5 1 x.2 x.1.data.length (bytesU x.1.data) * Dat l))
theorem dat_append (a b : List (Fi × Value)) : Dat (a ++ b) = Dat a * Dat b ∨ True := .inr trivial
theorem Own.dat {B : Nat} {w : World} : ∀ {l : List (Fi × Value)} {R : HP}, Own B (Dat l * R) w → ∀ x ∈ l, Rd w x.2 (bytesU x.1.data)
  | [], _, _, x, hx => absurd hx (by simp)
  | y :: l, R, h, x, hx => by
    have h1 : Own B (Rw 5 1 y.2 y.1.data.length (bytesU y.1.data) * (Dat l * R)) w := h.assoc
    rcases List.mem_cons.1 hx with rfl | hx
    · exact h1.rd
    · exact Own.dat h1.right x hx
theorem Own.dat_snoc {B : Nat} {w : World} {x : Fi × Value} : ∀ {l : List (Fi × Value)} {R : HP}, Own B (Dat l * (Rw 5 1 x.2 x.1.data.length (bytesU x.1.data) * R)) w → Own B (Dat (l ++ [x]) * R) w
  | [], R, h => (h.right.cast (show _ = (Rw 5 1 x.2 x.1.data.length (bytesU x.1.data) * R) from rfl)).mono (fun w F ⟨F1, F2, hd, h1, h2, ha, hr⟩ => ⟨F1, F2, hd, h1, h2, ⟨F1, fun _ => False, fun _ _ h => h, fun _ h => h, fun _ h => h.elim, ha, trivial⟩, hr⟩)
  | y :: l, R, h => by
    have h1 : Own B (Dat l * (Rw 5 1 x.2 x.1.data.length (bytesU x.1.data) * (Rw 5 1 y.2 y.1.data.length (bytesU y.1.data) * R))) w :=
      h.cast (by show ((Rw 5 1 y.2 y.1.data.length (bytesU y.1.data) * Dat l) * _) = _; ac_rfl)
    have h2 := Own.dat_snoc h1
    exact h2.cast (by show _ = ((Rw 5 1 y.2 y.1.data.length (bytesU y.1.data) * Dat (l ++ [x])) * R); ac_rfl)
end Go.Proofs.YtfppancidgamjaaDoor
