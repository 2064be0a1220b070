/- The steps that a law of package coder is asked for, as its walk wants them. -/
import Derived.Test.YtnoofgcjhoiboaaLaw
import Derived.Deep.Fields
import Derived.ChangeSame
namespace Go.Proofs.Ytnoofgcjhoiboaa
set_option linter.unusedVariables false
set_option linter.unusedSimpArgs false
open Go.RowKit Go.Deep Go.ChangeShapes Go.WideShapes

/-- A step's four numbers. -/
structure Dn where
  verb : Int
  k : Int
  n : Int
  bits : Int
instance : Inhabited Dn := ⟨⟨0, 0, 0, 0⟩⟩
def Dn.cell (d : Dn) : Nat → Int
  | 0 => d.verb
  | 1 => d.k
  | 2 => d.n
  | _ => d.bits
def Dn.ok (d : Dn) : Prop := ∀ j, -9223372036854775808 ≤ d.cell j ∧ d.cell j ≤ 9223372036854775807

/-- A slice of steps, as it lies. -/
def RdDo (W : World) (v : Value) (l : List Dn) : Prop := ∃ (A : Option Addr) (c : Nat), v = .slice A l.length c ∧ ∀ i d, l[i]? = some d → ∃ b off, A = some ⟨b, off, none⟩ ∧ ∀ j, j < 4 → W.cell? ⟨b, off + (i * 4 + j), none⟩ = some (.int .i64 (d.cell j))

theorem RdDo.at_ {w : World} {A : Option Addr} {n c : Nat} {l : List Dn} (h : RdDo w (.slice A n c) l) : l.length = n ∧ ∀ i, i < n → ∃ b off d, A = some ⟨b, off, none⟩ ∧ l[i]? = some d ∧ ∀ j, j < 4 → w.cell? ⟨b, off + (i * 4 + j), none⟩ = some (.int .i64 (d.cell j)) := by
  obtain ⟨A', c', hv, hr⟩ := h
  injection hv with h1 h2 h3
  subst h1; subst h2; subst h3
  refine ⟨rfl, fun i hi => ?_⟩
  obtain ⟨b, off, ha, hc⟩ := hr i _ (List.getElem?_eq_getElem hi)
  exact ⟨b, off, _, ha, List.getElem?_eq_getElem hi, hc⟩

section
variable {H : Type} {enc : TypeId × Value → H} {P : Program} {w : World} {base : Nat} {spare : Nat → Bool} {held : Bool}
theorem open_slice_fields {t e : TypeId} {fs : Array Field} {fuel : Nat} {cs : List Value} {x : DataW H × List MemPlace} (ht : P.underlying t = some (.slice e)) (he : P.underlying e = some (.struct fs))
    (hone : oneCellFields P fs = true) (hC : P.cellsOf e = fs.size) (h : DataW.trod enc P w base spare held fuel t cs = some x) :
    (cs = [.slice none 0 0] ∧ x = (.nil, [])) ∨
    ∃ (a : Addr) (len cap m : Nat), cs = [.slice (some a) len cap] ∧ base ≤ a.block ∧ len ≤ cap ∧ cap ≤ maxLen ∧ m = (if spare a.block then cap else len) ∧
      ∀ i, i < m → ∃ n : Nat, ∀ (j : Nat) (f : Field), fs[j]? = some f → ∃ (v : Value) (y : DataW H × List MemPlace), w.cell? (a.add (i * fs.size + j)) = some v ∧ DataW.trod enc P w base spare held n f.type [v] = some y := by
  rcases open_slice ht h with h0 | ⟨a, len, cap, m, n, D, Pl, hcs, hb, hl, hm, hmm, hx, hi⟩
  · exact .inl h0
  · refine .inr ⟨a, len, cap, m, hcs, hb, hl, hm, hmm, fun i him => ?_⟩
    obtain ⟨cs', hc, ht'⟩ := hi i him
    rw [hC] at hc
    obtain ⟨ys, n', hn', hy, hlen, hyl, hf⟩ := DataW.trod_struct he ht'
    obtain ⟨_, hcl, hat⟩ := World.cells?_some hc
    refine ⟨n', fun j f hj => ?_⟩
    obtain ⟨ho, hk⟩ := hone_of hone j f hj
    have hjl : j < fs.size := (Array.getElem?_eq_some_iff.1 hj).1
    have hcell := hat j hjl
    have hv : cs'[j]? = some (cs'[j]'(by omega)) := List.getElem?_eq_getElem (by omega)
    have h1 := hf j f hj
    rw [ho, hk] at h1
    have hone' : (cs'.drop j).take 1 = [cs'[j]'(by omega)] := by
      rw [List.drop_eq_getElem_cons (by omega)]
      rfl
    rw [hone'] at h1
    have hys : ys[j]? = some (ys[j]'(by omega)) := List.getElem?_eq_getElem (by omega)
    refine ⟨_, _, ?_, h1.trans hys⟩
    rw [← Go.Deep.add_add, hcell, hv]

/-- A slice of steps that came in. -/
theorem rd_dos {t e ti : TypeId} {f0 f1 f2 f3 : Field} {v : Value} {d : DataW H} {p : List MemPlace} (ht : P.underlying t = some (.slice e)) (he : P.underlying e = some (.struct #[f0, f1, f2, f3])) (hone : oneCellFields P #[f0, f1, f2, f3] = true) (hC : P.cellsOf e = 4)
    (hti : P.underlying ti = some (.int .i64)) (h0 : f0.type = ti) (h1 : f1.type = ti) (h2 : f2.type = ti) (h3 : f3.type = ti)
    (hv : ∃ A n c, v = .slice A n c) (h : DataW.Trod enc P w base spare held t v d p) : ∃ (A : Option Addr) (l : List Dn) (c : Nat), v = .slice A l.length c ∧ RdDo w v l ∧ l.length ≤ c ∧ c ≤ maxLen ∧ ∀ a ∈ l, a.ok := by
  obtain ⟨A, n, c, rfl⟩ := hv
  obtain ⟨fuel, hf⟩ := h
  rcases open_slice_fields ht he hone hC hf with ⟨hcs, _⟩ | ⟨a, len, cap, m, hcs, hb, hl, hm, hmm, hi⟩
  · simp [Value.cells] at hcs
    obtain ⟨rfl, rfl, rfl⟩ := hcs
    exact ⟨none, [], 0, rfl, ⟨none, 0, rfl, by simp⟩, Nat.le_refl _, by unfold maxLen; omega, by simp⟩
  · simp [Value.cells] at hcs
    obtain ⟨rfl, rfl, rfl⟩ := hcs
    have hlm : n ≤ m := by rw [hmm]; split <;> omega
    have hel : ∀ i, i < n → ∃ q : Dn, (∀ j, j < 4 → w.cell? (a.add (i * 4 + j)) = some (.int .i64 (q.cell j))) ∧ q.ok := by
      intro i hin
      obtain ⟨n', hfs⟩ := hi i (by omega)
      have g : ∀ (j : Nat) (f : Field), (#[f0, f1, f2, f3] : Array Field)[j]? = some f → f.type = ti → ∃ z : Int, w.cell? (a.add (i * 4 + j)) = some (.int .i64 z) ∧ (-9223372036854775808 ≤ z ∧ z ≤ 9223372036854775807) := by
        intro j f hj hft
        obtain ⟨u, y, hc, hy⟩ := hfs j f hj
        obtain ⟨z, hz, _, hw⟩ := DataW.trod_int (k := .i64) (by rw [hft]; exact hti) hy
        simp at hz
        subst hz
        exact ⟨z, hc, by have := hw; simp [Lit.wf, IntKind.min, IntKind.max, IntKind.signed, IntKind.bits] at this; omega⟩
      obtain ⟨z0, c0, w0⟩ := g 0 f0 rfl h0
      obtain ⟨z1, c1, w1⟩ := g 1 f1 rfl h1
      obtain ⟨z2, c2, w2⟩ := g 2 f2 rfl h2
      obtain ⟨z3, c3, w3⟩ := g 3 f3 rfl h3
      refine ⟨⟨z0, z1, z2, z3⟩, fun j hj => ?_, fun j => ?_⟩
      · match j, hj with
        | 0, _ => exact c0
        | 1, _ => exact c1
        | 2, _ => exact c2
        | 3, _ => exact c3
      · match j with
        | 0 => exact w0
        | 1 => exact w1
        | 2 => exact w2
        | j + 3 => exact w3
    by_cases hn : n = 0
    · subst hn
      exact ⟨some a, [], c, rfl, ⟨some a, c, rfl, by simp⟩, Nat.zero_le _, hm, by simp⟩
    have hsp : a.spot = none := by
      obtain ⟨q, hq, _⟩ := hel 0 (by omega)
      have := World.cell?_spot (hq 0 (by omega))
      simpa [Addr.add] using this
    obtain ⟨b, off, spot⟩ := a
    simp only at hsp
    subst hsp
    obtain ⟨g, hg⟩ := choose_lt (n := n) (α := Dn) (p := fun i q => (∀ j, j < 4 → w.cell? ((⟨b, off, none⟩ : Addr).add (i * 4 + j)) = some (.int .i64 (q.cell j))) ∧ q.ok) hel
    refine ⟨some ⟨b, off, none⟩, (List.range n).map g, c, by simp, ⟨some ⟨b, off, none⟩, c, by simp, fun i d hd => ⟨b, off, rfl, fun j hj => ?_⟩⟩, by simpa using hl, hm, ?_⟩
    · have hin : i < n := by
        have := (List.getElem?_eq_some_iff.1 hd).1
        simpa using this
      have e : ((List.range n).map g)[i]? = some (g i) := by simp [hin]
      rw [e] at hd
      injection hd with hd
      subst hd
      have := (hg i hin).1 j hj
      rwa [Addr.add_lit] at this
    · intro x hx
      obtain ⟨i, hir, rfl⟩ := List.mem_map.1 hx
      exact (hg i (List.mem_range.1 hir)).2
end
end Go.Proofs.Ytnoofgcjhoiboaa
