/- Slices of structs that a law is asked for, as its walk wants them. -/
import Derived.Test.YtfppancidgamjaaDoorLaw
import Derived.Test.YtfppancidgamjaaDoorEb
import Derived.Deep.Fields
import Derived.ChangeSame
namespace Go.Proofs.YtfppancidgamjaaDoor
set_option linter.unusedVariables false
set_option linter.unusedSimpArgs false
open Go.RowKit Go.Deep Go.ChangeShapes Go.WideShapes

section
variable {H : Type} {enc : TypeId × Value → H} {P : Program} {w : World} {base : Nat} {spare : Nat → Bool} {held : Bool}
theorem open_slice_fields {t e : TypeId} {fs : Array Field} {fuel : Nat} {cs : List Value} {x : DataW H × List MemPlace} (ht : P.underlying t = some (.slice e)) (he : P.underlying e = some (.struct fs))
    (hone : oneCellFields P fs = true) (hC : P.cellsOf e = fs.size) (h : DataW.trod enc P w base spare held fuel t cs = some x) :
    (cs = [.slice none 0 0] ∧ x = (.nil, [])) ∨
    ∃ (a : Addr) (len cap m : Nat), cs = [.slice (some a) len cap] ∧ base ≤ a.block ∧ len ≤ cap ∧ cap ≤ maxLen ∧ m = (if spare a.block then cap else len) ∧
      ∀ i, i < m → ∃ n : Nat, ∀ (j : Nat) (f : Field), fs[j]? = some f → ∃ (v : Value) (y : DataW H × List MemPlace), w.cell? (a.add (i * fs.size + j)) = some v ∧ DataW.trod enc P w base spare held n f.type [v] = some y := by
  rcases open_slice ht h with h0 | ⟨a, len, cap, m, n, D, Pl, hcs, hb, hl, hm, hmm, hx, hi⟩
  · exact .inl h0
  · refine .inr ⟨a, len, cap, m, hcs, hb, hl, hm, hmm, fun i him => ?_⟩
    obtain ⟨cs', hc, ht'⟩ := hi i him
    rw [hC] at hc
    obtain ⟨ys, n', hn', hy, hlen, hyl, hf⟩ := DataW.trod_struct he ht'
    obtain ⟨_, hcl, hat⟩ := World.cells?_some hc
    refine ⟨n', fun j f hj => ?_⟩
    obtain ⟨ho, hk⟩ := hone_of hone j f hj
    have hjl : j < fs.size := (Array.getElem?_eq_some_iff.1 hj).1
    have hcell := hat j hjl
    have hv : cs'[j]? = some (cs'[j]'(by omega)) := List.getElem?_eq_getElem (by omega)
    have h1 := hf j f hj
    rw [ho, hk] at h1
    have hone' : (cs'.drop j).take 1 = [cs'[j]'(by omega)] := by
      rw [List.drop_eq_getElem_cons (by omega)]
      rfl
    rw [hone'] at h1
    have hys : ys[j]? = some (ys[j]'(by omega)) := List.getElem?_eq_getElem (by omega)
    refine ⟨_, _, ?_, h1.trans hys⟩
    rw [← Go.Deep.add_add, hcell, hv]

/-- A slice of structs of one-cell fields that came in, by what each struct's own reading gives. -/
theorem rd_structs {α : Type} [Inhabited α] (cs : α → List Value) (ok : α → Prop) {t e : TypeId} {fs : Array Field} {v : Value} {d : DataW H} {p : List MemPlace} (ht : P.underlying t = some (.slice e)) (he : P.underlying e = some (.struct fs))
    (hone : oneCellFields P fs = true) (hC : P.cellsOf e = fs.size) (hpos : 0 < fs.size)
    (hel : ∀ (g : Nat → Value) (n : Nat), (∀ (j : Nat) (f : Field), fs[j]? = some f → ∃ y, DataW.trod enc P w base spare held n f.type [g j] = some y) → ∃ a, ok a ∧ ∀ j u, (cs a)[j]? = some u → j < fs.size ∧ u = g j)
    (hv : ∃ A n c, v = .slice A n c) (h : DataW.Trod enc P w base spare held t v d p) : ∃ (A : Option Addr) (l : List α) (c : Nat), v = .slice A l.length c ∧ RdA fs.size cs w A l ∧ l.length ≤ c ∧ c ≤ maxLen ∧ ∀ a ∈ l, ok a := by
  obtain ⟨A, n, c, rfl⟩ := hv
  obtain ⟨fuel, hf⟩ := h
  rcases open_slice_fields ht he hone hC hf with ⟨hcs, _⟩ | ⟨a, len, cap, m, hcs, hb, hl, hm, hmm, hi⟩
  · simp [Value.cells] at hcs
    obtain ⟨rfl, rfl, rfl⟩ := hcs
    exact ⟨none, [], 0, rfl, RdA.nil, Nat.le_refl _, by unfold maxLen; omega, by simp⟩
  · simp [Value.cells] at hcs
    obtain ⟨rfl, rfl, rfl⟩ := hcs
    have hlm : n ≤ m := by rw [hmm]; split <;> omega
    by_cases hn : n = 0
    · subst hn
      exact ⟨some a, [], c, rfl, RdA.nil, Nat.zero_le _, hm, by simp⟩
    have hsp : a.spot = none := by
      obtain ⟨n', hfs⟩ := hi 0 (by omega)
      obtain ⟨f, hf0⟩ : ∃ f, fs[0]? = some f := ⟨_, Array.getElem?_eq_getElem hpos⟩
      obtain ⟨v, y, hq, _⟩ := hfs 0 f hf0
      have := World.cell?_spot hq
      simpa [Addr.add] using this
    obtain ⟨b, off, spot⟩ := a
    simp only at hsp
    subst hsp
    have hel2 : ∀ i, i < n → ∃ q : α, ok q ∧ ∀ j u, (cs q)[j]? = some u → w.cell? ⟨b, off + i * fs.size + j, none⟩ = some u := by
      intro i hin
      obtain ⟨n', hfs⟩ := hi i (by omega)
      obtain ⟨q, hq, hcq⟩ := hel (fun j => (w.cell? ((⟨b, off, none⟩ : Addr).add (i * fs.size + j))).getD undef) n' (fun j f hj => by
        obtain ⟨v, y, hc, hy⟩ := hfs j f hj
        exact ⟨y, by rw [hc]; exact hy⟩)
      refine ⟨q, hq, fun j u hu => ?_⟩
      obtain ⟨hj, e⟩ := hcq j u hu
      obtain ⟨v, y, hc, _⟩ := hfs j _ (Array.getElem?_eq_getElem hj)
      rw [hc] at e
      rw [Addr.add_lit] at hc
      rw [Nat.add_assoc, hc, e]
      rfl
    obtain ⟨g, hg⟩ := choose_lt (n := n) (α := α) (p := fun i q => ok q ∧ ∀ j u, (cs q)[j]? = some u → w.cell? ⟨b, off + i * fs.size + j, none⟩ = some u) hel2
    refine ⟨some ⟨b, off, none⟩, (List.range n).map g, c, by simp, fun i hin => ?_, by simpa using hl, hm, ?_⟩
    · have hin' : i < n := by simpa using hin
      refine ⟨b, off, rfl, ?_, fun j u hu => ?_⟩
      · obtain ⟨n', hfs⟩ := hi i (by omega)
        obtain ⟨v, y, hq, _⟩ := hfs 0 _ (Array.getElem?_eq_getElem hpos)
        have := World.block_lt_of_cell? w _ hq
        rwa [add_block] at this
      · simp at hu
        exact (hg i hin').2 j u hu
    · intro x hx
      obtain ⟨i, hir, rfl⟩ := List.mem_map.1 hx
      exact (hg i (List.mem_range.1 hir)).1

theorem wf_ok {z : Int} (h : (Lit.int .i64 z).wf = true) : okI z := by
  have hw := h
  simp [Lit.wf, IntKind.min, IntKind.max, IntKind.signed, IntKind.bits] at hw
  unfold okI; omega
/-- A slice of bytes that came in, one level down. -/
theorem rd_u8s_in {t e : TypeId} {fuel : Nat} {v : Value} {x : DataW H × List MemPlace} (ht : P.underlying t = some (.slice e)) (he : P.underlying e = some (.int .u8)) (hC : P.cellsOf e = 1)
    (h : DataW.trod enc P w base spare held fuel t [v] = some x) : ∃ (A : Option Addr) (l : List UInt8) (c : Nat), v = .slice A l.length c ∧ Rd w v (bytesU l) ∧ l.length ≤ c ∧ c ≤ maxLen := by
  have hv : ∃ A n c, v = .slice A n c := by
    rcases open_slice1 ht hC h with ⟨hcs, _⟩ | ⟨a, len, cap, m, k, V, D, Pl, hcs, _⟩
    · injection hcs with h1; exact ⟨_, _, _, h1⟩
    · injection hcs with h1; exact ⟨_, _, _, h1⟩
  obtain ⟨A, n, c, rfl⟩ := hv
  obtain ⟨A', l, c', hv, hrd, h1, h2, _⟩ := rd_slice1 (fun x : UInt8 => Value.int .u8 (x.toNat : Int)) (fun _ => True) ht hC (fun fuel u y hy => by
    obtain ⟨n, hn, _, hw⟩ := DataW.trod_int he hy
    have hw := hw
    simp [Lit.wf, IntKind.min, IntKind.max, IntKind.signed, IntKind.bits] at hw
    refine ⟨UInt8.ofNat n.toNat, ?_, trivial⟩
    simp at hn
    subst hn
    congr 1
    simp
    omega) ⟨A, n, c, rfl⟩ ⟨fuel, show DataW.trod enc P w base spare held fuel t (Value.slice A n c).cells.toList = some _ from h⟩
  exact ⟨A', l, c', hv, hrd, h1, h2⟩
/-- A slice of entries that came in. -/
theorem rd_ens {t e ti tstr : TypeId} {f0 f1 f2 f3 f4 f5 f6 : Field} {v : Value} {d : DataW H} {p : List MemPlace} (ht : P.underlying t = some (.slice e)) (he : P.underlying e = some (.struct #[f0, f1, f2, f3, f4, f5, f6])) (hone : oneCellFields P #[f0, f1, f2, f3, f4, f5, f6] = true) (hC : P.cellsOf e = 7)
    (hti : P.underlying ti = some (.int .i64)) (hts : P.underlying tstr = some .string) (h0 : f0.type = tstr) (h1 : f1.type = ti) (h2 : f2.type = ti) (h3 : f3.type = ti) (h4 : f4.type = tstr) (h5 : f5.type = ti) (h6 : f6.type = ti)
    (hv : ∃ A n c, v = .slice A n c) (h : DataW.Trod enc P w base spare held t v d p) : ∃ (A : Option Addr) (l : List En) (c : Nat), v = .slice A l.length c ∧ RdA 7 enL w A l ∧ l.length ≤ c ∧ c ≤ maxLen ∧ ∀ a ∈ l, a.ok := by
  refine rd_structs enL En.ok ht he hone hC (of_decide_eq_true rfl) (fun g n hg => ?_) hv h
  have gi : ∀ (j : Nat) (f : Field), (#[f0, f1, f2, f3, f4, f5, f6] : Array Field)[j]? = some f → f.type = ti → ∃ z : Int, g j = .int .i64 z ∧ okI z := by
    intro j f hj hft
    obtain ⟨y, hy⟩ := hg j f hj
    obtain ⟨z, hz, _, hw⟩ := DataW.trod_int (k := .i64) (by rw [hft]; exact hti) hy
    exact ⟨z, by simpa using hz, wf_ok hw⟩
  have gs : ∀ (j : Nat) (f : Field), (#[f0, f1, f2, f3, f4, f5, f6] : Array Field)[j]? = some f → f.type = tstr → ∃ z : List UInt8, g j = .string (str z) ∧ z.length ≤ 9223372036854775807 := by
    intro j f hj hft
    obtain ⟨y, hy⟩ := hg j f hj
    obtain ⟨b, hb, _, hw⟩ := DataW.trod_string (by rw [hft]; exact hts) hy
    refine ⟨b.data.toList, by rw [str_data]; simpa using hb, ?_⟩
    have := hw
    simp [Lit.wf, maxLen] at this
    exact this
  obtain ⟨z0, e0, w0⟩ := gs 0 f0 rfl h0
  obtain ⟨z1, e1, w1⟩ := gi 1 f1 rfl h1
  obtain ⟨z2, e2, w2⟩ := gi 2 f2 rfl h2
  obtain ⟨z3, e3, w3⟩ := gi 3 f3 rfl h3
  obtain ⟨z4, e4, w4⟩ := gs 4 f4 rfl h4
  obtain ⟨z5, e5, w5⟩ := gi 5 f5 rfl h5
  obtain ⟨z6, e6, w6⟩ := gi 6 f6 rfl h6
  refine ⟨⟨z0, z1, z2, z3, z4, z5, z6⟩, ⟨w0, w1, w2, w3, w4, w5, w6⟩, fun j u hu => ?_⟩
  match j, hu with
  | 0, hu => exact ⟨of_decide_eq_true rfl, (Option.some.inj hu).symm.trans e0.symm⟩
  | 1, hu => exact ⟨of_decide_eq_true rfl, (Option.some.inj hu).symm.trans e1.symm⟩
  | 2, hu => exact ⟨of_decide_eq_true rfl, (Option.some.inj hu).symm.trans e2.symm⟩
  | 3, hu => exact ⟨of_decide_eq_true rfl, (Option.some.inj hu).symm.trans e3.symm⟩
  | 4, hu => exact ⟨of_decide_eq_true rfl, (Option.some.inj hu).symm.trans e4.symm⟩
  | 5, hu => exact ⟨of_decide_eq_true rfl, (Option.some.inj hu).symm.trans e5.symm⟩
  | 6, hu => exact ⟨of_decide_eq_true rfl, (Option.some.inj hu).symm.trans e6.symm⟩
  | j + 7, hu => simp [enL] at hu
/-- A slice of files that came in. -/
theorem rd_files {t e ti tstr tb tu : TypeId} {f0 f1 f2 f3 f4 f5 : Field} {v : Value} {d : DataW H} {p : List MemPlace} (ht : P.underlying t = some (.slice e)) (he : P.underlying e = some (.struct #[f0, f1, f2, f3, f4, f5])) (hone : oneCellFields P #[f0, f1, f2, f3, f4, f5] = true) (hC : P.cellsOf e = 6)
    (hti : P.underlying ti = some (.int .i64)) (hts : P.underlying tstr = some .string) (htb : P.underlying tb = some (.slice tu)) (htu : P.underlying tu = some (.int .u8)) (hCu : P.cellsOf tu = 1)
    (h0 : f0.type = tstr) (h1 : f1.type = ti) (h2 : f2.type = ti) (h3 : f3.type = ti) (h4 : f4.type = tb) (h5 : f5.type = tstr)
    (hv : ∃ A n c, v = .slice A n c) (h : DataW.Trod enc P w base spare held t v d p) : ∃ (A : Option Addr) (l : List (Fi × Value)) (c : Nat), v = .slice A l.length c ∧ RdF w A l ∧ l.length ≤ c ∧ c ≤ maxLen ∧ ∀ a ∈ l, a.1.wide := by
  suffices hel : ∀ (g : Nat → Value) (n : Nat), (∀ (j : Nat) (f : Field), (#[f0, f1, f2, f3, f4, f5] : Array Field)[j]? = some f → ∃ y, DataW.trod enc P w base spare held n f.type [g j] = some y) → ∃ a : Fi × Value, (a.1.wide ∧ Rd w a.2 (bytesU a.1.data)) ∧ ∀ j u, (fiL a)[j]? = some u → j < (#[f0, f1, f2, f3, f4, f5] : Array Field).size ∧ u = g j by
    obtain ⟨A, l, c, hv, hr, hl, hc, hok⟩ := rd_structs fiL (fun x => x.1.wide ∧ Rd w x.2 (bytesU x.1.data)) ht he hone hC (of_decide_eq_true rfl) hel hv h
    exact ⟨A, l, c, hv, ⟨hr, fun x hx => (hok x hx).2⟩, hl, hc, fun x hx => (hok x hx).1⟩
  intro g n hg
  have gi : ∀ (j : Nat) (f : Field), (#[f0, f1, f2, f3, f4, f5] : Array Field)[j]? = some f → f.type = ti → ∃ z : Int, g j = .int .i64 z ∧ okI z := by
    intro j f hj hft
    obtain ⟨y, hy⟩ := hg j f hj
    obtain ⟨z, hz, _, hw⟩ := DataW.trod_int (k := .i64) (by rw [hft]; exact hti) hy
    exact ⟨z, by simpa using hz, wf_ok hw⟩
  have gs : ∀ (j : Nat) (f : Field), (#[f0, f1, f2, f3, f4, f5] : Array Field)[j]? = some f → f.type = tstr → ∃ z : List UInt8, g j = .string (str z) ∧ z.length ≤ 9223372036854775807 := by
    intro j f hj hft
    obtain ⟨y, hy⟩ := hg j f hj
    obtain ⟨b, hb, _, hw⟩ := DataW.trod_string (by rw [hft]; exact hts) hy
    refine ⟨b.data.toList, by rw [str_data]; simpa using hb, ?_⟩
    have := hw
    simp [Lit.wf, maxLen] at this
    exact this
  obtain ⟨z0, e0, w0⟩ := gs 0 f0 rfl h0
  obtain ⟨z1, e1, w1⟩ := gi 1 f1 rfl h1
  obtain ⟨z2, e2, w2⟩ := gi 2 f2 rfl h2
  obtain ⟨z3, e3, w3⟩ := gi 3 f3 rfl h3
  obtain ⟨y4, hy4⟩ := hg 4 f4 rfl
  rw [h4] at hy4
  obtain ⟨A4, l4, c4, e4, r4, k4, m4⟩ := rd_u8s_in htb htu hCu hy4
  obtain ⟨z5, e5, w5⟩ := gs 5 f5 rfl h5
  refine ⟨(⟨z0, z1, z2, z3, l4, z5⟩, g 4), ⟨⟨w0, w1, w2, w3, w5, by have : maxLen = 9223372036854775807 := rfl; show l4.length ≤ _; omega⟩, r4⟩, fun j u hu => ?_⟩
  match j, hu with
  | 0, hu => exact ⟨of_decide_eq_true rfl, (Option.some.inj hu).symm.trans e0.symm⟩
  | 1, hu => exact ⟨of_decide_eq_true rfl, (Option.some.inj hu).symm.trans e1.symm⟩
  | 2, hu => exact ⟨of_decide_eq_true rfl, (Option.some.inj hu).symm.trans e2.symm⟩
  | 3, hu => exact ⟨of_decide_eq_true rfl, (Option.some.inj hu).symm.trans e3.symm⟩
  | 4, hu => exact ⟨of_decide_eq_true rfl, (Option.some.inj hu).symm⟩
  | 5, hu => exact ⟨of_decide_eq_true rfl, (Option.some.inj hu).symm.trans e5.symm⟩
  | j + 6, hu => simp [fiL] at hu
/-- A slice of bytes that came in. -/
theorem rd_u8s {t e : TypeId} {v : Value} {d : DataW H} {p : List MemPlace} (ht : P.underlying t = some (.slice e)) (he : P.underlying e = some (.int .u8)) (hC : P.cellsOf e = 1)
    (hv : ∃ A n c, v = .slice A n c) (h : DataW.Trod enc P w base spare held t v d p) : ∃ (A : Option Addr) (l : List UInt8) (c : Nat), v = .slice A l.length c ∧ Rd w v (bytesU l) ∧ l.length ≤ c ∧ c ≤ maxLen := by
  obtain ⟨A, n, c, rfl⟩ := hv
  obtain ⟨fuel, hf⟩ := h
  exact rd_u8s_in ht he hC (show DataW.trod enc P w base spare held fuel t [Value.slice A n c] = some _ from hf)
end
end Go.Proofs.YtfppancidgamjaaDoor
