/- A plan that came in as an argument. -/
import Derived.Test.YtmppagiaonbggaaDoorWj
import Derived.OpenShut
import Derived.Lib.SmallJoins
/- A plan that came in as an argument. -/
namespace Go.Proofs.YtmppagiaonbggaaDoor
set_option linter.unusedVariables false
set_option linter.unusedSimpArgs false
set_option maxRecDepth 100000
open Go.RowKit Go.ChangeShapes Go.WideShapes Go.ChangeAt

section
variable {H : Type} {enc : TypeId × Value → H} {P : Program} {W : World} {base : Nat} {spare : Nat → Bool} {held : Bool}
/-- An array of bytes, in cells. -/
theorem open_byte_array {t e : TypeId} {n fuel : Nat} {cs : List Value} {x : DataW H × List MemPlace} (ht : P.underlying t = some (.array n e)) (he : P.underlying e = some (.int .u8)) (hC : P.cellsOf e = 1) (hT : P.cellsOf t = n)
    (h : DataW.trod enc P W base spare held fuel t cs = some x) : ∃ l : List UInt8, l.length = n ∧ cs = bytesU l := by
  obtain ⟨xs, m, _, _, hl, hxl, hi⟩ := DataW.trod_array ht h
  rw [hT] at hl
  have hcell : ∀ i (hi' : i < cs.length), ∃ u : UInt8, cs[i] = .int .u8 (u.toNat : Int) := by
    intro i hi'
    have h1 := hi i (by omega)
    rw [hC, Nat.mul_one, List.drop_eq_getElem_cons hi', List.getElem?_eq_getElem (by omega)] at h1
    obtain ⟨z, hz, _, hwf⟩ := DataW.trod_int he h1
    simp only [List.take_succ_cons, List.take_zero, List.cons.injEq, and_true] at hz
    have hw := hwf
    simp [Lit.wf, IntKind.min, IntKind.max, IntKind.signed, IntKind.bits] at hw
    refine ⟨UInt8.ofNat z.toNat, ?_⟩
    rw [hz]
    congr 1
    have : (UInt8.ofNat z.toNat).toNat = z.toNat := by simp; omega
    rw [this]
    omega
  clear hi hxl h
  suffices H : ∀ cs : List Value, (∀ i (hi' : i < cs.length), ∃ u : UInt8, cs[i] = .int .u8 (u.toNat : Int)) → ∃ l : List UInt8, l.length = cs.length ∧ cs = bytesU l by
    obtain ⟨l, h1, h2⟩ := H cs hcell
    exact ⟨l, by omega, h2⟩
  intro cs
  induction cs with
  | nil => intro _; exact ⟨[], rfl, rfl⟩
  | cons c cs ih =>
    intro h
    obtain ⟨u, hu⟩ := h 0 (by simp)
    obtain ⟨l, h1, h2⟩ := ih (fun i hi' => h (i + 1) (by simp; omega))
    exact ⟨u :: l, by simp [h1], by simp only [List.getElem_cons_zero] at hu; rw [hu, h2]; rfl⟩
end

theorem rd_plan {H : Type} {enc : TypeId × Value → H} {W : World} {base b0 : Nat} {spare : Nat → Bool} {held : Bool} {r : Reach} {v : Value} {d : DataW H} {p : List MemPlace} (hval : Value.okWide Tryd.prog W r b0 27 v) (h : DataW.Trod enc Tryd.prog W base spare held 27 v d p) :
    ∃ q : Pn, v = .agg (pnL q).toArray ∧ q.ok := by
  have hs := Tryd.underlying27
  obtain ⟨cs, rfl, hsz⟩ := okWide_struct hs hval
  rw [show Tryd.prog.cellsOf 27 = 35 by kernel_rfl] at hsz
  obtain ⟨fuel, hf⟩ := h
  obtain ⟨y0, y1, y2, y3, n, hx, hl, h0, h1, h2, h3⟩ := Go.Joins.trod_struct4 hs hf
  have hint : Tryd.prog.cellsOf 3 = 1 := by kernel_rfl
  have harr : Tryd.prog.cellsOf 25 = 32 := by kernel_rfl
  simp only [hint, harr] at h0 h1 h2 h3
  have hcl : (Value.agg cs).cells.toList = cs.toList := by simp [Value.cells]
  rw [hcl] at h0 h1 h2 h3
  have hlen : cs.toList.length = 35 := by simpa using hsz
  obtain ⟨a, b, c, rest, hcs, hrl⟩ : ∃ a b c rest, cs.toList = a :: b :: c :: rest ∧ rest.length = 32 := by
    generalize cs.toList = l at hlen
    match l, hlen with
    | a :: b :: c :: rest, hl => exact ⟨a, b, c, rest, rfl, by simpa using hl⟩
  rw [hcs] at h0 h1 h2 h3
  simp only [List.drop_zero, List.drop_succ_cons, List.take_succ_cons, List.take_zero] at h0 h1 h2 h3
  obtain ⟨z0, e0, _, w0⟩ := DataW.trod_int Tryd.underlying3 h0
  obtain ⟨z1, e1, _, w1⟩ := DataW.trod_int Tryd.underlying3 h1
  obtain ⟨z2, e2, _, w2⟩ := DataW.trod_int Tryd.underlying3 h2
  obtain ⟨l, hll, e3⟩ := open_byte_array Tryd.underlying25 Tryd.underlying5 (by kernel_rfl) (by kernel_rfl) h3
  rw [List.take_of_length_le (by omega)] at e3
  simp only [List.cons.injEq, and_true] at e0 e1 e2
  refine ⟨⟨z0, z1, z2, l⟩, ?_, ⟨wf_ok w0, wf_ok w1, wf_ok w2, hll⟩⟩
  have : cs = (pnL ⟨z0, z1, z2, l⟩).toArray := by
    apply Array.toList_inj.1
    rw [hcs, e0, e1, e2, e3]
    simp [pnL]
  rw [this]
end Go.Proofs.YtmppagiaonbggaaDoor
