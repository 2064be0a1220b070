/- The writer that lets a carry wait, and the writer that carries at once, tell the same bytes: plain laws of their states. -/
import Derived.Test.YtnoofgcjhoiboaaLe
namespace Go.Proofs.Ytnoofgcjhoiboaa
set_option linter.unusedVariables false
set_option linter.unusedSimpArgs false
open Go.RowKit

/-- The state of the writer that carries at once. -/
structure RW where
  out : List Int
  low : Int
  width : Int

def carryR : List Int → List Int
  | [] => []
  | c :: l => if c = 255 then 0 :: carryR l else (c + 1) :: l
def carryL (l : List Int) : List Int := (carryR l.reverse).reverse
theorem carryR_full (c : Int) (l : List Int) (hc : c ≠ 255) : ∀ m : Nat, carryR (List.replicate m 255 ++ c :: l) = List.replicate m 0 ++ (c + 1) :: l
  | 0 => by simp [carryR, hc]
  | m + 1 => by
    show (if (255 : Int) = 255 then 0 :: carryR (List.replicate m 255 ++ c :: l) else _) = _
    rw [if_pos rfl, carryR_full c l hc m]
    rfl
theorem carryR_all : ∀ m : Nat, carryR (List.replicate m 255) = List.replicate m 0
  | 0 => rfl
  | m + 1 => by
    show (if (255 : Int) = 255 then 0 :: carryR (List.replicate m 255) else _) = _
    rw [if_pos rfl, carryR_all m]
    rfl
theorem carryL_end (l : List Int) (c : Int) (hc : c ≠ 255) (m : Nat) : carryL (l ++ [c] ++ List.replicate m 255) = l ++ [c + 1] ++ List.replicate m 0 := by
  unfold carryL
  rw [List.reverse_append, List.reverse_append, List.reverse_replicate]
  show (carryR (List.replicate m 255 ++ c :: l.reverse)).reverse = _
  rw [carryR_full c _ hc m, List.reverse_append, List.reverse_replicate]
  simp
theorem carryL_all (m : Nat) : carryL (List.replicate m 255) = List.replicate m 0 := by
  unfold carryL
  rw [List.reverse_replicate, carryR_all, List.reverse_replicate]

def rput1 (s : RW) (bound bit : Int) : RW := if bit = 0 then { s with width := bound } else { s with low := s.low + bound, width := s.width - bound }
def rcarry (s : RW) : RW := if 4294967296 ≤ s.low then { s with low := s.low - 4294967296, out := carryL s.out } else s
def rnorm (s : RW) : RW := if s.width < 16777216 then { out := s.out ++ [s.low / 16777216], low := s.low % 16777216 * 256, width := s.width * 256 } else s
def rput (s : RW) (bound bit : Int) : RW := rnorm (rcarry (rput1 s bound bit))
def rend (s : RW) : List Int := s.out ++ [s.low / 16777216, s.low / 65536 % 256, s.low / 256 % 256, s.low % 256]

/-- The bytes that a writer has, those that wait among them. -/
def WS.base (s : WS) : List Int := (if s.sm then s.out ++ [s.wait] else s.out) ++ List.replicate s.full.toNat 255
def WS.told (s : WS) : List Int := if 4294967296 ≤ s.low then carryL s.base else s.base
/-- No carry comes to a byte that cannot bear it. -/
def WS.calm (s : WS) : Prop := (s.sm = false ∨ s.wait = 255) → s.low + s.width ≤ 4294967296
structure Rel (s : WS) (r : RW) : Prop where
  out : r.out = s.told
  low : r.low = s.low % 4294967296
  width : r.width = s.width

theorem shift_told (s : WS) (width : Int) (dn : Bool) (ok : s.ok) (hc : 4294967296 ≤ s.low → s.sm = true ∧ s.wait ≠ 255) :
    (shiftS { s with width := width, dn := dn }).told = s.told ++ [s.low % 4294967296 / 16777216] ∧ (shiftS { s with width := width, dn := dn }).low = s.low % 4294967296 % 16777216 * 256 ∧ (shiftS { s with width := width, dn := dn }).low < 4294967296 ∧ 0 ≤ (shiftS { s with width := width, dn := dn }).low := by
  obtain ⟨out, low, wid0, wait, full, sm, dn0⟩ := s
  obtain ⟨l0, l1, w0, w1, t0, t1, f0, sz⟩ := ok
  simp only at l0 l1 t0 t1 f0 hc
  have hlow : (shiftS ⟨out, low, width, wait, full, sm, dn⟩).low = low * 256 % 4294967296 := shiftS_low _
  refine ⟨?_, by rw [hlow]; show low * 256 % 4294967296 = low % 4294967296 % 16777216 * 256; omega, by rw [hlow]; omega, by rw [hlow]; omega⟩
  have hnc : ¬ 4294967296 ≤ (shiftS ⟨out, low, width, wait, full, sm, dn⟩).low := by rw [hlow]; omega
  unfold WS.told
  rw [if_neg hnc]
  by_cases hbig : 4294967296 ≤ low
  · obtain ⟨rfl, hw⟩ := hc hbig
    have hcar : low / 4294967296 = 1 := by omega
    unfold shiftS
    rw [if_pos (Or.inr (show 4294967295 < low by omega)), if_pos hbig]
    unfold WS.base
    simp only [if_true, carryOf, hcar]
    rw [carryL_end _ _ hw]
    rw [show (wait + 1) % 256 = wait + 1 by omega, show ((255 : Int) + 1) % 256 = 0 by decide, show low / 16777216 % 256 = low % 4294967296 / 16777216 by omega]
    simp
  · rw [if_neg hbig]
    by_cases hlo : low < 4278190080
    · have hcar : low / 4294967296 = 0 := by omega
      unfold shiftS
      rw [if_pos (Or.inl hlo)]
      unfold WS.base
      simp only [if_true, carryOf, hcar]
      rw [show (wait + 0) % 256 = wait by omega, show ((255 : Int) + 0) % 256 = 255 by decide, show low / 16777216 % 256 = low % 4294967296 / 16777216 by omega]
      simp
    · unfold shiftS
      rw [if_neg (show ¬ (low < 4278190080 ∨ 4294967295 < low) by omega)]
      unfold WS.base
      simp only
      rw [show low % 4294967296 / 16777216 = 255 by omega, show (full + 1).toNat = full.toNat + 1 by omega, List.replicate_succ', ← List.append_assoc]

theorem shift_calm (s : WS) (ok : s.ok) (hs : s.low + s.width * 1 ≤ 8589934592) (hcalm : s.calm) (hw : 0 < s.width) : ∀ W : Int, W = s.width * 256 → ((shiftS s).sm = false ∨ (shiftS s).wait = 255) → (shiftS s).low + W ≤ 4294967296 := by
  obtain ⟨out, low, width, wait, full, sm, dn⟩ := s
  obtain ⟨l0, l1, w0, w1, t0, t1, f0, sz⟩ := ok
  simp only at l0 l1 t0 t1 f0 hs hw
  unfold WS.calm at hcalm
  simp only at hcalm
  rintro W rfl
  unfold shiftS
  split
  · rename_i h
    simp only at h ⊢
    intro hh
    rcases hh with hh | hh
    · cases hh
    · omega
  · rename_i h
    simp only at h ⊢
    intro hh
    have := hcalm hh
    omega

theorem put_rel {s : WS} {r : RW} {bound : Int} (bit : Int) {rm : Int} (hl : s.live (rm + 1)) (hcalm : s.calm) (hr : Rel s r) (b0 : 65536 ≤ bound) (b1 : bound + 65536 ≤ s.width) :
    Rel (putS s bound bit) (rput r bound bit) ∧ (putS s bound bit).calm := by
  obtain ⟨k0, k1, k2, k3, k4, k5, k6⟩ := put1_ok bit hl b0 b1
  have hsum := hl.sum
  have hl0 := hl.ok.low0
  have hww : (put1 s bound bit).low + (put1 s bound bit).width ≤ s.low + s.width := by unfold put1; split <;> simp <;> omega
  have hll : s.low ≤ (put1 s bound bit).low := by unfold put1; split <;> simp <;> omega
  have hsame : (put1 s bound bit).sm = s.sm ∧ (put1 s bound bit).wait = s.wait ∧ (put1 s bound bit).base = s.base := by unfold put1; split <;> exact ⟨rfl, rfl, rfl⟩
  have hcalm1 : (put1 s bound bit).calm := by
    unfold WS.calm
    rw [hsame.1, hsame.2.1]
    intro h
    have := hcalm h
    omega
  have hcar1 : 4294967296 ≤ (put1 s bound bit).low → (put1 s bound bit).sm = true ∧ (put1 s bound bit).wait ≠ 255 := by
    intro h
    constructor
    · cases hsm : (put1 s bound bit).sm with
      | true => rfl
      | false => have := hcalm1 (.inl hsm); omega
    · intro hw
      have := hcalm1 (.inr hw)
      omega
  have hrel1 : Rel (put1 s bound bit) (rcarry (rput1 r bound bit)) := by
    obtain ⟨h1, h2, h3⟩ := hr
    have e1 : (rput1 r bound bit).out = r.out ∧ (rput1 r bound bit).low = r.low + ((put1 s bound bit).low - s.low) ∧ (rput1 r bound bit).width = (put1 s bound bit).width := by
      unfold rput1 put1
      split
      · exact ⟨rfl, by simp, rfl⟩
      · exact ⟨rfl, by simp; omega, by simp [h3]⟩
    have hlow1 := k0.low1
    unfold rcarry
    by_cases hb : 4294967296 ≤ s.low
    · rw [if_neg (by rw [e1.2.1]; omega)]
      refine ⟨?_, by rw [e1.2.1]; omega, e1.2.2⟩
      rw [e1.1, h1, WS.told, WS.told, if_pos hb, if_pos (by omega), hsame.2.2]
    · by_cases hb1 : 4294967296 ≤ (put1 s bound bit).low
      · rw [if_pos (by rw [e1.2.1]; omega)]
        refine ⟨?_, by show (rput1 r bound bit).low - 4294967296 = _; rw [e1.2.1]; omega, e1.2.2⟩
        show carryL (rput1 r bound bit).out = _
        rw [e1.1, h1, WS.told, WS.told, if_neg hb, if_pos hb1, hsame.2.2]
      · rw [if_neg (by rw [e1.2.1]; omega)]
        refine ⟨?_, by rw [e1.2.1]; omega, e1.2.2⟩
        rw [e1.1, h1, WS.told, WS.told, if_neg hb, if_neg hb1, hsame.2.2]
  unfold rput putS renorm rnorm
  rw [hrel1.width]
  split
  · rename_i hlt
    have ok2 : WS.ok { put1 s bound bit with width := (put1 s bound bit).width * 256 } := ⟨k0.low0, k0.low1, by show 0 ≤ _ * 256; omega, by show _ * 256 < _; omega, k0.wait0, k0.wait1, k0.full0, k0.size⟩
    obtain ⟨t1, t2, t3, t4⟩ := shift_told (put1 s bound bit) ((put1 s bound bit).width * 256) (put1 s bound bit).dn k0 hcar1
    constructor
    · refine ⟨?_, ?_, ?_⟩
      · rw [t1]
        show (rcarry (rput1 r bound bit)).out ++ [(rcarry (rput1 r bound bit)).low / 16777216] = (put1 s bound bit).told ++ [(put1 s bound bit).low % 4294967296 / 16777216]
        rw [hrel1.out, hrel1.low]
      · show (rcarry (rput1 r bound bit)).low % 16777216 * 256 = _
        rw [hrel1.low]
        rw [Int.emod_eq_of_lt t4 t3]
        exact t2.symm
      · rw [shiftS_width]
    · intro h
      rw [shiftS_width]
      have hsh := shift_calm (put1 s bound bit) k0 (by omega) hcalm1 (by omega) _ rfl
      have e : ∀ W : Int, (shiftS { put1 s bound bit with width := W }).sm = (shiftS (put1 s bound bit)).sm ∧ (shiftS { put1 s bound bit with width := W }).wait = (shiftS (put1 s bound bit)).wait ∧ (shiftS { put1 s bound bit with width := W }).low = (shiftS (put1 s bound bit)).low := by
        intro W
        unfold shiftS
        simp only
        split <;> exact ⟨rfl, rfl, rfl⟩
      obtain ⟨e1, e2, e3⟩ := e ((put1 s bound bit).width * 256)
      rw [e1, e2] at h
      rw [e3]
      exact hsh h
  · exact ⟨hrel1, hcalm1⟩

theorem begin_rel : Rel begin0 ⟨[], 0, 4294967295⟩ ∧ begin0.calm := ⟨⟨rfl, rfl, rfl⟩, fun _ => by decide⟩

theorem shift_end (s : WS) (hw0 : 0 ≤ s.wait) (hw1 : s.wait ≤ 255) (hf : 0 ≤ s.full) (hn : s.low < 4294967296) : (shiftS { s with low := 0 }).out = s.told := by
  obtain ⟨out, low, width, wait, full, sm, dn⟩ := s
  simp only at hf hn hw0 hw1
  unfold WS.told
  rw [if_neg (by show ¬ 4294967296 ≤ low; omega)]
  unfold shiftS
  rw [if_pos (Or.inl (show (0 : Int) < 4278190080 by omega))]
  unfold WS.base
  cases sm
  · simp [carryOf]
  · simp [carryOf]
    omega

/-- The ends are the same. -/
theorem end_rel {s : WS} {r : RW} {rm : Int} (hl : s.live rm) (h6 : 6 ≤ rm) (hcalm : s.calm) (hr : Rel s r) : (endS s).out = rend r := by
  have hw := hl.wide
  have hcar : 4294967296 ≤ s.low → s.sm = true ∧ s.wait ≠ 255 := fun h => by
    constructor
    · cases hsm : s.sm with
      | true => rfl
      | false => have := hcalm (.inl hsm); omega
    · intro hw'; have := hcalm (.inr hw'); omega
  have o0 : WS.okr s 6 := ⟨hl.ok, by have := hl.room; omega⟩
  have hr0 : 0 ≤ r.low := by rw [hr.low]; omega
  have hr1 : r.low < 4294967296 := by rw [hr.low]; omega
  obtain ⟨a1, a2, a3, a4⟩ := shift_told s s.width true o0.ok hcar
  have o1 : (shiftS { s with width := s.width, dn := true }).okr 5 := shiftS_okr (r := 5) (by omega) ⟨⟨hl.ok.low0, hl.ok.low1, hl.ok.width0, hl.ok.width1, hl.ok.wait0, hl.ok.wait1, hl.ok.full0, hl.ok.size⟩, o0.room⟩
  rw [← hr.out, ← hr.low] at a1
  rw [← hr.low] at a2
  have he : endS s = shiftS { shiftS (shiftS (shiftS (shiftS { s with width := s.width, dn := true }))) with low := 0 } := rfl
  rw [he]
  clear he
  generalize shiftS { s with width := s.width, dn := true } = s1 at a1 a2 a3 a4 o1 ⊢
  obtain ⟨b1, b2, b3, b4⟩ := shift_told s1 s1.width s1.dn o1.ok (fun h => by omega)
  have o2 := shiftS_okr (r := 4) (by omega) o1
  change (shiftS s1).told = _ at b1
  change (shiftS s1).low = _ at b2
  change (shiftS s1).low < _ at b3
  change 0 ≤ (shiftS s1).low at b4
  generalize shiftS s1 = s2 at b1 b2 b3 b4 o2 ⊢
  obtain ⟨c1, c2, c3, c4⟩ := shift_told s2 s2.width s2.dn o2.ok (fun h => by omega)
  have o3 := shiftS_okr (r := 3) (by omega) o2
  change (shiftS s2).told = _ at c1
  change (shiftS s2).low = _ at c2
  change (shiftS s2).low < _ at c3
  change 0 ≤ (shiftS s2).low at c4
  generalize shiftS s2 = s3 at c1 c2 c3 c4 o3 ⊢
  obtain ⟨d1, d2, d3, d4⟩ := shift_told s3 s3.width s3.dn o3.ok (fun h => by omega)
  have o4 := shiftS_okr (r := 2) (by omega) o3
  change (shiftS s3).told = _ at d1
  change (shiftS s3).low = _ at d2
  change (shiftS s3).low < _ at d3
  change 0 ≤ (shiftS s3).low at d4
  generalize shiftS s3 = s4 at d1 d2 d3 d4 o4 ⊢
  rw [shift_end s4 o4.ok.wait0 o4.ok.wait1 o4.ok.full0 d3, d1, c1, b1, a1]
  have e1 : s1.low % 4294967296 / 16777216 = r.low / 65536 % 256 := by omega
  have e2 : s2.low % 4294967296 / 16777216 = r.low / 256 % 256 := by omega
  have e3 : s3.low % 4294967296 / 16777216 = r.low % 256 := by omega
  rw [e1, e2, e3]
  simp [rend]
end Go.Proofs.Ytnoofgcjhoiboaa
