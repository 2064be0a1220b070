/- How many bytes a writer's steps make: plain laws of its states. -/
import Derived.Test.YtnoofgcjhoiboaaCz
namespace Go.Proofs.Ytnoofgcjhoiboaa
set_option linter.unusedVariables false
set_option linter.unusedSimpArgs false
open Go.RowKit

/-- The bytes that there will be, but for the last four. -/
def WS.tot (s : WS) : Int := (s.out.length : Int) + s.full + (if s.sm then 1 else 0)

theorem shiftS_tot (s : WS) (h : 0 ≤ s.full) : (shiftS s).tot = s.tot + 1 ∧ 0 ≤ (shiftS s).full := by
  obtain ⟨out, low, width, wait, full, sm, dn⟩ := s
  simp only at h
  unfold shiftS
  split
  · constructor
    · simp only [WS.tot, List.length_append, List.length_replicate]
      cases sm <;> simp <;> omega
    · exact Int.le_refl 0
  · constructor
    · simp only [WS.tot]; omega
    · show 0 ≤ full + 1; omega
theorem shiftN_tot : ∀ (k : Nat) (s : WS), 0 ≤ s.full → (shiftN k s).tot = s.tot + k ∧ 0 ≤ (shiftN k s).full
  | 0, s, h => by simp [shiftN]; exact h
  | k + 1, s, h => by
    obtain ⟨h1, h2⟩ := shiftS_tot s h
    obtain ⟨h3, h4⟩ := shiftN_tot k _ h2
    exact ⟨by rw [shiftN, h3, h1]; omega, h4⟩

/-- At the end there are four bytes more. -/
theorem endS_len (s : WS) (h : 0 ≤ s.full) : ((endS s).out.length : Int) = s.tot + 4 := by
  obtain ⟨h1, h2⟩ := shiftN_tot 4 { s with dn := true } h
  have h3 : (shiftN 4 { s with dn := true }).tot = s.tot + 4 := h1
  rw [← h3]
  unfold endS
  generalize shiftN 4 { s with dn := true } = u at h2
  obtain ⟨out, low, width, wait, full, sm, dn⟩ := u
  simp only at h2
  unfold shiftS
  rw [if_pos (Or.inl (show (0 : Int) < 4278190080 by omega))]
  simp only [WS.tot, List.length_append, List.length_replicate]
  cases sm <;> simp <;> omega
theorem endS_dn (s : WS) : (endS s).dn = true := by
  unfold endS
  rw [shiftS_dn]
  have h : ∀ (k : Nat) (u : WS), (shiftN k u).dn = u.dn := by
    intro k
    induction k with
    | zero => intro u; rfl
    | succ k ih => intro u; rw [shiftN, ih, shiftS_dn]
  exact h 4 _
theorem WS.tot_nonneg {s : WS} (h : 0 ≤ s.full) : 0 ≤ s.tot := by unfold WS.tot; split <;> omega

theorem put1_parts (s : WS) (bound bit : Int) : (put1 s bound bit).tot = s.tot ∧ (put1 s bound bit).full = s.full := by unfold put1; split <;> exact ⟨rfl, rfl⟩
theorem renorm_tot (s : WS) (h : 0 ≤ s.full) : (renorm s).tot ≤ s.tot + 1 ∧ 0 ≤ (renorm s).full := by
  unfold renorm
  split
  · obtain ⟨h1, h2⟩ := shiftS_tot { s with width := s.width * 256 } h
    exact ⟨by rw [h1]; show s.tot + 1 ≤ _; omega, h2⟩
  · exact ⟨by omega, h⟩
theorem putS_tot (s : WS) (bound bit : Int) (h : 0 ≤ s.full) : (putS s bound bit).tot ≤ s.tot + 1 ∧ 0 ≤ (putS s bound bit).full := by
  obtain ⟨h1, h2⟩ := put1_parts s bound bit
  have := renorm_tot (put1 s bound bit) (by rw [h2]; exact h)
  rw [h1] at this
  exact this

/-- After c bits of no chance: a byte for eight of them. -/
def WS.eights (s : WS) (c : Nat) : Prop := 0 ≤ s.full ∧ ∃ j : Nat, j ≤ 7 ∧ 8 * s.tot + j ≤ c ∧ 2147483648 ≤ s.width * 2 ^ j
theorem even1_eights {s : WS} {c : Nat} {r : Int} (bit : Int) (hl : s.live r) (h : s.eights c) : (putS s (s.width / 2) bit).eights (c + 1) := by
  obtain ⟨hf, j, hj, hc, hw⟩ := h
  obtain ⟨h1, h2⟩ := put1_parts s (s.width / 2) bit
  have h3 : s.width / 2 ≤ (put1 s (s.width / 2) bit).width := by
    unfold put1; split
    · exact Int.le_refl _
    · show _ ≤ s.width - s.width / 2; omega
  have hwd := hl.wide
  unfold putS renorm
  split
  · rename_i hlt
    obtain ⟨h5, h6⟩ := shiftS_tot { put1 s (s.width / 2) bit with width := (put1 s (s.width / 2) bit).width * 256 } (by show 0 ≤ (put1 s (s.width / 2) bit).full; rw [h2]; exact hf)
    have h7 : (shiftS { put1 s (s.width / 2) bit with width := (put1 s (s.width / 2) bit).width * 256 }).tot = s.tot + 1 := by rw [h5]; show (put1 s (s.width / 2) bit).tot + 1 = _; rw [h1]
    refine ⟨h6, 0, by omega, ?_, ?_⟩
    · rw [h7]
      have : j = 7 := by
        match j, hj with
        | 0, _ => simp at hw; omega
        | 1, _ => simp at hw; omega
        | 2, _ => simp at hw; omega
        | 3, _ => simp at hw; omega
        | 4, _ => simp at hw; omega
        | 5, _ => simp at hw; omega
        | 6, _ => simp at hw; omega
        | 7, _ => rfl
      omega
    · rw [shiftS_width]; show _ ≤ (put1 s (s.width / 2) bit).width * 256 * 2 ^ 0; omega
  · rename_i hge
    refine ⟨by rw [h2]; exact hf, ?_⟩
    match j, hj with
    | 0, _ => exact ⟨1, by omega, by rw [h1]; omega, by simp at hw ⊢; omega⟩
    | 1, _ => exact ⟨2, by omega, by rw [h1]; omega, by simp at hw ⊢; omega⟩
    | 2, _ => exact ⟨3, by omega, by rw [h1]; omega, by simp at hw ⊢; omega⟩
    | 3, _ => exact ⟨4, by omega, by rw [h1]; omega, by simp at hw ⊢; omega⟩
    | 4, _ => exact ⟨5, by omega, by rw [h1]; omega, by simp at hw ⊢; omega⟩
    | 5, _ => exact ⟨6, by omega, by rw [h1]; omega, by simp at hw ⊢; omega⟩
    | 6, _ => exact ⟨7, by omega, by rw [h1]; omega, by simp at hw ⊢; omega⟩
    | 7, _ => exact ⟨7, by omega, by rw [h1]; omega, by simp at hw ⊢; omega⟩
theorem evenS_live : ∀ (l : List Int) (s : WS) (r : Int), 0 ≤ r → s.live (r + l.length) → (evenS s l).live r
  | [], s, r, _, h => by simpa [evenS] using h
  | b :: l, s, r, hr, h => by
    have hw := h.wide
    have e : r + ((b :: l).length : Int) = (r + l.length) + 1 := by simp; omega
    rw [e] at h
    exact evenS_live l _ r hr (putS_live b (by omega) h (by omega) (by omega))
theorem evenS_eights : ∀ (l : List Int) (s : WS) (c : Nat) (r : Int), 0 ≤ r → s.live (r + l.length) → s.eights c → (evenS s l).eights (c + l.length)
  | [], s, c, r, _, _, h => h
  | b :: l, s, c, r, hr, h, h8 => by
    have hw := h.wide
    have e : r + ((b :: l).length : Int) = (r + l.length) + 1 := by simp; omega
    rw [e] at h
    have h1 := even1_eights b h h8
    have h2 := putS_live (bound := s.width / 2) b (by omega) h (by omega) (by omega)
    have := evenS_eights l _ (c + 1) r hr h2 h1
    rw [show c + (b :: l).length = c + 1 + l.length by simp; omega]
    exact this
theorem bitsOf_len (n : Int) (m : Nat) : (bitsOf n m).length = m := by simp [bitsOf]
theorem bitsOf_one (n : Int) (k : Nat) : bitsOf (n / 2 ^ k) 1 = [bitOf n k] := by
  simp [bitsOf, bitOf, List.range_succ]
theorem begin0_eights : begin0.eights 0 := ⟨by decide, 0, by omega, by decide, by decide⟩
theorem eights_len {s : WS} {c : Nat} (h : s.eights c) : 4 ≤ (endS s).out.length ∧ 8 * (endS s).out.length ≤ c + 32 := by
  obtain ⟨hf, j, hj, hc, _⟩ := h
  have h1 := endS_len s hf
  have h2 := WS.tot_nonneg hf
  omega
end Go.Proofs.Ytnoofgcjhoiboaa
