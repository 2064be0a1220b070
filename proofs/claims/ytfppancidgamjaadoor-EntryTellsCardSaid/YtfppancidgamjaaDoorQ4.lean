/- The walks over Right, Parts, Compare, Parent and Below of package path. -/
import Derived.Test.YtfppancidgamjaaDoorQ3
namespace Go.Proofs.YtfppancidgamjaaDoor
set_option linter.unusedVariables false
set_option linter.unusedSimpArgs false
open Go.RowKit

/-- May a text be a path? -/
def okPath (s : List UInt8) : Bool := decide (s.length ≤ 256) && (psplit s).all okPart
theorem psplit_len : ∀ s : List UInt8, (psplit s).length ≤ s.length + 1 ∧ ∀ x ∈ psplit s, x.length ≤ s.length
  | [] => by simp [psplit]
  | c :: l => by
    obtain ⟨h1, h2⟩ := psplit_len l
    by_cases hc : c = 47
    · subst hc
      rw [psplit_slash]
      refine ⟨by simp; exact h1, fun x hx => ?_⟩
      rcases List.mem_cons.1 hx with rfl | hx
      · simp
      · have := h2 x hx; simp; omega
    · obtain ⟨p, ps, hl⟩ : ∃ p ps, psplit l = p :: ps := by
        cases h : psplit l with
        | nil => exact absurd h (psplit_ne l)
        | cons p ps => exact ⟨p, ps, rfl⟩
      rw [hl] at h1 h2
      rw [psplit_other hc hl]
      refine ⟨by simp at h1 ⊢; omega, fun x hx => ?_⟩
      rcases List.mem_cons.1 hx with rfl | hx
      · have := h2 p List.mem_cons_self; simp; omega
      · have := h2 x (List.mem_cons_of_mem _ hx); simp; omega

set_option maxHeartbeats 800000 in
theorem right_any (s : ByteArray) (hs : s.size ≤ 9223372036854775807) (w : World) (h : Sh w) : Calls Tryd.prog 48 #[.string s] w fun e w' => e = .returned (.bool (okPath s.data.toList)) ∧ Below w.heap.size w w' := by
  have hsz : s.data.toList.length = s.size := rfl
  obtain ⟨hl1, hl2⟩ := psplit_len s.data.toList
  by_cases hle : s.size ≤ 256
  · have hsp := split_any s (by omega) w h
    have hv : okPath s.data.toList = (psplit s.data.toList).all okPart := by unfold okPath; rw [hsz, decide_eq_true hle]; rfl
    rw [hv]
    have hct := fun (W : World) (hr : RdS W (some ⟨w.heap.size, 0, none⟩) (psplit s.data.toList)) => containsFunc_any (some ⟨w.heap.size, 0, none⟩) (psplit s.data.toList).length (psplit s.data.toList) (by omega) (fun x hx => by have := hl2 x hx; omega) W hr
    have Hsp := Lib.hid hsp
    have Hct := Lib.hid hct
    have hle' : (s.size : Int) ≤ 256 := by omega
    clear hsp hct hv hl2 hl1
    generalize psplit s.data.toList = l at Hsp Hct
    cases hall : l.all okPart with
    | true =>
      have Hct2 := Hct.out
      rw [hall] at Hct2
      have Hct3 := Lib.hid Hct2
      clear Hct2 Hct
      go_enter Tryd.func48, Tryd.ntmps48
      go_wp2_with fail
      refine Hsp.out.mono ?_
      rintro e w1 ⟨rfl, r1, b1⟩
      go_wp2_with fail
      refine (Hct3.out w1 r1).mono ?_
      rintro e w2 ⟨rfl, b2⟩
      go_wp2
      go_ret
      exact ⟨rfl, b1.trans (b2.mono b1.size)⟩
    | false =>
      have Hct2 := Hct.out
      rw [hall] at Hct2
      have Hct3 := Lib.hid Hct2
      clear Hct2 Hct
      go_enter Tryd.func48, Tryd.ntmps48
      go_wp2_with fail
      refine Hsp.out.mono ?_
      rintro e w1 ⟨rfl, r1, b1⟩
      go_wp2_with fail
      refine (Hct3.out w1 r1).mono ?_
      rintro e w2 ⟨rfl, b2⟩
      go_wp2
      go_ret
      exact ⟨rfl, b1.trans (b2.mono b1.size)⟩
  · have hv : okPath s.data.toList = false := by unfold okPath; rw [hsz, decide_eq_false hle]; rfl
    rw [hv]
    have hle' : ¬ (s.size : Int) ≤ 256 := by omega
    clear hv hl1 hl2
    go_enter Tryd.func48, Tryd.ntmps48
    go_wp2
    go_ret
    exact ⟨rfl, Below.refl _ _⟩
end Go.Proofs.YtfppancidgamjaaDoor
