/- The walk over the reference's Parent. -/
import Derived.Test.YtmbpggmcelmgnaaDoorQg
namespace Go.Proofs.YtmbpggmcelmgnaaDoor
set_option linter.unusedVariables false
set_option linter.unusedSimpArgs false
open Go.RowKit

theorem pjoin_take (l : List (List UInt8)) (k : Nat) (h0 : 0 < k) (hk : k < l.length) : pjoin (l.take (k + 1)) = pjoin (l.take k) ++ 47 :: l[k] := by
  rw [List.take_succ_eq_append_getElem hk, pjoin_append (by intro h; have h := congrArg List.length h; rw [List.length_take, List.length_nil] at h; omega) (by simp)]
  rfl
theorem pjoin_len : ∀ l : List (List UInt8), (pjoin l).length ≤ (l.map List.length).sum + l.length
  | [] => by simp [pjoin]
  | p :: ps => by
    by_cases h : ps = []
    · subst h; simp [pjoin]
    · rw [pjoin_cons p h]
      have := pjoin_len ps
      simp; omega
theorem psplit_sum (s : List UInt8) : ((psplit s).map List.length).sum + (psplit s).length = s.length + 1 := by
  induction s with
  | nil => simp [psplit]
  | cons c l ih =>
    by_cases hc : c = 47
    · subst hc; rw [psplit_slash]; simp; omega
    · obtain ⟨p, ps, hl⟩ : ∃ p ps, psplit l = p :: ps := by
        cases h : psplit l with
        | nil => exact absurd h (psplit_ne l)
        | cons p ps => exact ⟨p, ps, rfl⟩
      rw [psplit_other hc hl]
      rw [hl] at ih
      simp at ih ⊢; omega
theorem sum_take_le (l : List Nat) (k : Nat) : (l.take k).sum ≤ l.sum := by
  conv => rhs; rw [← List.take_append_drop k l, List.sum_append]
  omega

set_option maxHeartbeats 1600000 in
theorem refparent_any (s : ByteArray) (hs : s.size ≤ 4294967280) (w : World) : Calls Tryd.prog 16 #[.string s] w fun e w' => e = .returned (.string (str (parentOf s.data.toList))) ∧ Below w.heap.size w w' := by
  have hl0 := (psplit_len s.data.toList).1
  have hl2 : s.data.toList.length = s.size := rfl
  have Hs := Lib.hid (fun w1 => refsplit_any s (by omega) w1)
  have Ra := Lib.hid (fun w1 => refright_any s (by omega) w1)
  have n1 : ((psplit s.data.toList).length : Int) ≤ 4294967296 := by omega
  have hne := List.length_pos_iff.2 (psplit_ne s.data.toList)
  have hone : Hid ((psplit s.data.toList).length = 1 → parentOf s.data.toList = []) := Lib.hid (fun h => by
    unfold parentOf parent
    split
    · rw [psplit_one h]; rfl
    · rfl)
  have hlen : Hid (∀ k, (pjoin ((psplit s.data.toList).take k)).length ≤ 4294967290) := Lib.hid (fun k => by
    have h1 := pjoin_len ((psplit s.data.toList).take k)
    have h2 := psplit_sum s.data.toList
    have h3 := sum_take_le ((psplit s.data.toList).map List.length) k
    rw [← List.map_take] at h3
    have h4 : ((psplit s.data.toList).take k).length ≤ (psplit s.data.toList).length := by rw [List.length_take]; omega
    omega)
  have Hbad := Lib.hid (@parentOf_bad s.data.toList)
  have Hgood : Hid (okPath s.data.toList = true → parentOf s.data.toList = pjoin ((psplit s.data.toList).take ((psplit s.data.toList).length - 1))) := Lib.hid (fun h => by
    rw [parentOf_good h]; unfold parent; rw [List.dropLast_eq_take])
  clear hl0 hl2
  generalize parentOf s.data.toList = z at *
  generalize psplit s.data.toList = l at Hs n1 hne hone hlen Hgood
  generalize okPath s.data.toList = y at Ra Hbad Hgood
  by_cases hy : y = true
  · subst hy
    by_cases h1 : l.length = 1
    · have hz := Lib.hid (hone.out h1)
      have h1' : ((l.length : Int) == 1) = true := by simp; omega
      have h1n : (l.length == 1) = true := by simp; omega
      clear h1 hone hlen Hgood Hbad
      go_enter Tryd.func16, Tryd.ntmps16
      go_wp2_with fail
      refine (Hs.out w).mono ?_
      rintro e w1 ⟨A1, c1, rfl, r1, b1⟩
      clear r1
      go_wp2_with fail
      refine (Ra.out _).mono ?_
      rintro e w2 ⟨rfl, b2⟩
      have hb2 := b1.trans (b2.mono b1.size)
      clear b1 b2
      go_wp2
      go_ret
      exact ⟨by rw [hz.out]; rfl, hb2⟩
    · have h1' : ((l.length : Int) == 1) = false := by simp; omega
      have h1n : (l.length == 1) = false := by simp; omega
      have hz := Lib.hid (Hgood.out rfl)
      have Hl := Lib.hid h1
      clear h1 hone Hgood Hbad
      go_enter Tryd.func16, Tryd.ntmps16
      go_wp2_with fail
      refine (Hs.out w).mono ?_
      rintro e w1 ⟨A1, c1, rfl, r1, b1⟩
      have R1 := Lib.hid r1
      clear r1
      go_wp2_with fail
      refine (Ra.out _).mono ?_
      rintro e w2 ⟨rfl, b2⟩
      have hb2 := b1.trans (b2.mono b1.size)
      obtain ⟨p, o, rfl, q, d⟩ := (R1.out.below b2).at_ 0 hne
      have H2 := Lib.hid (R1.out.below b2)
      rw [Nat.add_zero] at d
      have hn0 : (0 : Int) < (l.length : Int) := by omega
      have hf : Hid (l[0] = pjoin (l.take 1)) := Lib.hid (by
        cases l with
        | nil => cases hne
        | cons a t => rfl)
      clear b1 b2 R1
      generalize l[0] = x at d hf
      clear hne
      have hl2 : Hid (2 ≤ l.length) := Lib.hid (by have := Hl.out; omega)
      go_wp2
      clear d
      go_loopg [4, 5] l.length (fun k v i wr => ∃ i' : Nat, 0 < i' ∧ i' < l.length ∧ k + i' = l.length + 1 ∧ i = .int .i64 i' ∧ v = .string (str (pjoin (l.take i'))) ∧ wr = w2)
      case atStart => exact ⟨1, by omega, by have := hl2.out; omega, by omega, rfl, congrArg (fun z => Value.string (str z)) hf.out, rfl⟩
      case round =>
        obtain ⟨i, hi0, hi1, hk, rfl, rfl, rfl⟩ := hrel
        by_cases hlt : (i : Int) + 1 < (l.length : Int)
        · obtain ⟨j, rfl⟩ : ∃ j, gk = j + 1 := ⟨gk - 1, by omega⟩
          have hil : i < l.length := by omega
          have hil2 : (i : Int) < (l.length : Int) := by omega
          have i0 : (0 : Int) ≤ (i : Int) := by omega
          obtain ⟨p', o', hA, q', d'⟩ := H2.out.at_ i hil
          injection hA with hA
          injection hA with hA1 hA2
          subst hA1; subst hA2
          have Hnext := Lib.hid (pjoin_take l i hi0 hil)
          have hz1 := hlen.out i
          have hz2 := hlen.out (i + 1)
          rw [Hnext.out] at hz2
          simp at hz2
          have Hk := Lib.hid hk
          clear hk
          generalize l[i] = y at d' Hnext hz2
          generalize pjoin (l.take i) = u at *
          have hr1 := fun W => run_string_add_sum (P := Tryd.prog) (w := W) (str u) ⟨#[47]⟩ (by show u.length + 1 ≤ _; omega)
          have hr2 := fun W => run_string_add_sum (P := Tryd.prog) (w := W) (str u ++ ⟨#[47]⟩) (str y) (by rw [ByteArray.size_append]; show u.length + 1 + y.length ≤ _; omega)
          have He : Hid (str u ++ ⟨#[47]⟩ ++ str y = str (pjoin (l.take (i + 1)))) := Lib.hid (by rw [Hnext.out]; refine Go.WideShapes.bytes_inj ?_; simp [str])
          clear hz1 hz2
          go_wp2
          go_roundg j
          case measure => omega
          case rel => exact ⟨i + 1, by omega, by omega, by have := Hk.out; omega, rfl, congrArg Value.string He.out, rfl⟩
        · have he : l.length - 1 = i := by have := Hl.out; omega
          rw [he] at hz
          go_wp2
          go_ret
          exact ⟨by rw [hz.out]; rfl, hb2⟩
  · have hy0 : y = false := by cases y <;> simp_all
    subst hy0
    have hz := Lib.hid (Hbad.out rfl)
    clear hone hlen Hgood Hbad hy
    go_enter Tryd.func16, Tryd.ntmps16
    go_wp2_with fail
    refine (Hs.out w).mono ?_
    rintro e w1 ⟨A1, c1, rfl, r1, b1⟩
    clear r1
    go_wp2_with fail
    refine (Ra.out _).mono ?_
    rintro e w2 ⟨rfl, b2⟩
    have hb2 := b1.trans (b2.mono b1.size)
    clear b1 b2
    go_wp2
    go_ret
    exact ⟨by rw [hz.out]; rfl, hb2⟩
end Go.Proofs.YtmbpggmcelmgnaaDoor
