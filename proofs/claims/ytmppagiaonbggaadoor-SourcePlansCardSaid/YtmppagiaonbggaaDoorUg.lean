/- Texts of one proof, merged: XHf XHg XHk. -/
import Derived.Test.YtmppagiaonbggaaDoorUf
/- The walk over Root of the reference's digest. -/
namespace Go.Proofs.YtmppagiaonbggaaDoor
set_option linter.unusedVariables false
set_option linter.unusedSimpArgs false
set_option maxRecDepth 100000
open Go.RowKit

def iL (l : List Int) : List Value := l.map (Value.int .i64)
theorem iL_len (l : List Int) : (iL l).length = l.length := by simp [iL]
theorem int_snoc {B : Nat} {R : HP} [Loc B R] {w : World} (hB : B ≤ w.heap.size) {v : Value} {xs : List Int} (h : Own B (Rw 3 1 v xs.length (iL xs) * R) w) (z : Int) (hl : xs.length ≤ 1099511627775) :
    ∃ g cap w', (Builtin.append_ #[85, 85] 85 #[v, .slice (some ⟨w.heap.size, 0, none⟩) 1 1]).run Tryd.prog (w.alloc (.cells #[.int .i64 z] 3)) = .ok (.slice (some ⟨g, 0, none⟩) (xs ++ [z]).length cap) w' ∧
      Own B (Rw 3 1 (.slice (some ⟨g, 0, none⟩) (xs ++ [z]).length cap) (xs ++ [z]).length (iL (xs ++ [z])) * R) w' ∧ Below B w w' := by
  obtain ⟨i0, hi, hz0, hz1, hz2⟩ := info_parts info_int'
  have h1 := h.alloc_keep hB (.cells #[.int .i64 z] 3)
  have hB1 : B ≤ (w.alloc (.cells #[.int .i64 z] 3)).heap.size := by simp; omega
  obtain ⟨v', w', hr, h2, h3, _, h5⟩ := run_append_own_at (P := Tryd.prog) (w.alloc (.cells #[.int .i64 z] 3)) B 85 85 3 i0 _ 1 8 Tryd.underlying85 hi hz0 hz1 hz2 rfl (by omega) v xs.length (iL xs) h1.row
    ⟨w.heap.size, 0, none⟩ 1 1 [.int .i64 z] rfl (by
      intro j x hj
      rw [Addr.add_lit, Nat.zero_add]
      match j, hj with
      | 0, hj => simp at hj; subst hj; simp) (by intro x hx; simp at hx; subst hx; rfl) (by unfold maxLen; omega) (by omega) hB1
  have h6 := Own.appended hB1 h1 h2 h3 h5
  rw [show xs.length + 1 = (xs ++ [z]).length by simp, show iL xs ++ [.int .i64 z] = iL (xs ++ [z]) by simp [iL]] at h6
  obtain ⟨g, cap, rfl, _⟩ := h6.1.row.form (by simp)
  exact ⟨g, cap, w', hr, h6.1, ((Below.refl B w).alloc hB _).trans h6.2⟩
theorem Own.ri_row {B : Nat} {R : HP} {w : World} {g c : Nat} {l : List Int} (h : Own B (Rw 3 1 (.slice (some ⟨g, 0, none⟩) l.length c) l.length (iL l) * R) w) : Ri w g l := fun j hj => by
  have := h.row.cells (g := g) rfl j (.int .i64 (l.getD j 0)) (by simp [iL, List.getD_eq_getElem?_getD, hj])
  rwa [Addr.add_lit, Nat.zero_add] at this
theorem valD_want (n : Nat) (p : Int) : valD (List.replicate n 0 ++ [p]) = p * 65536 ^ n := by rw [valD_snoc, valD_zero, List.length_replicate, Int.zero_add]
theorem rootS_in (P pw : Nat) : ∀ b r, r + 2 ^ b ≤ 2 ^ 37 → rootS P pw b r < 2 ^ 37
  | 0, r, h => by rw [rootS]; omega
  | b + 1, r, h => by
    rw [rootS]
    have e : 2 ^ (b + 1) = 2 ^ b + 2 ^ b := by rw [Nat.pow_succ]; omega
    have hp := Nat.two_pow_pos b
    rw [e] at h
    refine rootS_in P pw b _ ?_
    split <;> omega
set_option maxHeartbeats 3200000 in
theorem root_any (p pw : Nat) (hp : p ≤ 1000) (hpw : 2 ≤ pw ∧ pw ≤ 3) (w : World) :
    Calls Tryd.prog 66 #[.int .i64 (p : Int), .int .i64 (pw : Int)] w fun e w' => e = .returned (.int .i64 ((rootN p pw : Nat) : Int)) ∧ Below w.heap.size w w' := by
  obtain ⟨hpw2, hpw3⟩ := hpw
  obtain ⟨P, hP⟩ : ∃ P, p * 2 ^ (32 * pw) = P := ⟨_, rfl⟩
  obtain ⟨res, hres⟩ : ∃ res, rootS P pw 37 0 = res := ⟨_, rfl⟩
  have hrn : rootN p pw = res % 4294967296 := by unfold rootN; rw [hP, hres]
  have hri : res < 2 ^ 37 := by rw [← hres]; exact rootS_in P pw 37 0 (by omega)
  have HP := Lib.hid hP
  have Hres := Lib.hid hres
  have r1 : (res : Int) ≤ 137438953472 := by omega
  rw [hrn]
  have Hmod : Hid (((res % 4294967296 : Nat) : Int) = (res : Int) % 4294967296) := Lib.hid (by omega)
  rw [Hmod.out]
  have hb0 := Below.refl w.heap.size w
  have p0 : (0 : Int) ≤ (p : Int) := by omega
  have p1 : (p : Int) ≤ 1000 := by omega
  have pw2 : (2 : Int) ≤ (pw : Int) := by omega
  have pw3 : (pw : Int) ≤ 3 := by omega
  clear hP hres hrn hri hp
  go_enter Tryd.func66, Tryd.ntmps66
  go_wp2
  generalize hX0 : w.heap.size = X0 at *
  go_loopg [5, 6] 37 (fun kk v5 v6 wr => ∃ r : Nat, v5 = .int .i64 (r : Int) ∧ v6 = .int .i64 ((kk : Int) - 1) ∧ kk ≤ 37 ∧ Hid (r + 2 ^ kk ≤ 2 ^ 37 ∧ rootS P pw kk r = res) ∧ Below X0 w wr)
  case atStart => exact ⟨0, rfl, rfl, by omega, Lib.hid ⟨by omega, Hres.out⟩, hb0⟩
  case round =>
    clear hb0
    obtain ⟨r, rfl, rfl, hk, hr, hb⟩ := hrel
    by_cases h0 : gk = 0
    · subst h0
      obtain rfl : r = res := hr.out.2
      have HW := Lib.hid (rword_any (r : Int) (by omega) (by omega) wr)
      clear hr
      go_wp2_with fail
      refine HW.out.mono ?_
      rintro e w2 ⟨rfl, rfl⟩
      go_wp2
      go_ret
      exact ⟨rfl, by rw [hX0]; exact hb⟩
    · obtain ⟨b, rfl⟩ : ∃ b, gk = b + 1 := ⟨gk - 1, by omega⟩
      have e1 : ((b + 1 : Nat) : Int) - 1 = (b : Int) := by omega
      rw [e1]
      have b0 : (0 : Int) ≤ (b : Int) := by omega
      have b36 : (b : Int) ≤ 36 := by omega
      have hb36 : b ≤ 36 := by omega
      clear hk e1
      go_wp2
      go_loopg [7, 8] b (fun k2 v7 v8 wr2 => ∃ i s : Nat, k2 + i = b ∧ v7 = .int .i64 (s : Int) ∧ v8 = .int .i64 (i : Int) ∧ Hid (s = 2 ^ i) ∧ wr2 = wr)
      case atStart => exact ⟨0, 1, by omega, rfl, rfl, Lib.hid rfl, rfl⟩
      case round =>
        obtain ⟨i, s, hk2, rfl, rfl, hs, rfl⟩ := hrel
        have i0 : (0 : Int) ≤ (i : Int) := by omega
        have s1 : s ≤ 2 ^ 36 := by rw [hs.out]; exact Nat.pow_le_pow_right (by omega) (by omega)
        have s2 : (s : Int) ≤ 68719476736 := by omega
        by_cases hlt : (i : Int) < (b : Int)
        · obtain ⟨j, rfl⟩ : ∃ j, gk = j + 1 := ⟨gk - 1, by omega⟩
          obtain ⟨t, ht⟩ : ∃ t, s * 2 = t := ⟨_, rfl⟩
          have e2 : (s : Int) * 2 = (t : Int) := by omega
          have t1 : (t : Int) ≤ 137438953472 := by omega
          have hs2 := Lib.hid (show t = 2 ^ (i + 1) by rw [← ht, hs.out, Nat.pow_succ])
          clear hs ht
          go_wp2
          go_roundg j
          case measure => omega
          case rel => exact ⟨i + 1, t, by omega, rfl, rfl, hs2, rfl⟩
        · obtain rfl : i = b := by omega
          obtain ⟨X, hX⟩ : ∃ X, r + s = X := ⟨_, rfl⟩
          have e3 : (r : Int) + (s : Int) = (X : Int) := by omega
          have e4 : 2 ^ (i + 1) = s + s := by rw [hs.out, Nat.pow_succ]; omega
          have hXb : X + s ≤ 2 ^ 37 := by have := hr.out.1; omega
          have hX1 : (X : Int) ≤ 137438953472 := by omega
          obtain ⟨u, hu⟩ : ∃ u, X / 65536 = u := ⟨_, rfl⟩
          obtain ⟨d0, hd0⟩ : ∃ d, X % 65536 = d := ⟨_, rfl⟩
          obtain ⟨d1, hd1⟩ : ∃ d, u % 65536 = d := ⟨_, rfl⟩
          obtain ⟨d2, hd2⟩ : ∃ d, u / 65536 = d := ⟨_, rfl⟩
          have q0 : (X : Int).tmod 65536 = (d0 : Int) := by rw [Int.tmod_eq_emod_of_nonneg (by omega)]; omega
          have q1 : (X : Int).tdiv 65536 = (u : Int) := by rw [Int.tdiv_eq_ediv_of_nonneg (by omega)]; omega
          have q2 : (u : Int).tmod 65536 = (d1 : Int) := by rw [Int.tmod_eq_emod_of_nonneg (by omega)]; omega
          have q3 : (u : Int).tdiv 65536 = (d2 : Int) := by rw [Int.tdiv_eq_ediv_of_nonneg (by omega)]; omega
          have HL : Hid (Dig [(d0 : Int), (d1 : Int), (d2 : Int)] ∧ valD [(d0 : Int), (d1 : Int), (d2 : Int)] = (X : Int)) := Lib.hid ⟨fun d hd => by simp at hd; omega, by simp only [valD]; omega⟩
          have HR : Hid (X ^ pw ≤ P → X + 2 ^ i ≤ 2 ^ 37 ∧ rootS P pw i X = res) := Lib.hid fun h => ⟨by rw [← hs.out]; omega, by have := hr.out.2; rw [rootS, ← hs.out, hX, if_pos h] at this; exact this⟩
          have HR2 : Hid (¬ X ^ pw ≤ P → r + 2 ^ i ≤ 2 ^ 37 ∧ rootS P pw i r = res) := Lib.hid fun h => ⟨by rw [← hs.out]; omega, by have := hr.out.2; rw [rootS, ← hs.out, hX, if_neg h] at this; exact this⟩
          have u0 : (0 : Int) ≤ (u : Int) := by omega
          have v0 : (0 : Int) ≤ (d2 : Int) := by omega
          have v1 : (d2 : Int) ≤ 65535 := by omega
          have u1 : (u : Int) ≤ 2097152 := by omega
          have Hd := Lib.hid (show (d0 : Int) ≤ 65535 ∧ (d1 : Int) ≤ 65535 ∧ (d2 : Int) ≤ 65535 by omega)
          generalize wr = wb at *
          have o1 := (Own.start wb.heap.size wb).new (Nat.le_refl _) 3 (iA [(d0 : Int), (d1 : Int), (d2 : Int)])
          have c1 := (Below.refl wb.heap.size wb).alloc (Nat.le_refl _) (.cells (iA [(d0 : Int), (d1 : Int), (d2 : Int)]) 3)
          have o2 := (o1.new c1.size 3 (iA [])).rw_of_bk (size := 1) (n := 0) rfl (by unfold maxLen; decide)
          have c2 := c1.alloc c1.size (.cells (iA []) 3)
          rw [World.size_alloc9] at o2
          clear hr hs hk2 e4 hXb hu hd0 hd1 hd2 o1 c1 hX
          obtain ⟨Y, hY⟩ : ∃ Y, wb.heap.size = Y := ⟨_, rfl⟩
          go_wp2
          rw [hY] at o2 c2
          have hb2 := hb.trans (c2.mono (by rw [← hY, ← hX0]; exact hb.size))
          go_loopg [11, 13] (pw - 1) (fun k3 v11 v13 wr3 => ∃ (k g : Nat) (al : List Int), k3 + k = pw ∧ 1 ≤ k ∧ v11 = .slice (some ⟨g, 0, none⟩) al.length al.length ∧ v13 = .int .i64 (k : Int) ∧ al.length = 3 * k ∧ Hid (Dig al ∧ valD al = (X : Int) ^ k) ∧
              ((k = 1 ∧ g = Y ∧ al = [(d0 : Int), (d1 : Int), (d2 : Int)] ∧ Own Y (Bk Y 3 (iA [(d0 : Int), (d1 : Int), (d2 : Int)]) * (Rw 3 1 (.slice (some ⟨Y + 1, 0, none⟩) 0 0) 0 (iL []) * Emp)) wr3) ∨ (2 ≤ k ∧ Own Y (Bk g 3 (iA al) * (Bk Y 3 (iA [(d0 : Int), (d1 : Int), (d2 : Int)]) * (Rw 3 1 (.slice (some ⟨Y + 1, 0, none⟩) 0 0) 0 (iL []) * Emp))) wr3)) ∧ Below Y wb wr3)
          case atStart => exact ⟨1, Y, [(d0 : Int), (d1 : Int), (d2 : Int)], by omega, by omega, rfl, rfl, rfl, Lib.hid ⟨HL.out.1, HL.out.2.trans (by rw [Int.pow_succ, Int.pow_zero, Int.one_mul])⟩, .inl ⟨rfl, rfl, rfl, o2.cast (sep_left_comm _ _ _)⟩, c2⟩
          case round =>
            clear o2 c2 hb2
            obtain ⟨k, g, al, hk3, hk1, rfl, rfl, hal, hva, hown, hb3⟩ := hrel
            have k0 : (1 : Int) ≤ (k : Int) := by omega
            have B3 : Y ≤ wr.heap.size := by rw [← hY]; exact hb3.size
            by_cases hkp : (k : Int) < (pw : Int)
            · obtain ⟨j, rfl⟩ : ∃ j, gk = j + 1 := ⟨gk - 1, by omega⟩
              have ob : Own Y (Bk Y 3 (iA [(d0 : Int), (d1 : Int), (d2 : Int)]) * (Rw 3 1 (.slice (some ⟨Y + 1, 0, none⟩) 0 0) 0 (iL []) * Emp)) wr := by
                rcases hown with ⟨_, _, _, h⟩ | ⟨_, h⟩
                · exact h
                · exact h.drop
              have ra : Ri wr g al := by
                rcases hown with ⟨_, rfl, rfl, h⟩ | ⟨_, h⟩
                · exact h.ri
                · exact h.ri
              have HT : Hid (Calls Tryd.prog 78 #[.slice (some ⟨g, 0, none⟩) al.length al.length, .slice (some ⟨Y, 0, none⟩) 3 3] wr fun e w' => ∃ l : List Int, l.length = al.length + 3 ∧ Dig l ∧ valD l = valD al * (X : Int) ∧
                e = .returned (.slice (some ⟨wr.heap.size, 0, none⟩) l.length l.length) ∧ w'.heap[wr.heap.size]? = some (.cells (iA l) 3 (0, 0)) ∧ Below wr.heap.size wr w') := Lib.hid (by
                  have := times_any g al.length Y 3 al [(d0 : Int), (d1 : Int), (d2 : Int)] hva.out.1 HL.out.1 (by omega) (by simp) wr ra ob.ri
                  rw [HL.out.2] at this
                  exact this)
              have Hk := Lib.hid (And.intro hk3 hal)
              clear hown ra hk3 hal
              go_wp2_with fail
              refine HT.out.mono ?_
              rintro e w4 ⟨l, h1, h2, h3, rfl, h5, h6⟩
              have o4 := Own.fresh_bk B3 ob (Nat.le_refl _) h5 h6
              have hb4 := hb3.trans (h6.mono B3)
              have HV := Lib.hid (And.intro h2 h3)
              have HL1 := Lib.hid h1
              clear h1 h2 h3 h5 h6 HT ob
              go_wp2
              go_roundg j
              case measure => omega
              case rel => exact ⟨k + 1, _, l, by have := Hk.out.1; omega, by omega, rfl, rfl, by rw [HL1.out, Hk.out.2]; omega, Lib.hid ⟨HV.out.1, by rw [HV.out.2, hva.out.2, Int.pow_succ]⟩, .inr ⟨by omega, o4⟩, hb4⟩
            · obtain rfl : k = pw := by omega
              have o3 : Own Y (Rw 3 1 (.slice (some ⟨Y + 1, 0, none⟩) 0 0) 0 (iL []) * (Bk g 3 (iA al) * Emp)) wr := by
                rcases hown with ⟨h, _⟩ | ⟨_, h⟩
                · omega
                · exact (h.cast (show _ = Bk Y 3 (iA [(d0 : Int), (d1 : Int), (d2 : Int)]) * (Rw 3 1 (.slice (some ⟨Y + 1, 0, none⟩) 0 0) 0 (iL []) * (Bk g 3 (iA al) * Emp)) by ac_rfl)).drop
              obtain ⟨n2, hn2⟩ : ∃ n2, 2 * k = n2 := ⟨_, rfl⟩
              have e5 : (2 : Int) * (k : Int) = (n2 : Int) := by omega
              have n2b : (n2 : Int) ≤ 6 := by omega
              have Hn2 := Lib.hid (And.intro hn2 hal)
              clear hown hn2 hk3 hal
              go_wp2
              go_loopg [12, 14] n2 (fun k4 v12 v14 wr4 => ∃ (i2 : Nat) (g2 c2 : Nat), k4 + i2 = n2 ∧ v14 = .int .i64 (i2 : Int) ∧ v12 = .slice (some ⟨g2, 0, none⟩) i2 c2 ∧ Own Y (Rw 3 1 (.slice (some ⟨g2, 0, none⟩) i2 c2) (List.replicate i2 (0 : Int)).length (iL (List.replicate i2 (0 : Int))) * (Bk g 3 (iA al) * Emp)) wr4 ∧ Below Y wb wr4)
              case atStart => exact ⟨0, _, _, by omega, rfl, rfl, o3, hb3⟩
              case round =>
                clear o3 hb3 B3
                obtain ⟨i2, g2, c2, hk4, rfl, rfl, o4, hb4⟩ := hrel
                have j0 : (0 : Int) ≤ (i2 : Int) := by omega
                have B4 : Y ≤ wr.heap.size := by rw [← hY]; exact hb4.size
                by_cases hi2 : (i2 : Int) < (n2 : Int)
                · obtain ⟨j, rfl⟩ : ∃ j, gk = j + 1 := ⟨gk - 1, by omega⟩
                  obtain ⟨g5, cap5, w5, hrun, o5, b5⟩ := int_snoc B4 o4 0 (by rw [List.length_replicate]; omega)
                  rw [← List.replicate_succ'] at hrun o5
                  have el : (List.replicate (i2 + 1) (0 : Int)).length = i2 + 1 := List.length_replicate ..
                  have o5' : Own Y (Rw 3 1 (.slice (some ⟨g5, 0, none⟩) (i2 + 1) cap5) (List.replicate (i2 + 1) (0 : Int)).length (iL (List.replicate (i2 + 1) (0 : Int))) * (Bk g 3 (iA al) * Emp)) w5 := by rw [el] at o5 ⊢; exact o5
                  rw [el] at hrun
                  have Hrun := Lib.hid hrun
                  have hb5 := hb4.trans b5
                  have Hk := Lib.hid hk4
                  clear hrun b5 o5 o4 hb4 el hk4
                  go_wp2_with (at_builtin; refine wpList_append_run rfl (.tmp 54) (.tmp 55) 85 rfl rfl rfl Hrun.out ?_)
                  go_roundg j
                  case measure => omega
                  case rel => exact ⟨i2 + 1, g5, cap5, by have := Hk.out; omega, rfl, rfl, o5', hb5⟩
                · obtain rfl : i2 = n2 := by omega
                  obtain ⟨g5, cap5, w5, hrun, o5, b5⟩ := int_snoc B4 o4 (p : Int) (by rw [List.length_replicate]; omega)
                  have Hrun := Lib.hid hrun
                  have hb5 := hb4.trans b5
                  have HA := Lib.hid (above_any g al.length g5 cap5 al (List.replicate i2 (0 : Int) ++ [(p : Int)]) hva.out.1 (fun d hd => by
                      rcases List.mem_append.1 hd with h | h
                      · rw [List.eq_of_mem_replicate h]; omega
                      · simp at h; omega) (by simp) (by rw [Hn2.out.2, List.length_append, List.length_replicate, List.length_singleton]; have := Hn2.out.1; omega) (by rw [Hn2.out.2]; omega) w5 (o5.cast (sep_left_comm _ _ _)).ri o5.ri_row)
                  have HC : Hid (decide (valD (List.replicate i2 (0 : Int) ++ [(p : Int)]) < valD al) = !decide (X ^ k ≤ P)) := Lib.hid (by
                    rw [valD_want, hva.out.2, ← HP.out, ← Hn2.out.1]
                    have e : ((p : Int) * 65536 ^ (2 * k)) = ((p * 2 ^ (32 * k) : Nat) : Int) := by
                      rw [Int.natCast_mul]
                      congr 1
                      rw [show 32 * k = 16 * (2 * k) by omega, Nat.pow_mul]
                      simp
                    rw [e, ← Int.natCast_pow]
                    by_cases h : X ^ k ≤ p * 2 ^ (32 * k)
                    · simp only [h, decide_true, Bool.not_true, decide_eq_false_iff_not]
                      omega
                    · simp only [h, decide_false, Bool.not_false, decide_eq_true_eq]
                      omega)
                  rw [HC.out] at HA
                  have hbf := hb.trans (hb5.mono (by rw [← hY, ← hX0]; exact hb.size))
                  clear hrun b5 o5 o4 hb4 hk4 HC hva
                  generalize hww : List.replicate i2 (0 : Int) ++ [(p : Int)] = ww at *
                  clear hww
                  by_cases hle : X ^ k ≤ P
                  · have HRR := Lib.hid (HR.out hle)
                    rw [decide_eq_true hle] at HA
                    clear HR HR2 hle
                    go_wp2_with (at_builtin; refine wpList_append_run rfl (.tmp 57) (.tmp 59) 85 rfl rfl rfl Hrun.out ?_)
                    refine HA.out.mono ?_
                    rintro e w6 ⟨rfl, rfl⟩
                    go_wp2
                    go_roundg i
                    case measure => omega
                    case rel => exact ⟨X, rfl, rfl, by omega, HRR, hbf⟩
                  · have HRR := Lib.hid (HR2.out hle)
                    rw [decide_eq_false hle] at HA
                    clear HR HR2 hle
                    go_wp2_with (at_builtin; refine wpList_append_run rfl (.tmp 57) (.tmp 59) 85 rfl rfl rfl Hrun.out ?_)
                    refine HA.out.mono ?_
                    rintro e w6 ⟨rfl, rfl⟩
                    go_wp2
                    go_roundg i
                    case measure => omega
                    case rel => exact ⟨r, rfl, rfl, by omega, HRR, hbf⟩
end Go.Proofs.YtmppagiaonbggaaDoor

/- The walks over Primes, Start and Table of the reference's digest. -/
namespace Go.Proofs.YtmppagiaonbggaaDoor
set_option linter.unusedVariables false
set_option linter.unusedSimpArgs false
set_option maxRecDepth 100000
open Go.RowKit

def castL (l : List Nat) : List Int := l.map fun p : Nat => (p : Int)
theorem castL_len (l : List Nat) : (castL l).length = l.length := by simp [castL]
theorem castL_getD (l : List Nat) (i : Nat) : (castL l).getD i 0 = ((l.getD i 0 : Nat) : Int) := by
  simp only [castL, List.getD_eq_getElem?_getD, List.getElem?_map]
  cases l[i]? <;> simp
/-- A call that returns integers of its own. -/
def RetI (w : World) (l : List Int) (e : Ending) (w' : World) : Prop := ∃ v, e = .returned v ∧ w'.ownsRow w.heap.size 3 1 v l.length (iL l) ∧ Below w.heap.size w w'
theorem row_form {B : Nat} {R : HP} {w : World} {A : Option Addr} {n c : Nat} {l : List Int} (h : Own B (Rw 3 1 (.slice A n c) l.length (iL l) * R) w) (hl : 0 < l.length) : ∃ g, A = some ⟨g, 0, none⟩ ∧ n = l.length := by
  obtain ⟨g, cap, he, _⟩ := h.row.form hl
  injection he with e1 e2 e3
  exact ⟨g, e1, e2⟩
set_option maxHeartbeats 1600000 in
theorem primes_any (n N : Nat) (hN : (prsN N).length = n) (hN2 : 2 ≤ N) (hN3 : N ≤ 1000) (w : World) :
    Calls Tryd.prog 65 #[.int .i64 (n : Int)] w (RetI w (castL (prsN N))) := by
  have o0 := (Own.start w.heap.size w).rw_nil 3 1
  have hb0 := Below.refl w.heap.size w
  have hn1 : (n : Int) ≤ 1000 := by have := prsN_len N; omega
  have HN := Lib.hid hN
  have N1 : (N : Int) ≤ 1000 := by omega
  clear hN
  go_enter Tryd.func65, Tryd.ntmps65
  go_wp2
  generalize hX0 : w.heap.size = X0 at *
  go_loopg [3, 4] (N - 2) (fun kk v3 v4 wr => ∃ (p len : Nat) (A : Option Addr) (c : Nat), kk + p = N ∧ 2 ≤ p ∧ v4 = .int .i64 (p : Int) ∧ v3 = .slice A len c ∧ Hid (len = (castL (prsN p)).length) ∧ Own X0 (Rw 3 1 (.slice A len c) (castL (prsN p)).length (iL (castL (prsN p))) * Emp) wr ∧ Below X0 w wr)
  case atStart => exact ⟨2, 0, none, 0, by omega, by omega, rfl, rfl, Lib.hid rfl, o0, hb0⟩
  case round =>
    clear o0 hb0
    obtain ⟨p, len, A, c, hk, hp2, rfl, rfl, hlen, ho, hb⟩ := hrel
    have p0 : (2 : Int) ≤ (p : Int) := by omega
    have p1 : (p : Int) ≤ (N : Int) := by omega
    have Bw : X0 ≤ wr.heap.size := by rw [← hX0]; exact hb.size
    have hl1 : len ≤ p := by rw [hlen.out, castL_len]; exact prsN_len p
    have hpre := prsN_mono p gk
    rw [show p + gk = N by omega] at hpre
    by_cases hlt : (len : Int) < (n : Int)
    · have hg0 : gk ≠ 0 := by
        intro e
        subst e
        rw [show p = N by omega, castL_len, HN.out] at hlen
        have := hlen.out
        omega
      obtain ⟨j, rfl⟩ : ∃ j, gk = j + 1 := ⟨gk - 1, by omega⟩
      have Hk := Lib.hid hk
      clear hk hpre
      go_wp2
      go_loopg [5, 6] len (fun k2 v5 v6 wr2 => ∃ i : Nat, k2 + i = len ∧ v5 = .bool (((prsN p).take i).all fun q => p % q != 0) ∧ v6 = .int .i64 (i : Int) ∧ wr2 = wr)
      case atStart => exact ⟨0, by omega, rfl, rfl, rfl⟩
      case round =>
        obtain ⟨i, hk2, rfl, rfl, rfl⟩ := hrel
        have i0 : (0 : Int) ≤ (i : Int) := by omega
        by_cases hi : (i : Int) < (len : Int)
        · obtain ⟨j2, rfl⟩ : ∃ j2, gk = j2 + 1 := ⟨gk - 1, by omega⟩
          have hil : i < (prsN p).length := by have := hlen.out; rw [castL_len] at this; omega
          obtain ⟨g, rfl, _⟩ := row_form ho (by rw [castL_len]; omega)
          have hlen2 := hlen.out
          have ci : wr.cell? ⟨g, i, none⟩ = some (.int .i64 (((prsN p).getD i 0 : Nat) : Int)) := by
            have := ho.row.cells (g := g) rfl i (.int .i64 ((castL (prsN p)).getD i 0)) (by simp [iL, List.getD_eq_getElem?_getD, castL_len, hil])
            rwa [Addr.add_lit, Nat.zero_add, castL_getD] at this
          have hq := prsN_pos p ((prsN p).getD i 0) (by rw [List.getD_eq_getElem?_getD, List.getElem?_eq_getElem hil, Option.getD_some]; exact List.getElem_mem hil)
          have Ha : Hid ((((prsN p).take (i + 1)).all fun q => p % q != 0) = ((((prsN p).take i).all fun q => p % q != 0) && (p % (prsN p).getD i 0 != 0))) := Lib.hid (by
            rw [List.take_succ_eq_append_getElem hil, List.all_append, List.getD_eq_getElem?_getD, List.getElem?_eq_getElem hil, Option.getD_some]
            simp)
          generalize (prsN p).getD i 0 = q at *
          obtain ⟨q2, q3⟩ := hq
          obtain ⟨m, hm⟩ : ∃ m, p % q = m := ⟨_, rfl⟩
          rw [hm] at Ha
          have ht : (p : Int).tmod (q : Int) = (m : Int) := by rw [Int.tmod_eq_emod_of_nonneg (by omega), ← hm]; omega
          have q2' : (2 : Int) ≤ (q : Int) := by omega
          have q3' : (q : Int) ≤ 1000 := by omega
          generalize (((prsN p).take i).all fun q => p % q != 0) = ba at *
          clear hm hil hlen2
          by_cases hm0 : m = 0
          · subst hm0
            go_wp2
            go_roundg j2
            case measure => omega
            case rel => exact ⟨i + 1, by omega, by rw [Ha.out]; simp, rfl, rfl⟩
          · have hmf : ((m : Int) == 0) = false := by simp; omega
            go_wp2
            go_roundg j2
            case measure => omega
            case rel => exact ⟨i + 1, by omega, by rw [Ha.out]; simp [hm0], rfl, rfl⟩
        · have hil : i = (prsN p).length := by have := hlen.out; rw [castL_len] at this; omega
          have hta : (prsN p).take i = prsN p := List.take_of_length_le (by omega)
          rw [hta]
          by_cases hall : ((prsN p).all fun q => p % q != 0) = true
          · have hs : prsN (p + 1) = prsN p ++ [p] := by rw [prsN, if_pos ⟨hp2, hall⟩]
            have hlen' := hlen.out
            subst hlen'
            obtain ⟨g5, cap5, w5, hrun, o5, b5⟩ := int_snoc Bw ho (p : Int) (by omega)
            have hcl : castL (prsN p) ++ [(p : Int)] = castL (prsN (p + 1)) := by rw [hs]; unfold castL; rw [List.map_append]; rfl
            rw [hcl] at hrun o5
            have Hrun := Lib.hid hrun
            have hb5 := hb.trans b5
            rw [hall]
            clear hrun b5 ho hb hcl hs hta
            go_wp2_with (at_builtin; refine wpList_append_run rfl (.tmp 27) (.tmp 29) 85 rfl rfl rfl Hrun.out ?_)
            go_roundg j
            case measure => omega
            case rel => exact ⟨p + 1, _, _, _, by have := Hk.out; omega, by omega, rfl, rfl, Lib.hid rfl, o5, hb5⟩
          · have hs : prsN (p + 1) = prsN p := by rw [prsN, if_neg fun h => hall h.2]
            have hal : ((prsN p).all fun q => p % q != 0) = false := by simpa using hall
            rw [hal]
            rw [← hs] at hlen ho
            clear hs hall hta
            go_wp2
            go_roundg j
            case measure => omega
            case rel => exact ⟨p + 1, len, A, c, by have := Hk.out; omega, by omega, rfl, rfl, hlen, ho, hb⟩
    · have he : prsN p = prsN N := by
        obtain ⟨l, h⟩ := hpre
        have h1 := HN.out
        have h2 := hlen.out
        rw [castL_len] at h2
        rw [h, List.length_append] at h1
        have : l = [] := List.eq_nil_of_length_eq_zero (by omega)
        rw [h, this, List.append_nil]
      rw [he] at ho hlen
      clear hpre hk
      go_wp2
      go_ret
      exact ⟨_, rfl, by rw [hX0]; exact ho.row, by rw [hX0]; exact hb⟩
set_option maxHeartbeats 1600000 in
theorem rstarts_any (w : World) : Calls Tryd.prog 48 #[] w (RetI w ((p64.take 8).map fun p => ((rootN p 2 : Nat) : Int))) := by
  have o0 := (Own.start w.heap.size w).rw_nil 3 1
  have hb0 := Below.refl w.heap.size w
  have HP := Lib.hid (primes_any 8 20 (by rw [prsN_20]; rfl) (by omega) (by omega) w)
  rw [prsN_20] at HP
  have Hl : Hid ((p64.take 8).length = 8) := Lib.hid rfl
  have Hb : Hid (∀ q ∈ (p64.take 8), q ≤ 1000) := Lib.hid (by decide)
  generalize (p64.take 8) = ps at *
  go_enter Tryd.func48, Tryd.ntmps48
  go_wp2_with fail
  refine HP.out.mono ?_
  rintro e w1 ⟨v, rfl, h1, h2⟩
  have o1 := Own.fresh (Nat.le_refl _) o0 h1 h2
  have hvf := h1.form (by rw [castL_len, Hl.out]; omega)
  obtain ⟨g, cap, rfl, _⟩ := hvf
  rw [castL_len, Hl.out] at o1 ⊢
  clear o0 hb0 h1 HP
  go_wp2
  generalize hX0 : w.heap.size = X0 at *
  go_loopg [1, 3] 8 (fun kk v1 v3 wr => ∃ (i : Nat) (A : Option Addr) (c : Nat) (out : List Int), kk + i = 8 ∧ v3 = .int .i64 (i : Int) ∧ v1 = .slice A out.length c ∧ Hid (out = (ps.take i).map fun p => ((rootN p 2 : Nat) : Int)) ∧ Own X0 (Rw 3 1 (.slice A out.length c) out.length (iL out) * (Rw 3 1 (.slice (some ⟨g, 0, none⟩) 8 cap) 8 (iL (castL ps)) * Emp)) wr ∧ Below X0 w wr)
  case atStart => exact ⟨0, none, 0, [], by omega, rfl, rfl, Lib.hid rfl, (o1.cast (show _ = Rw 3 1 (.slice none 0 0) 0 [] * (Rw 3 1 (.slice (some ⟨g, 0, none⟩) 8 cap) 8 (iL (castL ps)) * Emp) by ac_rfl)), h2⟩
  case round =>
    clear o1 h2
    obtain ⟨i, A, c, out, hk, rfl, rfl, hout, ho, hb⟩ := hrel
    have i0 : (0 : Int) ≤ (i : Int) := by omega
    have Bw : X0 ≤ wr.heap.size := by rw [← hX0]; exact hb.size
    by_cases hlt : (i : Int) < 8
    · obtain ⟨j, rfl⟩ : ∃ j, gk = j + 1 := ⟨gk - 1, by omega⟩
      have hi : i < ps.length := by rw [Hl.out]; omega
      have ci : wr.cell? ⟨g, i, none⟩ = some (.int .i64 ((ps.getD i 0 : Nat) : Int)) := by
        have := (ho.cast (sep_left_comm _ _ _)).row.cells (g := g) rfl i (.int .i64 ((castL ps).getD i 0)) (by simp [iL, List.getD_eq_getElem?_getD, castL_len, hi])
        rwa [Addr.add_lit, Nat.zero_add, castL_getD] at this
      have hq := Hb.out (ps.getD i 0) (by rw [List.getD_eq_getElem?_getD, List.getElem?_eq_getElem hi, Option.getD_some]; exact List.getElem_mem hi)
      have HO : Hid (out ++ [((rootN (ps.getD i 0) 2 : Nat) : Int)] = (ps.take (i + 1)).map fun p => ((rootN p 2 : Nat) : Int)) := Lib.hid (by
        rw [List.take_succ_eq_append_getElem hi, hout.out, List.map_append, List.getD_eq_getElem?_getD, List.getElem?_eq_getElem hi, Option.getD_some]
        rfl)
      have hol : out.length ≤ 1000 := by rw [hout.out, List.length_map, List.length_take]; omega
      generalize ps.getD i 0 = q at *
      have HR := Lib.hid (root_any q 2 hq (by omega) wr)
      have Hk := Lib.hid hk
      have hol' : (out.length : Int) ≤ 1000 := by omega
      clear hk hi hout
      go_wp2_with fail
      refine HR.out.mono ?_
      rintro e w2 ⟨rfl, b2⟩
      have o2 := ho.grown Bw b2
      have B2 := Nat.le_trans Bw b2.size
      have hb2 := hb.trans (b2.mono Bw)
      generalize ((rootN q 2 : Nat) : Int) = z at *
      obtain ⟨g5, cap5, w5, hrun, o5, b5⟩ := int_snoc B2 o2 z (by omega)
      have Hrun := Lib.hid hrun
      have hb5 := hb2.trans b5
      clear hrun b5 o2 ho hb hb2 ci b2 HR
      generalize out ++ [z] = out2 at *
      go_wp2_with (at_builtin; refine wpList_append_run rfl (.tmp 9) (.tmp 15) 85 rfl rfl rfl Hrun.out ?_)
      go_roundg j
      case measure => omega
      case rel => exact ⟨i + 1, _, _, out2, by have := Hk.out; omega, rfl, rfl, HO, o5, hb5⟩
    · obtain rfl : i = 8 := by omega
      have hout2 := hout.out
      rw [List.take_of_length_le (by rw [Hl.out]; omega)] at hout2
      have HO := Lib.hid hout2
      clear hout2 hout hk
      go_wp2
      go_ret
      exact ⟨_, rfl, by rw [hX0, ← HO.out]; exact ho.row, by rw [hX0]; exact hb⟩
set_option maxHeartbeats 1600000 in
theorem rtables_any (w : World) : Calls Tryd.prog 49 #[] w (RetI w ((p64).map fun p => ((rootN p 3 : Nat) : Int))) := by
  have o0 := (Own.start w.heap.size w).rw_nil 3 1
  have hb0 := Below.refl w.heap.size w
  have HP := Lib.hid (primes_any 64 312 (by rw [prsN_312]; rfl) (by omega) (by omega) w)
  rw [prsN_312] at HP
  have Hl : Hid ((p64).length = 64) := Lib.hid rfl
  have Hb : Hid (∀ q ∈ (p64), q ≤ 1000) := Lib.hid (by decide)
  generalize (p64) = ps at *
  go_enter Tryd.func49, Tryd.ntmps49
  go_wp2_with fail
  refine HP.out.mono ?_
  rintro e w1 ⟨v, rfl, h1, h2⟩
  have o1 := Own.fresh (Nat.le_refl _) o0 h1 h2
  have hvf := h1.form (by rw [castL_len, Hl.out]; omega)
  obtain ⟨g, cap, rfl, _⟩ := hvf
  rw [castL_len, Hl.out] at o1 ⊢
  clear o0 hb0 h1 HP
  go_wp2
  generalize hX0 : w.heap.size = X0 at *
  go_loopg [1, 3] 64 (fun kk v1 v3 wr => ∃ (i : Nat) (A : Option Addr) (c : Nat) (out : List Int), kk + i = 64 ∧ v3 = .int .i64 (i : Int) ∧ v1 = .slice A out.length c ∧ Hid (out = (ps.take i).map fun p => ((rootN p 3 : Nat) : Int)) ∧ Own X0 (Rw 3 1 (.slice A out.length c) out.length (iL out) * (Rw 3 1 (.slice (some ⟨g, 0, none⟩) 64 cap) 64 (iL (castL ps)) * Emp)) wr ∧ Below X0 w wr)
  case atStart => exact ⟨0, none, 0, [], by omega, rfl, rfl, Lib.hid rfl, (o1.cast (show _ = Rw 3 1 (.slice none 0 0) 0 [] * (Rw 3 1 (.slice (some ⟨g, 0, none⟩) 64 cap) 64 (iL (castL ps)) * Emp) by ac_rfl)), h2⟩
  case round =>
    clear o1 h2
    obtain ⟨i, A, c, out, hk, rfl, rfl, hout, ho, hb⟩ := hrel
    have i0 : (0 : Int) ≤ (i : Int) := by omega
    have Bw : X0 ≤ wr.heap.size := by rw [← hX0]; exact hb.size
    by_cases hlt : (i : Int) < 64
    · obtain ⟨j, rfl⟩ : ∃ j, gk = j + 1 := ⟨gk - 1, by omega⟩
      have hi : i < ps.length := by rw [Hl.out]; omega
      have ci : wr.cell? ⟨g, i, none⟩ = some (.int .i64 ((ps.getD i 0 : Nat) : Int)) := by
        have := (ho.cast (sep_left_comm _ _ _)).row.cells (g := g) rfl i (.int .i64 ((castL ps).getD i 0)) (by simp [iL, List.getD_eq_getElem?_getD, castL_len, hi])
        rwa [Addr.add_lit, Nat.zero_add, castL_getD] at this
      have hq := Hb.out (ps.getD i 0) (by rw [List.getD_eq_getElem?_getD, List.getElem?_eq_getElem hi, Option.getD_some]; exact List.getElem_mem hi)
      have HO : Hid (out ++ [((rootN (ps.getD i 0) 3 : Nat) : Int)] = (ps.take (i + 1)).map fun p => ((rootN p 3 : Nat) : Int)) := Lib.hid (by
        rw [List.take_succ_eq_append_getElem hi, hout.out, List.map_append, List.getD_eq_getElem?_getD, List.getElem?_eq_getElem hi, Option.getD_some]
        rfl)
      have hol : out.length ≤ 1000 := by rw [hout.out, List.length_map, List.length_take]; omega
      generalize ps.getD i 0 = q at *
      have HR := Lib.hid (root_any q 3 hq (by omega) wr)
      have Hk := Lib.hid hk
      have hol' : (out.length : Int) ≤ 1000 := by omega
      clear hk hi hout
      go_wp2_with fail
      refine HR.out.mono ?_
      rintro e w2 ⟨rfl, b2⟩
      have o2 := ho.grown Bw b2
      have B2 := Nat.le_trans Bw b2.size
      have hb2 := hb.trans (b2.mono Bw)
      generalize ((rootN q 3 : Nat) : Int) = z at *
      obtain ⟨g5, cap5, w5, hrun, o5, b5⟩ := int_snoc B2 o2 z (by omega)
      have Hrun := Lib.hid hrun
      have hb5 := hb2.trans b5
      clear hrun b5 o2 ho hb hb2 ci b2 HR
      generalize out ++ [z] = out2 at *
      go_wp2_with (at_builtin; refine wpList_append_run rfl (.tmp 9) (.tmp 15) 85 rfl rfl rfl Hrun.out ?_)
      go_roundg j
      case measure => omega
      case rel => exact ⟨i + 1, _, _, out2, by have := Hk.out; omega, rfl, rfl, HO, o5, hb5⟩
    · obtain rfl : i = 64 := by omega
      have hout2 := hout.out
      rw [List.take_of_length_le (by rw [Hl.out]; omega)] at hout2
      have HO := Lib.hid hout2
      clear hout2 hout hk
      go_wp2
      go_ret
      exact ⟨_, rfl, by rw [hX0, ← HO.out]; exact ho.row, by rw [hX0]; exact hb⟩
theorem rstart_any (w : World) : Calls Tryd.prog 48 #[] w (RetI w startN) := by rw [← starts_N]; exact rstarts_any w
theorem rtable_any (w : World) : Calls Tryd.prog 49 #[] w (RetI w tableN) := by rw [← tables_N]; exact rtables_any w
end Go.Proofs.YtmppagiaonbggaaDoor

/- The walk over Block of the reference's digest: it is the program's. -/
namespace Go.Proofs.YtmppagiaonbggaaDoor
set_option linter.unusedVariables false
set_option linter.unusedSimpArgs false
set_option maxRecDepth 100000
open Go.RowKit

theorem take_set_succ (l : List Int) (i : Nat) (v : Int) (h : i < l.length) : (l.set i v).take (i + 1) = l.take i ++ [v] := by
  rw [List.take_succ_eq_append_getElem (by rw [List.length_set]; exact h), List.getElem_set_self, List.take_set_of_le (Nat.le_refl i)]
theorem take_getD (l : List Int) (i j : Nat) (h : j < i) : (l.take i).getD j 0 = l.getD j 0 := by
  simp only [List.getD_eq_getElem?_getD, List.getElem?_take, h, if_true]
theorem sched_len (x : List Int) : ∀ i, (sched x i).length = 64
  | 0 => List.length_replicate ..
  | i + 1 => by
    rw [sched]
    split
    · unfold wsA; rw [List.length_set]; exact sched_len x i
    · unfold wsB; rw [List.length_set]; exact sched_len x i
theorem W32.zero : W32 0 := ⟨by omega, by omega⟩
theorem W32.mod (z : Int) : W32 (z % 4294967296) := ⟨by omega, by omega⟩
theorem getD_set_in (l : List Int) (i j : Nat) (v : Int) (hv : W32 v) (h : W32 (l.getD j 0)) : W32 ((l.set i v).getD j 0) := by
  simp only [List.getD_eq_getElem?_getD, List.getElem?_set] at h ⊢
  split
  · split
    · exact hv
    · exact W32.zero
  · exact h
theorem sched_in (x : List Int) : ∀ i j, W32 ((sched x i).getD j 0)
  | 0, j => by
    rw [sched, z64, List.getD_eq_getElem?_getD, List.getElem?_replicate]
    split
    · exact W32.zero
    · exact W32.zero
  | i + 1, j => by
    rw [sched]
    split
    · exact getD_set_in _ _ _ _ (bits_in .or _ _) (sched_in x i j)
    · exact getD_set_in _ _ _ _ (W32.mod _) (sched_in x i j)
theorem addTo_keep (S l : List Int) : ∀ i j, i ≤ j → (addTo S l i).getD j 0 = l.getD j 0
  | 0, _, _ => rfl
  | i + 1, j, h => by
    rw [addTo]
    simp only [List.getD_eq_getElem?_getD, List.getElem?_set]
    rw [if_neg (by omega)]
    have := addTo_keep S l i j (by omega)
    simpa only [List.getD_eq_getElem?_getD] using this
theorem word4_sum (a b c d : Int) (ha : 0 ≤ a ∧ a < 256) (hb : 0 ≤ b ∧ b < 256) (hc : 0 ≤ c ∧ c < 256) (hd : 0 ≤ d ∧ d < 256) : word4 a b c d = ((a * 256 + b) * 256 + c) * 256 + d := by
  unfold word4
  rw [join32 24 (a * 16777216) (b * 65536) (by omega) (by omega) (by omega) (by omega) (by omega) (by omega), join32 16 _ (c * 256) (by omega) (by omega) (by omega) (by omega) (by omega) (by omega), join32 8 _ d (by omega) (by omega) (by omega) (by omega) (by omega) (by omega)]
  omega
set_option maxHeartbeats 6400000 in
theorem rblock_any (gs cs gm off cb gt ct : Nat) (s0 s1 s2 s3 s4 s5 s6 s7 : Int) (hs : W32 s0 ∧ W32 s1 ∧ W32 s2 ∧ W32 s3 ∧ W32 s4 ∧ W32 s5 ∧ W32 s6 ∧ W32 s7) (x : List Int) (hx : x.length = 64) (hxb : byteL x) (T : List Int) (hT : T.length = 64) (hTi : ∀ j, W32 (T.getD j 0)) (w : World)
    (rs : Ri w gs [s0, s1, s2, s3, s4, s5, s6, s7]) (rb : ∀ q, q < 64 → w.cell? ⟨gm, off + q, none⟩ = some (.int .u8 (x.getD q 0))) (rt : Ri w gt T) :
    Calls Tryd.prog 50 #[.slice (some ⟨gs, 0, none⟩) 8 cs, .slice (some ⟨gm, off, none⟩) 64 cb, .slice (some ⟨gt, 0, none⟩) 64 ct] w (RetI w (blockF T ⟨s0, s1, s2, s3, s4, s5, s6, s7⟩ x)) := by
  have o0 := (Own.start w.heap.size w).rw_nil 3 1
  have hb0 := Below.refl w.heap.size w
  have RS := Lib.hid (fun W (h : Below w.heap.size w W) => rs.below h)
  have RB := Lib.hid (fun W (h : Below w.heap.size w W) q (hq : q < 64) => (World.cell?_of_block (w := w) (w' := W) (a := ⟨gm, off + q, none⟩) (h.block gm (World.block_lt_of_cell? w _ (rb q hq)))).trans (rb q hq))
  have RT := Lib.hid (fun W (h : Below w.heap.size w W) => rt.below h)
  have HX := Lib.hid (show ∀ q, q < 64 → 0 ≤ x.getD q 0 ∧ x.getD q 0 < 256 from fun q hq => by
    rw [List.getD_eq_getElem?_getD, List.getElem?_eq_getElem (by omega), Option.getD_some]
    exact hxb _ (List.getElem_mem _))
  have HT := Lib.hid (And.intro hT hTi)
  have HS := Lib.hid hs
  clear rs rb rt hxb hT hTi hs
  obtain ⟨res, hres⟩ : ∃ res, blockF T ⟨s0, s1, s2, s3, s4, s5, s6, s7⟩ x = res := ⟨_, rfl⟩
  rw [hres]
  have Hres := Lib.hid hres
  clear hres
  go_enter Tryd.func50, Tryd.ntmps50
  go_wp2
  generalize hX0 : w.heap.size = X0 at *
  go_loopg [7, 8] 16 (fun kk v7 v8 wr => ∃ (i : Nat) (A : Option Addr) (c : Nat) (ws : List Int), kk + i = 16 ∧ v8 = .int .i64 (i : Int) ∧ v7 = .slice A ws.length c ∧ Hid (ws = (sched x i).take i) ∧ Own X0 (Rw 3 1 (.slice A ws.length c) ws.length (iL ws) * Emp) wr ∧ Below X0 w wr)
  case atStart => exact ⟨0, none, 0, [], by omega, rfl, rfl, Lib.hid rfl, o0, hb0⟩
  case round =>
    clear o0 hb0
    obtain ⟨i, A, c, ws, hk, rfl, rfl, hws, ho, hb⟩ := hrel
    have i0 : (0 : Int) ≤ (i : Int) := by omega
    have Bw : X0 ≤ wr.heap.size := by rw [← hX0]; exact hb.size
    have hwl : ws.length = i := by rw [hws.out, List.length_take, sched_len]; omega
    by_cases hlt : (i : Int) < 16
    · obtain ⟨j, rfl⟩ : ∃ j, gk = j + 1 := ⟨gk - 1, by omega⟩
      obtain ⟨m, hm⟩ : ∃ m, 4 * i = m := ⟨_, rfl⟩
      have e1 : (4 : Int) * (i : Int) = (m : Int) := by omega
      have m0 : (0 : Int) ≤ (m : Int) := by omega
      have m1 : (m : Int) ≤ 60 := by omega
      obtain ⟨ma, hma⟩ : ∃ q, m + 1 = q := ⟨_, rfl⟩
      obtain ⟨mb, hmb⟩ : ∃ q, m + 2 = q := ⟨_, rfl⟩
      obtain ⟨mc, hmc⟩ : ∃ q, m + 3 = q := ⟨_, rfl⟩
      have ea : (m : Int) + 1 = (ma : Int) := by omega
      have eb : (m : Int) + 2 = (mb : Int) := by omega
      have ec : (m : Int) + 3 = (mc : Int) := by omega
      have qa : (0 : Int) ≤ (ma : Int) ∧ (ma : Int) < 64 := by omega
      have qb : (0 : Int) ≤ (mb : Int) ∧ (mb : Int) < 64 := by omega
      have qc : (0 : Int) ≤ (mc : Int) ∧ (mc : Int) < 64 := by omega
      have q64 : (m : Int) < 64 := by omega
      obtain ⟨qa0, qa1⟩ := qa
      obtain ⟨qb0, qb1⟩ := qb
      obtain ⟨qc0, qc1⟩ := qc
      obtain ⟨a0, a1⟩ := HX.out m (by omega)
      obtain ⟨b0, b1⟩ := HX.out ma (by omega)
      obtain ⟨c0, c1⟩ := HX.out mb (by omega)
      obtain ⟨d0, d1⟩ := HX.out mc (by omega)
      have HW : Hid (ws ++ [((x.getD m 0 * 256 + x.getD ma 0) * 256 + x.getD mb 0) * 256 + x.getD mc 0] = (sched x (i + 1)).take (i + 1)) := Lib.hid (by
        rw [sched, if_pos (by omega), wsA, take_set_succ _ _ _ (by rw [sched_len]; omega), ← hws.out, hm, hma, hmb, hmc, word4_sum _ _ _ _ ⟨a0, a1⟩ ⟨b0, b1⟩ ⟨c0, c1⟩ ⟨d0, d1⟩])
      have G := Lib.hid (fun W (h2 : Below X0 w W) => And.intro (RB.out W h2 m (by omega)) (And.intro (RB.out W h2 ma (by omega)) (And.intro (RB.out W h2 mb (by omega)) (RB.out W h2 mc (by omega)))))
      have Hk := Lib.hid hk
      have Hwl := Lib.hid hwl
      have hwl2 : ws.length ≤ 16 := by omega
      clear hk hws hma hmb hmc hm hwl
      generalize x.getD m 0 = x0 at *
      generalize x.getD ma 0 = x1 at *
      generalize x.getD mb 0 = x2 at *
      generalize x.getD mc 0 = x3 at *
      go_wp2
      refine wp_region_lmix (St X0 _ wr) [0] [] [1, 2, 3, 4, 5, 6, 7, 8, 9, 10, 11, 12, 13, 14, 15, 16, 17, 18, 19, 20, 21, 22, 23, 24, 25, 26, 27, 28, 29, 30, 31, 32, 33] [34] [35, 36] mixed (by kernel_rfl) rfl (fun _ _ _ _ _ h => h) (St.drew Bw ho) ?_
      simp only [List.filterMap_cons, List.filterMap_nil, List.getElem?_toArray, List.getElem?_cons_succ, List.getElem?_cons_zero]
      repeat (
        refine free_val ?_ rfl (fun w1 => ?_) ?_
        rotate_left
        · (go_simp
           try go_bits
           rfl)
        simp only [Act.put, List.setIfInBounds_toArray, List.set_cons_zero, List.set_cons_succ])
      refine free_nil ?_
      repeat (first
        | (refine late_val ?_ rfl (fun w1 hS => ?_) ?_
           rotate_left
           · (skip
              go_simp
              try go_bits
              rfl)
           simp only [Act.put, List.setIfInBounds_toArray, List.set_cons_zero, List.set_cons_succ])
        | (refine late_off rfl ?_
           simp only [Act.put, List.setIfInBounds_toArray, List.set_cons_zero, List.set_cons_succ]))
      refine late_nil ?_
      repeat (first
        | (refine held_val ?_ rfl (fun w1 hS => ?_) ?_
           rotate_left
           · (obtain ⟨k1, k2, k3, k4⟩ := G.out w1 (hb.trans hS.2.2)
              go_simp
              try go_bits
              rfl)
           simp only [Act.put, List.setIfInBounds_toArray, List.set_cons_zero, List.set_cons_succ])
        | (refine held_off rfl ?_
           simp only [Act.put, List.setIfInBounds_toArray, List.set_cons_zero, List.set_cons_succ]))
      refine held_nil (fun w9 hS => ?_)
      refine kept_val ?_ rfl (w1 := ?_) ?_ ?_ ?_
      rotate_left 2
      · (go_simp
         try go_bits
         first | (constructor <;> rfl) | rfl)
      · exact hS.alloc _
      simp only [Act.put, List.setIfInBounds_toArray, List.set_cons_zero, List.set_cons_succ]
      refine kept_nil ?_
      obtain ⟨B9, o9, b9⟩ := hS
      have hb9 := hb.trans b9
      obtain ⟨g5, cap5, w5, hrun, o5, b5⟩ := int_snoc B9 o9 (((x0 * 256 + x1) * 256 + x2) * 256 + x3) (by omega)
      have Hrun := Lib.hid hrun
      have hb5 := hb9.trans b5
      clear hrun b5 o9 ho hb b9 hb9 G
      generalize ws ++ [((x0 * 256 + x1) * 256 + x2) * 256 + x3] = ws2 at *
      refine wpList_append_run rfl (.tmp 32) (.tmp 66) 85 rfl rfl rfl Hrun.out ?_
      simp only [Act.put, List.setIfInBounds_toArray, List.set_cons_zero, List.set_cons_succ]
      go_wp2
      go_roundg j
      case measure => omega
      case rel => exact ⟨i + 1, _, _, ws2, by have := Hk.out; omega, rfl, rfl, HW, o5, hb5⟩
    · obtain rfl : i = 16 := by omega
      clear hk hlt i0
      go_wp2
      go_loopg [7, 9] 48 (fun kk v7 v9 wr => ∃ (i : Nat) (A : Option Addr) (c : Nat) (ws : List Int), kk + i = 64 ∧ 16 ≤ i ∧ v9 = .int .i64 (i : Int) ∧ v7 = .slice A ws.length c ∧ Hid (ws = (sched x i).take i) ∧ Own X0 (Rw 3 1 (.slice A ws.length c) ws.length (iL ws) * Emp) wr ∧ Below X0 w wr)
      case atStart => exact ⟨16, A, c, ws, by omega, by omega, rfl, rfl, hws, ho, hb⟩
      case round =>
        clear ho hb Bw hwl hws
        obtain ⟨i, A, c, ws, hk, hi16, rfl, rfl, hws, ho, hb⟩ := hrel
        have i0 : (16 : Int) ≤ (i : Int) := by omega
        have Bw : X0 ≤ wr.heap.size := by rw [← hX0]; exact hb.size
        have hwl : ws.length = i := by rw [hws.out, List.length_take, sched_len]; omega
        obtain ⟨g, rfl, _⟩ := row_form ho (by omega)
        by_cases hlt : (i : Int) < 64
        · obtain ⟨j, rfl⟩ : ∃ j, gk = j + 1 := ⟨gk - 1, by omega⟩
          obtain ⟨i15, h15⟩ : ∃ q, q + 15 = i := ⟨i - 15, by omega⟩
          obtain ⟨i2, h2⟩ : ∃ q, q + 2 = i := ⟨i - 2, by omega⟩
          obtain ⟨i16, h16⟩ : ∃ q, q + 16 = i := ⟨i - 16, by omega⟩
          obtain ⟨i7, h7⟩ : ∃ q, q + 7 = i := ⟨i - 7, by omega⟩
          have f15 : (i : Int) - 15 = (i15 : Int) := by omega
          have f2 : (i : Int) - 2 = (i2 : Int) := by omega
          have f16 : (i : Int) - 16 = (i16 : Int) := by omega
          have f7 : (i : Int) - 7 = (i7 : Int) := by omega
          have l15 : (i15 : Int) < (ws.length : Int) := by omega
          have l2 : (i2 : Int) < (ws.length : Int) := by omega
          have l16 : (i16 : Int) < (ws.length : Int) := by omega
          have l7 : (i7 : Int) < (ws.length : Int) := by omega
          have p15 : (0 : Int) ≤ (i15 : Int) := by omega
          have p2 : (0 : Int) ≤ (i2 : Int) := by omega
          have p16 : (0 : Int) ≤ (i16 : Int) := by omega
          have p7 : (0 : Int) ≤ (i7 : Int) := by omega
          have hv : ∀ q, q < i → ws.getD q 0 = (sched x i).getD q 0 := fun q hq => by rw [hws.out]; exact take_getD _ _ _ hq
          have hin : ∀ q, q < i → W32 (ws.getD q 0) := fun q hq => by rw [hv q hq]; exact sched_in x i q
          have HW : Hid (ws ++ [wNew (ws.getD i16 0) (ws.getD i15 0) (ws.getD i7 0) (ws.getD i2 0)] = (sched x (i + 1)).take (i + 1)) := Lib.hid (by
            rw [sched, if_neg (by omega), wsB, take_set_succ _ _ _ (by rw [sched_len]; omega), ← hws.out, hv i16 (by omega), hv i15 (by omega), hv i7 (by omega), hv i2 (by omega), show i - 16 = i16 by omega, show i - 15 = i15 by omega, show i - 7 = i7 by omega, show i - 2 = i2 by omega])
          have G := Lib.hid (fun W (h : Own X0 (Rw 3 1 (.slice (some ⟨g, 0, none⟩) ws.length c) ws.length (iL ws) * Emp) W) => And.intro (h.ri_row i15 (by omega)) (And.intro (h.ri_row i2 (by omega)) (And.intro (h.ri_row i16 (by omega)) (h.ri_row i7 (by omega)))))
          have c15 := (G.out wr ho).1
          have c2 := (G.out wr ho).2.1
          obtain ⟨x15l, x15u⟩ := hin i15 (by omega)
          obtain ⟨x2l, x2u⟩ := hin i2 (by omega)
          obtain ⟨x16l, x16u⟩ := hin i16 (by omega)
          obtain ⟨x7l, x7u⟩ := hin i7 (by omega)
          have Hk := Lib.hid (And.intro hk hi16)
          have hwl' : (ws.length : Int) ≤ 64 := by omega
          have hwl2 : ws.length ≤ 64 := by omega
          clear hv hin h15 h2 h16 h7 hk hi16 hws hwl
          generalize ws.getD i15 0 = xv at *
          generalize ws.getD i2 0 = yv at *
          generalize ws.getD i16 0 = x16 at *
          generalize ws.getD i7 0 = x7 at *
          obtain ⟨t1, ht1⟩ : ∃ z, turn7 xv = z := ⟨_, rfl⟩
          have Bt1 : W32 t1 := ht1 ▸ turn7_in xv
          have Kt1 : ∀ w, Calls Tryd.prog 68 #[.int .i64 xv, .int .i64 7] w fun e w' => e = .returned (.int .i64 t1) ∧ w' = w := fun w => ht1 ▸ rturn7_any xv x15l x15u w
          obtain ⟨lt1, ut1⟩ := Bt1
          obtain ⟨t2, ht2⟩ : ∃ z, turn18 xv = z := ⟨_, rfl⟩
          have Bt2 : W32 t2 := ht2 ▸ turn18_in xv
          have Kt2 : ∀ w, Calls Tryd.prog 68 #[.int .i64 xv, .int .i64 18] w fun e w' => e = .returned (.int .i64 t2) ∧ w' = w := fun w => ht2 ▸ rturn18_any xv x15l x15u w
          obtain ⟨lt2, ut2⟩ := Bt2
          obtain ⟨t3, ht3⟩ : ∃ z, bits .xor .u32 t1 t2 = z := ⟨_, rfl⟩
          have Bt3 : W32 t3 := ht3 ▸ bits_in .xor _ _
          have Kt3 : ∀ w, Calls Tryd.prog 67 #[.int .i64 t1, .int .i64 t2] w fun e w' => e = .returned (.int .i64 t3) ∧ w' = w := fun w => ht3 ▸ rxor_any t1 t2 ⟨lt1, ut1⟩ ⟨lt2, ut2⟩ w
          obtain ⟨lt3, ut3⟩ := Bt3
          have K4 := rshift3_any xv x15l x15u
          have q8 : 0 ≤ xv / 8 ∧ xv / 8 < 4294967296 := by omega
          obtain ⟨lq8, uq8⟩ := q8
          obtain ⟨t5, ht5⟩ : ∃ z, bits .xor .u32 t3 (xv / 8) = z := ⟨_, rfl⟩
          have Bt5 : W32 t5 := ht5 ▸ bits_in .xor _ _
          have Kt5 : ∀ w, Calls Tryd.prog 67 #[.int .i64 t3, .int .i64 (xv / 8)] w fun e w' => e = .returned (.int .i64 t5) ∧ w' = w := fun w => ht5 ▸ rxor_any t3 (xv / 8) ⟨lt3, ut3⟩ ⟨lq8, uq8⟩ w
          obtain ⟨lt5, ut5⟩ := Bt5
          obtain ⟨s1, hs1⟩ : ∃ z, turn17 yv = z := ⟨_, rfl⟩
          have Bs1 : W32 s1 := hs1 ▸ turn17_in yv
          have Ks1 : ∀ w, Calls Tryd.prog 68 #[.int .i64 yv, .int .i64 17] w fun e w' => e = .returned (.int .i64 s1) ∧ w' = w := fun w => hs1 ▸ rturn17_any yv x2l x2u w
          obtain ⟨ls1, us1⟩ := Bs1
          obtain ⟨s2, hs2⟩ : ∃ z, turn19 yv = z := ⟨_, rfl⟩
          have Bs2 : W32 s2 := hs2 ▸ turn19_in yv
          have Ks2 : ∀ w, Calls Tryd.prog 68 #[.int .i64 yv, .int .i64 19] w fun e w' => e = .returned (.int .i64 s2) ∧ w' = w := fun w => hs2 ▸ rturn19_any yv x2l x2u w
          obtain ⟨ls2, us2⟩ := Bs2
          obtain ⟨s3, hs3⟩ : ∃ z, bits .xor .u32 s1 s2 = z := ⟨_, rfl⟩
          have Bs3 : W32 s3 := hs3 ▸ bits_in .xor _ _
          have Ks3 : ∀ w, Calls Tryd.prog 67 #[.int .i64 s1, .int .i64 s2] w fun e w' => e = .returned (.int .i64 s3) ∧ w' = w := fun w => hs3 ▸ rxor_any s1 s2 ⟨ls1, us1⟩ ⟨ls2, us2⟩ w
          obtain ⟨ls3, us3⟩ := Bs3
          have K6 := rshift10_any yv x2l x2u
          have q9 : 0 ≤ yv / 1024 ∧ yv / 1024 < 4294967296 := by omega
          obtain ⟨lq9, uq9⟩ := q9
          obtain ⟨s5, hs5⟩ : ∃ z, bits .xor .u32 s3 (yv / 1024) = z := ⟨_, rfl⟩
          have Bs5 : W32 s5 := hs5 ▸ bits_in .xor _ _
          have Ks5 : ∀ w, Calls Tryd.prog 67 #[.int .i64 s3, .int .i64 (yv / 1024)] w fun e w' => e = .returned (.int .i64 s5) ∧ w' = w := fun w => hs5 ▸ rxor_any s3 (yv / 1024) ⟨ls3, us3⟩ ⟨lq9, uq9⟩ w
          obtain ⟨ls5, us5⟩ := Bs5
          have HWn : Hid (wNew x16 xv x7 yv = (x16 + t5 + x7 + s5) % 4294967296) := Lib.hid (by unfold wNew; rw [ht1, ht2, ht3, ht5, hs1, hs2, hs3, hs5])
          rw [HWn.out] at HW
          clear ht1 ht2 ht3 ht5 hs1 hs2 hs3 hs5 HWn
          go_wp2_with fail
          refine (Kt1 wr).mono ?_
          rintro e wz ⟨rfl, rfl⟩
          go_wp2_with fail
          refine (Kt2 wz).mono ?_
          rintro e wz ⟨rfl, rfl⟩
          go_wp2_with fail
          refine (Kt3 wz).mono ?_
          rintro e wz ⟨rfl, rfl⟩
          go_wp2_with fail
          refine (K4 wz).mono ?_
          rintro e wz ⟨rfl, rfl⟩
          go_wp2_with fail
          refine (Kt5 wz).mono ?_
          rintro e wz ⟨rfl, rfl⟩
          go_wp2_with fail
          refine (Ks1 wz).mono ?_
          rintro e wz ⟨rfl, rfl⟩
          go_wp2_with fail
          refine (Ks2 wz).mono ?_
          rintro e wz ⟨rfl, rfl⟩
          go_wp2_with fail
          refine (Ks3 wz).mono ?_
          rintro e wz ⟨rfl, rfl⟩
          go_wp2_with fail
          refine (K6 wz).mono ?_
          rintro e wz ⟨rfl, rfl⟩
          go_wp2_with fail
          refine (Ks5 wz).mono ?_
          rintro e wz ⟨rfl, rfl⟩
          obtain ⟨z, hz⟩ : ∃ z, (x16 + t5 + x7 + s5) % 4294967296 = z := ⟨_, rfl⟩
          have Kw : ∀ w, Calls Tryd.prog 70 #[.int .i64 (x16 + t5 + x7 + s5)] w fun e w' => e = .returned (.int .i64 z) ∧ w' = w := fun w => hz ▸ rword_any (x16 + t5 + x7 + s5) (by omega) (by omega) w
          rw [hz] at HW
          clear hz
          go_wp2
          refine wp_region_lmix (St X0 _ wz) [0] [] [1, 2, 3, 4, 5, 6, 7, 8, 9, 10, 11, 12, 13, 14, 15, 16] [17] [18, 19] mixed (by kernel_rfl) rfl (fun _ _ _ _ _ h => h) (St.drew Bw ho) ?_
          simp only [List.filterMap_cons, List.filterMap_nil, List.getElem?_toArray, List.getElem?_cons_succ, List.getElem?_cons_zero]
          repeat (
            refine free_val ?_ rfl (fun w1 => ?_) ?_
            rotate_left
            · (go_simp
               try go_bits
               rfl)
            simp only [Act.put, List.setIfInBounds_toArray, List.set_cons_zero, List.set_cons_succ])
          refine free_nil ?_
          repeat (first
            | (refine late_val ?_ rfl (fun w1 hS => ?_) ?_
               rotate_left
               · (skip
                  go_simp
                  try go_bits
                  rfl)
               simp only [Act.put, List.setIfInBounds_toArray, List.set_cons_zero, List.set_cons_succ])
            | (refine late_off rfl ?_
               simp only [Act.put, List.setIfInBounds_toArray, List.set_cons_zero, List.set_cons_succ]))
          refine late_nil ?_
          repeat (first
            | (refine held_val ?_ rfl (fun w1 hS => ?_) ?_
               rotate_left
               · (obtain ⟨_, _, k3, k4⟩ := G.out w1 hS.2.1
                  go_simp
                  try go_bits
                  rfl)
               simp only [Act.put, List.setIfInBounds_toArray, List.set_cons_zero, List.set_cons_succ])
            | (refine held_off rfl ?_
               simp only [Act.put, List.setIfInBounds_toArray, List.set_cons_zero, List.set_cons_succ]))
          refine held_call 70 #[.int .i64 (x16 + t5 + x7 + s5)] (.int .i64 z) rfl (fun w1 hS => by go_simp) (fun w1 hS => (Kw w1).mono ?_) ?_
          · rintro e w2 ⟨rfl, rfl⟩
            exact ⟨rfl, hS⟩
          simp only [Act.put, List.setIfInBounds_toArray, List.set_cons_zero, List.set_cons_succ]
          refine held_nil (fun w9 hS => ?_)
          refine kept_val ?_ rfl (w1 := ?_) ?_ ?_ ?_
          rotate_left 2
          · (go_simp
             try go_bits
             first | (constructor <;> rfl) | rfl)
          · exact hS.alloc _
          simp only [Act.put, List.setIfInBounds_toArray, List.set_cons_zero, List.set_cons_succ]
          refine kept_nil ?_
          obtain ⟨B9, o9, b9⟩ := hS
          have hb9 := hb.trans b9
          obtain ⟨g5, cap5, w5, hrun, o5, b5⟩ := int_snoc B9 o9 z (by omega)
          have Hrun := Lib.hid hrun
          have hb5 := hb9.trans b5
          clear hrun b5 o9 ho hb b9 hb9 G c15 c2
          generalize ws ++ [z] = ws2 at *
          refine wpList_append_run rfl (.tmp 98) (.tmp 115) 85 rfl rfl rfl Hrun.out ?_
          simp only [Act.put, List.setIfInBounds_toArray, List.set_cons_zero, List.set_cons_succ]
          go_wp2
          go_roundg j
          case measure => omega
          case rel => exact ⟨i + 1, _, _, ws2, by have := Hk.out.1; omega, by have := Hk.out.2; omega, rfl, rfl, HW, o5, hb5⟩
        · obtain rfl : i = 64 := by omega
          have hW : ws = sched x 64 := by rw [hws.out, List.take_of_length_le (by rw [sched_len]; omega)]
          have HWin : Hid (∀ q, W32 (ws.getD q 0)) := Lib.hid (fun q => by rw [hW]; exact sched_in x 64 q)
          have HW := Lib.hid hW
          have Hwl := Lib.hid hwl
          have r0 := RS.out wr hb 0 (by simp)
          have r1 := RS.out wr hb 1 (by simp)
          have r2 := RS.out wr hb 2 (by simp)
          have r3 := RS.out wr hb 3 (by simp)
          have r4 := RS.out wr hb 4 (by simp)
          have r5 := RS.out wr hb 5 (by simp)
          have r6 := RS.out wr hb 6 (by simp)
          have r7 := RS.out wr hb 7 (by simp)
          simp only [List.getD_cons_zero, List.getD_cons_succ] at r0 r1 r2 r3 r4 r5 r6 r7
          clear hk hlt i0 hi16 hws hW hwl
          go_wp2
          clear r0 r1 r2 r3 r4 r5 r6 r7
          go_loopg [14, 15, 16, 17, 18, 19, 20, 21, 22] 64 (fun kk v14 v15 v16 v17 v18 v19 v20 v21 v22 wr => ∃ (i : Nat) (a0 a1 a2 a3 a4 a5 a6 a7 : Int), kk + i = 64 ∧ v22 = .int .i64 (i : Int) ∧ v14 = .int .i64 a0 ∧ v15 = .int .i64 a1 ∧ v16 = .int .i64 a2 ∧ v17 = .int .i64 a3 ∧ v18 = .int .i64 a4 ∧ v19 = .int .i64 a5 ∧ v20 = .int .i64 a6 ∧ v21 = .int .i64 a7 ∧
              (W32 a0 ∧ W32 a1 ∧ W32 a2 ∧ W32 a3 ∧ W32 a4 ∧ W32 a5 ∧ W32 a6 ∧ W32 a7) ∧ Hid ((⟨a0, a1, a2, a3, a4, a5, a6, a7⟩ : S8) = rounds T (sched x 64) ⟨s0, s1, s2, s3, s4, s5, s6, s7⟩ i) ∧ Own X0 (Rw 3 1 (.slice (some ⟨g, 0, none⟩) ws.length c) ws.length (iL ws) * Emp) wr ∧ Below X0 w wr)
          case atStart => exact ⟨0, s0, s1, s2, s3, s4, s5, s6, s7, rfl, rfl, rfl, rfl, rfl, rfl, rfl, rfl, rfl, rfl, HS.out, Lib.hid rfl, ho, hb⟩
          case round =>
            clear ho hb Bw
            obtain ⟨i, a0, a1, a2, a3, a4, a5, a6, a7, hk, rfl, rfl, rfl, rfl, rfl, rfl, rfl, rfl, rfl, hin, hrd, ho, hb⟩ := hrel
            have i0 : (0 : Int) ≤ (i : Int) := by omega
            have Bw : X0 ≤ wr.heap.size := by rw [← hX0]; exact hb.size
            by_cases hlt : (i : Int) < 64
            · obtain ⟨j, rfl⟩ : ∃ j, gk = j + 1 := ⟨gk - 1, by omega⟩
              have hlt2 : (i : Int) < (ws.length : Int) := by have := Hwl.out; omega
              have G := Lib.hid (fun W (h : Own X0 (Rw 3 1 (.slice (some ⟨g, 0, none⟩) ws.length c) ws.length (iL ws) * Emp) W) (h2 : Below X0 w W) => And.intro (RT.out W h2 i (by rw [HT.out.1]; omega)) (h.ri_row i (by rw [Hwl.out]; omega)))
              have Hin := Lib.hid hin
              obtain ⟨⟨a0l, a0u⟩, ⟨a1l, a1u⟩, ⟨a2l, a2u⟩, ⟨a3l, a3u⟩, ⟨a4l, a4u⟩, ⟨a5l, a5u⟩, ⟨a6l, a6u⟩, ⟨a7l, a7u⟩⟩ := hin
              have Hrd : Hid (stepR (T.getD i 0) (ws.getD i 0) ⟨a0, a1, a2, a3, a4, a5, a6, a7⟩ = rounds T (sched x 64) ⟨s0, s1, s2, s3, s4, s5, s6, s7⟩ (i + 1)) := Lib.hid (by rw [rounds, ← hrd.out, ← HW.out])
              obtain ⟨til, tiu⟩ := HT.out.2 i
              obtain ⟨wil, wiu⟩ := HWin.out i
              have Hk := Lib.hid hk
              clear hrd hk
              generalize T.getD i 0 = ti at *
              generalize ws.getD i 0 = wi at *
              obtain ⟨t1, ht1⟩ : ∃ z, turn6 a4 = z := ⟨_, rfl⟩
              have Bt1 : W32 t1 := ht1 ▸ turn6_in a4
              have Kt1 : ∀ w, Calls Tryd.prog 68 #[.int .i64 a4, .int .i64 6] w fun e w' => e = .returned (.int .i64 t1) ∧ w' = w := fun w => ht1 ▸ rturn6_any a4 a4l a4u w
              obtain ⟨lt1, ut1⟩ := Bt1
              obtain ⟨t2, ht2⟩ : ∃ z, turn11 a4 = z := ⟨_, rfl⟩
              have Bt2 : W32 t2 := ht2 ▸ turn11_in a4
              have Kt2 : ∀ w, Calls Tryd.prog 68 #[.int .i64 a4, .int .i64 11] w fun e w' => e = .returned (.int .i64 t2) ∧ w' = w := fun w => ht2 ▸ rturn11_any a4 a4l a4u w
              obtain ⟨lt2, ut2⟩ := Bt2
              obtain ⟨t3, ht3⟩ : ∃ z, bits .xor .u32 t1 t2 = z := ⟨_, rfl⟩
              have Bt3 : W32 t3 := ht3 ▸ bits_in .xor _ _
              have Kt3 : ∀ w, Calls Tryd.prog 67 #[.int .i64 t1, .int .i64 t2] w fun e w' => e = .returned (.int .i64 t3) ∧ w' = w := fun w => ht3 ▸ rxor_any t1 t2 ⟨lt1, ut1⟩ ⟨lt2, ut2⟩ w
              obtain ⟨lt3, ut3⟩ := Bt3
              obtain ⟨t4, ht4⟩ : ∃ z, turn25 a4 = z := ⟨_, rfl⟩
              have Bt4 : W32 t4 := ht4 ▸ turn25_in a4
              have Kt4 : ∀ w, Calls Tryd.prog 68 #[.int .i64 a4, .int .i64 25] w fun e w' => e = .returned (.int .i64 t4) ∧ w' = w := fun w => ht4 ▸ rturn25_any a4 a4l a4u w
              obtain ⟨lt4, ut4⟩ := Bt4
              obtain ⟨t5, ht5⟩ : ∃ z, bits .xor .u32 t3 t4 = z := ⟨_, rfl⟩
              have Bt5 : W32 t5 := ht5 ▸ bits_in .xor _ _
              have Kt5 : ∀ w, Calls Tryd.prog 67 #[.int .i64 t3, .int .i64 t4] w fun e w' => e = .returned (.int .i64 t5) ∧ w' = w := fun w => ht5 ▸ rxor_any t3 t4 ⟨lt3, ut3⟩ ⟨lt4, ut4⟩ w
              obtain ⟨lt5, ut5⟩ := Bt5
              obtain ⟨t6, ht6⟩ : ∃ z, bits .and .u32 a4 a5 = z := ⟨_, rfl⟩
              have Bt6 : W32 t6 := ht6 ▸ bits_in .and _ _
              have Kt6 : ∀ w, Calls Tryd.prog 71 #[.int .i64 a4, .int .i64 a5] w fun e w' => e = .returned (.int .i64 t6) ∧ w' = w := fun w => ht6 ▸ rand_any a4 a5 ⟨a4l, a4u⟩ ⟨a5l, a5u⟩ w
              obtain ⟨lt6, ut6⟩ := Bt6
              have nl : 0 ≤ 4294967295 - a4 ∧ 4294967295 - a4 < 4294967296 := by omega
              obtain ⟨nl, nu⟩ := nl
              obtain ⟨t7, ht7⟩ : ∃ z, bits .and .u32 (4294967295 - a4) a6 = z := ⟨_, rfl⟩
              have Bt7 : W32 t7 := ht7 ▸ bits_in .and _ _
              have Kt7 : ∀ w, Calls Tryd.prog 71 #[.int .i64 (4294967295 - a4), .int .i64 a6] w fun e w' => e = .returned (.int .i64 t7) ∧ w' = w := fun w => ht7 ▸ rand_any (4294967295 - a4) a6 ⟨nl, nu⟩ ⟨a6l, a6u⟩ w
              obtain ⟨lt7, ut7⟩ := Bt7
              obtain ⟨t8, ht8⟩ : ∃ z, bits .xor .u32 t6 t7 = z := ⟨_, rfl⟩
              have Bt8 : W32 t8 := ht8 ▸ bits_in .xor _ _
              have Kt8 : ∀ w, Calls Tryd.prog 67 #[.int .i64 t6, .int .i64 t7] w fun e w' => e = .returned (.int .i64 t8) ∧ w' = w := fun w => ht8 ▸ rxor_any t6 t7 ⟨lt6, ut6⟩ ⟨lt7, ut7⟩ w
              obtain ⟨lt8, ut8⟩ := Bt8
              obtain ⟨u1, hu1⟩ : ∃ z, turn2 a0 = z := ⟨_, rfl⟩
              have Bu1 : W32 u1 := hu1 ▸ turn2_in a0
              have Ku1 : ∀ w, Calls Tryd.prog 68 #[.int .i64 a0, .int .i64 2] w fun e w' => e = .returned (.int .i64 u1) ∧ w' = w := fun w => hu1 ▸ rturn2_any a0 a0l a0u w
              obtain ⟨lu1, uu1⟩ := Bu1
              obtain ⟨u2, hu2⟩ : ∃ z, turn13 a0 = z := ⟨_, rfl⟩
              have Bu2 : W32 u2 := hu2 ▸ turn13_in a0
              have Ku2 : ∀ w, Calls Tryd.prog 68 #[.int .i64 a0, .int .i64 13] w fun e w' => e = .returned (.int .i64 u2) ∧ w' = w := fun w => hu2 ▸ rturn13_any a0 a0l a0u w
              obtain ⟨lu2, uu2⟩ := Bu2
              obtain ⟨u3, hu3⟩ : ∃ z, bits .xor .u32 u1 u2 = z := ⟨_, rfl⟩
              have Bu3 : W32 u3 := hu3 ▸ bits_in .xor _ _
              have Ku3 : ∀ w, Calls Tryd.prog 67 #[.int .i64 u1, .int .i64 u2] w fun e w' => e = .returned (.int .i64 u3) ∧ w' = w := fun w => hu3 ▸ rxor_any u1 u2 ⟨lu1, uu1⟩ ⟨lu2, uu2⟩ w
              obtain ⟨lu3, uu3⟩ := Bu3
              obtain ⟨u4, hu4⟩ : ∃ z, turn22 a0 = z := ⟨_, rfl⟩
              have Bu4 : W32 u4 := hu4 ▸ turn22_in a0
              have Ku4 : ∀ w, Calls Tryd.prog 68 #[.int .i64 a0, .int .i64 22] w fun e w' => e = .returned (.int .i64 u4) ∧ w' = w := fun w => hu4 ▸ rturn22_any a0 a0l a0u w
              obtain ⟨lu4, uu4⟩ := Bu4
              obtain ⟨u5, hu5⟩ : ∃ z, bits .xor .u32 u3 u4 = z := ⟨_, rfl⟩
              have Bu5 : W32 u5 := hu5 ▸ bits_in .xor _ _
              have Ku5 : ∀ w, Calls Tryd.prog 67 #[.int .i64 u3, .int .i64 u4] w fun e w' => e = .returned (.int .i64 u5) ∧ w' = w := fun w => hu5 ▸ rxor_any u3 u4 ⟨lu3, uu3⟩ ⟨lu4, uu4⟩ w
              obtain ⟨lu5, uu5⟩ := Bu5
              obtain ⟨u6, hu6⟩ : ∃ z, bits .and .u32 a0 a1 = z := ⟨_, rfl⟩
              have Bu6 : W32 u6 := hu6 ▸ bits_in .and _ _
              have Ku6 : ∀ w, Calls Tryd.prog 71 #[.int .i64 a0, .int .i64 a1] w fun e w' => e = .returned (.int .i64 u6) ∧ w' = w := fun w => hu6 ▸ rand_any a0 a1 ⟨a0l, a0u⟩ ⟨a1l, a1u⟩ w
              obtain ⟨lu6, uu6⟩ := Bu6
              obtain ⟨u7, hu7⟩ : ∃ z, bits .and .u32 a0 a2 = z := ⟨_, rfl⟩
              have Bu7 : W32 u7 := hu7 ▸ bits_in .and _ _
              have Ku7 : ∀ w, Calls Tryd.prog 71 #[.int .i64 a0, .int .i64 a2] w fun e w' => e = .returned (.int .i64 u7) ∧ w' = w := fun w => hu7 ▸ rand_any a0 a2 ⟨a0l, a0u⟩ ⟨a2l, a2u⟩ w
              obtain ⟨lu7, uu7⟩ := Bu7
              obtain ⟨u8, hu8⟩ : ∃ z, bits .xor .u32 u6 u7 = z := ⟨_, rfl⟩
              have Bu8 : W32 u8 := hu8 ▸ bits_in .xor _ _
              have Ku8 : ∀ w, Calls Tryd.prog 67 #[.int .i64 u6, .int .i64 u7] w fun e w' => e = .returned (.int .i64 u8) ∧ w' = w := fun w => hu8 ▸ rxor_any u6 u7 ⟨lu6, uu6⟩ ⟨lu7, uu7⟩ w
              obtain ⟨lu8, uu8⟩ := Bu8
              obtain ⟨u9, hu9⟩ : ∃ z, bits .and .u32 a1 a2 = z := ⟨_, rfl⟩
              have Bu9 : W32 u9 := hu9 ▸ bits_in .and _ _
              have Ku9 : ∀ w, Calls Tryd.prog 71 #[.int .i64 a1, .int .i64 a2] w fun e w' => e = .returned (.int .i64 u9) ∧ w' = w := fun w => hu9 ▸ rand_any a1 a2 ⟨a1l, a1u⟩ ⟨a2l, a2u⟩ w
              obtain ⟨lu9, uu9⟩ := Bu9
              obtain ⟨v1, hv1⟩ : ∃ z, bits .xor .u32 u8 u9 = z := ⟨_, rfl⟩
              have Bv1 : W32 v1 := hv1 ▸ bits_in .xor _ _
              have Kv1 : ∀ w, Calls Tryd.prog 67 #[.int .i64 u8, .int .i64 u9] w fun e w' => e = .returned (.int .i64 v1) ∧ w' = w := fun w => hv1 ▸ rxor_any u8 u9 ⟨lu8, uu8⟩ ⟨lu9, uu9⟩ w
              obtain ⟨lv1, uv1⟩ := Bv1
              obtain ⟨tt, htt⟩ : ∃ z, (a7 + t5 + t8 + ti + wi) % 4294967296 = z := ⟨_, rfl⟩
              have tl : 0 ≤ tt ∧ tt < 4294967296 := by omega
              obtain ⟨tl, tu⟩ := tl
              have Kt : ∀ w, Calls Tryd.prog 70 #[.int .i64 (a7 + t5 + t8 + ti + wi)] w fun e w' => e = .returned (.int .i64 tt) ∧ w' = w := fun w => htt ▸ rword_any (a7 + t5 + t8 + ti + wi) (by omega) (by omega) w
              obtain ⟨uu, huu⟩ : ∃ z, (u5 + v1) % 4294967296 = z := ⟨_, rfl⟩
              have ul : 0 ≤ uu ∧ uu < 4294967296 := by omega
              obtain ⟨ul, uu'⟩ := ul
              have Ku : ∀ w, Calls Tryd.prog 70 #[.int .i64 (u5 + v1)] w fun e w' => e = .returned (.int .i64 uu) ∧ w' = w := fun w => huu ▸ rword_any (u5 + v1) (by omega) (by omega) w
              have Kd := rword_any (a3 + tt) (by omega) (by omega)
              have Ka := rword_any (tt + uu) (by omega) (by omega)
              have HST : Hid (stepR ti wi ⟨a0, a1, a2, a3, a4, a5, a6, a7⟩ = ⟨(tt + uu) % 4294967296, a0, a1, a2, (a3 + tt) % 4294967296, a4, a5, a6⟩) := Lib.hid (by
                have eT : stepT ti wi ⟨a0, a1, a2, a3, a4, a5, a6, a7⟩ = a7 + t5 + t8 + ti + wi := by
                  unfold stepT
                  simp only
                  rw [← ch32 a4 a5 a6 a4l a4u, ht1, ht2, ht3, ht4, ht5, ht6, ht7, ht8]
                have eU : stepU ⟨a0, a1, a2, a3, a4, a5, a6, a7⟩ = u5 + v1 := by
                  unfold stepU
                  simp only
                  rw [hu1, hu2, hu3, hu4, hu5, hu6, hu7, hu8, hu9, hv1]
                unfold stepR
                rw [eT, eU]
                simp only [S8.mk.injEq, true_and, and_true]
                constructor <;> omega)
              rw [HST.out] at Hrd
              clear ht1 ht2 ht3 ht4 ht5 ht6 ht7 ht8 hu1 hu2 hu3 hu4 hu5 hu6 hu7 hu8 hu9 hv1 HST htt huu
              go_wp2
              refine wp_region_mix (St X0 _ wr) [0, 1, 2, 3, 4, 5, 6, 7, 8, 9, 10, 11, 12, 13, 14, 15, 16, 17, 18, 19, 20, 21, 22, 23, 24, 25, 26, 27, 28] [29, 30] mixed (by kernel_rfl) rfl (St.drew Bw ho) ?_
              simp only [List.filterMap_cons, List.filterMap_nil, List.getElem?_toArray, List.getElem?_cons_succ, List.getElem?_cons_zero]
              repeat (first
                | (refine held_val ?_ rfl (fun w1 hS => ?_) ?_
                   rotate_left
                   · (skip
                      go_simp
                      try go_bits
                      rfl)
                   simp only [Act.put, List.setIfInBounds_toArray, List.set_cons_zero, List.set_cons_succ])
                | (refine held_off rfl ?_
                   simp only [Act.put, List.setIfInBounds_toArray, List.set_cons_zero, List.set_cons_succ]))
              refine held_call 68 #[.int .i64 a4, .int .i64 6] (.int .i64 t1) rfl (fun w1 hS => by go_simp) (fun w1 hS => (Kt1 w1).mono ?_) ?_
              · rintro e w2 ⟨rfl, rfl⟩
                exact ⟨rfl, hS⟩
              simp only [Act.put, List.setIfInBounds_toArray, List.set_cons_zero, List.set_cons_succ]
              repeat (first
                | (refine held_val ?_ rfl (fun w1 hS => ?_) ?_
                   rotate_left
                   · (skip
                      go_simp
                      try go_bits
                      rfl)
                   simp only [Act.put, List.setIfInBounds_toArray, List.set_cons_zero, List.set_cons_succ])
                | (refine held_off rfl ?_
                   simp only [Act.put, List.setIfInBounds_toArray, List.set_cons_zero, List.set_cons_succ]))
              refine held_call 68 #[.int .i64 a4, .int .i64 11] (.int .i64 t2) rfl (fun w1 hS => by go_simp) (fun w1 hS => (Kt2 w1).mono ?_) ?_
              · rintro e w2 ⟨rfl, rfl⟩
                exact ⟨rfl, hS⟩
              simp only [Act.put, List.setIfInBounds_toArray, List.set_cons_zero, List.set_cons_succ]
              refine held_call 67 #[.int .i64 t1, .int .i64 t2] (.int .i64 t3) rfl (fun w1 hS => by go_simp) (fun w1 hS => (Kt3 w1).mono ?_) ?_
              · rintro e w2 ⟨rfl, rfl⟩
                exact ⟨rfl, hS⟩
              simp only [Act.put, List.setIfInBounds_toArray, List.set_cons_zero, List.set_cons_succ]
              repeat (first
                | (refine held_val ?_ rfl (fun w1 hS => ?_) ?_
                   rotate_left
                   · (skip
                      go_simp
                      try go_bits
                      rfl)
                   simp only [Act.put, List.setIfInBounds_toArray, List.set_cons_zero, List.set_cons_succ])
                | (refine held_off rfl ?_
                   simp only [Act.put, List.setIfInBounds_toArray, List.set_cons_zero, List.set_cons_succ]))
              refine held_call 68 #[.int .i64 a4, .int .i64 25] (.int .i64 t4) rfl (fun w1 hS => by go_simp) (fun w1 hS => (Kt4 w1).mono ?_) ?_
              · rintro e w2 ⟨rfl, rfl⟩
                exact ⟨rfl, hS⟩
              simp only [Act.put, List.setIfInBounds_toArray, List.set_cons_zero, List.set_cons_succ]
              refine held_call 67 #[.int .i64 t3, .int .i64 t4] (.int .i64 t5) rfl (fun w1 hS => by go_simp) (fun w1 hS => (Kt5 w1).mono ?_) ?_
              · rintro e w2 ⟨rfl, rfl⟩
                exact ⟨rfl, hS⟩
              simp only [Act.put, List.setIfInBounds_toArray, List.set_cons_zero, List.set_cons_succ]
              repeat (first
                | (refine held_val ?_ rfl (fun w1 hS => ?_) ?_
                   rotate_left
                   · (skip
                      go_simp
                      try go_bits
                      rfl)
                   simp only [Act.put, List.setIfInBounds_toArray, List.set_cons_zero, List.set_cons_succ])
                | (refine held_off rfl ?_
                   simp only [Act.put, List.setIfInBounds_toArray, List.set_cons_zero, List.set_cons_succ]))
              refine held_call 71 #[.int .i64 a4, .int .i64 a5] (.int .i64 t6) rfl (fun w1 hS => by go_simp) (fun w1 hS => (Kt6 w1).mono ?_) ?_
              · rintro e w2 ⟨rfl, rfl⟩
                exact ⟨rfl, hS⟩
              simp only [Act.put, List.setIfInBounds_toArray, List.set_cons_zero, List.set_cons_succ]
              repeat (first
                | (refine held_val ?_ rfl (fun w1 hS => ?_) ?_
                   rotate_left
                   · (skip
                      go_simp
                      try go_bits
                      rfl)
                   simp only [Act.put, List.setIfInBounds_toArray, List.set_cons_zero, List.set_cons_succ])
                | (refine held_off rfl ?_
                   simp only [Act.put, List.setIfInBounds_toArray, List.set_cons_zero, List.set_cons_succ]))
              refine held_call 71 #[.int .i64 (4294967295 - a4), .int .i64 a6] (.int .i64 t7) rfl (fun w1 hS => by go_simp) (fun w1 hS => (Kt7 w1).mono ?_) ?_
              · rintro e w2 ⟨rfl, rfl⟩
                exact ⟨rfl, hS⟩
              simp only [Act.put, List.setIfInBounds_toArray, List.set_cons_zero, List.set_cons_succ]
              refine held_call 67 #[.int .i64 t6, .int .i64 t7] (.int .i64 t8) rfl (fun w1 hS => by go_simp) (fun w1 hS => (Kt8 w1).mono ?_) ?_
              · rintro e w2 ⟨rfl, rfl⟩
                exact ⟨rfl, hS⟩
              simp only [Act.put, List.setIfInBounds_toArray, List.set_cons_zero, List.set_cons_succ]
              repeat (first
                | (refine held_val ?_ rfl (fun w1 hS => ?_) ?_
                   rotate_left
                   · (obtain ⟨k1, k2⟩ := G.out w1 hS.2.1 (hb.trans hS.2.2)
                      go_simp
                      try go_bits
                      rfl)
                   simp only [Act.put, List.setIfInBounds_toArray, List.set_cons_zero, List.set_cons_succ])
                | (refine held_off rfl ?_
                   simp only [Act.put, List.setIfInBounds_toArray, List.set_cons_zero, List.set_cons_succ]))
              refine held_nil (fun w9 hS => ?_)
              obtain ⟨B9, o9, b9⟩ := hS
              have hb9 := hb.trans b9
              clear ho hb b9 Bw G
              go_wp2_with fail
              refine (Kt w9).mono ?_
              rintro e wz ⟨rfl, rfl⟩
              go_wp2_with fail
              refine (Ku1 wz).mono ?_
              rintro e wz ⟨rfl, rfl⟩
              go_wp2_with fail
              refine (Ku2 wz).mono ?_
              rintro e wz ⟨rfl, rfl⟩
              go_wp2_with fail
              refine (Ku3 wz).mono ?_
              rintro e wz ⟨rfl, rfl⟩
              go_wp2_with fail
              refine (Ku4 wz).mono ?_
              rintro e wz ⟨rfl, rfl⟩
              go_wp2_with fail
              refine (Ku5 wz).mono ?_
              rintro e wz ⟨rfl, rfl⟩
              go_wp2_with fail
              refine (Ku6 wz).mono ?_
              rintro e wz ⟨rfl, rfl⟩
              go_wp2_with fail
              refine (Ku7 wz).mono ?_
              rintro e wz ⟨rfl, rfl⟩
              go_wp2_with fail
              refine (Ku8 wz).mono ?_
              rintro e wz ⟨rfl, rfl⟩
              go_wp2_with fail
              refine (Ku9 wz).mono ?_
              rintro e wz ⟨rfl, rfl⟩
              go_wp2_with fail
              refine (Kv1 wz).mono ?_
              rintro e wz ⟨rfl, rfl⟩
              go_wp2_with fail
              refine (Ku wz).mono ?_
              rintro e wz ⟨rfl, rfl⟩
              go_wp2_with fail
              refine (Kd wz).mono ?_
              rintro e wz ⟨rfl, rfl⟩
              go_wp2_with fail
              refine (Ka wz).mono ?_
              rintro e wz ⟨rfl, rfl⟩
              go_wp2
              go_roundg j
              case measure => omega
              case rel => exact ⟨i + 1, _, _, _, _, _, _, _, _, by have := Hk.out; omega, rfl, rfl, rfl, rfl, rfl, rfl, rfl, rfl, rfl, ⟨W32.mod _, ⟨a0l, a0u⟩, ⟨a1l, a1u⟩, ⟨a2l, a2u⟩, W32.mod _, ⟨a4l, a4u⟩, ⟨a5l, a5u⟩, ⟨a6l, a6u⟩⟩, Hrd, o9, hb9⟩
            · obtain rfl : i = 64 := by omega
              have HL : Hid (res = addTo [s0, s1, s2, s3, s4, s5, s6, s7] [a0, a1, a2, a3, a4, a5, a6, a7] 8) := Lib.hid (by
                rw [← Hres.out, blockF, ← hrd.out]
                rfl)
              have oN := (ho.drop.new Bw 3 (iA [a0, a1, a2, a3, a4, a5, a6, a7])).rw_nil 3 1
              have bN := hb.alloc Bw (.cells (iA [a0, a1, a2, a3, a4, a5, a6, a7]) 3)
              obtain ⟨Y, hY⟩ : ∃ Y, wr.heap.size = Y := ⟨_, rfl⟩
              rw [hY] at oN
              obtain ⟨S, hS⟩ : ∃ S, [s0, s1, s2, s3, s4, s5, s6, s7] = S := ⟨_, rfl⟩
              obtain ⟨L, hL⟩ : ∃ L, [a0, a1, a2, a3, a4, a5, a6, a7] = L := ⟨_, rfl⟩
              have HSL : Hid (S.length = 8 ∧ L.length = 8 ∧ (∀ q, W32 (S.getD q 0)) ∧ (∀ q, W32 (L.getD q 0))) := Lib.hid ⟨by rw [← hS]; rfl, by rw [← hL]; rfl, fun q => by
                rw [← hS]
                obtain ⟨h0, h1, h2, h3, h4, h5, h6, h7⟩ := HS.out
                match q with
                | 0 => exact h0
                | 1 => exact h1
                | 2 => exact h2
                | 3 => exact h3
                | 4 => exact h4
                | 5 => exact h5
                | 6 => exact h6
                | 7 => exact h7
                | n + 8 => exact W32.zero, fun q => by
                rw [← hL]
                obtain ⟨h0, h1, h2, h3, h4, h5, h6, h7⟩ := hin
                match q with
                | 0 => exact h0
                | 1 => exact h1
                | 2 => exact h2
                | 3 => exact h3
                | 4 => exact h4
                | 5 => exact h5
                | 6 => exact h6
                | 7 => exact h7
                | n + 8 => exact W32.zero⟩
              rw [hS] at HL RS
              rw [hL] at HL oN
              have HY := Lib.hid hY
              have HbN : Hid (Below X0 w (wr.alloc (.cells #[.int .i64 a0, .int .i64 a1, .int .i64 a2, .int .i64 a3, .int .i64 a4, .int .i64 a5, .int .i64 a6, .int .i64 a7] 3))) := Lib.hid bN
              have HoN : Hid (Own X0 (Rw 3 1 (.slice none 0 0) 0 [] * (Bk Y 3 (iA L) * Emp)) (wr.alloc (.cells #[.int .i64 a0, .int .i64 a1, .int .i64 a2, .int .i64 a3, .int .i64 a4, .int .i64 a5, .int .i64 a6, .int .i64 a7] 3))) := Lib.hid (by rw [← hL] at oN ⊢; exact oN)
              clear oN bN hin hrd hS hL hk hlt i0 ho hb Bw
              go_wp2
              go_loopg [26, 27] 8 (fun kk v26 v27 wr => ∃ (i : Nat) (A : Option Addr) (c : Nat) (out : List Int), kk + i = 8 ∧ v27 = .int .i64 (i : Int) ∧ v26 = .slice A out.length c ∧ Hid (out = (addTo S L i).take i) ∧ Own X0 (Rw 3 1 (.slice A out.length c) out.length (iL out) * (Bk Y 3 (iA L) * Emp)) wr ∧ Below X0 w wr)
              case atStart => exact ⟨0, none, 0, [], rfl, rfl, rfl, Lib.hid rfl, HoN.out, HbN.out⟩
              case round =>
                clear HoN HbN
                obtain ⟨i, A, c, out, hk, rfl, rfl, hout, ho, hb⟩ := hrel
                have i0 : (0 : Int) ≤ (i : Int) := by omega
                have Bw : X0 ≤ wr.heap.size := by rw [← hX0]; exact hb.size
                obtain ⟨hS8, hL8, hSi, hLi⟩ := HSL.out
                by_cases hlt : (i : Int) < 8
                · obtain ⟨j, rfl⟩ : ∃ j, gk = j + 1 := ⟨gk - 1, by omega⟩
                  have HO : Hid (out ++ [(S.getD i 0 + L.getD i 0) % 4294967296] = (addTo S L (i + 1)).take (i + 1)) := Lib.hid (by
                    rw [addTo, take_set_succ _ _ _ (by rw [addTo_length]; omega), ← hout.out, addTo_keep S L i i (Nat.le_refl i), Int.add_comm])
                  have hol : out.length ≤ 8 := by rw [hout.out, List.length_take]; omega
                  have G := Lib.hid (fun W (h : Own X0 (Rw 3 1 (.slice A out.length c) out.length (iL out) * (Bk Y 3 (iA L) * Emp)) W) (h2 : Below X0 w W) => And.intro (RS.out W h2 i (by omega)) ((h.cellOf Y i).trans (iA_getD L i (by omega))))
                  obtain ⟨sl, su⟩ := hSi i
                  obtain ⟨ll, lu⟩ := hLi i
                  have Hk := Lib.hid hk
                  clear hout hk hS8 hL8 hSi hLi
                  generalize S.getD i 0 = si at *
                  generalize L.getD i 0 = li at *
                  obtain ⟨z, hz⟩ : ∃ z, (si + li) % 4294967296 = z := ⟨_, rfl⟩
                  have Kw : ∀ w, Calls Tryd.prog 70 #[.int .i64 (si + li)] w fun e w' => e = .returned (.int .i64 z) ∧ w' = w := fun w => hz ▸ rword_any (si + li) (by omega) (by omega) w
                  rw [hz] at HO
                  clear hz
                  go_wp2
                  refine wp_region_lmix (St X0 _ wr) [0] [] [1, 2, 3, 4, 5, 6, 7, 8, 9, 10] [11] [12, 13] mixed (by kernel_rfl) rfl (fun _ _ _ _ _ h => h) (St.drew Bw ho) ?_
                  simp only [List.filterMap_cons, List.filterMap_nil, List.getElem?_toArray, List.getElem?_cons_succ, List.getElem?_cons_zero]
                  repeat (
                    refine free_val ?_ rfl (fun w1 => ?_) ?_
                    rotate_left
                    · (go_simp
                       try go_bits
                       rfl)
                    simp only [Act.put, List.setIfInBounds_toArray, List.set_cons_zero, List.set_cons_succ])
                  refine free_nil ?_
                  repeat (first
                    | (refine late_val ?_ rfl (fun w1 hS => ?_) ?_
                       rotate_left
                       · (skip
                          go_simp
                          try go_bits
                          rfl)
                       simp only [Act.put, List.setIfInBounds_toArray, List.set_cons_zero, List.set_cons_succ])
                    | (refine late_off rfl ?_
                       simp only [Act.put, List.setIfInBounds_toArray, List.set_cons_zero, List.set_cons_succ]))
                  refine late_nil ?_
                  repeat (first
                    | (refine held_val ?_ rfl (fun w1 hS => ?_) ?_
                       rotate_left
                       · (obtain ⟨k1, k2⟩ := G.out w1 hS.2.1 (hb.trans hS.2.2)
                          go_simp
                          try go_bits
                          rfl)
                       simp only [Act.put, List.setIfInBounds_toArray, List.set_cons_zero, List.set_cons_succ])
                    | (refine held_off rfl ?_
                       simp only [Act.put, List.setIfInBounds_toArray, List.set_cons_zero, List.set_cons_succ]))
                  refine held_call 70 #[.int .i64 (si + li)] (.int .i64 z) rfl (fun w1 hS => by go_simp) (fun w1 hS => (Kw w1).mono ?_) ?_
                  · rintro e w2 ⟨rfl, rfl⟩
                    exact ⟨rfl, hS⟩
                  simp only [Act.put, List.setIfInBounds_toArray, List.set_cons_zero, List.set_cons_succ]
                  refine held_nil (fun w9 hS => ?_)
                  refine kept_val ?_ rfl (w1 := ?_) ?_ ?_ ?_
                  rotate_left 2
                  · (go_simp
                     try go_bits
                     first | (constructor <;> rfl) | rfl)
                  · exact hS.alloc _
                  simp only [Act.put, List.setIfInBounds_toArray, List.set_cons_zero, List.set_cons_succ]
                  refine kept_nil ?_
                  obtain ⟨B9, o9, b9⟩ := hS
                  have hb9 := hb.trans b9
                  obtain ⟨g5, cap5, w5, hrun, o5, b5⟩ := int_snoc B9 o9 z (by omega)
                  have Hrun := Lib.hid hrun
                  have hb5 := hb9.trans b5
                  clear hrun b5 o9 ho hb b9 hb9 G
                  generalize out ++ [z] = out2 at *
                  refine wpList_append_run rfl (.tmp 223) (.tmp 234) 85 rfl rfl rfl Hrun.out ?_
                  simp only [Act.put, List.setIfInBounds_toArray, List.set_cons_zero, List.set_cons_succ]
                  go_wp2
                  go_roundg j
                  case measure => omega
                  case rel => exact ⟨i + 1, _, _, out2, by have := Hk.out; omega, rfl, rfl, HO, o5, hb5⟩
                · obtain rfl : i = 8 := by omega
                  have HO : Hid (res = out) := Lib.hid (by rw [HL.out, hout.out, List.take_of_length_le (by rw [addTo_length]; omega)])
                  clear hout hk hS8 hL8 hSi hLi
                  go_wp2
                  go_ret
                  exact ⟨_, rfl, by rw [hX0, HO.out]; exact ho.row, by rw [hX0]; exact hb⟩
end Go.Proofs.YtmppagiaonbggaaDoor
