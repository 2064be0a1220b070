/- The walk over the law CoderEvens. -/
import Derived.Test.YtnoofgcjhoiboaaLe
import Derived.Test.YtnoofgcjhoiboaaL1
import Derived.Test.YtnoofgcjhoiboaaTwo
namespace Go.Proofs.Ytnoofgcjhoiboaa
set_option linter.unusedVariables false
set_option linter.unusedSimpArgs false
open Go.RowKit

set_option maxHeartbeats 3200000 in
set_option maxRecDepth 100000 in
theorem evens_walk (A : Option Addr) (cap : Nat) (l : List Int) (hw : ∀ x ∈ l, -9223372036854775808 ≤ x ∧ x ≤ 9223372036854775807) (bits : Int) (w : World) (hr : Rd w (.slice A l.length cap) (l.map (Value.int .i64))) (hlm : l.length ≤ 9223372036854775807) :
    Calls Try.prog 5 #[.slice A l.length cap, .int .i64 bits] w fun e w' => e = .returned (.bool true) ∧ Below w.heap.size w w' := by
  by_cases hbig : 50 < l.length
  · have hbig' : (50 : Int) < (l.length : Int) := by omega
    go_enter Try.func5, Try.ntmps5
    go_wp2_with (go_at_call 10; refine (awake_any _).mono ?_; rintro e w1 ⟨rfl, b1⟩)
    go_ret
    exact ⟨rfl, b1⟩
  have hsm : (l.length : Int) ≤ 50 := by omega
  by_cases hneg : bits < 0
  · go_enter Try.func5, Try.ntmps5
    go_wp2_with (go_at_call 10; refine (awake_any _).mono ?_; rintro e w1 ⟨rfl, b1⟩)
    go_ret
    exact ⟨rfl, b1⟩
  by_cases hgt : 32 < bits
  · go_enter Try.func5, Try.ntmps5
    go_wp2_with (go_at_call 10; refine (awake_any _).mono ?_; rintro e w1 ⟨rfl, b1⟩)
    go_ret
    exact ⟨rfl, b1⟩
  obtain ⟨m, rfl⟩ : ∃ m : Nat, bits = m := ⟨bits.toNat, by omega⟩
  have m0 : (0 : Int) ≤ (m : Int) := by omega
  have m1 : (m : Int) ≤ 32 := by omega
  clear hneg hgt
  have hB : w.heap.size ≤ w.heap.size := Nat.le_refl _
  have hO := Own.start w.heap.size w
  have Hr := Lib.hid hr
  have Hw := Lib.hid hw
  clear hr hw
  generalize hH : w.heap.size = B at hB hO ⊢
  have hB : B ≤ w.heap.size := by omega
  have HH := Lib.hid hH
  clear hH
  go_enter Try.func5, Try.ntmps5
  go_wp2_with fail
  refine (begin_any B Emp w hB hO).mono ?_
  rintro e w1 ⟨p, rfl, o1, b1⟩
  have B1 : B ≤ w1.heap.size := Nat.le_trans hB b1.size
  go_wp2_with fail
  refine (begin_any B _ w1 B1 o1).mono ?_
  rintro e w2 ⟨q, rfl, o2, b2⟩
  have o2 := o2.cast (sep_left_comm _ _ _)
  have b2 := b1.trans b2
  clear b1 o1
  go_wp2
  go_loopg [8, 9, 27] l.length (fun k x8 x9 i wr => k ≤ l.length ∧ i = .int .i64 ((l.length : Int) - (k : Int)) ∧ ∃ s' : WS, Own B (Wr p s' * (Wr q s' * Emp)) wr ∧ Below B w wr ∧ Hid (s'.live (32 * k)) ∧ Hid (s'.eights ((l.length - k) * m)))
  case atStart => exact ⟨Nat.le_refl _, congrArg (Value.int .i64) (by omega), begin0, o2, b2, Lib.hid (begin0_live _ (by omega) (by omega)), Lib.hid (by rw [Nat.sub_self, Nat.zero_mul]; exact begin0_eights)⟩
  case round =>
    obtain ⟨hk, rfl, s', ho, hbb, Hl, He⟩ := hrel
    have Bw : B ≤ wr.heap.size := Nat.le_trans hB hbb.size
    by_cases hk0 : gk = 0
    · subst hk0
      go_wp2_with fail
      refine (end_live p s' B _ wr Bw ⟨Hl.out.ok, by have := He.out; have h2 := Hl.out.room; have h3 := WS.tot_nonneg this.1; obtain ⟨_, j, hj, hc, _⟩ := this; have h5 : (l.length - 0) * m ≤ 50 * 32 := Nat.mul_le_mul (by omega) (by omega); unfold WS.tot at hc; split at hc <;> omega⟩ Hl.out.dn ho).mono ?_
      rintro e w3 ⟨va, rfl, o3, b3⟩
      have B3 : B ≤ w3.heap.size := Nat.le_trans Bw b3.size
      obtain ⟨Aa, ca, rfl⟩ := o3.row_n
      have h4 : (4 : Int) ≤ ((endS s').out.length : Int) := by have := (eights_len He.out).1; omega
      obtain ⟨X, hX⟩ : ∃ X : Int, (l.length : Int) * (m : Int) = X := ⟨_, rfl⟩
      have hX0 : 0 ≤ X := by rw [← hX]; exact Int.mul_nonneg (by omega) m0
      have hX1 : X ≤ 1600 := by
        rw [← hX]
        have := Int.mul_le_mul hsm m1 m0 (by omega)
        omega
      have h5 : ((endS s').out.length : Int) ≤ 5 + X / 7 := by
        have h6 := (eights_len He.out).2
        rw [Nat.sub_zero] at h6
        have h7 : ((l.length * m : Nat) : Int) = X := by rw [← hX]; exact Int.natCast_mul _ _
        omega
      have Hok : Hid (s'.okr 6 ∧ s'.dn = false) := Lib.hid ⟨⟨Hl.out.ok, by have := He.out; have h2 := Hl.out.room; have h3 := WS.tot_nonneg this.1; obtain ⟨_, j, hj, hc, _⟩ := this; have h5 : (l.length - 0) * m ≤ 50 * 32 := Nat.mul_le_mul (by omega) (by omega); unfold WS.tot at hc; split at hc <;> omega⟩, Hl.out.dn⟩
      clear Hl He
      generalize hst : strOfNums (endS s').out = st
      go_wp2
      refine wp_region_two (B := B) [0, 2] [1] [3, 4] [5, 6, 7, 8, 9, 10, 11, 12, 13, 14, 15, 16, 17, 18, 19, 20, 21, 22, 23, 24, 25] (Rw 5 1 (.slice Aa (endS s').out.length ca) (endS s').out.length (bytesV (endS s').out)) (Wr q s') (Wr p (endS s') * Emp) mixed (by kernel_rfl) rfl (fun _ _ _ _ _ h => h) B3 ((o3.cast (by ac_rfl)).drew B3) ?_
      simp only [List.filterMap_cons, List.filterMap_nil, List.getElem?_toArray, List.getElem?_cons_succ, List.getElem?_cons_zero]
      repeat (
        refine free_val ?_ rfl (fun w1 => ?_) ?_
        rotate_left
        · (go_simp
           try go_bits
           rfl)
        simp only [Act.put, List.setIfInBounds_toArray, List.set_cons_zero, List.set_cons_succ])
      refine free_nil ?_
      refine ⟨fun vs A' => vs = [.string st] ∧ A' = Rw 5 1 (.slice Aa (endS s').out.length ca) (endS s').out.length (bytesV (endS s').out), fun vs A' => ∃ v, vs = [v, .string st] ∧ A' = (Rw 5 1 v (endS s').out.length (bytesV (endS s').out) * Wr q (endS s')), ?_, ?_, ?_⟩
      · simp only [opsOf, List.filterMap_cons, List.filterMap_nil, List.getElem?_toArray, List.getElem?_cons_succ, List.getElem?_cons_zero]
        refine tw_val ?_ rfl (fun R1 _ w1 hS => ?_) ?_
        rotate_left
        · (have hs := str_of_row hS; rw [hst] at hs
           go_simp
           try go_bits
           rfl)
        simp only [Act.put, List.setIfInBounds_toArray, List.set_cons_zero, List.set_cons_succ]
        exact tw_nil ⟨rfl, rfl⟩
      · simp only [opsOf, List.filterMap_cons, List.filterMap_nil, List.getElem?_toArray, List.getElem?_cons_succ, List.getElem?_cons_zero]
        refine tw_call 16 #[.pointer (some ⟨q, 0, none⟩)] (fun v A' => A' = (Rw 5 1 v (endS s').out.length (bytesV (endS s').out) * Wr q (endS s'))) rfl (fun R1 _ w1 hS => by go_simp) (fun R1 _ w1 hB1 hS => (end_live q s' B R1 w1 hB1 Hok.out.1 Hok.out.2 hS).mono ?_) ?_
        · rintro e w2 ⟨v, rfl, o5, b5⟩
          exact ⟨v, _, rfl, ⟨inferInstance, rfl⟩, o5.assoc', b5⟩
        · rintro v A' _ rfl
          simp only [Act.put, List.setIfInBounds_toArray, List.set_cons_zero, List.set_cons_succ]
          refine tw_val ?_ rfl (fun R1 _ w1 hS => ?_) ?_
          rotate_left
          · (have hs := str_of_row hS.assoc; rw [hst] at hs
             go_simp
             try go_bits
             rfl)
          simp only [Act.put, List.setIfInBounds_toArray, List.set_cons_zero, List.set_cons_succ]
          exact tw_nil ⟨v, rfl, rfl⟩
      · rintro vs1 A1' vs2 A2' w4 ⟨rfl, rfl⟩ ⟨v, rfl, rfl⟩ o4 b4
        simp only [opsOf, putAll, Act.put, List.filterMap_cons, List.filterMap_nil, List.getElem?_toArray, List.getElem?_cons_succ, List.getElem?_cons_zero, List.setIfInBounds_toArray, List.set_cons_zero, List.set_cons_succ]
        refine wpAny_mix (St B Emp w4) [5, 6, 7, 8, 9, 10, 11, 12, 13, 14, 15, 16, 17, 18, 19, 20, 21, 22] [23, 24, 25] (by kernel_rfl) rfl ⟨Nat.le_trans B3 b4.size, Own.start B w4, Below.refl B w4⟩ ?_
        simp only [List.filterMap_cons, List.filterMap_nil, List.getElem?_toArray, List.getElem?_cons_succ, List.getElem?_cons_zero]
        repeat (first
          | (refine held_val ?_ rfl (fun w1 hS => ?_) ?_
             rotate_left
             · (skip
                go_simp
                try go_bits
                rfl)
             simp only [Act.put, List.setIfInBounds_toArray, List.set_cons_zero, List.set_cons_succ])
          | (refine held_off rfl ?_
             simp only [Act.put, List.setIfInBounds_toArray, List.set_cons_zero, List.set_cons_succ]))
        refine held_nil (fun w5 hS => ?_)
        go_wp2_with (go_at_call 10; refine (awake_any _).mono ?_; rintro e w6 ⟨rfl, b6⟩)
        go_ret
        exact ⟨rfl, (((hbb.trans b3).trans b4).trans hS.2.2).trans (b6.mono hS.1)⟩
    · obtain ⟨j, rfl⟩ : ∃ j, gk = j + 1 := ⟨gk - 1, by omega⟩
      obtain ⟨i, hi⟩ : ∃ i : Nat, i + (j + 1) = l.length := ⟨l.length - (j + 1), by omega⟩
      obtain ⟨ad, u, rfl, hu, hcell⟩ := Hr.out.at_.2 i (by omega)
      obtain ⟨x, hx, rfl⟩ : ∃ x, (-9223372036854775808 ≤ x ∧ x ≤ 9223372036854775807) ∧ u = .int .i64 x := by
        simp only [List.getElem?_map] at hu
        cases hx : l[i]? with
        | none => rw [hx] at hu; cases hu
        | some x => rw [hx] at hu; exact ⟨x, Hw.out x (List.mem_of_getElem? hx), by simpa using hu.symm⟩
      obtain ⟨b, off, spot⟩ := ad
      have hspot : spot = none := by
        obtain ⟨ad', u', h1, _, h2⟩ := Hr.out.at_.2 0 (by omega)
        injection h1 with h1
        subst h1
        simpa [Addr.add] using World.cell?_spot h2
      subst hspot
      rw [Addr.add_lit] at hcell
      have hcw : wr.cell? ⟨b, off + i, none⟩ = some (.int .i64 x) := (hbb.cell (p := ⟨b, off + i, none⟩) (by have := World.block_lt_of_cell? w _ hcell; rw [HH.out] at this; exact this)).trans hcell
      have e1 : (l.length : Int) - ((j + 1 : Nat) : Int) = (i : Int) := by omega
      have i0 : (0 : Int) ≤ (i : Int) := by omega
      have i1 : (i : Int) < (l.length : Int) := by omega
      rw [e1]
      clear hu hcell e1
      have Hi := Lib.hid hi
      clear hi
      go_wp2_with fail
      clear hcw
      refine (even_live p s' x m (by omega) hx.1 hx.2 (32 * j) (by omega) B _ wr Bw (Hl.out.less (by omega)) ho).mono ?_
      rintro e w3 ⟨rfl, o3, b3⟩
      have hlv : (evenS s' (bitsOf x m)).live (32 * j) := evenS_live _ _ _ (by omega) (Hl.out.less (by rw [bitsOf_len]; omega))
      have he8 : (evenS s' (bitsOf x m)).eights ((l.length - j) * m) := by
        have := evenS_eights (bitsOf x m) s' _ (32 * j) (by omega) (Hl.out.less (by rw [bitsOf_len]; omega)) He.out
        rw [bitsOf_len, show l.length - (j + 1) = i by have := Hi.out; omega] at this
        rw [show l.length - j = i + 1 by have := Hi.out; omega, Nat.succ_mul]
        exact this
      have Hlv := Lib.hid hlv
      have He8 := Lib.hid he8
      clear hlv he8
      have o3 := o3.cast (sep_left_comm _ _ _)
      have hbb := hbb.trans b3
      clear b3 ho
      have B3 : B ≤ w3.heap.size := Nat.le_trans hB hbb.size
      have Hl0 : Hid (s'.live (32 * j + m)) := Lib.hid (Hl.out.less (by omega))
      clear Hl He
      go_wp2
      go_loopg [9] m (fun k x9 wr2 => k ≤ m ∧ x9 = .int .i64 ((k : Int) - 1) ∧ ∃ s2 : WS, Own B (Wr q s2 * (Wr p (evenS s' (bitsOf x m)) * Emp)) wr2 ∧ Below B w wr2 ∧ Hid (s2.live (32 * j + k)) ∧ Hid (evenS s' (bitsOf x m) = evenS s2 (bitsOf x k)))
      case atStart => exact ⟨Nat.le_refl _, rfl, s', o3, hbb, Hl0, Lib.hid rfl⟩
      case round =>
        obtain ⟨hk2, rfl, s2, ho2, hbb2, Hl2, He2⟩ := hrel
        have Bw2 : B ≤ wr.heap.size := Nat.le_trans hB hbb2.size
        by_cases hk0 : gk = 0
        · subst hk0
          go_wp2
          go_roundg j
          case measure => omega
          case rel =>
            refine ⟨by omega, congrArg (Value.int .i64) (by have := Hi.out; omega), evenS s' (bitsOf x m), (ho2.cast ?_), hbb2, Hlv, He8⟩
            rw [He2.out]
            exact sep_left_comm _ _ _
        · obtain ⟨t, rfl⟩ : ∃ t, gk = t + 1 := ⟨gk - 1, by omega⟩
          have t0 : (0 : Int) ≤ (t : Int) := by omega
          have t1 : (t : Int) ≤ 31 := by omega
          have e1 : ((t + 1 : Nat) : Int) - 1 = (t : Int) := by omega
          rw [e1]
          clear e1
          have hx0 : -9223372036854775808 ≤ x / 2 ^ t ∧ x / 2 ^ t ≤ 9223372036854775807 := by
            have hp : (1 : Int) ≤ 2 ^ t := by have := Nat.one_le_two_pow (n := t); exact_mod_cast this
            constructor
            · have := Int.le_ediv_of_mul_le (c := (2 : Int) ^ t) (by omega) (a := -9223372036854775808) (b := x) (by
                have : (-9223372036854775808 : Int) * 2 ^ t ≤ -9223372036854775808 * 1 := Int.mul_le_mul_of_nonpos_left (by omega) hp
                omega)
              exact this
            · by_cases h0 : 0 ≤ x
              · exact Int.le_trans (Int.ediv_le_self _ h0) hx.2
              · have := Int.ediv_neg_of_neg_of_pos (show x < 0 by omega) (show (0 : Int) < 2 ^ t by omega)
                omega
          have Hx0 := Lib.hid hx0
          clear hx0
          go_wp2_with fail
          refine (even_live q s2 (x / 2 ^ t) 1 (by omega) Hx0.out.1 Hx0.out.2 (32 * j + t) (by omega) B _ wr Bw2 (Hl2.out.less (by omega)) ho2).mono ?_
          rintro e w4 ⟨rfl, o4, b4⟩
          rw [bitsOf_one] at o4
          have hw4 := Hl2.out.wide
          go_wp2
          go_roundg t
          case measure => omega
          case rel => exact ⟨by omega, rfl, _, o4, hbb2.trans b4, Lib.hid (putS_live _ (by omega) (Hl2.out.less (by omega)) (by omega) (by omega)), Lib.hid (by rw [He2.out, bitsOf_succ]; rfl)⟩
end Go.Proofs.Ytnoofgcjhoiboaa
