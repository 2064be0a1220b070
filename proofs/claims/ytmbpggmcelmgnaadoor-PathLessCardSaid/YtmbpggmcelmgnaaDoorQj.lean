/- The walks over the laws PathTells, PathOrder, PathTogether. -/
import Derived.Test.YtmbpggmcelmgnaaDoorQi
namespace Go.Proofs.YtmbpggmcelmgnaaDoor
set_option linter.unusedVariables false
set_option linter.unusedSimpArgs false
open Go.RowKit

set_option maxHeartbeats 1600000 in
theorem tells_walk (s : ByteArray) (hs : s.size ≤ 9223372036854775807) (w : World) (h : Sh w) : Calls Tryd.prog 3 #[.string s] w fun e w' => e = .returned (.bool true) ∧ Below w.heap.size w w' := by
  have hb := Below.refl w.heap.size w
  have Hh := Lib.hid (fun w1 (b : Below w.heap.size w w1) => sh_below h b)
  have Aw := Lib.hid (fun w1 h1 => awake_any w1 h1)
  have hsz : (s.size : Int) ≤ 9223372036854775807 := by omega
  clear h
  by_cases hl : (400 : Int) < (s.size : Int)
  · go_enter Tryd.func3, Tryd.ntmps3
    go_wp2_with fail
    refine (Aw.out _ (Hh.out _ hb)).mono ?_
    rintro e wz ⟨rfl, b⟩
    replace hb := hb.trans (b.mono hb.size)
    clear b
    go_wp2
    go_ret
    exact ⟨rfl, hb⟩
  · have hle : s.size ≤ 400 := by omega
    have H1 := Lib.hid (fun w1 h1 => parts_any s (by omega) w1 h1)
    have H2 := Lib.hid (fun w1 => refright_any s (by omega) w1)
    have H3 := Lib.hid (fun w1 => refsplit_any s (by omega) w1)
    have H4 := Lib.hid (fun w1 h1 => right_any s (by omega) w1 h1)
    have H5 := Lib.hid (fun w1 h1 => parent_any s (by omega) w1 h1)
    have H6 := Lib.hid (fun w1 => refparent_any s (by omega) w1)
    have n1 := (psplit_len s.data.toList).1
    have n1 : ((psplit s.data.toList).length : Int) ≤ 401 := by have : s.data.toList.length = s.size := rfl; omega
    have hp := Lib.hid (show partsOf s.data.toList = if okPath s.data.toList then psplit s.data.toList else [] from rfl)
    generalize parentOf s.data.toList = p at H5 H6
    generalize psplit s.data.toList = l at H3 n1 hp
    generalize okPath s.data.toList = y at H2 H4 hp
    generalize partsOf s.data.toList = l1 at H1 hp
    cases y
    · obtain rfl : l1 = [] := hp.out
      clear H3 hp n1
      go_enter Tryd.func3, Tryd.ntmps3
      go_wp2_with fail
      refine (H1.out _ (Hh.out _ hb)).mono ?_
      rintro e wz ⟨A1, c1, rfl, r1, b⟩
      replace hb := hb.trans (b.mono hb.size)
      clear b
      clear r1
      go_wp2_with fail
      refine (H2.out _).mono ?_
      rintro e wz ⟨rfl, b⟩
      replace hb := hb.trans (b.mono hb.size)
      clear b
      go_wp2
      go_loopg [23] 0 (fun k v wr => v = .int .i64 0 ∧ wr = wz)
      case atStart => exact ⟨rfl, rfl⟩
      case round =>
        obtain ⟨rfl, rfl⟩ := hrel
        go_wp2_with fail
        refine (H4.out _ (Hh.out _ hb)).mono ?_
        rintro e wz ⟨rfl, b⟩
        replace hb := hb.trans (b.mono hb.size)
        clear b
        go_wp2_with fail
        refine (H2.out _).mono ?_
        rintro e wz ⟨rfl, b⟩
        replace hb := hb.trans (b.mono hb.size)
        clear b
        go_wp2_with fail
        refine (H5.out _ (Hh.out _ hb)).mono ?_
        rintro e wz ⟨rfl, b⟩
        replace hb := hb.trans (b.mono hb.size)
        clear b
        go_wp2_with fail
        refine (H6.out _).mono ?_
        rintro e wz ⟨rfl, b⟩
        replace hb := hb.trans (b.mono hb.size)
        clear b
        go_wp2_with fail
        refine (Aw.out _ (Hh.out _ hb)).mono ?_
        rintro e wz ⟨rfl, b⟩
        replace hb := hb.trans (b.mono hb.size)
        clear b
        go_wp2
        go_ret
        exact ⟨rfl, hb⟩
    · obtain rfl : l1 = l := hp.out
      clear hp
      go_enter Tryd.func3, Tryd.ntmps3
      go_wp2_with fail
      refine (H1.out _ (Hh.out _ hb)).mono ?_
      rintro e wz ⟨A1, c1, rfl, r1, b⟩
      replace hb := hb.trans (b.mono hb.size)
      clear b
      have R1 := Lib.hid r1
      clear r1
      go_wp2_with fail
      refine (H2.out _).mono ?_
      rintro e wz ⟨rfl, b⟩
      replace R1 := Lib.hid (R1.out.below b)
      replace hb := hb.trans (b.mono hb.size)
      clear b
      go_wp2_with fail
      refine (H3.out _).mono ?_
      rintro e wz ⟨A2, c2, rfl, r2, b⟩
      replace R1 := Lib.hid (And.intro (R1.out.below b) r2)
      replace hb := hb.trans (b.mono hb.size)
      clear b r2
      go_wp2
      go_loopg [23] l1.length (fun k v wr => ∃ i : Nat, k + i = l1.length ∧ v = .int .i64 i ∧ Below w.heap.size w wr ∧ Hid (RdS wr A1 l1 ∧ RdS wr A2 l1))
      case atStart => exact ⟨0, by omega, rfl, hb, R1⟩
      case round =>
        clear hb R1
        obtain ⟨i, hk, rfl, hb, hrd⟩ := hrel
        by_cases hlt : (i : Int) < (l1.length : Int)
        · obtain ⟨j, rfl⟩ : ∃ j, gk = j + 1 := ⟨gk - 1, by omega⟩
          have hil : i < l1.length := by omega
          have i0 : (0 : Int) ≤ (i : Int) := by omega
          obtain ⟨p1, o1, rfl, q1, d1⟩ := hrd.out.1.at_ i hil
          obtain ⟨p2, o2, rfl, q2, d2⟩ := hrd.out.2.at_ i hil
          have Hk := Lib.hid hk
          clear hk
          generalize l1[i] = x at d1 d2
          have hxx : ((str x).toList == (str x).toList) = true := by simp
          have hx2 : ((str x).toList != (str x).toList) = false := by simp
          go_wp2
          go_quiet (fail)
          go_wp2
          go_roundg j
          case measure => omega
          case rel => exact ⟨i + 1, by have := Hk.out; omega, rfl, below_drewN hb _, Lib.hid ⟨hrd.out.1, hrd.out.2⟩⟩
        · clear hrd
          go_wp2_with fail
          refine (H4.out _ (Hh.out _ hb)).mono ?_
          rintro e wz ⟨rfl, b⟩
          replace hb := hb.trans (b.mono hb.size)
          clear b
          go_wp2_with fail
          refine (H2.out _).mono ?_
          rintro e wz ⟨rfl, b⟩
          replace hb := hb.trans (b.mono hb.size)
          clear b
          go_wp2_with fail
          refine (H5.out _ (Hh.out _ hb)).mono ?_
          rintro e wz ⟨rfl, b⟩
          replace hb := hb.trans (b.mono hb.size)
          clear b
          go_wp2_with fail
          refine (H6.out _).mono ?_
          rintro e wz ⟨rfl, b⟩
          replace hb := hb.trans (b.mono hb.size)
          clear b
          go_wp2_with fail
          refine (Aw.out _ (Hh.out _ hb)).mono ?_
          rintro e wz ⟨rfl, b⟩
          replace hb := hb.trans (b.mono hb.size)
          clear b
          go_wp2
          go_ret
          exact ⟨rfl, hb⟩

theorem long_any {P : Prop} (h : P) : P := h
set_option maxHeartbeats 1600000 in
theorem order_walk (a b c : ByteArray) (ha : a.size ≤ 9223372036854775807) (hb' : b.size ≤ 9223372036854775807) (hc' : c.size ≤ 9223372036854775807) (w : World) (h : Sh w) : Calls Tryd.prog 4 #[.string a, .string b, .string c] w fun e w' => e = .returned (.bool true) ∧ Below w.heap.size w w' := by
  have hb := Below.refl w.heap.size w
  have Hh := Lib.hid (fun w1 (b : Below w.heap.size w w1) => sh_below h b)
  have Aw := Lib.hid (fun w1 h1 => awake_any w1 h1)
  have az : (a.size : Int) ≤ 9223372036854775807 := by omega
  have bz : (b.size : Int) ≤ 9223372036854775807 := by omega
  have cz : (c.size : Int) ≤ 9223372036854775807 := by omega
  clear h
  by_cases hlong : (400 : Int) < (a.size : Int) ∨ (400 : Int) < (b.size : Int) ∨ (400 : Int) < (c.size : Int)
  · have h3 : (400 : Int) < (a.size : Int) ∨ ((a.size : Int) ≤ 400 ∧ (400 : Int) < (b.size : Int)) ∨ ((a.size : Int) ≤ 400 ∧ (b.size : Int) ≤ 400 ∧ (400 : Int) < (c.size : Int)) := by omega
    clear hlong
    rcases h3 with h1 | ⟨h1, h2⟩ | ⟨h1, h2, h3⟩
    all_goals
      go_enter Tryd.func4, Tryd.ntmps4
      go_wp2_with fail
      refine (Aw.out _ (Hh.out _ hb)).mono ?_
      rintro e wz ⟨rfl, b⟩
      replace hb := hb.trans (b.mono hb.size)
      clear b
      go_wp2
      go_ret
      exact ⟨rfl, hb⟩
  · have la : (a.size : Int) ≤ 400 := by omega
    have lb : (b.size : Int) ≤ 400 := by omega
    have lc : (c.size : Int) ≤ 400 := by omega
    have Cm := Lib.hid (fun (x y : ByteArray) hx hy w1 h1 => compare_any x y hx hy w1 h1)
    have Rm := Lib.hid (fun w1 => refcompare_any a b (by omega) (by omega) w1)
    have B1 := Lib.hid (fun w1 h1 => below_any a b (by omega) (by omega) w1 h1)
    have B2 := Lib.hid (fun w1 => refbelow_any a b (by omega) (by omega) w1)
    have Cab := Lib.hid (fun w1 h1 => Cm.out a b (by omega) (by omega) w1 h1)
    have Cba := Lib.hid (fun w1 h1 => Cm.out b a (by omega) (by omega) w1 h1)
    have Cbc := Lib.hid (fun w1 h1 => Cm.out b c (by omega) (by omega) w1 h1)
    have Cac := Lib.hid (fun w1 h1 => Cm.out a c (by omega) (by omega) w1 h1)
    have hz := cmpL_cmp.zero (psplit a.data.toList) (psplit b.data.toList)
    have hn := cmpL_cmp.neg (psplit a.data.toList) (psplit b.data.toList)
    have ht := @Cmp.le_trans _ _ cmpL_cmp (psplit a.data.toList) (psplit b.data.toList) (psplit c.data.toList)
    have hab : psplit a.data.toList = psplit b.data.toList ↔ a.toList = b.toList := by
      rw [ByteArray.toList_eq, ByteArray.toList_eq]
      exact ⟨psplit_inj, fun h => by rw [h]⟩
    rw [hab] at hz
    obtain ⟨r1, r2⟩ := cmpL_range (psplit a.data.toList) (psplit b.data.toList)
    generalize cmpL (psplit a.data.toList) (psplit b.data.toList) = x at *
    generalize cmpL (psplit b.data.toList) (psplit a.data.toList) = x' at *
    generalize cmpL (psplit b.data.toList) (psplit c.data.toList) = y at *
    generalize cmpL (psplit a.data.toList) (psplit c.data.toList) = z at *
    generalize below a.data.toList b.data.toList = t at *
    subst hn
    have hxz : ((x == 0) == (a.toList == b.toList)) = true := by
      rw [beq_iff_eq, Bool.eq_iff_iff, beq_iff_eq, beq_iff_eq, hz]
    clear hz hab hlong Cm
    have h3 : 0 < x ∨ (x ≤ 0 ∧ 0 < y) ∨ (x ≤ 0 ∧ y ≤ 0 ∧ z ≤ 0) := by
      by_cases h1 : 0 < x
      · exact .inl h1
      · by_cases h2 : 0 < y
        · exact .inr (.inl ⟨by omega, h2⟩)
        · exact .inr (.inr ⟨by omega, by omega, ht (by omega) (by omega)⟩)
    clear ht
    rcases h3 with h1 | ⟨h1, h2⟩ | ⟨h1, h2, h3⟩
    all_goals
      go_enter Tryd.func4, Tryd.ntmps4
      go_wp2_with fail
      refine (Cab.out _ (Hh.out _ hb)).mono ?_
      rintro e wz ⟨rfl, b⟩
      replace hb := hb.trans (b.mono hb.size)
      clear b
      go_wp2_with fail
      refine (Cbc.out _ (Hh.out _ hb)).mono ?_
      rintro e wz ⟨rfl, b⟩
      replace hb := hb.trans (b.mono hb.size)
      clear b
      go_wp2_with fail
      refine (Cac.out _ (Hh.out _ hb)).mono ?_
      rintro e wz ⟨rfl, b⟩
      replace hb := hb.trans (b.mono hb.size)
      clear b
      go_wp2_with fail
      refine (Rm.out _).mono ?_
      rintro e wz ⟨rfl, b⟩
      replace hb := hb.trans (b.mono hb.size)
      clear b
      go_wp2_with fail
      refine (Cba.out _ (Hh.out _ hb)).mono ?_
      rintro e wz ⟨rfl, b⟩
      replace hb := hb.trans (b.mono hb.size)
      clear b
      go_wp2_with fail
      refine (B1.out _ (Hh.out _ hb)).mono ?_
      rintro e wz ⟨rfl, b⟩
      replace hb := hb.trans (b.mono hb.size)
      clear b
      go_wp2_with fail
      refine (B2.out _).mono ?_
      rintro e wz ⟨rfl, b⟩
      replace hb := hb.trans (b.mono hb.size)
      clear b
      go_wp2_with fail
      refine (Aw.out _ (Hh.out _ hb)).mono ?_
      rintro e wz ⟨rfl, b⟩
      replace hb := hb.trans (b.mono hb.size)
      clear b
      go_wp2
      go_ret
      exact ⟨rfl, hb⟩
end Go.Proofs.YtmbpggmcelmgnaaDoor
