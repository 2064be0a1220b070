/- Texts of one proof, merged: XNd. -/
import Derived.Test.YtedcficjmogohaaPi
/- The walk over the law PackCuts. -/
namespace Go.Proofs.Ytedcficjmogohaa
set_option linter.unusedVariables false
set_option linter.unusedSimpArgs false
set_option maxRecDepth 100000
open Go.RowKit

theorem Rd.takeU {w : World} {A : Option Addr} {c : Nat} {x : List UInt8} (h : Rd w (.slice A x.length c) (bytesU x)) (k : Nat) (hk : k ≤ x.length) :
    Rd w (.slice A (x.take k).length c) (bytesU (x.take k)) := by
  obtain ⟨A', c', e, hr⟩ := h
  injection e with e1 _ e3
  subst e1; subst e3
  refine ⟨A, c, by rw [bytesU_length], fun hne => ?_⟩
  have hx : bytesU x ≠ [] := by intro h; apply hne; unfold bytesU at *; rw [List.map_take, h, List.take_nil]
  obtain ⟨ad, rfl, hc⟩ := hr hx
  refine ⟨ad, rfl, fun j u hu => hc j u ?_⟩
  unfold bytesU at hu ⊢
  rw [List.map_take, List.getElem?_take] at hu
  split at hu
  · exact hu
  · cases hu
set_option maxHeartbeats 3200000 in
theorem packcuts_walk (A : Option Addr) (c : Nat) (b : List UInt8) (hc : b.length ≤ c ∧ c ≤ 9223372036854775807) (win cut : Int) (A' : Option Addr) (c' : Nat) (more : List UInt8) (hc' : more.length ≤ c' ∧ c' ≤ 9223372036854775807) (w : World) (hr : Rd w (.slice A b.length c) (bytesU b)) (hm : Rd w (.slice A' more.length c') (bytesU more)) :
    Calls Try.prog 5 #[.slice A b.length c, .int .i64 win, .int .i64 cut, .slice A' more.length c'] w (fun e w' => e = .returned (.bool true) ∧ Below w.heap.size w w') := by
  have hb0 := Below.refl w.heap.size w
  by_cases hbig : (300 : Int) < (b.length : Int)
  · clear hr hm
    generalize b.length = L at *
    generalize more.length = M at *
    go_enter Try.func5, Try.ntmps5
    go_wp2_with fail
    refine (awake_any _).mono ?_
    rintro e wz ⟨rfl, bz⟩
    go_wp2
    go_ret
    exact ⟨rfl, bz⟩
  by_cases h1 : win < 1
  · clear hr hm
    generalize b.length = L at *
    generalize more.length = M at *
    go_enter Try.func5, Try.ntmps5
    go_wp2_with fail
    refine (awake_any _).mono ?_
    rintro e wz ⟨rfl, bz⟩
    go_wp2
    go_ret
    exact ⟨rfl, bz⟩
  by_cases h2 : 32768 < win
  · clear hr hm
    generalize b.length = L at *
    generalize more.length = M at *
    go_enter Try.func5, Try.ntmps5
    go_wp2_with fail
    refine (awake_any _).mono ?_
    rintro e wz ⟨rfl, bz⟩
    go_wp2
    go_ret
    exact ⟨rfl, bz⟩
  by_cases h3 : (more.length : Int) < 1
  · clear hr hm
    generalize b.length = L at *
    generalize more.length = M at *
    go_enter Try.func5, Try.ntmps5
    go_wp2_with fail
    refine (awake_any _).mono ?_
    rintro e wz ⟨rfl, bz⟩
    go_wp2
    go_ret
    exact ⟨rfl, bz⟩
  by_cases h4 : (20 : Int) < (more.length : Int)
  · clear hr hm
    generalize b.length = L at *
    generalize more.length = M at *
    go_enter Try.func5, Try.ntmps5
    go_wp2_with fail
    refine (awake_any _).mono ?_
    rintro e wz ⟨rfl, bz⟩
    go_wp2
    go_ret
    exact ⟨rfl, bz⟩
  have hp0 : (packN b win).2 = 0 := by unfold packN; rw [if_neg (by omega), if_neg (by omega)]
  have HP1 := Lib.hid (fun w1 (h : Below w.heap.size w w1) => pack_any A c b hc win w1 (hr.below h))
  have HL1 := Lib.hid (show (packN b win).1.length ≤ 1000000 by have := pack_bound b win (by omega) (by omega) (by omega); omega)
  have HM := Lib.hid (unpack_more b win (by omega) (by omega) (by omega) more (by intro e; subst e; simp at h3))
  have HC := Lib.hid (fun k hk => unpack_cut b win (by omega) (by omega) (by omega) k hk)
  generalize packN b win = y1 at *
  obtain ⟨y1, z1⟩ := y1
  simp only at hp0
  subst hp0
  have HL1 : Hid (y1.length ≤ 1000000) := HL1
  have HM : Hid (unpackN (y1 ++ more) = ([], 5)) := HM
  have HC : Hid (∀ k, k < y1.length → (unpackN (y1.take k)).2 ≠ 0) := HC
  have Hm := Lib.hid (fun w1 (h : Below w.heap.size w w1) => hm.below h)
  clear hr hm
  by_cases hc1 : cut < 0
  · clear Hm HC HM
    go_enter Try.func5, Try.ntmps5
    go_wp2_with fail
    refine (HP1.out w hb0).mono ?_
    rintro e w1 ⟨A1, c1, rfl, r1, g1, b1⟩
    clear HP1 r1
    go_wp2_with fail
    refine (awake_any _).mono ?_
    rintro e wz ⟨rfl, bz⟩
    go_wp2
    go_ret
    exact ⟨rfl, b1.trans (bz.mono b1.size)⟩
  by_cases hc2 : (y1.length : Int) ≤ cut
  · clear Hm HC HM
    go_enter Try.func5, Try.ntmps5
    go_wp2_with fail
    refine (HP1.out w hb0).mono ?_
    rintro e w1 ⟨A1, c1, rfl, r1, g1, b1⟩
    clear HP1 r1
    go_wp2_with fail
    refine (awake_any _).mono ?_
    rintro e wz ⟨rfl, bz⟩
    go_wp2
    go_ret
    exact ⟨rfl, b1.trans (bz.mono b1.size)⟩
  obtain ⟨k, rfl⟩ : ∃ k : Nat, cut = (k : Int) := ⟨cut.toNat, by omega⟩
  have hk : k < y1.length := by omega
  have hkl : (y1.take k).length = k := by rw [List.length_take]; omega
  go_enter Try.func5, Try.ntmps5
  go_wp2_with fail
  refine (HP1.out w hb0).mono ?_
  rintro e w1 ⟨A1, c1, rfl, r1, g1, b1⟩
  have g1 : y1.length ≤ c1 ∧ c1 ≤ 9223372036854775807 := g1
  have r1 : Rd w1 (.slice A1 y1.length c1) (bytesU y1) := r1
  have rt := r1.takeU k (by omega)
  have HU := Lib.hid (unpack_any A1 c1 (y1.take k) (by have := HL1.out; omega) ⟨by omega, g1.2⟩ w1 rt)
  have R1 := Lib.hid (fun w2 (b2 : Below w1.heap.size w1 w2) => r1.below b2)
  have HC2 := Lib.hid (unpack_err (HC.out k hk))
  have HC1 := Lib.hid (HC.out k hk)
  rw [hkl] at HU
  generalize unpackN (y1.take k) = u1 at *
  obtain ⟨u1, z1⟩ := u1
  have HC2 : Hid (u1 = []) := HC2
  have HC1 : Hid (z1 ≠ 0) := HC1
  obtain rfl := HC2.out
  have k1 : (k : Int) ≤ (c1 : Int) := by omega
  clear HP1 r1 rt hkl HC2 HC
  go_wp2_with fail
  refine HU.out.mono ?_
  rintro e w2 ⟨A2, c2, rfl, r2, g2, b2⟩
  have hb2 := b1.trans (b2.mono b1.size)
  have B2 := hb2.size
  have r3 := R1.out w2 b2
  have o3 := ((Own.start w.heap.size w2).new B2 5 #[]).rw_of_bk (size := 1) (n := 0) rfl (by unfold maxLen; omega)
  have b3 := hb2.alloc B2 (.cells #[] 5)
  have B3 := b3.size
  have r4 := r3.below ((Below.refl w2.heap.size w2).alloc (Nat.le_refl _) (.cells #[] 5))
  obtain ⟨v4, w4, hrun4, o4, b4⟩ := byte_append (xs := []) B3 o3 r4 (by have := HL1.out; simp; omega)
  have hb4 := b3.trans b4
  have B4 := hb4.size
  obtain ⟨v5, w5, hrun5, o5, b5⟩ := byte_append B4 o4 (Hm.out _ hb4) (by have := HL1.out; simp; omega)
  have hb5 := hb4.trans b5
  obtain ⟨A4, c4, rfl⟩ := o4.row_n
  obtain ⟨A5, c5, rfl⟩ := o5.row_n
  have hcap := o5.cap
  simp only [List.nil_append] at hrun4 hrun5 o5 hcap
  have HV := Lib.hid (unpack_any A5 c5 (y1 ++ more) (by have := HL1.out; rw [List.length_append]; omega) hcap w5 o5.rd)
  rw [HM.out] at HV
  have Hrun4 := Lib.hid hrun4
  have Hrun5 := Lib.hid hrun5
  have hz : (z1 == 0) = false := by simpa using HC1.out
  have hz2 : (z1 != 0) = true := by simpa using HC1.out
  clear HU r2 r3 r4 R1 o3 o4 o5 b3 b4 b5 hrun4 hrun5 b1 b2 hcap hb4 B4 B3 Hm HM
  generalize hLL : (y1 ++ more).length = LL at *
  clear hLL
  go_wp2_with first
    | (at_builtin; refine wpList_append_run rfl (.tmp 64) (.tmp 65) 22 rfl rfl rfl Hrun4.out ?_)
    | (at_builtin; refine wpList_append_run rfl (.tmp 66) (.tmp 67) 22 rfl rfl rfl Hrun5.out ?_)
  refine HV.out.mono ?_
  rintro e w6 ⟨A6, c6, rfl, r6, g6, b6⟩
  have hb6 := hb5.trans (b6.mono hb5.size)
  clear HV r6
  go_wp2_with fail
  refine (awake_any _).mono ?_
  rintro e wz ⟨rfl, bz⟩
  go_wp2
  go_ret
  exact ⟨rfl, hb6.trans (bz.mono hb6.size)⟩
end Go.Proofs.Ytedcficjmogohaa
