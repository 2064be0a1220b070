/- The walk over the law CoderChances. -/
import Derived.Test.YtnoofgcjhoiboaaCz
namespace Go.Proofs.Ytnoofgcjhoiboaa
set_option linter.unusedVariables false
set_option linter.unusedSimpArgs false
open Go.RowKit

theorem sawref_any (n bit : Int) (h0 : -993 ≤ n) (h1 : n ≤ 993) (w : World) : Calls Try.prog 14 #[.int .i64 (n + 1024), .int .i64 bit] w fun e w' => e = .returned (.int .i64 (sawN n bit + 1024)) ∧ w = w' := by
  by_cases hb : bit = 0
  · subst hb
    have e0 : n + 1024 + (2048 - (n + 1024)) / 32 = sawN n 0 + 1024 := by simp only [sawN, if_true]; omega
    go_enter Try.func14, Try.ntmps14
    go_wp2
    go_ret
    exact ⟨rfl, rfl⟩
  · have hbb : (bit == 0) = false := by simpa using hb
    have e0 : n + 1024 - (n + 1024) / 32 = sawN n bit + 1024 := by simp only [sawN, if_neg hb]; omega
    go_enter Try.func14, Try.ntmps14
    go_wp2
    go_ret
    exact ⟨rfl, rfl⟩

theorem Rd.at_ {w : World} {A : Option Addr} {n c : Nat} {xs : List Value} (h : Rd w (.slice A n c) xs) : xs.length = n ∧ ∀ j, j < n → ∃ ad u, A = some ad ∧ xs[j]? = some u ∧ w.cell? (ad.add j) = some u := by
  obtain ⟨A', c', hv, hr⟩ := h
  injection hv with h1 h2 h3
  subst h1; subst h2; subst h3
  refine ⟨rfl, fun j hj => ?_⟩
  obtain ⟨ad, ha, hc⟩ := hr (by intro e; rw [e] at hj; simp at hj)
  have hu : xs[j]? = some xs[j] := List.getElem?_eq_getElem hj
  exact ⟨ad, xs[j], ha, hu, hc j _ hu⟩

def b01 (b : Bool) : Int := if b then 1 else 0
set_option maxHeartbeats 3200000 in
set_option maxRecDepth 100000 in
theorem chances_walk (A : Option Addr) (cap : Nat) (bl : List Bool) (w : World) (hr : Rd w (.slice A bl.length cap) (bl.map Value.bool)) (hm : bl.length ≤ 9223372036854775807) :
    Calls Try.prog 3 #[.slice A bl.length cap] w fun e w' => e = .returned (.bool true) ∧ Below w.heap.size w w' := by
  by_cases hbig : 500 < bl.length
  · have hbig' : (500 : Int) < (bl.length : Int) := by omega
    go_enter Try.func3, Try.ntmps3
    go_wp2_with (go_at_call 10; refine (awake_any _).mono ?_; rintro e w1 ⟨rfl, b1⟩)
    go_ret
    exact ⟨rfl, b1⟩
  have hsm : (bl.length : Int) ≤ 500 := by omega
  have hB : w.heap.size ≤ w.heap.size := Nat.le_refl _
  have hO := Own.start w.heap.size w
  have Hr := Lib.hid hr
  clear hbig hr
  generalize hH : w.heap.size = B at hB hO ⊢
  have hB : B ≤ w.heap.size := by omega
  have HH := Lib.hid hH
  clear hH
  go_enter Try.func3, Try.ntmps3
  go_wp2_with fail
  refine (begin_any B Emp w hB hO).mono ?_
  rintro e w1 ⟨p, rfl, o1, b1⟩
  have B1 : B ≤ w1.heap.size := Nat.le_trans hB b1.size
  have o1 := o1.new B1 27 #[.int .i64 0]
  have b1 := b1.alloc B1 (.cells #[.int .i64 0] 27)
  have B1 : B ≤ (w1.alloc (.cells #[.int .i64 0] 27)).heap.size := by simp; omega
  go_wp2_with fail
  generalize w1.alloc (.cells #[.int .i64 0] 27) = W1 at o1 b1 B1 ⊢
  generalize w1.heap.size = g at o1 ⊢
  have o1 : Own B (Wr p begin0 * (Bk g 27 (chV [0]) * Emp)) W1 := o1.cast (sep_left_comm _ _ _)
  go_loopg [5, 17] bl.length (fun k c i wr => k ≤ bl.length ∧ i = .int .i64 ((bl.length : Int) - (k : Int)) ∧ ∃ (s' : WS) (n : Int), c = .int .i64 (n + 1024) ∧ -993 ≤ n ∧ n ≤ 993 ∧ Own B (Wr p s' * (Bk g 27 (chV [n]) * Emp)) wr ∧ Below B w wr ∧ s'.live (k : Int))
  case atStart => exact ⟨Nat.le_refl _, congrArg (Value.int .i64) (by omega), begin0, 0, rfl, by omega, by omega, o1, b1, begin0_live _ (by omega) (by omega)⟩
  case round =>
    obtain ⟨hk, rfl, s', n, rfl, n0, n1, ho, hbb, hl'⟩ := hrel
    have Bw : B ≤ wr.heap.size := Nat.le_trans hB hbb.size
    have Hl := Lib.hid hl'
    clear hl'
    by_cases hk0 : gk = 0
    · subst hk0
      go_wp2_with (go_at_call 10; refine (awake_any _).mono ?_; rintro e w1 ⟨rfl, b2⟩)
      go_ret
      exact ⟨rfl, hbb.trans (b2.mono Bw)⟩
    · obtain ⟨j, rfl⟩ : ∃ j, gk = j + 1 := ⟨gk - 1, by omega⟩
      obtain ⟨i, hi⟩ : ∃ i : Nat, i + (j + 1) = bl.length := ⟨bl.length - (j + 1), by omega⟩
      obtain ⟨ad, u, rfl, hu, hcell⟩ := Hr.out.at_.2 i (by omega)
      obtain ⟨bb, rfl⟩ : ∃ bb, u = .bool bb := by
        simp only [List.getElem?_map] at hu
        cases hx : bl[i]? with
        | none => rw [hx] at hu; cases hu
        | some x => rw [hx] at hu; exact ⟨x, by simpa using hu.symm⟩
      obtain ⟨b, off, spot⟩ := ad
      have hspot : spot = none := by
        obtain ⟨ad', u', h1, _, h2⟩ := Hr.out.at_.2 0 (by omega)
        injection h1 with h1
        subst h1
        simpa [Addr.add] using World.cell?_spot h2
      subst hspot
      rw [Addr.add_lit] at hcell
      have hcw : wr.cell? ⟨b, off + i, none⟩ = some (.bool bb) := (hbb.cell (p := ⟨b, off + i, none⟩) (by have := World.block_lt_of_cell? w _ hcell; rw [HH.out] at this; exact this)).trans hcell
      have e1 : (bl.length : Int) - ((j + 1 : Nat) : Int) = (i : Int) := by omega
      have i0 : (0 : Int) ≤ (i : Int) := by omega
      have i1 : (i : Int) < (bl.length : Int) := by omega
      rw [e1]
      have kc : wr.cell? ⟨g, 0, none⟩ = some (.int .i64 n) := (ho.cast (sep_left_comm _ _ _)).cell 0
      clear hu hcell e1
      have Hi := Lib.hid hi
      clear hi
      have fin : ∀ bit : Int, (bit = 0 ∧ bb = false ∨ bit = 1 ∧ bb = true) → Hid (31 ≤ sawN n bit + 1024 ∧ sawN n bit + 1024 ≤ 2017 ∧ -993 ≤ sawN n bit ∧ sawN n bit ≤ 993 ∧ (bit = 0 → n + 1024 ≤ sawN n bit + 1024) ∧ (bit = 1 → sawN n bit + 1024 ≤ n + 1024)) := by
        rintro bit hbit
        have := sawN_ok n bit ⟨n0, n1⟩
        refine ⟨by omega, by omega, this.1, this.2, ?_, ?_⟩
        · rintro rfl; simp only [sawN, if_true]; omega
        · rintro rfl; simp only [sawN, show ¬ (1 : Int) = 0 by omega, if_false]; omega
      have Fin := Lib.hid fin
      clear fin
      cases bb
      · go_wp2_with fail
        refine (of_any n _ (by omega) (by omega)).mono ?_
        rintro e w2 ⟨rfl, b2⟩
        have o2 := ho.grown Bw b2
        have B2 : B ≤ w2.heap.size := Nat.le_trans Bw b2.size
        clear kc hcw
        go_wp2_with fail
        refine (bit_any p g 0 s' [n] 0 (r := j) (by omega) B Emp w2 B2 (Hl.out.less (by omega)) (by intro m hm; simp at hm; omega) (Nat.lt_succ_self 0) o2).mono ?_
        rintro e w3 ⟨rfl, o3, b3⟩
        have B3 : B ≤ w3.heap.size := Nat.le_trans B2 b3.size
        go_wp2_with fail
        refine (sawref_any n 0 n0 n1 w3).mono ?_
        rintro e w' ⟨rfl, rfl⟩
        obtain ⟨f1, f2, f3, f4, f5, f6⟩ := (Fin.out 0 (by simp)).out
        have f7 := f5 rfl
        clear f5 f6
        have k3 : w3.cell? ⟨g, 0, none⟩ = some (.int .i64 (sawN n 0)) := (o3.cast (sep_left_comm _ _ _)).cell 0
        go_wp2_with fail
        refine (of_any (sawN n 0) _ (by omega) (by omega)).mono ?_
        rintro e w4 ⟨rfl, b4⟩
        have o4 := o3.grown B3 b4
        clear k3
        go_wp2
        go_roundg j
        case measure => omega
        case rel => exact ⟨by omega, congrArg (Value.int .i64) (by have := Hi.out; omega), _, sawN n 0, rfl, f3, f4, o4, ((hbb.trans (b2.mono Bw)).trans b3).trans (b4.mono B3), putS_live _ (by omega) (Hl.out.less (by omega)) (bitBound_in Hl.out (n := n) ⟨n0, n1⟩).1 (bitBound_in Hl.out (n := n) ⟨n0, n1⟩).2⟩
      · go_wp2_with fail
        refine (of_any n _ (by omega) (by omega)).mono ?_
        rintro e w2 ⟨rfl, b2⟩
        have o2 := ho.grown Bw b2
        have B2 : B ≤ w2.heap.size := Nat.le_trans Bw b2.size
        clear kc hcw
        go_wp2_with fail
        refine (bit_any p g 0 s' [n] 1 (r := j) (by omega) B Emp w2 B2 (Hl.out.less (by omega)) (by intro m hm; simp at hm; omega) (Nat.lt_succ_self 0) o2).mono ?_
        rintro e w3 ⟨rfl, o3, b3⟩
        have B3 : B ≤ w3.heap.size := Nat.le_trans B2 b3.size
        go_wp2_with fail
        refine (sawref_any n 1 n0 n1 w3).mono ?_
        rintro e w' ⟨rfl, rfl⟩
        obtain ⟨f1, f2, f3, f4, f5, f6⟩ := (Fin.out 1 (by simp)).out
        have f7 := f6 rfl
        clear f5 f6
        have k3 : w3.cell? ⟨g, 0, none⟩ = some (.int .i64 (sawN n 1)) := (o3.cast (sep_left_comm _ _ _)).cell 0
        go_wp2_with fail
        refine (of_any (sawN n 1) _ (by omega) (by omega)).mono ?_
        rintro e w4 ⟨rfl, b4⟩
        have o4 := o3.grown B3 b4
        clear k3
        go_wp2
        go_roundg j
        case measure => omega
        case rel => exact ⟨by omega, congrArg (Value.int .i64) (by have := Hi.out; omega), _, sawN n 1, rfl, f3, f4, o4, ((hbb.trans (b2.mono Bw)).trans b3).trans (b4.mono B3), putS_live _ (by omega) (Hl.out.less (by omega)) (bitBound_in Hl.out (n := n) ⟨n0, n1⟩).1 (bitBound_in Hl.out (n := n) ⟨n0, n1⟩).2⟩
end Go.Proofs.Ytnoofgcjhoiboaa
