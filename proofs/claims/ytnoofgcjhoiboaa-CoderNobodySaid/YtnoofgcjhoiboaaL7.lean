/- The walk over the law CoderNobody. -/
import Derived.Test.YtnoofgcjhoiboaaCz
namespace Go.Proofs.Ytnoofgcjhoiboaa
set_option linter.unusedVariables false
set_option linter.unusedSimpArgs false
open Go.RowKit

set_option maxHeartbeats 3200000 in
set_option maxRecDepth 100000 in
theorem nobody_walk (n bits : Int) (w : World) :
    Calls Try.prog 9 #[.int .i64 n, .int .i64 bits] w fun e w' => e = .returned (.bool true) ∧ Below w.heap.size w w' := by
  have hB : w.heap.size ≤ w.heap.size := Nat.le_refl _
  have hO := Own.start w.heap.size w
  generalize hH : w.heap.size = B at hB hO ⊢
  have hB : B ≤ w.heap.size := by omega
  clear hH
  have o0 := hO.new hB 27 #[.int .i64 0]
  have b0 := (Below.refl B w).alloc hB (.cells #[.int .i64 0] 27)
  have B0 : B ≤ (w.alloc (.cells #[.int .i64 0] 27)).heap.size := by simp; omega
  go_enter Try.func9, Try.ntmps9
  go_wp2_with fail
  generalize w.alloc (.cells #[.int .i64 0] 27) = W0 at o0 b0 B0 ⊢
  generalize w.heap.size = g at o0 ⊢
  refine (bit_nil _ n W0).mono ?_
  rintro e w' ⟨rfl, rfl⟩
  go_wp2_with fail
  refine (even_nil n 3 W0).mono ?_
  rintro e w' ⟨rfl, rfl⟩
  go_wp2_with fail
  refine (tree_nil none 0 0 n bits W0).mono ?_
  rintro e w' ⟨rfl, rfl⟩
  go_wp2_with fail
  refine (begin_any B _ W0 B0 o0).mono ?_
  rintro e w1 ⟨p, rfl, o1, b1⟩
  have B1 : B ≤ w1.heap.size := Nat.le_trans B0 b1.size
  go_wp2_with fail
  refine (bit_noc p n w1).mono ?_
  rintro e w' ⟨rfl, rfl⟩
  go_wp2_with fail
  refine (chances_any 1 1 rfl (by omega) B _ w1 B1 o1).mono ?_
  rintro e w2 ⟨h, rfl, o2, b2⟩
  have B2 : B ≤ w2.heap.size := Nat.le_trans B1 b2.size
  go_wp2_with fail
  refine (tree_short p _ 1 1 1 n (by omega) (by decide) w2).mono ?_
  rintro e w' ⟨rfl, rfl⟩
  go_wp2_with fail
  refine (chances_neg (-1) (by omega) B _ w2 B2 o2).mono ?_
  rintro e w3 ⟨h3, rfl, o3, b3⟩
  have B3 : B ≤ w3.heap.size := Nat.le_trans B2 b3.size
  go_wp2_with fail
  refine (tree_short p _ 0 0 2 n (by omega) (by decide) w3).mono ?_
  rintro e w' ⟨rfl, rfl⟩
  go_wp2_with fail
  refine (end_nil w3).mono ?_
  rintro e w' ⟨rfl, rfl⟩
  have o3 : Own B (Bk g 27 #[.int .i64 0] * (Wr p begin0 * (Bk h 27 (chV (List.replicate 1 0)) * Emp))) w3 := o3.cast (by ac_rfl)
  have cg : w3.cell? ⟨g, 0, none⟩ = some (.int .i64 0) := o3.cell 0
  go_wp2_with fail
  clear cg
  refine (of_any 0 w3 (by omega) (by omega)).mono ?_
  rintro e w4 ⟨rfl, b4⟩
  have o4 := o3.grown B3 b4
  have B4 : B ≤ w4.heap.size := Nat.le_trans B3 b4.size
  go_wp2_with fail
  refine (rbit_nil _ w4).mono ?_
  rintro e w' ⟨rfl, rfl⟩
  go_wp2_with fail
  refine (reven_nil bits w4).mono ?_
  rintro e w' ⟨rfl, rfl⟩
  go_wp2_with fail
  refine (rtree_nil none 0 0 bits w4).mono ?_
  rintro e w' ⟨rfl, rfl⟩
  go_wp2_with fail
  refine (err_nil w4).mono ?_
  rintro e w' ⟨rfl, rfl⟩
  go_wp2_with fail
  refine (left_nil w4).mono ?_
  rintro e w' ⟨rfl, rfl⟩
  go_wp2_with fail
  refine (end_live p begin0 B _ w4 B4 ⟨(begin0_live 6 (by omega) (by omega)).ok, (begin0_live 6 (by omega) (by omega)).room⟩ rfl (o4.cast (sep_left_comm _ _ _))).mono ?_
  rintro e w5 ⟨va, rfl, o5, b5⟩
  have B5 : B ≤ w5.heap.size := Nat.le_trans B4 b5.size
  rw [aw_a] at o5
  have hconv := str_of_row o5
  rw [aw_f] at hconv
  go_wp2_with fail
  clear hconv
  refine (awake_any w5).mono ?_
  rintro e w6 ⟨rfl, b6⟩
  go_wp2
  go_ret
  exact ⟨rfl, (((((b0.trans b1).trans b2).trans b3).trans (b4.mono B3)).trans b5).trans (b6.mono B5)⟩
end Go.Proofs.Ytnoofgcjhoiboaa
