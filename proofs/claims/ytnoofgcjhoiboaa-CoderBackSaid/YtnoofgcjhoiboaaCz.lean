/- The walk over awake: what the document fixes of no bits, and of one. -/
import Derived.Test.YtnoofgcjhoiboaaCa
namespace Go.Proofs.Ytnoofgcjhoiboaa
set_option linter.unusedVariables false
set_option linter.unusedSimpArgs false
open Go.RowKit

set_option maxHeartbeats 3200000 in
set_option maxRecDepth 100000 in
theorem awake_any (w : World) : Calls Try.prog 10 #[] w fun e w' => e = .returned (.bool true) ∧ Below w.heap.size w w' := by
  have hB : w.heap.size ≤ w.heap.size := Nat.le_refl _
  have hO := Own.start w.heap.size w
  generalize hH : w.heap.size = B at hB hO ⊢
  have hB : B ≤ w.heap.size := by omega
  clear hH
  go_enter Try.func10, Try.ntmps10
  go_wp2_with fail
  refine (begin_any B Emp w hB hO).mono ?_
  rintro e w1 ⟨p, rfl, o1, b1⟩
  have B1 : B ≤ w1.heap.size := Nat.le_trans hB b1.size
  have o1 := o1.new B1 27 #[.int .i64 0]
  have b1 := b1.alloc B1 (.cells #[.int .i64 0] 27)
  have B1 : B ≤ (w1.alloc (.cells #[.int .i64 0] 27)).heap.size := by simp; omega
  go_wp2_with fail
  generalize w1.alloc (.cells #[.int .i64 0] 27) = W1 at o1 b1 B1 ⊢
  generalize w1.heap.size = g at o1 ⊢
  refine (begin_any B _ W1 B1 o1).mono ?_
  rintro e w2 ⟨q, rfl, o2, b2⟩
  have B2 : B ≤ w2.heap.size := Nat.le_trans B1 b2.size
  go_wp2_with fail
  refine (end_live q begin0 B _ w2 B2 ⟨(begin0_live 6 (by omega) (by omega)).ok, (begin0_live 6 (by omega) (by omega)).room⟩ rfl o2).mono ?_
  rintro e w3 ⟨va, rfl, o3, b3⟩
  have B3 : B ≤ w3.heap.size := Nat.le_trans B2 b3.size
  rw [aw_a] at o3
  go_wp2_with fail
  refine (bit_any p g 0 begin0 [0] 1 (r := 6) (by omega) B (Rw 5 1 va 4 (bytesV [0, 0, 0, 0]) * (Wr q (endS begin0) * Emp)) w3 B3 (begin0_live 7 (by omega) (by omega)) (by intro n hn; simp at hn; omega) (by decide) (o3.cast (by show Rw _ _ va 4 _ * (Wr q _ * (Bk g _ _ * (Wr p _ * Emp))) = _; ac_rfl))).mono ?_
  rintro e w4 ⟨rfl, o4, b4⟩
  have B4 : B ≤ w4.heap.size := Nat.le_trans B3 b4.size
  go_wp2_with fail
  refine (end_live p aw1 B _ w4 B4 aw_g.1 aw_g.2 o4).mono ?_
  rintro e w5 ⟨vb, rfl, o5, b5⟩
  have B5 : B ≤ w5.heap.size := Nat.le_trans B4 b5.size
  go_wp2_with fail
  refine (open_any vb (endS aw1).out aw_b.2 B _ w5 B5 o5.rd (by rw [aw_b.1]; omega) o5).mono ?_
  rintro e w6 ⟨r, rfl, o6, b6⟩
  have B6 : B ≤ w6.heap.size := Nat.le_trans B5 b6.size
  have o6 := o6.new B6 27 #[.int .i64 0]
  have b6 := b6.alloc B6 (.cells #[.int .i64 0] 27)
  have B6 : B ≤ (w6.alloc (.cells #[.int .i64 0] 27)).heap.size := by simp; omega
  generalize hW6 : w6.alloc (.cells #[.int .i64 0] 27) = W6 at o6 b6 B6
  generalize hd : w6.heap.size = d at o6
  have o6 : Own B (Rw 5 1 va 4 (bytesV [0, 0, 0, 0]) * (Bk g 27 #[.int .i64 (-32)] * (Bk d 27 #[.int .i64 0] * (Re r aw2 * (Rw 5 1 vb (endS aw1).out.length (bytesV (endS aw1).out) * (Wr p (endS aw1) * (Wr q (endS begin0) * Emp))))))) W6 := by
    refine o6.cast ?_
    show Bk d _ _ * (Re r _ * (Rw _ _ vb _ _ * (Wr p _ * (Bk g _ #[.int .i64 (-32)] * (Rw _ _ va _ _ * (Wr q _ * Emp)))))) = _
    ac_rfl
  have hconv := str_of_row o6
  rw [aw_f] at hconv
  have cg : W6.cell? ⟨g, 0, none⟩ = some (.int .i64 (-32)) := (o6.cast (sep_left_comm _ _ _)).cell 0
  go_wp2_with fail
  clear hconv cg hW6 hd
  refine (of_any (-32) _ (by omega) (by omega)).mono ?_
  rintro e w7 ⟨rfl, b7⟩
  have o7 := o6.grown B6 b7
  have B7 : B ≤ w7.heap.size := Nat.le_trans B6 b7.size
  go_wp2_with fail
  refine (rbit_any r d 0 aw2 [0] B (Rw 5 1 va 4 (bytesV [0, 0, 0, 0]) * (Bk g 27 #[.int .i64 (-32)] * (Rw 5 1 vb (endS aw1).out.length (bytesV (endS aw1).out) * (Wr p (endS aw1) * (Wr q (endS begin0) * Emp))))) w7 B7 aw_c (by intro n hn; simp at hn; omega) (by decide)
    (o7.cast (by show _ = Re r _ * (Bk d _ #[.int .i64 0] * _); ac_rfl))).mono ?_
  rintro e w8 ⟨rfl, o8, b8⟩
  have B8 : B ≤ w8.heap.size := Nat.le_trans B7 b8.size
  have hd1 : takeBit aw2 (rBound aw2 (List.getD [0] 0 0)) = 1 := aw_d
  rw [hd1] at o8 ⊢
  have cd : w8.cell? ⟨d, 0, none⟩ = some (.int .i64 (-32)) := (o8.cast (sep_left_comm _ _ _)).cell 0
  go_wp2_with fail
  refine (of_any (-32) _ (by omega) (by omega)).mono ?_
  rintro e w9 ⟨rfl, b9⟩
  have o9 := o8.grown B8 b9
  have B9 : B ≤ w9.heap.size := Nat.le_trans B8 b9.size
  clear cd
  go_wp2_with fail
  refine (err_any r _ B _ w9 o9).mono ?_
  rintro e w' ⟨rfl, rfl⟩
  have he0 : (takeS aw2 (rBound aw2 (List.getD [0] 0 0))).e = 0 := aw_e.1
  rw [he0]
  go_wp2_with fail
  refine (left_any r _ B _ w9 o9).mono ?_
  rintro e w' ⟨rfl, rfl⟩
  have hr0 : (takeS aw2 (rBound aw2 (List.getD [0] 0 0))).rem.length = 0 := by rw [show (takeS aw2 (rBound aw2 (List.getD [0] 0 0))).rem = [] from aw_e.2]; rfl
  rw [hr0]
  go_wp2_with fail
  refine (chances_any 3 3 rfl (by omega) B _ w9 B9 o9).mono ?_
  rintro e w10 ⟨h, rfl, o10, b10⟩
  go_wp2
  go_ret
  exact ⟨rfl, ((((((((b1.trans b2).trans b3).trans b4).trans b5).trans b6).trans (b7.mono B6)).trans b8).trans (b9.mono B8)).trans b10⟩
end Go.Proofs.Ytnoofgcjhoiboaa
