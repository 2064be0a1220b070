/- The walks over Bit, Even and End of the writer that carries at once. -/
import Derived.Test.YtnoofgcjhoiboaaP1
namespace Go.Proofs.Ytnoofgcjhoiboaa
set_option linter.unusedVariables false
set_option linter.unusedSimpArgs false
open Go.RowKit

set_option maxHeartbeats 800000 in
theorem refbit_any (v : Value) (r : RW) (c bit : Int) (room : Int) (hr : 0 ≤ room) (ok : r.ok (room + 1)) (b0 : 65536 ≤ r.width / 2048 * c) (b1 : r.width / 2048 * c + 65536 ≤ r.width) (B : Nat) (R : HP) [Loc B R] (w : World) (hB : B ≤ w.heap.size) (hO : Own B (Rw 5 1 v r.out.length (bytesV r.out) * R) w) :
    Calls Try.prog 19 #[refV v r, .int .i64 c, .int .i64 bit] w fun e w' => ∃ v', Ret B w (refV v' (rput r (r.width / 2048 * c) bit)) (Rw 5 1 v' (rput r (r.width / 2048 * c) bit).out.length (bytesV (rput r (r.width / 2048 * c) bit).out) * R) e w' := by
  have Hok := Lib.hid ok
  have w0 := ok.width0
  have w1 := ok.width1
  obtain ⟨Q, hQ⟩ : ∃ Q, r.width / 2048 * c = Q := ⟨_, rfl⟩
  rw [hQ] at b0 b1 ⊢
  clear ok
  obtain ⟨r4, hr4⟩ : ∃ r4, rput r Q bit = r4 := ⟨_, rfl⟩
  rw [hr4]
  have Hr4 := Lib.hid hr4
  clear hr4
  have o1 := hO.alloc_keep hB (.cells #[v, .int .i64 r.low, .int .i64 r.width] 45)
  have b1' := (Below.refl B w).alloc hB (.cells #[v, .int .i64 r.low, .int .i64 r.width] 45)
  have B1 : B ≤ (w.alloc (.cells #[v, .int .i64 r.low, .int .i64 r.width] 45)).heap.size := by simp; omega
  have o2 := o1.new B1 45 #[.slice none 0 0, .int .i64 0, .int .i64 0]
  have b2' := b1'.alloc B1 (.cells #[.slice none 0 0, .int .i64 0, .int .i64 0] 45)
  have B2 := Nat.le_trans hB b2'.size
  rw [show (w.alloc (.cells #[v, .int .i64 r.low, .int .i64 r.width] 45)).heap.size = w.heap.size + 1 by simp] at o2
  clear o1
  show Calls _ _ #[.agg #[v, .int .i64 r.low, .int .i64 r.width], .int .i64 c, .int .i64 bit] _ _
  go_enter Try.func19, Try.ntmps19
  go_wp2_with fail
  refine (refput_any v r Q bit room hr Hok.out b0 b1 B _ _ B2 (o2.cast (sep_left_comm _ _ _))).mono ?_
  rintro e w4 ⟨v4, rfl, o4, b4⟩
  rw [Hr4.out] at o4 ⊢
  have B4 := Nat.le_trans B2 b4.size
  obtain ⟨A4, c4, rfl⟩ := o4.row_n
  have o5 := o4.cast (sep_left_comm _ _ _)
  have q0 : w4.cell? ⟨w.heap.size + 1, 0, none⟩ = some (.slice none 0 0) := o5.cell 0
  have q1 : w4.cell? ⟨w.heap.size + 1, 1, none⟩ = some (.int .i64 0) := o5.cell 1
  have q2 : w4.cell? ⟨w.heap.size + 1, 2, none⟩ = some (.int .i64 0) := o5.cell 2
  have y0 := o5.unfrozen 0
  have y1 := o5.unfrozen 1
  have y2 := o5.unfrozen 2
  simp only [refV]
  have s0 := o5.set B4 0 (.slice A4 r4.out.length c4)
  have s1 := s0.set (by simpa [World.setCell] using B4) 1 (.int .i64 r4.low)
  have s2 := s1.set (by simpa [World.setCell] using B4) 2 (.int .i64 r4.width)
  have t2 := ((o5.below_set 0 (.slice A4 r4.out.length c4)).trans (s0.below_set 1 (.int .i64 r4.low))).trans (s1.below_set 2 (.int .i64 r4.width))
  go_wp2
  refine bodyPost_ret (results_cell_row rfl _ _ (w.heap.size + 1) 45 #[.slice A4 r4.out.length c4, .int .i64 r4.low, .int .i64 r4.width] (0, 0) _ rfl s2.bk.1 Try.underlying45 rfl (by kernel_rfl)) rfl ?_
  exact ⟨.slice A4 r4.out.length c4, rfl, s2.right, (b2'.trans b4).trans t2⟩

set_option maxHeartbeats 800000 in
theorem refeven_any (v : Value) (r : RW) (bit : Int) (room : Int) (hr : 0 ≤ room) (ok : r.ok (room + 1)) (hw : 16777216 ≤ r.width) (B : Nat) (R : HP) [Loc B R] (w : World) (hB : B ≤ w.heap.size) (hO : Own B (Rw 5 1 v r.out.length (bytesV r.out) * R) w) :
    Calls Try.prog 20 #[refV v r, .int .i64 bit] w fun e w' => ∃ v', Ret B w (refV v' (rput r (r.width / 2) bit)) (Rw 5 1 v' (rput r (r.width / 2) bit).out.length (bytesV (rput r (r.width / 2) bit).out) * R) e w' := by
  have Hok := Lib.hid ok
  have w0 := ok.width0
  have w1 := ok.width1
  clear ok
  obtain ⟨r4, hr4⟩ : ∃ r4, rput r (r.width / 2) bit = r4 := ⟨_, rfl⟩
  rw [hr4]
  have Hr4 := Lib.hid hr4
  clear hr4
  have o1 := hO.alloc_keep hB (.cells #[v, .int .i64 r.low, .int .i64 r.width] 45)
  have b1' := (Below.refl B w).alloc hB (.cells #[v, .int .i64 r.low, .int .i64 r.width] 45)
  have B1 : B ≤ (w.alloc (.cells #[v, .int .i64 r.low, .int .i64 r.width] 45)).heap.size := by simp; omega
  have o2 := o1.new B1 45 #[.slice none 0 0, .int .i64 0, .int .i64 0]
  have b2' := b1'.alloc B1 (.cells #[.slice none 0 0, .int .i64 0, .int .i64 0] 45)
  have B2 := Nat.le_trans hB b2'.size
  rw [show (w.alloc (.cells #[v, .int .i64 r.low, .int .i64 r.width] 45)).heap.size = w.heap.size + 1 by simp] at o2
  clear o1
  show Calls _ _ #[.agg #[v, .int .i64 r.low, .int .i64 r.width], .int .i64 bit] _ _
  go_enter Try.func20, Try.ntmps20
  go_wp2_with fail
  refine (refput_any v r (r.width / 2) bit room hr Hok.out (by omega) (by omega) B _ _ B2 (o2.cast (sep_left_comm _ _ _))).mono ?_
  rintro e w4 ⟨v4, rfl, o4, b4⟩
  rw [Hr4.out] at o4 ⊢
  have B4 := Nat.le_trans B2 b4.size
  obtain ⟨A4, c4, rfl⟩ := o4.row_n
  have o5 := o4.cast (sep_left_comm _ _ _)
  have q0 : w4.cell? ⟨w.heap.size + 1, 0, none⟩ = some (.slice none 0 0) := o5.cell 0
  have q1 : w4.cell? ⟨w.heap.size + 1, 1, none⟩ = some (.int .i64 0) := o5.cell 1
  have q2 : w4.cell? ⟨w.heap.size + 1, 2, none⟩ = some (.int .i64 0) := o5.cell 2
  have y0 := o5.unfrozen 0
  have y1 := o5.unfrozen 1
  have y2 := o5.unfrozen 2
  simp only [refV]
  have s0 := o5.set B4 0 (.slice A4 r4.out.length c4)
  have s1 := s0.set (by simpa [World.setCell] using B4) 1 (.int .i64 r4.low)
  have s2 := s1.set (by simpa [World.setCell] using B4) 2 (.int .i64 r4.width)
  have t2 := ((o5.below_set 0 (.slice A4 r4.out.length c4)).trans (s0.below_set 1 (.int .i64 r4.low))).trans (s1.below_set 2 (.int .i64 r4.width))
  go_wp2
  refine bodyPost_ret (results_cell_row rfl _ _ (w.heap.size + 1) 45 #[.slice A4 r4.out.length c4, .int .i64 r4.low, .int .i64 r4.width] (0, 0) _ rfl s2.bk.1 Try.underlying45 rfl (by kernel_rfl)) rfl ?_
  exact ⟨.slice A4 r4.out.length c4, rfl, s2.right, (b2'.trans b4).trans t2⟩

set_option maxHeartbeats 1600000 in
theorem refend_any (v : Value) (r : RW) (room : Int) (hr : 0 ≤ room) (ok : r.ok room) (B : Nat) (R : HP) [Loc B R] (w : World) (hB : B ≤ w.heap.size) (hO : Own B (Rw 5 1 v r.out.length (bytesV r.out) * R) w) :
    Calls Try.prog 22 #[refV v r] w fun e w' => ∃ v', Ret B w v' (Rw 5 1 v' (rend r).length (bytesV (rend r)) * R) e w' := by
  have l0 := ok.low0
  have l1 := ok.low1
  have Hn : Hid ((r.out.length : Int) ≤ 1099511627776) := Lib.hid (by have := ok.len; omega)
  clear ok
  have o1 := hO.new hB 45 #[v, .int .i64 r.low, .int .i64 r.width]
  have b1 := (Below.refl B w).alloc hB (.cells #[v, .int .i64 r.low, .int .i64 r.width] 45)
  have B1 : B ≤ (w.alloc (.cells #[v, .int .i64 r.low, .int .i64 r.width] 45)).heap.size := by simp; omega
  show Calls _ _ #[.agg #[v, .int .i64 r.low, .int .i64 r.width]] _ _
  go_enter Try.func22, Try.ntmps22
  go_wp2
  generalize w.alloc (.cells #[v, .int .i64 r.low, .int .i64 r.width] 45) = W1 at o1 b1 B1 ⊢
  generalize w.heap.size = X at o1 ⊢
  clear hO
  have hdiv : (r.low / 65536 % 256 : Int) = r.low / 65536 % 256 := rfl
  refine wp_region_ltwo (B := B) [1, 4, 8, 13, 18] [2, 5, 6, 7, 9, 10, 11, 12, 14, 15, 16, 17, 19, 20, 21] [0, 3] [22] [23, 24] (Rw 5 1 v r.out.length (bytesV r.out)) Emp (Bk X 45 #[v, .int .i64 r.low, .int .i64 r.width] * R) mixed (by kernel_rfl) rfl (fun _ _ _ _ _ h => h) B1 ((o1.emp.cast (by ac_rfl)).drew B1) ?_
  simp only [List.filterMap_cons, List.filterMap_nil, List.getElem?_toArray, List.getElem?_cons_succ, List.getElem?_cons_zero]
  repeat (
    refine free_val ?_ rfl (fun w1 => ?_) ?_
    rotate_left
    · (go_simp
       try go_bits
       rfl)
    simp only [Act.put, List.setIfInBounds_toArray, List.set_cons_zero, List.set_cons_succ])
  refine free_nil ?_
  repeat (first
    | (refine late_val ?_ rfl (fun w1 hS => ?_) ?_
       rotate_left
       · (have c0 : w1.cell? ⟨X, 0, none⟩ = some v := hS.cell 0; have c1 : w1.cell? ⟨X, 1, none⟩ = some (.int .i64 r.low) := hS.cell 1
          go_simp
          try go_bits
          rfl)
       simp only [Act.put, List.setIfInBounds_toArray, List.set_cons_zero, List.set_cons_succ])
    | (refine late_off rfl ?_
       simp only [Act.put, List.setIfInBounds_toArray, List.set_cons_zero, List.set_cons_succ]))
  refine late_nil ?_
  refine ⟨fun vs F => ∃ v0 v3, vs = [v0, v3] ∧ F = (Rw 5 1 v3 r.out.length (bytesV r.out) * Rw 5 1 v r.out.length (bytesV r.out)), fun vs F => ∃ v8, vs = [v8] ∧ F = Rw 5 1 v8 [r.low / 16777216, r.low / 65536 % 256, r.low / 256 % 256, r.low % 256].length (bytesV [r.low / 16777216, r.low / 65536 % 256, r.low / 256 % 256, r.low % 256]), ?_, ?_, ?_⟩
  · simp only [opsOf, List.filterMap_cons, List.filterMap_nil, List.getElem?_toArray, List.getElem?_cons_succ, List.getElem?_cons_zero]
    refine tw_run (fun u F => F = (Rw 5 1 u ([] : List Int).length (bytesV []) * Rw 5 1 v r.out.length (bytesV r.out))) rfl (fun R1 _ w1 hB1 hS => ⟨.slice (some ⟨w1.heap.size, 0, none⟩) 0 0, _, w1.alloc (.cells #[] 5), by go_simp, ⟨inferInstance, rfl⟩, ((hS.new hB1 5 #[]).rw_of_bk rfl (by unfold maxLen; decide)).assoc', (Below.refl B w1).alloc hB1 _⟩) ?_
    rintro v0 F0 _ rfl
    simp only [Act.put, List.setIfInBounds_toArray, List.set_cons_zero, List.set_cons_succ]
    refine tw_run (fun u F => F = (Rw 5 1 u r.out.length (bytesV r.out) * Rw 5 1 v r.out.length (bytesV r.out))) rfl (fun R1 _ w1 hB1 hS => ?_) ?_
    · obtain ⟨v3, w3, hrun, o3, b3⟩ := append_two hB1 hS.assoc (by have := Hn.out; show 0 + _ ≤ _; omega)
      rw [List.nil_append] at o3
      exact ⟨v3, _, w3, exec_append (.tmp 3) (.tmp 5) 38 rfl rfl rfl hrun, ⟨inferInstance, rfl⟩, o3.assoc', b3⟩
    · rintro v3 F3 _ rfl
      exact tw_nil ⟨v0, v3, rfl, rfl⟩
  · simp only [opsOf, List.filterMap_cons, List.filterMap_nil, List.getElem?_toArray, List.getElem?_cons_succ, List.getElem?_cons_zero]
    refine tw_run (fun u F => F = Rw 5 1 u [r.low / 16777216, r.low / 65536 % 256, r.low / 256 % 256, r.low % 256].length (bytesV [r.low / 16777216, r.low / 65536 % 256, r.low / 256 % 256, r.low % 256])) rfl (fun R1 _ w1 hB1 hS => ⟨.slice (some ⟨w1.heap.size, 0, none⟩) 4 4, _, w1.alloc (.cells #[.int .u8 (r.low / 16777216), .int .u8 (r.low / 65536 % 256), .int .u8 (r.low / 256 % 256), .int .u8 (r.low % 256)] 5), by go_simp, ⟨inferInstance, rfl⟩, (hS.right.new hB1 5 #[.int .u8 (r.low / 16777216), .int .u8 (r.low / 65536 % 256), .int .u8 (r.low / 256 % 256), .int .u8 (r.low % 256)]).rw_of_bk rfl (by unfold maxLen; decide), (Below.refl B w1).alloc hB1 _⟩) ?_
    rintro v8 F8 _ rfl
    exact tw_nil ⟨v8, rfl, rfl⟩
  · rintro vs1 F1 vs2 F2 w4 ⟨v0, v3, rfl, rfl⟩ ⟨v8, rfl, rfl⟩ o4 b4
    simp only [opsOf, putAll, Act.put, List.filterMap_cons, List.filterMap_nil, List.getElem?_toArray, List.getElem?_cons_succ, List.getElem?_cons_zero, List.setIfInBounds_toArray, List.set_cons_zero, List.set_cons_succ]
    have B4 := Nat.le_trans B1 b4.size
    have o4 := (o4.cast (show _ = Bk X 45 #[v, .int .i64 r.low, .int .i64 r.width] * (Rw 5 1 v r.out.length (bytesV r.out) * (Rw 5 1 v3 r.out.length (bytesV r.out) * (Rw 5 1 v8 [r.low / 16777216, r.low / 65536 % 256, r.low / 256 % 256, r.low % 256].length (bytesV [r.low / 16777216, r.low / 65536 % 256, r.low / 256 % 256, r.low % 256]) * R))) by ac_rfl)).right.right
    obtain ⟨v9, w5, hrun, o5, b5⟩ := append_two B4 o4 (by have := Hn.out; show _ + 4 ≤ _; omega)
    refine wpList_append_run rfl (.tmp 6) (.tmp 25) 38 rfl rfl rfl hrun ?_
    simp only [Act.put, List.setIfInBounds_toArray, List.set_cons_zero, List.set_cons_succ]
    go_wp2
    go_ret
    exact ⟨v9, rfl, (o5.cast (sep_left_comm _ _ _)).right, (b1.trans b4).trans b5⟩
end Go.Proofs.Ytnoofgcjhoiboaa
