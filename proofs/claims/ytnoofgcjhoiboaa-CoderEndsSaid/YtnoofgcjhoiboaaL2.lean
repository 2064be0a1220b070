/- The walk over the law CoderEnds. -/
import Derived.Test.YtnoofgcjhoiboaaLe
import Derived.Test.YtnoofgcjhoiboaaDo
import Derived.Test.YtnoofgcjhoiboaaTwo
namespace Go.Proofs.Ytnoofgcjhoiboaa
set_option linter.unusedVariables false
set_option linter.unusedSimpArgs false
open Go.RowKit

set_option maxHeartbeats 3200000 in
set_option maxRecDepth 100000 in
theorem ends_walk (A : Option Addr) (cap : Nat) (l : List Dn) (hok : ∀ d ∈ l, d.ok) (w : World) (hr : RdDo w (.slice A l.length cap) l) (hlm : l.length ≤ 9223372036854775807) :
    Calls Try.prog 4 #[.slice A l.length cap] w fun e w' => e = .returned (.bool true) ∧ Below w.heap.size w w' := by
  by_cases hbig : 300 < l.length
  · have hbig' : (300 : Int) < (l.length : Int) := by omega
    go_enter Try.func4, Try.ntmps4
    go_wp2_with (go_at_call 10; refine (awake_any _).mono ?_; rintro e w1 ⟨rfl, b1⟩)
    go_ret
    exact ⟨rfl, b1⟩
  have hsm : (l.length : Int) ≤ 300 := by omega
  have hB : w.heap.size ≤ w.heap.size := Nat.le_refl _
  have hO := Own.start w.heap.size w
  have Hr := Lib.hid hr
  have Hok := Lib.hid hok
  clear hr hok
  generalize hH : w.heap.size = B at hB hO ⊢
  have hB : B ≤ w.heap.size := by omega
  have HH := Lib.hid hH
  clear hH
  go_enter Try.func4, Try.ntmps4
  go_wp2_with fail
  refine (begin_any B Emp w hB hO).mono ?_
  rintro e w1 ⟨p, rfl, o1, b1⟩
  have B1 : B ≤ w1.heap.size := Nat.le_trans hB b1.size
  go_wp2_with fail
  refine (chances_any 8 8 rfl (by omega) B _ w1 B1 o1).mono ?_
  rintro e w2 ⟨g, rfl, o2, b2⟩
  have o2 := o2.cast (sep_left_comm _ _ _)
  have b2 := b1.trans b2
  clear b1 o1
  have Hc0 : Hid (chOk (List.replicate 8 (0 : Int))) := Lib.hid (by intro n hn; simp at hn; omega)
  go_wp2
  go_loopg [6, 21] l.length (fun k x6 i wr => k ≤ l.length ∧ i = .int .i64 ((l.length : Int) - (k : Int)) ∧ ∃ (s' : WS) (cl : List Int), Own B (Wr p s' * (Bk g 27 (chV cl) * Emp)) wr ∧ Below B w wr ∧ Hid (s'.live (10 + k)) ∧ Hid (chOk cl) ∧ Hid (cl.length = 8))
  case atStart => exact ⟨Nat.le_refl _, congrArg (Value.int .i64) (by omega), begin0, _, o2, b2, Lib.hid (begin0_live _ (by omega) (by omega)), Hc0, Lib.hid (by simp)⟩
  case round =>
    obtain ⟨hk, rfl, s', cl, ho, hbb, Hl, Hc, Hn⟩ := hrel
    have Bw : B ≤ wr.heap.size := Nat.le_trans hB hbb.size
    by_cases hk0 : gk = 0
    · subst hk0
      have hf : 0 ≤ s'.full := Hl.out.ok.full0
      have hlen := endS_len s' hf
      have htot := WS.tot_nonneg hf
      have hroom := Hl.out.room
      have htot2 : s'.tot ≤ s'.out.length + s'.full + 1 := by unfold WS.tot; split <;> omega
      have h4 : (4 : Int) ≤ ((endS s').out.length : Int) := by omega
      have h5 : (endS s').out.length ≤ 1099511627776 := by omega
      have Hlen : Hid ((endS s').out.length ≤ 1099511627776) := Lib.hid h5
      clear hlen htot hroom htot2 hf h5
      go_wp2_with fail
      refine (end_live p s' B _ wr Bw ⟨Hl.out.ok, by have := Hl.out.room; omega⟩ Hl.out.dn ho).mono ?_
      rintro e w3 ⟨va, rfl, o3, b3⟩
      have B3 : B ≤ w3.heap.size := Nat.le_trans Bw b3.size
      obtain ⟨Aa, ca, rfl⟩ := o3.row_n
      have hdn := endS_dn s'
      generalize hs3 : endS s' = s3 at o3 h4 Hlen hdn
      clear hs3
      obtain ⟨x0, hx0⟩ : ∃ x, cl.getD 0 0 = x := ⟨_, rfl⟩
      have c0 : w3.cell? ⟨g, 0, none⟩ = some (.int .i64 x0) := by
        have := (o3.cast (show _ = Bk g 27 (chV cl) * (Rw 5 1 (.slice Aa s3.out.length ca) s3.out.length (bytesV s3.out) * (Wr p s3 * Emp)) by ac_rfl)).cell 0
        rw [this, chV_get cl 0 (by rw [Hn.out]; omega), hx0]
      have hx := chOk_get Hc.out 0
      rw [hx0] at hx
      clear hx0
      have cz := c0
      go_wp2_with fail
      clear c0
      refine (of_any x0 w3 (by omega) (by omega)).mono ?_
      rintro e w4 ⟨rfl, b4⟩
      have o4 := o3.grown B3 b4
      have B4 : B ≤ w4.heap.size := Nat.le_trans B3 b4.size
      go_wp2_with fail
      refine (bit_done p g 0 s3 1 B _ w4 hdn (o4.cast (sep_left_comm _ _ _))).mono ?_
      rintro e w' ⟨rfl, rfl⟩
      go_wp2_with fail
      refine (even_done p s3 5 3 B _ w4 hdn (o4.cast (sep_left_comm _ _ _))).mono ?_
      rintro e w' ⟨rfl, rfl⟩
      go_wp2_with fail
      refine (end_done p s3 B _ w4 B4 hdn Hlen.out (o4.cast (sep_left_comm _ _ _))).mono ?_
      rintro e w5 ⟨vb, rfl, o5, b5⟩
      have B5 : B ≤ w5.heap.size := Nat.le_trans B4 b5.size
      obtain ⟨Ab, cb, rfl⟩ := o5.row_n
      have k1 := str_of_row o5
      have k2 := str_of_row (o5.cast (show _ = Rw 5 1 (.slice Aa s3.out.length ca) s3.out.length (bytesV s3.out) * (Rw 5 1 (.slice Ab s3.out.length cb) s3.out.length (bytesV s3.out) * (Wr p s3 * (Bk g 27 (chV cl) * Emp))) by ac_rfl))
      have c0 : w5.cell? ⟨g, 0, none⟩ = some (.int .i64 x0) := by
        have := (o5.cast (show _ = Bk g 27 (chV cl) * (Rw 5 1 (.slice Ab s3.out.length cb) s3.out.length (bytesV s3.out) * (Rw 5 1 (.slice Aa s3.out.length ca) s3.out.length (bytesV s3.out) * (Wr p s3 * Emp))) by ac_rfl)).cell 0
        have h3 := (o3.cast (show _ = Bk g 27 (chV cl) * (Rw 5 1 (.slice Aa s3.out.length ca) s3.out.length (bytesV s3.out) * (Wr p s3 * Emp)) by ac_rfl)).cell 0
        rw [this]
        rw [cz] at h3
        exact h3.symm
      go_wp2_with fail
      clear c0 k1 k2
      refine (of_any x0 w5 (by omega) (by omega)).mono ?_
      rintro e w6 ⟨rfl, b6⟩
      go_wp2_with fail
      refine (awake_any w6).mono ?_
      rintro e w7 ⟨rfl, b7⟩
      go_wp2
      go_ret
      exact ⟨rfl, ((((hbb.trans b3).trans (b4.mono B3)).trans b5).trans (b6.mono B5)).trans (b7.mono (Nat.le_trans B5 b6.size))⟩
    · obtain ⟨j, rfl⟩ : ∃ j, gk = j + 1 := ⟨gk - 1, by omega⟩
      obtain ⟨i, hi⟩ : ∃ i : Nat, i + (j + 1) = l.length := ⟨l.length - (j + 1), by omega⟩
      obtain ⟨b, off, d, rfl, hd, hcell⟩ := Hr.out.at_.2 i (by omega)
      have hdok := Hok.out d (List.mem_of_getElem? hd)
      have hcw : ∀ jj, jj < 4 → wr.cell? ⟨b, off + (i * 4 + jj), none⟩ = some (.int .i64 (d.cell jj)) := fun jj hj => (hbb.cell (p := ⟨b, off + (i * 4 + jj), none⟩) (by have := World.block_lt_of_cell? w _ (hcell jj hj); rw [HH.out] at this; exact this)).trans (hcell jj hj)
      have d0 := hcw 0 (by omega)
      have d1 := hcw 1 (by omega)
      have d2 := hcw 2 (by omega)
      have d3 := hcw 3 (by omega)
      obtain ⟨verb, kk, nn, bb⟩ := d
      simp only [Dn.cell, Nat.add_zero, ← Nat.add_assoc] at d0 d1 d2 d3
      have hkk := hdok 1
      have hnn := hdok 2
      simp only [Dn.cell] at hkk hnn
      clear hdok hcw hcell hd
      have e1 : (l.length : Int) - ((j + 1 : Nat) : Int) = (i : Int) := by omega
      have i0 : (0 : Int) ≤ (i : Int) := by omega
      have i1 : (i : Int) < (l.length : Int) := by omega
      rw [e1]
      clear e1
      have Hi := Lib.hid hi
      clear hi
      have o3 := ho.new Bw 37 #[.int .i64 verb, .int .i64 kk, .int .i64 nn, .int .i64 bb]
      have b3 := hbb.alloc Bw (.cells #[.int .i64 verb, .int .i64 kk, .int .i64 nn, .int .i64 bb] 37)
      have B3 : B ≤ (wr.alloc (.cells #[.int .i64 verb, .int .i64 kk, .int .i64 nn, .int .i64 bb] 37)).heap.size := by simp; omega
      by_cases hin : 0 ≤ kk ∧ kk < 8
      · obtain ⟨K, rfl⟩ : ∃ K : Nat, kk = K := ⟨kk.toNat, by omega⟩
        obtain ⟨h0, h1⟩ := hin
        go_wp2
        clear d0 d1 d2 d3 ho hbb
        generalize wr.alloc (.cells #[.int .i64 verb, .int .i64 (K : Int), .int .i64 nn, .int .i64 bb] 37) = W3 at o3 b3 B3 ⊢
        generalize wr.heap.size = D at o3 ⊢
        refine wp_region_mix (St B (Bk D 37 #[.int .i64 verb, .int .i64 (K : Int), .int .i64 nn, .int .i64 bb] * (Wr p s' * (Bk g 27 (chV cl) * Emp))) W3) [0, 1, 2, 3, 4, 5, 6, 7] [8] mixed (by kernel_rfl) rfl (St.drew B3 o3) ?_
        simp only [List.filterMap_cons, List.filterMap_nil, List.getElem?_toArray, List.getElem?_cons_succ, List.getElem?_cons_zero]
        have hbit : bits .and .i64 nn 1 = nn % 2 := i64_and_one nn
        repeat (first
          | (refine held_val ?_ rfl (fun w1 hS => ?_) ?_
             rotate_left
             · (have c1 : w1.cell? ⟨D, 1, none⟩ = some (.int .i64 (K : Int)) := hS.2.1.cell 1; have c2 : w1.cell? ⟨D, 2, none⟩ = some (.int .i64 nn) := hS.2.1.cell 2
                go_simp
                try go_bits
                rfl)
             simp only [Act.put, List.setIfInBounds_toArray, List.set_cons_zero, List.set_cons_succ])
          | (refine held_off rfl ?_
             simp only [Act.put, List.setIfInBounds_toArray, List.set_cons_zero, List.set_cons_succ]))
        refine held_nil (fun w4 hS => ?_)
        obtain ⟨k2, k3, k4⟩ := hS
        go_wp2_with fail
        refine (bit_any p g K s' cl (nn % 2) (r := 10 + (j : Int)) (by omega) B Emp w4 k2 (Hl.out.less (by omega)) Hc.out (by rw [Hn.out]; omega) k3.drop).mono ?_
        rintro e w5 ⟨rfl, o5, b5⟩
        have hbd := bitBound_in Hl.out (chOk_get Hc.out K)
        go_wp2
        go_roundg j
        case measure => omega
        case rel => exact ⟨by omega, congrArg (Value.int .i64) (by have := Hi.out; omega), _, _, o5, (b3.trans k4).trans b5, Lib.hid (putS_live _ (by omega) (Hl.out.less (by omega)) hbd.1 hbd.2), Lib.hid (chOk_set Hc.out _ _ (sawN_ok _ _ (chOk_get Hc.out K))), Lib.hid (by rw [List.length_set]; exact Hn.out)⟩
      · by_cases h0 : 0 ≤ kk
        · have h1 : ¬ kk < 8 := by omega
          go_wp2
          go_roundg j
          case measure => omega
          case rel => exact ⟨by omega, congrArg (Value.int .i64) (by have := Hi.out; omega), _, _, o3.drop, b3, Lib.hid (Hl.out.less (by omega)), Hc, Hn⟩
        · go_wp2
          go_roundg j
          case measure => omega
          case rel => exact ⟨by omega, congrArg (Value.int .i64) (by have := Hi.out; omega), _, _, o3.drop, b3, Lib.hid (Hl.out.less (by omega)), Hc, Hn⟩
end Go.Proofs.Ytnoofgcjhoiboaa
