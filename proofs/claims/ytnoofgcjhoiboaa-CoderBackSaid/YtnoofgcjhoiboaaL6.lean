/- The walk over the law CoderBack. -/
import Derived.Test.YtnoofgcjhoiboaaB1
namespace Go.Proofs.Ytnoofgcjhoiboaa
set_option linter.unusedVariables false
set_option linter.unusedSimpArgs false
open Go.RowKit

def x0 : SX := ⟨begin0, List.replicate 8 0, List.replicate 256 0⟩
theorem x0_ok (r : Int) (h0 : 0 ≤ r) (h1 : r ≤ 1099511627776) : x0.ok r :=
  ⟨begin0_gd r h0 h1, by intro n hn; have := List.eq_of_mem_replicate hn; omega, List.length_replicate .., by intro n hn; have := List.eq_of_mem_replicate hn; omega, List.length_replicate ..⟩

set_option maxHeartbeats 6400000 in
set_option maxRecDepth 100000 in
theorem back_walk (A : Option Addr) (cap : Nat) (l : List Dn) (hok : ∀ d ∈ l, d.ok) (w : World) (hr : RdDo w (.slice A l.length cap) l) (hlm : l.length ≤ 9223372036854775807) :
    Calls Try.prog 8 #[.slice A l.length cap] w fun e w' => e = .returned (.bool true) ∧ Below w.heap.size w w' := by
  by_cases hbig : 300 < l.length
  · have hbig' : (300 : Int) < (l.length : Int) := by omega
    go_enter Try.func8, Try.ntmps8
    go_wp2_with (go_at_call 10; refine (awake_any _).mono ?_; rintro e w1 ⟨rfl, b1⟩)
    go_ret
    exact ⟨rfl, b1⟩
  have hsm : (l.length : Int) ≤ 300 := by omega
  have hB : w.heap.size ≤ w.heap.size := Nat.le_refl _
  have hO := Own.start w.heap.size w
  have Hr := Lib.hid hr
  have Hok := Lib.hid hok
  clear hr hok
  generalize hH : w.heap.size = B at hB hO ⊢
  have hB : B ≤ w.heap.size := by omega
  have HH := Lib.hid hH
  clear hH
  go_enter Try.func8, Try.ntmps8
  go_wp2_with fail
  refine (begin_any B Emp w hB hO).mono ?_
  rintro e w1 ⟨p, rfl, o1, b1⟩
  have B1 : B ≤ w1.heap.size := Nat.le_trans hB b1.size
  go_wp2_with fail
  refine (chances_any 8 8 rfl (by omega) B _ w1 B1 o1).mono ?_
  rintro e w2 ⟨g1, rfl, o2, b2⟩
  have b2 := b1.trans b2
  have B2 : B ≤ w2.heap.size := Nat.le_trans hB b2.size
  clear b1 o1
  go_wp2_with fail
  refine (chances_any 256 256 rfl (by omega) B _ w2 B2 o2).mono ?_
  rintro e w3 ⟨g2, rfl, o3, b3⟩
  have b3 := b2.trans b3
  have B3 : B ≤ w3.heap.size := Nat.le_trans hB b3.size
  clear b2 o2
  have o3 : Own B (Wr p x0.s * (Bk g1 27 (chV x0.cl) * (Bk g2 27 (chV x0.tl) * Emp))) w3 := (o3.foc (Bk g1 27 (chV (List.replicate 8 0)))).foc (Wr p begin0)
  have Hx0 := Lib.hid (x0_ok (10 + 32 * (l.length : Int)) (by omega) (by omega))
  obtain ⟨xT, hxT⟩ : ∃ x, l.foldl stepX x0 = x := ⟨_, rfl⟩
  have HxT := Lib.hid hxT
  clear hxT
  go_wp2
  go_loopg [32] l.length (fun k i wr => k ≤ l.length ∧ i = .int .i64 ((l.length : Int) - (k : Int)) ∧ ∃ x : SX, Own B (Wr p x.s * (Bk g1 27 (chV x.cl) * (Bk g2 27 (chV x.tl) * Emp))) wr ∧ Below B w wr ∧ Hid (x.ok (10 + 32 * (k : Int))) ∧ Hid (xT = (l.drop (l.length - k)).foldl stepX x))
  case atStart => exact ⟨Nat.le_refl _, congrArg (Value.int .i64) (by omega), x0, o3, b3, Hx0, Lib.hid (by rw [Nat.sub_self, List.drop_zero]; exact HxT.out.symm)⟩
  case round =>
    obtain ⟨hk, rfl, x, ho, hbb, Hx, HT⟩ := hrel
    have Bw : B ≤ wr.heap.size := Nat.le_trans hB hbb.size
    by_cases hk0 : gk ≠ 0
    · obtain ⟨j, rfl⟩ : ∃ j, gk = j + 1 := ⟨gk - 1, by omega⟩
      obtain ⟨i, hi⟩ : ∃ i : Nat, i + (j + 1) = l.length := ⟨l.length - (j + 1), by omega⟩
      obtain ⟨b, off, d, rfl, hd, hcell⟩ := Hr.out.at_.2 i (by omega)
      have hdok := Hok.out d (List.mem_of_getElem? hd)
      have hT2 : xT = (l.drop (l.length - j)).foldl stepX (stepX x d) := by
        have h1 := HT.out
        obtain ⟨hil, hdi⟩ := List.getElem?_eq_some_iff.1 hd
        rw [show l.length - (j + 1) = i by omega, List.drop_eq_getElem_cons hil, hdi] at h1
        rw [show l.length - j = i + 1 by omega]
        exact h1
      have HT2 := Lib.hid hT2
      have Hx2 : Hid ((stepX x d).ok (10 + 32 * (j : Int))) := Lib.hid (step_ok (by omega) (Hx.out.less (by omega)))
      clear hT2
      have hcw : ∀ jj, jj < 4 → wr.cell? ⟨b, off + (i * 4 + jj), none⟩ = some (.int .i64 (d.cell jj)) := fun jj hj => (hbb.cell (p := ⟨b, off + (i * 4 + jj), none⟩) (by have := World.block_lt_of_cell? w _ (hcell jj hj); rw [HH.out] at this; exact this)).trans (hcell jj hj)
      have d0 := hcw 0 (by omega)
      have d1 := hcw 1 (by omega)
      have d2 := hcw 2 (by omega)
      have d3 := hcw 3 (by omega)
      obtain ⟨verb, kk, nn, bb⟩ := d
      simp only [Dn.cell, Nat.add_zero, ← Nat.add_assoc] at d0 d1 d2 d3
      have hnn := hdok 2
      simp only [Dn.cell] at hnn
      clear hdok hcw hcell hd
      have e1 : (l.length : Int) - ((j + 1 : Nat) : Int) = (i : Int) := by omega
      have i0 : (0 : Int) ≤ (i : Int) := by omega
      have i1 : (i : Int) < (l.length : Int) := by omega
      rw [e1]
      clear e1
      have Hi := Lib.hid hi
      clear hi
      have o3 := ho.new Bw 37 #[.int .i64 verb, .int .i64 kk, .int .i64 nn, .int .i64 bb]
      have b3 := hbb.alloc Bw (.cells #[.int .i64 verb, .int .i64 kk, .int .i64 nn, .int .i64 bb] 37)
      have B3 : B ≤ (wr.alloc (.cells #[.int .i64 verb, .int .i64 kk, .int .i64 nn, .int .i64 bb] 37)).heap.size := by simp; omega
      clear ho hbb
      go_wp2_with fail
      clear d0 d1 d2 d3
      generalize wr.alloc (.cells #[.int .i64 verb, .int .i64 kk, .int .i64 nn, .int .i64 bb] 37) = W3 at o3 b3 B3 ⊢
      generalize wr.heap.size = D at o3 ⊢
      refine (may_any verb kk nn bb W3).mono ?_
      rintro e w5 ⟨rfl, b5⟩
      have o5 := o3.grown B3 b5
      have b5 := b3.trans (b5.mono B3)
      have B5 := Nat.le_trans hB b5.size
      clear o3 b3
      by_cases hm : mayD ⟨verb, kk, nn, bb⟩
      · rw [decide_eq_true hm]
        have Hm := Lib.hid hm
        have hmm := hm
        unfold mayD at hmm
        simp only at hmm
        clear hm
        rcases hmm with ⟨rfl, h0, h1, h2, h3⟩ | ⟨rfl, h0, h1⟩ | ⟨rfl, h0, h1⟩
        · obtain ⟨K, rfl⟩ : ∃ K : Nat, kk = K := ⟨kk.toNat, by omega⟩
          have c0 : w5.cell? ⟨D, 0, none⟩ = some (.int .i64 0) := o5.cellOf D 0
          go_wp2
          clear c0
          refine wp_region_mix (St B _ w5) [0, 1, 2, 3, 4, 5, 6] [7] mixed (by kernel_rfl) rfl (St.drew B5 o5) ?_
          simp only [List.filterMap_cons, List.filterMap_nil, List.getElem?_toArray, List.getElem?_cons_succ, List.getElem?_cons_zero]
          repeat (first
            | (refine held_val ?_ rfl (fun w1 hS => ?_) ?_
               rotate_left
               · (have c1 : w1.cell? ⟨D, 1, none⟩ = some (.int .i64 (K : Int)) := hS.2.1.cellOf D 1; have c2 : w1.cell? ⟨D, 2, none⟩ = some (.int .i64 nn) := hS.2.1.cellOf D 2
                  go_simp
                  try go_bits
                  rfl)
               simp only [Act.put, List.setIfInBounds_toArray, List.set_cons_zero, List.set_cons_succ])
            | (refine held_off rfl ?_
               simp only [Act.put, List.setIfInBounds_toArray, List.set_cons_zero, List.set_cons_succ]))
          refine held_nil (fun w4 hS => ?_)
          obtain ⟨k2, k3, k4⟩ := hS
          go_wp2_with fail
          refine (bit_any p g1 K x.s x.cl nn (r := 10 + 32 * (j : Int)) (by omega) B _ w4 k2 (Hx.out.gd.live.less (by omega)) Hx.out.c (by rw [Hx.out.cn]; omega) ((k3.foc (Bk g1 27 (chV x.cl))).foc (Wr p x.s))).mono ?_
          rintro e w6 ⟨rfl, o6, b6⟩
          go_wp2
          go_roundg j
          case measure => omega
          case rel =>
            have he : stepX x ⟨0, (K : Int), nn, bb⟩ = ⟨putS x.s (bitBound x.s (x.cl.getD K 0)) nn, x.cl.set K (sawN (x.cl.getD K 0) nn), x.tl⟩ := by
              unfold stepX
              rw [if_pos Hm.out, if_pos rfl]
              rfl
            refine ⟨by omega, congrArg (Value.int .i64) (by have := Hi.out; omega), stepX x ⟨0, (K : Int), nn, bb⟩, ?_, (b5.trans k4).trans b6, Hx2, HT2⟩
            rw [he]
            exact (o6.foc (Bk D 37 #[.int .i64 0, .int .i64 (K : Int), .int .i64 nn, .int .i64 bb])).right
        · obtain ⟨m, rfl⟩ : ∃ m : Nat, bb = m := ⟨bb.toNat, by omega⟩
          have c0 : w5.cell? ⟨D, 0, none⟩ = some (.int .i64 1) := o5.cellOf D 0
          have c2 : w5.cell? ⟨D, 2, none⟩ = some (.int .i64 nn) := o5.cellOf D 2
          have c3 : w5.cell? ⟨D, 3, none⟩ = some (.int .i64 (m : Int)) := o5.cellOf D 3
          go_wp2_with fail
          clear c0 c2 c3
          refine (even_live p x.s nn m (by omega) hnn.1 hnn.2 (10 + 32 * (j : Int)) (by omega) B _ w5 B5 (Hx.out.gd.live.less (by omega)) (o5.foc (Wr p x.s))).mono ?_
          rintro e w6 ⟨rfl, o6, b6⟩
          go_wp2
          go_roundg j
          case measure => omega
          case rel =>
            have he : stepX x ⟨1, kk, nn, (m : Int)⟩ = ⟨evenS x.s (bitsOf nn m), x.cl, x.tl⟩ := by
              unfold stepX
              rw [if_pos Hm.out, if_neg (show ¬ (1 : Int) = 0 by omega), if_pos rfl]
              rfl
            refine ⟨by omega, congrArg (Value.int .i64) (by have := Hi.out; omega), stepX x ⟨1, kk, nn, (m : Int)⟩, ?_, b5.trans b6, Hx2, HT2⟩
            rw [he]
            exact (o6.foc (Bk D 37 #[.int .i64 1, .int .i64 kk, .int .i64 nn, .int .i64 (m : Int)])).right
        · obtain ⟨m, rfl⟩ : ∃ m : Nat, bb = m := ⟨bb.toNat, by omega⟩
          have c0 : w5.cell? ⟨D, 0, none⟩ = some (.int .i64 2) := o5.cellOf D 0
          have c2 : w5.cell? ⟨D, 2, none⟩ = some (.int .i64 nn) := o5.cellOf D 2
          have c3 : w5.cell? ⟨D, 3, none⟩ = some (.int .i64 (m : Int)) := o5.cellOf D 3
          go_wp2_with fail
          clear c0 c2 c3
          have h16 : 2 ^ m ≤ x.tl.length := by
            rw [Hx.out.tn]
            exact Nat.le_trans (Nat.pow_le_pow_right (by omega) (show m ≤ 8 by omega)) (by decide)
          have ht := tree_live p g2 x.s x.tl nn m (by omega) h16 (by rw [Hx.out.tn]; omega) hnn.1 hnn.2 (10 + 32 * (j : Int)) (by omega) B _ w5 B5 (Hx.out.gd.live.less (by omega)) Hx.out.t ((o5.foc (Bk g2 27 (chV x.tl))).foc (Wr p x.s)) 256
          rw [Hx.out.tn] at ht
          refine ht.mono ?_
          clear ht h16
          rintro e w6 ⟨rfl, o6, b6⟩
          go_wp2
          go_roundg j
          case measure => omega
          case rel =>
            have he : stepX x ⟨2, kk, nn, (m : Int)⟩ = ⟨(treeS x.s x.tl 1 (bitsOf nn m)).1, x.cl, (treeS x.s x.tl 1 (bitsOf nn m)).2⟩ := by
              unfold stepX
              rw [if_pos Hm.out, if_neg (show ¬ (2 : Int) = 0 by omega), if_neg (show ¬ (2 : Int) = 1 by omega)]
              rfl
            refine ⟨by omega, congrArg (Value.int .i64) (by have := Hi.out; omega), stepX x ⟨2, kk, nn, (m : Int)⟩, ?_, b5.trans b6, Hx2, HT2⟩
            rw [he]
            exact ((o6.foc (Bk D 37 #[.int .i64 2, .int .i64 kk, .int .i64 nn, .int .i64 (m : Int)])).right).cast (by ac_rfl)
      · rw [decide_eq_false hm]
        go_wp2
        go_roundg j
        case measure => omega
        case rel =>
          have he : stepX x ⟨verb, kk, nn, bb⟩ = x := by unfold stepX; rw [if_neg hm]
          rw [he] at Hx2 HT2
          exact ⟨by omega, congrArg (Value.int .i64) (by have := Hi.out; omega), x, o5.right, b5, Hx2, HT2⟩
    · obtain rfl : gk = 0 := by omega
      have hx : x = xT := by
        have h1 := HT.out
        rw [Nat.sub_zero, List.drop_length] at h1
        exact h1.symm
      subst hx
      clear hk0 hk HT
      have hE : (endS x.s).out = rend (rOf x.s) := end_rel Hx.out.gd.live (by omega) Hx.out.gd.calm (rel_rOf x.s)
      have HT : Hid ((rOf x.s).ok 10) := Lib.hid ((Hx.out.gd.less (by omega)).good.ok)
      have Hlive := Lib.hid Hx.out.gd.live
      have hlen : (rend (rOf x.s)).length = (rOf x.s).out.length + 4 := by simp [rend]
      have Hfl : Hid ((rend (rOf x.s)).length ≤ 1099511627776) := Lib.hid (by have := HT.out.len; omega)
      have Hdec0 := Lib.hid (open_dec HT.out)
      have hfb : bytesOk (rend (rOf x.s)) := by
        intro c hc
        have h0 := HT.out.low0
        have h1 := HT.out.low1
        rcases List.mem_append.1 hc with h | h
        · exact HT.out.bytes c h
        · simp at h; omega
      have Hfb := Lib.hid hfb
      clear hlen hfb
      go_wp2_with fail
      refine (end_live p x.s B _ wr Bw ⟨Hlive.out.ok, by have := Hlive.out.room; omega⟩ Hlive.out.dn ho).mono ?_
      rintro e w5 ⟨va, rfl, o5, b5⟩
      rw [hE] at o5
      clear hE
      have b5 := hbb.trans b5
      have B5 := Nat.le_trans hB b5.size
      clear hbb ho
      generalize hfb : rend (rOf x.s) = fb at o5 Hfl Hdec0 Hfb
      have Hfbe := Lib.hid hfb
      clear hfb
      go_wp2_with fail
      refine (open_any va fb Hfb.out B _ w5 B5 o5.rd Hfl.out o5).mono ?_
      rintro e w6 ⟨rp, rfl, o6, b6⟩
      have b6 := b5.trans b6
      have B6 := Nat.le_trans hB b6.size
      clear b5 o5
      go_wp2_with fail
      refine (chances_any 8 8 rfl (by omega) B _ w6 B6 o6).mono ?_
      rintro e w7 ⟨e1, rfl, o7, b7⟩
      have b7 := b6.trans b7
      have B7 := Nat.le_trans hB b7.size
      clear b6 o6
      go_wp2_with fail
      refine (chances_any 256 256 rfl (by omega) B _ w7 B7 o7).mono ?_
      rintro e w8 ⟨t1, rfl, o8, b8⟩
      have b8 := b7.trans b8
      have B8 := Nat.le_trans hB b8.size
      clear b7 o7
      obtain ⟨Z, kZ, o9⟩ : ∃ Z : HP, Loc B Z ∧ Own B (Re rp (openS fb) * (Bk e1 27 (chV x0.cl) * (Bk t1 27 (chV x0.tl) * Z))) w8 := ⟨_, inferInstance, (o8.foc (Bk e1 27 (chV (List.replicate 8 0)))).foc (Re rp (openS fb))⟩
      clear o8
      have Hdec1 : Hid (Dec (rOf x0.s) (openS fb) fb) := Lib.hid (by rw [show rOf x0.s = ⟨[], 0, 4294967295⟩ from rel_eq begin_rel.1]; exact Hdec0.out)
      go_wp2
      clear Hdec0 Hx
      go_loopg [78] l.length (fun k i wr => k ≤ l.length ∧ i = .int .i64 ((l.length : Int) - (k : Int)) ∧ ∃ (y : SX) (q : RS), Own B (Re rp q * (Bk e1 27 (chV y.cl) * (Bk t1 27 (chV y.tl) * Z))) wr ∧ Below B w wr ∧ Hid (y.ok (10 + 32 * (k : Int))) ∧ Hid (x = (l.drop (l.length - k)).foldl stepX y) ∧ Hid (Dec (rOf y.s) q fb))
      case atStart => exact ⟨Nat.le_refl _, congrArg (Value.int .i64) (by omega), x0, openS fb, o9, b8, Hx0, Lib.hid (by rw [Nat.sub_self, List.drop_zero]; exact HxT.out.symm), Hdec1⟩
      case round =>
        obtain ⟨hk, rfl, y, q, ho, hbb, Hy, HT3, Hd⟩ := hrel
        have Bw : B ≤ wr.heap.size := Nat.le_trans hB hbb.size
        by_cases hk0 : gk ≠ 0
        · obtain ⟨j, rfl⟩ : ∃ j, gk = j + 1 := ⟨gk - 1, by omega⟩
          obtain ⟨i, hi⟩ : ∃ i : Nat, i + (j + 1) = l.length := ⟨l.length - (j + 1), by omega⟩
          obtain ⟨b, off, d, rfl, hd, hcell⟩ := Hr.out.at_.2 i (by omega)
          have hdok := Hok.out d (List.mem_of_getElem? hd)
          have hT2 : x = (l.drop (l.length - j)).foldl stepX (stepX y d) := by
            have h1 := HT3.out
            obtain ⟨hil, hdi⟩ := List.getElem?_eq_some_iff.1 hd
            rw [show l.length - (j + 1) = i by omega, List.drop_eq_getElem_cons hil, hdi] at h1
            rw [show l.length - j = i + 1 by omega]
            exact h1
          have HT2 := Lib.hid hT2
          have Hy2 : Hid ((stepX y d).ok (10 + 32 * (j : Int))) := Lib.hid (step_ok (by omega) (Hy.out.less (by omega)))
          have HPt : Hid (Pt (rOf (stepX y d).s) (rOf x.s)) := Lib.hid (run_pt (l.drop (l.length - j)) (stepX y d) 10 (by omega) (Hy2.out.less (by rw [List.length_drop]; omega)) (by rw [← hT2]; exact Pt.self (by have := Hlive.out.wide; show 0 < x.s.width; omega)))
          clear hT2
          have hcw : ∀ jj, jj < 4 → wr.cell? ⟨b, off + (i * 4 + jj), none⟩ = some (.int .i64 (d.cell jj)) := fun jj hj => (hbb.cell (p := ⟨b, off + (i * 4 + jj), none⟩) (by have := World.block_lt_of_cell? w _ (hcell jj hj); rw [HH.out] at this; exact this)).trans (hcell jj hj)
          have d0 := hcw 0 (by omega)
          have d1 := hcw 1 (by omega)
          have d2 := hcw 2 (by omega)
          have d3 := hcw 3 (by omega)
          obtain ⟨verb, kk, nn, bb⟩ := d
          simp only [Dn.cell, Nat.add_zero, ← Nat.add_assoc] at d0 d1 d2 d3
          have hnn := hdok 2
          have hbb2 := hdok 3
          simp only [Dn.cell] at hnn hbb2
          clear hdok hcw hcell hd
          have e1' : (l.length : Int) - ((j + 1 : Nat) : Int) = (i : Int) := by omega
          have i0 : (0 : Int) ≤ (i : Int) := by omega
          have i1 : (i : Int) < (l.length : Int) := by omega
          rw [e1']
          clear e1'
          have Hi := Lib.hid hi
          clear hi
          have o3 := ho.new Bw 37 #[.int .i64 verb, .int .i64 kk, .int .i64 nn, .int .i64 bb]
          have b3 := hbb.alloc Bw (.cells #[.int .i64 verb, .int .i64 kk, .int .i64 nn, .int .i64 bb] 37)
          have B3 : B ≤ (wr.alloc (.cells #[.int .i64 verb, .int .i64 kk, .int .i64 nn, .int .i64 bb] 37)).heap.size := by simp; omega
          clear ho hbb
          go_wp2_with fail
          clear d0 d1 d2 d3
          generalize wr.alloc (.cells #[.int .i64 verb, .int .i64 kk, .int .i64 nn, .int .i64 bb] 37) = W3 at o3 b3 B3 ⊢
          generalize wr.heap.size = D at o3 ⊢
          refine (may_any verb kk nn bb W3).mono ?_
          rintro e w5 ⟨rfl, b5⟩
          have o5 := o3.grown B3 b5
          have b5 := b3.trans (b5.mono B3)
          have B5 := Nat.le_trans hB b5.size
          clear o3 b3
          by_cases hm : mayD ⟨verb, kk, nn, bb⟩
          · rw [decide_eq_true hm]
            have Hm := Lib.hid hm
            have hmm := hm
            unfold mayD at hmm
            simp only at hmm
            clear hm
            rcases hmm with ⟨rfl, h0, h1, h2, h3⟩ | ⟨rfl, h0, h1⟩ | ⟨rfl, h0, h1⟩
            · obtain ⟨K, rfl⟩ : ∃ K : Nat, kk = K := ⟨kk.toNat, by omega⟩
              obtain ⟨M, hmax⟩ : ∃ M : Nat, (if bb < (0 : Int) then (0 : Int) else bb) = (M : Int) := ⟨(if bb < (0 : Int) then (0 : Int) else bb).toNat, by split <;> omega⟩
              have M1 : (M : Int) ≤ 9223372036854775807 := by rw [← hmax]; split <;> omega
              go_wp2
              refine wp_region_mix (St B _ w5) [0, 1, 2, 3, 4, 5, 6, 7] [8] mixed (by kernel_rfl) rfl (St.drew B5 o5) ?_
              simp only [List.filterMap_cons, List.filterMap_nil, List.getElem?_toArray, List.getElem?_cons_succ, List.getElem?_cons_zero]
              repeat (first
                | (refine held_val ?_ rfl (fun w1 hS => ?_) ?_
                   rotate_left
                   · (have c3 : w1.cell? ⟨D, 3, none⟩ = some (.int .i64 bb) := hS.2.1.cellOf D 3; have c2 : w1.cell? ⟨D, 2, none⟩ = some (.int .i64 nn) := hS.2.1.cellOf D 2
                      go_simp
                      try go_bits
                      rfl)
                   simp only [Act.put, List.setIfInBounds_toArray, List.set_cons_zero, List.set_cons_succ])
                | (refine held_off rfl ?_
                   simp only [Act.put, List.setIfInBounds_toArray, List.set_cons_zero, List.set_cons_succ]))
              refine held_nil (fun w6 hS => ?_)
              obtain ⟨k2, k3, k4⟩ := hS
              have c0 : w6.cell? ⟨D, 0, none⟩ = some (.int .i64 0) := k3.cellOf D 0
              have he : stepX y ⟨0, (K : Int), nn, bb⟩ = ⟨putS y.s (bitBound y.s (y.cl.getD K 0)) nn, y.cl.set K (sawN (y.cl.getD K 0) nn), y.tl⟩ := by
                unfold stepX
                rw [if_pos Hm.out, if_pos rfl]
                rfl
              have hpt := HPt.out
              rw [he] at hpt
              have hdd := Hd.out
              rw [← Hfbe.out] at hdd
              have hlq := hdd.live
              have hbd := bitBound_in Hy.out.gd.live (chOk_get Hy.out.c K)
              obtain ⟨g1', e1''⟩ := putS_gd nn (room := 10) (by omega) (Hy.out.gd.less (by omega)) hbd.1 hbd.2
              simp only at hpt
              rw [e1''] at hpt
              obtain ⟨q1, q2⟩ := dec_step (room := 10) (Hy.out.gd.less (by omega)).good HT.out hbd.1 hbd.2 (by omega) hpt hdd
              rw [← e1'', Hfbe.out] at q2
              have hrb : rBound q (y.cl.getD K 0) = bitBound y.s (y.cl.getD K 0) := by unfold rBound bitBound; rw [show q.width = y.s.width from hdd.width]
              have hrd := fun (R1 : HP) [Loc B R1] (w1 : World) h1 h2 => rbit_any rp e1 K q y.cl B R1 w1 h1 hlq Hy.out.c (by rw [Hy.out.cn]; omega) h2
              rw [hrb, q1] at hrd
              have Hrd := Lib.hid hrd
              have Hq2 := Lib.hid q2
              have He := Lib.hid he
              generalize takeS q (bitBound y.s (y.cl.getD K 0)) = q7 at Hrd Hq2 hrd
              generalize hcl7 : y.cl.set K (sawN (y.cl.getD K 0) nn) = cl7 at Hrd hrd He
              clear q1 q2 hdd hpt he hrb hrd hlq hbd g1' e1''
              go_wp2
              clear c0
              refine wp_region_ltwo (B := B) [0, 1, 2, 6] [3, 4, 7] [5] [] [8] (Re rp q * Bk e1 27 (chV y.cl)) Emp (Bk D 37 #[.int .i64 0, .int .i64 (K : Int), .int .i64 nn, .int .i64 bb] * (Bk t1 27 (chV y.tl) * Z)) mixed (by kernel_rfl) rfl (fun _ _ _ _ _ h => h) k2 ((k3.emp.cast (by ac_rfl)).drew k2) ?_
              simp only [List.filterMap_cons, List.filterMap_nil, List.getElem?_toArray, List.getElem?_cons_succ, List.getElem?_cons_zero]
              repeat (
                refine free_val ?_ rfl (fun w1 => ?_) ?_
                rotate_left
                · (go_simp
                   try go_bits
                   rfl)
                simp only [Act.put, List.setIfInBounds_toArray, List.set_cons_zero, List.set_cons_succ])
              refine free_nil ?_
              repeat (first
                | (refine late_val ?_ rfl (fun w1 hS => ?_) ?_
                   rotate_left
                   · (have c1 : w1.cell? ⟨D, 1, none⟩ = some (.int .i64 (K : Int)) := hS.cell 1; have c2 : w1.cell? ⟨D, 2, none⟩ = some (.int .i64 nn) := hS.cell 2
                      go_simp
                      try go_bits
                      rfl)
                   simp only [Act.put, List.setIfInBounds_toArray, List.set_cons_zero, List.set_cons_succ])
                | (refine late_off rfl ?_
                   simp only [Act.put, List.setIfInBounds_toArray, List.set_cons_zero, List.set_cons_succ]))
              refine late_nil ?_
              refine ⟨fun vs F => vs = [.int .i64 nn] ∧ F = (Re rp q7 * Bk e1 27 (chV cl7)), fun vs F => vs = [] ∧ F = Emp, ?_, ?_, ?_⟩
              · simp only [opsOf, List.filterMap_cons, List.filterMap_nil, List.getElem?_toArray, List.getElem?_cons_succ, List.getElem?_cons_zero]
                refine tw_call 24 #[.pointer (some ⟨rp, 0, none⟩), .pointer (some ⟨e1, K, none⟩)] (fun v1 F => v1 = .int .i64 nn ∧ F = (Re rp q7 * Bk e1 27 (chV cl7))) rfl (fun R1 _ w1 hS => by go_simp) (fun R1 _ w1 hB1 hS => (Hrd.out R1 w1 hB1 hS.assoc).mono ?_) ?_
                · rintro e w2 ⟨rfl, o8, b8⟩
                  exact ⟨_, _, rfl, ⟨inferInstance, rfl, rfl⟩, o8.assoc', b8⟩
                · rintro v1 F _ ⟨rfl, rfl⟩
                  exact tw_nil ⟨rfl, rfl⟩
              · simp only [opsOf, List.filterMap_cons, List.filterMap_nil, List.getElem?_toArray, List.getElem?_cons_succ, List.getElem?_cons_zero]
                exact tw_nil ⟨rfl, rfl⟩
              · rintro vs1 F1 vs2 F2 w7 ⟨rfl, rfl⟩ ⟨rfl, rfl⟩ o7 b7
                simp only [opsOf, putAll, Act.put, List.filterMap_cons, List.filterMap_nil, List.getElem?_toArray, List.getElem?_cons_succ, List.getElem?_cons_zero, List.setIfInBounds_toArray, List.set_cons_zero, List.set_cons_succ]
                go_wp2
                go_roundg j
                case measure => omega
                case rel =>
                  refine ⟨by omega, congrArg (Value.int .i64) (by have := Hi.out; omega), stepX y ⟨0, (K : Int), nn, bb⟩, q7, ?_, (b5.trans k4).trans b7, Hy2, HT2, Lib.hid (by rw [He.out]; exact Hq2.out)⟩
                  rw [He.out]
                  exact (o7.cast (show _ = Emp * (Bk D 37 #[.int .i64 0, .int .i64 (K : Int), .int .i64 nn, .int .i64 bb] * (Re rp q7 * (Bk e1 27 (chV cl7) * (Bk t1 27 (chV y.tl) * Z)))) by ac_rfl)).right.right
            · obtain ⟨m, rfl⟩ : ∃ m : Nat, bb = m := ⟨bb.toNat, by omega⟩
              have hmax : (if (m : Int) < (0 : Int) then (0 : Int) else (m : Int)) = (m : Int) := if_neg (by omega)
              have hmask : bits .and .i64 nn (wrap64 (wrap64 ((2 : Int) ^ m) - 1)) = nn % 2 ^ m := and_mask2 nn m (by omega)
              go_wp2
              refine wp_region_mix (St B _ w5) [0, 1, 2, 3, 4, 5, 6, 7] [8] mixed (by kernel_rfl) rfl (St.drew B5 o5) ?_
              simp only [List.filterMap_cons, List.filterMap_nil, List.getElem?_toArray, List.getElem?_cons_succ, List.getElem?_cons_zero]
              repeat (first
                | (refine held_val ?_ rfl (fun w1 hS => ?_) ?_
                   rotate_left
                   · (have c3 : w1.cell? ⟨D, 3, none⟩ = some (.int .i64 (m : Int)) := hS.2.1.cellOf D 3; have c2 : w1.cell? ⟨D, 2, none⟩ = some (.int .i64 nn) := hS.2.1.cellOf D 2
                      go_simp
                      try go_bits
                      rfl)
                   simp only [Act.put, List.setIfInBounds_toArray, List.set_cons_zero, List.set_cons_succ])
                | (refine held_off rfl ?_
                   simp only [Act.put, List.setIfInBounds_toArray, List.set_cons_zero, List.set_cons_succ]))
              refine held_nil (fun w6 hS => ?_)
              obtain ⟨k2, k3, k4⟩ := hS
              have c0 : w6.cell? ⟨D, 0, none⟩ = some (.int .i64 1) := k3.cellOf D 0
              have c3 : w6.cell? ⟨D, 3, none⟩ = some (.int .i64 (m : Int)) := k3.cellOf D 3
              have he : stepX y ⟨1, kk, nn, (m : Int)⟩ = ⟨evenS y.s (bitsOf nn m), y.cl, y.tl⟩ := by
                unfold stepX
                rw [if_pos Hm.out, if_neg (show ¬ (1 : Int) = 0 by omega), if_pos rfl]
                rfl
              have hpt := HPt.out
              rw [he] at hpt
              have hdd := Hd.out
              rw [← Hfbe.out] at hdd
              obtain ⟨q1, q2⟩ := even_dec HT.out (bitsOf nn m) y.s q 0 10 (by omega) (bitsOf_bits nn m) (Hy.out.gd.less (by rw [bitsOf_len]; omega)) hpt hdd
              rw [bitsOf_len, Hfbe.out] at q2
              rw [bitsOf_len] at q1
              have hev : evenRes m q = nn % 2 ^ m := by
                unfold evenRes
                rw [q1, val_bitsOf]
                generalize nn % 2 ^ m = z
                generalize (2 : Int) ^ m = z2
                show ((0 : Nat) : Int) * z2 + z = z
                rw [show ((0 : Nat) : Int) = 0 from rfl, Int.zero_mul, Int.zero_add]
              have hrd := reven_any rp q m (by omega) B _ w6 k2 hdd.live (k3.foc (Re rp q))
              rw [hev] at hrd
              have Hq2 := Lib.hid q2
              have He := Lib.hid he
              generalize (rEven m q 0).2 = q7 at hrd Hq2
              clear q1 q2 hdd hpt he hev
              go_wp2_with fail
              refine hrd.mono ?_
              clear hrd c0 c3
              rintro e w7 ⟨rfl, o7, b7⟩
              go_wp2
              go_roundg j
              case measure => omega
              case rel =>
                refine ⟨by omega, congrArg (Value.int .i64) (by have := Hi.out; omega), stepX y ⟨1, kk, nn, (m : Int)⟩, q7, ?_, (b5.trans k4).trans b7, Hy2, HT2, Lib.hid (by rw [He.out]; exact Hq2.out)⟩
                rw [He.out]
                exact (o7.foc (Bk D 37 #[.int .i64 1, .int .i64 kk, .int .i64 nn, .int .i64 (m : Int)])).right
            · obtain ⟨m, rfl⟩ : ∃ m : Nat, bb = m := ⟨bb.toNat, by omega⟩
              have hmax : (if (m : Int) < (0 : Int) then (0 : Int) else (m : Int)) = (m : Int) := if_neg (by omega)
              have hmask : bits .and .i64 nn (wrap64 (wrap64 ((2 : Int) ^ m) - 1)) = nn % 2 ^ m := and_mask2 nn m (by omega)
              go_wp2
              refine wp_region_mix (St B _ w5) [0, 1, 2, 3, 4, 5, 6, 7] [8] mixed (by kernel_rfl) rfl (St.drew B5 o5) ?_
              simp only [List.filterMap_cons, List.filterMap_nil, List.getElem?_toArray, List.getElem?_cons_succ, List.getElem?_cons_zero]
              repeat (first
                | (refine held_val ?_ rfl (fun w1 hS => ?_) ?_
                   rotate_left
                   · (have c3 : w1.cell? ⟨D, 3, none⟩ = some (.int .i64 (m : Int)) := hS.2.1.cellOf D 3; have c2 : w1.cell? ⟨D, 2, none⟩ = some (.int .i64 nn) := hS.2.1.cellOf D 2
                      go_simp
                      try go_bits
                      rfl)
                   simp only [Act.put, List.setIfInBounds_toArray, List.set_cons_zero, List.set_cons_succ])
                | (refine held_off rfl ?_
                   simp only [Act.put, List.setIfInBounds_toArray, List.set_cons_zero, List.set_cons_succ]))
              refine held_nil (fun w6 hS => ?_)
              obtain ⟨k2, k3, k4⟩ := hS
              have c0 : w6.cell? ⟨D, 0, none⟩ = some (.int .i64 2) := k3.cellOf D 0
              have c3 : w6.cell? ⟨D, 3, none⟩ = some (.int .i64 (m : Int)) := k3.cellOf D 3
              have he : stepX y ⟨2, kk, nn, (m : Int)⟩ = ⟨(treeS y.s y.tl 1 (bitsOf nn m)).1, y.cl, (treeS y.s y.tl 1 (bitsOf nn m)).2⟩ := by
                unfold stepX
                rw [if_pos Hm.out, if_neg (show ¬ (2 : Int) = 0 by omega), if_neg (show ¬ (2 : Int) = 1 by omega)]
                rfl
              have hpt := HPt.out
              rw [he] at hpt
              have hdd := Hd.out
              rw [← Hfbe.out] at hdd
              obtain ⟨q1, q3, q2⟩ := tree_dec HT.out (bitsOf nn m) y.s q y.tl 1 10 (by omega) (bitsOf_bits nn m) Hy.out.t (Hy.out.gd.less (by rw [bitsOf_len]; omega)) hpt hdd
              rw [bitsOf_len, Hfbe.out] at q2
              rw [bitsOf_len] at q1 q3
              have hev : treeRes m q y.tl = nn % 2 ^ m := by
                unfold treeRes
                rw [q1, val_bitsOf]
                generalize nn % 2 ^ m = z
                generalize (2 : Int) ^ m = z2
                show ((1 : Nat) : Int) * z2 + z - z2 = z
                rw [show ((1 : Nat) : Int) = 1 from rfl, Int.one_mul]
                omega
              have h16 : 2 ^ m ≤ y.tl.length := by
                rw [Hy.out.tn]
                exact Nat.le_trans (Nat.pow_le_pow_right (by omega) (show m ≤ 8 by omega)) (by decide)
              have hrd := rtree_any rp t1 q y.tl m (by omega) h16 (by rw [Hy.out.tn]; omega) B _ w6 k2 hdd.live Hy.out.t ((k3.foc (Bk t1 27 (chV y.tl))).foc (Re rp q)) 256
              rw [hev, Hy.out.tn, q3] at hrd
              have Hq2 := Lib.hid q2
              have He := Lib.hid he
              generalize (rTree m q y.tl 1).2.1 = q7 at hrd Hq2
              clear q1 q2 q3 hdd hpt he hev h16
              go_wp2_with fail
              refine hrd.mono ?_
              clear hrd c0 c3
              rintro e w7 ⟨rfl, o7, b7⟩
              go_wp2
              go_roundg j
              case measure => omega
              case rel =>
                refine ⟨by omega, congrArg (Value.int .i64) (by have := Hi.out; omega), stepX y ⟨2, kk, nn, (m : Int)⟩, q7, ?_, (b5.trans k4).trans b7, Hy2, HT2, Lib.hid (by rw [He.out]; exact Hq2.out)⟩
                rw [He.out]
                exact ((o7.foc (Bk D 37 #[.int .i64 2, .int .i64 kk, .int .i64 nn, .int .i64 (m : Int)])).right).cast (by ac_rfl)
          · rw [decide_eq_false hm]
            go_wp2
            go_roundg j
            case measure => omega
            case rel =>
              have he : stepX y ⟨verb, kk, nn, bb⟩ = y := by unfold stepX; rw [if_neg hm]
              rw [he] at Hy2 HT2
              exact ⟨by omega, congrArg (Value.int .i64) (by have := Hi.out; omega), y, q, o5.right, b5, Hy2, HT2, Hd⟩
        · obtain rfl : gk = 0 := by omega
          have hyx : y = x := by
            have h1 := HT3.out
            rw [Nat.sub_zero, List.drop_length] at h1
            exact h1.symm
          have hrem : q.rem.length = 0 := by
            have h1 := Hd.out
            rw [← Hfbe.out, hyx] at h1
            rw [dec_end h1]
            rfl
          have he0 : q.e = 0 := Hd.out.e
          have cerr := err_any rp q B _ wr ho
          have clft := left_any rp q B _ wr ho
          rw [he0] at cerr
          rw [hrem] at clft
          clear hrem he0 hyx
          go_wp2_with (first | (go_at_call 27; refine cerr.mono ?_; rintro e w' ⟨rfl, rfl⟩) | (go_at_call 28; refine clft.mono ?_; rintro e w' ⟨rfl, rfl⟩) | (go_at_call 10; refine (awake_any _).mono ?_; rintro e w1 ⟨rfl, b9⟩))
          go_ret
          exact ⟨rfl, hbb.trans (b9.mono Bw)⟩
end Go.Proofs.Ytnoofgcjhoiboaa
