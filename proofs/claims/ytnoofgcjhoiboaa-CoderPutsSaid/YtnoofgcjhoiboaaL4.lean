/- The walk over the law CoderPuts. -/
import Derived.Test.YtnoofgcjhoiboaaP2
import Derived.Test.YtnoofgcjhoiboaaL1
import Derived.Test.YtnoofgcjhoiboaaDo
import Derived.Test.YtnoofgcjhoiboaaFoc
import Derived.Test.YtnoofgcjhoiboaaTwc
namespace Go.Proofs.Ytnoofgcjhoiboaa
set_option linter.unusedVariables false
set_option linter.unusedSimpArgs false
open Go.RowKit

/-- An array of chances, as the reference has it. -/
def chA (cl : List Int) : Array Value := (cl.map fun n => Value.int .i64 (n + 1024)).toArray
theorem chA_get (cl : List Int) (i : Nat) (h : i < cl.length) : (chA cl)[i]? = some (.int .i64 (cl.getD i 0 + 1024)) := by
  simp [chA, h]
theorem chA_set (cl : List Int) (i : Nat) (x : Int) : (chA cl).setIfInBounds i (.int .i64 (x + 1024)) = chA (cl.set i x) := by
  simp [chA, List.map_set]

def fillA (n k : Nat) : Array Value := (List.replicate (n - k) (Value.int .i64 1024) ++ List.replicate k (Value.int .i64 0)).toArray
theorem fillA_get (n j : Nat) (h : j + 1 ≤ n) : (fillA n (j + 1))[n - (j + 1)]? = some (.int .i64 0) := by
  simp [fillA, List.getElem?_append]
theorem fillA_set (n j : Nat) (h : j + 1 ≤ n) : (fillA n (j + 1)).setIfInBounds (n - (j + 1)) (.int .i64 1024) = fillA n j := by
  have e : n - j = (n - (j + 1)) + 1 := by omega
  simp only [fillA, List.setIfInBounds_toArray, List.set_append, List.length_replicate, Nat.lt_irrefl, if_false, Nat.sub_self, List.replicate_succ, List.set_cons_zero]
  rw [e, List.replicate_succ']
  simp

set_option maxHeartbeats 6400000 in
set_option maxRecDepth 100000 in
theorem puts_walk (A : Option Addr) (cap : Nat) (l : List Dn) (hok : ∀ d ∈ l, d.ok) (w : World) (hr : RdDo w (.slice A l.length cap) l) (hlm : l.length ≤ 9223372036854775807) :
    Calls Try.prog 6 #[.slice A l.length cap] w fun e w' => e = .returned (.bool true) ∧ Below w.heap.size w w' := by
  by_cases hbig : 300 < l.length
  · have hbig' : (300 : Int) < (l.length : Int) := by omega
    go_enter Try.func6, Try.ntmps6
    go_wp2_with (go_at_call 10; refine (awake_any _).mono ?_; rintro e w1 ⟨rfl, b1⟩)
    go_ret
    exact ⟨rfl, b1⟩
  have hsm : (l.length : Int) ≤ 300 := by omega
  have hB : w.heap.size ≤ w.heap.size := Nat.le_refl _
  have hO := Own.start w.heap.size w
  have Hr := Lib.hid hr
  have Hok := Lib.hid hok
  clear hr hok
  generalize hH : w.heap.size = B at hB hO ⊢
  have hB : B ≤ w.heap.size := by omega
  have HH := Lib.hid hH
  clear hH
  go_enter Try.func6, Try.ntmps6
  go_wp2_with fail
  refine (begin_any B Emp w hB hO).mono ?_
  rintro e w1 ⟨p, rfl, o1, b1⟩
  have B1 : B ≤ w1.heap.size := Nat.le_trans hB b1.size
  go_wp2_with fail
  refine (chances_any 8 8 rfl (by omega) B _ w1 B1 o1).mono ?_
  rintro e w2 ⟨g1, rfl, o2, b2⟩
  have b2 := b1.trans b2
  have B2 : B ≤ w2.heap.size := Nat.le_trans hB b2.size
  clear b1 o1
  go_wp2_with fail
  refine (chances_any 16 16 rfl (by omega) B _ w2 B2 o2).mono ?_
  rintro e w3 ⟨g2, rfl, o3, b3⟩
  have b3 := b2.trans b3
  have B3 : B ≤ w3.heap.size := Nat.le_trans hB b3.size
  clear b2 o2
  go_wp2_with fail
  refine (refbegin_any B _ w3 B3 o3).mono ?_
  rintro e w4 ⟨rfl, o4, b4⟩
  have b4 := b3.trans b4
  have B4 : B ≤ w4.heap.size := Nat.le_trans hB b4.size
  clear b3 o3
  simp only [refV]
  have o5 := o4.new B4 45 #[.slice none 0 0, .int .i64 0, .int .i64 4294967295]
  have b5 := b4.alloc B4 (.cells #[.slice none 0 0, .int .i64 0, .int .i64 4294967295] 45)
  have B5 := Nat.le_trans hB b5.size
  have o6 := o5.new B5 47 #[.int .i64 0, .int .i64 0, .int .i64 0, .int .i64 0, .int .i64 0, .int .i64 0, .int .i64 0, .int .i64 0]
  have b6 := b5.alloc B5 (.cells #[.int .i64 0, .int .i64 0, .int .i64 0, .int .i64 0, .int .i64 0, .int .i64 0, .int .i64 0, .int .i64 0] 47)
  have B6 := Nat.le_trans hB b6.size
  have o7 := o6.new B6 48 #[.int .i64 0, .int .i64 0, .int .i64 0, .int .i64 0, .int .i64 0, .int .i64 0, .int .i64 0, .int .i64 0, .int .i64 0, .int .i64 0, .int .i64 0, .int .i64 0, .int .i64 0, .int .i64 0, .int .i64 0, .int .i64 0]
  have b7 := b6.alloc B6 (.cells #[.int .i64 0, .int .i64 0, .int .i64 0, .int .i64 0, .int .i64 0, .int .i64 0, .int .i64 0, .int .i64 0, .int .i64 0, .int .i64 0, .int .i64 0, .int .i64 0, .int .i64 0, .int .i64 0, .int .i64 0, .int .i64 0] 48)
  have B7 := Nat.le_trans hB b7.size
  have hsz : ∀ (w : World) (o : Obj), (w.alloc o).heap.size = w.heap.size + 1 := fun w o => by simp
  simp only [hsz] at o7
  clear o4 b4 o5 b5 o6 b6 hsz
  go_wp2
  generalize ((w4.alloc (.cells #[.slice none 0 0, .int .i64 0, .int .i64 4294967295] 45)).alloc (.cells #[.int .i64 0, .int .i64 0, .int .i64 0, .int .i64 0, .int .i64 0, .int .i64 0, .int .i64 0, .int .i64 0] 47)).alloc (.cells #[.int .i64 0, .int .i64 0, .int .i64 0, .int .i64 0, .int .i64 0, .int .i64 0, .int .i64 0, .int .i64 0, .int .i64 0, .int .i64 0, .int .i64 0, .int .i64 0, .int .i64 0, .int .i64 0, .int .i64 0, .int .i64 0] 48) = W7 at o7 b7 B7 ⊢
  clear B5 B6
  generalize w4.heap.size + 1 + 1 = a2 at o7 ⊢
  generalize w4.heap.size + 1 = a1 at o7 ⊢
  generalize w4.heap.size = X at o7 ⊢
  have o7 : Own B (Bk a1 47 (fillA 8 8) * (Bk a2 48 (fillA 16 16) * (Bk X 45 #[.slice none 0 0, .int .i64 0, .int .i64 4294967295] * (Bk g2 27 (chV (List.replicate 16 0)) * (Bk g1 27 (chV (List.replicate 8 0)) * (Wr p begin0 * Emp)))))) W7 := o7.cast (sep_left_comm _ _ _)
  go_loopg [36] 8 (fun k i wr => k ≤ 8 ∧ i = .int .i64 (8 - (k : Int)) ∧ Own B (Bk a1 47 (fillA 8 k) * (Bk a2 48 (fillA 16 16) * (Bk X 45 #[.slice none 0 0, .int .i64 0, .int .i64 4294967295] * (Bk g2 27 (chV (List.replicate 16 0)) * (Bk g1 27 (chV (List.replicate 8 0)) * (Wr p begin0 * Emp)))))) wr ∧ Below B w wr)
  case atStart => exact ⟨Nat.le_refl _, rfl, o7, b7⟩
  case round =>
    obtain ⟨hk, rfl, ho, hbb⟩ := hrel
    have Bw : B ≤ wr.heap.size := Nat.le_trans hB hbb.size
    by_cases hk0 : gk ≠ 0
    · obtain ⟨j, rfl⟩ : ∃ j, gk = j + 1 := ⟨gk - 1, by omega⟩
      obtain ⟨i, hi⟩ : ∃ i : Nat, i = 8 - (j + 1) := ⟨_, rfl⟩
      have c0 : wr.cell? ⟨a1, i, none⟩ = some (.int .i64 0) := by rw [ho.cellOf a1 i, hi]; exact fillA_get 8 j hk
      have z0 := ho.freeOf a1 i
      have s0 := ho.setOf Bw a1 i (.int .i64 1024)
      have e1 : 8 - ((j + 1 : Nat) : Int) = (i : Int) := by omega
      have i0 : (0 : Int) ≤ (i : Int) := by omega
      have i1 : (i : Int) < 8 := by omega
      rw [e1]
      clear e1
      have Hi := Lib.hid hi
      rw [hi, fillA_set 8 j hk, ← hi] at s0
      clear hi
      go_wp2
      go_roundg j
      case measure => omega
      case rel => exact ⟨by omega, congrArg (Value.int .i64) (by have := Hi.out; omega), s0.1, hbb.trans s0.2⟩
    · obtain rfl : gk = 0 := by omega
      go_wp2
      have ho := ho.cast (sep_left_comm _ _ _)
      clear hk0 hk
      go_loopg [42] 16 (fun k i wr => k ≤ 16 ∧ i = .int .i64 (16 - (k : Int)) ∧ Own B (Bk a2 48 (fillA 16 k) * (Bk a1 47 (fillA 8 0) * (Bk X 45 #[.slice none 0 0, .int .i64 0, .int .i64 4294967295] * (Bk g2 27 (chV (List.replicate 16 0)) * (Bk g1 27 (chV (List.replicate 8 0)) * (Wr p begin0 * Emp)))))) wr ∧ Below B w wr)
      case atStart => exact ⟨Nat.le_refl _, rfl, ho, hbb⟩
      case round =>
        obtain ⟨hk, rfl, ho, hbb⟩ := hrel
        have Bw : B ≤ wr.heap.size := Nat.le_trans hB hbb.size
        by_cases hk0 : gk ≠ 0
        · obtain ⟨j, rfl⟩ : ∃ j, gk = j + 1 := ⟨gk - 1, by omega⟩
          obtain ⟨i, hi⟩ : ∃ i : Nat, i = 16 - (j + 1) := ⟨_, rfl⟩
          have c0 : wr.cell? ⟨a2, i, none⟩ = some (.int .i64 0) := by rw [ho.cellOf a2 i, hi]; exact fillA_get 16 j hk
          have z0 := ho.freeOf a2 i
          have s0 := ho.setOf Bw a2 i (.int .i64 1024)
          have e1 : 16 - ((j + 1 : Nat) : Int) = (i : Int) := by omega
          have i0 : (0 : Int) ≤ (i : Int) := by omega
          have i1 : (i : Int) < 16 := by omega
          rw [e1]
          clear e1
          have Hi := Lib.hid hi
          rw [hi, fillA_set 16 j hk, ← hi] at s0
          clear hi
          go_wp2
          go_roundg j
          case measure => omega
          case rel => exact ⟨by omega, congrArg (Value.int .i64) (by have := Hi.out; omega), s0.1, hbb.trans s0.2⟩
        · obtain rfl : gk = 0 := by omega
          go_wp2
          have ho : Own B (Wr p begin0 * (Bk g1 27 (chV (List.replicate 8 0)) * (Bk g2 27 (chV (List.replicate 16 0)) * (Bk X 45 #[.slice none 0 0, .int .i64 0, .int .i64 4294967295] * (Rw 5 1 (.slice none 0 0) ([] : List Int).length (bytesV []) * (Bk a1 47 (chA (List.replicate 8 0)) * (Bk a2 48 (chA (List.replicate 16 0)) * Emp))))))) wr :=
            (ho.rw_nil 5 1).cast (by
              rw [show fillA 8 0 = chA (List.replicate 8 0) from rfl, show fillA 16 0 = chA (List.replicate 16 0) from rfl]
              show Rw _ _ _ ([] : List Int).length (bytesV []) * _ = _
              ac_rfl)
          clear hk0 hk
          go_loopg [50] l.length (fun k i wr => k ≤ l.length ∧ i = .int .i64 ((l.length : Int) - (k : Int)) ∧ ∃ (s : WS) (r : RW) (v : Value) (cl tl : List Int), Own B (Wr p s * (Bk g1 27 (chV cl) * (Bk g2 27 (chV tl) * (Bk X 45 #[v, .int .i64 r.low, .int .i64 r.width] * (Rw 5 1 v r.out.length (bytesV r.out) * (Bk a1 47 (chA cl) * (Bk a2 48 (chA tl) * Emp))))))) wr ∧ Below B w wr ∧
            Hid (s.live (10 + 32 * (k : Int))) ∧ Hid (r.ok (10 + 32 * (k : Int))) ∧ Hid s.calm ∧ Hid (Rel s r) ∧ Hid (chOk cl) ∧ Hid (chOk tl) ∧ Hid (cl.length = 8) ∧ Hid (tl.length = 16))
          case atStart => exact ⟨Nat.le_refl _, congrArg (Value.int .i64) (by omega), begin0, ⟨[], 0, 4294967295⟩, .slice none 0 0, _, _, ho, hbb, Lib.hid (begin0_live _ (by omega) (by omega)), Lib.hid ⟨by intro c hc; simp at hc, by show ((0 : Nat) : Int) + _ ≤ _; omega, by decide, by decide, by decide, by decide, by decide⟩, Lib.hid begin_rel.2, Lib.hid begin_rel.1, Lib.hid (by intro n hn; simp at hn; omega), Lib.hid (by intro n hn; simp at hn; omega), Lib.hid (by simp), Lib.hid (by simp)⟩
          case round =>
            obtain ⟨hk, rfl, s, r, v, cl, tl, ho, hbb, Hl, Hro, Hcm, Hrl, Hc, Ht, Hcn, Htn⟩ := hrel
            have Bw : B ≤ wr.heap.size := Nat.le_trans hB hbb.size
            by_cases hk0 : gk ≠ 0
            · obtain ⟨j, rfl⟩ : ∃ j, gk = j + 1 := ⟨gk - 1, by omega⟩
              obtain ⟨i, hi⟩ : ∃ i : Nat, i + (j + 1) = l.length := ⟨l.length - (j + 1), by omega⟩
              obtain ⟨b, off, d, rfl, hd, hcell⟩ := Hr.out.at_.2 i (by omega)
              have hdok := Hok.out d (List.mem_of_getElem? hd)
              have hcw : ∀ jj, jj < 4 → wr.cell? ⟨b, off + (i * 4 + jj), none⟩ = some (.int .i64 (d.cell jj)) := fun jj hj => (hbb.cell (p := ⟨b, off + (i * 4 + jj), none⟩) (by have := World.block_lt_of_cell? w _ (hcell jj hj); rw [HH.out] at this; exact this)).trans (hcell jj hj)
              have d0 := hcw 0 (by omega)
              have d1 := hcw 1 (by omega)
              have d2 := hcw 2 (by omega)
              have d3 := hcw 3 (by omega)
              obtain ⟨verb, kk, nn, bb⟩ := d
              simp only [Dn.cell, Nat.add_zero, ← Nat.add_assoc] at d0 d1 d2 d3
              have hkk := hdok 1
              have hnn := hdok 2
              have hbb2 := hdok 3
              simp only [Dn.cell] at hkk hnn hbb2
              clear hdok hcw hcell hd
              have e1 : (l.length : Int) - ((j + 1 : Nat) : Int) = (i : Int) := by omega
              have i0 : (0 : Int) ≤ (i : Int) := by omega
              have i1 : (i : Int) < (l.length : Int) := by omega
              rw [e1]
              clear e1
              have Hi := Lib.hid hi
              clear hi
              have o3 := ho.new Bw 37 #[.int .i64 verb, .int .i64 kk, .int .i64 nn, .int .i64 bb]
              have b3 := hbb.alloc Bw (.cells #[.int .i64 verb, .int .i64 kk, .int .i64 nn, .int .i64 bb] 37)
              have B3 : B ≤ (wr.alloc (.cells #[.int .i64 verb, .int .i64 kk, .int .i64 nn, .int .i64 bb] 37)).heap.size := by simp; omega
              clear ho hbb
              obtain ⟨mb, hmb⟩ : ∃ mb : Int, (if (32 : Int) < bb then 32 else bb) = mb := ⟨_, rfl⟩
              obtain ⟨m, hm⟩ : ∃ m : Nat, (if mb < (0 : Int) then 0 else mb) = (m : Int) := ⟨(if mb < (0 : Int) then 0 else mb).toNat, by split <;> omega⟩
              have m1 : (m : Int) ≤ 32 := by
                rw [← hm, ← hmb]
                split <;> split at * <;> omega
              by_cases hv0 : verb = 0
              · subst hv0
                by_cases hin : 0 ≤ kk ∧ kk < 8 ∧ 0 ≤ nn ∧ nn < 2
                · obtain ⟨K, rfl⟩ : ∃ K : Nat, kk = K := ⟨kk.toNat, by omega⟩
                  obtain ⟨h0, h1, h2, h3⟩ := hin
                  have h7 : ¬ (7 : Int) < (K : Int) := by omega
                  have h8 : ¬ (1 : Int) < nn := by omega
                  go_wp2
                  clear d0 d1 d2 d3
                  generalize wr.alloc (.cells #[.int .i64 0, .int .i64 (K : Int), .int .i64 nn, .int .i64 bb] 37) = W3 at o3 b3 B3 ⊢
                  generalize wr.heap.size = D at o3 ⊢
                  obtain ⟨n0, hn0⟩ : ∃ x, cl.getD K 0 = x := ⟨_, rfl⟩
                  have hx := chOk_get Hc.out K
                  rw [hn0] at hx
                  obtain ⟨hx0, hx1⟩ := hx
                  have hbd := bitBound_in Hl.out (n := n0) ⟨hx0, hx1⟩
                  have Hbd := Lib.hid hbd
                  have Hlv : Hid (s.live (10 + 32 * (j : Int) + 1)) := Lib.hid (Hl.out.less (by omega))
                  have Hrv : Hid (r.ok (10 + 32 * (j : Int) + 1)) := Lib.hid ⟨Hro.out.bytes, by have := Hro.out.len; omega, Hro.out.low0, Hro.out.low1, Hro.out.width0, Hro.out.width1, Hro.out.sum⟩
                  have Hput := Lib.hid (put_rel nn Hlv.out Hcm.out Hrl.out hbd.1 hbd.2)
                  have Hrb : Hid (r.width / 2048 * (n0 + 1024) = bitBound s n0) := Lib.hid (by rw [Hrl.out.width]; rfl)
                  have hca : (chA cl)[K]? = some (.int .i64 (n0 + 1024)) := by rw [chA_get cl K (by rw [Hcn.out]; omega), hn0]
                  have Hca := Lib.hid hca
                  have hb01 := hbd
                  have hbit := bit_any p g1 K s cl nn (r := 10 + 32 * (j : Int)) (by omega) B
                  rw [hn0] at hbit
                  have Hbit := Lib.hid hbit
                  have Hn0 := Lib.hid hn0
                  clear hbd hbit hca hn0 hb01
                  refine wp_region_mix (St B (Bk D 37 #[.int .i64 0, .int .i64 (K : Int), .int .i64 nn, .int .i64 bb] * (Wr p s * (Bk g1 27 (chV cl) * (Bk g2 27 (chV tl) * (Bk X 45 #[v, .int .i64 r.low, .int .i64 r.width] * (Rw 5 1 v r.out.length (bytesV r.out) * (Bk a1 47 (chA cl) * (Bk a2 48 (chA tl) * Emp)))))))) W3) [0, 1, 2, 3, 4, 5, 6] [7] mixed (by kernel_rfl) rfl (St.drew B3 o3) ?_
                  simp only [List.filterMap_cons, List.filterMap_nil, List.getElem?_toArray, List.getElem?_cons_succ, List.getElem?_cons_zero]
                  repeat (first
                    | (refine held_val ?_ rfl (fun w1 hS => ?_) ?_
                       rotate_left
                       · (have c1 : w1.cell? ⟨D, 1, none⟩ = some (.int .i64 (K : Int)) := hS.2.1.cellOf D 1; have c2 : w1.cell? ⟨D, 2, none⟩ = some (.int .i64 nn) := hS.2.1.cellOf D 2
                          go_simp
                          try go_bits
                          rfl)
                       simp only [Act.put, List.setIfInBounds_toArray, List.set_cons_zero, List.set_cons_succ])
                    | (refine held_off rfl ?_
                       simp only [Act.put, List.setIfInBounds_toArray, List.set_cons_zero, List.set_cons_succ]))
                  refine held_nil (fun w4 hS => ?_)
                  obtain ⟨k2, k3, k4⟩ := hS
                  go_wp2_with fail
                  refine (Hbit.out _ w4 k2 Hlv.out Hc.out (by rw [Hcn.out]; omega) ((k3.foc (Bk g1 27 (chV cl))).foc (Wr p s))).mono ?_
                  rintro e w5 ⟨rfl, o5, b5⟩
                  have B5 := Nat.le_trans k2 b5.size
                  have b5 := (b3.trans k4).trans b5
                  clear k3 k4 b3 o3
                  generalize hs5 : putS s (bitBound s n0) nn = s5 at o5 Hput
                  generalize hc5 : cl.set K (sawN n0 nn) = cl5 at o5
                  have Hc5 := Lib.hid hc5
                  have Hs5 := Lib.hid hs5
                  clear hc5 hs5
                  obtain ⟨A0, c0', rfl⟩ := (o5.foc (Rw 5 1 v r.out.length (bytesV r.out))).row_n
                  go_wp2
                  refine wp_region_mix (St B _ w5) [0, 1, 2, 3, 4, 5, 6] [7, 8] mixed (by kernel_rfl) rfl (St.drew B5 o5) ?_
                  simp only [List.filterMap_cons, List.filterMap_nil, List.getElem?_toArray, List.getElem?_cons_succ, List.getElem?_cons_zero]
                  repeat (first
                    | (refine held_val ?_ rfl (fun w1 hS => ?_) ?_
                       rotate_left
                       · (have c1 : w1.cell? ⟨D, 1, none⟩ = some (.int .i64 (K : Int)) := hS.2.1.cellOf D 1; have c2 : w1.cell? ⟨D, 2, none⟩ = some (.int .i64 nn) := hS.2.1.cellOf D 2; have x0 : w1.cell? ⟨X, 0, none⟩ = some (.slice A0 r.out.length c0') := hS.2.1.cellOf X 0; have x1 : w1.cell? ⟨X, 1, none⟩ = some (.int .i64 r.low) := hS.2.1.cellOf X 1; have x2 : w1.cell? ⟨X, 2, none⟩ = some (.int .i64 r.width) := hS.2.1.cellOf X 2; have y0 : w1.cell? ⟨a1, K, none⟩ = some (.int .i64 (n0 + 1024)) := (hS.2.1.cellOf a1 K).trans Hca.out
                          go_simp
                          try go_bits
                          rfl)
                       simp only [Act.put, List.setIfInBounds_toArray, List.set_cons_zero, List.set_cons_succ])
                    | (refine held_off rfl ?_
                       simp only [Act.put, List.setIfInBounds_toArray, List.set_cons_zero, List.set_cons_succ]))
                  refine held_nil (fun w6 hS => ?_)
                  obtain ⟨k2, k3, k4⟩ := hS
                  have hrb := refbit_any (.slice A0 r.out.length c0') r (n0 + 1024) nn (10 + 32 * (j : Int)) (by omega) Hrv.out (by rw [Hrb.out]; exact Hbd.out.1) (by rw [Hrb.out, Hrl.out.width]; exact Hbd.out.2) B _ w6 k2 (k3.foc (Rw 5 1 (.slice A0 r.out.length c0') r.out.length (bytesV r.out)))
                  rw [Hrb.out] at hrb
                  have Hrok := Lib.hid (rput_ok (r := r) (bound := bitBound s n0) nn Hrv.out Hbd.out.1 (by rw [Hrl.out.width]; exact Hbd.out.2))
                  generalize rput r (bitBound s n0) nn = r7 at hrb Hput Hrok
                  go_wp2_with fail
                  refine hrb.mono ?_
                  rintro e w7 ⟨v7, rfl, o7, b7⟩
                  clear hrb
                  have B7 := Nat.le_trans k2 b7.size
                  have b7 := (b5.trans k4).trans b7
                  clear b5 k3 k4 o5
                  obtain ⟨A7, c7, rfl⟩ := o7.row_n
                  simp only [refV]
                  have x0 : w7.cell? ⟨X, 0, none⟩ = some (.slice A0 r.out.length c0') := o7.cellOf X 0
                  have x1 : w7.cell? ⟨X, 1, none⟩ = some (.int .i64 r.low) := o7.cellOf X 1
                  have x2 : w7.cell? ⟨X, 2, none⟩ = some (.int .i64 r.width) := o7.cellOf X 2
                  have z0 := o7.freeOf X 0
                  have z1 := o7.freeOf X 1
                  have z2 := o7.freeOf X 2
                  have s0 := o7.setOf B7 X 0 (.slice A7 r7.out.length c7)
                  have s1 := s0.1.setOf (by simpa [World.setCell] using B7) X 1 (.int .i64 r7.low)
                  have s2 := s1.1.setOf (by simpa [World.setCell] using B7) X 2 (.int .i64 r7.width)
                  go_wp2
                  clear x0 x1 x2 z0 z1 z2
                  have o8 := s2.1
                  have b8 := ((b7.trans s0.2).trans s1.2).trans s2.2
                  clear s0 s1 s2 o7 b7
                  generalize ((w7.setCell ⟨X, 0, none⟩ (.slice A7 r7.out.length c7)).setCell ⟨X, 1, none⟩ (.int .i64 r7.low)).setCell ⟨X, 2, none⟩ (.int .i64 r7.width) = w8 at o8 b8 ⊢
                  have B8 := Nat.le_trans hB b8.size
                  refine wp_region_mix (St B _ w8) [0, 1, 2, 3, 4, 5, 6, 7, 8, 9] [10] mixed (by kernel_rfl) rfl (St.drew B8 o8) ?_
                  simp only [List.filterMap_cons, List.filterMap_nil, List.getElem?_toArray, List.getElem?_cons_succ, List.getElem?_cons_zero]
                  repeat (first
                    | (refine held_val ?_ rfl (fun w1 hS => ?_) ?_
                       rotate_left
                       · (have c1 : w1.cell? ⟨D, 1, none⟩ = some (.int .i64 (K : Int)) := hS.2.1.cellOf D 1; have c2 : w1.cell? ⟨D, 2, none⟩ = some (.int .i64 nn) := hS.2.1.cellOf D 2; have y0 : w1.cell? ⟨a1, K, none⟩ = some (.int .i64 (n0 + 1024)) := (hS.2.1.cellOf a1 K).trans Hca.out
                          go_simp
                          try go_bits
                          rfl)
                       simp only [Act.put, List.setIfInBounds_toArray, List.set_cons_zero, List.set_cons_succ])
                    | (refine held_off rfl ?_
                       simp only [Act.put, List.setIfInBounds_toArray, List.set_cons_zero, List.set_cons_succ]))
                  refine held_call 14 #[.int .i64 (n0 + 1024), .int .i64 nn] (.int .i64 (sawN n0 nn + 1024)) rfl (fun w1 hS => by go_simp) (fun w1 hS => (sawref_any n0 nn hx0 hx1 w1).mono ?_) ?_
                  · rintro e w2 ⟨rfl, rfl⟩
                    exact ⟨rfl, hS⟩
                  simp only [Act.put, List.setIfInBounds_toArray, List.set_cons_zero, List.set_cons_succ]
                  repeat (first
                    | (refine held_val ?_ rfl (fun w1 hS => ?_) ?_
                       rotate_left
                       · (skip
                          go_simp
                          try go_bits
                          rfl)
                       simp only [Act.put, List.setIfInBounds_toArray, List.set_cons_zero, List.set_cons_succ])
                    | (refine held_off rfl ?_
                       simp only [Act.put, List.setIfInBounds_toArray, List.set_cons_zero, List.set_cons_succ]))
                  refine held_nil (fun w9 hS => ?_)
                  obtain ⟨k2, k3, k4⟩ := hS
                  have y0 : w9.cell? ⟨a1, K, none⟩ = some (.int .i64 (n0 + 1024)) := (k3.cellOf a1 K).trans Hca.out
                  have z0 := k3.freeOf a1 K
                  have s0 := k3.setOf k2 a1 K (.int .i64 (sawN n0 nn + 1024))
                  have hcl5 : cl.set K (sawN n0 nn) = cl5 := Hc5.out
                  rw [chA_set, hcl5] at s0
                  clear hcl5
                  go_wp2
                  go_roundg j
                  case measure => omega
                  case rel =>
                    refine ⟨by omega, congrArg (Value.int .i64) (by have := Hi.out; omega), s5, r7, .slice A7 r7.out.length c7, cl5, tl, (s0.1.foc (Bk D 37 #[.int .i64 0, .int .i64 (K : Int), .int .i64 nn, .int .i64 bb])).right.cast ?_, (b8.trans k4).trans s0.2, ?_, Lib.hid Hrok.out.1, Lib.hid Hput.out.2, Lib.hid Hput.out.1, ?_, Ht, ?_, Htn⟩
                    · show Rw _ _ _ _ _ * (Wr p s5 * (Bk g1 _ _ * (Bk g2 _ _ * (Bk X _ #[.slice A7 r7.out.length c7, .int .i64 r7.low, .int .i64 r7.width] * (Bk a1 _ _ * (Bk a2 _ _ * Emp)))))) = _
                      ac_rfl
                    · exact Lib.hid (by rw [← Hs5.out]; exact putS_live nn (by omega) Hlv.out Hbd.out.1 Hbd.out.2)
                    · exact Lib.hid (by rw [← Hc5.out]; exact chOk_set Hc.out K _ (sawN_ok _ _ ⟨hx0, hx1⟩))
                    · exact Lib.hid (by rw [← Hc5.out, List.length_set]; exact Hcn.out)
                · have hcase : kk < 0 ∨ (¬ kk < 0 ∧ 7 < kk) ∨ (¬ kk < 0 ∧ ¬ 7 < kk ∧ nn < 0) ∨ (¬ kk < 0 ∧ ¬ 7 < kk ∧ ¬ nn < 0 ∧ 1 < nn) := by omega
                  rcases hcase with h0 | ⟨h0, h1⟩ | ⟨h0, h1, h2⟩ | ⟨h0, h1, h2, h3⟩
                  all_goals
                    go_wp2
                    go_roundg j
                    case measure => omega
                    case rel =>
                      refine ⟨by omega, congrArg (Value.int .i64) (by have := Hi.out; omega), s, r, v, cl, tl, o3.right, b3, Lib.hid (Hl.out.less (by omega)), Lib.hid ⟨Hro.out.bytes, by have := Hro.out.len; omega, Hro.out.low0, Hro.out.low1, Hro.out.width0, Hro.out.width1, Hro.out.sum⟩, Hcm, Hrl, Hc, Ht, Hcn, Htn⟩
              · have hv0' : (verb == 0) = false := by simpa using hv0
                by_cases hv1 : verb = 1
                · subst hv1
                  go_wp2_with fail
                  clear d0 d1 d2 d3 hmb hm
                  generalize wr.alloc (.cells #[.int .i64 1, .int .i64 kk, .int .i64 nn, .int .i64 bb] 37) = W3 at o3 b3 B3 ⊢
                  generalize wr.heap.size = D at o3 ⊢
                  have Hlv : Hid (s.live (10 + 32 * (j : Int) + (m : Int))) := Lib.hid (Hl.out.less (by omega))
                  have Hrv : Hid (r.ok (10 + 32 * (j : Int) + (m : Int))) := Lib.hid ⟨Hro.out.bytes, by have := Hro.out.len; omega, Hro.out.low0, Hro.out.low1, Hro.out.width0, Hro.out.width1, Hro.out.sum⟩
                  refine (even_live p s nn m (by omega) hnn.1 hnn.2 (10 + 32 * (j : Int)) (by omega) B _ W3 B3 Hlv.out (o3.foc (Wr p s))).mono ?_
                  rintro e w5 ⟨rfl, o5, b5⟩
                  have b5 := b3.trans b5
                  have B5 := Nat.le_trans hB b5.size
                  clear b3 o3
                  obtain ⟨sE, hsE⟩ : ∃ x, evenS s (bitsOf nn m) = x := ⟨_, rfl⟩
                  rw [hsE] at o5
                  have HsE : Hid (sE = evenS s (bitsOf nn m)) := Lib.hid hsE.symm
                  clear hsE
                  go_wp2
                  go_loopg [14] m (fun k x14 wr => k ≤ m ∧ x14 = .int .i64 ((k : Int) - 1) ∧ ∃ (s2 : WS) (r2 : RW) (v2 : Value), Own B (Wr p sE * (Bk D 37 #[.int .i64 1, .int .i64 kk, .int .i64 nn, .int .i64 bb] * (Bk g1 27 (chV cl) * (Bk g2 27 (chV tl) * (Bk X 45 #[v2, .int .i64 r2.low, .int .i64 r2.width] * (Rw 5 1 v2 r2.out.length (bytesV r2.out) * (Bk a1 47 (chA cl) * (Bk a2 48 (chA tl) * Emp)))))))) wr ∧ Below B w wr ∧
                    Hid (s2.live (10 + 32 * (j : Int) + (k : Int))) ∧ Hid (r2.ok (10 + 32 * (j : Int) + (k : Int))) ∧ Hid s2.calm ∧ Hid (Rel s2 r2) ∧ Hid (sE = evenS s2 (bitsOf nn k)))
                  case atStart => exact ⟨Nat.le_refl _, rfl, s, r, v, o5, b5, Hlv, Hrv, Hcm, Hrl, HsE⟩
                  case round =>
                    obtain ⟨hk2, rfl, s2, r2, v2, ho2, hbb2, Hl2, Hro2, Hcm2, Hrl2, HE2⟩ := hrel
                    have Bw2 : B ≤ wr.heap.size := Nat.le_trans hB hbb2.size
                    by_cases hk3 : gk = 0
                    · subst hk3
                      go_wp2
                      go_roundg j
                      case measure => omega
                      case rel =>
                        have hE : s2 = sE := HE2.out.symm
                        refine ⟨by omega, congrArg (Value.int .i64) (by have := Hi.out; omega), sE, r2, v2, cl, tl, (ho2.foc (Bk D 37 #[.int .i64 1, .int .i64 kk, .int .i64 nn, .int .i64 bb])).right, hbb2, Lib.hid (by rw [← hE]; exact Hl2.out.less (by omega)), Lib.hid ⟨Hro2.out.bytes, by have := Hro2.out.len; omega, Hro2.out.low0, Hro2.out.low1, Hro2.out.width0, Hro2.out.width1, Hro2.out.sum⟩, Lib.hid (by rw [← hE]; exact Hcm2.out), Lib.hid (by rw [← hE]; exact Hrl2.out), Hc, Ht, Hcn, Htn⟩
                    · obtain ⟨t, rfl⟩ : ∃ t, gk = t + 1 := ⟨gk - 1, by omega⟩
                      have t0 : (0 : Int) ≤ (t : Int) := by omega
                      have t1 : (t : Int) ≤ 31 := by omega
                      have e1 : ((t + 1 : Nat) : Int) - 1 = (t : Int) := by omega
                      rw [e1]
                      clear e1
                      obtain ⟨A2, c2', rfl⟩ := (ho2.foc (Rw 5 1 v2 r2.out.length (bytesV r2.out))).row_n
                      have Hlv2 : Hid (s2.live (10 + 32 * (j : Int) + (t : Int) + 1)) := Lib.hid (Hl2.out.less (by omega))
                      have Hrv2 : Hid (r2.ok (10 + 32 * (j : Int) + (t : Int) + 1)) := Lib.hid ⟨Hro2.out.bytes, by have := Hro2.out.len; omega, Hro2.out.low0, Hro2.out.low1, Hro2.out.width0, Hro2.out.width1, Hro2.out.sum⟩
                      have hb0 : 65536 ≤ s2.width / 2 := by have := Hl2.out.wide; omega
                      have hb1 : s2.width / 2 + 65536 ≤ s2.width := by have := Hl2.out.wide; omega
                      have Hbd : Hid (65536 ≤ s2.width / 2 ∧ s2.width / 2 + 65536 ≤ s2.width) := Lib.hid ⟨hb0, hb1⟩
                      clear hb0 hb1
                      have Hput := Lib.hid (put_rel (bitOf nn t) Hlv2.out Hcm2.out Hrl2.out Hbd.out.1 Hbd.out.2)
                      have hrb := fun (R1 : HP) [Loc B R1] (w6 : World) h1 h2 => refeven_any (.slice A2 r2.out.length c2') r2 (bitOf nn t) (10 + 32 * (j : Int) + (t : Int)) (by omega) Hrv2.out (by rw [Hrl2.out.width]; exact Hl2.out.wide) B R1 w6 h1 h2
                      have hrk := rput_ok (r := r2) (bound := s2.width / 2) (bitOf nn t) Hrv2.out Hbd.out.1 (by rw [Hrl2.out.width]; exact Hbd.out.2)
                      have Hrk := Lib.hid hrk
                      rw [Hrl2.out.width] at hrb
                      have Hrb := Lib.hid hrb
                      clear hrk hrb
                      have hbt : bits .and .i64 (nn / 2 ^ t) 1 = bitOf nn t := i64_and_one _
                      go_wp2
                      refine wp_region_mix (St B _ wr) [0, 1, 2, 3, 4, 5] [6, 7] mixed (by kernel_rfl) rfl (St.drew Bw2 ho2) ?_
                      simp only [List.filterMap_cons, List.filterMap_nil, List.getElem?_toArray, List.getElem?_cons_succ, List.getElem?_cons_zero]
                      repeat (first
                        | (refine held_val ?_ rfl (fun w1 hS => ?_) ?_
                           rotate_left
                           · (have c2 : w1.cell? ⟨D, 2, none⟩ = some (.int .i64 nn) := hS.2.1.cellOf D 2; have x0 : w1.cell? ⟨X, 0, none⟩ = some (.slice A2 r2.out.length c2') := hS.2.1.cellOf X 0; have x1 : w1.cell? ⟨X, 1, none⟩ = some (.int .i64 r2.low) := hS.2.1.cellOf X 1; have x2 : w1.cell? ⟨X, 2, none⟩ = some (.int .i64 r2.width) := hS.2.1.cellOf X 2
                              go_simp
                              try go_bits
                              rfl)
                           simp only [Act.put, List.setIfInBounds_toArray, List.set_cons_zero, List.set_cons_succ])
                        | (refine held_off rfl ?_
                           simp only [Act.put, List.setIfInBounds_toArray, List.set_cons_zero, List.set_cons_succ]))
                      refine held_nil (fun w6 hS => ?_)
                      obtain ⟨k2, k3, k4⟩ := hS
                      go_wp2_with fail
                      refine (Hrb.out _ w6 k2 (k3.foc (Rw 5 1 (.slice A2 r2.out.length c2') r2.out.length (bytesV r2.out)))).mono ?_
                      rintro e w7 ⟨v7, rfl, o7, b7⟩
                      have B7 := Nat.le_trans k2 b7.size
                      have b7 := (hbb2.trans k4).trans b7
                      clear hbb2 k3 k4 ho2 Hrb
                      obtain ⟨A7, c7, rfl⟩ := o7.row_n
                      generalize rput r2 (s2.width / 2) (bitOf nn t) = r7 at o7 Hput Hrk ⊢
                      simp only [refV]
                      have x0 : w7.cell? ⟨X, 0, none⟩ = some (.slice A2 r2.out.length c2') := o7.cellOf X 0
                      have x1 : w7.cell? ⟨X, 1, none⟩ = some (.int .i64 r2.low) := o7.cellOf X 1
                      have x2 : w7.cell? ⟨X, 2, none⟩ = some (.int .i64 r2.width) := o7.cellOf X 2
                      have z0 := o7.freeOf X 0
                      have z1 := o7.freeOf X 1
                      have z2 := o7.freeOf X 2
                      have q0 := o7.setOf B7 X 0 (.slice A7 r7.out.length c7)
                      have q1 := q0.1.setOf (by simpa [World.setCell] using B7) X 1 (.int .i64 r7.low)
                      have q2 := q1.1.setOf (by simpa [World.setCell] using B7) X 2 (.int .i64 r7.width)
                      go_wp2
                      go_roundg t
                      case measure => omega
                      case rel =>
                        refine ⟨by omega, rfl, putS s2 (s2.width / 2) (bitOf nn t), r7, .slice A7 r7.out.length c7, q2.1.cast ?_, ((b7.trans q0.2).trans q1.2).trans q2.2, Lib.hid (putS_live _ (by omega) Hlv2.out Hbd.out.1 Hbd.out.2), Lib.hid Hrk.out.1, Lib.hid Hput.out.2, Lib.hid Hput.out.1, Lib.hid (by rw [HE2.out, bitsOf_succ]; rfl)⟩
                        show Rw _ _ _ _ _ * (Wr p sE * (Bk D _ _ * (Bk g1 _ _ * (Bk g2 _ _ * (Bk X _ #[.slice A7 r7.out.length c7, .int .i64 r7.low, .int .i64 r7.width] * (Bk a1 _ _ * (Bk a2 _ _ * Emp))))))) = _
                        ac_rfl
                · have hv1' : (verb == 1) = false := by simpa using hv1
                  by_cases hv2 : verb = 2
                  · subst hv2
                    obtain ⟨m2, hm2⟩ : ∃ m2 : Nat, (if (4 : Int) < (m : Int) then (4 : Int) else (m : Int)) = (m2 : Int) := ⟨(if (4 : Int) < (m : Int) then (4 : Int) else (m : Int)).toNat, by split <;> omega⟩
                    have m4 : (m2 : Int) ≤ 4 := by rw [← hm2]; split <;> omega
                    go_wp2_with fail
                    clear d0 d1 d2 d3 hmb hm hm2
                    generalize wr.alloc (.cells #[.int .i64 2, .int .i64 kk, .int .i64 nn, .int .i64 bb] 37) = W3 at o3 b3 B3 ⊢
                    generalize wr.heap.size = D at o3 ⊢
                    have Hlv : Hid (s.live (10 + 32 * (j : Int) + (m2 : Int))) := Lib.hid (Hl.out.less (by omega))
                    have Hrv : Hid (r.ok (10 + 32 * (j : Int) + (m2 : Int))) := Lib.hid ⟨Hro.out.bytes, by have := Hro.out.len; omega, Hro.out.low0, Hro.out.low1, Hro.out.width0, Hro.out.width1, Hro.out.sum⟩
                    have h16 : 2 ^ m2 ≤ tl.length := by
                      rw [Htn.out]
                      exact Nat.le_trans (Nat.pow_le_pow_right (by omega) (show m2 ≤ 4 by omega)) (by decide)
                    have ht := tree_live p g2 s tl nn m2 (by omega) h16 (by rw [Htn.out]; omega) hnn.1 hnn.2 (10 + 32 * (j : Int)) (by omega) B _ W3 B3 Hlv.out Ht.out ((o3.foc (Bk g2 27 (chV tl))).foc (Wr p s)) 16
                    rw [Htn.out] at ht
                    refine ht.mono ?_
                    clear ht h16
                    rintro e w5 ⟨rfl, o5, b5⟩
                    have b5 := b3.trans b5
                    have B5 := Nat.le_trans hB b5.size
                    clear b3 o3
                    obtain ⟨st, hst⟩ : ∃ x, treeS s tl 1 (bitsOf nn m2) = x := ⟨_, rfl⟩
                    rw [hst] at o5
                    obtain ⟨sE, tE⟩ := st
                    simp only at o5
                    have HsE : Hid (treeS s tl 1 (bitsOf nn m2) = (sE, tE)) := Lib.hid hst
                    clear hst
                    go_wp2
                    go_loopg [15, 16] m2 (fun k x15 x16 wr => ∃ (a : Nat) (s2 : WS) (r2 : RW) (v2 : Value) (cl2 : List Int), k ≤ m2 ∧ x15 = .int .i64 (a : Int) ∧ x16 = .int .i64 ((k : Int) - 1) ∧ Own B (Wr p sE * (Bk g2 27 (chV tE) * (Bk D 37 #[.int .i64 2, .int .i64 kk, .int .i64 nn, .int .i64 bb] * (Bk g1 27 (chV cl) * (Bk X 45 #[v2, .int .i64 r2.low, .int .i64 r2.width] * (Rw 5 1 v2 r2.out.length (bytesV r2.out) * (Bk a1 47 (chA cl) * (Bk a2 48 (chA cl2) * Emp)))))))) wr ∧ Below B w wr ∧
                      Hid (s2.live (10 + 32 * (j : Int) + (k : Int))) ∧ Hid (r2.ok (10 + 32 * (j : Int) + (k : Int))) ∧ Hid s2.calm ∧ Hid (Rel s2 r2) ∧ Hid (chOk cl2) ∧ Hid (cl2.length = 16) ∧ Hid (a < 2 ^ (m2 - k + 1)) ∧ Hid (treeS s2 cl2 a (bitsOf nn k) = (sE, tE)))
                    case atStart => exact ⟨1, s, r, v, tl, Nat.le_refl _, rfl, rfl, o5, b5, Hlv, Hrv, Hcm, Hrl, Ht, Htn, Lib.hid (by rw [Nat.sub_self]; decide), HsE⟩
                    case round =>
                      obtain ⟨a, s2, r2, v2, cl2, hk2, rfl, rfl, ho2, hbb2, Hl2, Hro2, Hcm2, Hrl2, Hc2, Hn2, Ha2, HE2⟩ := hrel
                      have Bw2 : B ≤ wr.heap.size := Nat.le_trans hB hbb2.size
                      by_cases hk3 : gk = 0
                      · subst hk3
                        go_wp2
                        go_roundg j
                        case measure => omega
                        case rel =>
                          have hE : (s2, cl2) = (sE, tE) := HE2.out
                          have hE1 : s2 = sE := congrArg Prod.fst hE
                          have hE2 : cl2 = tE := congrArg Prod.snd hE
                          refine ⟨by omega, congrArg (Value.int .i64) (by have := Hi.out; omega), sE, r2, v2, cl, tE, ((ho2.foc (Bk D 37 #[.int .i64 2, .int .i64 kk, .int .i64 nn, .int .i64 bb])).right.cast ?_), hbb2, Lib.hid (by rw [← hE1]; exact Hl2.out.less (by omega)), Lib.hid ⟨Hro2.out.bytes, by have := Hro2.out.len; omega, Hro2.out.low0, Hro2.out.low1, Hro2.out.width0, Hro2.out.width1, Hro2.out.sum⟩, Lib.hid (by rw [← hE1]; exact Hcm2.out), Lib.hid (by rw [← hE1]; exact Hrl2.out), Hc, Lib.hid (by rw [← hE2]; exact Hc2.out), Hcn, Lib.hid (by rw [← hE2]; exact Hn2.out)⟩
                          rw [hE2]
                          ac_rfl
                      · obtain ⟨t, rfl⟩ : ∃ t, gk = t + 1 := ⟨gk - 1, by omega⟩
                        have t0 : (0 : Int) ≤ (t : Int) := by omega
                        have t1 : (t : Int) ≤ 31 := by omega
                        have e1 : ((t + 1 : Nat) : Int) - 1 = (t : Int) := by omega
                        rw [e1]
                        clear e1
                        have a16 : a < 16 := by
                          have h1 := Ha2.out
                          have h2 : 2 ^ (m2 - (t + 1) + 1) ≤ 2 ^ 4 := Nat.pow_le_pow_right (by omega) (by omega)
                          omega
                        have a0 : (0 : Int) ≤ (a : Int) := by omega
                        have a1' : (a : Int) < 16 := by omega
                        obtain ⟨A2, c2', rfl⟩ := (ho2.foc (Rw 5 1 v2 r2.out.length (bytesV r2.out))).row_n
                        obtain ⟨n0, hn0⟩ : ∃ x, cl2.getD a 0 = x := ⟨_, rfl⟩
                        have hx := chOk_get Hc2.out a
                        rw [hn0] at hx
                        obtain ⟨hx0, hx1⟩ := hx
                        have Hlv2 : Hid (s2.live (10 + 32 * (j : Int) + (t : Int) + 1)) := Lib.hid (Hl2.out.less (by omega))
                        have Hrv2 : Hid (r2.ok (10 + 32 * (j : Int) + (t : Int) + 1)) := Lib.hid ⟨Hro2.out.bytes, by have := Hro2.out.len; omega, Hro2.out.low0, Hro2.out.low1, Hro2.out.width0, Hro2.out.width1, Hro2.out.sum⟩
                        have Hbd := Lib.hid (bitBound_in Hl2.out (n := n0) ⟨hx0, hx1⟩)
                        have Hput := Lib.hid (put_rel (bitOf nn t) Hlv2.out Hcm2.out Hrl2.out Hbd.out.1 Hbd.out.2)
                        have Hrb : Hid (r2.width / 2048 * (n0 + 1024) = bitBound s2 n0) := Lib.hid (by rw [Hrl2.out.width]; rfl)
                        have Hca : Hid ((chA cl2)[a]? = some (.int .i64 (n0 + 1024))) := Lib.hid (by rw [chA_get cl2 a (by rw [Hn2.out]; omega), hn0])
                        have Hn0 := Lib.hid hn0
                        clear hn0
                        have hbt : bits .and .i64 (nn / 2 ^ t) 1 = bitOf nn t := i64_and_one _
                        have hb01 := bitOf_01 nn t
                        obtain ⟨bi, hbi⟩ : ∃ x, bitOf nn t = x := ⟨_, rfl⟩
                        rw [hbi] at hbt hb01 Hput
                        have Hbi := Lib.hid hbi
                        clear hbi
                        have c2 : wr.cell? ⟨D, 2, none⟩ = some (.int .i64 nn) := ho2.cellOf D 2
                        go_wp2
                        clear c2
                        refine wp_region_mix (St B _ wr) [0, 1, 2, 3, 4] [5, 6] mixed (by kernel_rfl) rfl (St.drew Bw2 ho2) ?_
                        simp only [List.filterMap_cons, List.filterMap_nil, List.getElem?_toArray, List.getElem?_cons_succ, List.getElem?_cons_zero]
                        repeat (first
                          | (refine held_val ?_ rfl (fun w1 hS => ?_) ?_
                             rotate_left
                             · (have y0 : w1.cell? ⟨a2, a, none⟩ = some (.int .i64 (n0 + 1024)) := (hS.2.1.cellOf a2 a).trans Hca.out; have x0 : w1.cell? ⟨X, 0, none⟩ = some (.slice A2 r2.out.length c2') := hS.2.1.cellOf X 0; have x1 : w1.cell? ⟨X, 1, none⟩ = some (.int .i64 r2.low) := hS.2.1.cellOf X 1; have x2 : w1.cell? ⟨X, 2, none⟩ = some (.int .i64 r2.width) := hS.2.1.cellOf X 2
                                go_simp
                                try go_bits
                                rfl)
                             simp only [Act.put, List.setIfInBounds_toArray, List.set_cons_zero, List.set_cons_succ])
                          | (refine held_off rfl ?_
                             simp only [Act.put, List.setIfInBounds_toArray, List.set_cons_zero, List.set_cons_succ]))
                        refine held_nil (fun w6 hS => ?_)
                        obtain ⟨k2, k3, k4⟩ := hS
                        have hrb := refbit_any (.slice A2 r2.out.length c2') r2 (n0 + 1024) bi (10 + 32 * (j : Int) + (t : Int)) (by omega) Hrv2.out (by rw [Hrb.out]; exact Hbd.out.1) (by rw [Hrb.out, Hrl2.out.width]; exact Hbd.out.2) B _ w6 k2 (k3.foc (Rw 5 1 (.slice A2 r2.out.length c2') r2.out.length (bytesV r2.out)))
                        rw [Hrb.out] at hrb
                        have Hrok := Lib.hid (rput_ok (r := r2) (bound := bitBound s2 n0) bi Hrv2.out Hbd.out.1 (by rw [Hrl2.out.width]; exact Hbd.out.2))
                        generalize rput r2 (bitBound s2 n0) bi = r7 at hrb Hput Hrok
                        go_wp2_with fail
                        refine hrb.mono ?_
                        rintro e w7 ⟨v7, rfl, o7, b7⟩
                        clear hrb
                        have B7 := Nat.le_trans k2 b7.size
                        have b7 := (hbb2.trans k4).trans b7
                        clear hbb2 k3 k4 ho2
                        obtain ⟨A7, c7, rfl⟩ := o7.row_n
                        simp only [refV]
                        have x0 : w7.cell? ⟨X, 0, none⟩ = some (.slice A2 r2.out.length c2') := o7.cellOf X 0
                        have x1 : w7.cell? ⟨X, 1, none⟩ = some (.int .i64 r2.low) := o7.cellOf X 1
                        have x2 : w7.cell? ⟨X, 2, none⟩ = some (.int .i64 r2.width) := o7.cellOf X 2
                        have z0 := o7.freeOf X 0
                        have z1 := o7.freeOf X 1
                        have z2 := o7.freeOf X 2
                        have q0 := o7.setOf B7 X 0 (.slice A7 r7.out.length c7)
                        have q1 := q0.1.setOf (by simpa [World.setCell] using B7) X 1 (.int .i64 r7.low)
                        have q2 := q1.1.setOf (by simpa [World.setCell] using B7) X 2 (.int .i64 r7.width)
                        have y0 : (((w7.setCell ⟨X, 0, none⟩ (.slice A7 r7.out.length c7)).setCell ⟨X, 1, none⟩ (.int .i64 r7.low)).setCell ⟨X, 2, none⟩ (.int .i64 r7.width)).cell? ⟨a2, a, none⟩ = some (.int .i64 (n0 + 1024)) := (q2.1.cellOf a2 a).trans Hca.out
                        go_wp2_with fail
                        clear x0 x1 x2 z0 z1 z2 y0
                        have o8 := q2.1
                        have b8 := ((b7.trans q0.2).trans q1.2).trans q2.2
                        clear q0 q1 q2 o7 b7
                        generalize ((w7.setCell ⟨X, 0, none⟩ (.slice A7 r7.out.length c7)).setCell ⟨X, 1, none⟩ (.int .i64 r7.low)).setCell ⟨X, 2, none⟩ (.int .i64 r7.width) = w8 at o8 b8 ⊢
                        have B8 := Nat.le_trans hB b8.size
                        refine (sawref_any n0 bi hx0 hx1 w8).mono ?_
                        rintro e w9 ⟨rfl, rfl⟩
                        have y0 : w8.cell? ⟨a2, a, none⟩ = some (.int .i64 (n0 + 1024)) := (o8.cellOf a2 a).trans Hca.out
                        have z0 := o8.freeOf a2 a
                        have q0 := o8.setOf B8 a2 a (.int .i64 (sawN n0 bi + 1024))
                        rw [chA_set] at q0
                        go_wp2
                        go_roundg t
                        case measure => omega
                        case rel =>
                          refine ⟨2 * a + bi.toNat, putS s2 (bitBound s2 n0) bi, r7, .slice A7 r7.out.length c7, cl2.set a (sawN n0 bi), by omega, congrArg (Value.int .i64) (by omega), rfl, q0.1.cast ?_, b8.trans q0.2, Lib.hid (putS_live _ (by omega) Hlv2.out Hbd.out.1 Hbd.out.2), Lib.hid Hrok.out.1, Lib.hid Hput.out.2, Lib.hid Hput.out.1, Lib.hid (chOk_set Hc2.out a _ (sawN_ok _ _ ⟨hx0, hx1⟩)), Lib.hid (by rw [List.length_set]; exact Hn2.out), Lib.hid ?_, Lib.hid ?_⟩
                          · show Rw _ _ _ _ _ * (Wr p sE * (Bk g2 _ _ * (Bk D _ _ * (Bk g1 _ _ * (Bk X _ #[.slice A7 r7.out.length c7, .int .i64 r7.low, .int .i64 r7.width] * (Bk a1 _ _ * (Bk a2 _ _ * Emp))))))) = _
                            ac_rfl
                          · have h1 := Ha2.out
                            rw [show m2 - (t + 1) + 1 = m2 - t by omega] at h1
                            rw [show m2 - t + 1 = (m2 - t) + 1 from rfl, Nat.pow_succ]
                            omega
                          · have h1 := HE2.out
                            rw [bitsOf_succ, Hbi.out] at h1
                            have h2 : treeS s2 cl2 a (bi :: bitsOf nn t) = treeS (putS s2 (bitBound s2 (cl2.getD a 0)) bi) (cl2.set a (sawN (cl2.getD a 0) bi)) (2 * a + bi.toNat) (bitsOf nn t) := rfl
                            rw [h2, Hn0.out] at h1
                            exact h1
                  · have hv2' : (verb == 2) = false := by simpa using hv2
                    go_wp2
                    go_roundg j
                    case measure => omega
                    case rel =>
                      refine ⟨by omega, congrArg (Value.int .i64) (by have := Hi.out; omega), s, r, v, cl, tl, o3.right, b3, Lib.hid (Hl.out.less (by omega)), Lib.hid ⟨Hro.out.bytes, by have := Hro.out.len; omega, Hro.out.low0, Hro.out.low1, Hro.out.width0, Hro.out.width1, Hro.out.sum⟩, Hcm, Hrl, Hc, Ht, Hcn, Htn⟩
            · obtain rfl : gk = 0 := by omega
              go_wp2
              clear hk0 hk
              go_loopg [165] 8 (fun k i wr => k ≤ 8 ∧ i = .int .i64 (8 - (k : Int)) ∧ Own B (Wr p s * (Bk g1 27 (chV cl) * (Bk g2 27 (chV tl) * (Bk X 45 #[v, .int .i64 r.low, .int .i64 r.width] * (Rw 5 1 v r.out.length (bytesV r.out) * (Bk a1 47 (chA cl) * (Bk a2 48 (chA tl) * Emp))))))) wr ∧ Below B w wr)
              case atStart => exact ⟨Nat.le_refl _, rfl, ho, hbb⟩
              case round =>
                obtain ⟨hk, rfl, ho, hbb⟩ := hrel
                have Bw : B ≤ wr.heap.size := Nat.le_trans hB hbb.size
                by_cases hk0 : gk ≠ 0
                · obtain ⟨j, rfl⟩ : ∃ j, gk = j + 1 := ⟨gk - 1, by omega⟩
                  obtain ⟨i, hi⟩ : ∃ i : Nat, i = 8 - (j + 1) := ⟨_, rfl⟩
                  have e1 : 8 - ((j + 1 : Nat) : Int) = (i : Int) := by omega
                  have i0 : (0 : Int) ≤ (i : Int) := by omega
                  have i1 : (i : Int) < 8 := by omega
                  rw [e1]
                  clear e1
                  have Hi := Lib.hid hi
                  clear hi
                  obtain ⟨n0, hn0⟩ : ∃ x, cl.getD i 0 = x := ⟨_, rfl⟩
                  have hx := chOk_get Hc.out i
                  rw [hn0] at hx
                  obtain ⟨hx0, hx1⟩ := hx
                  have Hca : Hid ((chA cl)[i]? = some (.int .i64 (n0 + 1024))) := Lib.hid (by rw [chA_get cl i (by rw [Hcn.out]; omega), hn0])
                  have Hcv : Hid ((chV cl)[i]? = some (.int .i64 n0)) := Lib.hid (by rw [chV_get cl i (by rw [Hcn.out]; omega), hn0])
                  clear hn0
                  go_wp2
                  refine wp_region_mix (St B _ wr) [0, 1, 2, 3, 4, 5, 6, 7] [8] mixed (by kernel_rfl) rfl (St.drew Bw ho) ?_
                  simp only [List.filterMap_cons, List.filterMap_nil, List.getElem?_toArray, List.getElem?_cons_succ, List.getElem?_cons_zero]
                  repeat (first
                    | (refine held_val ?_ rfl (fun w1 hS => ?_) ?_
                       rotate_left
                       · (have y0 : w1.cell? ⟨g1, i, none⟩ = some (.int .i64 n0) := (hS.2.1.cellOf g1 i).trans Hcv.out
                          go_simp
                          try go_bits
                          rfl)
                       simp only [Act.put, List.setIfInBounds_toArray, List.set_cons_zero, List.set_cons_succ])
                    | (refine held_off rfl ?_
                       simp only [Act.put, List.setIfInBounds_toArray, List.set_cons_zero, List.set_cons_succ]))
                  refine held_call 12 #[.agg #[.int .i64 n0]] (.int .i64 (n0 + 1024)) rfl (fun w1 hS => by go_simp) (fun w1 hS => (of_any n0 _ (by omega) (by omega)).mono ?_) ?_
                  · rintro e w2 ⟨rfl, hb⟩
                    exact ⟨rfl, hS.grown hb⟩
                  simp only [Act.put, List.setIfInBounds_toArray, List.set_cons_zero, List.set_cons_succ]
                  repeat (first
                    | (refine held_val ?_ rfl (fun w1 hS => ?_) ?_
                       rotate_left
                       · (have y0 : w1.cell? ⟨a1, i, none⟩ = some (.int .i64 (n0 + 1024)) := (hS.2.1.cellOf a1 i).trans Hca.out
                          go_simp
                          try go_bits
                          rfl)
                       simp only [Act.put, List.setIfInBounds_toArray, List.set_cons_zero, List.set_cons_succ])
                    | (refine held_off rfl ?_
                       simp only [Act.put, List.setIfInBounds_toArray, List.set_cons_zero, List.set_cons_succ]))
                  refine held_nil (fun w6 hS => ?_)
                  obtain ⟨k2, k3, k4⟩ := hS
                  go_wp2
                  go_roundg j
                  case measure => omega
                  case rel => exact ⟨by omega, congrArg (Value.int .i64) (by have := Hi.out; omega), k3, hbb.trans k4⟩
                · obtain rfl : gk = 0 := by omega
                  go_wp2
                  clear hk0 hk
                  go_loopg [178] 16 (fun k i wr => k ≤ 16 ∧ i = .int .i64 (16 - (k : Int)) ∧ Own B (Wr p s * (Bk g1 27 (chV cl) * (Bk g2 27 (chV tl) * (Bk X 45 #[v, .int .i64 r.low, .int .i64 r.width] * (Rw 5 1 v r.out.length (bytesV r.out) * (Bk a1 47 (chA cl) * (Bk a2 48 (chA tl) * Emp))))))) wr ∧ Below B w wr)
                  case atStart => exact ⟨Nat.le_refl _, rfl, ho, hbb⟩
                  case round =>
                    obtain ⟨hk, rfl, ho, hbb⟩ := hrel
                    have Bw : B ≤ wr.heap.size := Nat.le_trans hB hbb.size
                    by_cases hk0 : gk ≠ 0
                    · obtain ⟨j, rfl⟩ : ∃ j, gk = j + 1 := ⟨gk - 1, by omega⟩
                      obtain ⟨i, hi⟩ : ∃ i : Nat, i = 16 - (j + 1) := ⟨_, rfl⟩
                      have e1 : 16 - ((j + 1 : Nat) : Int) = (i : Int) := by omega
                      have i0 : (0 : Int) ≤ (i : Int) := by omega
                      have i1 : (i : Int) < 16 := by omega
                      rw [e1]
                      clear e1
                      have Hi := Lib.hid hi
                      clear hi
                      obtain ⟨n0, hn0⟩ : ∃ x, tl.getD i 0 = x := ⟨_, rfl⟩
                      have hx := chOk_get Ht.out i
                      rw [hn0] at hx
                      obtain ⟨hx0, hx1⟩ := hx
                      have Hca : Hid ((chA tl)[i]? = some (.int .i64 (n0 + 1024))) := Lib.hid (by rw [chA_get tl i (by rw [Htn.out]; omega), hn0])
                      have Hcv : Hid ((chV tl)[i]? = some (.int .i64 n0)) := Lib.hid (by rw [chV_get tl i (by rw [Htn.out]; omega), hn0])
                      clear hn0
                      go_wp2
                      refine wp_region_mix (St B _ wr) [0, 1, 2, 3, 4, 5, 6, 7] [8] mixed (by kernel_rfl) rfl (St.drew Bw ho) ?_
                      simp only [List.filterMap_cons, List.filterMap_nil, List.getElem?_toArray, List.getElem?_cons_succ, List.getElem?_cons_zero]
                      repeat (first
                        | (refine held_val ?_ rfl (fun w1 hS => ?_) ?_
                           rotate_left
                           · (have y0 : w1.cell? ⟨g2, i, none⟩ = some (.int .i64 n0) := (hS.2.1.cellOf g2 i).trans Hcv.out
                              go_simp
                              try go_bits
                              rfl)
                           simp only [Act.put, List.setIfInBounds_toArray, List.set_cons_zero, List.set_cons_succ])
                        | (refine held_off rfl ?_
                           simp only [Act.put, List.setIfInBounds_toArray, List.set_cons_zero, List.set_cons_succ]))
                      refine held_call 12 #[.agg #[.int .i64 n0]] (.int .i64 (n0 + 1024)) rfl (fun w1 hS => by go_simp) (fun w1 hS => (of_any n0 _ (by omega) (by omega)).mono ?_) ?_
                      · rintro e w2 ⟨rfl, hb⟩
                        exact ⟨rfl, hS.grown hb⟩
                      simp only [Act.put, List.setIfInBounds_toArray, List.set_cons_zero, List.set_cons_succ]
                      repeat (first
                        | (refine held_val ?_ rfl (fun w1 hS => ?_) ?_
                           rotate_left
                           · (have y0 : w1.cell? ⟨a2, i, none⟩ = some (.int .i64 (n0 + 1024)) := (hS.2.1.cellOf a2 i).trans Hca.out
                              go_simp
                              try go_bits
                              rfl)
                           simp only [Act.put, List.setIfInBounds_toArray, List.set_cons_zero, List.set_cons_succ])
                        | (refine held_off rfl ?_
                           simp only [Act.put, List.setIfInBounds_toArray, List.set_cons_zero, List.set_cons_succ]))
                      refine held_nil (fun w6 hS => ?_)
                      obtain ⟨k2, k3, k4⟩ := hS
                      go_wp2
                      go_roundg j
                      case measure => omega
                      case rel => exact ⟨by omega, congrArg (Value.int .i64) (by have := Hi.out; omega), k3, hbb.trans k4⟩
                    · obtain rfl : gk = 0 := by omega
                      go_wp2
                      clear hk0 hk
                      have He : Hid ((endS s).out = rend r) := Lib.hid (end_rel Hl.out (by omega) Hcm.out Hrl.out)
                      generalize hst : strOfNums (rend r) = st
                      have Hst := Lib.hid hst
                      clear hst
                      refine wp_region_cross (B := B) [0] [1, 2] [3, 4, 5] [6, 7, 8, 9, 10] (Wr p s) (Bk X 45 #[v, .int .i64 r.low, .int .i64 r.width] * Rw 5 1 v r.out.length (bytesV r.out)) (Bk g1 27 (chV cl) * (Bk g2 27 (chV tl) * (Bk a1 47 (chA cl) * (Bk a2 48 (chA tl) * Emp)))) mixed (by kernel_rfl) rfl (fun _ _ _ _ _ h => h) Bw ((ho.cast (by ac_rfl)).drew Bw) ?_
                      simp only [List.filterMap_cons, List.filterMap_nil, List.getElem?_toArray, List.getElem?_cons_succ, List.getElem?_cons_zero]
                      repeat (
                        refine free_val ?_ rfl (fun w1 => ?_) ?_
                        rotate_left
                        · (go_simp
                           try go_bits
                           rfl)
                        simp only [Act.put, List.setIfInBounds_toArray, List.set_cons_zero, List.set_cons_succ])
                      refine free_nil ?_
                      refine ⟨fun vs A' => ∃ v1, vs = [v1, .string st] ∧ A' = (Rw 5 1 v1 (endS s).out.length (bytesV (endS s).out) * Wr p (endS s)), fun vs A' => ∃ v1, vs = [.agg #[v, .int .i64 r.low, .int .i64 r.width], v1, .string st] ∧ A' = (Rw 5 1 v1 (rend r).length (bytesV (rend r)) * Bk X 45 #[v, .int .i64 r.low, .int .i64 r.width]), ?_, ?_, ?_⟩
                      · simp only [opsOf, List.filterMap_cons, List.filterMap_nil, List.getElem?_toArray, List.getElem?_cons_succ, List.getElem?_cons_zero]
                        refine tw_call 16 #[.pointer (some ⟨p, 0, none⟩)] (fun v1 A' => A' = (Rw 5 1 v1 (endS s).out.length (bytesV (endS s).out) * Wr p (endS s))) rfl (fun R1 _ w1 hS => by go_simp) (fun R1 _ w1 hB1 hS => (end_live p s B R1 w1 hB1 ⟨Hl.out.ok, by have := Hl.out.room; omega⟩ Hl.out.dn hS).mono ?_) ?_
                        · rintro e w2 ⟨v1, rfl, o5, b5⟩
                          exact ⟨v1, _, rfl, ⟨inferInstance, rfl⟩, o5.assoc', b5⟩
                        · rintro v1 A' _ rfl
                          simp only [Act.put, List.setIfInBounds_toArray, List.set_cons_zero, List.set_cons_succ]
                          refine tw_val ?_ rfl (fun R1 _ w1 hS => ?_) ?_
                          rotate_left
                          · (have hs := str_of_row hS.assoc; rw [He.out, Hst.out] at hs
                             go_simp
                             try go_bits
                             rfl)
                          simp only [Act.put, List.setIfInBounds_toArray, List.set_cons_zero, List.set_cons_succ]
                          exact tw_nil ⟨v1, rfl, rfl⟩
                      · simp only [opsOf, List.filterMap_cons, List.filterMap_nil, List.getElem?_toArray, List.getElem?_cons_succ, List.getElem?_cons_zero]
                        refine tw_val ?_ rfl (fun R1 _ w1 hS => ?_) ?_
                        rotate_left
                        · (have x0 : w1.cell? ⟨X, 0, none⟩ = some v := hS.assoc.cell 0; have x1 : w1.cell? ⟨X, 1, none⟩ = some (.int .i64 r.low) := hS.assoc.cell 1; have x2 : w1.cell? ⟨X, 2, none⟩ = some (.int .i64 r.width) := hS.assoc.cell 2
                           go_simp
                           try go_bits
                           rfl)
                        simp only [Act.put, List.setIfInBounds_toArray, List.set_cons_zero, List.set_cons_succ]
                        refine tw_call 22 #[refV v r] (fun v1 A' => A' = (Rw 5 1 v1 (rend r).length (bytesV (rend r)) * Bk X 45 #[v, .int .i64 r.low, .int .i64 r.width])) rfl (fun R1 _ w1 hS => by go_simp; first | done | rfl) (fun R1 _ w1 hB1 hS => (refend_any v r (10 + 32 * ((0 : Nat) : Int)) (by omega) Hro.out B _ w1 hB1 (hS.cast (show _ = Rw 5 1 v r.out.length (bytesV r.out) * (Bk X 45 #[v, .int .i64 r.low, .int .i64 r.width] * R1) by ac_rfl))).mono ?_) ?_
                        · rintro e w2 ⟨v1, rfl, o5, b5⟩
                          exact ⟨v1, _, rfl, ⟨inferInstance, rfl⟩, o5.assoc', b5⟩
                        · rintro v1 A' _ rfl
                          simp only [Act.put, List.setIfInBounds_toArray, List.set_cons_zero, List.set_cons_succ]
                          refine tw_val ?_ rfl (fun R1 _ w1 hS => ?_) ?_
                          rotate_left
                          · (have hs := str_of_row hS.assoc; rw [Hst.out] at hs
                             go_simp
                             try go_bits
                             rfl)
                          simp only [Act.put, List.setIfInBounds_toArray, List.set_cons_zero, List.set_cons_succ]
                          exact tw_nil ⟨v1, rfl, rfl⟩
                      · rintro vs1 A1' vs2 A2' w4 ⟨v1, rfl, rfl⟩ ⟨v2, rfl, rfl⟩ o4 b4
                        simp only [opsOf, putAll, Act.put, List.filterMap_cons, List.filterMap_nil, List.getElem?_toArray, List.getElem?_cons_succ, List.getElem?_cons_zero, List.setIfInBounds_toArray, List.set_cons_zero, List.set_cons_succ]
                        refine wpAny_mix (St B Emp w4) [6, 7] [8, 9, 10] (by kernel_rfl) rfl ⟨Nat.le_trans Bw b4.size, Own.start B w4, Below.refl B w4⟩ ?_
                        simp only [List.filterMap_cons, List.filterMap_nil, List.getElem?_toArray, List.getElem?_cons_succ, List.getElem?_cons_zero]
                        repeat (first
                          | (refine held_val ?_ rfl (fun w1 hS => ?_) ?_
                             rotate_left
                             · (skip
                                go_simp
                                try go_bits
                                rfl)
                             simp only [Act.put, List.setIfInBounds_toArray, List.set_cons_zero, List.set_cons_succ])
                          | (refine held_off rfl ?_
                             simp only [Act.put, List.setIfInBounds_toArray, List.set_cons_zero, List.set_cons_succ]))
                        refine held_nil (fun w5 hS => ?_)
                        go_wp2_with (go_at_call 10; refine (awake_any _).mono ?_; rintro e w6 ⟨rfl, b6⟩)
                        go_ret
                        exact ⟨rfl, ((hbb.trans b4).trans hS.2.2).trans (b6.mono hS.1)⟩
end Go.Proofs.Ytnoofgcjhoiboaa
