/- The walks over Even, Tree and End of package coder's writer. -/
import Derived.Test.YtnoofgcjhoiboaaCw4
namespace Go.Proofs.Ytnoofgcjhoiboaa
set_option linter.unusedVariables false
set_option linter.unusedSimpArgs false
open Go.RowKit

/-- A writer that goes on, with room for so many more bytes. -/
structure WS.live (s : WS) (room : Int) : Prop where
  ok : s.ok
  dn : s.dn = false
  wide : 16777216 ≤ s.width
  sum : s.low + s.width < 8589934592
  room : (s.out.length : Int) + s.full + room ≤ 1099511627776

theorem WS.live.less {s : WS} {r r' : Int} (h : s.live r) (hr : r' ≤ r) : s.live r' := ⟨h.ok, h.dn, h.wide, h.sum, by have := h.room; omega⟩

theorem shiftS_len (s : WS) (h : 0 ≤ s.full) : ((shiftS s).out.length : Int) + (shiftS s).full ≤ s.out.length + s.full + 1 := by
  unfold shiftS
  split
  · show ((((if s.sm then s.out ++ [(s.wait + carryOf s) % 256] else s.out) ++ List.replicate s.full.toNat ((255 + carryOf s) % 256)).length : Nat) : Int) + 0 ≤ _
    rw [List.length_append, List.length_replicate]
    split <;> simp <;> omega
  · show (s.out.length : Int) + (s.full + 1) ≤ _; omega
theorem shiftS_low (s : WS) : (shiftS s).low = (s.low * 256) % 4294967296 := by unfold shiftS; split <;> rfl
theorem shiftS_dn (s : WS) : (shiftS s).dn = s.dn := by unfold shiftS; split <;> rfl

theorem put1_ok {s : WS} {bound : Int} (bit : Int) {r : Int} (h : s.live (r + 1)) (b0 : 65536 ≤ bound) (b1 : bound + 65536 ≤ s.width) :
    (put1 s bound bit).ok ∧ 65536 ≤ (put1 s bound bit).width ∧ (put1 s bound bit).width < 4294967296 ∧ (put1 s bound bit).low + (put1 s bound bit).width < 8589934592 ∧ (put1 s bound bit).out = s.out ∧ (put1 s bound bit).full = s.full ∧ (put1 s bound bit).dn = s.dn := by
  obtain ⟨⟨l0, l1, w0, w1, t0, t1, f0, sz⟩, dn, hw, hs, hr⟩ := h
  unfold put1
  by_cases h : bit = 0
  · rw [if_pos h]; exact ⟨⟨l0, l1, by show 0 ≤ bound; omega, by show bound < _; omega, t0, t1, f0, sz⟩, b0, by show bound < _; omega, by show s.low + bound < _; omega, rfl, rfl, rfl⟩
  · rw [if_neg h]; exact ⟨⟨by show 0 ≤ s.low + bound; omega, by show s.low + bound < _; omega, by show 0 ≤ s.width - bound; omega, by show s.width - bound < _; omega, t0, t1, f0, sz⟩, by show 65536 ≤ s.width - bound; omega, by show s.width - bound < _; omega, by show s.low + bound + (s.width - bound) < _; omega, rfl, rfl, rfl⟩

theorem shift_live {t : WS} {r : Int} (hr : 0 ≤ r) (ok : t.ok) (dn : t.dn = false) (hw : 16777216 ≤ t.width) (hz : (t.out.length : Int) + t.full + 1 + r ≤ 1099511627776) : (shiftS t).live r := by
  have h1 := shiftS_len t ok.full0
  refine ⟨shiftS_ok ok ok.low1 (by omega), by rw [shiftS_dn]; exact dn, by rw [shiftS_width]; exact hw, ?_, by omega⟩
  rw [shiftS_width, shiftS_low]
  have := ok.width1
  omega

theorem putS_live {s : WS} {bound : Int} (bit : Int) {r : Int} (hr : 0 ≤ r) (h : s.live (r + 1)) (b0 : 65536 ≤ bound) (b1 : bound + 65536 ≤ s.width) : (putS s bound bit).live r := by
  obtain ⟨k0, k1, k2, k3, k4, k5, k6⟩ := put1_ok bit h b0 b1
  have hdn := h.dn
  have hrm := h.room
  unfold putS renorm
  split
  · rename_i hlt
    obtain ⟨l0, l1, w0, w1, t0, t1, f0, sz⟩ := k0
    refine shift_live hr ⟨l0, l1, by show 0 ≤ _ * 256; omega, by show _ * 256 < _; omega, t0, t1, f0, sz⟩ (k6.trans hdn) (by show _ ≤ (put1 s bound bit).width * 256; omega) ?_
    show ((put1 s bound bit).out.length : Int) + (put1 s bound bit).full + 1 + r ≤ _
    rw [k4, k5]; omega
  · exact ⟨k0, k6.trans hdn, by omega, k3, by rw [k4, k5]; omega⟩

theorem i64_and_one (x : Int) : bits .and .i64 x 1 = x % 2 := by
  show IntKind.i64.wrap ((BitVec.ofInt 64 x &&& BitVec.ofInt 64 1).toNat : Int) = _
  rw [BitVec.toNat_and, show (BitVec.ofInt 64 1).toNat = 1 from rfl, Nat.and_one_is_mod, BitVec.toNat_ofInt, IntKind.wrap_i64]
  omega
/-- Bit number k of n. -/
def bitOf (n : Int) (k : Nat) : Int := n / 2 ^ k % 2
/-- The lowest m bits of n, the highest first. -/
def bitsOf (n : Int) (m : Nat) : List Int := (List.range m).reverse.map (bitOf n)
theorem bitsOf_succ (n : Int) (m : Nat) : bitsOf n (m + 1) = bitOf n m :: bitsOf n m := by
  unfold bitsOf; rw [List.range_succ, List.reverse_append]; rfl
def evenS (s : WS) (l : List Int) : WS := l.foldl (fun s b => putS s (s.width / 2) b) s

set_option maxHeartbeats 800000 in
theorem even_live (p : Nat) (s : WS) (n : Int) (m : Nat) (hm : m ≤ 32) (n0 : -9223372036854775808 ≤ n) (n1 : n ≤ 9223372036854775807) (r : Int) (hr : 0 ≤ r) (B : Nat) (R : HP) [Loc B R] (w : World) (hB : B ≤ w.heap.size) (hl : s.live (r + m)) (hO : Own B (Wr p s * R) w) :
    Calls Try.prog 17 #[.pointer (some ⟨p, 0, none⟩), .int .i64 n, .int .i64 (m : Int)] w (Ret B w (.tuple #[]) (Wr p (evenS s (bitsOf n m)) * R)) := by
  obtain ⟨v, hV⟩ := hO.hex
  have hV := hV.assoc
  have c6 : w.cell? ⟨p, 6, none⟩ = some (.bool false) := by rw [hV.cell 6, ← hl.dn]; rfl
  go_enter Try.func17, Try.ntmps17
  go_wp2
  clear c6 hV
  go_loopg [6] m (fun k i wr => ∃ s' : WS, i = .int .i64 ((k : Int) - 1) ∧ k ≤ m ∧ Own B (Wr p s' * R) wr ∧ Below B w wr ∧ s'.live (r + k) ∧ Hid (evenS s (bitsOf n m) = evenS s' (bitsOf n k)))
  case atStart => exact ⟨s, rfl, Nat.le_refl _, hO, Below.refl _ _, hl, rfl⟩
  case round =>
    obtain ⟨s', rfl, hk, ho, hbb, hl', he⟩ := hrel
    have Bw : B ≤ wr.heap.size := Nat.le_trans hB hbb.size
    by_cases hk0 : gk = 0
    · subst hk0
      go_wp2
      go_end0
      rw [he.out]
      exact ⟨rfl, ho, hbb⟩
    · obtain ⟨j, rfl⟩ : ∃ j, gk = j + 1 := ⟨gk - 1, by omega⟩
      have Hl := Lib.hid hl'
      have j0 : (0 : Int) ≤ (j : Int) := by omega
      have j1 : (j : Int) ≤ 31 := by omega
      clear hl hl'
      have e1 : ((j + 1 : Nat) : Int) - 1 = (j : Int) := by omega
      rw [e1]
      obtain ⟨v', hV⟩ := ho.hex
      have hV := hV.assoc
      clear e1
      go_wp2
      refine wp_region_mix (St B (Bk p 66 (wsCells v' s') * (Rw 5 1 v' s'.out.length (bytesV s'.out) * R)) wr) [0, 1, 2, 3, 4, 5, 6, 7, 8, 9] [10] mixed (by kernel_rfl) rfl (St.drew Bw hV) ?_
      simp only [List.filterMap_cons, List.filterMap_nil, List.getElem?_toArray, List.getElem?_cons_succ, List.getElem?_cons_zero]
      have hbit : bits .and .i64 (n / 2 ^ j) 1 = bitOf n j := i64_and_one _
      have w2 : 0 ≤ s'.width := by have := Hl.out.wide; omega
      have w3 : s'.width < 4294967296 := Hl.out.ok.width1
      repeat (first
        | (refine held_val ?_ rfl (fun w1 hS => ?_) ?_
           rotate_left
           · (have c2 : w1.cell? ⟨p, 2, none⟩ = some (.int .u64 s'.width) := hS.2.1.cell 2
              go_simp
              try go_bits
              rfl)
           simp only [Act.put, List.setIfInBounds_toArray, List.set_cons_zero, List.set_cons_succ])
        | (refine held_off rfl ?_
           simp only [Act.put, List.setIfInBounds_toArray, List.set_cons_zero, List.set_cons_succ]))
      refine held_nil (fun w1 hS => ?_)
      obtain ⟨k2, k3, k4⟩ := hS
      have o1 := (k3.assoc').to_hex (A := fun v => WrV p v s') v'
      have Hz : Hid (65536 ≤ s'.width / 2 ∧ s'.width / 2 + 65536 ≤ s'.width) := by have := Hl.out.wide; exact ⟨by omega, by omega⟩
      go_wp2_with (go_at_call 30; refine (put_any p s' (s'.width / 2) (bitOf n j) B R w1 k2 Hl.out.ok o1 Hz.out.1 Hz.out.2 Hl.out.sum (by have := Hl.out.room; omega)).mono ?_; rintro e w4 ⟨rfl, o4, b4⟩)
      go_roundg j
      case measure => omega
      case rel => exact ⟨_, rfl, by omega, o4, (hbb.trans k4).trans b4, putS_live _ (by omega) (Hl.out.less (by omega)) Hz.out.1 Hz.out.2, by rw [he.out, bitsOf_succ]; rfl⟩

theorem even_done (p : Nat) (s : WS) (n bits : Int) (B : Nat) (R : HP) [Loc B R] (w : World) (hdn : s.dn = true) (hO : Own B (Wr p s * R) w) :
    Calls Try.prog 17 #[.pointer (some ⟨p, 0, none⟩), .int .i64 n, .int .i64 bits] w fun e w' => e = .returned (.tuple #[]) ∧ w = w' := by
  obtain ⟨v, hV⟩ := hO.hex
  have hV := hV.assoc
  have c6 : w.cell? ⟨p, 6, none⟩ = some (.bool true) := by rw [hV.cell 6, ← hdn]; rfl
  go_enter Try.func17, Try.ntmps17
  go_wp2
  refine bodyPost_ret (results_none rfl _ _ _) rfl ?_
  exact ⟨rfl, rfl⟩
theorem even_nil (n bits : Int) (w : World) :
    Calls Try.prog 17 #[.pointer none, .int .i64 n, .int .i64 bits] w fun e w' => e = .returned (.tuple #[]) ∧ w = w' := by
  go_enter Try.func17, Try.ntmps17
  go_wp2
  refine bodyPost_ret (results_none rfl _ _ _) rfl ?_
  exact ⟨rfl, rfl⟩
end Go.Proofs.Ytnoofgcjhoiboaa
