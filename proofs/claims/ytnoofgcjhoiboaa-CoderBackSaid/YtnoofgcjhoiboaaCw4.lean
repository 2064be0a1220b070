/- The walks over chances, and Bit, of package coder's writer. -/
import Derived.Test.YtnoofgcjhoiboaaCw3
namespace Go.Proofs.Ytnoofgcjhoiboaa
set_option linter.unusedVariables false
set_option linter.unusedSimpArgs false
open Go.RowKit

theorem of_any (n : Int) (w : World) (h0 : -1024 ≤ n) (h1 : n ≤ 1024) :
    Calls Try.prog 12 #[.agg #[.int .i64 n]] w fun e w' => e = .returned (.int .i64 (n + 1024)) ∧ Below w.heap.size w w' := by
  go_enter Try.func12, Try.ntmps12
  go_wp2
  go_ret
  exact ⟨rfl, (Below.refl _ _).alloc (Nat.le_refl _) _⟩

def sawN (n bit : Int) : Int := if bit = 0 then n + (1024 - n) / 32 else n - (n + 1024) / 32

set_option maxHeartbeats 800000 in
theorem saw_any (g off : Nat) (cs : Array Value) (n bit : Int) (B : Nat) (R : HP) [Loc B R] (w : World) (hB : B ≤ w.heap.size)
    (hO : Own B (Bk g 27 cs * R) w) (hc : cs[off]? = some (.int .i64 n)) (h0 : -1024 ≤ n) (h1 : n ≤ 1024) :
    Calls Try.prog 31 #[.pointer (some ⟨g, off, none⟩), .int .i64 bit] w (Ret B w (.tuple #[]) (Bk g 27 (cs.setIfInBounds off (.int .i64 (sawN n bit))) * R)) := by
  have hgt := hO.bk.2.2
  by_cases hb : bit = 0
  · subst hb
    go_enter Try.func31, Try.ntmps31
    go_wp2_with fail
    refine wp_region_mix (St B (Bk g 27 cs * R) w) [0, 1, 2, 3, 4, 5, 6, 7, 8, 9, 10, 11, 12] [13] mixed (by kernel_rfl) rfl (St.drew hB hO) ?_
    simp only [List.filterMap_cons, List.filterMap_nil, List.getElem?_toArray, List.getElem?_cons_succ, List.getElem?_cons_zero]
    repeat (first
      | (refine held_val ?_ rfl (fun w1 hS => ?_) ?_
         rotate_left
         · (have k0 := (hS.2.1.cell off).trans hc
            go_simp
            try go_bits
            rfl)
         simp only [Act.put, List.setIfInBounds_toArray, List.set_cons_zero, List.set_cons_succ])
      | (refine held_off rfl ?_
         simp only [Act.put, List.setIfInBounds_toArray, List.set_cons_zero, List.set_cons_succ]))
    refine held_call 12 #[.agg #[.int .i64 n]] (.int .i64 (n + 1024)) rfl (fun w1 hS => by go_simp) (fun w1 hS => (of_any n _ h0 h1).mono ?_) ?_
    · rintro e w2 ⟨rfl, hb⟩
      exact ⟨rfl, hS.grown hb⟩
    simp only [Act.put, List.setIfInBounds_toArray, List.set_cons_zero, List.set_cons_succ]
    repeat (first
      | (refine held_val ?_ rfl (fun w1 hS => ?_) ?_
         rotate_left
         · (have k0 := (hS.2.1.cell off).trans hc
            go_simp
            try go_bits
            rfl)
         simp only [Act.put, List.setIfInBounds_toArray, List.set_cons_zero, List.set_cons_succ])
      | (refine held_off rfl ?_
         simp only [Act.put, List.setIfInBounds_toArray, List.set_cons_zero, List.set_cons_succ]))
    refine held_nil (fun w1 hS => ?_)
    obtain ⟨k2, k3, k4⟩ := hS
    have k0 := (k3.cell off).trans hc
    have k1 := k3.unfrozen off
    have e0 : n + (2048 - (n + 1024)) / 32 = sawN n 0 := by simp only [sawN, if_true]; omega
    go_wp2
    refine bodyPost_ret (results_none rfl _ _ _) rfl ?_
    exact ⟨rfl, k3.set k2 off _, k4.trans (k3.below_set off _)⟩
  · have hbb : (bit == 0) = false := by simpa using hb
    go_enter Try.func31, Try.ntmps31
    go_wp2_with fail
    refine wp_region_mix (St B (Bk g 27 cs * R) w) [0, 1, 2, 3, 4, 5, 6, 7, 8, 9, 10, 11] [12] mixed (by kernel_rfl) rfl (St.drew hB hO) ?_
    simp only [List.filterMap_cons, List.filterMap_nil, List.getElem?_toArray, List.getElem?_cons_succ, List.getElem?_cons_zero]
    repeat (first
      | (refine held_val ?_ rfl (fun w1 hS => ?_) ?_
         rotate_left
         · (have k0 := (hS.2.1.cell off).trans hc
            go_simp
            try go_bits
            rfl)
         simp only [Act.put, List.setIfInBounds_toArray, List.set_cons_zero, List.set_cons_succ])
      | (refine held_off rfl ?_
         simp only [Act.put, List.setIfInBounds_toArray, List.set_cons_zero, List.set_cons_succ]))
    refine held_call 12 #[.agg #[.int .i64 n]] (.int .i64 (n + 1024)) rfl (fun w1 hS => by go_simp) (fun w1 hS => (of_any n _ h0 h1).mono ?_) ?_
    · rintro e w2 ⟨rfl, hb⟩
      exact ⟨rfl, hS.grown hb⟩
    simp only [Act.put, List.setIfInBounds_toArray, List.set_cons_zero, List.set_cons_succ]
    repeat (first
      | (refine held_val ?_ rfl (fun w1 hS => ?_) ?_
         rotate_left
         · (have k0 := (hS.2.1.cell off).trans hc
            go_simp
            try go_bits
            rfl)
         simp only [Act.put, List.setIfInBounds_toArray, List.set_cons_zero, List.set_cons_succ])
      | (refine held_off rfl ?_
         simp only [Act.put, List.setIfInBounds_toArray, List.set_cons_zero, List.set_cons_succ]))
    refine held_nil (fun w1 hS => ?_)
    obtain ⟨k2, k3, k4⟩ := hS
    have k0 := (k3.cell off).trans hc
    have k1 := k3.unfrozen off
    have e0 : n - (n + 1024) / 32 = sawN n bit := by simp only [sawN, if_neg hb]
    go_wp2
    go_end0
    exact ⟨rfl, k3.set k2 off _, k4.trans (k3.below_set off _)⟩

set_option maxHeartbeats 800000 in
/-- Bit of a writer that is not done. -/
theorem bit_live (p g off : Nat) (s : WS) (cs : Array Value) (n bit : Int) (B : Nat) (R : HP) [Loc B R] (w : World) (hB : B ≤ w.heap.size) (hok : s.ok) (hdn : s.dn = false)
    (hO : Own B (Wr p s * (Bk g 27 cs * R)) w) (hc : cs[off]? = some (.int .i64 n)) (h0 : -993 ≤ n) (h1 : n ≤ 993) (hw : 16777216 ≤ s.width) (b2 : s.low + s.width < 8589934592) (b3 : (s.out.length : Int) + s.full + 1 ≤ 1099511627776) :
    Calls Try.prog 13 #[.pointer (some ⟨p, 0, none⟩), .pointer (some ⟨g, off, none⟩), .int .i64 bit] w
      (Ret B w (.tuple #[]) (Wr p (putS s (s.width / 2048 * (n + 1024)) bit) * (Bk g 27 (cs.setIfInBounds off (.int .i64 (sawN n bit))) * R))) := by
  have Hok := Lib.hid hok
  obtain ⟨l0, l1, w0, w1, t0, t1, f0, sz⟩ := hok
  obtain ⟨v, hV⟩ := hO.hex
  have hV := hV.assoc
  have c6 : w.cell? ⟨p, 6, none⟩ = some (.bool false) := by rw [hV.cell 6, ← hdn]; rfl
  have k0 := ((hV.cast (show _ = Bk g 27 cs * (Bk p _ (wsCells v s) * (Rw _ _ v _ _ * R)) by ac_rfl)).cell off).trans hc
  have m0 : 31 ≤ n + 1024 := by omega
  have m1 : n + 1024 ≤ 2017 := by omega
  have q0 : 8192 ≤ s.width / 2048 := by omega
  have q1 : s.width / 2048 < 2097152 := by omega
  have q2 : 65536 ≤ s.width / 2048 * (n + 1024) := by
    have := Int.mul_le_mul q0 m0 (by omega) (by omega); omega
  have q3 : s.width / 2048 * (n + 1024) + 65536 ≤ s.width := by
    have : s.width / 2048 * (n + 1024) ≤ s.width / 2048 * 2017 := Int.mul_le_mul_of_nonneg_left m1 (by omega)
    omega
  go_enter Try.func13, Try.ntmps13
  go_wp2_with fail
  clear c6 k0
  refine wp_region_mix (St B (Bk p 66 (wsCells v s) * (Rw 5 1 v s.out.length (bytesV s.out) * (Bk g 27 cs * R))) w) [0, 1, 2, 3, 4, 5, 6, 7, 8, 9, 10, 11, 12] [13] mixed (by kernel_rfl) rfl (St.drew hB hV) ?_
  simp only [List.filterMap_cons, List.filterMap_nil, List.getElem?_toArray, List.getElem?_cons_succ, List.getElem?_cons_zero]
  repeat (first
    | (refine held_val ?_ rfl (fun w1 hS => ?_) ?_
       rotate_left
       · (have c2 : w1.cell? ⟨p, 2, none⟩ = some (.int .u64 s.width) := hS.2.1.cell 2; have k0 := ((hS.2.1.cast (show _ = Bk g 27 cs * (Bk p _ (wsCells v s) * (Rw _ _ v _ _ * R)) by ac_rfl)).cell off).trans hc
          go_simp
          try go_bits
          rfl)
       simp only [Act.put, List.setIfInBounds_toArray, List.set_cons_zero, List.set_cons_succ])
    | (refine held_off rfl ?_
       simp only [Act.put, List.setIfInBounds_toArray, List.set_cons_zero, List.set_cons_succ]))
  refine held_call 12 #[.agg #[.int .i64 n]] (.int .i64 (n + 1024)) rfl (fun w1 hS => by go_simp) (fun w1 hS => (of_any n _ (by omega) (by omega)).mono ?_) ?_
  · rintro e w2 ⟨rfl, hb⟩
    exact ⟨rfl, hS.grown hb⟩
  simp only [Act.put, List.setIfInBounds_toArray, List.set_cons_zero, List.set_cons_succ]
  repeat (first
    | (refine held_val ?_ rfl (fun w1 hS => ?_) ?_
       rotate_left
       · (skip
          go_simp
          try go_bits
          rfl)
       simp only [Act.put, List.setIfInBounds_toArray, List.set_cons_zero, List.set_cons_succ])
    | (refine held_off rfl ?_
       simp only [Act.put, List.setIfInBounds_toArray, List.set_cons_zero, List.set_cons_succ]))
  refine held_nil (fun w1 hS => ?_)
  obtain ⟨k2, k3, k4⟩ := hS
  have o1 := (k3.assoc').to_hex (A := fun v => WrV p v s) v
  go_wp2_with (first
    | (go_at_call 30
       refine (put_any p s _ bit B (Bk g 27 cs * R) w1 k2 Hok.out o1 q2 q3 b2 b3).mono ?_
       rintro e w2 ⟨rfl, o2, b4⟩
       have B2 : B ≤ w2.heap.size := Nat.le_trans k2 b4.size)
    | (go_at_call 31
       refine (saw_any g off cs n bit B (Wr p (putS s (s.width / 2048 * (n + 1024)) bit) * R) w2 B2 (o2.cast (sep_left_comm _ _ _)) hc (by omega) (by omega)).mono ?_
       rintro e w3 ⟨rfl, o3, b5⟩))
  go_end0
  exact ⟨rfl, o3.cast (sep_left_comm _ _ _), (k4.trans b4).trans b5⟩

/-- Bit of a writer that is done, or of one that is not there, or of no chance. -/
theorem bit_done (p g off : Nat) (s : WS) (bit : Int) (B : Nat) (R : HP) [Loc B R] (w : World) (hdn : s.dn = true) (hO : Own B (Wr p s * R) w) :
    Calls Try.prog 13 #[.pointer (some ⟨p, 0, none⟩), .pointer (some ⟨g, off, none⟩), .int .i64 bit] w fun e w' => e = .returned (.tuple #[]) ∧ w = w' := by
  obtain ⟨v, hV⟩ := hO.hex
  have hV := hV.assoc
  have c6 : w.cell? ⟨p, 6, none⟩ = some (.bool true) := by rw [hV.cell 6, ← hdn]; rfl
  go_enter Try.func13, Try.ntmps13
  go_wp2
  refine bodyPost_ret (results_none rfl _ _ _) rfl ?_
  exact ⟨rfl, rfl⟩
theorem bit_nil (c : Option Addr) (bit : Int) (w : World) :
    Calls Try.prog 13 #[.pointer none, .pointer c, .int .i64 bit] w fun e w' => e = .returned (.tuple #[]) ∧ w = w' := by
  go_enter Try.func13, Try.ntmps13
  go_wp2
  refine bodyPost_ret (results_none rfl _ _ _) rfl ?_
  exact ⟨rfl, rfl⟩
theorem bit_noc (p : Nat) (bit : Int) (w : World) :
    Calls Try.prog 13 #[.pointer (some ⟨p, 0, none⟩), .pointer none, .int .i64 bit] w fun e w' => e = .returned (.tuple #[]) ∧ w = w' := by
  go_enter Try.func13, Try.ntmps13
  go_wp2
  refine bodyPost_ret (results_none rfl _ _ _) rfl ?_
  exact ⟨rfl, rfl⟩
end Go.Proofs.Ytnoofgcjhoiboaa
