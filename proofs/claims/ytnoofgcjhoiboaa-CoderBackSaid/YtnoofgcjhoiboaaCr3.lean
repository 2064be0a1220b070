/- The walks over take, Bit, Err and Left of package coder's reader. -/
import Derived.Test.YtnoofgcjhoiboaaCr2
namespace Go.Proofs.Ytnoofgcjhoiboaa
set_option linter.unusedVariables false
set_option linter.unusedSimpArgs false
open Go.RowKit

set_option maxHeartbeats 1600000 in
set_option maxRecDepth 100000 in
theorem take_high (p : Nat) (s : RS) (bound : Int) (B : Nat) (R : HP) [Loc B R] (w : World) (hB : B ≤ w.heap.size) (hok : s.ok) (hO : Own B (Re p s * R) w) (b0 : 65536 ≤ bound) (b1 : bound + 65536 ≤ s.width) (h : bound ≤ s.n) :
    Calls Try.prog 36 #[.pointer (some ⟨p, 0, none⟩), .int .u64 bound] w (Ret B w (.int .i64 1) (Re p (takeS s bound) * R)) := by
  have Hok := Lib.hid (takeT_ok hok b0 b1)
  have hT : takeT s bound = { s with n := s.n - bound, width := s.width - bound } := by unfold takeT; rw [if_neg (by omega)]
  have hn0 := hok.n0
  have hn1 := hok.n1
  have HT := Lib.hid hT
  clear hT
  have Hk := Lib.hid hok
  have hw1 := hok.width1
  clear hok
  obtain ⟨v, hV⟩ := hO.hex
  have hV := hV.assoc
  have c1 : w.cell? ⟨p, 1, none⟩ = some (.int .u64 s.n) := hV.cell 1
  have c2 : w.cell? ⟨p, 2, none⟩ = some (.int .u64 s.width) := hV.cell 2
  have z1 := hV.unfrozen 1
  have z2 := hV.unfrozen 2
  have d0 := hV.set hB 1 (.int .u64 (s.n - bound))
  have e0 := hV.below_set 1 (.int .u64 (s.n - bound))
  have d1 := d0.set (by simpa [World.setCell] using hB) 2 (.int .u64 (s.width - bound))
  have e1 := d0.below_set 2 (.int .u64 (s.width - bound))
  have d2 := d1.set (by simpa [World.setCell] using hB) 2 (.int .u64 ((s.width - bound) * 256))
  have e2 := d1.below_set 2 (.int .u64 ((s.width - bound) * 256))
  go_enter Try.func36, Try.ntmps36
  go_wp2
  refine wp_scope_jumps 0 (fun a' w' => (∃ (u2 u3 u4 u6 u7 u8 u9 u10 u11 u12 u13 u14 u15 u16 u17 u18 u19 u20 u21 u22 u23 u24 u25 u26 u27 u28 u29 u30 u31 u32 u33 u34 u35 u36 u37 u38 u39 u40 u41 u42 u43 u44 u45 u46 : Value), a' = { tmps := #[.pointer (some ⟨p, 0, none⟩), .int .u64 bound, u2, u3, u4, .int .i64 1, u6, u7, u8, u9, u10, u11, u12, u13, u14, u15, u16, u17, u18, u19, u20, u21, u22, u23, u24, u25, u26, u27, u28, u29, u30, u31, u32, u33, u34, u35, u36, u37, u38, u39, u40, u41, u42, u43, u44, u45, u46], defers := [] }) ∧ Below B w w' ∧ Own B (Re p (tkN s bound) * R) w' ∧ (takeT s bound).width < 16777216) (fun _ _ => 0) rfl ?_ ?_
  · by_cases hlt : s.width - bound < 16777216
    · have B2 : B ≤ (((w.setCell ⟨p, 1, none⟩ (.int .u64 (s.n - bound))).setCell ⟨p, 2, none⟩ (.int .u64 (s.width - bound))).setCell ⟨p, 2, none⟩ (.int .u64 ((s.width - bound) * 256))).heap.size := by simpa [World.setCell] using hB
      have o2 := (d2.assoc').to_hex (A := fun v => ReV p v { s with n := s.n - bound, width := (s.width - bound) * 256 }) v
      have hokn : RS.ok { s with n := s.n - bound, width := (s.width - bound) * 256 } := ⟨Hk.out.bytes, by show 0 ≤ s.n - bound; omega, by show s.n - bound < _; omega, by show 0 ≤ (s.width - bound) * 256; omega, by show (s.width - bound) * 256 < _; omega⟩
      have Hn := Lib.hid hokn
      clear hokn
      go_wp2
      go_step3
      go_wp2_with (go_at_call 35; refine (next_any p { s with n := s.n - bound, width := (s.width - bound) * 256 } B R _ B2 Hn.out o2).mono ?_; rintro e w3 ⟨rfl, o3, b3⟩)
      go_step3
      refine ⟨rfl, ⟨_, _, _, _, _, _, _, _, _, _, _, _, _, _, _, _, _, _, _, _, _, _, _, _, _, _, _, _, _, _, _, _, _, _, _, _, _, _, _, _, _, _, _, _, rfl⟩, ?_⟩
      exact ⟨(((e0.trans e1).trans e2).trans b3), by rw [tkN, HT.out]; exact o3, by rw [HT.out]; exact hlt⟩
    · have o2 := (d1.assoc').to_hex (A := fun v => ReV p v { s with n := s.n - bound, width := s.width - bound }) v
      go_wp2
      go_step3
      go_wp2
      simp only [Exit.jump]
      go_ret
      exact ⟨rfl, by rw [takeS, HT.out, if_neg (by show ¬ s.width - bound < 16777216; omega)]; exact o2, e0.trans e1⟩
  · rintro a' w' ⟨⟨u2, u3, u4, u6, u7, u8, u9, u10, u11, u12, u13, u14, u15, u16, u17, u18, u19, u20, u21, u22, u23, u24, u25, u26, u27, u28, u29, u30, u31, u32, u33, u34, u35, u36, u37, u38, u39, u40, u41, u42, u43, u44, u45, u46, rfl⟩, hbb, ho, hlt⟩
    have Bw : B ≤ w'.heap.size := Nat.le_trans hB hbb.size
    obtain ⟨v2, hV2⟩ := ho.hex
    have hV2 := hV2.assoc
    have q2 : w'.cell? ⟨p, 2, none⟩ = some (.int .u64 ((takeT s bound).width * 256)) := (hV2.cell 2).trans (by show some (Value.int .u64 (tkN s bound).width) = _; rw [tkN_width])
    have hge : 16777216 ≤ (takeT s bound).width * 256 := by have := Hok.out.2; omega
    have Hlt := Lib.hid hlt
    clear hlt
    go_wp2
    simp only [Exit.jump]
    go_ret
    exact ⟨rfl, by rw [takeS, if_pos Hlt.out]; exact ho, hbb⟩

theorem take_any (p : Nat) (s : RS) (bound : Int) (B : Nat) (R : HP) [Loc B R] (w : World) (hB : B ≤ w.heap.size) (hok : s.ok) (hO : Own B (Re p s * R) w) (b0 : 65536 ≤ bound) (b1 : bound + 65536 ≤ s.width) :
    Calls Try.prog 36 #[.pointer (some ⟨p, 0, none⟩), .int .u64 bound] w (Ret B w (.int .i64 (takeBit s bound)) (Re p (takeS s bound) * R)) := by
  by_cases h : s.n < bound
  · have := take_low p s bound B R w hB hok hO b0 b1 h
    rwa [takeBit, if_pos h]
  · have := take_high p s bound B R w hB hok hO b0 b1 (by omega)
    rwa [takeBit, if_neg h]

structure RS.live (s : RS) : Prop where
  ok : s.ok
  wide : 16777216 ≤ s.width
theorem takeS_live {s : RS} {bound : Int} (h : s.live) (b0 : 65536 ≤ bound) (b1 : bound + 65536 ≤ s.width) : (takeS s bound).live := by
  obtain ⟨k0, k1⟩ := takeT_ok h.ok b0 b1
  unfold takeS
  split
  · refine ⟨nextS_ok ⟨k0.bytes, k0.n0, k0.n1, by show 0 ≤ (takeT s bound).width * 256; omega, by show (takeT s bound).width * 256 < _; omega⟩, by rw [tkN_width]; omega⟩
  · exact ⟨k0, by omega⟩
def rBound (s : RS) (n : Int) : Int := s.width / 2048 * (n + 1024)
theorem rBound_in {s : RS} {n : Int} (h : s.live) (hn : -993 ≤ n ∧ n ≤ 993) : 65536 ≤ rBound s n ∧ rBound s n + 65536 ≤ s.width := by
  have hw := h.wide
  have hw1 := h.ok.width1
  have q0 : 8192 ≤ s.width / 2048 := by omega
  have q1 : s.width / 2048 < 2097152 := by omega
  unfold rBound
  constructor
  · have := Int.mul_le_mul q0 (show 31 ≤ n + 1024 by omega) (by omega) (by omega); omega
  · have : s.width / 2048 * (n + 1024) ≤ s.width / 2048 * 2017 := Int.mul_le_mul_of_nonneg_left (by omega) (by omega)
    omega

set_option maxHeartbeats 800000 in
theorem rbit_any (p g off : Nat) (s : RS) (cl : List Int) (B : Nat) (R : HP) [Loc B R] (w : World) (hB : B ≤ w.heap.size) (hl : s.live) (hc : chOk cl) (hoff : off < cl.length)
    (hO : Own B (Re p s * (Bk g 27 (chV cl) * R)) w) :
    Calls Try.prog 24 #[.pointer (some ⟨p, 0, none⟩), .pointer (some ⟨g, off, none⟩)] w
      (Ret B w (.int .i64 (takeBit s (rBound s (cl.getD off 0)))) (Re p (takeS s (rBound s (cl.getD off 0))) * (Bk g 27 (chV (cl.set off (sawN (cl.getD off 0) (takeBit s (rBound s (cl.getD off 0)))))) * R))) := by
  have hcc := chV_get cl off hoff
  have hn := chOk_get hc off
  obtain ⟨n, hnn⟩ : ∃ n, n = cl.getD off 0 := ⟨_, rfl⟩
  rw [← hnn] at hcc hn ⊢
  rw [← chV_set]
  have Hn := Lib.hid hnn
  clear hnn
  have Hl := Lib.hid hl
  have hb := rBound_in hl hn
  have Hb := Lib.hid hb
  have l0 := hl.ok.width0
  have l1 := hl.ok.width1
  obtain ⟨m0, m1⟩ := hn
  have q0 : 0 ≤ s.width / 2048 := by omega
  have q1 : s.width / 2048 < 2097152 := by omega
  have q2 : s.width / 2048 * (n + 1024) = rBound s n := rfl
  have q3 : 0 ≤ s.width / 2048 * (n + 1024) := by rw [q2]; omega
  have q4 : s.width / 2048 * (n + 1024) ≤ 4294967296 := by rw [q2]; omega
  have Hq := Lib.hid q2
  clear q2 hb hl
  obtain ⟨v, hV⟩ := hO.hex
  have hV := hV.assoc
  go_enter Try.func24, Try.ntmps24
  go_wp2_with fail
  refine wp_region_mix (St B (Bk p 72 (rsCells v s) * (Rq v (bytesV s.rem) * (Bk g 27 (chV cl) * R))) w) [0, 1, 2, 3, 4, 5, 6, 7, 8, 9, 10, 11] [12, 13] mixed (by kernel_rfl) rfl (St.drew hB hV) ?_
  simp only [List.filterMap_cons, List.filterMap_nil, List.getElem?_toArray, List.getElem?_cons_succ, List.getElem?_cons_zero]
  repeat (first
    | (refine held_val ?_ rfl (fun w1 hS => ?_) ?_
       rotate_left
       · (have c2 : w1.cell? ⟨p, 2, none⟩ = some (.int .u64 s.width) := hS.2.1.cell 2; have k0 := ((hS.2.1.cast (show _ = Bk g 27 (chV cl) * (Bk p _ (rsCells v s) * (Rq v _ * R)) by ac_rfl)).cell off).trans hcc
          go_simp
          try go_bits
          rfl)
       simp only [Act.put, List.setIfInBounds_toArray, List.set_cons_zero, List.set_cons_succ])
    | (refine held_off rfl ?_
       simp only [Act.put, List.setIfInBounds_toArray, List.set_cons_zero, List.set_cons_succ]))
  refine held_call 12 #[.agg #[.int .i64 n]] (.int .i64 (n + 1024)) rfl (fun w1 hS => by go_simp) (fun w1 hS => (of_any n _ (by omega) (by omega)).mono ?_) ?_
  · rintro e w2 ⟨rfl, hb⟩
    exact ⟨rfl, hS.grown hb⟩
  simp only [Act.put, List.setIfInBounds_toArray, List.set_cons_zero, List.set_cons_succ]
  repeat (first
    | (refine held_val ?_ rfl (fun w1 hS => ?_) ?_
       rotate_left
       · (skip
          go_simp
          try go_bits
          rfl)
       simp only [Act.put, List.setIfInBounds_toArray, List.set_cons_zero, List.set_cons_succ])
    | (refine held_off rfl ?_
       simp only [Act.put, List.setIfInBounds_toArray, List.set_cons_zero, List.set_cons_succ]))
  refine held_nil (fun w1 hS => ?_)
  obtain ⟨k2, k3, k4⟩ := hS
  have o1 := (k3.assoc').to_hex (A := fun v => ReV p v s) v
  rw [Hq.out]
  go_wp2_with (first
    | (go_at_call 36
       refine (take_any p s _ B (Bk g 27 (chV cl) * R) w1 k2 Hl.out.ok o1 Hb.out.1 Hb.out.2).mono ?_
       rintro e w2 ⟨rfl, o2, b4⟩
       have B2 : B ≤ w2.heap.size := Nat.le_trans k2 b4.size)
    | (go_at_call 31
       refine (saw_any g off (chV cl) n _ B (Re p (takeS s (rBound s n)) * R) w2 B2 (o2.cast (sep_left_comm _ _ _)) hcc (by omega) (by omega)).mono ?_
       rintro e w3 ⟨rfl, o3, b5⟩))
  go_ret
  exact ⟨rfl, o3.cast (sep_left_comm _ _ _), (k4.trans b4).trans b5⟩

theorem rbit_nil (c : Option Addr) (w : World) :
    Calls Try.prog 24 #[.pointer none, .pointer c] w fun e w' => e = .returned (.int .i64 0) ∧ w = w' := by
  go_enter Try.func24, Try.ntmps24
  go_wp2
  go_ret
  exact ⟨rfl, rfl⟩

theorem err_any (p : Nat) (s : RS) (B : Nat) (R : HP) [Loc B R] (w : World) (hO : Own B (Re p s * R) w) :
    Calls Try.prog 27 #[.pointer (some ⟨p, 0, none⟩)] w fun e w' => e = .returned (.int .i64 s.e) ∧ w = w' := by
  obtain ⟨v, hV⟩ := hO.hex
  have hV := hV.assoc
  have c3 : w.cell? ⟨p, 3, none⟩ = some (.int .i64 s.e) := hV.cell 3
  go_enter Try.func27, Try.ntmps27
  go_wp2
  go_ret
  exact ⟨rfl, rfl⟩
theorem err_nil (w : World) : Calls Try.prog 27 #[.pointer none] w fun e w' => e = .returned (.int .i64 2) ∧ w = w' := by
  go_enter Try.func27, Try.ntmps27
  go_wp2
  go_ret
  exact ⟨rfl, rfl⟩
theorem left_any (p : Nat) (s : RS) (B : Nat) (R : HP) [Loc B R] (w : World) (hO : Own B (Re p s * R) w) :
    Calls Try.prog 28 #[.pointer (some ⟨p, 0, none⟩)] w fun e w' => e = .returned (.int .i64 (s.rem.length : Int)) ∧ w = w' := by
  obtain ⟨v, hV⟩ := hO.hex
  have hV := hV.assoc
  obtain ⟨A, c, rfl⟩ : ∃ A c, v = .slice A s.rem.length c := by
    obtain ⟨F, hf, F1, F2, hd, h1, h2, ha, F3, F4, hd', h3, h4, ⟨A, c, hv, _⟩, _⟩ := hV
    exact ⟨A, c, by simpa [bytesV] using hv⟩
  have c0 : w.cell? ⟨p, 0, none⟩ = some (.slice A s.rem.length c) := hV.cell 0
  go_enter Try.func28, Try.ntmps28
  go_wp2
  go_ret
  exact ⟨rfl, rfl⟩
theorem left_nil (w : World) : Calls Try.prog 28 #[.pointer none] w fun e w' => e = .returned (.int .i64 0) ∧ w = w' := by
  go_enter Try.func28, Try.ntmps28
  go_wp2
  go_ret
  exact ⟨rfl, rfl⟩
end Go.Proofs.Ytnoofgcjhoiboaa
