/- Texts of one proof, merged: XCw3 XCw4 XCw5 XCw6 XCw7 XCw8 XCr1 XCr2 XCr3. -/
import Derived.Test.YtedcficjmogohaaYa
import Derived.Laws.MakeOwn
import Derived.WalkSpells
import Derived.Lib.BufferMore
import Derived.Laws.Slices
import Derived.ScopeJumps
/- The walks over the writer of package coder: shift whole, put. -/
namespace Go.Proofs.Ytedcficjmogohaa
set_option linter.unusedVariables false
set_option linter.unusedSimpArgs false
set_option maxRecDepth 100000
open Go.RowKit

theorem shift_any (p : Nat) (s : WS) (B : Nat) (R : HP) [Loc B R] (w : World) (hB : B ≤ w.heap.size) (hok : s.ok) (hO : Own B (Wr p s * R) w) :
    Calls Try.prog 60 #[.pointer (some ⟨p, 0, none⟩)] w (Ret B w (.tuple #[]) (Wr p (shiftS s) * R)) := by
  by_cases h : s.low < 4278190080 ∨ 4294967295 < s.low
  · cases hb : s.sm with
    | true =>
      have := shift_flush p s B R w hB hok hO hb h
      simpa only [shiftS, if_pos h, hb, if_true] using this
    | false =>
      have := shift_none p s B R w hB hok hO hb h
      simpa only [shiftS, if_pos h, hb, Bool.false_eq_true, if_false] using this
  · have := shift_else p s B R w hB hok hO (by omega) (by omega)
    simpa only [shiftS, if_neg h] using this

theorem shiftS_width (s : WS) : (shiftS s).width = s.width := by unfold shiftS; split <;> rfl
theorem shiftS_ok {s : WS} (h : s.ok) (_ : s.low < 8589934592) (hz : (s.out.length : Int) + s.full + 1 ≤ 1099511627776) : (shiftS s).ok := by
  obtain ⟨l0, l1, w0, w1, t0, t1, f0, sz⟩ := h
  unfold shiftS
  split
  · refine ⟨by show 0 ≤ (s.low * 256) % 4294967296; omega, by show (s.low * 256) % 4294967296 < _; omega, w0, w1, by show 0 ≤ (s.low / 16777216) % 256; omega, by show (s.low / 16777216) % 256 ≤ 255; omega, by show (0 : Int) ≤ 0; omega, ?_⟩
    show ((((if s.sm then s.out ++ [(s.wait + carryOf s) % 256] else s.out) ++ List.replicate s.full.toNat ((255 + carryOf s) % 256)).length : Nat) : Int) + 0 ≤ _
    rw [List.length_append, List.length_replicate]
    split <;> simp <;> omega
  · exact ⟨by show 0 ≤ (s.low * 256) % 4294967296; omega, by show (s.low * 256) % 4294967296 < _; omega, w0, w1, t0, t1, by show 0 ≤ s.full + 1; omega, by show (s.out.length : Int) + (s.full + 1) ≤ _; omega⟩

def put1 (s : WS) (bound bit : Int) : WS := if bit = 0 then { s with width := bound } else { s with low := s.low + bound, width := s.width - bound }
def renorm (s : WS) : WS := if s.width < 16777216 then shiftS { s with width := s.width * 256 } else s
def putS (s : WS) (bound bit : Int) : WS := renorm (put1 s bound bit)

set_option maxHeartbeats 800000 in
theorem put_any (p : Nat) (s : WS) (bound bit : Int) (B : Nat) (R : HP) [Loc B R] (w : World) (hB : B ≤ w.heap.size) (hok : s.ok) (hO : Own B (Wr p s * R) w)
    (b0 : 65536 ≤ bound) (b1 : bound + 65536 ≤ s.width) (b2 : s.low + s.width < 8589934592) (b3 : (s.out.length : Int) + s.full + 1 ≤ 1099511627776) :
    Calls Try.prog 70 #[.pointer (some ⟨p, 0, none⟩), .int .u64 bound, .int .i64 bit] w (Ret B w (.tuple #[]) (Wr p (putS s bound bit) * R)) := by
  have hsh : ∀ (s' : WS) (wr : World), B ≤ wr.heap.size → s'.ok → Own B (Wr p s' * R) wr → Calls Try.prog 60 #[.pointer (some ⟨p, 0, none⟩)] wr (Ret B wr (.tuple #[]) (Wr p (shiftS s') * R)) := fun s' wr h1 h2 h3 => shift_any p s' B R wr h1 h2 h3
  have hokp : (put1 s bound bit).ok ∧ 65536 ≤ (put1 s bound bit).width ∧ (put1 s bound bit).low + (put1 s bound bit).width < 8589934592 ∧ (put1 s bound bit).out = s.out ∧ (put1 s bound bit).full = s.full := by
    obtain ⟨l0, l1, w0, w1, t0, t1, f0, sz⟩ := hok
    unfold put1
    by_cases h : bit = 0
    · rw [if_pos h]; exact ⟨⟨l0, l1, by show 0 ≤ bound; omega, by show bound < _; omega, t0, t1, f0, sz⟩, b0, by show s.low + bound < _; omega, rfl, rfl⟩
    · rw [if_neg h]; exact ⟨⟨by show 0 ≤ s.low + bound; omega, by show s.low + bound < _; omega, by show 0 ≤ s.width - bound; omega, by show s.width - bound < _; omega, t0, t1, f0, sz⟩, by show 65536 ≤ s.width - bound; omega, by show s.low + bound + (s.width - bound) < _; omega, rfl, rfl⟩
  obtain ⟨l0, l1, w0, w1, t0, t1, f0, sz⟩ := hok
  obtain ⟨v, hO⟩ := hO.hex
  have hO := hO.assoc
  have c1 : w.cell? ⟨p, 1, none⟩ = some (.int .u64 s.low) := hO.cell 1
  have c2 : w.cell? ⟨p, 2, none⟩ = some (.int .u64 s.width) := hO.cell 2
  have z1 := hO.unfrozen 1
  have z2 := hO.unfrozen 2
  have Hp := Lib.hid hokp
  have Hs := Lib.hid hsh
  clear hokp hsh
  go_enter Try.func70, Try.ntmps70
  have hst0 := hO.set hB 2 (.int .u64 bound)
  have hst1 := hO.set hB 1 (.int .u64 (s.low + bound))
  have hst2 := hst1.set (by simpa [World.setCell] using hB) 2 (.int .u64 (s.width - bound))
  have hbe0 := hO.below_set 2 (.int .u64 bound)
  have hbe1 := hO.below_set 1 (.int .u64 (s.low + bound))
  have hbe2 := hst1.below_set 2 (.int .u64 (s.width - bound))
  have Hput := Lib.hid (show bit = 0 ∨ ¬ bit = 0 by omega)
  by_cases hb : bit = 0
  · subst hb
    go_wp2
    clear c1 c2 z1 z2
    go_loopg [] 1 (fun k wr => ∃ s' : WS, Own B (Wr p s' * R) wr ∧ Below B w wr ∧ s'.ok ∧ Hid ((k = 1 ∧ s' = put1 s bound 0) ∨ (k = 0 ∧ s' = putS s bound 0 ∧ 16777216 ≤ s'.width)))
    case atStart => exact ⟨_, ((hst0.assoc').to_hex (A := fun v => WrV p v (put1 s bound 0)) v), hbe0, Hp.out.1, .inl ⟨rfl, rfl⟩⟩
    case round =>
      obtain ⟨s', ho, hbb, ok', hk⟩ := hrel
      have Bw : B ≤ wr.heap.size := Nat.le_trans hB hbb.size
      obtain ⟨v', hV⟩ := ho.hex
      have hV := hV.assoc
      have c2 : wr.cell? ⟨p, 2, none⟩ = some (.int .u64 s'.width) := hV.cell 2
      have z2 := hV.unfrozen 2
      obtain ⟨m0, m1, x0, x1, y0, y1, g0, gz⟩ := ok'
      by_cases hlt : s'.width < 16777216
      · have e2 := hV.set Bw 2 (.int .u64 (s'.width * 256))
        have f2 := hV.below_set 2 (.int .u64 (s'.width * 256))
        have h6 := (e2.assoc').to_hex (A := fun v => WrV p v { s' with width := s'.width * 256 }) v'
        have okn : WS.ok { s' with width := s'.width * 256 } := ⟨m0, m1, by show 0 ≤ s'.width * 256; omega, by show s'.width * 256 < _; omega, y0, y1, g0, gz⟩
        have hsz : B ≤ (wr.setCell ⟨p, 2, none⟩ (.int .u64 (s'.width * 256))).heap.size := by simpa [World.setCell] using Bw
        go_wp2_with (go_at_call 60; refine (Hs.out _ _ hsz okn h6).mono ?_; rintro e w2 ⟨rfl, o2, b2⟩)
        have hk := hk.out
        rcases hk with ⟨rfl, rfl⟩ | ⟨rfl, rfl, hw⟩
        · go_roundg 0
          case measure => omega
          case rel => exact ⟨_, o2, (hbb.trans f2).trans b2, shiftS_ok okn (by have := Hp.out.2.2.1; show (put1 s bound 0).low < 8589934592; omega) (by have := Hp.out.2.2.2; show ((put1 s bound 0).out.length : Int) + (put1 s bound 0).full + 1 ≤ _; rw [this.1, this.2]; exact b3), .inr ⟨rfl, by rw [putS, renorm, if_pos (by omega)], by rw [shiftS_width]; have := Hp.out.2.1; show 16777216 ≤ (put1 s bound 0).width * 256; omega⟩⟩
        · omega
      · go_wp2
        go_end0
        have hk := hk.out
        rcases hk with ⟨rfl, rfl⟩ | ⟨rfl, rfl, hw⟩
        · exact ⟨rfl, by rw [putS, renorm, if_neg (by omega)]; exact ho, hbb⟩
        · exact ⟨rfl, ho, hbb⟩
  · have hbb0 : (bit == 0) = false := by simpa using hb
    go_wp2
    clear c1 c2 z1 z2
    go_loopg [] 1 (fun k wr => ∃ s' : WS, Own B (Wr p s' * R) wr ∧ Below B w wr ∧ s'.ok ∧ Hid ((k = 1 ∧ s' = put1 s bound bit) ∨ (k = 0 ∧ s' = putS s bound bit ∧ 16777216 ≤ s'.width)))
    case atStart => exact ⟨_, ((hst2.assoc').to_hex (A := fun v => WrV p v { s with low := s.low + bound, width := s.width - bound }) v).cast (by rw [put1, if_neg hb]; rfl), hbe1.trans hbe2, Hp.out.1, .inl ⟨rfl, rfl⟩⟩
    case round =>
      obtain ⟨s', ho, hbb, ok', hk⟩ := hrel
      have Bw : B ≤ wr.heap.size := Nat.le_trans hB hbb.size
      obtain ⟨v', hV⟩ := ho.hex
      have hV := hV.assoc
      have c2 : wr.cell? ⟨p, 2, none⟩ = some (.int .u64 s'.width) := hV.cell 2
      have z2 := hV.unfrozen 2
      obtain ⟨m0, m1, x0, x1, y0, y1, g0, gz⟩ := ok'
      by_cases hlt : s'.width < 16777216
      · have e2 := hV.set Bw 2 (.int .u64 (s'.width * 256))
        have f2 := hV.below_set 2 (.int .u64 (s'.width * 256))
        have h6 := (e2.assoc').to_hex (A := fun v => WrV p v { s' with width := s'.width * 256 }) v'
        have okn : WS.ok { s' with width := s'.width * 256 } := ⟨m0, m1, by show 0 ≤ s'.width * 256; omega, by show s'.width * 256 < _; omega, y0, y1, g0, gz⟩
        have hsz : B ≤ (wr.setCell ⟨p, 2, none⟩ (.int .u64 (s'.width * 256))).heap.size := by simpa [World.setCell] using Bw
        go_wp2_with (go_at_call 60; refine (Hs.out _ _ hsz okn h6).mono ?_; rintro e w2 ⟨rfl, o2, b2⟩)
        have hk := hk.out
        rcases hk with ⟨rfl, rfl⟩ | ⟨rfl, rfl, hw⟩
        · go_roundg 0
          case measure => omega
          case rel => exact ⟨_, o2, (hbb.trans f2).trans b2, shiftS_ok okn (by have := Hp.out.2.2.1; show (put1 s bound bit).low < 8589934592; omega) (by have := Hp.out.2.2.2; show ((put1 s bound bit).out.length : Int) + (put1 s bound bit).full + 1 ≤ _; rw [this.1, this.2]; exact b3), .inr ⟨rfl, by rw [putS, renorm, if_pos (by omega)], by rw [shiftS_width]; have := Hp.out.2.1; show 16777216 ≤ (put1 s bound bit).width * 256; omega⟩⟩
        · omega
      · go_wp2
        go_end0
        have hk := hk.out
        rcases hk with ⟨rfl, rfl⟩ | ⟨rfl, rfl, hw⟩
        · exact ⟨rfl, by rw [putS, renorm, if_neg (by omega)]; exact ho, hbb⟩
        · exact ⟨rfl, ho, hbb⟩
end Go.Proofs.Ytedcficjmogohaa

/- The walks over chances, and Bit, of package coder's writer. -/
namespace Go.Proofs.Ytedcficjmogohaa
set_option linter.unusedVariables false
set_option linter.unusedSimpArgs false
set_option maxRecDepth 100000
open Go.RowKit

theorem of_any (n : Int) (w : World) (h0 : -1024 ≤ n) (h1 : n ≤ 1024) :
    Calls Try.prog 71 #[.agg #[.int .i64 n]] w fun e w' => e = .returned (.int .i64 (n + 1024)) ∧ Below w.heap.size w w' := by
  go_enter Try.func71, Try.ntmps71
  go_wp2
  go_ret
  exact ⟨rfl, (Below.refl _ _).alloc (Nat.le_refl _) _⟩

def sawN (n bit : Int) : Int := if bit = 0 then n + (1024 - n) / 32 else n - (n + 1024) / 32

set_option maxHeartbeats 800000 in
theorem saw_any (g off : Nat) (cs : Array Value) (n bit : Int) (B : Nat) (R : HP) [Loc B R] (w : World) (hB : B ≤ w.heap.size)
    (hO : Own B (Bk g 106 cs * R) w) (hc : cs[off]? = some (.int .i64 n)) (h0 : -1024 ≤ n) (h1 : n ≤ 1024) :
    Calls Try.prog 72 #[.pointer (some ⟨g, off, none⟩), .int .i64 bit] w (Ret B w (.tuple #[]) (Bk g 106 (cs.setIfInBounds off (.int .i64 (sawN n bit))) * R)) := by
  have hgt := hO.bk.2.2
  by_cases hb : bit = 0
  · subst hb
    go_enter Try.func72, Try.ntmps72
    go_wp2_with fail
    refine wp_region_mix (St B (Bk g 106 cs * R) w) [0, 1, 2, 3, 4, 5, 6, 7, 8, 9, 10, 11, 12] [13] mixed (by kernel_rfl) rfl (St.drew hB hO) ?_
    simp only [List.filterMap_cons, List.filterMap_nil, List.getElem?_toArray, List.getElem?_cons_succ, List.getElem?_cons_zero]
    repeat (first
      | (refine held_val ?_ rfl (fun w1 hS => ?_) ?_
         rotate_left
         · (have k0 := (hS.2.1.cell off).trans hc
            go_simp
            try go_bits
            rfl)
         simp only [Act.put, List.setIfInBounds_toArray, List.set_cons_zero, List.set_cons_succ])
      | (refine held_off rfl ?_
         simp only [Act.put, List.setIfInBounds_toArray, List.set_cons_zero, List.set_cons_succ]))
    refine held_call 71 #[.agg #[.int .i64 n]] (.int .i64 (n + 1024)) rfl (fun w1 hS => by go_simp) (fun w1 hS => (of_any n _ h0 h1).mono ?_) ?_
    · rintro e w2 ⟨rfl, hb⟩
      exact ⟨rfl, hS.grown hb⟩
    simp only [Act.put, List.setIfInBounds_toArray, List.set_cons_zero, List.set_cons_succ]
    repeat (first
      | (refine held_val ?_ rfl (fun w1 hS => ?_) ?_
         rotate_left
         · (have k0 := (hS.2.1.cell off).trans hc
            go_simp
            try go_bits
            rfl)
         simp only [Act.put, List.setIfInBounds_toArray, List.set_cons_zero, List.set_cons_succ])
      | (refine held_off rfl ?_
         simp only [Act.put, List.setIfInBounds_toArray, List.set_cons_zero, List.set_cons_succ]))
    refine held_nil (fun w1 hS => ?_)
    obtain ⟨k2, k3, k4⟩ := hS
    have k0 := (k3.cell off).trans hc
    have k1 := k3.unfrozen off
    have e0 : n + (2048 - (n + 1024)) / 32 = sawN n 0 := by simp only [sawN, if_true]; omega
    go_wp2
    refine bodyPost_ret (results_none rfl _ _ _) rfl ?_
    exact ⟨rfl, k3.set k2 off _, k4.trans (k3.below_set off _)⟩
  · have hbb : (bit == 0) = false := by simpa using hb
    go_enter Try.func72, Try.ntmps72
    go_wp2_with fail
    refine wp_region_mix (St B (Bk g 106 cs * R) w) [0, 1, 2, 3, 4, 5, 6, 7, 8, 9, 10, 11] [12] mixed (by kernel_rfl) rfl (St.drew hB hO) ?_
    simp only [List.filterMap_cons, List.filterMap_nil, List.getElem?_toArray, List.getElem?_cons_succ, List.getElem?_cons_zero]
    repeat (first
      | (refine held_val ?_ rfl (fun w1 hS => ?_) ?_
         rotate_left
         · (have k0 := (hS.2.1.cell off).trans hc
            go_simp
            try go_bits
            rfl)
         simp only [Act.put, List.setIfInBounds_toArray, List.set_cons_zero, List.set_cons_succ])
      | (refine held_off rfl ?_
         simp only [Act.put, List.setIfInBounds_toArray, List.set_cons_zero, List.set_cons_succ]))
    refine held_call 71 #[.agg #[.int .i64 n]] (.int .i64 (n + 1024)) rfl (fun w1 hS => by go_simp) (fun w1 hS => (of_any n _ h0 h1).mono ?_) ?_
    · rintro e w2 ⟨rfl, hb⟩
      exact ⟨rfl, hS.grown hb⟩
    simp only [Act.put, List.setIfInBounds_toArray, List.set_cons_zero, List.set_cons_succ]
    repeat (first
      | (refine held_val ?_ rfl (fun w1 hS => ?_) ?_
         rotate_left
         · (have k0 := (hS.2.1.cell off).trans hc
            go_simp
            try go_bits
            rfl)
         simp only [Act.put, List.setIfInBounds_toArray, List.set_cons_zero, List.set_cons_succ])
      | (refine held_off rfl ?_
         simp only [Act.put, List.setIfInBounds_toArray, List.set_cons_zero, List.set_cons_succ]))
    refine held_nil (fun w1 hS => ?_)
    obtain ⟨k2, k3, k4⟩ := hS
    have k0 := (k3.cell off).trans hc
    have k1 := k3.unfrozen off
    have e0 : n - (n + 1024) / 32 = sawN n bit := by simp only [sawN, if_neg hb]
    go_wp2
    go_end0
    exact ⟨rfl, k3.set k2 off _, k4.trans (k3.below_set off _)⟩

set_option maxHeartbeats 800000 in
/-- Bit of a writer that is not done. -/
theorem bit_live (p g off : Nat) (s : WS) (cs : Array Value) (n bit : Int) (B : Nat) (R : HP) [Loc B R] (w : World) (hB : B ≤ w.heap.size) (hok : s.ok) (hdn : s.dn = false)
    (hO : Own B (Wr p s * (Bk g 106 cs * R)) w) (hc : cs[off]? = some (.int .i64 n)) (h0 : -993 ≤ n) (h1 : n ≤ 993) (hw : 16777216 ≤ s.width) (b2 : s.low + s.width < 8589934592) (b3 : (s.out.length : Int) + s.full + 1 ≤ 1099511627776) :
    Calls Try.prog 55 #[.pointer (some ⟨p, 0, none⟩), .pointer (some ⟨g, off, none⟩), .int .i64 bit] w
      (Ret B w (.tuple #[]) (Wr p (putS s (s.width / 2048 * (n + 1024)) bit) * (Bk g 106 (cs.setIfInBounds off (.int .i64 (sawN n bit))) * R))) := by
  have Hok := Lib.hid hok
  obtain ⟨l0, l1, w0, w1, t0, t1, f0, sz⟩ := hok
  obtain ⟨v, hV⟩ := hO.hex
  have hV := hV.assoc
  have c6 : w.cell? ⟨p, 6, none⟩ = some (.bool false) := by rw [hV.cell 6, ← hdn]; rfl
  have k0 := ((hV.cast (show _ = Bk g 106 cs * (Bk p _ (wsCells v s) * (Rw _ _ v _ _ * R)) by ac_rfl)).cell off).trans hc
  have m0 : 31 ≤ n + 1024 := by omega
  have m1 : n + 1024 ≤ 2017 := by omega
  have q0 : 8192 ≤ s.width / 2048 := by omega
  have q1 : s.width / 2048 < 2097152 := by omega
  have q2 : 65536 ≤ s.width / 2048 * (n + 1024) := by
    have := Int.mul_le_mul q0 m0 (by omega) (by omega); omega
  have q3 : s.width / 2048 * (n + 1024) + 65536 ≤ s.width := by
    have : s.width / 2048 * (n + 1024) ≤ s.width / 2048 * 2017 := Int.mul_le_mul_of_nonneg_left m1 (by omega)
    omega
  go_enter Try.func55, Try.ntmps55
  go_wp2_with fail
  clear c6 k0
  refine wp_region_mix (St B (Bk p 101 (wsCells v s) * (Rw 5 1 v s.out.length (bytesV s.out) * (Bk g 106 cs * R))) w) [0, 1, 2, 3, 4, 5, 6, 7, 8, 9, 10, 11, 12] [13] mixed (by kernel_rfl) rfl (St.drew hB hV) ?_
  simp only [List.filterMap_cons, List.filterMap_nil, List.getElem?_toArray, List.getElem?_cons_succ, List.getElem?_cons_zero]
  repeat (first
    | (refine held_val ?_ rfl (fun w1 hS => ?_) ?_
       rotate_left
       · (have c2 : w1.cell? ⟨p, 2, none⟩ = some (.int .u64 s.width) := hS.2.1.cell 2; have k0 := ((hS.2.1.cast (show _ = Bk g 106 cs * (Bk p _ (wsCells v s) * (Rw _ _ v _ _ * R)) by ac_rfl)).cell off).trans hc
          go_simp
          try go_bits
          rfl)
       simp only [Act.put, List.setIfInBounds_toArray, List.set_cons_zero, List.set_cons_succ])
    | (refine held_off rfl ?_
       simp only [Act.put, List.setIfInBounds_toArray, List.set_cons_zero, List.set_cons_succ]))
  refine held_call 71 #[.agg #[.int .i64 n]] (.int .i64 (n + 1024)) rfl (fun w1 hS => by go_simp) (fun w1 hS => (of_any n _ (by omega) (by omega)).mono ?_) ?_
  · rintro e w2 ⟨rfl, hb⟩
    exact ⟨rfl, hS.grown hb⟩
  simp only [Act.put, List.setIfInBounds_toArray, List.set_cons_zero, List.set_cons_succ]
  repeat (first
    | (refine held_val ?_ rfl (fun w1 hS => ?_) ?_
       rotate_left
       · (skip
          go_simp
          try go_bits
          rfl)
       simp only [Act.put, List.setIfInBounds_toArray, List.set_cons_zero, List.set_cons_succ])
    | (refine held_off rfl ?_
       simp only [Act.put, List.setIfInBounds_toArray, List.set_cons_zero, List.set_cons_succ]))
  refine held_nil (fun w1 hS => ?_)
  obtain ⟨k2, k3, k4⟩ := hS
  have o1 := (k3.assoc').to_hex (A := fun v => WrV p v s) v
  go_wp2_with (first
    | (go_at_call 70
       refine (put_any p s _ bit B (Bk g 106 cs * R) w1 k2 Hok.out o1 q2 q3 b2 b3).mono ?_
       rintro e w2 ⟨rfl, o2, b4⟩
       have B2 : B ≤ w2.heap.size := Nat.le_trans k2 b4.size)
    | (go_at_call 72
       refine (saw_any g off cs n bit B (Wr p (putS s (s.width / 2048 * (n + 1024)) bit) * R) w2 B2 (o2.cast (sep_left_comm _ _ _)) hc (by omega) (by omega)).mono ?_
       rintro e w3 ⟨rfl, o3, b5⟩))
  go_end0
  exact ⟨rfl, o3.cast (sep_left_comm _ _ _), (k4.trans b4).trans b5⟩

/-- Bit of a writer that is done, or of one that is not there, or of no chance. -/
theorem bit_done (p g off : Nat) (s : WS) (bit : Int) (B : Nat) (R : HP) [Loc B R] (w : World) (hdn : s.dn = true) (hO : Own B (Wr p s * R) w) :
    Calls Try.prog 55 #[.pointer (some ⟨p, 0, none⟩), .pointer (some ⟨g, off, none⟩), .int .i64 bit] w fun e w' => e = .returned (.tuple #[]) ∧ w = w' := by
  obtain ⟨v, hV⟩ := hO.hex
  have hV := hV.assoc
  have c6 : w.cell? ⟨p, 6, none⟩ = some (.bool true) := by rw [hV.cell 6, ← hdn]; rfl
  go_enter Try.func55, Try.ntmps55
  go_wp2
  refine bodyPost_ret (results_none rfl _ _ _) rfl ?_
  exact ⟨rfl, rfl⟩
theorem bit_nil (c : Option Addr) (bit : Int) (w : World) :
    Calls Try.prog 55 #[.pointer none, .pointer c, .int .i64 bit] w fun e w' => e = .returned (.tuple #[]) ∧ w = w' := by
  go_enter Try.func55, Try.ntmps55
  go_wp2
  refine bodyPost_ret (results_none rfl _ _ _) rfl ?_
  exact ⟨rfl, rfl⟩
theorem bit_noc (p : Nat) (bit : Int) (w : World) :
    Calls Try.prog 55 #[.pointer (some ⟨p, 0, none⟩), .pointer none, .int .i64 bit] w fun e w' => e = .returned (.tuple #[]) ∧ w = w' := by
  go_enter Try.func55, Try.ntmps55
  go_wp2
  refine bodyPost_ret (results_none rfl _ _ _) rfl ?_
  exact ⟨rfl, rfl⟩
end Go.Proofs.Ytedcficjmogohaa

/- The walks over Even, Tree and End of package coder's writer. -/
namespace Go.Proofs.Ytedcficjmogohaa
set_option linter.unusedVariables false
set_option linter.unusedSimpArgs false
set_option maxRecDepth 100000
open Go.RowKit

/-- A writer that goes on, with room for so many more bytes. -/
structure WS.live (s : WS) (room : Int) : Prop where
  ok : s.ok
  dn : s.dn = false
  wide : 16777216 ≤ s.width
  sum : s.low + s.width < 8589934592
  room : (s.out.length : Int) + s.full + room ≤ 1099511627776

theorem WS.live.less {s : WS} {r r' : Int} (h : s.live r) (hr : r' ≤ r) : s.live r' := ⟨h.ok, h.dn, h.wide, h.sum, by have := h.room; omega⟩

theorem shiftS_len (s : WS) (h : 0 ≤ s.full) : ((shiftS s).out.length : Int) + (shiftS s).full ≤ s.out.length + s.full + 1 := by
  unfold shiftS
  split
  · show ((((if s.sm then s.out ++ [(s.wait + carryOf s) % 256] else s.out) ++ List.replicate s.full.toNat ((255 + carryOf s) % 256)).length : Nat) : Int) + 0 ≤ _
    rw [List.length_append, List.length_replicate]
    split <;> simp <;> omega
  · show (s.out.length : Int) + (s.full + 1) ≤ _; omega
theorem shiftS_low (s : WS) : (shiftS s).low = (s.low * 256) % 4294967296 := by unfold shiftS; split <;> rfl
theorem shiftS_dn (s : WS) : (shiftS s).dn = s.dn := by unfold shiftS; split <;> rfl

theorem put1_ok {s : WS} {bound : Int} (bit : Int) {r : Int} (h : s.live (r + 1)) (b0 : 65536 ≤ bound) (b1 : bound + 65536 ≤ s.width) :
    (put1 s bound bit).ok ∧ 65536 ≤ (put1 s bound bit).width ∧ (put1 s bound bit).width < 4294967296 ∧ (put1 s bound bit).low + (put1 s bound bit).width < 8589934592 ∧ (put1 s bound bit).out = s.out ∧ (put1 s bound bit).full = s.full ∧ (put1 s bound bit).dn = s.dn := by
  obtain ⟨⟨l0, l1, w0, w1, t0, t1, f0, sz⟩, dn, hw, hs, hr⟩ := h
  unfold put1
  by_cases h : bit = 0
  · rw [if_pos h]; exact ⟨⟨l0, l1, by show 0 ≤ bound; omega, by show bound < _; omega, t0, t1, f0, sz⟩, b0, by show bound < _; omega, by show s.low + bound < _; omega, rfl, rfl, rfl⟩
  · rw [if_neg h]; exact ⟨⟨by show 0 ≤ s.low + bound; omega, by show s.low + bound < _; omega, by show 0 ≤ s.width - bound; omega, by show s.width - bound < _; omega, t0, t1, f0, sz⟩, by show 65536 ≤ s.width - bound; omega, by show s.width - bound < _; omega, by show s.low + bound + (s.width - bound) < _; omega, rfl, rfl, rfl⟩

theorem shift_live {t : WS} {r : Int} (hr : 0 ≤ r) (ok : t.ok) (dn : t.dn = false) (hw : 16777216 ≤ t.width) (hz : (t.out.length : Int) + t.full + 1 + r ≤ 1099511627776) : (shiftS t).live r := by
  have h1 := shiftS_len t ok.full0
  refine ⟨shiftS_ok ok ok.low1 (by omega), by rw [shiftS_dn]; exact dn, by rw [shiftS_width]; exact hw, ?_, by omega⟩
  rw [shiftS_width, shiftS_low]
  have := ok.width1
  omega

theorem putS_live {s : WS} {bound : Int} (bit : Int) {r : Int} (hr : 0 ≤ r) (h : s.live (r + 1)) (b0 : 65536 ≤ bound) (b1 : bound + 65536 ≤ s.width) : (putS s bound bit).live r := by
  obtain ⟨k0, k1, k2, k3, k4, k5, k6⟩ := put1_ok bit h b0 b1
  have hdn := h.dn
  have hrm := h.room
  unfold putS renorm
  split
  · rename_i hlt
    obtain ⟨l0, l1, w0, w1, t0, t1, f0, sz⟩ := k0
    refine shift_live hr ⟨l0, l1, by show 0 ≤ _ * 256; omega, by show _ * 256 < _; omega, t0, t1, f0, sz⟩ (k6.trans hdn) (by show _ ≤ (put1 s bound bit).width * 256; omega) ?_
    show ((put1 s bound bit).out.length : Int) + (put1 s bound bit).full + 1 + r ≤ _
    rw [k4, k5]; omega
  · exact ⟨k0, k6.trans hdn, by omega, k3, by rw [k4, k5]; omega⟩

theorem i64_and_one (x : Int) : bits .and .i64 x 1 = x % 2 := by
  show IntKind.i64.wrap ((BitVec.ofInt 64 x &&& BitVec.ofInt 64 1).toNat : Int) = _
  rw [BitVec.toNat_and, show (BitVec.ofInt 64 1).toNat = 1 from rfl, Nat.and_one_is_mod, BitVec.toNat_ofInt, IntKind.wrap_i64]
  omega
/-- Bit number k of n. -/
def bitOf (n : Int) (k : Nat) : Int := n / 2 ^ k % 2
/-- The lowest m bits of n, the highest first. -/
def bitsOf (n : Int) (m : Nat) : List Int := (List.range m).reverse.map (bitOf n)
theorem bitsOf_succ (n : Int) (m : Nat) : bitsOf n (m + 1) = bitOf n m :: bitsOf n m := by
  unfold bitsOf; rw [List.range_succ, List.reverse_append]; rfl
def evenS (s : WS) (l : List Int) : WS := l.foldl (fun s b => putS s (s.width / 2) b) s

set_option maxHeartbeats 800000 in
theorem even_live (p : Nat) (s : WS) (n : Int) (m : Nat) (hm : m ≤ 32) (n0 : -9223372036854775808 ≤ n) (n1 : n ≤ 9223372036854775807) (r : Int) (hr : 0 ≤ r) (B : Nat) (R : HP) [Loc B R] (w : World) (hB : B ≤ w.heap.size) (hl : s.live (r + m)) (hO : Own B (Wr p s * R) w) :
    Calls Try.prog 59 #[.pointer (some ⟨p, 0, none⟩), .int .i64 n, .int .i64 (m : Int)] w (Ret B w (.tuple #[]) (Wr p (evenS s (bitsOf n m)) * R)) := by
  obtain ⟨v, hV⟩ := hO.hex
  have hV := hV.assoc
  have c6 : w.cell? ⟨p, 6, none⟩ = some (.bool false) := by rw [hV.cell 6, ← hl.dn]; rfl
  go_enter Try.func59, Try.ntmps59
  go_wp2
  clear c6 hV
  go_loopg [6] m (fun k i wr => ∃ s' : WS, i = .int .i64 ((k : Int) - 1) ∧ k ≤ m ∧ Own B (Wr p s' * R) wr ∧ Below B w wr ∧ s'.live (r + k) ∧ Hid (evenS s (bitsOf n m) = evenS s' (bitsOf n k)))
  case atStart => exact ⟨s, rfl, Nat.le_refl _, hO, Below.refl _ _, hl, rfl⟩
  case round =>
    obtain ⟨s', rfl, hk, ho, hbb, hl', he⟩ := hrel
    have Bw : B ≤ wr.heap.size := Nat.le_trans hB hbb.size
    by_cases hk0 : gk = 0
    · subst hk0
      go_wp2
      go_end0
      rw [he.out]
      exact ⟨rfl, ho, hbb⟩
    · obtain ⟨j, rfl⟩ : ∃ j, gk = j + 1 := ⟨gk - 1, by omega⟩
      have Hl := Lib.hid hl'
      have j0 : (0 : Int) ≤ (j : Int) := by omega
      have j1 : (j : Int) ≤ 31 := by omega
      clear hl hl'
      have e1 : ((j + 1 : Nat) : Int) - 1 = (j : Int) := by omega
      rw [e1]
      obtain ⟨v', hV⟩ := ho.hex
      have hV := hV.assoc
      clear e1
      go_wp2
      refine wp_region_mix (St B (Bk p 101 (wsCells v' s') * (Rw 5 1 v' s'.out.length (bytesV s'.out) * R)) wr) [0, 1, 2, 3, 4, 5, 6, 7, 8, 9] [10] mixed (by kernel_rfl) rfl (St.drew Bw hV) ?_
      simp only [List.filterMap_cons, List.filterMap_nil, List.getElem?_toArray, List.getElem?_cons_succ, List.getElem?_cons_zero]
      have hbit : bits .and .i64 (n / 2 ^ j) 1 = bitOf n j := i64_and_one _
      have w2 : 0 ≤ s'.width := by have := Hl.out.wide; omega
      have w3 : s'.width < 4294967296 := Hl.out.ok.width1
      repeat (first
        | (refine held_val ?_ rfl (fun w1 hS => ?_) ?_
           rotate_left
           · (have c2 : w1.cell? ⟨p, 2, none⟩ = some (.int .u64 s'.width) := hS.2.1.cell 2
              go_simp
              try go_bits
              rfl)
           simp only [Act.put, List.setIfInBounds_toArray, List.set_cons_zero, List.set_cons_succ])
        | (refine held_off rfl ?_
           simp only [Act.put, List.setIfInBounds_toArray, List.set_cons_zero, List.set_cons_succ]))
      refine held_nil (fun w1 hS => ?_)
      obtain ⟨k2, k3, k4⟩ := hS
      have o1 := (k3.assoc').to_hex (A := fun v => WrV p v s') v'
      have Hz : Hid (65536 ≤ s'.width / 2 ∧ s'.width / 2 + 65536 ≤ s'.width) := by have := Hl.out.wide; exact ⟨by omega, by omega⟩
      go_wp2_with (go_at_call 70; refine (put_any p s' (s'.width / 2) (bitOf n j) B R w1 k2 Hl.out.ok o1 Hz.out.1 Hz.out.2 Hl.out.sum (by have := Hl.out.room; omega)).mono ?_; rintro e w4 ⟨rfl, o4, b4⟩)
      go_roundg j
      case measure => omega
      case rel => exact ⟨_, rfl, by omega, o4, (hbb.trans k4).trans b4, putS_live _ (by omega) (Hl.out.less (by omega)) Hz.out.1 Hz.out.2, by rw [he.out, bitsOf_succ]; rfl⟩

theorem even_done (p : Nat) (s : WS) (n bits : Int) (B : Nat) (R : HP) [Loc B R] (w : World) (hdn : s.dn = true) (hO : Own B (Wr p s * R) w) :
    Calls Try.prog 59 #[.pointer (some ⟨p, 0, none⟩), .int .i64 n, .int .i64 bits] w fun e w' => e = .returned (.tuple #[]) ∧ w = w' := by
  obtain ⟨v, hV⟩ := hO.hex
  have hV := hV.assoc
  have c6 : w.cell? ⟨p, 6, none⟩ = some (.bool true) := by rw [hV.cell 6, ← hdn]; rfl
  go_enter Try.func59, Try.ntmps59
  go_wp2
  refine bodyPost_ret (results_none rfl _ _ _) rfl ?_
  exact ⟨rfl, rfl⟩
theorem even_nil (n bits : Int) (w : World) :
    Calls Try.prog 59 #[.pointer none, .int .i64 n, .int .i64 bits] w fun e w' => e = .returned (.tuple #[]) ∧ w = w' := by
  go_enter Try.func59, Try.ntmps59
  go_wp2
  refine bodyPost_ret (results_none rfl _ _ _) rfl ?_
  exact ⟨rfl, rfl⟩
end Go.Proofs.Ytedcficjmogohaa

/- The walk over Tree of package coder's writer. -/
namespace Go.Proofs.Ytedcficjmogohaa
set_option linter.unusedVariables false
set_option linter.unusedSimpArgs false
set_option maxRecDepth 100000
open Go.RowKit

/-- Chances, as what is kept of each (how likely 0 is, less half). -/
def chV (cl : List Int) : Array Value := (cl.map (Value.int .i64)).toArray
def chOk (cl : List Int) : Prop := ∀ n ∈ cl, -993 ≤ n ∧ n ≤ 993
theorem chV_get (cl : List Int) (i : Nat) (h : i < cl.length) : (chV cl)[i]? = some (.int .i64 (cl.getD i 0)) := by
  simp [chV, h]
theorem chV_set (cl : List Int) (i : Nat) (x : Int) : (chV cl).setIfInBounds i (.int .i64 x) = chV (cl.set i x) := by
  simp [chV, List.map_set]
theorem chV_size (cl : List Int) : (chV cl).size = cl.length := by simp [chV]
theorem sawN_ok (n bit : Int) (h : -993 ≤ n ∧ n ≤ 993) : -993 ≤ sawN n bit ∧ sawN n bit ≤ 993 := by
  unfold sawN; split <;> omega
theorem chOk_get {cl : List Int} (h : chOk cl) (i : Nat) : -993 ≤ cl.getD i 0 ∧ cl.getD i 0 ≤ 993 := by
  rw [List.getD_eq_getElem?_getD]
  cases hi : cl[i]? with
  | none => simp
  | some x => exact h x (List.mem_of_getElem? hi)
theorem chOk_set {cl : List Int} (h : chOk cl) (i : Nat) (x : Int) (hx : -993 ≤ x ∧ x ≤ 993) : chOk (cl.set i x) := fun n hn => by
  rcases List.mem_or_eq_of_mem_set hn with h1 | h1
  · exact h n h1
  · rw [h1]; exact hx

def bitBound (s : WS) (n : Int) : Int := s.width / 2048 * (n + 1024)
theorem bitBound_in {s : WS} {n : Int} {r : Int} (h : s.live r) (hn : -993 ≤ n ∧ n ≤ 993) : 65536 ≤ bitBound s n ∧ bitBound s n + 65536 ≤ s.width := by
  have hw := h.wide
  have hw1 := h.ok.width1
  have q0 : 8192 ≤ s.width / 2048 := by omega
  have q1 : s.width / 2048 < 2097152 := by omega
  unfold bitBound
  constructor
  · have := Int.mul_le_mul q0 (show 31 ≤ n + 1024 by omega) (by omega) (by omega); omega
  · have : s.width / 2048 * (n + 1024) ≤ s.width / 2048 * 2017 := Int.mul_le_mul_of_nonneg_left (by omega) (by omega)
    omega
theorem bit_any (p g off : Nat) (s : WS) (cl : List Int) (bit : Int) {r : Int} (hr : 0 ≤ r) (B : Nat) (R : HP) [Loc B R] (w : World) (hB : B ≤ w.heap.size) (hl : s.live (r + 1)) (hc : chOk cl) (hoff : off < cl.length)
    (hO : Own B (Wr p s * (Bk g 106 (chV cl) * R)) w) :
    Calls Try.prog 55 #[.pointer (some ⟨p, 0, none⟩), .pointer (some ⟨g, off, none⟩), .int .i64 bit] w
      (Ret B w (.tuple #[]) (Wr p (putS s (bitBound s (cl.getD off 0)) bit) * (Bk g 106 (chV (cl.set off (sawN (cl.getD off 0) bit))) * R))) := by
  have h := bit_live p g off s (chV cl) (cl.getD off 0) bit B R w hB hl.ok hl.dn hO (chV_get cl off hoff) (chOk_get hc off).1 (chOk_get hc off).2 hl.wide hl.sum (by have := hl.room; omega)
  rw [chV_set] at h
  exact h

/-- Bits put, each of the chance at a place by what was ahead. -/
def treeS (s : WS) (cl : List Int) (at_ : Nat) : List Int → WS × List Int
  | [] => (s, cl)
  | b :: l => treeS (putS s (bitBound s (cl.getD at_ 0)) b) (cl.set at_ (sawN (cl.getD at_ 0) b)) (2 * at_ + b.toNat) l

theorem bitOf_01 (n : Int) (k : Nat) : bitOf n k = 0 ∨ bitOf n k = 1 := by unfold bitOf; generalize n / 2 ^ k = x; omega
theorem i64_or_bit (a : Nat) (b : Int) (ha : a < 1000000) (hb : b = 0 ∨ b = 1) : bits .or .i64 ((a : Int) * 2) b = ((2 * a + b.toNat : Nat) : Int) := by
  have e : (a : Int) * 2 = ((2 * a : Nat) : Int) := by omega
  have h : ∀ c : Nat, c < 2 → bits .or .i64 ((2 * a : Nat) : Int) (c : Int) = ((2 * a + c : Nat) : Int) := by
    intro c hc
    show IntKind.i64.wrap ((BitVec.ofInt 64 ((2 * a : Nat) : Int) ||| BitVec.ofInt 64 (c : Int)).toNat : Int) = _
    rw [BitVec.toNat_or, BitVec.toNat_ofInt, BitVec.toNat_ofInt, IntKind.wrap_i64, show ((((2 * a : Nat) : Int) % ((2 ^ 64 : Nat) : Int)).toNat) = 2 * a by omega, show (((c : Int) % ((2 ^ 64 : Nat) : Int)).toNat) = c by omega,
      show (2 * a) ||| c = 2 * a + c by
        have h2 := Nat.two_pow_add_eq_or_of_lt (i := 1) (b := c) (by omega) a
        rw [Nat.pow_one] at h2
        exact h2.symm]
    omega
  rw [e]
  rcases hb with rfl | rfl
  · exact h 0 (by omega)
  · exact h 1 (by omega)

set_option maxHeartbeats 1600000 in
theorem tree_live (p g : Nat) (s : WS) (cl : List Int) (n : Int) (m : Nat) (hm : m ≤ 16) (hlen : 2 ^ m ≤ cl.length) (hlm : cl.length ≤ 131072) (n0 : -9223372036854775808 ≤ n) (n1 : n ≤ 9223372036854775807) (r : Int) (hr : 0 ≤ r) (B : Nat) (R : HP) [Loc B R] (w : World) (hB : B ≤ w.heap.size)
    (hl : s.live (r + m)) (hc : chOk cl) (hO : Own B (Wr p s * (Bk g 106 (chV cl) * R)) w) (cap : Nat) :
    Calls Try.prog 56 #[.pointer (some ⟨p, 0, none⟩), .slice (some ⟨g, 0, none⟩) cl.length cap, .int .i64 n, .int .i64 (m : Int)] w
      (Ret B w (.tuple #[]) (Wr p (treeS s cl 1 (bitsOf n m)).1 * (Bk g 106 (chV (treeS s cl 1 (bitsOf n m)).2) * R))) := by
  have Hc := Lib.hid hc
  have Hl0 := Lib.hid hl
  have hpow : (2 : Int) ^ m ≤ (cl.length : Int) := by exact_mod_cast hlen
  have hpow1 : (1 : Int) ≤ 2 ^ m := by have := Nat.one_le_two_pow (n := m); exact_mod_cast this
  have hlm' : (cl.length : Int) ≤ 131072 := by omega
  clear hc hl hlen
  go_enter Try.func56, Try.ntmps56
  go_wp2
  go_loopg [8, 9] m (fun k a i wr => ∃ (s' : WS) (cl' : List Int) (at_ : Nat), a = .int .i64 (at_ : Int) ∧ i = .int .i64 ((k : Int) - 1) ∧ k ≤ m ∧ at_ < 2 ^ (m - k + 1) ∧ cl'.length = cl.length ∧ Own B (Wr p s' * (Bk g 106 (chV cl') * R)) wr ∧ Below B w wr ∧ s'.live (r + k) ∧ chOk cl' ∧
    Hid (treeS s cl 1 (bitsOf n m) = treeS s' cl' at_ (bitsOf n k)))
  case atStart => exact ⟨s, cl, 1, rfl, rfl, Nat.le_refl _, by rw [Nat.sub_self]; decide, rfl, hO, Below.refl _ _, Hl0.out, Hc.out, rfl⟩
  case round =>
    obtain ⟨s', cl', at_, rfl, rfl, hk, ha, hcl, ho, hbb, hl', hc', he⟩ := hrel
    have Bw : B ≤ wr.heap.size := Nat.le_trans hB hbb.size
    by_cases hk0 : gk = 0
    · subst hk0
      go_wp2
      go_end0
      rw [he.out]
      exact ⟨rfl, ho, hbb⟩
    · obtain ⟨j, rfl⟩ : ∃ j, gk = j + 1 := ⟨gk - 1, by omega⟩
      have hat : at_ < cl.length := by
        have : 2 ^ (m - (j + 1) + 1) ≤ 2 ^ m := Nat.pow_le_pow_right (by omega) (by omega)
        have : 2 ^ m ≤ cl.length := by exact_mod_cast hpow
        omega
      have Hl := Lib.hid hl'
      have Hc2 := Lib.hid hc'
      have Ha := Lib.hid ha
      have Hcl := Lib.hid hcl
      clear hl' hc' ha hcl
      have j0 : (0 : Int) ≤ (j : Int) := by omega
      have j1 : (j : Int) ≤ 15 := by omega
      have a0 : (0 : Int) ≤ (at_ : Int) := by omega
      have a1 : (at_ : Int) < (cl.length : Int) := by omega
      have hbit : bits .and .i64 (n / 2 ^ j) 1 = bitOf n j := i64_and_one _
      have hor : bits .or .i64 ((at_ : Int) * 2) (bitOf n j) = ((2 * at_ + (bitOf n j).toNat : Nat) : Int) := i64_or_bit at_ _ (by omega) (bitOf_01 n j)
      have e1 : ((j + 1 : Nat) : Int) - 1 = (j : Int) := by omega
      rw [e1]
      clear e1
      go_wp2_with (go_at_call 55; refine (bit_any p g at_ s' cl' (bitOf n j) (r := r + j) (by omega) B R wr Bw (Hl.out.less (by omega)) Hc2.out (by rw [Hcl.out]; exact hat) ho).mono ?_; rintro e w4 ⟨rfl, o4, b4⟩)
      go_roundg j
      case measure => omega
      case rel =>
        refine ⟨_, _, 2 * at_ + (bitOf n j).toNat, congrArg (Value.int .i64) (by omega), rfl, by omega, ?_, by rw [List.length_set]; exact Hcl.out, o4, hbb.trans b4, putS_live _ (by omega) (Hl.out.less (by omega)) (bitBound_in Hl.out (chOk_get Hc2.out at_)).1 (bitBound_in Hl.out (chOk_get Hc2.out at_)).2, chOk_set Hc2.out _ _ (sawN_ok _ _ (chOk_get Hc2.out at_)), by rw [he.out, bitsOf_succ]; rfl⟩
        have h1 := Ha.out
        have h2 := bitOf_01 n j
        rw [show m - j + 1 = (m - (j + 1) + 1) + 1 by omega, Nat.pow_succ]
        omega

theorem tree_nil (A : Option Addr) (len cap : Nat) (n bits : Int) (w : World) :
    Calls Try.prog 56 #[.pointer none, .slice A len cap, .int .i64 n, .int .i64 bits] w fun e w' => e = .returned (.tuple #[]) ∧ w = w' := by
  go_enter Try.func56, Try.ntmps56
  go_wp2
  refine bodyPost_ret (results_none rfl _ _ _) rfl ?_
  exact ⟨rfl, rfl⟩
theorem tree_short (p : Nat) (A : Option Addr) (len cap m : Nat) (n : Int) (hm : m ≤ 16) (hlen : len < 2 ^ m) (w : World) :
    Calls Try.prog 56 #[.pointer (some ⟨p, 0, none⟩), .slice A len cap, .int .i64 n, .int .i64 (m : Int)] w fun e w' => e = .returned (.tuple #[]) ∧ w = w' := by
  have hpow : (len : Int) < (2 : Int) ^ m := by exact_mod_cast hlen
  have hpow1 : (1 : Int) ≤ 2 ^ m := by have := Nat.one_le_two_pow (n := m); exact_mod_cast this
  have e2 : ((2 ^ m : Nat) : Int) = (2 : Int) ^ m := by simp
  have h2 : 2 ^ m ≤ 65536 := Nat.le_trans (Nat.pow_le_pow_right (by omega) hm) (by decide)
  have hpow2 : (2 : Int) ^ m ≤ 65536 := by rw [← e2]; omega
  clear e2 h2
  go_enter Try.func56, Try.ntmps56
  go_wp2
  refine bodyPost_ret (results_none rfl _ _ _) rfl ?_
  exact ⟨rfl, rfl⟩
end Go.Proofs.Ytedcficjmogohaa

/- The walks over Begin, Chances and End of package coder. -/
namespace Go.Proofs.Ytedcficjmogohaa
set_option linter.unusedVariables false
set_option linter.unusedSimpArgs false
set_option maxRecDepth 100000
open Go.RowKit

def begin0 : WS := ⟨[], 0, 4294967295, 0, 0, false, false⟩
theorem begin0_live (r : Int) (hr : r ≤ 1099511627776) (_h0 : 0 ≤ r) : begin0.live r :=
  ⟨⟨by decide, by decide, by decide, by decide, by decide, by decide, by decide, by decide⟩, rfl, by decide, by decide, by show ((0 : Nat) : Int) + 0 + r ≤ _; omega⟩

theorem begin_any (B : Nat) (R : HP) [Loc B R] (w : World) (hB : B ≤ w.heap.size) (hO : Own B R w) :
    Calls Try.prog 30 #[] w fun e w' => ∃ p, Ret B w (.pointer (some ⟨p, 0, none⟩)) (Wr p begin0 * R) e w' := by
  go_enter Try.func30, Try.ntmps30
  go_wp2
  go_ret
  have h1 := hO.new hB 101 (wsCells (.slice none 0 0) begin0)
  have h2 := h1.rw_nil 5 1
  have h3 : Own B (WrV w.heap.size (.slice none 0 0) begin0 * R) (w.alloc (.cells (wsCells (.slice none 0 0) begin0) 101)) := (h2.cast (sep_left_comm _ _ _)).assoc'
  exact ⟨w.heap.size, rfl, h3.to_hex (A := fun v => WrV _ v begin0) _, (Below.refl B w).alloc hB _⟩

theorem info_chance : (Try.prog.info? 106).map (fun i => (i.zero, i.size, i.bytes)) = some (some (.agg #[.int .i64 0]), 1, 8) := by kernel_rfl
theorem made_chances (k : Nat) : madeCells (Value.agg #[.int .i64 0]).cells (k * 1) = chV (List.replicate k 0) := by
  apply Array.ext'
  show (madeCells #[.int .i64 0] (k * 1)).toList = _
  rw [Nat.mul_one, toList_madeCells_one]
  simp [chV]

theorem run_make_chances (k : Nat) (hk : k ≤ 131072) (W : World) : (Instr.makeSlice 94 (.int .i64 (k : Int)) (.int .i64 (k : Int))).run Try.prog W = .ok (.slice (some ⟨W.heap.size, 0, none⟩) k k) (W.alloc (.cells (chV (List.replicate k 0)) 106)) := by
  obtain ⟨i0, hi, hz0, hz1, hz2⟩ := info_parts info_chance
  have h := run_make (P := Try.prog) W 94 106 i0 _ Try.underlying94 hi hz0 .i64 .i64 k k (by omega) (Int.le_refl _) (by rw [hz2]; omega) (by omega)
  rw [hz1] at h
  simp only [Int.toNat_natCast, made_chances] at h
  exact h

/-- Chances(n), n from 0 to 2^17. -/
theorem chances_any (k : Nat) (n : Int) (hn : n = (k : Int)) (hk : k ≤ 131072) (B : Nat) (R : HP) [Loc B R] (w : World) (hB : B ≤ w.heap.size) (hO : Own B R w) :
    Calls Try.prog 54 #[.int .i64 n] w fun e w' => ∃ g, Ret B w (.slice (some ⟨g, 0, none⟩) k k) (Bk g 106 (chV (List.replicate k 0)) * R) e w' := by
  subst hn
  have hmk := run_make_chances k hk
  have h0 : ¬ (k : Int) < 0 := by omega
  have h1 : ¬ (131072 : Int) < k := by omega
  go_enter Try.func54, Try.ntmps54
  go_wp2
  go_ret
  exact ⟨w.heap.size, rfl, hO.new hB _ _, (Below.refl B w).alloc hB _⟩

/-- Chances(n), n below 0. -/
theorem chances_neg (n : Int) (hn : n < 0) (B : Nat) (R : HP) [Loc B R] (w : World) (hB : B ≤ w.heap.size) (hO : Own B R w) :
    Calls Try.prog 54 #[.int .i64 n] w fun e w' => ∃ g, Ret B w (.slice (some ⟨g, 0, none⟩) 0 0) R e w' := by
  have hmk : ∀ W : World, (Instr.makeSlice 94 (.int .i64 0) (.int .i64 0)).run Try.prog W = .ok (.slice (some ⟨W.heap.size, 0, none⟩) 0 0) (W.alloc (.cells (chV []) 106)) := run_make_chances 0 (by omega)
  go_enter Try.func54, Try.ntmps54
  go_wp2
  go_ret
  exact ⟨w.heap.size, rfl, hO.alloc_keep hB _, (Below.refl B w).alloc hB _⟩
end Go.Proofs.Ytedcficjmogohaa

/- The walks over slices.Clone of bytes, and End of package coder's writer. -/
namespace Go.Proofs.Ytedcficjmogohaa
set_option linter.unusedVariables false
set_option linter.unusedSimpArgs false
set_option maxRecDepth 100000
open Go.RowKit

theorem clone_bytes (v : Value) (l : List Int) (w : World) (hr : Rd w v (bytesV l)) (hl : l.length ≤ 140737488355328) :
    Calls Try.prog 42 #[v] w fun e w' => ∃ v', e = .returned v' ∧ w'.ownsRow w.heap.size 5 1 v' l.length (bytesV l) ∧ Below w.heap.size w w' := by
  obtain ⟨i0, hi, hz0, hz1, hz2⟩ := info_parts info5
  obtain ⟨A, c, rfl, hr⟩ := hr
  have hlen : (bytesV l).length = l.length := by simp [bytesV]
  rcases A with _ | ad
  · obtain rfl : l = [] := by
      cases l with
      | nil => rfl
      | cons x l => obtain ⟨ad, h, _⟩ := hr (by simp [bytesV]); cases h
    have he := fun W : World => Lib.run_eql_slice_nil_nil (P := Try.prog) W (t := 22) (e := 5) 0 c Try.underlying22
    show Calls _ _ #[.slice none 0 c] _ _
    go_enter Try.func42, Try.ntmps42
    go_wp2
    go_ret
    exact ⟨.slice none 0 0, rfl, World.ownsRow_nil _ _ _ _, Below.refl _ _⟩
  · have hc : ∀ j u, (bytesV l)[j]? = some u → w.cell? (ad.add j) = some u := by
      intro j u hu
      obtain ⟨ad', h, hcc⟩ := hr (by intro e; rw [e] at hu; cases hu)
      injection h with h
      subst h
      exact hcc j u hu
    clear hr
    obtain ⟨v', w', hrun, ho, hg, _, hat⟩ := run_append_own_at (P := Try.prog) (w.alloc (.cells #[] 5)) w.heap.size 22 22 5 i0 _ 1 1 Try.underlying22 hi hz0 hz1 hz2 rfl (by omega)
      (.slice (some ⟨w.heap.size, 0, none⟩) 0 0) 0 [] ⟨rfl, .inr ⟨w.heap.size, 0, #[], rfl, Nat.le_refl _, heap_alloc_new w _, Nat.le_refl _, by unfold maxLen; omega, rfl, rfl⟩⟩ ad l.length c (bytesV l) (by rw [hlen]; omega)
      (fun j u hu => by
        have h1 := hc j u hu
        rw [World.cell?_alloc_lt _ _ _ (World.block_lt_of_cell? w _ h1)]
        exact h1)
      (by intro u hu; obtain ⟨x, _, rfl⟩ := List.mem_map.1 hu; rfl) (by unfold maxLen; omega) (by omega) (by simp)
    have hbe : Below w.heap.size w w' := ((Below.refl _ w).alloc (Nat.le_refl _) _).grown hg (by simp) (fun k hk => by simp [Value.ownBlock] at hk; omega)
    rw [List.nil_append, Nat.zero_add] at ho
    clear hc
    have he := fun W : World => Lib.run_eql_slice_some_nil (P := Try.prog) W (t := 22) (e := 5) ad (bytesV l).length c Try.underlying22
    rw [hlen] at he ⊢
    go_enter Try.func42, Try.ntmps42
    go_wp2_with (at_builtin; refine wpList_append_run rfl (.tmp 5) (.tmp 6) 22 rfl rfl rfl hrun ?_)
    go_ret
    exact ⟨v', rfl, ho, hbe⟩

def shiftN : Nat → WS → WS
  | 0, s => s
  | k + 1, s => shiftN k (shiftS s)
theorem shiftN_succ : ∀ (k : Nat) (s : WS), shiftN (k + 1) s = shiftS (shiftN k s)
  | 0, _ => rfl
  | k + 1, s => shiftN_succ k (shiftS s)
def endS (s : WS) : WS := shiftS { shiftN 4 { s with dn := true } with low := 0 }

structure WS.okr (s : WS) (r : Int) : Prop where
  ok : s.ok
  room : (s.out.length : Int) + s.full + r ≤ 1099511627776
theorem shiftS_okr {s : WS} {r : Int} (hr : 0 ≤ r) (h : s.okr (r + 1)) : (shiftS s).okr r := by
  have h1 := shiftS_len s h.ok.full0
  have h2 := h.room
  exact ⟨shiftS_ok h.ok h.ok.low1 (by omega), by omega⟩

set_option maxHeartbeats 800000 in
/-- End, told the first time. -/
theorem end_live (p : Nat) (s : WS) (B : Nat) (R : HP) [Loc B R] (w : World) (hB : B ≤ w.heap.size) (hl : s.okr 6) (hdn : s.dn = false) (hO : Own B (Wr p s * R) w) :
    Calls Try.prog 35 #[.pointer (some ⟨p, 0, none⟩)] w fun e w' => ∃ v, Ret B w v (Rw 5 1 v (endS s).out.length (bytesV (endS s).out) * (Wr p (endS s) * R)) e w' := by
  obtain ⟨v, hV⟩ := hO.hex
  have hV := hV.assoc
  have c6 : w.cell? ⟨p, 6, none⟩ = some (.bool false) := by rw [hV.cell 6, ← hdn]; rfl
  have z6 := hV.unfrozen 6
  have h1 := (((hV.set hB 6 (.bool true)).assoc').to_hex (A := fun v => WrV p v { s with dn := true }) v)
  have b1 := hV.below_set 6 (.bool true)
  have l1 : WS.okr { s with dn := true } 6 := ⟨⟨hl.ok.low0, hl.ok.low1, hl.ok.width0, hl.ok.width1, hl.ok.wait0, hl.ok.wait1, hl.ok.full0, hl.ok.size⟩, hl.room⟩
  have Hl := Lib.hid l1
  clear l1 hl
  go_enter Try.func35, Try.ntmps35
  go_wp2
  clear c6 z6
  go_loopg [13] 4 (fun k i wr => k ≤ 4 ∧ i = .int .i64 (4 - (k : Int)) ∧ ∃ s' : WS, Own B (Wr p s' * R) wr ∧ Below B w wr ∧ s'.okr (2 + k) ∧ Hid (shiftN k s' = shiftN 4 { s with dn := true }))
  case atStart => exact ⟨Nat.le_refl _, rfl, _, h1, b1, Hl.out, rfl⟩
  case round =>
    obtain ⟨hk, rfl, s', ho, hbb, hl', he⟩ := hrel
    have Bw : B ≤ wr.heap.size := Nat.le_trans hB hbb.size
    have Hl2 := Lib.hid hl'
    clear hl'
    by_cases hk0 : gk = 0
    · subst hk0
      obtain ⟨v', hV'⟩ := ho.hex
      have hV' := hV'.assoc
      have z1 := hV'.unfrozen 1
      have c1 : wr.cell? ⟨p, 1, none⟩ = some (.int .u64 s'.low) := hV'.cell 1
      have o2 := ((hV'.set Bw 1 (.int .u64 0)).assoc').to_hex (A := fun v => WrV p v { s' with low := 0 }) v'
      have b2 := hV'.below_set 1 (.int .u64 0)
      have ok2 : WS.okr { s' with low := 0 } 2 := ⟨⟨by show (0 : Int) ≤ 0; omega, by show (0 : Int) < _; omega, Hl2.out.ok.width0, Hl2.out.ok.width1, Hl2.out.ok.wait0, Hl2.out.ok.wait1, Hl2.out.ok.full0, Hl2.out.ok.size⟩, Hl2.out.room⟩
      have Hl3 := Lib.hid ok2
      clear ok2
      have B2 : B ≤ (wr.setCell ⟨p, 1, none⟩ (.int .u64 0)).heap.size := by simpa [World.setCell] using Bw
      go_wp2_with (first
        | (go_at_call 60
           refine (shift_any p { s' with low := 0 } B R _ B2 Hl3.out.ok o2).mono ?_
           rintro e w3 ⟨rfl, o3, b3⟩
           obtain ⟨v3, hV3⟩ := o3.hex
           have hV3 := hV3.assoc
           have c0 : w3.cell? ⟨p, 0, none⟩ = some v3 := hV3.cell 0
           have B3 : B ≤ w3.heap.size := Nat.le_trans B2 b3.size
           have hrd := (hV3.cast (sep_left_comm _ _ _)).rd)
        | (go_at_call 42
           refine (clone_bytes v3 (shiftS { s' with low := 0 }).out w3 hrd (by have := (shiftS_okr (r := 1) (by omega) Hl3.out).room; have := (shiftS_okr (r := 1) (by omega) Hl3.out).ok.full0; omega)).mono ?_
           rintro e w4 ⟨v4, rfl, o4, b4⟩))
      go_ret
      have hen : shiftS { s' with low := 0 } = endS s := by rw [endS, ← he.out]; rfl
      rw [hen] at o4
      exact ⟨v4, rfl, Own.fresh B3 (by rw [← hen]; exact o3) o4 b4, ((hbb.trans b2).trans b3).trans (b4.mono B3)⟩
    · obtain ⟨j, rfl⟩ : ∃ j, gk = j + 1 := ⟨gk - 1, by omega⟩
      go_wp2_with (go_at_call 60; refine (shift_any p s' B R _ Bw Hl2.out.ok ho).mono ?_; rintro e w3 ⟨rfl, o3, b3⟩)
      go_roundg j
      case measure => omega
      case rel => exact ⟨by omega, congrArg (Value.int .i64) (by omega), _, o3, hbb.trans b3, shiftS_okr (by omega) ⟨Hl2.out.ok, by have := Hl2.out.room; omega⟩, by rw [← he.out]; rfl⟩
end Go.Proofs.Ytedcficjmogohaa

/- The walks over the reader of package coder: next, Open. -/
namespace Go.Proofs.Ytedcficjmogohaa
set_option linter.unusedVariables false
set_option linter.unusedSimpArgs false
set_option maxRecDepth 100000
open Go.RowKit

/-- A slice that reads as these cells; its block is owned, but for nothing. -/
def Rq (v : Value) (xs : List Value) : HP := fun w F => ∃ A c, v = .slice A xs.length c ∧ xs.length ≤ c ∧ c ≤ maxLen ∧ (xs ≠ [] → ∃ b off, A = some ⟨b, off, none⟩ ∧ F b ∧ ∀ j u, xs[j]? = some u → w.cell? ⟨b, off + j, none⟩ = some u)
instance Loc.rq {B : Nat} {v : Value} {xs : List Value} : Loc B (Rq v xs) where
  keep := fun w w' F h _ ⟨A, c, hv, h1, h2, hr⟩ => ⟨A, c, hv, h1, h2, fun hne => by
    obtain ⟨b, off, hA, hF, hc⟩ := hr hne
    exact ⟨b, off, hA, hF, fun j u hu => (World.cell?_of_block (a := ⟨b, off + j, none⟩) (h b hF)).trans (hc j u hu)⟩⟩
  up := fun w F F' h ⟨A, c, hv, h1, h2, hr⟩ => ⟨A, c, hv, h1, h2, fun hne => by
    obtain ⟨b, off, hA, hF, hc⟩ := hr hne
    exact ⟨b, off, hA, h b hF, hc⟩⟩
theorem Own.rq_of_rw {B : Nat} {R : HP} {w : World} {e : TypeId} {v : Value} {n : Nat} {xs : List Value} (h : Own B (Rw e 1 v n xs * R) w) : Own B (Rq v xs * R) w := by
  refine h.mono fun w F ⟨F1, F2, hd, h1, h2, ⟨ho, hb⟩, hr⟩ => ⟨F1, F2, hd, h1, h2, ?_, hr⟩
  have hl : xs.length = n := by have := ho.1; omega
  rcases ho.2 with ⟨rfl, hn⟩ | ⟨g, cap, cur, rfl, _, hh, hc1, hc2, _⟩
  · subst hn
    obtain rfl : xs = [] := List.eq_nil_of_length_eq_zero hl
    exact ⟨none, 0, rfl, Nat.le_refl _, by unfold maxLen; omega, fun h => absurd rfl h⟩
  · refine ⟨_, cap, by rw [hl], by omega, hc2, fun _ => ⟨g, 0, rfl, hb g (by simp [Value.ownBlock]), fun j u hu => ?_⟩⟩
    have := ho.cells (g := g) rfl j u hu
    rwa [Addr.add_lit] at this

/-- 's[1:]' of a slice of bytes that is not empty. -/
theorem run_tail (b off n c : Nat) (h : n + 1 ≤ c) : ∃ off', (0 < n → off' = off + 1) ∧ ∀ W : World, (Instr.sliceAt 22 (.slice (some ⟨b, off, none⟩) (n + 1) c) (some (.int .i64 1)) none none).run Try.prog W = .ok (.slice (some ⟨b, off', none⟩) n (c - 1)) W := by
  refine ⟨if c = 1 then off else off + 1, fun hn => by rw [if_neg (by omega)], fun W => ?_⟩
  rw [run_sliceAt_slice W 22 _ _ _ _ (by kernel_rfl), run_slice_l W 22 _ _ _ (by kernel_rfl) .i64 1 (by omega) (by omega)]
  go_simp
  all_goals
    by_cases hc : c = 1
    · subst hc
      first | done | rfl | simp
    · first | done | (simp [hc, Addr.add]; done) | (simp [hc])

structure RS where
  rem : List Int
  n : Int
  width : Int
  e : Int

def rsCells (v : Value) (s : RS) : Array Value := #[v, .int .u64 s.n, .int .u64 s.width, .int .i64 s.e]
def ReV (p : Nat) (v : Value) (s : RS) : HP := Bk p 116 (rsCells v s) * Rq v (bytesV s.rem)
def Re (p : Nat) (s : RS) : HP := Hex fun v => ReV p v s
instance {B p : Nat} {s : RS} : Loc B (Re p s) := inferInstanceAs (Loc B (Hex fun v => Bk p _ _ * Rq _ _))

def nextS (s : RS) : RS := match s.rem with
  | [] => { s with e := 2, n := s.n * 256 % 18446744073709551616 }
  | c :: l => { s with rem := l, n := s.n * 256 % 18446744073709551616 + c }

structure RS.ok (s : RS) : Prop where
  bytes : ∀ c ∈ s.rem, 0 ≤ c ∧ c ≤ 255
  n0 : 0 ≤ s.n
  n1 : s.n < 18446744073709551616
  width0 : 0 ≤ s.width
  width1 : s.width < 4294967296

theorem wrap_u64 (n : Int) : IntKind.u64.wrap n = n % 18446744073709551616 := by simp [IntKind.wrap, IntKind.bits, IntKind.signed]
theorem u64_or_byte (n c : Int) (h0 : 0 ≤ n) (hc : 0 ≤ c ∧ c ≤ 255) : bits .or .u64 (n * 256 % 18446744073709551616) c = n * 256 % 18446744073709551616 + c := by
  rw [u64_or _ _ (Int.emod_nonneg _ (by omega)) (Int.emod_lt_of_pos _ (by omega)) hc.1 (by omega)]
  have h2 := Nat.two_pow_add_eq_or_of_lt (i := 8) (b := c.toNat) (by omega) ((n * 256 % 18446744073709551616).toNat / 256)
  have e : 2 ^ 8 * ((n * 256 % 18446744073709551616).toNat / 256) = (n * 256 % 18446744073709551616).toNat := by omega
  rw [e] at h2
  rw [← h2]
  omega

set_option maxHeartbeats 800000 in
theorem next_short (p : Nat) (s : RS) (B : Nat) (R : HP) [Loc B R] (w : World) (hB : B ≤ w.heap.size) (hok : s.ok) (hnil : s.rem = []) (hO : Own B (Re p s * R) w) :
    Calls Try.prog 66 #[.pointer (some ⟨p, 0, none⟩)] w (Ret B w (.tuple #[]) (Re p (nextS s) * R)) := by
  obtain ⟨rem, n, width, e⟩ := s
  obtain ⟨hb, n0, n1, w0, w1⟩ := hok
  simp only at hb n0 n1 w0 w1 hnil
  subst hnil
  obtain ⟨v, hV⟩ := hO.hex
  have hV := hV.assoc
  obtain ⟨A, c, rfl, -⟩ : ∃ A c, v = .slice A 0 c ∧ True := by
    obtain ⟨F, hf, F1, F2, hd, h1, h2, ha, F3, F4, hd', h3, h4, ⟨A, c, hv, _⟩, _⟩ := hV
    exact ⟨A, c, hv, trivial⟩
  have c0 : w.cell? ⟨p, 0, none⟩ = some (.slice A 0 c) := hV.cell 0
  have c1 : w.cell? ⟨p, 1, none⟩ = some (.int .u64 n) := hV.cell 1
  have z3 := hV.unfrozen 3
  have z1 := hV.unfrozen 1
  have c3 : w.cell? ⟨p, 3, none⟩ = some (.int .i64 e) := hV.cell 3
  go_enter Try.func66, Try.ntmps66
  go_wp2
  go_end0
  have e3 := hV.set hB 3 (.int .i64 2)
  have fin : ∀ x : Int, x = n * 256 % 18446744073709551616 → Ret B w (.tuple #[]) (Re p (nextS ⟨[], n, width, e⟩) * R) (.returned (.tuple #[])) ((w.setCell ⟨p, 3, none⟩ (.int .i64 2)).setCell ⟨p, 1, none⟩ (.int .u64 x)) := by
    rintro x rfl
    have e1 := e3.set (by simpa [World.setCell] using hB) 1 (.int .u64 (n * 256 % 18446744073709551616))
    exact ⟨rfl, (e1.assoc').to_hex (A := fun v => ReV p v (nextS ⟨[], n, width, e⟩)) (.slice A 0 c), (hV.below_set 3 _).trans (e3.below_set 1 _)⟩
  refine fin _ ?_
  have := u64_or_byte n 0 n0 (by omega)
  rw [wrap_u64]
  simpa using this

set_option maxHeartbeats 800000 in
theorem next_some (p : Nat) (s : RS) (x : Int) (l : List Int) (B : Nat) (R : HP) [Loc B R] (w : World) (hB : B ≤ w.heap.size) (hok : s.ok) (hrem : s.rem = x :: l) (hO : Own B (Re p s * R) w) :
    Calls Try.prog 66 #[.pointer (some ⟨p, 0, none⟩)] w (Ret B w (.tuple #[]) (Re p (nextS s) * R)) := by
  obtain ⟨rem, n, width, e⟩ := s
  obtain ⟨hb, n0, n1, w0, w1⟩ := hok
  simp only at hb n0 n1 w0 w1 hrem
  subst hrem
  have hx := hb x List.mem_cons_self
  obtain ⟨v, hV⟩ := hO.hex
  have hV := hV.assoc
  obtain ⟨b, off, c, rfl, hc1, hc2, hall⟩ : ∃ b off c, v = .slice (some ⟨b, off, none⟩) (l.length + 1) c ∧ l.length + 1 ≤ c ∧ c ≤ maxLen ∧ (∀ w' , Own B (Bk p 116 (rsCells v ⟨x :: l, n, width, e⟩) * (Rq v (bytesV (x :: l)) * R)) w' → w'.cell? ⟨b, off, none⟩ = some (.int .u8 x)) := by
    have key : ∀ w', Own B (Bk p 116 (rsCells v ⟨x :: l, n, width, e⟩) * (Rq v (bytesV (x :: l)) * R)) w' → ∃ b off c, v = .slice (some ⟨b, off, none⟩) (l.length + 1) c ∧ l.length + 1 ≤ c ∧ c ≤ maxLen ∧ w'.cell? ⟨b, off, none⟩ = some (.int .u8 x) := by
      rintro w' ⟨F, hf, F1, F2, hd, h1, h2, ha, F3, F4, hd', h3, h4, ⟨A, c, hv, hl1, hl2, hr⟩, _⟩
      obtain ⟨b, off, rfl, hF, hcc⟩ := hr (by simp [bytesV])
      exact ⟨b, off, c, by simpa [bytesV] using hv, by simpa [bytesV] using hl1, hl2, hcc 0 _ rfl⟩
    obtain ⟨b, off, c, hv, h1, h2, h3⟩ := key w hV
    refine ⟨b, off, c, hv, h1, h2, fun w' hw' => ?_⟩
    obtain ⟨b', off', c', hv', _, _, h3'⟩ := key w' hw'
    rw [hv] at hv'
    injection hv' with e1 _ _
    injection e1 with e1
    injection e1 with e1 e2
    subst e1; subst e2
    exact h3'
  unfold maxLen at hc2
  obtain ⟨off', hoff, hsl⟩ := run_tail b off l.length c hc1
  have Hoff := Lib.hid hoff
  clear hoff
  have c0 : w.cell? ⟨p, 0, none⟩ = some (.slice (some ⟨b, off, none⟩) (l.length + 1) c) := hV.cell 0
  have c1 : w.cell? ⟨p, 1, none⟩ = some (.int .u64 n) := hV.cell 1
  go_enter Try.func66, Try.ntmps66
  go_wp2
  refine wp_region_mix (St B (Bk p 116 (rsCells (.slice (some ⟨b, off, none⟩) (l.length + 1) c) ⟨x :: l, n, width, e⟩) * (Rq (.slice (some ⟨b, off, none⟩) (l.length + 1) c) (bytesV (x :: l)) * R)) w) [0, 1, 2, 3, 4, 5, 6, 7, 8, 9, 10, 11, 12, 13, 14] [15] mixed (by kernel_rfl) rfl (St.drew hB hV) ?_
  simp only [List.filterMap_cons, List.filterMap_nil, List.getElem?_toArray, List.getElem?_cons_succ, List.getElem?_cons_zero]
  repeat (first
    | (refine held_val ?_ rfl (fun w1 hS => ?_) ?_
       rotate_left
       · (have c0 : w1.cell? ⟨p, 0, none⟩ = some (.slice (some ⟨b, off, none⟩) (l.length + 1) c) := hS.2.1.cell 0; have c1 := hall _ hS.2.1
          go_simp
          try go_bits
          rfl)
       simp only [Act.put, List.setIfInBounds_toArray, List.set_cons_zero, List.set_cons_succ])
    | (refine held_off rfl ?_
       simp only [Act.put, List.setIfInBounds_toArray, List.set_cons_zero, List.set_cons_succ]))
  refine held_nil (fun w1 hS => ?_)
  obtain ⟨k2, k3, k4⟩ := hS
  have c0 : w1.cell? ⟨p, 0, none⟩ = some (.slice (some ⟨b, off, none⟩) (l.length + 1) c) := k3.cell 0
  have z0 := k3.unfrozen 0
  have c1 : w1.cell? ⟨p, 1, none⟩ = some (.int .u64 n) := k3.cell 1
  have z1 := k3.unfrozen 1
  go_wp2
  go_end0
  have e0 := k3.set k2 0 (.slice (some ⟨b, off', none⟩) l.length (c - 1))
  have fin : ∀ y : Int, y = n * 256 % 18446744073709551616 + x → Ret B w (.tuple #[]) (Re p (nextS ⟨x :: l, n, width, e⟩) * R) (.returned (.tuple #[])) ((w1.setCell ⟨p, 0, none⟩ (.slice (some ⟨b, off', none⟩) l.length (c - 1))).setCell ⟨p, 1, none⟩ (.int .u64 y)) := by
    rintro y rfl
    have e1 := e0.set (by simpa [World.setCell] using k2) 1 (.int .u64 (n * 256 % 18446744073709551616 + x))
    refine ⟨rfl, ?_, (k4.trans (k3.below_set 0 _)).trans (e0.below_set 1 _)⟩
    have e2 : Own B (ReV p (.slice (some ⟨b, off', none⟩) l.length (c - 1)) (nextS ⟨x :: l, n, width, e⟩) * R) ((w1.setCell ⟨p, 0, none⟩ (.slice (some ⟨b, off', none⟩) l.length (c - 1))).setCell ⟨p, 1, none⟩ (.int .u64 (n * 256 % 18446744073709551616 + x))) := by
      refine Own.assoc' (e1.mono fun W F h => ?_)
      obtain ⟨F1, F2, hd, h1, h2, ha, F3, F4, hd', h3, h4, ⟨A, c', hv, hl1, hl2, hr⟩, hrr⟩ := h
      refine ⟨F1, F2, hd, h1, h2, ha, F3, F4, hd', h3, h4, ⟨some ⟨b, off', none⟩, c - 1, by simp [bytesV, nextS], by simp [bytesV, nextS]; omega, by unfold maxLen; omega, fun hne => ?_⟩, hrr⟩
      obtain ⟨b', off2, hA, hF, hcc⟩ := hr (by simp [bytesV])
      injection hv with hv1 _ _
      rw [hA] at hv1
      injection hv1 with hv1
      injection hv1 with q1 q2
      subst q1; subst q2
      have hn : 0 < l.length := by
        cases l with
        | nil => exact absurd rfl hne
        | cons _ _ => simp
      refine ⟨b, off', rfl, hF, fun j u hu => ?_⟩
      rw [Hoff.out hn, show off + 1 + j = off + (j + 1) by omega]
      exact hcc (j + 1) u (by simpa [bytesV, nextS] using hu)
    exact e2.to_hex (A := fun v => ReV p v (nextS ⟨x :: l, n, width, e⟩)) _
  refine fin _ ?_
  first | rw [wrap_u64, u64_or_byte n x n0 hx] | exact u64_or_byte n x n0 hx

theorem next_any (p : Nat) (s : RS) (B : Nat) (R : HP) [Loc B R] (w : World) (hB : B ≤ w.heap.size) (hok : s.ok) (hO : Own B (Re p s * R) w) :
    Calls Try.prog 66 #[.pointer (some ⟨p, 0, none⟩)] w (Ret B w (.tuple #[]) (Re p (nextS s) * R)) := by
  cases hr : s.rem with
  | nil => exact next_short p s B R w hB hok hr hO
  | cons x l => exact next_some p s x l B R w hB hok hr hO

theorem nextS_ok {s : RS} (h : s.ok) : (nextS s).ok := by
  obtain ⟨rem, n, width, e⟩ := s
  obtain ⟨hb, n0, n1, w0, w1⟩ := h
  simp only at hb n0 n1 w0 w1
  cases rem with
  | nil => exact ⟨hb, by show 0 ≤ n * 256 % _; omega, by show n * 256 % _ < _; omega, w0, w1⟩
  | cons x l =>
    have hx := hb x List.mem_cons_self
    exact ⟨fun c hc => hb c (List.mem_cons_of_mem _ hc), by show 0 ≤ n * 256 % _ + x; omega, by show n * 256 % _ + x < _; omega, w0, w1⟩
end Go.Proofs.Ytedcficjmogohaa

/- The walks over Open, Err, Left and take of package coder's reader. -/
namespace Go.Proofs.Ytedcficjmogohaa
set_option linter.unusedVariables false
set_option linter.unusedSimpArgs false
set_option maxRecDepth 100000
open Go.RowKit

def open0 (l : List Int) : RS := ⟨l, 0, 4294967295, 0⟩
def nextN : Nat → RS → RS
  | 0, s => s
  | k + 1, s => nextN k (nextS s)
def openS (l : List Int) : RS := nextN 4 (open0 l)
theorem nextN_ok : ∀ (k : Nat) (s : RS), s.ok → (nextN k s).ok
  | 0, _, h => h
  | k + 1, s, h => nextN_ok k _ (nextS_ok h)

theorem row_slice {w : World} {b : Nat} {e : TypeId} {size : Nat} {v : Value} {n : Nat} {xs : List Value} (h : w.ownsRow b e size v n xs) : ∃ A m c, v = .slice A m c := by
  rcases h.2 with ⟨rfl, _⟩ | ⟨g, cap, cur, rfl, _⟩
  · exact ⟨_, _, _, rfl⟩
  · exact ⟨_, _, _, rfl⟩
def bytesOk (l : List Int) : Prop := ∀ c ∈ l, 0 ≤ c ∧ c ≤ 255

set_option maxHeartbeats 800000 in
theorem open_any (v : Value) (l : List Int) (hb : bytesOk l) (B : Nat) (R : HP) [Loc B R] (w : World) (hB : B ≤ w.heap.size) (hr : Rd w v (bytesV l)) (hl : l.length ≤ 1099511627776) (hO : Own B R w) :
    Calls Try.prog 50 #[v] w fun e w' => ∃ p, Ret B w (.pointer (some ⟨p, 0, none⟩)) (Re p (openS l) * R) e w' := by
  have hcl := clone_bytes v l w hr (by omega)
  have ok0 : (open0 l).ok := ⟨hb, by show (0 : Int) ≤ 0; omega, by show (0 : Int) < _; omega, by show (0 : Int) ≤ 4294967295; omega, by show (4294967295 : Int) < _; omega⟩
  have Hok := Lib.hid ok0
  clear ok0
  go_enter Try.func50, Try.ntmps50
  go_wp2_with (go_at_call 42; refine hcl.mono ?_; rintro e w1 ⟨v1, rfl, ho, hbe⟩; obtain ⟨A1, m1, q1, rfl⟩ := row_slice ho)
  have o1 := (Own.fresh hB hO ho hbe).rq_of_rw
  have B1 : B ≤ w1.heap.size := Nat.le_trans hB hbe.size
  have o2 := ((o1.new B1 116 (rsCells (.slice A1 m1 q1) (open0 l))).assoc').to_hex (A := fun v => ReV w1.heap.size v (open0 l)) (.slice A1 m1 q1)
  have b2 : Below B w (w1.alloc (.cells (rsCells (.slice A1 m1 q1) (open0 l)) 116)) := (hbe.mono hB).alloc B1 _
  have Hb := Lib.hid hb
  have Hr := Lib.hid hr
  clear hb hr hcl
  go_loopg [8] 4 (fun k i wr => k ≤ 4 ∧ i = .int .i64 (4 - (k : Int)) ∧ ∃ s' : RS, Own B (Re w1.heap.size s' * R) wr ∧ Below B w wr ∧ s'.ok ∧ Hid (nextN k s' = openS l))
  case atStart => exact ⟨Nat.le_refl _, rfl, _, o2, b2, Hok.out, rfl⟩
  case round =>
    obtain ⟨hk, rfl, s', ho, hbb, hl', he⟩ := hrel
    have Bw : B ≤ wr.heap.size := Nat.le_trans hB hbb.size
    by_cases hk0 : gk = 0
    · subst hk0
      go_wp2
      go_ret
      rw [← he.out]
      exact ⟨w1.heap.size, rfl, ho, hbb⟩
    · obtain ⟨j, rfl⟩ : ∃ j, gk = j + 1 := ⟨gk - 1, by omega⟩
      have Hl2 := Lib.hid hl'
      clear hl'
      go_wp2_with (go_at_call 66; refine (next_any w1.heap.size s' B R _ Bw Hl2.out ho).mono ?_; rintro e w3 ⟨rfl, o3, b3⟩)
      go_roundg j
      case measure => omega
      case rel => exact ⟨by omega, congrArg (Value.int .i64) (by omega), _, o3, hbb.trans b3, nextS_ok Hl2.out, he.out⟩

def takeT (s : RS) (bound : Int) : RS := if s.n < bound then { s with width := bound } else { s with n := s.n - bound, width := s.width - bound }
def takeBit (s : RS) (bound : Int) : Int := if s.n < bound then 0 else 1
def tkN (s : RS) (bound : Int) : RS := nextS { takeT s bound with width := (takeT s bound).width * 256 }
def takeS (s : RS) (bound : Int) : RS := if (takeT s bound).width < 16777216 then tkN s bound else takeT s bound

theorem nextS_width (s : RS) : (nextS s).width = s.width := by unfold nextS; split <;> rfl
theorem tkN_width (s : RS) (bound : Int) : (tkN s bound).width = (takeT s bound).width * 256 := nextS_width _
theorem takeT_ok {s : RS} {bound : Int} (hok : s.ok) (b0 : 65536 ≤ bound) (b1 : bound + 65536 ≤ s.width) : (takeT s bound).ok ∧ 65536 ≤ (takeT s bound).width := by
  obtain ⟨hb, n0, n1, w0, w1⟩ := hok
  unfold takeT
  split
  · exact ⟨⟨hb, n0, n1, by show 0 ≤ bound; omega, by show bound < _; omega⟩, b0⟩
  · exact ⟨⟨hb, by show 0 ≤ s.n - bound; omega, by show s.n - bound < _; omega, by show 0 ≤ s.width - bound; omega, by show s.width - bound < _; omega⟩, by show 65536 ≤ s.width - bound; omega⟩

set_option maxHeartbeats 1600000 in
set_option maxRecDepth 100000 in
theorem take_low (p : Nat) (s : RS) (bound : Int) (B : Nat) (R : HP) [Loc B R] (w : World) (hB : B ≤ w.heap.size) (hok : s.ok) (hO : Own B (Re p s * R) w) (b0 : 65536 ≤ bound) (b1 : bound + 65536 ≤ s.width) (h : s.n < bound) :
    Calls Try.prog 76 #[.pointer (some ⟨p, 0, none⟩), .int .u64 bound] w (Ret B w (.int .i64 0) (Re p (takeS s bound) * R)) := by
  have Hok := Lib.hid (takeT_ok hok b0 b1)
  have hT : takeT s bound = { s with width := bound } := by unfold takeT; rw [if_pos h]
  have HT := Lib.hid hT
  clear hT
  have Hk := Lib.hid hok
  have hw1 := hok.width1
  clear hok
  obtain ⟨v, hV⟩ := hO.hex
  have hV := hV.assoc
  have c1 : w.cell? ⟨p, 1, none⟩ = some (.int .u64 s.n) := hV.cell 1
  have c2 : w.cell? ⟨p, 2, none⟩ = some (.int .u64 s.width) := hV.cell 2
  have z1 := hV.unfrozen 1
  have z2 := hV.unfrozen 2
  have d1 := hV.set hB 2 (.int .u64 bound)
  have e1 := hV.below_set 2 (.int .u64 bound)
  have d2 := d1.set (by simpa [World.setCell] using hB) 2 (.int .u64 (bound * 256))
  have e2 := d1.below_set 2 (.int .u64 (bound * 256))
  go_enter Try.func76, Try.ntmps76
  go_wp2
  refine wp_scope_jumps 0 (fun a' w' => (∃ (u2 u3 u4 u6 u7 u8 u9 u10 u11 u12 u13 u14 u15 u16 u17 u18 u19 u20 u21 u22 u23 u24 u25 u26 u27 u28 u29 u30 u31 u32 u33 u34 u35 u36 u37 u38 u39 u40 u41 u42 u43 u44 u45 u46 : Value), a' = { tmps := #[.pointer (some ⟨p, 0, none⟩), .int .u64 bound, u2, u3, u4, .int .i64 0, u6, u7, u8, u9, u10, u11, u12, u13, u14, u15, u16, u17, u18, u19, u20, u21, u22, u23, u24, u25, u26, u27, u28, u29, u30, u31, u32, u33, u34, u35, u36, u37, u38, u39, u40, u41, u42, u43, u44, u45, u46], defers := [] }) ∧ Below B w w' ∧ Own B (Re p (tkN s bound) * R) w' ∧ (takeT s bound).width < 16777216) (fun _ _ => 0) rfl ?_ ?_
  · by_cases hlt : bound < 16777216
    · have B2 : B ≤ ((w.setCell ⟨p, 2, none⟩ (.int .u64 bound)).setCell ⟨p, 2, none⟩ (.int .u64 (bound * 256))).heap.size := by simpa [World.setCell] using hB
      have o2 := (d2.assoc').to_hex (A := fun v => ReV p v { s with width := bound * 256 }) v
      have hokn : RS.ok { s with width := bound * 256 } := ⟨Hk.out.bytes, Hk.out.n0, Hk.out.n1, by show 0 ≤ bound * 256; omega, by show bound * 256 < _; omega⟩
      have Hn := Lib.hid hokn
      clear hokn
      go_wp2
      go_step3
      go_wp2_with (go_at_call 66; refine (next_any p { s with width := bound * 256 } B R _ B2 Hn.out o2).mono ?_; rintro e w3 ⟨rfl, o3, b3⟩)
      go_step3
      refine ⟨rfl, ⟨_, _, _, _, _, _, _, _, _, _, _, _, _, _, _, _, _, _, _, _, _, _, _, _, _, _, _, _, _, _, _, _, _, _, _, _, _, _, _, _, _, _, _, _, rfl⟩, ?_⟩
      exact ⟨((e1.trans e2).trans b3), by rw [tkN, HT.out]; exact o3, by rw [HT.out]; exact hlt⟩
    · have o2 := (d1.assoc').to_hex (A := fun v => ReV p v { s with width := bound }) v
      go_wp2
      go_step3
      go_wp2
      simp only [Exit.jump]
      go_ret
      exact ⟨rfl, by rw [takeS, HT.out, if_neg (by show ¬ bound < 16777216; omega)]; exact o2, e1⟩
  · rintro a' w' ⟨⟨u2, u3, u4, u6, u7, u8, u9, u10, u11, u12, u13, u14, u15, u16, u17, u18, u19, u20, u21, u22, u23, u24, u25, u26, u27, u28, u29, u30, u31, u32, u33, u34, u35, u36, u37, u38, u39, u40, u41, u42, u43, u44, u45, u46, rfl⟩, hbb, ho, hlt⟩
    have Bw : B ≤ w'.heap.size := Nat.le_trans hB hbb.size
    obtain ⟨v2, hV2⟩ := ho.hex
    have hV2 := hV2.assoc
    have q2 : w'.cell? ⟨p, 2, none⟩ = some (.int .u64 ((takeT s bound).width * 256)) := (hV2.cell 2).trans (by show some (Value.int .u64 (tkN s bound).width) = _; rw [tkN_width])
    have hge : 16777216 ≤ (takeT s bound).width * 256 := by have := Hok.out.2; omega
    have Hlt := Lib.hid hlt
    clear hlt
    go_wp2
    simp only [Exit.jump]
    go_ret
    exact ⟨rfl, by rw [takeS, if_pos Hlt.out]; exact ho, hbb⟩
end Go.Proofs.Ytedcficjmogohaa

/- The walks over take, Bit, Err and Left of package coder's reader. -/
namespace Go.Proofs.Ytedcficjmogohaa
set_option linter.unusedVariables false
set_option linter.unusedSimpArgs false
set_option maxRecDepth 100000
open Go.RowKit

set_option maxHeartbeats 1600000 in
set_option maxRecDepth 100000 in
theorem take_high (p : Nat) (s : RS) (bound : Int) (B : Nat) (R : HP) [Loc B R] (w : World) (hB : B ≤ w.heap.size) (hok : s.ok) (hO : Own B (Re p s * R) w) (b0 : 65536 ≤ bound) (b1 : bound + 65536 ≤ s.width) (h : bound ≤ s.n) :
    Calls Try.prog 76 #[.pointer (some ⟨p, 0, none⟩), .int .u64 bound] w (Ret B w (.int .i64 1) (Re p (takeS s bound) * R)) := by
  have Hok := Lib.hid (takeT_ok hok b0 b1)
  have hT : takeT s bound = { s with n := s.n - bound, width := s.width - bound } := by unfold takeT; rw [if_neg (by omega)]
  have hn0 := hok.n0
  have hn1 := hok.n1
  have HT := Lib.hid hT
  clear hT
  have Hk := Lib.hid hok
  have hw1 := hok.width1
  clear hok
  obtain ⟨v, hV⟩ := hO.hex
  have hV := hV.assoc
  have c1 : w.cell? ⟨p, 1, none⟩ = some (.int .u64 s.n) := hV.cell 1
  have c2 : w.cell? ⟨p, 2, none⟩ = some (.int .u64 s.width) := hV.cell 2
  have z1 := hV.unfrozen 1
  have z2 := hV.unfrozen 2
  have d0 := hV.set hB 1 (.int .u64 (s.n - bound))
  have e0 := hV.below_set 1 (.int .u64 (s.n - bound))
  have d1 := d0.set (by simpa [World.setCell] using hB) 2 (.int .u64 (s.width - bound))
  have e1 := d0.below_set 2 (.int .u64 (s.width - bound))
  have d2 := d1.set (by simpa [World.setCell] using hB) 2 (.int .u64 ((s.width - bound) * 256))
  have e2 := d1.below_set 2 (.int .u64 ((s.width - bound) * 256))
  go_enter Try.func76, Try.ntmps76
  go_wp2
  refine wp_scope_jumps 0 (fun a' w' => (∃ (u2 u3 u4 u6 u7 u8 u9 u10 u11 u12 u13 u14 u15 u16 u17 u18 u19 u20 u21 u22 u23 u24 u25 u26 u27 u28 u29 u30 u31 u32 u33 u34 u35 u36 u37 u38 u39 u40 u41 u42 u43 u44 u45 u46 : Value), a' = { tmps := #[.pointer (some ⟨p, 0, none⟩), .int .u64 bound, u2, u3, u4, .int .i64 1, u6, u7, u8, u9, u10, u11, u12, u13, u14, u15, u16, u17, u18, u19, u20, u21, u22, u23, u24, u25, u26, u27, u28, u29, u30, u31, u32, u33, u34, u35, u36, u37, u38, u39, u40, u41, u42, u43, u44, u45, u46], defers := [] }) ∧ Below B w w' ∧ Own B (Re p (tkN s bound) * R) w' ∧ (takeT s bound).width < 16777216) (fun _ _ => 0) rfl ?_ ?_
  · by_cases hlt : s.width - bound < 16777216
    · have B2 : B ≤ (((w.setCell ⟨p, 1, none⟩ (.int .u64 (s.n - bound))).setCell ⟨p, 2, none⟩ (.int .u64 (s.width - bound))).setCell ⟨p, 2, none⟩ (.int .u64 ((s.width - bound) * 256))).heap.size := by simpa [World.setCell] using hB
      have o2 := (d2.assoc').to_hex (A := fun v => ReV p v { s with n := s.n - bound, width := (s.width - bound) * 256 }) v
      have hokn : RS.ok { s with n := s.n - bound, width := (s.width - bound) * 256 } := ⟨Hk.out.bytes, by show 0 ≤ s.n - bound; omega, by show s.n - bound < _; omega, by show 0 ≤ (s.width - bound) * 256; omega, by show (s.width - bound) * 256 < _; omega⟩
      have Hn := Lib.hid hokn
      clear hokn
      go_wp2
      go_step3
      go_wp2_with (go_at_call 66; refine (next_any p { s with n := s.n - bound, width := (s.width - bound) * 256 } B R _ B2 Hn.out o2).mono ?_; rintro e w3 ⟨rfl, o3, b3⟩)
      go_step3
      refine ⟨rfl, ⟨_, _, _, _, _, _, _, _, _, _, _, _, _, _, _, _, _, _, _, _, _, _, _, _, _, _, _, _, _, _, _, _, _, _, _, _, _, _, _, _, _, _, _, _, rfl⟩, ?_⟩
      exact ⟨(((e0.trans e1).trans e2).trans b3), by rw [tkN, HT.out]; exact o3, by rw [HT.out]; exact hlt⟩
    · have o2 := (d1.assoc').to_hex (A := fun v => ReV p v { s with n := s.n - bound, width := s.width - bound }) v
      go_wp2
      go_step3
      go_wp2
      simp only [Exit.jump]
      go_ret
      exact ⟨rfl, by rw [takeS, HT.out, if_neg (by show ¬ s.width - bound < 16777216; omega)]; exact o2, e0.trans e1⟩
  · rintro a' w' ⟨⟨u2, u3, u4, u6, u7, u8, u9, u10, u11, u12, u13, u14, u15, u16, u17, u18, u19, u20, u21, u22, u23, u24, u25, u26, u27, u28, u29, u30, u31, u32, u33, u34, u35, u36, u37, u38, u39, u40, u41, u42, u43, u44, u45, u46, rfl⟩, hbb, ho, hlt⟩
    have Bw : B ≤ w'.heap.size := Nat.le_trans hB hbb.size
    obtain ⟨v2, hV2⟩ := ho.hex
    have hV2 := hV2.assoc
    have q2 : w'.cell? ⟨p, 2, none⟩ = some (.int .u64 ((takeT s bound).width * 256)) := (hV2.cell 2).trans (by show some (Value.int .u64 (tkN s bound).width) = _; rw [tkN_width])
    have hge : 16777216 ≤ (takeT s bound).width * 256 := by have := Hok.out.2; omega
    have Hlt := Lib.hid hlt
    clear hlt
    go_wp2
    simp only [Exit.jump]
    go_ret
    exact ⟨rfl, by rw [takeS, if_pos Hlt.out]; exact ho, hbb⟩

theorem take_any (p : Nat) (s : RS) (bound : Int) (B : Nat) (R : HP) [Loc B R] (w : World) (hB : B ≤ w.heap.size) (hok : s.ok) (hO : Own B (Re p s * R) w) (b0 : 65536 ≤ bound) (b1 : bound + 65536 ≤ s.width) :
    Calls Try.prog 76 #[.pointer (some ⟨p, 0, none⟩), .int .u64 bound] w (Ret B w (.int .i64 (takeBit s bound)) (Re p (takeS s bound) * R)) := by
  by_cases h : s.n < bound
  · have := take_low p s bound B R w hB hok hO b0 b1 h
    rwa [takeBit, if_pos h]
  · have := take_high p s bound B R w hB hok hO b0 b1 (by omega)
    rwa [takeBit, if_neg h]

structure RS.live (s : RS) : Prop where
  ok : s.ok
  wide : 16777216 ≤ s.width
theorem takeS_live {s : RS} {bound : Int} (h : s.live) (b0 : 65536 ≤ bound) (b1 : bound + 65536 ≤ s.width) : (takeS s bound).live := by
  obtain ⟨k0, k1⟩ := takeT_ok h.ok b0 b1
  unfold takeS
  split
  · refine ⟨nextS_ok ⟨k0.bytes, k0.n0, k0.n1, by show 0 ≤ (takeT s bound).width * 256; omega, by show (takeT s bound).width * 256 < _; omega⟩, by rw [tkN_width]; omega⟩
  · exact ⟨k0, by omega⟩
def rBound (s : RS) (n : Int) : Int := s.width / 2048 * (n + 1024)
theorem rBound_in {s : RS} {n : Int} (h : s.live) (hn : -993 ≤ n ∧ n ≤ 993) : 65536 ≤ rBound s n ∧ rBound s n + 65536 ≤ s.width := by
  have hw := h.wide
  have hw1 := h.ok.width1
  have q0 : 8192 ≤ s.width / 2048 := by omega
  have q1 : s.width / 2048 < 2097152 := by omega
  unfold rBound
  constructor
  · have := Int.mul_le_mul q0 (show 31 ≤ n + 1024 by omega) (by omega) (by omega); omega
  · have : s.width / 2048 * (n + 1024) ≤ s.width / 2048 * 2017 := Int.mul_le_mul_of_nonneg_left (by omega) (by omega)
    omega

set_option maxHeartbeats 800000 in
theorem rbit_any (p g off : Nat) (s : RS) (cl : List Int) (B : Nat) (R : HP) [Loc B R] (w : World) (hB : B ≤ w.heap.size) (hl : s.live) (hc : chOk cl) (hoff : off < cl.length)
    (hO : Own B (Re p s * (Bk g 106 (chV cl) * R)) w) :
    Calls Try.prog 67 #[.pointer (some ⟨p, 0, none⟩), .pointer (some ⟨g, off, none⟩)] w
      (Ret B w (.int .i64 (takeBit s (rBound s (cl.getD off 0)))) (Re p (takeS s (rBound s (cl.getD off 0))) * (Bk g 106 (chV (cl.set off (sawN (cl.getD off 0) (takeBit s (rBound s (cl.getD off 0)))))) * R))) := by
  have hcc := chV_get cl off hoff
  have hn := chOk_get hc off
  obtain ⟨n, hnn⟩ : ∃ n, n = cl.getD off 0 := ⟨_, rfl⟩
  rw [← hnn] at hcc hn ⊢
  rw [← chV_set]
  have Hn := Lib.hid hnn
  clear hnn
  have Hl := Lib.hid hl
  have hb := rBound_in hl hn
  have Hb := Lib.hid hb
  have l0 := hl.ok.width0
  have l1 := hl.ok.width1
  obtain ⟨m0, m1⟩ := hn
  have q0 : 0 ≤ s.width / 2048 := by omega
  have q1 : s.width / 2048 < 2097152 := by omega
  have q2 : s.width / 2048 * (n + 1024) = rBound s n := rfl
  have q3 : 0 ≤ s.width / 2048 * (n + 1024) := by rw [q2]; omega
  have q4 : s.width / 2048 * (n + 1024) ≤ 4294967296 := by rw [q2]; omega
  have Hq := Lib.hid q2
  clear q2 hb hl
  obtain ⟨v, hV⟩ := hO.hex
  have hV := hV.assoc
  go_enter Try.func67, Try.ntmps67
  go_wp2_with fail
  refine wp_region_mix (St B (Bk p 116 (rsCells v s) * (Rq v (bytesV s.rem) * (Bk g 106 (chV cl) * R))) w) [0, 1, 2, 3, 4, 5, 6, 7, 8, 9, 10, 11] [12, 13] mixed (by kernel_rfl) rfl (St.drew hB hV) ?_
  simp only [List.filterMap_cons, List.filterMap_nil, List.getElem?_toArray, List.getElem?_cons_succ, List.getElem?_cons_zero]
  repeat (first
    | (refine held_val ?_ rfl (fun w1 hS => ?_) ?_
       rotate_left
       · (have c2 : w1.cell? ⟨p, 2, none⟩ = some (.int .u64 s.width) := hS.2.1.cell 2; have k0 := ((hS.2.1.cast (show _ = Bk g 106 (chV cl) * (Bk p _ (rsCells v s) * (Rq v _ * R)) by ac_rfl)).cell off).trans hcc
          go_simp
          try go_bits
          rfl)
       simp only [Act.put, List.setIfInBounds_toArray, List.set_cons_zero, List.set_cons_succ])
    | (refine held_off rfl ?_
       simp only [Act.put, List.setIfInBounds_toArray, List.set_cons_zero, List.set_cons_succ]))
  refine held_call 71 #[.agg #[.int .i64 n]] (.int .i64 (n + 1024)) rfl (fun w1 hS => by go_simp) (fun w1 hS => (of_any n _ (by omega) (by omega)).mono ?_) ?_
  · rintro e w2 ⟨rfl, hb⟩
    exact ⟨rfl, hS.grown hb⟩
  simp only [Act.put, List.setIfInBounds_toArray, List.set_cons_zero, List.set_cons_succ]
  repeat (first
    | (refine held_val ?_ rfl (fun w1 hS => ?_) ?_
       rotate_left
       · (skip
          go_simp
          try go_bits
          rfl)
       simp only [Act.put, List.setIfInBounds_toArray, List.set_cons_zero, List.set_cons_succ])
    | (refine held_off rfl ?_
       simp only [Act.put, List.setIfInBounds_toArray, List.set_cons_zero, List.set_cons_succ]))
  refine held_nil (fun w1 hS => ?_)
  obtain ⟨k2, k3, k4⟩ := hS
  have o1 := (k3.assoc').to_hex (A := fun v => ReV p v s) v
  rw [Hq.out]
  go_wp2_with (first
    | (go_at_call 76
       refine (take_any p s _ B (Bk g 106 (chV cl) * R) w1 k2 Hl.out.ok o1 Hb.out.1 Hb.out.2).mono ?_
       rintro e w2 ⟨rfl, o2, b4⟩
       have B2 : B ≤ w2.heap.size := Nat.le_trans k2 b4.size)
    | (go_at_call 72
       refine (saw_any g off (chV cl) n _ B (Re p (takeS s (rBound s n)) * R) w2 B2 (o2.cast (sep_left_comm _ _ _)) hcc (by omega) (by omega)).mono ?_
       rintro e w3 ⟨rfl, o3, b5⟩))
  go_ret
  exact ⟨rfl, o3.cast (sep_left_comm _ _ _), (k4.trans b4).trans b5⟩

theorem rbit_nil (c : Option Addr) (w : World) :
    Calls Try.prog 67 #[.pointer none, .pointer c] w fun e w' => e = .returned (.int .i64 0) ∧ w = w' := by
  go_enter Try.func67, Try.ntmps67
  go_wp2
  go_ret
  exact ⟨rfl, rfl⟩

theorem err_any (p : Nat) (s : RS) (B : Nat) (R : HP) [Loc B R] (w : World) (hO : Own B (Re p s * R) w) :
    Calls Try.prog 52 #[.pointer (some ⟨p, 0, none⟩)] w fun e w' => e = .returned (.int .i64 s.e) ∧ w = w' := by
  obtain ⟨v, hV⟩ := hO.hex
  have hV := hV.assoc
  have c3 : w.cell? ⟨p, 3, none⟩ = some (.int .i64 s.e) := hV.cell 3
  go_enter Try.func52, Try.ntmps52
  go_wp2
  go_ret
  exact ⟨rfl, rfl⟩
theorem err_nil (w : World) : Calls Try.prog 52 #[.pointer none] w fun e w' => e = .returned (.int .i64 2) ∧ w = w' := by
  go_enter Try.func52, Try.ntmps52
  go_wp2
  go_ret
  exact ⟨rfl, rfl⟩
theorem left_any (p : Nat) (s : RS) (B : Nat) (R : HP) [Loc B R] (w : World) (hO : Own B (Re p s * R) w) :
    Calls Try.prog 53 #[.pointer (some ⟨p, 0, none⟩)] w fun e w' => e = .returned (.int .i64 (s.rem.length : Int)) ∧ w = w' := by
  obtain ⟨v, hV⟩ := hO.hex
  have hV := hV.assoc
  obtain ⟨A, c, rfl⟩ : ∃ A c, v = .slice A s.rem.length c := by
    obtain ⟨F, hf, F1, F2, hd, h1, h2, ha, F3, F4, hd', h3, h4, ⟨A, c, hv, _⟩, _⟩ := hV
    exact ⟨A, c, by simpa [bytesV] using hv⟩
  have c0 : w.cell? ⟨p, 0, none⟩ = some (.slice A s.rem.length c) := hV.cell 0
  go_enter Try.func53, Try.ntmps53
  go_wp2
  go_ret
  exact ⟨rfl, rfl⟩
theorem left_nil (w : World) : Calls Try.prog 53 #[.pointer none] w fun e w' => e = .returned (.int .i64 0) ∧ w = w' := by
  go_enter Try.func53, Try.ntmps53
  go_wp2
  go_ret
  exact ⟨rfl, rfl⟩
end Go.Proofs.Ytedcficjmogohaa
