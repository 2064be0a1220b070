/- The walks over the writer of package coder: shift whole, put. -/
import Derived.Test.YtnoofgcjhoiboaaCw0
import Derived.Test.YtnoofgcjhoiboaaCw1
import Derived.Test.YtnoofgcjhoiboaaCw2
namespace Go.Proofs.Ytnoofgcjhoiboaa
set_option linter.unusedVariables false
set_option linter.unusedSimpArgs false
open Go.RowKit

theorem shift_any (p : Nat) (s : WS) (B : Nat) (R : HP) [Loc B R] (w : World) (hB : B ≤ w.heap.size) (hok : s.ok) (hO : Own B (Wr p s * R) w) :
    Calls Try.prog 32 #[.pointer (some ⟨p, 0, none⟩)] w (Ret B w (.tuple #[]) (Wr p (shiftS s) * R)) := by
  by_cases h : s.low < 4278190080 ∨ 4294967295 < s.low
  · cases hb : s.sm with
    | true =>
      have := shift_flush p s B R w hB hok hO hb h
      simpa only [shiftS, if_pos h, hb, if_true] using this
    | false =>
      have := shift_none p s B R w hB hok hO hb h
      simpa only [shiftS, if_pos h, hb, Bool.false_eq_true, if_false] using this
  · have := shift_else p s B R w hB hok hO (by omega) (by omega)
    simpa only [shiftS, if_neg h] using this

theorem shiftS_width (s : WS) : (shiftS s).width = s.width := by unfold shiftS; split <;> rfl
theorem shiftS_ok {s : WS} (h : s.ok) (_ : s.low < 8589934592) (hz : (s.out.length : Int) + s.full + 1 ≤ 1099511627776) : (shiftS s).ok := by
  obtain ⟨l0, l1, w0, w1, t0, t1, f0, sz⟩ := h
  unfold shiftS
  split
  · refine ⟨by show 0 ≤ (s.low * 256) % 4294967296; omega, by show (s.low * 256) % 4294967296 < _; omega, w0, w1, by show 0 ≤ (s.low / 16777216) % 256; omega, by show (s.low / 16777216) % 256 ≤ 255; omega, by show (0 : Int) ≤ 0; omega, ?_⟩
    show ((((if s.sm then s.out ++ [(s.wait + carryOf s) % 256] else s.out) ++ List.replicate s.full.toNat ((255 + carryOf s) % 256)).length : Nat) : Int) + 0 ≤ _
    rw [List.length_append, List.length_replicate]
    split <;> simp <;> omega
  · exact ⟨by show 0 ≤ (s.low * 256) % 4294967296; omega, by show (s.low * 256) % 4294967296 < _; omega, w0, w1, t0, t1, by show 0 ≤ s.full + 1; omega, by show (s.out.length : Int) + (s.full + 1) ≤ _; omega⟩

def put1 (s : WS) (bound bit : Int) : WS := if bit = 0 then { s with width := bound } else { s with low := s.low + bound, width := s.width - bound }
def renorm (s : WS) : WS := if s.width < 16777216 then shiftS { s with width := s.width * 256 } else s
def putS (s : WS) (bound bit : Int) : WS := renorm (put1 s bound bit)

set_option maxHeartbeats 800000 in
theorem put_any (p : Nat) (s : WS) (bound bit : Int) (B : Nat) (R : HP) [Loc B R] (w : World) (hB : B ≤ w.heap.size) (hok : s.ok) (hO : Own B (Wr p s * R) w)
    (b0 : 65536 ≤ bound) (b1 : bound + 65536 ≤ s.width) (b2 : s.low + s.width < 8589934592) (b3 : (s.out.length : Int) + s.full + 1 ≤ 1099511627776) :
    Calls Try.prog 30 #[.pointer (some ⟨p, 0, none⟩), .int .u64 bound, .int .i64 bit] w (Ret B w (.tuple #[]) (Wr p (putS s bound bit) * R)) := by
  have hsh : ∀ (s' : WS) (wr : World), B ≤ wr.heap.size → s'.ok → Own B (Wr p s' * R) wr → Calls Try.prog 32 #[.pointer (some ⟨p, 0, none⟩)] wr (Ret B wr (.tuple #[]) (Wr p (shiftS s') * R)) := fun s' wr h1 h2 h3 => shift_any p s' B R wr h1 h2 h3
  have hokp : (put1 s bound bit).ok ∧ 65536 ≤ (put1 s bound bit).width ∧ (put1 s bound bit).low + (put1 s bound bit).width < 8589934592 ∧ (put1 s bound bit).out = s.out ∧ (put1 s bound bit).full = s.full := by
    obtain ⟨l0, l1, w0, w1, t0, t1, f0, sz⟩ := hok
    unfold put1
    by_cases h : bit = 0
    · rw [if_pos h]; exact ⟨⟨l0, l1, by show 0 ≤ bound; omega, by show bound < _; omega, t0, t1, f0, sz⟩, b0, by show s.low + bound < _; omega, rfl, rfl⟩
    · rw [if_neg h]; exact ⟨⟨by show 0 ≤ s.low + bound; omega, by show s.low + bound < _; omega, by show 0 ≤ s.width - bound; omega, by show s.width - bound < _; omega, t0, t1, f0, sz⟩, by show 65536 ≤ s.width - bound; omega, by show s.low + bound + (s.width - bound) < _; omega, rfl, rfl⟩
  obtain ⟨l0, l1, w0, w1, t0, t1, f0, sz⟩ := hok
  obtain ⟨v, hO⟩ := hO.hex
  have hO := hO.assoc
  have c1 : w.cell? ⟨p, 1, none⟩ = some (.int .u64 s.low) := hO.cell 1
  have c2 : w.cell? ⟨p, 2, none⟩ = some (.int .u64 s.width) := hO.cell 2
  have z1 := hO.unfrozen 1
  have z2 := hO.unfrozen 2
  have Hp := Lib.hid hokp
  have Hs := Lib.hid hsh
  clear hokp hsh
  go_enter Try.func30, Try.ntmps30
  have hst0 := hO.set hB 2 (.int .u64 bound)
  have hst1 := hO.set hB 1 (.int .u64 (s.low + bound))
  have hst2 := hst1.set (by simpa [World.setCell] using hB) 2 (.int .u64 (s.width - bound))
  have hbe0 := hO.below_set 2 (.int .u64 bound)
  have hbe1 := hO.below_set 1 (.int .u64 (s.low + bound))
  have hbe2 := hst1.below_set 2 (.int .u64 (s.width - bound))
  have Hput := Lib.hid (show bit = 0 ∨ ¬ bit = 0 by omega)
  by_cases hb : bit = 0
  · subst hb
    go_wp2
    clear c1 c2 z1 z2
    go_loopg [] 1 (fun k wr => ∃ s' : WS, Own B (Wr p s' * R) wr ∧ Below B w wr ∧ s'.ok ∧ Hid ((k = 1 ∧ s' = put1 s bound 0) ∨ (k = 0 ∧ s' = putS s bound 0 ∧ 16777216 ≤ s'.width)))
    case atStart => exact ⟨_, ((hst0.assoc').to_hex (A := fun v => WrV p v (put1 s bound 0)) v), hbe0, Hp.out.1, .inl ⟨rfl, rfl⟩⟩
    case round =>
      obtain ⟨s', ho, hbb, ok', hk⟩ := hrel
      have Bw : B ≤ wr.heap.size := Nat.le_trans hB hbb.size
      obtain ⟨v', hV⟩ := ho.hex
      have hV := hV.assoc
      have c2 : wr.cell? ⟨p, 2, none⟩ = some (.int .u64 s'.width) := hV.cell 2
      have z2 := hV.unfrozen 2
      obtain ⟨m0, m1, x0, x1, y0, y1, g0, gz⟩ := ok'
      by_cases hlt : s'.width < 16777216
      · have e2 := hV.set Bw 2 (.int .u64 (s'.width * 256))
        have f2 := hV.below_set 2 (.int .u64 (s'.width * 256))
        have h6 := (e2.assoc').to_hex (A := fun v => WrV p v { s' with width := s'.width * 256 }) v'
        have okn : WS.ok { s' with width := s'.width * 256 } := ⟨m0, m1, by show 0 ≤ s'.width * 256; omega, by show s'.width * 256 < _; omega, y0, y1, g0, gz⟩
        have hsz : B ≤ (wr.setCell ⟨p, 2, none⟩ (.int .u64 (s'.width * 256))).heap.size := by simpa [World.setCell] using Bw
        go_wp2_with (go_at_call 32; refine (Hs.out _ _ hsz okn h6).mono ?_; rintro e w2 ⟨rfl, o2, b2⟩)
        have hk := hk.out
        rcases hk with ⟨rfl, rfl⟩ | ⟨rfl, rfl, hw⟩
        · go_roundg 0
          case measure => omega
          case rel => exact ⟨_, o2, (hbb.trans f2).trans b2, shiftS_ok okn (by have := Hp.out.2.2.1; show (put1 s bound 0).low < 8589934592; omega) (by have := Hp.out.2.2.2; show ((put1 s bound 0).out.length : Int) + (put1 s bound 0).full + 1 ≤ _; rw [this.1, this.2]; exact b3), .inr ⟨rfl, by rw [putS, renorm, if_pos (by omega)], by rw [shiftS_width]; have := Hp.out.2.1; show 16777216 ≤ (put1 s bound 0).width * 256; omega⟩⟩
        · omega
      · go_wp2
        go_end0
        have hk := hk.out
        rcases hk with ⟨rfl, rfl⟩ | ⟨rfl, rfl, hw⟩
        · exact ⟨rfl, by rw [putS, renorm, if_neg (by omega)]; exact ho, hbb⟩
        · exact ⟨rfl, ho, hbb⟩
  · have hbb0 : (bit == 0) = false := by simpa using hb
    go_wp2
    clear c1 c2 z1 z2
    go_loopg [] 1 (fun k wr => ∃ s' : WS, Own B (Wr p s' * R) wr ∧ Below B w wr ∧ s'.ok ∧ Hid ((k = 1 ∧ s' = put1 s bound bit) ∨ (k = 0 ∧ s' = putS s bound bit ∧ 16777216 ≤ s'.width)))
    case atStart => exact ⟨_, ((hst2.assoc').to_hex (A := fun v => WrV p v { s with low := s.low + bound, width := s.width - bound }) v).cast (by rw [put1, if_neg hb]; rfl), hbe1.trans hbe2, Hp.out.1, .inl ⟨rfl, rfl⟩⟩
    case round =>
      obtain ⟨s', ho, hbb, ok', hk⟩ := hrel
      have Bw : B ≤ wr.heap.size := Nat.le_trans hB hbb.size
      obtain ⟨v', hV⟩ := ho.hex
      have hV := hV.assoc
      have c2 : wr.cell? ⟨p, 2, none⟩ = some (.int .u64 s'.width) := hV.cell 2
      have z2 := hV.unfrozen 2
      obtain ⟨m0, m1, x0, x1, y0, y1, g0, gz⟩ := ok'
      by_cases hlt : s'.width < 16777216
      · have e2 := hV.set Bw 2 (.int .u64 (s'.width * 256))
        have f2 := hV.below_set 2 (.int .u64 (s'.width * 256))
        have h6 := (e2.assoc').to_hex (A := fun v => WrV p v { s' with width := s'.width * 256 }) v'
        have okn : WS.ok { s' with width := s'.width * 256 } := ⟨m0, m1, by show 0 ≤ s'.width * 256; omega, by show s'.width * 256 < _; omega, y0, y1, g0, gz⟩
        have hsz : B ≤ (wr.setCell ⟨p, 2, none⟩ (.int .u64 (s'.width * 256))).heap.size := by simpa [World.setCell] using Bw
        go_wp2_with (go_at_call 32; refine (Hs.out _ _ hsz okn h6).mono ?_; rintro e w2 ⟨rfl, o2, b2⟩)
        have hk := hk.out
        rcases hk with ⟨rfl, rfl⟩ | ⟨rfl, rfl, hw⟩
        · go_roundg 0
          case measure => omega
          case rel => exact ⟨_, o2, (hbb.trans f2).trans b2, shiftS_ok okn (by have := Hp.out.2.2.1; show (put1 s bound bit).low < 8589934592; omega) (by have := Hp.out.2.2.2; show ((put1 s bound bit).out.length : Int) + (put1 s bound bit).full + 1 ≤ _; rw [this.1, this.2]; exact b3), .inr ⟨rfl, by rw [putS, renorm, if_pos (by omega)], by rw [shiftS_width]; have := Hp.out.2.1; show 16777216 ≤ (put1 s bound bit).width * 256; omega⟩⟩
        · omega
      · go_wp2
        go_end0
        have hk := hk.out
        rcases hk with ⟨rfl, rfl⟩ | ⟨rfl, rfl, hw⟩
        · exact ⟨rfl, by rw [putS, renorm, if_neg (by omega)]; exact ho, hbb⟩
        · exact ⟨rfl, ho, hbb⟩
end Go.Proofs.Ytnoofgcjhoiboaa
