/- The walks over the writer of package coder: shift, told. -/
import Derived.Test.YtnoofgcjhoiboaaCb
namespace Go.Proofs.Ytnoofgcjhoiboaa
set_option linter.unusedVariables false
set_option linter.unusedSimpArgs false
open Go.RowKit

set_option maxHeartbeats 1600000 in
theorem shift_none (p : Nat) (s : WS) (B : Nat) (R : HP) [Loc B R] (w : World) (hB : B ≤ w.heap.size) (hok : s.ok) (hO : Own B (Wr p s * R) w) (hb : s.sm = false) (h1 : s.low < 4278190080 ∨ 4294967295 < s.low) :
    Calls Try.prog 32 #[.pointer (some ⟨p, 0, none⟩)] w (Ret B w (.tuple #[]) (Wr p { s with out := s.out ++ List.replicate s.full.toNat ((255 + carryOf s) % 256), wait := (s.low / 16777216) % 256, sm := true, full := 0, low := (s.low * 256) % 4294967296 } * R)) := by
  obtain ⟨out, low, width, wait, full, sm, dn⟩ := s
  obtain ⟨l0, l1, w0, w1, t0, t1, f0, sz⟩ := hok
  simp only at l0 l1 w0 w1 t0 t1 f0 sz hb h1
  subst hb
  obtain ⟨v, hO⟩ := hO.hex
  have hO := hO.assoc
  have c1 : w.cell? ⟨p, 1, none⟩ = some (.int .u64 low) := hO.cell 1
  have c5 : w.cell? ⟨p, 5, none⟩ = some (.bool false) := hO.cell 5
  go_enter Try.func32, Try.ntmps32
  rcases h1 with h1 | h1
  all_goals
    go_wp2
    clear c1 c5
    go_loopg [] full.toNat (fun k wr => ∃ (v3 : Value) (l : List Int), k ≤ full.toNat ∧ l = out ++ List.replicate (full.toNat - k) ((255 + low / 4294967296) % 256) ∧
      Own B (Bk p 66 (wsCells v3 ⟨l, low, width, wait, k, false, dn⟩) * (Rw 5 1 v3 l.length (bytesV l) * R)) wr ∧ Below B w wr)
    case atStart =>
      refine ⟨v, _, Nat.le_refl _, rfl, ?_, Below.refl _ _⟩
      rw [Nat.sub_self, List.replicate_zero, List.append_nil]
      simpa [wsCells, show (full.toNat : Int) = full by omega] using hO
    case round =>
      obtain ⟨v3, l, hk, hl, ho, hbb⟩ := hrel
      have Hl := Lib.hid hl
      clear hl
      have Bw : B ≤ wr.heap.size := Nat.le_trans hB hbb.size
      have hlen : l.length + 1 ≤ 140737488355328 := by rw [Hl.out]; simp; omega
      have c0 : wr.cell? ⟨p, 0, none⟩ = some v3 := ho.cell 0
      have c4 : wr.cell? ⟨p, 4, none⟩ = some (.int .i64 (gk : Int)) := ho.cell 4
      have z0 := ho.unfrozen 0
      have z4 := ho.unfrozen 4
      by_cases hk0 : gk = 0
      · subst hk0
        have c1 : wr.cell? ⟨p, 1, none⟩ = some (.int .u64 low) := ho.cell 1
        have c3 : wr.cell? ⟨p, 3, none⟩ = some (.int .u8 wait) := ho.cell 3
        have c5 : wr.cell? ⟨p, 5, none⟩ = some (.bool false) := ho.cell 5
        have z1 := ho.unfrozen 1
        have z3 := ho.unfrozen 3
        have z5 := ho.unfrozen 5
        go_wp2
        go_end0
        have hb : bits BinOp.and IntKind.u64 (low * 256) 4294967295 = (low * 256) % 4294967296 := and_mask32 _ (by omega) (by omega)
        rw [hb]
        have fin : ∀ x : Int, x = (low / 16777216) % 256 → Ret B w (.tuple #[]) (Wr p ⟨l, (low * 256) % 4294967296, width, (low / 16777216) % 256, 0, true, dn⟩ * R) (.returned (.tuple #[]))
            (((wr.setCell ⟨p, 3, none⟩ (.int .u8 x)).setCell ⟨p, 5, none⟩ (.bool true)).setCell ⟨p, 1, none⟩ (.int .u64 ((low * 256) % 4294967296))) := by
          rintro x rfl
          have e3 := ho.set Bw 3 (.int .u8 ((low / 16777216) % 256))
          have e5 := e3.set (by simpa [World.setCell] using Bw) 5 (.bool true)
          have e1 := e5.set (by simpa [World.setCell] using Bw) 1 (.int .u64 ((low * 256) % 4294967296))
          exact ⟨rfl, (e1.assoc').to_hex (A := fun v => WrV p v ⟨l, (low * 256) % 4294967296, width, (low / 16777216) % 256, 0, true, dn⟩) v3, ((hbb.trans (ho.below_set 3 _)).trans (e3.below_set 5 _)).trans (e5.below_set 1 _)⟩
        have hl := Hl.out
        rw [Nat.sub_zero] at hl
        simp only [carryOf]
        rw [← hl]
        exact fin _ (by omega)
      · have hkp : 0 < (gk : Int) := by omega
        go_wp2_with (refine wpList_append1 rfl rfl (.tmp 58) (.tmp 56) 59 rfl rfl rfl rfl rfl (Nat.le_of_ble_eq_true rfl) rfl Bw (ho.cast (sep_left_comm _ _ _)) hlen ?_; intro g4 cap4 w4 o4 b4; (have o4 := o4.cast (sep_left_comm _ _ _)); (have B4 : B ≤ w4.heap.size := Nat.le_trans Bw b4.size); (have c0 : w4.cell? ⟨p, 0, none⟩ = some v3 := o4.cell 0); (have z0 := o4.unfrozen 0); (have c4 : w4.cell? ⟨p, 4, none⟩ = some (.int .i64 (gk : Int)) := o4.cell 4); (have z4 := o4.unfrozen 4); simp only [Act.put, List.setIfInBounds_toArray, List.set_cons_zero, List.set_cons_succ])
        go_roundg (gk - 1)
        case measure => omega
        case rel =>
          have e0 := o4.set B4 0 (.slice (some ⟨g4, 0, none⟩) (l.length + 1) cap4)
          have e4 := e0.set (by simpa [World.setCell] using B4) 4 (.int .i64 ((gk : Int) - 1))
          refine ⟨.slice (some ⟨g4, 0, none⟩) (l.length + 1) cap4, l ++ [(255 + low / 4294967296) % 256], by omega, ?_, ?_, ((hbb.trans b4).trans (o4.below_set 0 _)).trans (e0.below_set 4 _)⟩
          · rw [Hl.out, show full.toNat - (gk - 1) = (full.toNat - gk) + 1 by omega, List.replicate_succ', List.append_assoc]
          · first
            | (rw [show (255 + low / 4294967296) % 256 = 255 + low / 4294967296 by omega]; simpa [wsCells, show ((gk - 1 : Nat) : Int) = (gk : Int) - 1 by omega] using e4)
            | simpa [wsCells, show ((gk - 1 : Nat) : Int) = (gk : Int) - 1 by omega] using e4
end Go.Proofs.Ytnoofgcjhoiboaa
