/- The walks over the writer of package coder: shift, told. -/
import Derived.Test.YtnoofgcjhoiboaaCb
namespace Go.Proofs.Ytnoofgcjhoiboaa
set_option linter.unusedVariables false
set_option linter.unusedSimpArgs false
open Go.RowKit

set_option maxHeartbeats 1600000 in
theorem shift_flush (p : Nat) (s : WS) (B : Nat) (R : HP) [Loc B R] (w : World) (hB : B ≤ w.heap.size) (hok : s.ok) (hO : Own B (Wr p s * R) w) (hb : s.sm = true) (h1 : s.low < 4278190080 ∨ 4294967295 < s.low) :
    Calls Try.prog 32 #[.pointer (some ⟨p, 0, none⟩)] w (Ret B w (.tuple #[]) (Wr p { s with out := s.out ++ [(s.wait + carryOf s) % 256] ++ List.replicate s.full.toNat ((255 + carryOf s) % 256), wait := (s.low / 16777216) % 256, full := 0, low := (s.low * 256) % 4294967296 } * R)) := by
  obtain ⟨out, low, width, wait, full, sm, dn⟩ := s
  obtain ⟨l0, l1, w0, w1, t0, t1, f0, sz⟩ := hok
  simp only at l0 l1 w0 w1 t0 t1 f0 sz hb h1
  subst hb
  obtain ⟨v, hO⟩ := hO.hex
  have hO := hO.assoc
  have c1 : w.cell? ⟨p, 1, none⟩ = some (.int .u64 low) := hO.cell 1
  have c5 : w.cell? ⟨p, 5, none⟩ = some (.bool true) := hO.cell 5
  go_enter Try.func32, Try.ntmps32
  rcases h1 with h1 | h1
  all_goals
    go_wp2
    refine wp_region_lmix (St B (Bk p 66 (wsCells v ⟨out, low, width, wait, full, true, dn⟩) * (Rw 5 1 v out.length (bytesV out) * R)) w) [0] [1, 2, 3, 4, 5, 6, 7, 8, 9, 10] [] [11] [12, 13, 14, 15] mixed (by kernel_rfl) rfl (fun _ _ _ _ _ h => h) (St.drew hB hO) ?_
    simp only [List.filterMap_cons, List.filterMap_nil, List.getElem?_toArray, List.getElem?_cons_succ, List.getElem?_cons_zero]
    repeat (
      refine free_val ?_ rfl (fun w1 => ?_) ?_
      rotate_left
      · (go_simp
         try go_bits
         rfl)
      simp only [Act.put, List.setIfInBounds_toArray, List.set_cons_zero, List.set_cons_succ])
    refine free_nil ?_
    repeat (first
      | (refine late_val ?_ rfl (fun w1 hS => ?_) ?_
         rotate_left
         · (have c0 : w1.cell? ⟨p, 0, none⟩ = some v := hS.2.1.cell 0; have c3 : w1.cell? ⟨p, 3, none⟩ = some (.int .u8 wait) := hS.2.1.cell 3
            go_simp
            try go_bits
            rfl)
         simp only [Act.put, List.setIfInBounds_toArray, List.set_cons_zero, List.set_cons_succ])
      | (refine late_off rfl ?_
         simp only [Act.put, List.setIfInBounds_toArray, List.set_cons_zero, List.set_cons_succ]))
    refine late_nil ?_
    refine held_nil (fun w1 hS => ?_)
    refine kept_val ?_ rfl (w1 := ?_) ?_ ?_ ?_
    rotate_left 2
    · (go_simp
       try go_bits
       first | (constructor <;> rfl) | rfl)
    · exact hS.alloc _
    simp only [Act.put, List.setIfInBounds_toArray, List.set_cons_zero, List.set_cons_succ]
    refine kept_nil ?_
    obtain ⟨k2, k3, k4⟩ := hS
    refine wpList_append_byte rfl (.tmp 29) (.tmp 36) rfl rfl rfl rfl k2 (k3.cast (sep_left_comm _ _ _)) (by omega) ?_
    intro g2 cap2 w2 o2 b2
    have o2 := o2.cast (sep_left_comm _ _ _)
    have B2 : B ≤ w2.heap.size := Nat.le_trans k2 b2.size
    have c0 : w2.cell? ⟨p, 0, none⟩ = some v := o2.cell 0
    have z0 := o2.unfrozen 0
    simp only [Act.put, List.setIfInBounds_toArray, List.set_cons_zero, List.set_cons_succ]
    have o3 := o2.set B2 0 (.slice (some ⟨g2, 0, none⟩) (out.length + 1) cap2)
    have b3 := o2.below_set 0 (.slice (some ⟨g2, 0, none⟩) (out.length + 1) cap2)
    go_wp2
    clear c1 c5 c0 z0 hO k3
    go_loopg [] full.toNat (fun k wr => ∃ (v3 : Value) (l : List Int), k ≤ full.toNat ∧ l = out ++ [(wait + low / 4294967296) % 256] ++ List.replicate (full.toNat - k) ((255 + low / 4294967296) % 256) ∧
      Own B (Bk p 66 (wsCells v3 ⟨l, low, width, wait, k, true, dn⟩) * (Rw 5 1 v3 l.length (bytesV l) * R)) wr ∧ Below B w wr)
    case atStart =>
      refine ⟨.slice (some ⟨g2, 0, none⟩) (out.length + 1) cap2, _, Nat.le_refl _, rfl, ?_, (k4.trans b2).trans b3⟩
      rw [Nat.sub_self, List.replicate_zero, List.append_nil]
      first | (rw [show (wait + low / 4294967296) % 256 = wait + low / 4294967296 by omega]; simpa [wsCells, show (full.toNat : Int) = full by omega] using o3) | simpa [wsCells, show (full.toNat : Int) = full by omega] using o3
    case round =>
      obtain ⟨v3, l, hk, hl, ho, hbb⟩ := hrel
      have Hl := Lib.hid hl
      clear hl
      have Bw : B ≤ wr.heap.size := Nat.le_trans hB hbb.size
      have hlen : l.length + 1 ≤ 140737488355328 := by rw [Hl.out]; simp; omega
      have c0 : wr.cell? ⟨p, 0, none⟩ = some v3 := ho.cell 0
      have c4 : wr.cell? ⟨p, 4, none⟩ = some (.int .i64 (gk : Int)) := ho.cell 4
      have z0 := ho.unfrozen 0
      have z4 := ho.unfrozen 4
      by_cases hk0 : gk = 0
      · subst hk0
        have c1 : wr.cell? ⟨p, 1, none⟩ = some (.int .u64 low) := ho.cell 1
        have c3 : wr.cell? ⟨p, 3, none⟩ = some (.int .u8 wait) := ho.cell 3
        have c5 : wr.cell? ⟨p, 5, none⟩ = some (.bool true) := ho.cell 5
        have z1 := ho.unfrozen 1
        have z3 := ho.unfrozen 3
        have z5 := ho.unfrozen 5
        go_wp2
        go_end0
        have hb : bits BinOp.and IntKind.u64 (low * 256) 4294967295 = (low * 256) % 4294967296 := and_mask32 _ (by omega) (by omega)
        rw [hb]
        have fin : ∀ x : Int, x = (low / 16777216) % 256 → Ret B w (.tuple #[]) (Wr p ⟨l, (low * 256) % 4294967296, width, (low / 16777216) % 256, 0, true, dn⟩ * R) (.returned (.tuple #[]))
            (((wr.setCell ⟨p, 3, none⟩ (.int .u8 x)).setCell ⟨p, 5, none⟩ (.bool true)).setCell ⟨p, 1, none⟩ (.int .u64 ((low * 256) % 4294967296))) := by
          rintro x rfl
          have e3 := ho.set Bw 3 (.int .u8 ((low / 16777216) % 256))
          have e5 := e3.set (by simpa [World.setCell] using Bw) 5 (.bool true)
          have e1 := e5.set (by simpa [World.setCell] using Bw) 1 (.int .u64 ((low * 256) % 4294967296))
          exact ⟨rfl, (e1.assoc').to_hex (A := fun v => WrV p v ⟨l, (low * 256) % 4294967296, width, (low / 16777216) % 256, 0, true, dn⟩) v3, ((hbb.trans (ho.below_set 3 _)).trans (e3.below_set 5 _)).trans (e5.below_set 1 _)⟩
        have hl := Hl.out
        rw [Nat.sub_zero] at hl
        simp only [carryOf]
        rw [← hl]
        exact fin _ (by omega)
      · have hkp : 0 < (gk : Int) := by omega
        go_wp2_with (refine wpList_append1 rfl rfl (.tmp 58) (.tmp 56) 59 rfl rfl rfl rfl rfl (Nat.le_of_ble_eq_true rfl) rfl Bw (ho.cast (sep_left_comm _ _ _)) hlen ?_; intro g4 cap4 w4 o4 b4; (have o4 := o4.cast (sep_left_comm _ _ _)); (have B4 : B ≤ w4.heap.size := Nat.le_trans Bw b4.size); (have c0 : w4.cell? ⟨p, 0, none⟩ = some v3 := o4.cell 0); (have z0 := o4.unfrozen 0); (have c4 : w4.cell? ⟨p, 4, none⟩ = some (.int .i64 (gk : Int)) := o4.cell 4); (have z4 := o4.unfrozen 4); simp only [Act.put, List.setIfInBounds_toArray, List.set_cons_zero, List.set_cons_succ])
        go_roundg (gk - 1)
        case measure => omega
        case rel =>
          have e0 := o4.set B4 0 (.slice (some ⟨g4, 0, none⟩) (l.length + 1) cap4)
          have e4 := e0.set (by simpa [World.setCell] using B4) 4 (.int .i64 ((gk : Int) - 1))
          refine ⟨.slice (some ⟨g4, 0, none⟩) (l.length + 1) cap4, l ++ [(255 + low / 4294967296) % 256], by omega, ?_, ?_, ((hbb.trans b4).trans (o4.below_set 0 _)).trans (e0.below_set 4 _)⟩
          · rw [Hl.out, show full.toNat - (gk - 1) = (full.toNat - gk) + 1 by omega, List.replicate_succ', List.append_assoc _ (List.replicate _ _)]
          · first
            | (rw [show (255 + low / 4294967296) % 256 = 255 + low / 4294967296 by omega]; simpa [wsCells, show ((gk - 1 : Nat) : Int) = (gk : Int) - 1 by omega] using e4)
            | simpa [wsCells, show ((gk - 1 : Nat) : Int) = (gk : Int) - 1 by omega] using e4
end Go.Proofs.Ytnoofgcjhoiboaa
