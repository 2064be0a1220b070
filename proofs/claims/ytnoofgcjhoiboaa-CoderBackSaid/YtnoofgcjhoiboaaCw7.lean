/- The walks over Begin, Chances and End of package coder. -/
import Derived.Test.YtnoofgcjhoiboaaCw6
import Derived.Laws.MakeOwn
namespace Go.Proofs.Ytnoofgcjhoiboaa
set_option linter.unusedVariables false
set_option linter.unusedSimpArgs false
open Go.RowKit

def begin0 : WS := ⟨[], 0, 4294967295, 0, 0, false, false⟩
theorem begin0_live (r : Int) (hr : r ≤ 1099511627776) (_h0 : 0 ≤ r) : begin0.live r :=
  ⟨⟨by decide, by decide, by decide, by decide, by decide, by decide, by decide, by decide⟩, rfl, by decide, by decide, by show ((0 : Nat) : Int) + 0 + r ≤ _; omega⟩

theorem begin_any (B : Nat) (R : HP) [Loc B R] (w : World) (hB : B ≤ w.heap.size) (hO : Own B R w) :
    Calls Try.prog 11 #[] w fun e w' => ∃ p, Ret B w (.pointer (some ⟨p, 0, none⟩)) (Wr p begin0 * R) e w' := by
  go_enter Try.func11, Try.ntmps11
  go_wp2
  go_ret
  have h1 := hO.new hB 66 (wsCells (.slice none 0 0) begin0)
  have h2 := h1.rw_nil 5 1
  have h3 : Own B (WrV w.heap.size (.slice none 0 0) begin0 * R) (w.alloc (.cells (wsCells (.slice none 0 0) begin0) 66)) := (h2.cast (sep_left_comm _ _ _)).assoc'
  exact ⟨w.heap.size, rfl, h3.to_hex (A := fun v => WrV _ v begin0) _, (Below.refl B w).alloc hB _⟩

theorem info_chance : (Try.prog.info? 27).map (fun i => (i.zero, i.size, i.bytes)) = some (some (.agg #[.int .i64 0]), 1, 8) := by kernel_rfl
theorem made_chances (k : Nat) : madeCells (Value.agg #[.int .i64 0]).cells (k * 1) = chV (List.replicate k 0) := by
  apply Array.ext'
  show (madeCells #[.int .i64 0] (k * 1)).toList = _
  rw [Nat.mul_one, toList_madeCells_one]
  simp [chV]

theorem run_make_chances (k : Nat) (hk : k ≤ 131072) (W : World) : (Instr.makeSlice 34 (.int .i64 (k : Int)) (.int .i64 (k : Int))).run Try.prog W = .ok (.slice (some ⟨W.heap.size, 0, none⟩) k k) (W.alloc (.cells (chV (List.replicate k 0)) 27)) := by
  obtain ⟨i0, hi, hz0, hz1, hz2⟩ := info_parts info_chance
  have h := run_make (P := Try.prog) W 34 27 i0 _ Try.underlying34 hi hz0 .i64 .i64 k k (by omega) (Int.le_refl _) (by rw [hz2]; omega) (by omega)
  rw [hz1] at h
  simp only [Int.toNat_natCast, made_chances] at h
  exact h

/-- Chances(n), n from 0 to 2^17. -/
theorem chances_any (k : Nat) (n : Int) (hn : n = (k : Int)) (hk : k ≤ 131072) (B : Nat) (R : HP) [Loc B R] (w : World) (hB : B ≤ w.heap.size) (hO : Own B R w) :
    Calls Try.prog 15 #[.int .i64 n] w fun e w' => ∃ g, Ret B w (.slice (some ⟨g, 0, none⟩) k k) (Bk g 27 (chV (List.replicate k 0)) * R) e w' := by
  subst hn
  have hmk := run_make_chances k hk
  have h0 : ¬ (k : Int) < 0 := by omega
  have h1 : ¬ (131072 : Int) < k := by omega
  go_enter Try.func15, Try.ntmps15
  go_wp2
  go_ret
  exact ⟨w.heap.size, rfl, hO.new hB _ _, (Below.refl B w).alloc hB _⟩

/-- Chances(n), n below 0. -/
theorem chances_neg (n : Int) (hn : n < 0) (B : Nat) (R : HP) [Loc B R] (w : World) (hB : B ≤ w.heap.size) (hO : Own B R w) :
    Calls Try.prog 15 #[.int .i64 n] w fun e w' => ∃ g, Ret B w (.slice (some ⟨g, 0, none⟩) 0 0) R e w' := by
  have hmk : ∀ W : World, (Instr.makeSlice 34 (.int .i64 0) (.int .i64 0)).run Try.prog W = .ok (.slice (some ⟨W.heap.size, 0, none⟩) 0 0) (W.alloc (.cells (chV []) 27)) := run_make_chances 0 (by omega)
  go_enter Try.func15, Try.ntmps15
  go_wp2
  go_ret
  exact ⟨w.heap.size, rfl, hO.alloc_keep hB _, (Below.refl B w).alloc hB _⟩
end Go.Proofs.Ytnoofgcjhoiboaa
