/- The walks over the writer of package coder. -/
import Derived.Test.YtnoofgcjhoiboaaCb
namespace Go.Proofs.Ytnoofgcjhoiboaa
set_option linter.unusedVariables false
set_option linter.unusedSimpArgs false
open Go.RowKit

theorem shift_else (p : Nat) (s : WS) (B : Nat) (R : HP) [Loc B R] (w : World) (hB : B ≤ w.heap.size) (hok : s.ok) (hO : Own B (Wr p s * R) w) (h1 : 4278190080 ≤ s.low) (h2 : s.low ≤ 4294967295) :
    Calls Try.prog 32 #[.pointer (some ⟨p, 0, none⟩)] w (Ret B w (.tuple #[]) (Wr p { s with full := s.full + 1, low := (s.low * 256) % 4294967296 } * R)) := by
  obtain ⟨l0, l1, w0, w1, t0, t1, f0, sz⟩ := hok
  obtain ⟨v, hO⟩ := hO.hex
  have hO := hO.assoc
  have c1 : w.cell? ⟨p, 1, none⟩ = some (.int .u64 s.low) := hO.cell 1
  have c4 : w.cell? ⟨p, 4, none⟩ = some (.int .i64 s.full) := hO.cell 4
  have z1 := hO.unfrozen 1
  have z4 := hO.unfrozen 4
  go_enter Try.func32, Try.ntmps32
  go_wp2
  go_end0
  have hb : bits BinOp.and IntKind.u64 (s.low * 256) 4294967295 = (s.low * 256) % 4294967296 := and_mask32 _ (by omega) (by omega)
  rw [hb]
  have h3 := hO.set hB 4 (.int .i64 (s.full + 1))
  have h4 := h3.set (by simpa [World.setCell] using hB) 1 (.int .u64 ((s.low * 256) % 4294967296))
  exact ⟨rfl, (h4.assoc').to_hex (A := fun v => WrV p v _) v, (hO.below_set 4 _).trans (h3.below_set 1 _)⟩

end Go.Proofs.Ytnoofgcjhoiboaa
