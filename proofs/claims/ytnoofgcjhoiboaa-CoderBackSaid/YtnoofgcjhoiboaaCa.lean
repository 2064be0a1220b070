/- The walks over the ends of a writer that is done, or is not there; and over awake: what the document fixes of no bits, and of one. -/
import Derived.Test.YtnoofgcjhoiboaaCr4
import Derived.Laws.BytesArg
namespace Go.Proofs.Ytnoofgcjhoiboaa
set_option linter.unusedVariables false
set_option linter.unusedSimpArgs false
open Go.RowKit

/-- End, told again. -/
theorem end_done (p : Nat) (s : WS) (B : Nat) (R : HP) [Loc B R] (w : World) (hB : B ≤ w.heap.size) (hdn : s.dn = true) (hl : s.out.length ≤ 1099511627776) (hO : Own B (Wr p s * R) w) :
    Calls Try.prog 16 #[.pointer (some ⟨p, 0, none⟩)] w fun e w' => ∃ v, Ret B w v (Rw 5 1 v s.out.length (bytesV s.out) * (Wr p s * R)) e w' := by
  obtain ⟨v, hV⟩ := hO.hex
  have hV := hV.assoc
  have c6 : w.cell? ⟨p, 6, none⟩ = some (.bool true) := by rw [hV.cell 6, ← hdn]; rfl
  have c0 : w.cell? ⟨p, 0, none⟩ = some v := hV.cell 0
  have hrd := (hV.cast (sep_left_comm _ _ _)).rd
  go_enter Try.func16, Try.ntmps16
  go_wp2_with (go_at_call 33; refine (clone_bytes v s.out w hrd (by omega)).mono ?_; rintro e w4 ⟨v4, rfl, o4, b4⟩)
  go_ret
  exact ⟨v4, rfl, Own.fresh hB hO o4 b4, b4.mono hB⟩
theorem end_nil (w : World) : Calls Try.prog 16 #[.pointer none] w fun e w' => e = .returned (.slice none 0 0) ∧ w = w' := by
  go_enter Try.func16, Try.ntmps16
  go_wp2
  go_ret
  exact ⟨rfl, rfl⟩

/-- string(b) of an owned row of bytes. -/
theorem str_of_row {B : Nat} {R : HP} {w : World} {v : Value} {l : List Int} (h : Own B (Rw 5 1 v l.length (bytesV l) * R) w) : (convert 38 9 v).run Try.prog w = .ok (.string (strOfNums l)) w := by
  have hr := h.row
  rcases hr.2 with ⟨rfl, hn⟩ | ⟨g, cap, cur, rfl, _⟩
  · obtain rfl : l = [] := List.eq_nil_of_length_eq_zero hn
    exact run_convert_bytes_nil w 38 5 Try.underlying38 Try.underlying5 0 0 9 Try.underlying9
  · refine run_convert_bytes_arg w 38 5 Try.underlying38 Try.underlying5 g 0 l.length cap l rfl (fun i hi => ?_) 9 Try.underlying9
    have := hr.cells (g := g) rfl i (.int .u8 (l.getD i 0)) (by simp [bytesV, hi])
    rwa [Addr.add_lit] at this

def aw1 : WS := putS begin0 (bitBound begin0 0) 1
def aw2 : RS := openS (endS aw1).out
theorem aw_a : (endS begin0).out = [0, 0, 0, 0] := by decide
theorem aw_b : (endS aw1).out.length = 4 ∧ bytesOk (endS aw1).out := by
  have h : (endS aw1).out = [127, 255, 252, 0] := by decide
  rw [h]; exact ⟨rfl, by intro c hc; simp at hc; omega⟩
theorem aw_c : aw2.live := ⟨⟨by decide, by decide, by decide, by decide, by decide⟩, by decide⟩
theorem aw_d : takeBit aw2 (rBound aw2 0) = 1 := by decide
theorem aw_e : (takeS aw2 (rBound aw2 0)).e = 0 ∧ (takeS aw2 (rBound aw2 0)).rem = [] := by decide
theorem aw_f : strOfNums [0, 0, 0, 0] = ⟨#[0, 0, 0, 0]⟩ := rfl
theorem aw_g : aw1.okr 6 ∧ aw1.dn = false := by
  have h := putS_live (s := begin0) (bound := bitBound begin0 0) 1 (r := 6) (by omega) (begin0_live 7 (by omega) (by omega)) (by decide) (by decide)
  exact ⟨⟨h.ok, h.room⟩, h.dn⟩
end Go.Proofs.Ytnoofgcjhoiboaa
