/- The walks over slices.Clone of bytes, and End of package coder's writer. -/
import Derived.Test.YtnoofgcjhoiboaaCw7
import Derived.WalkSpells
import Derived.Lib.BufferMore
namespace Go.Proofs.Ytnoofgcjhoiboaa
set_option linter.unusedVariables false
set_option linter.unusedSimpArgs false
open Go.RowKit

theorem clone_bytes (v : Value) (l : List Int) (w : World) (hr : Rd w v (bytesV l)) (hl : l.length ≤ 140737488355328) :
    Calls Try.prog 33 #[v] w fun e w' => ∃ v', e = .returned v' ∧ w'.ownsRow w.heap.size 5 1 v' l.length (bytesV l) ∧ Below w.heap.size w w' := by
  obtain ⟨i0, hi, hz0, hz1, hz2⟩ := info_parts info5
  obtain ⟨A, c, rfl, hr⟩ := hr
  have hlen : (bytesV l).length = l.length := by simp [bytesV]
  rcases A with _ | ad
  · obtain rfl : l = [] := by
      cases l with
      | nil => rfl
      | cons x l => obtain ⟨ad, h, _⟩ := hr (by simp [bytesV]); cases h
    have he := fun W : World => Lib.run_eql_slice_nil_nil (P := Try.prog) W (t := 38) (e := 5) 0 c Try.underlying38
    show Calls _ _ #[.slice none 0 c] _ _
    go_enter Try.func33, Try.ntmps33
    go_wp2
    go_ret
    exact ⟨.slice none 0 0, rfl, World.ownsRow_nil _ _ _ _, Below.refl _ _⟩
  · have hc : ∀ j u, (bytesV l)[j]? = some u → w.cell? (ad.add j) = some u := by
      intro j u hu
      obtain ⟨ad', h, hcc⟩ := hr (by intro e; rw [e] at hu; cases hu)
      injection h with h
      subst h
      exact hcc j u hu
    clear hr
    obtain ⟨v', w', hrun, ho, hg, _, hat⟩ := run_append_own_at (P := Try.prog) (w.alloc (.cells #[] 5)) w.heap.size 38 38 5 i0 _ 1 1 Try.underlying38 hi hz0 hz1 hz2 rfl (by omega)
      (.slice (some ⟨w.heap.size, 0, none⟩) 0 0) 0 [] ⟨rfl, .inr ⟨w.heap.size, 0, #[], rfl, Nat.le_refl _, heap_alloc_new w _, Nat.le_refl _, by unfold maxLen; omega, rfl, rfl⟩⟩ ad l.length c (bytesV l) (by rw [hlen]; omega)
      (fun j u hu => by
        have h1 := hc j u hu
        rw [World.cell?_alloc_lt _ _ _ (World.block_lt_of_cell? w _ h1)]
        exact h1)
      (by intro u hu; obtain ⟨x, _, rfl⟩ := List.mem_map.1 hu; rfl) (by unfold maxLen; omega) (by omega) (by simp)
    have hbe : Below w.heap.size w w' := ((Below.refl _ w).alloc (Nat.le_refl _) _).grown hg (by simp) (fun k hk => by simp [Value.ownBlock] at hk; omega)
    rw [List.nil_append, Nat.zero_add] at ho
    clear hc
    have he := fun W : World => Lib.run_eql_slice_some_nil (P := Try.prog) W (t := 38) (e := 5) ad (bytesV l).length c Try.underlying38
    rw [hlen] at he ⊢
    go_enter Try.func33, Try.ntmps33
    go_wp2_with (at_builtin; refine wpList_append_run rfl (.tmp 5) (.tmp 6) 38 rfl rfl rfl hrun ?_)
    go_ret
    exact ⟨v', rfl, ho, hbe⟩

def shiftN : Nat → WS → WS
  | 0, s => s
  | k + 1, s => shiftN k (shiftS s)
theorem shiftN_succ : ∀ (k : Nat) (s : WS), shiftN (k + 1) s = shiftS (shiftN k s)
  | 0, _ => rfl
  | k + 1, s => shiftN_succ k (shiftS s)
def endS (s : WS) : WS := shiftS { shiftN 4 { s with dn := true } with low := 0 }

structure WS.okr (s : WS) (r : Int) : Prop where
  ok : s.ok
  room : (s.out.length : Int) + s.full + r ≤ 1099511627776
theorem shiftS_okr {s : WS} {r : Int} (hr : 0 ≤ r) (h : s.okr (r + 1)) : (shiftS s).okr r := by
  have h1 := shiftS_len s h.ok.full0
  have h2 := h.room
  exact ⟨shiftS_ok h.ok h.ok.low1 (by omega), by omega⟩

set_option maxHeartbeats 800000 in
/-- End, told the first time. -/
theorem end_live (p : Nat) (s : WS) (B : Nat) (R : HP) [Loc B R] (w : World) (hB : B ≤ w.heap.size) (hl : s.okr 6) (hdn : s.dn = false) (hO : Own B (Wr p s * R) w) :
    Calls Try.prog 16 #[.pointer (some ⟨p, 0, none⟩)] w fun e w' => ∃ v, Ret B w v (Rw 5 1 v (endS s).out.length (bytesV (endS s).out) * (Wr p (endS s) * R)) e w' := by
  obtain ⟨v, hV⟩ := hO.hex
  have hV := hV.assoc
  have c6 : w.cell? ⟨p, 6, none⟩ = some (.bool false) := by rw [hV.cell 6, ← hdn]; rfl
  have z6 := hV.unfrozen 6
  have h1 := (((hV.set hB 6 (.bool true)).assoc').to_hex (A := fun v => WrV p v { s with dn := true }) v)
  have b1 := hV.below_set 6 (.bool true)
  have l1 : WS.okr { s with dn := true } 6 := ⟨⟨hl.ok.low0, hl.ok.low1, hl.ok.width0, hl.ok.width1, hl.ok.wait0, hl.ok.wait1, hl.ok.full0, hl.ok.size⟩, hl.room⟩
  have Hl := Lib.hid l1
  clear l1 hl
  go_enter Try.func16, Try.ntmps16
  go_wp2
  clear c6 z6
  go_loopg [13] 4 (fun k i wr => k ≤ 4 ∧ i = .int .i64 (4 - (k : Int)) ∧ ∃ s' : WS, Own B (Wr p s' * R) wr ∧ Below B w wr ∧ s'.okr (2 + k) ∧ Hid (shiftN k s' = shiftN 4 { s with dn := true }))
  case atStart => exact ⟨Nat.le_refl _, rfl, _, h1, b1, Hl.out, rfl⟩
  case round =>
    obtain ⟨hk, rfl, s', ho, hbb, hl', he⟩ := hrel
    have Bw : B ≤ wr.heap.size := Nat.le_trans hB hbb.size
    have Hl2 := Lib.hid hl'
    clear hl'
    by_cases hk0 : gk = 0
    · subst hk0
      obtain ⟨v', hV'⟩ := ho.hex
      have hV' := hV'.assoc
      have z1 := hV'.unfrozen 1
      have c1 : wr.cell? ⟨p, 1, none⟩ = some (.int .u64 s'.low) := hV'.cell 1
      have o2 := ((hV'.set Bw 1 (.int .u64 0)).assoc').to_hex (A := fun v => WrV p v { s' with low := 0 }) v'
      have b2 := hV'.below_set 1 (.int .u64 0)
      have ok2 : WS.okr { s' with low := 0 } 2 := ⟨⟨by show (0 : Int) ≤ 0; omega, by show (0 : Int) < _; omega, Hl2.out.ok.width0, Hl2.out.ok.width1, Hl2.out.ok.wait0, Hl2.out.ok.wait1, Hl2.out.ok.full0, Hl2.out.ok.size⟩, Hl2.out.room⟩
      have Hl3 := Lib.hid ok2
      clear ok2
      have B2 : B ≤ (wr.setCell ⟨p, 1, none⟩ (.int .u64 0)).heap.size := by simpa [World.setCell] using Bw
      go_wp2_with (first
        | (go_at_call 32
           refine (shift_any p { s' with low := 0 } B R _ B2 Hl3.out.ok o2).mono ?_
           rintro e w3 ⟨rfl, o3, b3⟩
           obtain ⟨v3, hV3⟩ := o3.hex
           have hV3 := hV3.assoc
           have c0 : w3.cell? ⟨p, 0, none⟩ = some v3 := hV3.cell 0
           have B3 : B ≤ w3.heap.size := Nat.le_trans B2 b3.size
           have hrd := (hV3.cast (sep_left_comm _ _ _)).rd)
        | (go_at_call 33
           refine (clone_bytes v3 (shiftS { s' with low := 0 }).out w3 hrd (by have := (shiftS_okr (r := 1) (by omega) Hl3.out).room; have := (shiftS_okr (r := 1) (by omega) Hl3.out).ok.full0; omega)).mono ?_
           rintro e w4 ⟨v4, rfl, o4, b4⟩))
      go_ret
      have hen : shiftS { s' with low := 0 } = endS s := by rw [endS, ← he.out]; rfl
      rw [hen] at o4
      exact ⟨v4, rfl, Own.fresh B3 (by rw [← hen]; exact o3) o4 b4, ((hbb.trans b2).trans b3).trans (b4.mono B3)⟩
    · obtain ⟨j, rfl⟩ : ∃ j, gk = j + 1 := ⟨gk - 1, by omega⟩
      go_wp2_with (go_at_call 32; refine (shift_any p s' B R _ Bw Hl2.out.ok ho).mono ?_; rintro e w3 ⟨rfl, o3, b3⟩)
      go_roundg j
      case measure => omega
      case rel => exact ⟨by omega, congrArg (Value.int .i64) (by omega), _, o3, hbb.trans b3, shiftS_okr (by omega) ⟨Hl2.out.ok, by have := Hl2.out.room; omega⟩, by rw [← he.out]; rfl⟩
end Go.Proofs.Ytnoofgcjhoiboaa
