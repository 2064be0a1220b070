/- The walk over the reference's Right. -/
import Derived.Test.YtfppancidgamjaaDoorQ6
namespace Go.Proofs.YtfppancidgamjaaDoor
set_option linter.unusedVariables false
set_option linter.unusedSimpArgs false
open Go.RowKit

set_option maxHeartbeats 1600000 in
theorem refright_any (s : ByteArray) (hs : s.size ≤ 4294967296) (w : World) : Calls Tryd.prog 36 #[.string s] w fun e w' => e = .returned (.bool (okPath s.data.toList)) ∧ Below w.heap.size w w' := by
  have hsz : (s.size : Int) ≤ 4294967296 := by omega
  have hlen : s.data.toList.length = s.size := rfl
  obtain ⟨hl1, hl2⟩ := psplit_len s.data.toList
  have hpath : ∀ l, l = psplit s.data.toList → okPath s.data.toList = (decide (s.size ≤ 256) && l.all okPart) := by
    rintro l rfl
    rfl
  have Hpath := Lib.hid hpath
  have hsp := Lib.hid (refsplit_any s hs w)
  clear hpath
  obtain ⟨l, hl⟩ : ∃ l, psplit s.data.toList = l := ⟨_, rfl⟩
  rw [hl] at hl1 hl2 hsp
  have Hl2 := Lib.hid hl2
  have hp := Hpath.out l hl.symm
  have Hp := Lib.hid hp
  have hll : (l.length : Int) ≤ 4294967297 := by omega
  clear hl hl1 hl2 hp Hpath
  go_enter Tryd.func36, Tryd.ntmps36
  go_wp2_with fail
  refine hsp.out.mono ?_
  rintro e w1 ⟨A, c, rfl, r1, b1⟩
  have Hr := Lib.hid r1
  clear r1 hsp
  go_wp2
  go_loopg [4] l.length (fun k i wr => k ≤ l.length ∧ i = .int .i64 ((l.length : Int) - (k : Int)) ∧ Below w.heap.size w wr ∧ Hid (RdS wr A l) ∧ Hid (∀ j (h : j < l.length), j < l.length - k → okPart l[j] = true))
  case atStart => exact ⟨Nat.le_refl _, congrArg (Value.int .i64) (by omega), b1, Hr, Lib.hid (fun j h h2 => by omega)⟩
  case round =>
    obtain ⟨hk, rfl, hbb, hrd, hg⟩ := hrel
    by_cases hk0 : gk ≠ 0
    · obtain ⟨j, rfl⟩ : ∃ j, gk = j + 1 := ⟨gk - 1, by omega⟩
      obtain ⟨i, hi⟩ : ∃ i : Nat, i + (j + 1) = l.length := ⟨l.length - (j + 1), by omega⟩
      have hil : i < l.length := by omega
      obtain ⟨b, off, rfl, hcw⟩ := hrd.out i hil
      have hxi := Hl2.out _ (List.getElem_mem hil)
      have hg2 : okPart l[i] = true → Hid (∀ j' (h : j' < l.length), j' < l.length - j → okPart l[j'] = true) := fun h1 => Lib.hid (fun j' h h2 => by
        by_cases e : j' = i
        · subst e; exact h1
        · exact hg.out j' h (by omega))
      have hbad : okPart l[i] = false → Hid (okPath s.data.toList = false) := fun h1 => Lib.hid (by
        rw [Hp.out]
        have : l.all okPart = false := by
          rw [List.all_eq_false]
          exact ⟨_, List.getElem_mem hil, by simp [h1]⟩
        rw [this, Bool.and_false])
      have Hg2 := Lib.hid hg2
      have Hbad := Lib.hid hbad
      clear hg2 hbad
      generalize l[i] = x at hcw hxi Hg2 Hbad
      have e1 : (l.length : Int) - ((j + 1 : Nat) : Int) = (i : Int) := by omega
      have i0 : (0 : Int) ≤ (i : Int) := by omega
      have i1 : (i : Int) < (l.length : Int) := by omega
      rw [e1]
      clear e1
      have Hi := Lib.hid hi
      clear hi
      go_wp2_with fail
      refine (refpart_any (str x) (by show x.length ≤ _; omega) wr).mono ?_
      rintro e w3 ⟨rfl, rfl⟩
      clear hcw
      cases hok : okPart x with
      | true =>
        have hv : okPart (str x).data.toList = true := hok
        rw [hv]
        go_wp2
        go_roundg j
        case measure => omega
        case rel => exact ⟨by omega, congrArg (Value.int .i64) (by have := Hi.out; omega), hbb, hrd, Hg2.out hok⟩
      | false =>
        have hv : okPart (str x).data.toList = false := hok
        rw [hv]
        go_wp2
        go_ret
        exact ⟨by rw [(Hbad.out hok).out]; rfl, hbb⟩
    · obtain rfl : gk = 0 := by omega
      have hall : l.all okPart = true := by
        rw [List.all_eq_true]
        intro x hx
        obtain ⟨i, hi, rfl⟩ := List.mem_iff_getElem.1 hx
        exact hg.out i hi (by omega)
      by_cases hle : (s.size : Int) ≤ 256
      · have Hf : Hid (okPath s.data.toList = true) := Lib.hid (by rw [Hp.out, hall, decide_eq_true (show s.size ≤ 256 by omega)]; rfl)
        clear hall
        go_wp2
        go_ret
        exact ⟨by rw [Hf.out]; rfl, hbb⟩
      · have Hf : Hid (okPath s.data.toList = false) := Lib.hid (by rw [Hp.out, decide_eq_false (show ¬ s.size ≤ 256 by omega)]; rfl)
        clear hall
        go_wp2
        go_ret
        refine ⟨?_, hbb⟩
        rw [Hf.out]
        first
          | rfl
          | (show Ending.returned (.bool (decide ((s.size : Int) ≤ 256))) = _
             rw [decide_eq_false hle])
end Go.Proofs.YtfppancidgamjaaDoor
