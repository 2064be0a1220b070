/- Package entry: the walk over what holds of all. -/
import Derived.Test.YtfppancidgamjaaDoorE1
namespace Go.Proofs.YtfppancidgamjaaDoor
set_option linter.unusedVariables false
set_option linter.unusedSimpArgs false
open Go.RowKit

def allB (p : Nat → Bool) (n : Nat) : Bool := (List.range n).all p
theorem allB_true {p : Nat → Bool} {n : Nat} : allB p n = true ↔ ∀ i, i < n → p i = true := by
  unfold allB; rw [List.all_eq_true]; simp
theorem allB_false {p : Nat → Bool} {n i : Nat} (h : i < n) (hp : p i = false) : allB p n = false := by
  cases hh : allB p n
  · rfl
  · have := allB_true.1 hh i h
    rw [hp] at this; cases this
set_option maxHeartbeats 1600000 in
/-- Does a function answer yes at each entry? What it keeps of its own: I. -/
theorem all_any (N : FuncId) (hN : ∀ (xs : Array Value) (W : World), (callFunc N xs).run Tryd.prog W = .ok (.enter N xs) W) (caps : Array Value) (I : Nat → World → Prop) (p : Nat → Bool) (A : Option Addr) (c : Nat) (l : List En) (hl : l.length ≤ 9223372036854775807) (w0 w : World) (hb : Below w0.heap.size w0 w) (hr : RdA 7 enL w0 A l) (h0 : I 0 w)
    (hal : ∀ i W o, I i W → I i (W.alloc o)) (hf : ∀ i (h : i < l.length) W, Below w0.heap.size w0 W → I i W → Calls Tryd.prog N (#[.agg (enL l[i]).toArray] ++ caps) W fun e W' => e = .returned (.bool (p i)) ∧ (p i = true → I (i + 1) W') ∧ Below w0.heap.size W W') :
    Calls Tryd.prog 34 #[.slice A l.length c, .func (.func N) #[] caps] w fun e W' => e = .returned (.bool (allB p l.length)) ∧ Below w0.heap.size w0 W' := by
  have Hr := Lib.hid hr
  have Hf := Lib.hid hf
  have Hal := Lib.hid hal
  have H0 := Lib.hid h0
  clear hr hf hal h0
  have n1 : (l.length : Int) ≤ 9223372036854775807 := by omega
  go_enter Tryd.func34, Tryd.ntmps34
  go_wp2
  go_loopg [9] l.length (fun k v wr => ∃ i : Nat, k + i = l.length ∧ v = .int .i64 i ∧ Below w0.heap.size w0 wr ∧ Hid (I i wr) ∧ Hid (∀ j, j < i → p j = true))
  case atStart => exact ⟨0, by omega, rfl, hb, H0, Lib.hid (fun j h => absurd h (Nat.not_lt_zero _))⟩
  case round =>
    clear hb H0
    obtain ⟨i, hk, rfl, hb, hi, hp⟩ := hrel
    by_cases hlt : (i : Int) < (l.length : Int)
    · obtain ⟨j, rfl⟩ : ∃ j, gk = j + 1 := ⟨gk - 1, by omega⟩
      have hil : i < l.length := by omega
      have i0 : (0 : Int) ≤ (i : Int) := by omega
      obtain ⟨b, off, rfl, q, d⟩ := Hr.out.below hb i hil
      have Hk := Lib.hid hk
      have HF := Lib.hid (fun W => Hf.out i hil W)
      have hp2 : Hid (p i = true → ∀ j, j < i + 1 → p j = true) := Lib.hid (fun h j hj => by
        by_cases e : j = i
        · subst e; exact h
        · exact hp.out j (by omega))
      generalize hpi : p i = pi at *
      have Hpi := Lib.hid hpi
      clear hk hp hpi
      generalize l[i] = x at *
      obtain ⟨path, kind, mode, time, tgt, beg, size⟩ := x
      have d0 := d 0 _ rfl
      have d1 := d 1 _ rfl
      have d2 := d 2 _ rfl
      have d3 := d 3 _ rfl
      have d4 := d 4 _ rfl
      have d5 := d 5 _ rfl
      have d6 := d 6 _ rfl
      simp only [Nat.add_zero] at d0 d1 d2 d3 d4 d5 d6
      clear d
      have hal1 := Lib.hid (Hal.out i wr (.cells #[.string (str path), .int .i64 kind, .int .i64 mode, .int .i64 time, .string (str tgt), .int .i64 beg, .int .i64 size] 30) hi.out)
      have hb1 := hb.alloc hb.size (.cells #[.string (str path), .int .i64 kind, .int .i64 mode, .int .i64 time, .string (str tgt), .int .i64 beg, .int .i64 size] 30)
      go_wp2_with fail
      refine (HF.out _ hb1 hal1.out).mono ?_
      rintro e wz ⟨rfl, hI, b⟩
      have HI := Lib.hid hI
      have hb2 := hb1.trans b
      clear hI b hb1 hb hi hal1 HF d0 d1 d2 d3 d4 d5 d6
      cases pi with
      | true =>
        go_wp2
        go_roundg j
        case measure => omega
        case rel => exact ⟨i + 1, by have := Hk.out; omega, rfl, hb2, Lib.hid (HI.out (by trivial)), Lib.hid (hp2.out (by trivial))⟩
      | false =>
        go_wp2
        go_ret
        exact ⟨by rw [allB_false hil Hpi.out]; rfl, hb2⟩
    · go_wp2
      go_ret
      exact ⟨by rw [allB_true.2 (fun j hj => hp.out j (by omega))]; rfl, hb⟩
end Go.Proofs.YtfppancidgamjaaDoor
