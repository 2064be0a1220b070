/- The walk over Files of the laws on entries. -/
import Derived.Test.YtfppancidgamjaaDoorEj
import Derived.Laws.IdiomStrings
import Derived.Lib.BufferRead
namespace Go.Proofs.YtfppancidgamjaaDoor
set_option linter.unusedVariables false
set_option linter.unusedSimpArgs false
open Go.RowKit

/-- string(b) of bytes that one can read. -/
theorem str_of_rd {w : World} {v : Value} {data : List UInt8} (h : Rd w v (bytesU data)) : (convert 39 9 v).run Tryd.prog w = .ok (.string (str data)) w := by
  obtain ⟨A, c, rfl, hr⟩ := h
  rw [bytesU_length]
  by_cases hne : bytesU data = []
  · obtain rfl : data = [] := by simpa [bytesU] using hne
    cases A with
    | none => exact run_convert_bytes_nil w 39 5 Tryd.underlying39 Tryd.underlying5 0 c 9 Tryd.underlying9
    | some ad => exact run_convert_bytes_back w 39 9 5 ad c [] Tryd.underlying39 Tryd.underlying5 Tryd.underlying9 (fun j hj => absurd hj (by simp))
  · obtain ⟨ad, rfl, hc⟩ := hr hne
    exact run_convert_bytes_back w 39 9 5 ad c data Tryd.underlying39 Tryd.underlying5 Tryd.underlying9 (fun j hj => hc j _ (by simp [bytesU, hj]))

set_option maxRecDepth 100000 in
set_option maxHeartbeats 3200000 in
theorem files_same (A B : Option Addr) (ca cb : Nat) (a b : List (Fi × Value)) (ha : a.length ≤ 4294967296) (he : a.map (·.1) = b.map (·.1)) (w : World) (hra : RdF w A a) (hrb : RdF w B b) :
    Calls Tryd.prog 22 #[.slice A a.length ca, .slice B b.length cb] w fun e w' => e = .returned (.bool true) ∧ Below w.heap.size w w' := by
  have hb := Below.refl w.heap.size w
  have Ha := Lib.hid (fun w1 (h : Below w.heap.size w w1) => hra.below h)
  have Hb := Lib.hid (fun w1 (h : Below w.heap.size w w1) => hrb.below h)
  have hlen : b.length = a.length := by simpa using (congrArg List.length he).symm
  have He := Lib.hid (fun i (h1 : i < a.length) (h2 : i < b.length) => show a[i].1 = b[i].1 by
    have := List.getElem_of_eq he (i := i) (by simpa using h1)
    simpa using this)
  have n1 : (a.length : Int) ≤ 4294967296 := by omega
  have Hlen := Lib.hid hlen
  rw [hlen]
  clear hra hrb he hlen
  obtain ⟨n, hal⟩ : ∃ n, n = a.length := ⟨_, rfl⟩
  rw [← hal] at n1 ⊢
  have Hal := Lib.hid hal
  clear hal ha
  have hnn : (n == n) = true := by simp
  go_enter Tryd.func22, Tryd.ntmps22
  go_wp2
  go_loopg [15] n (fun k v wr => ∃ i : Nat, k + i = n ∧ v = .int .i64 i ∧ Below w.heap.size w wr)
  case atStart => exact ⟨0, by omega, rfl, hb⟩
  case round =>
    clear hb
    obtain ⟨i, hk, rfl, hb⟩ := hrel
    by_cases hlt : (i : Int) < (n : Int)
    · obtain ⟨j, rfl⟩ : ∃ j, gk = j + 1 := ⟨gk - 1, by omega⟩
      have hil : i < a.length := by have := Hal.out; omega
      have hil2 : i < b.length := by have := Hal.out; have := Hlen.out; omega
      have i0' : (0 : Int) ≤ (i : Int) := by omega
      obtain ⟨p1, o1, rfl, q1, d⟩ := (Ha.out _ hb).1 i hil
      obtain ⟨p2, o2, rfl, q2, d'⟩ := (Hb.out _ hb).1 i hil2
      obtain ⟨d0, d1, d2, d3, d4, d5⟩ := cells6 d
      obtain ⟨e0, e1, e2, e3, e4, e5⟩ := cells6 d'
      have r1 := (Ha.out _ hb).2 _ (List.getElem_mem hil)
      have r2 := (Hb.out _ hb).2 _ (List.getElem_mem hil2)
      have hg := He.out i hil hil2
      have Hk := Lib.hid hk
      clear d d' hk
      rw [← hg] at e0 e1 e2 e3 e5 r2
      clear hg
      generalize a[i] = x at *
      generalize b[i].2 = yv at *
      obtain ⟨⟨path, kind, mode, time, data, tgt⟩, xv⟩ := x
      simp only at d0 d1 d2 d3 d4 d5 e0 e1 e2 e3 e4 e5 r1 r2
      obtain ⟨Ax, cx, hx⟩ : ∃ A c, xv = .slice A data.length c := by obtain ⟨A, c, h, _⟩ := r1; exact ⟨A, c, by rw [h, bytesU_length]⟩
      obtain ⟨Ay, cy, hy⟩ : ∃ A c, yv = .slice A data.length c := by obtain ⟨A, c, h, _⟩ := r2; exact ⟨A, c, by rw [h, bytesU_length]⟩
      subst hx; subst hy
      generalize hdn : data.length = dn at *
      clear hdn
      have b1 := (Below.refl wr.heap.size wr).alloc (Nat.le_refl _) (.cells #[.string (str path), .int .i64 kind, .int .i64 mode, .int .i64 time, .slice Ax dn cx, .string (str tgt)] 41)
      have b2 := b1.alloc (by simp) (.cells #[.string (str path), .int .i64 kind, .int .i64 mode, .int .i64 time, .slice Ay dn cy, .string (str tgt)] 41)
      have s1 := str_of_rd (r1.below b2)
      have s2 := str_of_rd (r2.below b2)
      have hb2 := hb.trans (b2.mono hb.size)
      clear r1 r2 b1 b2 hb
      go_wp2
      go_roundg j
      case measure => omega
      case rel => exact ⟨i + 1, by have := Hk.out; omega, rfl, hb2⟩
    · go_wp2
      go_ret
      exact ⟨rfl, hb⟩
end Go.Proofs.YtfppancidgamjaaDoor
