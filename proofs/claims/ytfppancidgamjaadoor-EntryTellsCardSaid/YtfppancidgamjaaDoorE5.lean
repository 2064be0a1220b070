/- Package entry: the walk over what is amiss with entries. -/
import Derived.Test.YtfppancidgamjaaDoorE4
namespace Go.Proofs.YtfppancidgamjaaDoor
set_option linter.unusedVariables false
set_option linter.unusedSimpArgs false
open Go.RowKit

theorem all_pure (N : FuncId) (hN : ∀ (xs : Array Value) (W : World), (callFunc N xs).run Tryd.prog W = .ok (.enter N xs) W) (q : En → Bool) (A : Option Addr) (c : Nat) (l : List En) (hl : l.length ≤ 9223372036854775807) (w : World) (hr : RdA 7 enL w A l)
    (hf : ∀ e ∈ l, ∀ W, Calls Tryd.prog N #[.agg (enL e).toArray] W fun x W' => x = .returned (.bool (q e)) ∧ Below W.heap.size W W') :
    Calls Tryd.prog 34 #[.slice A l.length c, .func (.func N) #[] #[]] w fun e W' => e = .returned (.bool (l.all q)) ∧ Below w.heap.size w W' := by
  have h := all_any N hN #[] (fun _ _ => True) (fun i => q (l.getD i default)) A c l hl w w (Below.refl _ _) hr trivial (fun _ _ _ _ => trivial) (fun i hi W hb _ => by
    have hg : l.getD i default = l[i] := by simp [hi]
    rw [hg, Array.append_empty]
    exact (hf _ (List.getElem_mem hi) W).mono fun e W' ⟨he, hb'⟩ => ⟨he, fun _ => trivial, hb'.mono hb.size⟩)
  rw [allB_list q l default] at h
  exact h
theorem run_small (xs : Array Value) (W : World) : (callFunc 50 xs).run Tryd.prog W = .ok (.enter 50 xs) W := by kernel_rfl
theorem run_plain (xs : Array Value) (W : World) : (callFunc 51 xs).run Tryd.prog W = .ok (.enter 51 xs) W := by kernel_rfl

theorem whyE_eq (l : List En) : whyE l = if (l.map (·.path)).all okPath = false then 9
  else if sortedB (l.map (·.path)) = false then 10
  else if 1024 < l.length ∨ 4194304 < sumC l ∨ l.all (fun e => decide (e.size ≤ 1048576)) = false then 7
  else if l.all plainB = false then 1
  else 0 := rfl
theorem capA_range {a s : Int} (h0 : 0 ≤ a) : 0 ≤ capA a s ∧ capA a s ≤ 4194305 := by unfold capA; omega
theorem sumC_snoc (l : List En) (e : En) : sumC (l ++ [e]) = capA (sumC l) e.size := by unfold sumC; rw [List.foldl_append]; rfl
theorem sumC_range (l : List En) : 0 ≤ sumC l ∧ sumC l ≤ 4194305 := by
  rcases List.eq_nil_or_concat l with rfl | ⟨m, e, rfl⟩
  · exact ⟨Int.le_refl _, by decide⟩
  · rw [List.concat_eq_append, sumC_snoc]
    refine capA_range ?_
    have : ∀ (l : List En) (a : Int), 0 ≤ a → 0 ≤ l.foldl (fun a e => capA a e.size) a := by
      intro l
      induction l with
      | nil => intro a h; exact h
      | cons e l ih => intro a h; exact ih _ (capA_range h).1
    exact this m 0 (Int.le_refl _)

set_option maxRecDepth 100000 in
set_option maxHeartbeats 3200000 in
theorem why_any (A : Option Addr) (c : Nat) (l : List En) (hl : l.length ≤ 4294967296) (ok : ∀ e ∈ l, e.ok) (hx : ∀ e ∈ l, e.path.length ≤ 4294967280) (w : World) (h : Sh w) (hr : RdA 7 enL w A l) :
    Calls Tryd.prog 33 #[.slice A l.length c] w fun e w' => e = .returned (.int .i64 (whyE l)) ∧ Below w.heap.size w w' := by
  have hb := Below.refl w.heap.size w
  have Hh := Lib.hid (fun w1 (b : Below w.heap.size w w1) => sh_below h b)
  have Hr := Lib.hid (fun w1 (b : Below w.heap.size w w1) => hr.below b)
  have Ok := Lib.hid ok
  have Hx := Lib.hid hx
  have n1 : (l.length : Int) ≤ 4294967296 := by omega
  clear h hr ok hx
  go_enter Tryd.func33, Tryd.ntmps33
  go_wp2
  go_loopg [3, 8] l.length (fun k a v wr => ∃ i : Nat, k + i = l.length ∧ v = .int .i64 i ∧ a = .int .i64 (sumC (l.take i)) ∧ Below w.heap.size w wr)
  case atStart => exact ⟨0, by omega, rfl, rfl, hb⟩
  case round =>
    clear hb
    obtain ⟨i, hk, rfl, rfl, hb⟩ := hrel
    by_cases hlt : (i : Int) < (l.length : Int)
    · obtain ⟨j, rfl⟩ : ∃ j, gk = j + 1 := ⟨gk - 1, by omega⟩
      have hil : i < l.length := by omega
      have i0' : (0 : Int) ≤ (i : Int) := by omega
      obtain ⟨b, off, rfl, q, d⟩ := Hr.out _ hb i hil
      have Hk := Lib.hid hk
      have Hsn : Hid (sumC (l.take (i + 1)) = capA (sumC (l.take i)) l[i].size) := Lib.hid (by rw [List.take_succ_eq_append_getElem hil, sumC_snoc])
      obtain ⟨a0, a1⟩ := sumC_range (l.take i)
      have hz := (Ok.out _ (List.getElem_mem hil)).size
      clear hk
      generalize sumC (l.take i) = a at *
      generalize l[i] = x at *
      obtain ⟨path, kind, mode, time, tgt, beg, size⟩ := x
      obtain ⟨d0, d1, d2, d3, d4, d5, d6⟩ := RdA.cells7 d
      simp only [okI] at d0 d1 d2 d3 d4 d5 d6 Hsn hz
      obtain ⟨z0, z1⟩ := hz
      clear d
      have hb1 := hb.alloc hb.size (.cells #[.string (str path), .int .i64 kind, .int .i64 mode, .int .i64 time, .string (str tgt), .int .i64 beg, .int .i64 size] 30)
      clear hb
      go_wp2
      go_roundg j
      case measure => omega
      case rel => exact ⟨i + 1, by have := Hk.out; omega, rfl, congrArg (Value.int .i64) (by rw [Hsn.out]; rfl), hb1⟩
    · obtain rfl : i = l.length := by omega
      rw [List.take_length]
      have hsz : (l.map (·.path)).length = l.length := by simp
      have P := Lib.hid (fun w1 hr => paths_any A c l hl w1 hr)
      have hxp : ∀ x ∈ l.map (·.path), x.length ≤ 4294967280 := fun x hx => by
        obtain ⟨e, he, rfl⟩ := List.mem_map.1 hx
        exact Hx.out e he
      have S1 := Lib.hid (fun A' c' w1 h1 hr => allstr_any A' c' (l.map (·.path)) (by rw [hsz]; omega) (fun x hx => by have := hxp x hx; omega) w1 h1 hr)
      have S2 := Lib.hid (fun A' c' w1 h1 hr => sorted_any A' c' (l.map (·.path)) (by rw [hsz]; omega) hxp w1 h1 hr)
      have Q1 := Lib.hid (fun w1 hr => all_pure _ run_small (fun e => decide (e.size ≤ 1048576)) A c l (by omega) w1 hr (fun e _ W => small_any e W))
      have Q2 := Lib.hid (fun w1 hr => all_pure _ run_plain plainB A c l (by omega) w1 hr (fun e he W => plain_any e (Ok.out e he) W))
      have hso := Lib.hid (sortedB_iff (l.map (·.path)))
      have hn : (l.length == (l.map (·.path)).length) = true := by rw [hsz]; simp
      have hw := Lib.hid (whyE_eq l)
      obtain ⟨a0, a1⟩ := sumC_range l
      have Ha := Lib.hid (And.intro a0 a1)
      clear hk hsz hxp hn a0 a1
      obtain ⟨z, hzz⟩ : ∃ z, whyE l = z := ⟨_, rfl⟩
      have Hz := Lib.hid hzz
      rw [hzz] at hw
      clear hzz
      generalize sumC l = a at *
      generalize l.all plainB = y4 at *
      generalize l.all (fun e => decide (e.size ≤ 1048576)) = y3 at *
      generalize l.map (·.path) = ps at *
      generalize ps.all okPath = y1 at *
      generalize sortedB ps = y2 at *
      obtain ⟨a0, a1⟩ := Ha.out
      clear Ha
      cases y1 with
      | false =>
        have hz : Hid (z = 9) := Lib.hid (by rw [hw.out]; rfl)
        clear hw
        go_wp2_with fail
        refine (P.out _ (Hr.out _ hb)).mono ?_
        rintro e wz ⟨A1, c1, rfl, k1, r1, b⟩
        replace hb := hb.trans (b.mono hb.size)
        have R1 := Lib.hid (rds_of_rdA r1)
        clear b r1
        go_wp2_with fail
        refine (S1.out _ _ _ (Hh.out _ hb) R1.out).mono ?_
        rintro e wz ⟨rfl, b⟩
        replace hb := hb.trans (b.mono hb.size)
        clear b
        go_wp2
        go_ret
        exact ⟨by rw [Hz.out, hz.out]; rfl, hb⟩
      | true =>
      have hw2 : z = if y2 = false then 10 else if 1024 < l.length ∨ 4194304 < a ∨ y3 = false then 7 else if y4 = false then 1 else 0 := by rw [hw.out]; rfl
      replace hw := Lib.hid hw2
      clear hw2
      cases y2 with
      | false =>
        have hz : Hid (z = 10) := Lib.hid (by rw [hw.out]; rfl)
        clear hw
        go_wp2_with fail
        refine (P.out _ (Hr.out _ hb)).mono ?_
        rintro e wz ⟨A1, c1, rfl, k1, r1, b⟩
        replace hb := hb.trans (b.mono hb.size)
        have R1 := Lib.hid (rds_of_rdA r1)
        clear b r1
        go_wp2_with fail
        refine (S1.out _ _ _ (Hh.out _ hb) R1.out).mono ?_
        rintro e wz ⟨rfl, b⟩
        replace hb := hb.trans (b.mono hb.size)
        clear b
        go_wp2_with fail
        refine (P.out _ (Hr.out _ hb)).mono ?_
        rintro e wz ⟨A1, c1, rfl, k1, r1, b⟩
        replace hb := hb.trans (b.mono hb.size)
        have R1 := Lib.hid (rds_of_rdA r1)
        clear b r1
        go_wp2_with fail
        refine (S2.out _ _ _ (Hh.out _ hb) R1.out).mono ?_
        rintro e wz ⟨r, rfl, hr, b⟩
        obtain rfl : r = false := by
          cases r
          · rfl
          · exact absurd (hso.out.2 (hr.1 rfl)) (by simp)
        replace hb := hb.trans (b.mono hb.size)
        clear b hr
        go_wp2
        go_ret
        exact ⟨by rw [Hz.out, hz.out]; rfl, hb⟩
      | true =>
      have hw2 : z = if 1024 < l.length ∨ 4194304 < a ∨ y3 = false then 7 else if y4 = false then 1 else 0 := by rw [hw.out]; rfl
      replace hw := Lib.hid hw2
      clear hw2
      go_wp2_with fail
      refine (P.out _ (Hr.out _ hb)).mono ?_
      rintro e wz ⟨A1, c1, rfl, k1, r1, b⟩
      replace hb := hb.trans (b.mono hb.size)
      have R1 := Lib.hid (rds_of_rdA r1)
      clear b r1
      go_wp2_with fail
      refine (S1.out _ _ _ (Hh.out _ hb) R1.out).mono ?_
      rintro e wz ⟨rfl, b⟩
      replace hb := hb.trans (b.mono hb.size)
      clear b
      go_wp2_with fail
      refine (P.out _ (Hr.out _ hb)).mono ?_
      rintro e wz ⟨A1, c1, rfl, k1, r1, b⟩
      replace hb := hb.trans (b.mono hb.size)
      have R1 := Lib.hid (rds_of_rdA r1)
      clear b r1
      go_wp2_with fail
      refine (S2.out _ _ _ (Hh.out _ hb) R1.out).mono ?_
      rintro e wz ⟨r, rfl, hr, b⟩
      obtain rfl : r = true := hr.2 (hso.out.1 (by simp))
      replace hb := hb.trans (b.mono hb.size)
      clear b hr
      by_cases h1 : (1024 : Int) < (l.length : Int)
      · have hz : Hid (z = 7) := Lib.hid (by rw [hw.out, if_pos (.inl (by omega))])
        clear hw
        go_wp2
        go_ret
        exact ⟨by rw [Hz.out, hz.out]; rfl, hb⟩
      by_cases h2 : 4194304 < a
      · have hz : Hid (z = 7) := Lib.hid (by rw [hw.out, if_pos (.inr (.inl h2))])
        clear hw
        go_wp2
        go_ret
        exact ⟨by rw [Hz.out, hz.out]; rfl, hb⟩
      cases y3 with
      | false =>
        have hz : Hid (z = 7) := Lib.hid (by rw [hw.out, if_pos (.inr (.inr rfl))])
        clear hw
        go_wp2_with fail
        refine (Q1.out _ (Hr.out _ hb)).mono ?_
        rintro e wz ⟨rfl, b⟩
        replace hb := hb.trans (b.mono hb.size)
        clear b
        go_wp2
        go_ret
        exact ⟨by rw [Hz.out, hz.out]; rfl, hb⟩
      | true =>
      have hw2 : z = if y4 = false then 1 else 0 := by rw [hw.out, if_neg (by simp; omega)]
      replace hw := Lib.hid hw2
      clear hw2
      cases y4 with
      | false =>
        have hz : Hid (z = 1) := Lib.hid (by rw [hw.out]; rfl)
        clear hw
        go_wp2_with fail
        refine (Q1.out _ (Hr.out _ hb)).mono ?_
        rintro e wz ⟨rfl, b⟩
        replace hb := hb.trans (b.mono hb.size)
        clear b
        go_wp2_with fail
        refine (Q2.out _ (Hr.out _ hb)).mono ?_
        rintro e wz ⟨rfl, b⟩
        replace hb := hb.trans (b.mono hb.size)
        clear b
        go_wp2
        go_ret
        exact ⟨by rw [Hz.out, hz.out]; rfl, hb⟩
      | true =>
        have hz : Hid (z = 0) := Lib.hid (by rw [hw.out]; rfl)
        clear hw
        go_wp2_with fail
        refine (Q1.out _ (Hr.out _ hb)).mono ?_
        rintro e wz ⟨rfl, b⟩
        replace hb := hb.trans (b.mono hb.size)
        clear b
        go_wp2_with fail
        refine (Q2.out _ (Hr.out _ hb)).mono ?_
        rintro e wz ⟨rfl, b⟩
        replace hb := hb.trans (b.mono hb.size)
        clear b
        go_wp2
        go_ret
        exact ⟨by rw [Hz.out, hz.out]; rfl, hb⟩
end Go.Proofs.YtfppancidgamjaaDoor
