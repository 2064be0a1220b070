/- The walks over the laws EntryOf and EntryWithins. -/
import Derived.Test.YtfppancidgamjaaDoorEe
import Derived.Test.YtfppancidgamjaaDoorQp
namespace Go.Proofs.YtfppancidgamjaaDoor
set_option linter.unusedVariables false
set_option linter.unusedSimpArgs false
open Go.RowKit

set_option maxRecDepth 100000 in
set_option maxHeartbeats 3200000 in
theorem oflaw_walk (A : Option Addr) (c : Nat) (l : List (Fi × Value)) (hl : l.length ≤ 9223372036854775807) (hw : ∀ x ∈ l, x.1.wide) (w : World) (h : Sh w) (hr : RdF w A l) :
    Calls Tryd.prog 4 #[.slice A l.length c] w fun e w' => e = .returned (.bool true) ∧ Below w.heap.size w w' := by
  have hb := Below.refl w.heap.size w
  have Hh := Lib.hid (fun w1 (b : Below w.heap.size w w1) => sh_below h b)
  have Aw := Lib.hid (fun w1 h1 => awakeE_any w1 h1)
  have Fe := Lib.hid (few_any A c l hl hw w hr)
  have Hr := Lib.hid (fun w1 (b : Below w.heap.size w w1) => hr.below b)
  by_cases hf : fewP (l.map (·.1))
  · rw [decide_eq_true hf] at Fe
    obtain ⟨f1, f2, f3⟩ := few_ok hw hf
    have n1 : (l.length : Int) ≤ 12 := by omega
    have hek := ents_ok (l := l.map (·.1)) (by intro f hf; obtain ⟨x, hx, rfl⟩ := List.mem_map.1 hf; exact f3 x hx) (by omega)
    have hel : (ents (l.map (·.1))).length = l.length := by unfold ents; rw [entsFrom_length]; simp
    have O1 := Lib.hid (fun w1 h1 hr => of_any A c l (by omega) (by omega) f3 w1 h1 hr)
    have T := Lib.hid (fun w1 hr => told_any A c l (by omega) (by omega) w1 hr)
    have Y := Lib.hid (fun A c w1 hr => refwhy_any A c (ents (l.map (·.1))) (by omega) (fun e he => (hek e he).1) (fun e he => (hek e he).2) w1 hr)
    have R := Lib.hid (fun w1 h1 hr => rightE_any A c l (by omega) (by omega) f3 w1 h1 hr)
    have Sm := Lib.hid (fun A B ca cb w1 h1 h2 => same_any A B ca cb (ents (l.map (·.1))) (ents (l.map (·.1))) (by omega) (by omega) w1 h1 h2)
    rw [decide_eq_true rfl] at Sm
    by_cases hz : whyE (ents (l.map (·.1))) = 0
    · have ho1 : ofE (l.map (·.1)) = ents (l.map (·.1)) := by unfold ofE; rw [if_pos hz]
      rw [hz, ho1] at O1
      rw [hz] at Y R
      clear h hr hf f1 f2 f3 hek hel hz ho1
      generalize ents (l.map (·.1)) = es at *
      go_enter Tryd.func4, Tryd.ntmps4
      go_wp2_with fail
      refine (Fe.out).mono ?_
      rintro e wz ⟨rfl, rfl⟩
      go_wp2_with fail
      refine (O1.out _ (Hh.out _ hb) (Hr.out _ hb)).mono ?_
      rintro e w1 ⟨A1, c1, rfl, k1, r1, b1⟩
      have R1 := Lib.hid r1
      replace hb := hb.trans (b1.mono hb.size)
      clear r1 b1 k1
      go_wp2_with fail
      refine (T.out _ (Hr.out _ hb)).mono ?_
      rintro e w2 ⟨A2, c2, rfl, k2, r2, b2⟩
      have R2 := Lib.hid (And.intro (R1.out.below b2) r2)
      replace hb := hb.trans (b2.mono hb.size)
      clear r2 b2 k2 R1
      go_wp2_with fail
      refine (Y.out _ _ _ R2.out.2).mono ?_
      rintro e w3 ⟨rfl, b3⟩
      have R3 := Lib.hid (And.intro (R2.out.1.below b3) (R2.out.2.below b3))
      replace hb := hb.trans (b3.mono hb.size)
      clear b3 R2
      go_wp2_with fail
      refine (Sm.out _ _ _ _ _ R3.out.1 R3.out.2).mono ?_
      rintro e wz ⟨rfl, b⟩
      replace hb := hb.trans (b.mono hb.size)
      clear b
      go_wp2_with fail
      refine (R.out _ (Hh.out _ hb) (Hr.out _ hb)).mono ?_
      rintro e wz ⟨rfl, b⟩
      replace hb := hb.trans (b.mono hb.size)
      clear b
      go_wp2_with fail
      refine (Aw.out _ (Hh.out _ hb)).mono ?_
      rintro e wz ⟨rfl, b⟩
      replace hb := hb.trans (b.mono hb.size)
      clear b
      go_wp2
      go_ret
      exact ⟨rfl, hb⟩
    · have ho1 : ofE (l.map (·.1)) = [] := by unfold ofE; rw [if_neg hz]
      rw [ho1] at O1
      have Hz := Lib.hid hz
      clear h hr hf f1 f2 f3 hek hel hz ho1 Sm
      generalize ents (l.map (·.1)) = es at *
      generalize whyE es = z at *
      have hz1 := Hz.out
      have hz2 : (z == 0) = false := by simpa using hz1
      have hz3 : (z == z) = true := by simp
      rw [hz2] at R
      go_enter Tryd.func4, Tryd.ntmps4
      go_wp2_with fail
      refine (Fe.out).mono ?_
      rintro e wz ⟨rfl, rfl⟩
      go_wp2_with fail
      refine (O1.out _ (Hh.out _ hb) (Hr.out _ hb)).mono ?_
      rintro e w1 ⟨A1, c1, rfl, k1, r1, b1⟩
      replace hb := hb.trans (b1.mono hb.size)
      clear r1 b1 k1
      go_wp2_with fail
      refine (T.out _ (Hr.out _ hb)).mono ?_
      rintro e w2 ⟨A2, c2, rfl, k2, r2, b2⟩
      have R2 := Lib.hid r2
      replace hb := hb.trans (b2.mono hb.size)
      clear r2 b2 k2
      go_wp2_with fail
      refine (Y.out _ _ _ R2.out).mono ?_
      rintro e wz ⟨rfl, b⟩
      replace hb := hb.trans (b.mono hb.size)
      clear b
      go_wp2_with fail
      refine (R.out _ (Hh.out _ hb) (Hr.out _ hb)).mono ?_
      rintro e wz ⟨rfl, b⟩
      replace hb := hb.trans (b.mono hb.size)
      clear b
      go_wp2_with fail
      refine (Aw.out _ (Hh.out _ hb)).mono ?_
      rintro e wz ⟨rfl, b⟩
      replace hb := hb.trans (b.mono hb.size)
      clear b
      go_wp2
      go_ret
      exact ⟨rfl, hb⟩
  · rw [decide_eq_false hf] at Fe
    clear h hr hf
    go_enter Tryd.func4, Tryd.ntmps4
    go_wp2_with fail
    refine (Fe.out).mono ?_
    rintro e wz ⟨rfl, rfl⟩
    go_wp2_with fail
    refine (Aw.out _ (Hh.out _ hb)).mono ?_
    rintro e wz ⟨rfl, b⟩
    replace hb := hb.trans (b.mono hb.size)
    clear b
    go_wp2
    go_ret
    exact ⟨rfl, hb⟩

theorem takeWhile_prefix {α : Type} {p q : α → Bool} (h : ∀ x, p x = true → q x = true) : ∀ l : List α, l.takeWhile p <+: l.takeWhile q
  | [] => List.prefix_refl _
  | a :: l => by
    rw [List.takeWhile_cons, List.takeWhile_cons]
    by_cases hp : p a = true
    · rw [if_pos hp, if_pos (h a hp)]
      obtain ⟨t, ht⟩ := takeWhile_prefix h l
      exact ⟨t, by rw [List.cons_append, ht]⟩
    · rw [if_neg hp]; exact List.nil_prefix
theorem within_prefix (l : List En) {n m : Int} (h : n ≤ m) : withinE l n <+: withinE l m := by
  unfold withinE
  split
  · exact takeWhile_prefix (fun x hx => by rw [decide_eq_true_eq] at hx ⊢; omega) l
  · exact List.prefix_refl _
theorem sumS_take {l : List En} (h : ∀ e ∈ l, plainP e) (n : Nat) : sumS (l.take n) ≤ sumS l := by
  have h1 : sumS l = sumS (l.take n) + sumS (l.drop n) := by
    conv => lhs; rw [← List.take_append_drop n l]
    unfold sumS
    rw [List.map_append, List.sum_append]
  have := (sumS_range (l := l.drop n) (fun e he => h e (List.mem_of_mem_drop he))).1
  omega
theorem within_total {l : List En} (h : fineB l = true) : withinE l (totalE l) = l := by
  obtain ⟨h1, h2⟩ := fineB_true h
  obtain ⟨_, _, _, hp⟩ := whyE_zero h1
  unfold withinE
  rw [if_pos h]
  have : ∀ x ∈ l, decide (x.beg + x.size ≤ totalE l) = true := by
    intro x hx
    obtain ⟨i, hi, rfl⟩ := List.mem_iff_getElem.1 hx
    unfold totalE
    rw [if_pos h, decide_eq_true_eq, h2 i hi, ← sumS_snoc, ← List.take_succ_eq_append_getElem hi]
    exact sumS_take hp (i + 1)
  have h3 := takeWhile_take (fun e : En => decide (e.beg + e.size ≤ totalE l)) l l.length (by rw [List.take_length]; exact this)
  rw [h3]; simp

set_option maxRecDepth 100000 in
set_option maxHeartbeats 3200000 in
theorem withinslaw_walk (A : Option Addr) (c : Nat) (l : List En) (hl : l.length ≤ 9223372036854775807) (hw : ∀ x ∈ l, x.ok) (n m : Int) (w : World) (h : Sh w) (hr : RdA 7 enL w A l) :
    Calls Tryd.prog 7 #[.slice A l.length c, .int .i64 n, .int .i64 m] w fun e w' => e = .returned (.bool true) ∧ Below w.heap.size w w' := by
  have hb := Below.refl w.heap.size w
  have Hh := Lib.hid (fun w1 (b : Below w.heap.size w w1) => sh_below h b)
  have Aw := Lib.hid (fun w1 h1 => awakeE_any w1 h1)
  have Fe := Lib.hid (short_any A c l hl hw w hr)
  have Hr := Lib.hid (fun w1 (b : Below w.heap.size w w1) => hr.below b)
  by_cases hf : shortP l
  · rw [decide_eq_true hf] at Fe
    by_cases hnm : m < n
    · clear h hr hf
      go_enter Tryd.func7, Tryd.ntmps7
      go_wp2_with fail
      refine (Fe.out).mono ?_
      rintro e wz ⟨rfl, rfl⟩
      go_wp2_with fail
      refine (Aw.out _ (Hh.out _ hb)).mono ?_
      rintro e wz ⟨rfl, b⟩
      replace hb := hb.trans (b.mono hb.size)
      clear b
      go_wp2
      go_ret
      exact ⟨rfl, hb⟩
    have f1 := hf.1
    have f2 : ∀ e ∈ l, e.path.length ≤ 4294967280 := fun e he => by have := (hf.2 e he).1; omega
    have n1 : (l.length : Int) ≤ 20 := by omega
    have W := Lib.hid (fun n w1 h1 hr => within_any A c l (by omega) hw f2 n w1 h1 hr)
    have F := Lib.hid (fun w1 h1 hr => fine_any A c l (by omega) hw f2 w1 h1 hr)
    have T := Lib.hid (fun w1 h1 hr => total_any A c l (by omega) hw f2 w1 h1 hr)
    have hp := within_prefix l (show n ≤ m by omega)
    have hpl : ∀ k, (withinE l k).length ≤ l.length := fun k => by
      unfold withinE; split
      · exact (List.takeWhile_sublist _).length_le
      · simp
    have ha := hpl n
    have hbl := hpl m
    have hle := hp.length_le
    rw [prefix_iff] at hp
    have Wn := Lib.hid (W.out n)
    have Wm := Lib.hid (W.out m)
    have Wt := Lib.hid (W.out (totalE l))
    have Hft : Hid (fineB l = true → (withinE l (totalE l)).length = l.length) := Lib.hid (fun h => by rw [within_total h])
    clear h hr hf f1 f2 W hpl
    generalize withinE l n = a at *
    generalize withinE l m = b at *
    generalize withinE l (totalE l) = t at *
    have Hp := Lib.hid hp.2
    have a1 : (a.length : Int) ≤ 20 := by omega
    have a2 : (b.length : Int) ≤ 20 := by omega
    have a3 : (a.length : Int) ≤ (b.length : Int) := by omega
    have a3n : a.length ≤ b.length := hle
    have hg := guardEn
    clear hp ha hbl hle
    go_enter Tryd.func7, Tryd.ntmps7
    go_wp2_with fail
    refine (Fe.out).mono ?_
    rintro e wz ⟨rfl, rfl⟩
    go_wp2_with fail
    refine (Wn.out _ (Hh.out _ hb) (Hr.out _ hb)).mono ?_
    rintro e w1 ⟨A1, c1, rfl, k1, r1, b1⟩
    have R1 := Lib.hid r1
    replace hb := hb.trans (b1.mono hb.size)
    clear r1 b1 k1
    go_wp2_with fail
    refine (Wm.out _ (Hh.out _ hb) (Hr.out _ hb)).mono ?_
    rintro e wz ⟨A2, c2, rfl, k2, r2, b2⟩
    have R2 := Lib.hid (And.intro (R1.out.below b2) r2)
    replace hb := hb.trans (b2.mono hb.size)
    clear r2 b2 k2 R1
    go_wp2
    go_loopg [27] a.length (fun k v wr => ∃ i : Nat, k + i = a.length ∧ v = .int .i64 i ∧ Below w.heap.size w wr ∧ Below wz.heap.size wz wr)
    case atStart => exact ⟨0, by omega, rfl, hb, Below.refl _ _⟩
    case round =>
      clear hb
      obtain ⟨i, hk, rfl, hb, hbz⟩ := hrel
      by_cases hlt : (i : Int) < (a.length : Int)
      · obtain ⟨j, rfl⟩ : ∃ j, gk = j + 1 := ⟨gk - 1, by omega⟩
        have hil : i < a.length := by omega
        have hil2 : i < b.length := by omega
        have i0' : (0 : Int) ≤ (i : Int) := by omega
        have i1' : (i : Int) < (b.length : Int) := by omega
        have i2' : ¬ (b.length : Int) ≤ (i : Int) := by omega
        have Hk := Lib.hid hk
        clear hk
        obtain ⟨p1, o1, rfl, q1, d⟩ := R2.out.1.below hbz i hil
        obtain ⟨p2, o2, rfl, q2, d'⟩ := R2.out.2.below hbz i hil2
        have hge := Hp.out i hil hil2
        rw [hge] at d'
        clear hge
        generalize a[i] = x at *
        have hneq := fun W => neqEn x x W
        rw [decide_eq_true rfl] at hneq
        obtain ⟨path, kind, mode, time, tgt, beg, size⟩ := x
        obtain ⟨d0, d1, d2, d3, d4, d5, d6⟩ := RdA.cells7 d
        obtain ⟨e0, e1, e2, e3, e4, e5, e6⟩ := RdA.cells7 d'
        simp only [enL] at d0 d1 d2 d3 d4 d5 d6 e0 e1 e2 e3 e4 e5 e6 hneq
        clear d d'
        have i3' : decide ((b.length : Int) ≤ (i : Int)) = false := decide_eq_false i2'
        have i4' : decide (b.length ≤ i) = false := decide_eq_false (by omega)
        go_wp2
        go_quiet (fail)
        go_wp2
        go_roundg j
        case measure => omega
        case rel => exact ⟨i + 1, by have := Hk.out; omega, rfl, below_drewN hb _, below_drewN hbz _⟩
      · have hab : decide (a.length ≤ b.length) = true := decide_eq_true a3n
        clear hk
        cases hff : fineB l with
        | false =>
          rw [hff] at F
          clear hff
          go_wp2_with fail
          refine (F.out _ (Hh.out _ hb) (Hr.out _ hb)).mono ?_
          rintro e wz ⟨rfl, b⟩
          replace hb := hb.trans (b.mono hb.size)
          clear b
          go_wp2_with fail
          refine (Aw.out _ (Hh.out _ hb)).mono ?_
          rintro e wz ⟨rfl, b⟩
          replace hb := hb.trans (b.mono hb.size)
          clear b
          go_wp2
          go_ret
          exact ⟨rfl, hb⟩
        | true =>
          rw [hff] at F
          have Ht := Lib.hid (Hft.out hff)
          have hll : (l.length == l.length) = true := by simp
          clear hff
          generalize totalE l = s at *
          go_wp2_with fail
          refine (F.out _ (Hh.out _ hb) (Hr.out _ hb)).mono ?_
          rintro e wz ⟨rfl, b⟩
          replace hb := hb.trans (b.mono hb.size)
          clear b
          go_wp2_with fail
          refine (T.out _ (Hh.out _ hb) (Hr.out _ hb)).mono ?_
          rintro e wz ⟨rfl, b⟩
          replace hb := hb.trans (b.mono hb.size)
          clear b
          go_wp2_with fail
          refine (Wt.out _ (Hh.out _ hb) (Hr.out _ hb)).mono ?_
          rintro e w3 ⟨A3, c3, rfl, k3, r3, b3⟩
          replace hb := hb.trans (b3.mono hb.size)
          clear r3 b3 k3
          rw [Ht.out]
          go_wp2_with fail
          refine (Aw.out _ (Hh.out _ hb)).mono ?_
          rintro e wz ⟨rfl, b⟩
          replace hb := hb.trans (b.mono hb.size)
          clear b
          go_wp2
          go_ret
          exact ⟨rfl, hb⟩
  · rw [decide_eq_false hf] at Fe
    clear h hr hf
    go_enter Tryd.func7, Tryd.ntmps7
    go_wp2_with fail
    refine (Fe.out).mono ?_
    rintro e wz ⟨rfl, rfl⟩
    go_wp2_with fail
    refine (Aw.out _ (Hh.out _ hb)).mono ?_
    rintro e wz ⟨rfl, b⟩
    replace hb := hb.trans (b.mono hb.size)
    clear b
    go_wp2
    go_ret
    exact ⟨rfl, hb⟩
end Go.Proofs.YtfppancidgamjaaDoor
