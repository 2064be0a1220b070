/- The walks over the reference's Fine, Total and Within. -/
import Derived.Test.YtfppancidgamjaaDoorE9
namespace Go.Proofs.YtfppancidgamjaaDoor
set_option linter.unusedVariables false
set_option linter.unusedSimpArgs false
open Go.RowKit

set_option maxRecDepth 100000 in
set_option maxHeartbeats 1600000 in
theorem reffine_any (A : Option Addr) (c : Nat) (l : List En) (hl : l.length ≤ 4294967296) (ok : ∀ e ∈ l, e.ok) (hx : ∀ e ∈ l, e.path.length ≤ 4294967280) (w : World) (hr : RdA 7 enL w A l) :
    Calls Tryd.prog 27 #[.slice A l.length c] w fun e w' => e = .returned (.bool (fineB l)) ∧ Below w.heap.size w w' := by
  have W1 := Lib.hid (refwhy_any A c l hl ok hx w hr)
  have Hr := Lib.hid (fun w1 (b : Below w.heap.size w w1) => hr.below b)
  have n1 : (l.length : Int) ≤ 4294967296 := by omega
  have Hf := Lib.hid (show fineB l = ((whyE l == 0) && begB 0 l) from rfl)
  clear hr
  by_cases h0 : whyE l = 0
  · obtain ⟨_, hl2, _, hp⟩ := whyE_zero h0
    have Hp := Lib.hid hp
    have Hl2 := Lib.hid hl2
    have Hyes : Hid ((∀ i (h : i < l.length), l[i].beg = sumS (l.take i)) → fineB l = true) := Lib.hid (fun h => by
      rw [Hf.out, h0]; simp only [beq_self_eq_true, Bool.true_and]; rw [begB_index]; intro i hi; rw [Int.zero_add]; exact h i hi)
    have Hno : Hid (∀ i (h : i < l.length), ¬ l[i].beg = sumS (l.take i) → fineB l = false) := Lib.hid (fun i h hne => by
      cases hff : fineB l
      · rfl
      · exact absurd ((fineB_true hff).2 i h) hne)
    rw [h0] at W1
    clear h0 hl2 hp Hf
    go_enter Tryd.func27, Tryd.ntmps27
    go_wp2_with fail
    refine W1.out.mono ?_
    rintro e w1 ⟨rfl, b1⟩
    go_wp2
    go_loopg [3, 4] l.length (fun k a v wr => ∃ i : Nat, k + i = l.length ∧ v = .int .i64 i ∧ a = .int .i64 (sumS (l.take i)) ∧ Below w.heap.size w wr ∧ Hid (∀ j (h : j < l.length), j < i → l[j].beg = sumS (l.take j)))
    case atStart => exact ⟨0, by omega, rfl, rfl, b1, Lib.hid (fun j h h2 => absurd h2 (Nat.not_lt_zero _))⟩
    case round =>
      clear b1
      obtain ⟨i, hk, rfl, rfl, hb, hp⟩ := hrel
      by_cases hlt : (i : Int) < (l.length : Int)
      · obtain ⟨j, rfl⟩ : ∃ j, gk = j + 1 := ⟨gk - 1, by omega⟩
        have hil : i < l.length := by omega
        have i0' : (0 : Int) ≤ (i : Int) := by omega
        obtain ⟨b, off, rfl, q, d⟩ := Hr.out _ hb i hil
        have Hk := Lib.hid hk
        clear hk
        have hs1 := sumS_range (l := l.take i) (fun e he => Hp.out e (List.mem_of_mem_take he))
        have hlt2 : (l.take i).length ≤ 1024 := by rw [List.length_take]; have := Hl2.out; omega
        have a0 := hs1.1
        have a1 : sumS (l.take i) ≤ 1073741824 := by omega
        obtain ⟨_, _, _, _, z0, z1, _⟩ := Hp.out _ (List.getElem_mem hil)
        have Hsn : Hid (sumS (l.take (i + 1)) = sumS (l.take i) + l[i].size) := Lib.hid (by rw [List.take_succ_eq_append_getElem hil, sumS_snoc])
        have Hbad := Lib.hid (Hno.out i hil)
        have Hp2 : Hid (l[i].beg = sumS (l.take i) → ∀ j (h : j < l.length), j < i + 1 → l[j].beg = sumS (l.take j)) := Lib.hid (fun h j hj hlt => by
          by_cases e : j = i
          · subst e; exact h
          · exact hp.out j hj (by omega))
        clear hs1 hlt2 hp
        generalize sumS (l.take i) = a at *
        generalize l[i] = x at *
        obtain ⟨path, kind, mode, time, tgt, beg, size⟩ := x
        obtain ⟨d0, d1, d2, d3, d4, d5, d6⟩ := RdA.cells7 d
        simp only at d0 d1 d2 d3 d4 d5 d6 Hbad Hp2 z0 z1 Hsn
        clear d
        by_cases he : beg = a
        · subst he
          go_wp2
          go_roundg j
          case measure => omega
          case rel => exact ⟨i + 1, by have := Hk.out; omega, rfl, congrArg (Value.int .i64) Hsn.out.symm, hb, Lib.hid (Hp2.out (by trivial))⟩
        · have he' : (beg == a) = false := by simpa using he
          go_wp2
          go_ret
          exact ⟨by rw [Hbad.out he]; rfl, hb⟩
      · have Hy := Lib.hid (Hyes.out (fun j h => hp.out j h (by omega)))
        go_wp2
        go_ret
        exact ⟨by rw [Hy.out]; rfl, hb⟩
  · have h0' : (whyE l == 0) = false := by simpa using h0
    have Hf2 : Hid (fineB l = false) := Lib.hid (by rw [Hf.out, h0']; rfl)
    clear Hf h0
    generalize whyE l = z at *
    have h0 : ¬ z = 0 := by simpa using h0'
    go_enter Tryd.func27, Tryd.ntmps27
    go_wp2_with fail
    refine W1.out.mono ?_
    rintro e w1 ⟨rfl, b1⟩
    go_wp2
    go_ret
    exact ⟨by rw [Hf2.out]; rfl, b1⟩

set_option maxRecDepth 100000 in
set_option maxHeartbeats 1600000 in
theorem reftotal_any (A : Option Addr) (c : Nat) (l : List En) (hl : l.length ≤ 4294967296) (ok : ∀ e ∈ l, e.ok) (hx : ∀ e ∈ l, e.path.length ≤ 4294967280) (w : World) (hr : RdA 7 enL w A l) :
    Calls Tryd.prog 28 #[.slice A l.length c] w fun e w' => e = .returned (.int .i64 (totalE l)) ∧ Below w.heap.size w w' := by
  have F := Lib.hid (fun w1 hr => reffine_any A c l hl ok hx w1 hr)
  have Hr := Lib.hid (fun w1 (b : Below w.heap.size w w1) => hr.below b)
  have hb := Below.refl w.heap.size w
  have n1 : (l.length : Int) ≤ 4294967296 := by omega
  clear hr
  cases hf : fineB l with
  | false =>
    rw [hf] at F
    have Ht : Hid (totalE l = 0) := Lib.hid (by unfold totalE; rw [hf]; rfl)
    clear hf
    by_cases h0 : (0 : Int) < (l.length : Int)
    · have h0n : 0 < l.length := by omega
      go_enter Tryd.func28, Tryd.ntmps28
      go_wp2
      go_loopg [3, 4] 1 (fun k a v wr => v = .int .i64 0 ∧ a = .int .i64 0 ∧ wr = w)
      case atStart => exact ⟨rfl, rfl, rfl⟩
      case round =>
        obtain ⟨rfl, rfl, rfl⟩ := hrel
        go_wp2_with fail
        refine (F.out _ (Hr.out _ hb)).mono ?_
        rintro e wz ⟨rfl, b⟩
        replace hb := hb.trans (b.mono hb.size)
        clear b
        go_wp2
        go_ret
        exact ⟨by rw [Ht.out]; rfl, hb⟩
    · have h0n : ¬ 0 < l.length := by omega
      go_enter Tryd.func28, Tryd.ntmps28
      go_wp2
      go_loopg [3, 4] 1 (fun k a v wr => v = .int .i64 0 ∧ a = .int .i64 0 ∧ wr = w)
      case atStart => exact ⟨rfl, rfl, rfl⟩
      case round =>
        obtain ⟨rfl, rfl, rfl⟩ := hrel
        go_wp2
        go_ret
        exact ⟨by rw [Ht.out]; rfl, hb⟩
  | true =>
    rw [hf] at F
    have Ht : Hid (totalE l = sumS l) := Lib.hid (by unfold totalE; rw [if_pos hf])
    obtain ⟨_, hl2, _, hp⟩ := whyE_zero (fineB_true hf).1
    have Hp := Lib.hid hp
    have Hl2 := Lib.hid hl2
    clear hp hl2 hf
    go_enter Tryd.func28, Tryd.ntmps28
    go_wp2
    go_loopg [3, 4] l.length (fun k a v wr => ∃ i : Nat, k + i = l.length ∧ v = .int .i64 i ∧ a = .int .i64 (sumS (l.take i)) ∧ Below w.heap.size w wr)
    case atStart => exact ⟨0, by omega, rfl, rfl, hb⟩
    case round =>
      clear hb
      obtain ⟨i, hk, rfl, rfl, hb⟩ := hrel
      by_cases hlt : (i : Int) < (l.length : Int)
      · obtain ⟨j, rfl⟩ : ∃ j, gk = j + 1 := ⟨gk - 1, by omega⟩
        have hil : i < l.length := by omega
        have i0' : (0 : Int) ≤ (i : Int) := by omega
        have Hk := Lib.hid hk
        clear hk
        have hs1 := sumS_range (l := l.take i) (fun e he => Hp.out e (List.mem_of_mem_take he))
        have hlt2 : (l.take i).length ≤ 1024 := by rw [List.length_take]; have := Hl2.out; omega
        have a0 := hs1.1
        have a1 : sumS (l.take i) ≤ 1073741824 := by omega
        obtain ⟨_, _, _, _, z0, z1, _⟩ := Hp.out _ (List.getElem_mem hil)
        have Hsn : Hid (sumS (l.take (i + 1)) = sumS (l.take i) + l[i].size) := Lib.hid (by rw [List.take_succ_eq_append_getElem hil, sumS_snoc])
        have Hd := Lib.hid (fun w1 b => Hr.out w1 b i hil)
        clear hs1 hlt2
        generalize sumS (l.take i) = a at *
        generalize l[i] = x at *
        obtain ⟨path, kind, mode, time, tgt, beg, size⟩ := x
        simp only at z0 z1 Hsn
        go_wp2_with fail
        refine (F.out _ (Hr.out _ hb)).mono ?_
        rintro e wz ⟨rfl, b⟩
        replace hb := hb.trans (b.mono hb.size)
        clear b
        obtain ⟨b, off, rfl, q, d⟩ := Hd.out _ hb
        obtain ⟨d0, d1, d2, d3, d4, d5, d6⟩ := RdA.cells7 d
        simp only at d0 d1 d2 d3 d4 d5 d6
        clear d
        go_wp2
        go_roundg j
        case measure => omega
        case rel => exact ⟨i + 1, by have := Hk.out; omega, rfl, congrArg (Value.int .i64) Hsn.out.symm, hb⟩
      · obtain rfl : i = l.length := by omega
        rw [List.take_length]
        go_wp2
        go_ret
        exact ⟨by rw [Ht.out]; rfl, hb⟩

theorem within_len {l : List En} {n : Int} {i : Nat} (hf : fineB l = true) (hi : ∀ x ∈ l.take i, decide (x.beg + x.size ≤ n) = true) (h : ∀ hlt : i < l.length, ¬ l[i].beg + l[i].size ≤ n) (hle : i ≤ l.length) : (withinE l n).length = i := by
  unfold withinE
  rw [if_pos hf, takeWhile_take _ l i hi, List.length_append, List.length_take]
  by_cases hlt : i < l.length
  · rw [List.drop_eq_getElem_cons hlt, List.takeWhile_cons, if_neg (by simpa using h hlt)]
    simp; omega
  · rw [List.drop_eq_nil_of_le (by omega)]; simp; omega

set_option maxRecDepth 100000 in
set_option maxHeartbeats 3200000 in
theorem refwithin_any (A : Option Addr) (c : Nat) (l : List En) (hl : l.length ≤ 4294967296) (ok : ∀ e ∈ l, e.ok) (hx : ∀ e ∈ l, e.path.length ≤ 4294967280) (n : Int) (w : World) (hr : RdA 7 enL w A l) :
    Calls Tryd.prog 26 #[.slice A l.length c, .int .i64 n] w fun e w' => e = .returned (.int .i64 ((withinE l n).length : Int)) ∧ Below w.heap.size w w' := by
  have F := Lib.hid (fun w1 hr => reffine_any A c l hl ok hx w1 hr)
  have Hr := Lib.hid (fun w1 (b : Below w.heap.size w w1) => hr.below b)
  have hb := Below.refl w.heap.size w
  have n1 : (l.length : Int) ≤ 4294967296 := by omega
  clear hr
  cases hf : fineB l with
  | false =>
    rw [hf] at F
    have Ht : Hid (((withinE l n).length : Int) = 0) := Lib.hid (by unfold withinE; rw [hf]; rfl)
    clear hf
    go_enter Tryd.func26, Tryd.ntmps26
    go_wp2
    go_loopg [5] 1 (fun k v wr => v = .int .i64 0 ∧ wr = w)
    case atStart => exact ⟨rfl, rfl⟩
    case round =>
      obtain ⟨rfl, rfl⟩ := hrel
      go_wp2
      refine wp_region_mix (fun W => Below wr.heap.size wr W) [0, 1, 2, 3, 4, 5, 6, 7, 8, 9, 10, 11, 12, 13, 14, 15, 16, 17, 18, 19, 20, 21, 22] [] mixed (by kernel_rfl) rfl ((Below.refl _ _).drew) ?_
      simp only [List.filterMap_cons, List.filterMap_nil, List.getElem?_toArray, List.getElem?_cons_succ, List.getElem?_cons_zero]
      repeat (first
        | (refine held_val ?_ rfl (fun w1 hS => ?_) ?_
           rotate_left
           · (skip
              go_simp
              try go_bits
              rfl)
           simp only [Act.put, List.setIfInBounds_toArray, List.set_cons_zero, List.set_cons_succ])
        | (refine held_off rfl ?_
           simp only [Act.put, List.setIfInBounds_toArray, List.set_cons_zero, List.set_cons_succ]))
      refine held_call 27 #[.slice A l.length c] (.bool false) rfl (fun w1 hS => by go_simp) (fun w1 hS => (F.out w1 (Hr.out _ (hb.trans hS))).mono ?_) ?_
      · rintro e w2 ⟨rfl, b2⟩
        exact ⟨rfl, hS.trans (b2.mono hS.size)⟩
      simp only [Act.put, List.setIfInBounds_toArray, List.set_cons_zero, List.set_cons_succ]
      repeat (first
        | (refine held_val ?_ rfl (fun w1 hS => ?_) ?_
           rotate_left
           · (skip
              go_simp
              try go_bits
              rfl)
           simp only [Act.put, List.setIfInBounds_toArray, List.set_cons_zero, List.set_cons_succ])
        | (refine held_off rfl ?_
           simp only [Act.put, List.setIfInBounds_toArray, List.set_cons_zero, List.set_cons_succ]))
      refine held_nil (fun w4 hS => ?_)
      replace hb := hb.trans (hS.mono hb.size)
      go_wp2
      go_ret
      exact ⟨by rw [Ht.out]; rfl, hb⟩
  | true =>
    rw [hf] at F
    have Hlen : Hid (∀ i, (∀ x ∈ l.take i, decide (x.beg + x.size ≤ n) = true) → (∀ hlt : i < l.length, ¬ l[i].beg + l[i].size ≤ n) → i ≤ l.length → (withinE l n).length = i) := Lib.hid (fun i h1 h2 h3 => within_len hf h1 h2 h3)
    have Hb := Lib.hid (fun i hi => fine_bounds hf i hi)
    clear hf
    go_enter Tryd.func26, Tryd.ntmps26
    go_wp2
    go_loopg [5] l.length (fun k v wr => ∃ i : Nat, k + i = l.length ∧ v = .int .i64 i ∧ Below w.heap.size w wr ∧ Hid (∀ x ∈ l.take i, decide (x.beg + x.size ≤ n) = true))
    case atStart => exact ⟨0, by omega, rfl, hb, Lib.hid (by simp)⟩
    case round =>
      clear hb
      obtain ⟨i, hk, rfl, hb, hq⟩ := hrel
      have i0' : (0 : Int) ≤ (i : Int) := by omega
      by_cases hlt : (i : Int) < (l.length : Int)
      · obtain ⟨j, rfl⟩ : ∃ j, gk = j + 1 := ⟨gk - 1, by omega⟩
        have hil : i < l.length := by omega
        have Hk := Lib.hid hk
        clear hk
        obtain ⟨b, off, rfl, q, d⟩ := Hr.out _ hb i hil
        obtain ⟨z0, z1, z2, z3⟩ := Hb.out i hil
        have Hyes : Hid (l[i].beg + l[i].size ≤ n → ∀ x ∈ l.take (i + 1), decide (x.beg + x.size ≤ n) = true) := Lib.hid (fun h x hx => by
          rw [List.take_succ_eq_append_getElem hil] at hx
          rcases List.mem_append.1 hx with hx | hx
          · exact hq.out x hx
          · rw [List.mem_singleton.1 hx]; exact decide_eq_true h)
        have Hno : Hid (¬ l[i].beg + l[i].size ≤ n → (withinE l n).length = i) := Lib.hid (fun h => Hlen.out i hq.out (fun _ => by omega) (by omega))
        clear hq
        generalize l[i] = x at *
        obtain ⟨path, kind, mode, time, tgt, beg, size⟩ := x
        obtain ⟨d0, d1, d2, d3, d4, d5, d6⟩ := RdA.cells7 d
        simp only at d5 d6 z0 z1 z2 z3 Hyes Hno
        have D5 := Lib.hid d5
        have D6 := Lib.hid d6
        clear d d0 d1 d2 d3 d4 d5 d6
        by_cases hle : beg + size ≤ n
        · have Hy := Lib.hid (Hyes.out hle)
          clear Hyes Hno
          go_wp2
          refine wp_region_mix (fun W => Below wr.heap.size wr W) [0, 1, 2, 3, 4, 5, 6, 7, 8, 9, 10, 11, 12, 13, 14, 15, 16, 17, 18, 19, 20, 21, 22] [] mixed (by kernel_rfl) rfl ((Below.refl _ _).drew) ?_
          simp only [List.filterMap_cons, List.filterMap_nil, List.getElem?_toArray, List.getElem?_cons_succ, List.getElem?_cons_zero]
          repeat (first
            | (refine held_val ?_ rfl (fun w1 hS => ?_) ?_
               rotate_left
               · (skip
                  go_simp
                  try go_bits
                  rfl)
               simp only [Act.put, List.setIfInBounds_toArray, List.set_cons_zero, List.set_cons_succ])
            | (refine held_off rfl ?_
               simp only [Act.put, List.setIfInBounds_toArray, List.set_cons_zero, List.set_cons_succ]))
          refine held_call 27 #[.slice (some ⟨b, off, none⟩) l.length c] (.bool true) rfl (fun w1 hS => by go_simp) (fun w1 hS => (F.out w1 (Hr.out _ (hb.trans (hS.mono hb.size)))).mono ?_) ?_
          · rintro e w2 ⟨rfl, b2⟩
            exact ⟨rfl, hS.trans (b2.mono hS.size)⟩
          simp only [Act.put, List.setIfInBounds_toArray, List.set_cons_zero, List.set_cons_succ]
          repeat (first
            | (refine held_val ?_ rfl (fun w1 hS => ?_) ?_
               rotate_left
               · (have k5 := (hS.cell (p := ⟨b, off + i * 7 + 5, none⟩) q).trans D5.out; have k6 := (hS.cell (p := ⟨b, off + i * 7 + 6, none⟩) q).trans D6.out
                  go_simp
                  try go_bits
                  rfl)
               simp only [Act.put, List.setIfInBounds_toArray, List.set_cons_zero, List.set_cons_succ])
            | (refine held_off rfl ?_
               simp only [Act.put, List.setIfInBounds_toArray, List.set_cons_zero, List.set_cons_succ]))
          refine held_nil (fun w4 hS => ?_)
          replace hb := hb.trans (hS.mono hb.size)
          go_wp2
          go_roundg j
          case measure => omega
          case rel => exact ⟨i + 1, by have := Hk.out; omega, rfl, hb, Hy⟩
        · have Hn := Lib.hid (Hno.out hle)
          have hgt : n < beg + size := by omega
          clear Hyes Hno
          go_wp2
          refine wp_region_mix (fun W => Below wr.heap.size wr W) [0, 1, 2, 3, 4, 5, 6, 7, 8, 9, 10, 11, 12, 13, 14, 15, 16, 17, 18, 19, 20, 21, 22] [] mixed (by kernel_rfl) rfl ((Below.refl _ _).drew) ?_
          simp only [List.filterMap_cons, List.filterMap_nil, List.getElem?_toArray, List.getElem?_cons_succ, List.getElem?_cons_zero]
          repeat (first
            | (refine held_val ?_ rfl (fun w1 hS => ?_) ?_
               rotate_left
               · (skip
                  go_simp
                  try go_bits
                  rfl)
               simp only [Act.put, List.setIfInBounds_toArray, List.set_cons_zero, List.set_cons_succ])
            | (refine held_off rfl ?_
               simp only [Act.put, List.setIfInBounds_toArray, List.set_cons_zero, List.set_cons_succ]))
          refine held_call 27 #[.slice (some ⟨b, off, none⟩) l.length c] (.bool true) rfl (fun w1 hS => by go_simp) (fun w1 hS => (F.out w1 (Hr.out _ (hb.trans (hS.mono hb.size)))).mono ?_) ?_
          · rintro e w2 ⟨rfl, b2⟩
            exact ⟨rfl, hS.trans (b2.mono hS.size)⟩
          simp only [Act.put, List.setIfInBounds_toArray, List.set_cons_zero, List.set_cons_succ]
          repeat (first
            | (refine held_val ?_ rfl (fun w1 hS => ?_) ?_
               rotate_left
               · (have k5 := (hS.cell (p := ⟨b, off + i * 7 + 5, none⟩) q).trans D5.out; have k6 := (hS.cell (p := ⟨b, off + i * 7 + 6, none⟩) q).trans D6.out
                  go_simp
                  try go_bits
                  rfl)
               simp only [Act.put, List.setIfInBounds_toArray, List.set_cons_zero, List.set_cons_succ])
            | (refine held_off rfl ?_
               simp only [Act.put, List.setIfInBounds_toArray, List.set_cons_zero, List.set_cons_succ]))
          refine held_nil (fun w4 hS => ?_)
          replace hb := hb.trans (hS.mono hb.size)
          go_wp2
          go_ret
          exact ⟨by rw [Hn.out]; rfl, hb⟩
      · obtain rfl : i = l.length := by omega
        have Hn := Lib.hid (Hlen.out l.length hq.out (fun h => absurd h (Nat.lt_irrefl _)) (Nat.le_refl _))
        go_wp2
        refine wp_region_mix (fun W => Below wr.heap.size wr W) [0, 1, 2, 3, 4, 5, 6, 7, 8, 9, 10, 11, 12, 13, 14, 15, 16, 17, 18, 19, 20, 21, 22] [] mixed (by kernel_rfl) rfl ((Below.refl _ _).drew) ?_
        simp only [List.filterMap_cons, List.filterMap_nil, List.getElem?_toArray, List.getElem?_cons_succ, List.getElem?_cons_zero]
        repeat (first
          | (refine held_val ?_ rfl (fun w1 hS => ?_) ?_
             rotate_left
             · (skip
                go_simp
                try go_bits
                rfl)
             simp only [Act.put, List.setIfInBounds_toArray, List.set_cons_zero, List.set_cons_succ])
          | (refine held_off rfl ?_
             simp only [Act.put, List.setIfInBounds_toArray, List.set_cons_zero, List.set_cons_succ]))
        refine held_call 27 #[.slice A l.length c] (.bool true) rfl (fun w1 hS => by go_simp) (fun w1 hS => (F.out w1 (Hr.out _ (hb.trans (hS.mono hb.size)))).mono ?_) ?_
        · rintro e w2 ⟨rfl, b2⟩
          exact ⟨rfl, hS.trans (b2.mono hS.size)⟩
        simp only [Act.put, List.setIfInBounds_toArray, List.set_cons_zero, List.set_cons_succ]
        repeat (first
          | (refine held_val ?_ rfl (fun w1 hS => ?_) ?_
             rotate_left
             · (skip
                go_simp
                try go_bits
                rfl)
             simp only [Act.put, List.setIfInBounds_toArray, List.set_cons_zero, List.set_cons_succ])
          | (refine held_off rfl ?_
             simp only [Act.put, List.setIfInBounds_toArray, List.set_cons_zero, List.set_cons_succ]))
        refine held_nil (fun w4 hS => ?_)
        replace hb := hb.trans (hS.mono hb.size)
        go_wp2
        go_ret
        exact ⟨by rw [Hn.out]; rfl, hb⟩
end Go.Proofs.YtfppancidgamjaaDoor
