/- Texts of one proof, merged: XK5 XK6 XK7 XK8 XM0 XCb XCw0 XCw1 XCw2 XCw3. -/
import Derived.Test.YtedcficjmogohaaPb
import Derived.Carry
import Derived.WalkSmall
import Derived.Lib.ItoaWalk
import Derived.Test.YtedcficjmogohaaProg
import Derived.BigQuiet
import Derived.RowKit
import Derived.KernelRfl
import Derived.Deep.LoopGhost
import Derived.Lib.Hide
import Derived.Laws.ShiftsVar
/- The walks over alike and best of package match's finder. -/
namespace Go.Proofs.Ytedcficjmogohaa
set_option linter.unusedVariables false
set_option linter.unusedSimpArgs false
set_option maxRecDepth 100000
open Go.RowKit

def alk (b : List UInt8) (p m : Nat) : Nat → Nat → Nat
  | 0, n => n
  | k + 1, n => if m + n < b.length ∧ b[p + n]? = b[m + n]? then alk b p m k (n + 1) else n
def alikeN (b : List UInt8) (p m : Nat) : Nat := alk b p m 258 0
theorem alk_in (b : List UInt8) (p m : Nat) : ∀ (k n : Nat), n ≤ alk b p m k n ∧ alk b p m k n ≤ n + k ∧ (m + n ≤ b.length → m + alk b p m k n ≤ b.length)
  | 0, n => ⟨Nat.le_refl _, Nat.le_refl _, fun h => h⟩
  | k + 1, n => by
    unfold alk
    split
    · rename_i h
      have ih := alk_in b p m k (n + 1)
      exact ⟨by omega, by omega, fun _ => ih.2.2 (by omega)⟩
    · exact ⟨Nat.le_refl _, by omega, fun h => h⟩
theorem alk_eq (b : List UInt8) (p m : Nat) : ∀ (k n i : Nat), n ≤ i → i < alk b p m k n → b[p + i]? = b[m + i]?
  | 0, n, i, h1, h2 => by unfold alk at h2; omega
  | k + 1, n, i, h1, h2 => by
    unfold alk at h2
    split at h2
    · rename_i h
      by_cases e : i = n
      · subst e; exact h.2
      · exact alk_eq b p m k (n + 1) i (by omega) h2
    · omega

set_option maxHeartbeats 6400000 in
theorem alike_any (p gm gb k : Nat) (A : Option Addr) (c : Nat) (b : List UInt8) (hbl : b.length ≤ 65536) (mm : Nat) (q m : Nat) (hq : q < m) (hm : m < b.length) (B : Nat) (R : HP) [Loc B R] (w : World) (hB : B ≤ w.heap.size)
    (hr : ∀ w1, Below B w w1 → Rd w1 (.slice A b.length c) (bytesU b)) (hO : Own B (Fd p (.slice A b.length c) gm gb k b mm * R) w) :
    Calls Try.prog 64 #[.pointer (some ⟨p, 0, none⟩), .int .i64 (q : Int), .int .i64 (m : Int)] w (Ret B w (.int .i64 (alikeN b q m : Int)) (Fd p (.slice A b.length c) gm gb k b mm * R)) := by
  have hO1 : Own B (Bk p 81 #[.slice A b.length c, .map (some gm), .slice (some ⟨gb, 0, none⟩) b.length b.length] * (Mo gm k (lastP b mm) * (Bk gb 3 (intsV (backsAt b mm)) * R))) w := by rw [← fd_eq]; exact hO
  rw [fd_eq]
  have m0 : (0 : Int) ≤ (m : Int) := by omega
  have q0 : (0 : Int) ≤ (q : Int) := by omega
  have qm : (q : Int) < (m : Int) := by omega
  have ml : (m : Int) < (b.length : Int) := by omega
  have l1 : (b.length : Int) ≤ 65536 := by omega
  have Hr := Lib.hid hr
  have Ha : Hid (alikeN b q m = alk b q m 258 0) := Lib.hid rfl
  generalize alikeN b q m = res at *
  clear hr hO
  go_enter Try.func64, Try.ntmps64
  go_wp2
  go_loopg [7] 258 (fun k' v wr => ∃ n : Nat, k' + n = 258 ∧ v = .int .i64 (n : Int) ∧ Own B (Bk p 81 #[.slice A b.length c, .map (some gm), .slice (some ⟨gb, 0, none⟩) b.length b.length] * (Mo gm k (lastP b mm) * (Bk gb 3 (intsV (backsAt b mm)) * R))) wr ∧ Below B w wr ∧ Hid (alk b q m k' n = res) ∧ m + n ≤ b.length)
  case atStart => exact ⟨0, rfl, rfl, hO1, Below.refl _ _, Lib.hid Ha.out.symm, by omega⟩
  case round =>
    clear hO1
    obtain ⟨n, hk, rfl, ho, hb, ha, hn⟩ := hrel
    have Bw := Nat.le_trans hB hb.size
    have n0 : (0 : Int) ≤ (n : Int) := by omega
    have Hr2 := Lib.hid (fun w1 (h : St B (Bk p 81 #[.slice A b.length c, .map (some gm), .slice (some ⟨gb, 0, none⟩) b.length b.length] * (Mo gm k (lastP b mm) * (Bk gb 3 (intsV (backsAt b mm)) * R))) wr w1) => Hr.out w1 (hb.trans h.2.2))
    by_cases h258 : (n : Int) < 258
    · obtain ⟨j, rfl⟩ : ∃ j, gk = j + 1 := ⟨gk - 1, by omega⟩
      by_cases hlt : (m : Int) + (n : Int) < (b.length : Int)
      · have hml : m + n < b.length := by omega
        have hql : q + n < b.length := by omega
        have Hrd := Lib.hid (fun w1 h => (Hr2.out w1 h).at' (q + n) hql)
        have Hrd2 := Lib.hid (fun w1 h => (Hr2.out w1 h).at' (m + n) hml)
        obtain ⟨b0, o0, rfl, _⟩ := Hrd.out _ (St.drew Bw ho)
        have ha2 := ha.out
        unfold alk at ha2
        have Heq : Hid (b[q + n].toNat = b[m + n].toNat ↔ b[q + n]? = b[m + n]?) := Lib.hid (by
          rw [List.getElem?_eq_getElem hql, List.getElem?_eq_getElem hml]
          exact ⟨fun h => by rw [UInt8.toNat.inj h], fun h => by rw [Option.some.inj h]⟩)
        have i1 : (q : Int) + (n : Int) < (b.length : Int) := by omega
        have i0 : (0 : Int) ≤ (q : Int) + (n : Int) := by omega
        have j0 : (0 : Int) ≤ (m : Int) + (n : Int) := by omega
        have z1 := b[q + n].toNat_lt
        have z2 := b[m + n].toNat_lt
        generalize b[q + n].toNat = x at *
        generalize b[m + n].toNat = y at *
        have C1 : Hid (∀ w1, St B (Bk p 81 #[.slice (some ⟨b0, o0, none⟩) b.length c, .map (some gm), .slice (some ⟨gb, 0, none⟩) b.length b.length] * (Mo gm k (lastP b mm) * (Bk gb 3 (intsV (backsAt b mm)) * R))) wr w1 → w1.cell? ⟨b0, o0 + (q + n), none⟩ = some (.int .u8 (x : Int))) := Lib.hid (fun w1 h => by
          obtain ⟨b1, o1, e, hc⟩ := Hrd.out w1 h
          cases e
          exact hc)
        have C2 : Hid (∀ w1, St B (Bk p 81 #[.slice (some ⟨b0, o0, none⟩) b.length c, .map (some gm), .slice (some ⟨gb, 0, none⟩) b.length b.length] * (Mo gm k (lastP b mm) * (Bk gb 3 (intsV (backsAt b mm)) * R))) wr w1 → w1.cell? ⟨b0, o0 + (m + n), none⟩ = some (.int .u8 (y : Int))) := Lib.hid (fun w1 h => by
          obtain ⟨b1, o1, e, hc⟩ := Hrd2.out w1 h
          cases e
          exact hc)
        clear Hrd Hrd2
        by_cases hxy : x = y
        · have ha3 := Lib.hid ((if_pos (show m + n < b.length ∧ b[q + n]? = b[m + n]? from ⟨hml, Heq.out.1 hxy⟩)).symm.trans ha2)
          have Hk := Lib.hid hk
          subst hxy
          clear ha2 ha hk
          have hxx : ((x : Int) == (x : Int)) = true := by simp
          go_wp2
          refine wp_region_mix (St B _ wr) [0, 1, 2, 3, 4, 5, 6, 7, 8, 9, 10, 11, 12, 13, 14, 15, 16, 17, 18, 19, 20, 21, 22, 23, 24, 25, 26, 27, 28, 29, 30, 31, 32, 33] [] mixed (by kernel_rfl) rfl (St.drew Bw ho) ?_
          simp only [List.filterMap_cons, List.filterMap_nil, List.getElem?_toArray, List.getElem?_cons_succ, List.getElem?_cons_zero]
          repeat (first
            | (refine held_val ?_ rfl (fun w1 hS => ?_) ?_
               rotate_left
               · (have c0 : w1.cell? ⟨p, 0, none⟩ = some (.slice (some ⟨b0, o0, none⟩) b.length c) := hS.2.1.cell 0; have x1 := C1.out w1 hS; have x2 := C2.out w1 hS
                  go_simp
                  try go_bits
                  rfl)
               simp only [Act.put, List.setIfInBounds_toArray, List.set_cons_zero, List.set_cons_succ])
            | (refine held_off rfl ?_
               simp only [Act.put, List.setIfInBounds_toArray, List.set_cons_zero, List.set_cons_succ]))
          refine held_nil (fun w3 hS => ?_)
          obtain ⟨B3, o3, b3⟩ := hS
          go_wp2
          go_roundg j
          case measure => omega
          case rel => exact ⟨n + 1, by have := Hk.out; omega, rfl, o3, hb.trans b3, ha3, by omega⟩
        · have ha3 := Lib.hid ((if_neg (show ¬ (m + n < b.length ∧ b[q + n]? = b[m + n]?) from fun h => hxy (Heq.out.2 h.2))).symm.trans ha2)
          have hxy' : ((x : Int) == (y : Int)) = false := by rw [beq_eq_false_iff_ne]; omega
          have hxn : (x == y) = false := by simpa using hxy
          have hxz : ¬ (x : Int) = (y : Int) := by omega
          clear ha2 ha
          go_wp2
          refine wp_region_mix (St B _ wr) [0, 1, 2, 3, 4, 5, 6, 7, 8, 9, 10, 11, 12, 13, 14, 15, 16, 17, 18, 19, 20, 21, 22, 23, 24, 25, 26, 27, 28, 29, 30, 31, 32, 33] [] mixed (by kernel_rfl) rfl (St.drew Bw ho) ?_
          simp only [List.filterMap_cons, List.filterMap_nil, List.getElem?_toArray, List.getElem?_cons_succ, List.getElem?_cons_zero]
          repeat (first
            | (refine held_val ?_ rfl (fun w1 hS => ?_) ?_
               rotate_left
               · (have c0 : w1.cell? ⟨p, 0, none⟩ = some (.slice (some ⟨b0, o0, none⟩) b.length c) := hS.2.1.cell 0; have x1 := C1.out w1 hS; have x2 := C2.out w1 hS
                  go_simp
                  try go_bits
                  rfl)
               simp only [Act.put, List.setIfInBounds_toArray, List.set_cons_zero, List.set_cons_succ])
            | (refine held_off rfl ?_
               simp only [Act.put, List.setIfInBounds_toArray, List.set_cons_zero, List.set_cons_succ]))
          refine held_nil ?_
          intro w3 hS
          obtain ⟨B3, o3, b3⟩ := hS
          go_wp2
          go_ret
          rw [← ha3.out]
          exact ⟨rfl, o3, hb.trans b3⟩
      · have ha3 : Hid (res = n) := Lib.hid (by have := ha.out; unfold alk at this; rw [if_neg (by omega)] at this; exact this.symm)
        have hltd : decide ((m : Int) + (n : Int) < (b.length : Int)) = false := decide_eq_false hlt
        have hml2 : (b.length : Int) ≤ (m : Int) + (n : Int) := by omega
        clear ha
        go_wp2
        refine wp_region_mix (St B _ wr) [0, 1, 2, 3, 4, 5, 6, 7, 8, 9, 10, 11, 12, 13, 14, 15, 16, 17, 18, 19, 20, 21, 22, 23, 24, 25, 26, 27, 28, 29, 30, 31, 32, 33] [] mixed (by kernel_rfl) rfl (St.drew Bw ho) ?_
        simp only [List.filterMap_cons, List.filterMap_nil, List.getElem?_toArray, List.getElem?_cons_succ, List.getElem?_cons_zero]
        repeat (first
          | (refine held_val ?_ rfl (fun w1 hS => ?_) ?_
             rotate_left
             · (have c0 : w1.cell? ⟨p, 0, none⟩ = some (.slice A b.length c) := hS.2.1.cell 0
                go_simp
                try go_bits
                rfl)
             simp only [Act.put, List.setIfInBounds_toArray, List.set_cons_zero, List.set_cons_succ])
          | (refine held_off rfl ?_
             simp only [Act.put, List.setIfInBounds_toArray, List.set_cons_zero, List.set_cons_succ]))
        refine held_nil (fun w3 hS => ?_)
        obtain ⟨B3, o3, b3⟩ := hS
        go_wp2
        go_ret
        rw [ha3.out]
        exact ⟨rfl, o3, hb.trans b3⟩
    · obtain rfl : n = 258 := by omega
      obtain rfl : gk = 0 := by omega
      have ha3 : Hid (res = 258) := Lib.hid ha.out.symm
      go_wp2
      refine wp_region_mix (St B _ wr) [0, 1, 2, 3, 4, 5, 6, 7, 8, 9, 10, 11, 12, 13, 14, 15, 16, 17, 18, 19, 20, 21, 22, 23, 24, 25, 26, 27, 28, 29, 30, 31, 32, 33] [] mixed (by kernel_rfl) rfl (St.drew Bw ho) ?_
      simp only [List.filterMap_cons, List.filterMap_nil, List.getElem?_toArray, List.getElem?_cons_succ, List.getElem?_cons_zero]
      repeat (first
        | (refine held_val ?_ rfl (fun w1 hS => ?_) ?_
           rotate_left
           · (skip
              go_simp
              try go_bits
              rfl)
           simp only [Act.put, List.setIfInBounds_toArray, List.set_cons_zero, List.set_cons_succ])
        | (refine held_off rfl ?_
           simp only [Act.put, List.setIfInBounds_toArray, List.set_cons_zero, List.set_cons_succ]))
      refine held_nil (fun w3 hS => ?_)
      obtain ⟨B3, o3, b3⟩ := hS
      go_wp2
      go_ret
      rw [ha3.out]
      exact ⟨rfl, o3, hb.trans b3⟩
end Go.Proofs.Ytedcficjmogohaa

/- The walk over best of package match's finder. -/
namespace Go.Proofs.Ytedcficjmogohaa
set_option linter.unusedVariables false
set_option linter.unusedSimpArgs false
set_option maxRecDepth 100000
open Go.RowKit

def bst (b : List UInt8) (win : Int) (m : Nat) : Nat → Int → Nat → Nat → Nat × Nat
  | 0, _, n, d => (n, d)
  | k + 1, c, n, d =>
    if 0 ≤ c ∧ (m : Int) - c ≤ win then
      if n < alikeN b c.toNat m then
        if alikeN b c.toNat m = 258 then (258, m - c.toNat) else bst b win m k (prevP b c.toNat) (alikeN b c.toNat m) (m - c.toNat)
      else bst b win m k (prevP b c.toNat) n d
    else (n, d)
def bestN (b : List UInt8) (win : Int) (m : Nat) : Nat × Nat := bst b win m (m + 1) (prevP b m) 0 0
theorem backsAt_get (b : List UInt8) (m q : Nat) (hq : q < m) (hb : q < b.length) : (backsAt b m)[q]'(by rw [backsAt_len]; exact hb) = prevP b q := by
  simp [backsAt, hq]

theorem Own.set3 {B X : Nat} {T : TypeId} {R : HP} [Loc B R] {x y z : Value} {w : World} (hB : B ≤ w.heap.size) (h : Own B (Bk X T #[x, y, z] * R) w) (x' y' z' : Value) :
    Own B (Bk X T #[x', y', z'] * R) (((w.setCell ⟨X, 0, none⟩ x').setCell ⟨X, 1, none⟩ y').setCell ⟨X, 2, none⟩ z') ∧ Below B w (((w.setCell ⟨X, 0, none⟩ x').setCell ⟨X, 1, none⟩ y').setCell ⟨X, 2, none⟩ z') := by
  have s0 := h.set hB 0 x'
  have s1 := s0.set (by simpa [World.setCell] using hB) 1 y'
  have s2 := s1.set (by simpa [World.setCell] using hB) 2 z'
  exact ⟨s2, ((h.below_set 0 x').trans (s0.below_set 1 y')).trans (s1.below_set 2 z')⟩

set_option maxHeartbeats 6400000 in
theorem fbest_any (p gm gb k : Nat) (A : Option Addr) (c : Nat) (b : List UInt8) (hbl : b.length ≤ 65536) (win : Int) (hw1 : 1 ≤ win) (hw2 : win ≤ 32768) (m : Nat) (hm : m < b.length) (B : Nat) (R : HP) [Loc B R] (w : World) (hB : B ≤ w.heap.size)
    (hr : ∀ w1, Below B w w1 → Rd w1 (.slice A b.length c) (bytesU b)) (hO : Own B (Fd p (.slice A b.length c) gm gb k b (m + 1) * R) w) :
    Calls Try.prog 44 #[.pointer (some ⟨p, 0, none⟩), .int .i64 (m : Int), .int .i64 win] w (Ret B w (.agg #[.int .u8 0, .int .i64 ((bestN b win m).1 : Int), .int .i64 ((bestN b win m).2 : Int)]) (Fd p (.slice A b.length c) gm gb k b (m + 1) * R)) := by
  have m0 : (0 : Int) ≤ (m : Int) := by omega
  have ml : (m : Int) < (b.length : Int) := by omega
  have l1 : (b.length : Int) ≤ 65536 := by omega
  have hpm := prevP_in b m
  have Hr := Lib.hid hr
  have HE : Hid (bestN b win m = bst b win m (m + 1) (prevP b m) 0 0) := Lib.hid rfl
  generalize bestN b win m = res at *
  obtain ⟨rn, rd⟩ := res
  clear hr
  have o1 := hO.new hB 39 #[.int .u8 0, .int .i64 0, .int .i64 0]
  have b1 := (Below.refl B w).alloc hB (.cells #[.int .u8 0, .int .i64 0, .int .i64 0] 39)
  have B1 := Nat.le_trans hB b1.size
  have o2 := o1.new B1 39 #[.int .u8 0, .int .i64 0, .int .i64 0]
  have b2 := b1.alloc B1 (.cells #[.int .u8 0, .int .i64 0, .int .i64 0] 39)
  rw [show (w.alloc (.cells #[.int .u8 0, .int .i64 0, .int .i64 0] 39)).heap.size = w.heap.size + 1 by simp, fd_eq] at o2
  clear hO o1 b1
  have c2 := o2.cellOf p 2
  have cg := (o2.cellOf gb m).trans ((intsV_get _ _ (by rw [backsAt_len]; exact hm)).trans (by rw [backsAt_get b _ _ (by omega) hm]))
  rw [← fd_eq] at o2
  generalize hpme : prevP b m = pm at *
  clear hpme
  go_enter Try.func44, Try.ntmps44
  go_wp2
  go_loopg [8] (m + 1) (fun k' v wr => ∃ (cc : Int) (n d : Nat), v = .int .i64 cc ∧ -1 ≤ cc ∧ cc < m ∧ cc < k' ∧ n ≤ 258 ∧ Hid (bst b win m k' cc n d = (rn, rd)) ∧ Below B w wr ∧ Own B (Bk (w.heap.size + 1) 39 #[.int .u8 0, .int .i64 (n : Int), .int .i64 (d : Int)] * (Bk w.heap.size 39 #[.int .u8 0, .int .i64 0, .int .i64 0] * (Fd p (.slice A b.length c) gm gb k b (m + 1) * R))) wr)
  case atStart => exact ⟨pm, 0, 0, rfl, hpm.1, hpm.2, by omega, by omega, Lib.hid HE.out.symm, b2, o2⟩
  case round =>
    clear o2 c2 cg b2 B1 HE
    obtain ⟨cc, n, d, rfl, hc1, hc2, hc3, hn, he, hb, ho⟩ := hrel
    have Bw := Nat.le_trans hB hb.size
    generalize hX0 : w.heap.size = X0 at *
    by_cases hc0 : 0 ≤ cc
    · by_cases hwin : (m : Int) - cc ≤ win
      · obtain ⟨j, rfl⟩ : ∃ j, gk = j + 1 := ⟨gk - 1, by omega⟩
        obtain ⟨q, rfl⟩ : ∃ q : Nat, cc = (q : Int) := ⟨cc.toNat, by omega⟩
        have he1 := he.out
        rw [bst, if_pos ⟨hc0, hwin⟩, Int.toNat_natCast] at he1
        have Ha := Lib.hid (fun w1 (hb1 : Below B w w1) (R' : HP) (_ : Loc B R') (B1 : B ≤ w1.heap.size) (ho1 : Own B (Fd p (.slice A b.length c) gm gb k b (m + 1) * R') w1) =>
          alike_any p gm gb k A c b hbl (m + 1) q m (by omega) hm B R' w1 B1 (fun w2 h2 => Hr.out w2 (hb1.trans h2)) ho1)
        have hal : alikeN b q m ≤ 258 := by have := alk_in b q m 258 0; unfold alikeN; omega
        have hnx := prevP_in b q
        have He1 := Lib.hid he1
        clear he1 he
        generalize alikeN b q m = z at *
        go_wp2_with fail
        refine (Ha.out _ hb _ inferInstance Bw (ho.foc (Fd p (.slice A b.length c) gm gb k b (m + 1)))).mono ?_
        rintro e w4 ⟨rfl, o4, b4⟩
        have B4 := Nat.le_trans Bw b4.size
        have hb4 := hb.trans b4
        have o5 := o4.foc (Bk (X0 + 1) 39 #[.int .u8 0, .int .i64 (n : Int), .int .i64 (d : Int)])
        rw [fd_eq] at o5
        have q0 : w4.cell? ⟨X0 + 1, 0, none⟩ = some (.int .u8 0) := o5.cellOf (X0 + 1) 0
        have q1 : w4.cell? ⟨X0 + 1, 1, none⟩ = some (.int .i64 (n : Int)) := o5.cellOf (X0 + 1) 1
        have q2 : w4.cell? ⟨X0 + 1, 2, none⟩ = some (.int .i64 (d : Int)) := o5.cellOf (X0 + 1) 2
        have hqm : q < m := by omega
        have mqi : (m : Int) - (q : Int) ≤ 65536 := by omega
        have mq0 : 0 ≤ (m : Int) - (q : Int) := by omega
        have hql : (q : Int) < (b.length : Int) := by omega
        have hnl := (backsAt_get b (m + 1) q (by omega) (by omega))
        have c2 : w4.cell? ⟨p, 2, none⟩ = some (.slice (some ⟨gb, 0, none⟩) b.length b.length) := o5.cellOf p 2
        have cg : w4.cell? ⟨gb, q, none⟩ = some (.int .i64 (prevP b q)) := (o5.cellOf gb q).trans ((intsV_get _ _ (by rw [backsAt_len]; omega)).trans (by rw [hnl]))
        by_cases hnz : (n : Int) < (z : Int)
        · have y0 := o5.freeOf (X0 + 1) 0
          have y1 := o5.freeOf (X0 + 1) 1
          have y2 := o5.freeOf (X0 + 1) 2
          by_cases hz : (z : Int) = 258
          · have he2 := He1.out
            rw [if_pos (show n < z by omega), if_pos (by omega)] at he2
            obtain ⟨e1, e2⟩ := Prod.mk.inj he2
            have En : Hid ((258 : Int) = (rn : Int)) := Lib.hid (by omega)
            have Ed : Hid ((m : Int) - (q : Int) = (rd : Int)) := Lib.hid (by omega)
            obtain ⟨o6, b6⟩ := o5.set3 B4 (.int .u8 0) (.int .i64 258) (.int .i64 ((m : Int) - (q : Int)))
            have B6 := Nat.le_trans B4 b6.size
            have hb6 := hb4.trans b6
            rw [← fd_eq] at o6
            clear he2 e1 e2 He1 Ha c2 cg hnl hnx
            have q0 : (((w4.setCell ⟨X0 + 1, 0, none⟩ (.int .u8 0)).setCell ⟨X0 + 1, 1, none⟩ (.int .i64 258)).setCell ⟨X0 + 1, 2, none⟩ (.int .i64 ((m : Int) - (q : Int)))).cell? ⟨X0 + 1, 0, none⟩ = some (.int .u8 0) := o6.cellOf (X0 + 1) 0
            have q1 : (((w4.setCell ⟨X0 + 1, 0, none⟩ (.int .u8 0)).setCell ⟨X0 + 1, 1, none⟩ (.int .i64 258)).setCell ⟨X0 + 1, 2, none⟩ (.int .i64 ((m : Int) - (q : Int)))).cell? ⟨X0 + 1, 1, none⟩ = some (.int .i64 258) := o6.cellOf (X0 + 1) 1
            have q2 : (((w4.setCell ⟨X0 + 1, 0, none⟩ (.int .u8 0)).setCell ⟨X0 + 1, 1, none⟩ (.int .i64 258)).setCell ⟨X0 + 1, 2, none⟩ (.int .i64 ((m : Int) - (q : Int)))).cell? ⟨X0 + 1, 2, none⟩ = some (.int .i64 ((m : Int) - (q : Int))) := o6.cellOf (X0 + 1) 2
            have p0 : (((w4.setCell ⟨X0 + 1, 0, none⟩ (.int .u8 0)).setCell ⟨X0 + 1, 1, none⟩ (.int .i64 258)).setCell ⟨X0 + 1, 2, none⟩ (.int .i64 ((m : Int) - (q : Int)))).cell? ⟨X0, 0, none⟩ = some (.int .u8 0) := o6.cellOf X0 0
            have p1 : (((w4.setCell ⟨X0 + 1, 0, none⟩ (.int .u8 0)).setCell ⟨X0 + 1, 1, none⟩ (.int .i64 258)).setCell ⟨X0 + 1, 2, none⟩ (.int .i64 ((m : Int) - (q : Int)))).cell? ⟨X0, 1, none⟩ = some (.int .i64 0) := o6.cellOf X0 1
            have p2 : (((w4.setCell ⟨X0 + 1, 0, none⟩ (.int .u8 0)).setCell ⟨X0 + 1, 1, none⟩ (.int .i64 258)).setCell ⟨X0 + 1, 2, none⟩ (.int .i64 ((m : Int) - (q : Int)))).cell? ⟨X0, 2, none⟩ = some (.int .i64 0) := o6.cellOf X0 2
            have v0 := o6.freeOf X0 0
            have v1 := o6.freeOf X0 1
            have v2 := o6.freeOf X0 2
            obtain ⟨os, bs⟩ := (o6.foc (Bk X0 39 #[.int .u8 0, .int .i64 0, .int .i64 0])).set3 B6 (.int .u8 0) (.int .i64 258) (.int .i64 ((m : Int) - (q : Int)))
            go_wp2
            refine bodyPost_ret (results_cell_row rfl _ _ X0 39 #[.int .u8 0, .int .i64 258, .int .i64 ((m : Int) - (q : Int))] (0, 0) _ rfl os.bk.1 Try.underlying39 rfl (by kernel_rfl)) rfl ?_
            exact ⟨by rw [← En.out, ← Ed.out], os.right.right, (hb6).trans bs⟩
          · have hzb : ((z : Int) == 258) = false := by rw [beq_eq_false_iff_ne]; omega
            have He2 := Lib.hid (He1.out)
            rw [if_pos (show n < z by omega), if_neg (by omega)] at He2
            obtain ⟨o6, b6⟩ := o5.set3 B4 (.int .u8 0) (.int .i64 (z : Int)) (.int .i64 ((m : Int) - (q : Int)))
            have B6 := Nat.le_trans B4 b6.size
            have hb6 := hb4.trans b6
            have c3 : (((w4.setCell ⟨X0 + 1, 0, none⟩ (.int .u8 0)).setCell ⟨X0 + 1, 1, none⟩ (.int .i64 (z : Int))).setCell ⟨X0 + 1, 2, none⟩ (.int .i64 ((m : Int) - (q : Int)))).cell? ⟨p, 2, none⟩ = some (.slice (some ⟨gb, 0, none⟩) b.length b.length) := o6.cellOf p 2
            have cg3 : (((w4.setCell ⟨X0 + 1, 0, none⟩ (.int .u8 0)).setCell ⟨X0 + 1, 1, none⟩ (.int .i64 (z : Int))).setCell ⟨X0 + 1, 2, none⟩ (.int .i64 ((m : Int) - (q : Int)))).cell? ⟨gb, q, none⟩ = some (.int .i64 (prevP b q)) := (o6.cellOf gb q).trans ((intsV_get _ _ (by rw [backsAt_len]; omega)).trans (by rw [hnl]))
            rw [← fd_eq] at o6
            have eqd : ((m - q : Nat) : Int) = (m : Int) - (q : Int) := by omega
            have O6 : Hid (Own B (Bk (X0 + 1) 39 #[.int .u8 0, .int .i64 (z : Int), .int .i64 ((m - q : Nat) : Int)] * (Bk X0 39 #[.int .u8 0, .int .i64 0, .int .i64 0] * (Fd p (.slice A b.length c) gm gb k b (m + 1) * R))) (((w4.setCell ⟨X0 + 1, 0, none⟩ (.int .u8 0)).setCell ⟨X0 + 1, 1, none⟩ (.int .i64 (z : Int))).setCell ⟨X0 + 1, 2, none⟩ (.int .i64 ((m : Int) - (q : Int))))) := Lib.hid (by
              rw [eqd]
              exact o6.cast (by ac_rfl))
            have He3 := Lib.hid He2
            clear He1 He2 Ha c2 cg hnl o6 eqd
            generalize prevP b q = nx at *
            go_wp2
            go_roundg j
            case measure => omega
            case rel => exact ⟨nx, z, m - q, rfl, by omega, by omega, by omega, hal, He3.out, hb6, O6.out⟩
        · have hnz2 : ¬ n < z := by omega
          have He2 := Lib.hid (He1.out)
          rw [if_neg hnz2] at He2
          rw [← fd_eq] at o5
          clear He1 Ha hnl
          generalize prevP b q = nx at *
          go_wp2
          go_roundg j
          case measure => omega
          case rel => exact ⟨nx, n, d, rfl, by omega, by omega, by omega, hn, He2, hb4, o5.cast (by ac_rfl)⟩
      · have he1 := he.out
        have he2 : (n, d) = (rn, rd) := by
          cases gk with
          | zero => exact he1
          | succ j => rw [bst, if_neg (by omega)] at he1; exact he1
        obtain ⟨e1, e2⟩ := Prod.mk.inj he2
        have En : Hid ((n : Int) = (rn : Int)) := Lib.hid (by omega)
        have Ed : Hid ((d : Int) = (rd : Int)) := Lib.hid (by omega)
        have hwd : decide ((m : Int) - cc ≤ win) = false := decide_eq_false hwin
        clear he1 he2 e1 e2 he
        have q0 : wr.cell? ⟨X0 + 1, 0, none⟩ = some (.int .u8 0) := ho.cellOf (X0 + 1) 0
        have q1 : wr.cell? ⟨X0 + 1, 1, none⟩ = some (.int .i64 (n : Int)) := ho.cellOf (X0 + 1) 1
        have q2 : wr.cell? ⟨X0 + 1, 2, none⟩ = some (.int .i64 (d : Int)) := ho.cellOf (X0 + 1) 2
        have p0 : wr.cell? ⟨X0, 0, none⟩ = some (.int .u8 0) := ho.cellOf X0 0
        have p1 : wr.cell? ⟨X0, 1, none⟩ = some (.int .i64 0) := ho.cellOf X0 1
        have p2 : wr.cell? ⟨X0, 2, none⟩ = some (.int .i64 0) := ho.cellOf X0 2
        have v0 := ho.freeOf X0 0
        have v1 := ho.freeOf X0 1
        have v2 := ho.freeOf X0 2
        obtain ⟨os, bs⟩ := (ho.foc (Bk X0 39 #[.int .u8 0, .int .i64 0, .int .i64 0])).set3 Bw (.int .u8 0) (.int .i64 (n : Int)) (.int .i64 (d : Int))
        go_wp2
        refine bodyPost_ret (results_cell_row rfl _ _ X0 39 #[.int .u8 0, .int .i64 (n : Int), .int .i64 (d : Int)] (0, 0) _ rfl os.bk.1 Try.underlying39 rfl (by kernel_rfl)) rfl ?_
        exact ⟨by rw [← En.out, ← Ed.out], os.right.right, (hb).trans bs⟩
    · have he1 := he.out
      have he2 : (n, d) = (rn, rd) := by
        cases gk with
        | zero => exact he1
        | succ j => rw [bst, if_neg (by omega)] at he1; exact he1
      obtain ⟨e1, e2⟩ := Prod.mk.inj he2
      have En : Hid ((n : Int) = (rn : Int)) := Lib.hid (by omega)
      have Ed : Hid ((d : Int) = (rd : Int)) := Lib.hid (by omega)
      have hwd : decide (0 ≤ cc) = false := decide_eq_false hc0
      clear he1 he2 e1 e2 he
      have q0 : wr.cell? ⟨X0 + 1, 0, none⟩ = some (.int .u8 0) := ho.cellOf (X0 + 1) 0
      have q1 : wr.cell? ⟨X0 + 1, 1, none⟩ = some (.int .i64 (n : Int)) := ho.cellOf (X0 + 1) 1
      have q2 : wr.cell? ⟨X0 + 1, 2, none⟩ = some (.int .i64 (d : Int)) := ho.cellOf (X0 + 1) 2
      have p0 : wr.cell? ⟨X0, 0, none⟩ = some (.int .u8 0) := ho.cellOf X0 0
      have p1 : wr.cell? ⟨X0, 1, none⟩ = some (.int .i64 0) := ho.cellOf X0 1
      have p2 : wr.cell? ⟨X0, 2, none⟩ = some (.int .i64 0) := ho.cellOf X0 2
      have v0 := ho.freeOf X0 0
      have v1 := ho.freeOf X0 1
      have v2 := ho.freeOf X0 2
      obtain ⟨os, bs⟩ := (ho.foc (Bk X0 39 #[.int .u8 0, .int .i64 0, .int .i64 0])).set3 Bw (.int .u8 0) (.int .i64 (n : Int)) (.int .i64 (d : Int))
      go_wp2
      refine bodyPost_ret (results_cell_row rfl _ _ X0 39 #[.int .u8 0, .int .i64 (n : Int), .int .i64 (d : Int)] (0, 0) _ rfl os.bk.1 Try.underlying39 rfl (by kernel_rfl)) rfl ?_
      exact ⟨by rw [← En.out, ← Ed.out], os.right.right, (hb).trans bs⟩
end Go.Proofs.Ytedcficjmogohaa

/- The walk over Parse of package match. -/
namespace Go.Proofs.Ytedcficjmogohaa
set_option linter.unusedVariables false
set_option linter.unusedSimpArgs false
set_option maxRecDepth 100000
open Go.RowKit

def tokAt (b : List UInt8) (win : Int) (m : Nat) : Tk := ⟨if (bestN b win m).1 = 0 then b[m]?.getD 0 else 0, (bestN b win m).1, (bestN b win m).2⟩
def prs (b : List UInt8) (win : Int) : Nat → Nat → List Tk
  | 0, _ => []
  | k + 1, m => if m < b.length then tokAt b win m :: prs b win k (m + (if (bestN b win m).1 = 0 then 1 else (bestN b win m).1)) else []
def parseN (b : List UInt8) (win : Int) : List Tk := if 1 ≤ win ∧ win ≤ 32768 then prs b win b.length 0 else []
theorem bst_in (b : List UInt8) (win : Int) (m : Nat) (hm : m ≤ b.length) : ∀ (k : Nat) (c : Int) (n d : Nat), n ≤ 258 → m + n ≤ b.length → (bst b win m k c n d).1 ≤ 258 ∧ m + (bst b win m k c n d).1 ≤ b.length
  | 0, c, n, d, h1, h2 => ⟨h1, h2⟩
  | k + 1, c, n, d, h1, h2 => by
    have ha := alk_in b c.toNat m 258 0
    rw [bst]
    unfold alikeN
    split
    · split
      · split
        · exact ⟨Nat.le_refl _, by have := ha.2.2 hm; omega⟩
        · exact bst_in b win m hm k _ _ _ (by omega) (by have := ha.2.2 hm; omega)
      · exact bst_in b win m hm k _ _ _ h1 h2
    · exact ⟨h1, h2⟩
theorem bestN_in (b : List UInt8) (win : Int) (m : Nat) (hm : m ≤ b.length) : (bestN b win m).1 ≤ 258 ∧ m + (bestN b win m).1 ≤ b.length := bst_in b win m hm _ _ _ _ (by omega) (by omega)

theorem info_tok : (Try.prog.info? 39).map (fun i => (i.zero, i.size, i.bytes)) = some (some (.agg #[.int .u8 0, .int .i64 0, .int .i64 0]), 3, 24) := by kernel_rfl
theorem info_int : (Try.prog.info? 3).map (fun i => (i.zero, i.size, i.bytes)) = some (some (.int .i64 0), 1, 8) := by kernel_rfl
theorem run_make_ints (k : Nat) (hk : k ≤ 131072) (W : World) : (Instr.makeSlice 79 (.int .i64 (k : Int)) (.int .i64 (k : Int))).run Try.prog W = .ok (.slice (some ⟨W.heap.size, 0, none⟩) k k) (W.alloc (.cells (intsV (List.replicate k 0)) 3)) := by
  obtain ⟨i0, hi, hz0, hz1, hz2⟩ := info_parts info_int
  have h := run_make (P := Try.prog) W 79 3 i0 _ Try.underlying79 hi hz0 .i64 .i64 k k (by omega) (Int.le_refl _) (by rw [hz2]; omega) (by omega)
  rw [hz1] at h
  have hc : madeCells (Value.int .i64 0).cells (k * 1) = intsV (List.replicate k 0) := by
    apply Array.ext'
    show (madeCells #[.int .i64 0] (k * 1)).toList = _
    rw [Nat.mul_one, toList_madeCells_one]
    simp [intsV]
  simp only [Int.toNat_natCast, hc] at h
  exact h
set_option maxRecDepth 100000 in
theorem tok_snoc {B : Nat} {R : HP} [Loc B R] {w : World} (hB : B ≤ w.heap.size) {v : Value} {xs : List Tk} (h : Own B (Rw 39 3 v xs.length (flat tkL xs) * R) w) (t : Tk) (hl : xs.length ≤ 1099511627775) :
    ∃ g cap w', (Builtin.append_ #[33, 33] 33 #[v, .slice (some ⟨w.heap.size, 0, none⟩) 1 1]).run Try.prog (w.alloc (.cells (tkL t).toArray 39)) = .ok (.slice (some ⟨g, 0, none⟩) (xs ++ [t]).length cap) w' ∧
      Own B (Rw 39 3 (.slice (some ⟨g, 0, none⟩) (xs ++ [t]).length cap) (xs ++ [t]).length (flat tkL (xs ++ [t])) * R) w' ∧ Below B w w' := by
  obtain ⟨i0, hi, hz0, hz1, hz2⟩ := info_parts info_tok
  have h1 := h.alloc_keep hB (.cells (tkL t).toArray 39)
  have hB1 : B ≤ (w.alloc (.cells (tkL t).toArray 39)).heap.size := by simp; omega
  obtain ⟨v', w', hr, h2, h3, _, h5⟩ := run_append_own_at (P := Try.prog) (w.alloc (.cells (tkL t).toArray 39)) B 33 33 39 i0 _ 3 24 Try.underlying33 hi hz0 hz1 hz2 rfl (by omega) v xs.length (flat tkL xs) h1.row
    ⟨w.heap.size, 0, none⟩ 1 1 (tkL t) rfl (by
      intro j x hj
      rw [Addr.add_lit, Nat.zero_add]
      match j, hj with
      | 0, hj => simp [tkL] at hj; subst hj; simp [tkL]
      | 1, hj => simp [tkL] at hj; subst hj; simp [tkL]
      | 2, hj => simp [tkL] at hj; subst hj; simp [tkL]) (by intro x hx; simp [tkL] at hx; rcases hx with rfl | rfl | rfl <;> rfl) (by unfold maxLen; omega) (by omega) hB1
  have h6 := Own.appended hB1 h1 h2 h3 h5
  rw [show xs.length + 1 = (xs ++ [t]).length by simp, ← flat_snoc] at h6
  obtain ⟨g, cap, rfl, _⟩ := h6.1.row.form (by simp)
  exact ⟨g, cap, w', hr, h6.1, ((Below.refl B w).alloc hB _).trans h6.2⟩

def RetTk (w : World) (l : List Tk) (e : Ending) (w' : World) : Prop := ∃ v, e = .returned v ∧ w'.ownsRow w.heap.size 39 3 v l.length (flat tkL l) ∧ Below w.heap.size w w'
theorem RetTk.mk {w w' : World} {l l' : List Tk} {e : Ending} {v : Value} {B : Nat} {R : HP} (he : e = .returned v) (hl : l' = l) (hB : B = w.heap.size) (ho : Own B (Rw 39 3 v l'.length (flat tkL l') * R) w') (hb : Below w.heap.size w w') : RetTk w l e w' := by
  subst hl; subst hB; exact ⟨v, he, ho.row, hb⟩
theorem World.size_alloc' (w : World) (o : Obj) : (w.alloc o).heap.size = w.heap.size + 1 := by simp
theorem backs0 (b : List UInt8) : List.replicate b.length 0 = backsAt b 0 := by
  apply List.ext_getElem
  · simp [backsAt]
  · intro i h1 h2; simp [backsAt]

set_option maxHeartbeats 6400000 in
theorem parse_any (A : Option Addr) (c : Nat) (b : List UInt8) (hbl : b.length ≤ 65536) (hc : b.length ≤ c ∧ c ≤ 9223372036854775807) (win : Int) (w : World) (hr : Rd w (.slice A b.length c) (bytesU b)) :
    Calls Try.prog 21 #[.slice A b.length c, .int .i64 win] w (RetTk w (parseN b win)) := by
  have hO := (Own.start w.heap.size w).rw_nil 39 3
  have hmk := run_make_ints b.length (by omega)
  have l1 : (b.length : Int) ≤ 65536 := by omega
  have Hr := Lib.hid (fun w1 (h : Below w.heap.size w w1) => hr.below h)
  have HP : Hid (parseN b win = if 1 ≤ win ∧ win ≤ 32768 then prs b win b.length 0 else []) := Lib.hid rfl
  generalize parseN b win = res at *
  have hb := Below.refl w.heap.size w
  by_cases hw1 : win < 1
  · have HP2 : Hid ([] = res) := Lib.hid (by have := HP.out; rw [if_neg (by omega)] at this; exact this.symm)
    clear HP hmk hr
    go_enter Try.func21, Try.ntmps21
    go_wp2
    go_ret
    exact RetTk.mk (l' := []) rfl HP2.out rfl hO hb
  · by_cases hw2 : 32768 < win
    · have HP2 : Hid ([] = res) := Lib.hid (by have := HP.out; rw [if_neg (by omega)] at this; exact this.symm)
      clear HP hmk hr
      go_enter Try.func21, Try.ntmps21
      go_wp2
      go_ret
      exact RetTk.mk (l' := []) rfl HP2.out rfl hO hb
    · have HP2 : Hid (prs b win b.length 0 = res) := Lib.hid (by have := HP.out; rw [if_pos (by omega)] at this; exact this.symm)
      clear HP hr
      have o1 := hO.mo_new (Nat.le_refl _)
      have b1 := hb.alloc (Nat.le_refl _) (.map #[] 0)
      have o2 := o1.new b1.size 3 (intsV (List.replicate b.length 0))
      have b2 := b1.alloc b1.size (.cells (intsV (List.replicate b.length 0)) 3)
      have o3 := o2.new b2.size 81 #[.slice A b.length c, .map (some w.heap.size), .slice (some ⟨w.heap.size + 1, 0, none⟩) b.length b.length]
      have b3 := b2.alloc b2.size (.cells #[.slice A b.length c, .map (some w.heap.size), .slice (some ⟨w.heap.size + 1, 0, none⟩) b.length b.length] 81)
      simp only [World.size_alloc'] at o3
      have oA := o3.cast (show _ = Fd (w.heap.size + 1 + 1) (.slice A b.length c) w.heap.size (w.heap.size + 1) 0 b 0 * (Rw 39 3 (.slice none 0 0) 0 [] * Emp) by
        rw [fd_eq, ← backs0, show lastP b 0 = fun _ _ _ => none from rfl]
        ac_rfl)
      have hmm := @run_makeMap Try.prog
      clear o1 o2 o3 b1 b2 hO hb
      go_enter Try.func21, Try.ntmps21
      go_wp2
      generalize hX0 : w.heap.size = X0 at *
      go_loopg [6, 7] b.length (fun k' v u wr => ∃ (m : Nat) (out : List Tk) (v0 : Value), v0 = v ∧ u = .int .i64 (m : Int) ∧ m ≤ b.length ∧ b.length ≤ k' + m ∧ out.length ≤ m ∧ Hid (out ++ prs b win k' m = res) ∧ Below X0 w wr ∧ Own X0 (Fd (X0 + 1 + 1) (.slice A b.length c) X0 (X0 + 1) m b m * (Rw 39 3 v0 out.length (flat tkL out) * Emp)) wr)
      case atStart => exact ⟨0, [], _, rfl, rfl, by omega, by omega, by simp, Lib.hid HP2.out, b3, oA⟩
      case round =>
        clear oA b3 hmk hmm HP2
        obtain ⟨m, out, v, rfl, rfl, hm1, hm2, ho1, he, hb, ho⟩ := hrel
        have Bw : X0 ≤ wr.heap.size := by rw [← hX0]; exact hb.size
        by_cases hlt : (m : Int) < (b.length : Int)
        · obtain ⟨j, rfl⟩ : ∃ j, gk = j + 1 := ⟨gk - 1, by omega⟩
          have m0 : (0 : Int) ≤ (m : Int) := by omega
          have hml : m < b.length := by omega
          have Hr2 : Hid (∀ w1, Below X0 w w1 → Rd w1 (.slice A b.length c) (bytesU b)) := Lib.hid (fun w1 h => Hr.out w1 (hX0 ▸ h))
          have he1 := he.out
          rw [prs, if_pos hml] at he1
          have hin := bestN_in b win m (by omega)
          have Hput := Lib.hid (fput_any (X0 + 1 + 1) X0 (X0 + 1) m A c b hbl hc m hml (by omega) X0 _ wr Bw (fun w1 h1 => Hr2.out w1 (hb.trans h1)) ho)
          have Hbest := Lib.hid (fun w1 (h1 : Below X0 w w1) B1 h2 => fbest_any (X0 + 1 + 1) X0 (X0 + 1) (m + 1) A c b hbl win (by omega) (by omega) m hml X0 (Rw 39 3 v out.length (flat tkL out) * Emp) w1 B1 (fun w2 h3 => Hr2.out w2 (h1.trans h3)) h2)
          have Htk : Hid (tokAt b win m = ⟨if (bestN b win m).1 = 0 then b[m] else 0, (bestN b win m).1, (bestN b win m).2⟩) := Lib.hid (by unfold tokAt; rw [List.getElem?_eq_getElem hml]; rfl)
          have Hrd := Lib.hid (fun w1 h1 => (Hr2.out w1 h1).at' m hml)
          generalize bestN b win m = r at *
          generalize tokAt b win m = tk at *
          obtain ⟨rn, rd⟩ := r
          have he3 := Lib.hid he1
          have Hm2 := Lib.hid hm2
          obtain ⟨hin1, hin2⟩ := hin
          simp only at hin1 hin2
          clear he he1 hm2 hm1
          go_wp2_with fail
          refine Hput.out.mono ?_
          rintro e w4 ⟨rfl, o4, b4⟩
          have B4 := Nat.le_trans Bw b4.size
          have hb4 := hb.trans b4
          clear Hput ho hb b4 Bw
          go_wp2_with fail
          refine (Hbest.out _ hb4 B4 o4).mono ?_
          rintro e w5 ⟨rfl, o5, b5⟩
          have B5 := Nat.le_trans B4 b5.size
          have hb5 := hb4.trans b5
          clear Hbest o4 hb4 b5 B4
          have o6 := o5.new B5 39 #[.int .u8 0, .int .i64 (rn : Int), .int .i64 (rd : Int)]
          have b6 := hb5.alloc B5 (.cells #[.int .u8 0, .int .i64 (rn : Int), .int .i64 (rd : Int)] 39)
          have B6 := Nat.le_trans B5 (show w5.heap.size ≤ (w5.alloc (.cells #[.int .u8 0, .int .i64 (rn : Int), .int .i64 (rd : Int)] 39)).heap.size by simp)
          by_cases h0 : rn = 0
          · subst h0
            rw [show ((0 : Nat) : Int) = 0 from rfl] at o6 b6 B6
            obtain ⟨b0, o0, rfl, x0⟩ := Hrd.out _ b6
            generalize b[m] = bm at *
            obtain rfl : tk = ⟨bm, 0, (rd : Int)⟩ := Htk.out
            have o7 := o5.new B5 39 #[.int .u8 (bm.toNat : Int), .int .i64 0, .int .i64 (rd : Int)]
            have b7 := hb5.alloc B5 (.cells #[.int .u8 (bm.toNat : Int), .int .i64 0, .int .i64 (rd : Int)] 39)
            have B7 : X0 ≤ (w5.alloc (.cells #[.int .u8 (bm.toNat : Int), .int .i64 0, .int .i64 (rd : Int)] 39)).heap.size := by simp; omega
            obtain ⟨g, cap, w8, hrun, o8, b8⟩ := tok_snoc B7 (o7.foc (Rw 39 3 v out.length (flat tkL out))) ⟨bm, 0, (rd : Int)⟩ (by omega)
            rw [show (w5.alloc (.cells #[.int .u8 (bm.toNat : Int), .int .i64 0, .int .i64 (rd : Int)] 39)).heap.size = w5.heap.size + 1 by simp] at hrun
            simp only [tkL] at hrun
            have Hrun := Lib.hid hrun
            have hb8 := b7.trans b8
            have c8 : w8.cell? ⟨w5.heap.size, 1, none⟩ = some (.int .i64 0) := o8.cellOf w5.heap.size 1
            have O9 := Lib.hid (o8.cast (show _ = Bk w5.heap.size 39 _ * (Fd (X0 + 1 + 1) (.slice (some ⟨b0, o0, none⟩) b.length c) X0 (X0 + 1) (m + 1) b (m + 1) * (Rw 39 3 _ _ _ * Emp)) by ac_rfl)).right
            have He4 : Hid ((out ++ [⟨bm, 0, (rd : Int)⟩]) ++ prs b win j (m + 1) = res) := Lib.hid (by rw [List.append_assoc]; exact he3.out)
            have ho2 : (out ++ [(⟨bm, 0, (rd : Int)⟩ : Tk)]).length ≤ m + 1 := by rw [List.length_append]; simp; omega
            have Ho2 := Lib.hid ho2
            clear hrun o7 b7 o8 b8 ho2 o6 o5 B7 B6
            generalize out ++ [(⟨bm, 0, (rd : Int)⟩ : Tk)] = out2 at *
            go_wp2_with (at_builtin; refine wpList_append_run rfl (.tmp 41) (.tmp 43) 33 rfl rfl rfl Hrun.out ?_)
            go_loopg [7, 49] 0 (fun k v u wr => v = .int .i64 (m : Int) ∧ u = .int .i64 0 ∧ wr = w8)
            case atStart => exact ⟨rfl, rfl, rfl⟩
            case round =>
              obtain ⟨rfl, rfl, rfl⟩ := hrel
              go_wp2
              go_roundg j
              case measure => omega
              case rel => exact ⟨m + 1, out2, _, rfl, rfl, by omega, by have := Hm2.out; omega, Ho2.out, He4, hb8, O9.out⟩
          · have h1 : ¬ (rn : Int) < 1 := by omega
            have h0' : ((rn : Int) == 0) = false := by rw [beq_eq_false_iff_ne]; omega
            have r258 : (rn : Int) ≤ 258 := by omega
            have htk2 := Htk.out
            simp only [if_neg h0] at htk2
            subst htk2
            have he5 := he3.out
            simp only [if_neg h0] at he5
            have He4 : Hid ((out ++ [⟨0, (rn : Int), (rd : Int)⟩]) ++ prs b win j (m + rn) = res) := Lib.hid (by rw [List.append_assoc]; exact he5)
            obtain ⟨g, cap, w8, hrun, o8, b8⟩ := tok_snoc B6 (o6.foc (Rw 39 3 v out.length (flat tkL out))) ⟨0, (rn : Int), (rd : Int)⟩ (by omega)
            rw [show (w5.alloc (.cells #[.int .u8 0, .int .i64 (rn : Int), .int .i64 (rd : Int)] 39)).heap.size = w5.heap.size + 1 by simp] at hrun
            simp only [tkL, show (((0 : UInt8).toNat : Nat) : Int) = 0 from rfl] at hrun
            have Hrun := Lib.hid hrun
            have hb8 := b6.trans b8
            have c8 : w8.cell? ⟨w5.heap.size, 1, none⟩ = some (.int .i64 (rn : Int)) := o8.cellOf w5.heap.size 1
            have o9 := (o8.cast (show _ = Bk w5.heap.size 39 _ * (Fd (X0 + 1 + 1) (.slice A b.length c) X0 (X0 + 1) (m + 1) b (m + 1) * (Rw 39 3 _ _ _ * Emp)) by ac_rfl)).right
            have ho2 : (out ++ [(⟨0, (rn : Int), (rd : Int)⟩ : Tk)]).length ≤ m + rn := by rw [List.length_append]; simp; omega
            have Ho2 := Lib.hid ho2
            have B8 := Nat.le_trans B6 b8.size
            clear hrun o8 b8 ho2 o6 o5 B6 he3 he5 Htk
            generalize out ++ [(⟨0, (rn : Int), (rd : Int)⟩ : Tk)] = out2 at *
            go_wp2_with (at_builtin; refine wpList_append_run rfl (.tmp 41) (.tmp 43) 33 rfl rfl rfl Hrun.out ?_)
            generalize w5.heap.size = Y at *
            go_loopg [7, 49] (rn - 1) (fun k v u wr2 => ∃ i : Nat, k + (i + 1) = rn ∧ v = .int .i64 ((m : Int) + (i : Int)) ∧ u = .int .i64 (i : Int) ∧ Below X0 w wr2 ∧ X0 ≤ wr2.heap.size ∧ Own X0 (Fd (X0 + 1 + 1) (.slice A b.length c) X0 (X0 + 1) (m + 1 + i) b (m + 1 + i) * (Rw 39 3 (.slice (some ⟨g, 0, none⟩) out2.length cap) out2.length (flat tkL out2) * Emp)) wr2)
            case atStart => exact ⟨0, by omega, by simp, rfl, hb8, B8, o9⟩
            case round =>
              clear o9 hb8 B8 c8 b6
              obtain ⟨i, hk, rfl, rfl, hb9, B9, o10⟩ := hrel
              have i0 : (0 : Int) ≤ (i : Int) := by omega
              by_cases hi : (i : Int) < (rn : Int) - 1
              · obtain ⟨jj, rfl⟩ : ∃ jj, gk = jj + 1 := ⟨gk - 1, by omega⟩
                have hput := (fput_any (X0 + 1 + 1) X0 (X0 + 1) (m + 1 + i) A c b hbl hc (m + 1 + i) (by omega) (by omega) X0 _ wr B9 (fun w1 h1 => Hr2.out w1 (hb9.trans h1)) o10)
                rw [show (((m + 1 + i : Nat)) : Int) = (m : Int) + (i : Int) + 1 by omega] at hput
                have Hput := Lib.hid hput
                have iw : (m : Int) + (i : Int) + 1 ≤ 65536 := by omega
                clear hput o10
                go_wp2_with fail
                refine Hput.out.mono ?_
                rintro e w11 ⟨rfl, o11, b11⟩
                go_wp2
                go_roundg jj
                case measure => omega
                case rel => exact ⟨i + 1, by omega, congrArg (Value.int .i64) (by omega), rfl, hb9.trans b11, Nat.le_trans B9 b11.size, o11⟩
              · obtain rfl : rn = i + 1 := by omega
                go_wp2
                go_roundg j
                case measure => omega
                case rel => exact ⟨m + (i + 1), out2, _, rfl, by simp; omega, by omega, by have := Hm2.out; omega, Ho2.out, He4, hb9, o10.cast (by rw [show m + (i + 1) = m + 1 + i by omega])⟩
        · have he2 : out = res := by
            have := he.out
            cases gk with
            | zero => simpa [prs] using this
            | succ j => rw [prs, if_neg (by omega)] at this; simpa using this
          have He := Lib.hid he2
          clear he he2
          go_wp2
          go_ret
          exact RetTk.mk rfl He.out hX0.symm (ho.foc (Rw 39 3 v out.length (flat tkL out))) (hX0 ▸ hb)
end Go.Proofs.Ytedcficjmogohaa

/- The tokens that Parse finds stand for the bytes: plain laws. -/
namespace Go.Proofs.Ytedcficjmogohaa
set_option linter.unusedVariables false
set_option linter.unusedSimpArgs false
set_option maxRecDepth 100000

def same3 (b : List UInt8) (q m : Nat) : Prop := b[q]? = b[m]? ∧ b[q + 1]? = b[m + 1]? ∧ b[q + 2]? = b[m + 2]? ∧ m + 2 < b.length
theorem lastP_at (b : List UInt8) : ∀ (m : Nat) (x y z : UInt8) (p : Int), lastP b m x y z = some p → at3 b p.toNat x y z
  | 0, x, y, z, p, h => by cases h
  | m + 1, x, y, z, p, h => by
    unfold lastP at h
    split at h
    · rename_i ha
      injection h with h
      subst h
      simpa using ha
    · exact lastP_at b m x y z p h
theorem prevP_same (b : List UInt8) (q : Nat) (h : 0 ≤ prevP b q) : same3 b (prevP b q).toNat q := by
  unfold prevP at h ⊢
  split at h
  · rename_i x y z h0 h1 h2
    cases hl : lastP b q x y z with
    | none => rw [hl] at h; exact absurd h (by decide)
    | some p =>
      obtain ⟨a0, a1, a2⟩ := lastP_at b q x y z p hl
      simp only [Option.getD_some]
      exact ⟨a0.trans h0.symm, a1.trans h1.symm, a2.trans h2.symm, (List.getElem?_eq_some_iff.1 h2).1⟩
  · exact absurd h (by decide)
theorem same3_trans {b : List UInt8} {p q m : Nat} (h1 : same3 b p q) (h2 : same3 b q m) : same3 b p m := ⟨h1.1.trans h2.1, h1.2.1.trans h2.2.1, h1.2.2.1.trans h2.2.2.1, h2.2.2.2⟩
theorem alike_ge3 {b : List UInt8} {q m : Nat} (h : same3 b q m) : 3 ≤ alikeN b q m := by
  obtain ⟨h0, h1, h2, h3⟩ := h
  unfold alikeN
  rw [alk, if_pos ⟨by omega, h0⟩, alk, if_pos ⟨by omega, h1⟩, alk, if_pos ⟨by omega, h2⟩]
  exact (alk_in b q m 255 3).1
/-- What a token found at m is. -/
def goodT (b : List UInt8) (win : Int) (m : Nat) (r : Nat × Nat) : Prop :=
  (r.1 = 0 ∧ r.2 = 0) ∨ (3 ≤ r.1 ∧ r.1 ≤ 258 ∧ 1 ≤ r.2 ∧ (r.2 : Int) ≤ win ∧ r.2 ≤ m ∧ m + r.1 ≤ b.length ∧ ∀ i, i < r.1 → b[m - r.2 + i]? = b[m + i]?)
theorem bst_good (b : List UInt8) (win : Int) (m : Nat) (hm : m ≤ b.length) : ∀ (k : Nat) (c : Int) (n d : Nat), c < m → (0 ≤ c → same3 b c.toNat m) → goodT b win m (n, d) → goodT b win m (bst b win m k c n d)
  | 0, c, n, d, _, _, h => h
  | k + 1, c, n, d, hc, hs, h => by
    rw [bst]
    split
    · rename_i h1
      have hpin := prevP_in b c.toNat
      have hps : 0 ≤ prevP b c.toNat → same3 b (prevP b c.toNat).toNat m := fun h2 => same3_trans (prevP_same b c.toNat h2) (hs h1.1)
      have ha := alk_in b c.toNat m 258 0
      have hg : goodT b win m (alikeN b c.toNat m, m - c.toNat) := by
        have h3 := alike_ge3 (hs h1.1)
        refine .inr ⟨h3, by unfold alikeN; simp only; omega, by simp only; omega, by simp only; omega, by simp only; omega, ha.2.2 hm, fun i hi => ?_⟩
        have := alk_eq b c.toNat m 258 0 i (by omega) hi
        simp only
        rw [show m - (m - c.toNat) + i = c.toNat + i by omega]
        exact this
      split
      · split
        · rename_i h5
          rw [h5] at hg
          exact hg
        · exact bst_good b win m hm k _ _ _ (by omega) hps hg
      · exact bst_good b win m hm k _ _ _ (by omega) hps h
    · exact h
theorem bestN_good (b : List UInt8) (win : Int) (m : Nat) (hm : m ≤ b.length) : goodT b win m (bestN b win m) :=
  bst_good b win m hm _ _ _ _ (prevP_in b m).2 (prevP_same b m) (.inl ⟨rfl, rfl⟩)
theorem copy_take (b : List UInt8) (m d : Nat) (hd1 : 1 ≤ d) (hdm : d ≤ m) : ∀ n, m + n ≤ b.length → (∀ i, i < n → b[m - d + i]? = b[m + i]?) → copyN d n (b.take m) = b.take (m + n)
  | 0, _, _ => rfl
  | n + 1, hn, h => by
    rw [copyN_succ, copy_take b m d hd1 hdm n (by omega) (fun i hi => h i (by omega)), List.length_take, Nat.min_eq_left (by omega)]
    have h1 := h n (by omega)
    rw [List.getElem?_take_of_lt (by omega), show m + n - d = m - d + n by omega, h1, List.getElem?_eq_getElem (by omega)]
    rw [show m + (n + 1) = m + n + 1 by omega, List.take_succ_eq_append_getElem (by omega)]
    rfl
theorem tokAt_saw (b : List UInt8) (win : Int) (hw : win ≤ 32768) (m : Nat) (hm : m < b.length) (n : Int) (hn : (b.length : Int) ≤ n) :
    fitsP (b.take m) (tokAt b win m) n ∧ sawT (b.take m) (tokAt b win m) = b.take (m + (if (bestN b win m).1 = 0 then 1 else (bestN b win m).1)) := by
  have hg := bestN_good b win m (by omega)
  unfold tokAt
  generalize bestN b win m = r at *
  obtain ⟨rn, rd⟩ := r
  rcases hg with ⟨h1, h2⟩ | ⟨h1, h2, h3, h4, h5, h6, h7⟩
  · simp only at h1 h2
    subst h1; subst h2
    refine ⟨⟨.inl ⟨rfl, rfl⟩, by simp, by unfold maxT; simp; omega⟩, ?_⟩
    unfold sawT
    rw [if_pos (by simp), if_pos (by simp), List.getElem?_eq_getElem hm]
    show _ = b.take (m + 1)
    rw [List.take_succ_eq_append_getElem hm]
    rfl
  · simp only at h1 h2 h3 h4 h5 h6 h7
    have h0 : ¬ rn = 0 := by omega
    simp only [if_neg h0]
    refine ⟨⟨.inr ⟨by simp only; omega, by simp only; omega, by simp only; omega, by simp only; omega, rfl⟩, by simp only [List.length_take]; omega, by unfold maxT; simp only [List.length_take]; rw [if_neg (by omega)]; omega⟩, ?_⟩
    unfold sawT
    rw [if_neg (by simp only; omega)]
    exact copy_take b m rd h3 h5 rn h6 h7
theorem prs_exp (b : List UInt8) (win : Int) (hw : win ≤ 32768) (N : Int) (hN : (b.length : Int) ≤ N) : ∀ (k m : Nat), m ≤ b.length → b.length ≤ k + m → expT N (prs b win k m) (b.take m) = some b
  | 0, m, h1, h2 => by
    obtain rfl : m = b.length := by omega
    rw [prs, expT, List.take_length]
  | k + 1, m, h1, h2 => by
    rw [prs]
    split
    · rename_i hm
      have hs := tokAt_saw b win hw m hm N hN
      have hin := bestN_in b win m (by omega)
      rw [expT, if_pos hs.1, hs.2]
      refine prs_exp b win hw N hN k _ ?_ ?_
      · split <;> omega
      · split <;> omega
    · obtain rfl : m = b.length := by omega
      rw [expT, List.take_length]
theorem parse_exp (b : List UInt8) (win : Int) (h1 : 1 ≤ win) (h2 : win ≤ 32768) (N : Int) (hN : (b.length : Int) ≤ N) : expT N (parseN b win) [] = some b := by
  unfold parseN
  rw [if_pos ⟨h1, h2⟩]
  exact prs_exp b win h2 N hN b.length 0 (by omega) (by omega)
end Go.Proofs.Ytedcficjmogohaa

/- The walk over math/bits.Len, of small numbers. -/
namespace Go.Proofs.Ytedcficjmogohaa
set_option linter.unusedVariables false
set_option linter.unusedSimpArgs false
set_option maxRecDepth 100000
open Go.RowKit

def lenN (n : Nat) : Nat := if n = 0 then 0 else Nat.log2 n + 1

theorem lenN_small (n : Nat) (h : n < 256) : lenN n ≤ 8 := by
  have : (List.range 256).all (fun i => decide (lenN i ≤ 8)) = true := by kernel_rfl
  exact of_decide_eq_true (List.all_eq_true.1 this n (List.mem_range.2 h))
theorem lenN_up (n : Nat) (h : 256 ≤ n) : lenN n = 8 + lenN (n / 256) := by
  have h0 : ¬ n = 0 := by omega
  have h1 : ¬ n / 256 = 0 := by omega
  unfold lenN
  rw [if_neg h0, if_neg h1]
  have h2 : Nat.log2 n = Nat.log2 (n / 256) + 8 := by
    have hl : 2 ^ Nat.log2 (n / 256) ≤ n / 256 := Nat.log2_self_le (by omega)
    have hu : n / 256 < 2 ^ (Nat.log2 (n / 256) + 1) := Nat.lt_log2_self
    refine (Nat.log2_eq_iff (by omega)).2 ⟨?_, ?_⟩
    · rw [Nat.pow_add]; omega
    · rw [show Nat.log2 (n / 256) + 8 + 1 = (Nat.log2 (n / 256) + 1) + 8 by omega, Nat.pow_add]; omega
  omega
theorem idx_tab {S : ByteArray} (hsz : S.size = 256) (hall : (List.range 256).all (fun i => S.data.toList.getD i 0 == UInt8.ofNat (lenN i)) = true) (n : Nat) (hn : n < 256) (X : Int) (hX : X = (n : Int)) (W : World) :
    (Instr.index 9 (.string S) (.int .u8 X)).run Try.prog W = .ok (.int .u8 (lenN n : Int)) W := by
  subst hX
  rw [run_index_string W 9 S .u8 _ Try.underlying9, dif_pos ⟨by omega, by omega⟩]
  have e : ((n : Int)).toNat = n := by omega
  simp only [e]
  rw [Lib.getD_at S n (by omega)]
  have := List.all_eq_true.1 hall n (List.mem_range.2 hn)
  rw [eq_of_beq this]
  have h8 := lenN_small n hn
  have : (UInt8.ofNat (lenN n)).toNat = lenN n := by simp; omega
  rw [this]

set_option maxHeartbeats 6400000 in
theorem len64_any (x : Nat) (hx : x < 65536) (w : World) : Calls Try.prog 74 #[.int .u64 (x : Int)] w fun e w' => e = .returned (.int .i64 (lenN x : Int)) ∧ w = w' := by
  obtain ⟨X, hX⟩ : ∃ X : Int, X = (x : Int) := ⟨_, rfl⟩
  rw [← hX]
  have x0 : 0 ≤ X := by omega
  have x1 : X < 65536 := by omega
  have HX := Lib.hid hX
  have Hx := Lib.hid hx
  clear hX hx
  by_cases h : X < 256
  · go_enter Try.func74, Try.ntmps74
    go_name_bytes S hS
    have hsz : S.size = 256 := by rw [← hS]; kernel_rfl
    have hall : (List.range 256).all (fun i => S.data.toList.getD i 0 == UInt8.ofNat (lenN i)) = true := by rw [← hS]; kernel_rfl
    clear hS
    have h8 := lenN_small x (by have := HX.out; omega)
    have hidx := idx_tab hsz hall x (by have := HX.out; omega) X HX.out
    clear hsz hall
    generalize lenN x = L at *
    obtain ⟨Z, hZ⟩ : ∃ Z : Int, Z = (L : Int) := ⟨_, rfl⟩
    rw [← hZ] at hidx ⊢
    have z0 : 0 ≤ Z := by omega
    have z1 : Z ≤ 8 := by omega
    clear hZ
    go_wp2
    go_ret
    exact ⟨rfl, rfl⟩
  · have Hup := Lib.hid (lenN_up x (by have := HX.out; omega))
    go_enter Try.func74, Try.ntmps74
    go_name_bytes S hS
    have hsz : S.size = 256 := by rw [← hS]; kernel_rfl
    have hall : (List.range 256).all (fun i => S.data.toList.getD i 0 == UInt8.ofNat (lenN i)) = true := by rw [← hS]; kernel_rfl
    clear hS
    have h8 := lenN_small (x / 256) (by have := Hx.out; omega)
    have hidx := idx_tab hsz hall (x / 256) (by have := Hx.out; omega) (X / 256) (by have := HX.out; omega)
    rw [Hup.out]
    clear hsz hall Hup
    generalize lenN (x / 256) = L at *
    obtain ⟨Z, hZ⟩ : ∃ Z : Int, Z = (L : Int) := ⟨_, rfl⟩
    rw [show ((8 + L : Nat) : Int) = 8 + Z by omega]
    rw [← hZ] at hidx
    have z0 : 0 ≤ Z := by omega
    have z1 : Z ≤ 8 := by omega
    clear hZ
    go_wp2
    go_ret
    exact ⟨rfl, rfl⟩

set_option maxHeartbeats 1600000 in
theorem len_any (x : Nat) (hx : x < 65536) (w : World) : Calls Try.prog 58 #[.int .u64 (x : Int)] w fun e w' => e = .returned (.int .i64 (lenN x : Int)) ∧ w = w' := by
  have H := Lib.hid (fun w1 => len64_any x hx w1)
  generalize lenN x = L at *
  have x0 : (0 : Int) ≤ (x : Int) := by omega
  have x1 : (x : Int) < 65536 := by omega
  generalize (x : Int) = X at *
  generalize (L : Int) = Z at *
  clear hx
  go_enter Try.func58, Try.ntmps58
  go_wp2_with fail
  refine (H.out _).mono ?_
  rintro e wz ⟨rfl, rfl⟩
  go_wp2
  go_ret
  exact ⟨rfl, rfl⟩
end Go.Proofs.Ytedcficjmogohaa

/- Words for the walks over package coder. -/
namespace Go.Proofs.Ytedcficjmogohaa
set_option linter.unusedVariables false
set_option linter.unusedSimpArgs false
set_option maxRecDepth 100000
open Go.RowKit

theorem info5 : (Try.prog.info? 5).map (fun i => (i.zero, i.size, i.bytes)) = some (some (.int .u8 0), 1, 1) := by kernel_rfl

/-- What a call leaves: its value, what is owned behind it, and all below B as it was. -/
theorem Ret.le {B : Nat} {w : World} {v : Value} {A : HP} {e : Ending} {w' : World} (h : Ret B w v A e w') (hB : B ≤ w.heap.size) : B ≤ w'.heap.size := Nat.le_trans hB h.2.2.size

/-- A writer's state. -/
structure WS where
  out : List Int
  low : Int
  width : Int
  wait : Int
  full : Int
  sm : Bool
  dn : Bool

def bytesV (l : List Int) : List Value := l.map (.int .u8)
def wsCells (v : Value) (s : WS) : Array Value := #[v, .int .u64 s.low, .int .u64 s.width, .int .u8 s.wait, .int .i64 s.full, .bool s.sm, .bool s.dn]
def WrV (p : Nat) (v : Value) (s : WS) : HP := Bk p 101 (wsCells v s) * Rw 5 1 v s.out.length (bytesV s.out)
def Wr (p : Nat) (s : WS) : HP := Hex fun v => WrV p v s
instance {B p : Nat} {s : WS} : Loc B (Wr p s) := inferInstanceAs (Loc B (Hex fun v => Bk p _ _ * Rw _ _ _ _ _))

/-- append of one byte, into the writer's bytes. -/
theorem bytes_append {B : Nat} {R : HP} [Loc B R] {w : World} (hB : B ≤ w.heap.size) {v : Value} {l : List Int} (h : Own B (Rw 5 1 v l.length (bytesV l) * R) w) (b : Int) (hl : l.length + 1 ≤ 140737488355328) :
    ∃ g cap w', (Builtin.append_ #[22, 22] 22 #[v, .slice (some ⟨w.heap.size, 0, none⟩) 1 1]).run Try.prog (w.alloc (.cells #[.int .u8 b] 5)) = .ok (.slice (some ⟨g, 0, none⟩) (l.length + 1) cap) w' ∧
      Own B (Rw 5 1 (.slice (some ⟨g, 0, none⟩) (l.length + 1) cap) (l ++ [b]).length (bytesV (l ++ [b])) * R) w' ∧ Below B w w' := by
  obtain ⟨i0, hi, hz0, hz1, hz2⟩ := info_parts info5
  have h1 := h.alloc_keep hB (.cells #[.int .u8 b] 5)
  have hB1 : B ≤ (w.alloc (.cells #[.int .u8 b] 5)).heap.size := by simp; omega
  obtain ⟨v', w', hr, h2, h3, _, h5⟩ := run_append_own_at (P := Try.prog) (w.alloc (.cells #[.int .u8 b] 5)) B 22 22 5 i0 _ 1 1 Try.underlying22 hi hz0 hz1 hz2 rfl (by omega) v l.length (bytesV l) h1.row
    ⟨w.heap.size, 0, none⟩ 1 1 [.int .u8 b] rfl (by
      intro j u hj
      match j, hj with
      | 0, hj => simp at hj; subst hj; simp [Addr.add]) (by intro u hu; simp at hu; subst hu; rfl) (by unfold maxLen; omega) (by omega) hB1
  have h6 := Own.appended hB1 h1 h2 h3 h5
  obtain ⟨g, cap, rfl, _⟩ := h2.form (by omega)
  refine ⟨g, cap, w', hr, ?_, ((Below.refl B w).alloc hB _).trans h6.2⟩
  have := h6.1
  simpa [bytesV] using this

/-- append of one byte to an owned row of bytes. -/
theorem wpList_append_byte {ops : Array Oper} {Q : Exit → Act → World → Prop} {rest : List Oper} {o : Oper} {a : Act} {B : Nat} {R : HP} [Loc B R] {w : World} {v : Value} {l : List Int} {b : Int} (hgd : o.guard = none) (s x : Operand)
    (ho : o.op = .call { callee := .builtin .append, args := #[s, x], argTypes := #[22, 22] }) (hty : o.type = 22) (hs : a.eval s = v) (hx : a.eval x = .slice (some ⟨w.heap.size, 0, none⟩) 1 1)
    (hB : B ≤ w.heap.size) (h : Own B (Rw 5 1 v l.length (bytesV l) * R) w) (hl : l.length + 1 ≤ 140737488355328)
    (K : ∀ g cap w', Own B (Rw 5 1 (.slice (some ⟨g, 0, none⟩) (l.length + 1) cap) (l ++ [b]).length (bytesV (l ++ [b])) * R) w' → Below B w w' → wpList Try.prog ops Q rest (a.put o.dst (.slice (some ⟨g, 0, none⟩) (l.length + 1) cap)) w') : wpList Try.prog ops Q (o :: rest) a (w.alloc (.cells #[.int .u8 b] 5)) := by
  obtain ⟨g, cap, w', hr, h1, h2⟩ := bytes_append hB h b hl
  exact wpList_append_run hgd s x 22 ho hs hx (by rw [hty]; exact hr) (K g cap w' h1 h2)

/-- 'append(x, b)' of one byte: the byte in an array of its own, and the append. -/
theorem wpList_append1 {ops : Array Oper} {Q : Exit → Act → World → Prop} {rest : List Oper} {o1 o2 : Oper} {a : Act} {B : Nat} {R : HP} [Loc B R] {w : World} {v : Value} {l : List Int} {b : Int} (hg1 : o1.guard = none) (hg2 : o2.guard = none) (k s : Operand) (d : Nat)
    (ho1 : o1.op = .buildSlice 22 1 #[(0, k)]) (hd : o1.dst = some d) (ho2 : o2.op = .call { callee := .builtin .append, args := #[s, .tmp d], argTypes := #[22, 22] }) (hty : o2.type = 22)
    (hk : a.eval k = .int .u8 b) (hd2 : d < a.tmps.size) (hs : (a.put (some d) (.slice (some ⟨w.heap.size, 0, none⟩) 1 1)).eval s = v)
    (hB : B ≤ w.heap.size) (h : Own B (Rw 5 1 v l.length (bytesV l) * R) w) (hl : l.length + 1 ≤ 140737488355328)
    (K : ∀ g cap w', Own B (Rw 5 1 (.slice (some ⟨g, 0, none⟩) (l.length + 1) cap) (l ++ [b]).length (bytesV (l ++ [b])) * R) w' → Below B w w' → wpList Try.prog ops Q rest ((a.put (some d) (.slice (some ⟨w.heap.size, 0, none⟩) 1 1)).put o2.dst (.slice (some ⟨g, 0, none⟩) (l.length + 1) cap)) w') : wpList Try.prog ops Q (o1 :: o2 :: rest) a w := by
  refine wpList_plain hg1 fun K1 hK1 => ?_
  have hrun : (execOp a.eval o1).run Try.prog w = .ok (.value (.slice (some ⟨w.heap.size, 0, none⟩) 1 1)) (w.alloc (.cells #[.int .u8 b] 5)) := by
    unfold execOp
    simp only [ho1, List.map_toArray, List.map_cons, List.map_nil, hk]
    go_simp
  unfold Oper.wp
  rw [hrun]
  show K1 _ _
  refine hK1 _ _ ?_
  rw [hd]
  exact wpList_append_byte hg2 s (.tmp d) ho2 hty hs (by simp [Act.eval, Act.put, hd2]) hB h hl K

theorem and_mask32 (x : Int) (h0 : 0 ≤ x) (h1 : x < 18446744073709551616) : bits .and .u64 x 4294967295 = x % 4294967296 := by
  rw [u64_and x 4294967295 h0 h1 (by omega) (by omega)]
  have := Nat.and_two_pow_sub_one_eq_mod x.toNat 32
  simp only [Nat.reducePow, Nat.reduceSub] at this
  show ((x.toNat &&& 4294967295 : Nat) : Int) = _
  rw [this]
  omega

def carryOf (s : WS) : Int := s.low / 4294967296
def shiftS (s : WS) : WS :=
  if s.low < 4278190080 ∨ 4294967295 < s.low then
    { s with out := (if s.sm then s.out ++ [(s.wait + carryOf s) % 256] else s.out) ++ List.replicate s.full.toNat ((255 + carryOf s) % 256), wait := (s.low / 16777216) % 256, sm := true, full := 0, low := (s.low * 256) % 4294967296 }
  else { s with full := s.full + 1, low := (s.low * 256) % 4294967296 }

/-- The numbers of a writer's state lie where they must. -/
structure WS.ok (s : WS) : Prop where
  low0 : 0 ≤ s.low
  low1 : s.low < 8589934592
  width0 : 0 ≤ s.width
  width1 : s.width < 4294967296
  wait0 : 0 ≤ s.wait
  wait1 : s.wait ≤ 255
  full0 : 0 ≤ s.full
  size : (s.out.length : Int) + s.full ≤ 1099511627776
end Go.Proofs.Ytedcficjmogohaa

/- The walks over the writer of package coder. -/
namespace Go.Proofs.Ytedcficjmogohaa
set_option linter.unusedVariables false
set_option linter.unusedSimpArgs false
set_option maxRecDepth 100000
open Go.RowKit

theorem shift_else (p : Nat) (s : WS) (B : Nat) (R : HP) [Loc B R] (w : World) (hB : B ≤ w.heap.size) (hok : s.ok) (hO : Own B (Wr p s * R) w) (h1 : 4278190080 ≤ s.low) (h2 : s.low ≤ 4294967295) :
    Calls Try.prog 60 #[.pointer (some ⟨p, 0, none⟩)] w (Ret B w (.tuple #[]) (Wr p { s with full := s.full + 1, low := (s.low * 256) % 4294967296 } * R)) := by
  obtain ⟨l0, l1, w0, w1, t0, t1, f0, sz⟩ := hok
  obtain ⟨v, hO⟩ := hO.hex
  have hO := hO.assoc
  have c1 : w.cell? ⟨p, 1, none⟩ = some (.int .u64 s.low) := hO.cell 1
  have c4 : w.cell? ⟨p, 4, none⟩ = some (.int .i64 s.full) := hO.cell 4
  have z1 := hO.unfrozen 1
  have z4 := hO.unfrozen 4
  go_enter Try.func60, Try.ntmps60
  go_wp2
  go_end0
  have hb : bits BinOp.and IntKind.u64 (s.low * 256) 4294967295 = (s.low * 256) % 4294967296 := and_mask32 _ (by omega) (by omega)
  rw [hb]
  have h3 := hO.set hB 4 (.int .i64 (s.full + 1))
  have h4 := h3.set (by simpa [World.setCell] using hB) 1 (.int .u64 ((s.low * 256) % 4294967296))
  exact ⟨rfl, (h4.assoc').to_hex (A := fun v => WrV p v _) v, (hO.below_set 4 _).trans (h3.below_set 1 _)⟩

end Go.Proofs.Ytedcficjmogohaa

/- The walks over the writer of package coder: shift, told. -/
namespace Go.Proofs.Ytedcficjmogohaa
set_option linter.unusedVariables false
set_option linter.unusedSimpArgs false
set_option maxRecDepth 100000
open Go.RowKit

set_option maxHeartbeats 1600000 in
theorem shift_flush (p : Nat) (s : WS) (B : Nat) (R : HP) [Loc B R] (w : World) (hB : B ≤ w.heap.size) (hok : s.ok) (hO : Own B (Wr p s * R) w) (hb : s.sm = true) (h1 : s.low < 4278190080 ∨ 4294967295 < s.low) :
    Calls Try.prog 60 #[.pointer (some ⟨p, 0, none⟩)] w (Ret B w (.tuple #[]) (Wr p { s with out := s.out ++ [(s.wait + carryOf s) % 256] ++ List.replicate s.full.toNat ((255 + carryOf s) % 256), wait := (s.low / 16777216) % 256, full := 0, low := (s.low * 256) % 4294967296 } * R)) := by
  obtain ⟨out, low, width, wait, full, sm, dn⟩ := s
  obtain ⟨l0, l1, w0, w1, t0, t1, f0, sz⟩ := hok
  simp only at l0 l1 w0 w1 t0 t1 f0 sz hb h1
  subst hb
  obtain ⟨v, hO⟩ := hO.hex
  have hO := hO.assoc
  have c1 : w.cell? ⟨p, 1, none⟩ = some (.int .u64 low) := hO.cell 1
  have c5 : w.cell? ⟨p, 5, none⟩ = some (.bool true) := hO.cell 5
  go_enter Try.func60, Try.ntmps60
  rcases h1 with h1 | h1
  all_goals
    go_wp2
    refine wp_region_lmix (St B (Bk p 101 (wsCells v ⟨out, low, width, wait, full, true, dn⟩) * (Rw 5 1 v out.length (bytesV out) * R)) w) [0] [1, 2, 3, 4, 5, 6, 7, 8, 9, 10] [] [11] [12, 13, 14, 15] mixed (by kernel_rfl) rfl (fun _ _ _ _ _ h => h) (St.drew hB hO) ?_
    simp only [List.filterMap_cons, List.filterMap_nil, List.getElem?_toArray, List.getElem?_cons_succ, List.getElem?_cons_zero]
    repeat (
      refine free_val ?_ rfl (fun w1 => ?_) ?_
      rotate_left
      · (go_simp
         try go_bits
         rfl)
      simp only [Act.put, List.setIfInBounds_toArray, List.set_cons_zero, List.set_cons_succ])
    refine free_nil ?_
    repeat (first
      | (refine late_val ?_ rfl (fun w1 hS => ?_) ?_
         rotate_left
         · (have c0 : w1.cell? ⟨p, 0, none⟩ = some v := hS.2.1.cell 0; have c3 : w1.cell? ⟨p, 3, none⟩ = some (.int .u8 wait) := hS.2.1.cell 3
            go_simp
            try go_bits
            rfl)
         simp only [Act.put, List.setIfInBounds_toArray, List.set_cons_zero, List.set_cons_succ])
      | (refine late_off rfl ?_
         simp only [Act.put, List.setIfInBounds_toArray, List.set_cons_zero, List.set_cons_succ]))
    refine late_nil ?_
    refine held_nil (fun w1 hS => ?_)
    refine kept_val ?_ rfl (w1 := ?_) ?_ ?_ ?_
    rotate_left 2
    · (go_simp
       try go_bits
       first | (constructor <;> rfl) | rfl)
    · exact hS.alloc _
    simp only [Act.put, List.setIfInBounds_toArray, List.set_cons_zero, List.set_cons_succ]
    refine kept_nil ?_
    obtain ⟨k2, k3, k4⟩ := hS
    refine wpList_append_byte rfl (.tmp 29) (.tmp 36) rfl rfl rfl rfl k2 (k3.cast (sep_left_comm _ _ _)) (by omega) ?_
    intro g2 cap2 w2 o2 b2
    have o2 := o2.cast (sep_left_comm _ _ _)
    have B2 : B ≤ w2.heap.size := Nat.le_trans k2 b2.size
    have c0 : w2.cell? ⟨p, 0, none⟩ = some v := o2.cell 0
    have z0 := o2.unfrozen 0
    simp only [Act.put, List.setIfInBounds_toArray, List.set_cons_zero, List.set_cons_succ]
    have o3 := o2.set B2 0 (.slice (some ⟨g2, 0, none⟩) (out.length + 1) cap2)
    have b3 := o2.below_set 0 (.slice (some ⟨g2, 0, none⟩) (out.length + 1) cap2)
    go_wp2
    clear c1 c5 c0 z0 hO k3
    go_loopg [] full.toNat (fun k wr => ∃ (v3 : Value) (l : List Int), k ≤ full.toNat ∧ l = out ++ [(wait + low / 4294967296) % 256] ++ List.replicate (full.toNat - k) ((255 + low / 4294967296) % 256) ∧
      Own B (Bk p 101 (wsCells v3 ⟨l, low, width, wait, k, true, dn⟩) * (Rw 5 1 v3 l.length (bytesV l) * R)) wr ∧ Below B w wr)
    case atStart =>
      refine ⟨.slice (some ⟨g2, 0, none⟩) (out.length + 1) cap2, _, Nat.le_refl _, rfl, ?_, (k4.trans b2).trans b3⟩
      rw [Nat.sub_self, List.replicate_zero, List.append_nil]
      first | (rw [show (wait + low / 4294967296) % 256 = wait + low / 4294967296 by omega]; simpa [wsCells, show (full.toNat : Int) = full by omega] using o3) | simpa [wsCells, show (full.toNat : Int) = full by omega] using o3
    case round =>
      obtain ⟨v3, l, hk, hl, ho, hbb⟩ := hrel
      have Hl := Lib.hid hl
      clear hl
      have Bw : B ≤ wr.heap.size := Nat.le_trans hB hbb.size
      have hlen : l.length + 1 ≤ 140737488355328 := by rw [Hl.out]; simp; omega
      have c0 : wr.cell? ⟨p, 0, none⟩ = some v3 := ho.cell 0
      have c4 : wr.cell? ⟨p, 4, none⟩ = some (.int .i64 (gk : Int)) := ho.cell 4
      have z0 := ho.unfrozen 0
      have z4 := ho.unfrozen 4
      by_cases hk0 : gk = 0
      · subst hk0
        have c1 : wr.cell? ⟨p, 1, none⟩ = some (.int .u64 low) := ho.cell 1
        have c3 : wr.cell? ⟨p, 3, none⟩ = some (.int .u8 wait) := ho.cell 3
        have c5 : wr.cell? ⟨p, 5, none⟩ = some (.bool true) := ho.cell 5
        have z1 := ho.unfrozen 1
        have z3 := ho.unfrozen 3
        have z5 := ho.unfrozen 5
        go_wp2
        go_end0
        have hb : bits BinOp.and IntKind.u64 (low * 256) 4294967295 = (low * 256) % 4294967296 := and_mask32 _ (by omega) (by omega)
        rw [hb]
        have fin : ∀ x : Int, x = (low / 16777216) % 256 → Ret B w (.tuple #[]) (Wr p ⟨l, (low * 256) % 4294967296, width, (low / 16777216) % 256, 0, true, dn⟩ * R) (.returned (.tuple #[]))
            (((wr.setCell ⟨p, 3, none⟩ (.int .u8 x)).setCell ⟨p, 5, none⟩ (.bool true)).setCell ⟨p, 1, none⟩ (.int .u64 ((low * 256) % 4294967296))) := by
          rintro x rfl
          have e3 := ho.set Bw 3 (.int .u8 ((low / 16777216) % 256))
          have e5 := e3.set (by simpa [World.setCell] using Bw) 5 (.bool true)
          have e1 := e5.set (by simpa [World.setCell] using Bw) 1 (.int .u64 ((low * 256) % 4294967296))
          exact ⟨rfl, (e1.assoc').to_hex (A := fun v => WrV p v ⟨l, (low * 256) % 4294967296, width, (low / 16777216) % 256, 0, true, dn⟩) v3, ((hbb.trans (ho.below_set 3 _)).trans (e3.below_set 5 _)).trans (e5.below_set 1 _)⟩
        have hl := Hl.out
        rw [Nat.sub_zero] at hl
        simp only [carryOf]
        rw [← hl]
        exact fin _ (by omega)
      · have hkp : 0 < (gk : Int) := by omega
        go_wp2_with (refine wpList_append1 rfl rfl (.tmp 58) (.tmp 56) 59 rfl rfl rfl rfl rfl (Nat.le_of_ble_eq_true rfl) rfl Bw (ho.cast (sep_left_comm _ _ _)) hlen ?_; intro g4 cap4 w4 o4 b4; (have o4 := o4.cast (sep_left_comm _ _ _)); (have B4 : B ≤ w4.heap.size := Nat.le_trans Bw b4.size); (have c0 : w4.cell? ⟨p, 0, none⟩ = some v3 := o4.cell 0); (have z0 := o4.unfrozen 0); (have c4 : w4.cell? ⟨p, 4, none⟩ = some (.int .i64 (gk : Int)) := o4.cell 4); (have z4 := o4.unfrozen 4); simp only [Act.put, List.setIfInBounds_toArray, List.set_cons_zero, List.set_cons_succ])
        go_roundg (gk - 1)
        case measure => omega
        case rel =>
          have e0 := o4.set B4 0 (.slice (some ⟨g4, 0, none⟩) (l.length + 1) cap4)
          have e4 := e0.set (by simpa [World.setCell] using B4) 4 (.int .i64 ((gk : Int) - 1))
          refine ⟨.slice (some ⟨g4, 0, none⟩) (l.length + 1) cap4, l ++ [(255 + low / 4294967296) % 256], by omega, ?_, ?_, ((hbb.trans b4).trans (o4.below_set 0 _)).trans (e0.below_set 4 _)⟩
          · rw [Hl.out, show full.toNat - (gk - 1) = (full.toNat - gk) + 1 by omega, List.replicate_succ', List.append_assoc _ (List.replicate _ _)]
          · first
            | (rw [show (255 + low / 4294967296) % 256 = 255 + low / 4294967296 by omega]; simpa [wsCells, show ((gk - 1 : Nat) : Int) = (gk : Int) - 1 by omega] using e4)
            | simpa [wsCells, show ((gk - 1 : Nat) : Int) = (gk : Int) - 1 by omega] using e4
end Go.Proofs.Ytedcficjmogohaa

/- The walks over the writer of package coder: shift, told. -/
namespace Go.Proofs.Ytedcficjmogohaa
set_option linter.unusedVariables false
set_option linter.unusedSimpArgs false
set_option maxRecDepth 100000
open Go.RowKit

set_option maxHeartbeats 1600000 in
theorem shift_none (p : Nat) (s : WS) (B : Nat) (R : HP) [Loc B R] (w : World) (hB : B ≤ w.heap.size) (hok : s.ok) (hO : Own B (Wr p s * R) w) (hb : s.sm = false) (h1 : s.low < 4278190080 ∨ 4294967295 < s.low) :
    Calls Try.prog 60 #[.pointer (some ⟨p, 0, none⟩)] w (Ret B w (.tuple #[]) (Wr p { s with out := s.out ++ List.replicate s.full.toNat ((255 + carryOf s) % 256), wait := (s.low / 16777216) % 256, sm := true, full := 0, low := (s.low * 256) % 4294967296 } * R)) := by
  obtain ⟨out, low, width, wait, full, sm, dn⟩ := s
  obtain ⟨l0, l1, w0, w1, t0, t1, f0, sz⟩ := hok
  simp only at l0 l1 w0 w1 t0 t1 f0 sz hb h1
  subst hb
  obtain ⟨v, hO⟩ := hO.hex
  have hO := hO.assoc
  have c1 : w.cell? ⟨p, 1, none⟩ = some (.int .u64 low) := hO.cell 1
  have c5 : w.cell? ⟨p, 5, none⟩ = some (.bool false) := hO.cell 5
  go_enter Try.func60, Try.ntmps60
  rcases h1 with h1 | h1
  all_goals
    go_wp2
    clear c1 c5
    go_loopg [] full.toNat (fun k wr => ∃ (v3 : Value) (l : List Int), k ≤ full.toNat ∧ l = out ++ List.replicate (full.toNat - k) ((255 + low / 4294967296) % 256) ∧
      Own B (Bk p 101 (wsCells v3 ⟨l, low, width, wait, k, false, dn⟩) * (Rw 5 1 v3 l.length (bytesV l) * R)) wr ∧ Below B w wr)
    case atStart =>
      refine ⟨v, _, Nat.le_refl _, rfl, ?_, Below.refl _ _⟩
      rw [Nat.sub_self, List.replicate_zero, List.append_nil]
      simpa [wsCells, show (full.toNat : Int) = full by omega] using hO
    case round =>
      obtain ⟨v3, l, hk, hl, ho, hbb⟩ := hrel
      have Hl := Lib.hid hl
      clear hl
      have Bw : B ≤ wr.heap.size := Nat.le_trans hB hbb.size
      have hlen : l.length + 1 ≤ 140737488355328 := by rw [Hl.out]; simp; omega
      have c0 : wr.cell? ⟨p, 0, none⟩ = some v3 := ho.cell 0
      have c4 : wr.cell? ⟨p, 4, none⟩ = some (.int .i64 (gk : Int)) := ho.cell 4
      have z0 := ho.unfrozen 0
      have z4 := ho.unfrozen 4
      by_cases hk0 : gk = 0
      · subst hk0
        have c1 : wr.cell? ⟨p, 1, none⟩ = some (.int .u64 low) := ho.cell 1
        have c3 : wr.cell? ⟨p, 3, none⟩ = some (.int .u8 wait) := ho.cell 3
        have c5 : wr.cell? ⟨p, 5, none⟩ = some (.bool false) := ho.cell 5
        have z1 := ho.unfrozen 1
        have z3 := ho.unfrozen 3
        have z5 := ho.unfrozen 5
        go_wp2
        go_end0
        have hb : bits BinOp.and IntKind.u64 (low * 256) 4294967295 = (low * 256) % 4294967296 := and_mask32 _ (by omega) (by omega)
        rw [hb]
        have fin : ∀ x : Int, x = (low / 16777216) % 256 → Ret B w (.tuple #[]) (Wr p ⟨l, (low * 256) % 4294967296, width, (low / 16777216) % 256, 0, true, dn⟩ * R) (.returned (.tuple #[]))
            (((wr.setCell ⟨p, 3, none⟩ (.int .u8 x)).setCell ⟨p, 5, none⟩ (.bool true)).setCell ⟨p, 1, none⟩ (.int .u64 ((low * 256) % 4294967296))) := by
          rintro x rfl
          have e3 := ho.set Bw 3 (.int .u8 ((low / 16777216) % 256))
          have e5 := e3.set (by simpa [World.setCell] using Bw) 5 (.bool true)
          have e1 := e5.set (by simpa [World.setCell] using Bw) 1 (.int .u64 ((low * 256) % 4294967296))
          exact ⟨rfl, (e1.assoc').to_hex (A := fun v => WrV p v ⟨l, (low * 256) % 4294967296, width, (low / 16777216) % 256, 0, true, dn⟩) v3, ((hbb.trans (ho.below_set 3 _)).trans (e3.below_set 5 _)).trans (e5.below_set 1 _)⟩
        have hl := Hl.out
        rw [Nat.sub_zero] at hl
        simp only [carryOf]
        rw [← hl]
        exact fin _ (by omega)
      · have hkp : 0 < (gk : Int) := by omega
        go_wp2_with (refine wpList_append1 rfl rfl (.tmp 58) (.tmp 56) 59 rfl rfl rfl rfl rfl (Nat.le_of_ble_eq_true rfl) rfl Bw (ho.cast (sep_left_comm _ _ _)) hlen ?_; intro g4 cap4 w4 o4 b4; (have o4 := o4.cast (sep_left_comm _ _ _)); (have B4 : B ≤ w4.heap.size := Nat.le_trans Bw b4.size); (have c0 : w4.cell? ⟨p, 0, none⟩ = some v3 := o4.cell 0); (have z0 := o4.unfrozen 0); (have c4 : w4.cell? ⟨p, 4, none⟩ = some (.int .i64 (gk : Int)) := o4.cell 4); (have z4 := o4.unfrozen 4); simp only [Act.put, List.setIfInBounds_toArray, List.set_cons_zero, List.set_cons_succ])
        go_roundg (gk - 1)
        case measure => omega
        case rel =>
          have e0 := o4.set B4 0 (.slice (some ⟨g4, 0, none⟩) (l.length + 1) cap4)
          have e4 := e0.set (by simpa [World.setCell] using B4) 4 (.int .i64 ((gk : Int) - 1))
          refine ⟨.slice (some ⟨g4, 0, none⟩) (l.length + 1) cap4, l ++ [(255 + low / 4294967296) % 256], by omega, ?_, ?_, ((hbb.trans b4).trans (o4.below_set 0 _)).trans (e0.below_set 4 _)⟩
          · rw [Hl.out, show full.toNat - (gk - 1) = (full.toNat - gk) + 1 by omega, List.replicate_succ', List.append_assoc]
          · first
            | (rw [show (255 + low / 4294967296) % 256 = 255 + low / 4294967296 by omega]; simpa [wsCells, show ((gk - 1 : Nat) : Int) = (gk : Int) - 1 by omega] using e4)
            | simpa [wsCells, show ((gk - 1 : Nat) : Int) = (gk : Int) - 1 by omega] using e4
end Go.Proofs.Ytedcficjmogohaa

/- The walks over the writer of package coder: shift whole, put. -/
namespace Go.Proofs.Ytedcficjmogohaa
set_option linter.unusedVariables false
set_option linter.unusedSimpArgs false
set_option maxRecDepth 100000
open Go.RowKit

theorem shift_any (p : Nat) (s : WS) (B : Nat) (R : HP) [Loc B R] (w : World) (hB : B ≤ w.heap.size) (hok : s.ok) (hO : Own B (Wr p s * R) w) :
    Calls Try.prog 60 #[.pointer (some ⟨p, 0, none⟩)] w (Ret B w (.tuple #[]) (Wr p (shiftS s) * R)) := by
  by_cases h : s.low < 4278190080 ∨ 4294967295 < s.low
  · cases hb : s.sm with
    | true =>
      have := shift_flush p s B R w hB hok hO hb h
      simpa only [shiftS, if_pos h, hb, if_true] using this
    | false =>
      have := shift_none p s B R w hB hok hO hb h
      simpa only [shiftS, if_pos h, hb, Bool.false_eq_true, if_false] using this
  · have := shift_else p s B R w hB hok hO (by omega) (by omega)
    simpa only [shiftS, if_neg h] using this

theorem shiftS_width (s : WS) : (shiftS s).width = s.width := by unfold shiftS; split <;> rfl
theorem shiftS_ok {s : WS} (h : s.ok) (_ : s.low < 8589934592) (hz : (s.out.length : Int) + s.full + 1 ≤ 1099511627776) : (shiftS s).ok := by
  obtain ⟨l0, l1, w0, w1, t0, t1, f0, sz⟩ := h
  unfold shiftS
  split
  · refine ⟨by show 0 ≤ (s.low * 256) % 4294967296; omega, by show (s.low * 256) % 4294967296 < _; omega, w0, w1, by show 0 ≤ (s.low / 16777216) % 256; omega, by show (s.low / 16777216) % 256 ≤ 255; omega, by show (0 : Int) ≤ 0; omega, ?_⟩
    show ((((if s.sm then s.out ++ [(s.wait + carryOf s) % 256] else s.out) ++ List.replicate s.full.toNat ((255 + carryOf s) % 256)).length : Nat) : Int) + 0 ≤ _
    rw [List.length_append, List.length_replicate]
    split <;> simp <;> omega
  · exact ⟨by show 0 ≤ (s.low * 256) % 4294967296; omega, by show (s.low * 256) % 4294967296 < _; omega, w0, w1, t0, t1, by show 0 ≤ s.full + 1; omega, by show (s.out.length : Int) + (s.full + 1) ≤ _; omega⟩

def put1 (s : WS) (bound bit : Int) : WS := if bit = 0 then { s with width := bound } else { s with low := s.low + bound, width := s.width - bound }
def renorm (s : WS) : WS := if s.width < 16777216 then shiftS { s with width := s.width * 256 } else s
def putS (s : WS) (bound bit : Int) : WS := renorm (put1 s bound bit)

set_option maxHeartbeats 800000 in
theorem put_any (p : Nat) (s : WS) (bound bit : Int) (B : Nat) (R : HP) [Loc B R] (w : World) (hB : B ≤ w.heap.size) (hok : s.ok) (hO : Own B (Wr p s * R) w)
    (b0 : 65536 ≤ bound) (b1 : bound + 65536 ≤ s.width) (b2 : s.low + s.width < 8589934592) (b3 : (s.out.length : Int) + s.full + 1 ≤ 1099511627776) :
    Calls Try.prog 70 #[.pointer (some ⟨p, 0, none⟩), .int .u64 bound, .int .i64 bit] w (Ret B w (.tuple #[]) (Wr p (putS s bound bit) * R)) := by
  have hsh : ∀ (s' : WS) (wr : World), B ≤ wr.heap.size → s'.ok → Own B (Wr p s' * R) wr → Calls Try.prog 60 #[.pointer (some ⟨p, 0, none⟩)] wr (Ret B wr (.tuple #[]) (Wr p (shiftS s') * R)) := fun s' wr h1 h2 h3 => shift_any p s' B R wr h1 h2 h3
  have hokp : (put1 s bound bit).ok ∧ 65536 ≤ (put1 s bound bit).width ∧ (put1 s bound bit).low + (put1 s bound bit).width < 8589934592 ∧ (put1 s bound bit).out = s.out ∧ (put1 s bound bit).full = s.full := by
    obtain ⟨l0, l1, w0, w1, t0, t1, f0, sz⟩ := hok
    unfold put1
    by_cases h : bit = 0
    · rw [if_pos h]; exact ⟨⟨l0, l1, by show 0 ≤ bound; omega, by show bound < _; omega, t0, t1, f0, sz⟩, b0, by show s.low + bound < _; omega, rfl, rfl⟩
    · rw [if_neg h]; exact ⟨⟨by show 0 ≤ s.low + bound; omega, by show s.low + bound < _; omega, by show 0 ≤ s.width - bound; omega, by show s.width - bound < _; omega, t0, t1, f0, sz⟩, by show 65536 ≤ s.width - bound; omega, by show s.low + bound + (s.width - bound) < _; omega, rfl, rfl⟩
  obtain ⟨l0, l1, w0, w1, t0, t1, f0, sz⟩ := hok
  obtain ⟨v, hO⟩ := hO.hex
  have hO := hO.assoc
  have c1 : w.cell? ⟨p, 1, none⟩ = some (.int .u64 s.low) := hO.cell 1
  have c2 : w.cell? ⟨p, 2, none⟩ = some (.int .u64 s.width) := hO.cell 2
  have z1 := hO.unfrozen 1
  have z2 := hO.unfrozen 2
  have Hp := Lib.hid hokp
  have Hs := Lib.hid hsh
  clear hokp hsh
  go_enter Try.func70, Try.ntmps70
  have hst0 := hO.set hB 2 (.int .u64 bound)
  have hst1 := hO.set hB 1 (.int .u64 (s.low + bound))
  have hst2 := hst1.set (by simpa [World.setCell] using hB) 2 (.int .u64 (s.width - bound))
  have hbe0 := hO.below_set 2 (.int .u64 bound)
  have hbe1 := hO.below_set 1 (.int .u64 (s.low + bound))
  have hbe2 := hst1.below_set 2 (.int .u64 (s.width - bound))
  have Hput := Lib.hid (show bit = 0 ∨ ¬ bit = 0 by omega)
  by_cases hb : bit = 0
  · subst hb
    go_wp2
    clear c1 c2 z1 z2
    go_loopg [] 1 (fun k wr => ∃ s' : WS, Own B (Wr p s' * R) wr ∧ Below B w wr ∧ s'.ok ∧ Hid ((k = 1 ∧ s' = put1 s bound 0) ∨ (k = 0 ∧ s' = putS s bound 0 ∧ 16777216 ≤ s'.width)))
    case atStart => exact ⟨_, ((hst0.assoc').to_hex (A := fun v => WrV p v (put1 s bound 0)) v), hbe0, Hp.out.1, .inl ⟨rfl, rfl⟩⟩
    case round =>
      obtain ⟨s', ho, hbb, ok', hk⟩ := hrel
      have Bw : B ≤ wr.heap.size := Nat.le_trans hB hbb.size
      obtain ⟨v', hV⟩ := ho.hex
      have hV := hV.assoc
      have c2 : wr.cell? ⟨p, 2, none⟩ = some (.int .u64 s'.width) := hV.cell 2
      have z2 := hV.unfrozen 2
      obtain ⟨m0, m1, x0, x1, y0, y1, g0, gz⟩ := ok'
      by_cases hlt : s'.width < 16777216
      · have e2 := hV.set Bw 2 (.int .u64 (s'.width * 256))
        have f2 := hV.below_set 2 (.int .u64 (s'.width * 256))
        have h6 := (e2.assoc').to_hex (A := fun v => WrV p v { s' with width := s'.width * 256 }) v'
        have okn : WS.ok { s' with width := s'.width * 256 } := ⟨m0, m1, by show 0 ≤ s'.width * 256; omega, by show s'.width * 256 < _; omega, y0, y1, g0, gz⟩
        have hsz : B ≤ (wr.setCell ⟨p, 2, none⟩ (.int .u64 (s'.width * 256))).heap.size := by simpa [World.setCell] using Bw
        go_wp2_with (go_at_call 60; refine (Hs.out _ _ hsz okn h6).mono ?_; rintro e w2 ⟨rfl, o2, b2⟩)
        have hk := hk.out
        rcases hk with ⟨rfl, rfl⟩ | ⟨rfl, rfl, hw⟩
        · go_roundg 0
          case measure => omega
          case rel => exact ⟨_, o2, (hbb.trans f2).trans b2, shiftS_ok okn (by have := Hp.out.2.2.1; show (put1 s bound 0).low < 8589934592; omega) (by have := Hp.out.2.2.2; show ((put1 s bound 0).out.length : Int) + (put1 s bound 0).full + 1 ≤ _; rw [this.1, this.2]; exact b3), .inr ⟨rfl, by rw [putS, renorm, if_pos (by omega)], by rw [shiftS_width]; have := Hp.out.2.1; show 16777216 ≤ (put1 s bound 0).width * 256; omega⟩⟩
        · omega
      · go_wp2
        go_end0
        have hk := hk.out
        rcases hk with ⟨rfl, rfl⟩ | ⟨rfl, rfl, hw⟩
        · exact ⟨rfl, by rw [putS, renorm, if_neg (by omega)]; exact ho, hbb⟩
        · exact ⟨rfl, ho, hbb⟩
  · have hbb0 : (bit == 0) = false := by simpa using hb
    go_wp2
    clear c1 c2 z1 z2
    go_loopg [] 1 (fun k wr => ∃ s' : WS, Own B (Wr p s' * R) wr ∧ Below B w wr ∧ s'.ok ∧ Hid ((k = 1 ∧ s' = put1 s bound bit) ∨ (k = 0 ∧ s' = putS s bound bit ∧ 16777216 ≤ s'.width)))
    case atStart => exact ⟨_, ((hst2.assoc').to_hex (A := fun v => WrV p v { s with low := s.low + bound, width := s.width - bound }) v).cast (by rw [put1, if_neg hb]; rfl), hbe1.trans hbe2, Hp.out.1, .inl ⟨rfl, rfl⟩⟩
    case round =>
      obtain ⟨s', ho, hbb, ok', hk⟩ := hrel
      have Bw : B ≤ wr.heap.size := Nat.le_trans hB hbb.size
      obtain ⟨v', hV⟩ := ho.hex
      have hV := hV.assoc
      have c2 : wr.cell? ⟨p, 2, none⟩ = some (.int .u64 s'.width) := hV.cell 2
      have z2 := hV.unfrozen 2
      obtain ⟨m0, m1, x0, x1, y0, y1, g0, gz⟩ := ok'
      by_cases hlt : s'.width < 16777216
      · have e2 := hV.set Bw 2 (.int .u64 (s'.width * 256))
        have f2 := hV.below_set 2 (.int .u64 (s'.width * 256))
        have h6 := (e2.assoc').to_hex (A := fun v => WrV p v { s' with width := s'.width * 256 }) v'
        have okn : WS.ok { s' with width := s'.width * 256 } := ⟨m0, m1, by show 0 ≤ s'.width * 256; omega, by show s'.width * 256 < _; omega, y0, y1, g0, gz⟩
        have hsz : B ≤ (wr.setCell ⟨p, 2, none⟩ (.int .u64 (s'.width * 256))).heap.size := by simpa [World.setCell] using Bw
        go_wp2_with (go_at_call 60; refine (Hs.out _ _ hsz okn h6).mono ?_; rintro e w2 ⟨rfl, o2, b2⟩)
        have hk := hk.out
        rcases hk with ⟨rfl, rfl⟩ | ⟨rfl, rfl, hw⟩
        · go_roundg 0
          case measure => omega
          case rel => exact ⟨_, o2, (hbb.trans f2).trans b2, shiftS_ok okn (by have := Hp.out.2.2.1; show (put1 s bound bit).low < 8589934592; omega) (by have := Hp.out.2.2.2; show ((put1 s bound bit).out.length : Int) + (put1 s bound bit).full + 1 ≤ _; rw [this.1, this.2]; exact b3), .inr ⟨rfl, by rw [putS, renorm, if_pos (by omega)], by rw [shiftS_width]; have := Hp.out.2.1; show 16777216 ≤ (put1 s bound bit).width * 256; omega⟩⟩
        · omega
      · go_wp2
        go_end0
        have hk := hk.out
        rcases hk with ⟨rfl, rfl⟩ | ⟨rfl, rfl, hw⟩
        · exact ⟨rfl, by rw [putS, renorm, if_neg (by omega)]; exact ho, hbb⟩
        · exact ⟨rfl, ho, hbb⟩
end Go.Proofs.Ytedcficjmogohaa
