/- The walk over the law CoderRaw. -/
import Derived.Test.YtnoofgcjhoiboaaLr
namespace Go.Proofs.Ytnoofgcjhoiboaa
set_option linter.unusedVariables false
set_option linter.unusedSimpArgs false
open Go.RowKit

set_option maxHeartbeats 3200000 in
set_option maxRecDepth 100000 in
theorem raw_walk (A : Option Addr) (cap : Nat) (l : List Int) (hb : bytesOk l) (m : Nat) (hm : m ≤ 65535) (w : World) (hr : Rd w (.slice A l.length cap) (bytesV l)) (hlm : l.length ≤ 9223372036854775807) :
    Calls Try.prog 7 #[.slice A l.length cap, .int .u16 (m : Int)] w fun e w' => e = .returned (.bool true) ∧ Below w.heap.size w w' := by
  obtain ⟨N, hN, hN1⟩ : ∃ N : Nat, (m : Int) % 500 = (N : Int) ∧ (N : Int) < 500 := ⟨m % 500, by omega, by omega⟩
  have m0 : (0 : Int) ≤ (m : Int) := by omega
  have m1 : (m : Int) ≤ 65535 := by omega
  by_cases hbig : 500 < l.length
  · have hbig' : (500 : Int) < (l.length : Int) := by omega
    go_enter Try.func7, Try.ntmps7
    go_wp2_with (go_at_call 10; refine (awake_any _).mono ?_; rintro e w1 ⟨rfl, b1⟩)
    go_ret
    exact ⟨rfl, b1⟩
  have hsm : (l.length : Int) ≤ 500 := by omega
  have hB : w.heap.size ≤ w.heap.size := Nat.le_refl _
  have hO := Own.start w.heap.size w
  generalize hH : w.heap.size = B at hB hO ⊢
  have hB : B ≤ w.heap.size := by omega
  have HH := Lib.hid hH
  clear hH
  have hopen := open_any (.slice A l.length cap) l hb B Emp w hB hr (by omega) hO
  have Hraw := Lib.hid (openS_raw hb)
  clear hr
  go_enter Try.func7, Try.ntmps7
  go_wp2_with fail
  refine hopen.mono ?_
  clear hopen
  rintro e w1 ⟨p, rfl, o1, b1⟩
  have B1 : B ≤ w1.heap.size := Nat.le_trans hB b1.size
  go_wp2_with fail
  refine (chances_any 16 16 rfl (by omega) B _ w1 B1 o1).mono ?_
  rintro e w2 ⟨g, rfl, o2, b2⟩
  have o2 : Own B (Re p (openS l) * (Bk g 27 (chV (List.replicate 16 0)) * Emp)) w2 := o2.cast (sep_left_comm _ _ _)
  have b2 := b1.trans b2
  clear b1 o1
  have Hc0 : Hid (chOk (List.replicate 16 (0 : Int))) := Lib.hid (by intro n hn; simp at hn; omega)
  go_wp2
  go_loopg [25] N (fun k i wr => k ≤ N ∧ i = .int .i64 ((N : Int) - (k : Int)) ∧ ∃ (s' : RS) (cl : List Int), Own B (Re p s' * (Bk g 27 (chV cl) * Emp)) wr ∧ Below B w wr ∧ Hid (s'.raw l.length) ∧ Hid (chOk cl) ∧ Hid (cl.length = 16))
  case atStart => exact ⟨Nat.le_refl _, congrArg (Value.int .i64) (by omega), _, _, o2, b2, Hraw, Hc0, Lib.hid (by simp)⟩
  case round =>
    obtain ⟨hk, rfl, s', cl, ho, hbb, hl', hc', hn'⟩ := hrel
    have Bw : B ≤ wr.heap.size := Nat.le_trans hB hbb.size
    by_cases hk0 : gk = 0
    · subst hk0
      have hle : (s'.rem.length : Int) ≤ (l.length : Int) - 4 ∨ s'.rem.length = 0 := by have := hl'.out.left; omega
      have hsh : (l.length : Int) < 4 → s'.e = 2 := fun h => hl'.out.short (by omega)
      have her : s'.e = 0 ∨ s'.e = 2 ∧ s'.rem.length = 0 := by
        rcases hl'.out.err with h | ⟨h, h2⟩
        · exact Or.inl h
        · exact Or.inr ⟨h, by rw [h2]; rfl⟩
      generalize he : s'.e = ee at hsh her
      generalize hrl : s'.rem.length = rl at hle her
      have cerr := err_any p s' B _ wr ho
      have clft := left_any p s' B _ wr ho
      rw [he] at cerr
      rw [hrl] at clft
      clear he hrl
      have hrl0 : (0 : Int) ≤ (rl : Int) := by omega
      have key : ((l.length : Int) < 4 ∧ ee = 2 ∧ rl = 0) ∨ (¬ (l.length : Int) < 4 ∧ ee = 0 ∧ (rl : Int) ≤ (l.length : Int) - 4 ∧ (rl : Int) < 500) ∨ (¬ (l.length : Int) < 4 ∧ ee = 2 ∧ rl = 0) := by omega
      clear hle hsh her
      rcases key with ⟨h4, rfl, rfl⟩ | ⟨h4, rfl, h5, h6⟩ | ⟨h4, rfl, rfl⟩
      all_goals
        go_wp2_with (first | (go_at_call 27; refine cerr.mono ?_; rintro e w' ⟨rfl, rfl⟩) | (go_at_call 28; refine clft.mono ?_; rintro e w' ⟨rfl, rfl⟩) | (go_at_call 10; refine (awake_any _).mono ?_; rintro e w1 ⟨rfl, b9⟩))
        go_ret
        exact ⟨rfl, hbb.trans (b9.mono Bw)⟩
    · obtain ⟨j, rfl⟩ : ∃ j, gk = j + 1 := ⟨gk - 1, by omega⟩
      have hb0 := takeBit_01 s' (rBound s' (cl.getD 0 0))
      have hk0 := rBound_in hl'.out.live (chOk_get hc'.out 0)
      have Hr1 := Lib.hid (takeS_raw hl'.out hk0.1 hk0.2)
      have Hc1 := Lib.hid (chOk_set hc'.out 0 _ (sawN_ok _ (takeBit s' (rBound s' (cl.getD 0 0))) (chOk_get hc'.out 0)))
      have hx := rbit_any p g 0 s' cl B Emp wr Bw hl'.out.live hc'.out (by rw [hn'.out]; omega) ho
      have Hn1 : Hid ((cl.set 0 (sawN (cl.getD 0 0) (takeBit s' (rBound s' (cl.getD 0 0))))).length = 16) := Lib.hid (by rw [List.length_set]; exact hn'.out)
      generalize takeBit s' (rBound s' (cl.getD 0 0)) = bt at hb0 hx Hc1 Hn1
      generalize cl.set 0 (sawN (cl.getD 0 0) bt) = cl1 at hx Hc1 Hn1
      generalize takeS s' (rBound s' (cl.getD 0 0)) = s1 at hx Hr1
      clear hk0 ho
      have bt0 : 0 ≤ bt := by omega
      have bt1 : bt ≤ 1 := by omega
      clear hb0
      go_wp2_with fail
      refine hx.mono ?_
      clear hx
      rintro e w3 ⟨rfl, o3, b3⟩
      have B3 : B ≤ w3.heap.size := Nat.le_trans Bw b3.size
      have ht := rtree_any p g s1 cl1 4 (by omega) (by rw [Hn1.out]; decide) (by rw [Hn1.out]; omega) B Emp w3 B3 Hr1.out.live Hc1.out o3 16
      rw [Hn1.out] at ht
      obtain ⟨y1, y2, y3⟩ := rTree_raw 4 s1 cl1 1 Hr1.out Hc1.out
      have y4 := rTree_ge 4 s1 cl1 1
      have t0 : 0 ≤ treeRes 4 s1 cl1 := by unfold treeRes; omega
      have t1 : treeRes 4 s1 cl1 ≤ 15 := by unfold treeRes; omega
      clear y4
      generalize treeRes 4 s1 cl1 = tr at ht t0 t1
      rw [Hn1.out] at y3
      have Hr2 := Lib.hid y1
      have Hc2 := Lib.hid y2
      have Hn2 := Lib.hid y3
      clear y1 y2 y3
      generalize (rTree 4 s1 cl1 1).2.1 = s2 at ht Hr2
      generalize (rTree 4 s1 cl1 1).2.2 = cl2 at ht Hc2 Hn2
      go_wp2_with fail
      refine ht.mono ?_
      clear ht
      rintro e w4 ⟨rfl, o4, b4⟩
      have B4 : B ≤ w4.heap.size := Nat.le_trans B3 b4.size
      have hev := reven_any p s2 3 (by omega) B _ w4 B4 Hr2.out.live o4
      have Hr3 := Lib.hid (rEven_raw 3 s2 0 Hr2.out)
      have y5 := rEven_lt 3 s2 0
      have e0 : 0 ≤ evenRes 3 s2 := by unfold evenRes; omega
      have e1 : evenRes 3 s2 ≤ 7 := by unfold evenRes; omega
      clear y5
      generalize evenRes 3 s2 = ev at hev e0 e1
      generalize (rEven 3 s2 0).2 = s3 at hev Hr3
      go_wp2_with fail
      refine hev.mono ?_
      clear hev
      rintro e w5 ⟨rfl, o5, b5⟩
      go_wp2
      go_roundg j
      case measure => omega
      case rel => exact ⟨by omega, congrArg (Value.int .i64) (by omega), _, _, o5, ((hbb.trans b3).trans b4).trans b5, Hr3, Hc2, Hn2⟩
end Go.Proofs.Ytnoofgcjhoiboaa
