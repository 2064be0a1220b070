/- Texts of one proof, merged: XHl XHm XHn XRx XO0 XBit XO1 XG6 XO2 XO3 XRf. -/
import Derived.Test.YtmppagiaonbggaaDoorUg
import Derived.Below
import Derived.Laws.Bits64b
import Derived.Laws.BitsLemmas
import Derived.RangeFuncNested
import Derived.RangeFuncBound
import Derived.RangeFuncCalls
import Derived.RangeFuncBox
import Derived.RangeFuncLeaves
import Derived.WalkKit
import Derived.OwnWalkIn
import Derived.TacticsInMore
import Derived.LoopNIn
import Derived.LoopIn
/- The walk over Pad of the reference's digest. -/
namespace Go.Proofs.YtmppagiaonbggaaDoor
set_option linter.unusedVariables false
set_option linter.unusedSimpArgs false
set_option maxRecDepth 100000
open Go.RowKit

/-- The bytes of a length, from the k-th down. -/
def lensD (n : Nat) : Nat → List UInt8
  | 0 => []
  | k + 1 => lenB n k :: lensD n k
theorem lensD_8 (n : Nat) : lensD n 8 = lensC n 8 := rfl
theorem lensD_len (n : Nat) : ∀ k, (lensD n k).length = k
  | 0 => rfl
  | k + 1 => by rw [lensD, List.length_cons, lensD_len n k]
set_option maxHeartbeats 1600000 in
theorem rpad_any (n : Nat) (hn : n ≤ 1099511627776) (w : World) : Calls Tryd.prog 47 #[.int .i64 (n : Int)] w (RetB w (padF n)) := by
  have o1 : Own w.heap.size (Rw 5 1 (.slice (some ⟨w.heap.size, 0, none⟩) 1 1) [(128 : UInt8)].length (bytesU [(128 : UInt8)]) * Emp) (w.alloc (.cells #[.int .u8 128] 5)) :=
    ((Own.start w.heap.size w).new (Nat.le_refl _) 5 #[.int .u8 128]).rw_of_bk (size := 1) (n := 1) rfl (by unfold maxLen; decide)
  have b1 := (Below.refl w.heap.size w).alloc (Nat.le_refl _) (.cells #[.int .u8 128] 5)
  obtain ⟨N, hN⟩ : ∃ N : Int, (n : Int) = N := ⟨_, rfl⟩
  have N0 : 0 ≤ N := by omega
  have N1 : N ≤ 1099511627776 := by omega
  obtain ⟨k0, hk0, hk1, hkK⟩ : ∃ k0, (n + 1 + 8 + k0) % 64 = 0 ∧ k0 < 64 ∧ k0 = padK n := ⟨(64 - (n + 9) % 64) % 64, by omega, by omega, rfl⟩
  have HkK := Lib.hid hkK
  clear hkK
  rw [hN]
  obtain ⟨r, hr⟩ : ∃ r : Int, N % 64 = r := ⟨_, rfl⟩
  have hr2 : N.tmod 64 = r := by rw [Int.tmod_eq_emod_of_nonneg N0]; exact hr
  have r0 : 0 ≤ r := by omega
  have r1 : r < 64 := by omega
  have HN := Lib.hid (And.intro hN hr)
  clear hN hn hr
  go_enter Tryd.func47, Tryd.ntmps47
  go_wp2
  go_loopg [3] k0 (fun kk v3 wr => ∃ (out : List UInt8) (A : Option Addr) (c : Nat), v3 = .slice A out.length c ∧ Hid ((n + out.length + 8 + kk) % 64 = 0 ∧ kk + out.length = k0 + 1 ∧ 1 ≤ out.length ∧ out = 128 :: List.replicate (out.length - 1) 0) ∧ Own w.heap.size (Rw 5 1 (.slice A out.length c) out.length (bytesU out) * Emp) wr ∧ Below w.heap.size w wr)
  case atStart => exact ⟨[128], _, 1, rfl, Lib.hid ⟨hk0, rfl, Nat.le_refl _, rfl⟩, o1, b1⟩
  case round =>
    clear o1 b1
    obtain ⟨out, A, c, rfl, he, ho, hb⟩ := hrel
    obtain ⟨h1, h2, h3, h4⟩ := he.out
    have H4 := Lib.hid h4
    clear h4
    obtain ⟨hn', hr'⟩ := HN.out
    obtain ⟨m, hm⟩ : ∃ m : Int, (r + (out.length : Int) + 8) % 64 = m := ⟨_, rfl⟩
    have hrm : (r + (out.length : Int) + 8).tmod 64 = m := by rw [Int.tmod_eq_emod_of_nonneg (by omega)]; exact hm
    have hL : (out.length : Int) ≤ 64 := by omega
    have hLn : out.length ≤ 64 := by omega
    by_cases h0 : gk = 0
    · subst h0
      have hm0 : m = 0 := by omega
      subst hm0
      have N8 : N * 8 < 18446744073709551616 := by omega
      have Ho := Lib.hid h2
      clear h1 h2 h3 he hn' hm hr'
      obtain ⟨L0, hL0⟩ : ∃ L0 : Nat, n * 8 = L0 := ⟨_, rfl⟩
      have e8 : N * 8 = (L0 : Int) := by have := HN.out.1; omega
      have l0 : (L0 : Int) < 18446744073709551616 := by omega
      have HL0 := Lib.hid hL0
      clear hL0 N8
      have oZ := (ho.rw_nil 5 1)
      go_wp2
      go_loopg [4, 5, 6] 8 (fun kk v4 v5 v6 wr => ∃ (k L : Nat) (A2 : Option Addr) (c2 : Nat), kk + k = 8 ∧ v6 = .int .i64 (k : Int) ∧ v4 = .int .u64 (L : Int) ∧ (L : Int) < 18446744073709551616 ∧ Hid (L = n * 8 / 2 ^ (8 * k)) ∧ v5 = .slice A2 k c2 ∧ Own w.heap.size (Rw 5 1 (.slice A2 k c2) (lensD n k).length (bytesU (lensD n k)) * (Rw 5 1 (.slice A out.length c) out.length (bytesU out) * Emp)) wr ∧ Below w.heap.size w wr)
      case atStart => exact ⟨0, L0, none, 0, rfl, rfl, rfl, l0, Lib.hid (by rw [← HL0.out]; simp), rfl, oZ, hb⟩
      case round =>
        clear oZ ho hb e8 l0 HL0
        obtain ⟨k, L, A2, c2, hk, rfl, rfl, l0, hLe, rfl, ho, hb⟩ := hrel
        have k0' : (0 : Int) ≤ (k : Int) := by omega
        have Bw := hb.size
        have hld := lensD_len n k
        by_cases hk8 : (k : Int) < 8
        · obtain ⟨j, rfl⟩ : ∃ j, gk = j + 1 := ⟨gk - 1, by omega⟩
          obtain ⟨b, hbb⟩ : ∃ b, L % 256 = b := ⟨_, rfl⟩
          obtain ⟨L2, hL2⟩ : ∃ L2, L / 256 = L2 := ⟨_, rfl⟩
          have q1 : (L : Int).tmod 256 = (b : Int) := by rw [Int.tmod_eq_emod_of_nonneg (by omega)]; omega
          have q2 : (L : Int).tdiv 256 = (L2 : Int) := by rw [Int.tdiv_eq_ediv_of_nonneg (by omega)]; omega
          have b256 : (b : Int) < 256 := by omega
          have b0 : (0 : Int) ≤ (b : Int) := by omega
          have l2 : (L2 : Int) < 18446744073709551616 := by omega
          have l20 : (0 : Int) ≤ (L2 : Int) := by omega
          have l00 : (0 : Int) ≤ (L : Int) := by omega
          have hu : lenB n k = UInt8.ofNat b := by unfold lenB; rw [← hLe.out, hbb]
          have hun : ((UInt8.ofNat b).toNat : Int) = (b : Int) := by simp; omega
          have HL2 : Hid (L2 = n * 8 / 2 ^ (8 * (k + 1))) := Lib.hid (by rw [← hL2, hLe.out, show 8 * (k + 1) = 8 * k + 8 by omega, Nat.pow_add, ← Nat.div_div_eq_div_mul])
          have oN : Own w.heap.size (Rw 5 1 (.slice (some ⟨wr.heap.size, 0, none⟩) 1 1) [lenB n k].length (bytesU [lenB n k]) * (Rw 5 1 (.slice A2 k c2) (lensD n k).length (bytesU (lensD n k)) * (Rw 5 1 (.slice A out.length c) out.length (bytesU out) * Emp))) (wr.alloc (.cells #[.int .u8 (b : Int)] 5)) := by
            have := (ho.new Bw 5 #[.int .u8 (b : Int)]).rw_of_bk (size := 1) (n := 1) rfl (by unfold maxLen; decide)
            have e : bytesU [lenB n k] = [.int .u8 (b : Int)] := by rw [hu]; simp only [bytesU, List.map_cons, List.map_nil]; rw [hun]
            rw [e]
            exact this
          have bN := hb.alloc Bw (.cells #[.int .u8 (b : Int)] 5)
          have hrd : Rd (wr.alloc (.cells #[.int .u8 (b : Int)] 5)) (.slice A2 (lensD n k).length c2) (bytesU (lensD n k)) := by
            have := (oN.foc (Rw 5 1 (.slice A2 k c2) (lensD n k).length (bytesU (lensD n k)))).rd
            rw [hld]
            exact this
          obtain ⟨v', w', hrun, o2, b2⟩ := byte_append bN.size oN hrd (by rw [hld]; simp; omega)
          obtain ⟨g, cap, rfl, _⟩ := o2.row.form (by simp)
          rw [show [lenB n k] ++ lensD n k = lensD n (k + 1) from rfl] at hrun o2
          have hl1 := lensD_len n (k + 1)
          rw [hld, hl1] at hrun
          have Hrun := Lib.hid hrun
          have hb2 := bN.trans b2
          have o3 : Own w.heap.size (Rw 5 1 (.slice (some ⟨g, 0, none⟩) (k + 1) cap) (lensD n (k + 1)).length (bytesU (lensD n (k + 1))) * (Rw 5 1 (.slice A out.length c) out.length (bytesU out) * Emp)) w' := by
            have := (o2.cast (show _ = Rw 5 1 (.slice A2 k c2) (lensD n k).length (bytesU (lensD n k)) * (Rw 5 1 (.slice (some ⟨g, 0, none⟩) (lensD n (k + 1)).length cap) (lensD n (k + 1)).length (bytesU (lensD n (k + 1))) * (Rw 5 1 (.slice A out.length c) out.length (bytesU out) * Emp)) by ac_rfl)).drop
            rw [hl1] at this ⊢
            exact this
          have Hk := Lib.hid hk
          clear hrun o2 oN bN hrd ho hb b2 hu hun hbb hL2 hLe hld hl1 hk
          go_wp2_with (at_builtin; refine wpList_append_run rfl (.tmp 31) (.tmp 32) 32 rfl rfl rfl Hrun.out ?_)
          go_roundg j
          case measure => omega
          case rel => exact ⟨k + 1, L2, _, _, by have := Hk.out; omega, rfl, rfl, l2, HL2, rfl, o3, hb2⟩
        · obtain rfl : k = 8 := by omega
          have oS := ho.cast (sep_left_comm _ _ _)
          obtain ⟨v', w', hrun, o2, b2⟩ := byte_append (A := A2) (c := c2) (ys := lensD n 8) Bw oS (by
            have := ho.rd
            rw [hld]
            exact this) (by rw [hld]; omega)
          rw [hld] at hrun
          have Hrun := Lib.hid hrun
          have hb2 := hb.trans b2
          have Fin : Hid (out ++ lensD n 8 = padF n) := Lib.hid (by
            rw [lensD_8, H4.out]
            unfold padF
            rw [show out.length - 1 = padK n by rw [← HkK.out]; have := Ho.out; omega]
            simp)
          generalize out ++ lensD n 8 = zz at *
          obtain ⟨A3, c3, rfl⟩ := o2.row_n
          have O := Lib.hid o2
          clear hrun o2 b2 ho hb oS hLe hld hk
          go_wp2_with (at_builtin; refine wpList_append_run rfl (.tmp 36) (.tmp 37) 32 rfl rfl rfl Hrun.out ?_)
          go_ret
          exact RetB.mk rfl rfl Fin.out rfl O.out hb2
    · obtain ⟨j, rfl⟩ : ∃ j, gk = j + 1 := ⟨gk - 1, by omega⟩
      have hm1 : (m == 0) = false := by rw [beq_eq_false_iff_ne]; omega
      have hm2 : (m != 0) = true := by simpa using hm1
      obtain ⟨g, cap, w2, hrun, o2, b2⟩ := byte_snoc hb.size ho (0 : UInt8) 0 rfl (by omega)
      have Hrun := Lib.hid hrun
      have hb2 := hb.trans b2
      have Hl : Hid ((n + (out ++ [(0 : UInt8)]).length + 8 + j) % 64 = 0 ∧ j + (out ++ [(0 : UInt8)]).length = k0 + 1 ∧ 1 ≤ (out ++ [(0 : UInt8)]).length ∧ out ++ [(0 : UInt8)] = 128 :: List.replicate ((out ++ [(0 : UInt8)]).length - 1) 0) := Lib.hid (by
        refine ⟨by rw [List.length_append]; simp only [List.length_singleton]; omega, by rw [List.length_append]; simp only [List.length_singleton]; omega, by rw [List.length_append]; simp only [List.length_singleton]; omega, ?_⟩
        rw [show (out ++ [(0 : UInt8)]).length - 1 = (out.length - 1) + 1 by rw [List.length_append]; simp only [List.length_singleton]; omega, List.replicate_succ']
        conv => lhs; rw [H4.out]
        rfl)
      clear hrun b2 h1 h2 h3 hn' he ho hb hr' hm
      generalize out ++ [(0 : UInt8)] = out2 at *
      go_wp2_with (at_builtin; refine wpList_append_run rfl (.tmp 18) (.tmp 19) 32 rfl rfl rfl Hrun.out ?_)
      go_roundg j
      case measure => omega
      case rel => exact ⟨out2, _, _, rfl, Hl, o2, hb2⟩
end Go.Proofs.YtmppagiaonbggaaDoor

/- The walk over Of of the reference's digest: it is the program's, with the table of roots. -/
namespace Go.Proofs.YtmppagiaonbggaaDoor
set_option linter.unusedVariables false
set_option linter.unusedSimpArgs false
set_option maxRecDepth 100000
open Go.RowKit

theorem byte_build {B : Nat} {R : HP} [Loc B R] {w : World} (hB : B ≤ w.heap.size) {v : Value} {xs : List UInt8} (h : Own B (Rw 5 1 v xs.length (bytesU xs) * R) w) (ys : List UInt8) (n : Nat) (hn : ys.length = n) (h0 : 0 < n) (h1 : n ≤ 100) (cs : Array Value) (hcs : cs = (bytesU ys).toArray) (hl : xs.length ≤ 70368744177664) :
    ∃ g cap w', (Builtin.append_ #[32, 32] 32 #[v, .slice (some ⟨w.heap.size, 0, none⟩) n n]).run Tryd.prog (w.alloc (.cells cs 5)) = .ok (.slice (some ⟨g, 0, none⟩) (xs ++ ys).length cap) w' ∧
      Own B (Rw 5 1 (.slice (some ⟨g, 0, none⟩) (xs ++ ys).length cap) (xs ++ ys).length (bytesU (xs ++ ys)) * R) w' ∧ Below B w w' := by
  subst hcs
  have h2 := h.alloc_keep hB (.cells (bytesU ys).toArray 5)
  have hB1 : B ≤ (w.alloc (.cells (bytesU ys).toArray 5)).heap.size := by simp; omega
  obtain ⟨v', w', hr, h3, h4⟩ := byte_append (A := some ⟨w.heap.size, 0, none⟩) (c := n) (ys := ys) hB1 h2
    ⟨_, n, by rw [bytesU_length], fun _ => ⟨_, rfl, fun j u hj => by
      rw [Addr.add_lit, Nat.zero_add, cell_of_row _ _ _ _ _ _ (heap_alloc_new w _)]
      simpa using hj⟩⟩ (by omega)
  rw [hn] at hr
  obtain ⟨g, cap, rfl, _⟩ := h3.row.form (by rw [List.length_append]; omega)
  exact ⟨g, cap, w', hr, h3, ((Below.refl B w).alloc hB _).trans h4⟩
theorem outL_len (S : List Int) (q : Nat) : (outL S q).length = 32 := (outL_by S q).1
theorem outL_take (S : List Int) (q : Nat) (h : q < 32) : (outL S (q + 1)).take (q + 1) = (outL S q).take q ++ [outB S q] := by rw [outL, take_set_succ _ _ _ (by rw [outL_len]; omega)]
def u8s (l : List Int) : List UInt8 := l.map fun c => UInt8.ofNat c.toNat
theorem u8s_app (a b : List Int) : u8s (a ++ b) = u8s a ++ u8s b := List.map_append
theorem outL_four (S : List Int) (i : Nat) (h : i < 8) : (outL S (4 * (i + 1))).take (4 * (i + 1)) = (outL S (4 * i)).take (4 * i) ++ [S.getD i 0 / 16777216 % 256, S.getD i 0 / 65536 % 256, S.getD i 0 / 256 % 256, S.getD i 0 % 256] := by
  rw [show 4 * (i + 1) = 4 * i + 3 + 1 by omega, outL_take S (4 * i + 3) (by omega), outL_take S (4 * i + 2) (by omega), outL_take S (4 * i + 1) (by omega), outL_take S (4 * i) (by omega),
    outB_at S i 3 (4 * i + 3) rfl (by omega), outB_at S i 2 (4 * i + 2) rfl (by omega), outB_at S i 1 (4 * i + 1) rfl (by omega), outB_at S i 0 (4 * i) rfl (by omega)]
  simp
theorem blockF_in (T : List Int) (s : S8) (x : List Int) (hs : ∀ j, W32 ((rounds T (sched x 64) s 64).list.getD j 0)) : ∀ n j, W32 ((addTo s.list (rounds T (sched x 64) s 64).list n).getD j 0)
  | 0, j => hs j
  | n + 1, j => by
    rw [addTo]
    exact getD_set_in _ _ _ _ (W32.mod _) (blockF_in T s x hs n j)
def S8.ok (s : S8) : Prop := W32 s.a ∧ W32 s.b ∧ W32 s.c ∧ W32 s.d ∧ W32 s.e ∧ W32 s.f ∧ W32 s.g ∧ W32 s.h
theorem S8.ok_list {s : S8} (h : s.ok) (q : Nat) : W32 (s.list.getD q 0) := by
  obtain ⟨h0, h1, h2, h3, h4, h5, h6, h7⟩ := h
  match q with
  | 0 => exact h0
  | 1 => exact h1
  | 2 => exact h2
  | 3 => exact h3
  | 4 => exact h4
  | 5 => exact h5
  | 6 => exact h6
  | 7 => exact h7
  | n + 8 => exact W32.zero
theorem rounds_ok (T W : List Int) {s : S8} (h : s.ok) : ∀ n, (rounds T W s n).ok
  | 0 => h
  | n + 1 => by
    obtain ⟨h0, h1, h2, h3, h4, h5, h6, h7⟩ := rounds_ok T W h n
    exact ⟨W32.mod _, h0, h1, h2, W32.mod _, h4, h5, h6⟩
theorem toS8_ok {T : List Int} {s : S8} (h : s.ok) (x : List Int) : (toS8 (blockF T s x)).ok := by
  have hb := blockF_in T s x (fun j => S8.ok_list (rounds_ok T _ h 64) j) 8
  exact ⟨hb 0, hb 1, hb 2, hb 3, hb 4, hb 5, hb 6, hb 7⟩
theorem toS8_list (l : List Int) (h : l.length = 8) : (toS8 l).list = l := by
  obtain ⟨t0, t1, t2, t3, t4, t5, t6, t7, rfl⟩ := list8 l h
  rfl
theorem tableN_in (j : Nat) : W32 (tableN.getD j 0) := by
  by_cases h : j < 64
  · have : ∀ q, q < 64 → (0 ≤ tableN.getD q 0 ∧ tableN.getD q 0 < 4294967296) := by decide +kernel
    exact this j h
  · rw [List.getD_eq_getElem?_getD, List.getElem?_eq_none (by show tableN.length ≤ j; have : tableN.length = 64 := rfl; omega)]
    exact W32.zero
theorem startS_ok : startS.ok := by
  refine ⟨?_, ?_, ?_, ?_, ?_, ?_, ?_, ?_⟩ <;> exact ⟨by decide, by decide⟩
end Go.Proofs.YtmppagiaonbggaaDoor

/- The walk over Of of the reference's digest. -/
namespace Go.Proofs.YtmppagiaonbggaaDoor
set_option linter.unusedVariables false
set_option linter.unusedSimpArgs false
set_option maxRecDepth 100000
open Go.RowKit

theorem u8s_bytes (l : List Int) (h : ∀ c ∈ l, 0 ≤ c ∧ c < 256) : bytesU (u8s l) = l.map (Value.int .u8) := by
  unfold bytesU u8s
  rw [List.map_map]
  refine List.map_congr_left fun c hc => ?_
  have := h c hc
  show Value.int .u8 ((UInt8.ofNat c.toNat).toNat : Int) = Value.int .u8 c
  have h8 : (UInt8.ofNat c.toNat).toNat = c.toNat := by simp; omega
  rw [h8]
  congr 1
  omega
theorem Own.byte_row {B : Nat} {R : HP} {w : World} {g c : Nat} {l : List UInt8} (h : Own B (Rw 5 1 (.slice (some ⟨g, 0, none⟩) l.length c) l.length (bytesU l) * R) w) (j : Nat) (hj : j < l.length) : w.cell? ⟨g, j, none⟩ = some (.int .u8 ((nums l).getD j 0)) := by
  have := h.row.cells (g := g) rfl j (.int .u8 ((nums l).getD j 0)) (by simp [bytesU, nums, List.getD_eq_getElem?_getD, hj])
  rwa [Addr.add_lit, Nat.zero_add] at this
set_option maxHeartbeats 6400000 in
theorem refsha_any (A : Option Addr) (c : Nat) (b : List UInt8) (hb : b.length ≤ 100000000) (w : World) (hr : Rd w (.slice A b.length c) (bytesU b)) :
    Calls Tryd.prog 30 #[.slice A b.length c] w (RetB w (shaF tableN b)) := by
  obtain ⟨SF, hSF⟩ : ∃ SF, runB tableN ((padded b).length / 64) startS (padded b) = SF := ⟨_, rfl⟩
  obtain ⟨res, hres⟩ : ∃ res, shaF tableN b = res := ⟨_, rfl⟩
  have HSF := Lib.hid hSF
  have Hres : Hid (res = u8s (outL SF.list 32)) := Lib.hid (by rw [← hres, shaF, shaS, hSF]; rfl)
  rw [hres]
  clear hSF hres
  have o1 : Own w.heap.size (Rw 5 1 (.slice (some ⟨w.heap.size, 0, none⟩) 0 0) ([] : List UInt8).length (bytesU []) * Emp) (w.alloc (.cells #[] 5)) :=
    ((Own.start w.heap.size w).new (Nat.le_refl _) 5 #[]).rw_of_bk (size := 1) (n := 0) rfl (by unfold maxLen; decide)
  have b1 := (Below.refl w.heap.size w).alloc (Nat.le_refl _) (.cells #[] 5)
  obtain ⟨v1, w1, hrun1, o2, b2⟩ := byte_append b1.size o1 (hr.below ((Below.refl w.heap.size w).alloc (Nat.le_refl _) (.cells #[] 5))) (by simp; omega)
  rw [List.nil_append] at o2
  obtain ⟨A1, c1, rfl⟩ := o2.row_n
  have Hrun1 := Lib.hid hrun1
  have hb2 := b1.trans b2
  have HP := Lib.hid (rpad_any b.length (by omega) w1)
  have lb : (b.length : Int) ≤ 100000000 := by omega
  clear hrun1 b2 o1 b1 hr
  go_enter Tryd.func30, Tryd.ntmps30
  go_wp2_with (at_builtin; refine wpList_append_run rfl (.tmp 9) (.tmp 10) 32 rfl rfl rfl Hrun1.out ?_)
  refine HP.out.mono ?_
  rintro e w2 ⟨v2, rfl, h2, k2⟩
  have hpl : (padF b.length).length ≤ 200 := by rw [padF_length]; unfold padK; omega
  have h64 : (padded b).length % 64 = 0 := by unfold padded; rw [List.length_append, padF_length]; unfold padK; omega
  have hm1 : 64 ≤ (padded b).length := by
    have : 1 ≤ (padded b).length := by unfold padded; rw [List.length_append, padF_length]; omega
    omega
  have hml : (padded b).length ≤ 100000200 := by unfold padded; rw [List.length_append]; omega
  have oP := Own.fresh hb2.size o2 h2 k2
  obtain ⟨A2, c2, rfl⟩ := oP.row_n
  have hb3 := hb2.trans (k2.mono hb2.size)
  obtain ⟨v3, w3, hrun3, o3, b3⟩ := byte_append hb3.size (oP.foc (Rw 5 1 (.slice A1 b.length c1) b.length (bytesU b))) oP.rd (by omega)
  have hb4 := hb3.trans b3
  rw [show b ++ padF b.length = padded b from rfl] at o3
  obtain ⟨gm, cm, rfl, _⟩ := o3.row.form (by omega)
  have o4 : Own w.heap.size (Rw 5 1 (.slice (some ⟨gm, 0, none⟩) (padded b).length cm) (padded b).length (bytesU (padded b)) * Emp) w3 := (o3.cast (show _ = Rw 5 1 (.slice A2 (padF b.length).length c2) (padF b.length).length (bytesU (padF b.length)) * (Rw 5 1 (.slice (some ⟨gm, 0, none⟩) (padded b).length cm) (padded b).length (bytesU (padded b)) * Emp) by ac_rfl)).drop
  have Hrun3 := Lib.hid hrun3
  clear hrun3 o3 oP h2 k2 b3 hb2 hb3 o2 HP hpl
  generalize padF b.length = pf at *
  generalize padded b = m at *
  go_wp2_with (at_builtin; refine wpList_append_run rfl (.tmp 11) (.tmp 14) 32 rfl rfl rfl Hrun3.out ?_)
  refine (rstart_any w3).mono ?_
  rintro e w4 ⟨v4, rfl, h4, k4⟩
  have o5 := Own.fresh hb4.size o4 h4 k4
  have hb5 := hb4.trans (k4.mono hb4.size)
  obtain ⟨gs, cs, rfl, _⟩ := h4.form (by decide)
  go_wp2_with fail
  refine (rtable_any w4).mono ?_
  rintro e w5 ⟨v5, rfl, h6, k6⟩
  have o6 := Own.fresh hb5.size o5 h6 k6
  have hb6 := hb5.trans (k6.mono hb5.size)
  obtain ⟨gt, ct, rfl, _⟩ := h6.form (by decide)
  have mcap := (o6.foc (Rw 5 1 (.slice (some ⟨gm, 0, none⟩) m.length cm) m.length (bytesU m))).cap
  have o7 : Own w.heap.size (Rw 3 1 (.slice (some ⟨gs, 0, none⟩) 8 cs) startS.list.length (iL startS.list) * (Rw 5 1 (.slice (some ⟨gm, 0, none⟩) m.length cm) m.length (bytesU m) * (Rw 3 1 (.slice (some ⟨gt, 0, none⟩) 64 ct) tableN.length (iL tableN) * Emp))) w5 := o6.cast (show _ = Rw 3 1 (.slice (some ⟨gs, 0, none⟩) 8 cs) startN.length (iL startN) * (Rw 5 1 (.slice (some ⟨gm, 0, none⟩) m.length cm) m.length (bytesU m) * (Rw 3 1 (.slice (some ⟨gt, 0, none⟩) tableN.length ct) tableN.length (iL tableN) * Emp)) by ac_rfl)
  clear o6 o5 o4 h4 h6 k4 k6 hb4 hb5
  have m0 : (64 : Int) ≤ (m.length : Int) := by omega
  have m1 : (m.length : Int) ≤ 100000200 := by omega
  obtain ⟨mc1, mc2⟩ := mcap
  have mc1' : (m.length : Int) ≤ (cm : Int) := by omega
  have mc2' : (cm : Int) ≤ 9223372036854775807 := by omega
  have ht64 : tableN.length = 64 := rfl
  have hs64 : startN.length = 8 := rfl
  have H64 := Lib.hid (And.intro h64 (And.intro hm1 hml))
  clear h64 hm1 hml
  go_wp2
  generalize hX0 : w.heap.size = X0 at *
  go_loopg [4, 6] (m.length / 64) (fun kk v4 v6 wr => ∃ (k gs cs : Nat) (s : S8), 64 * kk + k = m.length ∧ v6 = .int .i64 (k : Int) ∧ v4 = .slice (some ⟨gs, 0, none⟩) 8 cs ∧ Hid s.ok ∧ Hid (runB tableN kk s (m.drop k) = SF) ∧
      Own X0 (Rw 3 1 (.slice (some ⟨gs, 0, none⟩) 8 cs) s.list.length (iL s.list) * (Rw 5 1 (.slice (some ⟨gm, 0, none⟩) m.length cm) m.length (bytesU m) * (Rw 3 1 (.slice (some ⟨gt, 0, none⟩) 64 ct) tableN.length (iL tableN) * Emp))) wr ∧ Below X0 w wr)
  case atStart => exact ⟨0, gs, cs, startS, by have := H64.out; omega, rfl, rfl, Lib.hid startS_ok, HSF, o7, hb6⟩
  case round =>
    clear o7 hb6
    obtain ⟨k, gs, cs, s, hk, rfl, rfl, hok, hrn, ho, hb⟩ := hrel
    have k0 : (0 : Int) ≤ (k : Int) := by omega
    have Bw : X0 ≤ wr.heap.size := by rw [← hX0]; exact hb.size
    by_cases hlt : (k : Int) < (m.length : Int)
    · obtain ⟨j, rfl⟩ : ∃ j, gk = j + 1 := ⟨gk - 1, by omega⟩
      obtain ⟨k2, hk2⟩ : ∃ k2, k + 64 = k2 := ⟨_, rfl⟩
      have e1 : (k : Int) + 64 = (k2 : Int) := by omega
      have k2l : (k2 : Int) ≤ (m.length : Int) := by omega
      have k2c : (k2 : Int) ≤ (cm : Int) := by omega
      have kc : ¬ cm = k := by omega
      have hk64 : k2 - k = 64 := by omega
      have kk2 : (k : Int) ≤ (k2 : Int) := by omega
      have hxl : (nums ((m.drop k).take 64)).length = 64 := by unfold nums; rw [List.length_map, List.length_take, List.length_drop]; omega
      have hxb : byteL (nums ((m.drop k).take 64)) := by
        intro c hc
        obtain ⟨u, _, rfl⟩ := List.mem_map.1 hc
        have := u.toNat_lt
        omega
      have hrb : ∀ q, q < 64 → wr.cell? ⟨gm, k + q, none⟩ = some (.int .u8 ((nums ((m.drop k).take 64)).getD q 0)) := fun q hq => by
        rw [(ho.foc (Rw 5 1 (.slice (some ⟨gm, 0, none⟩) m.length cm) m.length (bytesU m))).byte_row (k + q) (by omega)]
        simp only [nums, List.getD_eq_getElem?_getD, List.getElem?_map, List.getElem?_take, List.getElem?_drop, hq, if_true]
      have hrs : Ri wr gs [s.a, s.b, s.c, s.d, s.e, s.f, s.g, s.h] := ho.ri_row
      have hrt : Ri wr gt tableN := (ho.foc (Rw 3 1 (.slice (some ⟨gt, 0, none⟩) 64 ct) tableN.length (iL tableN))).ri_row
      have HBl := Lib.hid (fun cb => rblock_any gs cs gm k cb gt ct s.a s.b s.c s.d s.e s.f s.g s.h hok.out (nums ((m.drop k).take 64)) hxl hxb tableN rfl tableN_in wr hrs hrb hrt)
      have HBs : Hid (runB tableN j (toS8 (blockF tableN s (nums ((m.drop k).take 64)))) (m.drop k2) = SF) := Lib.hid (by
        have := hrn.out
        rw [runB, List.drop_drop, hk2] at this
        exact this)
      have Hok : Hid ((toS8 (blockF tableN s (nums ((m.drop k).take 64)))).ok ∧ (toS8 (blockF tableN s (nums ((m.drop k).take 64)))).list = blockF tableN s (nums ((m.drop k).take 64))) := Lib.hid ⟨toS8_ok hok.out _, toS8_list _ (blockF_length _ _ _)⟩
      have hbl := blockF_length tableN s (nums ((m.drop k).take 64))
      rw [show (⟨s.a, s.b, s.c, s.d, s.e, s.f, s.g, s.h⟩ : S8) = s from rfl] at HBl
      generalize blockF tableN s (nums ((m.drop k).take 64)) = nl at *
      have Hk := Lib.hid (And.intro hk hk2)
      clear hxl hxb hrb hrs hrt hrn hok hk hk2
      go_wp2_with fail
      refine (HBl.out _).mono ?_
      rintro e w6 ⟨v6, rfl, h6, k6⟩
      obtain ⟨g6, c6, rfl, _⟩ := h6.form (by omega)
      have o6 := (Own.fresh Bw ho h6 k6).cast (show _ = Rw 3 1 (.slice (some ⟨gs, 0, none⟩) 8 cs) s.list.length (iL s.list) * (Rw 3 1 (.slice (some ⟨g6, 0, none⟩) nl.length c6) nl.length (iL nl) * (Rw 5 1 (.slice (some ⟨gm, 0, none⟩) m.length cm) m.length (bytesU m) * (Rw 3 1 (.slice (some ⟨gt, 0, none⟩) 64 ct) tableN.length (iL tableN) * Emp))) by ac_rfl)
      have o7 := o6.drop
      have hb7 := hb.trans (k6.mono Bw)
      clear o6 h6 k6 ho hb HBl
      rw [hbl] at o7 ⊢
      have o8 : Own X0 (Rw 3 1 (.slice (some ⟨g6, 0, none⟩) 8 c6) (toS8 nl).list.length (iL (toS8 nl).list) * (Rw 5 1 (.slice (some ⟨gm, 0, none⟩) m.length cm) m.length (bytesU m) * (Rw 3 1 (.slice (some ⟨gt, 0, none⟩) 64 ct) tableN.length (iL tableN) * Emp))) w6 := by rw [Hok.out.2, hbl]; exact o7
      clear o7
      go_wp2
      go_roundg j
      case measure => omega
      case rel => exact ⟨k2, g6, c6, toS8 nl, by have := Hk.out; omega, rfl, rfl, Lib.hid Hok.out.1, HBs, o8, hb7⟩
    · obtain rfl : k = m.length := by omega
      have hg0 : gk = 0 := by omega
      subst hg0
      obtain rfl : s = SF := hrn.out
      have oO := (ho.rw_nil 5 1)
      clear hk hrn HSF
      go_wp2
      go_loopg [7, 8] 8 (fun kk v7 v8 wr => ∃ (i : Nat) (A : Option Addr) (c : Nat) (out : List UInt8), kk + i = 8 ∧ v8 = .int .i64 (i : Int) ∧ v7 = .slice A out.length c ∧ Hid (out = u8s ((outL s.list (4 * i)).take (4 * i))) ∧
        Own X0 (Rw 5 1 (.slice A out.length c) out.length (bytesU out) * (Rw 3 1 (.slice (some ⟨gs, 0, none⟩) 8 cs) s.list.length (iL s.list) * (Rw 5 1 (.slice (some ⟨gm, 0, none⟩) m.length cm) m.length (bytesU m) * (Rw 3 1 (.slice (some ⟨gt, 0, none⟩) 64 ct) tableN.length (iL tableN) * Emp)))) wr ∧ Below X0 w wr)
      case atStart => exact ⟨0, none, 0, [], rfl, rfl, rfl, Lib.hid rfl, oO, hb⟩
      case round =>
        clear oO ho hb Bw
        obtain ⟨i, A, c, out, hk, rfl, rfl, hout, ho, hb⟩ := hrel
        have i0 : (0 : Int) ≤ (i : Int) := by omega
        have Bw : X0 ≤ wr.heap.size := by rw [← hX0]; exact hb.size
        by_cases hlt : (i : Int) < 8
        · obtain ⟨j, rfl⟩ : ∃ j, gk = j + 1 := ⟨gk - 1, by omega⟩
          have G := Lib.hid (fun W (h : Own X0 (Rw 5 1 (.slice A out.length c) out.length (bytesU out) * (Rw 3 1 (.slice (some ⟨gs, 0, none⟩) 8 cs) s.list.length (iL s.list) * (Rw 5 1 (.slice (some ⟨gm, 0, none⟩) m.length cm) m.length (bytesU m) * (Rw 3 1 (.slice (some ⟨gt, 0, none⟩) 64 ct) tableN.length (iL tableN) * Emp)))) W) => (h.foc (Rw 3 1 (.slice (some ⟨gs, 0, none⟩) 8 cs) s.list.length (iL s.list))).ri_row i (by show i < 8; omega))
          obtain ⟨si0, si1⟩ := S8.ok_list hok.out i
          have HO := Lib.hid (outL_four s.list i (by omega))
          have hol : out.length ≤ 32 := by rw [hout.out]; unfold u8s; rw [List.length_map, List.length_take]; omega
          generalize s.list.getD i 0 = si at *
          obtain ⟨d1, hd1⟩ : ∃ d, si / 16777216 = d := ⟨_, rfl⟩
          obtain ⟨e2, he2⟩ : ∃ d, si / 65536 = d := ⟨_, rfl⟩
          obtain ⟨d2, hd2⟩ : ∃ d, e2 % 256 = d := ⟨_, rfl⟩
          obtain ⟨e3, he3⟩ : ∃ d, si / 256 = d := ⟨_, rfl⟩
          obtain ⟨d3, hd3⟩ : ∃ d, e3 % 256 = d := ⟨_, rfl⟩
          obtain ⟨d4, hd4⟩ : ∃ d, si % 256 = d := ⟨_, rfl⟩
          have q1 : si.tdiv 16777216 = d1 := by rw [Int.tdiv_eq_ediv_of_nonneg si0]; exact hd1
          have q2 : si.tdiv 65536 = e2 := by rw [Int.tdiv_eq_ediv_of_nonneg si0]; exact he2
          have q3 : e2.tmod 256 = d2 := by rw [Int.tmod_eq_emod_of_nonneg (by omega)]; exact hd2
          have q4 : si.tdiv 256 = e3 := by rw [Int.tdiv_eq_ediv_of_nonneg si0]; exact he3
          have q5 : e3.tmod 256 = d3 := by rw [Int.tmod_eq_emod_of_nonneg (by omega)]; exact hd3
          have q6 : si.tmod 256 = d4 := by rw [Int.tmod_eq_emod_of_nonneg si0]; exact hd4
          have b1 : 0 ≤ d1 ∧ d1 < 256 := by omega
          have b2 : 0 ≤ d2 ∧ d2 < 256 := by omega
          have b3 : 0 ≤ d3 ∧ d3 < 256 := by omega
          have b4 : 0 ≤ d4 ∧ d4 < 256 := by omega
          have n2 : 0 ≤ e2 ∧ e2 < 65536 := by omega
          have n3 : 0 ≤ e3 ∧ e3 < 16777216 := by omega
          have HOo : Hid (out ++ u8s [d1, d2, d3, d4] = u8s ((outL s.list (4 * (i + 1))).take (4 * (i + 1)))) := Lib.hid (by
            rw [HO.out, u8s_app, ← hout.out, he2, he3, hd2, hd3, hd4, hd1, Int.emod_eq_of_lt b1.1 b1.2])
          have hcs : (#[.int .u8 d1, .int .u8 d2, .int .u8 d3, .int .u8 d4] : Array Value) = (bytesU (u8s [d1, d2, d3, d4])).toArray := by
            rw [u8s_bytes _ (by intro c hc; simp at hc; rcases hc with rfl | rfl | rfl | rfl <;> assumption)]
            rfl
          have Hcs := Lib.hid hcs
          obtain ⟨b10, b11⟩ := b1
          obtain ⟨b20, b21⟩ := b2
          obtain ⟨b30, b31⟩ := b3
          obtain ⟨b40, b41⟩ := b4
          obtain ⟨n20, n21⟩ := n2
          obtain ⟨n30, n31⟩ := n3
          have Hk := Lib.hid hk
          clear hk hout hd1 he2 hd2 he3 hd3 hd4 hcs HO
          have hul : (u8s [d1, d2, d3, d4]).length = 4 := rfl
          go_wp2
          refine wp_region_lmix (St X0 _ wr) [0] [] [1, 2, 3, 4, 5, 6, 7, 8, 9, 10, 11, 12, 13, 14, 15, 16, 17, 18, 19, 20, 21, 22, 23, 24, 25, 26] [27] [28, 29] mixed (by kernel_rfl) rfl (fun _ _ _ _ _ h => h) (St.drew Bw ho) ?_
          simp only [List.filterMap_cons, List.filterMap_nil, List.getElem?_toArray, List.getElem?_cons_succ, List.getElem?_cons_zero]
          repeat (
            refine free_val ?_ rfl (fun w1 => ?_) ?_
            rotate_left
            · (go_simp
               try go_bits
               rfl)
            simp only [Act.put, List.setIfInBounds_toArray, List.set_cons_zero, List.set_cons_succ])
          refine free_nil ?_
          repeat (first
            | (refine late_val ?_ rfl (fun w1 hS => ?_) ?_
               rotate_left
               · (skip
                  go_simp
                  try go_bits
                  rfl)
               simp only [Act.put, List.setIfInBounds_toArray, List.set_cons_zero, List.set_cons_succ])
            | (refine late_off rfl ?_
               simp only [Act.put, List.setIfInBounds_toArray, List.set_cons_zero, List.set_cons_succ]))
          refine late_nil ?_
          repeat (first
            | (refine held_val ?_ rfl (fun w1 hS => ?_) ?_
               rotate_left
               · (have k1 := G.out w1 hS.2.1
                  go_simp
                  try go_bits
                  rfl)
               simp only [Act.put, List.setIfInBounds_toArray, List.set_cons_zero, List.set_cons_succ])
            | (refine held_off rfl ?_
               simp only [Act.put, List.setIfInBounds_toArray, List.set_cons_zero, List.set_cons_succ]))
          refine held_nil (fun w9 hS => ?_)
          refine kept_val ?_ rfl (w1 := ?_) ?_ ?_ ?_
          rotate_left 2
          · (go_simp
             try go_bits
             first | (constructor <;> rfl) | rfl)
          · exact hS.alloc _
          simp only [Act.put, List.setIfInBounds_toArray, List.set_cons_zero, List.set_cons_succ]
          refine kept_nil ?_
          obtain ⟨B9, o9, b9⟩ := hS
          have hb9 := hb.trans b9
          obtain ⟨g5, cap5, w5, hrun, o5, b5⟩ := byte_build B9 o9 (u8s [d1, d2, d3, d4]) 4 hul (by omega) (by omega) _ Hcs.out (by omega)
          have Hrun := Lib.hid hrun
          have hb5 := hb9.trans b5
          clear hrun b5 o9 ho hb b9 hb9 G hul
          generalize out ++ u8s [d1, d2, d3, d4] = out2 at *
          refine wpList_append_run rfl (.tmp 36) (.tmp 63) 32 rfl rfl rfl Hrun.out ?_
          simp only [Act.put, List.setIfInBounds_toArray, List.set_cons_zero, List.set_cons_succ]
          go_wp2
          go_roundg j
          case measure => omega
          case rel => exact ⟨i + 1, _, _, out2, by have := Hk.out; omega, rfl, rfl, HOo, o5, hb5⟩
        · obtain rfl : i = 8 := by omega
          have HO : Hid (out = res) := Lib.hid (by rw [Hres.out, hout.out, List.take_of_length_le (by rw [outL_len]; omega)])
          clear hout hk
          go_wp2
          go_ret
          exact ⟨_, rfl, by rw [hX0, ← HO.out]; exact ho.row, by rw [hX0]; exact hb⟩
end Go.Proofs.YtmppagiaonbggaaDoor

/- What a call leaves that returns bytes and an error. -/
namespace Go.Proofs.YtmppagiaonbggaaDoor
set_option linter.unusedVariables false
set_option linter.unusedSimpArgs false
set_option maxRecDepth 100000
open Go.RowKit

def RetBE (w : World) (r : List UInt8 × Int) (e : Ending) (w' : World) : Prop :=
  ∃ A c, e = .returned (.tuple #[.slice A r.1.length c, .int .i64 r.2]) ∧ Rd w' (.slice A r.1.length c) (bytesU r.1) ∧ (r.1.length ≤ c ∧ c ≤ 9223372036854775807) ∧ Below w.heap.size w w'
theorem RetBE.err {w w' : World} {z : Int} {e : Ending} (he : e = .returned (.tuple #[.slice none 0 0, .int .i64 z])) (hb : Below w.heap.size w w') : RetBE w ([], z) e w' :=
  ⟨none, 0, he, Rd.nil _, by simp, hb⟩
end Go.Proofs.YtmppagiaonbggaaDoor

/- Numbers and bytes in a row: plain laws of what is written, and of what is read. -/
namespace Go.Proofs.YtmppagiaonbggaaDoor
set_option linter.unusedVariables false
set_option linter.unusedSimpArgs false
set_option maxRecDepth 100000

/-- A number's bytes. -/
def onum (n : Nat) : List UInt8 := if n < 128 then [UInt8.ofNat n] else UInt8.ofNat (n % 128 + 128) :: onum (n / 128)
termination_by n
decreasing_by omega
theorem onum_small {n : Nat} (h : n < 128) : onum n = [UInt8.ofNat n] := by rw [onum, if_pos h]
theorem onum_big {n : Nat} (h : ¬ n < 128) : onum n = UInt8.ofNat (n % 128 + 128) :: onum (n / 128) := by rw [onum, if_neg h]
def onumI (n : Int) : List UInt8 := onum (if n < 0 ∨ 1099511627775 < n then 0 else n.toNat)
theorem onum_pos (n : Nat) : 1 ≤ (onum n).length := by rw [onum]; split <;> simp
theorem onum_len : ∀ (k n : Nat), n < 128 ^ (k + 1) → (onum n).length ≤ k + 1
  | 0, n, h => by rw [onum_small (by simpa using h)]; simp
  | k + 1, n, h => by
    by_cases hn : n < 128
    · rw [onum_small hn]; simp
    · rw [onum_big hn, List.length_cons]
      have := onum_len k (n / 128) (by rw [Nat.div_lt_iff_lt_mul (by omega)]; rw [Nat.pow_succ] at h; exact h)
      omega
theorem onum_len6 {n : Nat} (h : n ≤ 1099511627775) : (onum n).length ≤ 6 := onum_len 5 n (Nat.lt_of_le_of_lt h (by decide))
theorem onumI_len (n : Int) : (onumI n).length ≤ 6 := by
  unfold onumI
  split
  · rw [onum_small (by omega)]; simp
  · exact onum_len6 (by omega)

/-- What bytes stand for, the lowest first. -/
def lebV : List UInt8 → Nat
  | [] => 0
  | c :: l => c.toNat % 128 + 128 * lebV l
theorem lebV_lt : ∀ l : List UInt8, lebV l < 128 ^ l.length
  | [] => by simp [lebV]
  | c :: l => by
    have h := lebV_lt l
    rw [lebV, List.length_cons, Nat.pow_succ]
    omega
theorem u8_toNat (n : Nat) (h : n < 256) : (UInt8.ofNat n).toNat = n := by simp; omega
theorem lebV_onum : ∀ (k n : Nat), n < 128 ^ (k + 1) → lebV (onum n) = n
  | 0, n, h => by rw [onum_small (by simpa using h), lebV, lebV, u8_toNat _ (by omega)]; simp at h; omega
  | k + 1, n, h => by
    by_cases hn : n < 128
    · rw [onum_small hn, lebV, lebV, u8_toNat _ (by omega)]; omega
    · rw [onum_big hn, lebV, lebV_onum k _ (by rw [Nat.div_lt_iff_lt_mul (by omega)]; rw [Nat.pow_succ] at h; exact h), u8_toNat _ (by omega)]
      omega

/-- The end of the first number: the place of the first byte below 128. -/
def endN : List UInt8 → Option Nat
  | [] => none
  | c :: l => if c.toNat < 128 then some 0 else (endN l).map (· + 1)
theorem endN_lt : ∀ {l : List UInt8} {k : Nat}, endN l = some k → k < l.length
  | [], k, h => by simp [endN] at h
  | c :: l, k, h => by
    unfold endN at h
    split at h
    · injection h with h; subst h; simp
    · obtain ⟨j, hj, rfl⟩ := Option.map_eq_some_iff.1 h
      have := endN_lt hj
      simp; omega
theorem endN_onum (r : List UInt8) : ∀ (n : Nat), endN (onum n ++ r) = some ((onum n).length - 1) := by
  intro n
  induction n using Nat.strongRecOn with
  | _ n ih =>
    by_cases hn : n < 128
    · rw [onum_small hn]; simp [endN]; omega
    · rw [onum_big hn, List.cons_append, endN, if_neg (by rw [u8_toNat _ (by omega)]; omega), ih (n / 128) (by omega)]
      have := onum_pos (n / 128)
      simp; omega

/-- A reader: what is left, and its error. -/
structure OS where
  rest : List UInt8
  err : Int

def readNum (s : OS) (most : Int) : Int × OS :=
  if s.err ≠ 0 then (0, s) else
  match endN s.rest with
  | none => if 6 ≤ s.rest.length then (0, ⟨s.rest, 4⟩) else (0, ⟨s.rest, 2⟩)
  | some k =>
    if 6 ≤ k then (0, ⟨s.rest, 4⟩) else
    if 0 < k ∧ s.rest[k]? = some 0 then (0, ⟨s.rest.drop (k + 1), 4⟩) else
    if most < lebV (s.rest.take (k + 1)) ∨ 1099511627775 < lebV (s.rest.take (k + 1)) then (0, ⟨s.rest.drop (k + 1), 3⟩) else
    (lebV (s.rest.take (k + 1)), ⟨s.rest.drop (k + 1), 0⟩)
def otake (s : OS) (n : Nat) : List UInt8 × OS :=
  if s.err ≠ 0 then ([], s) else
  if s.rest.length < n then ([], ⟨s.rest, 2⟩) else (s.rest.take n, ⟨s.rest.drop n, 0⟩)
def readBytes (s : OS) (most : Int) : List UInt8 × OS := otake (readNum s most).2 (readNum s most).1.toNat
def oleft (s : OS) : Nat := if s.err ≠ 0 then 0 else s.rest.length
def oend (s : OS) : Int := if 0 < oleft s then 5 else s.err

theorem readNum_err {s : OS} (h : s.err ≠ 0) (most : Int) : readNum s most = (0, s) := by unfold readNum; rw [if_pos h]
theorem otake_err {s : OS} (h : s.err ≠ 0) (n : Nat) : otake s n = ([], s) := by unfold otake; rw [if_pos h]
theorem readNum_range (s : OS) (most : Int) (hm : 0 ≤ most) : 0 ≤ (readNum s most).1 ∧ (readNum s most).1 ≤ most ∧ (readNum s most).1 ≤ 1099511627775 := by
  unfold readNum
  split
  · exact ⟨Int.le_refl _, hm, by omega⟩
  split
  · split <;> exact ⟨Int.le_refl _, hm, by show (0 : Int) ≤ _; omega⟩
  · split
    · exact ⟨Int.le_refl _, hm, by show (0 : Int) ≤ _; omega⟩
    split
    · exact ⟨Int.le_refl _, hm, by show (0 : Int) ≤ _; omega⟩
    split
    · exact ⟨Int.le_refl _, hm, by show (0 : Int) ≤ _; omega⟩
    · rename_i h
      rw [not_or] at h
      exact ⟨Int.natCast_nonneg _, by simp only; omega, by simp only; omega⟩
theorem readNum_rest (s : OS) (most : Int) : (readNum s most).2.rest.length ≤ s.rest.length := by
  unfold readNum
  split
  · exact Nat.le_refl _
  split
  · split <;> exact Nat.le_refl _
  · split
    · exact Nat.le_refl _
    split
    · simp
    split <;> simp

/-- WHAT WAS WRITTEN IS READ. -/
theorem readNum_onum {n : Nat} (h : n ≤ 1099511627775) (most : Int) (hm : (n : Int) ≤ most) (r : List UInt8) : readNum ⟨onum n ++ r, 0⟩ most = ((n : Int), ⟨r, 0⟩) := by
  have h1 := onum_pos n
  have h6 := onum_len6 h
  have e : (onum n).length - 1 + 1 = (onum n).length := by omega
  have hv : lebV (onum n) = n := lebV_onum 5 n (Nat.lt_of_le_of_lt h (by decide))
  unfold readNum
  rw [if_neg (by simp)]
  simp only [endN_onum]
  rw [if_neg (by omega), e, List.take_left, List.drop_left, hv]
  have hz : ∀ m : Nat, 128 ≤ m → ¬ (onum m)[(onum m).length - 1]? = some 0 := by
    intro m
    induction m using Nat.strongRecOn with
    | _ m ih =>
      intro hm
      rw [onum_big (by omega), List.length_cons]
      have hp := onum_pos (m / 128)
      rw [show (onum (m / 128)).length + 1 - 1 = ((onum (m / 128)).length - 1) + 1 by omega, List.getElem?_cons_succ]
      by_cases hs : 128 ≤ m / 128
      · exact ih _ (by omega) hs
      · rw [onum_small (by omega)]
        simp
        intro e
        have := congrArg UInt8.toNat e
        rw [u8_toNat _ (by omega)] at this
        simp at this
        omega
  rw [if_neg, if_neg (by omega)]
  rintro ⟨hk, h0⟩
  rw [List.getElem?_append_left (by omega)] at h0
  by_cases hs : 128 ≤ n
  · exact hz n hs h0
  · rw [onum_small (by omega)] at hk; simp at hk

theorem onum_lebV : ∀ (l r : List UInt8) (k : Nat), endN l = some k → ¬ (0 < k ∧ l[k]? = some 0) → l = onum (lebV (l.take (k + 1))) ++ l.drop (k + 1)
  | [], _, k, h, _ => by simp [endN] at h
  | c :: l, r, k, h, h0 => by
    unfold endN at h
    split at h
    · injection h with h; subst h
      rename_i hc
      rw [List.take_succ_cons, List.take_zero, lebV, lebV, onum_small (by omega)]
      simp only [List.drop_succ_cons, List.drop_zero, List.singleton_append, Nat.mul_zero, Nat.add_zero, List.cons.injEq, and_true]
      apply UInt8.toNat.inj
      rw [u8_toNat _ (by omega)]; omega
    · rename_i hc
      obtain ⟨j, hj, rfl⟩ := Option.map_eq_some_iff.1 h
      have hjl := endN_lt hj
      rw [List.getElem?_cons_succ] at h0
      have h0' : ¬ l[j]? = some 0 := fun e => h0 ⟨by omega, e⟩
      have ih := onum_lebV l r j hj (fun e => h0' e.2)
      have hc8 : c.toNat < 256 := c.toNat_lt
      have hpos : 1 ≤ lebV (l.take (j + 1)) := by
        have hg : ∀ (m : List UInt8) (j : Nat), endN m = some j → ¬ m[j]? = some 0 → 1 ≤ lebV (m.take (j + 1)) := by
          intro m
          induction m with
          | nil => intro j hj; simp [endN] at hj
          | cons d m ihm =>
            intro j hj h0
            unfold endN at hj
            split at hj
            · injection hj with hj; subst hj
              rename_i hd
              rw [List.take_succ_cons, List.take_zero, lebV, lebV]
              rw [List.getElem?_cons_zero] at h0
              have : d.toNat ≠ 0 := fun e => h0 (by congr 1; apply UInt8.toNat.inj; rw [e]; rfl)
              omega
            · obtain ⟨i, hi, rfl⟩ := Option.map_eq_some_iff.1 hj
              rw [List.getElem?_cons_succ] at h0
              have := ihm i hi h0
              rw [List.take_succ_cons, lebV]; omega
        exact hg l j hj h0'
      rw [List.take_succ_cons, lebV, onum_big (by omega)]
      have e1 : (c.toNat % 128 + 128 * lebV (l.take (j + 1))) % 128 = c.toNat % 128 := by omega
      have e2 : (c.toNat % 128 + 128 * lebV (l.take (j + 1))) / 128 = lebV (l.take (j + 1)) := by omega
      rw [e1, e2, List.cons_append, List.drop_succ_cons, ← ih]
      congr 1
      apply UInt8.toNat.inj
      rw [u8_toNat _ (by omega)]; omega
/-- WHAT IS READ IS WHAT WOULD HAVE BEEN WRITTEN. -/
theorem readNum_ok {s : OS} {most n : Int} {t : OS} (h : readNum s most = (n, t)) (ht : t.err = 0) : s.err = 0 ∧ s.rest = onum n.toNat ++ t.rest ∧ 0 ≤ n ∧ n ≤ most ∧ n ≤ 1099511627775 := by
  unfold readNum at h
  split at h
  · rename_i he
    injection h with h1 h2; subst h2; exact absurd ht he
  rename_i he
  have he : s.err = 0 := by simpa using he
  refine ⟨he, ?_⟩
  split at h
  · split at h <;> (injection h with h1 h2; subst h2; simp at ht)
  · rename_i k hk
    split at h
    · injection h with h1 h2; subst h2; simp at ht
    split at h
    · injection h with h1 h2; subst h2; simp at ht
    split at h
    · injection h with h1 h2; subst h2; simp at ht
    · rename_i h0 hr
      rw [not_or] at hr
      injection h with h1 h2
      subst h1; subst h2
      refine ⟨?_, Int.natCast_nonneg _, by omega, by omega⟩
      rw [Int.toNat_natCast]
      exact onum_lebV s.rest [] k hk h0
theorem otake_ok {s : OS} {n : Nat} {x : List UInt8} {t : OS} (h : otake s n = (x, t)) (ht : t.err = 0) : s.err = 0 ∧ s.rest = x ++ t.rest ∧ x.length = n := by
  unfold otake at h
  split at h
  · rename_i he; injection h with h1 h2; subst h2; exact absurd ht he
  rename_i he
  split at h
  · injection h with h1 h2; subst h2; simp at ht
  · injection h with h1 h2; subst h1; subst h2
    rename_i hl
    exact ⟨by simpa using he, by simp, by rw [List.length_take]; omega⟩
/-- How many bytes, and they. -/
def bytesN (x : List UInt8) : List UInt8 := onum x.length ++ x
theorem readBytes_bytes {x : List UInt8} (most : Int) (hm : (x.length : Int) ≤ most) (h : x.length ≤ 1099511627775) (r : List UInt8) : readBytes ⟨bytesN x ++ r, 0⟩ most = (x, ⟨r, 0⟩) := by
  unfold readBytes bytesN
  rw [List.append_assoc, readNum_onum h most hm]
  simp only [Int.toNat_natCast]
  unfold otake
  rw [if_neg (by simp), if_neg (by simp), List.take_left, List.drop_left]
theorem readBytes_ok {s : OS} {most : Int} {x : List UInt8} {t : OS} (h : readBytes s most = (x, t)) (ht : t.err = 0) : s.err = 0 ∧ s.rest = bytesN x ++ t.rest ∧ (x.length : Int) ≤ most ∧ (x.length : Int) ≤ 1099511627775 := by
  unfold readBytes at h
  obtain ⟨h1, h2, h3⟩ := otake_ok h ht
  generalize hr : readNum s most = q at *
  obtain ⟨n, u⟩ := q
  obtain ⟨h4, h5, h6, h7, h8⟩ := readNum_ok hr h1
  simp only at h2 h3
  refine ⟨h4, ?_, by omega, by omega⟩
  unfold bytesN
  rw [h5, h2, h3, List.append_assoc]
theorem readBytes_err {s : OS} (h : s.err ≠ 0) (most : Int) : readBytes s most = ([], s) := by
  unfold readBytes
  rw [readNum_err h]
  exact otake_err h _
theorem otake_len (s : OS) (n : Nat) : (otake s n).1.length ≤ n ∧ (otake s n).2.rest.length ≤ s.rest.length := by
  unfold otake
  split
  · simp
  split
  · simp
  · simp [List.length_take]; omega
theorem readBytes_len (s : OS) (most : Int) (hm : 0 ≤ most) : ((readBytes s most).1.length : Int) ≤ most ∧ (readBytes s most).2.rest.length ≤ s.rest.length := by
  unfold readBytes
  have h1 := otake_len (readNum s most).2 (readNum s most).1.toNat
  have h2 := readNum_range s most hm
  have h3 := readNum_rest s most
  exact ⟨by omega, by omega⟩
end Go.Proofs.YtmppagiaonbggaaDoor

/- Bits of whole numbers: and, or, of signed words. -/
namespace Go.Proofs.YtmppagiaonbggaaDoor
set_option linter.unusedVariables false
set_option linter.unusedSimpArgs false
set_option maxRecDepth 100000
open Go

theorem i64_or_nat (a b : Nat) (ha : a < 9223372036854775808) (hb : b < 9223372036854775808) : bits .or .i64 (a : Int) (b : Int) = ((a ||| b : Nat) : Int) := by
  have hx : a ||| b < 2 ^ 63 := Nat.or_lt_two_pow (by omega) (by omega)
  show IntKind.i64.wrap ((BitVec.ofInt 64 (a : Int) ||| BitVec.ofInt 64 (b : Int)).toNat : Int) = _
  rw [BitVec.toNat_or, BitVec.toNat_ofInt, BitVec.toNat_ofInt, IntKind.wrap_i64, show ((((a : Nat) : Int) % ((2 ^ 64 : Nat) : Int)).toNat) = a by omega, show (((b : Int) % ((2 ^ 64 : Nat) : Int)).toNat) = b by omega]
  omega
theorem i64_and_nat (a b : Nat) (ha : a < 9223372036854775808) (hb : b < 9223372036854775808) : bits .and .i64 (a : Int) (b : Int) = ((a &&& b : Nat) : Int) := by
  have hx : a &&& b < 2 ^ 63 := Nat.and_lt_two_pow _ (by omega)
  show IntKind.i64.wrap ((BitVec.ofInt 64 (a : Int) &&& BitVec.ofInt 64 (b : Int)).toNat : Int) = _
  rw [BitVec.toNat_and, BitVec.toNat_ofInt, BitVec.toNat_ofInt, IntKind.wrap_i64, show ((((a : Nat) : Int) % ((2 ^ 64 : Nat) : Int)).toNat) = a by omega, show (((b : Int) % ((2 ^ 64 : Nat) : Int)).toNat) = b by omega]
  omega
theorem or_low (a b k : Nat) (hb : b < 2 ^ k) : (2 ^ k * a) ||| b = 2 ^ k * a + b := (Nat.two_pow_add_eq_or_of_lt hb a).symm
theorem i64_and127 (a : Nat) (ha : a < 9223372036854775808) : bits .and .i64 (a : Int) 127 = ((a % 128 : Nat) : Int) := by
  have := i64_and_nat a 127 ha (by omega)
  rw [show ((127 : Nat) : Int) = 127 from rfl] at this
  rw [this, show (127 : Nat) = 2 ^ 7 - 1 from rfl, Nat.and_two_pow_sub_one_eq_mod]
theorem i64_or128 (a : Nat) (ha : a < 128) : bits .or .i64 (a : Int) 128 = ((a + 128 : Nat) : Int) := by
  have := i64_or_nat a 128 (by omega) (by omega)
  rw [show ((128 : Nat) : Int) = 128 from rfl] at this
  rw [this, Nat.or_comm, show (128 : Nat) = 2 ^ 7 * 1 from rfl, or_low 1 a 7 (by omega), Nat.add_comm]
theorem i64_or_shl7 (a b : Nat) (ha : a < 36028797018963968) (hb : b < 128) : bits .or .i64 ((a : Int) * 128) (b : Int) = ((128 * a + b : Nat) : Int) := by
  have := i64_or_nat (2 ^ 7 * a) b (by omega) (by omega)
  rw [or_low a b 7 (by omega)] at this
  rw [show ((a : Int) * 128) = ((2 ^ 7 * a : Nat) : Int) by omega, this]
theorem i64_or_shl8 (a b : Nat) (ha : a < 36028797018963968) (hb : b < 256) : bits .or .i64 ((a : Int) * 256) (b : Int) = ((256 * a + b : Nat) : Int) := by
  have := i64_or_nat (2 ^ 8 * a) b (by omega) (by omega)
  rw [or_low a b 8 (by omega)] at this
  rw [show ((a : Int) * 256) = ((2 ^ 8 * a : Nat) : Int) by omega, this]
theorem u8_and127 (c : UInt8) : bits .and .u8 (c.toNat : Int) 127 = ((c.toNat % 128 : Nat) : Int) := by
  have hc := c.toNat_lt
  show IntKind.u8.wrap ((BitVec.ofInt 8 (c.toNat : Int) &&& BitVec.ofInt 8 127).toNat : Int) = _
  rw [BitVec.toNat_and, BitVec.toNat_ofInt, show (BitVec.ofInt 8 127).toNat = 2 ^ 7 - 1 from rfl, Nat.and_two_pow_sub_one_eq_mod, show (((c.toNat : Int) % ((2 ^ 8 : Nat) : Int)).toNat) = c.toNat by omega]
  have : c.toNat % 2 ^ 7 < 256 := by omega
  simp [IntKind.wrap, IntKind.bits, IntKind.signed]
  omega
end Go.Proofs.YtmppagiaonbggaaDoor

/- The walks over what package octet writes: Number, Bytes. -/
namespace Go.Proofs.YtmppagiaonbggaaDoor
set_option linter.unusedVariables false
set_option linter.unusedSimpArgs false
set_option maxRecDepth 100000
open Go.RowKit


set_option maxRecDepth 100000 in
set_option maxHeartbeats 1600000 in
theorem number_any (v : Value) (l : List UInt8) (hl : l.length ≤ 140737488300000) (n : Int) (w : World) (hr : Rd w v (bytesU l)) :
    Calls Tryd.prog 35 #[v, .int .i64 n] w (RetB w (l ++ onumI n)) := by
  obtain ⟨A0, c0, rfl, _⟩ := id hr
  have Hc := Lib.hid (fun w1 (b : Below w.heap.size w w1) => clone_any (.slice A0 (bytesU l).length c0) l w1 (hr.below b) (by omega))
  rw [bytesU_length] at Hc ⊢
  clear hr
  by_cases h1 : n < 0
  · have hn : onumI n = onum 0 := by unfold onumI; rw [if_pos (.inl h1)]
    rw [hn]
    clear hn
    go_enter Tryd.func35, Tryd.ntmps35
    go_wp2_with fail
    refine (Hc.out _ (Below.refl _ _)).mono ?_
    rintro e w1 ⟨v1, rfl, ho1, b1⟩
    have o1 : Own w.heap.size (Rw 5 1 v1 l.length (bytesU l) * Emp) w1 := Own.fresh (Nat.le_refl _) (Own.start _ _) ho1 b1
    obtain ⟨A1, c1, rfl⟩ := o1.row_n
    clear ho1
    go_wp2
    go_loopg [1, 5] (onum 0).length (fun k x v wr => ∃ (j : Nat) (out : List UInt8) (A : Option Addr) (c : Nat), k = (onum j).length ∧ x = .int .i64 (j : Int) ∧ v = .slice A out.length c ∧ j ≤ 1099511627775 ∧ Own w.heap.size (Rw 5 1 (.slice A out.length c) out.length (bytesU out) * Emp) wr ∧ Below w.heap.size w wr ∧ Hid (out ++ onum j = l ++ onum 0))
    case atStart => exact ⟨0, l, A1, c1, rfl, rfl, rfl, (by omega), o1, b1, Lib.hid rfl⟩
    case round =>
      clear b1 o1
      obtain ⟨j, out, A, c, rfl, rfl, rfl, hj, ho, hb, he⟩ := hrel
      have hol : out.length ≤ 140737488355327 := by
        have h2 := congrArg List.length he.out
        rw [List.length_append, List.length_append] at h2
        have h3 := onum_len6 (n := 0) (by omega)
        omega
      by_cases h127 : (127 : Int) < (j : Int)
      · have hjn : ¬ j < 128 := by omega
        have e1 := i64_and127 j (by omega)
        have e2 := i64_or128 (j % 128) (by omega)
        have hc8 : (UInt8.ofNat (j % 128 + 128)).toNat = j % 128 + 128 := u8_toNat _ (by omega)
        have h2 := onum_big hjn
        obtain ⟨g, cap, w2, hrun, o2, b2⟩ := byte_snoc hb.size ho (UInt8.ofNat (j % 128 + 128)) ((j % 128 + 128 : Nat) : Int) (by rw [hc8]) hol
        obtain ⟨r, hr⟩ : ∃ r : Nat, r = j % 128 := ⟨_, rfl⟩
        obtain ⟨q, hq⟩ : ∃ q : Nat, q = r + 128 := ⟨_, rfl⟩
        obtain ⟨s, hs⟩ : ∃ s : Nat, s = j / 128 := ⟨_, rfl⟩
        rw [← hr] at e1 e2 hrun
        rw [← hq] at e2 hrun
        have hs2 : (j : Int) / 128 = (s : Int) := by omega
        have q1 : (q : Int) < 256 := by omega
        have q0 : (0 : Int) ≤ (q : Int) := by omega
        have Hq := Lib.hid (And.intro hs h2)
        have Hrun := Lib.hid hrun
        clear hr hq hs h2 hc8 hrun hjn
        go_wp2_with (at_builtin; refine wpList_append_run rfl (.tmp 18) (.tmp 23) 32 rfl rfl rfl Hrun.out ?_)
        go_roundg (onum s).length
        case measure => have := Hq.out; rw [this.2, List.length_cons, ← this.1]; omega
        case rel =>
          obtain ⟨q1, q2⟩ := Hq.out
          exact ⟨s, _, _, _, rfl, rfl, by simp, by omega, o2, hb.trans b2, Lib.hid (by rw [← he.out, q2, q1]; simp)⟩
      · have hjn : j < 128 := by omega
        have hc8 : (UInt8.ofNat j).toNat = j := u8_toNat _ (by omega)
        have h2 := onum_small hjn
        obtain ⟨g, cap, w2, hrun, o2, b2⟩ := byte_snoc hb.size ho (UInt8.ofNat j) (j : Int) (by rw [hc8]) hol
        have j1 : (j : Int) < 128 := by omega
        have Hrun := Lib.hid hrun
        have H2 := Lib.hid h2
        have hb2 := hb.trans b2
        clear h2 hrun hc8
        go_wp2_with (at_builtin; refine wpList_append_run rfl (.tmp 25) (.tmp 28) 32 rfl rfl rfl Hrun.out ?_)
        go_ret
        have he2 : out ++ [UInt8.ofNat j] = l ++ onum 0 := by rw [← he.out, H2.out]
        exact RetB.mk rfl (by simp) he2 rfl o2 hb2
  · by_cases h2 : 1099511627775 < n
    · have hn : onumI n = onum 0 := by unfold onumI; rw [if_pos (.inr h2)]
      rw [hn]
      clear hn
      go_enter Tryd.func35, Tryd.ntmps35
      go_wp2_with fail
      refine (Hc.out _ (Below.refl _ _)).mono ?_
      rintro e w1 ⟨v1, rfl, ho1, b1⟩
      have o1 : Own w.heap.size (Rw 5 1 v1 l.length (bytesU l) * Emp) w1 := Own.fresh (Nat.le_refl _) (Own.start _ _) ho1 b1
      obtain ⟨A1, c1, rfl⟩ := o1.row_n
      clear ho1
      go_wp2
      go_loopg [1, 5] (onum 0).length (fun k x v wr => ∃ (j : Nat) (out : List UInt8) (A : Option Addr) (c : Nat), k = (onum j).length ∧ x = .int .i64 (j : Int) ∧ v = .slice A out.length c ∧ j ≤ 1099511627775 ∧ Own w.heap.size (Rw 5 1 (.slice A out.length c) out.length (bytesU out) * Emp) wr ∧ Below w.heap.size w wr ∧ Hid (out ++ onum j = l ++ onum 0))
      case atStart => exact ⟨0, l, A1, c1, rfl, rfl, rfl, (by omega), o1, b1, Lib.hid rfl⟩
      case round =>
        clear b1 o1
        obtain ⟨j, out, A, c, rfl, rfl, rfl, hj, ho, hb, he⟩ := hrel
        have hol : out.length ≤ 140737488355327 := by
          have h2 := congrArg List.length he.out
          rw [List.length_append, List.length_append] at h2
          have h3 := onum_len6 (n := 0) (by omega)
          omega
        by_cases h127 : (127 : Int) < (j : Int)
        · have hjn : ¬ j < 128 := by omega
          have e1 := i64_and127 j (by omega)
          have e2 := i64_or128 (j % 128) (by omega)
          have hc8 : (UInt8.ofNat (j % 128 + 128)).toNat = j % 128 + 128 := u8_toNat _ (by omega)
          have h2 := onum_big hjn
          obtain ⟨g, cap, w2, hrun, o2, b2⟩ := byte_snoc hb.size ho (UInt8.ofNat (j % 128 + 128)) ((j % 128 + 128 : Nat) : Int) (by rw [hc8]) hol
          obtain ⟨r, hr⟩ : ∃ r : Nat, r = j % 128 := ⟨_, rfl⟩
          obtain ⟨q, hq⟩ : ∃ q : Nat, q = r + 128 := ⟨_, rfl⟩
          obtain ⟨s, hs⟩ : ∃ s : Nat, s = j / 128 := ⟨_, rfl⟩
          rw [← hr] at e1 e2 hrun
          rw [← hq] at e2 hrun
          have hs2 : (j : Int) / 128 = (s : Int) := by omega
          have q1 : (q : Int) < 256 := by omega
          have q0 : (0 : Int) ≤ (q : Int) := by omega
          have Hq := Lib.hid (And.intro hs h2)
          have Hrun := Lib.hid hrun
          clear hr hq hs h2 hc8 hrun hjn
          go_wp2_with (at_builtin; refine wpList_append_run rfl (.tmp 18) (.tmp 23) 32 rfl rfl rfl Hrun.out ?_)
          go_roundg (onum s).length
          case measure => have := Hq.out; rw [this.2, List.length_cons, ← this.1]; omega
          case rel =>
            obtain ⟨q1, q2⟩ := Hq.out
            exact ⟨s, _, _, _, rfl, rfl, by simp, by omega, o2, hb.trans b2, Lib.hid (by rw [← he.out, q2, q1]; simp)⟩
        · have hjn : j < 128 := by omega
          have hc8 : (UInt8.ofNat j).toNat = j := u8_toNat _ (by omega)
          have h2 := onum_small hjn
          obtain ⟨g, cap, w2, hrun, o2, b2⟩ := byte_snoc hb.size ho (UInt8.ofNat j) (j : Int) (by rw [hc8]) hol
          have j1 : (j : Int) < 128 := by omega
          have Hrun := Lib.hid hrun
          have H2 := Lib.hid h2
          have hb2 := hb.trans b2
          clear h2 hrun hc8
          go_wp2_with (at_builtin; refine wpList_append_run rfl (.tmp 25) (.tmp 28) 32 rfl rfl rfl Hrun.out ?_)
          go_ret
          have he2 : out ++ [UInt8.ofNat j] = l ++ onum 0 := by rw [← he.out, H2.out]
          exact RetB.mk rfl (by simp) he2 rfl o2 hb2
    · have hn : onumI n = onum n.toNat := by unfold onumI; rw [if_neg (by omega)]
      obtain ⟨m, rfl⟩ : ∃ m : Nat, n = (m : Int) := ⟨n.toNat, by omega⟩
      rw [hn, Int.toNat_natCast]
      clear hn
      go_enter Tryd.func35, Tryd.ntmps35
      go_wp2_with fail
      refine (Hc.out _ (Below.refl _ _)).mono ?_
      rintro e w1 ⟨v1, rfl, ho1, b1⟩
      have o1 : Own w.heap.size (Rw 5 1 v1 l.length (bytesU l) * Emp) w1 := Own.fresh (Nat.le_refl _) (Own.start _ _) ho1 b1
      obtain ⟨A1, c1, rfl⟩ := o1.row_n
      clear ho1
      go_wp2
      go_loopg [1, 5] (onum m).length (fun k x v wr => ∃ (j : Nat) (out : List UInt8) (A : Option Addr) (c : Nat), k = (onum j).length ∧ x = .int .i64 (j : Int) ∧ v = .slice A out.length c ∧ j ≤ 1099511627775 ∧ Own w.heap.size (Rw 5 1 (.slice A out.length c) out.length (bytesU out) * Emp) wr ∧ Below w.heap.size w wr ∧ Hid (out ++ onum j = l ++ onum m))
      case atStart => exact ⟨m, l, A1, c1, rfl, rfl, rfl, (by omega), o1, b1, Lib.hid rfl⟩
      case round =>
        clear b1 o1
        obtain ⟨j, out, A, c, rfl, rfl, rfl, hj, ho, hb, he⟩ := hrel
        have hol : out.length ≤ 140737488355327 := by
          have h2 := congrArg List.length he.out
          rw [List.length_append, List.length_append] at h2
          have h3 := onum_len6 (n := m) (by omega)
          omega
        by_cases h127 : (127 : Int) < (j : Int)
        · have hjn : ¬ j < 128 := by omega
          have e1 := i64_and127 j (by omega)
          have e2 := i64_or128 (j % 128) (by omega)
          have hc8 : (UInt8.ofNat (j % 128 + 128)).toNat = j % 128 + 128 := u8_toNat _ (by omega)
          have h2 := onum_big hjn
          obtain ⟨g, cap, w2, hrun, o2, b2⟩ := byte_snoc hb.size ho (UInt8.ofNat (j % 128 + 128)) ((j % 128 + 128 : Nat) : Int) (by rw [hc8]) hol
          obtain ⟨r, hr⟩ : ∃ r : Nat, r = j % 128 := ⟨_, rfl⟩
          obtain ⟨q, hq⟩ : ∃ q : Nat, q = r + 128 := ⟨_, rfl⟩
          obtain ⟨s, hs⟩ : ∃ s : Nat, s = j / 128 := ⟨_, rfl⟩
          rw [← hr] at e1 e2 hrun
          rw [← hq] at e2 hrun
          have hs2 : (j : Int) / 128 = (s : Int) := by omega
          have q1 : (q : Int) < 256 := by omega
          have q0 : (0 : Int) ≤ (q : Int) := by omega
          have Hq := Lib.hid (And.intro hs h2)
          have Hrun := Lib.hid hrun
          clear hr hq hs h2 hc8 hrun hjn
          go_wp2_with (at_builtin; refine wpList_append_run rfl (.tmp 18) (.tmp 23) 32 rfl rfl rfl Hrun.out ?_)
          go_roundg (onum s).length
          case measure => have := Hq.out; rw [this.2, List.length_cons, ← this.1]; omega
          case rel =>
            obtain ⟨q1, q2⟩ := Hq.out
            exact ⟨s, _, _, _, rfl, rfl, by simp, by omega, o2, hb.trans b2, Lib.hid (by rw [← he.out, q2, q1]; simp)⟩
        · have hjn : j < 128 := by omega
          have hc8 : (UInt8.ofNat j).toNat = j := u8_toNat _ (by omega)
          have h2 := onum_small hjn
          obtain ⟨g, cap, w2, hrun, o2, b2⟩ := byte_snoc hb.size ho (UInt8.ofNat j) (j : Int) (by rw [hc8]) hol
          have j1 : (j : Int) < 128 := by omega
          have Hrun := Lib.hid hrun
          have H2 := Lib.hid h2
          have hb2 := hb.trans b2
          clear h2 hrun hc8
          go_wp2_with (at_builtin; refine wpList_append_run rfl (.tmp 25) (.tmp 28) 32 rfl rfl rfl Hrun.out ?_)
          go_ret
          have he2 : out ++ [UInt8.ofNat j] = l ++ onum m := by rw [← he.out, H2.out]
          exact RetB.mk rfl (by simp) he2 rfl o2 hb2

set_option maxRecDepth 100000 in
set_option maxHeartbeats 1600000 in
theorem obytes_any (v u : Value) (l x : List UInt8) (hl : l.length ≤ 140737488000000) (hx : x.length ≤ 200000) (w : World) (hr : Rd w v (bytesU l)) (hu : Rd w u (bytesU x)) :
    Calls Tryd.prog 36 #[v, u] w (RetB w (l ++ onumI x.length ++ x)) := by
  have N := number_any v l (by omega) (x.length : Int) w hr
  have Hu := Lib.hid (fun w1 (b : Below w.heap.size w w1) => hu.below b)
  obtain ⟨A0, c0, rfl, _⟩ := id hr
  obtain ⟨A, c, rfl, _⟩ := id hu
  rw [bytesU_length] at N ⊢
  rw [bytesU_length] at Hu ⊢
  have h6 : (l ++ onumI (x.length : Int)).length ≤ 140737488000006 := by have := onumI_len (x.length : Int); rw [List.length_append]; omega
  generalize l ++ onumI (x.length : Int) = L at N h6 ⊢
  clear hr hu
  go_enter Tryd.func36, Tryd.ntmps36
  go_wp2_with fail
  refine N.mono ?_
  rintro e w1 ⟨v1, rfl, ho1, b1⟩
  have o1 : Own w.heap.size (Rw 5 1 v1 L.length (bytesU L) * Emp) w1 := Own.fresh (Nat.le_refl _) (Own.start _ _) ho1 b1
  obtain ⟨v2, w2, hrun, o2, b2⟩ := byte_append b1.size o1 (Hu.out _ b1) (by omega)
  obtain ⟨A1, c1, rfl⟩ := o1.row_n
  have Hrun := Lib.hid hrun
  have hb2 := b1.trans b2
  clear hrun ho1 N
  go_wp2_with (at_builtin; refine wpList_append_run rfl (.tmp 8) (.tmp 9) 32 rfl rfl rfl Hrun.out ?_)
  go_ret
  exact RetB.mk rfl rfl rfl rfl o2 hb2
end Go.Proofs.YtmppagiaonbggaaDoor

/- The walks over within, may and Segments of package record. -/
namespace Go.Proofs.YtmppagiaonbggaaDoor
set_option linter.unusedVariables false
set_option linter.unusedSimpArgs false
set_option maxRecDepth 100000
open Go.RowKit

theorem within_any2 (n lo hi : Int) (b : Bool) (hb : (decide (lo ≤ n) && decide (n ≤ hi)) = b) (w : World) : Calls Tryd.prog 62 #[.int .i64 n, .int .i64 lo, .int .i64 hi] w fun e w' => e = .returned (.bool b) ∧ w' = w := by
  subst hb
  by_cases h1 : lo ≤ n
  · by_cases h2 : n ≤ hi
    · rw [decide_eq_true h1, decide_eq_true h2]
      go_enter Tryd.func62, Tryd.ntmps62
      go_wp2
      go_ret
      exact ⟨rfl, rfl⟩
    · rw [decide_eq_true h1, decide_eq_false h2]
      go_enter Tryd.func62, Tryd.ntmps62
      go_wp2
      go_ret
      exact ⟨rfl, rfl⟩
  · rw [decide_eq_false h1]
    go_enter Tryd.func62, Tryd.ntmps62
    go_wp2
    go_ret
    exact ⟨rfl, rfl⟩

structure Pn where
  ch : Int
  wi : Int
  tot : Int
  dg : List UInt8
deriving DecidableEq
def pnL (p : Pn) : List Value := .int .i64 p.ch :: .int .i64 p.wi :: .int .i64 p.tot :: bytesU p.dg
structure Pn.ok (p : Pn) : Prop where
  ch : okI p.ch
  wi : okI p.wi
  tot : okI p.tot
  dg : p.dg.length = 32
theorem pnL_size {p : Pn} (h : p.dg.length = 32) : (pnL p).toArray.size = 35 := by simp [pnL, bytesU_length, h]
def Pn.mayB (p : Pn) : Bool := (decide (1 ≤ p.ch) && decide (p.ch ≤ 65536)) && (decide (1 ≤ p.wi) && decide (p.wi ≤ 32768)) && (decide (0 ≤ p.tot) && decide (p.tot ≤ 4194304))

theorem may_any (p : Pn) (ok : p.ok) (w : World) : Calls Tryd.prog 40 #[.agg (pnL p).toArray] w fun e w' => e = .returned (.bool p.mayB) ∧ Below w.heap.size w w' := by
  have c0 : (pnL p).toArray[0]? = some (.int .i64 p.ch) := rfl
  have c1 : (pnL p).toArray[1]? = some (.int .i64 p.wi) := rfl
  have c2 : (pnL p).toArray[2]? = some (.int .i64 p.tot) := rfl
  have hsz := pnL_size ok.dg
  obtain ⟨b0, h0⟩ : ∃ b, (decide (1 ≤ p.ch) && decide (p.ch ≤ 65536)) = b := ⟨_, rfl⟩
  obtain ⟨b1, h1⟩ : ∃ b, (decide (1 ≤ p.wi) && decide (p.wi ≤ 32768)) = b := ⟨_, rfl⟩
  obtain ⟨b2, h2⟩ : ∃ b, (decide (0 ≤ p.tot) && decide (p.tot ≤ 4194304)) = b := ⟨_, rfl⟩
  have hm : p.mayB = (b0 && b1 && b2) := by unfold Pn.mayB; rw [h0, h1, h2]
  rw [hm]
  have W0 := Lib.hid (fun w => within_any2 p.ch 1 65536 b0 h0 w)
  have W1 := Lib.hid (fun w => within_any2 p.wi 1 32768 b1 h1 w)
  have W2 := Lib.hid (fun w => within_any2 p.tot 0 4194304 b2 h2 w)
  have hb := (Below.refl w.heap.size w).alloc (Nat.le_refl _) (.cells (pnL p).toArray 27)
  have hh := heap_alloc_new w (.cells (pnL p).toArray 27)
  have k0 : (w.alloc (.cells (pnL p).toArray 27)).cell? ⟨w.heap.size, 0, none⟩ = some (.int .i64 p.ch) := (cell_of_row _ _ _ _ _ _ hh).trans c0
  have k1 : (w.alloc (.cells (pnL p).toArray 27)).cell? ⟨w.heap.size, 1, none⟩ = some (.int .i64 p.wi) := (cell_of_row _ _ _ _ _ _ hh).trans c1
  have k2 : (w.alloc (.cells (pnL p).toArray 27)).cell? ⟨w.heap.size, 2, none⟩ = some (.int .i64 p.tot) := (cell_of_row _ _ _ _ _ _ hh).trans c2
  clear c0 c1 c2 h0 h1 h2 hm hh ok
  generalize (pnL p).toArray = X at *
  obtain ⟨ch, wi, tot, dg⟩ := p
  simp only at W0 W1 W2 k0 k1 k2
  cases b0 with
  | false =>
    go_enter Tryd.func40, Tryd.ntmps40
    go_wp2_with fail
    refine (W0.out _).mono ?_
    rintro e w1 ⟨rfl, rfl⟩
    go_wp2
    go_ret
    exact ⟨rfl, hb⟩
  | true =>
    cases b1 with
    | false =>
      go_enter Tryd.func40, Tryd.ntmps40
      go_wp2_with fail
      refine (W0.out _).mono ?_
      rintro e w1 ⟨rfl, rfl⟩
      go_wp2_with fail
      refine (W1.out _).mono ?_
      rintro e w1 ⟨rfl, rfl⟩
      go_wp2
      go_ret
      exact ⟨rfl, hb⟩
    | true =>
      go_enter Tryd.func40, Tryd.ntmps40
      go_wp2_with fail
      refine (W0.out _).mono ?_
      rintro e w1 ⟨rfl, rfl⟩
      go_wp2_with fail
      refine (W1.out _).mono ?_
      rintro e w1 ⟨rfl, rfl⟩
      go_wp2_with fail
      refine (W2.out _).mono ?_
      rintro e w1 ⟨rfl, rfl⟩
      go_wp2
      go_ret
      exact ⟨rfl, hb⟩

def segsP (p : Pn) : Int := if p.mayB then (p.tot + p.ch - 1) / p.ch else 0
theorem Pn.may_true {p : Pn} (h : p.mayB = true) : 1 ≤ p.ch ∧ p.ch ≤ 65536 ∧ 1 ≤ p.wi ∧ p.wi ≤ 32768 ∧ 0 ≤ p.tot ∧ p.tot ≤ 4194304 := by
  unfold Pn.mayB at h
  simp only [Bool.and_eq_true, decide_eq_true_eq] at h
  omega
theorem infoPlan : (Tryd.prog.info? 27).map (·.size) = some 35 := by kernel_rfl

theorem segments_any (p : Pn) (ok : p.ok) (w : World) : Calls Tryd.prog 24 #[.agg (pnL p).toArray] w fun e w' => e = .returned (.int .i64 (segsP p)) ∧ Below w.heap.size w w' := by
  have hsz := pnL_size ok.dg
  have hb := (Below.refl w.heap.size w).alloc (Nat.le_refl _) (.cells (pnL p).toArray 27)
  have hh := heap_alloc_new w (.cells (pnL p).toArray 27)
  have hinf : (Tryd.prog.info? 27).map (·.size) = some (pnL p).toArray.size := by rw [hsz]; exact infoPlan
  have HM := Lib.hid (fun w => may_any p ok w)
  have K0 := Lib.hid (fun W (h : Below (w.heap.size + 1) (w.alloc (.cells (pnL p).toArray 27)) W) => ((h.cell (p := ⟨w.heap.size, 0, none⟩) (by simp)).trans (cell_of_row _ _ 0 _ _ _ hh)).trans (show _ = some (.int .i64 p.ch) from rfl))
  have K2 := Lib.hid (fun W (h : Below (w.heap.size + 1) (w.alloc (.cells (pnL p).toArray 27)) W) => ((h.cell (p := ⟨w.heap.size, 2, none⟩) (by simp)).trans (cell_of_row _ _ 2 _ _ _ hh)).trans (show _ = some (.int .i64 p.tot) from rfl))
  have Hh := Lib.hid hh
  have Hinf := Lib.hid hinf
  clear hh hinf
  cases hm : p.mayB with
  | false =>
    have hs : segsP p = 0 := by unfold segsP; rw [hm]; rfl
    rw [hs]
    rw [hm] at HM
    clear hs hm K0 K2
    generalize (pnL p).toArray = X at *
    go_enter Tryd.func24, Tryd.ntmps24
    go_wp2_with first
      | (refine wpList_load_row rfl 27 (.tmp 1) rfl w.heap.size rfl 27 X (0, 0) _ Hh.out Tryd.underlying27 rfl Hinf.out ?_)
    refine (HM.out _).mono ?_
    rintro e w1 ⟨rfl, b1⟩
    have hb1 := hb.trans (b1.mono (by simp))
    go_wp2
    go_ret
    exact ⟨rfl, hb1⟩
  | true =>
    obtain ⟨m0, m1, m2, m3, m4, m5⟩ := p.may_true hm
    have hs : segsP p = (p.tot + p.ch - 1) / p.ch := by unfold segsP; rw [hm]; rfl
    rw [hs]
    rw [hm] at HM
    clear hs hm
    obtain ⟨ch, wi, tot, dg⟩ := p
    simp only at K0 K2 m0 m1 m2 m3 m4 m5 ⊢
    generalize (pnL ⟨ch, wi, tot, dg⟩).toArray = X at *
    have hc0 : (ch == 0) = false := by simp; omega
    have hq0 : 0 ≤ (tot + ch - 1) / ch := Int.ediv_nonneg (by omega) (by omega)
    have hq1 : (tot + ch - 1) / ch ≤ tot + ch - 1 := Int.ediv_le_self _ (by omega)
    have hq2 : (tot + ch - 1).tdiv ch = (tot + ch - 1) / ch := Int.tdiv_eq_ediv_of_nonneg (by omega)
    generalize (tot + ch - 1) / ch = q at *
    go_enter Tryd.func24, Tryd.ntmps24
    go_wp2_with first
      | (refine wpList_load_row rfl 27 (.tmp 1) rfl w.heap.size rfl 27 X (0, 0) _ Hh.out Tryd.underlying27 rfl Hinf.out ?_)
    refine (HM.out _).mono ?_
    rintro e w1 ⟨rfl, b1⟩
    have hb1 := hb.trans (b1.mono (by simp))
    have k0 := K0.out w1 (b1.mono (by simp))
    have k2 := K2.out w1 (b1.mono (by simp))
    clear K0 K2 HM
    go_wp2
    go_ret
    exact ⟨rfl, hb1⟩
end Go.Proofs.YtmppagiaonbggaaDoor

/- A reader of package octet as it lies, and the walks over its short methods. -/
namespace Go.Proofs.YtmppagiaonbggaaDoor
set_option linter.unusedVariables false
set_option linter.unusedSimpArgs false
set_option maxRecDepth 100000
open Go.RowKit

/-- A slice value reads as these bytes, out of a block that is owned. -/
def okV (w : World) (F : Nat → Prop) (v : Value) (l : List UInt8) : Prop :=
  ∃ A c, v = .slice A l.length c ∧ l.length ≤ c ∧ c ≤ 9223372036854775807 ∧ (l ≠ [] → ∃ b off, A = some ⟨b, off, none⟩ ∧ F b ∧ ∀ j u, (bytesU l)[j]? = some u → w.cell? ⟨b, off + j, none⟩ = some u)
theorem okV.rd {w : World} {F : Nat → Prop} {v : Value} {l : List UInt8} (h : okV w F v l) : Rd w v (bytesU l) := by
  obtain ⟨A, c, rfl, _, _, h⟩ := h
  refine ⟨A, c, by rw [bytesU_length], fun hne => ?_⟩
  obtain ⟨b, off, rfl, _, hc⟩ := h (by intro e; subst e; exact hne rfl)
  exact ⟨_, rfl, fun j u hu => by rw [Addr.add_lit]; exact hc j u hu⟩
theorem okV.nil (w : World) (F : Nat → Prop) : okV w F (.slice none 0 0) [] := ⟨none, 0, rfl, Nat.le_refl _, by omega, fun h => absurd rfl h⟩
/-- Slices that read out of blocks that are owned, and that nobody writes. -/
def Rss (vs : List (Value × List UInt8)) : HP := fun w F => ∀ x ∈ vs, okV w F x.1 x.2
instance Loc.rss {B : Nat} {vs : List (Value × List UInt8)} : Loc B (Rss vs) where
  keep := fun w w' F h _ hv x hx => by
    obtain ⟨A, c, e, h1, h2, h3⟩ := hv x hx
    refine ⟨A, c, e, h1, h2, fun hne => ?_⟩
    obtain ⟨b, off, ha, hF, hc⟩ := h3 hne
    exact ⟨b, off, ha, hF, fun j u hu => (World.cell?_of_block (a := ⟨b, off + j, none⟩) (h b hF)).trans (hc j u hu)⟩
  up := fun w F F' h hv x hx => by
    obtain ⟨A, c, e, h1, h2, h3⟩ := hv x hx
    refine ⟨A, c, e, h1, h2, fun hne => ?_⟩
    obtain ⟨b, off, ha, hF, hc⟩ := h3 hne
    exact ⟨b, off, ha, h b hF, hc⟩
theorem Own.rss {B : Nat} {vs : List (Value × List UInt8)} {R : HP} {w : World} (h : Own B (Rss vs * R) w) {x : Value × List UInt8} (hx : x ∈ vs) : Rd w x.1 (bytesU x.2) := by
  obtain ⟨F, hf, F1, F2, hd, h1, h2, ha, hr⟩ := h
  exact (ha x hx).rd
theorem Own.rss_less {B : Nat} {vs vs' : List (Value × List UInt8)} {R : HP} {w : World} (h : Own B (Rss vs * R) w) (hs : ∀ x ∈ vs', x ∈ vs) : Own B (Rss vs' * R) w :=
  h.mono fun w F ⟨F1, F2, hd, h1, h2, ha, hr⟩ => ⟨F1, F2, hd, h1, h2, fun x hx => ha x (hs x hx), hr⟩
/-- A row of bytes that is owned, as what is read alone. -/
theorem Own.rss_of {B : Nat} {R : HP} {w : World} {v : Value} {l : List UInt8} (h : Own B (Rw 5 1 v l.length (bytesU l) * R) w) : Own B (Rss [(v, l)] * R) w := by
  refine h.mono fun w F ⟨F1, F2, hd, h1, h2, ha, hr⟩ => ⟨F1, F2, hd, h1, h2, fun x hx => ?_, hr⟩
  obtain rfl := List.mem_singleton.1 hx
  obtain ⟨ho, hb⟩ := ha
  rcases ho.2 with ⟨hn, h0⟩ | ⟨g, cap, cur, rfl, _, hg, h5, h6, h7, h8⟩
  · have e0 : l = [] := List.eq_nil_of_length_eq_zero h0
    subst e0
    subst hn
    exact okV.nil w F1
  · exact ⟨_, cap, rfl, h5, by simpa [maxLen] using h6, fun _ => ⟨g, 0, rfl, hb g (by simp [Value.ownBlock]), fun j u hu => by
      have := ho.cells (g := g) rfl j u hu
      rwa [Addr.add_lit] at this⟩⟩
theorem okV.at_block {w : World} {F : Nat → Prop} {A : Option Addr} {n c : Nat} {l : List UInt8} (h : okV w F (.slice A n c) l) (hne : l ≠ []) : ∀ a, A = some a → F a.block := by
  obtain ⟨A', c', e, _, _, h3⟩ := h
  injection e with e1 _ e3
  subst e1
  obtain ⟨b, off, rfl, hF, _⟩ := h3 hne
  intro a ha
  cases ha
  exact hF
def ofail (s : OS) (z : Int) : OS := if s.err = 0 then ⟨s.rest, z⟩ else s
section
variable (p : Nat) (s : OS) (vs : List (Value × List UInt8)) (B : Nat) (R : HP) (w : World)
end
end Go.Proofs.YtmppagiaonbggaaDoor

/- The walks over New and take of package octet's reader. -/
namespace Go.Proofs.YtmppagiaonbggaaDoor
set_option linter.unusedVariables false
set_option linter.unusedSimpArgs false
set_option maxRecDepth 100000
open Go.RowKit

/-- What is taken of what is left is read, too. -/
theorem okV.taken {w : World} {F : Nat → Prop} {A : Option Addr} {c : Nat} {l : List UInt8} (h : okV w F (.slice A l.length c) l) (n : Nat) (hn : n ≤ l.length) : okV w F (.slice A n n) (l.take n) := by
  obtain ⟨A', c', e, h1, h2, h3⟩ := h
  injection e with e1 _ e3
  subst e1; subst e3
  have hlen : (l.take n).length = n := by rw [List.length_take]; omega
  refine ⟨A, n, by rw [hlen], by omega, by omega, fun hne => ?_⟩
  obtain ⟨b, off, rfl, hF, hc⟩ := h3 (by intro e; subst e; simp at hne)
  refine ⟨b, off, rfl, hF, fun j u hu => hc j u ?_⟩
  unfold bytesU at hu ⊢
  rw [List.map_take, List.getElem?_take] at hu
  split at hu
  · exact hu
  · cases hu
theorem okV.left {w : World} {F : Nat → Prop} {A : Option Addr} {c : Nat} {l : List UInt8} (h : okV w F (.slice A l.length c) l) (n : Nat) (hn : n ≤ l.length) : okV w F (.slice (if c = n then A else A.map (fun x => x.add n)) (l.length - n) (c - n)) (l.drop n) := by
  obtain ⟨A', c', e, h1, h2, h3⟩ := h
  injection e with e1 _ e3
  subst e1; subst e3
  refine ⟨_, c - n, by rw [List.length_drop], by rw [List.length_drop]; omega, by omega, fun hne => ?_⟩
  have hlt : n < l.length := by
    by_cases h : n < l.length
    · exact h
    · exact absurd (List.drop_eq_nil_of_le (by omega)) hne
  obtain ⟨b, off, rfl, hF, hc⟩ := h3 (by intro e; subst e; simp at hlt)
  rw [if_neg (by omega)]
  refine ⟨b, off + n, by simp [Addr.add], hF, fun j u hu => ?_⟩
  unfold bytesU at hu
  rw [List.map_drop, List.getElem?_drop] at hu
  rw [Nat.add_assoc]
  exact hc _ _ hu

end Go.Proofs.YtmppagiaonbggaaDoor

/- A range over a function, told by what is owned: the loop's own blocks are no cells, so what is owned abides them. -/
namespace Go.Proofs.YtmppagiaonbggaaDoor
set_option linter.unusedVariables false
set_option linter.unusedSimpArgs false
set_option maxRecDepth 100000
open Go.RowKit

def CelB (n : Nat) (w : World) (k : Nat) : Prop := k < n ∨ ∃ o : Obj, w.heap[k]? = some o ∧ o.isCells = true
/-- What it says hangs, from block n on, on blocks of cells alone. -/
class Cel (n : Nat) (A : HP) : Prop where
  cut : ∀ (w : World) (F : Nat → Prop), A w F → A w (fun k => F k ∧ CelB n w k)
instance Cel.emp {n : Nat} : Cel n Emp := ⟨fun _ _ h => h⟩
instance Cel.fact {n : Nat} {p : Prop} : Cel n (Fact p) := ⟨fun _ _ h => h⟩
instance Cel.hex {n : Nat} {α : Type} {A : α → HP} [h : ∀ x, Cel n (A x)] : Cel n (Hex A) := ⟨fun w F ⟨x, hx⟩ => ⟨x, (h x).cut w F hx⟩⟩
instance Cel.bk {n g : Nat} {t : TypeId} {cs : Array Value} : Cel n (Bk g t cs) := ⟨fun _ _ ⟨hF, hg⟩ => ⟨⟨hF, .inr ⟨_, hg, rfl⟩⟩, hg⟩⟩
instance Cel.rw {m : Nat} {e : TypeId} {size : Nat} {v : Value} {n : Nat} {xs : List Value} : Cel m (Rw e size v n xs) := ⟨fun w F ⟨ho, hF⟩ => ⟨ho, fun k hk => ⟨hF k hk, by
  rcases ho.2 with ⟨rfl, _⟩ | ⟨g, cap, cur, rfl, _, hg, _⟩
  · simp [Value.ownBlock] at hk
  · simp [Value.ownBlock] at hk
    subst hk
    exact .inr ⟨_, hg, rfl⟩⟩⟩⟩
instance Cel.sep {n : Nat} {A C : HP} [a : Cel n A] [c : Cel n C] : Cel n (A * C) := ⟨fun w F ⟨F1, F2, hd, h1, h2, ha, hc⟩ =>
  ⟨fun k => F1 k ∧ CelB n w k, fun k => F2 k ∧ CelB n w k, fun k hk hk' => hd k hk.1 hk'.1, fun k hk => ⟨h1 k hk.1, hk.2⟩, fun k hk => ⟨h2 k hk.1, hk.2⟩, a.cut w F1 ha, c.cut w F2 hc⟩⟩

/-- These blocks are as they were. -/
def Same (s : Nat → Prop) (W : World) : HP := fun w F => ∀ k, s k → F k ∧ w.heap[k]? = W.heap[k]?
instance Loc.same {B : Nat} {s : Nat → Prop} {W : World} : Loc B (Same s W) where
  keep := fun w w' F h _ hs k hk => ⟨(hs k hk).1, (h k (hs k hk).1).trans (hs k hk).2⟩
  up := fun w F F' h hs k hk => ⟨h k (hs k hk).1, (hs k hk).2⟩
theorem Cel.same {n : Nat} {s : Nat → Prop} {W : World} (hs : ∀ k, s k → k < n) : Cel n (Same s W) := ⟨fun w F h k hk => ⟨⟨(h k hk).1, .inl (hs k hk)⟩, (h k hk).2⟩⟩
/-- All that is no cells, from n on, as it was. -/
def Non (n : Nat) (W : World) : HP := fun w F => ∀ k o, n ≤ k → W.heap[k]? = some o → o.isCells = false → F k ∧ w.heap[k]? = some o
instance Loc.non {B n : Nat} {W : World} : Loc B (Non n W) where
  keep := fun w w' F h _ hs k o hn ho hc => ⟨(hs k o hn ho hc).1, (h k (hs k o hn ho hc).1).trans (hs k o hn ho hc).2⟩
  up := fun w F F' h hs k o hn ho hc => ⟨h k (hs k o hn ho hc).1, (hs k o hn ho hc).2⟩
theorem Own.non {B n : Nat} {A : HP} [c : Cel n A] {W : World} (h : Own B A W) (hn : B ≤ n) : Own B (A * Non n W) W := by
  obtain ⟨F, hf, ha⟩ := h
  refine ⟨fun k => (F k ∧ CelB n W k) ∨ (n ≤ k ∧ ∃ o, W.heap[k]? = some o ∧ o.isCells = false), fun k hk => ?_, fun k => F k ∧ CelB n W k, fun k => n ≤ k ∧ ∃ o, W.heap[k]? = some o ∧ o.isCells = false, fun k hk hk' => ?_, fun k hk => .inl hk, fun k hk => .inr hk, c.cut W F ha, fun k o h1 h2 h3 => ⟨⟨h1, o, h2, h3⟩, h2⟩⟩
  · rcases hk with hk | ⟨h1, o, h2, _⟩
    · exact hf k hk.1
    · exact ⟨by omega, (Array.getElem?_eq_some_iff.1 h2).1⟩
  · obtain ⟨hn', o', h3, h4⟩ := hk'
    rcases hk.2 with h | ⟨o, h1, h2⟩
    · omega
    rw [h1] at h3
    cases h3
    rw [h2] at h4
    cases h4
/-- The deferred calls' block of a range over a function. -/
def Dk (D : Nat) : HP := fun w F => F D ∧ w.heap[D]? = some (.deferred (some []))
instance Loc.dk {B D : Nat} : Loc B (Dk D) where
  keep := fun _ _ _ h _ ⟨hf, hg⟩ => ⟨hf, (h D hf).trans hg⟩
  up := fun _ _ _ h ⟨hf, hg⟩ => ⟨h D hf, hg⟩
theorem Own.dk {B D n : Nat} {A : HP} [c : Cel n A] {W : World} (h : Own B A W) (hB : B ≤ D) (hn : n ≤ D) (hD : W.heap[D]? = some (.deferred (some []))) : Own B (A * Dk D) W := by
  obtain ⟨F, hf, ha⟩ := h
  refine ⟨fun k => (F k ∧ CelB n W k) ∨ k = D, fun k hk => ?_, fun k => F k ∧ CelB n W k, fun k => k = D, fun k hk hk' => ?_, fun k hk => .inl hk, fun k hk => .inr hk, c.cut W F ha, rfl, hD⟩
  · rcases hk with hk | rfl
    · exact hf k hk.1
    · exact ⟨hB, (Array.getElem?_eq_some_iff.1 hD).1⟩
  · subst hk'
    rcases hk.2 with h | ⟨o, h1, h2⟩
    · omega
    rw [hD] at h1
    cases h1
    cases h2
/-- A step that turns one block that is no cells. -/
theorem Own.abide {B n : Nat} {A : HP} [c : Cel n A] [Loc B A] {W W' : World} {row : Option Nat} (hB : B ≤ W.heap.size) (hn : B ≤ n) (h : Own B A W) (hg : W.grownBy W' row) (hr : ∀ r, row = some r → n ≤ r ∧ ∃ o : Obj, W.heap[r]? = some o ∧ o.isCells = false) : Own B A W' := by
  obtain ⟨F, hf, ha⟩ := h
  refine ⟨fun k => F k ∧ CelB n W k, fun k hk => ⟨(hf k hk.1).1, Nat.lt_of_lt_of_le (hf k hk.1).2 hg.size⟩, Loc.keep (B := B) W W' _ (fun k hk => hg.block k (hf k hk.1).2 (fun e => ?_)) (fun k hk => hg.block k (by omega) (fun e => ?_)) (c.cut W F ha)⟩
  · obtain ⟨hn', o, h1, h2⟩ := hr k e.symm
    rcases hk.2 with h | ⟨o', h3, h4⟩
    · omega
    rw [h1] at h3
    cases h3
    rw [h2] at h4
    cases h4
  · have := (hr k e.symm).1
    omega

/-- What a round must keep of the memory that the iterator reads: these blocks. -/
def KpS (s : Nat → Prop) (W W' : World) : Prop := ∀ k, s k → W'.heap[k]? = W.heap[k]?
theorem KpS.t {s : Nat → Prop} {A B C : World} (h : KpS s A B) (k : KpS s B C) : KpS s A C := fun i hi => (k i hi).trans (h i hi)
theorem KpS.b {s : Nat → Prop} {w : World} (hs : ∀ k, s k → k < w.heap.size) (W : World) (l : Nat) (o o' : Obj) (hl : w.heap.size ≤ l) (h : W.heap[l]? = some o) (_ : o.isCells = false) (_ : o.isWalk = false) : KpS s W (W.putObj l o') := fun k hk => by
  have := hs k hk
  exact (grownBy_putObj' W l o').block k (by have := (Array.getElem?_eq_some_iff.1 h).1; omega) (by simp; omega)

/-- What a loop leaves alone, set aside: its blocks are kept, and behind the loop it is there again. -/
theorem Own.fix {B : Nat} {A C : HP} [Loc B A] {w : World} (h : Own B (A * C) w) : ∃ s : Nat → Prop, (∀ k, s k → k < w.heap.size) ∧ A w s ∧ Own B (C * Same s w) w ∧
    ∀ (W : World) (C' D : HP), Below B w W → Own B (C' * (Same s w * D)) W → Own B (C' * (A * D)) W := by
  obtain ⟨F, hf, F1, F2, hd, h1, h2, ha, hc⟩ := h
  refine ⟨F1, fun k hk => (hf k (h1 k hk)).2, ha, ⟨F, hf, F2, F1, fun k hk hk' => hd k hk' hk, h2, h1, hc, fun k hk => ⟨hk, rfl⟩⟩, fun W C' D hb hO => ?_⟩
  obtain ⟨G, hg, G1, G2, gd, g1, g2, hC', H1, H2, hd2, k1, k2, hS, hD⟩ := hO
  exact ⟨G, hg, G1, G2, gd, g1, g2, hC', H1, H2, hd2, k1, k2, Loc.up (B := B) W _ H1 (fun k hk => (hS k hk).1) (Loc.keep (B := B) w W _ (fun k hk => (hS k hk).2) (fun k hk => hb.block k hk) ha), hD⟩
/-- How a round may be left. -/
def hpPost {α : Type} (B : Nat) (A : List α → HP) (Ax : Code → List α → HP) (R : HP) (W : World) (xs : List α) : Exit → Act → World → Prop
  | .normal, _, W' => Own B (A xs * R) W' ∧ Below B W W'
  | .ret, _, W' => Own B (Ax .ret xs * R) W' ∧ Below B W W'
  | .exit id, _, W' => Own B (Ax (.exit id) xs * R) W' ∧ Below B W W'
  | .goto t, _, W' => Own B (Ax (.goto t) xs * R) W' ∧ Below B W W'
  | .panic _, _, _ => False
  | .outgrown, _, _ => False

theorem keeps_of {B n : Nat} {s : Nat → Prop} {C : HP} {W W' w0 : World} (hB : B ≤ W.heap.size) (hsz : W.heap.size ≤ W'.heap.size) (h : Own B (C * (Same s w0 * Non n W)) W') : KeepsFrom n W W' := by
  obtain ⟨F, hf, F1, F2, hd, h1, h2, hc, F3, F4, hd', h3, h4, hs, hn⟩ := h
  exact ⟨hsz, fun k o hk ho hc => (hn k o hk ho hc).2⟩

/-- THE RULE: a range over a function, in a call that goes on alone. -/
theorem wp_rangeFunc_hp {α : Type} {P : Program} {g : Operand} {ps : Array Tmp} {assign body : Code} {Q : Exit → Act → World → Prop} {a : Act} {w : World}
    {gf : Nat} {lb : Array Value} (hg : a.eval g = .func (.func gf) #[] lb) (eg : ∀ args w, (callFunc gf args).run P w = .ok (.enter gf args) w)
    {encs : α → Array Value} {S Sp : List α → Prop} {N : Nat} (s : Nat → Prop) (hs : ∀ k, s k → k < w.heap.size) (hseq : SeqStopsK Fence.wide 4 P gf lb encs (KpS s) S Sp N w) (hps : ∀ x, (encs x).size = ps.size)
    (B : Nat) (A : List α → HP) (Ax : Code → List α → HP) [∀ xs, Loc B (A xs)] [∀ xs, Cel w.heap.size (A xs)] [∀ c xs, Loc B (Ax c xs)] [∀ c xs, Cel w.heap.size (Ax c xs)] (hB : B ≤ w.heap.size) (h0 : Own B (A [] * Same s w) w) (fin : α → Array Value → Array Value) (a₁ : α → Act) (ha₁ : ∀ x, a₁ x = { tmps := fin x ((ps.zip (encs x)).foldl (fun t (p, v) => t.setIfInBounds p v) a.tmps), defers := [] })
    (hassign : ∀ (l : Nat) (x : α) (W : World) (K : Act → World → Prop), K (a₁ x) W →
      assign.wpIn (Fence.wide.inRound l) 3 P (Exit.then K (fun _ _ _ => False)) { tmps := (ps.zip (encs x)).foldl (fun t (p, v) => t.setIfInBounds p v) a.tmps, defers := [] } W)
    (hbody : ∀ (l : Nat) (pre : List α) (x : α) (W : World) (R : HP) [Loc B R], B ≤ W.heap.size → Below B w W → Own B (A pre * R) W → pre.length < N → body.wpIn (Fence.wide.inRound l) 3 P (hpPost B A Ax R W (pre ++ [x])) (a₁ x) W)
    (hdone : ∀ (D : Nat) (xs : List α) (W : World), S xs → B ≤ W.heap.size → Below B w W → Own B (A xs * (Same s w * Dk D)) W → Q .normal { a with defers := { target := .collected D, args := #[] } :: a.defers } W)
    (hstop : ∀ (D : Nat) (c : Code) (pre : List α) (W : World), Sp pre → B ≤ W.heap.size → Below B w W → Own B (Ax c pre * (Same s w * Dk D)) W → c.wp P Q { a with defers := { target := .collected D, args := #[] } :: a.defers } W) :
    (Code.rangeFunc g ps assign body).wp P Q a w := by
  have cs : Cel w.heap.size (Same s w) := Cel.same hs
  refine (wpIn_wide (n := 5)).1 ?_
  refine wpIn_rangeFunc_ownG (F := Fence.wide) (n := 5) rfl (by omega) hg trivial eg hseq KpS.t (KpS.b hs) (Below.refl _ _) hps
    (fun pre W => (Own B (A pre * Same s w) W ∧ B ≤ W.heap.size) ∧ Below B w W) (fun c pre W => (Own B (Ax c pre * Same s w) W ∧ B ≤ W.heap.size) ∧ Below B w W)
    (OwnFrom.and (fun _ _ _ _ hs hg hr => ⟨hs.1.abide hs.2 hB hg hr, Nat.le_trans hs.2 hg.size⟩) (ownFrom_below hB hB))
    (fun c => OwnFrom.and (fun _ _ _ _ hs hg hr => ⟨hs.1.abide hs.2 hB hg hr, Nat.le_trans hs.2 hg.size⟩) (ownFrom_below hB hB))
    ⟨⟨h0, hB⟩, Below.refl _ _⟩ a₁ hassign ?_ ?_ ?_
  · intro l pre x W ⟨⟨hO, hBW⟩, hb⟩ hN
    have hO2 : Own B (A pre * (Same s w * Non w.heap.size W)) W := (hO.non (n := w.heap.size) hB).assoc
    have hsame : ∀ k, s k → W.heap[k]? = w.heap[k]? := by
      obtain ⟨F, hf, F1, F2, hd, h1, h2, hc, hs⟩ := hO
      exact fun k hk => (hs k hk).2
    refine Code.wpIn_mono (fun e a' W' h => ?_) (hbody l pre x W (Same s w * Non w.heap.size W) hBW hb hO2 hN)
    have fin : ∀ (C : HP), Own B (C * (Same s w * Non w.heap.size W)) W' → Below B W W' → KeepsFrom w.heap.size W W' ∧ KpS s W W' ∧ (Own B (C * Same s w) W' ∧ B ≤ W'.heap.size) ∧ Below B w W' := by
      intro C h hb'
      refine ⟨keeps_of hBW hb'.size h, ?_, ⟨h.assoc'.left, Nat.le_trans hBW hb'.size⟩, hb.trans hb'⟩
      obtain ⟨F, hf, F1, F2, hd, h1, h2, hc, F3, F4, hd', h3, h4, hs', hn⟩ := h
      exact fun k hk => (hs' k hk).2.trans (hsame k hk).symm
    cases e with
    | normal => obtain ⟨k1, k2, k3, k4⟩ := fin _ h.1 h.2; exact ⟨k1, k2, k3, k4⟩
    | ret => obtain ⟨k1, k2, k3, k4⟩ := fin _ h.1 h.2; exact ⟨k1, k3, k4⟩
    | exit id => obtain ⟨k1, k2, k3, k4⟩ := fin _ h.1 h.2; exact ⟨k1, k3, k4⟩
    | goto t => obtain ⟨k1, k2, k3, k4⟩ := fin _ h.1 h.2; exact ⟨k1, k3, k4⟩
    | panic c => exact h
    | outgrown => exact h
  · intro D xs W hD hS ⟨⟨hO, hBW⟩, hb⟩ hK
    exact hdone D xs W hS hBW hb ((hO.dk (n := w.heap.size) (Nat.le_trans hB hD) hD hK).assoc)
  · intro D c pre W hD hS ⟨⟨hO, hBW⟩, hb⟩ hK
    exact wpIn_wide.2 (hstop D c pre W hS hBW hb ((hO.dk (n := w.heap.size) (Nat.le_trans hB hD) hD hK).assoc))

/-- The call's end behind one loop: the deferred calls' block is struck. -/
theorem ret_hp {n D B : Nat} {P : Program} {fn : Func} {R : Ending → World → Prop} {a : Act} {W : World} {A : HP} [Loc B A] {v : Value} (hB : B ≤ W.heap.size) (hd : a.defers = [{ target := .collected D, args := #[] }]) (hO : Own B (Dk D * A) W)
    (hres : ∀ W', Own B A W' → (results fn a.tmps).run P W' = .ok v W') (hR : ∀ W', Own B A W' → Below B W W' → R (.returned v) W') : bodyPostM Fence.wide n P fn R .ret a W := by
  have hK : W.heap[D]? = some (.deferred (some [])) := by
    obtain ⟨F, hf, F1, F2, hd, h1, h2, hc, hs⟩ := hO
    exact hc.2
  have hBD : B ≤ D := by
    obtain ⟨F, hf, F1, F2, hd, h1, h2, hc, hs⟩ := hO
    exact (hf D (h1 D hc.1)).1
  have hg := grownBy_putObj' W D (.deferred none)
  have hO' : Own B A (W.putObj D (.deferred none)) := (Own.turn (A' := Emp) hB hO hg.size (fun F hF ⟨hFD, _⟩ => ⟨fun _ => False, fun _ h => h.elim, trivial, fun k hk hn => hg.block k hk (fun e => hn (by injection e with e; exact e ▸ hFD))⟩)).right
  have hb : Below B W (W.putObj D (.deferred none)) := (Below.refl B W).grown hg hB (fun k e => by cases e; exact hBD)
  unfold bodyPostM
  simp only [hd]
  exact ⟨by simp, .inl ⟨_, _, rfl, run_takeDeferred hK, _, hres _ hO', hR _ hO' hb⟩⟩
end Go.Proofs.YtmppagiaonbggaaDoor
