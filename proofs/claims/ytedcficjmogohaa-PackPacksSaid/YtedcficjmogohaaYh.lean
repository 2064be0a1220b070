/- Texts of one proof, merged: XM7 XM8 XM9 XMa XMb XMc XMd XMe XMf XMg. -/
import Derived.Test.YtedcficjmogohaaYg
import Derived.OwnWalk
/- The walk over put of pack's model, of a match. -/
namespace Go.Proofs.Ytedcficjmogohaa
set_option linter.unusedVariables false
set_option linter.unusedSimpArgs false
set_option maxRecDepth 100000
open Go.RowKit

set_option maxHeartbeats 6400000 in
theorem put_match (p q : Nat) (a : MA) (v : Value) (m : MS) (hm : m.ok) (n bk : Nat) (hn : 3 ≤ n ∧ n ≤ 258) (hbk : 1 ≤ bk ∧ bk ≤ 32768) (s : WS) (r : Int) (hr : 0 ≤ r) (hs : s.gd (r + 28)) (B : Nat) (R : HP) [Loc B R] (w : World) (hB : B ≤ w.heap.size) (hO : Own B (Wr q s * (MdV p a v m * R)) w) :
    Calls Try.prog 33 #[.pointer (some ⟨p, 0, none⟩), .pointer (some ⟨q, 0, none⟩), .agg #[.int .u8 0, .int .i64 (n : Int), .int .i64 (bk : Int)]] w (Ret B w (.tuple #[]) (Wr q (putMatch s m n bk).1 * (MdV p a v (putMatch s m n bk).2 * R))) := by
  have o1 := hO.new hB 39 #[.int .u8 0, .int .i64 (n : Int), .int .i64 (bk : Int)]
  have b1 := (Below.refl B w).alloc hB (.cells #[.int .u8 0, .int .i64 (n : Int), .int .i64 (bk : Int)] 39)
  have B1 : B ≤ (w.alloc (.cells #[.int .u8 0, .int .i64 (n : Int), .int .i64 (bk : Int)] 39)).heap.size := by simp; omega
  have Hc := Lib.hid (fun (w1 : World) X (m1 : MS) (s1 : WS) (h : Own B (Bk X 39 #[.int .u8 0, .int .i64 (n : Int), .int .i64 (bk : Int)] * (Wr q s1 * (MdV p a v m1 * R))) w1) =>
    (show w1.cell? ⟨p, 0, none⟩ = some (chSl a.gk 2) ∧ w1.cell? ⟨p, 11, none⟩ = some (.int .i64 (m1.kind : Int)) ∧ w1.cell? ⟨X, 1, none⟩ = some (.int .i64 (n : Int)) ∧ w1.cell? ⟨p, 9, none⟩ = some (chSl a.gn 256) ∧ w1.cell? ⟨X, 2, none⟩ = some (.int .i64 (bk : Int)) ∧ w1.cell? ⟨p, 10, none⟩ = some (chSl a.gb 16) from
      ⟨(h.drop.drop.cast mdv_eq).cellOf p 0, (h.drop.drop.cast mdv_eq).cellOf p 11, h.cell 1, (h.drop.drop.cast mdv_eq).cellOf p 9, h.cell 2, (h.drop.drop.cast mdv_eq).cellOf p 10⟩))
  have hbit := bitM_gd 1 (room := r + 27) (by omega) hm (hs.less (by omega))
  have hlen := lenM_ok n (room := r + 19) (by omega) hm (hs.less (by omega))
  have hbak := backM_ok n bk (room := r + 15) (by omega) hm (hs.less (by omega))
  have l15 := lenN_15 (bk - 1) (by omega)
  have Hb := Lib.hid (fun (w1 : World) X (B1 : B ≤ w1.heap.size) (h : Own B (Bk X 39 #[.int .u8 0, .int .i64 (n : Int), .int .i64 (bk : Int)] * (Wr q s * (MdV p a v m * R))) w1) =>
    bit_any q a.gk m.kind s m.kinds 1 (r := r + 8) (by omega) B _ w1 B1 (hs.live.less (by omega)) hm.ckinds (by rw [hm.kinds]; exact hm.kind)
      (h.cast (show _ = Wr q s * (Bk a.gk 106 (chV m.kinds) * (Bk X 39 #[.int .u8 0, .int .i64 (n : Int), .int .i64 (bk : Int)] * (Bk p 97 (mdA a m.kind v) * (Lt a m.lits * (Cb a.gn m.lens * (Cb a.gb m.backs * (Rw 5 1 v m.out.length (bytesU m.out) * R))))))) by rw [mdv_eq]; simp only [Cb]; ac_rfl)))
  have HT1 := Lib.hid (fun (w1 : World) X (B1 : B ≤ w1.heap.size) (h : Own B (Bk X 39 #[.int .u8 0, .int .i64 (n : Int), .int .i64 (bk : Int)] * (Wr q (bitM s m 1) * (MdV p a v { m with kinds := kindsM m 1 } * R))) w1) =>
    tree_live q a.gn (bitM s m 1) m.lens ((n : Int) - 3) 8 (by omega) (by rw [hm.lens]; decide) (by rw [hm.lens]; omega) (by omega) (by omega) (r + 19) (by omega) B (Bk X 39 #[.int .u8 0, .int .i64 (n : Int), .int .i64 (bk : Int)] * (Bk p 97 (mdA a m.kind v) * (Cb a.gk (kindsM m 1) * (Lt a m.lits * (Cb a.gb m.backs * (Rw 5 1 v m.out.length (bytesU m.out) * R)))))) w1 B1 (hbit.1.live.less (by omega)) hm.clens
      (h.cast (by
        rw [← mdv_lens (m := { m with kinds := kindsM m 1 }) (k := m.lens)]
        simp only [Cb]
        ac_rfl)) 256)
  have HT2 := Lib.hid (fun (w1 : World) X (B1 : B ≤ w1.heap.size) (h : Own B (Bk X 39 #[.int .u8 0, .int .i64 (n : Int), .int .i64 (bk : Int)] * (Wr q (lenM s m n).1 * (MdV p a v { m with kinds := kindsM m 1, lens := (lenM s m n).2 } * R))) w1) =>
    tree_live q a.gb (lenM s m n).1 m.backs (lenN (bk - 1)) 4 (by omega) (by rw [hm.backs]; decide) (by rw [hm.backs]; omega) (by omega) (by omega) (r + 15) (by omega) B (Bk X 39 #[.int .u8 0, .int .i64 (n : Int), .int .i64 (bk : Int)] * (Bk p 97 (mdA a m.kind v) * (Cb a.gk (kindsM m 1) * (Lt a m.lits * (Cb a.gn (lenM s m n).2 * (Rw 5 1 v m.out.length (bytesU m.out) * R)))))) w1 B1 (hlen.1.live.less (by omega)) hm.cbacks
      (h.cast (by
        rw [← mdv_backs (m := { m with kinds := kindsM m 1, lens := (lenM s m n).2 }) (k := m.backs)]
        simp only [Cb]
        ac_rfl)) 16)
  have HE0 := Lib.hid (fun (w1 : World) X (h : Own B (Bk X 39 #[.int .u8 0, .int .i64 (n : Int), .int .i64 (bk : Int)] * (Wr q (backM s m n bk).1 * (MdV p a v { m with kinds := kindsM m 1, lens := (lenM s m n).2, backs := (backM s m n bk).2 } * R))) w1) =>
    even_neg q (backM s m n bk).1 ((bk : Int) - 1) hbak.1.live.dn B (Bk X 39 #[.int .u8 0, .int .i64 (n : Int), .int .i64 (bk : Int)] * (MdV p a v { m with kinds := kindsM m 1, lens := (lenM s m n).2, backs := (backM s m n bk).2 } * R)) w1 (h.cast (by ac_rfl)))
  have HE1 := Lib.hid (fun (w1 : World) X (B1 : B ≤ w1.heap.size) (h : Own B (Bk X 39 #[.int .u8 0, .int .i64 (n : Int), .int .i64 (bk : Int)] * (Wr q (backM s m n bk).1 * (MdV p a v { m with kinds := kindsM m 1, lens := (lenM s m n).2, backs := (backM s m n bk).2 } * R))) w1) =>
    even_live q (backM s m n bk).1 ((bk : Int) - 1) (lenN (bk - 1) - 1) (by omega) (by omega) (by omega) r hr B (Bk X 39 #[.int .u8 0, .int .i64 (n : Int), .int .i64 (bk : Int)] * (MdV p a v { m with kinds := kindsM m 1, lens := (lenM s m n).2, backs := (backM s m n bk).2 } * R)) w1 B1 (hbak.1.live.less (by omega)) (h.cast (by ac_rfl)))
  have HL := Lib.hid (fun (w1 : World) => len_any (bk - 1) (by omega) w1)
  have hpm : Hid (putMatch s m n bk = (evenS (backM s m n bk).1 (bitsOf ((bk : Int) - 1) (lenN (bk - 1) - 1)), { m with kinds := kindsM m 1, lens := (lenM s m n).2, backs := (backM s m n bk).2 })) := Lib.hid rfl
  have Hlm : Hid (lenM s m n = treeS (bitM s m 1) m.lens 1 (bitsOf ((n : Int) - 3) 8)) := Lib.hid rfl
  have Hbm : Hid (backM s m n bk = treeS (lenM s m n).1 m.backs 1 (bitsOf (lenN (bk - 1)) 4)) := Lib.hid rfl
  rw [hm.lens] at HT1
  rw [hm.backs] at HT2
  have hks : kindsM m 1 = m.kinds.set m.kind (sawN (kindN m) 1) := rfl
  have k0 : (0 : Int) ≤ (m.kind : Int) := by omega
  have k2 : (m.kind : Int) < 2 := by have := hm.kind; omega
  have n3 : (3 : Int) ≤ (n : Int) := by omega
  have n258 : (n : Int) ≤ 258 := by omega
  have n1 : ¬ (n : Int) < 1 := by omega
  have n0 : ¬ (n : Int) = 0 := by omega
  have n0' : ((n : Int) == 0) = false := by rw [beq_eq_false_iff_ne]; exact n0
  have nle : ¬ (n : Int) ≤ 1 := by omega
  have nlt : (1 : Int) < (n : Int) := by omega
  have bk1 : (1 : Int) ≤ (bk : Int) := by omega
  have bk2 : (bk : Int) ≤ 32768 := by omega
  simp only [chSl] at Hc
  have HB := Lib.hid hbk
  clear hO hbit hlen hbak hs hks hbk hn
  generalize hK : m.kind = K at Hc Hb k0 k2
  go_enter Try.func33, Try.ntmps33
  go_wp2
  generalize (w.alloc (.cells #[.int .u8 0, .int .i64 (n : Int), .int .i64 (bk : Int)] 39)) = W1 at *
  generalize w.heap.size = X0 at *
  refine wp_region_mix (St B _ W1) [0, 1, 2, 3, 4, 5, 6, 7, 8, 9, 10, 11, 12] [13] mixed (by kernel_rfl) rfl (St.drew B1 o1) ?_
  simp only [List.filterMap_cons, List.filterMap_nil, List.getElem?_toArray, List.getElem?_cons_succ, List.getElem?_cons_zero]
  repeat (first
    | (refine held_val ?_ rfl (fun w1 hS => ?_) ?_
       rotate_left
       · (have cs := Hc.out w1 X0 _ _ hS.2.1; rw [hK] at cs; obtain ⟨c0, c11, d1, c9, d2, c10⟩ := cs
          go_simp
          try go_bits
          rfl)
       simp only [Act.put, List.setIfInBounds_toArray, List.set_cons_zero, List.set_cons_succ])
    | (refine held_off rfl ?_
       simp only [Act.put, List.setIfInBounds_toArray, List.set_cons_zero, List.set_cons_succ]))
  refine held_nil (fun w1 hS => ?_)
  obtain ⟨B2, o2, b2⟩ := hS
  have hb2 := b1.trans b2
  clear o1 b1 b2 B1
  have Hb2 := Lib.hid (Hb.out w1 X0 B2 o2)
  clear Hb o2
  go_wp2_with fail
  refine Hb2.out.mono ?_
  rintro e w4 ⟨rfl, o4, b4⟩
  subst hK
  have hb4 := hb2.trans b4
  have B4 := Nat.le_trans B2 b4.size
  have o5 := o4.cast (show _ = Bk X0 39 #[.int .u8 0, .int .i64 (n : Int), .int .i64 (bk : Int)] * (Wr q (bitM s m 1) * (MdV p a v { m with kinds := kindsM m 1 } * R)) by
    rw [← mdv_kinds]
    show Wr q (bitM s m 1) * (Cb a.gk (kindsM m 1) * _) = _
    simp only [Cb]
    ac_rfl)
  have d1 : w4.cell? ⟨X0, 1, none⟩ = some (.int .i64 (n : Int)) := o5.cell 1
  clear Hb2 hb2 B2 b4 o4
  go_wp2
  refine wp_region_mix (St B _ w4) [0, 1, 2, 3, 4, 5, 6, 7] [8] mixed (by kernel_rfl) rfl (St.drew B4 o5) ?_
  simp only [List.filterMap_cons, List.filterMap_nil, List.getElem?_toArray, List.getElem?_cons_succ, List.getElem?_cons_zero]
  repeat (first
    | (refine held_val ?_ rfl (fun w1 hS => ?_) ?_
       rotate_left
       · (obtain ⟨c0, c11, d1, c9, d2, c10⟩ := Hc.out w1 X0 _ _ hS.2.1
          go_simp
          try go_bits
          rfl)
       simp only [Act.put, List.setIfInBounds_toArray, List.set_cons_zero, List.set_cons_succ])
    | (refine held_off rfl ?_
       simp only [Act.put, List.setIfInBounds_toArray, List.set_cons_zero, List.set_cons_succ]))
  refine held_nil (fun w6 hS => ?_)
  obtain ⟨B6, o6, b6⟩ := hS
  have hb6 := hb4.trans b6
  have H6 := Lib.hid (HT1.out w6 X0 B6 o6)
  clear HT1 o6 o5 d1 hb4 B4 b6
  go_wp2_with fail
  refine H6.out.mono ?_
  rintro e w7 ⟨rfl, o7, b7⟩
  rw [← Hlm.out] at o7
  have o8 := o7.cast (show _ = Bk X0 39 #[.int .u8 0, .int .i64 (n : Int), .int .i64 (bk : Int)] * (Wr q (lenM s m n).1 * (MdV p a v { m with kinds := kindsM m 1, lens := (lenM s m n).2 } * R)) by
    rw [← mdv_lens (m := { m with kinds := kindsM m 1 })]
    simp only [Cb]
    ac_rfl)
  have hb8 := hb6.trans b7
  have B8 := Nat.le_trans B6 b7.size
  clear o7 b7 hb6 H6 B6
  obtain ⟨_, _, _, _, d2, c10⟩ := Hc.out w7 X0 _ _ o8
  have hl := HL
  rw [show ((bk - 1 : Nat) : Int) = (bk : Int) - 1 by have := HB.out; omega] at hl
  have Hl := Lib.hid hl.out
  clear HL hl
  have lz0 : (0 : Int) ≤ (lenN (bk - 1) : Int) := by omega
  have lz1 : (lenN (bk - 1) : Int) ≤ 15 := by omega
  go_wp2_with fail
  refine (Hl.out _).mono ?_
  rintro e wz ⟨rfl, rfl⟩
  have H8 := Lib.hid (HT2.out w7 X0 B8 o8)
  clear HT2 o8
  go_wp2_with fail
  refine H8.out.mono ?_
  rintro e w9 ⟨rfl, o9, b9⟩
  rw [← Hbm.out] at o9
  have o10 := o9.cast (show _ = Bk X0 39 #[.int .u8 0, .int .i64 (n : Int), .int .i64 (bk : Int)] * (Wr q (backM s m n bk).1 * (MdV p a v { m with kinds := kindsM m 1, lens := (lenM s m n).2, backs := (backM s m n bk).2 } * R)) by
    rw [← mdv_backs (m := { m with kinds := kindsM m 1, lens := (lenM s m n).2 })]
    simp only [Cb]
    ac_rfl)
  have hb10 := hb8.trans b9
  have B10 := Nat.le_trans B8 b9.size
  clear o9 b9 hb8 H8 B8 d2 c10
  obtain ⟨_, _, _, _, d2, _⟩ := Hc.out w9 X0 _ _ o10
  by_cases hz : lenN (bk - 1) = 0
  · have he : Hid (putMatch s m n bk = ((backM s m n bk).1, { m with kinds := kindsM m 1, lens := (lenM s m n).2, backs := (backM s m n bk).2 })) := Lib.hid (by rw [hpm.out, hz]; rfl)
    have H10 := Lib.hid (HE0.out w9 X0 o10)
    clear HE0 HE1 o10 hpm
    rw [hz]
    go_wp2_with fail
    refine H10.out.mono ?_
    rintro e w11 ⟨rfl, o11, b11⟩
    have o12 := o11.cast (show _ = Bk X0 39 #[.int .u8 0, .int .i64 (n : Int), .int .i64 (bk : Int)] * (Wr q (backM s m n bk).1 * (MdV p a v { m with kinds := kindsM m 1, lens := (lenM s m n).2, backs := (backM s m n bk).2 } * R)) by ac_rfl)
    have hb12 := hb10.trans b11
    clear o11 b11 hb10
    go_wp2
    go_end0
    rw [he.out]
    exact ⟨rfl, o12.drop, hb12⟩
  · have h10 := HE1.out w9 X0 B10 o10
    rw [show ((lenN (bk - 1) - 1 : Nat) : Int) = (lenN (bk - 1) : Int) - 1 by omega] at h10
    have H10 := Lib.hid h10
    clear HE0 HE1 o10 h10
    go_wp2_with fail
    refine H10.out.mono ?_
    rintro e w11 ⟨rfl, o11, b11⟩
    have o12 := o11.cast (show _ = Bk X0 39 #[.int .u8 0, .int .i64 (n : Int), .int .i64 (bk : Int)] * (Wr q (evenS (backM s m n bk).1 (bitsOf ((bk : Int) - 1) (lenN (bk - 1) - 1))) * (MdV p a v { m with kinds := kindsM m 1, lens := (lenM s m n).2, backs := (backM s m n bk).2 } * R)) by ac_rfl)
    have hb12 := hb10.trans b11
    clear o11 b11 hb10
    go_wp2
    go_end0
    rw [hpm.out]
    exact ⟨rfl, o12.drop, hb12⟩
end Go.Proofs.Ytedcficjmogohaa

/- What take of pack's model takes: plain. -/
namespace Go.Proofs.Ytedcficjmogohaa
set_option linter.unusedVariables false
set_option linter.unusedSimpArgs false
set_option maxRecDepth 100000
open Go.RowKit

def tkBit (s : RS) (m : MS) : Int := takeBit s (rBound s (kindN m))
def tkS (s : RS) (m : MS) : RS := takeS s (rBound s (kindN m))
def rLit (s : RS) (m : MS) : Nat × RS × List Int := rTree 8 (tkS s m) (m.lits (treeIx m.out)) 1
def takeLit (s : RS) (m : MS) : Tk × RS × MS :=
  (⟨UInt8.ofNat ((rLit s m).1 - 256), 0, 0⟩, (rLit s m).2.1, { m with kinds := kindsM m (tkBit s m), lits := upd m.lits (treeIx m.out) (rLit s m).2.2 })
def rLen (s : RS) (m : MS) : Nat × RS × List Int := rTree 8 (tkS s m) m.lens 1
def rBack (s : RS) (m : MS) : Nat × RS × List Int := rTree 4 (rLen s m).2.1 m.backs 1
def rN (s : RS) (m : MS) : Nat := (rBack s m).1 - 16
def rLow (s : RS) (m : MS) : Nat × RS := if rN s m = 0 then (0, (rBack s m).2.1) else rEven (rN s m - 1) (rBack s m).2.1 0
def takeMatch (s : RS) (m : MS) : Tk × RS × MS :=
  (⟨0, 3 + (((rLen s m).1 - 256 : Nat) : Int), if rN s m = 0 then 1 else 1 + ((2 ^ (rN s m - 1) + (rLow s m).1 : Nat) : Int)⟩, (rLow s m).2, { m with kinds := kindsM m (tkBit s m), lens := (rLen s m).2.2, backs := (rBack s m).2.2 })
def takeM (s : RS) (m : MS) : Tk × RS × MS := if tkBit s m = 0 then takeLit s m else takeMatch s m
theorem rTree_live : ∀ (k : Nat) (s : RS) (cl : List Int) (a : Nat), s.live → chOk cl → (rTree k s cl a).2.1.live ∧ chOk (rTree k s cl a).2.2 ∧ (rTree k s cl a).2.2.length = cl.length
  | 0, s, cl, a, h, hc => ⟨h, hc, rfl⟩
  | k + 1, s, cl, a, h, hc => by
    have hk := chOk_get hc a
    have hb := rBound_in h hk
    have ih := rTree_live k (takeS s (rBound s (cl.getD a 0))) (cl.set a (sawN (cl.getD a 0) (takeBit s (rBound s (cl.getD a 0))))) (2 * a + (takeBit s (rBound s (cl.getD a 0))).toNat) (takeS_live h hb.1 hb.2) (chOk_set hc _ _ (sawN_ok _ _ hk))
    exact ⟨ih.1, ih.2.1, ih.2.2.trans (List.length_set ..)⟩
theorem rEven_live : ∀ (k : Nat) (s : RS) (a : Nat), s.live → (rEven k s a).2.live
  | 0, s, a, h => h
  | k + 1, s, a, h => rEven_live k _ _ (takeS_live h (by have := h.wide; omega) (by have := h.wide; omega))
theorem tkS_live {s : RS} {m : MS} (h : s.live) (hm : m.ok) : (tkS s m).live := by
  have hk := chOk_get hm.ckinds m.kind
  have hb := rBound_in h hk
  exact takeS_live h hb.1 hb.2
theorem kindsM_ok {m : MS} (hm : m.ok) (b : Int) : chOk (kindsM m b) ∧ (kindsM m b).length = 2 :=
  ⟨chOk_set hm.ckinds _ _ (sawN_ok _ _ (chOk_get hm.ckinds m.kind)), by unfold kindsM; rw [List.length_set]; exact hm.kinds⟩
theorem rN_lt (s : RS) (m : MS) : rN s m ≤ 15 := by
  have := (rTree_ge 4 (rLen s m).2.1 m.backs 1).2
  unfold rN rBack
  omega
theorem takeLit_ok {s : RS} {m : MS} (h : s.live) (hm : m.ok) : (takeLit s m).2.1.live ∧ (takeLit s m).2.2.ok := by
  have hk := kindsM_ok hm (tkBit s m)
  obtain ⟨k1, k2, k3⟩ := rTree_live 8 (tkS s m) (m.lits (treeIx m.out)) 1 (tkS_live h hm) (hm.clits _)
  refine ⟨k1, ⟨hk.2, fun i => ?_, hm.lens, hm.backs, hm.kind, hk.1, fun i => ?_, hm.clens, hm.cbacks⟩⟩
  · show (upd m.lits _ _ i).length = 256
    unfold upd; split
    · exact k3.trans (hm.lits _)
    · exact hm.lits _
  · show chOk (upd m.lits _ _ i)
    unfold upd; split
    · exact k2
    · exact hm.clits _
theorem rLen_ok {s : RS} {m : MS} (h : s.live) (hm : m.ok) : (rLen s m).2.1.live ∧ chOk (rLen s m).2.2 ∧ (rLen s m).2.2.length = 256 := by
  obtain ⟨k1, k2, k3⟩ := rTree_live 8 (tkS s m) m.lens 1 (tkS_live h hm) hm.clens
  exact ⟨k1, k2, k3.trans hm.lens⟩
theorem rBack_ok {s : RS} {m : MS} (h : s.live) (hm : m.ok) : (rBack s m).2.1.live ∧ chOk (rBack s m).2.2 ∧ (rBack s m).2.2.length = 16 := by
  obtain ⟨k1, k2, k3⟩ := rTree_live 4 (rLen s m).2.1 m.backs 1 (rLen_ok h hm).1 hm.cbacks
  exact ⟨k1, k2, k3.trans hm.backs⟩
theorem takeMatch_ok {s : RS} {m : MS} (h : s.live) (hm : m.ok) : (takeMatch s m).2.1.live ∧ (takeMatch s m).2.2.ok := by
  have hk := kindsM_ok hm (tkBit s m)
  have hl := rLen_ok h hm
  have hb := rBack_ok h hm
  refine ⟨?_, ⟨hk.2, hm.lits, hl.2.2, hb.2.2, hm.kind, hk.1, hm.clits, hl.2.1, hb.2.1⟩⟩
  show (rLow s m).2.live
  unfold rLow
  split
  · exact hb.1
  · exact rEven_live _ _ _ hb.1
theorem takeM_ok {s : RS} {m : MS} (h : s.live) (hm : m.ok) : (takeM s m).2.1.live ∧ (takeM s m).2.2.ok ∧ (takeM s m).2.2.out = m.out := by
  unfold takeM
  split
  · exact ⟨(takeLit_ok h hm).1, (takeLit_ok h hm).2, rfl⟩
  · exact ⟨(takeMatch_ok h hm).1, (takeMatch_ok h hm).2, rfl⟩
end Go.Proofs.Ytedcficjmogohaa

/- The walk over take of pack's model, of a literal. -/
namespace Go.Proofs.Ytedcficjmogohaa
set_option linter.unusedVariables false
set_option linter.unusedSimpArgs false
set_option maxRecDepth 100000
open Go.RowKit

set_option maxHeartbeats 6400000 in
theorem take_lit (p q : Nat) (a : MA) (v : Value) (m : MS) (hm : m.ok) (hl : m.out.length ≤ 70000) (s : RS) (hs : s.live) (h0 : tkBit s m = 0) (B : Nat) (R : HP) [Loc B R] (w : World) (hB : B ≤ w.heap.size) (hO : Own B (Re q s * (MdV p a v m * R)) w) :
    Calls Try.prog 51 #[.pointer (some ⟨p, 0, none⟩), .pointer (some ⟨q, 0, none⟩)] w (Ret B w (.agg (tkL (takeLit s m).1).toArray) (Re q (takeLit s m).2.1 * (MdV p a v (takeLit s m).2.2 * R))) := by
  have o1 := hO.new hB 39 #[.int .u8 0, .int .i64 0, .int .i64 0]
  have b1 := (Below.refl B w).alloc hB (.cells #[.int .u8 0, .int .i64 0, .int .i64 0] 39)
  have B1 : B ≤ (w.alloc (.cells #[.int .u8 0, .int .i64 0, .int .i64 0] 39)).heap.size := by simp; omega
  have hC1 : ∃ C : HP, C = Bk w.heap.size 39 #[.int .u8 0, .int .i64 0, .int .i64 0] := ⟨_, rfl⟩
  have Hc := Lib.hid (fun (w1 : World) X (m1 : MS) (s1 : RS) (h : Own B (Bk X 39 #[.int .u8 0, .int .i64 0, .int .i64 0] * (Re q s1 * (MdV p a v m1 * R))) w1) =>
    (show w1.cell? ⟨p, 0, none⟩ = some (chSl a.gk 2) ∧ w1.cell? ⟨p, 11, none⟩ = some (.int .i64 (m1.kind : Int)) from
      ⟨(h.drop.drop.cast mdv_eq).cellOf p 0, (h.drop.drop.cast mdv_eq).cellOf p 11⟩))
  have hbit := tkS_live hs hm
  have Hb := Lib.hid (fun (w1 : World) X (B1 : B ≤ w1.heap.size) (h : Own B (Bk X 39 #[.int .u8 0, .int .i64 0, .int .i64 0] * (Re q s * (MdV p a v m * R))) w1) =>
    rbit_any q a.gk m.kind s m.kinds B _ w1 B1 hs hm.ckinds (by rw [hm.kinds]; exact hm.kind)
      (h.cast (show _ = Re q s * (Bk a.gk 106 (chV m.kinds) * (Bk X 39 #[.int .u8 0, .int .i64 0, .int .i64 0] * (Bk p 97 (mdA a m.kind v) * (Lt a m.lits * (Cb a.gn m.lens * (Cb a.gb m.backs * (Rw 5 1 v m.out.length (bytesU m.out) * R))))))) by rw [mdv_eq]; simp only [Cb]; ac_rfl)))
  have hk0 : takeBit s (rBound s (m.kinds.getD m.kind 0)) = 0 := h0
  rw [hk0] at Hb
  have k0 : (0 : Int) ≤ (m.kind : Int) := by omega
  have k2 : (m.kind : Int) < 2 := by have := hm.kind; omega
  simp only [chSl] at Hc
  clear hO hC1
  generalize hK : m.kind = K at Hc Hb k0 k2
  go_enter Try.func51, Try.ntmps51
  go_wp2
  generalize (w.alloc (.cells #[.int .u8 0, .int .i64 0, .int .i64 0] 39)) = W1 at *
  generalize w.heap.size = X0 at *
  refine wp_region_mix (St B _ W1) [0, 1, 2, 3, 4, 5, 6, 7, 8, 9] [10, 11] mixed (by kernel_rfl) rfl (St.drew B1 o1) ?_
  simp only [List.filterMap_cons, List.filterMap_nil, List.getElem?_toArray, List.getElem?_cons_succ, List.getElem?_cons_zero]
  repeat (first
    | (refine held_val ?_ rfl (fun w1 hS => ?_) ?_
       rotate_left
       · (have cs := Hc.out w1 X0 _ _ hS.2.1; rw [hK] at cs; obtain ⟨c0, c11⟩ := cs
          go_simp
          try go_bits
          rfl)
       simp only [Act.put, List.setIfInBounds_toArray, List.set_cons_zero, List.set_cons_succ])
    | (refine held_off rfl ?_
       simp only [Act.put, List.setIfInBounds_toArray, List.set_cons_zero, List.set_cons_succ]))
  refine held_nil (fun w1 hS => ?_)
  obtain ⟨B2, o2, b2⟩ := hS
  have hb2 := b1.trans b2
  clear o1 b1 b2 B1
  have Hb2 := Lib.hid (Hb.out w1 X0 B2 o2)
  clear Hb Hc o2
  go_wp2_with fail
  refine Hb2.out.mono ?_
  rintro e w4 ⟨rfl, o4, b4⟩
  subst hK
  have hb4 := hb2.trans b4
  have B4 := Nat.le_trans B2 b4.size
  have o5 := o4.cast (show _ = Bk X0 39 #[.int .u8 0, .int .i64 0, .int .i64 0] * (Re q (tkS s m) * (MdV p a v { m with kinds := kindsM m 0 } * R)) by
    rw [← mdv_kinds]
    show Re q (tkS s m) * (Cb a.gk (kindsM m 0) * _) = _
    simp only [Cb]
    ac_rfl)
  obtain ⟨L, hL, e2, e3⟩ := lt_upd a m.lits (treeIx m.out) (treeIx_lt _) (rLit s m).2.2
  have hLB := hL B
  have Ht := Lib.hid (fun (w1 : World) (B1 : B ≤ w1.heap.size) (h : Own B (Bk X0 39 #[.int .u8 0, .int .i64 0, .int .i64 0] * (Re q (tkS s m) * (MdV p a v { m with kinds := kindsM m 0 } * R))) w1) =>
    tree_any p a v { m with kinds := kindsM m 0 } hl B (Bk X0 39 #[.int .u8 0, .int .i64 0, .int .i64 0] * (Re q (tkS s m) * R)) w1 B1 (h.cast (by ac_rfl)))
  have Ht2 := Lib.hid (fun (w1 : World) (B1 : B ≤ w1.heap.size) (h : Own B (Bk X0 39 #[.int .u8 0, .int .i64 0, .int .i64 0] * (Re q (tkS s m) * (MdV p a v { m with kinds := kindsM m 0 } * R))) w1) =>
    rtree_any q (a.gl (treeIx m.out)) (tkS s m) (m.lits (treeIx m.out)) 8 (by omega) (by rw [hm.lits]; decide) (by rw [hm.lits]; omega) B (L * (Bk X0 39 #[.int .u8 0, .int .i64 0, .int .i64 0] * (Bk p 97 (mdA a m.kind v) * (Cb a.gk (kindsM m 0) * (Cb a.gn m.lens * (Cb a.gb m.backs * (Rw 5 1 v m.out.length (bytesU m.out) * R))))))) w1 B1 hbit (hm.clits _)
      (h.cast (by
        rw [← mdv_lits (m := { m with kinds := kindsM m 0 }) (f := m.lits), e2]
        show _ = Re q (tkS s m) * (Bk (a.gl (treeIx m.out)) _ _ * (L * _))
        simp only [Cb]
        ac_rfl)) 256)
  rw [hm.lits] at Ht2
  have hge := rTree_ge 8 (tkS s m) (m.lits (treeIx m.out)) 1
  have hres : treeRes 8 (tkS s m) (m.lits (treeIx m.out)) = (((rLit s m).1 - 256 : Nat) : Int) := by unfold treeRes rLit; omega
  have hx : (rLit s m).1 - 256 < 256 := by unfold rLit; omega
  have eT : Hid (takeLit s m = (⟨UInt8.ofNat ((rLit s m).1 - 256), 0, 0⟩, (rLit s m).2.1, { m with kinds := kindsM m 0, lits := upd m.lits (treeIx m.out) (rLit s m).2.2 })) := Lib.hid (by unfold takeLit; rw [h0])
  have eU : ((UInt8.ofNat ((rLit s m).1 - 256)).toNat : Int) = (((rLit s m).1 - 256 : Nat) : Int) := by simp; omega
  rw [hres] at Ht2
  have eR : Hid (rTree 8 (tkS s m) (m.lits (treeIx m.out)) 1 = rLit s m) := Lib.hid rfl
  have EU := Lib.hid eU
  clear Hb2 hb2 B2 b4 o4 hbit hL hge hres hk0 h0 hs eU
  generalize (rLit s m).1 - 256 = X at *
  have x0 : (0 : Int) ≤ (X : Int) := by omega
  have x1 : (X : Int) < 256 := by omega
  go_wp2_with fail
  refine (Ht.out _ B4 o5).mono ?_
  rintro e w6 ⟨rfl, o6, b6⟩
  have hb6 := hb4.trans b6
  have B6 := Nat.le_trans B4 b6.size
  have H6 := Lib.hid (Ht2.out w6 B6 (o6.cast (by ac_rfl)))
  clear Ht Ht2 o6 o5 hb4 B4 b6
  simp only [chSl]
  go_wp2_with fail
  refine H6.out.mono ?_
  rintro e w7 ⟨rfl, o7, b7⟩
  rw [eR.out] at o7
  have o8 := o7.cast (show _ = Bk X0 39 #[.int .u8 0, .int .i64 0, .int .i64 0] * (Re q (rLit s m).2.1 * (MdV p a v { m with kinds := kindsM m 0, lits := upd m.lits (treeIx m.out) (rLit s m).2.2 } * R)) by
    rw [← mdv_lits (m := { m with kinds := kindsM m 0 }), e3]
    simp only [Cb]
    ac_rfl)
  have hb7 := hb6.trans b7
  have B7 := Nat.le_trans B6 b7.size
  clear o7 b7 hb6 H6
  have p0 : w7.cell? ⟨X0, 0, none⟩ = some (.int .u8 0) := o8.cell 0
  have p1 : w7.cell? ⟨X0, 1, none⟩ = some (.int .i64 0) := o8.cell 1
  have p2 : w7.cell? ⟨X0, 2, none⟩ = some (.int .i64 0) := o8.cell 2
  have v0 := o8.unfrozen 0
  have v1 := o8.unfrozen 1
  have v2 := o8.unfrozen 2
  obtain ⟨os, bs⟩ := o8.set3 B7 (.int .u8 (X : Int)) (.int .i64 0) (.int .i64 0)
  go_wp2
  refine bodyPost_ret (results_cell_row rfl _ _ X0 39 #[.int .u8 (X : Int), .int .i64 0, .int .i64 0] (0, 0) _ rfl os.bk.1 Try.underlying39 rfl (by kernel_rfl)) rfl ?_
  rw [eT.out]
  exact ⟨by simp only [tkL, EU.out], os.drop, hb7.trans bs⟩
end Go.Proofs.Ytedcficjmogohaa

/- The walk over take of pack's model, of a match. -/
namespace Go.Proofs.Ytedcficjmogohaa
set_option linter.unusedVariables false
set_option linter.unusedSimpArgs false
set_option maxRecDepth 100000
open Go.RowKit

theorem or_pow (n e : Nat) (hn : n ≤ 14) (he : e < 2 ^ n) : bits .or .i64 ((2 ^ n : Nat) : Int) (e : Int) = ((2 ^ n + e : Nat) : Int) := by
  have h1 : 2 ^ n ≤ 2 ^ 14 := Nat.pow_le_pow_right (by omega) hn
  have h2 : 2 ^ n ||| e = 2 ^ n + e := by
    have := Nat.two_pow_add_eq_or_of_lt he 1
    rw [Nat.mul_one] at this
    exact this.symm
  generalize hP : 2 ^ n = P at *
  show IntKind.i64.wrap ((BitVec.ofInt 64 (P : Int) ||| BitVec.ofInt 64 (e : Int)).toNat : Int) = _
  rw [BitVec.toNat_or, BitVec.toNat_ofInt, BitVec.toNat_ofInt, IntKind.wrap_i64, show ((((P : Int) % ((2 ^ 64 : Nat) : Int)).toNat)) = P by omega, show (((e : Int) % ((2 ^ 64 : Nat) : Int)).toNat) = e by omega, h2]
  omega
theorem wrap_pow (n : Nat) (hn : n ≤ 14) : wrap64 ((2 : Int) ^ n) = ((2 ^ n : Nat) : Int) := by
  have : (List.range 15).all (fun n => decide (wrap64 ((2 : Int) ^ n) = ((2 ^ n : Nat) : Int))) = true := by kernel_rfl
  exact of_decide_eq_true (List.all_eq_true.1 this n (List.mem_range.2 (by omega)))
set_option maxHeartbeats 6400000 in
theorem take_match (p q : Nat) (a : MA) (v : Value) (m : MS) (hm : m.ok) (s : RS) (hs : s.live) (h0 : tkBit s m = 1) (B : Nat) (R : HP) [Loc B R] (w : World) (hB : B ≤ w.heap.size) (hO : Own B (Re q s * (MdV p a v m * R)) w) :
    Calls Try.prog 51 #[.pointer (some ⟨p, 0, none⟩), .pointer (some ⟨q, 0, none⟩)] w (Ret B w (.agg (tkL (takeMatch s m).1).toArray) (Re q (takeMatch s m).2.1 * (MdV p a v (takeMatch s m).2.2 * R))) := by
  have o1 := hO.new hB 39 #[.int .u8 0, .int .i64 0, .int .i64 0]
  have b1 := (Below.refl B w).alloc hB (.cells #[.int .u8 0, .int .i64 0, .int .i64 0] 39)
  have B1 : B ≤ (w.alloc (.cells #[.int .u8 0, .int .i64 0, .int .i64 0] 39)).heap.size := by simp; omega
  have Hc := Lib.hid (fun (w1 : World) (R2 : HP) (m1 : MS) (s1 : RS) (h : Own B (R2 * (Re q s1 * (MdV p a v m1 * R))) w1) =>
    (show w1.cell? ⟨p, 0, none⟩ = some (chSl a.gk 2) ∧ w1.cell? ⟨p, 11, none⟩ = some (.int .i64 (m1.kind : Int)) ∧ w1.cell? ⟨p, 9, none⟩ = some (chSl a.gn 256) ∧ w1.cell? ⟨p, 10, none⟩ = some (chSl a.gb 16) from
      ⟨(h.drop.drop.cast mdv_eq).cellOf p 0, (h.drop.drop.cast mdv_eq).cellOf p 11, (h.drop.drop.cast mdv_eq).cellOf p 9, (h.drop.drop.cast mdv_eq).cellOf p 10⟩))
  have Hb := Lib.hid (fun (w1 : World) X (B1 : B ≤ w1.heap.size) (h : Own B (Bk X 39 #[.int .u8 0, .int .i64 0, .int .i64 0] * (Re q s * (MdV p a v m * R))) w1) =>
    rbit_any q a.gk m.kind s m.kinds B _ w1 B1 hs hm.ckinds (by rw [hm.kinds]; exact hm.kind)
      (h.cast (show _ = Re q s * (Bk a.gk 106 (chV m.kinds) * (Bk X 39 #[.int .u8 0, .int .i64 0, .int .i64 0] * (Bk p 97 (mdA a m.kind v) * (Lt a m.lits * (Cb a.gn m.lens * (Cb a.gb m.backs * (Rw 5 1 v m.out.length (bytesU m.out) * R))))))) by rw [mdv_eq]; simp only [Cb]; ac_rfl)))
  have hk0 : takeBit s (rBound s (m.kinds.getD m.kind 0)) = 1 := h0
  rw [hk0] at Hb
  have hbit := tkS_live hs hm
  have hlen := rLen_ok hs hm
  have hbak := rBack_ok hs hm
  have l15 := rN_lt s m
  have HT1 := Lib.hid (fun (w1 : World) X (B1 : B ≤ w1.heap.size) (h : Own B (Bk X 39 #[.int .u8 0, .int .i64 0, .int .i64 0] * (Re q (tkS s m) * (MdV p a v { m with kinds := kindsM m 1 } * R))) w1) =>
    rtree_any q a.gn (tkS s m) m.lens 8 (by omega) (by rw [hm.lens]; decide) (by rw [hm.lens]; omega) B (Bk X 39 #[.int .u8 0, .int .i64 0, .int .i64 0] * (Bk p 97 (mdA a m.kind v) * (Cb a.gk (kindsM m 1) * (Lt a m.lits * (Cb a.gb m.backs * (Rw 5 1 v m.out.length (bytesU m.out) * R)))))) w1 B1 hbit hm.clens
      (h.cast (by
        rw [← mdv_lens (m := { m with kinds := kindsM m 1 }) (k := m.lens)]
        simp only [Cb]
        ac_rfl)) 256)
  have HT2 := Lib.hid (fun (w1 : World) (R2 : HP) (_ : Loc B R2) (B1 : B ≤ w1.heap.size) (h : Own B (R2 * (Re q (rLen s m).2.1 * (MdV p a v { m with kinds := kindsM m 1, lens := (rLen s m).2.2 } * R))) w1) =>
    rtree_any q a.gb (rLen s m).2.1 m.backs 4 (by omega) (by rw [hm.backs]; decide) (by rw [hm.backs]; omega) B (R2 * (Bk p 97 (mdA a m.kind v) * (Cb a.gk (kindsM m 1) * (Lt a m.lits * (Cb a.gn (rLen s m).2.2 * (Rw 5 1 v m.out.length (bytesU m.out) * R)))))) w1 B1 hlen.1 hm.cbacks
      (h.cast (by
        rw [← mdv_backs (m := { m with kinds := kindsM m 1, lens := (rLen s m).2.2 }) (k := m.backs)]
        simp only [Cb]
        ac_rfl)) 16)
  have HE1 := Lib.hid (fun (w1 : World) (R2 : HP) (_ : Loc B R2) (B1 : B ≤ w1.heap.size) (h : Own B (R2 * (Re q (rBack s m).2.1 * (MdV p a v { m with kinds := kindsM m 1, lens := (rLen s m).2.2, backs := (rBack s m).2.2 } * R))) w1) =>
    reven_any q (rBack s m).2.1 (rN s m - 1) (by omega) B (R2 * (MdV p a v { m with kinds := kindsM m 1, lens := (rLen s m).2.2, backs := (rBack s m).2.2 } * R)) w1 B1 hbak.1 (h.cast (by ac_rfl)))
  have hg1 := rTree_ge 8 (tkS s m) m.lens 1
  have hg2 := rTree_ge 4 (rLen s m).2.1 m.backs 1
  have hr1 : treeRes 8 (tkS s m) m.lens = (((rLen s m).1 - 256 : Nat) : Int) := by unfold treeRes rLen; omega
  have hr2 : treeRes 4 (rLen s m).2.1 m.backs = ((rN s m : Nat) : Int) := by unfold treeRes rN rBack; omega
  have hx : (rLen s m).1 - 256 < 256 := by unfold rLen; omega
  rw [hr1] at HT1
  rw [hr2] at HT2
  rw [hm.lens] at HT1
  rw [hm.backs] at HT2
  have eT : Hid (takeMatch s m = (⟨0, 3 + (((rLen s m).1 - 256 : Nat) : Int), if rN s m = 0 then 1 else 1 + ((2 ^ (rN s m - 1) + (rLow s m).1 : Nat) : Int)⟩, (rLow s m).2, { m with kinds := kindsM m 1, lens := (rLen s m).2.2, backs := (rBack s m).2.2 })) := Lib.hid (by unfold takeMatch; rw [h0])
  have eL : Hid (rTree 8 (tkS s m) m.lens 1 = rLen s m) := Lib.hid rfl
  have eB : Hid (rTree 4 (rLen s m).2.1 m.backs 1 = rBack s m) := Lib.hid rfl
  have eW : Hid (rLow s m = if rN s m = 0 then (0, (rBack s m).2.1) else rEven (rN s m - 1) (rBack s m).2.1 0) := Lib.hid rfl
  have k0 : (0 : Int) ≤ (m.kind : Int) := by omega
  have k2 : (m.kind : Int) < 2 := by have := hm.kind; omega
  simp only [chSl] at Hc
  clear hO hbit hlen hbak hg1 hg2 hr1 hr2 hk0 h0 hs
  generalize hK : m.kind = K at Hc Hb k0 k2
  go_enter Try.func51, Try.ntmps51
  go_wp2
  generalize (w.alloc (.cells #[.int .u8 0, .int .i64 0, .int .i64 0] 39)) = W1 at *
  generalize w.heap.size = X0 at *
  refine wp_region_mix (St B _ W1) [0, 1, 2, 3, 4, 5, 6, 7, 8, 9] [10, 11] mixed (by kernel_rfl) rfl (St.drew B1 o1) ?_
  simp only [List.filterMap_cons, List.filterMap_nil, List.getElem?_toArray, List.getElem?_cons_succ, List.getElem?_cons_zero]
  repeat (first
    | (refine held_val ?_ rfl (fun w1 hS => ?_) ?_
       rotate_left
       · (have cs := Hc.out w1 _ _ _ hS.2.1; rw [hK] at cs; obtain ⟨c0, c11, c9, c10⟩ := cs
          go_simp
          try go_bits
          rfl)
       simp only [Act.put, List.setIfInBounds_toArray, List.set_cons_zero, List.set_cons_succ])
    | (refine held_off rfl ?_
       simp only [Act.put, List.setIfInBounds_toArray, List.set_cons_zero, List.set_cons_succ]))
  refine held_nil (fun w1 hS => ?_)
  obtain ⟨B2, o2, b2⟩ := hS
  have hb2 := b1.trans b2
  clear o1 b1 b2 B1
  have Hb2 := Lib.hid (Hb.out w1 X0 B2 o2)
  clear Hb o2
  go_wp2_with fail
  refine Hb2.out.mono ?_
  rintro e w4 ⟨rfl, o4, b4⟩
  subst hK
  have hb4 := hb2.trans b4
  have B4 := Nat.le_trans B2 b4.size
  have o5 := o4.cast (show _ = Bk X0 39 #[.int .u8 0, .int .i64 0, .int .i64 0] * (Re q (tkS s m) * (MdV p a v { m with kinds := kindsM m 1 } * R)) by
    rw [← mdv_kinds]
    show Re q (tkS s m) * (Cb a.gk (kindsM m 1) * _) = _
    simp only [Cb]
    ac_rfl)
  clear Hb2 hb2 B2 b4 o4
  obtain ⟨_, _, c9, _⟩ := Hc.out w4 _ _ _ o5
  have H5 := Lib.hid (HT1.out w4 X0 B4 o5)
  clear HT1 o5
  go_wp2_with fail
  refine H5.out.mono ?_
  rintro e w7 ⟨rfl, o7, b7⟩
  rw [eL.out] at o7
  have o8 := o7.cast (show _ = Bk X0 39 #[.int .u8 0, .int .i64 0, .int .i64 0] * (Re q (rLen s m).2.1 * (MdV p a v { m with kinds := kindsM m 1, lens := (rLen s m).2.2 } * R)) by
    rw [← mdv_lens (m := { m with kinds := kindsM m 1 })]
    simp only [Cb]
    ac_rfl)
  have hb8 := hb4.trans b7
  have B8 := Nat.le_trans B4 b7.size
  clear o7 b7 hb4 H5 B4 c9
  generalize (rLen s m).1 - 256 = X at *
  have x0 : (0 : Int) ≤ (X : Int) := by omega
  have x1 : (X : Int) < 256 := by omega
  have o9 := o8.new B8 39 #[.int .u8 0, .int .i64 (3 + (X : Int)), .int .i64 1]
  have b9 := hb8.alloc B8 (.cells #[.int .u8 0, .int .i64 (3 + (X : Int)), .int .i64 1] 39)
  have B9 : B ≤ (w7.alloc (.cells #[.int .u8 0, .int .i64 (3 + (X : Int)), .int .i64 1] 39)).heap.size := by simp; omega
  have c10 := (Hc.out _ _ _ _ (o9.assoc')).2.2.2
  have H9 := Lib.hid (HT2.out _ _ inferInstance B9 o9.assoc')
  clear o8 HT2 hb8 o9
  go_wp2_with fail
  refine H9.out.mono ?_
  rintro e w10 ⟨rfl, o10, b10⟩
  rw [eB.out] at o10
  generalize w7.heap.size = Y at *
  have o11 := o10.cast (show _ = Bk Y 39 #[.int .u8 0, .int .i64 (3 + (X : Int)), .int .i64 1] * (Bk X0 39 #[.int .u8 0, .int .i64 0, .int .i64 0] * (Re q (rBack s m).2.1 * (MdV p a v { m with kinds := kindsM m 1, lens := (rLen s m).2.2, backs := (rBack s m).2.2 } * R))) by
    rw [← mdv_backs (m := { m with kinds := kindsM m 1, lens := (rLen s m).2.2 })]
    simp only [Cb]
    ac_rfl)
  have hb11 := b9.trans b10
  have B11 := Nat.le_trans B9 b10.size
  clear o10 b10 b9 H9 B9 c10 Hc
  by_cases hz : rN s m = 0
  · have eT2 : Hid (takeMatch s m = (⟨0, 3 + (X : Int), 1⟩, (rBack s m).2.1, { m with kinds := kindsM m 1, lens := (rLen s m).2.2, backs := (rBack s m).2.2 })) := Lib.hid (by rw [eT.out, eW.out, if_pos hz, if_pos hz])
    clear eT eW HE1
    have eT := eT2
    clear eT2
    rw [hz]
    have g0 : w10.cell? ⟨Y, 0, none⟩ = some (.int .u8 0) := o11.cell 0
    have g1 : w10.cell? ⟨Y, 1, none⟩ = some (.int .i64 (3 + (X : Int))) := o11.cell 1
    have g2 : w10.cell? ⟨Y, 2, none⟩ = some (.int .i64 1) := o11.cell 2
    have p0 : w10.cell? ⟨X0, 0, none⟩ = some (.int .u8 0) := o11.cellOf X0 0
    have p1 : w10.cell? ⟨X0, 1, none⟩ = some (.int .i64 0) := o11.cellOf X0 1
    have p2 : w10.cell? ⟨X0, 2, none⟩ = some (.int .i64 0) := o11.cellOf X0 2
    have v0 := o11.freeOf X0 0
    have v1 := o11.freeOf X0 1
    have v2 := o11.freeOf X0 2
    obtain ⟨os, bs⟩ := (o11.cast (sep_left_comm _ _ _)).set3 B11 (.int .u8 0) (.int .i64 (3 + (X : Int))) (.int .i64 1)
    go_wp2
    refine bodyPost_ret (results_cell_row rfl _ _ X0 39 #[.int .u8 0, .int .i64 (3 + (X : Int)), .int .i64 1] (0, 0) _ rfl os.bk.1 Try.underlying39 rfl (by kernel_rfl)) rfl ?_
    rw [eT.out]
    exact ⟨by simp only [tkL, Int.natCast_zero]; rfl, os.drop.drop, (hb11).trans bs⟩
  · obtain ⟨N1, hN⟩ : ∃ N1, rN s m = N1 + 1 := ⟨rN s m - 1, by omega⟩
    have he := HE1.out
    rw [hN, show N1 + 1 - 1 = N1 by omega] at he
    have hlow : rLow s m = rEven N1 (rBack s m).2.1 0 := by rw [eW.out, if_neg hz, hN, show N1 + 1 - 1 = N1 by omega]
    have hlt := rEven_lt N1 (rBack s m).2.1 0
    have eT2 : Hid (takeMatch s m = (⟨0, 3 + (X : Int), 1 + ((2 ^ N1 + (rEven N1 (rBack s m).2.1 0).1 : Nat) : Int)⟩, (rEven N1 (rBack s m).2.1 0).2, { m with kinds := kindsM m 1, lens := (rLen s m).2.2, backs := (rBack s m).2.2 })) := Lib.hid (by rw [eT.out, hlow, if_neg hz, hN, show N1 + 1 - 1 = N1 by omega])
    clear eT eW HE1 hlow
    have eT := eT2
    clear eT2 hz
    rw [hN] at l15 ⊢
    have n0 : (0 : Int) ≤ (N1 : Int) := by omega
    have n1 : (N1 : Int) ≤ 14 := by omega
    have hor := or_pow N1 (rEven N1 (rBack s m).2.1 0).1 (by omega) (by simpa using hlt)
    have hwp := wrap_pow N1 (by omega)
    have hp14 : 2 ^ N1 ≤ 2 ^ 14 := Nat.pow_le_pow_right (by omega) (show N1 ≤ 14 by omega)
    have hev : evenRes N1 (rBack s m).2.1 = ((rEven N1 (rBack s m).2.1 0).1 : Int) := rfl
    rw [hev] at he
    have HE := Lib.hid he
    rw [Nat.zero_add, Nat.one_mul] at hlt
    clear he hN hev
    generalize hre : rEven N1 (rBack s m).2.1 0 = re at *
    obtain ⟨re1, re2⟩ := re
    generalize 2 ^ N1 = P at *
    simp only at hor hlt
    have p0' : (0 : Int) ≤ (P : Int) := by omega
    have p1' : (P : Int) ≤ 16384 := by omega
    have e0' : (0 : Int) ≤ (re1 : Int) := by omega
    have e1' : (re1 : Int) ≤ 16384 := by omega
    have hpe : ((P + re1 : Nat) : Int) = (P : Int) + (re1 : Int) := by omega
    rw [hpe] at hor
    have Hre := Lib.hid hre
    clear hre hlt hp14
    go_wp2
    refine wp_region_umix (St B _ w10) [0, 1, 2] [3, 4, 5] [6, 7, 8, 9, 10] mixed (by kernel_rfl) rfl (fun _ _ _ _ _ h => h) (St.drew B11 o11) ?_
    simp only [List.filterMap_cons, List.filterMap_nil, List.getElem?_toArray, List.getElem?_cons_succ, List.getElem?_cons_zero]
    repeat (
      refine free_val ?_ rfl (fun w1 => ?_) ?_
      rotate_left
      · (go_simp
         try go_bits
         rfl)
      simp only [Act.put, List.setIfInBounds_toArray, List.set_cons_zero, List.set_cons_succ])
    refine free_nil ?_
    rw [hwp]
    repeat (first
      | (refine held_val ?_ rfl (fun w1 hS => ?_) ?_
         rotate_left
         · (skip
            go_simp
            try go_bits
            rfl)
         simp only [Act.put, List.setIfInBounds_toArray, List.set_cons_zero, List.set_cons_succ])
      | (refine held_off rfl ?_
         simp only [Act.put, List.setIfInBounds_toArray, List.set_cons_zero, List.set_cons_succ]))
    refine held_nil (fun w12 hS => ?_)
    obtain ⟨B12, o12, b12⟩ := hS
    have hb12 := hb11.trans b12
    have H12 := Lib.hid (HE.out w12 _ inferInstance B12 o12.assoc')
    clear HE o12 b12 hb11 o11 B11
    go_wp2_with fail
    refine H12.out.mono ?_
    rintro e w13 ⟨rfl, o13, b13⟩
    have o14 := o13.cast (show _ = Bk Y 39 #[.int .u8 0, .int .i64 (3 + (X : Int)), .int .i64 1] * (Bk X0 39 #[.int .u8 0, .int .i64 0, .int .i64 0] * (Re q re2 * (MdV p a v { m with kinds := kindsM m 1, lens := (rLen s m).2.2, backs := (rBack s m).2.2 } * R))) by ac_rfl)
    have hb14 := hb12.trans b13
    have B14 := Nat.le_trans B12 b13.size
    have y2 : w13.cell? ⟨Y, 2, none⟩ = some (.int .i64 1) := o14.cell 2
    have y2f := o14.unfrozen 2
    have o15 := o14.set B14 2 (.int .i64 (1 + ((P : Int) + (re1 : Int))))
    have b15 := o14.below_set 2 (.int .i64 (1 + ((P : Int) + (re1 : Int))))
    have hb15 := hb14.trans b15
    have B15 := Nat.le_trans B14 b15.size
    clear o13 b13 hb12 H12 B12 b15
    have eT3 : Hid (takeMatch s m = (⟨0, 3 + (X : Int), 1 + ((P : Int) + (re1 : Int))⟩, re2, { m with kinds := kindsM m 1, lens := (rLen s m).2.2, backs := (rBack s m).2.2 })) := Lib.hid (by rw [eT.out, hpe])
    clear eT o14 hb14 B14 hpe
    have eT := eT3
    clear eT3
    have g0 : (w13.setCell ⟨Y, 2, none⟩ (.int .i64 (1 + ((P : Int) + (re1 : Int))))).cell? ⟨Y, 0, none⟩ = some (.int .u8 0) := o15.cell 0
    have g1 : (w13.setCell ⟨Y, 2, none⟩ (.int .i64 (1 + ((P : Int) + (re1 : Int))))).cell? ⟨Y, 1, none⟩ = some (.int .i64 (3 + (X : Int))) := o15.cell 1
    have g2 : (w13.setCell ⟨Y, 2, none⟩ (.int .i64 (1 + ((P : Int) + (re1 : Int))))).cell? ⟨Y, 2, none⟩ = some (.int .i64 (1 + ((P : Int) + (re1 : Int)))) := o15.cell 2
    have p0 : (w13.setCell ⟨Y, 2, none⟩ (.int .i64 (1 + ((P : Int) + (re1 : Int))))).cell? ⟨X0, 0, none⟩ = some (.int .u8 0) := o15.cellOf X0 0
    have p1 : (w13.setCell ⟨Y, 2, none⟩ (.int .i64 (1 + ((P : Int) + (re1 : Int))))).cell? ⟨X0, 1, none⟩ = some (.int .i64 0) := o15.cellOf X0 1
    have p2 : (w13.setCell ⟨Y, 2, none⟩ (.int .i64 (1 + ((P : Int) + (re1 : Int))))).cell? ⟨X0, 2, none⟩ = some (.int .i64 0) := o15.cellOf X0 2
    have v0 := o15.freeOf X0 0
    have v1 := o15.freeOf X0 1
    have v2 := o15.freeOf X0 2
    obtain ⟨os, bs⟩ := (o15.cast (sep_left_comm _ _ _)).set3 B15 (.int .u8 0) (.int .i64 (3 + (X : Int))) (.int .i64 (1 + ((P : Int) + (re1 : Int))))
    go_wp2
    refine bodyPost_ret (results_cell_row rfl _ _ X0 39 #[.int .u8 0, .int .i64 (3 + (X : Int)), .int .i64 (1 + ((P : Int) + (re1 : Int)))] (0, 0) _ rfl os.bk.1 Try.underlying39 rfl (by kernel_rfl)) rfl ?_
    rw [eT.out]
    exact ⟨by simp only [tkL, Int.natCast_zero]; rfl, os.drop.drop, (hb15).trans bs⟩
end Go.Proofs.Ytedcficjmogohaa

/- put and saw of pack's model, of whatever token may stand; what Write tells: plain. -/
namespace Go.Proofs.Ytedcficjmogohaa
set_option linter.unusedVariables false
set_option linter.unusedSimpArgs false
set_option maxRecDepth 100000
open Go.RowKit

theorem putm_any (p q : Nat) (a : MA) (v : Value) (m : MS) (hm : m.ok) (hl : m.out.length ≤ 70000) (t : Tk) (ht : rightP t) (s : WS) (r : Int) (hr : 0 ≤ r) (hs : s.gd (r + 28)) (B : Nat) (R : HP) [Loc B R] (w : World) (hB : B ≤ w.heap.size) (hO : Own B (Wr q s * (MdV p a v m * R)) w) :
    Calls Try.prog 33 #[.pointer (some ⟨p, 0, none⟩), .pointer (some ⟨q, 0, none⟩), .agg (tkL t).toArray] w (Ret B w (.tuple #[]) (Wr q (putT s m t).1 * (MdV p a v (putT s m t).2 * R))) := by
  obtain ⟨lit, len, back⟩ := t
  unfold putT
  rcases ht with ⟨h1, h2⟩ | ⟨h1, h2, h3, h4, h5⟩
  · simp only at h1 h2
    subst h1; subst h2
    rw [if_pos rfl]
    exact put_lit p q a v m hm hl lit s r hr (hs.less (by omega)) B R w hB hO
  · simp only at h1 h2 h3 h4 h5
    subst h5
    obtain ⟨n, rfl⟩ : ∃ n : Nat, len = (n : Int) := ⟨len.toNat, by omega⟩
    obtain ⟨bk, rfl⟩ : ∃ n : Nat, back = (n : Int) := ⟨back.toNat, by omega⟩
    rw [if_neg (by simp only; omega)]
    exact put_match p q a v m hm n bk (by omega) (by omega) s r hr hs B R w hB hO
theorem sawm_any (p : Nat) (a : MA) (v : Value) (m : MS) (t : Tk) (N : Int) (hN : N ≤ 65536) (ht : fitsP m.out t N) (B : Nat) (R : HP) [Loc B R] (w : World) (hB : B ≤ w.heap.size) (hO : Own B (MdV p a v m * R) w) :
    Calls Try.prog 34 #[.pointer (some ⟨p, 0, none⟩), .agg (tkL t).toArray] w (Ret B w (.tuple #[]) (Md p a (sawM m t) * R)) := by
  obtain ⟨lit, len, back⟩ := t
  obtain ⟨ht, hb, hn⟩ := ht
  rcases ht with ⟨h1, h2⟩ | ⟨h1, h2, h3, h4, h5⟩
  · simp only at h1 h2
    subst h1; subst h2
    have : (1 : Int) ≤ maxT ⟨lit, 0, 0⟩ := by unfold maxT; simp
    exact saw_lit p a v m (by omega) lit B R w hB hO
  · simp only at h1 h2 h3 h4 h5 hb
    subst h5
    obtain ⟨n, rfl⟩ : ∃ n : Nat, len = (n : Int) := ⟨len.toNat, by omega⟩
    obtain ⟨bk, rfl⟩ : ∃ n : Nat, back = (n : Int) := ⟨back.toNat, by omega⟩
    have : maxT ⟨0, n, bk⟩ = (n : Int) := by unfold maxT; rw [if_neg (by simp only; omega)]
    exact saw_match p a v m n bk (by omega) (by omega) (by omega) (by omega) B R w hB hO
theorem putT_ok {s : WS} {m : MS} {room : Int} {t : Tk} (ht : rightP t) (hr : 0 ≤ room) (hm : m.ok) (h : s.gd (room + 28)) : (putT s m t).1.gd room ∧ (putT s m t).2.ok ∧ (putT s m t).2.out = m.out := by
  unfold putT
  rcases ht with ⟨h1, h2⟩ | ⟨h1, h2, h3, h4, h5⟩
  · rw [if_pos h1]
    exact ⟨(putLit_ok _ hr hm (h.less (by omega))).1, (putLit_ok _ hr hm (h.less (by omega))).2, rfl⟩
  · rw [if_neg (by omega)]
    have := putMatch_ok (s := s) (m := m) t.len.toNat t.back.toNat (by omega) hr hm h
    exact ⟨this.1, this.2, rfl⟩
theorem sawM_ok {m : MS} (hm : m.ok) (t : Tk) : (sawM m t).ok := ⟨hm.kinds, hm.lits, hm.lens, hm.backs, by unfold sawM; simp only; split <;> omega, hm.ckinds, hm.clits, hm.clens, hm.cbacks⟩
/-- A token behind the others, if it may stand. -/
def wrT (x : WS × MS) (t : Tk) : WS × MS := if fitsP x.2.out t 65536 then ((putT x.1 x.2 t).1, sawM (putT x.1 x.2 t).2 t) else x
def wrN (l : List Tk) : WS × MS := l.foldl wrT (begin0, ms0)
def writeN (l : List Tk) : List Int := (endS (wrN l).1).out
theorem wrT_ok {x : WS × MS} {t : Tk} {room : Int} (hr : 0 ≤ room) (h : x.1.gd (room + 28)) (hm : x.2.ok) : (wrT x t).1.gd room ∧ (wrT x t).2.ok := by
  unfold wrT
  split
  · rename_i hf
    have := putT_ok hf.1 hr hm h
    exact ⟨this.1, sawM_ok this.2.1 t⟩
  · exact ⟨h.less (by omega), hm⟩
theorem wrT_out {x : WS × MS} {t : Tk} (hm : x.2.ok) (h : (x.2.out.length : Int) ≤ 65536) : ((wrT x t).2.out.length : Int) ≤ 65536 := by
  unfold wrT
  split
  · rename_i hf
    have h2 := sawT_len x.2.out t hf.1
    have : (putT x.1 x.2 t).2.out = x.2.out := by unfold putT; split <;> rfl
    show ((sawT (putT x.1 x.2 t).2.out t).length : Int) ≤ 65536
    rw [this, h2]
    exact hf.2.2
  · exact h
theorem wrN_snoc (l : List Tk) (t : Tk) : wrN (l ++ [t]) = wrT (wrN l) t := by unfold wrN; rw [List.foldl_append]; rfl
end Go.Proofs.Ytedcficjmogohaa

/- The walk over Write of package pack. -/
namespace Go.Proofs.Ytedcficjmogohaa
set_option linter.unusedVariables false
set_option linter.unusedSimpArgs false
set_option maxRecDepth 100000
open Go.RowKit

theorem wrN_gd (l : List Tk) (room : Int) (hr : 0 ≤ room) (hl : room + 28 * (l.length : Int) ≤ 1099511627776) : (wrN l).1.gd room ∧ (wrN l).2.ok ∧ ((wrN l).2.out.length : Int) ≤ 65536 := by
  have h : ∀ (n : Nat) (l : List Tk), l.length = n → ∀ room : Int, 0 ≤ room → room + 28 * (l.length : Int) ≤ 1099511627776 → (wrN l).1.gd room ∧ (wrN l).2.ok ∧ ((wrN l).2.out.length : Int) ≤ 65536 := by
    intro n
    induction n with
    | zero =>
      intro l hl room hr h
      obtain rfl : l = [] := List.eq_nil_of_length_eq_zero hl
      exact ⟨begin0_gd room hr (by simp at h; omega), ms0_ok, by show ((0 : Nat) : Int) ≤ _; omega⟩
    | succ n ih =>
      intro l hl room hr h
      have hne : l ≠ [] := by intro e; subst e; simp at hl
      have e := List.dropLast_concat_getLast hne
      have hd : l.dropLast.length = n := by rw [List.length_dropLast]; omega
      obtain ⟨k1, k2, k3⟩ := ih l.dropLast hd (room + 28) (by omega) (by rw [hd]; rw [hl] at h; omega)
      rw [← e, wrN_snoc]
      have := wrT_ok (t := l.getLast hne) hr k1 k2
      exact ⟨this.1, this.2, wrT_out k2 k3⟩
  exact h l.length l rfl room hr hl

def RetW (w : World) (l : List Int) (e : Ending) (w' : World) : Prop := ∃ v, e = .returned v ∧ w'.ownsRow w.heap.size 5 1 v l.length (bytesV l) ∧ Below w.heap.size w w'
set_option maxHeartbeats 6400000 in
theorem write_any (A : Option Addr) (c : Nat) (l : List Tk) (hl : l.length ≤ 4294967296) (w : World) (hr : RdA 3 tkL w A l) :
    Calls Try.prog 17 #[.slice A l.length c] w (RetW w (writeN l)) := by
  have Hr := Lib.hid (fun w1 (b : Below w.heap.size w w1) => hr.below b)
  have hb0 := Below.refl w.heap.size w
  have n1 : (l.length : Int) ≤ 4294967296 := by omega
  have hO := Own.start w.heap.size w
  have HG := Lib.hid (fun i (hi : i ≤ l.length) => wrN_gd (l.take i) (28 * ((l.length : Int) - (i : Int)) + 100) (by omega) (by rw [List.length_take, Nat.min_eq_left hi]; omega))
  have HB := Lib.hid (begin_any w.heap.size Emp w (Nat.le_refl _) hO)
  clear hr hO
  go_enter Try.func17, Try.ntmps17
  go_wp2_with fail
  refine HB.out.mono ?_
  rintro e w1 ⟨q, rfl, o1, b1⟩
  have hb1 := hb0.trans b1
  have B1 := b1.size
  clear HB hb0 b1
  go_wp2_with fail
  refine (mbegin_any w.heap.size _ w1 B1 o1).mono ?_
  rintro e w2 ⟨p, a, rfl, o2, b2⟩
  have hb2 := hb1.trans b2
  clear o1 b2 hb1 B1
  go_wp2
  go_loopg [11] l.length (fun k u wr => ∃ i : Nat, k + i = l.length ∧ u = .int .i64 (i : Int) ∧ Below w.heap.size w wr ∧ Own w.heap.size (Wr q (wrN (l.take i)).1 * (Md p a (wrN (l.take i)).2 * Emp)) wr)
  case atStart => exact ⟨0, by omega, rfl, hb2, o2.cast (by rw [List.take_zero]; exact sep_left_comm _ _ _)⟩
  case round =>
    clear o2 hb2
    obtain ⟨i, hk, rfl, hb, ho⟩ := hrel
    have i0 : (0 : Int) ≤ (i : Int) := by omega
    obtain ⟨g1, g2, g3⟩ := HG.out i (by omega)
    obtain ⟨v, ho⟩ := (ho.cast (sep_left_comm _ _ _)).hex
    have ho := ho.cast (sep_left_comm _ _ _)
    have Bw := hb.size
    by_cases hlt : (i : Int) < (l.length : Int)
    · obtain ⟨j, rfl⟩ : ∃ j, gk = j + 1 := ⟨gk - 1, by omega⟩
      have hil : i < l.length := by omega
      obtain ⟨b, off, rfl, _, d⟩ := Hr.out _ hb i hil
      have Hs : Hid (wrN (l.take (i + 1)) = wrT (wrN (l.take i)) l[i]) := Lib.hid (by rw [List.take_succ_eq_append_getElem hil, wrN_snoc])
      have Hk := Lib.hid hk
      have hg1 := g1.less (show (28 : Int) + 28 ≤ 28 * ((l.length : Int) - (i : Int)) + 100 by omega)
      clear hk g1
      generalize l[i] = t at *
      generalize wrN (l.take i) = x at *
      obtain ⟨s, m⟩ := x
      simp only at g2 g3 hg1 ho
      obtain ⟨d0, d1, d2⟩ := RdA.cells3 d
      clear d
      have o3 := ho.new Bw 39 #[.int .u8 (t.lit.toNat : Int), .int .i64 t.len, .int .i64 t.back]
      have b3 := hb.alloc Bw (.cells #[.int .u8 (t.lit.toNat : Int), .int .i64 t.len, .int .i64 t.back] 39)
      have HF := Lib.hid (fun w1 B1 (h : Own w.heap.size (Bk wr.heap.size 39 #[.int .u8 (t.lit.toNat : Int), .int .i64 t.len, .int .i64 t.back] * (Wr q s * (MdV p a v m * Emp))) w1) =>
        fits_any p a v m (by omega) t 65536 (by omega) (by omega) w.heap.size (Bk wr.heap.size 39 #[.int .u8 (t.lit.toNat : Int), .int .i64 t.len, .int .i64 t.back] * (Wr q s * Emp)) w1 B1 (h.cast (by ac_rfl)))
      simp only [tkL] at HF
      clear ho
      generalize hX0 : wr.heap.size = X0 at *
      go_wp2_with fail
      refine (HF.out _ b3.size o3).mono ?_
      rintro e w4 ⟨rfl, o4, b4⟩
      have hb4 := b3.trans b4
      have B4 := hb4.size
      have o5 := o4.cast (show _ = Bk X0 39 #[.int .u8 (t.lit.toNat : Int), .int .i64 t.len, .int .i64 t.back] * (Wr q s * (MdV p a v m * Emp)) by ac_rfl)
      clear HF o3 b3 o4 b4 d0 d1 d2
      have x0 : w4.cell? ⟨X0, 0, none⟩ = some (.int .u8 (t.lit.toNat : Int)) := o5.cell 0
      have x1 : w4.cell? ⟨X0, 1, none⟩ = some (.int .i64 t.len) := o5.cell 1
      have x2 : w4.cell? ⟨X0, 2, none⟩ = some (.int .i64 t.back) := o5.cell 2
      by_cases hf : fitsP m.out t 65536
      · have hft : fitsT m.out t 65536 = true := decide_eq_true hf
        rw [hft]
        have Hw : Hid (wrT (s, m) t = ((putT s m t).1, sawM (putT s m t).2 t)) := Lib.hid (by unfold wrT; rw [if_pos hf])
        have hpo := putT_ok (t := t) hf.1 (room := 28) (by omega) g2 hg1
        have HP := Lib.hid (putm_any p q a v m g2 (by omega) t hf.1 s 28 (by omega) hg1 w.heap.size (Bk X0 39 #[.int .u8 (t.lit.toNat : Int), .int .i64 t.len, .int .i64 t.back] * Emp) w4 B4 (o5.cast (by ac_rfl)))
        have HS := Lib.hid (fun w1 B1 (h : Own w.heap.size (Wr q (putT s m t).1 * (MdV p a v (putT s m t).2 * (Bk X0 39 #[.int .u8 (t.lit.toNat : Int), .int .i64 t.len, .int .i64 t.back] * Emp))) w1) =>
          sawm_any p a v (putT s m t).2 t 65536 (by omega) (by rw [hpo.2.2]; exact hf) w.heap.size (Wr q (putT s m t).1 * (Bk X0 39 #[.int .u8 (t.lit.toNat : Int), .int .i64 t.len, .int .i64 t.back] * Emp)) w1 B1 (h.cast (by ac_rfl)))
        simp only [tkL] at HP HS
        clear hpo hf hft g2 g3 hg1 o5
        generalize putT s m t = y at *
        obtain ⟨s', m'⟩ := y
        simp only at HP HS Hw
        go_wp2_with fail
        refine HP.out.mono ?_
        rintro e w6 ⟨rfl, o6, b6⟩
        have hb6 := hb4.trans b6
        have B6 := hb6.size
        have o7 := o6.cast (show _ = Bk X0 39 #[.int .u8 (t.lit.toNat : Int), .int .i64 t.len, .int .i64 t.back] * (Wr q s' * (MdV p a v m' * Emp)) by ac_rfl)
        have H7 := Lib.hid (HS.out w6 B6 o6)
        clear HP HS o6 b6 hb4 B4 x0 x1 x2
        have x0 : w6.cell? ⟨X0, 0, none⟩ = some (.int .u8 (t.lit.toNat : Int)) := o7.cell 0
        have x1 : w6.cell? ⟨X0, 1, none⟩ = some (.int .i64 t.len) := o7.cell 1
        have x2 : w6.cell? ⟨X0, 2, none⟩ = some (.int .i64 t.back) := o7.cell 2
        clear o7
        go_wp2_with fail
        refine H7.out.mono ?_
        rintro e w8 ⟨rfl, o8, b8⟩
        have hb8 := hb6.trans b8
        have O9 := Lib.hid (Own.drop (o8.cast (show _ = Bk X0 39 #[.int .u8 (t.lit.toNat : Int), .int .i64 t.len, .int .i64 t.back] * (Wr q s' * (Md p a (sawM m' t) * Emp)) by ac_rfl)))
        clear o8 b8 hb6 H7
        go_wp2
        go_roundg j
        case measure => omega
        case rel => exact ⟨i + 1, by have := Hk.out; omega, rfl, hb8, by rw [Hs.out, Hw.out]; exact O9.out⟩
      · have hft : fitsT m.out t 65536 = false := decide_eq_false hf
        rw [hft]
        have Hw : Hid (wrT (s, m) t = (s, m)) := Lib.hid (by unfold wrT; rw [if_neg hf])
        have O9 := Lib.hid (((o5.drop.cast (sep_left_comm _ _ _)).to_hex (A := fun v => MdV p a v m) v).cast (sep_left_comm _ _ _))
        clear o5 hf hft
        go_wp2
        go_roundg j
        case measure => omega
        case rel => exact ⟨i + 1, by have := Hk.out; omega, rfl, hb4, by rw [Hs.out, Hw.out]; exact O9.out⟩
    · obtain rfl : i = l.length := by omega
      rw [List.take_length] at ho g1
      have HE := Lib.hid (end_live q (wrN l).1 w.heap.size (MdV p a v (wrN l).2 * Emp) wr Bw ⟨g1.live.ok, by have := g1.live.room; omega⟩ g1.live.dn ho)
      go_wp2_with fail
      refine HE.out.mono ?_
      rintro e w9 ⟨v9, rfl, o9, b9⟩
      have hb9 := hb.trans b9
      have O9 := Lib.hid o9
      clear o9
      go_wp2
      go_ret
      exact ⟨v9, rfl, O9.out.row, hb9⟩
end Go.Proofs.Ytedcficjmogohaa

/- take of pack's model undoes put: plain. -/
namespace Go.Proofs.Ytedcficjmogohaa
set_option linter.unusedVariables false
set_option linter.unusedSimpArgs false
set_option maxRecDepth 100000

theorem bit_pt {s : WS} {m : MS} {rT : RW} {room b : Int} (hr : 0 ≤ room) (hm : m.ok) (g : s.gd (room + 1)) (hp : Pt (rOf (bitM s m b)) rT) : Pt (rOf s) rT := by
  have hk := chOk_get hm.ckinds m.kind
  have hb := bitBound_in g.live hk
  have h := putS_gd b hr g hb.1 hb.2
  unfold bitM at hp
  unfold kindN at hp
  rw [h.2] at hp
  exact pt_back b g.good hb.1 hb.2 hp
theorem bit_dec {s : WS} {m : MS} {q : RS} {rT : RW} {room roomT b : Int} (hr : 0 ≤ room) (gT : rT.ok roomT) (hm : m.ok) (hb01 : b = 0 ∨ b = 1) (g : s.gd (room + 1)) (hp : Pt (rOf (bitM s m b)) rT) (hd : Dec (rOf s) q (rend rT)) :
    tkBit q m = b ∧ Dec (rOf (bitM s m b)) (tkS q m) (rend rT) := by
  have hk := chOk_get hm.ckinds m.kind
  have hb := bitBound_in g.live hk
  have h := putS_gd b hr g hb.1 hb.2
  have hw : rBound q (kindN m) = bitBound s (m.kinds.getD m.kind 0) := by unfold rBound bitBound kindN; rw [hd.width]; rfl
  unfold tkBit tkS bitM
  rw [hw]
  unfold bitM at hp
  unfold kindN at hp ⊢
  rw [h.2] at hp ⊢
  exact dec_step g.good gT hb.1 hb.2 hb01 hp hd
theorem lit_pt {s : WS} {m : MS} {rT : RW} {room : Int} (lit : UInt8) (hr : 0 ≤ room) (hm : m.ok) (g : s.gd (room + 9)) (hp : Pt (rOf (putLit s m lit).1) rT) : Pt (rOf s) rT := by
  have h1 := bitM_gd (s := s) 0 (room := room + 8) (by omega) hm (g.less (by omega))
  exact bit_pt (b := 0) (room := room + 8) (by omega) hm (g.less (by omega)) (tree_pt _ _ _ _ room hr (hm.clits _) (h1.1.less (by rw [bitsOf_len']; omega)) hp)
theorem lit_dec {s : WS} {m : MS} {q : RS} {rT : RW} {room roomT : Int} (lit : UInt8) (hr : 0 ≤ room) (gT : rT.ok roomT) (hm : m.ok) (g : s.gd (room + 9)) (hp : Pt (rOf (putLit s m lit).1) rT) (hd : Dec (rOf s) q (rend rT)) :
    ∃ q', takeM q m = (⟨lit, 0, 0⟩, q', (putLit s m lit).2) ∧ Dec (rOf (putLit s m lit).1) q' (rend rT) := by
  have h1 := bitM_gd (s := s) 0 (room := room + 8) (by omega) hm (g.less (by omega))
  have h2 : Pt (rOf (bitM s m 0)) rT := tree_pt _ _ _ _ room hr (hm.clits _) (h1.1.less (by rw [bitsOf_len']; omega)) hp
  have hb := bit_dec (b := 0) (room := room + 8) (by omega) gT hm (.inl rfl) (g.less (by omega)) h2 hd
  have ht := tree_dec gT (bitsOf lit.toNat 8) (bitM s m 0) (tkS q m) (m.lits (treeIx m.out)) 1 room hr (bitsOf_bits _ _) (hm.clits _) (h1.1.less (by rw [bitsOf_len']; omega)) hp hb.2
  rw [bitsOf_len'] at ht
  have hv := val_bitsOf (lit.toNat : Int) 8 1
  have hlt := lit.toNat_lt
  have hval : val 1 (bitsOf lit.toNat 8) - 256 = lit.toNat := by omega
  refine ⟨(rLit q m).2.1, ?_, ht.2.2⟩
  unfold takeM
  rw [if_pos hb.1]
  unfold takeLit putLit
  rw [hb.1]
  have e1 : (rLit q m).1 - 256 = lit.toNat := by unfold rLit; rw [ht.1]; exact hval
  have e2 : (rLit q m).2.2 = (treeS (bitM s m 0) (m.lits (treeIx m.out)) 1 (bitsOf lit.toNat 8)).2 := ht.2.1
  rw [e1, e2, UInt8.ofNat_toNat]
theorem lenN_pow (n : Nat) (h : n ≠ 0) : 1 ≤ lenN n ∧ 2 ^ (lenN n - 1) ≤ n ∧ n < 2 * 2 ^ (lenN n - 1) := by
  unfold lenN
  rw [if_neg h]
  refine ⟨by omega, ?_, ?_⟩
  · rw [Nat.add_sub_cancel]; exact Nat.log2_self_le h
  · rw [Nat.add_sub_cancel]
    have : n < 2 ^ (Nat.log2 n + 1) := Nat.lt_log2_self
    rw [Nat.pow_succ] at this
    omega
theorem match_pt {s : WS} {m : MS} {rT : RW} {room : Int} (n bk : Nat) (hbk : 1 ≤ bk ∧ bk ≤ 32768) (hr : 0 ≤ room) (hm : m.ok) (g : s.gd (room + 28)) (hp : Pt (rOf (putMatch s m n bk).1) rT) :
    Pt (rOf (backM s m n bk).1) rT ∧ Pt (rOf (lenM s m n).1) rT ∧ Pt (rOf (bitM s m 1)) rT ∧ Pt (rOf s) rT := by
  have hl := lenN_15 (bk - 1) (by omega)
  have b1 := backM_ok (s := s) n bk (room := room + 15) (by omega) hm (g.less (by omega))
  have l1 := lenM_ok (s := s) n (room := room + 19) (by omega) hm (g.less (by omega))
  have h1 := bitM_gd (s := s) 1 (room := room + 27) (by omega) hm (g.less (by omega))
  have p1 : Pt (rOf (backM s m n bk).1) rT := even_pt _ _ room hr (b1.1.less (by rw [bitsOf_len']; omega)) hp
  have p2 : Pt (rOf (lenM s m n).1) rT := tree_pt _ _ _ _ (room + 15) (by omega) hm.cbacks (l1.1.less (by rw [bitsOf_len']; omega)) p1
  have p3 : Pt (rOf (bitM s m 1)) rT := tree_pt _ _ _ _ (room + 19) (by omega) hm.clens (h1.1.less (by rw [bitsOf_len']; omega)) p2
  exact ⟨p1, p2, p3, bit_pt (b := 1) (room := room + 27) (by omega) hm (g.less (by omega)) p3⟩
theorem match_dec {s : WS} {m : MS} {q : RS} {rT : RW} {room roomT : Int} (n bk : Nat) (hn : 3 ≤ n ∧ n ≤ 258) (hbk : 1 ≤ bk ∧ bk ≤ 32768) (hr : 0 ≤ room) (gT : rT.ok roomT) (hm : m.ok) (g : s.gd (room + 28)) (hp : Pt (rOf (putMatch s m n bk).1) rT) (hd : Dec (rOf s) q (rend rT)) :
    ∃ q', takeM q m = (⟨0, n, bk⟩, q', (putMatch s m n bk).2) ∧ Dec (rOf (putMatch s m n bk).1) q' (rend rT) := by
  obtain ⟨p1, p2, p3, p4⟩ := match_pt n bk hbk hr hm g hp
  have hl := lenN_15 (bk - 1) (by omega)
  have b1 := backM_ok (s := s) n bk (room := room + 15) (by omega) hm (g.less (by omega))
  have l1 := lenM_ok (s := s) n (room := room + 19) (by omega) hm (g.less (by omega))
  have h1 := bitM_gd (s := s) 1 (room := room + 27) (by omega) hm (g.less (by omega))
  have d1 := bit_dec (b := 1) (room := room + 27) (by omega) gT hm (.inr rfl) (g.less (by omega)) p3 hd
  have d2 := tree_dec gT (bitsOf ((n : Int) - 3) 8) (bitM s m 1) (tkS q m) m.lens 1 (room + 19) (by omega) (bitsOf_bits _ _) hm.clens (h1.1.less (by rw [bitsOf_len']; omega)) p2 d1.2
  rw [bitsOf_len'] at d2
  have e1 : (rLen q m).1 - 256 = n - 3 := by
    have hv := val_bitsOf ((n : Int) - 3) 8 1
    unfold rLen
    rw [d2.1]
    omega
  have e2 : (rLen q m).2.2 = (lenM s m n).2 := d2.2.1
  have d3 := tree_dec gT (bitsOf (lenN (bk - 1)) 4) (lenM s m n).1 (rLen q m).2.1 m.backs 1 (room + 15) (by omega) (bitsOf_bits _ _) hm.cbacks (l1.1.less (by rw [bitsOf_len']; omega)) p1 d2.2.2
  rw [bitsOf_len'] at d3
  have e3 : rN q m = lenN (bk - 1) := by
    have hv := val_bitsOf (lenN (bk - 1) : Int) 4 1
    unfold rN rBack
    rw [d3.1]
    omega
  have e4 : (rBack q m).2.2 = (backM s m n bk).2 := d3.2.1
  have d4 := even_dec gT (bitsOf ((bk : Int) - 1) (lenN (bk - 1) - 1)) (backM s m n bk).1 (rBack q m).2.1 0 room hr (bitsOf_bits _ _) (b1.1.less (by rw [bitsOf_len']; omega)) hp d3.2.2
  rw [bitsOf_len'] at d4
  have e5 : rLow q m = if lenN (bk - 1) = 0 then (0, (rBack q m).2.1) else rEven (lenN (bk - 1) - 1) (rBack q m).2.1 0 := by unfold rLow; rw [e3]
  refine ⟨(rLow q m).2, ?_, ?_⟩
  · unfold takeM
    rw [if_neg (by rw [d1.1]; decide)]
    unfold takeMatch putMatch
    rw [d1.1, e1, e2, e3, e4]
    have hlen : 3 + ((n - 3 : Nat) : Int) = (n : Int) := by omega
    have hback : (if lenN (bk - 1) = 0 then (1 : Int) else 1 + ((2 ^ (lenN (bk - 1) - 1) + (rLow q m).1 : Nat) : Int)) = (bk : Int) := by
      by_cases hz : bk - 1 = 0
      · have : lenN (bk - 1) = 0 := by rw [hz]; rfl
        rw [if_pos this]
        omega
      · obtain ⟨k1, k2, k3⟩ := lenN_pow (bk - 1) hz
        rw [if_neg (by omega), e5, if_neg (by omega), d4.1]
        have hv := val_bitsOf ((bk : Int) - 1) (lenN (bk - 1) - 1) 0
        have hpw : ((2 : Int) ^ (lenN (bk - 1) - 1)) = ((2 ^ (lenN (bk - 1) - 1) : Nat) : Int) := by simp
        rw [hpw] at hv
        generalize 2 ^ (lenN (bk - 1) - 1) = P at *
        have hmod : ((bk : Int) - 1) % (P : Int) = (bk : Int) - 1 - P := by
          have h1 : (bk - 1) % P = bk - 1 - P := by rw [Nat.mod_eq_sub_mod k2, Nat.mod_eq_of_lt (by omega)]
          rw [show (bk : Int) - 1 = ((bk - 1 : Nat) : Int) by omega, ← Int.natCast_emod, h1]
          omega
        rw [hmod] at hv
        omega
    rw [hlen, hback]
  · rw [e5]
    by_cases hz : lenN (bk - 1) = 0
    · rw [if_pos hz]
      show Dec (rOf (evenS _ (bitsOf _ (lenN (bk - 1) - 1)))) _ _
      rw [hz]
      exact d3.2.2
    · rw [if_neg hz]
      exact d4.2
theorem put_pt {s : WS} {m : MS} {rT : RW} {room : Int} {t : Tk} (ht : rightP t) (hr : 0 ≤ room) (hm : m.ok) (g : s.gd (room + 28)) (hp : Pt (rOf (putT s m t).1) rT) : Pt (rOf s) rT := by
  unfold putT at hp
  rcases ht with ⟨h1, h2⟩ | ⟨h1, h2, h3, h4, h5⟩
  · rw [if_pos h1] at hp
    exact lit_pt t.lit hr hm (g.less (by omega)) hp
  · rw [if_neg (by omega)] at hp
    exact (match_pt _ _ (by omega) hr hm g hp).2.2.2
theorem put_dec {s : WS} {m : MS} {q : RS} {rT : RW} {room roomT : Int} {t : Tk} (ht : rightP t) (hr : 0 ≤ room) (gT : rT.ok roomT) (hm : m.ok) (g : s.gd (room + 28)) (hp : Pt (rOf (putT s m t).1) rT) (hd : Dec (rOf s) q (rend rT)) :
    ∃ q', takeM q m = (t, q', (putT s m t).2) ∧ Dec (rOf (putT s m t).1) q' (rend rT) := by
  obtain ⟨lit, len, back⟩ := t
  unfold putT at hp ⊢
  rcases ht with ⟨h1, h2⟩ | ⟨h1, h2, h3, h4, h5⟩
  · simp only at h1 h2
    subst h1; subst h2
    rw [if_pos rfl] at hp ⊢
    exact lit_dec lit hr gT hm (g.less (by omega)) hp hd
  · simp only at h1 h2 h3 h4 h5
    subst h5
    obtain ⟨n, rfl⟩ : ∃ n : Nat, len = (n : Int) := ⟨len.toNat, by omega⟩
    obtain ⟨bk, rfl⟩ : ∃ n : Nat, back = (n : Int) := ⟨back.toNat, by omega⟩
    rw [if_neg (by simp only; omega)] at hp ⊢
    exact match_dec n bk (by omega) (by omega) hr gT hm g hp hd
end Go.Proofs.Ytedcficjmogohaa

/- What read of package pack reads, and that it reads what was written: plain. -/
namespace Go.Proofs.Ytedcficjmogohaa
set_option linter.unusedVariables false
set_option linter.unusedSimpArgs false
set_option maxRecDepth 100000

def rdN (n : Nat) : Nat → RS → MS → List Tk → Option (List Tk × RS × MS)
  | 0, _, _, _ => none
  | k + 1, q, m, acc =>
    if m.out.length < n then
      if fitsP (takeM q m).2.2.out (takeM q m).1 n then rdN n k (takeM q m).2.1 (sawM (takeM q m).2.2 (takeM q m).1) (acc ++ [(takeM q m).1]) else none
    else some (acc, q, m)
theorem fitsP_more {out : List UInt8} {t : Tk} {n n' : Int} (h : fitsP out t n) (hn : n ≤ n') : fitsP out t n' := ⟨h.1, h.2.1, by have := h.2.2; omega⟩
theorem maxT_ge (t : Tk) : 1 ≤ maxT t := by unfold maxT; split <;> omega
theorem putT_out (s : WS) (m : MS) (t : Tk) : (putT s m t).2.out = m.out := by unfold putT; split <;> rfl
theorem wr_pt {rT : RW} : ∀ (l : List Tk) (x : WS × MS) (room : Int), 0 ≤ room → x.2.ok → x.1.gd (room + 28 * (l.length : Int)) → Pt (rOf (l.foldl wrT x).1) rT → Pt (rOf x.1) rT
  | [], x, room, _, _, _, h => h
  | t :: l, x, room, hr, hm, g, h => by
    have g1 : x.1.gd (room + 28 * (l.length : Int) + 28) := g.less (by rw [List.length_cons]; omega)
    have hk := wrT_ok (t := t) (x := x) (room := room + 28 * (l.length : Int)) (by omega) g1 hm
    have ih := wr_pt l (wrT x t) room hr hk.2 hk.1 h
    unfold wrT at ih
    split at ih
    · rename_i hf
      exact put_pt hf.1 (room := room + 28 * (l.length : Int)) (by omega) hm g1 ih
    · exact ih
theorem rd_wr {rT : RW} {roomT : Int} (gT : rT.ok roomT) (n : Nat) (hn : n ≤ 65536) (b : List UInt8) (hb : b.length = n) : ∀ (l : List Tk) (s : WS) (m : MS) (q : RS) (acc : List Tk) (room : Int) (k : Nat), 0 ≤ room → m.ok → s.gd (room + 28 * (l.length : Int)) → expT n l m.out = some b →
    Pt (rOf (l.foldl wrT (s, m)).1) rT → Dec (rOf s) q (rend rT) → l.length < k → ∃ q' m', rdN n k q m acc = some (acc ++ l, q', m') ∧ m'.out = b ∧ Dec (rOf (l.foldl wrT (s, m)).1) q' (rend rT)
  | [], s, m, q, acc, room, k, hr, hm, g, he, hp, hd, hk => by
    obtain ⟨j, rfl⟩ : ∃ j, k = j + 1 := ⟨k - 1, by simp at hk; omega⟩
    injection he with he
    refine ⟨q, m, ?_, he, hd⟩
    rw [rdN, if_neg (by rw [he, hb]; omega), List.append_nil]
  | t :: l, s, m, q, acc, room, k, hr, hm, g, he, hp, hd, hk => by
    obtain ⟨j, rfl⟩ : ∃ j, k = j + 1 := ⟨k - 1, by omega⟩
    rw [expT] at he
    by_cases hf : fitsP m.out t n
    · rw [if_pos hf] at he
      have hf6 : fitsP m.out t 65536 := fitsP_more hf (by omega)
      have hw : wrT (s, m) t = ((putT s m t).1, sawM (putT s m t).2 t) := by unfold wrT; rw [if_pos hf6]
      have g1 : s.gd (room + 28 * (l.length : Int) + 28) := g.less (by rw [List.length_cons]; omega)
      have hk2 := putT_ok (t := t) hf.1 (room := room + 28 * (l.length : Int)) (by omega) hm g1
      rw [List.foldl_cons, hw] at hp
      have hp1 : Pt (rOf (putT s m t).1) rT := wr_pt l ((putT s m t).1, sawM (putT s m t).2 t) room hr (sawM_ok hk2.2.1 t) hk2.1 hp
      obtain ⟨q1, e1, d1⟩ := put_dec (room := room + 28 * (l.length : Int)) hf.1 (by omega) gT hm g1 hp1 hd
      have he2 : expT n l (sawM (putT s m t).2 t).out = some b := by
        show expT n l (sawT (putT s m t).2.out t) = some b
        rw [putT_out]
        exact he
      obtain ⟨q', m', h1, h2, h3⟩ := rd_wr gT n hn b hb l (putT s m t).1 (sawM (putT s m t).2 t) q1 (acc ++ [t]) room j hr (sawM_ok hk2.2.1 t) hk2.1 he2 hp d1 (by rw [List.length_cons] at hk; omega)
      refine ⟨q', m', ?_, h2, ?_⟩
      · have hlt : m.out.length < n := by have := hf.2.2; have := maxT_ge t; omega
        rw [rdN, if_pos hlt, e1]
        simp only
        rw [if_pos (by rw [putT_out]; exact hf), h1, List.append_assoc]
        rfl
      · rw [List.foldl_cons, hw]
        exact h3
    · rw [if_neg hf] at he
      cases he
end Go.Proofs.Ytedcficjmogohaa

/- read of what Write told: plain. -/
namespace Go.Proofs.Ytedcficjmogohaa
set_option linter.unusedVariables false
set_option linter.unusedSimpArgs false
set_option maxRecDepth 100000

/-- What read answers: tokens, bytes, an error's number. -/
def readN (x : List Int) (n : Int) : List Tk × List UInt8 × Int :=
  if n < 0 ∨ 65536 < n then ([], [], 1)
  else match rdN n.toNat (n.toNat + 1) (openS x) ms0 [] with
    | none => ([], [], 4)
    | some (l, q, m) => if q.e = 0 then if q.rem = [] then (l, m.out, 0) else ([], [], 5) else ([], [], q.e)
theorem read_write (l : List Tk) (b : List UInt8) (hb : b.length ≤ 65536) (he : expT b.length l [] = some b) : readN (writeN l) b.length = (l, b, 0) := by
  have hlen := (expT_len (n := (b.length : Int)) l [] b (by simp) he).2
  have hl : l.length ≤ b.length := by simpa using hlen
  have g0 : begin0.gd (1000 + 28 * (l.length : Int)) := begin0_gd _ (by omega) (by omega)
  have hg := wrN_gd l 1000 (by omega) (by omega)
  have gT := hg.1.good.ok
  have hw : (writeN l) = rend (rOf (wrN l).1) := end_rel hg.1.live (by omega) hg.1.calm (rel_rOf _)
  have hpos : 0 < (rOf (wrN l).1).width := by have := hg.1.live.wide; show 0 < (wrN l).1.width; omega
  have hd : Dec (rOf begin0) (openS (rend (rOf (wrN l).1))) (rend (rOf (wrN l).1)) := open_dec gT
  obtain ⟨q', m', h1, h2, h3⟩ := rd_wr gT b.length hb b rfl l begin0 ms0 (openS (rend (rOf (wrN l).1))) [] 1000 (b.length + 1) (by omega) ms0_ok g0 he (Pt.self hpos) hd (by omega)
  unfold readN
  rw [if_neg (by omega), hw, Int.toNat_natCast, h1]
  simp only [List.nil_append]
  rw [if_pos h3.e, if_pos (dec_end h3), h2]
end Go.Proofs.Ytedcficjmogohaa

/- take of pack's model, whatever comes; the walk over read. -/
namespace Go.Proofs.Ytedcficjmogohaa
set_option linter.unusedVariables false
set_option linter.unusedSimpArgs false
set_option maxRecDepth 100000
open Go.RowKit

theorem takem_any (p q : Nat) (a : MA) (v : Value) (m : MS) (hm : m.ok) (hl : m.out.length ≤ 70000) (s : RS) (hs : s.live) (B : Nat) (R : HP) [Loc B R] (w : World) (hB : B ≤ w.heap.size) (hO : Own B (Re q s * (MdV p a v m * R)) w) :
    Calls Try.prog 51 #[.pointer (some ⟨p, 0, none⟩), .pointer (some ⟨q, 0, none⟩)] w (Ret B w (.agg (tkL (takeM s m).1).toArray) (Re q (takeM s m).2.1 * (MdV p a v (takeM s m).2.2 * R))) := by
  unfold takeM
  rcases takeBit_01 s (rBound s (kindN m)) with h | h
  · rw [if_pos (show tkBit s m = 0 from h)]
    exact take_lit p q a v m hm hl s hs h B R w hB hO
  · rw [if_neg (by rw [show tkBit s m = 1 from h]; decide)]
    exact take_match p q a v m hm s hs h B R w hB hO

def RetRd (w : World) (r : List Tk × List UInt8 × Int) (e : Ending) (w' : World) : Prop :=
  ∃ A1 c1 A2 c2, e = .returned (.tuple #[.slice A1 r.1.length c1, .slice A2 r.2.1.length c2, .int .i64 r.2.2]) ∧ RdA 3 tkL w' A1 r.1 ∧ Rd w' (.slice A2 r.2.1.length c2) (bytesU r.2.1) ∧ (r.1.length ≤ c1 ∧ c1 ≤ 9223372036854775807) ∧ (r.2.1.length ≤ c2 ∧ c2 ≤ 9223372036854775807) ∧ Below w.heap.size w w'
theorem RetRd.err {w w' : World} {z : Int} {e : Ending} (he : e = .returned (.tuple #[.slice none 0 0, .slice none 0 0, .int .i64 z])) (hb : Below w.heap.size w w') : RetRd w ([], [], z) e w' :=
  ⟨none, 0, none, 0, he, RdA.nil, Rd.nil _, by simp, by simp, hb⟩

set_option maxHeartbeats 6400000 in
theorem read_any (x : List Int) (vx : Value) (hx : bytesOk x) (hl : x.length ≤ 1099511627776) (n : Int) (hn1 : -9223372036854775808 ≤ n) (hn2 : n ≤ 9223372036854775807) (w : World) (hr : Rd w vx (bytesV x)) :
    Calls Try.prog 26 #[vx, .int .i64 n] w (RetRd w (readN x n)) := by
  have hO := Own.start w.heap.size w
  have HD : Hid (readN x n = if n < 0 ∨ 65536 < n then ([], [], 1) else match rdN n.toNat (n.toNat + 1) (openS x) ms0 [] with
    | none => ([], [], 4)
    | some (l, q, m) => if q.e = 0 then if q.rem = [] then (l, m.out, 0) else ([], [], 5) else ([], [], q.e)) := Lib.hid rfl
  have hb := Below.refl w.heap.size w
  by_cases hlow : n < 0
  · have hres : readN x n = ([], [], 1) := by rw [HD.out, if_pos (.inl hlow)]
    rw [hres]
    clear HD hr hx hl hres
    go_enter Try.func26, Try.ntmps26
    go_wp2
    go_ret3
    exact RetRd.err rfl hb
  · by_cases hhigh : 65536 < n
    · have hres : readN x n = ([], [], 1) := by rw [HD.out, if_pos (.inr hhigh)]
      rw [hres]
      clear HD hr hx hl hres
      go_enter Try.func26, Try.ntmps26
      go_wp2
      go_ret3
      exact RetRd.err rfl hb
    · obtain ⟨k, rfl⟩ : ∃ k : Nat, n = (k : Int) := ⟨n.toNat, by omega⟩
      have HO := Lib.hid (open_any vx x hx w.heap.size Emp w (Nat.le_refl _) hr hl hO)
      have k0 : (0 : Int) ≤ (k : Int) := by omega
      have k1 : (k : Int) ≤ 65536 := by omega
      clear hr
      go_enter Try.func26, Try.ntmps26
      go_wp2_with fail
      refine HO.out.mono ?_
      rintro e w1 ⟨q, rfl, o1, b1⟩
      have hb1 := hb.trans b1
      clear HO hb b1
      go_wp2_with fail
      refine (mbegin_any w.heap.size _ w1 hb1.size o1).mono ?_
      rintro e w2 ⟨p, a, rfl, o2, b2⟩
      have hb2 := hb1.trans b2
      clear o1 b2 hb1 hO
      go_wp2
      go_loopg [9] (k + 1) (fun kk v9 wr => ∃ (acc : List Tk) (s : RS) (m : MS) (v0 : Value), v0 = v9 ∧ s.live ∧ m.ok ∧ m.out.length ≤ k ∧ k < kk + m.out.length ∧ acc.length ≤ m.out.length ∧ Hid (rdN k (k + 1) (openS x) ms0 [] = rdN k kk s m acc) ∧ Below w.heap.size w wr ∧ Own w.heap.size (Md p a m * (Re q s * (Rw 39 3 v0 acc.length (flat tkL acc) * Emp))) wr)
      case atStart => exact ⟨[], openS x, ms0, _, rfl, openS_live hx, ms0_ok, by simp [ms0], by simp [ms0], by simp, Lib.hid rfl, hb2, (o2.rw_nil 39 3).cast (by ac_rfl)⟩
      case round =>
        clear o2 hb2
        obtain ⟨acc, s, m, v9, rfl, hs, hm, ho1, ho2, ha, he, hb, ho⟩ := hrel
        obtain ⟨v, ho⟩ := ho.hex
        have Bw := hb.size
        have c12 : wr.cell? ⟨p, 12, none⟩ = some v := (ho.cast mdv_eq).cellOf p 12
        obtain ⟨A, c, rfl⟩ := ((ho.cast mdv_eq).foc (Rw 5 1 v m.out.length (bytesU m.out))).row_n
        by_cases hlt : (m.out.length : Int) < (k : Int)
        · obtain ⟨j, rfl⟩ : ∃ j, gk = j + 1 := ⟨gk - 1, by omega⟩
          have hok := takeM_ok hs hm
          have he1 := he.out
          rw [rdN.eq_2 k s m acc j, if_pos (by omega)] at he1
          have HT := Lib.hid (takem_any p q a (.slice A m.out.length c) m hm (by omega) s hs w.heap.size (Rw 39 3 v9 acc.length (flat tkL acc) * Emp) wr Bw (ho.cast (by ac_rfl)))
          have hol : m.out.length ≤ k := ho1
          have ho2' := Lib.hid ho2
          generalize takeM s m = y at *
          obtain ⟨t, s', m'⟩ := y
          simp only at HT hok he1 ho1 ha hol
          have He1 := Lib.hid he1
          clear he he1 ho
          go_wp2_with fail
          refine HT.out.mono ?_
          rintro e w4 ⟨rfl, o4, b4⟩
          have hb4 := hb.trans b4
          have B4 := hb4.size
          obtain ⟨hs', hm', hmo⟩ := hok
          have o5 := o4.new B4 39 #[.int .u8 (t.lit.toNat : Int), .int .i64 t.len, .int .i64 t.back]
          have b5 := hb4.alloc B4 (.cells #[.int .u8 (t.lit.toNat : Int), .int .i64 t.len, .int .i64 t.back] 39)
          have HF := Lib.hid (fun w1 X B1 (h : Own w.heap.size (Bk X 39 #[.int .u8 (t.lit.toNat : Int), .int .i64 t.len, .int .i64 t.back] * (Re q s' * (MdV p a (.slice A m.out.length c) m' * (Rw 39 3 v9 acc.length (flat tkL acc) * Emp)))) w1) =>
            fits_any p a (.slice A m.out.length c) m' (by rw [hmo]; omega) t k (by omega) (by omega) w.heap.size (Bk X 39 #[.int .u8 (t.lit.toNat : Int), .int .i64 t.len, .int .i64 t.back] * (Re q s' * (Rw 39 3 v9 acc.length (flat tkL acc) * Emp))) w1 B1 (h.cast (by ac_rfl)))
          have H5 := Lib.hid (HF.out _ _ b5.size o5)
          simp only [tkL] at H5
          simp only [tkL]
          clear HF HT o4 b4 o5 c12
          go_wp2_with fail
          refine H5.out.mono ?_
          rintro e w6 ⟨rfl, o6, b6⟩
          have hb6 := b5.trans b6
          have B6 := hb6.size
          by_cases hf : fitsP m'.out t k
          · have hft : fitsT m'.out t k = true := decide_eq_true hf
            rw [hft]
            have he7 := He1.out
            rw [if_pos hf] at he7
            have He7 := Lib.hid he7
            obtain ⟨g2, cap2, w7, hrun, o7, b7⟩ := tok_snoc B6 (o6.cast (show _ = Rw 39 3 v9 acc.length (flat tkL acc) * (Bk w4.heap.size 39 #[.int .u8 (t.lit.toNat : Int), .int .i64 t.len, .int .i64 t.back] * (Re q s' * (MdV p a (.slice A m.out.length c) m' * Emp))) by ac_rfl)) t (by omega)
            have x0 : w6.cell? ⟨w4.heap.size, 0, none⟩ = some (.int .u8 (t.lit.toNat : Int)) := o6.drop.cellOf w4.heap.size 0
            have x1 : w6.cell? ⟨w4.heap.size, 1, none⟩ = some (.int .i64 t.len) := o6.drop.cellOf w4.heap.size 1
            have x2 : w6.cell? ⟨w4.heap.size, 2, none⟩ = some (.int .i64 t.back) := o6.drop.cellOf w4.heap.size 2
            have hb7 := hb6.trans b7
            have B7 := hb7.size
            have y0 : w7.cell? ⟨w4.heap.size, 0, none⟩ = some (.int .u8 (t.lit.toNat : Int)) := o7.cellOf w4.heap.size 0
            have y1 : w7.cell? ⟨w4.heap.size, 1, none⟩ = some (.int .i64 t.len) := o7.cellOf w4.heap.size 1
            have y2 : w7.cell? ⟨w4.heap.size, 2, none⟩ = some (.int .i64 t.back) := o7.cellOf w4.heap.size 2
            simp only [tkL] at hrun
            have Hrun := Lib.hid hrun
            have HS := Lib.hid (sawm_any p a (.slice A m.out.length c) m' t k (by omega) hf w.heap.size _ w7 B7 (o7.cast (show _ = MdV p a (.slice A m.out.length c) m' * (Bk w4.heap.size 39 #[.int .u8 (t.lit.toNat : Int), .int .i64 t.len, .int .i64 t.back] * (Re q s' * (Rw 39 3 (.slice (some ⟨g2, 0, none⟩) (acc ++ [t]).length cap2) (acc ++ [t]).length (flat tkL (acc ++ [t])) * Emp))) by ac_rfl)))
            have hsl := sawT_len m'.out t hf.1
            have hmx := maxT_ge t
            have hso : (sawM m' t).out = sawT m'.out t := rfl
            have hfn := hf.2.2
            have F : Hid ((sawM m' t).out.length ≤ k ∧ k < j + (sawM m' t).out.length ∧ (acc ++ [t]).length ≤ (sawM m' t).out.length) := Lib.hid (by rw [hso, List.length_append]; simp only [List.length_singleton]; rw [hmo] at hsl hfn; rw [hmo]; have := ho2'.out; omega)
            have OkM := Lib.hid (sawM_ok hm' t)
            simp only [tkL] at HS
            clear hrun o6 o7 hf hft hsl hmx hso hfn He1 he7 H5
            generalize acc ++ [t] = acc2 at *
            go_wp2_with (at_builtin; refine wpList_append_run rfl (.tmp 35) (.tmp 37) 33 rfl rfl rfl Hrun.out ?_)
            refine HS.out.mono ?_
            rintro e w8 ⟨rfl, o8, b8⟩
            have hb8 := hb7.trans b8
            have O9 := Lib.hid (Own.drop (o8.cast (show _ = Bk w4.heap.size 39 #[.int .u8 (t.lit.toNat : Int), .int .i64 t.len, .int .i64 t.back] * (Md p a (sawM m' t) * (Re q s' * (Rw 39 3 (.slice (some ⟨g2, 0, none⟩) acc2.length cap2) acc2.length (flat tkL acc2) * Emp))) by ac_rfl)))
            clear o8 b8
            go_wp2
            go_roundg j
            case measure => omega
            case rel => exact ⟨acc2, s', sawM m' t, _, rfl, hs', OkM.out, F.out.1, F.out.2.1, F.out.2.2, He7, hb8, O9.out⟩
          · have hft : fitsT m'.out t k = false := decide_eq_false hf
            rw [hft]
            have hres : readN x k = ([], [], 4) := by
              rw [HD.out, if_neg (by omega), Int.toNat_natCast]
              have := He1.out
              rw [if_neg hf] at this
              rw [this]
            clear o6
            go_wp2
            go_ret3
            rw [hres]
            exact RetRd.err rfl hb6
        · obtain ⟨j, rfl⟩ : ∃ j, gk = j + 1 := ⟨gk - 1, by omega⟩
          have hle : m.out.length = k := by omega
          have hrd : rdN k (j + 1) s m acc = some (acc, s, m) := by rw [rdN, if_neg (by omega)]
          have HR : Hid (readN x k = if s.e = 0 then if s.rem = [] then (acc, m.out, 0) else ([], [], 5) else ([], [], s.e)) := Lib.hid (by
            rw [HD.out, if_neg (by omega), Int.toNat_natCast, he.out, hrd])
          have o5 := ho.cast (show _ = Re q s * (MdV p a (.slice A m.out.length c) m * (Rw 39 3 v9 acc.length (flat tkL acc) * Emp)) by ac_rfl)
          have HErr := Lib.hid (err_any q s w.heap.size _ wr o5)
          have HLeft := Lib.hid (left_any q s w.heap.size _ wr o5)
          obtain ⟨A2, c2, rfl⟩ := (ho.foc (Rw 39 3 v9 acc.length (flat tkL acc))).row_n
          clear HD he hrd ho2 ho1 hs hm o5
          go_wp2_with fail
          refine HErr.out.mono ?_
          rintro e w6 ⟨rfl, rfl⟩
          by_cases h0 : s.e = 0
          · rw [h0] at HErr ⊢
            go_wp2_with fail
            refine HLeft.out.mono ?_
            rintro e w6 ⟨rfl, rfl⟩
            by_cases hrem : s.rem = []
            · have hres : readN x k = (acc, m.out, 0) := by rw [HR.out, if_pos h0, if_pos hrem]
              rw [hrem]
              go_wp2
              refine wp_region_mix (St w.heap.size _ wr) [0, 1, 2, 3, 4, 5] [6, 7] mixed (by kernel_rfl) rfl (St.drew Bw ho) ?_
              simp only [List.filterMap_cons, List.filterMap_nil, List.getElem?_toArray, List.getElem?_cons_succ, List.getElem?_cons_zero]
              repeat (first
                | (refine held_val ?_ rfl (fun w1 hS => ?_) ?_
                   rotate_left
                   · (have c12 : w1.cell? ⟨p, 12, none⟩ = some (.slice A m.out.length c) := (hS.2.1.cast mdv_eq).cellOf p 12
                      go_simp
                      try go_bits
                      rfl)
                   simp only [Act.put, List.setIfInBounds_toArray, List.set_cons_zero, List.set_cons_succ])
                | (refine held_off rfl ?_
                   simp only [Act.put, List.setIfInBounds_toArray, List.set_cons_zero, List.set_cons_succ]))
              refine held_nil (fun w9 hS => ?_)
              obtain ⟨B9, o9, b9⟩ := hS
              have hb9 := hb.trans b9
              have ocap := (o9.foc (Rw 39 3 (.slice A2 acc.length c2) acc.length (flat tkL acc)))
              have ocap2 := ((o9.cast mdv_eq).foc (Rw 5 1 (.slice A m.out.length c) m.out.length (bytesU m.out)))
              have Fin : Hid (RetRd w (acc, m.out, 0) (.returned (.tuple #[.slice A2 acc.length c2, .slice A m.out.length c, .int .i64 0])) w9) := Lib.hid ⟨A2, c2, A, c, rfl, Own.rdA tkL_len rfl ocap, ocap2.rd, ocap.cap, ocap2.cap, hb9⟩
              clear o9 b9 ocap ocap2 ho
              go_wp2
              go_ret3
              rw [hres]
              have fin := Fin.out
              rw [hle] at fin
              exact fin
            · have hres : readN x k = ([], [], 5) := by rw [HR.out, if_pos h0, if_neg hrem]
              have hrl : (0 : Int) < (s.rem.length : Int) := by have := List.length_pos_iff.2 hrem; omega
              go_wp2
              go_ret3
              rw [hres]
              exact RetRd.err rfl hb
          · have hres : readN x k = ([], [], s.e) := by rw [HR.out, if_neg h0]
            have h0' : (s.e == 0) = false := by simpa using h0
            go_wp2_with fail
            refine HErr.out.mono ?_
            rintro e w6 ⟨rfl, rfl⟩
            go_wp2
            go_ret3
            rw [hres]
            exact RetRd.err rfl hb
end Go.Proofs.Ytedcficjmogohaa
