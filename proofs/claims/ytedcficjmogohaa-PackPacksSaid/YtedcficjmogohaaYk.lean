/- Texts of one proof, merged: XR4 XNd XOn XNe XNf XKp. -/
import Derived.Test.YtedcficjmogohaaYj
import Derived.Carry
import Derived.Laws.StructEq
import Derived.WalkSmall
/- The walk over the reference's Write. -/
namespace Go.Proofs.Ytedcficjmogohaa
set_option linter.unusedVariables false
set_option linter.unusedSimpArgs false
set_option maxRecDepth 100000
open Go.RowKit

theorem RetB.mkV {w w' : World} {l : List Int} {u : List UInt8} {e : Ending} {v v' : Value} {B : Nat} {R : HP} (he : e = .returned v) (hv : v = v') (hl : ints u = l) (hB : B = w.heap.size) (ho : Own B (Rw 5 1 v' l.length (bytesV l) * R) w') (hb : Below w.heap.size w w') : RetB w u e w' := by
  subst hv; subst hl; subst hB
  rw [bytesV_ints, ints_length] at ho
  exact ⟨_, he, ho.row, hb⟩

theorem Own.stt_more {B : Nat} {v : Value} {s : WS} {g n n' : Nat} {f : Int → Option Int} {R : HP} {w : World} (h : Own B (Stt v s g n f * R) w) (hn : n ≤ n') : Own B (Stt v s g n' f * R) w :=
  (((h.cast (show _ = Mi g n f * (Rw 5 1 v (rOf s).out.length (bytesV (rOf s).out) * R) by unfold Stt; ac_rfl)).mi_more hn).cast (show _ = Stt v s g n' f * R by unfold Stt; ac_rfl))
theorem meven_any (v : Value) (s : WS) (g n : Nat) (f : Int → Option Int) (b : Int) (room : Int) (hr : 0 ≤ room) (gd : s.gd (room + 1)) (B : Nat) (R : HP) [Loc B R] (w : World) (hB : B ≤ w.heap.size) (hO : Own B (Stt v s g n f * R) w) :
    Calls Try.prog 39 #[refV v (rOf s), .int .i64 b] w fun e w' => ∃ v', Ret B w (refV v' (rOf (putS s (s.width / 2) b))) (Stt v' (putS s (s.width / 2) b) g n f * R) e w' := by
  have e := (putS_gd b hr gd (ev_in gd).1 (ev_in gd).2).2
  have h := refeven_any v (rOf s) b room hr gd.good.ok gd.live.wide B (Mi g n f * R) w hB (by unfold Stt at hO; exact hO.assoc)
  refine h.mono ?_
  rintro e' w' ⟨v', he, ho, hb⟩
  refine ⟨v', ?_, ?_, hb⟩
  · rw [e]; exact he
  · unfold Stt
    rw [e]
    exact ho.assoc'
theorem set_size (W : World) (a : Addr) (v : Value) : (W.setCell a v).heap.size = W.heap.size := by simp [World.setCell]
set_option maxHeartbeats 3200000 in
theorem refwrite_any (A : Option Addr) (c : Nat) (l : List Tk) (b : List UInt8) (he : expT 65536 l [] = some b) (w : World) (hr : RdA 3 tkL w A l) :
    Calls Try.prog 19 #[.slice A l.length c] w (RetB w (writeU l)) := by
  have hlen := (expT_len (n := (65536 : Int)) l [] b (by simp) he)
  have hll : l.length ≤ 65536 := by have h1 := hlen.1; have h2 := hlen.2; simp at h2; omega
  have Hr := Lib.hid (fun w1 (b : Below w.heap.size w w1) => hr.below b)
  have n1 : (l.length : Int) ≤ 65536 := by omega
  have HG := Lib.hid (fun i (hi : i ≤ l.length) => wrN_gd (l.take i) (28 * ((l.length : Int) - (i : Int)) + 100) (by omega) (by rw [List.length_take, Nat.min_eq_left hi]; omega))
  have HF := Lib.hid (fun i hi => wr_fits l b he i hi)
  have HS := Lib.hid (fun i hi s m hx => wr_step l b he i hi s m hx)
  have HU := Lib.hid (writeN_rend l (by omega))
  have HI := Lib.hid (writeU_ints l (by omega))
  have hO := Own.start w.heap.size w
  have HB := Lib.hid (refbegin_any w.heap.size Emp w (Nat.le_refl _) hO)
  clear hlen he hr hO
  go_enter Try.func19, Try.ntmps19
  go_wp2_with fail
  refine HB.out.mono ?_
  rintro e w1 ⟨rfl, o1, b1⟩
  have hb1 := (Below.refl w.heap.size w).trans b1
  have o2 := o1.mi_new b1.size
  have b2 := b1.alloc b1.size (.map #[] 0)
  have o3 := (o2.cast (show _ = Mi w1.heap.size 0 (fun _ => none) * Emp from rfl)).new b2.size 70 #[.slice none 0 0, .int .i64 0, .int .i64 4294967295, .map (some w1.heap.size)]
  have b3 := b2.alloc b2.size (.cells #[.slice none 0 0, .int .i64 0, .int .i64 4294967295, .map (some w1.heap.size)] 70)
  rw [World.size_alloc'] at o3
  have hmm := @run_makeMap Try.prog
  clear HB hb1 o1 b1 o2 b2
  simp only [refV]
  go_wp2
  generalize hg : w1.heap.size = g at *
  generalize hW : (w1.alloc (.map #[] 0)).alloc (.cells #[.slice none 0 0, .int .i64 0, .int .i64 4294967295, .map (some g)] 70) = W0 at *
  clear hg hW hmm
  obtain ⟨P, hP⟩ : ∃ P, g + 1 = P := ⟨_, rfl⟩
  rw [hP] at o3 ⊢
  clear hP
  go_loopg [4, 5, 6] l.length (fun kk v4 v5 v6 wr => ∃ (i : Nat) (v vo : Value) (s : WS) (m : MS) (f : Int → Option Int), kk + i = l.length ∧ v4 = .int .i64 (m.kind : Int) ∧ vo = v5 ∧ v6 = .int .i64 (i : Int) ∧ Own w.heap.size (Bk P 70 #[v, .int .i64 (rOf s).low, .int .i64 (rOf s).width, .map (some g)] * (Stt v s g (28 * i) f * (Rw 5 1 vo m.out.length (bytesU m.out) * Emp))) wr ∧ Below w.heap.size w wr ∧ Hid ((s, m) = wrN (l.take i)) ∧ Hid (MM f m))
  case atStart => exact ⟨0, .slice none 0 0, .slice none 0 0, begin0, ms0, fun _ => none, by omega, rfl, rfl, rfl, (((o3.rw_nil 5 1).rw_nil 5 1).cast (by unfold Stt; show Rw 5 1 (.slice none 0 0) 0 [] * (Rw 5 1 (.slice none 0 0) 0 [] * (Bk P _ _ * (Mi g 0 (fun _ => none) * Emp))) = Bk P _ _ * ((Rw 5 1 (.slice none 0 0) 0 [] * Mi g 0 (fun _ => none)) * (Rw 5 1 (.slice none 0 0) 0 [] * Emp)); ac_rfl)), b3, Lib.hid rfl, Lib.hid mm_begin⟩
  case round =>
    clear o3 b3
    obtain ⟨i, v, vo, s, m, f, hk, rfl, rfl, rfl, ho, hb, hx, hm⟩ := hrel
    have i0 : (0 : Int) ≤ (i : Int) := by omega
    have u0 : wr.cell? ⟨P, 0, none⟩ = some v := ho.cellOf P 0
    have u1 : wr.cell? ⟨P, 1, none⟩ = some (.int .i64 (rOf s).low) := ho.cellOf P 1
    have u2 : wr.cell? ⟨P, 2, none⟩ = some (.int .i64 (rOf s).width) := ho.cellOf P 2
    have u3 : wr.cell? ⟨P, 3, none⟩ = some (.map (some g)) := ho.cellOf P 3
    by_cases hlt : (i : Int) < (l.length : Int)
    · obtain ⟨j, rfl⟩ : ∃ j, gk = j + 1 := ⟨gk - 1, by omega⟩
      have hil : i < l.length := by omega
      have hfit := HF.out i hil
      have hstep := HS.out i hil s m hx.out
      obtain ⟨gd, mok, hol⟩ := HG.out i (by omega)
      rw [← hx.out] at gd mok hol hfit
      have gd := gd.less (show (28 : Int) + 28 ≤ 28 * ((l.length : Int) - (i : Int)) + 100 by omega)
      simp only at mok hol hfit
      obtain ⟨p1, o1, rfl, q1, d⟩ := Hr.out _ hb i hil
      have Hk := Lib.hid hk
      have Hstep := Lib.hid hstep
      have MMf := hm.out
      clear hk hx hm hstep
      have hil2 : (i : Int) ≤ 65536 := by omega
      generalize l[i] = t at *
      obtain ⟨lit, len, back⟩ := t
      obtain ⟨d0, d1, d2⟩ := RdA.cells3 d
      simp only [tkL] at d0 d1 d2
      clear d
      obtain ⟨hright, hbackle, hfitn⟩ := hfit
      rcases hright with ⟨hl0, hb0⟩ | ⟨hl3, hl258, hbk1, hbk2, hlit⟩
      · simp only at hl0 hb0
        subst hl0; subst hb0
        have hput : ((putT s m ⟨lit, 0, 0⟩).1, sawM (putT s m ⟨lit, 0, 0⟩).2 ⟨lit, 0, 0⟩) = ((putLit s m lit).1, { (putLit s m lit).2 with kind := 0, out := m.out ++ [lit] }) := rfl
        rw [hput] at Hstep
        have hlt8 := lit.toNat_lt
        have hbit := bitM_gd (s := s) 0 (room := 55) (by omega) mok gd
        have hck := chOk_get mok.ckinds m.kind
        have hch : ch f (m.kind : Int) = kindN m + 1024 := by
          have := MMf.kinds m.kind (by rw [mok.kinds]; exact mok.kind)
          rw [show ((0 : Nat) : Int) + (m.kind : Int) = (m.kind : Int) by omega] at this
          exact this
        have HM1 := Lib.hid (fun W R1 (k1 : Loc w.heap.size R1) (h1 : w.heap.size ≤ W.heap.size) (h : Own w.heap.size (Stt v s g (28 * i) f * R1) W) => mbit_any v s g (28 * i) f (m.kind : Int) (kindN m) 0 (by have := mok.kind; omega) 55 (by omega) gd hch hck (.inl rfl) (by omega) w.heap.size R1 W h1 h)
        have MM1 := MMf.bit mok 0
        have hix := treeIx_lt m.out
        obtain ⟨ix, hixe⟩ : ∃ ix, treeIx m.out = ix := ⟨_, rfl⟩
        have HT := Lib.hid (fun v1 W R1 (k1 : Loc w.heap.size R1) (h1 : w.heap.size ≤ W.heap.size) (h : Own w.heap.size (Stt v1 (bitM s m 0) g (28 * i + 1) (updI f (m.kind : Int) (sawN (kindN m) 0 + 1024)) * R1) W) => mtree_any v1 (bitM s m 0) g (28 * i + 1) (updI f (m.kind : Int) (sawN (kindN m) 0 + 1024)) (10000 + 1000 * treeIx m.out) (m.lits (treeIx m.out)) lit.toNat 8 (by omega) (by omega) (by omega) (by rw [mok.lits]; decide) (by rw [mok.lits]; omega) 40 (by omega) (hbit.1.less (by omega)) (mok.clits _) (MM1.lits _ hix) (by omega) w.heap.size R1 W h1 h)
        rw [mok.lits] at HT
        have HMM2 := Lib.hid (fun f2 (h1 : Mt f2 ((10000 + 1000 * treeIx m.out : Nat) : Int) (treeS (bitM s m 0) (m.lits (treeIx m.out)) 1 (bitsOf (lit.toNat : Int) 8)).2) h2 => (show MM f2 { (putLit s m lit).2 with kind := 0, out := m.out ++ [lit] } from ⟨(MM1.lit ⟨mok.kinds ▸ (by unfold kindsM; rw [List.length_set]), mok.lits, mok.lens, mok.backs, mok.kind, hbit.2.1, mok.clits, mok.clens, mok.cbacks⟩ (treeIx m.out) hix _ h1 h2).kinds, (MM1.lit ⟨mok.kinds ▸ (by unfold kindsM; rw [List.length_set]), mok.lits, mok.lens, mok.backs, mok.kind, hbit.2.1, mok.clits, mok.clens, mok.cbacks⟩ (treeIx m.out) hix _ h1 h2).lens, (MM1.lit ⟨mok.kinds ▸ (by unfold kindsM; rw [List.length_set]), mok.lits, mok.lens, mok.backs, mok.kind, hbit.2.1, mok.clits, mok.clens, mok.cbacks⟩ (treeIx m.out) hix _ h1 h2).backs, (MM1.lit ⟨mok.kinds ▸ (by unfold kindsM; rw [List.length_set]), mok.lits, mok.lens, mok.backs, mok.kind, hbit.2.1, mok.clits, mok.clens, mok.cbacks⟩ (treeIx m.out) hix _ h1 h2).lits⟩))
        have HP2 : Hid ((putLit s m lit).1 = (treeS (bitM s m 0) (m.lits (treeIx m.out)) 1 (bitsOf (lit.toNat : Int) 8)).1) := Lib.hid rfl
        have k0 : (0 : Int) ≤ (m.kind : Int) := by omega
        have k2 : (m.kind : Int) < 2 := by have := mok.kind; omega
        have hs1 : putS s (bitBound s (kindN m)) 0 = bitM s m 0 := rfl
        rw [hs1] at HM1
        rw [hixe] at HT HMM2 HP2
        have hcast : ((10000 + 1000 * ix : Nat) : Int) = 10000 + 1000 * (ix : Int) := by omega
        rw [hcast] at HT HMM2
        have hix8 : (ix : Int) < 8 := by omega
        have hix0 : (0 : Int) ≤ (ix : Int) := by omega
        have hout : m.out.length ≤ 65536 := by omega
        simp only [stC] at HM1 HT
        have hlit2 : (lit.toNat : Int) < 256 := by omega
        have Hout := Lib.hid hout
        clear hbit hck hch MM1 hs1 hput hcast mok gd hix MMf hout hol hfitn hbackle
        generalize updI f (m.kind : Int) (sawN (kindN m) 0 + 1024) = f1 at *
        generalize bitM s m 0 = s1 at *
        generalize (putLit s m lit).1 = s2 at *
        obtain rfl := HP2.out
        clear HP2
        have o5 := ho.new hb.size 43 #[.int .u8 (lit.toNat : Int), .int .i64 0, .int .i64 0]
        have b5 := hb.alloc hb.size (.cells #[.int .u8 (lit.toNat : Int), .int .i64 0, .int .i64 0] 43)
        clear u0 u1 u2 u3
        have u0 : (wr.alloc (.cells #[.int .u8 (lit.toNat : Int), .int .i64 0, .int .i64 0] 43)).cell? ⟨P, 0, none⟩ = some v := o5.cellOf P 0
        have u1 : (wr.alloc (.cells #[.int .u8 (lit.toNat : Int), .int .i64 0, .int .i64 0] 43)).cell? ⟨P, 1, none⟩ = some (.int .i64 (rOf s).low) := o5.cellOf P 1
        have u2 : (wr.alloc (.cells #[.int .u8 (lit.toNat : Int), .int .i64 0, .int .i64 0] 43)).cell? ⟨P, 2, none⟩ = some (.int .i64 (rOf s).width) := o5.cellOf P 2
        have u3 : (wr.alloc (.cells #[.int .u8 (lit.toNat : Int), .int .i64 0, .int .i64 0] 43)).cell? ⟨P, 3, none⟩ = some (.map (some g)) := o5.cellOf P 3
        generalize hX : wr.heap.size = X at *
        have hbX : w.heap.size ≤ wr.heap.size := by rw [hX]; exact Nat.le_trans (Nat.le_refl _) (by have := o5.bk.2.1; omega)
        go_wp2_with fail
        refine (HM1.out _ _ inferInstance b5.size (o5.cast (show _ = Stt v s g (28 * i) f * (Bk X 43 #[.int .u8 (lit.toNat : Int), .int .i64 0, .int .i64 0] * (Bk P 70 #[v, .int .i64 (rOf s).low, .int .i64 (rOf s).width, .map (some g)] * (Rw 5 1 vo m.out.length (bytesU m.out) * Emp))) by ac_rfl))).mono ?_
        rintro e w6 ⟨v6, rfl, o6, b6⟩
        have hb6 := b5.trans b6
        have o6 := o6.cast (show _ = Bk X 43 #[.int .u8 (lit.toNat : Int), .int .i64 0, .int .i64 0] * (Bk P 70 #[v, .int .i64 (rOf s).low, .int .i64 (rOf s).width, .map (some g)] * (Rw 5 1 vo m.out.length (bytesU m.out) * (Stt v6 s1 g (28 * i + 1) f1 * Emp))) by ac_rfl)
        obtain ⟨A6, c6, hv6⟩ := (show Own w.heap.size (Rw 5 1 v6 (rOf s1).out.length (bytesV (rOf s1).out) * (Mi g (28 * i + 1) f1 * Emp)) w6 from (o6.right.right.right).assoc).row_n
        clear u0 u1 u2 u3 o5 b5 b6 ho hb d0 d1 d2
        have x0 : w6.cell? ⟨X, 0, none⟩ = some (.int .u8 (lit.toNat : Int)) := o6.cell 0
        have x1 : w6.cell? ⟨X, 1, none⟩ = some (.int .i64 0) := o6.cell 1
        have u0 : w6.cell? ⟨P, 0, none⟩ = some v := o6.cellOf P 0
        have u1 : w6.cell? ⟨P, 1, none⟩ = some (.int .i64 (rOf s).low) := o6.cellOf P 1
        have u2 : w6.cell? ⟨P, 2, none⟩ = some (.int .i64 (rOf s).width) := o6.cellOf P 2
        have u3 : w6.cell? ⟨P, 3, none⟩ = some (.map (some g)) := o6.cellOf P 3
        have z0 := o6.freeOf P 0
        have z1 := o6.freeOf P 1
        have z2 := o6.freeOf P 2
        have z3 := o6.freeOf P 3
        obtain ⟨e0, t0⟩ := o6.setOf (Nat.le_trans (Nat.le_refl _) hb6.size) P 0 v6
        have hs0 := hb6.trans t0
        obtain ⟨e1, t1⟩ := e0.setOf (Nat.le_trans (Nat.le_refl _) hs0.size) P 1 (.int .i64 (rOf s1).low)
        have hs1 := hs0.trans t1
        obtain ⟨e2, t2⟩ := e1.setOf (Nat.le_trans (Nat.le_refl _) hs1.size) P 2 (.int .i64 (rOf s1).width)
        have hs2 := hs1.trans t2
        obtain ⟨e3, t3⟩ := e2.setOf (Nat.le_trans (Nat.le_refl _) hs2.size) P 3 (.map (some g))
        have hs3 := hs2.trans t3
        clear e0 e1 e2 t0 t1 t2 t3 hs0 hs1 hs2 o6 hb6
        subst hv6
        have y0 := e3.cell 0
        have y1 := e3.cell 1
        have t0 := e3.cellOf P 0
        have t1 := e3.cellOf P 1
        have t2 := e3.cellOf P 2
        have t3 := e3.cellOf P 3
        by_cases hne : m.out = []
        · have hix0' : ix = 0 := by rw [← hixe, hne]; rfl
          subst hix0'
          have Hne := Lib.hid hne
          rw [hne] at e3
          have e3 : Own w.heap.size (Bk X 43 #[.int .u8 (lit.toNat : Int), .int .i64 0, .int .i64 0] * (Bk P 70 #[.slice A6 (rOf s1).out.length c6, .int .i64 (rOf s1).low, .int .i64 (rOf s1).width, .map (some g)] * (Rw 5 1 vo 0 (bytesU []) * (Stt (.slice A6 (rOf s1).out.length c6) s1 g (28 * i + 1) f1 * Emp)))) _ := e3
          obtain ⟨Ao, co, hvo⟩ := (e3.foc (Rw 5 1 vo 0 (bytesU []))).row_n
          subst hvo
          have E3 := Lib.hid (And.intro e3 hs3)
          rw [show 10000 + 1000 * ((0 : Nat) : Int) = 10000 from rfl] at HT HMM2
          rw [hne] at Hstep
          clear e3 hs3 hne hixe
          go_wp2_with fail
          refine (HT.out _ _ _ inferInstance E3.out.2.size (E3.out.1.cast (show _ = Stt (.slice A6 (rOf s1).out.length c6) s1 g (28 * i + 1) f1 * (Bk X 43 #[.int .u8 (lit.toNat : Int), .int .i64 0, .int .i64 0] * (Bk P 70 #[.slice A6 (rOf s1).out.length c6, .int .i64 (rOf s1).low, .int .i64 (rOf s1).width, .map (some g)] * (Rw 5 1 (.slice Ao 0 co) (([] : List UInt8)).length (bytesU ([] : List UInt8)) * Emp))) by ac_rfl))).mono ?_
          rintro e w8 ⟨v8, f2, hmt, hot, rfl, o8, b8⟩
          have HM3 := Lib.hid (HMM2.out f2 hmt hot)
          have hb8 := E3.out.2.trans b8
          obtain ⟨s3', hs3⟩ : ∃ s3', (treeS s1 (m.lits 0) 1 (bitsOf (lit.toNat : Int) 8)).1 = s3' := ⟨_, rfl⟩
          rw [hs3] at o8 Hstep ⊢
          have HS3 := Lib.hid hs3
          clear hs3
          have o8 := o8.cast (show _ = Bk X 43 #[.int .u8 (lit.toNat : Int), .int .i64 0, .int .i64 0] * (Bk P 70 #[.slice A6 (rOf s1).out.length c6, .int .i64 (rOf s1).low, .int .i64 (rOf s1).width, .map (some g)] * (Rw 5 1 (.slice Ao 0 co) (([] : List UInt8)).length (bytesU ([] : List UInt8)) * (Stt v8 s3' g (28 * i + 1 + 8) f2 * Emp))) by ac_rfl)
          obtain ⟨A8, c8, hv8⟩ := (show Own w.heap.size (Rw 5 1 v8 (rOf s3').out.length (bytesV (rOf s3').out) * (Mi g (28 * i + 1 + 8) f2 * Emp)) w8 from (o8.right.right.right).assoc).row_n
          clear u0 u1 u2 u3 y0 y1 t0 t1 t2 t3 x0 x1 z0 z1 z2 z3 HT HMM2 hmt hot b8 E3 HM1
          have u0 : w8.cell? ⟨P, 0, none⟩ = some (.slice A6 (rOf s1).out.length c6) := o8.cellOf P 0
          have u1 : w8.cell? ⟨P, 1, none⟩ = some (.int .i64 (rOf s1).low) := o8.cellOf P 1
          have u2 : w8.cell? ⟨P, 2, none⟩ = some (.int .i64 (rOf s1).width) := o8.cellOf P 2
          have u3 : w8.cell? ⟨P, 3, none⟩ = some (.map (some g)) := o8.cellOf P 3
          have z0 := o8.freeOf P 0
          have z1 := o8.freeOf P 1
          have z2 := o8.freeOf P 2
          have z3 := o8.freeOf P 3
          obtain ⟨e0, t0⟩ := o8.setOf (Nat.le_trans (Nat.le_refl _) hb8.size) P 0 v8
          have hs0 := hb8.trans t0
          obtain ⟨e1, t1⟩ := e0.setOf (Nat.le_trans (Nat.le_refl _) hs0.size) P 1 (.int .i64 (rOf s3').low)
          have hs1 := hs0.trans t1
          obtain ⟨e2, t2⟩ := e1.setOf (Nat.le_trans (Nat.le_refl _) hs1.size) P 2 (.int .i64 (rOf s3').width)
          have hs2 := hs1.trans t2
          obtain ⟨e3, t3⟩ := e2.setOf (Nat.le_trans (Nat.le_refl _) hs2.size) P 3 (.map (some g))
          have hs3 := hs2.trans t3
          clear e0 e1 e2 t0 t1 t2 t3 hs0 hs1 hs2 o8 hb8
          subst hv8
          have y0 := e3.cell 0
          obtain ⟨g9, cap9, w9, hrun, o9, b9⟩ := byte_snoc (xs := ([] : List UInt8)) hs3.size (e3.foc (Rw 5 1 (.slice Ao 0 co) (([] : List UInt8)).length (bytesU ([] : List UInt8)))) lit (lit.toNat : Int) rfl (by have := Hout.out; first | omega | simp)
          have hb9 := hs3.trans b9
          have O9 := Lib.hid ((o9.cast (show _ = Bk X 43 #[.int .u8 (lit.toNat : Int), .int .i64 0, .int .i64 0] * (Stt (.slice A8 (rOf s3').out.length c8) s3' g (28 * i + 1 + 8) f2 * (Bk P 70 #[.slice A8 (rOf s3').out.length c8, .int .i64 (rOf s3').low, .int .i64 (rOf s3').width, .map (some g)] * (Rw 5 1 (.slice (some ⟨g9, 0, none⟩) (([] : List UInt8) ++ [lit]).length cap9) (([] : List UInt8) ++ [lit]).length (bytesU (([] : List UInt8) ++ [lit])) * Emp))) by ac_rfl)).drop.stt_more (n' := 28 * (i + 1)) (by omega))
          simp only [set_size] at hrun
          have Hrun := Lib.hid hrun
          clear hrun o9 e3 hs3 b9 hlt8 hlit2
          skip
          generalize ([] : List UInt8) ++ [lit] = out9 at *
          go_wp2_with (at_builtin; refine wpList_append_run rfl (.tmp 57) (.tmp 60) 22 rfl rfl rfl Hrun.out ?_)
          go_roundg j
          case measure => omega
          case rel => exact ⟨i + 1, _, _, s3', _, f2, by have := Hk.out; omega, rfl, rfl, rfl, O9.out.cast (by ac_rfl), hb9, Lib.hid Hstep.out.symm, Lib.hid ⟨HM3.out.kinds, HM3.out.lens, HM3.out.backs, HM3.out.lits⟩⟩
        · have hpos : 1 ≤ m.out.length := by have := List.length_pos_iff.2 hne; omega
          obtain ⟨gO, cO, hvo, _⟩ := (e3.foc (Rw 5 1 vo m.out.length (bytesU m.out))).row.form (by omega)
          subst hvo
          obtain ⟨x, hxx⟩ : ∃ x, m.out[m.out.length - 1]? = some x := ⟨_, List.getElem?_eq_getElem (by omega)⟩
          have hby := (e3.foc (Rw 5 1 (.slice (some ⟨gO, 0, none⟩) m.out.length cO) m.out.length (bytesU m.out))).byteAt (m.out.length - 1) x hxx
          have hixx : ix = x.toNat / 32 := by
            rw [← hixe]
            unfold treeIx
            rw [if_neg (by omega), hxx]
            rfl
          have hx8 := x.toNat_lt
          obtain ⟨xn, hxn⟩ : ∃ xn, x.toNat = xn := ⟨_, rfl⟩
          rw [hxn] at hby hixx hx8
          obtain ⟨L, hL⟩ : ∃ L, m.out.length = L := ⟨_, rfl⟩
          have HL := Lib.hid hL
          have hout := Hout.out
          rw [hL] at hby hpos hout e3 ⊢
          obtain ⟨L1, hL1⟩ : ∃ L1, L - 1 = L1 := ⟨_, rfl⟩
          rw [hL1] at hby
          have e1' : (L : Int) - 1 = (L1 : Int) := by omega
          have e2' : (0 : Int) < (L : Int) := by omega
          have e3' : (L1 : Int) < (L : Int) := by omega
          have e4' : (0 : Int) ≤ (L1 : Int) := by omega
          have e5' : (xn : Int).tdiv 32 = (ix : Int) := by rw [Int.tdiv_eq_ediv_of_nonneg (by omega)]; omega
          have e6' : (xn : Int) / 32 = (ix : Int) := by omega
          have e7' : (xn : Int) < 256 := by omega
          have e8' : (0 : Int) ≤ (xn : Int) := by omega
          have e9' : (L : Int) ≤ 65536 := by omega
          have E3 := Lib.hid (And.intro e3 hs3)
          clear e3 hs3 hne hixe hxx hixx hxn hL hL1 hout hx8
          go_wp2_with fail
          obtain rfl := HL.out
          refine (HT.out _ _ _ inferInstance E3.out.2.size (E3.out.1.cast (show _ = Stt (.slice A6 (rOf s1).out.length c6) s1 g (28 * i + 1) f1 * (Bk X 43 #[.int .u8 (lit.toNat : Int), .int .i64 0, .int .i64 0] * (Bk P 70 #[.slice A6 (rOf s1).out.length c6, .int .i64 (rOf s1).low, .int .i64 (rOf s1).width, .map (some g)] * (Rw 5 1 (.slice (some ⟨gO, 0, none⟩) m.out.length cO) (m.out).length (bytesU m.out) * Emp))) by ac_rfl))).mono ?_
          rintro e w8 ⟨v8, f2, hmt, hot, rfl, o8, b8⟩
          have HM3 := Lib.hid (HMM2.out f2 hmt hot)
          have hb8 := E3.out.2.trans b8
          obtain ⟨s3', hs3⟩ : ∃ s3', (treeS s1 (m.lits ix) 1 (bitsOf (lit.toNat : Int) 8)).1 = s3' := ⟨_, rfl⟩
          rw [hs3] at o8 Hstep ⊢
          have HS3 := Lib.hid hs3
          clear hs3
          have o8 := o8.cast (show _ = Bk X 43 #[.int .u8 (lit.toNat : Int), .int .i64 0, .int .i64 0] * (Bk P 70 #[.slice A6 (rOf s1).out.length c6, .int .i64 (rOf s1).low, .int .i64 (rOf s1).width, .map (some g)] * (Rw 5 1 (.slice (some ⟨gO, 0, none⟩) m.out.length cO) (m.out).length (bytesU m.out) * (Stt v8 s3' g (28 * i + 1 + 8) f2 * Emp))) by ac_rfl)
          obtain ⟨A8, c8, hv8⟩ := (show Own w.heap.size (Rw 5 1 v8 (rOf s3').out.length (bytesV (rOf s3').out) * (Mi g (28 * i + 1 + 8) f2 * Emp)) w8 from (o8.right.right.right).assoc).row_n
          clear u0 u1 u2 u3 y0 y1 t0 t1 t2 t3 x0 x1 z0 z1 z2 z3 HT HMM2 hmt hot b8 E3 HM1
          have u0 : w8.cell? ⟨P, 0, none⟩ = some (.slice A6 (rOf s1).out.length c6) := o8.cellOf P 0
          have u1 : w8.cell? ⟨P, 1, none⟩ = some (.int .i64 (rOf s1).low) := o8.cellOf P 1
          have u2 : w8.cell? ⟨P, 2, none⟩ = some (.int .i64 (rOf s1).width) := o8.cellOf P 2
          have u3 : w8.cell? ⟨P, 3, none⟩ = some (.map (some g)) := o8.cellOf P 3
          have z0 := o8.freeOf P 0
          have z1 := o8.freeOf P 1
          have z2 := o8.freeOf P 2
          have z3 := o8.freeOf P 3
          obtain ⟨e0, t0⟩ := o8.setOf (Nat.le_trans (Nat.le_refl _) hb8.size) P 0 v8
          have hs0 := hb8.trans t0
          obtain ⟨e1, t1⟩ := e0.setOf (Nat.le_trans (Nat.le_refl _) hs0.size) P 1 (.int .i64 (rOf s3').low)
          have hs1 := hs0.trans t1
          obtain ⟨e2, t2⟩ := e1.setOf (Nat.le_trans (Nat.le_refl _) hs1.size) P 2 (.int .i64 (rOf s3').width)
          have hs2 := hs1.trans t2
          obtain ⟨e3, t3⟩ := e2.setOf (Nat.le_trans (Nat.le_refl _) hs2.size) P 3 (.map (some g))
          have hs3 := hs2.trans t3
          clear e0 e1 e2 t0 t1 t2 t3 hs0 hs1 hs2 o8 hb8
          subst hv8
          have y0 := e3.cell 0
          obtain ⟨g9, cap9, w9, hrun, o9, b9⟩ := byte_snoc (xs := m.out) hs3.size (e3.foc (Rw 5 1 (.slice (some ⟨gO, 0, none⟩) m.out.length cO) (m.out).length (bytesU m.out))) lit (lit.toNat : Int) rfl (by have := Hout.out; first | omega | simp)
          have hb9 := hs3.trans b9
          have O9 := Lib.hid ((o9.cast (show _ = Bk X 43 #[.int .u8 (lit.toNat : Int), .int .i64 0, .int .i64 0] * (Stt (.slice A8 (rOf s3').out.length c8) s3' g (28 * i + 1 + 8) f2 * (Bk P 70 #[.slice A8 (rOf s3').out.length c8, .int .i64 (rOf s3').low, .int .i64 (rOf s3').width, .map (some g)] * (Rw 5 1 (.slice (some ⟨g9, 0, none⟩) (m.out ++ [lit]).length cap9) (m.out ++ [lit]).length (bytesU (m.out ++ [lit])) * Emp))) by ac_rfl)).drop.stt_more (n' := 28 * (i + 1)) (by omega))
          simp only [set_size] at hrun
          have Hrun := Lib.hid hrun
          clear hrun o9 e3 hs3 b9 hlt8 hlit2
          skip
          generalize m.out ++ [lit] = out9 at *
          go_wp2_with (at_builtin; refine wpList_append_run rfl (.tmp 57) (.tmp 60) 22 rfl rfl rfl Hrun.out ?_)
          go_roundg j
          case measure => omega
          case rel => exact ⟨i + 1, _, _, s3', _, f2, by have := Hk.out; omega, rfl, rfl, rfl, O9.out.cast (by ac_rfl), hb9, Lib.hid Hstep.out.symm, Lib.hid ⟨HM3.out.kinds, HM3.out.lens, HM3.out.backs, HM3.out.lits⟩⟩
      · simp only at hl3 hl258 hbk1 hbk2 hlit
        subst hlit
        obtain ⟨n, rfl⟩ : ∃ n : Nat, len = (n : Int) := ⟨len.toNat, by omega⟩
        obtain ⟨bk, rfl⟩ : ∃ n : Nat, back = (n : Int) := ⟨back.toNat, by omega⟩
        have hnz : ¬ (n : Int) = 0 := by omega
        have hput : ((putT s m ⟨0, n, bk⟩).1, sawM (putT s m ⟨0, n, bk⟩).2 ⟨0, n, bk⟩) = ((putMatch s m n bk).1, { (putMatch s m n bk).2 with kind := 1, out := copyN bk n m.out }) := by
          simp only [putT, sawM, sawT, hnz, if_false, Int.toNat_natCast]
          rfl
        rw [hput] at Hstep
        have hmx : maxT ⟨0, (n : Int), (bk : Int)⟩ = n := by unfold maxT; rw [if_neg (by simp only; omega)]
        have Hfit : Hid (bk ≤ m.out.length ∧ m.out.length + n ≤ 65536) := Lib.hid (by rw [hmx] at hfitn; simp only at hbackle; omega)
        have hbit := bitM_gd (s := s) 1 (room := 55) (by omega) mok gd
        have hlen := lenM_ok (s := s) n (room := 47) (by omega) mok (gd.less (by omega))
        have hbak := backM_ok (s := s) n bk (room := 43) (by omega) mok (gd.less (by omega))
        have l15 := lenN_15 (bk - 1) (by omega)
        have hck := chOk_get mok.ckinds m.kind
        have hch : ch f (m.kind : Int) = kindN m + 1024 := by
          have := MMf.kinds m.kind (by rw [mok.kinds]; exact mok.kind)
          rw [show ((0 : Nat) : Int) + (m.kind : Int) = (m.kind : Int) by omega] at this
          exact this
        have hs1 : putS s (bitBound s (kindN m)) 1 = bitM s m 1 := rfl
        have HM1 := Lib.hid (fun W R1 (k1 : Loc w.heap.size R1) (h1 : w.heap.size ≤ W.heap.size) (h : Own w.heap.size (Stt v s g (28 * i) f * R1) W) => mbit_any v s g (28 * i) f (m.kind : Int) (kindN m) 1 (by have := mok.kind; omega) 55 (by omega) gd hch hck (.inr rfl) (by omega) w.heap.size R1 W h1 h)
        rw [hs1] at HM1
        have MM1 := MMf.bit mok 1
        have m1ok : ({ m with kinds := kindsM m 1 } : MS).ok := ⟨by show (kindsM m 1).length = 2; exact hbit.2.2, mok.lits, mok.lens, mok.backs, mok.kind, hbit.2.1, mok.clits, mok.clens, mok.cbacks⟩
        have m2ok : ({ m with kinds := kindsM m 1, lens := (lenM s m n).2 } : MS).ok := ⟨m1ok.kinds, mok.lits, hlen.2.2, mok.backs, mok.kind, hbit.2.1, mok.clits, hlen.2.1, mok.cbacks⟩
        have hn3 : ((n - 3 : Nat) : Int) = (n : Int) - 3 := by omega
        have HT1 := Lib.hid (fun v1 W R1 (k1 : Loc w.heap.size R1) (h1 : w.heap.size ≤ W.heap.size) (h : Own w.heap.size (Stt v1 (bitM s m 1) g (28 * i + 1) (updI f (m.kind : Int) (sawN (kindN m) 1 + 1024)) * R1) W) => mtree_any v1 (bitM s m 1) g (28 * i + 1) (updI f (m.kind : Int) (sawN (kindN m) 1 + 1024)) 1000 m.lens (n - 3) 8 (by omega) (by omega) (by omega) (by rw [mok.lens]; decide) (by rw [mok.lens]; omega) 47 (by omega) (hbit.1.less (by omega)) mok.clens MM1.lens (by omega) w.heap.size R1 W h1 h)
        rw [hn3, mok.lens] at HT1
        have hlm : treeS (bitM s m 1) m.lens 1 (bitsOf ((n : Int) - 3) 8) = lenM s m n := rfl
        rw [hlm] at HT1
        have HT2 := Lib.hid (fun f2 (hmt : Mt f2 ((1000 : Nat) : Int) (lenM s m n).2) (hot : Ot (updI f (m.kind : Int) (sawN (kindN m) 1 + 1024)) f2 ((1000 : Nat) : Int) 256) v1 W R1 (k1 : Loc w.heap.size R1) (h1 : w.heap.size ≤ W.heap.size) (h : Own w.heap.size (Stt v1 (lenM s m n).1 g (28 * i + 1 + 8) f2 * R1) W) => mtree_any v1 (lenM s m n).1 g (28 * i + 1 + 8) f2 2000 m.backs (lenN (bk - 1)) 4 (by omega) (by omega) (by omega) (by rw [mok.backs]; decide) (by rw [mok.backs]; omega) 43 (by omega) (hlen.1.less (by omega)) mok.cbacks (MM1.len m1ok _ hmt hot).backs (by omega) w.heap.size R1 W h1 h)
        rw [mok.backs] at HT2
        have hbm : treeS (lenM s m n).1 m.backs 1 (bitsOf (lenN (bk - 1) : Int) 4) = backM s m n bk := rfl
        rw [hbm] at HT2
        have HMM := Lib.hid (fun f2 (hmt : Mt f2 ((1000 : Nat) : Int) (lenM s m n).2) (hot : Ot (updI f (m.kind : Int) (sawN (kindN m) 1 + 1024)) f2 ((1000 : Nat) : Int) 256) f3 (hmt3 : Mt f3 ((2000 : Nat) : Int) (backM s m n bk).2) (hot3 : Ot f2 f3 ((2000 : Nat) : Int) 16) => (show ∀ o, MM f3 { (putMatch s m n bk).2 with kind := 1, out := o } from fun o =>
          ⟨((MM1.len m1ok _ hmt hot).back m2ok _ hmt3 hot3).kinds, ((MM1.len m1ok _ hmt hot).back m2ok _ hmt3 hot3).lens, ((MM1.len m1ok _ hmt hot).back m2ok _ hmt3 hot3).backs, ((MM1.len m1ok _ hmt hot).back m2ok _ hmt3 hot3).lits⟩))
        have HPM : Hid ((putMatch s m n bk).1 = evenS (backM s m n bk).1 (bitsOf ((bk : Int) - 1) (lenN (bk - 1) - 1))) := Lib.hid rfl
        have Hbgd := Lib.hid hbak.1
        simp only [stC] at HM1 HT1 HT2
        have k0 : (0 : Int) ≤ (m.kind : Int) := by omega
        have k2 : (m.kind : Int) < 2 := by have := mok.kind; omega
        have n3 : (3 : Int) ≤ (n : Int) := by omega
        have n258 : (n : Int) ≤ 258 := by omega
        have nle : ¬ (n : Int) ≤ 1 := by omega
        have nlt : (1 : Int) < (n : Int) := by omega
        have n1' : ¬ (n : Int) < 1 := by omega
        have n0' : ((n : Int) == 0) = false := by rw [beq_eq_false_iff_ne]; exact hnz
        have bk1 : (1 : Int) ≤ (bk : Int) := by omega
        have bk2 : (bk : Int) ≤ 32768 := by omega
        have hmin : (if (1 : Int) < (n : Int) then (1 : Int) else (n : Int)) = 1 := if_pos nlt
        clear hbit hlen hbak hck hch hs1 MM1 m1ok m2ok hn3 hlm hbm hput hmx gd mok MMf hol hfitn hbackle hl3 hl258 hbk1 hbk2
        generalize updI f (m.kind : Int) (sawN (kindN m) 1 + 1024) = f1 at *
        generalize bitM s m 1 = s1 at *
        generalize lenM s m n = L2 at *
        generalize backM s m n bk = L3 at *
        have o5 := ho.new hb.size 43 #[.int .u8 0, .int .i64 (n : Int), .int .i64 (bk : Int)]
        have b5 := hb.alloc hb.size (.cells #[.int .u8 0, .int .i64 (n : Int), .int .i64 (bk : Int)] 43)
        clear u0 u1 u2 u3
        have u0 : (wr.alloc (.cells #[.int .u8 0, .int .i64 (n : Int), .int .i64 (bk : Int)] 43)).cell? ⟨P, 0, none⟩ = some v := o5.cellOf P 0
        have u1 : (wr.alloc (.cells #[.int .u8 0, .int .i64 (n : Int), .int .i64 (bk : Int)] 43)).cell? ⟨P, 1, none⟩ = some (.int .i64 (rOf s).low) := o5.cellOf P 1
        have u2 : (wr.alloc (.cells #[.int .u8 0, .int .i64 (n : Int), .int .i64 (bk : Int)] 43)).cell? ⟨P, 2, none⟩ = some (.int .i64 (rOf s).width) := o5.cellOf P 2
        have u3 : (wr.alloc (.cells #[.int .u8 0, .int .i64 (n : Int), .int .i64 (bk : Int)] 43)).cell? ⟨P, 3, none⟩ = some (.map (some g)) := o5.cellOf P 3
        generalize hX : wr.heap.size = X at *
        go_wp2_with fail
        refine (HM1.out _ _ inferInstance b5.size (o5.cast (show _ = Stt v s g (28 * i) f * (Bk X 43 #[.int .u8 0, .int .i64 (n : Int), .int .i64 (bk : Int)] * (Bk P 70 #[v, .int .i64 (rOf s).low, .int .i64 (rOf s).width, .map (some g)] * (Rw 5 1 vo m.out.length (bytesU m.out) * Emp))) by ac_rfl))).mono ?_
        rintro e w6 ⟨v6, rfl, o6, b6⟩
        have hb6 := b5.trans b6
        have o6 := o6.cast (show _ = Bk X 43 #[.int .u8 0, .int .i64 (n : Int), .int .i64 (bk : Int)] * (Bk P 70 #[v, .int .i64 (rOf s).low, .int .i64 (rOf s).width, .map (some g)] * (Rw 5 1 vo m.out.length (bytesU m.out) * (Stt v6 s1 g (28 * i + 1) f1 * Emp))) by ac_rfl)
        obtain ⟨A6, c6, hv6⟩ := (show Own w.heap.size (Rw 5 1 v6 (rOf s1).out.length (bytesV (rOf s1).out) * (Mi g (28 * i + 1) f1 * Emp)) w6 from (o6.right.right.right).assoc).row_n
        clear u0 u1 u2 u3 o5 b5 b6 ho hb d0 d1 d2
        have x0 : w6.cell? ⟨X, 0, none⟩ = some (.int .u8 0) := o6.cell 0
        have x1 : w6.cell? ⟨X, 1, none⟩ = some (.int .i64 (n : Int)) := o6.cell 1
        have x2 : w6.cell? ⟨X, 2, none⟩ = some (.int .i64 (bk : Int)) := o6.cell 2
        have u0 : w6.cell? ⟨P, 0, none⟩ = some v := o6.cellOf P 0
        have u1 : w6.cell? ⟨P, 1, none⟩ = some (.int .i64 (rOf s).low) := o6.cellOf P 1
        have u2 : w6.cell? ⟨P, 2, none⟩ = some (.int .i64 (rOf s).width) := o6.cellOf P 2
        have u3 : w6.cell? ⟨P, 3, none⟩ = some (.map (some g)) := o6.cellOf P 3
        have z0 := o6.freeOf P 0
        have z1 := o6.freeOf P 1
        have z2 := o6.freeOf P 2
        have z3 := o6.freeOf P 3
        obtain ⟨e0, t0⟩ := o6.setOf (Nat.le_trans (Nat.le_refl _) hb6.size) P 0 v6
        have hs0 := hb6.trans t0
        obtain ⟨e1, t1⟩ := e0.setOf (Nat.le_trans (Nat.le_refl _) hs0.size) P 1 (.int .i64 (rOf s1).low)
        have hs1 := hs0.trans t1
        obtain ⟨e2, t2⟩ := e1.setOf (Nat.le_trans (Nat.le_refl _) hs1.size) P 2 (.int .i64 (rOf s1).width)
        have hs2 := hs1.trans t2
        obtain ⟨e3, t3⟩ := e2.setOf (Nat.le_trans (Nat.le_refl _) hs2.size) P 3 (.map (some g))
        have hs3 := hs2.trans t3
        clear e0 e1 e2 t0 t1 t2 t3 hs0 hs1 hs2 o6 hb6
        subst hv6
        have y0 := e3.cell 0
        have y1 := e3.cell 1
        have y2 := e3.cell 2
        have t0 := e3.cellOf P 0
        have t1 := e3.cellOf P 1
        have t2 := e3.cellOf P 2
        have t3 := e3.cellOf P 3
        have E3 := Lib.hid (And.intro e3 hs3)
        clear e3 hs3
        go_wp2_with fail
        refine (HT1.out _ _ _ inferInstance E3.out.2.size (E3.out.1.cast (show _ = Stt (.slice A6 (rOf s1).out.length c6) s1 g (28 * i + 1) f1 * (Bk X 43 #[.int .u8 0, .int .i64 (n : Int), .int .i64 (bk : Int)] * (Bk P 70 #[.slice A6 (rOf s1).out.length c6, .int .i64 (rOf s1).low, .int .i64 (rOf s1).width, .map (some g)] * (Rw 5 1 vo m.out.length (bytesU m.out) * Emp))) by ac_rfl))).mono ?_
        rintro e w8 ⟨v8, f2, hmt, hot, rfl, o8, b8⟩
        have HT3 := Lib.hid (HT2.out f2 hmt hot)
        have HMM3 := Lib.hid (HMM.out f2 hmt hot)
        have hb8 := E3.out.2.trans b8
        obtain ⟨s2, cl2⟩ := L2
        simp only at o8 HT3 HMM3
        have o8 := o8.cast (show _ = Bk X 43 #[.int .u8 0, .int .i64 (n : Int), .int .i64 (bk : Int)] * (Bk P 70 #[.slice A6 (rOf s1).out.length c6, .int .i64 (rOf s1).low, .int .i64 (rOf s1).width, .map (some g)] * (Rw 5 1 vo m.out.length (bytesU m.out) * (Stt v8 s2 g (28 * i + 1 + 8) f2 * Emp))) by ac_rfl)
        obtain ⟨A8, c8, hv8⟩ := (show Own w.heap.size (Rw 5 1 v8 (rOf s2).out.length (bytesV (rOf s2).out) * (Mi g (28 * i + 1 + 8) f2 * Emp)) w8 from (o8.right.right.right).assoc).row_n
        clear u0 u1 u2 u3 y0 y1 y2 t0 t1 t2 t3 x0 x1 x2 z0 z1 z2 z3 HT1 HT2 HMM hmt hot b8 E3 HM1
        have u0 : w8.cell? ⟨P, 0, none⟩ = some (.slice A6 (rOf s1).out.length c6) := o8.cellOf P 0
        have u1 : w8.cell? ⟨P, 1, none⟩ = some (.int .i64 (rOf s1).low) := o8.cellOf P 1
        have u2 : w8.cell? ⟨P, 2, none⟩ = some (.int .i64 (rOf s1).width) := o8.cellOf P 2
        have u3 : w8.cell? ⟨P, 3, none⟩ = some (.map (some g)) := o8.cellOf P 3
        have x1 : w8.cell? ⟨X, 1, none⟩ = some (.int .i64 (n : Int)) := o8.cell 1
        have x2 : w8.cell? ⟨X, 2, none⟩ = some (.int .i64 (bk : Int)) := o8.cell 2
        have z0 := o8.freeOf P 0
        have z1 := o8.freeOf P 1
        have z2 := o8.freeOf P 2
        have z3 := o8.freeOf P 3
        obtain ⟨e0, t0⟩ := o8.setOf (Nat.le_trans (Nat.le_refl _) hb8.size) P 0 v8
        have hs0 := hb8.trans t0
        obtain ⟨e1, t1⟩ := e0.setOf (Nat.le_trans (Nat.le_refl _) hs0.size) P 1 (.int .i64 (rOf s2).low)
        have hs1 := hs0.trans t1
        obtain ⟨e2, t2⟩ := e1.setOf (Nat.le_trans (Nat.le_refl _) hs1.size) P 2 (.int .i64 (rOf s2).width)
        have hs2 := hs1.trans t2
        obtain ⟨e3, t3⟩ := e2.setOf (Nat.le_trans (Nat.le_refl _) hs2.size) P 3 (.map (some g))
        have hs3 := hs2.trans t3
        clear e0 e1 e2 t0 t1 t2 t3 hs0 hs1 hs2 o8 hb8
        subst hv8
        have y2 := e3.cell 2
        have E3 := Lib.hid (And.intro e3 hs3)
        clear e3 hs3
        go_wp2
        go_loopg [9, 10] bk (fun kk v9 v10 wr => ∃ cnt x : Nat, v9 = .int .i64 (cnt : Int) ∧ v10 = .int .i64 (x : Int) ∧ x ≤ kk ∧ Hid (cnt + lenN x = lenN (bk - 1)) ∧ x ≤ 32768 ∧ Own w.heap.size (Bk X 43 #[.int .u8 0, .int .i64 (n : Int), .int .i64 (bk : Int)] * (Bk P 70 #[(.slice A8 (rOf s2).out.length c8), .int .i64 (rOf s2).low, .int .i64 (rOf s2).width, .map (some g)] * (Rw 5 1 vo m.out.length (bytesU m.out) * (Stt (.slice A8 (rOf s2).out.length c8) s2 g (28 * i + 1 + 8) f2 * Emp)))) wr ∧ Below w.heap.size w wr)
        case atStart => exact ⟨0, bk - 1, rfl, congrArg (Value.int .i64) (by omega), by omega, Lib.hid (by omega), by omega, E3.out.1, E3.out.2⟩
        case round =>
          clear E3 x1 x2 y2 u0 u1 u2 u3 z0 z1 z2 z3
          obtain ⟨cnt, x, rfl, rfl, hxk, hcx, hx32, ho, hb⟩ := hrel
          by_cases hx0 : x = 0
          · subst hx0
            have hcx2 : cnt = lenN (bk - 1) := hcx.out
            subst hcx2
            have u0 : wr.cell? ⟨P, 0, none⟩ = some (.slice A8 (rOf s2).out.length c8) := ho.cellOf P 0
            have u1 : wr.cell? ⟨P, 1, none⟩ = some (.int .i64 (rOf s2).low) := ho.cellOf P 1
            have u2 : wr.cell? ⟨P, 2, none⟩ = some (.int .i64 (rOf s2).width) := ho.cellOf P 2
            have u3 : wr.cell? ⟨P, 3, none⟩ = some (.map (some g)) := ho.cellOf P 3
            obtain ⟨ln, hln⟩ : ∃ ln, lenN (bk - 1) = ln := ⟨_, rfl⟩
            rw [hln] at HT3 l15 HPM ⊢
            have l15' : (ln : Int) ≤ 15 := by omega
            clear hcx hln hx32 hxk
            go_wp2_with fail
            refine (HT3.out _ _ _ inferInstance hb.size (ho.cast (show _ = Stt (.slice A8 (rOf s2).out.length c8) s2 g (28 * i + 1 + 8) f2 * (Bk X 43 #[.int .u8 0, .int .i64 (n : Int), .int .i64 (bk : Int)] * (Bk P 70 #[(.slice A8 (rOf s2).out.length c8), .int .i64 (rOf s2).low, .int .i64 (rOf s2).width, .map (some g)] * (Rw 5 1 vo m.out.length (bytesU m.out) * Emp))) by ac_rfl))).mono ?_
            rintro e w9 ⟨v9, f3, hmt3, hot3, rfl, o9, b9⟩
            have HMM4 := Lib.hid (HMM3.out f3 hmt3 hot3)
            have hb9 := hb.trans b9
            obtain ⟨s3, cl3⟩ := L3
            simp only at o9 HPM Hbgd
            have o9 := o9.cast (show _ = Bk X 43 #[.int .u8 0, .int .i64 (n : Int), .int .i64 (bk : Int)] * (Bk P 70 #[(.slice A8 (rOf s2).out.length c8), .int .i64 (rOf s2).low, .int .i64 (rOf s2).width, .map (some g)] * (Rw 5 1 vo m.out.length (bytesU m.out) * (Stt v9 s3 g (28 * i + 1 + 8 + 4) f3 * Emp))) by ac_rfl)
            obtain ⟨A9, c9, hv9⟩ := (show Own w.heap.size (Rw 5 1 v9 (rOf s3).out.length (bytesV (rOf s3).out) * (Mi g (28 * i + 1 + 8 + 4) f3 * Emp)) w9 from (o9.right.right.right).assoc).row_n
            clear u0 u1 u2 u3 HT3 HMM3 hmt3 hot3 b9 ho hb
            have u0 : w9.cell? ⟨P, 0, none⟩ = some (.slice A8 (rOf s2).out.length c8) := o9.cellOf P 0
            have u1 : w9.cell? ⟨P, 1, none⟩ = some (.int .i64 (rOf s2).low) := o9.cellOf P 1
            have u2 : w9.cell? ⟨P, 2, none⟩ = some (.int .i64 (rOf s2).width) := o9.cellOf P 2
            have u3 : w9.cell? ⟨P, 3, none⟩ = some (.map (some g)) := o9.cellOf P 3
            have z0 := o9.freeOf P 0
            have z1 := o9.freeOf P 1
            have z2 := o9.freeOf P 2
            have z3 := o9.freeOf P 3
            obtain ⟨e0, t0⟩ := o9.setOf (Nat.le_trans (Nat.le_refl _) hb9.size) P 0 v9
            have hs0 := hb9.trans t0
            obtain ⟨e1, t1⟩ := e0.setOf (Nat.le_trans (Nat.le_refl _) hs0.size) P 1 (.int .i64 (rOf s3).low)
            have hs1 := hs0.trans t1
            obtain ⟨e2, t2⟩ := e1.setOf (Nat.le_trans (Nat.le_refl _) hs1.size) P 2 (.int .i64 (rOf s3).width)
            have hs2 := hs1.trans t2
            obtain ⟨e3, t3⟩ := e2.setOf (Nat.le_trans (Nat.le_refl _) hs2.size) P 3 (.map (some g))
            have hs3 := hs2.trans t3
            clear e0 e1 e2 t0 t1 t2 t3 hs0 hs1 hs2 o9 hb9
            subst hv9
            have E3 := Lib.hid (And.intro e3 hs3)
            clear e3 hs3
            go_wp2
            go_loopg [11] 15 (fun kk v11 wr => ∃ (k : Nat) (z : Int) (vE : Value) (sE : WS), v11 = .int .i64 z ∧ k ≤ kk ∧ k ≤ 14 ∧ ((0 < k ∧ z = (k : Int) - 1) ∨ (k = 0 ∧ z < 0 ∧ -3 ≤ z)) ∧ Own w.heap.size (Bk X 43 #[.int .u8 0, .int .i64 (n : Int), .int .i64 (bk : Int)] * (Bk P 70 #[vE, .int .i64 (rOf sE).low, .int .i64 (rOf sE).width, .map (some g)] * (Rw 5 1 vo m.out.length (bytesU m.out) * (Stt vE sE g (28 * i + 1 + 8 + 4) f3 * Emp)))) wr ∧ Below w.heap.size w wr ∧ Hid (evenS sE (bitsOf ((bk : Int) - 1) k) = (putMatch s m n bk).1) ∧ Hid (sE.gd (29 + k)))
            case atStart => exact ⟨ln - 1, (ln : Int) - 2, _, s3, rfl, by omega, by omega, by omega, E3.out.1, E3.out.2, Lib.hid HPM.out.symm, Lib.hid (Hbgd.out.less (by omega))⟩
            case round =>
              clear E3 u0 u1 u2 u3 z0 z1 z2 z3
              obtain ⟨k, z, vE, sE, rfl, hkk, hk14, hz, ho, hb, hev, hgd⟩ := hrel
              by_cases hk0 : k = 0
              · subst hk0
                have hz0 : z < 0 := by omega
                have hz3 : -3 ≤ z := by omega
                have hev2 : sE = (putMatch s m n bk).1 := hev.out
                have Hev := Lib.hid hev2
                clear hz hev hev2 hkk hk14
                go_wp2
                go_loopg [5, 12] n (fun kk v5 v12 wr => ∃ (t : Nat) (out2 : List UInt8) (v2 : Value), kk + t = n ∧ v12 = .int .i64 (t : Int) ∧ v2 = v5 ∧ Hid (out2.length = m.out.length + t) ∧ Hid (out2 = copyN bk t m.out) ∧ Below w.heap.size w wr ∧ Own w.heap.size (Rw 5 1 v2 out2.length (bytesU out2) * (Bk X 43 #[.int .u8 0, .int .i64 (n : Int), .int .i64 (bk : Int)] * (Bk P 70 #[vE, .int .i64 (rOf sE).low, .int .i64 (rOf sE).width, .map (some g)] * (Stt vE sE g (28 * i + 1 + 8 + 4) f3 * Emp)))) wr)
                case atStart => exact ⟨0, m.out, vo, by omega, rfl, rfl, Lib.hid rfl, Lib.hid rfl, hb, ho.cast (by ac_rfl)⟩
                case round =>
                  clear ho hb
                  obtain ⟨t, out2, v2, hkt, rfl, rfl, hol, hoc, hb, ho⟩ := hrel
                  have t0' : (0 : Int) ≤ (t : Int) := by omega
                  have x1 : wr.cell? ⟨X, 1, none⟩ = some (.int .i64 (n : Int)) := ho.cellOf X 1
                  have x2 : wr.cell? ⟨X, 2, none⟩ = some (.int .i64 (bk : Int)) := ho.cellOf X 2
                  by_cases htn : (t : Int) < (n : Int)
                  · obtain ⟨j2, rfl⟩ : ∃ j2, gk = j2 + 1 := ⟨gk - 1, by omega⟩
                    have hfit := Hfit.out
                    have hol1 := hol.out
                    obtain ⟨gO, cO, hvo, _⟩ := ho.row.form (by omega)
                    subst hvo
                    obtain ⟨y, hy⟩ : ∃ y, out2[out2.length - bk]? = some y := ⟨_, List.getElem?_eq_getElem (by omega)⟩
                    have hby := ho.byteAt (out2.length - bk) y hy
                    obtain ⟨L, hL⟩ : ∃ L, out2.length = L := ⟨_, rfl⟩
                    rw [hL] at hby hy
                    obtain ⟨L1, hL1⟩ : ∃ L1, L - bk = L1 := ⟨_, rfl⟩
                    rw [hL1] at hby
                    have e1' : (L : Int) - (bk : Int) = (L1 : Int) := by omega
                    have e3' : (L1 : Int) < (L : Int) := by omega
                    have e4' : (0 : Int) ≤ (L1 : Int) := by omega
                    have e9' : (L : Int) ≤ 65536 := by omega
                    obtain ⟨g9, cap9, w9, hrun, o9, b9⟩ := byte_snoc hb.size ho y (y.toNat : Int) rfl (by omega)
                    have hb9 := hb.trans b9
                    have Hcp : Hid (out2 ++ [y] = copyN bk (t + 1) m.out) := Lib.hid (by rw [copyN_succ, ← hoc.out, hL, hy]; rfl)
                    have Hlen2 : Hid ((out2 ++ [y]).length = m.out.length + (t + 1)) := Lib.hid (by rw [List.length_append, hol1]; rfl)
                    rw [hL] at hrun ⊢
                    have hy8 := y.toNat_lt
                    generalize y.toNat = yn at *
                    have y1' : (yn : Int) < 256 := by omega
                    have y0' : (0 : Int) ≤ (yn : Int) := by omega
                    have Hrun := Lib.hid hrun
                    have O9 := Lib.hid o9
                    have Hkt := Lib.hid hkt
                    clear hrun o9 b9 hfit hol1 hol hoc hy hL hL1 hkt ho hb hy8
                    generalize out2 ++ [y] = out3 at *
                    go_wp2_with (at_builtin; refine wpList_append_run rfl (.tmp 100) (.tmp 109) 22 rfl rfl rfl Hrun.out ?_)
                    go_roundg j2
                    case measure => omega
                    case rel => exact ⟨t + 1, out3, _, by have := Hkt.out; omega, rfl, rfl, Hlen2, Hcp, hb9, O9.out⟩
                  · obtain rfl : t = n := by omega
                    have Ofin := Lib.hid ((ho.cast (show _ = Bk X 43 #[.int .u8 0, .int .i64 (t : Int), .int .i64 (bk : Int)] * (Stt vE sE g (28 * i + 1 + 8 + 4) f3 * (Bk P 70 #[vE, .int .i64 (rOf sE).low, .int .i64 (rOf sE).width, .map (some g)] * (Rw 5 1 v2 out2.length (bytesU out2) * Emp))) by ac_rfl)).drop.stt_more (n' := 28 * (i + 1)) (by omega))
                    have Hst2 : Hid (wrN (l.take (i + 1)) = (sE, { (putMatch s m t bk).2 with kind := 1, out := out2 })) := Lib.hid (by rw [Hstep.out, Hev.out, hoc.out])
                    have Hm2 := Lib.hid (HMM4.out out2)
                    clear ho hol hoc
                    go_wp2
                    go_roundg j
                    case measure => omega
                    case rel => exact ⟨i + 1, vE, v2, sE, _, f3, by have := Hk.out; omega, rfl, rfl, rfl, Ofin.out.cast (by ac_rfl), hb, Lib.hid Hst2.out.symm, Hm2⟩
              · obtain ⟨k', rfl⟩ : ∃ k', k = k' + 1 := ⟨k - 1, by omega⟩
                obtain rfl : z = (k' : Int) := by omega
                obtain ⟨j2, rfl⟩ : ∃ j2, gk = j2 + 1 := ⟨gk - 1, by omega⟩
                have kk0 : (0 : Int) ≤ (k' : Int) := by omega
                have kk1 : (k' : Int) < 14 := by omega
                have hbn : ((bk - 1 : Nat) : Int) = (bk : Int) - 1 := by omega
                have HBa := Lib.hid (fun W => bitat_any (bk - 1) k' (by omega) (by omega) W)
                rw [hbn] at HBa
                have hev2 := hev.out
                rw [bitsOf_succ] at hev2
                have gdE := hgd.out
                have gdE1 : sE.gd (29 + (k' : Int) + 1) := gdE.less (by omega)
                have HEv := Lib.hid (fun W R1 (k1 : Loc w.heap.size R1) (h1 : w.heap.size ≤ W.heap.size) (h : Own w.heap.size (Stt vE sE g (28 * i + 1 + 8 + 4) f3 * R1) W) => meven_any vE sE g (28 * i + 1 + 8 + 4) f3 (bitOf ((bk : Int) - 1) k') (29 + k') (by omega) gdE1 w.heap.size R1 W h1 h)
                have Hev2 : Hid (evenS (putS sE (sE.width / 2) (bitOf ((bk : Int) - 1) k')) (bitsOf ((bk : Int) - 1) k') = (putMatch s m n bk).1) := Lib.hid hev2
                have Hgd2 := Lib.hid (putS_gd (bitOf ((bk : Int) - 1) k') (by omega) gdE1 (ev_in gdE1).1 (ev_in gdE1).2).1
                have Hk' := Lib.hid (show k' ≤ j2 ∧ k' ≤ 14 by omega)
                clear hev hev2 gdE gdE1 hgd hbn hz hkk hk14 hk0
                generalize putS sE (sE.width / 2) (bitOf ((bk : Int) - 1) k') = sF at *
                generalize bitOf ((bk : Int) - 1) k' = bb at *
                go_wp2
                refine wp_region_mix (St w.heap.size _ wr) [0, 1, 2, 3, 4, 5, 6] [7, 8, 9] mixed (by kernel_rfl) rfl (St.drew hb.size ho) ?_
                simp only [List.filterMap_cons, List.filterMap_nil, List.getElem?_toArray, List.getElem?_cons_succ, List.getElem?_cons_zero]
                repeat (first
                  | (refine held_val ?_ rfl (fun w1 hS => ?_) ?_
                     rotate_left
                     · (have c0 : w1.cell? ⟨P, 0, none⟩ = some vE := hS.2.1.cellOf P 0; have c1 : w1.cell? ⟨P, 1, none⟩ = some (.int .i64 (rOf sE).low) := hS.2.1.cellOf P 1; have c2 : w1.cell? ⟨P, 2, none⟩ = some (.int .i64 (rOf sE).width) := hS.2.1.cellOf P 2; have x2 : w1.cell? ⟨X, 2, none⟩ = some (.int .i64 (bk : Int)) := hS.2.1.cellOf X 2
                        go_simp
                        try go_bits
                        rfl)
                     simp only [Act.put, List.setIfInBounds_toArray, List.set_cons_zero, List.set_cons_succ])
                  | (refine held_off rfl ?_
                     simp only [Act.put, List.setIfInBounds_toArray, List.set_cons_zero, List.set_cons_succ]))
                refine held_call 40 #[.int .i64 ((bk : Int) - 1), .int .i64 (k' : Int)] (.int .i64 bb) rfl (fun w1 hS => by go_simp) (fun w1 hS => (HBa.out w1).mono ?_) ?_
                · rintro e w2 ⟨rfl, rfl⟩
                  exact ⟨rfl, hS⟩
                simp only [Act.put, List.setIfInBounds_toArray, List.set_cons_zero, List.set_cons_succ]
                refine held_nil (fun w9 hS => ?_)
                obtain ⟨B9, o9, b9⟩ := hS
                have hb9 := hb.trans b9
                clear ho hb b9
                simp only [refV] at HEv
                go_wp2_with fail
                refine (HEv.out _ _ inferInstance B9 (o9.cast (show _ = Stt vE sE g (28 * i + 1 + 8 + 4) f3 * (Bk X 43 #[.int .u8 0, .int .i64 (n : Int), .int .i64 (bk : Int)] * (Bk P 70 #[vE, .int .i64 (rOf sE).low, .int .i64 (rOf sE).width, .map (some g)] * (Rw 5 1 vo m.out.length (bytesU m.out) * Emp))) by ac_rfl))).mono ?_
                rintro e wa ⟨vF, rfl, oa, ba⟩
                have hba := hb9.trans ba
                have oa := oa.cast (show _ = Bk X 43 #[.int .u8 0, .int .i64 (n : Int), .int .i64 (bk : Int)] * (Bk P 70 #[vE, .int .i64 (rOf sE).low, .int .i64 (rOf sE).width, .map (some g)] * (Rw 5 1 vo m.out.length (bytesU m.out) * (Stt vF sF g (28 * i + 1 + 8 + 4) f3 * Emp))) by ac_rfl)
                obtain ⟨AF, cF, hvF⟩ := (show Own w.heap.size (Rw 5 1 vF (rOf sF).out.length (bytesV (rOf sF).out) * (Mi g (28 * i + 1 + 8 + 4) f3 * Emp)) wa from (oa.right.right.right).assoc).row_n
                clear ba hb9 B9 o9 HEv HBa
                have u0 : wa.cell? ⟨P, 0, none⟩ = some vE := oa.cellOf P 0
                have u1 : wa.cell? ⟨P, 1, none⟩ = some (.int .i64 (rOf sE).low) := oa.cellOf P 1
                have u2 : wa.cell? ⟨P, 2, none⟩ = some (.int .i64 (rOf sE).width) := oa.cellOf P 2
                have u3 : wa.cell? ⟨P, 3, none⟩ = some (.map (some g)) := oa.cellOf P 3
                have z0 := oa.freeOf P 0
                have z1 := oa.freeOf P 1
                have z2 := oa.freeOf P 2
                obtain ⟨e0, t0⟩ := oa.setOf hba.size P 0 vF
                have hs0 := hba.trans t0
                obtain ⟨e1, t1⟩ := e0.setOf hs0.size P 1 (.int .i64 (rOf sF).low)
                have hs1 := hs0.trans t1
                obtain ⟨e2, t2⟩ := e1.setOf hs1.size P 2 (.int .i64 (rOf sF).width)
                have hs2 := hs1.trans t2
                have Fin := Lib.hid (And.intro e2 hs2)
                subst hvF
                clear e0 e1 e2 t0 t1 t2 hs0 hs1 hs2 oa hba
                go_wp2
                go_roundg j2
                case measure => omega
                case rel => exact ⟨k', (k' : Int) - 1, _, sF, rfl, Hk'.out.1, Hk'.out.2, by omega, Fin.out.1, Fin.out.2, Hev2, Hgd2⟩
          · obtain ⟨j2, rfl⟩ : ∃ j2, gk = j2 + 1 := ⟨gk - 1, by omega⟩
            have hq : (x : Int).tdiv 2 = ((x / 2 : Nat) : Int) := by rw [Int.tdiv_eq_ediv_of_nonneg (by omega)]; omega
            have hh := lenN_half x hx0
            obtain ⟨d, hd⟩ : ∃ d, x / 2 = d := ⟨_, rfl⟩
            have hcd : cnt + 1 + lenN d = lenN (bk - 1) := by have := hcx.out; rw [hd] at hh; omega
            have Hcd := Lib.hid hcd
            have cnt15 : (cnt : Int) < 16 := by omega
            have cnt0 : (0 : Int) ≤ (cnt : Int) := by omega
            have xp : (0 : Int) < (x : Int) := by omega
            have x32 : (x : Int) ≤ 32768 := by omega
            have Hd := Lib.hid (show d ≤ j2 ∧ d ≤ 32768 by omega)
            rw [hd] at hq
            have d1 : (d : Int) ≤ 32768 := by omega
            clear hh hcd hcx hd hx0 hxk
            go_wp2
            go_roundg j2
            case measure => omega
            case rel => exact ⟨cnt + 1, d, rfl, rfl, Hd.out.1, Hcd, Hd.out.2, ho, hb⟩
    · obtain rfl : i = l.length := by omega
      have hx2 := hx.out
      rw [List.take_length] at hx2
      have gd := (HG.out l.length (Nat.le_refl _)).1
      rw [List.take_length] at gd
      have hs : (wrN l).1 = s := by rw [← hx2]
      rw [hs] at gd
      have hU := HU.out.1
      rw [hs] at hU
      have ok := gd.good.ok
      have HE := Lib.hid (refend_any v (rOf s) (28 * ((l.length : Int) - (l.length : Int)) + 100) (by omega) ok w.heap.size (Mi g (28 * l.length) f * (Bk P 70 #[v, .int .i64 (rOf s).low, .int .i64 (rOf s).width, .map (some g)] * (Rw 5 1 vo m.out.length (bytesU m.out) * Emp))) wr hb.size (ho.cast (by unfold Stt; ac_rfl)))
      have HU2 := Lib.hid (HI.out.trans hU)
      simp only [refV] at HE
      clear hU hx2 hs gd ok HU HI
      go_wp2_with fail
      refine HE.out.mono ?_
      rintro e w9 ⟨v9, rfl, o9, b9⟩
      have hb9 := hb.trans b9
      have O9 := Lib.hid o9
      clear o9
      go_wp2
      go_ret
      exact RetB.mkV rfl rfl HU2.out rfl O9.out hb9
end Go.Proofs.Ytedcficjmogohaa

/- The walk over the law PackCuts. -/
namespace Go.Proofs.Ytedcficjmogohaa
set_option linter.unusedVariables false
set_option linter.unusedSimpArgs false
set_option maxRecDepth 100000
open Go.RowKit

theorem Rd.takeU {w : World} {A : Option Addr} {c : Nat} {x : List UInt8} (h : Rd w (.slice A x.length c) (bytesU x)) (k : Nat) (hk : k ≤ x.length) :
    Rd w (.slice A (x.take k).length c) (bytesU (x.take k)) := by
  obtain ⟨A', c', e, hr⟩ := h
  injection e with e1 _ e3
  subst e1; subst e3
  refine ⟨A, c, by rw [bytesU_length], fun hne => ?_⟩
  have hx : bytesU x ≠ [] := by intro h; apply hne; unfold bytesU at *; rw [List.map_take, h, List.take_nil]
  obtain ⟨ad, rfl, hc⟩ := hr hx
  refine ⟨ad, rfl, fun j u hu => hc j u ?_⟩
  unfold bytesU at hu ⊢
  rw [List.map_take, List.getElem?_take] at hu
  split at hu
  · exact hu
  · cases hu
set_option maxHeartbeats 3200000 in
theorem packcuts_walk (A : Option Addr) (c : Nat) (b : List UInt8) (hc : b.length ≤ c ∧ c ≤ 9223372036854775807) (win cut : Int) (A' : Option Addr) (c' : Nat) (more : List UInt8) (hc' : more.length ≤ c' ∧ c' ≤ 9223372036854775807) (w : World) (hr : Rd w (.slice A b.length c) (bytesU b)) (hm : Rd w (.slice A' more.length c') (bytesU more)) :
    Calls Try.prog 5 #[.slice A b.length c, .int .i64 win, .int .i64 cut, .slice A' more.length c'] w (fun e w' => e = .returned (.bool true) ∧ Below w.heap.size w w') := by
  have hb0 := Below.refl w.heap.size w
  by_cases hbig : (300 : Int) < (b.length : Int)
  · clear hr hm
    generalize b.length = L at *
    generalize more.length = M at *
    go_enter Try.func5, Try.ntmps5
    go_wp2_with fail
    refine (awake_any _).mono ?_
    rintro e wz ⟨rfl, bz⟩
    go_wp2
    go_ret
    exact ⟨rfl, bz⟩
  by_cases h1 : win < 1
  · clear hr hm
    generalize b.length = L at *
    generalize more.length = M at *
    go_enter Try.func5, Try.ntmps5
    go_wp2_with fail
    refine (awake_any _).mono ?_
    rintro e wz ⟨rfl, bz⟩
    go_wp2
    go_ret
    exact ⟨rfl, bz⟩
  by_cases h2 : 32768 < win
  · clear hr hm
    generalize b.length = L at *
    generalize more.length = M at *
    go_enter Try.func5, Try.ntmps5
    go_wp2_with fail
    refine (awake_any _).mono ?_
    rintro e wz ⟨rfl, bz⟩
    go_wp2
    go_ret
    exact ⟨rfl, bz⟩
  by_cases h3 : (more.length : Int) < 1
  · clear hr hm
    generalize b.length = L at *
    generalize more.length = M at *
    go_enter Try.func5, Try.ntmps5
    go_wp2_with fail
    refine (awake_any _).mono ?_
    rintro e wz ⟨rfl, bz⟩
    go_wp2
    go_ret
    exact ⟨rfl, bz⟩
  by_cases h4 : (20 : Int) < (more.length : Int)
  · clear hr hm
    generalize b.length = L at *
    generalize more.length = M at *
    go_enter Try.func5, Try.ntmps5
    go_wp2_with fail
    refine (awake_any _).mono ?_
    rintro e wz ⟨rfl, bz⟩
    go_wp2
    go_ret
    exact ⟨rfl, bz⟩
  have hp0 : (packN b win).2 = 0 := by unfold packN; rw [if_neg (by omega), if_neg (by omega)]
  have HP1 := Lib.hid (fun w1 (h : Below w.heap.size w w1) => pack_any A c b hc win w1 (hr.below h))
  have HL1 := Lib.hid (show (packN b win).1.length ≤ 1000000 by have := pack_bound b win (by omega) (by omega) (by omega); omega)
  have HM := Lib.hid (unpack_more b win (by omega) (by omega) (by omega) more (by intro e; subst e; simp at h3))
  have HC := Lib.hid (fun k hk => unpack_cut b win (by omega) (by omega) (by omega) k hk)
  generalize packN b win = y1 at *
  obtain ⟨y1, z1⟩ := y1
  simp only at hp0
  subst hp0
  have HL1 : Hid (y1.length ≤ 1000000) := HL1
  have HM : Hid (unpackN (y1 ++ more) = ([], 5)) := HM
  have HC : Hid (∀ k, k < y1.length → (unpackN (y1.take k)).2 ≠ 0) := HC
  have Hm := Lib.hid (fun w1 (h : Below w.heap.size w w1) => hm.below h)
  clear hr hm
  by_cases hc1 : cut < 0
  · clear Hm HC HM
    go_enter Try.func5, Try.ntmps5
    go_wp2_with fail
    refine (HP1.out w hb0).mono ?_
    rintro e w1 ⟨A1, c1, rfl, r1, g1, b1⟩
    clear HP1 r1
    go_wp2_with fail
    refine (awake_any _).mono ?_
    rintro e wz ⟨rfl, bz⟩
    go_wp2
    go_ret
    exact ⟨rfl, b1.trans (bz.mono b1.size)⟩
  by_cases hc2 : (y1.length : Int) ≤ cut
  · clear Hm HC HM
    go_enter Try.func5, Try.ntmps5
    go_wp2_with fail
    refine (HP1.out w hb0).mono ?_
    rintro e w1 ⟨A1, c1, rfl, r1, g1, b1⟩
    clear HP1 r1
    go_wp2_with fail
    refine (awake_any _).mono ?_
    rintro e wz ⟨rfl, bz⟩
    go_wp2
    go_ret
    exact ⟨rfl, b1.trans (bz.mono b1.size)⟩
  obtain ⟨k, rfl⟩ : ∃ k : Nat, cut = (k : Int) := ⟨cut.toNat, by omega⟩
  have hk : k < y1.length := by omega
  have hkl : (y1.take k).length = k := by rw [List.length_take]; omega
  go_enter Try.func5, Try.ntmps5
  go_wp2_with fail
  refine (HP1.out w hb0).mono ?_
  rintro e w1 ⟨A1, c1, rfl, r1, g1, b1⟩
  have g1 : y1.length ≤ c1 ∧ c1 ≤ 9223372036854775807 := g1
  have r1 : Rd w1 (.slice A1 y1.length c1) (bytesU y1) := r1
  have rt := r1.takeU k (by omega)
  have HU := Lib.hid (unpack_any A1 c1 (y1.take k) (by have := HL1.out; omega) ⟨by omega, g1.2⟩ w1 rt)
  have R1 := Lib.hid (fun w2 (b2 : Below w1.heap.size w1 w2) => r1.below b2)
  have HC2 := Lib.hid (unpack_err (HC.out k hk))
  have HC1 := Lib.hid (HC.out k hk)
  rw [hkl] at HU
  generalize unpackN (y1.take k) = u1 at *
  obtain ⟨u1, z1⟩ := u1
  have HC2 : Hid (u1 = []) := HC2
  have HC1 : Hid (z1 ≠ 0) := HC1
  obtain rfl := HC2.out
  have k1 : (k : Int) ≤ (c1 : Int) := by omega
  clear HP1 r1 rt hkl HC2 HC
  go_wp2_with fail
  refine HU.out.mono ?_
  rintro e w2 ⟨A2, c2, rfl, r2, g2, b2⟩
  have hb2 := b1.trans (b2.mono b1.size)
  have B2 := hb2.size
  have r3 := R1.out w2 b2
  have o3 := ((Own.start w.heap.size w2).new B2 5 #[]).rw_of_bk (size := 1) (n := 0) rfl (by unfold maxLen; omega)
  have b3 := hb2.alloc B2 (.cells #[] 5)
  have B3 := b3.size
  have r4 := r3.below ((Below.refl w2.heap.size w2).alloc (Nat.le_refl _) (.cells #[] 5))
  obtain ⟨v4, w4, hrun4, o4, b4⟩ := byte_append (xs := []) B3 o3 r4 (by have := HL1.out; simp; omega)
  have hb4 := b3.trans b4
  have B4 := hb4.size
  obtain ⟨v5, w5, hrun5, o5, b5⟩ := byte_append B4 o4 (Hm.out _ hb4) (by have := HL1.out; simp; omega)
  have hb5 := hb4.trans b5
  obtain ⟨A4, c4, rfl⟩ := o4.row_n
  obtain ⟨A5, c5, rfl⟩ := o5.row_n
  have hcap := o5.cap
  simp only [List.nil_append] at hrun4 hrun5 o5 hcap
  have HV := Lib.hid (unpack_any A5 c5 (y1 ++ more) (by have := HL1.out; rw [List.length_append]; omega) hcap w5 o5.rd)
  rw [HM.out] at HV
  have Hrun4 := Lib.hid hrun4
  have Hrun5 := Lib.hid hrun5
  have hz : (z1 == 0) = false := by simpa using HC1.out
  have hz2 : (z1 != 0) = true := by simpa using HC1.out
  clear HU r2 r3 r4 R1 o3 o4 o5 b3 b4 b5 hrun4 hrun5 b1 b2 hcap hb4 B4 B3 Hm HM
  generalize hLL : (y1 ++ more).length = LL at *
  clear hLL
  go_wp2_with first
    | (at_builtin; refine wpList_append_run rfl (.tmp 64) (.tmp 65) 22 rfl rfl rfl Hrun4.out ?_)
    | (at_builtin; refine wpList_append_run rfl (.tmp 66) (.tmp 67) 22 rfl rfl rfl Hrun5.out ?_)
  refine HV.out.mono ?_
  rintro e w6 ⟨A6, c6, rfl, r6, g6, b6⟩
  have hb6 := hb5.trans (b6.mono hb5.size)
  clear HV r6
  go_wp2_with fail
  refine (awake_any _).mono ?_
  rintro e wz ⟨rfl, bz⟩
  go_wp2
  go_ret
  exact ⟨rfl, hb6.trans (bz.mono hb6.size)⟩
end Go.Proofs.Ytedcficjmogohaa

/- The walk over the reference's Number. -/
namespace Go.Proofs.Ytedcficjmogohaa
set_option linter.unusedVariables false
set_option linter.unusedSimpArgs false
set_option maxRecDepth 100000
open Go.RowKit

set_option maxRecDepth 100000 in
set_option maxHeartbeats 1600000 in
theorem refnum_in : ∀ (m : Nat), m ≤ 1099511627775 → ∀ (w : World), Calls Try.prog 14 #[.int .i64 (m : Int)] w (RetB w (onum m)) := by
  intro m
  induction m using Nat.strongRecOn with
  | _ m ih =>
    intro hm w
    by_cases hs : m < 128
    · have hc8 : (UInt8.ofNat m).toNat = m := u8_toNat _ (by omega)
      have hs' : (m : Int) < 128 := by omega
      have o1 : Own w.heap.size (Rw 5 1 (.slice (some ⟨w.heap.size, 0, none⟩) 1 1) [UInt8.ofNat m].length (bytesU [UInt8.ofNat m]) * Emp) (w.alloc (.cells #[.int .u8 (m : Int)] 5)) := by
        have := ((Own.start w.heap.size w).new (Nat.le_refl _) 5 #[.int .u8 (m : Int)]).rw_of_bk (size := 1) (n := 1) rfl (by unfold maxLen; decide)
        have e : bytesU [UInt8.ofNat m] = [.int .u8 (m : Int)] := by unfold bytesU; rw [List.map_cons, List.map_nil, hc8]
        rw [e]
        exact this
      have b1 := (Below.refl w.heap.size w).alloc (Nat.le_refl _) (.cells #[.int .u8 (m : Int)] 5)
      rw [onum_small hs]
      clear ih hc8 hs
      go_enter Try.func14, Try.ntmps14
      go_wp2
      go_ret
      exact RetB.mk rfl rfl rfl rfl o1 b1
    · have hs' : ¬ (m : Int) < 128 := by omega
      have hc8 : (UInt8.ofNat (m % 128 + 128)).toNat = m % 128 + 128 := u8_toNat _ (by omega)
      have o1 : Own w.heap.size (Rw 5 1 (.slice (some ⟨w.heap.size, 0, none⟩) 1 1) [UInt8.ofNat (m % 128 + 128)].length (bytesU [UInt8.ofNat (m % 128 + 128)]) * Emp) (w.alloc (.cells #[.int .u8 ((m % 128 + 128 : Nat) : Int)] 5)) := by
        have := ((Own.start w.heap.size w).new (Nat.le_refl _) 5 #[.int .u8 ((m % 128 + 128 : Nat) : Int)]).rw_of_bk (size := 1) (n := 1) rfl (by unfold maxLen; decide)
        have e : bytesU [UInt8.ofNat (m % 128 + 128)] = [.int .u8 ((m % 128 + 128 : Nat) : Int)] := by unfold bytesU; rw [List.map_cons, List.map_nil, hc8]
        rw [e]
        exact this
      have b1 := (Below.refl w.heap.size w).alloc (Nat.le_refl _) (.cells #[.int .u8 ((m % 128 + 128 : Nat) : Int)] 5)
      have I := ih (m / 128) (by omega) (by omega)
      rw [onum_big hs]
      have h6 := onum_len6 (n := m / 128) (by omega)
      obtain ⟨d, hd⟩ : ∃ d : Nat, d = m / 128 := ⟨_, rfl⟩
      rw [← hd] at I h6 ⊢
      have hq : (m : Int).tdiv 128 = (d : Int) := by rw [Int.tdiv_eq_ediv_of_nonneg (by omega)]; omega
      have hr : 128 + (m : Int) % 128 = ((m % 128 + 128 : Nat) : Int) := by omega
      have d1 : (d : Int) ≤ 1099511627775 := by omega
      have d0 : (0 : Int) ≤ (d : Int) := by omega
      obtain ⟨q, hqq⟩ : ∃ q : Nat, q = m % 128 + 128 := ⟨_, rfl⟩
      rw [← hqq] at hr o1 b1 ⊢
      have q1 : (q : Int) < 256 := by omega
      have q0 : (0 : Int) ≤ (q : Int) := by omega
      generalize UInt8.ofNat q = cq at *
      clear ih hc8 hs hd hqq
      have I2 := fun w1 => I w1
      go_enter Try.func14, Try.ntmps14
      go_wp2_with fail
      refine (I2 _).mono ?_
      rintro e w2 ⟨v2, rfl, ho2, b2⟩
      have o2 := Own.fresh (by simp) o1 ho2 b2
      have o3 := o2.swap.assoc
      have o4 : Own w.heap.size (Rw 5 1 (.slice (some ⟨w.heap.size, 0, none⟩) 1 1) [cq].length (bytesU [cq]) * (Rw 5 1 v2 (onum d).length (bytesU (onum d)) * Emp)) w2 := o3.cast (by ac_rfl)
      obtain ⟨A2, c2, rfl⟩ := o2.row_n
      obtain ⟨v3, w3, hrun, o5, b3⟩ := byte_append (Nat.le_trans (by simp) b2.size) o4 o2.rd (by simp; omega)
      have Hrun := Lib.hid hrun
      have hb := (b1.trans (b2.mono b1.size)).trans b3
      clear hrun o2 o3 o4 ho2 b1 b2 b3 o1
      go_wp2_with (at_builtin; refine wpList_append_run rfl (.tmp 18) (.tmp 21) 22 rfl rfl rfl Hrun.out ?_)
      go_ret
      exact RetB.mk rfl rfl rfl rfl o5 hb

set_option maxRecDepth 100000 in
theorem refnum_any (n : Int) (w : World) : Calls Try.prog 14 #[.int .i64 n] w (RetB w (onumI n)) := by
  have Z := refnum_in
  by_cases h1 : n < 0
  · have hn : onumI n = [UInt8.ofNat 0] := by unfold onumI; rw [if_pos (.inl h1), onum_small (by omega)]
    rw [hn]
    clear hn Z
    have o1 : Own w.heap.size (Rw 5 1 (.slice (some ⟨w.heap.size, 0, none⟩) 1 1) [UInt8.ofNat 0].length (bytesU [UInt8.ofNat 0]) * Emp) (w.alloc (.cells #[.int .u8 0] 5)) :=
      ((Own.start w.heap.size w).new (Nat.le_refl _) 5 #[.int .u8 0]).rw_of_bk (size := 1) (n := 1) rfl (by unfold maxLen; decide)
    have b1 := (Below.refl w.heap.size w).alloc (Nat.le_refl _) (.cells #[.int .u8 0] 5)
    go_enter Try.func14, Try.ntmps14
    go_wp2
    go_ret
    exact RetB.mk rfl rfl rfl rfl o1 b1
  · by_cases h2 : 1099511627775 < n
    · have hn : onumI n = [UInt8.ofNat 0] := by unfold onumI; rw [if_pos (.inr h2), onum_small (by omega)]
      rw [hn]
      clear hn Z
      have o1 : Own w.heap.size (Rw 5 1 (.slice (some ⟨w.heap.size, 0, none⟩) 1 1) [UInt8.ofNat 0].length (bytesU [UInt8.ofNat 0]) * Emp) (w.alloc (.cells #[.int .u8 0] 5)) :=
        ((Own.start w.heap.size w).new (Nat.le_refl _) 5 #[.int .u8 0]).rw_of_bk (size := 1) (n := 1) rfl (by unfold maxLen; decide)
      have b1 := (Below.refl w.heap.size w).alloc (Nat.le_refl _) (.cells #[.int .u8 0] 5)
      go_enter Try.func14, Try.ntmps14
      go_wp2
      go_ret
      exact RetB.mk rfl rfl rfl rfl o1 b1
    · have hn : onumI n = onum n.toNat := by unfold onumI; rw [if_neg (by omega)]
      obtain ⟨m, rfl⟩ : ∃ m : Nat, n = (m : Int) := ⟨n.toNat, by omega⟩
      rw [hn, Int.toNat_natCast]
      exact Z m (by omega) w
end Go.Proofs.Ytedcficjmogohaa

/- What read reads: plain; and when two tokens are the same. -/
namespace Go.Proofs.Ytedcficjmogohaa
set_option linter.unusedVariables false
set_option linter.unusedSimpArgs false
set_option maxRecDepth 100000
open Go.RowKit

theorem takeM_out (q : RS) (m : MS) : (takeM q m).2.2.out = m.out := by unfold takeM; split <;> rfl
theorem rdN_exp (n : Nat) : ∀ (k : Nat) (q : RS) (m : MS) (acc l : List Tk) (q' : RS) (m' : MS), rdN n k q m acc = some (l, q', m') → expT n acc [] = some m.out → m.out.length ≤ n → expT n l [] = some m'.out ∧ m'.out.length = n
  | 0, q, m, acc, l, q', m', h, _, _ => by cases h
  | k + 1, q, m, acc, l, q', m', h, he, hn => by
    rw [rdN] at h
    by_cases hlt : m.out.length < n
    · rw [if_pos hlt] at h
      by_cases hf : fitsP (takeM q m).2.2.out (takeM q m).1 n
      · rw [if_pos hf] at h
        have ho := takeM_out q m
        refine rdN_exp n k _ _ _ _ _ _ h ?_ ?_
        · rw [expT_append, he]
          show expT n [(takeM q m).1] m.out = _
          rw [expT, ← ho, if_pos hf]
          rfl
        · have h1 := sawT_len (takeM q m).2.2.out _ hf.1
          have h2 := hf.2.2
          show (sawT (takeM q m).2.2.out (takeM q m).1).length ≤ n
          omega
      · rw [if_neg hf] at h; cases h
    · rw [if_neg hlt] at h
      injection h with h
      injection h with h1 h2
      injection h2 with h2 h3
      subst h1; subst h2; subst h3
      exact ⟨he, by omega⟩
theorem read_exp {x : List Int} {n : Int} {l : List Tk} {b : List UInt8} (h : readN x n = (l, b, 0)) : expT b.length l [] = some b ∧ (b.length : Int) = n ∧ b.length ≤ 65536 := by
  unfold readN at h
  by_cases hr : n < 0 ∨ 65536 < n
  · rw [if_pos hr] at h
    injection h with _ h; injection h with _ h; cases h
  rw [if_neg hr] at h
  cases hd : rdN n.toNat (n.toNat + 1) (openS x) ms0 [] with
  | none =>
    rw [hd] at h
    injection h with _ h; injection h with _ h; cases h
  | some r =>
    obtain ⟨l', q', m'⟩ := r
    rw [hd] at h
    simp only at h
    obtain ⟨h1, h2⟩ := rdN_exp _ _ _ _ _ _ _ _ hd rfl (Nat.zero_le _)
    by_cases he : q'.e = 0
    · rw [if_pos he] at h
      by_cases hrem : q'.rem = []
      · rw [if_pos hrem] at h
        injection h with e1 h; injection h with e2 h
        subst e1; subst e2
        exact ⟨by rw [h2]; exact h1, by omega, by omega⟩
      · rw [if_neg hrem] at h
        injection h with _ h; injection h with _ h; cases h
    · rw [if_neg he] at h
      injection h with _ h; injection h with _ h; exact absurd h he
theorem expT_more {n n' : Int} (hn : n ≤ n') : ∀ (l : List Tk) (out b : List UInt8), expT n l out = some b → expT n' l out = some b
  | [], _, _, h => h
  | t :: l, out, b, h => by
    rw [expT] at h ⊢
    by_cases hf : fitsP out t n
    · rw [if_pos hf] at h
      rw [if_pos (fitsP_more hf hn)]
      exact expT_more hn l _ _ h
    · rw [if_neg hf] at h; cases h
theorem unpack_ok {x b : List UInt8} (h : unpackN x = (b, 0)) : ∃ l rest, x = onum b.length ++ rest ∧ readN (ints rest) b.length = (l, b, 0) ∧ b.length ≤ 65536 := by
  unfold unpackN at h
  by_cases he : (readNum ⟨x, 0⟩ 65536).2.err ≠ 0
  · rw [if_pos he] at h
    injection h with _ h
    exact absurd h he
  · rw [if_neg he] at h
    obtain ⟨n, t2, ht⟩ : ∃ n t, readNum ⟨x, 0⟩ 65536 = (n, t) := ⟨_, _, rfl⟩
    rw [ht] at h he
    simp only at h he
    obtain ⟨_, k2, k3, k4, _⟩ := readNum_ok ht (by simpa using he)
    generalize hR : readN (ints t2.rest) n = r at h
    obtain ⟨l, b', z⟩ := r
    simp only at h
    injection h with e1 e2
    subst e1; subst e2
    obtain ⟨r1, r2, r3⟩ := read_exp hR
    refine ⟨l, t2.rest, ?_, ?_, r3⟩
    · rw [show b'.length = n.toNat by omega]; exact k2
    · rw [r2]; exact hR

/-- A token and itself. -/
theorem eqTk (t : Tk) (w : World) : (Op.equalIn 10000 39 (.agg (tkL t).toArray) (.agg (tkL t).toArray)).run Try.prog w = .ok true w := by
  simp only [tkL]
  have u3 := Try.underlying3
  have u9 := Try.underlying5
  have hS : Try.prog.underlying 39 = some (.struct (Try.prog.fieldsOf 39)) := by kernel_rfl
  have hp : Try.prog.stoodInHeld 39 = false := by kernel_rfl
  rw [show (10000 : Nat) = 9999 + 1 from rfl, run_equalIn_agg w 9999 39 _ _ hS hp]
  simp only [Program.fieldsOf, Try.underlying39]
  go_simp
theorem guardTk : Try.prog.eqGuardType Try.prog.depth 39 = false := by kernel_rfl
theorem neqTk (t : Tk) (w : World) : (binOp .neq 39 (.agg (tkL t).toArray) (.agg (tkL t).toArray)).run Try.prog w = .ok (.bool false) w := by
  rw [run_neq_struct, eqTk]; rfl
end Go.Proofs.Ytedcficjmogohaa

/- The walk over the law PackRaw. -/
namespace Go.Proofs.Ytedcficjmogohaa
set_option linter.unusedVariables false
set_option linter.unusedSimpArgs false
set_option maxRecDepth 100000
open Go.RowKit

theorem below_drew1 {B : Nat} {w w1 : World} (h : Below B w w1) (n : Nat) : Below B w (w1.drewN n) := below_drewN h n
set_option maxHeartbeats 3200000 in
theorem packraw_walk (A : Option Addr) (c : Nat) (x : List UInt8) (hc : x.length ≤ c ∧ c ≤ 9223372036854775807) (w : World) (hr : Rd w (.slice A x.length c) (bytesU x)) :
    Calls Try.prog 8 #[.slice A x.length c] w (fun e w' => e = .returned (.bool true) ∧ Below w.heap.size w w') := by
  have hb0 := Below.refl w.heap.size w
  by_cases hbig : (500 : Int) < (x.length : Int)
  · clear hr
    generalize x.length = L at *
    go_enter Try.func8, Try.ntmps8
    go_wp2_with fail
    refine (awake_any _).mono ?_
    rintro e wz ⟨rfl, bz⟩
    go_wp2
    go_ret
    exact ⟨rfl, bz⟩
  have HU := Lib.hid (unpack_any A c x (by omega) hc w hr)
  have Hr := Lib.hid (fun w1 (h : Below w.heap.size w w1) => hr.below h)
  obtain ⟨b, z, hz⟩ : ∃ b z, unpackN x = (b, z) := ⟨_, _, rfl⟩
  rw [hz] at HU
  by_cases h0 : z = 0
  · subst h0
    obtain ⟨l, rest, hx, hR, hbl⟩ := unpack_ok hz
    obtain ⟨r1, r2, r3⟩ := read_exp hR
    have hlen := (expT_len (n := (b.length : Int)) l [] b (by simp) r1).2
    have hll : l.length ≤ b.length := by simpa using hlen
    have hx6 : expT 65536 l [] = some b := expT_more (by omega) l [] b r1
    have hrw := read_write l b hbl r1
    have hiw := writeU_ints l (by omega)
    have HN := Lib.hid (fun w1 => refnum_any (b.length : Int) w1)
    rw [onumI_nat _ (by omega)] at HN
    have hpos := onum_pos b.length
    have hxl : x.length = (onum b.length).length + rest.length := by rw [hx, List.length_append]
    have hdrop : x.drop (onum b.length).length = rest := by rw [hx, List.drop_left]
    have htake : x.take (onum b.length).length = onum b.length := by rw [hx, List.take_left]
    have HE := Lib.hid (fun A1 c1 w1 (h : RdA 3 tkL w1 A1 l) => (expand_tk A1 c1 l (by omega) w1 h).mono (fun e w2 (hE : ExpP w1 l e w2) => And.intro (hE.1 b hx6) hE.2.2))
    have HW : Hid (∀ A1 c1 w1, RdA 3 tkL w1 A1 l → Calls Try.prog 17 #[.slice A1 l.length c1] w1 (RetB w1 (writeU l))) := Lib.hid (fun A1 c1 w1 h => by
      refine (write_any A1 c1 l (by omega) w1 h).mono ?_
      rintro e w2 ⟨v, he, ho, hb⟩
      rw [← hiw, bytesV_ints, ints_length] at ho
      exact ⟨v, he, ho, hb⟩)
    have HR2 := Lib.hid (fun vx w1 (h : Rd w1 vx (bytesU (writeU l))) => rread_any (writeU l) vx (by have := writeN_len l (by omega); rw [← hiw, ints_length] at this; omega) b.length (by omega) (by omega) w1 h)
    rw [hiw, hrw] at HR2
    have HR1 := Lib.hid (fun vx w1 (h : Rd w1 vx (bytesU rest)) => rread_any rest vx (by omega) b.length (by omega) (by omega) w1 h)
    rw [hR] at HR1
    have n1 : (l.length : Int) ≤ 65536 := by omega
    have n2 : (b.length : Int) ≤ 65536 := by omega
    have HX := Lib.hid (fun w1 (h : Below w.heap.size w w1) => And.intro (((Hr.out w1 h).takeU (onum b.length).length (by omega))) ((Hr.out w1 h).dropU hc.1 (onum b.length).length (by omega)))
    rw [htake, hdrop] at HX
    have Hxl := Lib.hid (And.intro hxl hpos)
    have m1 : ((onum b.length).length : Int) ≤ (x.length : Int) := by omega
    have m2 : (x.length : Int) ≤ (c : Int) := by omega
    have m3 : ((onum b.length).length : Int) ≤ (c : Int) := by omega
    have m5 : decide (x.length < (onum b.length).length) = false := decide_eq_false (by omega)
    have m6 : ¬ (x.length : Int) < ((onum b.length).length : Int) := by omega
    have m7 : decide ((x.length : Int) < ((onum b.length).length : Int)) = false := decide_eq_false m6
    have hckL : (c = (onum b.length).length → rest.length = 0) := by omega
    have HckL := Lib.hid hckL
    clear hr hz hx hR r1 r2 r3 hlen hx6 hrw hiw hdrop htake hxl hbl hll hckL hpos
    generalize hon : onum b.length = on at *
    clear hon
    go_enter Try.func8, Try.ntmps8
    go_wp2_with fail
    refine HU.out.mono ?_
    rintro e w1 ⟨A1, c1, rfl, q1, g1, b1⟩
    have Q1 := Lib.hid (fun w2 (h : Below w1.heap.size w1 w2) => q1.below h)
    clear HU q1
    go_wp2_with fail
    refine (HN.out w1).mono ?_
    rintro e w2 ⟨v2, rfl, o2, b2⟩
    have o2 := Own.fresh b1.size (Own.start w.heap.size w1) o2 b2
    have hb2 := b1.trans (b2.mono b1.size)
    have q2 := o2.rd
    obtain ⟨A2, c2, rfl⟩ := o2.row_n
    have Q2 := Lib.hid (fun w3 (h : Below w2.heap.size w2 w3) => q2.below h)
    have s1 := fun k => str_of_u (HX.out (w2.drewN k) (below_drewN hb2 k)).1
    have s2 := fun k => str_of_u (Q2.out (w2.drewN k) (below_drewN (Below.refl _ _) k))
    clear o2
    go_wp2
    go_quiet (fail)
    have hb3 := below_drewN hb2 nq
    have hrest := (HX.out (w2.drewN nq) hb3).2
    have Q3 := Lib.hid (fun w3 (h : Below (w2.drewN nq).heap.size (w2.drewN nq) w3) => Q1.out w3 ((b2.trans (below_drewN (Below.refl _ w2) nq |>.mono b2.size)).trans (h.mono (by have := b2.size; exact this))))
    clear s1 s2 HX Q2 q2 m5 m6 m7
    generalize w2.drewN nq = w3 at *
    obtain ⟨K, hK⟩ : ∃ K, on.length = K := ⟨_, rfl⟩
    have Hxl2 := Hxl.out
    rw [hK] at hrest m1 m3 HckL Hxl2 ⊢
    have hxr : x.length - K = rest.length := by omega
    rw [hxr] at hrest
    by_cases hck : c = K
    · subst hck
      have hrl : rest.length = 0 := HckL.out rfl
      have hxc : x.length = c := by omega
      rw [if_pos rfl, Nat.sub_self, hrl] at hrest
      have HR3 := Lib.hid (HR1.out _ w3 hrest)
      rw [hxc]
      clear HckL hrest hxr m1 m2 m3 Hxl Hxl2 hrl Hr hxc HR1 hc
      go_wp2_with fail
      refine HR3.out.mono ?_
      rintro e w4 ⟨A4, c4, rfl, a4, g4, b4⟩
      have hb4 := hb3.trans (b4.mono hb3.size)
      have q4 := Q3.out w4 b4
      have HE4 := Lib.hid (HE.out A4 c4 w4 a4)
      clear HR3 b4 HE hb3
      go_wp2_with fail
      refine HE4.out.mono ?_
      rintro e w5 ⟨⟨A5, rfl, q5⟩, b5⟩
      have hb5 := hb4.trans (b5.mono hb4.size)
      have a5 := a4.below b5
      have q45 := q4.below b5
      have HW5 := Lib.hid (HW.out A4 c4 w5 a5)
      clear HE4 b5 HW hb4 a4 q4
      go_wp2_with fail
      refine HW5.out.mono ?_
      rintro e w6 ⟨v6, rfl, o6, b6⟩
      have hb6 := hb5.trans (b6.mono hb5.size)
      have r6 := (Own.fresh hb5.size (Own.start w.heap.size w5) o6 b6).rd
      have HR6 := Lib.hid (HR2.out v6 w6 r6)
      have a6 := a5.below b6
      have q46 := q45.below b6
      have q56 := q5.below b6
      clear HW5 b6 o6 hb5 a5 q45 q5 r6 HR2
      go_wp2_with fail
      refine HR6.out.mono ?_
      rintro e w7 ⟨A7, c7, rfl, a7, g7, b7⟩
      have hb7 := hb6.trans (b7.mono hb6.size)
      have a47 := a6.below b7
      have s1 : (convert 22 9 (.slice A1 b.length c1)).run Try.prog w7 = .ok (.string (strU b)) w7 := str_of_u (q46.below b7)
      have s2 : (convert 22 9 (.slice A5 b.length b.length)).run Try.prog w7 = .ok (.string (strU b)) w7 := str_of_u (q56.below b7)
      have heq : ((strU b).toList == (strU b).toList) = true := by simp
      clear HR6 b7 hb6 a6 q46 q56
      go_wp2
      clear s1 s2 heq
      go_loopg [97] l.length (fun k v wr => ∃ i : Nat, k + i = l.length ∧ v = .int .i64 (i : Int) ∧ Below w7.heap.size w7 wr)
      case atStart => exact ⟨0, by omega, rfl, Below.refl _ _⟩
      case round =>
        obtain ⟨i, hk, rfl, hb⟩ := hrel
        by_cases hlt : (i : Int) < (l.length : Int)
        · obtain ⟨j, rfl⟩ : ∃ j, gk = j + 1 := ⟨gk - 1, by omega⟩
          have hil : i < l.length := by omega
          have i0' : (0 : Int) ≤ (i : Int) := by omega
          have i2' : ¬ (l.length : Int) ≤ (i : Int) := by omega
          have i3' : decide ((l.length : Int) ≤ (i : Int)) = false := decide_eq_false i2'
          have i4' : decide (l.length ≤ i) = false := decide_eq_false (by omega)
          obtain ⟨p1, o1, rfl, u1, d⟩ := a47.below hb i hil
          obtain ⟨p2, o2, rfl, u2, d'⟩ := a7.below hb i hil
          have Hk := Lib.hid hk
          clear hk
          have hneq := fun W => neqTk l[i] W
          generalize l[i] = t at *
          obtain ⟨lit, len, back⟩ := t
          obtain ⟨d0, d1, d2⟩ := RdA.cells3 d
          obtain ⟨e0, e1, e2⟩ := RdA.cells3 d'
          simp only [tkL] at d0 d1 d2 e0 e1 e2 hneq
          clear d d'
          go_wp2
          go_quiet (fail)
          go_wp2
          go_roundg j
          case measure => omega
          case rel => exact ⟨i + 1, by have := Hk.out; omega, rfl, below_drewN hb _⟩
        · have hbz := hb7.trans (hb.mono hb7.size)
          go_wp2_with fail
          refine (awake_any _).mono ?_
          rintro e wz ⟨rfl, bz⟩
          go_wp2
          go_ret
          exact ⟨rfl, hbz.trans (bz.mono hbz.size)⟩
    · rw [if_neg hck] at hrest
      have HR3 := Lib.hid (HR1.out _ w3 hrest)
      have hx2 : x.length = K + rest.length := by omega
      rw [hx2] at m1 m2 ⊢
      clear HckL hrest hxr Hxl Hxl2 Hr hx2 HR1
      go_wp2_with fail
      refine HR3.out.mono ?_
      rintro e w4 ⟨A4, c4, rfl, a4, g4, b4⟩
      have hb4 := hb3.trans (b4.mono hb3.size)
      have q4 := Q3.out w4 b4
      have HE4 := Lib.hid (HE.out A4 c4 w4 a4)
      clear HR3 b4 HE hb3
      go_wp2_with fail
      refine HE4.out.mono ?_
      rintro e w5 ⟨⟨A5, rfl, q5⟩, b5⟩
      have hb5 := hb4.trans (b5.mono hb4.size)
      have a5 := a4.below b5
      have q45 := q4.below b5
      have HW5 := Lib.hid (HW.out A4 c4 w5 a5)
      clear HE4 b5 HW hb4 a4 q4
      go_wp2_with fail
      refine HW5.out.mono ?_
      rintro e w6 ⟨v6, rfl, o6, b6⟩
      have hb6 := hb5.trans (b6.mono hb5.size)
      have r6 := (Own.fresh hb5.size (Own.start w.heap.size w5) o6 b6).rd
      have HR6 := Lib.hid (HR2.out v6 w6 r6)
      have a6 := a5.below b6
      have q46 := q45.below b6
      have q56 := q5.below b6
      clear HW5 b6 o6 hb5 a5 q45 q5 r6 HR2
      go_wp2_with fail
      refine HR6.out.mono ?_
      rintro e w7 ⟨A7, c7, rfl, a7, g7, b7⟩
      have hb7 := hb6.trans (b7.mono hb6.size)
      have a47 := a6.below b7
      have s1 : (convert 22 9 (.slice A1 b.length c1)).run Try.prog w7 = .ok (.string (strU b)) w7 := str_of_u (q46.below b7)
      have s2 : (convert 22 9 (.slice A5 b.length b.length)).run Try.prog w7 = .ok (.string (strU b)) w7 := str_of_u (q56.below b7)
      have heq : ((strU b).toList == (strU b).toList) = true := by simp
      clear HR6 b7 hb6 a6 q46 q56
      go_wp2
      clear s1 s2 heq
      go_loopg [97] l.length (fun k v wr => ∃ i : Nat, k + i = l.length ∧ v = .int .i64 (i : Int) ∧ Below w7.heap.size w7 wr)
      case atStart => exact ⟨0, by omega, rfl, Below.refl _ _⟩
      case round =>
        obtain ⟨i, hk, rfl, hb⟩ := hrel
        by_cases hlt : (i : Int) < (l.length : Int)
        · obtain ⟨j, rfl⟩ : ∃ j, gk = j + 1 := ⟨gk - 1, by omega⟩
          have hil : i < l.length := by omega
          have i0' : (0 : Int) ≤ (i : Int) := by omega
          have i2' : ¬ (l.length : Int) ≤ (i : Int) := by omega
          have i3' : decide ((l.length : Int) ≤ (i : Int)) = false := decide_eq_false i2'
          have i4' : decide (l.length ≤ i) = false := decide_eq_false (by omega)
          obtain ⟨p1, o1, rfl, u1, d⟩ := a47.below hb i hil
          obtain ⟨p2, o2, rfl, u2, d'⟩ := a7.below hb i hil
          have Hk := Lib.hid hk
          clear hk
          have hneq := fun W => neqTk l[i] W
          generalize l[i] = t at *
          obtain ⟨lit, len, back⟩ := t
          obtain ⟨d0, d1, d2⟩ := RdA.cells3 d
          obtain ⟨e0, e1, e2⟩ := RdA.cells3 d'
          simp only [tkL] at d0 d1 d2 e0 e1 e2 hneq
          clear d d'
          go_wp2
          go_quiet (fail)
          go_wp2
          go_roundg j
          case measure => omega
          case rel => exact ⟨i + 1, by have := Hk.out; omega, rfl, below_drewN hb _⟩
        · have hbz := hb7.trans (hb.mono hb7.size)
          go_wp2_with fail
          refine (awake_any _).mono ?_
          rintro e wz ⟨rfl, bz⟩
          go_wp2
          go_ret
          exact ⟨rfl, hbz.trans (bz.mono hbz.size)⟩
  · have hbn : b = [] := by
      have := unpack_err (x := x) (by rw [hz]; exact h0)
      rw [hz] at this
      exact this
    subst hbn
    have h0' : (z == 0) = false := by simpa using h0
    have h0'' : (z != 0) = true := by simpa using h0
    clear hz hr Hr
    go_enter Try.func8, Try.ntmps8
    go_wp2_with fail
    refine HU.out.mono ?_
    rintro e w1 ⟨A1, c1, rfl, q1, g1, b1⟩
    clear HU q1
    go_wp2_with fail
    refine (awake_any _).mono ?_
    rintro e wz ⟨rfl, bz⟩
    go_wp2
    go_ret
    exact ⟨rfl, b1.trans (bz.mono b1.size)⟩
end Go.Proofs.Ytedcficjmogohaa

/- What lies below B, as a part of what is owned. -/
namespace Go.Proofs.Ytedcficjmogohaa
set_option linter.unusedVariables false
set_option linter.unusedSimpArgs false
set_option maxRecDepth 100000
open Go.RowKit

/-- All below B is as it was. -/
def Kept (B : Nat) (w0 : World) : HP := fun w _ => ∀ k, k < B → w.heap[k]? = w0.heap[k]?
instance Loc.kept {B : Nat} {w0 : World} : Loc B (Kept B w0) := ⟨fun _ _ _ _ h2 h k hk => (h2 k hk).trans (h k hk), fun _ _ _ _ h => h⟩
theorem Own.kept {B : Nat} {R : HP} {w0 w : World} (h : Own B R w) (hb : Below B w0 w) (hB : B ≤ w0.heap.size) : Own B (Kept B w0 * R) w := by
  obtain ⟨F, hf, hr⟩ := h
  exact ⟨F, hf, fun _ => False, F, fun _ h => h.elim, fun _ h => h.elim, fun _ h => h, fun k hk => hb.block k hk, hr⟩
theorem Own.kept_out {B : Nat} {R : HP} {w0 w : World} (h : Own B (Kept B w0 * R) w) : ∀ k, k < B → w.heap[k]? = w0.heap[k]? := let ⟨_, _, _, _, _, _, _, hp, _⟩ := h; hp
theorem RdA.kept {α : Type} {k : Nat} {cs : α → List Value} {w w' : World} {A : Option Addr} {l : List α} (h : RdA k cs w A l) (hk : ∀ j, j < w.heap.size → w'.heap[j]? = w.heap[j]?) (hs : w.heap.size ≤ w'.heap.size) : RdA k cs w' A l := fun i hi => by
  obtain ⟨b, off, ha, hlt, hc⟩ := h i hi
  refine ⟨b, off, ha, by omega, fun j u hu => ?_⟩
  rw [World.cell?_of_block (w := w) (w' := w') (a := ⟨b, off + i * k + j, none⟩) (hk b hlt)]
  exact hc j u hu

theorem Rd.kept {w w' : World} {v : Value} {xs : List Value} (h : Rd w v xs) (hk : ∀ j, j < w.heap.size → w'.heap[j]? = w.heap[j]?) : Rd w' v xs := by
  obtain ⟨A, c, hv, hr⟩ := h
  refine ⟨A, c, hv, fun hne => ?_⟩
  obtain ⟨ad, ha, hc⟩ := hr hne
  exact ⟨ad, ha, fun j u hu => (World.cell?_of_block (hk _ (World.block_lt_of_cell? w _ (hc j u hu)))).trans (hc j u hu)⟩
end Go.Proofs.Ytedcficjmogohaa
