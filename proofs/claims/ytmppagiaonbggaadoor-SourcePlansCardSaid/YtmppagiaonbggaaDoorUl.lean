/- Texts of one proof, merged: XGf XPre XSpl. -/
import Derived.Test.YtmppagiaonbggaaDoorUk
/- The walk over SourceSizes. -/
namespace Go.Proofs.YtmppagiaonbggaaDoor
set_option linter.unusedVariables false
set_option linter.unusedSimpArgs false
set_option maxRecDepth 100000
open Go.RowKit Go.Shelf

attribute [local go_sem] Oper.semAt_some
theorem results_cell_bool {fn : Func} {p : Tmp} (h : fn.results = #[.cell p 4]) (tmps : Array Value) (w : World) (g i : Nat) (v : Value) (hp : tmps.getD p undef = .pointer (some ⟨g, i, none⟩)) (hc : w.cell? ⟨g, i, none⟩ = some v) : (results fn tmps).run Tryd.prog w = .ok v w := by
  have hu := Tryd.underlying4
  unfold results
  simp only [h]
  have hp' : tmps[p]?.getD undef = .pointer (some ⟨g, i, none⟩) := by simpa using hp
  simp [go_sem, hp', hu, hc]

theorem seg_len {b : List UInt8} {p : Pn} (ht : p.tot = (b.length : Int)) (k : Nat) (hk : k < nsegP b p) : ∃ i j : Nat, (k : Int) * p.ch = (i : Int) ∧ (chunkP b p k).length = j - i ∧ i < j ∧ (i : Int) ≤ 4194304 ∧ j ≤ b.length ∧ (min (((k + 1 : Nat) : Int) * p.ch) (b.length : Int) = (j : Int)) ∧ (if (k : Int) = segsP p - 1 then p.tot - (k : Int) * p.ch else p.ch) = ((j - i : Nat) : Int) ∧ (min ((k : Int) * p.ch) (b.length : Int) = (i : Int)) := by
  obtain ⟨i, m, j, hi, hm, hj, hij, hjb, hc, x1, x2, x3, x4, x5, x6⟩ := seg_facts ht k hk
  refine ⟨i, j, hi, by rw [hc]; exact (bytesU_cut b i j hjb (by omega)).2, hij, by omega, hjb, ?_, ?_, ?_⟩
  · rw [show ((k + 1 : Nat) : Int) = (k : Int) + 1 by omega, hm]; omega
  · have hk2 : (k : Int) < segsP p := by unfold nsegP at hk; rw [if_pos ht] at hk; omega
    have hs : segsP p = (p.tot + p.ch - 1) / p.ch := by
      unfold segsP
      split
      · rfl
      · rename_i h
        unfold segsP at hk2
        rw [if_neg h] at hk2
        omega
    split
    · rename_i h
      have h1 : p.tot ≤ ((k : Int) + 1) * p.ch := by
        have h2 : (p.tot + p.ch - 1) / p.ch < (k : Int) + 2 := by omega
        have h3 := (Int.ediv_lt_iff_lt_mul (by omega)).1 h2
        have h4 : ((k : Int) + 2) * p.ch = ((k : Int) + 1) * p.ch + p.ch := by rw [show (k : Int) + 2 = (k : Int) + 1 + 1 by omega, Int.add_mul ((k : Int) + 1), Int.one_mul]
        omega
      omega
    · rename_i h
      have h1 : ((k : Int) + 1) * p.ch ≤ p.tot - 1 := by
        have h2 : (k : Int) + 2 ≤ (p.tot + p.ch - 1) / p.ch := by omega
        have h3 := (Int.le_ediv_iff_mul_le (by omega)).1 h2
        have h4 : ((k : Int) + 2) * p.ch = ((k : Int) + 1) * p.ch + p.ch := by rw [show (k : Int) + 2 = (k : Int) + 1 + 1 by omega, Int.add_mul ((k : Int) + 1), Int.one_mul]
        omega
      omega
  · have : (i : Int) ≤ (b.length : Int) := by omega
    omega
theorem seg_end {b : List UInt8} {p : Pn} (hm : p.mayB = true) (ht : p.tot = (b.length : Int)) : min (segsP p * p.ch) (b.length : Int) = p.tot ∧ (p.ch < p.tot ∨ segsP p ≤ 1) ∧ (nsegP b p : Int) = segsP p ∧ segsP p ≤ 4259840 := by
  obtain ⟨m0, m1, _, _, m4, m5⟩ := p.may_true hm
  have hs : segsP p = (p.tot + p.ch - 1) / p.ch := by unfold segsP; rw [if_pos hm]
  have hn := segsP_nonneg p
  have h1 : p.tot ≤ segsP p * p.ch := by
    have h2 : (p.tot + p.ch - 1) / p.ch < segsP p + 1 := by omega
    have h3 := (Int.ediv_lt_iff_lt_mul (by omega)).1 h2
    rw [Int.add_mul, Int.one_mul] at h3
    omega
  refine ⟨by omega, ?_, by unfold nsegP; rw [if_pos ht]; omega, ?_⟩
  · by_cases h : p.ch < p.tot
    · exact .inl h
    · right
      have h2 : (p.tot + p.ch - 1) / p.ch < 2 := (Int.ediv_lt_iff_lt_mul (by omega)).2 (by omega)
      omega
  · rw [hs]
    exact Int.le_trans (Int.ediv_le_self _ (by omega)) (by omega)

theorem exec_load_row {P : Program} {a : Act} {o : Oper} {w : World} {ty : TypeId} {x : Operand} (ho : o.op = .load ty x) (g : Nat) (hx : a.eval x = .pointer (some ⟨g, 0, none⟩)) (t : TypeId) (cs : Array Value) (fr : Nat × Nat) (d : TypeDesc) (hg : w.heap[g]? = some (.cells cs t fr))
    (hu : P.underlying ty = some d) (hd : (match d with | .struct _ | .array _ _ => true | _ => false) = true) (hi : (P.info? ty).map (·.size) = some cs.size) : (execOp a.eval o).run P w = .ok (.value (.agg cs)) w := by
  unfold execOp
  simp only [ho, hx, Instr.loadAt, Instr.sureAddr, Sem.run_bind, Sem.run_pure, Result.andThen_ok, run_loadVar_row w g t ty cs fr d hg hu hd hi]

set_option maxRecDepth 100000 in
set_option maxHeartbeats 6400000 in
theorem sizes_walk (A : Option Addr) (c : Nat) (l : List (Fi × Value)) (hl : l.length ≤ 9223372036854775807) (hw : ∀ x ∈ l, x.1.wide) (ch : Int) (hch : okI ch) (w : World) (h : Sh w) (hr : RdF w A l) :
    Calls Tryd.prog 7 #[.slice A l.length c, .int .i64 ch] w fun e w' => e = .returned (.bool true) ∧ Below w.heap.size w w' := by
  have o0 := ((Own.start w.heap.size w).new (Nat.le_refl _) 3 #[.int .i64 ch]).new (by simp) 4 #[.bool false]
  have hb := ((Below.refl w.heap.size w).alloc (Nat.le_refl _) (.cells #[.int .i64 ch] 3)).alloc (by simp) (.cells #[.bool false] 4)
  simp only [World.size_alloc9] at o0
  have Hh := Lib.hid (fun w1 (b : Below w.heap.size w w1) => sh_below h b)
  have Aw := Lib.hid (fun w1 h1 => awakeS_any w1 h1)
  have Hr := Lib.hid (fun w1 (b : Below w.heap.size w w1) => hr.below b)
  have Fe := Lib.hid (few_any A c l hl hw _ (Hr.out _ hb))
  by_cases hf : fewP (l.map (·.1))
  · rw [decide_eq_true hf] at Fe
    obtain ⟨f1, f2, f3⟩ := few_ok hw hf
    have R1 := Lib.hid (fun w1 h1 hr => rightE_any A c l (by omega) (by omega) f3 w1 h1 hr)
    by_cases hz : whyE (ents (l.map (·.1))) = 0
    · by_cases hc1 : ch < 1
      · rw [hz] at R1
        clear h hr hf f3 hw
        refine (callsIn_wide (n := 5)).1 (callsIn_of_wp_marks Tryd.func7 rfl trivial (wpIn_wide.2 ?_) rfl)
        simp only [Tryd.ntmps7, List.size_toArray, List.length_cons, List.length_nil, Nat.reduceAdd, Nat.reduceSub, Array.replicate_succ, Array.replicate_zero, List.push_toArray, List.append_toArray, List.nil_append, List.cons_append]
        go_wp2_with fail
        refine (Fe.out).mono ?_
        rintro e wz ⟨rfl, rfl⟩
        go_wp2_with fail
        refine (Aw.out _ (Hh.out _ hb)).mono ?_
        rintro e w1 ⟨rfl, b⟩
        have o1 := (o0).grown hb.size b
        have hb1 := hb.trans (b.mono hb.size)
        have k1 := o1.cell 0
        have z1 := o1.unfrozen 0
        have o2 := o1.set hb1.size 0 (.bool true)
        have b2 := o1.below_set 0 (.bool true)
        clear hb b
        go_wp2
        exact ⟨_, results_cell_bool rfl _ _ (w.heap.size + 1) 0 _ rfl (o2.cell 0), rfl, hb1.trans b2⟩
      · by_cases hc2 : 65536 < ch
        · rw [hz] at R1
          clear h hr hf f3 hw
          refine (callsIn_wide (n := 5)).1 (callsIn_of_wp_marks Tryd.func7 rfl trivial (wpIn_wide.2 ?_) rfl)
          simp only [Tryd.ntmps7, List.size_toArray, List.length_cons, List.length_nil, Nat.reduceAdd, Nat.reduceSub, Array.replicate_succ, Array.replicate_zero, List.push_toArray, List.append_toArray, List.nil_append, List.cons_append]
          go_wp2_with fail
          refine (Fe.out).mono ?_
          rintro e wz ⟨rfl, rfl⟩
          go_wp2_with fail
          refine (Aw.out _ (Hh.out _ hb)).mono ?_
          rintro e w1 ⟨rfl, b⟩
          have o1 := (o0).grown hb.size b
          have hb1 := hb.trans (b.mono hb.size)
          have k1 := o1.cell 0
          have z1 := o1.unfrozen 0
          have o2 := o1.set hb1.size 0 (.bool true)
          have b2 := o1.below_set 0 (.bool true)
          clear hb b
          go_wp2
          exact ⟨_, results_cell_bool rfl _ _ (w.heap.size + 1) 0 _ rfl (o2.cell 0), rfl, hb1.trans b2⟩
        · rw [hz] at R1
          have P := Lib.hid (fun w1 h1 h2 => plan_any A c l (by omega) (by omega) f3 ch 1 hch ⟨by decide, by decide⟩ w1 h1 h2)
          have hst : streamP (l.map (·.1)) = dataL (l.map (·.1)) := if_pos hz
          have hdl := dataL_length (l.map (·.1))
          have hch1 : 1 ≤ ch := by omega
          have hch2 : ch ≤ 65536 := by omega
          have CI := Lib.hid (fun p pok b0 b1 B R' kR' w hF => chunks_it A c l (by omega) (by omega) f3 p pok b0 b1 B R' kR' w hF)
          rw [hst] at CI
          have Hpl : Hid (∀ p z, planP (l.map (·.1)) ch 1 p z → p = ⟨ch, 1, ((dataL (l.map (·.1))).length : Int), p.dg⟩ ∧ z = 0 ∧ p.dg.length = 32) := Lib.hid (fun p z hp => by
            obtain ⟨h1, _, _, h4⟩ := hp
            obtain ⟨a, b, c, d⟩ := h4 hz ⟨hch1, hch2, by decide, by decide⟩
            obtain ⟨ch', wi, tot, dg⟩ := p
            simp only at a b c d h1 ⊢
            subst a b c d
            rw [hdl]
            exact ⟨rfl, rfl, h1⟩)
          have hinf : (Tryd.prog.info? 27).map (·.size) = some z35.size := infoPlan
          have hdle := dataL_le hz
          clear h hr hf f3 hw hst hdl hz
          generalize dataL (l.map (·.1)) = dt at *
          have k0 : ((w.alloc (.cells #[.int .i64 ch] 3)).alloc (.cells #[.bool false] 4)).cell? ⟨w.heap.size, 0, none⟩ = some (.int .i64 ch) := o0.cellOf w.heap.size 0
          refine (callsIn_wide (n := 5)).1 (callsIn_of_wp_marks Tryd.func7 rfl trivial (wpIn_wide.2 ?_) rfl)
          simp only [Tryd.ntmps7, List.size_toArray, List.length_cons, List.length_nil, Nat.reduceAdd, Nat.reduceSub, Array.replicate_succ, Array.replicate_zero, List.push_toArray, List.append_toArray, List.nil_append, List.cons_append]
          go_wp2_with fail
          refine (Fe.out).mono ?_
          rintro e wz ⟨rfl, rfl⟩
          go_wp2_with fail
          refine (R1.out _ (Hh.out _ hb) (Hr.out _ hb)).mono ?_
          rintro e w1 ⟨rfl, b⟩
          have o1 := o0.grown hb.size b
          replace hb := hb.trans (b.mono hb.size)
          have k1 : w1.cell? ⟨w.heap.size, 0, none⟩ = some (.int .i64 ch) := o1.cellOf w.heap.size 0
          clear b o0 k0 Fe R1
          go_wp2_with fail
          refine (P.out _ (Hh.out _ hb) (Hr.out _ hb)).mono ?_
          rintro e w2 ⟨p, z, hp, rfl, b⟩
          obtain ⟨hp1, rfl, hp3⟩ := Hpl.out p z hp
          have o2 := o1.grown hb.size b
          replace hb := hb.trans (b.mono hb.size)
          generalize p.dg = D at *
          subst hp1
          clear b o1 k1 hp P Hpl
          have pok : Pn.ok ⟨ch, 1, (dt.length : Int), D⟩ := ⟨hch, ⟨by simp only; decide, by simp only; decide⟩, ⟨by simp only; omega, by simp only; omega⟩, hp3⟩
          have pmay : Pn.mayB ⟨ch, 1, (dt.length : Int), D⟩ = true := by unfold Pn.mayB; simp only [Bool.and_eq_true, decide_eq_true_eq]; omega
          have SG := Lib.hid (fun w => segments_any ⟨ch, 1, (dt.length : Int), D⟩ pok w)
          have SE := Lib.hid (seg_end (b := dt) pmay rfl)
          have SL := Lib.hid (fun k hk => seg_len (b := dt) (p := ⟨ch, 1, (dt.length : Int), D⟩) rfl k hk)
          have CIp := Lib.hid (fun b0 b1 B R' kR' w hF => CI.out ⟨ch, 1, (dt.length : Int), D⟩ pok b0 b1 B R' kR' w hF)
          have CHS := Lib.hid (fun w => chunks_any A l.length c ⟨ch, 1, (dt.length : Int), D⟩ w)
          have hps := pnL_size (p := ⟨ch, 1, (dt.length : Int), D⟩) hp3
          have Hpo := Lib.hid (pnL_one ⟨ch, 1, (dt.length : Int), D⟩)
          have hinf2 : (Tryd.prog.info? 27).map (·.size) = some (pnL ⟨ch, 1, (dt.length : Int), D⟩).toArray.size := by rw [hps]; exact infoPlan
          have Hz : Hid (z35.size = (pnL ⟨ch, 1, (dt.length : Int), D⟩).toArray.size) := Lib.hid (by rw [hps]; rfl)
          have k2 : (pnL ⟨ch, 1, (dt.length : Int), D⟩).toArray[2]? = some (.int .i64 dt.length) := rfl
          have o3 := o2.new hb.size 27 z35
          have hb3 := hb.alloc hb.size (.cells z35 27)
          simp only at SL SE
          obtain ⟨f, hf⟩ : ∃ f : Nat → List UInt8, f = fun k : Nat => chunkP dt ⟨ch, 1, (dt.length : Int), D⟩ k := ⟨_, rfl⟩
          have SLf : Hid (∀ k, k < nsegP dt ⟨ch, 1, (dt.length : Int), D⟩ → ∃ i j : Nat, (k : Int) * ch = (i : Int) ∧ (f k).length = j - i ∧ i < j ∧ (i : Int) ≤ 4194304 ∧ j ≤ dt.length ∧ (min (((k + 1 : Nat) : Int) * ch) (dt.length : Int) = (j : Int)) ∧ (if (k : Int) = segsP ⟨ch, 1, (dt.length : Int), D⟩ - 1 then (dt.length : Int) - (k : Int) * ch else ch) = ((j - i : Nat) : Int) ∧ (min ((k : Int) * ch) (dt.length : Int) = (i : Int))) := Lib.hid (fun k hk => by rw [hf]; exact SL.out k hk)
          rw [← hf] at CIp
          clear SL CI hps hp3 pok pmay hf
          generalize (pnL ⟨ch, 1, (dt.length : Int), D⟩).toArray = PA at *
          generalize nsegP dt ⟨ch, 1, (dt.length : Int), D⟩ = N at *
          generalize segsP ⟨ch, 1, (dt.length : Int), D⟩ = sg at *
          obtain ⟨B4, o4, b4⟩ := o3.setRow hb3.size PA
          have hb4 := hb3.trans b4
          have Hh3 := Lib.hid o3.bk.1
          have hz4 : ((w2.alloc (.cells z35 27)).setRow w2.heap.size PA).heap.size = w2.heap.size + 1 := by simp [World.setRow]
          have o5 := (o4.new B4 3 #[.int .i64 0]).new (by simp; omega) 3 #[.int .i64 0]
          have hb5 := (hb4.alloc B4 (.cells #[.int .i64 0] 3)).alloc (by simp; omega) (.cells #[.int .i64 0] 3)
          simp only [World.size_alloc9, hz4] at o5
          have Hh5 := Lib.hid (o5.blockOf w2.heap.size)
          unfold z35 at o5 hb5 Hh5 hz4
          clear o3 o4 b4 hb3 hb4 hb B4
          go_wp2_with first
            | (refine wpList_plain rfl fun _ hK => wp_store_row 27 (.tmp 5) (.tmp 33) rfl w2.heap.size PA rfl rfl 27 _ Hh3.out hinf2 Hz.out Hpo.out (hK _ _ ?_))
            | (refine wpList_load_row_g rfl 27 (.tmp 5) rfl w2.heap.size rfl 27 PA (0, 0) _ Hh5.out Tryd.underlying27 rfl hinf2 ?_)
          refine (CHS.out _).mono ?_
          rintro e w6 ⟨rfl, hw6⟩
          simp only [World.size_alloc9, hz4] at hw6 ⊢
          generalize hX0 : w.heap.size = X0 at *
          generalize hX5 : w2.heap.size = X5 at *
          obtain ⟨Y0, hY0⟩ : ∃ Y0, Y0 = X5 + 1 + 1 + 1 := ⟨_, rfl⟩
          rw [← hY0]
          have B5 := hb5.size
          rw [hX0] at B5
          have o6 := (o5.new B5 22 #[.slice A l.length c]).new (by simp at B5 ⊢; omega) 27 PA
          have hb6 := (hb5.alloc B5 (.cells #[.slice A l.length c] 22)).alloc (by simp at B5 ⊢; omega) (.cells PA 27)
          simp only [World.size_alloc9, hz4, ← hY0] at o6
          rw [← hw6] at o6 hb6
          clear hw6 o5 hb5 Hh3 Hh5 hz4 hY0 CHS B5 o2 Hpo Hz
          have hS0 := SE.out
          obtain ⟨se1, se2, se3, se4⟩ := hS0
          obtain ⟨PR, hPR⟩ : ∃ PR : HP, PR = Bk X0 3 #[.int .i64 ch] * (Bk X5 27 PA * Bk (X0 + 1) 4 #[.bool false]) := ⟨_, rfl⟩
          have kPR : Loc X0 PR := by rw [hPR]; infer_instance
          have B6 := hb6.size
          rw [hX0] at B6
          have Hb6 := Lib.hid hb6
          have Hse := Lib.hid (And.intro se1 (And.intro se2 (And.intro se3 se4)))
          have hsg0 : 0 ≤ sg := by omega
          go_wp2_with fail
          refine wp_rangeFunc_sep (B := X0) (lb := #[.pointer (some ⟨Y0, 0, none⟩), .pointer (some ⟨Y0 + 1, 0, none⟩)]) rfl (enters_of Tryd.func38 (by kernel_rfl) rfl) (Bk Y0 22 #[.slice A l.length c] * Bk (Y0 + 1) 27 PA) Emp (fun _ => inferInstance) (fun _ => rfl)
            (fun R' kR' => CIp.out Y0 (Y0 + 1) X0 R' kR' w6 (fun W b => ⟨Hh.out _ (hb6.trans b), Hr.out _ (hb6.trans b)⟩))
            (fun pre => Bk (X5 + 1) 3 #[.int .i64 (min ((pre.length : Int) * ch) (dt.length : Int))] * (Bk (X5 + 1 + 1) 3 #[.int .i64 (pre.length : Int)] * PR)) (fun _ _ => Fact False) B6 ?own
            (fun x t => (t.setIfInBounds 9 (.int .i64 (x.k : Int))).setIfInBounds 10 (.slice x.A (f x.k).length x.c)) (fun x => _) (fun x => rfl) ?assign ?body ?done ?stop
          case own =>
            rw [hPR]
            simp only [List.length_nil, Int.ofNat_zero, Int.zero_mul]
            rw [show min (0 : Int) (dt.length : Int) = 0 by omega]
            exact o6.cast (by ac_rfl)
          case assign =>
            intro l x W K hK
            simp only [sgEnc, List.zip_toArray, List.zip_cons_cons, List.zip_nil_right, List.zip_nil_left, List.foldl_toArray', List.foldl_toArray, List.foldl_cons, List.foldl_nil, List.setIfInBounds_toArray, List.set_cons_zero, List.set_cons_succ] at hK ⊢
            gi_wp2
            exact hK
          case body =>
            intro lp pre x W R' _ hBW hbW hO hN
            simp only [sgEnc, List.zip_toArray, List.zip_cons_cons, List.zip_nil_right, List.zip_nil_left, List.foldl_toArray', List.foldl_toArray, List.foldl_cons, List.foldl_nil, List.setIfInBounds_toArray, List.set_cons_zero, List.set_cons_succ] 
            obtain ⟨k, Ax, cx⟩ := x
            obtain ⟨hN1, hN2, hN3⟩ := hN
            simp only at hN2
            subst hN2
            obtain ⟨i, j, hi, hlen, hij, hi1, hj1, hmin, hwant, hmin0⟩ := SLf.out pre.length hN3
            have hO : Own X0 (Bk (X5 + 1) 3 #[.int .i64 (i : Int)] * (Bk (X5 + 1 + 1) 3 #[.int .i64 (pre.length : Int)] * (Bk X0 3 #[.int .i64 ch] * (Bk X5 27 PA * (Bk (X0 + 1) 4 #[.bool false] * R'))))) W := by
              rw [hmin0, hPR] at hO
              exact (Own.right (A := sgGiv f ⟨pre.length, Ax, cx⟩) (hO.cast (by ac_rfl)))
            have Hfin : Hid (∀ W', Own X0 (Bk (X5 + 1) 3 #[.int .i64 (j : Int)] * (Bk (X5 + 1 + 1) 3 #[.int .i64 ((pre.length + 1 : Nat) : Int)] * (Bk X0 3 #[.int .i64 ch] * (Bk X5 27 PA * (Bk (X0 + 1) 4 #[.bool false] * R'))))) W' →
              Own X0 ((Bk (X5 + 1) 3 #[.int .i64 (min (((pre ++ [(⟨pre.length, Ax, cx⟩ : Sg)]).length : Int) * ch) (dt.length : Int))] * (Bk (X5 + 1 + 1) 3 #[.int .i64 ((pre ++ [(⟨pre.length, Ax, cx⟩ : Sg)]).length : Int)] * PR)) * R') W') := Lib.hid (fun W' o => by
              rw [show (pre ++ [(⟨pre.length, Ax, cx⟩ : Sg)]).length = pre.length + 1 by simp, hmin, hPR]
              exact o.cast (by ac_rfl))
            obtain ⟨k, hk⟩ : ∃ k, k = pre.length := ⟨_, rfl⟩
            rw [← hk] at hO Hfin hi hlen hmin hwant hmin0 hN3 ⊢
            have c0 : W.cell? ⟨X0, 0, none⟩ = some (.int .i64 ch) := hO.cellOf X0 0
            have Hh5 := Lib.hid (hO.blockOf X5)
            have Hlen := Lib.hid hlen
            have m1 : ((f k).length : Int) = (j : Int) - (i : Int) := by omega
            clear hk hN1 hN3 hlen hmin hmin0 Hse se1 se2 se3 hPR Hb6 hbW o6 hb6 CIp SLf SE
            generalize (f k).length = m at *
            have hkn : (0 : Int) ≤ (k : Int) := by omega
            gi_wp2_with first
              | (refine wpListIn_load_row rfl 27 (.tmp 5) rfl X5 rfl 27 PA (0, 0) _ Hh5.out Tryd.underlying27 rfl hinf2 ?_)
            refine ⟨trivial, (callsIn_wide.2 (SG.out _)).mono ?_⟩
            rintro e W2 ⟨rfl, b2⟩
            have hO2 := hO.grown hBW b2
            have hBW2 := Nat.le_trans hBW b2.size
            have hb2 := b2.mono hBW
            clear hO Hh5 c0 b2
            have c0 : W2.cell? ⟨X0, 0, none⟩ = some (.int .i64 ch) := hO2.cellOf X0 0
            have c2 : W2.cell? ⟨X5, 2, none⟩ = some (.int .i64 dt.length) := (hO2.cellOf X5 2).trans k2
            have c7 : W2.cell? ⟨X5 + 1, 0, none⟩ = some (.int .i64 (i : Int)) := hO2.cell 0
            have z7 := hO2.unfrozen 0
            have s7 := hO2.set hBW2 0 (.int .i64 (j : Int))
            have t7 := hO2.below_set 0 (.int .i64 (j : Int))
            have s7' := s7.cast (sep_left_comm _ _ _)
            have c8 : (W2.setCell ⟨X5 + 1, 0, none⟩ (.int .i64 (j : Int))).cell? ⟨X5 + 1 + 1, 0, none⟩ = some (.int .i64 (k : Int)) := s7'.cell 0
            have z8 := s7'.unfrozen 0
            have s8 := s7'.set (by simpa [World.setCell] using hBW2) 0 (.int .i64 ((k + 1 : Nat) : Int))
            have t8 := s7'.below_set 0 (.int .i64 ((k + 1 : Nat) : Int))
            have Fin := Lib.hid (And.intro (Hfin.out _ (s8.cast (sep_left_comm _ _ _))) ((hb2.trans t7).trans t8))
            have ij : (i : Int) + (m : Int) = (j : Int) := by omega
            have j9 : (j : Int) ≤ 4194304 := by omega
            have k9 : (k : Int) ≤ 9000000 := by
              have : (k : Int) * 1 ≤ (k : Int) * ch := Int.mul_le_mul_of_nonneg_left (by omega) hkn
              omega
            clear s7 t7 s7' s8 t8 Hfin hO2 hb2
            by_cases hlast : (k : Int) = sg - 1
            · have hl2 : ((k : Int) == sg - 1) = true := by simpa using hlast
              rw [if_pos hlast] at hwant
              have w1 : (dt.length : Int) - (i : Int) = (m : Int) := by omega
              have w2' : (1 : Int) ≤ (m : Int) := by omega
              clear hwant m1 hlast
              gi_wp2
              exact Fin.out
            · have hl2 : ((k : Int) == sg - 1) = false := by simpa using hlast
              rw [if_neg hlast] at hwant
              have w1 : ((m : Int) == ch) = true := by simp; omega
              have w2' : ((m : Int) != ch) = false := by simp; omega
              clear hwant m1 hlast
              gi_wp2
              exact Fin.out
          case done =>
            intro D xs W hS hBW hbW hO
            have hxl : xs.length = N := by have := congrArg List.length hS; simpa using this
            have e1 : min ((N : Int) * ch) (dt.length : Int) = (dt.length : Int) := by rw [se3]; exact se1
            rw [hxl, e1, hPR] at hO
            have hO : Own X0 (Bk (X5 + 1) 3 #[.int .i64 (dt.length : Int)] * (Bk (X5 + 1 + 1) 3 #[.int .i64 (N : Int)] * (Bk X0 3 #[.int .i64 ch] * (Bk X5 27 PA * (Bk (X0 + 1) 4 #[.bool false] * (Dk D * Emp)))))) W :=
              (Own.right (A := Bk Y0 22 #[.slice A l.length c] * Bk (Y0 + 1) 27 PA) (hO.cast (by ac_rfl)))
            subst se3
            have hb := Hb6.out.trans hbW
            clear hS hxl e1 se1 Hse hPR o6 hb6 CIp SLf SE hbW
            by_cases hgt : ch < (dt.length : Int)
            · have hd1 : decide (ch < (dt.length : Int)) = true := decide_eq_true hgt
              go_wp2
              refine wp_region_mix (St X0 _ W) [0, 1, 2, 3, 4, 5, 6, 7, 8, 9, 10, 11, 12, 13, 14, 15, 16, 17, 18, 19, 20, 21, 22, 23, 24] [25, 26, 27] mixed (by kernel_rfl) rfl (St.drew hBW hO) ?_
              simp only [List.filterMap_cons, List.filterMap_nil, List.getElem?_toArray, List.getElem?_cons_succ, List.getElem?_cons_zero]
              repeat (first
                | (refine held_val ?_ rfl (fun w1 hS => ?_) ?_
                   rotate_left
                   · (have c7 := hS.2.1.cellOf (X5 + 1) 0; have c8 := hS.2.1.cellOf (X5 + 1 + 1) 0; have c0 := hS.2.1.cellOf X0 0; have c2 := (hS.2.1.cellOf X5 2).trans k2
                      go_simp
                      try go_bits
                      rfl)
                   simp only [Act.put, List.setIfInBounds_toArray, List.set_cons_zero, List.set_cons_succ])
                | (refine held_off rfl ?_
                   simp only [Act.put, List.setIfInBounds_toArray, List.set_cons_zero, List.set_cons_succ]))
              refine held_val (.agg PA) rfl (fun w1 hS => exec_load_row rfl X5 rfl 27 PA (0, 0) _ (hS.2.1.blockOf X5) Tryd.underlying27 rfl hinf2) ?_
              simp only [Act.put, List.setIfInBounds_toArray, List.set_cons_zero, List.set_cons_succ]
              refine held_call 24 #[.agg PA] (.int .i64 (N : Int)) rfl (fun w1 hS => by go_simp) (fun w1 hS => (SG.out w1).mono ?_) ?_
              · rintro e w2 ⟨rfl, b2⟩
                exact ⟨rfl, hS.grown b2⟩
              simp only [Act.put, List.setIfInBounds_toArray, List.set_cons_zero, List.set_cons_succ]
              repeat (first
                | (refine held_val ?_ rfl (fun w1 hS => ?_) ?_
                   rotate_left
                   · (have c7 := hS.2.1.cellOf (X5 + 1) 0; have c8 := hS.2.1.cellOf (X5 + 1 + 1) 0; have c0 := hS.2.1.cellOf X0 0; have c2 := (hS.2.1.cellOf X5 2).trans k2
                      go_simp
                      try go_bits
                      rfl)
                   simp only [Act.put, List.setIfInBounds_toArray, List.set_cons_zero, List.set_cons_succ])
                | (refine held_off rfl ?_
                   simp only [Act.put, List.setIfInBounds_toArray, List.set_cons_zero, List.set_cons_succ]))
              refine held_nil (fun w9 hS => ?_)
              obtain ⟨B9, o9, b9⟩ := hS
              have hb9 := hb.trans b9
              clear hO hb b9
              go_wp2_with fail
              refine (Aw.out _ (Hh.out _ hb9)).mono ?_
              rintro e wa ⟨rfl, ba⟩
              have oa := (o9.grown B9 ba).foc (Bk (X0 + 1) 4 #[.bool false])
              have Ba := Nat.le_trans B9 ba.size
              have hba := hb9.trans (ba.mono B9)
              have ka := oa.cell 0
              have za := oa.unfrozen 0
              have sa := oa.set Ba 0 (.bool true)
              have ta := oa.below_set 0 (.bool true)
              have Bs : X0 ≤ (wa.setCell ⟨X0 + 1, 0, none⟩ (.bool true)).heap.size := by simpa [World.setCell] using Ba
              have Fin := Lib.hid (And.intro Bs (And.intro sa (hba.trans ta)))
              clear o9 hb9 ba oa hba sa ta Bs
              go_wp2
              refine ret_hp Fin.out.1 rfl (Fin.out.2.1.foc (Dk D)) (fun W' o => results_cell_bool rfl _ _ (X0 + 1) 0 _ rfl (o.cellOf (X0 + 1) 0)) (fun W' o b => ⟨rfl, by rw [hX0]; exact Fin.out.2.2.trans b⟩)
            · have hle1 : (N : Int) ≤ 1 := by rcases se2 with h | h <;> omega
              have hd1 : decide (ch < (dt.length : Int)) = false := decide_eq_false hgt
              have hd2 : decide ((N : Int) ≤ 1) = true := decide_eq_true hle1
              go_wp2
              refine wp_region_mix (St X0 _ W) [0, 1, 2, 3, 4, 5, 6, 7, 8, 9, 10, 11, 12, 13, 14, 15, 16, 17, 18, 19, 20, 21, 22, 23, 24] [25, 26, 27] mixed (by kernel_rfl) rfl (St.drew hBW hO) ?_
              simp only [List.filterMap_cons, List.filterMap_nil, List.getElem?_toArray, List.getElem?_cons_succ, List.getElem?_cons_zero]
              repeat (first
                | (refine held_val ?_ rfl (fun w1 hS => ?_) ?_
                   rotate_left
                   · (have c7 := hS.2.1.cellOf (X5 + 1) 0; have c8 := hS.2.1.cellOf (X5 + 1 + 1) 0; have c0 := hS.2.1.cellOf X0 0; have c2 := (hS.2.1.cellOf X5 2).trans k2
                      go_simp
                      try go_bits
                      rfl)
                   simp only [Act.put, List.setIfInBounds_toArray, List.set_cons_zero, List.set_cons_succ])
                | (refine held_off rfl ?_
                   simp only [Act.put, List.setIfInBounds_toArray, List.set_cons_zero, List.set_cons_succ]))
              refine held_val (.agg PA) rfl (fun w1 hS => exec_load_row rfl X5 rfl 27 PA (0, 0) _ (hS.2.1.blockOf X5) Tryd.underlying27 rfl hinf2) ?_
              simp only [Act.put, List.setIfInBounds_toArray, List.set_cons_zero, List.set_cons_succ]
              refine held_call 24 #[.agg PA] (.int .i64 (N : Int)) rfl (fun w1 hS => by go_simp) (fun w1 hS => (SG.out w1).mono ?_) ?_
              · rintro e w2 ⟨rfl, b2⟩
                exact ⟨rfl, hS.grown b2⟩
              simp only [Act.put, List.setIfInBounds_toArray, List.set_cons_zero, List.set_cons_succ]
              repeat (first
                | (refine held_val ?_ rfl (fun w1 hS => ?_) ?_
                   rotate_left
                   · (have c7 := hS.2.1.cellOf (X5 + 1) 0; have c8 := hS.2.1.cellOf (X5 + 1 + 1) 0; have c0 := hS.2.1.cellOf X0 0; have c2 := (hS.2.1.cellOf X5 2).trans k2
                      go_simp
                      try go_bits
                      rfl)
                   simp only [Act.put, List.setIfInBounds_toArray, List.set_cons_zero, List.set_cons_succ])
                | (refine held_off rfl ?_
                   simp only [Act.put, List.setIfInBounds_toArray, List.set_cons_zero, List.set_cons_succ]))
              refine held_nil (fun w9 hS => ?_)
              obtain ⟨B9, o9, b9⟩ := hS
              have hb9 := hb.trans b9
              clear hO hb b9
              go_wp2_with fail
              refine (Aw.out _ (Hh.out _ hb9)).mono ?_
              rintro e wa ⟨rfl, ba⟩
              have oa := (o9.grown B9 ba).foc (Bk (X0 + 1) 4 #[.bool false])
              have Ba := Nat.le_trans B9 ba.size
              have hba := hb9.trans (ba.mono B9)
              have ka := oa.cell 0
              have za := oa.unfrozen 0
              have sa := oa.set Ba 0 (.bool true)
              have ta := oa.below_set 0 (.bool true)
              have Bs : X0 ≤ (wa.setCell ⟨X0 + 1, 0, none⟩ (.bool true)).heap.size := by simpa [World.setCell] using Ba
              have Fin := Lib.hid (And.intro Bs (And.intro sa (hba.trans ta)))
              clear o9 hb9 ba oa hba sa ta Bs
              go_wp2
              refine ret_hp Fin.out.1 rfl (Fin.out.2.1.foc (Dk D)) (fun W' o => results_cell_bool rfl _ _ (X0 + 1) 0 _ rfl (o.cellOf (X0 + 1) 0)) (fun W' o b => ⟨rfl, by rw [hX0]; exact Fin.out.2.2.trans b⟩)
          case stop =>
            intro D cd pre W hSp hBW hbW hO
            exact hO.fact_out.elim
    · have hz' : (whyE (ents (l.map (·.1))) == 0) = false := by simpa using hz
      rw [hz'] at R1
      clear h hr hf f3 hw
      by_cases hc1 : ch < 1
      · refine (callsIn_wide (n := 5)).1 (callsIn_of_wp_marks Tryd.func7 rfl trivial (wpIn_wide.2 ?_) rfl)
        simp only [Tryd.ntmps7, List.size_toArray, List.length_cons, List.length_nil, Nat.reduceAdd, Nat.reduceSub, Array.replicate_succ, Array.replicate_zero, List.push_toArray, List.append_toArray, List.nil_append, List.cons_append]
        go_wp2_with fail
        refine (Fe.out).mono ?_
        rintro e wz ⟨rfl, rfl⟩
        go_wp2_with fail
        refine (Aw.out _ (Hh.out _ hb)).mono ?_
        rintro e w1 ⟨rfl, b⟩
        have o1 := (o0).grown hb.size b
        have hb1 := hb.trans (b.mono hb.size)
        have k1 := o1.cell 0
        have z1 := o1.unfrozen 0
        have o2 := o1.set hb1.size 0 (.bool true)
        have b2 := o1.below_set 0 (.bool true)
        clear hb b
        go_wp2
        exact ⟨_, results_cell_bool rfl _ _ (w.heap.size + 1) 0 _ rfl (o2.cell 0), rfl, hb1.trans b2⟩
      · by_cases hc2 : 65536 < ch
        · refine (callsIn_wide (n := 5)).1 (callsIn_of_wp_marks Tryd.func7 rfl trivial (wpIn_wide.2 ?_) rfl)
          simp only [Tryd.ntmps7, List.size_toArray, List.length_cons, List.length_nil, Nat.reduceAdd, Nat.reduceSub, Array.replicate_succ, Array.replicate_zero, List.push_toArray, List.append_toArray, List.nil_append, List.cons_append]
          go_wp2_with fail
          refine (Fe.out).mono ?_
          rintro e wz ⟨rfl, rfl⟩
          go_wp2_with fail
          refine (Aw.out _ (Hh.out _ hb)).mono ?_
          rintro e w1 ⟨rfl, b⟩
          have o1 := (o0).grown hb.size b
          have hb1 := hb.trans (b.mono hb.size)
          have k1 := o1.cell 0
          have z1 := o1.unfrozen 0
          have o2 := o1.set hb1.size 0 (.bool true)
          have b2 := o1.below_set 0 (.bool true)
          clear hb b
          go_wp2
          exact ⟨_, results_cell_bool rfl _ _ (w.heap.size + 1) 0 _ rfl (o2.cell 0), rfl, hb1.trans b2⟩
        · have k0 : ((w.alloc (.cells #[.int .i64 ch] 3)).alloc (.cells #[.bool false] 4)).cell? ⟨w.heap.size, 0, none⟩ = some (.int .i64 ch) := o0.cellOf w.heap.size 0
          refine (callsIn_wide (n := 5)).1 (callsIn_of_wp_marks Tryd.func7 rfl trivial (wpIn_wide.2 ?_) rfl)
          simp only [Tryd.ntmps7, List.size_toArray, List.length_cons, List.length_nil, Nat.reduceAdd, Nat.reduceSub, Array.replicate_succ, Array.replicate_zero, List.push_toArray, List.append_toArray, List.nil_append, List.cons_append]
          go_wp2_with fail
          refine (Fe.out).mono ?_
          rintro e wz ⟨rfl, rfl⟩
          go_wp2_with fail
          refine (R1.out _ (Hh.out _ hb) (Hr.out _ hb)).mono ?_
          rintro e w1 ⟨rfl, b⟩
          have o0' := o0.grown hb.size b
          replace hb := hb.trans (b.mono hb.size)
          clear b o0
          go_wp2_with fail
          refine (Aw.out _ (Hh.out _ hb)).mono ?_
          rintro e w1 ⟨rfl, b⟩
          have o1 := (o0').grown hb.size b
          have hb1 := hb.trans (b.mono hb.size)
          have k1 := o1.cell 0
          have z1 := o1.unfrozen 0
          have o2 := o1.set hb1.size 0 (.bool true)
          have b2 := o1.below_set 0 (.bool true)
          clear hb b
          go_wp2
          exact ⟨_, results_cell_bool rfl _ _ (w.heap.size + 1) 0 _ rfl (o2.cell 0), rfl, hb1.trans b2⟩
  · rw [decide_eq_false hf] at Fe
    clear h hr hf hw
    refine (callsIn_wide (n := 5)).1 (callsIn_of_wp_marks Tryd.func7 rfl trivial (wpIn_wide.2 ?_) rfl)
    simp only [Tryd.ntmps7, List.size_toArray, List.length_cons, List.length_nil, Nat.reduceAdd, Nat.reduceSub, Array.replicate_succ, Array.replicate_zero, List.push_toArray, List.append_toArray, List.nil_append, List.cons_append]
    go_wp2_with fail
    refine (Fe.out).mono ?_
    rintro e wz ⟨rfl, rfl⟩
    go_wp2_with fail
    refine (Aw.out _ (Hh.out _ hb)).mono ?_
    rintro e w1 ⟨rfl, b⟩
    have o1 := (o0).grown hb.size b
    have hb1 := hb.trans (b.mono hb.size)
    have k1 := o1.cell 0
    have z1 := o1.unfrozen 0
    have o2 := o1.set hb1.size 0 (.bool true)
    have b2 := o1.below_set 0 (.bool true)
    clear hb b
    go_wp2
    exact ⟨_, results_cell_bool rfl _ _ (w.heap.size + 1) 0 _ rfl (o2.cell 0), rfl, hb1.trans b2⟩
end Go.Proofs.YtmppagiaonbggaaDoor

/- An open-order region, step by step: a stretch in which one step alone may come; and the rule of two threads from any place on. -/
namespace Go.Proofs.YtmppagiaonbggaaDoor
set_option linter.unusedVariables false
set_option linter.unusedSimpArgs false
set_option maxRecDepth 100000
open Go.RowKit

section
variable {P : Program} {ops : Array Oper} {md : Region.Mode} {Q : Exit → Act → World → Prop} {B : Nat}

def preB (md : Region.Mode) (ops : Array Oper) : List Nat → Array Bool → Bool
  | [], _ => true
  | i :: l, listed => decide (i < ops.size) && decide (Region.ready md ops listed = [i]) && preB md ops l (listed.setIfInBounds i true)

theorem letsOut_then {K : Act → World → Prop} (h : LetsOut (Exit.then K Q)) : LetsOut Q := h
theorem upon_then {o : Oper} {a : Act} {N : Act → World → Prop} {K : Act → World → Prop} : ∀ r : Result Next, o.upon P a N (Exit.then K Q) r → o.upon P a N Q r := by
  intro r h
  cases r with
  | ok n w => cases n <;> exact h
  | halt x w => cases x <;> exact h
theorem wpOp_then {i : Nat} {N : Act → World → Prop} {K : Act → World → Prop} {a : Act} {w : World} (h : wpOp P ops (Exit.then K Q) i N a w) : wpOp P ops Q i N a w := by
  unfold wpOp at *
  split at h
  · exact h
  · split at h
    · rename_i hw
      rw [if_pos hw]
      rcases h with h | ⟨h1, h2⟩
      · exact .inl (upon_then _ h)
      · exact .inr ⟨h1, letsOut_then h2⟩
    · rename_i hw
      rw [if_neg hw]
      exact h
theorem wpAny_pre' {n : Nat} : ∀ (pre : List Nat) (listed : Array Bool) (a : Act) (w : World), preB md ops pre listed = true →
    wpOps P ops (Exit.then (fun a w => wpAny P md ops Q n (markAll pre listed) a w) Q) pre a w → wpAny P md ops Q (pre.length + n) listed a w
  | [], listed, a, w, _, h => by rw [List.length_nil, Nat.zero_add]; exact h
  | i :: pre, listed, a, w, hB, h => by
    simp only [preB, Bool.and_eq_true, decide_eq_true_eq] at hB
    obtain ⟨⟨_, hr⟩, hB'⟩ := hB
    rw [wpOps_cons] at h
    rw [show (i :: pre).length + n = (pre.length + n) + 1 by simp; omega]
    refine ⟨fun h0 => (by rw [h0] at hr; cases hr), fun j hj => ?_⟩
    rw [hr] at hj
    obtain rfl := List.mem_singleton.1 hj
    exact wpOp_mono (fun a' w' h' => wpAny_pre' pre _ a' w' hB' h') (wpOp_then h)
theorem preB_lt : ∀ (pre : List Nat) (listed : Array Bool), preB md ops pre listed = true → ∀ i ∈ pre, i < ops.size
  | [], _, _, i, hi => absurd hi (by simp)
  | j :: pre, listed, hB, i, hi => by
    simp only [preB, Bool.and_eq_true, decide_eq_true_eq] at hB
    rcases List.mem_cons.1 hi with rfl | hi
    · exact hB.1.1
    · exact preB_lt pre _ hB.2 i hi
/-- The first steps come one by one. -/
theorem wpAny_pre {fuel n : Nat} {listed : Array Bool} {a : Act} {w : World} (pre : List Nat) (hB : preB md ops pre listed = true) (hf : fuel = pre.length + n)
    (h : wpList P ops (Exit.then (fun a w => wpAny P md ops Q n (markAll pre listed) a w) Q) (pre.filterMap fun i => ops[i]?) a w) : wpAny P md ops Q fuel listed a w := by
  subst hf
  exact wpAny_pre' pre listed a w hB (wpOps_list pre a w (preB_lt pre listed hB) h)
theorem wp_region_pre {id : Nat} {a : Act} {w : World} (pre : List Nat) (n : Nat) (hm : P.follows .mixedOrders = true) (hB : preB .any ops pre (Array.replicate ops.size false) = true) (hf : ops.size = pre.length + n)
    (h : wpList P ops (Exit.then (fun a w => wpAny P .any ops Q n (markAll pre (Array.replicate ops.size false)) a w) Q) (pre.filterMap fun i => ops[i]?) a w.drew) : (Code.region id ops true).wp P Q a w := by
  refine wp_region_any hm ?_
  have := wpAny_pre (md := .any) pre hB hf h
  exact this
/-- Two threads, with late reads, from any place on. -/
theorem wpAny_ltwo {fuel : Nat} {listed : Array Bool} {a : Act} {w : World} (us ls l1 l2 ts : List Nat) (A1 A2 R : HP) [k1 : Loc B A1] [k2 : Loc B A2] [Loc B R]
    (hB : (freeB .any ops us listed && mixB .any ops (markAll us listed) (ls ++ (l1 ++ l2)) ts && twoB .any ops (markAll ls (markAll us listed)) l1 l2 ts) = true)
    (hf : fuel = us.length + ((ls.length + (l1.length + l2.length)) + ts.length))
    (hQ : ∀ c a d v w, Q (.panic c) (a.put (some d) v) w → Q (.panic c) a w) (hsz : B ≤ w.heap.size) (hO : Own B (A1 * (A2 * R)) w)
    (h : wpFree P ops (fun a1 => wpLate P ops (fun w => Own B R w) (fun a2 => ∃ Φ1 Φ2 : List Value → HP → Prop, TW P ops B (opsOf ops l1) Φ1 a2 A1 ∧ TW P ops B (opsOf ops l2) Φ2 a2 A2 ∧
      ∀ vs1 A1' vs2 A2' w', Φ1 vs1 A1' → Φ2 vs2 A2' → Own B (A1' * (A2' * R)) w' → Below B w w' → wpList P ops Q (ts.filterMap fun i => ops[i]?) (putAll (opsOf ops l2) vs2 (putAll (opsOf ops l1) vs1 a2)) w')
      (ls.filterMap fun i => ops[i]?) a1) (us.filterMap fun i => ops[i]?) a) : wpAny P .any ops Q fuel listed a w := by
  simp only [Bool.and_eq_true] at hB
  obtain ⟨⟨hB1, hB2⟩, hB3⟩ := hB
  obtain ⟨hsel, ok1⟩ := mixB_ok hB2
  obtain ⟨_, ok2⟩ := twoB_ok hB3
  have hts : ∀ i ∈ ts, i < ops.size := fun i hi => (ok1.un i (by simp [hi])).1
  have hR : Own B R w := hO.right.right
  have hgo : wpAny P .any ops Q (us.length + ((ls.length + (l1.length + l2.length)) + ts.length)) listed a w := by
    refine wpAny_free hQ hsel us _ a hB1 (fun a1 h1 => ?_) h
    refine wpL_any (S := fun w => Own B R w) (T := fun a4 w4 => wpOps P ops Q ts a4 w4) (fun _ _ h => h) _ (ls ++ (l1 ++ l2)) _ a1 _ (by simp) ok1 ?_
    have := wpL_lates (P := P) (S := fun w => Own B R w) (T := fun a4 w4 => wpOps P ops Q ts a4 w4) (w := w) hsel hQ hR ls (l1 ++ l2) _ a1 ok1 (fun a2 ⟨Φ1, Φ2, t1, t2, hK⟩ _ => ?_) h1
    · rw [List.length_append]
      exact wpL_two hsel (l1.length + l2.length) l1 l2 _ a2 _ Φ1 Φ2 A1 A2 rfl k1 k2 ok2 t1 t2 hsz hO fun vs1 A1' vs2 A2' w' p1 p2 ho hb => wpOps_list ts _ w' hts (hK vs1 A1' vs2 A2' w' p1 p2 ho hb)
    · rw [List.length_append] at this
      exact this
  rw [← hf] at hgo
  exact hgo
end
end Go.Proofs.YtmppagiaonbggaaDoor

/- An open-order region, cut in two: a first part, all of which comes before anything of the rest. -/
namespace Go.Proofs.YtmppagiaonbggaaDoor
set_option linter.unusedVariables false
set_option linter.unusedSimpArgs false
set_option maxRecDepth 100000
open Go.RowKit

section
variable {P : Program} {ops ops' : Array Oper} {md : Region.Mode} {Q : Exit → Act → World → Prop} {B : Nat}

def splitMark (m n : Nat) : Array Bool := (List.replicate m true ++ List.replicate n false).toArray
def restB (md : Region.Mode) (ops : Array Oper) (m : Nat) : Bool := (List.range ops.size).all fun j => decide (j < m) || Region.waitsFor md ops j (m - 1) || (List.range ops.size).any fun j' => decide (m ≤ j') && Region.waitsFor md ops j j'
def sinkB (md : Region.Mode) (ops : Array Oper) (k m : Nat) : Bool := (List.range m).all fun i => decide (i + 1 = m) || decide (i < k) || (List.range m).any fun i' => decide (i < i') && Region.waitsFor md ops i' i
def inB (md : Region.Mode) (ops : Array Oper) (m : Nat) : Bool := (List.range m).all fun i => match ops[i]? with
  | some o => o.after.all (fun e => !Region.binds md e || decide (e.on < i)) && (match o.guard with | some (g, _) => decide (g < m) | none => true)
  | none => false
def splitB (md : Region.Mode) (ops : Array Oper) (k m : Nat) : Bool := decide (0 < m) && decide (m ≤ ops.size) && restB md ops m && sinkB md ops k m && inB md ops m

theorem getD_el (l : Array Bool) (i : Nat) (d : Bool) : l.getD i d = (l[i]?).getD d := by simp [Array.getD_eq_getD_getElem?]
theorem getD_setB (l : Array Bool) (j i : Nat) (d : Bool) : (l.setIfInBounds j true).getD i d = if j = i then (if i < l.size then true else d) else l.getD i d := by
  rw [getD_el, getD_el, Array.getElem?_setIfInBounds]
  split
  · rename_i h
    subst h
    split <;> simp
  · rfl
structure Ext2 (ops : Array Oper) (m : Nat) (l' l : Array Bool) : Prop where
  s' : l'.size = m
  s : l.size = ops.size
  eq : ∀ i, i < m → l.getD i true = l'.getD i true
  no : ∀ i, m ≤ i → i < ops.size → l.getD i true = false
def DC (md : Region.Mode) (ops : Array Oper) (m : Nat) (l : Array Bool) : Prop := ∀ i j, i < m → l.getD i true = true → Region.waitsFor md ops i j = true → l.getD j false = true

theorem wpAny_more : ∀ (n k : Nat) (listed : Array Bool) (a : Act) (w : World), wpAny P md ops Q n listed a w → wpAny P md ops Q (n + k) listed a w
  | 0, 0, _, _, _, h => h
  | 0, k + 1, listed, a, w, h => by
    rw [Nat.zero_add]
    exact ⟨fun _ => h.2, fun i hi => by rw [h.1] at hi; cases hi⟩
  | n + 1, k, listed, a, w, h => by
    rw [show n + 1 + k = (n + k) + 1 by omega]
    exact ⟨h.1, fun i hi => wpOp_mono (fun a w => wpAny_more n k _ a w) (h.2 i hi)⟩

theorem hgetM (a b i : Nat) (hi : i < a + b) : (splitMark a b).getD i true = decide (i < a) := by
  rw [getD_el]
  unfold splitMark
  rw [List.getElem?_toArray, List.getElem?_append, List.getElem?_replicate, List.getElem?_replicate, List.length_replicate]
  by_cases h : i < a
  · simp [h]
  · simp [h, show i - a < b by omega]
theorem in_spec {m i : Nat} (h : inB md ops m = true) (hi : i < m) : ∃ o, ops[i]? = some o ∧ (∀ e ∈ o.after, Region.binds md e = true → e.on < i) ∧ ∀ g b, o.guard = some (g, b) → g < m := by
  have h1 := List.all_eq_true.1 h i (List.mem_range.2 hi)
  split at h1
  · rename_i o ho
    rw [Bool.and_eq_true] at h1
    refine ⟨o, ho, fun e he hb => ?_, fun g b hg => ?_⟩
    · have := Array.all_eq_true_iff_forall_mem.1 h1.1 e he
      simpa [hb] using this
    · have := h1.2
      rw [hg] at this
      simpa using this
  · cases h1
theorem getD_dflt {l : Array Bool} {i : Nat} (h : i < l.size) : l.getD i false = l.getD i true := by
  simp [Array.getD, h]
theorem edges_same {m i : Nat} (hE : ∀ i, i < m → ops'[i]? = ops[i]?) (hin : inB md ops m = true) {l' l : Array Bool} (x : Ext2 ops m l' l) (hm : m ≤ ops.size) (hi : i < m) : edgesIn md ops l i = edgesIn md ops' l' i := by
  obtain ⟨o, ho, h1, _⟩ := in_spec hin hi
  unfold edgesIn
  rw [hE i hi, ho]
  simp only [Option.map_some, Option.getD_some]
  rw [Bool.eq_iff_iff, Array.all_eq_true_iff_forall_mem, Array.all_eq_true_iff_forall_mem]
  refine forall_congr' fun e => forall_congr' fun he => ?_
  cases hb : Region.binds md e with
  | false => simp
  | true =>
    have := h1 e he hb
    rw [getD_dflt (by rw [x.s]; omega), getD_dflt (by rw [x.s']; omega), x.eq _ (by omega)]
theorem unlisted_up {k m : Nat} {l : Array Bool} (hs : sinkB md ops k m = true) (hp : ∀ i, i < k → l.getD i true = true) (hsz : m ≤ l.size) (dc : DC md ops m l) : ∀ (N x : Nat), m - x ≤ N → x < m → l.getD x true = false → l.getD (m - 1) true = false
  | 0, x, hN, hx, hu => by omega
  | N + 1, x, hN, hx, hu => by
    have h1 := List.all_eq_true.1 hs x (List.mem_range.2 (by omega))
    simp only [Bool.or_eq_true, decide_eq_true_eq] at h1
    rcases h1 with (h1 | h1) | h1
    · rw [show m - 1 = x by omega]; exact hu
    · rw [hp x h1] at hu; cases hu
    · obtain ⟨y, hy, h2⟩ := List.any_eq_true.1 h1
      rw [List.mem_range] at hy
      simp only [Bool.and_eq_true, decide_eq_true_eq] at h2
      have hyu : l.getD y true = false := by
        cases h3 : l.getD y true with
        | false => rfl
        | true =>
          have := dc y x hy h3 h2.2
          rw [getD_dflt (by omega), hu] at this
          cases this
      exact unlisted_up hs hp hsz dc N y (by omega) hy hyu
theorem not_rest {k m : Nat} {l' l : Array Bool} (hr : restB md ops m = true) (x : Ext2 ops m l' l) (hz : l.getD (m - 1) true = false) {j : Nat} (hj : j ∈ Region.ready md ops l) : j < m := by
  obtain ⟨hlt, hun, hed⟩ := mem_ready'.1 hj
  have h1 := List.all_eq_true.1 hr j (List.mem_range.2 hlt)
  simp only [Bool.or_eq_true, decide_eq_true_eq] at h1
  rcases h1 with (h1 | h1) | h1
  · exact h1
  · have := edgesIn_waits hed h1
    rw [getD_both hz] at this
    cases this
  · obtain ⟨y, hy, h2⟩ := List.any_eq_true.1 h1
    rw [List.mem_range] at hy
    simp only [Bool.and_eq_true, decide_eq_true_eq] at h2
    have := edgesIn_waits hed h2.2
    rw [getD_both (x.no y h2.1 hy)] at this
    cases this
theorem min_unlisted {m : Nat} {l : Array Bool} : ∀ (x : Nat), l.getD x true = false → ∃ y, y ≤ x ∧ l.getD y true = false ∧ ∀ z, z < y → l.getD z true = true
  | x, hx => by
    by_cases h : ∃ z, z < x ∧ l.getD z true = false
    · obtain ⟨z, hz, hu⟩ := h
      obtain ⟨y, h1, h2, h3⟩ := min_unlisted (m := m) z hu
      exact ⟨y, by omega, h2, h3⟩
    · refine ⟨x, Nat.le_refl _, hx, fun z hz => ?_⟩
      cases h2 : l.getD z true with
      | true => rfl
      | false => exact absurd ⟨z, hz, h2⟩ h
  termination_by x => x
theorem yielded_same {m g : Nat} (hE : ∀ i, i < m → ops'[i]? = ops[i]?) (hg : g < m) (t : Array Value) : yielded ops' t g = yielded ops t g := by unfold yielded; rw [hE g hg]
theorem wpOp_same {m i : Nat} (hE : ∀ i, i < m → ops'[i]? = ops[i]?) (hin : inB md ops m = true) (hi : i < m) {K : Act → World → Prop} {a : Act} {w : World} (h : wpOp P ops' Q i K a w) : wpOp P ops Q i K a w := by
  obtain ⟨o, ho, _, hg⟩ := in_spec hin hi
  unfold wpOp at *
  rw [hE i hi] at h
  rw [ho] at h ⊢
  simp only at h ⊢
  have e : Region.wanted o (yielded ops' a.tmps) = Region.wanted o (yielded ops a.tmps) := by
    unfold Region.wanted
    cases hgd : o.guard with
    | none => rfl
    | some p =>
      obtain ⟨g, b⟩ := p
      simp only
      rw [yielded_same hE (hg g b hgd)]
  rw [e] at h
  exact h
theorem wpAny_split' {k m n : Nat} (hE : ∀ i, i < m → ops'[i]? = ops[i]?) (hs' : ops'.size = m) (hf : ops.size = m + n) (hB : splitB md ops k m = true) : ∀ (fuel : Nat) (l' l : Array Bool) (a : Act) (w : World), Ext2 ops m l' l → DC md ops m l → (∀ i, i < k → l.getD i true = true) →
    wpAny P md ops' (Exit.then (fun a w => wpAny P md ops Q n (splitMark m n) a w) Q) fuel l' a w → wpAny P md ops Q (fuel + n) l a w := by
  simp only [splitB, Bool.and_eq_true, decide_eq_true_eq] at hB
  obtain ⟨⟨⟨⟨hm0, hm⟩, hr⟩, hs⟩, hin⟩ := hB
  have hmin : ∀ (l' l : Array Bool), Ext2 ops m l' l → ∀ x, x < m → l.getD x true = false → ∃ y, y ∈ Region.ready md ops' l' := fun l' l x q hq hu => by
    obtain ⟨y, h1, h2, h3⟩ := min_unlisted (m := m) q hu
    refine ⟨y, mem_ready'.2 ⟨by omega, by rw [← x.eq y (by omega)]; exact h2, ?_⟩⟩
    obtain ⟨o, ho, h4, _⟩ := in_spec hin (show y < m by omega)
    unfold edgesIn
    rw [hE y (by omega), ho]
    simp only [Option.map_some, Option.getD_some]
    rw [Array.all_eq_true_iff_forall_mem]
    intro e he
    cases hb : Region.binds md e with
    | false => simp
    | true =>
      have h5 := h4 e he hb
      simp only [Bool.not_true, Bool.false_or]
      rw [getD_dflt (by rw [x.s']; omega), ← x.eq _ (by omega)]
      exact h3 _ h5
  have hfull : ∀ (l' l : Array Bool), Ext2 ops m l' l → (∀ x, x < m → l.getD x true = true) → l = splitMark m n := fun l' l x h => by
    apply Array.ext
    · rw [x.s, hf]; simp [splitMark]
    · intro i h1 h2
      have h3 : l.getD i true = l[i] := by rw [getD_el, Array.getElem?_eq_getElem h1, Option.getD_some]
      have h4 : i < m + n := by have := x.s; omega
      have h5 : (splitMark m n)[i] = (splitMark m n).getD i true := by rw [getD_el, Array.getElem?_eq_getElem h2, Option.getD_some]
      rw [h5, hgetM m n i h4, ← h3]
      by_cases hi : i < m
      · rw [h i hi]; simp [hi]
      · rw [x.no i (by omega) (by omega)]; simp [hi]
  intro fuel
  induction fuel with
  | zero =>
    intro l' l a w x dc hp h
    rw [Nat.zero_add]
    have hall : ∀ q, q < m → l.getD q true = true := fun q hq => by
      cases h1 : l.getD q true with
      | true => rfl
      | false =>
        obtain ⟨y, hy⟩ := hmin l' l x q hq h1
        rw [h.1] at hy
        cases hy
    rw [hfull l' l x hall]
    exact h.2
  | succ fuel ih =>
    intro l' l a w x dc hp h
    by_cases hall : ∀ q, q < m → l.getD q true = true
    · have hno : Region.ready md ops' l' = [] := by
        apply List.eq_nil_iff_forall_not_mem.2
        intro i hi
        obtain ⟨h1, h2, _⟩ := mem_ready'.1 hi
        rw [← x.eq i (by omega), hall i (by omega)] at h2
        cases h2
      have h1 := h.1 hno
      rw [hfull l' l x hall, Nat.add_comm]
      exact wpAny_more n (fuel + 1) _ a w h1
    · have hex : ∃ q, q < m ∧ l.getD q true = false := by
        apply Classical.byContradiction
        intro hc
        refine hall fun q hq => ?_
        cases h1 : l.getD q true with
        | true => rfl
        | false => exact absurd ⟨q, hq, h1⟩ hc
      obtain ⟨q, hq, hu⟩ := hex
      have hz := unlisted_up hs hp (by rw [x.s]; exact hm) dc m q (by omega) hq hu
      have hready : ∀ j, j ∈ Region.ready md ops l → j < m ∧ j ∈ Region.ready md ops' l' := fun j hj => by
        have hjm := not_rest (k := k) hr x hz hj
        obtain ⟨h1, h2, h3⟩ := mem_ready'.1 hj
        exact ⟨hjm, mem_ready'.2 ⟨by omega, by rw [← x.eq j hjm]; exact h2, by rw [← edges_same hE hin x hm hjm]; exact h3⟩⟩
      rw [show fuel + 1 + n = (fuel + n) + 1 by omega]
      refine ⟨fun h0 => ?_, fun j hj => ?_⟩
      · obtain ⟨y, hy⟩ := hmin l' l x q hq hu
        obtain ⟨h1, h2, h3⟩ := mem_ready'.1 hy
        have hym : y < m := by omega
        have : y ∈ Region.ready md ops l := mem_ready'.2 ⟨by omega, by rw [x.eq y hym]; exact h2, by rw [edges_same hE hin x hm hym]; exact h3⟩
        rw [h0] at this
        cases this
      · obtain ⟨hjm, hj'⟩ := hready j hj
        have h1 := wpOp_same hE hin hjm (wpOp_then (h.2 j hj'))
        refine wpOp_mono (fun a w h2 => ih _ _ a w ⟨by simp [x.s'], by simp [x.s], fun i hi => ?_, fun i h1 h2 => ?_⟩ (fun i j2 hi hl hw => ?_) (fun i hi => ?_) h2) h1
        · rw [getD_setB, getD_setB, x.s, x.s', x.eq i hi, if_pos hi, if_pos (show i < ops.size by omega)]
        · rw [getD_setB, if_neg (by omega)]
          exact x.no i h1 h2
        · rw [getD_setB] at hl
          by_cases e : j = i
          · subst e
            have h4 := edgesIn_waits (mem_ready'.1 hj).2.2 hw
            exact getD_set_tf h4
          · rw [if_neg e] at hl
            exact getD_set_tf (dc i j2 hi hl hw)
        · exact getD_set_tt' (hp i hi)
where
  getD_set_tf {l : Array Bool} {k j : Nat} (h : l.getD k false = true) : (l.setIfInBounds j true).getD k false = true := by
    rw [getD_setB]
    split
    · split
      · rfl
      · rename_i h1 h2
        rw [getD_el, Array.getElem?_eq_none (by omega)] at h
        cases h
    · exact h
  getD_set_tt' {l : Array Bool} {k j : Nat} (h : l.getD k true = true) : (l.setIfInBounds j true).getD k true = true := by
    rw [getD_setB]
    split
    · split <;> rfl
    · exact h
/-- THE RULE, at a region's start: the first m steps, all of which come before the others. -/
theorem wp_region_split {id : Nat} {a : Act} {w : World} (m n : Nat) (hm : P.follows .mixedOrders = true) (hf : ops.size = m + n) (hB : splitB .any ops 0 m = true)
    (h : wpAny P .any (ops.extract 0 m) (Exit.then (fun a w => wpAny P .any ops Q n (splitMark m n) a w) Q) m (Array.replicate m false) a w.drew) : (Code.region id ops true).wp P Q a w := by
  refine wp_region_any hm ?_
  rw [hf]
  refine wpAny_split' (ops' := ops.extract 0 m) (k := 0) (m := m) (n := n) (fun i hi => ?_) (by simp; omega) hf hB m _ _ a _ ⟨by simp, by simp [hf], fun i hi => ?_, fun i h1 h2 => ?_⟩ (fun i j hi hl hw => ?_) (fun i hi => by omega) h
  · rw [Array.getElem?_extract_of_lt (by omega)]; simp
  · simp [Array.getD, hi, show i < m + n by omega]
  · simp [Array.getD, show i < m + n by omega]
  · simp [Array.getD, show i < m + n by omega] at hl
/-- THE RULE, further on: from the k-th step to the m-th. -/
theorem wpAny_split {a : Act} {w : World} {fuel : Nat} (k d n : Nat) {r : Nat} (hr : r = d + n) (hf : ops.size = k + d + n) (hB : splitB .any ops k (k + d) = true) (hfu : fuel = d + n)
    (h : wpAny P .any (ops.extract 0 (k + d)) (Exit.then (fun a w => wpAny P .any ops Q n (splitMark (k + d) n) a w) Q) d (splitMark k d) a w) : wpAny P .any ops Q fuel (splitMark k r) a w := by
  subst hfu
  subst hr
  have hB2 := hB
  simp only [splitB, Bool.and_eq_true, decide_eq_true_eq] at hB2
  have hget := hgetM
  refine wpAny_split' (ops' := ops.extract 0 (k + d)) (k := k) (m := k + d) (n := n) (fun i hi => ?_) (by simp; omega) hf hB d _ _ a _ ⟨by simp [splitMark], by simp [splitMark, hf, Nat.add_assoc], fun i hi => ?_, fun i h1 h2 => ?_⟩ (fun i j hi hl hw => ?_) (fun i hi => ?_) h
  · rw [Array.getElem?_extract_of_lt (by omega)]; simp
  · rw [hget _ _ _ (by omega), hget _ _ _ (by omega)]
  · rw [hget _ _ _ (by omega)]; simp; omega
  · rw [hget _ _ _ (by omega)] at hl
    have hik : i < k := by simpa using hl
    obtain ⟨o, ho, h1, _⟩ := in_spec hB2.2 hi
    obtain ⟨oj, hoj, e, he, hb, hon⟩ := Region.waitsFor_spec hw
    rw [ho] at hoj
    cases hoj
    have := h1 e he hb
    rw [getD_dflt (by simp [splitMark]; omega), hget _ _ _ (by omega)]
    simp
    omega
  · rw [hget _ _ _ (by omega)]; simp; omega
end
end Go.Proofs.YtmppagiaonbggaaDoor
