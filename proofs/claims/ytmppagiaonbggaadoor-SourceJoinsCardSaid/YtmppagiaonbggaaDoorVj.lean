/- Texts of one proof, merged: XGf XLd XGg XGh. -/
import Derived.Test.YtmppagiaonbggaaDoorVi
import Derived.LoopN
/- The walk over SourceSizes. -/
namespace Go.Proofs.YtmppagiaonbggaaDoor
set_option linter.unusedVariables false
set_option linter.unusedSimpArgs false
set_option maxRecDepth 100000
open Go.RowKit Go.Shelf

attribute [local go_sem] Oper.semAt_some
theorem results_cell_bool {fn : Func} {p : Tmp} (h : fn.results = #[.cell p 4]) (tmps : Array Value) (w : World) (g i : Nat) (v : Value) (hp : tmps.getD p undef = .pointer (some ⟨g, i, none⟩)) (hc : w.cell? ⟨g, i, none⟩ = some v) : (results fn tmps).run Tryd.prog w = .ok v w := by
  have hu := Tryd.underlying4
  unfold results
  simp only [h]
  have hp' : tmps[p]?.getD undef = .pointer (some ⟨g, i, none⟩) := by simpa using hp
  simp [go_sem, hp', hu, hc]

theorem seg_len {b : List UInt8} {p : Pn} (ht : p.tot = (b.length : Int)) (k : Nat) (hk : k < nsegP b p) : ∃ i j : Nat, (k : Int) * p.ch = (i : Int) ∧ (chunkP b p k).length = j - i ∧ i < j ∧ (i : Int) ≤ 4194304 ∧ j ≤ b.length ∧ (min (((k + 1 : Nat) : Int) * p.ch) (b.length : Int) = (j : Int)) ∧ (if (k : Int) = segsP p - 1 then p.tot - (k : Int) * p.ch else p.ch) = ((j - i : Nat) : Int) ∧ (min ((k : Int) * p.ch) (b.length : Int) = (i : Int)) := by
  obtain ⟨i, m, j, hi, hm, hj, hij, hjb, hc, x1, x2, x3, x4, x5, x6⟩ := seg_facts ht k hk
  refine ⟨i, j, hi, by rw [hc]; exact (bytesU_cut b i j hjb (by omega)).2, hij, by omega, hjb, ?_, ?_, ?_⟩
  · rw [show ((k + 1 : Nat) : Int) = (k : Int) + 1 by omega, hm]; omega
  · have hk2 : (k : Int) < segsP p := by unfold nsegP at hk; rw [if_pos ht] at hk; omega
    have hs : segsP p = (p.tot + p.ch - 1) / p.ch := by
      unfold segsP
      split
      · rfl
      · rename_i h
        unfold segsP at hk2
        rw [if_neg h] at hk2
        omega
    split
    · rename_i h
      have h1 : p.tot ≤ ((k : Int) + 1) * p.ch := by
        have h2 : (p.tot + p.ch - 1) / p.ch < (k : Int) + 2 := by omega
        have h3 := (Int.ediv_lt_iff_lt_mul (by omega)).1 h2
        have h4 : ((k : Int) + 2) * p.ch = ((k : Int) + 1) * p.ch + p.ch := by rw [show (k : Int) + 2 = (k : Int) + 1 + 1 by omega, Int.add_mul ((k : Int) + 1), Int.one_mul]
        omega
      omega
    · rename_i h
      have h1 : ((k : Int) + 1) * p.ch ≤ p.tot - 1 := by
        have h2 : (k : Int) + 2 ≤ (p.tot + p.ch - 1) / p.ch := by omega
        have h3 := (Int.le_ediv_iff_mul_le (by omega)).1 h2
        have h4 : ((k : Int) + 2) * p.ch = ((k : Int) + 1) * p.ch + p.ch := by rw [show (k : Int) + 2 = (k : Int) + 1 + 1 by omega, Int.add_mul ((k : Int) + 1), Int.one_mul]
        omega
      omega
  · have : (i : Int) ≤ (b.length : Int) := by omega
    omega
theorem seg_end {b : List UInt8} {p : Pn} (hm : p.mayB = true) (ht : p.tot = (b.length : Int)) : min (segsP p * p.ch) (b.length : Int) = p.tot ∧ (p.ch < p.tot ∨ segsP p ≤ 1) ∧ (nsegP b p : Int) = segsP p ∧ segsP p ≤ 4259840 := by
  obtain ⟨m0, m1, _, _, m4, m5⟩ := p.may_true hm
  have hs : segsP p = (p.tot + p.ch - 1) / p.ch := by unfold segsP; rw [if_pos hm]
  have hn := segsP_nonneg p
  have h1 : p.tot ≤ segsP p * p.ch := by
    have h2 : (p.tot + p.ch - 1) / p.ch < segsP p + 1 := by omega
    have h3 := (Int.ediv_lt_iff_lt_mul (by omega)).1 h2
    rw [Int.add_mul, Int.one_mul] at h3
    omega
  refine ⟨by omega, ?_, by unfold nsegP; rw [if_pos ht]; omega, ?_⟩
  · by_cases h : p.ch < p.tot
    · exact .inl h
    · right
      have h2 : (p.tot + p.ch - 1) / p.ch < 2 := (Int.ediv_lt_iff_lt_mul (by omega)).2 (by omega)
      omega
  · rw [hs]
    exact Int.le_trans (Int.ediv_le_self _ (by omega)) (by omega)

theorem exec_load_row {P : Program} {a : Act} {o : Oper} {w : World} {ty : TypeId} {x : Operand} (ho : o.op = .load ty x) (g : Nat) (hx : a.eval x = .pointer (some ⟨g, 0, none⟩)) (t : TypeId) (cs : Array Value) (fr : Nat × Nat) (d : TypeDesc) (hg : w.heap[g]? = some (.cells cs t fr))
    (hu : P.underlying ty = some d) (hd : (match d with | .struct _ | .array _ _ => true | _ => false) = true) (hi : (P.info? ty).map (·.size) = some cs.size) : (execOp a.eval o).run P w = .ok (.value (.agg cs)) w := by
  unfold execOp
  simp only [ho, hx, Instr.loadAt, Instr.sureAddr, Sem.run_bind, Sem.run_pure, Result.andThen_ok, run_loadVar_row w g t ty cs fr d hg hu hd hi]

set_option maxRecDepth 100000 in
set_option maxHeartbeats 6400000 in
theorem sizes_walk (A : Option Addr) (c : Nat) (l : List (Fi × Value)) (hl : l.length ≤ 9223372036854775807) (hw : ∀ x ∈ l, x.1.wide) (ch : Int) (hch : okI ch) (w : World) (h : Sh w) (hr : RdF w A l) :
    Calls Tryd.prog 7 #[.slice A l.length c, .int .i64 ch] w fun e w' => e = .returned (.bool true) ∧ Below w.heap.size w w' := by
  have o0 := ((Own.start w.heap.size w).new (Nat.le_refl _) 3 #[.int .i64 ch]).new (by simp) 4 #[.bool false]
  have hb := ((Below.refl w.heap.size w).alloc (Nat.le_refl _) (.cells #[.int .i64 ch] 3)).alloc (by simp) (.cells #[.bool false] 4)
  simp only [World.size_alloc9] at o0
  have Hh := Lib.hid (fun w1 (b : Below w.heap.size w w1) => sh_below h b)
  have Aw := Lib.hid (fun w1 h1 => awakeS_any w1 h1)
  have Hr := Lib.hid (fun w1 (b : Below w.heap.size w w1) => hr.below b)
  have Fe := Lib.hid (few_any A c l hl hw _ (Hr.out _ hb))
  by_cases hf : fewP (l.map (·.1))
  · rw [decide_eq_true hf] at Fe
    obtain ⟨f1, f2, f3⟩ := few_ok hw hf
    have R1 := Lib.hid (fun w1 h1 hr => rightE_any A c l (by omega) (by omega) f3 w1 h1 hr)
    by_cases hz : whyE (ents (l.map (·.1))) = 0
    · by_cases hc1 : ch < 1
      · rw [hz] at R1
        clear h hr hf f3 hw
        refine (callsIn_wide (n := 5)).1 (callsIn_of_wp_marks Tryd.func7 rfl trivial (wpIn_wide.2 ?_) rfl)
        simp only [Tryd.ntmps7, List.size_toArray, List.length_cons, List.length_nil, Nat.reduceAdd, Nat.reduceSub, Array.replicate_succ, Array.replicate_zero, List.push_toArray, List.append_toArray, List.nil_append, List.cons_append]
        go_wp2_with fail
        refine (Fe.out).mono ?_
        rintro e wz ⟨rfl, rfl⟩
        go_wp2_with fail
        refine (Aw.out _ (Hh.out _ hb)).mono ?_
        rintro e w1 ⟨rfl, b⟩
        have o1 := (o0).grown hb.size b
        have hb1 := hb.trans (b.mono hb.size)
        have k1 := o1.cell 0
        have z1 := o1.unfrozen 0
        have o2 := o1.set hb1.size 0 (.bool true)
        have b2 := o1.below_set 0 (.bool true)
        clear hb b
        go_wp2
        exact ⟨_, results_cell_bool rfl _ _ (w.heap.size + 1) 0 _ rfl (o2.cell 0), rfl, hb1.trans b2⟩
      · by_cases hc2 : 65536 < ch
        · rw [hz] at R1
          clear h hr hf f3 hw
          refine (callsIn_wide (n := 5)).1 (callsIn_of_wp_marks Tryd.func7 rfl trivial (wpIn_wide.2 ?_) rfl)
          simp only [Tryd.ntmps7, List.size_toArray, List.length_cons, List.length_nil, Nat.reduceAdd, Nat.reduceSub, Array.replicate_succ, Array.replicate_zero, List.push_toArray, List.append_toArray, List.nil_append, List.cons_append]
          go_wp2_with fail
          refine (Fe.out).mono ?_
          rintro e wz ⟨rfl, rfl⟩
          go_wp2_with fail
          refine (Aw.out _ (Hh.out _ hb)).mono ?_
          rintro e w1 ⟨rfl, b⟩
          have o1 := (o0).grown hb.size b
          have hb1 := hb.trans (b.mono hb.size)
          have k1 := o1.cell 0
          have z1 := o1.unfrozen 0
          have o2 := o1.set hb1.size 0 (.bool true)
          have b2 := o1.below_set 0 (.bool true)
          clear hb b
          go_wp2
          exact ⟨_, results_cell_bool rfl _ _ (w.heap.size + 1) 0 _ rfl (o2.cell 0), rfl, hb1.trans b2⟩
        · rw [hz] at R1
          have P := Lib.hid (fun w1 h1 h2 => plan_any A c l (by omega) (by omega) f3 ch 1 hch ⟨by decide, by decide⟩ w1 h1 h2)
          have hst : streamP (l.map (·.1)) = dataL (l.map (·.1)) := if_pos hz
          have hdl := dataL_length (l.map (·.1))
          have hch1 : 1 ≤ ch := by omega
          have hch2 : ch ≤ 65536 := by omega
          have CI := Lib.hid (fun p pok b0 b1 B R' kR' w hF => chunks_it A c l (by omega) (by omega) f3 p pok b0 b1 B R' kR' w hF)
          rw [hst] at CI
          have Hpl : Hid (∀ p z, planP (l.map (·.1)) ch 1 p z → p = ⟨ch, 1, ((dataL (l.map (·.1))).length : Int), p.dg⟩ ∧ z = 0 ∧ p.dg.length = 32) := Lib.hid (fun p z hp => by
            obtain ⟨h1, _, _, h4⟩ := hp
            obtain ⟨a, b, c, d⟩ := h4 hz ⟨hch1, hch2, by decide, by decide⟩
            obtain ⟨ch', wi, tot, dg⟩ := p
            simp only at a b c d h1 ⊢
            subst a b c d
            rw [hdl]
            exact ⟨rfl, rfl, h1⟩)
          have hinf : (Tryd.prog.info? 27).map (·.size) = some z35.size := infoPlan
          have hdle := dataL_le hz
          clear h hr hf f3 hw hst hdl hz
          generalize dataL (l.map (·.1)) = dt at *
          have k0 : ((w.alloc (.cells #[.int .i64 ch] 3)).alloc (.cells #[.bool false] 4)).cell? ⟨w.heap.size, 0, none⟩ = some (.int .i64 ch) := o0.cellOf w.heap.size 0
          refine (callsIn_wide (n := 5)).1 (callsIn_of_wp_marks Tryd.func7 rfl trivial (wpIn_wide.2 ?_) rfl)
          simp only [Tryd.ntmps7, List.size_toArray, List.length_cons, List.length_nil, Nat.reduceAdd, Nat.reduceSub, Array.replicate_succ, Array.replicate_zero, List.push_toArray, List.append_toArray, List.nil_append, List.cons_append]
          go_wp2_with fail
          refine (Fe.out).mono ?_
          rintro e wz ⟨rfl, rfl⟩
          go_wp2_with fail
          refine (R1.out _ (Hh.out _ hb) (Hr.out _ hb)).mono ?_
          rintro e w1 ⟨rfl, b⟩
          have o1 := o0.grown hb.size b
          replace hb := hb.trans (b.mono hb.size)
          have k1 : w1.cell? ⟨w.heap.size, 0, none⟩ = some (.int .i64 ch) := o1.cellOf w.heap.size 0
          clear b o0 k0 Fe R1
          go_wp2_with fail
          refine (P.out _ (Hh.out _ hb) (Hr.out _ hb)).mono ?_
          rintro e w2 ⟨p, z, hp, rfl, b⟩
          obtain ⟨hp1, rfl, hp3⟩ := Hpl.out p z hp
          have o2 := o1.grown hb.size b
          replace hb := hb.trans (b.mono hb.size)
          generalize p.dg = D at *
          subst hp1
          clear b o1 k1 hp P Hpl
          have pok : Pn.ok ⟨ch, 1, (dt.length : Int), D⟩ := ⟨hch, ⟨by simp only; decide, by simp only; decide⟩, ⟨by simp only; omega, by simp only; omega⟩, hp3⟩
          have pmay : Pn.mayB ⟨ch, 1, (dt.length : Int), D⟩ = true := by unfold Pn.mayB; simp only [Bool.and_eq_true, decide_eq_true_eq]; omega
          have SG := Lib.hid (fun w => segments_any ⟨ch, 1, (dt.length : Int), D⟩ pok w)
          have SE := Lib.hid (seg_end (b := dt) pmay rfl)
          have SL := Lib.hid (fun k hk => seg_len (b := dt) (p := ⟨ch, 1, (dt.length : Int), D⟩) rfl k hk)
          have CIp := Lib.hid (fun b0 b1 B R' kR' w hF => CI.out ⟨ch, 1, (dt.length : Int), D⟩ pok b0 b1 B R' kR' w hF)
          have CHS := Lib.hid (fun w => chunks_any A l.length c ⟨ch, 1, (dt.length : Int), D⟩ w)
          have hps := pnL_size (p := ⟨ch, 1, (dt.length : Int), D⟩) hp3
          have Hpo := Lib.hid (pnL_one ⟨ch, 1, (dt.length : Int), D⟩)
          have hinf2 : (Tryd.prog.info? 27).map (·.size) = some (pnL ⟨ch, 1, (dt.length : Int), D⟩).toArray.size := by rw [hps]; exact infoPlan
          have Hz : Hid (z35.size = (pnL ⟨ch, 1, (dt.length : Int), D⟩).toArray.size) := Lib.hid (by rw [hps]; rfl)
          have k2 : (pnL ⟨ch, 1, (dt.length : Int), D⟩).toArray[2]? = some (.int .i64 dt.length) := rfl
          have o3 := o2.new hb.size 27 z35
          have hb3 := hb.alloc hb.size (.cells z35 27)
          simp only at SL SE
          obtain ⟨f, hf⟩ : ∃ f : Nat → List UInt8, f = fun k : Nat => chunkP dt ⟨ch, 1, (dt.length : Int), D⟩ k := ⟨_, rfl⟩
          have SLf : Hid (∀ k, k < nsegP dt ⟨ch, 1, (dt.length : Int), D⟩ → ∃ i j : Nat, (k : Int) * ch = (i : Int) ∧ (f k).length = j - i ∧ i < j ∧ (i : Int) ≤ 4194304 ∧ j ≤ dt.length ∧ (min (((k + 1 : Nat) : Int) * ch) (dt.length : Int) = (j : Int)) ∧ (if (k : Int) = segsP ⟨ch, 1, (dt.length : Int), D⟩ - 1 then (dt.length : Int) - (k : Int) * ch else ch) = ((j - i : Nat) : Int) ∧ (min ((k : Int) * ch) (dt.length : Int) = (i : Int))) := Lib.hid (fun k hk => by rw [hf]; exact SL.out k hk)
          rw [← hf] at CIp
          clear SL CI hps hp3 pok pmay hf
          generalize (pnL ⟨ch, 1, (dt.length : Int), D⟩).toArray = PA at *
          generalize nsegP dt ⟨ch, 1, (dt.length : Int), D⟩ = N at *
          generalize segsP ⟨ch, 1, (dt.length : Int), D⟩ = sg at *
          obtain ⟨B4, o4, b4⟩ := o3.setRow hb3.size PA
          have hb4 := hb3.trans b4
          have Hh3 := Lib.hid o3.bk.1
          have hz4 : ((w2.alloc (.cells z35 27)).setRow w2.heap.size PA).heap.size = w2.heap.size + 1 := by simp [World.setRow]
          have o5 := (o4.new B4 3 #[.int .i64 0]).new (by simp; omega) 3 #[.int .i64 0]
          have hb5 := (hb4.alloc B4 (.cells #[.int .i64 0] 3)).alloc (by simp; omega) (.cells #[.int .i64 0] 3)
          simp only [World.size_alloc9, hz4] at o5
          have Hh5 := Lib.hid (o5.blockOf w2.heap.size)
          unfold z35 at o5 hb5 Hh5 hz4
          clear o3 o4 b4 hb3 hb4 hb B4
          go_wp2_with first
            | (refine wpList_plain rfl fun _ hK => wp_store_row 27 (.tmp 5) (.tmp 33) rfl w2.heap.size PA rfl rfl 27 _ Hh3.out hinf2 Hz.out Hpo.out (hK _ _ ?_))
            | (refine wpList_load_row_g rfl 27 (.tmp 5) rfl w2.heap.size rfl 27 PA (0, 0) _ Hh5.out Tryd.underlying27 rfl hinf2 ?_)
          refine (CHS.out _).mono ?_
          rintro e w6 ⟨rfl, hw6⟩
          simp only [World.size_alloc9, hz4] at hw6 ⊢
          generalize hX0 : w.heap.size = X0 at *
          generalize hX5 : w2.heap.size = X5 at *
          obtain ⟨Y0, hY0⟩ : ∃ Y0, Y0 = X5 + 1 + 1 + 1 := ⟨_, rfl⟩
          rw [← hY0]
          have B5 := hb5.size
          rw [hX0] at B5
          have o6 := (o5.new B5 22 #[.slice A l.length c]).new (by simp at B5 ⊢; omega) 27 PA
          have hb6 := (hb5.alloc B5 (.cells #[.slice A l.length c] 22)).alloc (by simp at B5 ⊢; omega) (.cells PA 27)
          simp only [World.size_alloc9, hz4, ← hY0] at o6
          rw [← hw6] at o6 hb6
          clear hw6 o5 hb5 Hh3 Hh5 hz4 hY0 CHS B5 o2 Hpo Hz
          have hS0 := SE.out
          obtain ⟨se1, se2, se3, se4⟩ := hS0
          obtain ⟨PR, hPR⟩ : ∃ PR : HP, PR = Bk X0 3 #[.int .i64 ch] * (Bk X5 27 PA * Bk (X0 + 1) 4 #[.bool false]) := ⟨_, rfl⟩
          have kPR : Loc X0 PR := by rw [hPR]; infer_instance
          have B6 := hb6.size
          rw [hX0] at B6
          have Hb6 := Lib.hid hb6
          have Hse := Lib.hid (And.intro se1 (And.intro se2 (And.intro se3 se4)))
          have hsg0 : 0 ≤ sg := by omega
          go_wp2_with fail
          refine wp_rangeFunc_sep (B := X0) (lb := #[.pointer (some ⟨Y0, 0, none⟩), .pointer (some ⟨Y0 + 1, 0, none⟩)]) rfl (enters_of Tryd.func38 (by kernel_rfl) rfl) (Bk Y0 22 #[.slice A l.length c] * Bk (Y0 + 1) 27 PA) Emp (fun _ => inferInstance) (fun _ => rfl)
            (fun R' kR' => CIp.out Y0 (Y0 + 1) X0 R' kR' w6 (fun W b => ⟨Hh.out _ (hb6.trans b), Hr.out _ (hb6.trans b)⟩))
            (fun pre => Bk (X5 + 1) 3 #[.int .i64 (min ((pre.length : Int) * ch) (dt.length : Int))] * (Bk (X5 + 1 + 1) 3 #[.int .i64 (pre.length : Int)] * PR)) (fun _ _ => Fact False) B6 ?own
            (fun x t => (t.setIfInBounds 9 (.int .i64 (x.k : Int))).setIfInBounds 10 (.slice x.A (f x.k).length x.c)) (fun x => _) (fun x => rfl) ?assign ?body ?done ?stop
          case own =>
            rw [hPR]
            simp only [List.length_nil, Int.ofNat_zero, Int.zero_mul]
            rw [show min (0 : Int) (dt.length : Int) = 0 by omega]
            exact o6.cast (by ac_rfl)
          case assign =>
            intro l x W K hK
            simp only [sgEnc, List.zip_toArray, List.zip_cons_cons, List.zip_nil_right, List.zip_nil_left, List.foldl_toArray', List.foldl_toArray, List.foldl_cons, List.foldl_nil, List.setIfInBounds_toArray, List.set_cons_zero, List.set_cons_succ] at hK ⊢
            gi_wp2
            exact hK
          case body =>
            intro lp pre x W R' _ hBW hbW hO hN
            simp only [sgEnc, List.zip_toArray, List.zip_cons_cons, List.zip_nil_right, List.zip_nil_left, List.foldl_toArray', List.foldl_toArray, List.foldl_cons, List.foldl_nil, List.setIfInBounds_toArray, List.set_cons_zero, List.set_cons_succ] 
            obtain ⟨k, Ax, cx⟩ := x
            obtain ⟨hN1, hN2, hN3⟩ := hN
            simp only at hN2
            subst hN2
            obtain ⟨i, j, hi, hlen, hij, hi1, hj1, hmin, hwant, hmin0⟩ := SLf.out pre.length hN3
            have hO : Own X0 (Bk (X5 + 1) 3 #[.int .i64 (i : Int)] * (Bk (X5 + 1 + 1) 3 #[.int .i64 (pre.length : Int)] * (Bk X0 3 #[.int .i64 ch] * (Bk X5 27 PA * (Bk (X0 + 1) 4 #[.bool false] * R'))))) W := by
              rw [hmin0, hPR] at hO
              exact (Own.right (A := sgGiv f ⟨pre.length, Ax, cx⟩) (hO.cast (by ac_rfl)))
            have Hfin : Hid (∀ W', Own X0 (Bk (X5 + 1) 3 #[.int .i64 (j : Int)] * (Bk (X5 + 1 + 1) 3 #[.int .i64 ((pre.length + 1 : Nat) : Int)] * (Bk X0 3 #[.int .i64 ch] * (Bk X5 27 PA * (Bk (X0 + 1) 4 #[.bool false] * R'))))) W' →
              Own X0 ((Bk (X5 + 1) 3 #[.int .i64 (min (((pre ++ [(⟨pre.length, Ax, cx⟩ : Sg)]).length : Int) * ch) (dt.length : Int))] * (Bk (X5 + 1 + 1) 3 #[.int .i64 ((pre ++ [(⟨pre.length, Ax, cx⟩ : Sg)]).length : Int)] * PR)) * R') W') := Lib.hid (fun W' o => by
              rw [show (pre ++ [(⟨pre.length, Ax, cx⟩ : Sg)]).length = pre.length + 1 by simp, hmin, hPR]
              exact o.cast (by ac_rfl))
            obtain ⟨k, hk⟩ : ∃ k, k = pre.length := ⟨_, rfl⟩
            rw [← hk] at hO Hfin hi hlen hmin hwant hmin0 hN3 ⊢
            have c0 : W.cell? ⟨X0, 0, none⟩ = some (.int .i64 ch) := hO.cellOf X0 0
            have Hh5 := Lib.hid (hO.blockOf X5)
            have Hlen := Lib.hid hlen
            have m1 : ((f k).length : Int) = (j : Int) - (i : Int) := by omega
            clear hk hN1 hN3 hlen hmin hmin0 Hse se1 se2 se3 hPR Hb6 hbW o6 hb6 CIp SLf SE
            generalize (f k).length = m at *
            have hkn : (0 : Int) ≤ (k : Int) := by omega
            gi_wp2_with first
              | (refine wpListIn_load_row rfl 27 (.tmp 5) rfl X5 rfl 27 PA (0, 0) _ Hh5.out Tryd.underlying27 rfl hinf2 ?_)
            refine ⟨trivial, (callsIn_wide.2 (SG.out _)).mono ?_⟩
            rintro e W2 ⟨rfl, b2⟩
            have hO2 := hO.grown hBW b2
            have hBW2 := Nat.le_trans hBW b2.size
            have hb2 := b2.mono hBW
            clear hO Hh5 c0 b2
            have c0 : W2.cell? ⟨X0, 0, none⟩ = some (.int .i64 ch) := hO2.cellOf X0 0
            have c2 : W2.cell? ⟨X5, 2, none⟩ = some (.int .i64 dt.length) := (hO2.cellOf X5 2).trans k2
            have c7 : W2.cell? ⟨X5 + 1, 0, none⟩ = some (.int .i64 (i : Int)) := hO2.cell 0
            have z7 := hO2.unfrozen 0
            have s7 := hO2.set hBW2 0 (.int .i64 (j : Int))
            have t7 := hO2.below_set 0 (.int .i64 (j : Int))
            have s7' := s7.cast (sep_left_comm _ _ _)
            have c8 : (W2.setCell ⟨X5 + 1, 0, none⟩ (.int .i64 (j : Int))).cell? ⟨X5 + 1 + 1, 0, none⟩ = some (.int .i64 (k : Int)) := s7'.cell 0
            have z8 := s7'.unfrozen 0
            have s8 := s7'.set (by simpa [World.setCell] using hBW2) 0 (.int .i64 ((k + 1 : Nat) : Int))
            have t8 := s7'.below_set 0 (.int .i64 ((k + 1 : Nat) : Int))
            have Fin := Lib.hid (And.intro (Hfin.out _ (s8.cast (sep_left_comm _ _ _))) ((hb2.trans t7).trans t8))
            have ij : (i : Int) + (m : Int) = (j : Int) := by omega
            have j9 : (j : Int) ≤ 4194304 := by omega
            have k9 : (k : Int) ≤ 9000000 := by
              have : (k : Int) * 1 ≤ (k : Int) * ch := Int.mul_le_mul_of_nonneg_left (by omega) hkn
              omega
            clear s7 t7 s7' s8 t8 Hfin hO2 hb2
            by_cases hlast : (k : Int) = sg - 1
            · have hl2 : ((k : Int) == sg - 1) = true := by simpa using hlast
              rw [if_pos hlast] at hwant
              have w1 : (dt.length : Int) - (i : Int) = (m : Int) := by omega
              have w2' : (1 : Int) ≤ (m : Int) := by omega
              clear hwant m1 hlast
              gi_wp2
              exact Fin.out
            · have hl2 : ((k : Int) == sg - 1) = false := by simpa using hlast
              rw [if_neg hlast] at hwant
              have w1 : ((m : Int) == ch) = true := by simp; omega
              have w2' : ((m : Int) != ch) = false := by simp; omega
              clear hwant m1 hlast
              gi_wp2
              exact Fin.out
          case done =>
            intro D xs W hS hBW hbW hO
            have hxl : xs.length = N := by have := congrArg List.length hS; simpa using this
            have e1 : min ((N : Int) * ch) (dt.length : Int) = (dt.length : Int) := by rw [se3]; exact se1
            rw [hxl, e1, hPR] at hO
            have hO : Own X0 (Bk (X5 + 1) 3 #[.int .i64 (dt.length : Int)] * (Bk (X5 + 1 + 1) 3 #[.int .i64 (N : Int)] * (Bk X0 3 #[.int .i64 ch] * (Bk X5 27 PA * (Bk (X0 + 1) 4 #[.bool false] * (Dk D * Emp)))))) W :=
              (Own.right (A := Bk Y0 22 #[.slice A l.length c] * Bk (Y0 + 1) 27 PA) (hO.cast (by ac_rfl)))
            subst se3
            have hb := Hb6.out.trans hbW
            clear hS hxl e1 se1 Hse hPR o6 hb6 CIp SLf SE hbW
            by_cases hgt : ch < (dt.length : Int)
            · have hd1 : decide (ch < (dt.length : Int)) = true := decide_eq_true hgt
              go_wp2
              refine wp_region_mix (St X0 _ W) [0, 1, 2, 3, 4, 5, 6, 7, 8, 9, 10, 11, 12, 13, 14, 15, 16, 17, 18, 19, 20, 21, 22, 23, 24] [25, 26, 27] mixed (by kernel_rfl) rfl (St.drew hBW hO) ?_
              simp only [List.filterMap_cons, List.filterMap_nil, List.getElem?_toArray, List.getElem?_cons_succ, List.getElem?_cons_zero]
              repeat (first
                | (refine held_val ?_ rfl (fun w1 hS => ?_) ?_
                   rotate_left
                   · (have c7 := hS.2.1.cellOf (X5 + 1) 0; have c8 := hS.2.1.cellOf (X5 + 1 + 1) 0; have c0 := hS.2.1.cellOf X0 0; have c2 := (hS.2.1.cellOf X5 2).trans k2
                      go_simp
                      try go_bits
                      rfl)
                   simp only [Act.put, List.setIfInBounds_toArray, List.set_cons_zero, List.set_cons_succ])
                | (refine held_off rfl ?_
                   simp only [Act.put, List.setIfInBounds_toArray, List.set_cons_zero, List.set_cons_succ]))
              refine held_val (.agg PA) rfl (fun w1 hS => exec_load_row rfl X5 rfl 27 PA (0, 0) _ (hS.2.1.blockOf X5) Tryd.underlying27 rfl hinf2) ?_
              simp only [Act.put, List.setIfInBounds_toArray, List.set_cons_zero, List.set_cons_succ]
              refine held_call 24 #[.agg PA] (.int .i64 (N : Int)) rfl (fun w1 hS => by go_simp) (fun w1 hS => (SG.out w1).mono ?_) ?_
              · rintro e w2 ⟨rfl, b2⟩
                exact ⟨rfl, hS.grown b2⟩
              simp only [Act.put, List.setIfInBounds_toArray, List.set_cons_zero, List.set_cons_succ]
              repeat (first
                | (refine held_val ?_ rfl (fun w1 hS => ?_) ?_
                   rotate_left
                   · (have c7 := hS.2.1.cellOf (X5 + 1) 0; have c8 := hS.2.1.cellOf (X5 + 1 + 1) 0; have c0 := hS.2.1.cellOf X0 0; have c2 := (hS.2.1.cellOf X5 2).trans k2
                      go_simp
                      try go_bits
                      rfl)
                   simp only [Act.put, List.setIfInBounds_toArray, List.set_cons_zero, List.set_cons_succ])
                | (refine held_off rfl ?_
                   simp only [Act.put, List.setIfInBounds_toArray, List.set_cons_zero, List.set_cons_succ]))
              refine held_nil (fun w9 hS => ?_)
              obtain ⟨B9, o9, b9⟩ := hS
              have hb9 := hb.trans b9
              clear hO hb b9
              go_wp2_with fail
              refine (Aw.out _ (Hh.out _ hb9)).mono ?_
              rintro e wa ⟨rfl, ba⟩
              have oa := (o9.grown B9 ba).foc (Bk (X0 + 1) 4 #[.bool false])
              have Ba := Nat.le_trans B9 ba.size
              have hba := hb9.trans (ba.mono B9)
              have ka := oa.cell 0
              have za := oa.unfrozen 0
              have sa := oa.set Ba 0 (.bool true)
              have ta := oa.below_set 0 (.bool true)
              have Bs : X0 ≤ (wa.setCell ⟨X0 + 1, 0, none⟩ (.bool true)).heap.size := by simpa [World.setCell] using Ba
              have Fin := Lib.hid (And.intro Bs (And.intro sa (hba.trans ta)))
              clear o9 hb9 ba oa hba sa ta Bs
              go_wp2
              refine ret_hp Fin.out.1 rfl (Fin.out.2.1.foc (Dk D)) (fun W' o => results_cell_bool rfl _ _ (X0 + 1) 0 _ rfl (o.cellOf (X0 + 1) 0)) (fun W' o b => ⟨rfl, by rw [hX0]; exact Fin.out.2.2.trans b⟩)
            · have hle1 : (N : Int) ≤ 1 := by rcases se2 with h | h <;> omega
              have hd1 : decide (ch < (dt.length : Int)) = false := decide_eq_false hgt
              have hd2 : decide ((N : Int) ≤ 1) = true := decide_eq_true hle1
              go_wp2
              refine wp_region_mix (St X0 _ W) [0, 1, 2, 3, 4, 5, 6, 7, 8, 9, 10, 11, 12, 13, 14, 15, 16, 17, 18, 19, 20, 21, 22, 23, 24] [25, 26, 27] mixed (by kernel_rfl) rfl (St.drew hBW hO) ?_
              simp only [List.filterMap_cons, List.filterMap_nil, List.getElem?_toArray, List.getElem?_cons_succ, List.getElem?_cons_zero]
              repeat (first
                | (refine held_val ?_ rfl (fun w1 hS => ?_) ?_
                   rotate_left
                   · (have c7 := hS.2.1.cellOf (X5 + 1) 0; have c8 := hS.2.1.cellOf (X5 + 1 + 1) 0; have c0 := hS.2.1.cellOf X0 0; have c2 := (hS.2.1.cellOf X5 2).trans k2
                      go_simp
                      try go_bits
                      rfl)
                   simp only [Act.put, List.setIfInBounds_toArray, List.set_cons_zero, List.set_cons_succ])
                | (refine held_off rfl ?_
                   simp only [Act.put, List.setIfInBounds_toArray, List.set_cons_zero, List.set_cons_succ]))
              refine held_val (.agg PA) rfl (fun w1 hS => exec_load_row rfl X5 rfl 27 PA (0, 0) _ (hS.2.1.blockOf X5) Tryd.underlying27 rfl hinf2) ?_
              simp only [Act.put, List.setIfInBounds_toArray, List.set_cons_zero, List.set_cons_succ]
              refine held_call 24 #[.agg PA] (.int .i64 (N : Int)) rfl (fun w1 hS => by go_simp) (fun w1 hS => (SG.out w1).mono ?_) ?_
              · rintro e w2 ⟨rfl, b2⟩
                exact ⟨rfl, hS.grown b2⟩
              simp only [Act.put, List.setIfInBounds_toArray, List.set_cons_zero, List.set_cons_succ]
              repeat (first
                | (refine held_val ?_ rfl (fun w1 hS => ?_) ?_
                   rotate_left
                   · (have c7 := hS.2.1.cellOf (X5 + 1) 0; have c8 := hS.2.1.cellOf (X5 + 1 + 1) 0; have c0 := hS.2.1.cellOf X0 0; have c2 := (hS.2.1.cellOf X5 2).trans k2
                      go_simp
                      try go_bits
                      rfl)
                   simp only [Act.put, List.setIfInBounds_toArray, List.set_cons_zero, List.set_cons_succ])
                | (refine held_off rfl ?_
                   simp only [Act.put, List.setIfInBounds_toArray, List.set_cons_zero, List.set_cons_succ]))
              refine held_nil (fun w9 hS => ?_)
              obtain ⟨B9, o9, b9⟩ := hS
              have hb9 := hb.trans b9
              clear hO hb b9
              go_wp2_with fail
              refine (Aw.out _ (Hh.out _ hb9)).mono ?_
              rintro e wa ⟨rfl, ba⟩
              have oa := (o9.grown B9 ba).foc (Bk (X0 + 1) 4 #[.bool false])
              have Ba := Nat.le_trans B9 ba.size
              have hba := hb9.trans (ba.mono B9)
              have ka := oa.cell 0
              have za := oa.unfrozen 0
              have sa := oa.set Ba 0 (.bool true)
              have ta := oa.below_set 0 (.bool true)
              have Bs : X0 ≤ (wa.setCell ⟨X0 + 1, 0, none⟩ (.bool true)).heap.size := by simpa [World.setCell] using Ba
              have Fin := Lib.hid (And.intro Bs (And.intro sa (hba.trans ta)))
              clear o9 hb9 ba oa hba sa ta Bs
              go_wp2
              refine ret_hp Fin.out.1 rfl (Fin.out.2.1.foc (Dk D)) (fun W' o => results_cell_bool rfl _ _ (X0 + 1) 0 _ rfl (o.cellOf (X0 + 1) 0)) (fun W' o b => ⟨rfl, by rw [hX0]; exact Fin.out.2.2.trans b⟩)
          case stop =>
            intro D cd pre W hSp hBW hbW hO
            exact hO.fact_out.elim
    · have hz' : (whyE (ents (l.map (·.1))) == 0) = false := by simpa using hz
      rw [hz'] at R1
      clear h hr hf f3 hw
      by_cases hc1 : ch < 1
      · refine (callsIn_wide (n := 5)).1 (callsIn_of_wp_marks Tryd.func7 rfl trivial (wpIn_wide.2 ?_) rfl)
        simp only [Tryd.ntmps7, List.size_toArray, List.length_cons, List.length_nil, Nat.reduceAdd, Nat.reduceSub, Array.replicate_succ, Array.replicate_zero, List.push_toArray, List.append_toArray, List.nil_append, List.cons_append]
        go_wp2_with fail
        refine (Fe.out).mono ?_
        rintro e wz ⟨rfl, rfl⟩
        go_wp2_with fail
        refine (Aw.out _ (Hh.out _ hb)).mono ?_
        rintro e w1 ⟨rfl, b⟩
        have o1 := (o0).grown hb.size b
        have hb1 := hb.trans (b.mono hb.size)
        have k1 := o1.cell 0
        have z1 := o1.unfrozen 0
        have o2 := o1.set hb1.size 0 (.bool true)
        have b2 := o1.below_set 0 (.bool true)
        clear hb b
        go_wp2
        exact ⟨_, results_cell_bool rfl _ _ (w.heap.size + 1) 0 _ rfl (o2.cell 0), rfl, hb1.trans b2⟩
      · by_cases hc2 : 65536 < ch
        · refine (callsIn_wide (n := 5)).1 (callsIn_of_wp_marks Tryd.func7 rfl trivial (wpIn_wide.2 ?_) rfl)
          simp only [Tryd.ntmps7, List.size_toArray, List.length_cons, List.length_nil, Nat.reduceAdd, Nat.reduceSub, Array.replicate_succ, Array.replicate_zero, List.push_toArray, List.append_toArray, List.nil_append, List.cons_append]
          go_wp2_with fail
          refine (Fe.out).mono ?_
          rintro e wz ⟨rfl, rfl⟩
          go_wp2_with fail
          refine (Aw.out _ (Hh.out _ hb)).mono ?_
          rintro e w1 ⟨rfl, b⟩
          have o1 := (o0).grown hb.size b
          have hb1 := hb.trans (b.mono hb.size)
          have k1 := o1.cell 0
          have z1 := o1.unfrozen 0
          have o2 := o1.set hb1.size 0 (.bool true)
          have b2 := o1.below_set 0 (.bool true)
          clear hb b
          go_wp2
          exact ⟨_, results_cell_bool rfl _ _ (w.heap.size + 1) 0 _ rfl (o2.cell 0), rfl, hb1.trans b2⟩
        · have k0 : ((w.alloc (.cells #[.int .i64 ch] 3)).alloc (.cells #[.bool false] 4)).cell? ⟨w.heap.size, 0, none⟩ = some (.int .i64 ch) := o0.cellOf w.heap.size 0
          refine (callsIn_wide (n := 5)).1 (callsIn_of_wp_marks Tryd.func7 rfl trivial (wpIn_wide.2 ?_) rfl)
          simp only [Tryd.ntmps7, List.size_toArray, List.length_cons, List.length_nil, Nat.reduceAdd, Nat.reduceSub, Array.replicate_succ, Array.replicate_zero, List.push_toArray, List.append_toArray, List.nil_append, List.cons_append]
          go_wp2_with fail
          refine (Fe.out).mono ?_
          rintro e wz ⟨rfl, rfl⟩
          go_wp2_with fail
          refine (R1.out _ (Hh.out _ hb) (Hr.out _ hb)).mono ?_
          rintro e w1 ⟨rfl, b⟩
          have o0' := o0.grown hb.size b
          replace hb := hb.trans (b.mono hb.size)
          clear b o0
          go_wp2_with fail
          refine (Aw.out _ (Hh.out _ hb)).mono ?_
          rintro e w1 ⟨rfl, b⟩
          have o1 := (o0').grown hb.size b
          have hb1 := hb.trans (b.mono hb.size)
          have k1 := o1.cell 0
          have z1 := o1.unfrozen 0
          have o2 := o1.set hb1.size 0 (.bool true)
          have b2 := o1.below_set 0 (.bool true)
          clear hb b
          go_wp2
          exact ⟨_, results_cell_bool rfl _ _ (w.heap.size + 1) 0 _ rfl (o2.cell 0), rfl, hb1.trans b2⟩
  · rw [decide_eq_false hf] at Fe
    clear h hr hf hw
    refine (callsIn_wide (n := 5)).1 (callsIn_of_wp_marks Tryd.func7 rfl trivial (wpIn_wide.2 ?_) rfl)
    simp only [Tryd.ntmps7, List.size_toArray, List.length_cons, List.length_nil, Nat.reduceAdd, Nat.reduceSub, Array.replicate_succ, Array.replicate_zero, List.push_toArray, List.append_toArray, List.nil_append, List.cons_append]
    go_wp2_with fail
    refine (Fe.out).mono ?_
    rintro e wz ⟨rfl, rfl⟩
    go_wp2_with fail
    refine (Aw.out _ (Hh.out _ hb)).mono ?_
    rintro e w1 ⟨rfl, b⟩
    have o1 := (o0).grown hb.size b
    have hb1 := hb.trans (b.mono hb.size)
    have k1 := o1.cell 0
    have z1 := o1.unfrozen 0
    have o2 := o1.set hb1.size 0 (.bool true)
    have b2 := o1.below_set 0 (.bool true)
    clear hb b
    go_wp2
    exact ⟨_, results_cell_bool rfl _ _ (w.heap.size + 1) 0 _ rfl (o2.cell 0), rfl, hb1.trans b2⟩
end Go.Proofs.YtmppagiaonbggaaDoor

/- A loop in which ranges over functions stand: the marks that they leave are struck at the end, all. -/
namespace Go.Proofs.YtmppagiaonbggaaDoor
set_option linter.unusedVariables false
set_option linter.unusedSimpArgs false
set_option maxRecDepth 100000
open Go.RowKit

theorem len_cons {l : List Value} {n : Nat} (h : l.length = n + 1) : ∃ a l', l = a :: l' ∧ l'.length = n := by
  cases l with
  | nil => simp at h
  | cons a l => exact ⟨a, l, rfl, by simpa using h⟩
def setAll : List Nat → List Value → Array Value → Array Value
  | i :: is, v :: vs, T => setAll is vs (T.setIfInBounds i v)
  | _, _, T => T
theorem setAll_self : ∀ (is : List Nat) (T : Array Value), setAll is (is.map fun i => T.getD i undef) T = T
  | [], _ => rfl
  | i :: is, T => by
    have h : T.setIfInBounds i (T.getD i undef) = T := by
      by_cases h : i < T.size
      · simp [Array.setIfInBounds, h]
      · simp [Array.setIfInBounds, h]
    rw [List.map_cons, setAll, h, setAll_self is T]
/-- The marks. -/
def colls (ds : List Nat) : List Deferred := ds.map fun D => { target := .collected D, args := #[] }
def DkL : List Nat → HP
  | [] => Emp
  | D :: ds => Dk D * DkL ds
instance Loc.dkl {B : Nat} : ∀ {ds : List Nat}, Loc B (DkL ds)
  | [] => Loc.emp
  | _ :: ds => @Loc.sep _ _ _ Loc.dk (Loc.dkl (ds := ds))

/-- THE RULE: live, the slots that the loop goes on by · junk, what else it writes. -/
theorem wp_loop_d {P : Program} {Q : Exit → Act → World → Prop} {c : Code} {T : Array Value} {w : World} {ds0 : List Nat} (live junk : List Nat) (I : List Value → List Nat → World → Prop) (μ : List Value → Nat)
    (h0 : I (live.map fun i => T.getD i undef) ds0 w)
    (round : ∀ vs js ds w, vs.length = live.length → js.length = junk.length → I vs ds w →
      c.wp P (Exit.then (fun a' w' => ∃ vs' js' ds', vs'.length = live.length ∧ js'.length = junk.length ∧ a' = { tmps := setAll junk js' (setAll live vs' T), defers := colls ds' } ∧ I vs' ds' w' ∧ μ vs' < μ vs) Q) { tmps := setAll junk js (setAll live vs T), defers := colls ds } w) :
    (Code.loop c).wp P Q { tmps := T, defers := colls ds0 } w := by
  have key : ∀ n, ∀ vs js ds w, μ vs < n → vs.length = live.length → js.length = junk.length → I vs ds w →
      Code.rounds P c Q n { tmps := setAll junk js (setAll live vs T), defers := colls ds } w := by
    intro n
    induction n with
    | zero => intro vs js ds w h; omega
    | succ n ih =>
      intro vs js ds w hn hl hj hI
      refine wp_mono (round vs js ds w hl hj hI) ?_
      intro e a' w' hq
      cases e with
      | normal =>
        obtain ⟨vs', js', ds', hl', hj', rfl, hI', hlt⟩ := hq
        exact ih vs' js' ds' w' (by omega) hl' hj' hI'
      | _ => exact hq
  have := wp_loop_rounds _ (key (μ (live.map fun i => T.getD i undef) + 1) _ (junk.map fun i => (setAll live (live.map fun i => T.getD i undef) T).getD i undef) ds0 w (by omega) (by simp) (by simp) h0)
  rwa [setAll_self, setAll_self] at this

/-- The end of a body that has marks: all are struck. -/
theorem ret_hps {n B : Nat} {P : Program} {fn : Func} {R : Ending → World → Prop} {A : HP} [Loc B A] {v : Value} {tmps : Array Value} : ∀ (ds : List Nat) {W : World}, B ≤ W.heap.size → Own B (DkL ds * A) W →
    (∀ W', Own B A W' → (results fn tmps).run P W' = .ok v W') → (∀ W', Own B A W' → Below B W W' → R (.returned v) W') → bodyPostM Fence.wide n P fn R .ret { tmps := tmps, defers := colls ds } W
  | [], W, hB, hO, hres, hR => ⟨_, hres _ hO.right, hR _ hO.right (Below.refl B W)⟩
  | D :: ds, W, hB, hO, hres, hR => by
    have hO : Own B (Dk D * (DkL ds * A)) W := hO.assoc
    have hK : W.heap[D]? = some (.deferred (some [])) := by
      obtain ⟨F, hf, F1, F2, hd, h1, h2, hc, hs⟩ := hO
      exact hc.2
    have hBD : B ≤ D := by
      obtain ⟨F, hf, F1, F2, hd, h1, h2, hc, hs⟩ := hO
      exact (hf D (h1 D hc.1)).1
    have hg := grownBy_putObj' W D (.deferred none)
    have hO' : Own B (DkL ds * A) (W.putObj D (.deferred none)) := (Own.turn (A' := Emp) hB hO hg.size (fun F hF ⟨hFD, _⟩ => ⟨fun _ => False, fun _ h => h.elim, trivial, fun k hk hn => hg.block k hk (fun e => hn (by injection e with e; exact e ▸ hFD))⟩)).right
    have hb : Below B W (W.putObj D (.deferred none)) := (Below.refl B W).grown hg hB (fun k e => by cases e; exact hBD)
    have := ret_hps (n := n) (P := P) (fn := fn) (R := R) (tmps := tmps) ds (Nat.le_trans hB hb.size) hO' hres (fun W' o b => hR W' o (hb.trans b))
    exact ⟨by simp, .inl ⟨_, _, rfl, run_takeDeferred hK, this⟩⟩
end Go.Proofs.YtmppagiaonbggaaDoor

/- Segments, joined, are the stream; rows of segments; appending within a round. -/
namespace Go.Proofs.YtmppagiaonbggaaDoor
set_option linter.unusedVariables false
set_option linter.unusedSimpArgs false
set_option maxRecDepth 100000
open Go.RowKit

theorem wpListIn_append_at {F : Fence} {n : Nat} {P : Program} {ops : Array Oper} {Q : Exit → Act → World → Prop} {rest : List Oper} {o : Oper} {a : Act} {w w' : World} (hgd : o.guard = none) (s x : Operand) (t : TypeId) {v u v' : Value}
    (ho : o.op = .call { callee := .builtin .append, args := #[s, x], argTypes := #[t, t] }) (hs : a.eval s = v) (hx : a.eval x = u) (hr : (Builtin.append_ #[t, t] o.type #[v, u]).run P w = .ok v' w')
    (h : wpListIn F n P ops Q rest (a.put o.dst v') w') : wpListIn F n P ops Q (o :: rest) a w := by
  refine wpListIn_plain hgd fun K hK => ?_
  unfold Oper.wpIn
  refine ⟨by simp [Oper.about, ho, resolve, Target.leads], ?_⟩
  rw [Oper.semAt_plain F _ _ (by rw [ho]; intro c hc'; cases hc')]
  unfold execOp
  simp only [ho, resolve, invoke, builtin, Sem.run_bind, Sem.run_pure, Result.andThen_ok, List.map_toArray, List.map_cons, List.map_nil, hs, hx, hr]
  exact hK _ _ h

theorem join_to {b : List UInt8} {p : Pn} (ht : p.tot = (b.length : Int)) : ∀ m : Nat, m ≤ nsegP b p → ∃ t : Nat, min ((m : Int) * p.ch) (b.length : Int) = (t : Int) ∧ (List.range m).flatMap (fun k : Nat => chunkP b p (k : Int)) = b.take t
  | 0, _ => ⟨0, by omega, rfl⟩
  | m + 1, h => by
    obtain ⟨t, h1, h2⟩ := join_to ht m (by omega)
    obtain ⟨i, m', j, hi, hm, hj, hij, hjb, hc, _⟩ := seg_facts ht m (by omega)
    obtain ⟨i', j', hi', hl, hij', _, hj', hmin, _, hmin0⟩ := seg_len ht m (by omega)
    have e1 : i' = i := by omega
    have e2 : t = i := by omega
    have e3 : j' = j := by
      have : (chunkP b p m).length = j - i := by rw [hc]; exact (bytesU_cut b i j hjb (by omega)).2
      omega
    subst e1 e2 e3
    refine ⟨j', hmin, ?_⟩
    rw [List.range_succ, List.flatMap_append, h2]
    simp only [List.flatMap_cons, List.flatMap_nil, List.append_nil]
    rw [hc]
    unfold cutP
    rw [show j' = t + (j' - t) by omega, List.take_add]
    simp
theorem nseg_le {b : List UInt8} {p : Pn} (ht : p.tot = (b.length : Int)) : nsegP b p ≤ b.length := by
  by_cases h : nsegP b p = 0
  · omega
  · obtain ⟨i, m, j, hi, hm, hj, hij, hjb, hc, _, _, _, _, hp, _⟩ := seg_facts ht (nsegP b p - 1) (by omega)
    have h1 : ((nsegP b p - 1 : Nat) : Int) * 1 ≤ ((nsegP b p - 1 : Nat) : Int) * p.ch := Int.mul_le_mul_of_nonneg_left hp (by omega)
    omega
theorem join_segs {b : List UInt8} {p : Pn} (hm : p.mayB = true) (ht : p.tot = (b.length : Int)) : (List.range (nsegP b p)).flatMap (fun k : Nat => chunkP b p (k : Int)) = b := by
  obtain ⟨t, h1, h2⟩ := join_to ht (nsegP b p) (Nat.le_refl _)
  obtain ⟨e1, _, e3, _⟩ := seg_end hm ht
  rw [e3, e1, ht] at h1
  rw [h2, List.take_of_length_le (by omega)]

def segV (f : Nat → List UInt8) (x : Sg) : Value := .slice x.A (f x.k).length x.c
def SegL (f : Nat → List UInt8) : List Sg → HP
  | [] => Emp
  | x :: xs => sgGiv f x * SegL f xs
instance Loc.segL {B : Nat} {f : Nat → List UInt8} : ∀ {xs : List Sg}, Loc B (SegL f xs)
  | [] => Loc.emp
  | _ :: xs => @Loc.sep _ _ _ inferInstance (Loc.segL (xs := xs))
theorem Own.segL_snoc {B : Nat} {f : Nat → List UInt8} {w : World} {x : Sg} : ∀ {xs : List Sg} {R : HP}, Own B (SegL f xs * (sgGiv f x * R)) w → Own B (SegL f (xs ++ [x]) * R) w
  | [], R, h => h.cast (by show Emp * (sgGiv f x * R) = (sgGiv f x * Emp) * R; ac_rfl)
  | y :: xs, R, h => by
    have h1 : Own B (SegL f xs * (sgGiv f x * (sgGiv f y * R))) w := h.cast (by show (sgGiv f y * SegL f xs) * (sgGiv f x * R) = _; ac_rfl)
    exact (Own.segL_snoc h1).cast (by show _ = (sgGiv f y * SegL f (xs ++ [x])) * R; ac_rfl)
theorem Own.segL_rd {B : Nat} {f : Nat → List UInt8} {w : World} : ∀ {xs : List Sg} {R : HP}, Own B (SegL f xs * R) w → ∀ x ∈ xs, Rd w (segV f x) (bytesU (f x.k))
  | y :: xs, R, h, x, hx => by
    have h0 : Own B (sgGiv f y * (SegL f xs * R)) w := h.cast (by show (sgGiv f y * SegL f xs) * R = _; ac_rfl)
    rcases List.mem_cons.1 hx with rfl | hx
    · exact h0.rd
    · exact Own.segL_rd (h0.cast (show _ = SegL f xs * (sgGiv f y * R) by ac_rfl)) x hx
end Go.Proofs.YtmppagiaonbggaaDoor

/- The walk over SourceJoins. -/
namespace Go.Proofs.YtmppagiaonbggaaDoor
set_option linter.unusedVariables false
set_option linter.unusedSimpArgs false
set_option maxRecDepth 100000
open Go.RowKit Go.Shelf

attribute [local go_sem] Oper.semAt_some

theorem index2 (W : World) (a b : Int) (t : Nat) (ht : t = 0 ∨ t = 1) :
    (Instr.index 55 (.agg #[.int .i64 a, .int .i64 b]) (.int .i64 (t : Int))).run Tryd.prog W = .ok (.int .i64 ([a, b].getD t 0)) W := by
  have h1 : (Tryd.prog.info? 3).map (fun i => i.size) = some 1 := by kernel_rfl
  obtain ⟨i0, hi, hs⟩ := Option.map_eq_some_iff.1 h1
  have h2 := Tryd.underlying3
  rcases ht with rfl | rfl <;> simp [Instr.index, asIntOf, run_underlying Tryd.underlying55, part, sizeOf, typeInfo, hi, hs, run_underlying h2, go_sem]
theorem infoSlB : (Tryd.prog.info? 32).map (fun i => (i.zero, i.size, i.bytes)) = some (some (.slice none 0 0), 1, 24) := infoSl

set_option maxRecDepth 100000 in
set_option maxHeartbeats 6400000 in
theorem joins_walk (A : Option Addr) (c : Nat) (l : List (Fi × Value)) (hl : l.length ≤ 9223372036854775807) (hw : ∀ x ∈ l, x.1.wide) (ca cb : Int) (hca : okI ca) (hcb : okI cb) (w : World) (h : Sh w) (hr : RdF w A l) :
    Calls Tryd.prog 8 #[.slice A l.length c, .int .i64 ca, .int .i64 cb] w fun e w' => e = .returned (.bool true) ∧ Below w.heap.size w w' := by
  have hb := Below.refl w.heap.size w
  have Hh := Lib.hid (fun w1 (b : Below w.heap.size w w1) => sh_below h b)
  have Aw := Lib.hid (fun w1 h1 => awakeS_any w1 h1)
  have Hr := Lib.hid (fun w1 (b : Below w.heap.size w w1) => hr.below b)
  have Fe := Lib.hid (few_any A c l hl hw _ hr)
  by_cases hf : fewP (l.map (·.1))
  · rw [decide_eq_true hf] at Fe
    obtain ⟨f1, f2, f3⟩ := few_ok hw hf
    have R1 := Lib.hid (fun w1 h1 hr => rightE_any A c l (by omega) (by omega) f3 w1 h1 hr)
    by_cases hz : whyE (ents (l.map (·.1))) = 0
    · rw [hz] at R1
      have P := Lib.hid (fun ch hch w1 h1 h2 => plan_any A c l (by omega) (by omega) f3 ch 1 hch ⟨by decide, by decide⟩ w1 h1 h2)
      have hst : streamP (l.map (·.1)) = dataL (l.map (·.1)) := if_pos hz
      have S1 := Lib.hid (fun w1 h1 hr => stream_any A c l (by omega) (by omega) f3 w1 h1 hr)
      rw [hst] at S1
      have hdl := dataL_length (l.map (·.1))
      have CI := Lib.hid (fun p pok b0 b1 B R' kR' w hF => chunks_it A c l (by omega) (by omega) f3 p pok b0 b1 B R' kR' w hF)
      rw [hst] at CI
      have Hpl : Hid (∀ ch p z, planP (l.map (·.1)) ch 1 p z → p.dg.length = 32 ∧ ((okCW ch 1 ∧ p = ⟨ch, 1, ((dataL (l.map (·.1))).length : Int), p.dg⟩ ∧ z = 0) ∨ (¬ okCW ch 1 ∧ z = 1))) := Lib.hid (fun ch p z hp => by
        obtain ⟨h1, _, h3, h4⟩ := hp
        refine ⟨h1, ?_⟩
        by_cases hok : okCW ch 1
        · left
          obtain ⟨a, b, c, d⟩ := h4 hz hok
          obtain ⟨ch', wi, tot, dg⟩ := p
          simp only at a b c d h1 ⊢
          subst a b c d
          rw [hdl]
          exact ⟨hok, rfl, rfl⟩
        · right
          exact ⟨hok, (h3 hz hok).2⟩)
      have hdle := dataL_le hz
      have hd24 : (dataL (l.map (·.1))).length ≤ 2400 := by rw [dataL_length]; exact f2
      clear h hr hf f3 hw hst hdl hz
      generalize dataL (l.map (·.1)) = dt at *
      refine (callsIn_wide (n := 5)).1 (callsIn_of_wp_marks Tryd.func8 rfl trivial (wpIn_wide.2 ?_) rfl)
      simp only [Tryd.ntmps8, List.size_toArray, List.length_cons, List.length_nil, Nat.reduceAdd, Nat.reduceSub, Array.replicate_succ, Array.replicate_zero, List.push_toArray, List.append_toArray, List.nil_append, List.cons_append]
      go_wp2_with fail
      refine (Fe.out).mono ?_
      rintro e wz ⟨rfl, rfl⟩
      go_wp2_with fail
      refine (R1.out _ (Hh.out _ hb) (Hr.out _ hb)).mono ?_
      rintro e wz ⟨rfl, b⟩
      replace hb := hb.trans (b.mono hb.size)
      clear b
      go_wp2_with fail
      refine (S1.out _ (Hh.out _ hb) (Hr.out _ hb)).mono ?_
      rintro e w1 ⟨v1, rfl, h1, b1⟩
      have o1 := Own.fresh hb.size (Own.start w.heap.size _) h1 b1
      obtain ⟨A1, c1, rfl⟩ := o1.row_n
      have s1 := str_of_rd o1.rd
      replace hb := hb.trans (b1.mono hb.size)
      clear o1 h1 b1 S1
      go_wp2
      clear s1
      generalize hX0 : w.heap.size = X0 at *
      refine wp_loop_d (ds0 := []) [30] [9, 10, 11, 12, 14, 31, 32, 33, 34, 35, 36, 37, 38, 39, 40, 41, 42, 43, 44, 45, 46, 47, 48, 49, 50, 51, 52, 53, 54, 55] (fun vs ds W => ∃ i : Nat, i ≤ 2 ∧ vs = [.int .i64 (i : Int)] ∧ Below X0 w W ∧ Own X0 (DkL ds * Emp) W) (fun vs => match vs with | [v] => 2 - (intOf v).toNat | _ => 0) ⟨0, by omega, rfl, hb, (Own.start X0 _).emp⟩ ?_
      intro vs js ds W hlv hj hI
      obtain ⟨i, hi2, rfl, hbW, hO⟩ := hI
      obtain ⟨j1, js1, ejs1, hj1⟩ := len_cons hj
      obtain ⟨j2, js2, ejs2, hj2⟩ := len_cons hj1
      obtain ⟨j3, js3, ejs3, hj3⟩ := len_cons hj2
      obtain ⟨j4, js4, ejs4, hj4⟩ := len_cons hj3
      obtain ⟨j5, js5, ejs5, hj5⟩ := len_cons hj4
      obtain ⟨j6, js6, ejs6, hj6⟩ := len_cons hj5
      obtain ⟨j7, js7, ejs7, hj7⟩ := len_cons hj6
      obtain ⟨j8, js8, ejs8, hj8⟩ := len_cons hj7
      obtain ⟨j9, js9, ejs9, hj9⟩ := len_cons hj8
      obtain ⟨j10, js10, ejs10, hj10⟩ := len_cons hj9
      obtain ⟨j11, js11, ejs11, hj11⟩ := len_cons hj10
      obtain ⟨j12, js12, ejs12, hj12⟩ := len_cons hj11
      obtain ⟨j13, js13, ejs13, hj13⟩ := len_cons hj12
      obtain ⟨j14, js14, ejs14, hj14⟩ := len_cons hj13
      obtain ⟨j15, js15, ejs15, hj15⟩ := len_cons hj14
      obtain ⟨j16, js16, ejs16, hj16⟩ := len_cons hj15
      obtain ⟨j17, js17, ejs17, hj17⟩ := len_cons hj16
      obtain ⟨j18, js18, ejs18, hj18⟩ := len_cons hj17
      obtain ⟨j19, js19, ejs19, hj19⟩ := len_cons hj18
      obtain ⟨j20, js20, ejs20, hj20⟩ := len_cons hj19
      obtain ⟨j21, js21, ejs21, hj21⟩ := len_cons hj20
      obtain ⟨j22, js22, ejs22, hj22⟩ := len_cons hj21
      obtain ⟨j23, js23, ejs23, hj23⟩ := len_cons hj22
      obtain ⟨j24, js24, ejs24, hj24⟩ := len_cons hj23
      obtain ⟨j25, js25, ejs25, hj25⟩ := len_cons hj24
      obtain ⟨j26, js26, ejs26, hj26⟩ := len_cons hj25
      obtain ⟨j27, js27, ejs27, hj27⟩ := len_cons hj26
      obtain ⟨j28, js28, ejs28, hj28⟩ := len_cons hj27
      obtain ⟨j29, js29, ejs29, hj29⟩ := len_cons hj28
      obtain ⟨j30, js30, ejs30, hj30⟩ := len_cons hj29
      have ejs31 := List.eq_nil_of_length_eq_zero hj30
      rw [ejs1, ejs2, ejs3, ejs4, ejs5, ejs6, ejs7, ejs8, ejs9, ejs10, ejs11, ejs12, ejs13, ejs14, ejs15, ejs16, ejs17, ejs18, ejs19, ejs20, ejs21, ejs22, ejs23, ejs24, ejs25, ejs26, ejs27, ejs28, ejs29, ejs30, ejs31]
      clear hj hj1 ejs1 hj2 ejs2 hj3 ejs3 hj4 ejs4 hj5 ejs5 hj6 ejs6 hj7 ejs7 hj8 ejs8 hj9 ejs9 hj10 ejs10 hj11 ejs11 hj12 ejs12 hj13 ejs13 hj14 ejs14 hj15 ejs15 hj16 ejs16 hj17 ejs17 hj18 ejs18 hj19 ejs19 hj20 ejs20 hj21 ejs21 hj22 ejs22 hj23 ejs23 hj24 ejs24 hj25 ejs25 hj26 ejs26 hj27 ejs27 hj28 ejs28 hj29 ejs29 hj30 ejs30 ejs31 js js1 js2 js3 js4 js5 js6 js7 js8 js9 js10 js11 js12 js13 js14 js15 js16 js17 js18 js19 js20 js21 js22 js23 js24 js25 js26 js27 js28 js29 js30
      simp only [setAll, List.setIfInBounds_toArray, List.set_cons_zero, List.set_cons_succ]
      have i0 : (0 : Int) ≤ (i : Int) := by omega
      by_cases hlt : (i : Int) < 2
      · have hix := fun W => index2 W ca cb i (by omega)
        obtain ⟨ch, hch, hchk⟩ : ∃ ch, ch = [ca, cb].getD i 0 ∧ okI ch := ⟨_, rfl, by rcases (show i = 0 ∨ i = 1 by omega) with rfl | rfl <;> assumption⟩
        rw [← hch] at hix
        clear hch
        go_wp2_with fail
        refine (P.out ch hchk _ (Hh.out _ hbW) (Hr.out _ hbW)).mono ?_
        rintro e w2 ⟨p, z, hp, rfl, b⟩
        obtain ⟨hp3, hp⟩ := Hpl.out ch p z hp
        have hB : X0 ≤ W.heap.size := by rw [← hX0]; exact hbW.size
        have o2 := hO.grown hB b
        have hb2 := hbW.trans (b.mono hB)
        have B2 := Nat.le_trans hB b.size
        clear hbW hO b
        have o3 := o2.new B2 27 z35
        have hb3 := hb2.alloc B2 (.cells z35 27)
        have hps := pnL_size hp3
        have Hpo := Lib.hid (pnL_one p)
        have hinf2 : (Tryd.prog.info? 27).map (·.size) = some (pnL p).toArray.size := by rw [hps]; exact infoPlan
        have Hz : Hid (z35.size = (pnL p).toArray.size) := Lib.hid (by rw [hps]; rfl)
        have Hh3 := Lib.hid o3.bk.1
        obtain ⟨PA, hPA⟩ : ∃ PA, PA = (pnL p).toArray := ⟨_, rfl⟩
        rw [← hPA] at hinf2 Hz Hpo ⊢
        obtain ⟨B4, o4, b4⟩ := o3.setRow (by simp; omega) PA
        have hb4 := hb3.trans b4
        have hz4 : ((w2.alloc (.cells z35 27)).setRow w2.heap.size PA).heap.size = w2.heap.size + 1 := by simp [World.setRow]
        unfold z35 at o4 hb4 hz4 B4
        clear o2 o3 b4 hb2 hb3 B2 hps
        rcases hp with ⟨hok, hp1, rfl⟩ | ⟨hok, rfl⟩
        · have pok : Pn.ok p := by
            rw [hp1]
            exact ⟨hchk, ⟨by simp only; decide, by simp only; decide⟩, ⟨by simp only; omega, by simp only; omega⟩, hp3⟩
          have ptot : p.tot = (dt.length : Int) := by rw [hp1]
          have pmay : p.mayB = true := by
            rw [hp1]
            obtain ⟨q1, q2, _, _⟩ := hok
            unfold Pn.mayB
            simp only [Bool.and_eq_true, decide_eq_true_eq]
            omega
          have JS := Lib.hid (join_segs pmay ptot)
          have SE := Lib.hid (nseg_le ptot)
          have CIp := Lib.hid (fun b0 b1 B R' kR' w hF => CI.out p pok b0 b1 B R' kR' w hF)
          have CHS := Lib.hid (fun w => chunks_any A l.length c p w)
          obtain ⟨f, hf⟩ : ∃ f : Nat → List UInt8, f = fun k : Nat => chunkP dt p k := ⟨_, rfl⟩
          have JSf : Hid ((List.range (nsegP dt p)).flatMap f = dt) := Lib.hid (by rw [hf]; exact JS.out)
          rw [← hf, ← hPA] at CIp
          rw [← hPA] at CHS
          have SE2 : Hid (nsegP dt p ≤ 2400) := Lib.hid (by have := SE.out; omega)
          clear JS hf pmay ptot pok hp1 hp hok CI Hpl hPA SE
          generalize nsegP dt p = N at *
          have o5 := o4.new B4 47 #[.slice none 0 0]
          have hb5 := hb4.alloc B4 (.cells #[.slice none 0 0] 47)
          simp only [hz4] at o5
          have B5 := hb5.size
          rw [hX0] at B5
          have Hh5 := Lib.hid (o5.blockOf w2.heap.size)
          clear o4 hb4 B4
          go_wp2_with first
            | (refine wpList_plain rfl fun _ hK => wp_store_row 27 (.tmp 10) (.tmp 37) rfl w2.heap.size PA rfl rfl 27 _ Hh3.out hinf2 Hz.out Hpo.out (hK _ _ ?_))
            | (refine wpList_load_row_g rfl 27 (.tmp 10) rfl w2.heap.size rfl 27 PA (0, 0) _ Hh5.out Tryd.underlying27 rfl hinf2 ?_)
          refine (CHS.out _).mono ?_
          rintro e w6 ⟨rfl, hw6⟩
          simp only [World.size_alloc9, hz4] at hw6 ⊢
          have o6 := (o5.new B5 22 #[.slice A l.length c]).new (by simp at B5 ⊢; omega) 27 PA
          have hb6 := (hb5.alloc B5 (.cells #[.slice A l.length c] 22)).alloc (by simp at B5 ⊢; omega) (.cells PA 27)
          simp only [World.size_alloc9, hz4] at o6
          rw [← hw6] at o6 hb6
          clear hw6 o5 hb5 Hh3 Hh5 hz4 CHS B5 Hpo Hz
          generalize w2.heap.size = X5 at *
          obtain ⟨Y0, hY0⟩ : ∃ Y0, Y0 = X5 + 1 + 1 := ⟨_, rfl⟩
          rw [← hY0] at o6 ⊢
          have B6 := hb6.size
          rw [hX0] at B6
          have Hb6 := Lib.hid hb6
          have hO6 : Own X0 ((Bk (X5 + 1) 47 #[.slice none 0 0] * (Rw 32 1 (.slice none 0 0) 0 [] * SegL f [])) * ((Bk Y0 22 #[.slice A l.length c] * Bk (Y0 + 1) 27 PA) * (DkL ds * Bk X5 27 PA))) w6 :=
            (o6.rw_nil 32 1).cast (by simp only [SegL]; ac_rfl)
          clear o6 hY0
          obtain ⟨i0', hi, hz0, hz1, hz2⟩ := info_parts infoSl
          have Hi0 := Lib.hid (And.intro hi (And.intro hz0 (And.intro hz1 hz2)))
          clear hi hz0 hz1 hz2
          go_wp2_with fail
          refine wp_rangeFunc_sep (B := X0) (lb := #[.pointer (some ⟨Y0, 0, none⟩), .pointer (some ⟨Y0 + 1, 0, none⟩)]) rfl (enters_of Tryd.func38 (by kernel_rfl) rfl) (Bk Y0 22 #[.slice A l.length c] * Bk (Y0 + 1) 27 PA) (DkL ds * Bk X5 27 PA) (fun _ => inferInstance) (fun _ => rfl)
            (fun R' kR' => CIp.out Y0 (Y0 + 1) X0 R' kR' w6 (fun W b => ⟨Hh.out _ (hb6.trans b), Hr.out _ (hb6.trans b)⟩))
            (fun pre => Hex fun A' : Option Addr => Hex fun c' : Nat => Bk (X5 + 1) 47 #[.slice A' pre.length c'] * (Rw 32 1 (.slice A' pre.length c') pre.length (pre.map (segV f)) * SegL f pre)) (fun _ _ => Fact False) B6 ?own
            (fun x t => t.setIfInBounds 14 (.slice x.A (f x.k).length x.c)) (fun x => _) (fun x => rfl) ?assign ?body ?done ?stop
          case own => exact (hO6.to_hex (A := fun c' : Nat => Bk (X5 + 1) 47 #[.slice none 0 c'] * (Rw 32 1 (.slice none 0 c') 0 [] * SegL f [])) 0).to_hex (A := fun A' : Option Addr => Hex fun c' : Nat => Bk (X5 + 1) 47 #[.slice A' 0 c'] * (Rw 32 1 (.slice A' 0 c') 0 [] * SegL f [])) none
          case assign =>
            intro l x W K hK
            simp only [sgEnc, List.zip_toArray, List.zip_cons_cons, List.zip_nil_right, List.zip_nil_left, List.foldl_toArray', List.foldl_toArray, List.foldl_cons, List.foldl_nil, List.setIfInBounds_toArray, List.set_cons_zero, List.set_cons_succ] at hK ⊢
            gi_wp2
            exact hK
          case body =>
            intro lp pre x W R' _ hBW hbW hO hN
            simp only [sgEnc, List.zip_toArray, List.zip_cons_cons, List.zip_nil_right, List.zip_nil_left, List.foldl_toArray', List.foldl_toArray, List.foldl_cons, List.foldl_nil, List.setIfInBounds_toArray, List.set_cons_zero, List.set_cons_succ] 
            obtain ⟨A', hO⟩ := hO.hex
            obtain ⟨c', hO⟩ := hO.hex
            have hlt : pre.length < N := hN.2.2
            have k12 : W.cell? ⟨X5 + 1, 0, none⟩ = some (.slice A' pre.length c') := (hO.assoc).cell 0
            have o1 : Own X0 (Rw 32 1 (.slice A' pre.length c') pre.length (pre.map (segV f)) * (Bk (X5 + 1) 47 #[.slice A' pre.length c'] * (SegL f pre * (sgGiv f x * R')))) W := hO.cast (by ac_rfl)
            obtain ⟨g2, cap2, W2, hrun, o2, b2⟩ := row_append (P := Tryd.prog) hBW Tryd.underlying47 Hi0.out.1 Hi0.out.2.1 Hi0.out.2.2.1 Hi0.out.2.2.2 rfl (by omega) o1 #[segV f x] rfl
              (by intro u hu; simp at hu; rcases hu with rfl; rfl) (by have := SE2.out; omega) (by have := SE2.out; omega)
            unfold segV at hrun
            have Hrun := Lib.hid hrun
            have B2 := Nat.le_trans hBW b2.size
            have o3 := o2.cast (sep_left_comm _ _ _)
            have k2 : W2.cell? ⟨X5 + 1, 0, none⟩ = some (.slice A' pre.length c') := o3.cell 0
            have z2 := o3.unfrozen 0
            have s2 := o3.set B2 0 (.slice (some ⟨g2, 0, none⟩) (pre.length + 1) cap2)
            have t2 := o3.below_set 0 (.slice (some ⟨g2, 0, none⟩) (pre.length + 1) cap2)
            have hfin : Own X0 ((Hex fun A' : Option Addr => Hex fun c' : Nat => Bk (X5 + 1) 47 #[.slice A' (pre ++ [x]).length c'] * (Rw 32 1 (.slice A' (pre ++ [x]).length c') (pre ++ [x]).length ((pre ++ [x]).map (segV f)) * SegL f (pre ++ [x]))) * R') (W2.setCell ⟨X5 + 1, 0, none⟩ (.slice (some ⟨g2, 0, none⟩) (pre.length + 1) cap2)) := by
              have e1 : (pre ++ [x]).length = pre.length + 1 := by simp
              have e2 : (pre ++ [x]).map (segV f) = pre.map (segV f) ++ #[segV f x].toList := by simp
              rw [e1, e2]
              have h1 := Own.segL_snoc (R := Bk (X5 + 1) 47 #[.slice (some ⟨g2, 0, none⟩) (pre.length + 1) cap2] * (Rw 32 1 (.slice (some ⟨g2, 0, none⟩) (pre.length + 1) cap2) (pre.length + 1) (pre.map (segV f) ++ #[segV f x].toList) * R')) (s2.cast (show _ = SegL f pre * (sgGiv f x * (Bk (X5 + 1) 47 #[.slice (some ⟨g2, 0, none⟩) (pre.length + 1) cap2] * (Rw 32 1 (.slice (some ⟨g2, 0, none⟩) (pre.length + 1) cap2) (pre.length + 1) (pre.map (segV f) ++ #[segV f x].toList) * R'))) by show (Bk (X5 + 1) 47 #[.slice (some ⟨g2, 0, none⟩) (pre.length + 1) cap2] * _ : HP) = _; ac_rfl))
              have h2 : Own X0 ((Bk (X5 + 1) 47 #[.slice (some ⟨g2, 0, none⟩) (pre.length + 1) cap2] * (Rw 32 1 (.slice (some ⟨g2, 0, none⟩) (pre.length + 1) cap2) (pre.length + 1) (pre.map (segV f) ++ #[segV f x].toList) * SegL f (pre ++ [x]))) * R') _ := h1.cast (by ac_rfl)
              exact (h2.to_hex (A := fun c' : Nat => Bk (X5 + 1) 47 #[.slice (some ⟨g2, 0, none⟩) (pre.length + 1) c'] * (Rw 32 1 (.slice (some ⟨g2, 0, none⟩) (pre.length + 1) c') (pre.length + 1) (pre.map (segV f) ++ #[segV f x].toList) * SegL f (pre ++ [x]))) cap2).to_hex (A := fun A' : Option Addr => Hex fun c' : Nat => Bk (X5 + 1) 47 #[.slice A' (pre.length + 1) c'] * (Rw 32 1 (.slice A' (pre.length + 1) c') (pre.length + 1) (pre.map (segV f) ++ #[segV f x].toList) * SegL f (pre ++ [x]))) (some ⟨g2, 0, none⟩)
            have Fin := Lib.hid (And.intro hfin (b2.trans t2))
            clear hrun hO o1 o2 o3 s2 t2 hfin b2 hbW CIp JSf hb6 hO6
            gi_wp2_with first
              | (refine wpListIn_append_at rfl (.tmp 46) (.tmp 48) 47 rfl rfl rfl Hrun.out ?_)
            exact Fin.out
          case done =>
            intro D xs W hS hBW hbW hO
            obtain ⟨A', hO⟩ := hO.hex
            obtain ⟨c', hO⟩ := hO.hex
            have hxl : xs.length = N := by have := congrArg List.length hS; simpa using this
            have k12 : W.cell? ⟨X5 + 1, 0, none⟩ = some (.slice A' xs.length c') := (hO.assoc).cell 0
            have hbw := Hb6.out.trans hbW
            have hpl : (xs.map fun x => (segV f x, f x.k)).length = xs.length := by simp
            have hjp : joinP (xs.map fun x => (segV f x, f x.k)) = dt := by
              unfold joinP
              rw [List.flatMap_map, ← JSf.out, ← hS, List.flatMap_map]
            have hrp : RdP W A' (xs.map fun x => (segV f x, f x.k)) := by
              refine Own.rdP (B := X0) (c := c') (e := 32) hpl.symm (R := Bk (X5 + 1) 47 #[.slice A' xs.length c'] * (SegL f xs * ((Bk Y0 22 #[.slice A l.length c] * Bk (Y0 + 1) 27 PA) * ((DkL ds * Bk X5 27 PA) * Dk D)))) ?_ ?_
              · have e : (xs.map fun x => (segV f x, f x.k)).map (·.1) = xs.map (segV f) := by simp
                rw [e]
                exact hO.cast (by ac_rfl)
              · intro y hy
                obtain ⟨x, hx, rfl⟩ := List.mem_map.1 hy
                exact Own.segL_rd (hO.cast (show _ = SegL f xs * (Bk (X5 + 1) 47 #[.slice A' xs.length c'] * (Rw 32 1 (.slice A' xs.length c') xs.length (xs.map (segV f)) * ((Bk Y0 22 #[.slice A l.length c] * Bk (Y0 + 1) 27 PA) * ((DkL ds * Bk X5 27 PA) * Dk D)))) by ac_rfl)) x hx
            have J := join_any A' c' (xs.map fun x => (segV f x, f x.k)) (by rw [hpl, hxl]; have := SE2.out; omega) (by rw [hjp]; omega) W hrp
            rw [hpl, hjp] at J
            have J := Lib.hid J
            have oD : Own X0 ((Dk D * DkL ds) * Emp) W := Own.right (A := Bk (X5 + 1) 47 #[.slice A' xs.length c'] * (Rw 32 1 (.slice A' xs.length c') xs.length (xs.map (segV f)) * (SegL f xs * ((Bk Y0 22 #[.slice A l.length c] * Bk (Y0 + 1) 27 PA) * Bk X5 27 PA)))) (hO.emp.cast (by ac_rfl))
            clear hO hrp hjp hS hxl hpl hbW CIp JSf hb6 hO6
            go_wp2_with fail
            refine J.out.mono ?_
            rintro e W3 ⟨v3, rfl, h3, b3⟩
            have o3 := Own.fresh hBW oD h3 b3
            obtain ⟨A3, c3, rfl⟩ := o3.row_n
            have s3 := str_of_rd o3.rd
            have oF := o3.drop
            have hb3 := hbw.trans (b3.mono hBW)
            clear o3 h3 b3 oD J hbw k12
            go_wp2
            refine ⟨[?_], [?_, ?_, ?_, ?_, ?_, ?_, ?_, ?_, ?_, ?_, ?_, ?_, ?_, ?_, ?_, ?_, ?_, ?_, ?_, ?_, ?_, ?_, ?_, ?_, ?_, ?_, ?_, ?_, ?_, ?_], D :: ds, rfl, rfl, ?aeq, ?rel, ?mu⟩
            case aeq =>
              simp only [setAll, List.setIfInBounds_toArray, List.set_cons_zero, List.set_cons_succ]
              rfl
            case rel => exact ⟨i + 1, by omega, rfl, hb3, oF⟩
            case mu => simp [intOf]; omega
          case stop =>
            intro D cd pre W hSp hBW hbW hO
            exact hO.fact_out.elim
        · clear CI hPA Hpl
          go_wp2_with first
            | (refine wpList_plain rfl fun _ hK => wp_store_row 27 (.tmp 10) (.tmp 37) rfl w2.heap.size PA rfl rfl 27 _ Hh3.out hinf2 Hz.out Hpo.out (hK _ _ ?_))
          refine ⟨[?_], [?_, ?_, ?_, ?_, ?_, ?_, ?_, ?_, ?_, ?_, ?_, ?_, ?_, ?_, ?_, ?_, ?_, ?_, ?_, ?_, ?_, ?_, ?_, ?_, ?_, ?_, ?_, ?_, ?_, ?_], ?_, rfl, rfl, ?aeq, ?rel, ?mu⟩
          case aeq =>
            simp only [setAll, List.setIfInBounds_toArray, List.set_cons_zero, List.set_cons_succ]
            rfl
          case rel => exact ⟨i + 1, by omega, rfl, hb4, o4.right⟩
          case mu => simp [intOf]; omega
      · obtain rfl : i = 2 := by omega
        have hb := hbW
        clear hbW
        go_wp2_with fail
        refine (Aw.out _ (Hh.out _ hb)).mono ?_
        rintro e w3 ⟨rfl, b⟩
        have hB : X0 ≤ W.heap.size := by rw [← hX0]; exact hb.size
        have o2 := hO.grown hB b
        replace hb := hb.trans (b.mono hB)
        go_wp2
        exact ret_hps ds (Nat.le_trans hB b.size) o2 (fun W' _ => results_tmp rfl _ _ _) (fun W' _ b' => ⟨rfl, by rw [hX0]; exact hb.trans b'⟩)
    · have hz' : (whyE (ents (l.map (·.1))) == 0) = false := by simpa using hz
      rw [hz'] at R1
      clear h hr hf f3 hw
      refine (callsIn_wide (n := 5)).1 (callsIn_of_wp_marks Tryd.func8 rfl trivial (wpIn_wide.2 ?_) rfl)
      simp only [Tryd.ntmps8, List.size_toArray, List.length_cons, List.length_nil, Nat.reduceAdd, Nat.reduceSub, Array.replicate_succ, Array.replicate_zero, List.push_toArray, List.append_toArray, List.nil_append, List.cons_append]
      go_wp2_with fail
      refine (Fe.out).mono ?_
      rintro e wz ⟨rfl, rfl⟩
      go_wp2_with fail
      refine (R1.out _ (Hh.out _ hb) (Hr.out _ hb)).mono ?_
      rintro e wz ⟨rfl, b⟩
      replace hb := hb.trans (b.mono hb.size)
      clear b
      go_wp2_with fail
      refine (Aw.out _ (Hh.out _ hb)).mono ?_
      rintro e wz ⟨rfl, b⟩
      replace hb := hb.trans (b.mono hb.size)
      clear b
      go_wp2
      exact ⟨_, results_tmp rfl _ _ _, rfl, hb⟩
  · rw [decide_eq_false hf] at Fe
    clear h hr hf hw
    refine (callsIn_wide (n := 5)).1 (callsIn_of_wp_marks Tryd.func8 rfl trivial (wpIn_wide.2 ?_) rfl)
    simp only [Tryd.ntmps8, List.size_toArray, List.length_cons, List.length_nil, Nat.reduceAdd, Nat.reduceSub, Array.replicate_succ, Array.replicate_zero, List.push_toArray, List.append_toArray, List.nil_append, List.cons_append]
    go_wp2_with fail
    refine (Fe.out).mono ?_
    rintro e wz ⟨rfl, rfl⟩
    go_wp2_with fail
    refine (Aw.out _ (Hh.out _ hb)).mono ?_
    rintro e wz ⟨rfl, b⟩
    replace hb := hb.trans (b.mono hb.size)
    clear b
    go_wp2
    exact ⟨_, results_tmp rfl _ _ _, rfl, hb⟩
end Go.Proofs.YtmppagiaonbggaaDoor
