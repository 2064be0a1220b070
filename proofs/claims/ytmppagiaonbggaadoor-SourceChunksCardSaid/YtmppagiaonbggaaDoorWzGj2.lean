/- The walk over SourceChunks, one of its ways. -/
import Derived.Test.YtmppagiaonbggaaDoorWj
/- The walk over SourceChunks, one of its ways. -/
namespace Go.Proofs.YtmppagiaonbggaaDoor
set_option linter.unusedVariables false
set_option linter.unusedSimpArgs false
set_option maxRecDepth 100000
open Go.RowKit Go.Shelf

attribute [local go_sem] Oper.semAt_some

set_option maxRecDepth 100000 in
set_option maxHeartbeats 16000000 in
theorem chunks_walk2 (A : Option Addr) (c : Nat) (l : List (Fi × Value)) (hl : l.length ≤ 9223372036854775807) (hw : ∀ x ∈ l, x.1.wide) (ch k : Int) (hch : okI ch) (hk : okI k) (st : Nat) (hst : st < 256) (w : World) (h : Sh w) (hr : RdF w A l) (hcase : caseOf (l.map (·.1)) ch k = 2) :
    Calls Tryd.prog 5 #[.slice A l.length c, .int .i64 ch, .int .i64 k, .int .u8 (st : Int)] w fun e w' => e = .returned (.bool true) ∧ Below w.heap.size w w' := by
  have o0 := (((Own.start w.heap.size w).new (Nat.le_refl _) 3 #[.int .i64 ch]).new (by simp) 5 #[.int .u8 (st : Int)]).new (by simp; omega) 4 #[.bool false]
  have hb := (((Below.refl w.heap.size w).alloc (Nat.le_refl _) (.cells #[.int .i64 ch] 3)).alloc (by simp) (.cells #[.int .u8 (st : Int)] 5)).alloc (by simp; omega) (.cells #[.bool false] 4)
  simp only [World.size_alloc9] at o0
  have Hh := Lib.hid (fun w1 (b : Below w.heap.size w w1) => sh_below h b)
  have Aw := Lib.hid (fun w1 h1 => awakeS_any w1 h1)
  have Hr := Lib.hid (fun w1 (b : Below w.heap.size w w1) => hr.below b)
  have Fe := Lib.hid (few_any A c l hl hw _ (Hr.out _ hb))
  by_cases hf : fewP (l.map (·.1))
  · rw [decide_eq_true hf] at Fe
    obtain ⟨f1, f2, f3⟩ := few_ok hw hf
    have R1 := Lib.hid (fun w1 h1 hr => rightE_any A c l (by omega) (by omega) f3 w1 h1 hr)
    by_cases hc1 : ch < 1
    · clear h hr hf f3 hw
      refine (callsIn_wide (n := 5)).1 (callsIn_of_wp_marks Tryd.func5 rfl trivial (wpIn_wide.2 ?_) rfl)
      simp only [Tryd.ntmps5, List.size_toArray, List.length_cons, List.length_nil, Nat.reduceAdd, Nat.reduceSub, Array.replicate_succ, Array.replicate_zero, List.push_toArray, List.append_toArray, List.nil_append, List.cons_append]
      go_wp2_with fail
      refine (Fe.out).mono ?_
      rintro e wz ⟨rfl, rfl⟩
      go_wp2_with fail
      refine (Aw.out _ (Hh.out _ hb)).mono ?_
      rintro e w1 ⟨rfl, b⟩
      have o1 := (o0).grown hb.size b
      have hb1 := hb.trans (b.mono hb.size)
      have k1 := o1.cell 0
      have z1 := o1.unfrozen 0
      have o2 := o1.set hb1.size 0 (.bool true)
      have b2 := o1.below_set 0 (.bool true)
      clear hb b
      go_wp2
      exact ⟨_, results_cell_bool rfl _ _ (w.heap.size + 1 + 1) 0 _ rfl (o2.cell 0), rfl, hb1.trans b2⟩
    by_cases hc2 : 65536 < ch
    · clear h hr hf f3 hw
      refine (callsIn_wide (n := 5)).1 (callsIn_of_wp_marks Tryd.func5 rfl trivial (wpIn_wide.2 ?_) rfl)
      simp only [Tryd.ntmps5, List.size_toArray, List.length_cons, List.length_nil, Nat.reduceAdd, Nat.reduceSub, Array.replicate_succ, Array.replicate_zero, List.push_toArray, List.append_toArray, List.nil_append, List.cons_append]
      go_wp2_with fail
      refine (Fe.out).mono ?_
      rintro e wz ⟨rfl, rfl⟩
      go_wp2_with fail
      refine (Aw.out _ (Hh.out _ hb)).mono ?_
      rintro e w1 ⟨rfl, b⟩
      have o1 := (o0).grown hb.size b
      have hb1 := hb.trans (b.mono hb.size)
      have k1 := o1.cell 0
      have z1 := o1.unfrozen 0
      have o2 := o1.set hb1.size 0 (.bool true)
      have b2 := o1.below_set 0 (.bool true)
      clear hb b
      go_wp2
      exact ⟨_, results_cell_bool rfl _ _ (w.heap.size + 1 + 1) 0 _ rfl (o2.cell 0), rfl, hb1.trans b2⟩
    have k0 : (((w.alloc (.cells #[.int .i64 ch] 3)).alloc (.cells #[.int .u8 (st : Int)] 5)).alloc (.cells #[.bool false] 4)).cell? ⟨w.heap.size, 0, none⟩ = some (.int .i64 ch) := o0.cellOf w.heap.size 0
    by_cases hz : whyE (ents (l.map (·.1))) = 0
    · rw [hz] at R1
      have T := Lib.hid (fun w1 hr => toldS_any A c l (by omega) (by omega) w1 hr)
      have hstr : streamP (l.map (·.1)) = dataL (l.map (·.1)) := if_pos hz
      obtain ⟨chn, rfl⟩ : ∃ chn : Nat, ch = (chn : Int) := ⟨ch.toNat, by omega⟩
      obtain ⟨D, hD, hD32⟩ : ∃ D : List UInt8, D = List.replicate 32 0 ∧ D.length = 32 := ⟨_, rfl, by simp⟩
      have pok : Pn.ok ⟨(chn : Int), 1, ((dataL (l.map (·.1))).length : Int), D⟩ := ⟨hch, ⟨by simp only; decide, by simp only; decide⟩, ⟨by simp only; omega, by have := dataL_le hz; simp only; omega⟩, hD32⟩
      have hdle := dataL_le hz
      have hd24 : (dataL (l.map (·.1))).length ≤ 2400 := by rw [dataL_length]; exact f2
      have pmay : Pn.mayB ⟨(chn : Int), 1, ((dataL (l.map (·.1))).length : Int), D⟩ = true := by unfold Pn.mayB; simp only [Bool.and_eq_true, decide_eq_true_eq]; omega
      have CI := Lib.hid (fun b0 b1 B R' kR' w hF => chunks_it A c l (by omega) (by omega) f3 ⟨(chn : Int), 1, ((dataL (l.map (·.1))).length : Int), D⟩ pok b0 b1 B R' kR' w hF)
      have CK := Lib.hid (fun w1 h1 h2 => chunk_any A c l (by omega) (by omega) f3 ⟨(chn : Int), 1, ((dataL (l.map (·.1))).length : Int), D⟩ pok k hk w1 h1 h2)
      have CHS := Lib.hid (fun w => chunks_any A l.length c ⟨(chn : Int), 1, ((dataL (l.map (·.1))).length : Int), D⟩ w)
      rw [hstr] at CI CK
      have JS := Lib.hid (join_segs (b := dataL (l.map (·.1))) pmay rfl)
      have SE := Lib.hid (seg_end (b := dataL (l.map (·.1))) pmay rfl)
      have NL := Lib.hid (nseg_le (b := dataL (l.map (·.1))) (p := ⟨(chn : Int), 1, ((dataL (l.map (·.1))).length : Int), D⟩) rfl)
      have FC := Lib.hid (fun k hk => filP_chunk (b := dataL (l.map (·.1))) (ch := chn) (dg := D) k hk)
      have CN := Lib.hid (fun h => chunk_none (b := dataL (l.map (·.1))) (p := ⟨(chn : Int), 1, ((dataL (l.map (·.1))).length : Int), D⟩) (k := k) h)
      have hseg : segsP ⟨(chn : Int), 1, ((dataL (l.map (·.1))).length : Int), D⟩ = (((dataL (l.map (·.1))).length : Int) + (chn : Int) - 1) / (chn : Int) := by unfold segsP; rw [if_pos pmay]
      have hps := pnL_size (p := ⟨(chn : Int), 1, ((dataL (l.map (·.1))).length : Int), D⟩) pok.dg
      have Hpo := Lib.hid (pnL_one ⟨(chn : Int), 1, ((dataL (l.map (·.1))).length : Int), D⟩)
      have BP := Lib.hid (fun w => build_plan3 (chn : Int) 1 ((dataL (l.map (·.1))).length : Int) D hD w)
      have hinf2 : (Tryd.prog.info? 27).map (·.size) = some (pnL ⟨(chn : Int), 1, ((dataL (l.map (·.1))).length : Int), D⟩).toArray.size := by rw [hps]; exact infoPlan
      have Hz : Hid (z35.size = (pnL ⟨(chn : Int), 1, ((dataL (l.map (·.1))).length : Int), D⟩).toArray.size) := Lib.hid (by rw [hps]; rfl)
      unfold caseOf at hcase
      rw [← hD] at hcase
      clear hD
      have hll : (l.map (·.1)).length = l.length := by simp
      have RC := Lib.hid (fun A c k hk w hr => refchunk_any A c (dataL (l.map (·.1))) (by omega) chn (by omega) k hk w hr)
      clear h hr hf f3 hw hstr hz hps pok pmay
      obtain ⟨fi, hfi⟩ : ∃ fi, fi = l.map (·.1) := ⟨_, rfl⟩
      have hdd : ∀ n, n = (dataL (l.map (·.1))).length → True := fun _ _ => trivial
      clear hdd hfi fi
      unfold RetTold at T
      simp only [List.length_map] at T
      generalize dataL (l.map (·.1)) = dt at *
      generalize (pnL ⟨(chn : Int), 1, (dt.length : Int), D⟩).toArray = PA at *
      obtain ⟨f, hf⟩ : ∃ f : Nat → List UInt8, f = fun k : Nat => chunkP dt ⟨(chn : Int), 1, (dt.length : Int), D⟩ k := ⟨_, rfl⟩
      have JSf : Hid ((List.range (nsegP dt ⟨(chn : Int), 1, (dt.length : Int), D⟩)).flatMap f = dt) := Lib.hid (by rw [hf]; exact JS.out)
      have FCf : Hid (∀ k, k < nsegP dt ⟨(chn : Int), 1, (dt.length : Int), D⟩ → filP dt (k * chn) chn dt.length = f k) := Lib.hid (fun k hk => by rw [hf]; exact FC.out k hk)
      rw [← hf] at CI
      have hsN : segsP ⟨(chn : Int), 1, (dt.length : Int), D⟩ = (nsegP dt ⟨(chn : Int), 1, (dt.length : Int), D⟩ : Int) := SE.out.2.2.1.symm
      rw [hsN] at CN hseg
      clear JS SE hsN
      -- want
      obtain ⟨want, hwant⟩ : ∃ want, want = chunkP dt ⟨(chn : Int), 1, (dt.length : Int), D⟩ k := ⟨_, rfl⟩
      rw [← hwant] at CK CN
      have FW : Hid (∀ kn : Nat, k = (kn : Int) → f kn = want) := Lib.hid (fun kn e => by rw [hf, hwant, e])
      clear FC hf hwant
      generalize nsegP dt ⟨(chn : Int), 1, (dt.length : Int), D⟩ = N at *
      have hN24 : (N : Int) ≤ 2400 := by have := NL.out; omega
      clear NL
      refine (callsIn_wide (n := 5)).1 (callsIn_of_wp_marks Tryd.func5 rfl trivial (wpIn_wide.2 ?_) rfl)
      simp only [Tryd.ntmps5, List.size_toArray, List.length_cons, List.length_nil, Nat.reduceAdd, Nat.reduceSub, Array.replicate_succ, Array.replicate_zero, List.push_toArray, List.append_toArray, List.nil_append, List.cons_append]
      go_wp2_with fail
      refine (Fe.out).mono ?_
      rintro e wz ⟨rfl, rfl⟩
      go_wp2_with fail
      refine (R1.out _ (Hh.out _ hb) (Hr.out _ hb)).mono ?_
      rintro e w1 ⟨rfl, b⟩
      have o1 := o0.grown hb.size b
      replace hb := hb.trans (b.mono hb.size)
      clear b o0 k0 Fe R1
      go_wp2_with fail
      refine (T.out _ (Hr.out _ hb)).mono ?_
      rintro e w2 ⟨Ax, cx, Ad, cd, rfl, kx, rx, rd, b⟩
      have o2 := Own.fresh hb.size o1 rd b
      replace hb := hb.trans (b.mono hb.size)
      clear b o1 T rx kx rd
      have o4 := o2.new hb.size 32 #[.slice Ad dt.length cd]
      have hb4 := hb.alloc hb.size (.cells #[.slice Ad dt.length cd] 32)
      have c4 : (w2.alloc (.cells #[.slice Ad dt.length cd] 32)).cell? ⟨w2.heap.size, 0, none⟩ = some (.slice Ad dt.length cd) := o4.cell 0
      have c4' : (w2.alloc (.cells #[.slice Ad dt.length cd] 32)).cell? ⟨w.heap.size, 0, none⟩ = some (.int .i64 chn) := o4.cellOf w.heap.size 0
      have B4 := hb4.size
      have o5 := o4.new B4 27 z35
      have hb5 := hb4.alloc B4 (.cells z35 27)
      simp only [World.size_alloc9] at o5
      obtain ⟨B6, o6, b6⟩ := o5.setRow hb5.size PA
      have hb6 := hb5.trans b6
      have Hh5 := Lib.hid o5.bk.1
      obtain ⟨W6, hW6⟩ : ∃ W6, W6 = ((w2.alloc (.cells #[.slice Ad dt.length cd] 32)).alloc (.cells z35 27)).setRow (w2.heap.size + 1) PA := ⟨_, rfl⟩
      rw [← hW6] at o6 hb6
      unfold z35 at hW6 Hh5
      have HW6 := Lib.hid hW6
      clear hW6
      have c6 := o6.cellOf w2.heap.size 0
      have c6' := o6.cellOf w.heap.size 0
      simp only [List.setIfInBounds_toArray, List.set_cons_zero, List.getElem?_toArray, List.getElem?_cons_zero] at c6 c6'
      have hq : ((dt.length : Int) + (chn : Int) - 1) / (chn : Int) = (N : Int) := hseg.symm
      have cne : ((chn : Int) == 0) = false := by simp; omega
      have Hq := Lib.hid hq
      clear o2 o4 hb4 o5 hb5 b6 B4 B6 hseg
      have hk0 : ¬ 0 ≤ k := by
        intro h0
        rw [if_pos h0] at hcase
        split at hcase <;> cases hcase
      have hkk : ¬ (0 ≤ k ∧ k < (N : Int)) := fun h => hk0 h.1
      clear hcase
      have hkd : (decide (0 ≤ k) && decide (k < (N : Int))) = false := by
        rw [Bool.and_eq_false_iff, decide_eq_false_iff_not, decide_eq_false_iff_not]
        by_cases h0 : 0 ≤ k
        · exact .inr (fun h => hkk ⟨h0, h⟩)
        · exact .inl h0
      have hw0 : want = [] := CN.out hkk
      have oT := o6.rw_nilW hw0
      clear hw0
      have hbT := hb6
      have HkdF := Lib.hid hkd
      clear hkd hkk
      go_wp2_with first
        | (refine wpList_build_at rfl 27 _ _ rfl (by simp only [List.map_toArray, List.map_cons, List.map_nil, Act.eval]; rfl) (BP.out _) ?_)
        | (refine wpList_plain rfl fun _ hK => wp_store_row 27 (.tmp 11) (.tmp 42) rfl (w2.heap.size + 1) PA rfl rfl 27 _ Hh5.out hinf2 Hz.out Hpo.out (hK _ _ ?_); rw [← HW6.out])
      have rwant := oT.rd
      have oT2 := oT.drop
      have Hh11 := Lib.hid oT2.bk.1
      have lt11 := oT2.bk.2.2
      have B7 : w.heap.size ≤ W6.heap.size := hbT.size
      clear Hpo Hz BP oT
      generalize hX0 : w.heap.size = X0 at *
      generalize hX10 : w2.heap.size = X10 at *
      refine wp_region_calm ?_
      refine wp_region_lmix (fun w1 => Below W6.heap.size W6 w1) [0, 2, 5] [6] [1] [3, 4] [7] mixed (by kernel_rfl) rfl (fun _ _ _ _ _ h => h) ((Below.refl _ _).drew) ?_
      simp only [List.filterMap_cons, List.filterMap_nil, List.getElem?_toArray, List.getElem?_cons_succ, List.getElem?_cons_zero]
      repeat (
        refine free_val ?_ rfl (fun w1 => ?_) ?_
        rotate_left
        · (go_simp
           try go_bits
           rfl)
        simp only [Act.put, List.setIfInBounds_toArray, List.set_cons_zero, List.set_cons_succ])
      refine free_nil ?_
      refine late_val (.string (str want)) rfl (fun w1 hS => ?_) ?_
      · have sw := str_of_rd (rwant.below hS)
        go_simp
      simp only [Act.put, List.setIfInBounds_toArray, List.set_cons_zero, List.set_cons_succ]
      refine late_nil ?_
      refine held_val (.agg PA) rfl (fun w1 hS => exec_load_row rfl (X10 + 1) rfl 27 PA (0, 0) _ ((hS.block _ lt11).trans Hh11.out) Tryd.underlying27 rfl hinf2) ?_
      simp only [Act.put, List.setIfInBounds_toArray, List.set_cons_zero, List.set_cons_succ]
      refine held_nil (fun w8 hS8 => ?_)
      refine kept_call 21 _ rfl (by go_simp) ((CK.out _ (Hh.out _ (hbT.trans (hS8.mono B7))) (Hr.out _ (hbT.trans (hS8.mono B7)))).mono ?_)
      rintro e w9 ⟨v9, rfl, h9, b9⟩
      have b79 := hS8.trans (b9.mono hS8.size)
      refine ⟨v9, rfl, b79, ?_⟩
      have o9 := Own.fresh (Nat.le_refl _) (Own.start w8.heap.size w8) h9 b9
      obtain ⟨A9, c9, rfl⟩ := o9.row_n
      have s9 := str_of_rd o9.rd
      simp only [Act.put, List.setIfInBounds_toArray, List.set_cons_zero, List.set_cons_succ]
      refine kept_val (.string (str want)) rfl (w1 := w9) (by go_simp) b79 ?_
      simp only [Act.put, List.setIfInBounds_toArray, List.set_cons_zero, List.set_cons_succ]
      refine kept_nil ?_
      have o10 := oT2.grown B7 b79
      have hb10 := hbT.trans (b79.mono B7)
      have B10 := Nat.le_trans B7 b79.size
      clear rwant oT2 Hh11 lt11 hbT h9 b9 o9 hS8 b79
      have o11 := o10.new B10 47 #[.slice none 0 0]
      have hb11 := hb10.alloc B10 (.cells #[.slice none 0 0] 47)
      have B11 : X0 ≤ (w9.alloc (.cells #[.slice none 0 0] 47)).heap.size := by simp; omega
      have Hh12 := Lib.hid (o11.blockOf (X10 + 1))
      clear o10 hb10
      go_wp2_with first
        | (refine wpList_load_row_g rfl 27 (.tmp 11) rfl (X10 + 1) rfl 27 PA (0, 0) _ Hh12.out Tryd.underlying27 rfl hinf2 ?_)
      refine (CHS.out _).mono ?_
      rintro e w12 ⟨rfl, hw12⟩
      simp only [World.size_alloc9] at hw12 ⊢
      have o12 := (o11.new B11 22 #[.slice A l.length c]).new (by simp at B11 ⊢; omega) 27 PA
      have hb12 := (hb11.alloc B11 (.cells #[.slice A l.length c] 22)).alloc (by simp at B11 ⊢; omega) (.cells PA 27)
      simp only [World.size_alloc9] at o12
      rw [← hw12] at o12 hb12
      clear hw12 o11 hb11 B11 Hh12 CHS s9 B10
      generalize hX14 : w9.heap.size = X14 at *
      obtain ⟨Y0, hY0⟩ : ∃ Y0, Y0 = X14 + 1 := ⟨_, rfl⟩
      rw [← hY0] at o12 ⊢
      have B12 : X0 ≤ w12.heap.size := by rw [← hX0]; exact hb12.size
      have Hb12 := Lib.hid hb12
      obtain ⟨PR, hPR⟩ : ∃ PR : HP, PR = Bk X0 3 #[.int .i64 (chn : Int)] * (Bk (X0 + 1) 5 #[.int .u8 (st : Int)] * (Bk X10 32 #[.slice Ad dt.length cd] * Rw 5 1 (.slice Ad dt.length cd) dt.length (bytesU dt))) := ⟨_, rfl⟩
      have kPR : Loc X0 PR := by rw [hPR]; infer_instance
      have HPR := Lib.hid hPR
      clear hPR
      have hO12 : Own X0 ((Fact (([] : List Sg).length ≤ st) * (PP f X14 [] * PR)) * ((Bk Y0 22 #[.slice A l.length c] * Bk (Y0 + 1) 27 PA) * (Bk (X10 + 1) 27 PA * Bk (X0 + 1 + 1) 4 #[.bool false]))) w12 := by
        have h1 := o12.rw_nil 32 1
        have h2 : Own X0 (PP f X14 [] * (PR * ((Bk Y0 22 #[.slice A l.length c] * Bk (Y0 + 1) 27 PA) * (Bk (X10 + 1) 27 PA * Bk (X0 + 1 + 1) 4 #[.bool false])))) w12 :=
          Own.to_pp (A' := none) (c' := 0) (h1.cast (by rw [HPR.out]; simp only [SegL, List.length_nil, List.map_nil]; ac_rfl))
        exact (Own.fact (p := ([] : List Sg).length ≤ st) (Nat.zero_le _) h2).cast (by ac_rfl)
      clear o12
      obtain ⟨i0', hi, hz0, hz1, hz2⟩ := info_parts infoSl
      have Hi0 := Lib.hid (And.intro hi (And.intro hz0 (And.intro hz1 hz2)))
      clear hi hz0 hz1 hz2
      go_wp2_with fail
      refine wp_rangeFunc_sep (B := X0) (lb := #[.pointer (some ⟨Y0, 0, none⟩), .pointer (some ⟨Y0 + 1, 0, none⟩)]) rfl (enters_of Tryd.func38 (by kernel_rfl) rfl) (Bk Y0 22 #[.slice A l.length c] * Bk (Y0 + 1) 27 PA) (Bk (X10 + 1) 27 PA * Bk (X0 + 1 + 1) 4 #[.bool false]) (fun _ => inferInstance) (fun _ => rfl)
        (fun R' kR' => CI.out Y0 (Y0 + 1) X0 R' kR' w12 (fun W b => ⟨Hh.out _ (hb12.trans b), Hr.out _ (hb12.trans b)⟩))
        (fun pre => Fact (pre.length ≤ st) * (PP f X14 pre * PR)) (fun cd pre => Fact (cd = .exit 0 ∧ pre.length = st + 1) * (PP f X14 pre * PR)) B12 hO12
        (fun x t => (t.setIfInBounds 15 (.int .i64 (x.k : Int))).setIfInBounds 16 (.slice x.A (f x.k).length x.c)) (fun x => _) (fun x => rfl) ?assign ?body ?done ?stop
      case assign =>
        intro l x W K hK
        simp only [sgEnc, List.zip_toArray, List.zip_cons_cons, List.zip_nil_right, List.zip_nil_left, List.foldl_toArray', List.foldl_toArray, List.foldl_cons, List.foldl_nil, List.setIfInBounds_toArray, List.set_cons_zero, List.set_cons_succ] at hK ⊢
        gi_wp2
        exact hK
      case body =>
        intro lp pre x W R' _ hBW hbW hO hN
        simp only [sgEnc, List.zip_toArray, List.zip_cons_cons, List.zip_nil_right, List.zip_nil_left, List.foldl_toArray', List.foldl_toArray, List.foldl_cons, List.foldl_nil, List.setIfInBounds_toArray, List.set_cons_zero, List.set_cons_succ] 
        obtain ⟨kx, Ax', cx'⟩ := x
        obtain ⟨hN1, hN2, hN3⟩ := hN
        simp only at hN2
        subst hN2
        have hle := hO.assoc.fact_out
        have hO := hO.assoc.right
        have hO : Own X0 (PP f X14 pre * (sgGiv f ⟨pre.length, Ax', cx'⟩ * (PR * R'))) W := hO.cast (by ac_rfl)
        unfold PP at hO
        obtain ⟨A', hO⟩ := hO.hex
        obtain ⟨c', hO⟩ := hO.hex
        have hO : Own X0 (Rw 32 1 (.slice A' pre.length c') pre.length (pre.map (segV f)) * (Bk X14 47 #[.slice A' pre.length c'] * (SegL f pre * (Rw 5 1 (.slice Ax' (f pre.length).length cx') (f pre.length).length (bytesU (f pre.length)) * (Bk X0 3 #[.int .i64 (chn : Int)] * (Bk (X0 + 1) 5 #[.int .u8 (st : Int)] * (Bk X10 32 #[.slice Ad dt.length cd] * (Rw 5 1 (.slice Ad dt.length cd) dt.length (bytesU dt) * R')))))))) W := by
          rw [HPR.out] at hO
          unfold sgGiv at hO
          exact hO.cast (by ac_rfl)
        have hm14 := hO.cast (sep_left_comm _ _ _)
        have k14 : W.cell? ⟨X14, 0, none⟩ = some (.slice A' pre.length c') := hm14.cell 0
        have k14d : W.drew.cell? ⟨X14, 0, none⟩ = some (.slice A' pre.length c') := k14
        have rx := (hO.foc (Rw 5 1 (.slice Ax' (f pre.length).length cx') (f pre.length).length (bytesU (f pre.length)))).rd
        have rdt := (hO.foc (Rw 5 1 (.slice Ad dt.length cd) dt.length (bytesU dt))).rd
        have h10 := (hO.foc (Bk X10 32 #[.slice Ad dt.length cd]))
        have c10 : W.cell? ⟨X10, 0, none⟩ = some (.slice Ad dt.length cd) := h10.cell 0
        have l10 := h10.bk.2.2
        have h00 := (hO.foc (Bk X0 3 #[.int .i64 (chn : Int)]))
        have c00 : W.cell? ⟨X0, 0, none⟩ = some (.int .i64 (chn : Int)) := h00.cell 0
        have l00 := h00.bk.2.2
        have HO := Lib.hid hO
        have HX := Lib.hid rx
        have HD := Lib.hid rdt
        have HN3 := Lib.hid hN3
        have HLe := Lib.hid hle
        have pl : (pre.length : Int) ≤ 2400 := by omega
        have p0 : (0 : Int) ≤ (pre.length : Int) := by omega
        clear hO hm14 rx rdt h10 h00 hN1 hN3 hle hO12 hb12
        generalize hmm : pre.length = m at *
        gi_wp2
        refine wpIn_region_calm ?_
        refine wpIn_region_by mixed (by kernel_rfl) (fun ⟨_, _, h⟩ => h) ?_
        refine wpAny_us (n := 13) [0] (by kernel_rfl) (by kernel_rfl) rfl (fun _ _ _ _ _ h => h) ?_
        simp only [List.filterMap_cons, List.filterMap_nil, List.getElem?_toArray, List.getElem?_cons_succ, List.getElem?_cons_zero]
        repeat (
          refine free_val ?_ rfl (fun w1 => ?_) ?_
          rotate_left
          · (go_simp
             try go_bits
             rfl)
          simp only [Act.put, List.setIfInBounds_toArray, List.set_cons_zero, List.set_cons_succ])
        refine free_nil ?_
        refine wpAny_pre [1, 2, 3, 4] (n := 9) (by kernel_rfl) rfl ?_
        simp only [List.filterMap_cons, List.filterMap_nil, List.getElem?_toArray, List.getElem?_cons_succ, List.getElem?_cons_zero]
        go_wp2
        refine wpAny_lmix (S := fun w1 => Below W.heap.size W w1) [5, 9] [6] [7, 8] [10, 11] [12, 13] (by kernel_rfl) rfl (fun _ _ _ _ _ h => h) ((Below.refl _ _).drew) ?_
        simp only [List.filterMap_cons, List.filterMap_nil, List.getElem?_toArray, List.getElem?_cons_succ, List.getElem?_cons_zero]
        repeat (
          refine free_val ?_ rfl (fun w1 => ?_) ?_
          rotate_left
          · (go_simp
             try go_bits
             rfl)
          simp only [Act.put, List.setIfInBounds_toArray, List.set_cons_zero, List.set_cons_succ])
        refine free_nil ?_
        refine late_val (.string (str (f m))) rfl (fun w1 hS => ?_) ?_
        · have sw := str_of_rd (HX.out.below hS)
          go_simp
        simp only [Act.put, List.setIfInBounds_toArray, List.set_cons_zero, List.set_cons_succ]
        refine late_nil ?_
        repeat (first
          | (refine held_val ?_ rfl (fun w1 hS => ?_) ?_
             rotate_left
             · (have q10 := (hS.cell (p := ⟨X10, 0, none⟩) l10).trans c10; have q00 := (hS.cell (p := ⟨X0, 0, none⟩) l00).trans c00
                go_simp
                try go_bits
                rfl)
             simp only [Act.put, List.setIfInBounds_toArray, List.set_cons_zero, List.set_cons_succ])
          | (refine held_off rfl ?_
             simp only [Act.put, List.setIfInBounds_toArray, List.set_cons_zero, List.set_cons_succ]))
        refine held_nil (fun w8 hS8 => ?_)
        refine kept_call 20 _ rfl (by go_simp) ((RC.out _ _ m (by omega) _ (HD.out.below hS8)).mono ?_)
        rintro e w9' ⟨v9, rfl, h9, b9⟩
        rw [FCf.out _ HN3.out] at h9
        have b79 := hS8.trans (b9.mono hS8.size)
        refine ⟨v9, rfl, b79, ?_⟩
        have o9 := Own.fresh (Nat.le_refl _) (Own.start w8.heap.size w8) h9 b9
        obtain ⟨A9, c9, rfl⟩ := o9.row_n
        have s9 := str_of_rd o9.rd
        simp only [Act.put, List.setIfInBounds_toArray, List.set_cons_zero, List.set_cons_succ]
        refine kept_val (.string (str (f m))) rfl (w1 := w9') (by go_simp) b79 ?_
        simp only [Act.put, List.setIfInBounds_toArray, List.set_cons_zero, List.set_cons_succ]
        refine kept_nil ?_
        have hO9 := HO.out.grown hBW b79
        have B9 := Nat.le_trans hBW b79.size
        have hb9 := b79.mono hBW
        obtain ⟨g2, cap2, W2, hrun, o2, b2⟩ := row_append (P := Tryd.prog) B9 Tryd.underlying47 Hi0.out.1 Hi0.out.2.1 Hi0.out.2.2.1 Hi0.out.2.2.2 rfl (by omega) hO9 #[.slice Ax' (f m).length cx'] rfl
          (by intro u hu; simp at hu; rcases hu with rfl; rfl) (by omega) (by omega)
        have k9 : w9'.cell? ⟨X14, 0, none⟩ = some (.slice A' m c') := (hO9.cast (sep_left_comm _ _ _)).cell 0
        have Hrun := Lib.hid hrun
        have B2 := Nat.le_trans B9 b2.size
        have o3 := o2.cast (sep_left_comm _ _ _)
        have k2' : W2.cell? ⟨X14, 0, none⟩ = some (.slice A' m c') := o3.cell 0
        have z2 := o3.unfrozen 0
        have s2 := o3.set B2 0 (.slice (some ⟨g2, 0, none⟩) (m + 1) cap2)
        have t2 := o3.below_set 0 (.slice (some ⟨g2, 0, none⟩) (m + 1) cap2)
        have k3 : (W2.setCell ⟨X14, 0, none⟩ (.slice (some ⟨g2, 0, none⟩) (m + 1) cap2)).cell? ⟨X14, 0, none⟩ = some (.slice (some ⟨g2, 0, none⟩) (m + 1) cap2) := s2.cell 0
        have k3s : (W2.setCell ⟨X14, 0, none⟩ (.slice (some ⟨g2, 0, none⟩) (m + 1) cap2)).cell? ⟨X0 + 1, 0, none⟩ = some (.int .u8 (st : Int)) := (s2.foc (Bk (X0 + 1) 5 #[.int .u8 (st : Int)])).cell 0
        have hfin : Own X0 (PP f X14 (pre ++ [⟨m, Ax', cx'⟩]) * (PR * R')) (W2.setCell ⟨X14, 0, none⟩ (.slice (some ⟨g2, 0, none⟩) (m + 1) cap2)) := by
          have e1 : (pre ++ [(⟨m, Ax', cx'⟩ : Sg)]).length = m + 1 := by simp [hmm]
          have e2 : (pre ++ [(⟨m, Ax', cx'⟩ : Sg)]).map (segV f) = pre.map (segV f) ++ #[Value.slice Ax' (f m).length cx'].toList := by simp [segV]
          have h1 := Own.segL_snoc (f := f) (x := ⟨m, Ax', cx'⟩) (xs := pre) (R := Bk X14 47 #[.slice (some ⟨g2, 0, none⟩) (m + 1) cap2] * (Rw 32 1 (.slice (some ⟨g2, 0, none⟩) (m + 1) cap2) (m + 1) (pre.map (segV f) ++ #[Value.slice Ax' (f m).length cx'].toList) * (PR * R'))) (s2.cast (by
            rw [HPR.out]
            unfold sgGiv
            show (Bk X14 47 #[.slice (some ⟨g2, 0, none⟩) (m + 1) cap2] * _ : HP) = _
            ac_rfl))
          refine Own.to_pp (A' := some ⟨g2, 0, none⟩) (c' := cap2) ?_
          rw [e1, e2]
          exact h1.cast (by ac_rfl)
        have Fin := Lib.hid (And.intro hfin ((hb9.trans b2).trans t2))
        have Hmm := Lib.hid hmm
        obtain ⟨m1, hm1⟩ : ∃ m1, m1 = m + 1 := ⟨_, rfl⟩
        have Hm1 := Lib.hid hm1
        rw [← hm1] at Hrun k3 k3s Fin
        have m1a : (0 : Int) ≤ (m1 : Int) := by omega
        have m1b : (m1 : Int) ≤ 2500 := by omega
        have stb : (st : Int) < 256 := by omega
        have st0 : (0 : Int) ≤ (st : Int) := by omega
        clear hrun hO9 o2 o3 s2 t2 hfin hb9 b2 b79 h9 b9 o9 hS8 hmm hm1 hbW CI HO HX HD c10 l10 c00 l00 k14 k14d
        go_wp2
        by_cases hgt : (st : Int) < (m1 : Int)
        · gi_wp2_with first
            | (refine wpListIn_append_at (o := { dst := some 91, op := .call { callee := .builtin .append, args := #[.tmp 88, .tmp 90], argTypes := #[47, 47] }, type := 47, pos := _, after := _, guard := none }) rfl (.tmp 88) (.tmp 90) 47 rfl rfl rfl Hrun.out ?_)
          have hf2 : Own X0 ((Fact (Code.exit 0 = .exit 0 ∧ (pre ++ [(⟨m, Ax', cx'⟩ : Sg)]).length = st + 1) * (PP f X14 (pre ++ [(⟨m, Ax', cx'⟩ : Sg)]) * PR)) * R') _ := (Own.fact (p := Code.exit 0 = .exit 0 ∧ (pre ++ [(⟨m, Ax', cx'⟩ : Sg)]).length = st + 1) ⟨rfl, by have := HLe.out; have := Hm1.out; simp [Hmm.out]; omega⟩ Fin.out.1).cast (by ac_rfl)
          exact ⟨hf2, Fin.out.2⟩
        · gi_wp2_with first
            | (refine wpListIn_append_at (o := { dst := some 91, op := .call { callee := .builtin .append, args := #[.tmp 88, .tmp 90], argTypes := #[47, 47] }, type := 47, pos := _, after := _, guard := none }) rfl (.tmp 88) (.tmp 90) 47 rfl rfl rfl Hrun.out ?_)
          have hf2 : Own X0 ((Fact ((pre ++ [(⟨m, Ax', cx'⟩ : Sg)]).length ≤ st) * (PP f X14 (pre ++ [(⟨m, Ax', cx'⟩ : Sg)]) * PR)) * R') _ := (Own.fact (p := (pre ++ [(⟨m, Ax', cx'⟩ : Sg)]).length ≤ st) (by have := Hm1.out; simp [Hmm.out]; omega) Fin.out.1).cast (by ac_rfl)
          exact ⟨hf2, Fin.out.2⟩
      case done =>
        intro D xs W hS hBW hbW hO
        have hxl : xs.length = N := by have := congrArg List.length hS; simpa using this
        have hle := hO.assoc.fact_out
        replace hO := hO.assoc.right
        have hmin : (if (N : Int) < (st : Int) + 1 then (N : Int) else (st : Int) + 1) = (xs.length : Int) := by rw [if_pos (by omega), hxl]
        have HL := Lib.hid (show xs.map (·.k) = List.range xs.length by rw [hxl]; exact hS)
        have HNL : Hid (xs.length ≤ N) := Lib.hid (by omega)
        clear hS hle hxl
        have hb := Hb12.out.trans hbW
        replace hO : Own X0 (PP f X14 xs * (PR * ((Bk Y0 22 #[.slice A l.length c] * Bk (Y0 + 1) 27 PA) * ((Bk (X10 + 1) 27 PA * Bk (X0 + 1 + 1) 4 #[.bool false]) * Dk D)))) W := hO.assoc
        unfold PP at hO
        obtain ⟨A', hO⟩ := hO.hex
        obtain ⟨c', hO⟩ := hO.hex
        replace hO : Own X0 (Bk X14 47 #[.slice A' xs.length c'] * (Rw 32 1 (.slice A' xs.length c') xs.length (xs.map (segV f)) * (SegL f xs * (Bk X0 3 #[.int .i64 (chn : Int)] * (Bk (X0 + 1) 5 #[.int .u8 (st : Int)] * (Bk X10 32 #[.slice Ad dt.length cd] * (Rw 5 1 (.slice Ad dt.length cd) dt.length (bytesU dt) * (Bk (X0 + 1 + 1) 4 #[.bool false] * (Dk D * (Bk Y0 22 #[.slice A l.length c] * (Bk (Y0 + 1) 27 PA * (Bk (X10 + 1) 27 PA * Emp)))))))))))) W := by
          rw [HPR.out] at hO
          exact hO.emp.cast (by ac_rfl)
        have k14 : W.cell? ⟨X14, 0, none⟩ = some (.slice A' xs.length c') := hO.cell 0
        have l14 := hO.bk.2.2
        have kst : W.cell? ⟨X0 + 1, 0, none⟩ = some (.int .u8 (st : Int)) := hO.cellOf (X0 + 1) 0
        have h10 := (hO.foc (Bk X10 32 #[.slice Ad dt.length cd]))
        have c10 : W.cell? ⟨X10, 0, none⟩ = some (.slice Ad dt.length cd) := h10.cell 0
        have l10 := h10.bk.2.2
        have HD := Lib.hid (hO.foc (Rw 5 1 (.slice Ad dt.length cd) dt.length (bytesU dt))).rd
        have hpl : (xs.map fun x => (segV f x, f x.k)).length = xs.length := by simp
        have hjp : xs.length = N → joinP (xs.map fun x => (segV f x, f x.k)) = dt := by
          intro e
          unfold joinP
          have h1 : xs.flatMap (fun x => f x.k) = (xs.map (·.k)).flatMap f := by rw [List.flatMap_map]
          rw [List.flatMap_map]
          show xs.flatMap (fun x => f x.k) = dt
          rw [h1, HL.out, e]
          exact JSf.out
        have hrp : RdP W A' (xs.map fun x => (segV f x, f x.k)) := by
          have e : (xs.map fun x => (segV f x, f x.k)).map (·.1) = xs.map (segV f) := by simp
          have hrow := hO.cast (sep_left_comm _ _ _)
          rw [← e] at hrow
          exact Own.rdP hpl.symm hrow (fun y hy => by
            obtain ⟨x, hx, rfl⟩ := List.mem_map.1 hy
            exact Own.segL_rd (hO.foc (SegL f xs)) x hx)
        have J : ∀ w1, Below W.heap.size W w1 → xs.length = N → Calls Tryd.prog 23 #[.slice A' xs.length c'] w1 (RetB w1 dt) := fun w1 b e => by
          have := join_any A' c' (xs.map fun x => (segV f x, f x.k)) (by rw [hpl]; omega) (by rw [hjp e]; omega) w1 (hrp.below b)
          rw [hpl, hjp e] at this
          exact this
        have J := Lib.hid J
        have hLN0 := HNL.out
        clear hpl hjp hrp h10 hbW CI JSf hb12 hO12 RC FCf HL HNL
        generalize xs.length = L at *
        have L0 : (0 : Int) ≤ (L : Int) := by omega
        have L1 : (L : Int) ≤ 2400 := by omega
        have stb : (st : Int) < 256 := by omega
        have st0 : (0 : Int) ≤ (st : Int) := by omega
        by_cases hLN : (L : Int) < (N : Int)
        · have hd1 : decide ((L : Int) < (N : Int)) = true := decide_eq_true hLN
          go_wp2
          refine wp_region_mix (fun w1 => Below W.heap.size W w1) [0, 1, 2, 3, 4, 5, 6, 7, 8, 9, 10, 11, 12] [13, 14, 15] mixed (by kernel_rfl) rfl ((Below.refl _ _).drew) ?_
          simp only [List.filterMap_cons, List.filterMap_nil, List.getElem?_toArray, List.getElem?_cons_succ, List.getElem?_cons_zero]
          repeat (first
            | (refine held_val ?_ rfl (fun w1 hS => ?_) ?_
               rotate_left
               · (have q14 := (hS.cell (p := ⟨X14, 0, none⟩) l14).trans k14
                  go_simp
                  try go_bits
                  rfl)
               simp only [Act.put, List.setIfInBounds_toArray, List.set_cons_zero, List.set_cons_succ])
            | (refine held_off rfl ?_
               simp only [Act.put, List.setIfInBounds_toArray, List.set_cons_zero, List.set_cons_succ]))
          refine held_nil (fun w9 hS9 => ?_)
          go_wp2_with fail
          refine (Aw.out _ (Hh.out _ (hb.trans (hS9.mono hBW)))).mono ?_
          rintro e wa ⟨rfl, ba⟩
          have oa := (((hO.grown hBW hS9).grown (Nat.le_trans hBW hS9.size) ba).foc (Bk (X0 + 1 + 1) 4 #[.bool false]))
          have Ba := Nat.le_trans (Nat.le_trans hBW hS9.size) ba.size
          have hba := (hb.trans (hS9.mono hBW)).trans (ba.mono (Nat.le_trans hBW hS9.size))
          have ka := oa.cell 0
          have za := oa.unfrozen 0
          have sa := oa.set Ba 0 (.bool true)
          have ta := oa.below_set 0 (.bool true)
          have Bs : X0 ≤ (wa.setCell ⟨X0 + 1 + 1, 0, none⟩ (.bool true)).heap.size := by simpa [World.setCell] using Ba
          have Fin := Lib.hid (And.intro Bs (And.intro sa (hba.trans ta)))
          clear ba oa hba sa ta Bs hO hb
          go_wp2
          refine ret_hp Fin.out.1 rfl (Fin.out.2.1.foc (Dk D)) (fun W' o => results_cell_bool rfl _ _ (X0 + 1 + 1) 0 _ rfl (o.cellOf (X0 + 1 + 1) 0)) (fun W' o b => ⟨rfl, by rw [hX0]; exact Fin.out.2.2.trans b⟩)
        · have hd1 : decide ((L : Int) < (N : Int)) = false := decide_eq_false hLN
          have hLe : L = N := by omega
          go_wp2
          refine wp_region_calm ?_
          refine wp_region_any mixed ?_
          refine wpAny_us (n := 15) [2] (by kernel_rfl) (by kernel_rfl) rfl (fun _ _ _ _ _ h => h) ?_
          simp only [List.filterMap_cons, List.filterMap_nil, List.getElem?_toArray, List.getElem?_cons_succ, List.getElem?_cons_zero]
          repeat (
            refine free_val ?_ rfl (fun w1 => ?_) ?_
            rotate_left
            · (go_simp
               try go_bits
               rfl)
            simp only [Act.put, List.setIfInBounds_toArray, List.set_cons_zero, List.set_cons_succ])
          refine free_nil ?_
          refine wpAny_pre [0, 1, 3, 4] (n := 11) (by kernel_rfl) rfl ?_
          simp only [List.filterMap_cons, List.filterMap_nil, List.getElem?_toArray, List.getElem?_cons_succ, List.getElem?_cons_zero]
          have k14d : W.drew.cell? ⟨X14, 0, none⟩ = some (.slice A' L c') := k14
          go_wp2
          refine wpAny_lmix (S := fun w1 => Below W.heap.size W w1) [] [8, 9] [5] [6, 7] [10, 11, 12, 13, 14, 15] (by kernel_rfl) rfl (fun _ _ _ _ _ h => h) ((Below.refl _ _).drew) ?_
          simp only [List.filterMap_cons, List.filterMap_nil, List.getElem?_toArray, List.getElem?_cons_succ, List.getElem?_cons_zero]
          repeat (
            refine free_val ?_ rfl (fun w1 => ?_) ?_
            rotate_left
            · (go_simp
               try go_bits
               rfl)
            simp only [Act.put, List.setIfInBounds_toArray, List.set_cons_zero, List.set_cons_succ])
          refine free_nil ?_
          repeat (first
            | (refine late_val ?_ rfl (fun w1 hS => ?_) ?_
               rotate_left
               · (have q10 := (hS.cell (p := ⟨X10, 0, none⟩) l10).trans c10; have sw := str_of_rd (HD.out.below hS)
                  go_simp
                  try go_bits
                  rfl)
               simp only [Act.put, List.setIfInBounds_toArray, List.set_cons_zero, List.set_cons_succ])
            | (refine late_off rfl ?_
               simp only [Act.put, List.setIfInBounds_toArray, List.set_cons_zero, List.set_cons_succ]))
          refine late_nil ?_
          repeat (first
            | (refine held_val ?_ rfl (fun w1 hS => ?_) ?_
               rotate_left
               · (have q14 := (hS.cell (p := ⟨X14, 0, none⟩) l14).trans k14
                  go_simp
                  try go_bits
                  rfl)
               simp only [Act.put, List.setIfInBounds_toArray, List.set_cons_zero, List.set_cons_succ])
            | (refine held_off rfl ?_
               simp only [Act.put, List.setIfInBounds_toArray, List.set_cons_zero, List.set_cons_succ]))
          refine held_nil (fun w8 hS8 => ?_)
          refine kept_call 23 _ rfl (by go_simp) ((J.out _ hS8 hLe).mono ?_)
          rintro e w9 ⟨v9, rfl, h9, b9⟩
          have hS9 := hS8.trans (b9.mono hS8.size)
          refine ⟨v9, rfl, hS9, ?_⟩
          have o9 := Own.fresh (Nat.le_refl _) (Own.start w8.heap.size w8) h9 b9
          obtain ⟨A9, c9, rfl⟩ := o9.row_n
          have s9 := str_of_rd o9.rd
          simp only [Act.put, List.setIfInBounds_toArray, List.set_cons_zero, List.set_cons_succ]
          refine kept_val (.string (str dt)) rfl (w1 := w9) (by go_simp) hS9 ?_
          simp only [Act.put, List.setIfInBounds_toArray, List.set_cons_zero, List.set_cons_succ]
          refine kept_nil ?_
          clear h9 b9 o9 hLe hLN
          go_wp2_with fail
          refine (Aw.out _ (Hh.out _ (hb.trans (hS9.mono hBW)))).mono ?_
          rintro e wa ⟨rfl, ba⟩
          have oa := (((hO.grown hBW hS9).grown (Nat.le_trans hBW hS9.size) ba).foc (Bk (X0 + 1 + 1) 4 #[.bool false]))
          have Ba := Nat.le_trans (Nat.le_trans hBW hS9.size) ba.size
          have hba := (hb.trans (hS9.mono hBW)).trans (ba.mono (Nat.le_trans hBW hS9.size))
          have ka := oa.cell 0
          have za := oa.unfrozen 0
          have sa := oa.set Ba 0 (.bool true)
          have ta := oa.below_set 0 (.bool true)
          have Bs : X0 ≤ (wa.setCell ⟨X0 + 1 + 1, 0, none⟩ (.bool true)).heap.size := by simpa [World.setCell] using Ba
          have Fin := Lib.hid (And.intro Bs (And.intro sa (hba.trans ta)))
          clear ba oa hba sa ta Bs hO hb
          go_wp2
          refine ret_hp Fin.out.1 rfl (Fin.out.2.1.foc (Dk D)) (fun W' o => results_cell_bool rfl _ _ (X0 + 1 + 1) 0 _ rfl (o.cellOf (X0 + 1 + 1) 0)) (fun W' o b => ⟨rfl, by rw [hX0]; exact Fin.out.2.2.trans b⟩)
      case stop =>
        intro D cd pre W hSp hBW hbW hO
        obtain ⟨rfl, hpl⟩ := hO.assoc.fact_out
        replace hO := hO.assoc.right
        obtain ⟨m, hm1, hm2, hm3⟩ := hSp
        have hml : pre.length = m := by have := congrArg List.length hm3; simpa using this
        have hmin : (if (N : Int) < (st : Int) + 1 then (N : Int) else (st : Int) + 1) = (pre.length : Int) := by
          by_cases h : (N : Int) < (st : Int) + 1
          · rw [if_pos h]; omega
          · rw [if_neg h]; omega
        have HL := Lib.hid (show pre.map (·.k) = List.range pre.length by rw [hml]; exact hm3)
        have HNL : Hid (pre.length ≤ N) := Lib.hid (by omega)
        clear hpl hm1 hm2 hm3 hml
        generalize pre = xs at *
        have hb := Hb12.out.trans hbW
        replace hO : Own X0 (PP f X14 xs * (PR * ((Bk Y0 22 #[.slice A l.length c] * Bk (Y0 + 1) 27 PA) * ((Bk (X10 + 1) 27 PA * Bk (X0 + 1 + 1) 4 #[.bool false]) * Dk D)))) W := hO.assoc
        unfold PP at hO
        obtain ⟨A', hO⟩ := hO.hex
        obtain ⟨c', hO⟩ := hO.hex
        replace hO : Own X0 (Bk X14 47 #[.slice A' xs.length c'] * (Rw 32 1 (.slice A' xs.length c') xs.length (xs.map (segV f)) * (SegL f xs * (Bk X0 3 #[.int .i64 (chn : Int)] * (Bk (X0 + 1) 5 #[.int .u8 (st : Int)] * (Bk X10 32 #[.slice Ad dt.length cd] * (Rw 5 1 (.slice Ad dt.length cd) dt.length (bytesU dt) * (Bk (X0 + 1 + 1) 4 #[.bool false] * (Dk D * (Bk Y0 22 #[.slice A l.length c] * (Bk (Y0 + 1) 27 PA * (Bk (X10 + 1) 27 PA * Emp)))))))))))) W := by
          rw [HPR.out] at hO
          exact hO.emp.cast (by ac_rfl)
        have k14 : W.cell? ⟨X14, 0, none⟩ = some (.slice A' xs.length c') := hO.cell 0
        have l14 := hO.bk.2.2
        have kst : W.cell? ⟨X0 + 1, 0, none⟩ = some (.int .u8 (st : Int)) := hO.cellOf (X0 + 1) 0
        have h10 := (hO.foc (Bk X10 32 #[.slice Ad dt.length cd]))
        have c10 : W.cell? ⟨X10, 0, none⟩ = some (.slice Ad dt.length cd) := h10.cell 0
        have l10 := h10.bk.2.2
        have HD := Lib.hid (hO.foc (Rw 5 1 (.slice Ad dt.length cd) dt.length (bytesU dt))).rd
        have hpl : (xs.map fun x => (segV f x, f x.k)).length = xs.length := by simp
        have hjp : xs.length = N → joinP (xs.map fun x => (segV f x, f x.k)) = dt := by
          intro e
          unfold joinP
          have h1 : xs.flatMap (fun x => f x.k) = (xs.map (·.k)).flatMap f := by rw [List.flatMap_map]
          rw [List.flatMap_map]
          show xs.flatMap (fun x => f x.k) = dt
          rw [h1, HL.out, e]
          exact JSf.out
        have hrp : RdP W A' (xs.map fun x => (segV f x, f x.k)) := by
          have e : (xs.map fun x => (segV f x, f x.k)).map (·.1) = xs.map (segV f) := by simp
          have hrow := hO.cast (sep_left_comm _ _ _)
          rw [← e] at hrow
          exact Own.rdP hpl.symm hrow (fun y hy => by
            obtain ⟨x, hx, rfl⟩ := List.mem_map.1 hy
            exact Own.segL_rd (hO.foc (SegL f xs)) x hx)
        have J : ∀ w1, Below W.heap.size W w1 → xs.length = N → Calls Tryd.prog 23 #[.slice A' xs.length c'] w1 (RetB w1 dt) := fun w1 b e => by
          have := join_any A' c' (xs.map fun x => (segV f x, f x.k)) (by rw [hpl]; omega) (by rw [hjp e]; omega) w1 (hrp.below b)
          rw [hpl, hjp e] at this
          exact this
        have J := Lib.hid J
        have hLN0 := HNL.out
        clear hpl hjp hrp h10 hbW CI JSf hb12 hO12 RC FCf HL HNL
        generalize xs.length = L at *
        have L0 : (0 : Int) ≤ (L : Int) := by omega
        have L1 : (L : Int) ≤ 2400 := by omega
        have stb : (st : Int) < 256 := by omega
        have st0 : (0 : Int) ≤ (st : Int) := by omega
        by_cases hLN : (L : Int) < (N : Int)
        · have hd1 : decide ((L : Int) < (N : Int)) = true := decide_eq_true hLN
          go_wp2
          refine wp_region_mix (fun w1 => Below W.heap.size W w1) [0, 1, 2, 3, 4, 5, 6, 7, 8, 9, 10, 11, 12] [13, 14, 15] mixed (by kernel_rfl) rfl ((Below.refl _ _).drew) ?_
          simp only [List.filterMap_cons, List.filterMap_nil, List.getElem?_toArray, List.getElem?_cons_succ, List.getElem?_cons_zero]
          repeat (first
            | (refine held_val ?_ rfl (fun w1 hS => ?_) ?_
               rotate_left
               · (have q14 := (hS.cell (p := ⟨X14, 0, none⟩) l14).trans k14
                  go_simp
                  try go_bits
                  rfl)
               simp only [Act.put, List.setIfInBounds_toArray, List.set_cons_zero, List.set_cons_succ])
            | (refine held_off rfl ?_
               simp only [Act.put, List.setIfInBounds_toArray, List.set_cons_zero, List.set_cons_succ]))
          refine held_nil (fun w9 hS9 => ?_)
          go_wp2_with fail
          refine (Aw.out _ (Hh.out _ (hb.trans (hS9.mono hBW)))).mono ?_
          rintro e wa ⟨rfl, ba⟩
          have oa := (((hO.grown hBW hS9).grown (Nat.le_trans hBW hS9.size) ba).foc (Bk (X0 + 1 + 1) 4 #[.bool false]))
          have Ba := Nat.le_trans (Nat.le_trans hBW hS9.size) ba.size
          have hba := (hb.trans (hS9.mono hBW)).trans (ba.mono (Nat.le_trans hBW hS9.size))
          have ka := oa.cell 0
          have za := oa.unfrozen 0
          have sa := oa.set Ba 0 (.bool true)
          have ta := oa.below_set 0 (.bool true)
          have Bs : X0 ≤ (wa.setCell ⟨X0 + 1 + 1, 0, none⟩ (.bool true)).heap.size := by simpa [World.setCell] using Ba
          have Fin := Lib.hid (And.intro Bs (And.intro sa (hba.trans ta)))
          clear ba oa hba sa ta Bs hO hb
          go_wp2
          refine ret_hp Fin.out.1 rfl (Fin.out.2.1.foc (Dk D)) (fun W' o => results_cell_bool rfl _ _ (X0 + 1 + 1) 0 _ rfl (o.cellOf (X0 + 1 + 1) 0)) (fun W' o b => ⟨rfl, by rw [hX0]; exact Fin.out.2.2.trans b⟩)
        · have hd1 : decide ((L : Int) < (N : Int)) = false := decide_eq_false hLN
          have hLe : L = N := by omega
          go_wp2
          refine wp_region_calm ?_
          refine wp_region_any mixed ?_
          refine wpAny_us (n := 15) [2] (by kernel_rfl) (by kernel_rfl) rfl (fun _ _ _ _ _ h => h) ?_
          simp only [List.filterMap_cons, List.filterMap_nil, List.getElem?_toArray, List.getElem?_cons_succ, List.getElem?_cons_zero]
          repeat (
            refine free_val ?_ rfl (fun w1 => ?_) ?_
            rotate_left
            · (go_simp
               try go_bits
               rfl)
            simp only [Act.put, List.setIfInBounds_toArray, List.set_cons_zero, List.set_cons_succ])
          refine free_nil ?_
          refine wpAny_pre [0, 1, 3, 4] (n := 11) (by kernel_rfl) rfl ?_
          simp only [List.filterMap_cons, List.filterMap_nil, List.getElem?_toArray, List.getElem?_cons_succ, List.getElem?_cons_zero]
          have k14d : W.drew.cell? ⟨X14, 0, none⟩ = some (.slice A' L c') := k14
          go_wp2
          refine wpAny_lmix (S := fun w1 => Below W.heap.size W w1) [] [8, 9] [5] [6, 7] [10, 11, 12, 13, 14, 15] (by kernel_rfl) rfl (fun _ _ _ _ _ h => h) ((Below.refl _ _).drew) ?_
          simp only [List.filterMap_cons, List.filterMap_nil, List.getElem?_toArray, List.getElem?_cons_succ, List.getElem?_cons_zero]
          repeat (
            refine free_val ?_ rfl (fun w1 => ?_) ?_
            rotate_left
            · (go_simp
               try go_bits
               rfl)
            simp only [Act.put, List.setIfInBounds_toArray, List.set_cons_zero, List.set_cons_succ])
          refine free_nil ?_
          repeat (first
            | (refine late_val ?_ rfl (fun w1 hS => ?_) ?_
               rotate_left
               · (have q10 := (hS.cell (p := ⟨X10, 0, none⟩) l10).trans c10; have sw := str_of_rd (HD.out.below hS)
                  go_simp
                  try go_bits
                  rfl)
               simp only [Act.put, List.setIfInBounds_toArray, List.set_cons_zero, List.set_cons_succ])
            | (refine late_off rfl ?_
               simp only [Act.put, List.setIfInBounds_toArray, List.set_cons_zero, List.set_cons_succ]))
          refine late_nil ?_
          repeat (first
            | (refine held_val ?_ rfl (fun w1 hS => ?_) ?_
               rotate_left
               · (have q14 := (hS.cell (p := ⟨X14, 0, none⟩) l14).trans k14
                  go_simp
                  try go_bits
                  rfl)
               simp only [Act.put, List.setIfInBounds_toArray, List.set_cons_zero, List.set_cons_succ])
            | (refine held_off rfl ?_
               simp only [Act.put, List.setIfInBounds_toArray, List.set_cons_zero, List.set_cons_succ]))
          refine held_nil (fun w8 hS8 => ?_)
          refine kept_call 23 _ rfl (by go_simp) ((J.out _ hS8 hLe).mono ?_)
          rintro e w9 ⟨v9, rfl, h9, b9⟩
          have hS9 := hS8.trans (b9.mono hS8.size)
          refine ⟨v9, rfl, hS9, ?_⟩
          have o9 := Own.fresh (Nat.le_refl _) (Own.start w8.heap.size w8) h9 b9
          obtain ⟨A9, c9, rfl⟩ := o9.row_n
          have s9 := str_of_rd o9.rd
          simp only [Act.put, List.setIfInBounds_toArray, List.set_cons_zero, List.set_cons_succ]
          refine kept_val (.string (str dt)) rfl (w1 := w9) (by go_simp) hS9 ?_
          simp only [Act.put, List.setIfInBounds_toArray, List.set_cons_zero, List.set_cons_succ]
          refine kept_nil ?_
          clear h9 b9 o9 hLe hLN
          go_wp2_with fail
          refine (Aw.out _ (Hh.out _ (hb.trans (hS9.mono hBW)))).mono ?_
          rintro e wa ⟨rfl, ba⟩
          have oa := (((hO.grown hBW hS9).grown (Nat.le_trans hBW hS9.size) ba).foc (Bk (X0 + 1 + 1) 4 #[.bool false]))
          have Ba := Nat.le_trans (Nat.le_trans hBW hS9.size) ba.size
          have hba := (hb.trans (hS9.mono hBW)).trans (ba.mono (Nat.le_trans hBW hS9.size))
          have ka := oa.cell 0
          have za := oa.unfrozen 0
          have sa := oa.set Ba 0 (.bool true)
          have ta := oa.below_set 0 (.bool true)
          have Bs : X0 ≤ (wa.setCell ⟨X0 + 1 + 1, 0, none⟩ (.bool true)).heap.size := by simpa [World.setCell] using Ba
          have Fin := Lib.hid (And.intro Bs (And.intro sa (hba.trans ta)))
          clear ba oa hba sa ta Bs hO hb
          go_wp2
          refine ret_hp Fin.out.1 rfl (Fin.out.2.1.foc (Dk D)) (fun W' o => results_cell_bool rfl _ _ (X0 + 1 + 1) 0 _ rfl (o.cellOf (X0 + 1 + 1) 0)) (fun W' o b => ⟨rfl, by rw [hX0]; exact Fin.out.2.2.trans b⟩)
    · have hz' : (whyE (ents (l.map (·.1))) == 0) = false := by simpa using hz
      rw [hz'] at R1
      clear h hr hf f3 hw
      refine (callsIn_wide (n := 5)).1 (callsIn_of_wp_marks Tryd.func5 rfl trivial (wpIn_wide.2 ?_) rfl)
      simp only [Tryd.ntmps5, List.size_toArray, List.length_cons, List.length_nil, Nat.reduceAdd, Nat.reduceSub, Array.replicate_succ, Array.replicate_zero, List.push_toArray, List.append_toArray, List.nil_append, List.cons_append]
      go_wp2_with fail
      refine (Fe.out).mono ?_
      rintro e wz ⟨rfl, rfl⟩
      go_wp2_with fail
      refine (R1.out _ (Hh.out _ hb) (Hr.out _ hb)).mono ?_
      rintro e w1 ⟨rfl, b⟩
      have o0' := o0.grown hb.size b
      replace hb := hb.trans (b.mono hb.size)
      clear b o0
      go_wp2_with fail
      refine (Aw.out _ (Hh.out _ hb)).mono ?_
      rintro e w1 ⟨rfl, b⟩
      have o1 := (o0').grown hb.size b
      have hb1 := hb.trans (b.mono hb.size)
      have k1 := o1.cell 0
      have z1 := o1.unfrozen 0
      have o2 := o1.set hb1.size 0 (.bool true)
      have b2 := o1.below_set 0 (.bool true)
      clear hb b
      go_wp2
      exact ⟨_, results_cell_bool rfl _ _ (w.heap.size + 1 + 1) 0 _ rfl (o2.cell 0), rfl, hb1.trans b2⟩
  · rw [decide_eq_false hf] at Fe
    clear h hr hf hw
    refine (callsIn_wide (n := 5)).1 (callsIn_of_wp_marks Tryd.func5 rfl trivial (wpIn_wide.2 ?_) rfl)
    simp only [Tryd.ntmps5, List.size_toArray, List.length_cons, List.length_nil, Nat.reduceAdd, Nat.reduceSub, Array.replicate_succ, Array.replicate_zero, List.push_toArray, List.append_toArray, List.nil_append, List.cons_append]
    go_wp2_with fail
    refine (Fe.out).mono ?_
    rintro e wz ⟨rfl, rfl⟩
    go_wp2_with fail
    refine (Aw.out _ (Hh.out _ hb)).mono ?_
    rintro e w1 ⟨rfl, b⟩
    have o1 := (o0).grown hb.size b
    have hb1 := hb.trans (b.mono hb.size)
    have k1 := o1.cell 0
    have z1 := o1.unfrozen 0
    have o2 := o1.set hb1.size 0 (.bool true)
    have b2 := o1.below_set 0 (.bool true)
    clear hb b
    go_wp2
    exact ⟨_, results_cell_bool rfl _ _ (w.heap.size + 1 + 1) 0 _ rfl (o2.cell 0), rfl, hb1.trans b2⟩
end Go.Proofs.YtmppagiaonbggaaDoor
