/- Texts of one proof, merged: XHo XHp. -/
import Derived.Test.YtmppagiaonbggaaDoorUl
import Derived.Test.YtmppagiaonbggaaDoorRows
import Derived.Lib.LaidU8
/- The walk over Digest of the reference, and over SourcePlans. -/
namespace Go.Proofs.YtmppagiaonbggaaDoor
set_option linter.unusedVariables false
set_option linter.unusedSimpArgs false
set_option maxRecDepth 100000
open Go.RowKit

set_option maxHeartbeats 3200000 in
theorem refdig_any (A : Option Addr) (c : Nat) (l : List En) (hl : l.length ≤ 1024) (hx : ∀ e ∈ l, e.num) (hel : (encL l).length ≤ 1000000) (Ad : Option Addr) (cd : Nat) (b : List UInt8) (hbl : b.length ≤ 4194304) (w : World) (hr : RdA 7 enL w A l) (hrb : Rd w (.slice Ad b.length cd) (bytesU b)) :
    Calls Tryd.prog 15 #[.slice A l.length c, .slice Ad b.length cd] w (RetB w (shaF tableN (encL l ++ b))) := by
  have HE := Lib.hid (refenc_any A c l hl hx w hr)
  have Hrb := Lib.hid (fun W (h : Below w.heap.size w W) => hrb.below h)
  clear hr hrb
  have hlen : (encL l ++ b).length ≤ 100000000 := by rw [List.length_append]; omega
  have HF := Lib.hid (fun A c w hr => refsha_any A c (encL l ++ b) hlen w hr)
  generalize shaF tableN (encL l ++ b) = res at *
  clear hlen
  go_enter Tryd.func15, Tryd.ntmps15
  go_wp2_with fail
  refine HE.out.mono ?_
  rintro e w1 ⟨v1, rfl, h1, b1⟩
  have o1 := Own.fresh (Nat.le_refl _) (Own.start w.heap.size w) h1 b1
  obtain ⟨A1, c1, rfl⟩ := o1.row_n
  obtain ⟨v2, w2, hrun, o2, b2⟩ := byte_append b1.size o1 (Hrb.out _ b1) (by omega)
  obtain ⟨A2, c2, rfl⟩ := o2.row_n
  have hb2 := b1.trans b2
  have Hrun := Lib.hid hrun
  have HF2 := Lib.hid (HF.out A2 c2 w2 o2.rd)
  clear hrun o1 o2 h1 b1 b2 HF HE
  generalize encL l ++ b = eb at *
  go_wp2_with (at_builtin; refine wpList_append_run rfl (.tmp 6) (.tmp 7) 32 rfl rfl rfl Hrun.out ?_)
  refine HF2.out.mono ?_
  rintro e w3 ⟨v3, rfl, h3, b3⟩
  have o3 := Own.fresh hb2.size (Own.start w.heap.size w2) h3 b3
  have hb3 := hb2.trans (b3.mono hb2.size)
  clear h3 b3
  go_wp2
  go_ret
  exact ⟨_, rfl, o3.row, hb3⟩
theorem eql_plan0 (w : World) : (binOp .eql 27 (.agg (pnL zeroPn).toArray) (.agg (pnL zeroPn).toArray)).run Tryd.prog w = .ok (.bool true) w := by kernel_rfl
theorem wpList_exec {P : Program} {ops : Array Oper} {Q : Exit → Act → World → Prop} {rest : List Oper} {o : Oper} {a : Act} {w w' : World} (hw : Region.wanted o (yielded ops a.tmps) = true) {v : Value} (h : (execOp a.eval o).run P w = .ok (.value v) w')
    (hK : wpList P ops Q rest (a.put o.dst v) w') : wpList P ops Q (o :: rest) a w :=
  wpList_step fun K hk => by
    rw [if_pos hw]
    unfold Oper.wp
    rw [h]
    exact hk _ _ hK
theorem exec_build0 {P : Program} {a : Act} {o : Oper} {w : World} {ty : TypeId} {v : Value} (ho : o.op = .build ty #[]) (h : (Instr.build ty #[]).run P w = .ok v w) : (execOp a.eval o).run P w = .ok (.value v) w := by
  unfold execOp
  simp only [ho, List.map_toArray, List.map_nil, Sem.run_bind, h, Result.andThen_ok, Sem.run_pure]
theorem exec_eql {P : Program} {a : Act} {o : Oper} {w : World} {ty t' : TypeId} {x y : Operand} {vx vy v : Value} (ho : o.op = .binOp .eql ty x y t') (hx : a.eval x = vx) (hy : a.eval y = vy)
    (h : (eqGuard .eql ty x y vx vy).run P w = .ok () w) (h2 : (binOp .eql ty vx vy).run P w = .ok v w) : (execOp a.eval o).run P w = .ok (.value v) w := by
  unfold execOp
  simp only [ho, hx, hy, Sem.run_bind, h, h2, Result.andThen_ok, Sem.run_pure]
theorem guard_plan0 (x y : Operand) (w : World) : (eqGuard .eql 27 x y (.agg (pnL zeroPn).toArray) (.agg (pnL zeroPn).toArray)).run Tryd.prog w = .ok () w := by kernel_rfl
set_option maxRecDepth 100000 in
set_option maxHeartbeats 6400000 in
theorem plans_walk (A : Option Addr) (c : Nat) (l : List (Fi × Value)) (hl : l.length ≤ 9223372036854775807) (hw : ∀ x ∈ l, x.1.wide) (ch wi : Int) (hch : okI ch) (hwi : okI wi) (w : World) (hT : w.heap[0]? = some (.cells (u32A tableN) 96)) (h : Sh w) (hr : RdF w A l) :
    Calls Tryd.prog 3 #[.slice A l.length c, .int .i64 ch, .int .i64 wi] w fun e w' => e = .returned (.bool true) ∧ Below w.heap.size w w' := by
  have hb := Below.refl w.heap.size w
  have Hh := Lib.hid (fun w1 (b : Below w.heap.size w w1) => sh_below h b)
  have Aw := Lib.hid (fun w1 h1 => awakeS_any w1 h1)
  have Hr := Lib.hid (fun w1 (b : Below w.heap.size w w1) => hr.below b)
  have Fe := Lib.hid (few_any A c l hl hw w hr)
  by_cases hf : fewP (l.map (·.1))
  · rw [decide_eq_true hf] at Fe
    obtain ⟨f1, f2, f3⟩ := few_ok hw hf
    have Pl := Lib.hid (plan_ex A c l (by omega) (by omega) f3 ch wi hch hwi tableN rfl w hT h hr)
    have T := Lib.hid (fun w1 hr => toldS_any A c l (by omega) (by omega) w1 hr)
    unfold RetTold at T
    simp only [List.length_map] at T
    have hek := ents_ok (l := l.map (·.1)) (by intro f hf; obtain ⟨x, hx, rfl⟩ := List.mem_map.1 hf; exact f3 x hx) (by omega)
    have hel : (ents (l.map (·.1))).length = l.length := by unfold ents; rw [entsFrom_length, List.length_map]
    have Wy := Lib.hid (fun A c w1 hr => refwhy_any A c (ents (l.map (·.1))) (by omega) (fun e he => (hek e he).1) (fun e he => (hek e he).2) w1 hr)
    rw [hel] at Wy
    have S1 := Lib.hid (fun w1 h1 hr => stream_any A c l (by omega) (by omega) f3 w1 h1 hr)
    have hd24 : (dataL (l.map (·.1))).length ≤ 2400 := by rw [dataL_length]; exact f2
    have hinf2 : ∀ p : Pn, p.dg.length = 32 → (Tryd.prog.info? 27).map (·.size) = some (pnL p).toArray.size := fun p hp => by rw [pnL_size hp]; exact infoPlan
    by_cases hz : whyE (ents (l.map (·.1))) = 0
    · by_cases ho : okCW ch wi
      · have hst : streamP (l.map (·.1)) = dataL (l.map (·.1)) := if_pos hz
        rw [hst] at S1
        have HF1 := fineB_ents hz
        have Dg := Lib.hid (fun A c Ad cd w1 h1 h2 => refdig_any A c (ents (l.map (·.1))) (by omega) (fine_num HF1) (encL_le HF1) Ad cd (dataL (l.map (·.1))) (by omega) w1 h1 h2)
        rw [hel] at Dg
        rw [hz] at Wy
        have HPp : Hid (∀ p z, planX tableN (l.map (·.1)) ch wi p z → p = ⟨ch, wi, ((dataL (l.map (·.1))).length : Int), shaF tableN (encL (ents (l.map (·.1))) ++ dataL (l.map (·.1)))⟩ ∧ z = 0) := Lib.hid (fun p z hp => by
          obtain ⟨⟨h1, h2, h3, h4⟩, h5⟩ := hp
          obtain ⟨p1, p2, p3, p4⟩ := h4 hz ho
          have p5 := h5 hz ho
          refine ⟨?_, p4⟩
          cases p
          simp only at p1 p2 p3 p5
          rw [p1, p2, p3, p5, dataL_length])
        have hDl := shaF_length tableN (encL (ents (l.map (·.1))) ++ dataL (l.map (·.1)))
        obtain ⟨o1', o2', o3', o4'⟩ := ho
        clear h hr hf f3 hek hst hz hw HF1 hT
        generalize shaF tableN (encL (ents (l.map (·.1))) ++ dataL (l.map (·.1))) = D at *
        generalize ents (l.map (·.1)) = es at *
        generalize dataL (l.map (·.1)) = dt at *
        have hinf := hinf2 ⟨ch, wi, (dt.length : Int), D⟩ hDl
        have Hz : Hid (z35.size = (pnL ⟨ch, wi, (dt.length : Int), D⟩).toArray.size) := Lib.hid (by rw [pnL_size hDl]; rfl)
        have Hpo := Lib.hid (pnL_one ⟨ch, wi, (dt.length : Int), D⟩)
        have k0 : (pnL ⟨ch, wi, (dt.length : Int), D⟩).toArray[0]? = some (.int .i64 ch) := rfl
        have k1 : (pnL ⟨ch, wi, (dt.length : Int), D⟩).toArray[1]? = some (.int .i64 wi) := rfl
        have k2 : (pnL ⟨ch, wi, (dt.length : Int), D⟩).toArray[2]? = some (.int .i64 (dt.length : Int)) := rfl
        have k3 : ∀ j u, (bytesU D)[j]? = some u → (pnL ⟨ch, wi, (dt.length : Int), D⟩).toArray[3 + j]? = some u := fun j u hu => by
          simp only [pnL, List.getElem?_toArray]
          rw [show 3 + j = j + 1 + 1 + 1 by omega, List.getElem?_cons_succ, List.getElem?_cons_succ, List.getElem?_cons_succ]
          exact hu
        clear hinf2
        have HPA : Hid (∀ p z, planX tableN (l.map (·.1)) ch wi p z → (pnL p).toArray = (pnL ⟨ch, wi, (dt.length : Int), D⟩).toArray ∧ z = 0) := Lib.hid fun p z hp => by
          obtain ⟨h1, h2⟩ := HPp.out p z hp
          exact ⟨by rw [h1], h2⟩
        clear HPp
        generalize (pnL ⟨ch, wi, (dt.length : Int), D⟩).toArray = PA at *
        have hd0 : (dt.length : Int) ≤ 2400 := by omega
        go_enter Tryd.func3, Tryd.ntmps3
        go_wp2_with fail
        refine (Fe.out).mono ?_
        rintro e wz ⟨rfl, rfl⟩
        go_wp2_with fail
        refine Pl.out.mono ?_
        rintro e w1 ⟨p, z, hp, rfl, b⟩
        obtain ⟨hp1, rfl⟩ := HPA.out p z hp
        rw [hp1]
        replace hb := hb.trans b
        clear HPA Pl hp1 hp
        have o1 := (Own.start w1.heap.size w1).new (Nat.le_refl _) 27 z35
        have hb1 := hb.alloc hb.size (.cells z35 27)
        obtain ⟨B2, o2, b2⟩ := o1.setRow (by simp) PA
        have hb2 := hb1.trans (b2.mono hb.size)
        have Hh1 := Lib.hid o1.bk.1
        have Hh2 := Lib.hid o2.bk.1
        unfold z35 at Hh1 Hh2 hb2
        clear o1 o2 b2 B2 hb1 b
        go_wp2_with first
          | (refine wpList_plain rfl fun _ hK => wp_store_row 27 (.tmp 7) (.tmp 21) rfl w1.heap.size PA rfl rfl 27 _ Hh1.out hinf Hz.out Hpo.out (hK _ _ ?_))
        have hX : ((w1.alloc (.cells z35 27)).setRow w1.heap.size PA).heap.size = w1.heap.size + 1 := by simp [World.setRow]
        unfold z35 at hX
        generalize hW2 : (w1.alloc (.cells _ 27)).setRow w1.heap.size PA = w2 at *
        clear hW2 Hh1
        refine (T.out _ (Hr.out _ hb2)).mono ?_
        rintro e w3 ⟨Ax, cx, Ad, cd, rfl, kx, rx, rd, b⟩
        have oD := Own.fresh (Nat.le_refl _) (Own.start w2.heap.size w2) rd b
        have dx := oD.rd
        have hb := hb2.trans (b.mono hb2.size)
        have HhP := (b.block w1.heap.size (by omega)).trans Hh2.out
        clear b rd T Hh2 oD hX hb2
        go_wp2_with fail
        refine (Wy.out _ _ _ rx).mono ?_
        rintro e w4 ⟨rfl, b⟩
        have rx := rx.below b
        have dx := dx.below b
        have HhP := (b.block w1.heap.size (Array.getElem?_eq_some_iff.1 HhP).1).trans HhP
        replace hb := hb.trans (b.mono hb.size)
        clear b Wy
        generalize w1.heap.size = X at *
        have hXl := (Array.getElem?_eq_some_iff.1 HhP).1
        have hr4 := Hr.out _ hb
        have hh4 := Hh.out _ hb
        have KC := Lib.hid (fun (W : World) (hk : ∀ k, k < w4.heap.size → W.heap[k]? = w4.heap[k]?) => show W.heap[X]? = some (.cells PA 27 (0, 0)) from (hk X hXl).trans HhP)
        have hDD : ((str D).toList == (str D).toList) = true := by simp
        have hdd : ((str dt).toList == (str dt).toList) = true := by simp
        go_wp2
        refine wp_region_split 32 11 mixed (by kernel_rfl) (by kernel_rfl) ?_
        simp only [List.extract_toArray, List.extract, Nat.sub_zero, List.drop_zero, List.take_succ_cons, List.take_zero]
        refine wpAny_ltwo (B := w4.heap.size) [] [0, 1, 2, 3, 4, 5, 6, 7, 8, 9, 10, 11, 12, 13, 14, 15, 16, 17, 18, 19, 20, 21, 22, 23, 24, 25, 26] [27, 28] [] [29, 30, 31] (Kept w4.heap.size w4) Emp (Kept w4.heap.size w4) (by kernel_rfl) rfl (fun _ _ _ _ _ h => h) (Nat.le_refl _) ((((Own.start w4.heap.size w4).kept (Below.refl _ _) (Nat.le_refl _)).left.emp.kept (Below.refl _ _) (Nat.le_refl _)).drew (Nat.le_refl _)) ?_
        simp only [List.filterMap_cons, List.filterMap_nil, List.getElem?_toArray, List.getElem?_cons_succ, List.getElem?_cons_zero]
        refine free_nil ?_
        repeat (first
          | (refine late_val ?_ rfl (fun w1 hS => ?_) ?_
             rotate_left
             · (have q := KC.out w1 hS.keptR; have c0 := (cell_of_row w1 X 0 PA _ (0, 0) q).trans k0; have c1 := (cell_of_row w1 X 1 PA _ (0, 0) q).trans k1; have c2 := (cell_of_row w1 X 2 PA _ (0, 0) q).trans k2; have s1 := str_of_rd (show Rd w1 (.slice (some ⟨X, 3, none⟩) 32 32) (bytesU D) from ⟨_, 32, by rw [bytesU_length, hDl], fun _ => ⟨_, rfl, fun j u hu => by rw [Addr.add_lit]; exact (cell_of_row w1 X (3 + j) PA _ (0, 0) q).trans (k3 j u hu)⟩⟩)
                go_simp
                try go_bits
                rfl)
             simp only [Act.put, List.setIfInBounds_toArray, List.set_cons_zero, List.set_cons_succ])
          | (refine late_off rfl ?_
             simp only [Act.put, List.setIfInBounds_toArray, List.set_cons_zero, List.set_cons_succ]))
        refine late_nil ?_
        refine ⟨fun vs F => ∃ v1, vs = [v1, .string (str D)], fun vs F => vs = [], ?_, ?_, ?_⟩
        · simp only [opsOf, List.filterMap_cons, List.filterMap_nil, List.getElem?_toArray, List.getElem?_cons_succ, List.getElem?_cons_zero]
          refine tw_call 15 #[.slice Ax l.length cx, .slice Ad dt.length cd] (fun v F => ∃ A6 c6, v = .slice A6 D.length c6 ∧ F = Rw 5 1 (.slice A6 D.length c6) D.length (bytesU D)) rfl (fun R1 _ w1 hS => by go_simp) (fun R1 _ w1 hB1 hS => (Dg.out _ _ _ _ w1 (rx.kept hS.kept_out hB1) (dx.kept hS.kept_out)).mono ?_) ?_
          · rintro e w5 ⟨v6, rfl, ho6, b6⟩
            have o6 := Own.fresh hB1 hS.right ho6 b6
            obtain ⟨A6, c6, rfl⟩ := o6.row_n
            exact ⟨_, _, rfl, ⟨inferInstance, A6, c6, rfl, rfl⟩, o6, b6.mono hB1⟩
          · rintro v6 F6 _ ⟨A6, c6, rfl, rfl⟩
            simp only [Act.put, List.setIfInBounds_toArray, List.set_cons_zero, List.set_cons_succ]
            refine tw_val (.string (str D)) rfl (fun R1 _ w1 hS => ?_) ?_
            · have s7 := str_of_rd hS.rd
              rw [hDl] at s7
              go_simp
            · exact tw_nil ⟨_, rfl⟩
        · simp only [opsOf, List.filterMap_cons, List.filterMap_nil, List.getElem?_toArray, List.getElem?_cons_succ, List.getElem?_cons_zero]
          exact tw_nil rfl
        · rintro vs1 F1 vs2 F2 w5 ⟨x1, rfl⟩ rfl o5 b5
          simp only [opsOf, putAll, Act.put, List.filterMap_cons, List.filterMap_nil, List.getElem?_toArray, List.getElem?_cons_succ, List.getElem?_cons_zero, List.setIfInBounds_toArray, List.set_cons_zero, List.set_cons_succ]
          have b5 := ((Below.refl w4.heap.size w4).drew).trans b5
          replace hb := hb.trans (b5.mono hb.size)
          have dx := dx.below b5
          clear o5 b5 hr4 hh4 KC HhP hXl rx Dg k0 k1 k2 k3
          have hr5 := Hr.out _ hb
          have hh5 := Hh.out _ hb
          go_wp2
          refine wpAny_ltwo (B := w5.heap.size) [] [32, 35, 36] [33, 34] [] [37, 38, 39, 40, 41, 42] (Kept w5.heap.size w5) Emp (Kept w5.heap.size w5) (by kernel_rfl) rfl (fun _ _ _ _ _ h => h) (Nat.le_refl _) (((Own.start w5.heap.size w5).kept (Below.refl _ _) (Nat.le_refl _)).left.emp.kept (Below.refl _ _) (Nat.le_refl _)) ?_
          simp only [List.filterMap_cons, List.filterMap_nil, List.getElem?_toArray, List.getElem?_cons_succ, List.getElem?_cons_zero]
          refine free_nil ?_
          repeat (first
            | (refine late_val ?_ rfl (fun w1 hS => ?_) ?_
               rotate_left
               · (have s1 := str_of_rd (dx.kept hS.keptR)
                  go_simp
                  try go_bits
                  rfl)
               simp only [Act.put, List.setIfInBounds_toArray, List.set_cons_zero, List.set_cons_succ])
            | (refine late_off rfl ?_
               simp only [Act.put, List.setIfInBounds_toArray, List.set_cons_zero, List.set_cons_succ]))
          refine late_nil ?_
          refine ⟨fun vs F => ∃ v1, vs = [v1, .string (str dt)], fun vs F => vs = [], ?_, ?_, ?_⟩
          · simp only [opsOf, List.filterMap_cons, List.filterMap_nil, List.getElem?_toArray, List.getElem?_cons_succ, List.getElem?_cons_zero]
            refine tw_call 14 #[.slice A l.length c] (fun v F => ∃ A6 c6, v = .slice A6 dt.length c6 ∧ F = Rw 5 1 (.slice A6 dt.length c6) dt.length (bytesU dt)) rfl (fun R1 _ w1 hS => by go_simp) (fun R1 _ w1 hB1 hS => (S1.out w1 (sh_kept hh5 hS.kept_out hB1) (hr5.kept hS.kept_out hB1)).mono ?_) ?_
            · rintro e w6 ⟨v6, rfl, ho6, b6⟩
              have o6 := Own.fresh hB1 hS.right ho6 b6
              obtain ⟨A6, c6, rfl⟩ := o6.row_n
              exact ⟨_, _, rfl, ⟨inferInstance, A6, c6, rfl, rfl⟩, o6, b6.mono hB1⟩
            · rintro v6 F6 _ ⟨A6, c6, rfl, rfl⟩
              simp only [Act.put, List.setIfInBounds_toArray, List.set_cons_zero, List.set_cons_succ]
              refine tw_val (.string (str dt)) rfl (fun R1 _ w1 hS => ?_) ?_
              · have s7 := str_of_rd hS.rd
                go_simp
              · exact tw_nil ⟨_, rfl⟩
          · simp only [opsOf, List.filterMap_cons, List.filterMap_nil, List.getElem?_toArray, List.getElem?_cons_succ, List.getElem?_cons_zero]
            exact tw_nil rfl
          · rintro vs1 F1 vs2 F2 w6 ⟨x1, rfl⟩ rfl o6 b6
            simp only [opsOf, putAll, Act.put, List.filterMap_cons, List.filterMap_nil, List.getElem?_toArray, List.getElem?_cons_succ, List.getElem?_cons_zero, List.setIfInBounds_toArray, List.set_cons_zero, List.set_cons_succ]
            replace hb := hb.trans (b6.mono hb.size)
            clear o6 b6 hr5 hh5 dx S1
            go_wp2_with fail
            refine (Aw.out _ (Hh.out _ hb)).mono ?_
            rintro e wz ⟨rfl, b⟩
            replace hb := hb.trans (b.mono hb.size)
            clear b
            go_wp2
            go_ret
            exact ⟨rfl, hb⟩
      · have hst : streamP (l.map (·.1)) = dataL (l.map (·.1)) := if_pos hz
        rw [hst] at S1
        rw [hz] at Wy
        have HPA : Hid (∀ p z, planX tableN (l.map (·.1)) ch wi p z → (pnL p).toArray = (pnL zeroPn).toArray ∧ z = 1) := Lib.hid (fun p z hp => by
          obtain ⟨h1, h2⟩ := hp.1.2.2.1 hz ho
          exact ⟨by rw [h1], h2⟩)
        have Hno : Hid (¬ okCW ch wi) := Lib.hid ho
        have heq := eql_plan0
        have hbu := build_plan0
        have hgu := guard_plan0
        have hinf := hinf2 zeroPn rfl
        have Hz : Hid (z35.size = (pnL zeroPn).toArray.size) := Lib.hid rfl
        have Hpo := Lib.hid (pnL_one zeroPn)
        clear h hr hf f3 hek hst hz hw hT ho hinf2
        generalize ents (l.map (·.1)) = es at *
        generalize dataL (l.map (·.1)) = dt at *
        generalize (pnL zeroPn).toArray = PA at *
        have hd0 : (dt.length : Int) ≤ 2400 := by omega
        go_enter Tryd.func3, Tryd.ntmps3
        go_wp2_with fail
        refine (Fe.out).mono ?_
        rintro e wz ⟨rfl, rfl⟩
        go_wp2_with fail
        refine Pl.out.mono ?_
        rintro e w1 ⟨p, z, hp, rfl, b⟩
        obtain ⟨hp1, rfl⟩ := HPA.out p z hp
        rw [hp1]
        replace hb := hb.trans b
        clear HPA Pl hp1 hp
        have o1 := (Own.start w1.heap.size w1).new (Nat.le_refl _) 27 z35
        have hb1 := hb.alloc hb.size (.cells z35 27)
        obtain ⟨B2, o2, b2⟩ := o1.setRow (by simp) PA
        have hb2 := hb1.trans (b2.mono hb.size)
        have Hh1 := Lib.hid o1.bk.1
        have Hh2 := Lib.hid o2.bk.1
        unfold z35 at Hh1 Hh2 hb2
        clear o1 o2 b2 B2 hb1 b
        go_wp2_with first
          | (refine wpList_plain rfl fun _ hK => wp_store_row 27 (.tmp 7) (.tmp 21) rfl w1.heap.size PA rfl rfl 27 _ Hh1.out hinf Hz.out Hpo.out (hK _ _ ?_))
        have hX : ((w1.alloc (.cells z35 27)).setRow w1.heap.size PA).heap.size = w1.heap.size + 1 := by simp [World.setRow]
        unfold z35 at hX
        generalize hW2 : (w1.alloc (.cells _ 27)).setRow w1.heap.size PA = w2 at *
        clear hW2 Hh1
        refine (T.out _ (Hr.out _ hb2)).mono ?_
        rintro e w3 ⟨Ax, cx, Ad, cd, rfl, kx, rx, rd, b⟩
        have oD := Own.fresh (Nat.le_refl _) (Own.start w2.heap.size w2) rd b
        have dx := oD.rd
        have hb := hb2.trans (b.mono hb2.size)
        have HhP := (b.block w1.heap.size (by omega)).trans Hh2.out
        clear b rd T Hh2 oD hX hb2
        go_wp2_with fail
        refine (Wy.out _ _ _ rx).mono ?_
        rintro e w4 ⟨rfl, b⟩
        have dx := dx.below b
        have HhP := (b.block w1.heap.size (Array.getElem?_eq_some_iff.1 HhP).1).trans HhP
        replace hb := hb.trans (b.mono hb.size)
        clear b Wy rx
        generalize w1.heap.size = X at *
        have hXl := (Array.getElem?_eq_some_iff.1 HhP).1
        have hr4 := Hr.out _ hb
        have hh4 := Hh.out _ hb
        have KC := Lib.hid (fun (W : World) (hk : ∀ k, k < w4.heap.size → W.heap[k]? = w4.heap[k]?) => show W.heap[X]? = some (.cells PA 27 (0, 0)) from (hk X hXl).trans HhP)
        have hdd : ((str dt).toList == (str dt).toList) = true := by simp
        have Q : ch < 1 ∨ (¬ ch < 1 ∧ 65536 < ch) ∨ (¬ ch < 1 ∧ ¬ 65536 < ch ∧ wi < 1) ∨ (¬ ch < 1 ∧ ¬ 65536 < ch ∧ ¬ wi < 1 ∧ 32768 < wi) := by
          have := Hno.out
          unfold okCW at this
          omega
        rcases Q with q1 | ⟨q1, q2⟩ | ⟨q1, q2, q3⟩ | ⟨q1, q2, q3, q4⟩
        · go_wp2
          refine wp_region_any mixed ?_
          refine wpAny_ltwo (B := w4.heap.size) [] [0, 1, 2, 3, 4, 5, 6, 7, 8, 11, 12] [9, 10] [] [13, 14, 15, 16, 17, 18] (Kept w4.heap.size w4) Emp (Kept w4.heap.size w4) (by kernel_rfl) rfl (fun _ _ _ _ _ h => h) (Nat.le_refl _) ((((Own.start w4.heap.size w4).kept (Below.refl _ _) (Nat.le_refl _)).left.emp.kept (Below.refl _ _) (Nat.le_refl _)).drew (Nat.le_refl _)) ?_
          simp only [List.filterMap_cons, List.filterMap_nil, List.getElem?_toArray, List.getElem?_cons_succ, List.getElem?_cons_zero]
          refine free_nil ?_
          refine late_val (.agg PA) rfl (fun w1 hS => exec_load_row rfl X rfl 27 PA (0, 0) _ (KC.out w1 hS.keptR) Tryd.underlying27 rfl hinf) ?_
          simp only [Act.put, List.setIfInBounds_toArray, List.set_cons_zero, List.set_cons_succ]
          refine late_val (.agg PA) rfl (fun w1 hS => exec_build0 rfl (hbu w1)) ?_
          simp only [Act.put, List.setIfInBounds_toArray, List.set_cons_zero, List.set_cons_succ]
          refine late_val (.bool true) rfl (fun w1 hS => exec_eql rfl rfl rfl (hgu _ _ w1) (heq w1)) ?_
          simp only [Act.put, List.setIfInBounds_toArray, List.set_cons_zero, List.set_cons_succ]
          repeat (first
            | (refine late_val ?_ rfl (fun w1 hS => ?_) ?_
               rotate_left
               · (have s1 := str_of_rd (dx.kept hS.keptR)
                  go_simp
                  try go_bits
                  rfl)
               simp only [Act.put, List.setIfInBounds_toArray, List.set_cons_zero, List.set_cons_succ])
            | (refine late_off rfl ?_
               simp only [Act.put, List.setIfInBounds_toArray, List.set_cons_zero, List.set_cons_succ]))
          refine late_nil ?_
          refine ⟨fun vs F => ∃ v1, vs = [v1, .string (str dt)], fun vs F => vs = [], ?_, ?_, ?_⟩
          · simp only [opsOf, List.filterMap_cons, List.filterMap_nil, List.getElem?_toArray, List.getElem?_cons_succ, List.getElem?_cons_zero]
            refine tw_call 14 #[.slice A l.length c] (fun v F => ∃ A6 c6, v = .slice A6 dt.length c6 ∧ F = Rw 5 1 (.slice A6 dt.length c6) dt.length (bytesU dt)) rfl (fun R1 _ w1 hS => by go_simp) (fun R1 _ w1 hB1 hS => (S1.out w1 (sh_kept hh4 hS.kept_out hB1) (hr4.kept hS.kept_out hB1)).mono ?_) ?_
            · rintro e w6 ⟨v6, rfl, ho6, b6⟩
              have o6 := Own.fresh hB1 hS.right ho6 b6
              obtain ⟨A6, c6, rfl⟩ := o6.row_n
              exact ⟨_, _, rfl, ⟨inferInstance, A6, c6, rfl, rfl⟩, o6, b6.mono hB1⟩
            · rintro v6 F6 _ ⟨A6, c6, rfl, rfl⟩
              simp only [Act.put, List.setIfInBounds_toArray, List.set_cons_zero, List.set_cons_succ]
              refine tw_val (.string (str dt)) rfl (fun R1 _ w1 hS => ?_) ?_
              · have s7 := str_of_rd hS.rd
                go_simp
              · exact tw_nil ⟨_, rfl⟩
          · simp only [opsOf, List.filterMap_cons, List.filterMap_nil, List.getElem?_toArray, List.getElem?_cons_succ, List.getElem?_cons_zero]
            exact tw_nil rfl
          · rintro vs1 F1 vs2 F2 w6 ⟨x1, rfl⟩ rfl o6 b6
            simp only [opsOf, putAll, Act.put, List.filterMap_cons, List.filterMap_nil, List.getElem?_toArray, List.getElem?_cons_succ, List.getElem?_cons_zero, List.setIfInBounds_toArray, List.set_cons_zero, List.set_cons_succ]
            have b6 := ((Below.refl w4.heap.size w4).drew).trans b6
            replace hb := hb.trans (b6.mono hb.size)
            clear o6 b6 hr4 hh4 dx S1 KC HhP hXl
            go_wp2_with fail
            refine (Aw.out _ (Hh.out _ hb)).mono ?_
            rintro e wz ⟨rfl, b⟩
            replace hb := hb.trans (b.mono hb.size)
            clear b
            go_wp2
            go_ret
            exact ⟨rfl, hb⟩
        · go_wp2
          refine wp_region_any mixed ?_
          refine wpAny_ltwo (B := w4.heap.size) [] [0, 1, 2, 3, 4, 5, 6, 7, 8, 11, 12] [9, 10] [] [13, 14, 15, 16, 17, 18] (Kept w4.heap.size w4) Emp (Kept w4.heap.size w4) (by kernel_rfl) rfl (fun _ _ _ _ _ h => h) (Nat.le_refl _) ((((Own.start w4.heap.size w4).kept (Below.refl _ _) (Nat.le_refl _)).left.emp.kept (Below.refl _ _) (Nat.le_refl _)).drew (Nat.le_refl _)) ?_
          simp only [List.filterMap_cons, List.filterMap_nil, List.getElem?_toArray, List.getElem?_cons_succ, List.getElem?_cons_zero]
          refine free_nil ?_
          refine late_val (.agg PA) rfl (fun w1 hS => exec_load_row rfl X rfl 27 PA (0, 0) _ (KC.out w1 hS.keptR) Tryd.underlying27 rfl hinf) ?_
          simp only [Act.put, List.setIfInBounds_toArray, List.set_cons_zero, List.set_cons_succ]
          refine late_val (.agg PA) rfl (fun w1 hS => exec_build0 rfl (hbu w1)) ?_
          simp only [Act.put, List.setIfInBounds_toArray, List.set_cons_zero, List.set_cons_succ]
          refine late_val (.bool true) rfl (fun w1 hS => exec_eql rfl rfl rfl (hgu _ _ w1) (heq w1)) ?_
          simp only [Act.put, List.setIfInBounds_toArray, List.set_cons_zero, List.set_cons_succ]
          repeat (first
            | (refine late_val ?_ rfl (fun w1 hS => ?_) ?_
               rotate_left
               · (have s1 := str_of_rd (dx.kept hS.keptR)
                  go_simp
                  try go_bits
                  rfl)
               simp only [Act.put, List.setIfInBounds_toArray, List.set_cons_zero, List.set_cons_succ])
            | (refine late_off rfl ?_
               simp only [Act.put, List.setIfInBounds_toArray, List.set_cons_zero, List.set_cons_succ]))
          refine late_nil ?_
          refine ⟨fun vs F => ∃ v1, vs = [v1, .string (str dt)], fun vs F => vs = [], ?_, ?_, ?_⟩
          · simp only [opsOf, List.filterMap_cons, List.filterMap_nil, List.getElem?_toArray, List.getElem?_cons_succ, List.getElem?_cons_zero]
            refine tw_call 14 #[.slice A l.length c] (fun v F => ∃ A6 c6, v = .slice A6 dt.length c6 ∧ F = Rw 5 1 (.slice A6 dt.length c6) dt.length (bytesU dt)) rfl (fun R1 _ w1 hS => by go_simp) (fun R1 _ w1 hB1 hS => (S1.out w1 (sh_kept hh4 hS.kept_out hB1) (hr4.kept hS.kept_out hB1)).mono ?_) ?_
            · rintro e w6 ⟨v6, rfl, ho6, b6⟩
              have o6 := Own.fresh hB1 hS.right ho6 b6
              obtain ⟨A6, c6, rfl⟩ := o6.row_n
              exact ⟨_, _, rfl, ⟨inferInstance, A6, c6, rfl, rfl⟩, o6, b6.mono hB1⟩
            · rintro v6 F6 _ ⟨A6, c6, rfl, rfl⟩
              simp only [Act.put, List.setIfInBounds_toArray, List.set_cons_zero, List.set_cons_succ]
              refine tw_val (.string (str dt)) rfl (fun R1 _ w1 hS => ?_) ?_
              · have s7 := str_of_rd hS.rd
                go_simp
              · exact tw_nil ⟨_, rfl⟩
          · simp only [opsOf, List.filterMap_cons, List.filterMap_nil, List.getElem?_toArray, List.getElem?_cons_succ, List.getElem?_cons_zero]
            exact tw_nil rfl
          · rintro vs1 F1 vs2 F2 w6 ⟨x1, rfl⟩ rfl o6 b6
            simp only [opsOf, putAll, Act.put, List.filterMap_cons, List.filterMap_nil, List.getElem?_toArray, List.getElem?_cons_succ, List.getElem?_cons_zero, List.setIfInBounds_toArray, List.set_cons_zero, List.set_cons_succ]
            have b6 := ((Below.refl w4.heap.size w4).drew).trans b6
            replace hb := hb.trans (b6.mono hb.size)
            clear o6 b6 hr4 hh4 dx S1 KC HhP hXl
            go_wp2_with fail
            refine (Aw.out _ (Hh.out _ hb)).mono ?_
            rintro e wz ⟨rfl, b⟩
            replace hb := hb.trans (b.mono hb.size)
            clear b
            go_wp2
            go_ret
            exact ⟨rfl, hb⟩
        · go_wp2
          refine wp_region_any mixed ?_
          refine wpAny_ltwo (B := w4.heap.size) [] [0, 1, 2, 3, 4, 5, 6, 7, 8, 11, 12] [9, 10] [] [13, 14, 15, 16, 17, 18] (Kept w4.heap.size w4) Emp (Kept w4.heap.size w4) (by kernel_rfl) rfl (fun _ _ _ _ _ h => h) (Nat.le_refl _) ((((Own.start w4.heap.size w4).kept (Below.refl _ _) (Nat.le_refl _)).left.emp.kept (Below.refl _ _) (Nat.le_refl _)).drew (Nat.le_refl _)) ?_
          simp only [List.filterMap_cons, List.filterMap_nil, List.getElem?_toArray, List.getElem?_cons_succ, List.getElem?_cons_zero]
          refine free_nil ?_
          refine late_val (.agg PA) rfl (fun w1 hS => exec_load_row rfl X rfl 27 PA (0, 0) _ (KC.out w1 hS.keptR) Tryd.underlying27 rfl hinf) ?_
          simp only [Act.put, List.setIfInBounds_toArray, List.set_cons_zero, List.set_cons_succ]
          refine late_val (.agg PA) rfl (fun w1 hS => exec_build0 rfl (hbu w1)) ?_
          simp only [Act.put, List.setIfInBounds_toArray, List.set_cons_zero, List.set_cons_succ]
          refine late_val (.bool true) rfl (fun w1 hS => exec_eql rfl rfl rfl (hgu _ _ w1) (heq w1)) ?_
          simp only [Act.put, List.setIfInBounds_toArray, List.set_cons_zero, List.set_cons_succ]
          repeat (first
            | (refine late_val ?_ rfl (fun w1 hS => ?_) ?_
               rotate_left
               · (have s1 := str_of_rd (dx.kept hS.keptR)
                  go_simp
                  try go_bits
                  rfl)
               simp only [Act.put, List.setIfInBounds_toArray, List.set_cons_zero, List.set_cons_succ])
            | (refine late_off rfl ?_
               simp only [Act.put, List.setIfInBounds_toArray, List.set_cons_zero, List.set_cons_succ]))
          refine late_nil ?_
          refine ⟨fun vs F => ∃ v1, vs = [v1, .string (str dt)], fun vs F => vs = [], ?_, ?_, ?_⟩
          · simp only [opsOf, List.filterMap_cons, List.filterMap_nil, List.getElem?_toArray, List.getElem?_cons_succ, List.getElem?_cons_zero]
            refine tw_call 14 #[.slice A l.length c] (fun v F => ∃ A6 c6, v = .slice A6 dt.length c6 ∧ F = Rw 5 1 (.slice A6 dt.length c6) dt.length (bytesU dt)) rfl (fun R1 _ w1 hS => by go_simp) (fun R1 _ w1 hB1 hS => (S1.out w1 (sh_kept hh4 hS.kept_out hB1) (hr4.kept hS.kept_out hB1)).mono ?_) ?_
            · rintro e w6 ⟨v6, rfl, ho6, b6⟩
              have o6 := Own.fresh hB1 hS.right ho6 b6
              obtain ⟨A6, c6, rfl⟩ := o6.row_n
              exact ⟨_, _, rfl, ⟨inferInstance, A6, c6, rfl, rfl⟩, o6, b6.mono hB1⟩
            · rintro v6 F6 _ ⟨A6, c6, rfl, rfl⟩
              simp only [Act.put, List.setIfInBounds_toArray, List.set_cons_zero, List.set_cons_succ]
              refine tw_val (.string (str dt)) rfl (fun R1 _ w1 hS => ?_) ?_
              · have s7 := str_of_rd hS.rd
                go_simp
              · exact tw_nil ⟨_, rfl⟩
          · simp only [opsOf, List.filterMap_cons, List.filterMap_nil, List.getElem?_toArray, List.getElem?_cons_succ, List.getElem?_cons_zero]
            exact tw_nil rfl
          · rintro vs1 F1 vs2 F2 w6 ⟨x1, rfl⟩ rfl o6 b6
            simp only [opsOf, putAll, Act.put, List.filterMap_cons, List.filterMap_nil, List.getElem?_toArray, List.getElem?_cons_succ, List.getElem?_cons_zero, List.setIfInBounds_toArray, List.set_cons_zero, List.set_cons_succ]
            have b6 := ((Below.refl w4.heap.size w4).drew).trans b6
            replace hb := hb.trans (b6.mono hb.size)
            clear o6 b6 hr4 hh4 dx S1 KC HhP hXl
            go_wp2_with fail
            refine (Aw.out _ (Hh.out _ hb)).mono ?_
            rintro e wz ⟨rfl, b⟩
            replace hb := hb.trans (b.mono hb.size)
            clear b
            go_wp2
            go_ret
            exact ⟨rfl, hb⟩
        · go_wp2
          refine wp_region_any mixed ?_
          refine wpAny_ltwo (B := w4.heap.size) [] [0, 1, 2, 3, 4, 5, 6, 7, 8, 11, 12] [9, 10] [] [13, 14, 15, 16, 17, 18] (Kept w4.heap.size w4) Emp (Kept w4.heap.size w4) (by kernel_rfl) rfl (fun _ _ _ _ _ h => h) (Nat.le_refl _) ((((Own.start w4.heap.size w4).kept (Below.refl _ _) (Nat.le_refl _)).left.emp.kept (Below.refl _ _) (Nat.le_refl _)).drew (Nat.le_refl _)) ?_
          simp only [List.filterMap_cons, List.filterMap_nil, List.getElem?_toArray, List.getElem?_cons_succ, List.getElem?_cons_zero]
          refine free_nil ?_
          refine late_val (.agg PA) rfl (fun w1 hS => exec_load_row rfl X rfl 27 PA (0, 0) _ (KC.out w1 hS.keptR) Tryd.underlying27 rfl hinf) ?_
          simp only [Act.put, List.setIfInBounds_toArray, List.set_cons_zero, List.set_cons_succ]
          refine late_val (.agg PA) rfl (fun w1 hS => exec_build0 rfl (hbu w1)) ?_
          simp only [Act.put, List.setIfInBounds_toArray, List.set_cons_zero, List.set_cons_succ]
          refine late_val (.bool true) rfl (fun w1 hS => exec_eql rfl rfl rfl (hgu _ _ w1) (heq w1)) ?_
          simp only [Act.put, List.setIfInBounds_toArray, List.set_cons_zero, List.set_cons_succ]
          repeat (first
            | (refine late_val ?_ rfl (fun w1 hS => ?_) ?_
               rotate_left
               · (have s1 := str_of_rd (dx.kept hS.keptR)
                  go_simp
                  try go_bits
                  rfl)
               simp only [Act.put, List.setIfInBounds_toArray, List.set_cons_zero, List.set_cons_succ])
            | (refine late_off rfl ?_
               simp only [Act.put, List.setIfInBounds_toArray, List.set_cons_zero, List.set_cons_succ]))
          refine late_nil ?_
          refine ⟨fun vs F => ∃ v1, vs = [v1, .string (str dt)], fun vs F => vs = [], ?_, ?_, ?_⟩
          · simp only [opsOf, List.filterMap_cons, List.filterMap_nil, List.getElem?_toArray, List.getElem?_cons_succ, List.getElem?_cons_zero]
            refine tw_call 14 #[.slice A l.length c] (fun v F => ∃ A6 c6, v = .slice A6 dt.length c6 ∧ F = Rw 5 1 (.slice A6 dt.length c6) dt.length (bytesU dt)) rfl (fun R1 _ w1 hS => by go_simp) (fun R1 _ w1 hB1 hS => (S1.out w1 (sh_kept hh4 hS.kept_out hB1) (hr4.kept hS.kept_out hB1)).mono ?_) ?_
            · rintro e w6 ⟨v6, rfl, ho6, b6⟩
              have o6 := Own.fresh hB1 hS.right ho6 b6
              obtain ⟨A6, c6, rfl⟩ := o6.row_n
              exact ⟨_, _, rfl, ⟨inferInstance, A6, c6, rfl, rfl⟩, o6, b6.mono hB1⟩
            · rintro v6 F6 _ ⟨A6, c6, rfl, rfl⟩
              simp only [Act.put, List.setIfInBounds_toArray, List.set_cons_zero, List.set_cons_succ]
              refine tw_val (.string (str dt)) rfl (fun R1 _ w1 hS => ?_) ?_
              · have s7 := str_of_rd hS.rd
                go_simp
              · exact tw_nil ⟨_, rfl⟩
          · simp only [opsOf, List.filterMap_cons, List.filterMap_nil, List.getElem?_toArray, List.getElem?_cons_succ, List.getElem?_cons_zero]
            exact tw_nil rfl
          · rintro vs1 F1 vs2 F2 w6 ⟨x1, rfl⟩ rfl o6 b6
            simp only [opsOf, putAll, Act.put, List.filterMap_cons, List.filterMap_nil, List.getElem?_toArray, List.getElem?_cons_succ, List.getElem?_cons_zero, List.setIfInBounds_toArray, List.set_cons_zero, List.set_cons_succ]
            have b6 := ((Below.refl w4.heap.size w4).drew).trans b6
            replace hb := hb.trans (b6.mono hb.size)
            clear o6 b6 hr4 hh4 dx S1 KC HhP hXl
            go_wp2_with fail
            refine (Aw.out _ (Hh.out _ hb)).mono ?_
            rintro e wz ⟨rfl, b⟩
            replace hb := hb.trans (b.mono hb.size)
            clear b
            go_wp2
            go_ret
            exact ⟨rfl, hb⟩
    · have hst : streamP (l.map (·.1)) = [] := if_neg hz
      rw [hst] at S1
      have HPA : Hid (∀ p z, planX tableN (l.map (·.1)) ch wi p z → (pnL p).toArray = (pnL zeroPn).toArray ∧ z = whyE (ents (l.map (·.1)))) := Lib.hid (fun p z hp => by
        obtain ⟨h1, h2⟩ := hp.1.2.1 hz
        exact ⟨by rw [h1], h2⟩)
      have heq := eql_plan0
      have hbu := build_plan0
      have hgu := guard_plan0
      have hinf := hinf2 zeroPn rfl
      have Hz : Hid (z35.size = (pnL zeroPn).toArray.size) := Lib.hid rfl
      have Hpo := Lib.hid (pnL_one zeroPn)
      clear h hr hf f3 hek hst hw hT hinf2
      generalize ents (l.map (·.1)) = es at *
      generalize dataL (l.map (·.1)) = dt at *
      generalize (pnL zeroPn).toArray = PA at *
      generalize whyE es = wy at *
      have hw0 : (wy == 0) = false := by simpa using hz
      have hw1 : (wy != 0) = true := by simpa using hz
      have hd0 : (dt.length : Int) ≤ 2400 := by omega
      go_enter Tryd.func3, Tryd.ntmps3
      go_wp2_with fail
      refine (Fe.out).mono ?_
      rintro e wz ⟨rfl, rfl⟩
      go_wp2_with fail
      refine Pl.out.mono ?_
      rintro e w1 ⟨p, z, hp, rfl, b⟩
      obtain ⟨hp1, rfl⟩ := HPA.out p z hp
      rw [hp1]
      replace hb := hb.trans b
      clear HPA Pl hp1 hp
      have o1 := (Own.start w1.heap.size w1).new (Nat.le_refl _) 27 z35
      have hb1 := hb.alloc hb.size (.cells z35 27)
      obtain ⟨B2, o2, b2⟩ := o1.setRow (by simp) PA
      have hb2 := hb1.trans (b2.mono hb.size)
      have Hh1 := Lib.hid o1.bk.1
      have Hh2 := Lib.hid o2.bk.1
      unfold z35 at Hh1 Hh2 hb2
      clear o1 o2 b2 B2 hb1 b
      go_wp2_with first
        | (refine wpList_plain rfl fun _ hK => wp_store_row 27 (.tmp 7) (.tmp 21) rfl w1.heap.size PA rfl rfl 27 _ Hh1.out hinf Hz.out Hpo.out (hK _ _ ?_))
      have hX : ((w1.alloc (.cells z35 27)).setRow w1.heap.size PA).heap.size = w1.heap.size + 1 := by simp [World.setRow]
      unfold z35 at hX
      generalize hW2 : (w1.alloc (.cells _ 27)).setRow w1.heap.size PA = w2 at *
      clear hW2 Hh1
      refine (T.out _ (Hr.out _ hb2)).mono ?_
      rintro e w3 ⟨Ax, cx, Ad, cd, rfl, kx, rx, rd, b⟩
      have hb := hb2.trans (b.mono hb2.size)
      have HhP := (b.block w1.heap.size (by omega)).trans Hh2.out
      clear b rd T Hh2 hX hb2
      go_wp2_with fail
      refine (Wy.out _ _ _ rx).mono ?_
      rintro e w4 ⟨rfl, b⟩
      have HhP := Lib.hid ((b.block w1.heap.size (Array.getElem?_eq_some_iff.1 HhP).1).trans HhP)
      replace hb := hb.trans (b.mono hb.size)
      clear b Wy rx
      generalize w1.heap.size = X at *
      have hyy : (z == z) = true := by simp
      go_wp2_with first
        | (refine wpList_load_row_g rfl 27 (.tmp 7) rfl X rfl 27 PA (0, 0) _ HhP.out Tryd.underlying27 rfl hinf ?_)
        | (refine wpList_exec rfl (exec_build0 rfl (hbu _)) ?_)
        | (refine wpList_exec rfl (exec_eql rfl rfl rfl (hgu _ _ _) (heq _)) ?_)
      refine (S1.out _ (Hh.out _ hb) (Hr.out _ hb)).mono ?_
      rintro e w5 ⟨v7, rfl, h7, b⟩
      obtain ⟨A7, c7, rfl⟩ : ∃ A c, v7 = .slice A 0 c := by
        rcases h7.2 with ⟨rfl, _⟩ | ⟨g, cap, cur, rfl, _⟩
        · exact ⟨none, 0, rfl⟩
        · exact ⟨_, _, rfl⟩
      replace hb := hb.trans (b.mono hb.size)
      clear b h7
      go_wp2_with fail
      refine (Aw.out _ (Hh.out _ hb)).mono ?_
      rintro e wz ⟨rfl, b⟩
      replace hb := hb.trans (b.mono hb.size)
      clear b
      go_wp2
      go_ret
      exact ⟨rfl, hb⟩
  · rw [decide_eq_false hf] at Fe
    clear h hr hf hw hT
    go_enter Tryd.func3, Tryd.ntmps3
    go_wp2_with fail
    refine (Fe.out).mono ?_
    rintro e wz ⟨rfl, rfl⟩
    go_wp2_with fail
    refine (Aw.out _ (Hh.out _ hb)).mono ?_
    rintro e wz ⟨rfl, b⟩
    replace hb := hb.trans (b.mono hb.size)
    clear b
    go_wp2
    go_ret
    exact ⟨rfl, hb⟩
end Go.Proofs.YtmppagiaonbggaaDoor

/- The digest's table, word for word, from what a card lays. -/
namespace Go.Proofs.YtmppagiaonbggaaDoor
set_option linter.unusedVariables false
set_option linter.unusedSimpArgs false
set_option maxRecDepth 100000
open Go.RowKit

theorem laid_is : (Rows.laid_portmanteau_digest_table : DataW Unit) = .agg (tableN.map fun z => .lit (.int .u32 z)) := by rfl
theorem table_exact {l : List (String × DataW Unit)} {W : World} (hL : laidMet Tryd.prog l W) (hm : ("portmanteau/digest.table", (Rows.laid_portmanteau_digest_table : DataW Unit)) ∈ l) (hsh : Sh W) : W.heap[0]? = some (.cells (u32A tableN) 96) := by
  obtain ⟨T, hTl, hT⟩ := table_any hsh
  obtain ⟨g, t, cs, fuel, p, h1, h2, h3, h4⟩ := Go.Lib.laidMet.reads hL hm
  obtain rfl : g = 0 := Option.some.inj (h1.symm.trans (show Tryd.prog.globalNamed "portmanteau/digest.table" = some 0 by kernel_rfl))
  obtain rfl : t = 96 := Option.some.inj (h2.symm.trans (show (Tryd.prog.globals[0]?).map (·.type) = some 96 by kernel_rfl))
  have hcs : cs = u32A T := by
    have h5 : W.var? Tryd.prog "portmanteau/digest.table" = some (u32A T) := by
      unfold World.var?
      rw [show Tryd.prog.globalNamed "portmanteau/digest.table" = some 0 by kernel_rfl]
      simp [hT]
    exact Option.some.inj (h3.symm.trans h5)
  subst hcs
  rw [laid_is] at h4
  have hC : Tryd.prog.cellsOf 78 = 1 := by kernel_rfl
  have hA : Tryd.prog.underlying 96 = some (.array 64 78) := by kernel_rfl
  have e : T = tableN := by
    apply List.ext_getElem?
    intro i
    by_cases hi : i < 64
    · obtain ⟨f', d, q, hd, ht⟩ := Go.Lib.array_elem hA h4 i hi
      rw [hC, Nat.mul_one] at ht
      obtain ⟨z, hcz, hdq, _⟩ := DataW.trod_int Tryd.underlying78 ht
      obtain ⟨rfl, rfl⟩ := Prod.mk.inj hdq
      have h6 : (u32A T).toList[i]? = some (.int .u32 z) := by
        have := congrArg (·[0]?) hcz
        simpa [List.getElem?_take, List.getElem?_drop] using this
      have h7 : T[i]? = some z := by
        simp only [u32A, List.getElem?_map, Option.map_eq_some_iff, Value.int.injEq, true_and] at h6
        obtain ⟨z', hz', rfl⟩ := h6
        exact hz'
      simp only [List.getElem?_map, Option.map_eq_some_iff, DataW.lit.injEq, Lit.int.injEq, true_and] at hd
      obtain ⟨z', hz', rfl⟩ := hd
      rw [h7, hz']
    · rw [List.getElem?_eq_none (by omega), List.getElem?_eq_none (by show tableN.length ≤ i; have : tableN.length = 64 := rfl; omega)]
  rw [hT, e]
end Go.Proofs.YtmppagiaonbggaaDoor
