/- The walk over SourceWrong. -/
import Derived.Test.YtmppagiaonbggaaDoorWj
import Derived.Test.YtmppagiaonbggaaDoorWzGk
/- The walk over SourceWrong. -/
namespace Go.Proofs.YtmppagiaonbggaaDoor
set_option linter.unusedVariables false
set_option linter.unusedSimpArgs false
set_option maxRecDepth 100000
open Go.RowKit Go.Shelf

attribute [local go_sem] Oper.semAt_some

theorem pnL_set (p : Pn) (z : Int) : (pnL p).toArray.setIfInBounds 2 (.int .i64 z) = (pnL ⟨p.ch, p.wi, z, p.dg⟩).toArray := by simp [pnL]
theorem wrong_nseg {b : List UInt8} {p : Pn} (h : p.tot ≠ (b.length : Int)) : nsegP b p = 0 := by unfold nsegP; rw [if_neg h]
theorem wrong_chunk {b : List UInt8} {p : Pn} (h : p.tot ≠ (b.length : Int)) (k : Int) : chunkP b p k = [] := by
  unfold chunkP
  rw [if_pos (.inr (.inr h))]

theorem func_nil (f : FuncId) (caps : Array Value) (w : World) : (binOp .eql 48 (.func (.func f) #[] caps) .nilFunc).run Tryd.prog w = .ok (.bool false) w := by kernel_rfl
set_option maxRecDepth 100000 in
set_option maxHeartbeats 6400000 in
theorem wrong_walk (A : Option Addr) (c : Nat) (l : List (Fi × Value)) (hl : l.length ≤ 9223372036854775807) (hw : ∀ x ∈ l, x.1.wide) (p : Pn) (pok : p.ok) (k : Int) (hk : okI k) (w : World) (h : Sh w) (hr : RdF w A l) :
    Calls Tryd.prog 6 #[.slice A l.length c, .agg (pnL p).toArray, .int .i64 k] w fun e w' => e = .returned (.bool true) ∧ Below w.heap.size w w' := by
  have o0 := ((Own.start w.heap.size w).new (Nat.le_refl _) 27 (pnL p).toArray).new (by simp) 4 #[.bool false]
  have hb := ((Below.refl w.heap.size w).alloc (Nat.le_refl _) (.cells (pnL p).toArray 27)).alloc (by simp) (.cells #[.bool false] 4)
  simp only [World.size_alloc9] at o0
  have Hh := Lib.hid (fun w1 (b : Below w.heap.size w w1) => sh_below h b)
  have Aw := Lib.hid (fun w1 h1 => awakeS_any w1 h1)
  have Hr := Lib.hid (fun w1 (b : Below w.heap.size w w1) => hr.below b)
  have Fe := Lib.hid (few_any A c l hl hw _ (Hr.out _ hb))
  have hps := pnL_size pok.dg
  by_cases hf : fewP (l.map (·.1))
  · rw [decide_eq_true hf] at Fe
    obtain ⟨f1, f2, f3⟩ := few_ok hw hf
    have R1 := Lib.hid (fun w1 h1 hr => rightE_any A c l (by omega) (by omega) f3 w1 h1 hr)
    have T := Lib.hid (fun w1 hr => toldS_any A c l (by omega) (by omega) w1 hr)
    unfold RetTold at T
    simp only [List.length_map] at T
    have hd24 : (dataL (l.map (·.1))).length ≤ 2400 := by rw [dataL_length]; exact f2
    have k2 : (pnL p).toArray[2]? = some (.int .i64 p.tot) := rfl
    have CIq := Lib.hid (fun q qok b0 b1 B R' kR' w hF => chunks_it A c l (by omega) (by omega) f3 q qok b0 b1 B R' kR' w hF)
    have CKq := Lib.hid (fun q qok w1 h1 h2 => chunk_any A c l (by omega) (by omega) f3 q qok k hk w1 h1 h2)
    have CHq := Lib.hid (fun q w => chunks_any A l.length c q w)
    by_cases hz : whyE (ents (l.map (·.1))) = 0
    · rw [hz] at R1
      have hst : streamP (l.map (·.1)) = dataL (l.map (·.1)) := if_pos hz
      rw [hst] at CIq CKq
      clear h hr hf f3 hw hst hz
      generalize dataL (l.map (·.1)) = dt at *
      by_cases ht : p.tot = (dt.length : Int)
      · have ht' : (p.tot == (dt.length : Int)) = true := by simpa using ht
        clear CIq CKq CHq hps
        obtain ⟨ptot, hpt⟩ : ∃ z, z = p.tot := ⟨_, rfl⟩
        rw [← hpt] at ht' k2 ht
        clear hpt
        generalize (pnL p).toArray = QA at *
        refine (callsIn_wide (n := 5)).1 (callsIn_of_wp_marks Tryd.func6 rfl trivial (wpIn_wide.2 ?_) rfl)
        simp only [Tryd.ntmps6, List.size_toArray, List.length_cons, List.length_nil, Nat.reduceAdd, Nat.reduceSub, Array.replicate_succ, Array.replicate_zero, List.push_toArray, List.append_toArray, List.nil_append, List.cons_append]
        go_wp2_with fail
        refine (Fe.out).mono ?_
        rintro e wz ⟨rfl, rfl⟩
        go_wp2_with fail
        refine (T.out _ (Hr.out _ hb)).mono ?_
        rintro e w1 ⟨Ax, cx, Ad, cd, rfl, kx, rx, rd, b⟩
        have o1 := o0.grown hb.size b
        replace hb := hb.trans (b.mono hb.size)
        clear b T rx kx rd Fe o0
        go_wp2_with fail
        refine (R1.out _ (Hh.out _ hb) (Hr.out _ hb)).mono ?_
        rintro e w2 ⟨rfl, b⟩
        have o2 := o1.grown hb.size b
        replace hb := hb.trans (b.mono hb.size)
        have c2 : w2.cell? ⟨w.heap.size, 2, none⟩ = some (.int .i64 ptot) := (o2.cellOf w.heap.size 2).trans k2
        clear b o1 ht
        go_wp2_with fail
        refine (Aw.out _ (Hh.out _ hb)).mono ?_
        rintro e w1 ⟨rfl, b⟩
        have o1 := (o2).grown hb.size b
        have hb1 := hb.trans (b.mono hb.size)
        have k1 := o1.cell 0
        have z1 := o1.unfrozen 0
        have o2 := o1.set hb1.size 0 (.bool true)
        have b2 := o1.below_set 0 (.bool true)
        clear hb b
        go_wp2
        exact ⟨_, results_cell_bool rfl _ _ (w.heap.size + 1) 0 _ rfl (o2.cell 0), rfl, hb1.trans b2⟩
      · have CI := Lib.hid (fun b0 b1 B R' kR' w hF => CIq.out p pok b0 b1 B R' kR' w hF)
        have CK := Lib.hid (fun w1 h1 h2 => CKq.out p pok w1 h1 h2)
        have CHS := Lib.hid (fun w => CHq.out p w)
        rw [wrong_nseg ht] at CI
        rw [wrong_chunk ht k] at CK
        have ht' : (p.tot == (dt.length : Int)) = false := by simpa using ht
        have hinf : (Tryd.prog.info? 27).map (·.size) = some (pnL p).toArray.size := by rw [hps]; exact infoPlan
        clear CIq CKq CHq hps
        obtain ⟨ptot, hpt⟩ : ∃ z, z = p.tot := ⟨_, rfl⟩
        rw [← hpt] at ht' k2 ht
        clear hpt
        generalize (pnL p).toArray = QA at *
        refine (callsIn_wide (n := 5)).1 (callsIn_of_wp_marks Tryd.func6 rfl trivial (wpIn_wide.2 ?_) rfl)
        simp only [Tryd.ntmps6, List.size_toArray, List.length_cons, List.length_nil, Nat.reduceAdd, Nat.reduceSub, Array.replicate_succ, Array.replicate_zero, List.push_toArray, List.append_toArray, List.nil_append, List.cons_append]
        go_wp2_with fail
        refine (Fe.out).mono ?_
        rintro e wz ⟨rfl, rfl⟩
        go_wp2_with fail
        refine (T.out _ (Hr.out _ hb)).mono ?_
        rintro e w1 ⟨Ax, cx, Ad, cd, rfl, kx, rx, rd, b⟩
        have o1 := o0.grown hb.size b
        replace hb := hb.trans (b.mono hb.size)
        clear b T rx kx rd Fe o0
        go_wp2_with fail
        refine (R1.out _ (Hh.out _ hb) (Hr.out _ hb)).mono ?_
        rintro e w2 ⟨rfl, b⟩
        have o2 := o1.grown hb.size b
        replace hb := hb.trans (b.mono hb.size)
        have c2 : w2.cell? ⟨w.heap.size, 2, none⟩ = some (.int .i64 ptot) := (o2.cellOf w.heap.size 2).trans k2
        clear b o1 ht
        go_wp2_with fail
        refine (R1.out _ (Hh.out _ hb) (Hr.out _ hb)).mono ?_
        rintro e w3 ⟨rfl, b⟩
        have o3 := o2.grown hb.size b
        have hb3 := hb.trans (b.mono hb.size)
        clear b o2 c2 hb
        have B3 : w.heap.size ≤ w3.heap.size := hb3.size
        have Hh3 := Lib.hid (o3.blockOf w.heap.size)
        go_wp2_with first
          | (refine wpList_load_row_g rfl 27 (.tmp 4) rfl w.heap.size rfl 27 QA (0, 0) _ Hh3.out Tryd.underlying27 rfl hinf ?_)
        refine (CHS.out _).mono ?_
        rintro e w6 ⟨rfl, hw6⟩
        simp only [World.size_alloc9] at hw6 ⊢
        have o6 := (o3.new B3 22 #[.slice A l.length c]).new (by simp only [World.size_alloc9]; omega) 27 QA
        have hb6 := (hb3.alloc B3 (.cells #[.slice A l.length c] 22)).alloc (by simp only [World.size_alloc9]; omega) (.cells QA 27)
        simp only [World.size_alloc9] at o6
        rw [← hw6] at o6 hb6
        clear hw6 o3 hb3 Hh3 CHS
        generalize w3.heap.size = Y0 at *
        generalize hX0 : w.heap.size = X0 at *
        have B6 := hb6.size
        rw [hX0] at B6
        have Hb6 := Lib.hid hb6
        have hO6 : Own X0 ((Bk X0 27 QA * Bk (X0 + 1) 4 #[.bool false]) * ((Bk Y0 22 #[.slice A l.length c] * Bk (Y0 + 1) 27 QA) * Emp)) w6 := o6.cast (by ac_rfl)
        clear o6 B3
        have hfn := fun f caps w => func_nil f caps w
        go_wp2_with fail
        refine wp_rangeFunc_sep (B := X0) (lb := #[.pointer (some ⟨Y0, 0, none⟩), .pointer (some ⟨Y0 + 1, 0, none⟩)]) rfl (enters_of Tryd.func38 (by kernel_rfl) rfl) (Bk Y0 22 #[.slice A l.length c] * Bk (Y0 + 1) 27 QA) Emp (fun _ => inferInstance) (fun _ => rfl)
          (fun R' kR' => CI.out Y0 (Y0 + 1) X0 R' kR' w6 (fun W b => ⟨Hh.out _ (hb6.trans b), Hr.out _ (hb6.trans b)⟩))
          (fun pre => Bk X0 27 QA * Bk (X0 + 1) 4 #[.bool false]) (fun _ _ => Fact False) B6 hO6
          (fun x t => t) (fun x => _) (fun x => rfl) ?assign ?body ?done ?stop
        case assign =>
          intro l x W K hK
          simp only [sgEnc, List.zip_toArray, List.zip_cons_cons, List.zip_nil_right, List.zip_nil_left, List.foldl_toArray', List.foldl_toArray, List.foldl_cons, List.foldl_nil, List.setIfInBounds_toArray, List.set_cons_zero, List.set_cons_succ] at hK ⊢
          gi_wp2
          exact hK
        case body =>
          intro lp pre x W R' _ hBW hbW hO hN
          exact absurd hN.2.2 (Nat.not_lt_zero _)
        case done =>
          intro D xs W hS hBW hbW hO
          have hb := Hb6.out.trans hbW
          have hO : Own X0 (Bk X0 27 QA * (Bk (X0 + 1) 4 #[.bool false] * (Dk D * Emp))) W := (Own.right (A := Bk Y0 22 #[.slice A l.length c] * Bk (Y0 + 1) 27 QA) (hO.cast (by ac_rfl)))
          have Hh7 := Lib.hid hO.bk.1
          clear hO6 hb6 hbW CI
          go_wp2_with first
            | (refine wpList_load_row_g rfl 27 (.tmp 4) rfl X0 rfl 27 QA (0, 0) _ Hh7.out Tryd.underlying27 rfl hinf ?_)
          refine (CK.out _ (Hh.out _ hb) (Hr.out _ hb)).mono ?_
          rintro e w7 ⟨v7, rfl, h7, b7⟩
          have o7 := hO.grown hBW b7
          obtain ⟨A7, c7, rfl⟩ : ∃ A c, v7 = .slice A 0 c := by
            rcases h7.2 with ⟨rfl, _⟩ | ⟨g, cap, cur, rfl, _⟩
            · exact ⟨none, 0, rfl⟩
            · exact ⟨_, _, rfl⟩
          have hb7 := hb.trans (b7.mono hBW)
          have B7 := Nat.le_trans hBW b7.size
          clear h7 b7 hO hb Hh7
          go_wp2_with fail
          refine (Aw.out _ (Hh.out _ hb7)).mono ?_
          rintro e wa ⟨rfl, ba⟩
          have oa := ((o7.grown B7 ba).foc (Bk (X0 + 1) 4 #[.bool false]))
          have Ba := Nat.le_trans B7 ba.size
          have hba := hb7.trans (ba.mono B7)
          have ka := oa.cell 0
          have za := oa.unfrozen 0
          have sa := oa.set Ba 0 (.bool true)
          have ta := oa.below_set 0 (.bool true)
          have Bs : X0 ≤ (wa.setCell ⟨X0 + 1, 0, none⟩ (.bool true)).heap.size := by simpa [World.setCell] using Ba
          have Fin := Lib.hid (And.intro Bs (And.intro sa (hba.trans ta)))
          clear ba oa hba sa ta Bs o7 hb7
          go_wp2
          refine ret_hp Fin.out.1 rfl (Fin.out.2.1.foc (Dk D)) (fun W' o => results_cell_bool rfl _ _ (X0 + 1) 0 _ rfl (o.cellOf (X0 + 1) 0)) (fun W' o b => ⟨rfl, by rw [hX0]; exact Fin.out.2.2.trans b⟩)
        case stop =>
          intro D cd pre W hSp hBW hbW hO
          exact hO.fact_out.elim
    · have hz' : (whyE (ents (l.map (·.1))) == 0) = false := by simpa using hz
      rw [hz'] at R1
      have hst : streamP (l.map (·.1)) = [] := if_neg hz
      rw [hst] at CIq CKq
      clear h hr hf f3 hw hst hz hz'
      generalize dataL (l.map (·.1)) = dt at *
      have qok : Pn.ok ⟨p.ch, p.wi, (dt.length : Int) + 1, p.dg⟩ := ⟨pok.ch, pok.wi, ⟨by simp only; omega, by simp only; omega⟩, pok.dg⟩
      have hqt : (⟨p.ch, p.wi, (dt.length : Int) + 1, p.dg⟩ : Pn).tot ≠ ((([] : List UInt8).length : Nat) : Int) := by simp only [List.length_nil]; omega
      have CI := Lib.hid (fun b0 b1 B R' kR' w hF => CIq.out ⟨p.ch, p.wi, (dt.length : Int) + 1, p.dg⟩ qok b0 b1 B R' kR' w hF)
      have CK := Lib.hid (fun w1 h1 h2 => CKq.out ⟨p.ch, p.wi, (dt.length : Int) + 1, p.dg⟩ qok w1 h1 h2)
      have CHS := Lib.hid (fun w => CHq.out ⟨p.ch, p.wi, (dt.length : Int) + 1, p.dg⟩ w)
      rw [wrong_nseg hqt] at CI
      rw [wrong_chunk hqt k] at CK
      have hqs := pnL_size qok.dg
      have hinf : (Tryd.prog.info? 27).map (·.size) = some (pnL ⟨p.ch, p.wi, (dt.length : Int) + 1, p.dg⟩).toArray.size := by rw [hqs]; exact infoPlan
      have hset := pnL_set p ((dt.length : Int) + 1)
      clear CIq CKq CHq hps hqs hqt qok pok
      generalize (pnL ⟨p.ch, p.wi, (dt.length : Int) + 1, p.dg⟩).toArray = QA at *
      have Hset := Lib.hid hset
      clear hset
      generalize (pnL p).toArray = PA at *
      generalize p.tot = ptot at *
      refine (callsIn_wide (n := 5)).1 (callsIn_of_wp_marks Tryd.func6 rfl trivial (wpIn_wide.2 ?_) rfl)
      simp only [Tryd.ntmps6, List.size_toArray, List.length_cons, List.length_nil, Nat.reduceAdd, Nat.reduceSub, Array.replicate_succ, Array.replicate_zero, List.push_toArray, List.append_toArray, List.nil_append, List.cons_append]
      go_wp2_with fail
      refine (Fe.out).mono ?_
      rintro e wz ⟨rfl, rfl⟩
      go_wp2_with fail
      refine (T.out _ (Hr.out _ hb)).mono ?_
      rintro e w1 ⟨Ax, cx, Ad, cd, rfl, kx, rx, rd, b⟩
      have o1 := o0.grown hb.size b
      replace hb := hb.trans (b.mono hb.size)
      clear b T rx kx rd Fe o0
      go_wp2_with fail
      refine (R1.out _ (Hh.out _ hb) (Hr.out _ hb)).mono ?_
      rintro e w2 ⟨rfl, b⟩
      have o2 := o1.grown hb.size b
      replace hb := hb.trans (b.mono hb.size)
      clear b o1
      go_wp2_with fail
      refine (R1.out _ (Hh.out _ hb) (Hr.out _ hb)).mono ?_
      rintro e w3' ⟨rfl, b⟩
      have o3' := (o2.grown hb.size b).foc (Bk w.heap.size 27 PA)
      have hb3' := hb.trans (b.mono hb.size)
      have c2 : w3'.cell? ⟨w.heap.size, 2, none⟩ = some (.int .i64 ptot) := (o3'.cell 2).trans k2
      have z2 := o3'.unfrozen 2
      have o3 := o3'.set hb3'.size 2 (.int .i64 ((dt.length : Int) + 1))
      have hb3 := hb3'.trans (o3'.below_set 2 (.int .i64 ((dt.length : Int) + 1)))
      rw [Hset.out] at o3
      have o3 := o3.cast (sep_left_comm _ _ _)
      clear b o2 hb hb3' o3'
      have B3 : w.heap.size ≤ (w3'.setCell ⟨w.heap.size, 2, none⟩ (.int .i64 ((dt.length : Int) + 1))).heap.size := hb3.size
      have Hh3 := Lib.hid (o3.blockOf w.heap.size)
      go_wp2_with first
        | (refine wpList_load_row_g rfl 27 (.tmp 4) rfl w.heap.size rfl 27 QA (0, 0) _ Hh3.out Tryd.underlying27 rfl hinf ?_)
      refine (CHS.out _).mono ?_
      rintro e w6 ⟨rfl, hw6⟩
      simp only [World.size_alloc9] at hw6 ⊢
      have o6 := (o3.new B3 22 #[.slice A l.length c]).new (by simp only [World.size_alloc9]; omega) 27 QA
      have hb6 := (hb3.alloc B3 (.cells #[.slice A l.length c] 22)).alloc (by simp only [World.size_alloc9]; omega) (.cells QA 27)
      simp only [World.size_alloc9] at o6
      rw [← hw6] at o6 hb6
      clear hw6 o3 hb3 Hh3 CHS
      generalize (w3'.setCell ⟨w.heap.size, 2, none⟩ (.int .i64 ((dt.length : Int) + 1))).heap.size = Y0 at *
      generalize hX0 : w.heap.size = X0 at *
      have B6 := hb6.size
      rw [hX0] at B6
      have Hb6 := Lib.hid hb6
      have hO6 : Own X0 ((Bk X0 27 QA * Bk (X0 + 1) 4 #[.bool false]) * ((Bk Y0 22 #[.slice A l.length c] * Bk (Y0 + 1) 27 QA) * Emp)) w6 := o6.cast (by ac_rfl)
      clear o6 B3
      have hfn := fun f caps w => func_nil f caps w
      go_wp2_with fail
      refine wp_rangeFunc_sep (B := X0) (lb := #[.pointer (some ⟨Y0, 0, none⟩), .pointer (some ⟨Y0 + 1, 0, none⟩)]) rfl (enters_of Tryd.func38 (by kernel_rfl) rfl) (Bk Y0 22 #[.slice A l.length c] * Bk (Y0 + 1) 27 QA) Emp (fun _ => inferInstance) (fun _ => rfl)
        (fun R' kR' => CI.out Y0 (Y0 + 1) X0 R' kR' w6 (fun W b => ⟨Hh.out _ (hb6.trans b), Hr.out _ (hb6.trans b)⟩))
        (fun pre => Bk X0 27 QA * Bk (X0 + 1) 4 #[.bool false]) (fun _ _ => Fact False) B6 hO6
        (fun x t => t) (fun x => _) (fun x => rfl) ?assign ?body ?done ?stop
      case assign =>
        intro l x W K hK
        simp only [sgEnc, List.zip_toArray, List.zip_cons_cons, List.zip_nil_right, List.zip_nil_left, List.foldl_toArray', List.foldl_toArray, List.foldl_cons, List.foldl_nil, List.setIfInBounds_toArray, List.set_cons_zero, List.set_cons_succ] at hK ⊢
        gi_wp2
        exact hK
      case body =>
        intro lp pre x W R' _ hBW hbW hO hN
        exact absurd hN.2.2 (Nat.not_lt_zero _)
      case done =>
        intro D xs W hS hBW hbW hO
        have hb := Hb6.out.trans hbW
        have hO : Own X0 (Bk X0 27 QA * (Bk (X0 + 1) 4 #[.bool false] * (Dk D * Emp))) W := (Own.right (A := Bk Y0 22 #[.slice A l.length c] * Bk (Y0 + 1) 27 QA) (hO.cast (by ac_rfl)))
        have Hh7 := Lib.hid hO.bk.1
        clear hO6 hb6 hbW CI
        go_wp2_with first
          | (refine wpList_load_row_g rfl 27 (.tmp 4) rfl X0 rfl 27 QA (0, 0) _ Hh7.out Tryd.underlying27 rfl hinf ?_)
        refine (CK.out _ (Hh.out _ hb) (Hr.out _ hb)).mono ?_
        rintro e w7 ⟨v7, rfl, h7, b7⟩
        have o7 := hO.grown hBW b7
        obtain ⟨A7, c7, rfl⟩ : ∃ A c, v7 = .slice A 0 c := by
          rcases h7.2 with ⟨rfl, _⟩ | ⟨g, cap, cur, rfl, _⟩
          · exact ⟨none, 0, rfl⟩
          · exact ⟨_, _, rfl⟩
        have hb7 := hb.trans (b7.mono hBW)
        have B7 := Nat.le_trans hBW b7.size
        clear h7 b7 hO hb Hh7
        go_wp2_with fail
        refine (Aw.out _ (Hh.out _ hb7)).mono ?_
        rintro e wa ⟨rfl, ba⟩
        have oa := ((o7.grown B7 ba).foc (Bk (X0 + 1) 4 #[.bool false]))
        have Ba := Nat.le_trans B7 ba.size
        have hba := hb7.trans (ba.mono B7)
        have ka := oa.cell 0
        have za := oa.unfrozen 0
        have sa := oa.set Ba 0 (.bool true)
        have ta := oa.below_set 0 (.bool true)
        have Bs : X0 ≤ (wa.setCell ⟨X0 + 1, 0, none⟩ (.bool true)).heap.size := by simpa [World.setCell] using Ba
        have Fin := Lib.hid (And.intro Bs (And.intro sa (hba.trans ta)))
        clear ba oa hba sa ta Bs o7 hb7
        go_wp2
        refine ret_hp Fin.out.1 rfl (Fin.out.2.1.foc (Dk D)) (fun W' o => results_cell_bool rfl _ _ (X0 + 1) 0 _ rfl (o.cellOf (X0 + 1) 0)) (fun W' o b => ⟨rfl, by rw [hX0]; exact Fin.out.2.2.trans b⟩)
      case stop =>
        intro D cd pre W hSp hBW hbW hO
        exact hO.fact_out.elim
  · rw [decide_eq_false hf] at Fe
    clear h hr hf hw
    refine (callsIn_wide (n := 5)).1 (callsIn_of_wp_marks Tryd.func6 rfl trivial (wpIn_wide.2 ?_) rfl)
    simp only [Tryd.ntmps6, List.size_toArray, List.length_cons, List.length_nil, Nat.reduceAdd, Nat.reduceSub, Array.replicate_succ, Array.replicate_zero, List.push_toArray, List.append_toArray, List.nil_append, List.cons_append]
    go_wp2_with fail
    refine (Fe.out).mono ?_
    rintro e wz ⟨rfl, rfl⟩
    go_wp2_with fail
    refine (Aw.out _ (Hh.out _ hb)).mono ?_
    rintro e w1 ⟨rfl, b⟩
    have o1 := (o0).grown hb.size b
    have hb1 := hb.trans (b.mono hb.size)
    have k1 := o1.cell 0
    have z1 := o1.unfrozen 0
    have o2 := o1.set hb1.size 0 (.bool true)
    have b2 := o1.below_set 0 (.bool true)
    clear hb b
    go_wp2
    exact ⟨_, results_cell_bool rfl _ _ (w.heap.size + 1) 0 _ rfl (o2.cell 0), rfl, hb1.trans b2⟩
end Go.Proofs.YtmppagiaonbggaaDoor
