/- Texts of one proof, merged: XGh XIn XPre XGj XLaw XEo XZs. -/
import Derived.Test.YtmppagiaonbggaaDoorWi
import Derived.OrdersIn
import Derived.Deep.Slices
import Derived.ProofKit
import Derived.SizedLaws
import Derived.OpenShut
import Derived.ChangeOld
import Derived.Deep.Fields
import Derived.ChangeSame
import Derived.Test.YtmppagiaonbggaaDoorRows
import Derived.Test.YtmppagiaonbggaaDoorCards
import Derived.Test.YtmppagiaonbggaaDoorTie
import Derived.Deep.DeepHandedRow
import Derived.Deep.DeepWitnessRowRef
import Derived.Lib.LaidIn
import Derived.SevenTiedAt
import Derived.Carry
import Derived.ChangeMaps
/- The walk over SourceJoins. -/
namespace Go.Proofs.YtmppagiaonbggaaDoor
set_option linter.unusedVariables false
set_option linter.unusedSimpArgs false
set_option maxRecDepth 100000
open Go.RowKit Go.Shelf

attribute [local go_sem] Oper.semAt_some

theorem index2 (W : World) (a b : Int) (t : Nat) (ht : t = 0 ∨ t = 1) :
    (Instr.index 55 (.agg #[.int .i64 a, .int .i64 b]) (.int .i64 (t : Int))).run Tryd.prog W = .ok (.int .i64 ([a, b].getD t 0)) W := by
  have h1 : (Tryd.prog.info? 3).map (fun i => i.size) = some 1 := by kernel_rfl
  obtain ⟨i0, hi, hs⟩ := Option.map_eq_some_iff.1 h1
  have h2 := Tryd.underlying3
  rcases ht with rfl | rfl <;> simp [Instr.index, asIntOf, run_underlying Tryd.underlying55, part, sizeOf, typeInfo, hi, hs, run_underlying h2, go_sem]
theorem infoSlB : (Tryd.prog.info? 32).map (fun i => (i.zero, i.size, i.bytes)) = some (some (.slice none 0 0), 1, 24) := infoSl

set_option maxRecDepth 100000 in
set_option maxHeartbeats 6400000 in
theorem joins_walk (A : Option Addr) (c : Nat) (l : List (Fi × Value)) (hl : l.length ≤ 9223372036854775807) (hw : ∀ x ∈ l, x.1.wide) (ca cb : Int) (hca : okI ca) (hcb : okI cb) (w : World) (h : Sh w) (hr : RdF w A l) :
    Calls Tryd.prog 8 #[.slice A l.length c, .int .i64 ca, .int .i64 cb] w fun e w' => e = .returned (.bool true) ∧ Below w.heap.size w w' := by
  have hb := Below.refl w.heap.size w
  have Hh := Lib.hid (fun w1 (b : Below w.heap.size w w1) => sh_below h b)
  have Aw := Lib.hid (fun w1 h1 => awakeS_any w1 h1)
  have Hr := Lib.hid (fun w1 (b : Below w.heap.size w w1) => hr.below b)
  have Fe := Lib.hid (few_any A c l hl hw _ hr)
  by_cases hf : fewP (l.map (·.1))
  · rw [decide_eq_true hf] at Fe
    obtain ⟨f1, f2, f3⟩ := few_ok hw hf
    have R1 := Lib.hid (fun w1 h1 hr => rightE_any A c l (by omega) (by omega) f3 w1 h1 hr)
    by_cases hz : whyE (ents (l.map (·.1))) = 0
    · rw [hz] at R1
      have P := Lib.hid (fun ch hch w1 h1 h2 => plan_any A c l (by omega) (by omega) f3 ch 1 hch ⟨by decide, by decide⟩ w1 h1 h2)
      have hst : streamP (l.map (·.1)) = dataL (l.map (·.1)) := if_pos hz
      have S1 := Lib.hid (fun w1 h1 hr => stream_any A c l (by omega) (by omega) f3 w1 h1 hr)
      rw [hst] at S1
      have hdl := dataL_length (l.map (·.1))
      have CI := Lib.hid (fun p pok b0 b1 B R' kR' w hF => chunks_it A c l (by omega) (by omega) f3 p pok b0 b1 B R' kR' w hF)
      rw [hst] at CI
      have Hpl : Hid (∀ ch p z, planP (l.map (·.1)) ch 1 p z → p.dg.length = 32 ∧ ((okCW ch 1 ∧ p = ⟨ch, 1, ((dataL (l.map (·.1))).length : Int), p.dg⟩ ∧ z = 0) ∨ (¬ okCW ch 1 ∧ z = 1))) := Lib.hid (fun ch p z hp => by
        obtain ⟨h1, _, h3, h4⟩ := hp
        refine ⟨h1, ?_⟩
        by_cases hok : okCW ch 1
        · left
          obtain ⟨a, b, c, d⟩ := h4 hz hok
          obtain ⟨ch', wi, tot, dg⟩ := p
          simp only at a b c d h1 ⊢
          subst a b c d
          rw [hdl]
          exact ⟨hok, rfl, rfl⟩
        · right
          exact ⟨hok, (h3 hz hok).2⟩)
      have hdle := dataL_le hz
      have hd24 : (dataL (l.map (·.1))).length ≤ 2400 := by rw [dataL_length]; exact f2
      clear h hr hf f3 hw hst hdl hz
      generalize dataL (l.map (·.1)) = dt at *
      refine (callsIn_wide (n := 5)).1 (callsIn_of_wp_marks Tryd.func8 rfl trivial (wpIn_wide.2 ?_) rfl)
      simp only [Tryd.ntmps8, List.size_toArray, List.length_cons, List.length_nil, Nat.reduceAdd, Nat.reduceSub, Array.replicate_succ, Array.replicate_zero, List.push_toArray, List.append_toArray, List.nil_append, List.cons_append]
      go_wp2_with fail
      refine (Fe.out).mono ?_
      rintro e wz ⟨rfl, rfl⟩
      go_wp2_with fail
      refine (R1.out _ (Hh.out _ hb) (Hr.out _ hb)).mono ?_
      rintro e wz ⟨rfl, b⟩
      replace hb := hb.trans (b.mono hb.size)
      clear b
      go_wp2_with fail
      refine (S1.out _ (Hh.out _ hb) (Hr.out _ hb)).mono ?_
      rintro e w1 ⟨v1, rfl, h1, b1⟩
      have o1 := Own.fresh hb.size (Own.start w.heap.size _) h1 b1
      obtain ⟨A1, c1, rfl⟩ := o1.row_n
      have s1 := str_of_rd o1.rd
      replace hb := hb.trans (b1.mono hb.size)
      clear o1 h1 b1 S1
      go_wp2
      clear s1
      generalize hX0 : w.heap.size = X0 at *
      refine wp_loop_d (ds0 := []) [30] [9, 10, 11, 12, 14, 31, 32, 33, 34, 35, 36, 37, 38, 39, 40, 41, 42, 43, 44, 45, 46, 47, 48, 49, 50, 51, 52, 53, 54, 55] (fun vs ds W => ∃ i : Nat, i ≤ 2 ∧ vs = [.int .i64 (i : Int)] ∧ Below X0 w W ∧ Own X0 (DkL ds * Emp) W) (fun vs => match vs with | [v] => 2 - (intOf v).toNat | _ => 0) ⟨0, by omega, rfl, hb, (Own.start X0 _).emp⟩ ?_
      intro vs js ds W hlv hj hI
      obtain ⟨i, hi2, rfl, hbW, hO⟩ := hI
      obtain ⟨j1, js1, ejs1, hj1⟩ := len_cons hj
      obtain ⟨j2, js2, ejs2, hj2⟩ := len_cons hj1
      obtain ⟨j3, js3, ejs3, hj3⟩ := len_cons hj2
      obtain ⟨j4, js4, ejs4, hj4⟩ := len_cons hj3
      obtain ⟨j5, js5, ejs5, hj5⟩ := len_cons hj4
      obtain ⟨j6, js6, ejs6, hj6⟩ := len_cons hj5
      obtain ⟨j7, js7, ejs7, hj7⟩ := len_cons hj6
      obtain ⟨j8, js8, ejs8, hj8⟩ := len_cons hj7
      obtain ⟨j9, js9, ejs9, hj9⟩ := len_cons hj8
      obtain ⟨j10, js10, ejs10, hj10⟩ := len_cons hj9
      obtain ⟨j11, js11, ejs11, hj11⟩ := len_cons hj10
      obtain ⟨j12, js12, ejs12, hj12⟩ := len_cons hj11
      obtain ⟨j13, js13, ejs13, hj13⟩ := len_cons hj12
      obtain ⟨j14, js14, ejs14, hj14⟩ := len_cons hj13
      obtain ⟨j15, js15, ejs15, hj15⟩ := len_cons hj14
      obtain ⟨j16, js16, ejs16, hj16⟩ := len_cons hj15
      obtain ⟨j17, js17, ejs17, hj17⟩ := len_cons hj16
      obtain ⟨j18, js18, ejs18, hj18⟩ := len_cons hj17
      obtain ⟨j19, js19, ejs19, hj19⟩ := len_cons hj18
      obtain ⟨j20, js20, ejs20, hj20⟩ := len_cons hj19
      obtain ⟨j21, js21, ejs21, hj21⟩ := len_cons hj20
      obtain ⟨j22, js22, ejs22, hj22⟩ := len_cons hj21
      obtain ⟨j23, js23, ejs23, hj23⟩ := len_cons hj22
      obtain ⟨j24, js24, ejs24, hj24⟩ := len_cons hj23
      obtain ⟨j25, js25, ejs25, hj25⟩ := len_cons hj24
      obtain ⟨j26, js26, ejs26, hj26⟩ := len_cons hj25
      obtain ⟨j27, js27, ejs27, hj27⟩ := len_cons hj26
      obtain ⟨j28, js28, ejs28, hj28⟩ := len_cons hj27
      obtain ⟨j29, js29, ejs29, hj29⟩ := len_cons hj28
      obtain ⟨j30, js30, ejs30, hj30⟩ := len_cons hj29
      have ejs31 := List.eq_nil_of_length_eq_zero hj30
      rw [ejs1, ejs2, ejs3, ejs4, ejs5, ejs6, ejs7, ejs8, ejs9, ejs10, ejs11, ejs12, ejs13, ejs14, ejs15, ejs16, ejs17, ejs18, ejs19, ejs20, ejs21, ejs22, ejs23, ejs24, ejs25, ejs26, ejs27, ejs28, ejs29, ejs30, ejs31]
      clear hj hj1 ejs1 hj2 ejs2 hj3 ejs3 hj4 ejs4 hj5 ejs5 hj6 ejs6 hj7 ejs7 hj8 ejs8 hj9 ejs9 hj10 ejs10 hj11 ejs11 hj12 ejs12 hj13 ejs13 hj14 ejs14 hj15 ejs15 hj16 ejs16 hj17 ejs17 hj18 ejs18 hj19 ejs19 hj20 ejs20 hj21 ejs21 hj22 ejs22 hj23 ejs23 hj24 ejs24 hj25 ejs25 hj26 ejs26 hj27 ejs27 hj28 ejs28 hj29 ejs29 hj30 ejs30 ejs31 js js1 js2 js3 js4 js5 js6 js7 js8 js9 js10 js11 js12 js13 js14 js15 js16 js17 js18 js19 js20 js21 js22 js23 js24 js25 js26 js27 js28 js29 js30
      simp only [setAll, List.setIfInBounds_toArray, List.set_cons_zero, List.set_cons_succ]
      have i0 : (0 : Int) ≤ (i : Int) := by omega
      by_cases hlt : (i : Int) < 2
      · have hix := fun W => index2 W ca cb i (by omega)
        obtain ⟨ch, hch, hchk⟩ : ∃ ch, ch = [ca, cb].getD i 0 ∧ okI ch := ⟨_, rfl, by rcases (show i = 0 ∨ i = 1 by omega) with rfl | rfl <;> assumption⟩
        rw [← hch] at hix
        clear hch
        go_wp2_with fail
        refine (P.out ch hchk _ (Hh.out _ hbW) (Hr.out _ hbW)).mono ?_
        rintro e w2 ⟨p, z, hp, rfl, b⟩
        obtain ⟨hp3, hp⟩ := Hpl.out ch p z hp
        have hB : X0 ≤ W.heap.size := by rw [← hX0]; exact hbW.size
        have o2 := hO.grown hB b
        have hb2 := hbW.trans (b.mono hB)
        have B2 := Nat.le_trans hB b.size
        clear hbW hO b
        have o3 := o2.new B2 27 z35
        have hb3 := hb2.alloc B2 (.cells z35 27)
        have hps := pnL_size hp3
        have Hpo := Lib.hid (pnL_one p)
        have hinf2 : (Tryd.prog.info? 27).map (·.size) = some (pnL p).toArray.size := by rw [hps]; exact infoPlan
        have Hz : Hid (z35.size = (pnL p).toArray.size) := Lib.hid (by rw [hps]; rfl)
        have Hh3 := Lib.hid o3.bk.1
        obtain ⟨PA, hPA⟩ : ∃ PA, PA = (pnL p).toArray := ⟨_, rfl⟩
        rw [← hPA] at hinf2 Hz Hpo ⊢
        obtain ⟨B4, o4, b4⟩ := o3.setRow (by simp; omega) PA
        have hb4 := hb3.trans b4
        have hz4 : ((w2.alloc (.cells z35 27)).setRow w2.heap.size PA).heap.size = w2.heap.size + 1 := by simp [World.setRow]
        unfold z35 at o4 hb4 hz4 B4
        clear o2 o3 b4 hb2 hb3 B2 hps
        rcases hp with ⟨hok, hp1, rfl⟩ | ⟨hok, rfl⟩
        · have pok : Pn.ok p := by
            rw [hp1]
            exact ⟨hchk, ⟨by simp only; decide, by simp only; decide⟩, ⟨by simp only; omega, by simp only; omega⟩, hp3⟩
          have ptot : p.tot = (dt.length : Int) := by rw [hp1]
          have pmay : p.mayB = true := by
            rw [hp1]
            obtain ⟨q1, q2, _, _⟩ := hok
            unfold Pn.mayB
            simp only [Bool.and_eq_true, decide_eq_true_eq]
            omega
          have JS := Lib.hid (join_segs pmay ptot)
          have SE := Lib.hid (nseg_le ptot)
          have CIp := Lib.hid (fun b0 b1 B R' kR' w hF => CI.out p pok b0 b1 B R' kR' w hF)
          have CHS := Lib.hid (fun w => chunks_any A l.length c p w)
          obtain ⟨f, hf⟩ : ∃ f : Nat → List UInt8, f = fun k : Nat => chunkP dt p k := ⟨_, rfl⟩
          have JSf : Hid ((List.range (nsegP dt p)).flatMap f = dt) := Lib.hid (by rw [hf]; exact JS.out)
          rw [← hf, ← hPA] at CIp
          rw [← hPA] at CHS
          have SE2 : Hid (nsegP dt p ≤ 2400) := Lib.hid (by have := SE.out; omega)
          clear JS hf pmay ptot pok hp1 hp hok CI Hpl hPA SE
          generalize nsegP dt p = N at *
          have o5 := o4.new B4 47 #[.slice none 0 0]
          have hb5 := hb4.alloc B4 (.cells #[.slice none 0 0] 47)
          simp only [hz4] at o5
          have B5 := hb5.size
          rw [hX0] at B5
          have Hh5 := Lib.hid (o5.blockOf w2.heap.size)
          clear o4 hb4 B4
          go_wp2_with first
            | (refine wpList_plain rfl fun _ hK => wp_store_row 27 (.tmp 10) (.tmp 37) rfl w2.heap.size PA rfl rfl 27 _ Hh3.out hinf2 Hz.out Hpo.out (hK _ _ ?_))
            | (refine wpList_load_row_g rfl 27 (.tmp 10) rfl w2.heap.size rfl 27 PA (0, 0) _ Hh5.out Tryd.underlying27 rfl hinf2 ?_)
          refine (CHS.out _).mono ?_
          rintro e w6 ⟨rfl, hw6⟩
          simp only [World.size_alloc9, hz4] at hw6 ⊢
          have o6 := (o5.new B5 22 #[.slice A l.length c]).new (by simp at B5 ⊢; omega) 27 PA
          have hb6 := (hb5.alloc B5 (.cells #[.slice A l.length c] 22)).alloc (by simp at B5 ⊢; omega) (.cells PA 27)
          simp only [World.size_alloc9, hz4] at o6
          rw [← hw6] at o6 hb6
          clear hw6 o5 hb5 Hh3 Hh5 hz4 CHS B5 Hpo Hz
          generalize w2.heap.size = X5 at *
          obtain ⟨Y0, hY0⟩ : ∃ Y0, Y0 = X5 + 1 + 1 := ⟨_, rfl⟩
          rw [← hY0] at o6 ⊢
          have B6 := hb6.size
          rw [hX0] at B6
          have Hb6 := Lib.hid hb6
          have hO6 : Own X0 ((Bk (X5 + 1) 47 #[.slice none 0 0] * (Rw 32 1 (.slice none 0 0) 0 [] * SegL f [])) * ((Bk Y0 22 #[.slice A l.length c] * Bk (Y0 + 1) 27 PA) * (DkL ds * Bk X5 27 PA))) w6 :=
            (o6.rw_nil 32 1).cast (by simp only [SegL]; ac_rfl)
          clear o6 hY0
          obtain ⟨i0', hi, hz0, hz1, hz2⟩ := info_parts infoSl
          have Hi0 := Lib.hid (And.intro hi (And.intro hz0 (And.intro hz1 hz2)))
          clear hi hz0 hz1 hz2
          go_wp2_with fail
          refine wp_rangeFunc_sep (B := X0) (lb := #[.pointer (some ⟨Y0, 0, none⟩), .pointer (some ⟨Y0 + 1, 0, none⟩)]) rfl (enters_of Tryd.func38 (by kernel_rfl) rfl) (Bk Y0 22 #[.slice A l.length c] * Bk (Y0 + 1) 27 PA) (DkL ds * Bk X5 27 PA) (fun _ => inferInstance) (fun _ => rfl)
            (fun R' kR' => CIp.out Y0 (Y0 + 1) X0 R' kR' w6 (fun W b => ⟨Hh.out _ (hb6.trans b), Hr.out _ (hb6.trans b)⟩))
            (fun pre => Hex fun A' : Option Addr => Hex fun c' : Nat => Bk (X5 + 1) 47 #[.slice A' pre.length c'] * (Rw 32 1 (.slice A' pre.length c') pre.length (pre.map (segV f)) * SegL f pre)) (fun _ _ => Fact False) B6 ?own
            (fun x t => t.setIfInBounds 14 (.slice x.A (f x.k).length x.c)) (fun x => _) (fun x => rfl) ?assign ?body ?done ?stop
          case own => exact (hO6.to_hex (A := fun c' : Nat => Bk (X5 + 1) 47 #[.slice none 0 c'] * (Rw 32 1 (.slice none 0 c') 0 [] * SegL f [])) 0).to_hex (A := fun A' : Option Addr => Hex fun c' : Nat => Bk (X5 + 1) 47 #[.slice A' 0 c'] * (Rw 32 1 (.slice A' 0 c') 0 [] * SegL f [])) none
          case assign =>
            intro l x W K hK
            simp only [sgEnc, List.zip_toArray, List.zip_cons_cons, List.zip_nil_right, List.zip_nil_left, List.foldl_toArray', List.foldl_toArray, List.foldl_cons, List.foldl_nil, List.setIfInBounds_toArray, List.set_cons_zero, List.set_cons_succ] at hK ⊢
            gi_wp2
            exact hK
          case body =>
            intro lp pre x W R' _ hBW hbW hO hN
            simp only [sgEnc, List.zip_toArray, List.zip_cons_cons, List.zip_nil_right, List.zip_nil_left, List.foldl_toArray', List.foldl_toArray, List.foldl_cons, List.foldl_nil, List.setIfInBounds_toArray, List.set_cons_zero, List.set_cons_succ] 
            obtain ⟨A', hO⟩ := hO.hex
            obtain ⟨c', hO⟩ := hO.hex
            have hlt : pre.length < N := hN.2.2
            have k12 : W.cell? ⟨X5 + 1, 0, none⟩ = some (.slice A' pre.length c') := (hO.assoc).cell 0
            have o1 : Own X0 (Rw 32 1 (.slice A' pre.length c') pre.length (pre.map (segV f)) * (Bk (X5 + 1) 47 #[.slice A' pre.length c'] * (SegL f pre * (sgGiv f x * R')))) W := hO.cast (by ac_rfl)
            obtain ⟨g2, cap2, W2, hrun, o2, b2⟩ := row_append (P := Tryd.prog) hBW Tryd.underlying47 Hi0.out.1 Hi0.out.2.1 Hi0.out.2.2.1 Hi0.out.2.2.2 rfl (by omega) o1 #[segV f x] rfl
              (by intro u hu; simp at hu; rcases hu with rfl; rfl) (by have := SE2.out; omega) (by have := SE2.out; omega)
            unfold segV at hrun
            have Hrun := Lib.hid hrun
            have B2 := Nat.le_trans hBW b2.size
            have o3 := o2.cast (sep_left_comm _ _ _)
            have k2 : W2.cell? ⟨X5 + 1, 0, none⟩ = some (.slice A' pre.length c') := o3.cell 0
            have z2 := o3.unfrozen 0
            have s2 := o3.set B2 0 (.slice (some ⟨g2, 0, none⟩) (pre.length + 1) cap2)
            have t2 := o3.below_set 0 (.slice (some ⟨g2, 0, none⟩) (pre.length + 1) cap2)
            have hfin : Own X0 ((Hex fun A' : Option Addr => Hex fun c' : Nat => Bk (X5 + 1) 47 #[.slice A' (pre ++ [x]).length c'] * (Rw 32 1 (.slice A' (pre ++ [x]).length c') (pre ++ [x]).length ((pre ++ [x]).map (segV f)) * SegL f (pre ++ [x]))) * R') (W2.setCell ⟨X5 + 1, 0, none⟩ (.slice (some ⟨g2, 0, none⟩) (pre.length + 1) cap2)) := by
              have e1 : (pre ++ [x]).length = pre.length + 1 := by simp
              have e2 : (pre ++ [x]).map (segV f) = pre.map (segV f) ++ #[segV f x].toList := by simp
              rw [e1, e2]
              have h1 := Own.segL_snoc (R := Bk (X5 + 1) 47 #[.slice (some ⟨g2, 0, none⟩) (pre.length + 1) cap2] * (Rw 32 1 (.slice (some ⟨g2, 0, none⟩) (pre.length + 1) cap2) (pre.length + 1) (pre.map (segV f) ++ #[segV f x].toList) * R')) (s2.cast (show _ = SegL f pre * (sgGiv f x * (Bk (X5 + 1) 47 #[.slice (some ⟨g2, 0, none⟩) (pre.length + 1) cap2] * (Rw 32 1 (.slice (some ⟨g2, 0, none⟩) (pre.length + 1) cap2) (pre.length + 1) (pre.map (segV f) ++ #[segV f x].toList) * R'))) by show (Bk (X5 + 1) 47 #[.slice (some ⟨g2, 0, none⟩) (pre.length + 1) cap2] * _ : HP) = _; ac_rfl))
              have h2 : Own X0 ((Bk (X5 + 1) 47 #[.slice (some ⟨g2, 0, none⟩) (pre.length + 1) cap2] * (Rw 32 1 (.slice (some ⟨g2, 0, none⟩) (pre.length + 1) cap2) (pre.length + 1) (pre.map (segV f) ++ #[segV f x].toList) * SegL f (pre ++ [x]))) * R') _ := h1.cast (by ac_rfl)
              exact (h2.to_hex (A := fun c' : Nat => Bk (X5 + 1) 47 #[.slice (some ⟨g2, 0, none⟩) (pre.length + 1) c'] * (Rw 32 1 (.slice (some ⟨g2, 0, none⟩) (pre.length + 1) c') (pre.length + 1) (pre.map (segV f) ++ #[segV f x].toList) * SegL f (pre ++ [x]))) cap2).to_hex (A := fun A' : Option Addr => Hex fun c' : Nat => Bk (X5 + 1) 47 #[.slice A' (pre.length + 1) c'] * (Rw 32 1 (.slice A' (pre.length + 1) c') (pre.length + 1) (pre.map (segV f) ++ #[segV f x].toList) * SegL f (pre ++ [x]))) (some ⟨g2, 0, none⟩)
            have Fin := Lib.hid (And.intro hfin (b2.trans t2))
            clear hrun hO o1 o2 o3 s2 t2 hfin b2 hbW CIp JSf hb6 hO6
            gi_wp2_with first
              | (refine wpListIn_append_at rfl (.tmp 46) (.tmp 48) 47 rfl rfl rfl Hrun.out ?_)
            exact Fin.out
          case done =>
            intro D xs W hS hBW hbW hO
            obtain ⟨A', hO⟩ := hO.hex
            obtain ⟨c', hO⟩ := hO.hex
            have hxl : xs.length = N := by have := congrArg List.length hS; simpa using this
            have k12 : W.cell? ⟨X5 + 1, 0, none⟩ = some (.slice A' xs.length c') := (hO.assoc).cell 0
            have hbw := Hb6.out.trans hbW
            have hpl : (xs.map fun x => (segV f x, f x.k)).length = xs.length := by simp
            have hjp : joinP (xs.map fun x => (segV f x, f x.k)) = dt := by
              unfold joinP
              rw [List.flatMap_map, ← JSf.out, ← hS, List.flatMap_map]
            have hrp : RdP W A' (xs.map fun x => (segV f x, f x.k)) := by
              refine Own.rdP (B := X0) (c := c') (e := 32) hpl.symm (R := Bk (X5 + 1) 47 #[.slice A' xs.length c'] * (SegL f xs * ((Bk Y0 22 #[.slice A l.length c] * Bk (Y0 + 1) 27 PA) * ((DkL ds * Bk X5 27 PA) * Dk D)))) ?_ ?_
              · have e : (xs.map fun x => (segV f x, f x.k)).map (·.1) = xs.map (segV f) := by simp
                rw [e]
                exact hO.cast (by ac_rfl)
              · intro y hy
                obtain ⟨x, hx, rfl⟩ := List.mem_map.1 hy
                exact Own.segL_rd (hO.cast (show _ = SegL f xs * (Bk (X5 + 1) 47 #[.slice A' xs.length c'] * (Rw 32 1 (.slice A' xs.length c') xs.length (xs.map (segV f)) * ((Bk Y0 22 #[.slice A l.length c] * Bk (Y0 + 1) 27 PA) * ((DkL ds * Bk X5 27 PA) * Dk D)))) by ac_rfl)) x hx
            have J := join_any A' c' (xs.map fun x => (segV f x, f x.k)) (by rw [hpl, hxl]; have := SE2.out; omega) (by rw [hjp]; omega) W hrp
            rw [hpl, hjp] at J
            have J := Lib.hid J
            have oD : Own X0 ((Dk D * DkL ds) * Emp) W := Own.right (A := Bk (X5 + 1) 47 #[.slice A' xs.length c'] * (Rw 32 1 (.slice A' xs.length c') xs.length (xs.map (segV f)) * (SegL f xs * ((Bk Y0 22 #[.slice A l.length c] * Bk (Y0 + 1) 27 PA) * Bk X5 27 PA)))) (hO.emp.cast (by ac_rfl))
            clear hO hrp hjp hS hxl hpl hbW CIp JSf hb6 hO6
            go_wp2_with fail
            refine J.out.mono ?_
            rintro e W3 ⟨v3, rfl, h3, b3⟩
            have o3 := Own.fresh hBW oD h3 b3
            obtain ⟨A3, c3, rfl⟩ := o3.row_n
            have s3 := str_of_rd o3.rd
            have oF := o3.drop
            have hb3 := hbw.trans (b3.mono hBW)
            clear o3 h3 b3 oD J hbw k12
            go_wp2
            refine ⟨[?_], [?_, ?_, ?_, ?_, ?_, ?_, ?_, ?_, ?_, ?_, ?_, ?_, ?_, ?_, ?_, ?_, ?_, ?_, ?_, ?_, ?_, ?_, ?_, ?_, ?_, ?_, ?_, ?_, ?_, ?_], D :: ds, rfl, rfl, ?aeq, ?rel, ?mu⟩
            case aeq =>
              simp only [setAll, List.setIfInBounds_toArray, List.set_cons_zero, List.set_cons_succ]
              rfl
            case rel => exact ⟨i + 1, by omega, rfl, hb3, oF⟩
            case mu => simp [intOf]; omega
          case stop =>
            intro D cd pre W hSp hBW hbW hO
            exact hO.fact_out.elim
        · clear CI hPA Hpl
          go_wp2_with first
            | (refine wpList_plain rfl fun _ hK => wp_store_row 27 (.tmp 10) (.tmp 37) rfl w2.heap.size PA rfl rfl 27 _ Hh3.out hinf2 Hz.out Hpo.out (hK _ _ ?_))
          refine ⟨[?_], [?_, ?_, ?_, ?_, ?_, ?_, ?_, ?_, ?_, ?_, ?_, ?_, ?_, ?_, ?_, ?_, ?_, ?_, ?_, ?_, ?_, ?_, ?_, ?_, ?_, ?_, ?_, ?_, ?_, ?_], ?_, rfl, rfl, ?aeq, ?rel, ?mu⟩
          case aeq =>
            simp only [setAll, List.setIfInBounds_toArray, List.set_cons_zero, List.set_cons_succ]
            rfl
          case rel => exact ⟨i + 1, by omega, rfl, hb4, o4.right⟩
          case mu => simp [intOf]; omega
      · obtain rfl : i = 2 := by omega
        have hb := hbW
        clear hbW
        go_wp2_with fail
        refine (Aw.out _ (Hh.out _ hb)).mono ?_
        rintro e w3 ⟨rfl, b⟩
        have hB : X0 ≤ W.heap.size := by rw [← hX0]; exact hb.size
        have o2 := hO.grown hB b
        replace hb := hb.trans (b.mono hB)
        go_wp2
        exact ret_hps ds (Nat.le_trans hB b.size) o2 (fun W' _ => results_tmp rfl _ _ _) (fun W' _ b' => ⟨rfl, by rw [hX0]; exact hb.trans b'⟩)
    · have hz' : (whyE (ents (l.map (·.1))) == 0) = false := by simpa using hz
      rw [hz'] at R1
      clear h hr hf f3 hw
      refine (callsIn_wide (n := 5)).1 (callsIn_of_wp_marks Tryd.func8 rfl trivial (wpIn_wide.2 ?_) rfl)
      simp only [Tryd.ntmps8, List.size_toArray, List.length_cons, List.length_nil, Nat.reduceAdd, Nat.reduceSub, Array.replicate_succ, Array.replicate_zero, List.push_toArray, List.append_toArray, List.nil_append, List.cons_append]
      go_wp2_with fail
      refine (Fe.out).mono ?_
      rintro e wz ⟨rfl, rfl⟩
      go_wp2_with fail
      refine (R1.out _ (Hh.out _ hb) (Hr.out _ hb)).mono ?_
      rintro e wz ⟨rfl, b⟩
      replace hb := hb.trans (b.mono hb.size)
      clear b
      go_wp2_with fail
      refine (Aw.out _ (Hh.out _ hb)).mono ?_
      rintro e wz ⟨rfl, b⟩
      replace hb := hb.trans (b.mono hb.size)
      clear b
      go_wp2
      exact ⟨_, results_tmp rfl _ _ _, rfl, hb⟩
  · rw [decide_eq_false hf] at Fe
    clear h hr hf hw
    refine (callsIn_wide (n := 5)).1 (callsIn_of_wp_marks Tryd.func8 rfl trivial (wpIn_wide.2 ?_) rfl)
    simp only [Tryd.ntmps8, List.size_toArray, List.length_cons, List.length_nil, Nat.reduceAdd, Nat.reduceSub, Array.replicate_succ, Array.replicate_zero, List.push_toArray, List.append_toArray, List.nil_append, List.cons_append]
    go_wp2_with fail
    refine (Fe.out).mono ?_
    rintro e wz ⟨rfl, rfl⟩
    go_wp2_with fail
    refine (Aw.out _ (Hh.out _ hb)).mono ?_
    rintro e wz ⟨rfl, b⟩
    replace hb := hb.trans (b.mono hb.size)
    clear b
    go_wp2
    exact ⟨_, results_tmp rfl _ _ _, rfl, hb⟩
end Go.Proofs.YtmppagiaonbggaaDoor

/- A statement whose order Go leaves open, within a round of a range over a function: by the rules for plain code. -/
namespace Go.Proofs.YtmppagiaonbggaaDoor
set_option linter.unusedVariables false
set_option linter.unusedSimpArgs false
set_option maxRecDepth 100000
open Go.RowKit

section
variable {P : Program} {ops : Array Oper} {md : Region.Mode} {Q : Exit → Act → World → Prop} {l n : Nat}

theorem Oper.wpIn_of_wp {o : Oper} {a : Act} {w : World} {K : Act → World → Prop} (hd : ∀ c, o.op ≠ .defer c) (h : o.wp P a w K Q) : o.wpIn (Fence.wide.inRound l) n P a w K Q := by
  refine ⟨fun _ _ => trivial, ?_⟩
  rw [Oper.semAt_eq _ _ _ hd]
  unfold Oper.wp at h
  generalize (execOp a.eval o).run P w = r at h
  cases r with
  | ok x w' =>
    have hn : (Fence.wide.inRound l).depth.isSome = true → 1 ≤ n := fun h => absurd h (by simp [Fence.inRound, Fence.wide])
    cases x <;> simp only [Oper.upon, Oper.uponIn] at h ⊢
    case value => exact h
    case skip => exact h
    case defer => exact h
    case enter f args => exact ⟨hn, callsIn_wide.2 h⟩
    case row r args =>
      refine ⟨hn, fun c cs _ => ?_⟩
      obtain ⟨v, w', r, s⟩ := h c cs
      exact ⟨v, w', r, stepsIn_wide.2 s⟩
  | halt x w' => cases x <;> simp only [Oper.upon, Oper.uponIn] at h ⊢ <;> exact h
def noDefer (ops : Array Oper) : Bool := ops.all fun o => match o.op with | .defer _ => false | _ => true
theorem noDefer_spec (h : noDefer ops = true) {i : Nat} {o : Oper} (ho : ops[i]? = some o) : ∀ c, o.op ≠ .defer c := by
  intro c hc
  have h1 := (Array.all_eq_true.1 h) i (Array.getElem?_eq_some_iff.1 ho).1
  have h2 := (Array.getElem?_eq_some_iff.1 ho).2
  rw [h2, hc] at h1
  cases h1
theorem wpOpIn_of_wp {i : Nat} {a : Act} {w : World} {K : Act → World → Prop} (hd : noDefer ops = true) (hlo : ¬ LetsOut Q) (h : wpOp P ops Q i K a w) : wpOpIn (Fence.wide.inRound l) n P ops Q i K a w := by
  unfold wpOp at h
  unfold wpOpIn
  cases ho : ops[i]? with
  | none => rw [ho] at h; exact h
  | some o =>
    rw [ho] at h
    simp only at h ⊢
    split
    · rename_i hw
      rw [if_pos hw] at h
      rcases h with h | ⟨_, h⟩
      · exact Oper.wpIn_of_wp (noDefer_spec hd ho) h
      · exact absurd h hlo
    · rename_i hw
      rw [if_neg hw] at h
      exact ⟨fun _ _ => trivial, h⟩
theorem wpAnyIn_of_wp (hd : noDefer ops = true) (hlo : ¬ LetsOut Q) : ∀ (fuel : Nat) (listed : Array Bool) (a : Act) (w : World), wpAny P md ops Q fuel listed a w → wpAnyIn (Fence.wide.inRound l) n P md ops Q fuel listed a w
  | 0, _, _, _, h => h
  | fuel + 1, listed, a, w, h => ⟨h.1, fun i hi => wpOpIn_mono (fun a w h => wpAnyIn_of_wp hd hlo fuel _ a w h) (wpOpIn_of_wp hd hlo (h.2 i hi))⟩
/-- Where nothing panics, what a panic would have to show is nothing. -/
def noPanic (Q : Exit → Act → World → Prop) : Exit → Act → World → Prop
  | .panic _, _, _ => False
  | .outgrown, _, _ => False
  | e, a, w => Q e a w
theorem wp_region_calm {id : Nat} {b : Bool} {a : Act} {w : World} {K : Act → World → Prop} {Q' : Exit → Act → World → Prop} (h : (Code.region id ops b).wp P (Exit.then K (noPanic Q')) a w) : (Code.region id ops b).wp P (Exit.then K Q') a w := by
  refine wp_mono h ?_
  intro e a w h
  cases e <;> first | exact h | exact False.elim h
theorem wpIn_region_calm {F : Fence} {id : Nat} {b : Bool} {a : Act} {w : World} {K : Act → World → Prop} {Q' : Exit → Act → World → Prop} (h : (Code.region id ops b).wpIn F n P (Exit.then K (noPanic Q')) a w) : (Code.region id ops b).wpIn F n P (Exit.then K Q') a w := by
  refine wpIn_mono h ?_
  intro e a w h
  cases e <;> first | exact h | exact False.elim h
/-- Free steps first. -/
theorem wpAny_us {fuel n : Nat} {listed : Array Bool} {a : Act} {w : World} (us : List Nat) (hsel : Region.noSelect ops = true) (hB : freeB md ops us listed = true) (hf : fuel = us.length + n) (hQ : ∀ c a d v w, Q (.panic c) (a.put (some d) v) w → Q (.panic c) a w)
    (h : wpFree P ops (fun a1 => wpAny P md ops Q n (markAll us listed) a1 w) (us.filterMap fun i => ops[i]?) a) : wpAny P md ops Q fuel listed a w := by
  subst hf
  exact wpAny_free hQ hsel us _ a hB (fun a1 h1 => h1) h
/-- As wp_region_lmix, from any place on. -/
theorem wpAny_lmix {fuel : Nat} {listed : Array Bool} {a : Act} {w : World} {S : World → Prop} (us ls hs ts0 ts : List Nat)
    (hB : (freeB .any ops us listed && lmixB .any ops (markAll us listed) ls hs ts0 ts) = true) (hf : fuel = us.length + ((ls.length + (hs.length + ts0.length)) + ts.length))
    (hQ : ∀ c a d v w, Q (.panic c) (a.put (some d) v) w → Q (.panic c) a w) (hS : S w)
    (h : wpFree P ops (fun a1 => wpLate P ops S (fun a2 => wpHeld P ops S (fun a3 => ∀ w', S w' → wpKept P ops Q S (fun a4 w4 => wpList P ops Q (ts.filterMap fun i => ops[i]?) a4 w4) (ts0.filterMap fun i => ops[i]?) a3 w')
      (hs.filterMap fun i => ops[i]?) a2) (ls.filterMap fun i => ops[i]?) a1) (us.filterMap fun i => ops[i]?) a) :
    wpAny P .any ops Q fuel listed a w := by
  simp only [lmixB, Bool.and_eq_true] at hB
  obtain ⟨hB1, hB2, hB3⟩ := hB
  obtain ⟨hsel, ok1⟩ := mixB_ok hB2
  obtain ⟨_, ok2⟩ := mixB_ok hB3
  have hts : ∀ i ∈ ts, i < ops.size := fun i hi => (ok1.un i (by simp [hi])).1
  have hts0 : ∀ i ∈ ts0, i < ops.size := fun i hi => (ok1.un i (by simp [hi])).1
  have hhs : ∀ i ∈ hs, i < ops.size := fun i hi => (ok1.un i (by simp [hi])).1
  subst hf
  refine wpAny_free hQ hsel us _ a hB1 (fun a1 h1 => ?_) h
  refine wpL_any (S := S) (T := fun a4 w4 => wpOps P ops Q ts a4 w4) (fun _ _ h => h) _ (ls ++ (hs ++ ts0)) _ a1 _ (by simp) ok1 ?_
  have := wpL_lates (P := P) (S := S) (T := fun a4 w4 => wpOps P ops Q ts a4 w4) (w := w) hsel hQ hS ls (hs ++ ts0) _ a1 ok1 (fun a2 h2 _ => ?_) h1
  · simpa using this
  · rw [List.length_append]
    exact wpL_held hsel _ hs _ a2 _ rfl ok2 hS (wpMix_of_held (fun a3 h3 w' hw' => wpKeep_of_kept (fun a4 w4 h4 => wpOps_list ts a4 w4 hts h4) ts0 a3 w' hts0 (h3 w' hw')) hs a2 hhs h2)

/-- THE RULE. -/
theorem wpIn_region_by {id : Nat} {a : Act} {w : World} (hm : P.follows .mixedOrders = true) (hd : noDefer ops = true) (hlo : ¬ LetsOut Q)
    (h : wpAny P .any ops Q ops.size (Array.replicate ops.size false) a w.drew) : (Code.region id ops true).wpIn (Fence.wide.inRound l) n P Q a w :=
  wpIn_region_any hm (wpAnyIn_of_wp hd hlo _ _ _ _ h)
end
end Go.Proofs.YtmppagiaonbggaaDoor

/- An open-order region, step by step: a stretch in which one step alone may come; and the rule of two threads from any place on. -/
namespace Go.Proofs.YtmppagiaonbggaaDoor
set_option linter.unusedVariables false
set_option linter.unusedSimpArgs false
set_option maxRecDepth 100000
open Go.RowKit

section
variable {P : Program} {ops : Array Oper} {md : Region.Mode} {Q : Exit → Act → World → Prop} {B : Nat}

def preB (md : Region.Mode) (ops : Array Oper) : List Nat → Array Bool → Bool
  | [], _ => true
  | i :: l, listed => decide (i < ops.size) && decide (Region.ready md ops listed = [i]) && preB md ops l (listed.setIfInBounds i true)

theorem letsOut_then {K : Act → World → Prop} (h : LetsOut (Exit.then K Q)) : LetsOut Q := h
theorem upon_then {o : Oper} {a : Act} {N : Act → World → Prop} {K : Act → World → Prop} : ∀ r : Result Next, o.upon P a N (Exit.then K Q) r → o.upon P a N Q r := by
  intro r h
  cases r with
  | ok n w => cases n <;> exact h
  | halt x w => cases x <;> exact h
theorem wpOp_then {i : Nat} {N : Act → World → Prop} {K : Act → World → Prop} {a : Act} {w : World} (h : wpOp P ops (Exit.then K Q) i N a w) : wpOp P ops Q i N a w := by
  unfold wpOp at *
  split at h
  · exact h
  · split at h
    · rename_i hw
      rw [if_pos hw]
      rcases h with h | ⟨h1, h2⟩
      · exact .inl (upon_then _ h)
      · exact .inr ⟨h1, letsOut_then h2⟩
    · rename_i hw
      rw [if_neg hw]
      exact h
theorem wpAny_pre' {n : Nat} : ∀ (pre : List Nat) (listed : Array Bool) (a : Act) (w : World), preB md ops pre listed = true →
    wpOps P ops (Exit.then (fun a w => wpAny P md ops Q n (markAll pre listed) a w) Q) pre a w → wpAny P md ops Q (pre.length + n) listed a w
  | [], listed, a, w, _, h => by rw [List.length_nil, Nat.zero_add]; exact h
  | i :: pre, listed, a, w, hB, h => by
    simp only [preB, Bool.and_eq_true, decide_eq_true_eq] at hB
    obtain ⟨⟨_, hr⟩, hB'⟩ := hB
    rw [wpOps_cons] at h
    rw [show (i :: pre).length + n = (pre.length + n) + 1 by simp; omega]
    refine ⟨fun h0 => (by rw [h0] at hr; cases hr), fun j hj => ?_⟩
    rw [hr] at hj
    obtain rfl := List.mem_singleton.1 hj
    exact wpOp_mono (fun a' w' h' => wpAny_pre' pre _ a' w' hB' h') (wpOp_then h)
theorem preB_lt : ∀ (pre : List Nat) (listed : Array Bool), preB md ops pre listed = true → ∀ i ∈ pre, i < ops.size
  | [], _, _, i, hi => absurd hi (by simp)
  | j :: pre, listed, hB, i, hi => by
    simp only [preB, Bool.and_eq_true, decide_eq_true_eq] at hB
    rcases List.mem_cons.1 hi with rfl | hi
    · exact hB.1.1
    · exact preB_lt pre _ hB.2 i hi
/-- The first steps come one by one. -/
theorem wpAny_pre {fuel n : Nat} {listed : Array Bool} {a : Act} {w : World} (pre : List Nat) (hB : preB md ops pre listed = true) (hf : fuel = pre.length + n)
    (h : wpList P ops (Exit.then (fun a w => wpAny P md ops Q n (markAll pre listed) a w) Q) (pre.filterMap fun i => ops[i]?) a w) : wpAny P md ops Q fuel listed a w := by
  subst hf
  exact wpAny_pre' pre listed a w hB (wpOps_list pre a w (preB_lt pre listed hB) h)
theorem wp_region_pre {id : Nat} {a : Act} {w : World} (pre : List Nat) (n : Nat) (hm : P.follows .mixedOrders = true) (hB : preB .any ops pre (Array.replicate ops.size false) = true) (hf : ops.size = pre.length + n)
    (h : wpList P ops (Exit.then (fun a w => wpAny P .any ops Q n (markAll pre (Array.replicate ops.size false)) a w) Q) (pre.filterMap fun i => ops[i]?) a w.drew) : (Code.region id ops true).wp P Q a w := by
  refine wp_region_any hm ?_
  have := wpAny_pre (md := .any) pre hB hf h
  exact this
/-- Two threads, with late reads, from any place on. -/
theorem wpAny_ltwo {fuel : Nat} {listed : Array Bool} {a : Act} {w : World} (us ls l1 l2 ts : List Nat) (A1 A2 R : HP) [k1 : Loc B A1] [k2 : Loc B A2] [Loc B R]
    (hB : (freeB .any ops us listed && mixB .any ops (markAll us listed) (ls ++ (l1 ++ l2)) ts && twoB .any ops (markAll ls (markAll us listed)) l1 l2 ts) = true)
    (hf : fuel = us.length + ((ls.length + (l1.length + l2.length)) + ts.length))
    (hQ : ∀ c a d v w, Q (.panic c) (a.put (some d) v) w → Q (.panic c) a w) (hsz : B ≤ w.heap.size) (hO : Own B (A1 * (A2 * R)) w)
    (h : wpFree P ops (fun a1 => wpLate P ops (fun w => Own B R w) (fun a2 => ∃ Φ1 Φ2 : List Value → HP → Prop, TW P ops B (opsOf ops l1) Φ1 a2 A1 ∧ TW P ops B (opsOf ops l2) Φ2 a2 A2 ∧
      ∀ vs1 A1' vs2 A2' w', Φ1 vs1 A1' → Φ2 vs2 A2' → Own B (A1' * (A2' * R)) w' → Below B w w' → wpList P ops Q (ts.filterMap fun i => ops[i]?) (putAll (opsOf ops l2) vs2 (putAll (opsOf ops l1) vs1 a2)) w')
      (ls.filterMap fun i => ops[i]?) a1) (us.filterMap fun i => ops[i]?) a) : wpAny P .any ops Q fuel listed a w := by
  simp only [Bool.and_eq_true] at hB
  obtain ⟨⟨hB1, hB2⟩, hB3⟩ := hB
  obtain ⟨hsel, ok1⟩ := mixB_ok hB2
  obtain ⟨_, ok2⟩ := twoB_ok hB3
  have hts : ∀ i ∈ ts, i < ops.size := fun i hi => (ok1.un i (by simp [hi])).1
  have hR : Own B R w := hO.right.right
  have hgo : wpAny P .any ops Q (us.length + ((ls.length + (l1.length + l2.length)) + ts.length)) listed a w := by
    refine wpAny_free hQ hsel us _ a hB1 (fun a1 h1 => ?_) h
    refine wpL_any (S := fun w => Own B R w) (T := fun a4 w4 => wpOps P ops Q ts a4 w4) (fun _ _ h => h) _ (ls ++ (l1 ++ l2)) _ a1 _ (by simp) ok1 ?_
    have := wpL_lates (P := P) (S := fun w => Own B R w) (T := fun a4 w4 => wpOps P ops Q ts a4 w4) (w := w) hsel hQ hR ls (l1 ++ l2) _ a1 ok1 (fun a2 ⟨Φ1, Φ2, t1, t2, hK⟩ _ => ?_) h1
    · rw [List.length_append]
      exact wpL_two hsel (l1.length + l2.length) l1 l2 _ a2 _ Φ1 Φ2 A1 A2 rfl k1 k2 ok2 t1 t2 hsz hO fun vs1 A1' vs2 A2' w' p1 p2 ho hb => wpOps_list ts _ w' hts (hK vs1 A1' vs2 A2' w' p1 p2 ho hb)
    · rw [List.length_append] at this
      exact this
  rw [← hf] at hgo
  exact hgo
end
end Go.Proofs.YtmppagiaonbggaaDoor

/- Words for the walk over SourceChunks. -/
namespace Go.Proofs.YtmppagiaonbggaaDoor
set_option linter.unusedVariables false
set_option linter.unusedSimpArgs false
set_option maxRecDepth 100000
open Go.RowKit Go.Shelf

attribute [local go_sem] Oper.semAt_some

theorem build_plan3 (ch wi tot : Int) (D : List UInt8) (hD : D = List.replicate 32 0) (w : World) : (Instr.build 27 #[(0, .int .i64 ch), (1, .int .i64 wi), (2, .int .i64 tot)]).run Tryd.prog w = .ok (.agg (pnL ⟨ch, wi, tot, D⟩).toArray) w := by
  subst hD
  exact run_build w _ _ _ (by kernel_rfl)
theorem chunk_none {b : List UInt8} {p : Pn} {k : Int} (h : ¬ (0 ≤ k ∧ k < segsP p)) : chunkP b p k = [] := by
  unfold chunkP
  rw [if_pos]
  omega

theorem Own.rw_nilW {B : Nat} {R : HP} [Loc B R] {w : World} {want : List UInt8} (h : Own B R w) (hw : want = []) : Own B (Rw 5 1 (.slice none 0 0) want.length (bytesU want) * R) w := by
  subst hw
  exact h.rw_nil _ _
def PP (f : Nat → List UInt8) (X : Nat) (pre : List Sg) : HP := Hex fun A' : Option Addr => Hex fun c' : Nat => Bk X 47 #[.slice A' pre.length c'] * (Rw 32 1 (.slice A' pre.length c') pre.length (pre.map (segV f)) * SegL f pre)
instance Loc.pp {B : Nat} {f : Nat → List UInt8} {X : Nat} {pre : List Sg} : Loc B (PP f X pre) := by unfold PP; infer_instance
theorem Own.to_pp {B : Nat} {f : Nat → List UInt8} {X : Nat} {pre : List Sg} {R : HP} {w : World} {A' : Option Addr} {c' : Nat} (h : Own B ((Bk X 47 #[.slice A' pre.length c'] * (Rw 32 1 (.slice A' pre.length c') pre.length (pre.map (segV f)) * SegL f pre)) * R) w) : Own B (PP f X pre * R) w :=
  (h.to_hex (A := fun c' : Nat => Bk X 47 #[.slice A' pre.length c'] * (Rw 32 1 (.slice A' pre.length c') pre.length (pre.map (segV f)) * SegL f pre)) c').to_hex (A := fun A' : Option Addr => Hex fun c' : Nat => Bk X 47 #[.slice A' pre.length c'] * (Rw 32 1 (.slice A' pre.length c') pre.length (pre.map (segV f)) * SegL f pre)) A'

/-- Which of the three ways the law goes. -/
def caseOf (l : List Fi) (ch k : Int) : Nat := if 0 ≤ k then (if k < (nsegP (dataL l) ⟨ch, 1, ((dataL l).length : Int), List.replicate 32 0⟩ : Int) then 1 else 3) else 2
theorem caseOf_in (l : List Fi) (ch k : Int) : caseOf l ch k = 1 ∨ caseOf l ch k = 2 ∨ caseOf l ch k = 3 := by
  unfold caseOf
  split
  · split <;> simp
  · simp
end Go.Proofs.YtmppagiaonbggaaDoor

/- The arguments of a law, as its walk wants them. -/
namespace Go.Proofs.YtmppagiaonbggaaDoor
set_option linter.unusedVariables false
set_option linter.unusedSimpArgs false
set_option maxRecDepth 100000
open Go.RowKit Go.Deep Go.ChangeShapes Go.WideShapes

section
variable {H : Type} {enc : TypeId × Value → H} {P : Program} {W : World} {base : Nat} {spare : Nat → Bool} {held : Bool}

/-- A slice of one-cell elements that came in, by what each element's own reading gives. -/
theorem rd_slice1 {α : Type} [Inhabited α] (f : α → Value) (ok : α → Prop) {t e : TypeId} {v : Value} {d : DataW H} {p : List MemPlace} (ht : P.underlying t = some (.slice e)) (hC : P.cellsOf e = 1)
    (hel : ∀ (fuel : Nat) (u : Value) (y : DataW H × List MemPlace), DataW.trod enc P W base spare held fuel e [u] = some y → ∃ a, u = f a ∧ ok a)
    (hv : ∃ A n c, v = .slice A n c) (h : DataW.Trod enc P W base spare held t v d p) : ∃ (A : Option Addr) (l : List α) (c : Nat), v = .slice A l.length c ∧ Rd W v (l.map f) ∧ l.length ≤ c ∧ c ≤ maxLen ∧ ∀ a ∈ l, ok a := by
  obtain ⟨A, n, c, rfl⟩ := hv
  obtain ⟨fuel, hf⟩ := h
  rcases open_slice1 ht hC hf with ⟨hcs, _⟩ | ⟨a, len, cap, m, k, V, D, Pl, hcs, hb, hl, hm, hmm, hx, hi⟩
  · simp [Value.cells] at hcs
    obtain ⟨rfl, rfl, rfl⟩ := hcs
    exact ⟨none, [], 0, rfl, Rd.nil W, Nat.le_refl _, by unfold maxLen; omega, by simp⟩
  · simp [Value.cells] at hcs
    obtain ⟨rfl, rfl, rfl⟩ := hcs
    have hlm : n ≤ m := by rw [hmm]; split <;> omega
    obtain ⟨g, hg⟩ := choose_lt (n := n) (p := fun i a => V i = f a ∧ ok a) (fun i hin => hel k (V i) _ (hi i (by omega)).2)
    refine ⟨some a, (List.range n).map g, c, by simp, ⟨some a, c, by simp, fun _ => ⟨a, rfl, fun j u hu => ?_⟩⟩, by simpa using hl, hm, ?_⟩
    · have hj : j < n := by
        have := (List.getElem?_eq_some_iff.1 hu).1
        simpa using this
      have e : (((List.range n).map g).map f)[j]? = some (f (g j)) := by simp [hj]
      rw [e] at hu
      injection hu with hu
      subst hu
      rw [(hi j (by omega)).1, (hg j hj).1]
    · intro x hx
      obtain ⟨i, hir, rfl⟩ := List.mem_map.1 hx
      exact (hg i (List.mem_range.1 hir)).2

theorem rd_bools {t e : TypeId} {v : Value} {d : DataW H} {p : List MemPlace} (ht : P.underlying t = some (.slice e)) (he : P.underlying e = some .bool) (hC : P.cellsOf e = 1)
    (hv : ∃ A n c, v = .slice A n c) (h : DataW.Trod enc P W base spare held t v d p) : ∃ (A : Option Addr) (l : List Bool) (c : Nat), v = .slice A l.length c ∧ Rd W v (l.map Value.bool) ∧ l.length ≤ c ∧ c ≤ maxLen ∧ ∀ a ∈ l, True :=
  rd_slice1 Value.bool (fun _ => True) ht hC (fun fuel u y hy => by
    obtain ⟨b, hb, _⟩ := DataW.trod_bool he hy
    exact ⟨b, by simpa using hb, trivial⟩) hv h
theorem rd_ints {k : IntKind} {t e : TypeId} {v : Value} {d : DataW H} {p : List MemPlace} (ht : P.underlying t = some (.slice e)) (he : P.underlying e = some (.int k)) (hC : P.cellsOf e = 1)
    (hv : ∃ A n c, v = .slice A n c) (h : DataW.Trod enc P W base spare held t v d p) : ∃ (A : Option Addr) (l : List Int) (c : Nat), v = .slice A l.length c ∧ Rd W v (l.map (Value.int k)) ∧ l.length ≤ c ∧ c ≤ maxLen ∧ ∀ a ∈ l, (Lit.int k a).wf = true :=
  rd_slice1 (Value.int k) (fun a => (Lit.int k a).wf = true) ht hC (fun fuel u y hy => by
    obtain ⟨n, hn, _, hw⟩ := DataW.trod_int he hy
    exact ⟨n, by simpa using hn, hw⟩) hv h
end
end Go.Proofs.YtmppagiaonbggaaDoor

/- Slices of structs that a law is asked for, as its walk wants them. -/
namespace Go.Proofs.YtmppagiaonbggaaDoor
set_option linter.unusedVariables false
set_option linter.unusedSimpArgs false
set_option maxRecDepth 100000
open Go.RowKit Go.Deep Go.ChangeShapes Go.WideShapes

section
variable {H : Type} {enc : TypeId × Value → H} {P : Program} {w : World} {base : Nat} {spare : Nat → Bool} {held : Bool}
theorem open_slice_fieldsE {t e : TypeId} {fs : Array Field} {fuel : Nat} {cs : List Value} {x : DataW H × List MemPlace} (ht : P.underlying t = some (.slice e)) (he : P.underlying e = some (.struct fs))
    (hone : oneCellFields P fs = true) (hC : P.cellsOf e = fs.size) (h : DataW.trod enc P w base spare held fuel t cs = some x) :
    (cs = [.slice none 0 0] ∧ x = (.nil, [])) ∨
    ∃ (a : Addr) (len cap m : Nat), cs = [.slice (some a) len cap] ∧ base ≤ a.block ∧ len ≤ cap ∧ cap ≤ maxLen ∧ m = (if spare a.block then cap else len) ∧
      ∀ i, i < m → ∃ n : Nat, ∀ (j : Nat) (f : Field), fs[j]? = some f → ∃ (v : Value) (y : DataW H × List MemPlace), w.cell? (a.add (i * fs.size + j)) = some v ∧ DataW.trod enc P w base spare held n f.type [v] = some y := by
  rcases open_slice ht h with h0 | ⟨a, len, cap, m, n, D, Pl, hcs, hb, hl, hm, hmm, hx, hi⟩
  · exact .inl h0
  · refine .inr ⟨a, len, cap, m, hcs, hb, hl, hm, hmm, fun i him => ?_⟩
    obtain ⟨cs', hc, ht'⟩ := hi i him
    rw [hC] at hc
    obtain ⟨ys, n', hn', hy, hlen, hyl, hf⟩ := DataW.trod_struct he ht'
    obtain ⟨_, hcl, hat⟩ := World.cells?_some hc
    refine ⟨n', fun j f hj => ?_⟩
    obtain ⟨ho, hk⟩ := hone_of hone j f hj
    have hjl : j < fs.size := (Array.getElem?_eq_some_iff.1 hj).1
    have hcell := hat j hjl
    have hv : cs'[j]? = some (cs'[j]'(by omega)) := List.getElem?_eq_getElem (by omega)
    have h1 := hf j f hj
    rw [ho, hk] at h1
    have hone' : (cs'.drop j).take 1 = [cs'[j]'(by omega)] := by
      rw [List.drop_eq_getElem_cons (by omega)]
      rfl
    rw [hone'] at h1
    have hys : ys[j]? = some (ys[j]'(by omega)) := List.getElem?_eq_getElem (by omega)
    refine ⟨_, _, ?_, h1.trans hys⟩
    rw [← Go.Deep.add_add, hcell, hv]

/-- A slice of structs of one-cell fields that came in, by what each struct's own reading gives. -/
theorem rd_structs {α : Type} [Inhabited α] (cs : α → List Value) (ok : α → Prop) {t e : TypeId} {fs : Array Field} {v : Value} {d : DataW H} {p : List MemPlace} (ht : P.underlying t = some (.slice e)) (he : P.underlying e = some (.struct fs))
    (hone : oneCellFields P fs = true) (hC : P.cellsOf e = fs.size) (hpos : 0 < fs.size)
    (hel : ∀ (g : Nat → Value) (n : Nat), (∀ (j : Nat) (f : Field), fs[j]? = some f → ∃ y, DataW.trod enc P w base spare held n f.type [g j] = some y) → ∃ a, ok a ∧ ∀ j u, (cs a)[j]? = some u → j < fs.size ∧ u = g j)
    (hv : ∃ A n c, v = .slice A n c) (h : DataW.Trod enc P w base spare held t v d p) : ∃ (A : Option Addr) (l : List α) (c : Nat), v = .slice A l.length c ∧ RdA fs.size cs w A l ∧ l.length ≤ c ∧ c ≤ maxLen ∧ ∀ a ∈ l, ok a := by
  obtain ⟨A, n, c, rfl⟩ := hv
  obtain ⟨fuel, hf⟩ := h
  rcases open_slice_fieldsE ht he hone hC hf with ⟨hcs, _⟩ | ⟨a, len, cap, m, hcs, hb, hl, hm, hmm, hi⟩
  · simp [Value.cells] at hcs
    obtain ⟨rfl, rfl, rfl⟩ := hcs
    exact ⟨none, [], 0, rfl, RdA.nil, Nat.le_refl _, by unfold maxLen; omega, by simp⟩
  · simp [Value.cells] at hcs
    obtain ⟨rfl, rfl, rfl⟩ := hcs
    have hlm : n ≤ m := by rw [hmm]; split <;> omega
    by_cases hn : n = 0
    · subst hn
      exact ⟨some a, [], c, rfl, RdA.nil, Nat.zero_le _, hm, by simp⟩
    have hsp : a.spot = none := by
      obtain ⟨n', hfs⟩ := hi 0 (by omega)
      obtain ⟨f, hf0⟩ : ∃ f, fs[0]? = some f := ⟨_, Array.getElem?_eq_getElem hpos⟩
      obtain ⟨v, y, hq, _⟩ := hfs 0 f hf0
      have := World.cell?_spot hq
      simpa [Addr.add] using this
    obtain ⟨b, off, spot⟩ := a
    simp only at hsp
    subst hsp
    have hel2 : ∀ i, i < n → ∃ q : α, ok q ∧ ∀ j u, (cs q)[j]? = some u → w.cell? ⟨b, off + i * fs.size + j, none⟩ = some u := by
      intro i hin
      obtain ⟨n', hfs⟩ := hi i (by omega)
      obtain ⟨q, hq, hcq⟩ := hel (fun j => (w.cell? ((⟨b, off, none⟩ : Addr).add (i * fs.size + j))).getD undef) n' (fun j f hj => by
        obtain ⟨v, y, hc, hy⟩ := hfs j f hj
        exact ⟨y, by rw [hc]; exact hy⟩)
      refine ⟨q, hq, fun j u hu => ?_⟩
      obtain ⟨hj, e⟩ := hcq j u hu
      obtain ⟨v, y, hc, _⟩ := hfs j _ (Array.getElem?_eq_getElem hj)
      rw [hc] at e
      rw [Addr.add_lit] at hc
      rw [Nat.add_assoc, hc, e]
      rfl
    obtain ⟨g, hg⟩ := choose_lt (n := n) (α := α) (p := fun i q => ok q ∧ ∀ j u, (cs q)[j]? = some u → w.cell? ⟨b, off + i * fs.size + j, none⟩ = some u) hel2
    refine ⟨some ⟨b, off, none⟩, (List.range n).map g, c, by simp, fun i hin => ?_, by simpa using hl, hm, ?_⟩
    · have hin' : i < n := by simpa using hin
      refine ⟨b, off, rfl, ?_, fun j u hu => ?_⟩
      · obtain ⟨n', hfs⟩ := hi i (by omega)
        obtain ⟨v, y, hq, _⟩ := hfs 0 _ (Array.getElem?_eq_getElem hpos)
        have := World.block_lt_of_cell? w _ hq
        rwa [add_block] at this
      · simp at hu
        exact (hg i hin').2 j u hu
    · intro x hx
      obtain ⟨i, hir, rfl⟩ := List.mem_map.1 hx
      exact (hg i (List.mem_range.1 hir)).1

theorem wf_ok {z : Int} (h : (Lit.int .i64 z).wf = true) : okI z := by
  have hw := h
  simp [Lit.wf, IntKind.min, IntKind.max, IntKind.signed, IntKind.bits] at hw
  unfold okI; omega
/-- A slice of bytes that came in, one level down. -/
theorem rd_u8s_in {t e : TypeId} {fuel : Nat} {v : Value} {x : DataW H × List MemPlace} (ht : P.underlying t = some (.slice e)) (he : P.underlying e = some (.int .u8)) (hC : P.cellsOf e = 1)
    (h : DataW.trod enc P w base spare held fuel t [v] = some x) : ∃ (A : Option Addr) (l : List UInt8) (c : Nat), v = .slice A l.length c ∧ Rd w v (bytesU l) ∧ l.length ≤ c ∧ c ≤ maxLen := by
  have hv : ∃ A n c, v = .slice A n c := by
    rcases open_slice1 ht hC h with ⟨hcs, _⟩ | ⟨a, len, cap, m, k, V, D, Pl, hcs, _⟩
    · injection hcs with h1; exact ⟨_, _, _, h1⟩
    · injection hcs with h1; exact ⟨_, _, _, h1⟩
  obtain ⟨A, n, c, rfl⟩ := hv
  obtain ⟨A', l, c', hv, hrd, h1, h2, _⟩ := rd_slice1 (fun x : UInt8 => Value.int .u8 (x.toNat : Int)) (fun _ => True) ht hC (fun fuel u y hy => by
    obtain ⟨n, hn, _, hw⟩ := DataW.trod_int he hy
    have hw := hw
    simp [Lit.wf, IntKind.min, IntKind.max, IntKind.signed, IntKind.bits] at hw
    refine ⟨UInt8.ofNat n.toNat, ?_, trivial⟩
    simp at hn
    subst hn
    congr 1
    simp
    omega) ⟨A, n, c, rfl⟩ ⟨fuel, show DataW.trod enc P w base spare held fuel t (Value.slice A n c).cells.toList = some _ from h⟩
  exact ⟨A', l, c', hv, hrd, h1, h2⟩
/-- A slice of entries that came in. -/
theorem rd_ens {t e ti tstr : TypeId} {f0 f1 f2 f3 f4 f5 f6 : Field} {v : Value} {d : DataW H} {p : List MemPlace} (ht : P.underlying t = some (.slice e)) (he : P.underlying e = some (.struct #[f0, f1, f2, f3, f4, f5, f6])) (hone : oneCellFields P #[f0, f1, f2, f3, f4, f5, f6] = true) (hC : P.cellsOf e = 7)
    (hti : P.underlying ti = some (.int .i64)) (hts : P.underlying tstr = some .string) (h0 : f0.type = tstr) (h1 : f1.type = ti) (h2 : f2.type = ti) (h3 : f3.type = ti) (h4 : f4.type = tstr) (h5 : f5.type = ti) (h6 : f6.type = ti)
    (hv : ∃ A n c, v = .slice A n c) (h : DataW.Trod enc P w base spare held t v d p) : ∃ (A : Option Addr) (l : List En) (c : Nat), v = .slice A l.length c ∧ RdA 7 enL w A l ∧ l.length ≤ c ∧ c ≤ maxLen ∧ ∀ a ∈ l, a.ok := by
  refine rd_structs enL En.ok ht he hone hC (of_decide_eq_true rfl) (fun g n hg => ?_) hv h
  have gi : ∀ (j : Nat) (f : Field), (#[f0, f1, f2, f3, f4, f5, f6] : Array Field)[j]? = some f → f.type = ti → ∃ z : Int, g j = .int .i64 z ∧ okI z := by
    intro j f hj hft
    obtain ⟨y, hy⟩ := hg j f hj
    obtain ⟨z, hz, _, hw⟩ := DataW.trod_int (k := .i64) (by rw [hft]; exact hti) hy
    exact ⟨z, by simpa using hz, wf_ok hw⟩
  have gs : ∀ (j : Nat) (f : Field), (#[f0, f1, f2, f3, f4, f5, f6] : Array Field)[j]? = some f → f.type = tstr → ∃ z : List UInt8, g j = .string (str z) ∧ z.length ≤ 9223372036854775807 := by
    intro j f hj hft
    obtain ⟨y, hy⟩ := hg j f hj
    obtain ⟨b, hb, _, hw⟩ := DataW.trod_string (by rw [hft]; exact hts) hy
    refine ⟨b.data.toList, by rw [str_data]; simpa using hb, ?_⟩
    have := hw
    simp [Lit.wf, maxLen] at this
    exact this
  obtain ⟨z0, e0, w0⟩ := gs 0 f0 rfl h0
  obtain ⟨z1, e1, w1⟩ := gi 1 f1 rfl h1
  obtain ⟨z2, e2, w2⟩ := gi 2 f2 rfl h2
  obtain ⟨z3, e3, w3⟩ := gi 3 f3 rfl h3
  obtain ⟨z4, e4, w4⟩ := gs 4 f4 rfl h4
  obtain ⟨z5, e5, w5⟩ := gi 5 f5 rfl h5
  obtain ⟨z6, e6, w6⟩ := gi 6 f6 rfl h6
  refine ⟨⟨z0, z1, z2, z3, z4, z5, z6⟩, ⟨w0, w1, w2, w3, w4, w5, w6⟩, fun j u hu => ?_⟩
  match j, hu with
  | 0, hu => exact ⟨of_decide_eq_true rfl, (Option.some.inj hu).symm.trans e0.symm⟩
  | 1, hu => exact ⟨of_decide_eq_true rfl, (Option.some.inj hu).symm.trans e1.symm⟩
  | 2, hu => exact ⟨of_decide_eq_true rfl, (Option.some.inj hu).symm.trans e2.symm⟩
  | 3, hu => exact ⟨of_decide_eq_true rfl, (Option.some.inj hu).symm.trans e3.symm⟩
  | 4, hu => exact ⟨of_decide_eq_true rfl, (Option.some.inj hu).symm.trans e4.symm⟩
  | 5, hu => exact ⟨of_decide_eq_true rfl, (Option.some.inj hu).symm.trans e5.symm⟩
  | 6, hu => exact ⟨of_decide_eq_true rfl, (Option.some.inj hu).symm.trans e6.symm⟩
  | j + 7, hu => simp [enL] at hu
/-- A slice of files that came in. -/
theorem rd_files {t e ti tstr tb tu : TypeId} {f0 f1 f2 f3 f4 f5 : Field} {v : Value} {d : DataW H} {p : List MemPlace} (ht : P.underlying t = some (.slice e)) (he : P.underlying e = some (.struct #[f0, f1, f2, f3, f4, f5])) (hone : oneCellFields P #[f0, f1, f2, f3, f4, f5] = true) (hC : P.cellsOf e = 6)
    (hti : P.underlying ti = some (.int .i64)) (hts : P.underlying tstr = some .string) (htb : P.underlying tb = some (.slice tu)) (htu : P.underlying tu = some (.int .u8)) (hCu : P.cellsOf tu = 1)
    (h0 : f0.type = tstr) (h1 : f1.type = ti) (h2 : f2.type = ti) (h3 : f3.type = ti) (h4 : f4.type = tb) (h5 : f5.type = tstr)
    (hv : ∃ A n c, v = .slice A n c) (h : DataW.Trod enc P w base spare held t v d p) : ∃ (A : Option Addr) (l : List (Fi × Value)) (c : Nat), v = .slice A l.length c ∧ RdF w A l ∧ l.length ≤ c ∧ c ≤ maxLen ∧ ∀ a ∈ l, a.1.wide := by
  suffices hel : ∀ (g : Nat → Value) (n : Nat), (∀ (j : Nat) (f : Field), (#[f0, f1, f2, f3, f4, f5] : Array Field)[j]? = some f → ∃ y, DataW.trod enc P w base spare held n f.type [g j] = some y) → ∃ a : Fi × Value, (a.1.wide ∧ Rd w a.2 (bytesU a.1.data)) ∧ ∀ j u, (fiL a)[j]? = some u → j < (#[f0, f1, f2, f3, f4, f5] : Array Field).size ∧ u = g j by
    obtain ⟨A, l, c, hv, hr, hl, hc, hok⟩ := rd_structs fiL (fun x => x.1.wide ∧ Rd w x.2 (bytesU x.1.data)) ht he hone hC (of_decide_eq_true rfl) hel hv h
    exact ⟨A, l, c, hv, ⟨hr, fun x hx => (hok x hx).2⟩, hl, hc, fun x hx => (hok x hx).1⟩
  intro g n hg
  have gi : ∀ (j : Nat) (f : Field), (#[f0, f1, f2, f3, f4, f5] : Array Field)[j]? = some f → f.type = ti → ∃ z : Int, g j = .int .i64 z ∧ okI z := by
    intro j f hj hft
    obtain ⟨y, hy⟩ := hg j f hj
    obtain ⟨z, hz, _, hw⟩ := DataW.trod_int (k := .i64) (by rw [hft]; exact hti) hy
    exact ⟨z, by simpa using hz, wf_ok hw⟩
  have gs : ∀ (j : Nat) (f : Field), (#[f0, f1, f2, f3, f4, f5] : Array Field)[j]? = some f → f.type = tstr → ∃ z : List UInt8, g j = .string (str z) ∧ z.length ≤ 9223372036854775807 := by
    intro j f hj hft
    obtain ⟨y, hy⟩ := hg j f hj
    obtain ⟨b, hb, _, hw⟩ := DataW.trod_string (by rw [hft]; exact hts) hy
    refine ⟨b.data.toList, by rw [str_data]; simpa using hb, ?_⟩
    have := hw
    simp [Lit.wf, maxLen] at this
    exact this
  obtain ⟨z0, e0, w0⟩ := gs 0 f0 rfl h0
  obtain ⟨z1, e1, w1⟩ := gi 1 f1 rfl h1
  obtain ⟨z2, e2, w2⟩ := gi 2 f2 rfl h2
  obtain ⟨z3, e3, w3⟩ := gi 3 f3 rfl h3
  obtain ⟨y4, hy4⟩ := hg 4 f4 rfl
  rw [h4] at hy4
  obtain ⟨A4, l4, c4, e4, r4, k4, m4⟩ := rd_u8s_in htb htu hCu hy4
  obtain ⟨z5, e5, w5⟩ := gs 5 f5 rfl h5
  refine ⟨(⟨z0, z1, z2, z3, l4, z5⟩, g 4), ⟨⟨w0, w1, w2, w3, w5, by have : maxLen = 9223372036854775807 := rfl; show l4.length ≤ _; omega⟩, r4⟩, fun j u hu => ?_⟩
  match j, hu with
  | 0, hu => exact ⟨of_decide_eq_true rfl, (Option.some.inj hu).symm.trans e0.symm⟩
  | 1, hu => exact ⟨of_decide_eq_true rfl, (Option.some.inj hu).symm.trans e1.symm⟩
  | 2, hu => exact ⟨of_decide_eq_true rfl, (Option.some.inj hu).symm.trans e2.symm⟩
  | 3, hu => exact ⟨of_decide_eq_true rfl, (Option.some.inj hu).symm.trans e3.symm⟩
  | 4, hu => exact ⟨of_decide_eq_true rfl, (Option.some.inj hu).symm⟩
  | 5, hu => exact ⟨of_decide_eq_true rfl, (Option.some.inj hu).symm.trans e5.symm⟩
  | j + 6, hu => simp [fiL] at hu
/-- A slice of bytes that came in. -/
theorem rd_u8s {t e : TypeId} {v : Value} {d : DataW H} {p : List MemPlace} (ht : P.underlying t = some (.slice e)) (he : P.underlying e = some (.int .u8)) (hC : P.cellsOf e = 1)
    (hv : ∃ A n c, v = .slice A n c) (h : DataW.Trod enc P w base spare held t v d p) : ∃ (A : Option Addr) (l : List UInt8) (c : Nat), v = .slice A l.length c ∧ Rd w v (bytesU l) ∧ l.length ≤ c ∧ c ≤ maxLen := by
  obtain ⟨A, n, c, rfl⟩ := hv
  obtain ⟨fuel, hf⟩ := h
  exact rd_u8s_in ht he hC (show DataW.trod enc P w base spare held fuel t [Value.slice A n c] = some _ from hf)
end
end Go.Proofs.YtmppagiaonbggaaDoor

/- What the cards of this seat share: a world in which the listed tables lie as the program's text lays them. -/
namespace Go.Proofs.YtmppagiaonbggaaDoor
set_option linter.unusedVariables false
set_option linter.unusedSimpArgs false
set_option maxRecDepth 100000
open Go.ChangeShapes Go.WideShapes Go.ChangeAt Go.RowKit
theorem own : ownKnob Tryd.prog.godebug = none := by kernel_rfl
theorem laidOut : laidOutB Tryd.prog = true := by kernel_rfl
def litVals : DataW Unit → List Value
  | .lit (.int k n) => [.int k n]
  | .agg l => l.filterMap fun d => match d with | .lit (.int k n) => some (.int k n) | _ => none
  | _ => []
def flatVals : DataW Unit → List Value
  | .agg l => l.flatMap litVals
  | _ => []
noncomputable def laidWorld (os : Os) : World :=
  let w0 := World.holding Tryd.prog os ⟨#[], #[], []⟩
  let put (h : Array Obj) (g : Nat) (cs : Array Value) : Array Obj := h.modify g fun
    | .cells _ t frozen => .cells cs t frozen
    | o => o
  let h1 := put w0.heap 0 (flatVals Rows.laid_portmanteau_digest_table).toArray
  let h2 := put (h1) 3 (flatVals Rows.laid_unicode_utf8_acceptRanges).toArray
  let h3 := put (h2) 2 (flatVals Rows.laid_unicode_utf8_first).toArray
  { w0 with heap := h3 }
theorem laid_met (os : Os) (args : Array Value) : laidMet Tryd.prog Rows.sourcePlansRow.laid ((laidWorld os).forCall (fun _ _ => 0) ⟨#[], args, []⟩).memory :=
  (LaidIn.of_run [0, 2, 3] 8 (by kernel_rfl) (by kernel_rfl) (by kernel_rfl) (by kernel_rfl)).met
section
variable {H : Type} {enc : TypeId × Value → H} {P : Program} {W : World} {base : Nat} {spare : Nat → Bool} {held : Bool}
theorem rd_strs {t e : TypeId} {v : Value} {d : DataW H} {p : List MemPlace} (ht : P.underlying t = some (.slice e)) (he : P.underlying e = some .string) (hC : P.cellsOf e = 1)
    (hv : ∃ A n c, v = .slice A n c) (h : DataW.Trod enc P W base spare held t v d p) : ∃ (A : Option Addr) (l : List (List UInt8)) (c : Nat), v = .slice A l.length c ∧ Rd W v (l.map fun x => Value.string (str x)) ∧ l.length ≤ c ∧ c ≤ maxLen ∧ ∀ a ∈ l, a.length ≤ maxLen :=
  rd_slice1 (fun x : List UInt8 => Value.string (str x)) (fun a => a.length ≤ maxLen) ht hC (fun fuel u y hy => by
    obtain ⟨b, hb, _, hw⟩ := DataW.trod_string he hy
    exact ⟨b.data.toList, by simp only [str_data]; simpa using hb, hw⟩) hv h
end
theorem rds_of_rd {W : World} {A : Option Addr} {c : Nat} {l : List (List UInt8)} (h : Rd W (.slice A l.length c) (l.map fun x => Value.string (str x))) : RdS W A l := by
  obtain ⟨A', c', hv, hr⟩ := h
  injection hv with h1 h2 h3
  subst h1
  intro i hi
  have hne : (l.map fun x => Value.string (str x)) ≠ [] := by
    intro h
    have := congrArg List.length h
    simp at this
    subst this
    simp at hi
  obtain ⟨ad, ha, hc⟩ := hr hne
  have h0 := hc i (.string (str l[i])) (by simp [hi])
  obtain ⟨b, off, spot⟩ := ad
  have hsp : spot = none := by
    have h1 : 0 < l.length := by omega
    have := World.cell?_spot (hc 0 (.string (str l[0])) (by simp [h1]))
    simpa [Addr.add] using this
  subst hsp
  refine ⟨b, off, ha, ?_⟩
  rwa [Addr.add_lit] at h0
end Go.Proofs.YtmppagiaonbggaaDoor
