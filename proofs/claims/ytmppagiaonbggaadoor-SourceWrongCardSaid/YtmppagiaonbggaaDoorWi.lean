/- Texts of one proof, merged: XKp XGe XGf XLd XGg XGi. -/
import Derived.Test.YtmppagiaonbggaaDoorWh
import Derived.LoopN
/- What lies below B, as a part of what is owned. -/
namespace Go.Proofs.YtmppagiaonbggaaDoor
set_option linter.unusedVariables false
set_option linter.unusedSimpArgs false
set_option maxRecDepth 100000
open Go.RowKit

/-- All below B is as it was. -/
def Kept (B : Nat) (w0 : World) : HP := fun w _ => ∀ k, k < B → w.heap[k]? = w0.heap[k]?
instance Loc.kept {B : Nat} {w0 : World} : Loc B (Kept B w0) := ⟨fun _ _ _ _ h2 h k hk => (h2 k hk).trans (h k hk), fun _ _ _ _ h => h⟩
theorem Own.kept {B : Nat} {R : HP} {w0 w : World} (h : Own B R w) (hb : Below B w0 w) (hB : B ≤ w0.heap.size) : Own B (Kept B w0 * R) w := by
  obtain ⟨F, hf, hr⟩ := h
  exact ⟨F, hf, fun _ => False, F, fun _ h => h.elim, fun _ h => h.elim, fun _ h => h, fun k hk => hb.block k hk, hr⟩
theorem Own.kept_out {B : Nat} {R : HP} {w0 w : World} (h : Own B (Kept B w0 * R) w) : ∀ k, k < B → w.heap[k]? = w0.heap[k]? := let ⟨_, _, _, _, _, _, _, hp, _⟩ := h; hp
theorem RdA.kept {α : Type} {k : Nat} {cs : α → List Value} {w w' : World} {A : Option Addr} {l : List α} (h : RdA k cs w A l) (hk : ∀ j, j < w.heap.size → w'.heap[j]? = w.heap[j]?) (hs : w.heap.size ≤ w'.heap.size) : RdA k cs w' A l := fun i hi => by
  obtain ⟨b, off, ha, hlt, hc⟩ := h i hi
  refine ⟨b, off, ha, by omega, fun j u hu => ?_⟩
  rw [World.cell?_of_block (w := w) (w' := w') (a := ⟨b, off + i * k + j, none⟩) (hk b hlt)]
  exact hc j u hu

theorem Rd.kept {w w' : World} {v : Value} {xs : List Value} (h : Rd w v xs) (hk : ∀ j, j < w.heap.size → w'.heap[j]? = w.heap[j]?) : Rd w' v xs := by
  obtain ⟨A, c, hv, hr⟩ := h
  refine ⟨A, c, hv, fun hne => ?_⟩
  obtain ⟨ad, ha, hc⟩ := hr hne
  exact ⟨ad, ha, fun j u hu => (World.cell?_of_block (hk _ (World.block_lt_of_cell? w _ (hc j u hu)))).trans (hc j u hu)⟩
end Go.Proofs.YtmppagiaonbggaaDoor

/- Files that are told alike are alike, plain; and the walk over SourceApart. -/
namespace Go.Proofs.YtmppagiaonbggaaDoor
set_option linter.unusedVariables false
set_option linter.unusedSimpArgs false
set_option maxRecDepth 100000
open Go.RowKit

theorem readAll_enc {l : List En} (h : fineB l = true) (r : List UInt8) : readAll (encL l ++ r) = (l, ⟨r, 0⟩) := by
  obtain ⟨hs, hl, _, hp⟩ := whyE_zero (fineB_true h).1
  unfold readAll encL
  rw [List.append_assoc, readNum_onumI (by omega) 1024 (by omega), Int.toNat_natCast, readL_enc l r [] (fine_num h)]
  simp
theorem ents_inj : ∀ (a b : List Fi) (k : Int), entsFrom k a = entsFrom k b → dataL a = dataL b → a = b
  | [], [], _, _, _ => rfl
  | [], _ :: _, _, h, _ => by simp [entsFrom] at h
  | _ :: _, [], _, h, _ => by simp [entsFrom] at h
  | f :: a, g :: b, k, h, hd => by
    simp only [entsFrom, List.cons.injEq, En.mk.injEq] at h
    obtain ⟨⟨h1, h2, h3, h4, h5, _, h7⟩, ht⟩ := h
    have hl : f.data.length = g.data.length := by omega
    unfold dataL at hd
    rw [List.flatMap_cons, List.flatMap_cons] at hd
    obtain ⟨e1, e2⟩ := List.append_inj hd hl
    rw [hl] at ht
    have := ents_inj a b _ ht e2
    obtain ⟨p, ki, mo, ti, da, tg⟩ := f
    obtain ⟨p', ki', mo', ti', da', tg'⟩ := g
    simp only at h1 h2 h3 h4 h5 e1
    subst h1 h2 h3 h4 h5 e1 this
    rfl
theorem apart_law {a b : List Fi} (ha : whyE (ents a) = 0) (hb : whyE (ents b) = 0) : (encL (ents a) ++ dataL a = encL (ents b) ++ dataL b) ↔ a = b := by
  refine ⟨fun h => ?_, fun h => by rw [h]⟩
  have h1 := readAll_enc (fineB_ents ha) (dataL a)
  rw [h, readAll_enc (fineB_ents hb) (dataL b)] at h1
  injection h1 with e1 e2
  injection e2 with e2 _
  exact ents_inj a b 0 e1.symm e2.symm

theorem sh_kept {w w' : World} (h : Sh w) (hk : ∀ j, j < w.heap.size → w'.heap[j]? = w.heap[j]?) (hs : w.heap.size ≤ w'.heap.size) : Sh w' :=
  World.ShapedOpen.of_heap (w := { w' with os := w.os, tape := w.tape, output := w.output }) rfl (sh_below h ⟨rfl, rfl, rfl, hs, hk⟩)
theorem RdF.kept {w w' : World} {A : Option Addr} {l : List (Fi × Value)} (h : RdF w A l) (hk : ∀ j, j < w.heap.size → w'.heap[j]? = w.heap[j]?) (hs : w.heap.size ≤ w'.heap.size) : RdF w' A l :=
  ⟨h.1.kept hk hs, fun x hx => (h.2 x hx).kept hk⟩
theorem Own.keptR {B : Nat} {w0 w : World} (h : Own B (Kept B w0) w) : ∀ k, k < B → w.heap[k]? = w0.heap[k]? := let ⟨_, _, hp⟩ := h; hp
theorem str_size (l : List UInt8) : (str l).size = l.length := by simp [str, ByteArray.size]
theorem str_append_eq (x y u v : List UInt8) : ((str x ++ str y).toList == (str u ++ str v).toList) = decide (x ++ y = u ++ v) := by
  have e : ∀ p q : List UInt8, (str p ++ str q).toList = p ++ q := by
    intro p q
    rw [ByteArray.toList_eq]
    simp [str]
  rw [e, e]
  by_cases h : x ++ y = u ++ v
  · rw [h]; simp
  · rw [decide_eq_false h]; simpa using h

set_option maxRecDepth 100000 in
set_option maxHeartbeats 6400000 in
theorem apart_walk (A : Option Addr) (c : Nat) (l : List (Fi × Value)) (hl : l.length ≤ 9223372036854775807) (hw : ∀ x ∈ l, x.1.wide) (A2 : Option Addr) (c2 : Nat) (l2 : List (Fi × Value)) (hl2 : l2.length ≤ 9223372036854775807) (hw2 : ∀ x ∈ l2, x.1.wide) (w : World) (h : Sh w) (hr : RdF w A l) (hr2 : RdF w A2 l2) :
    Calls Tryd.prog 4 #[.slice A l.length c, .slice A2 l2.length c2] w fun e w' => e = .returned (.bool true) ∧ Below w.heap.size w w' := by
  have hb := Below.refl w.heap.size w
  have Hh := Lib.hid (fun w1 (b : Below w.heap.size w w1) => sh_below h b)
  have Aw := Lib.hid (fun w1 h1 => awakeS_any w1 h1)
  have Fe := Lib.hid (few_any A c l hl hw w hr)
  have Fe2 := Lib.hid (few_any A2 c2 l2 hl2 hw2 w hr2)
  have Hr := Lib.hid (fun w1 (b : Below w.heap.size w w1) => hr.below b)
  have Hr2 := Lib.hid (fun w1 (b : Below w.heap.size w w1) => hr2.below b)
  by_cases hf : fewP (l.map (·.1))
  · rw [decide_eq_true hf] at Fe
    by_cases hf2 : fewP (l2.map (·.1))
    · rw [decide_eq_true hf2] at Fe2
      obtain ⟨f1, f2, f3⟩ := few_ok hw hf
      obtain ⟨g1, g2, g3⟩ := few_ok hw2 hf2
      have R1 := Lib.hid (fun w1 h1 hr => rightE_any A c l (by omega) (by omega) f3 w1 h1 hr)
      have R2 := Lib.hid (fun w1 h1 hr => rightE_any A2 c2 l2 (by omega) (by omega) g3 w1 h1 hr)
      by_cases hz : whyE (ents (l.map (·.1))) = 0
      · rw [hz] at R1
        by_cases hz2 : whyE (ents (l2.map (·.1))) = 0
        · rw [hz2] at R2
          have hek := ents_ok (l := l.map (·.1)) (by intro f hf; obtain ⟨x, hx, rfl⟩ := List.mem_map.1 hf; exact f3 x hx) (by omega)
          have hek2 := ents_ok (l := l2.map (·.1)) (by intro f hf; obtain ⟨x, hx, rfl⟩ := List.mem_map.1 hf; exact g3 x hx) (by omega)
          have hel : (ents (l.map (·.1))).length = l.length := by unfold ents; rw [entsFrom_length]; simp
          have hel2 : (ents (l2.map (·.1))).length = l2.length := by unfold ents; rw [entsFrom_length]; simp
          have O1 := Lib.hid (fun w1 h1 hr => ofE_any A c l (by omega) (by omega) f3 w1 h1 hr)
          have O2 := Lib.hid (fun w1 h1 hr => ofE_any A2 c2 l2 (by omega) (by omega) g3 w1 h1 hr)
          have ho1 : ofE (l.map (·.1)) = ents (l.map (·.1)) := by unfold ofE; rw [if_pos hz]
          have ho2 : ofE (l2.map (·.1)) = ents (l2.map (·.1)) := by unfold ofE; rw [if_pos hz2]
          rw [hz, ho1] at O1
          rw [hz2, ho2] at O2
          have E1 := Lib.hid (fun A c w h hr => encode_any A c (ents (l.map (·.1))) (by omega) (fun e he => (hek e he).1) (fun e he => (hek e he).2) w h hr)
          have E2 := Lib.hid (fun A c w h hr => encode_any A c (ents (l2.map (·.1))) (by omega) (fun e he => (hek2 e he).1) (fun e he => (hek2 e he).2) w h hr)
          have S1 := Lib.hid (fun w1 h1 hr => stream_any A c l (by omega) (by omega) f3 w1 h1 hr)
          have S2 := Lib.hid (fun w1 h1 hr => stream_any A2 c2 l2 (by omega) (by omega) g3 w1 h1 hr)
          have hs1 : streamP (l.map (·.1)) = dataL (l.map (·.1)) := if_pos hz
          have hs2 : streamP (l2.map (·.1)) = dataL (l2.map (·.1)) := if_pos hz2
          rw [hs1] at S1
          rw [hs2] at S2
          have Fl := Lib.hid (fun w1 h1 h2 => files_any A A2 c c2 l l2 (by omega) (by omega) w1 h1 h2)
          have HF1 := Lib.hid (fineB_ents hz)
          have HF2 := Lib.hid (fineB_ents hz2)
          have law := apart_law hz hz2
          have hq : decide (encL (ents (l.map (·.1))) ++ dataL (l.map (·.1)) = encL (ents (l2.map (·.1))) ++ dataL (l2.map (·.1))) = decide (l.map (·.1) = l2.map (·.1)) := decide_eq_decide.2 law
          have Hq := Lib.hid hq
          have Hz1 : Hid ((str (encL (ents (l.map (·.1))))).size + (str (dataL (l.map (·.1)))).size ≤ 9223372036854775807) := Lib.hid (by rw [str_size, str_size]; have := encL_le (fineB_ents hz); have := dataL_le hz; omega)
          have Hz2 : Hid ((str (encL (ents (l2.map (·.1))))).size + (str (dataL (l2.map (·.1)))).size ≤ 9223372036854775807) := Lib.hid (by rw [str_size, str_size]; have := encL_le (fineB_ents hz2); have := dataL_le hz2; omega)
          rw [hel] at E1
          rw [hel2] at E2
          clear law hq h hr hr2 hf hf2 f3 g3 hek hek2 ho1 ho2 hs1 hs2 hz hz2 hw hw2
          generalize decide (l.map (·.1) = l2.map (·.1)) = res at *
          generalize ents (l.map (·.1)) = es at *
          generalize ents (l2.map (·.1)) = es2 at *
          generalize dataL (l.map (·.1)) = dt at *
          generalize dataL (l2.map (·.1)) = dt2 at *
          go_enter Tryd.func4, Tryd.ntmps4
          go_wp2_with fail
          refine (Fe.out).mono ?_
          rintro e wz ⟨rfl, rfl⟩
          go_wp2_with fail
          refine (Fe2.out).mono ?_
          rintro e wz ⟨rfl, rfl⟩
          go_wp2_with fail
          refine (R1.out _ (Hh.out _ hb) (Hr.out _ hb)).mono ?_
          rintro e wz ⟨rfl, b⟩
          replace hb := hb.trans (b.mono hb.size)
          clear b
          go_wp2_with fail
          refine (R2.out _ (Hh.out _ hb) (Hr2.out _ hb)).mono ?_
          rintro e wz ⟨rfl, b⟩
          replace hb := hb.trans (b.mono hb.size)
          clear b
          go_wp2_with fail
          refine (O1.out _ (Hh.out _ hb) (Hr.out _ hb)).mono ?_
          rintro e w1 ⟨Ae, ce, rfl, k1, r1, b1⟩
          replace hb := hb.trans (b1.mono hb.size)
          clear b1 O1 R1 R2
          go_wp2_with fail
          refine (O2.out _ (Hh.out _ hb) (Hr2.out _ hb)).mono ?_
          rintro e w2 ⟨Ae2, ce2, rfl, k2, r2, b2⟩
          have r1 := r1.below b2
          replace hb := hb.trans (b2.mono hb.size)
          clear b2 O2
          go_wp2_with fail
          refine (E1.out _ _ _ (Hh.out _ hb) r1).mono ?_
          rintro e w3 hE
          unfold EncP at hE
          rw [if_pos HF1.out] at hE
          obtain ⟨v3, rfl, h3, b3⟩ := hE
          generalize encL es = en at *
          have o3 := Own.fresh (Nat.le_refl _) (Own.start w2.heap.size w2) h3 b3
          obtain ⟨A3, c3, rfl⟩ := o3.row_n
          have r2 := r2.below b3
          have d3 := o3.rd
          replace hb := hb.trans (b3.mono hb.size)
          clear h3 b3 o3 E1 r1
          go_wp2_with fail
          refine (E2.out _ _ _ (Hh.out _ hb) r2).mono ?_
          rintro e w4 hE
          unfold EncP at hE
          rw [if_pos HF2.out] at hE
          obtain ⟨v4, rfl, h4, b4⟩ := hE
          generalize encL es2 = en2 at *
          have o4 := Own.fresh (Nat.le_refl _) (Own.start w3.heap.size w3) h4 b4
          obtain ⟨A4, c4, rfl⟩ := o4.row_n
          have d3 := d3.below b4
          have d4 := o4.rd
          replace hb := hb.trans (b4.mono hb.size)
          clear h4 b4 o4 E2 r2
          go_wp2
          have hr4 := Hr.out _ hb
          have hr5 := Hr2.out _ hb
          have hh4 := Hh.out _ hb
          refine wp_region_lcross (B := w4.heap.size) [0, 2, 6, 8] [1, 7] [3, 4, 5] [9, 10, 11] [12, 13] (Kept w4.heap.size w4) (Kept w4.heap.size w4) (Kept w4.heap.size w4) mixed (by kernel_rfl) rfl (fun _ _ _ _ _ h => h) (Nat.le_refl _) ((((((Own.start w4.heap.size w4).kept (Below.refl _ _) (Nat.le_refl _)).left).kept (Below.refl _ _) (Nat.le_refl _)).kept (Below.refl _ _) (Nat.le_refl _)).drew (Nat.le_refl _)) ?_
          simp only [List.filterMap_cons, List.filterMap_nil, List.getElem?_toArray, List.getElem?_cons_succ, List.getElem?_cons_zero]
          repeat (
            refine free_val ?_ rfl (fun w1 => ?_) ?_
            rotate_left
            · (go_simp
               try go_bits
               rfl)
            simp only [Act.put, List.setIfInBounds_toArray, List.set_cons_zero, List.set_cons_succ])
          refine free_nil ?_
          refine late_val (.string (str en)) rfl (fun w1 hS => ?_) ?_
          · have s1 := str_of_rd (d3.kept hS.keptR)
            go_simp
          simp only [Act.put, List.setIfInBounds_toArray, List.set_cons_zero, List.set_cons_succ]
          refine late_val (.string (str en2)) rfl (fun w1 hS => ?_) ?_
          · have s1 := str_of_rd (d4.kept hS.keptR)
            go_simp
          simp only [Act.put, List.setIfInBounds_toArray, List.set_cons_zero, List.set_cons_succ]
          refine late_nil ?_
          refine ⟨fun vs F => ∃ v1 v2, vs = [v1, v2, .string (str en ++ str dt)], fun vs F => ∃ v1 v2, vs = [v1, v2, .string (str en2 ++ str dt2)], ?_, ?_, ?_⟩
          · simp only [opsOf, List.filterMap_cons, List.filterMap_nil, List.getElem?_toArray, List.getElem?_cons_succ, List.getElem?_cons_zero]
            refine tw_call 14 #[.slice A l.length c] (fun v F => ∃ A6 c6, v = .slice A6 dt.length c6 ∧ F = Rw 5 1 (.slice A6 dt.length c6) dt.length (bytesU dt)) rfl (fun R1 _ w1 hS => by go_simp) (fun R1 _ w1 hB1 hS => (S1.out w1 (sh_kept hh4 hS.kept_out hB1) (hr4.kept hS.kept_out hB1)).mono ?_) ?_
            · rintro e w5 ⟨v6, rfl, ho6, b6⟩
              have o6 := Own.fresh hB1 hS.right ho6 b6
              obtain ⟨A6, c6, rfl⟩ := o6.row_n
              exact ⟨_, _, rfl, ⟨inferInstance, A6, c6, rfl, rfl⟩, o6, b6.mono hB1⟩
            · rintro v6 F6 _ ⟨A6, c6, rfl, rfl⟩
              simp only [Act.put, List.setIfInBounds_toArray, List.set_cons_zero, List.set_cons_succ]
              refine tw_val (.string (str dt)) rfl (fun R1 _ w1 hS => ?_) ?_
              · have s7 := str_of_rd hS.rd
                go_simp
              simp only [Act.put, List.setIfInBounds_toArray, List.set_cons_zero, List.set_cons_succ]
              refine tw_val (.string (str en ++ str dt)) rfl (fun R1 _ w1 hS => ?_) ?_
              · have hz := Hz1.out
                go_simp
              · exact tw_nil ⟨_, _, rfl⟩
          · simp only [opsOf, List.filterMap_cons, List.filterMap_nil, List.getElem?_toArray, List.getElem?_cons_succ, List.getElem?_cons_zero]
            refine tw_call 14 #[.slice A2 l2.length c2] (fun v F => ∃ A6 c6, v = .slice A6 dt2.length c6 ∧ F = Rw 5 1 (.slice A6 dt2.length c6) dt2.length (bytesU dt2)) rfl (fun R1 _ w1 hS => by go_simp) (fun R1 _ w1 hB1 hS => (S2.out w1 (sh_kept hh4 hS.kept_out hB1) (hr5.kept hS.kept_out hB1)).mono ?_) ?_
            · rintro e w5 ⟨v6, rfl, ho6, b6⟩
              have o6 := Own.fresh hB1 hS.right ho6 b6
              obtain ⟨A6, c6, rfl⟩ := o6.row_n
              exact ⟨_, _, rfl, ⟨inferInstance, A6, c6, rfl, rfl⟩, o6, b6.mono hB1⟩
            · rintro v6 F6 _ ⟨A6, c6, rfl, rfl⟩
              simp only [Act.put, List.setIfInBounds_toArray, List.set_cons_zero, List.set_cons_succ]
              refine tw_val (.string (str dt2)) rfl (fun R1 _ w1 hS => ?_) ?_
              · have s7 := str_of_rd hS.rd
                go_simp
              simp only [Act.put, List.setIfInBounds_toArray, List.set_cons_zero, List.set_cons_succ]
              refine tw_val (.string (str en2 ++ str dt2)) rfl (fun R1 _ w1 hS => ?_) ?_
              · have hz := Hz2.out
                go_simp
              · exact tw_nil ⟨_, _, rfl⟩
          · rintro vs1 F1 vs2 F2 w5 ⟨x1, x2, rfl⟩ ⟨y1, y2, rfl⟩ o5 b5
            simp only [opsOf, putAll, Act.put, List.filterMap_cons, List.filterMap_nil, List.getElem?_toArray, List.getElem?_cons_succ, List.getElem?_cons_zero, List.setIfInBounds_toArray, List.set_cons_zero, List.set_cons_succ]
            replace hb := hb.trans (b5.mono hb.size)
            have heq := str_append_eq en dt en2 dt2
            rw [Hq.out] at heq
            clear o5 b5 hr4 hr5 hh4 d3 d4 S1 S2
            have hres : (res == res) = true := by simp
            go_wp2_with fail
            refine (Fl.out _ (Hr.out _ hb) (Hr2.out _ hb)).mono ?_
            rintro e w6 ⟨rfl, b6⟩
            replace hb := hb.trans (b6.mono hb.size)
            clear b6 Fl
            go_wp2_with fail
            refine (Aw.out _ (Hh.out _ hb)).mono ?_
            rintro e wz ⟨rfl, b⟩
            replace hb := hb.trans (b.mono hb.size)
            clear b
            go_wp2
            go_ret
            exact ⟨rfl, hb⟩
        · have hz' : (whyE (ents (l2.map (·.1))) == 0) = false := by simpa using hz2
          rw [hz'] at R2
          clear h hr hr2 hf hf2 f3 g3 hz hz2 hw hw2
          go_enter Tryd.func4, Tryd.ntmps4
          go_wp2_with fail
          refine (Fe.out).mono ?_
          rintro e wz ⟨rfl, rfl⟩
          go_wp2_with fail
          refine (Fe2.out).mono ?_
          rintro e wz ⟨rfl, rfl⟩
          go_wp2_with fail
          refine (R1.out _ (Hh.out _ hb) (Hr.out _ hb)).mono ?_
          rintro e wz ⟨rfl, b⟩
          replace hb := hb.trans (b.mono hb.size)
          clear b
          go_wp2_with fail
          refine (R2.out _ (Hh.out _ hb) (Hr2.out _ hb)).mono ?_
          rintro e wz ⟨rfl, b⟩
          replace hb := hb.trans (b.mono hb.size)
          clear b
          go_wp2_with fail
          refine (Aw.out _ (Hh.out _ hb)).mono ?_
          rintro e wz ⟨rfl, b⟩
          replace hb := hb.trans (b.mono hb.size)
          clear b
          go_wp2
          go_ret
          exact ⟨rfl, hb⟩
      · have hz' : (whyE (ents (l.map (·.1))) == 0) = false := by simpa using hz
        rw [hz'] at R1
        clear h hr hr2 hf hf2 f3 g3 hz hw hw2
        go_enter Tryd.func4, Tryd.ntmps4
        go_wp2_with fail
        refine (Fe.out).mono ?_
        rintro e wz ⟨rfl, rfl⟩
        go_wp2_with fail
        refine (Fe2.out).mono ?_
        rintro e wz ⟨rfl, rfl⟩
        go_wp2_with fail
        refine (R1.out _ (Hh.out _ hb) (Hr.out _ hb)).mono ?_
        rintro e wz ⟨rfl, b⟩
        replace hb := hb.trans (b.mono hb.size)
        clear b
        go_wp2_with fail
        refine (Aw.out _ (Hh.out _ hb)).mono ?_
        rintro e wz ⟨rfl, b⟩
        replace hb := hb.trans (b.mono hb.size)
        clear b
        go_wp2
        go_ret
        exact ⟨rfl, hb⟩
    · rw [decide_eq_false hf2] at Fe2
      clear h hr hr2 hf hf2 hw hw2
      go_enter Tryd.func4, Tryd.ntmps4
      go_wp2_with fail
      refine (Fe.out).mono ?_
      rintro e wz ⟨rfl, rfl⟩
      go_wp2_with fail
      refine (Fe2.out).mono ?_
      rintro e wz ⟨rfl, rfl⟩
      go_wp2_with fail
      refine (Aw.out _ (Hh.out _ hb)).mono ?_
      rintro e wz ⟨rfl, b⟩
      replace hb := hb.trans (b.mono hb.size)
      clear b
      go_wp2
      go_ret
      exact ⟨rfl, hb⟩
  · rw [decide_eq_false hf] at Fe
    clear h hr hr2 hf hw hw2
    go_enter Tryd.func4, Tryd.ntmps4
    go_wp2_with fail
    refine (Fe.out).mono ?_
    rintro e wz ⟨rfl, rfl⟩
    go_wp2_with fail
    refine (Aw.out _ (Hh.out _ hb)).mono ?_
    rintro e wz ⟨rfl, b⟩
    replace hb := hb.trans (b.mono hb.size)
    clear b
    go_wp2
    go_ret
    exact ⟨rfl, hb⟩
end Go.Proofs.YtmppagiaonbggaaDoor

/- The walk over SourceSizes. -/
namespace Go.Proofs.YtmppagiaonbggaaDoor
set_option linter.unusedVariables false
set_option linter.unusedSimpArgs false
set_option maxRecDepth 100000
open Go.RowKit Go.Shelf

attribute [local go_sem] Oper.semAt_some
theorem results_cell_bool {fn : Func} {p : Tmp} (h : fn.results = #[.cell p 4]) (tmps : Array Value) (w : World) (g i : Nat) (v : Value) (hp : tmps.getD p undef = .pointer (some ⟨g, i, none⟩)) (hc : w.cell? ⟨g, i, none⟩ = some v) : (results fn tmps).run Tryd.prog w = .ok v w := by
  have hu := Tryd.underlying4
  unfold results
  simp only [h]
  have hp' : tmps[p]?.getD undef = .pointer (some ⟨g, i, none⟩) := by simpa using hp
  simp [go_sem, hp', hu, hc]

theorem seg_len {b : List UInt8} {p : Pn} (ht : p.tot = (b.length : Int)) (k : Nat) (hk : k < nsegP b p) : ∃ i j : Nat, (k : Int) * p.ch = (i : Int) ∧ (chunkP b p k).length = j - i ∧ i < j ∧ (i : Int) ≤ 4194304 ∧ j ≤ b.length ∧ (min (((k + 1 : Nat) : Int) * p.ch) (b.length : Int) = (j : Int)) ∧ (if (k : Int) = segsP p - 1 then p.tot - (k : Int) * p.ch else p.ch) = ((j - i : Nat) : Int) ∧ (min ((k : Int) * p.ch) (b.length : Int) = (i : Int)) := by
  obtain ⟨i, m, j, hi, hm, hj, hij, hjb, hc, x1, x2, x3, x4, x5, x6⟩ := seg_facts ht k hk
  refine ⟨i, j, hi, by rw [hc]; exact (bytesU_cut b i j hjb (by omega)).2, hij, by omega, hjb, ?_, ?_, ?_⟩
  · rw [show ((k + 1 : Nat) : Int) = (k : Int) + 1 by omega, hm]; omega
  · have hk2 : (k : Int) < segsP p := by unfold nsegP at hk; rw [if_pos ht] at hk; omega
    have hs : segsP p = (p.tot + p.ch - 1) / p.ch := by
      unfold segsP
      split
      · rfl
      · rename_i h
        unfold segsP at hk2
        rw [if_neg h] at hk2
        omega
    split
    · rename_i h
      have h1 : p.tot ≤ ((k : Int) + 1) * p.ch := by
        have h2 : (p.tot + p.ch - 1) / p.ch < (k : Int) + 2 := by omega
        have h3 := (Int.ediv_lt_iff_lt_mul (by omega)).1 h2
        have h4 : ((k : Int) + 2) * p.ch = ((k : Int) + 1) * p.ch + p.ch := by rw [show (k : Int) + 2 = (k : Int) + 1 + 1 by omega, Int.add_mul ((k : Int) + 1), Int.one_mul]
        omega
      omega
    · rename_i h
      have h1 : ((k : Int) + 1) * p.ch ≤ p.tot - 1 := by
        have h2 : (k : Int) + 2 ≤ (p.tot + p.ch - 1) / p.ch := by omega
        have h3 := (Int.le_ediv_iff_mul_le (by omega)).1 h2
        have h4 : ((k : Int) + 2) * p.ch = ((k : Int) + 1) * p.ch + p.ch := by rw [show (k : Int) + 2 = (k : Int) + 1 + 1 by omega, Int.add_mul ((k : Int) + 1), Int.one_mul]
        omega
      omega
  · have : (i : Int) ≤ (b.length : Int) := by omega
    omega
theorem seg_end {b : List UInt8} {p : Pn} (hm : p.mayB = true) (ht : p.tot = (b.length : Int)) : min (segsP p * p.ch) (b.length : Int) = p.tot ∧ (p.ch < p.tot ∨ segsP p ≤ 1) ∧ (nsegP b p : Int) = segsP p ∧ segsP p ≤ 4259840 := by
  obtain ⟨m0, m1, _, _, m4, m5⟩ := p.may_true hm
  have hs : segsP p = (p.tot + p.ch - 1) / p.ch := by unfold segsP; rw [if_pos hm]
  have hn := segsP_nonneg p
  have h1 : p.tot ≤ segsP p * p.ch := by
    have h2 : (p.tot + p.ch - 1) / p.ch < segsP p + 1 := by omega
    have h3 := (Int.ediv_lt_iff_lt_mul (by omega)).1 h2
    rw [Int.add_mul, Int.one_mul] at h3
    omega
  refine ⟨by omega, ?_, by unfold nsegP; rw [if_pos ht]; omega, ?_⟩
  · by_cases h : p.ch < p.tot
    · exact .inl h
    · right
      have h2 : (p.tot + p.ch - 1) / p.ch < 2 := (Int.ediv_lt_iff_lt_mul (by omega)).2 (by omega)
      omega
  · rw [hs]
    exact Int.le_trans (Int.ediv_le_self _ (by omega)) (by omega)

theorem exec_load_row {P : Program} {a : Act} {o : Oper} {w : World} {ty : TypeId} {x : Operand} (ho : o.op = .load ty x) (g : Nat) (hx : a.eval x = .pointer (some ⟨g, 0, none⟩)) (t : TypeId) (cs : Array Value) (fr : Nat × Nat) (d : TypeDesc) (hg : w.heap[g]? = some (.cells cs t fr))
    (hu : P.underlying ty = some d) (hd : (match d with | .struct _ | .array _ _ => true | _ => false) = true) (hi : (P.info? ty).map (·.size) = some cs.size) : (execOp a.eval o).run P w = .ok (.value (.agg cs)) w := by
  unfold execOp
  simp only [ho, hx, Instr.loadAt, Instr.sureAddr, Sem.run_bind, Sem.run_pure, Result.andThen_ok, run_loadVar_row w g t ty cs fr d hg hu hd hi]

set_option maxRecDepth 100000 in
set_option maxHeartbeats 6400000 in
theorem sizes_walk (A : Option Addr) (c : Nat) (l : List (Fi × Value)) (hl : l.length ≤ 9223372036854775807) (hw : ∀ x ∈ l, x.1.wide) (ch : Int) (hch : okI ch) (w : World) (h : Sh w) (hr : RdF w A l) :
    Calls Tryd.prog 7 #[.slice A l.length c, .int .i64 ch] w fun e w' => e = .returned (.bool true) ∧ Below w.heap.size w w' := by
  have o0 := ((Own.start w.heap.size w).new (Nat.le_refl _) 3 #[.int .i64 ch]).new (by simp) 4 #[.bool false]
  have hb := ((Below.refl w.heap.size w).alloc (Nat.le_refl _) (.cells #[.int .i64 ch] 3)).alloc (by simp) (.cells #[.bool false] 4)
  simp only [World.size_alloc9] at o0
  have Hh := Lib.hid (fun w1 (b : Below w.heap.size w w1) => sh_below h b)
  have Aw := Lib.hid (fun w1 h1 => awakeS_any w1 h1)
  have Hr := Lib.hid (fun w1 (b : Below w.heap.size w w1) => hr.below b)
  have Fe := Lib.hid (few_any A c l hl hw _ (Hr.out _ hb))
  by_cases hf : fewP (l.map (·.1))
  · rw [decide_eq_true hf] at Fe
    obtain ⟨f1, f2, f3⟩ := few_ok hw hf
    have R1 := Lib.hid (fun w1 h1 hr => rightE_any A c l (by omega) (by omega) f3 w1 h1 hr)
    by_cases hz : whyE (ents (l.map (·.1))) = 0
    · by_cases hc1 : ch < 1
      · rw [hz] at R1
        clear h hr hf f3 hw
        refine (callsIn_wide (n := 5)).1 (callsIn_of_wp_marks Tryd.func7 rfl trivial (wpIn_wide.2 ?_) rfl)
        simp only [Tryd.ntmps7, List.size_toArray, List.length_cons, List.length_nil, Nat.reduceAdd, Nat.reduceSub, Array.replicate_succ, Array.replicate_zero, List.push_toArray, List.append_toArray, List.nil_append, List.cons_append]
        go_wp2_with fail
        refine (Fe.out).mono ?_
        rintro e wz ⟨rfl, rfl⟩
        go_wp2_with fail
        refine (Aw.out _ (Hh.out _ hb)).mono ?_
        rintro e w1 ⟨rfl, b⟩
        have o1 := (o0).grown hb.size b
        have hb1 := hb.trans (b.mono hb.size)
        have k1 := o1.cell 0
        have z1 := o1.unfrozen 0
        have o2 := o1.set hb1.size 0 (.bool true)
        have b2 := o1.below_set 0 (.bool true)
        clear hb b
        go_wp2
        exact ⟨_, results_cell_bool rfl _ _ (w.heap.size + 1) 0 _ rfl (o2.cell 0), rfl, hb1.trans b2⟩
      · by_cases hc2 : 65536 < ch
        · rw [hz] at R1
          clear h hr hf f3 hw
          refine (callsIn_wide (n := 5)).1 (callsIn_of_wp_marks Tryd.func7 rfl trivial (wpIn_wide.2 ?_) rfl)
          simp only [Tryd.ntmps7, List.size_toArray, List.length_cons, List.length_nil, Nat.reduceAdd, Nat.reduceSub, Array.replicate_succ, Array.replicate_zero, List.push_toArray, List.append_toArray, List.nil_append, List.cons_append]
          go_wp2_with fail
          refine (Fe.out).mono ?_
          rintro e wz ⟨rfl, rfl⟩
          go_wp2_with fail
          refine (Aw.out _ (Hh.out _ hb)).mono ?_
          rintro e w1 ⟨rfl, b⟩
          have o1 := (o0).grown hb.size b
          have hb1 := hb.trans (b.mono hb.size)
          have k1 := o1.cell 0
          have z1 := o1.unfrozen 0
          have o2 := o1.set hb1.size 0 (.bool true)
          have b2 := o1.below_set 0 (.bool true)
          clear hb b
          go_wp2
          exact ⟨_, results_cell_bool rfl _ _ (w.heap.size + 1) 0 _ rfl (o2.cell 0), rfl, hb1.trans b2⟩
        · rw [hz] at R1
          have P := Lib.hid (fun w1 h1 h2 => plan_any A c l (by omega) (by omega) f3 ch 1 hch ⟨by decide, by decide⟩ w1 h1 h2)
          have hst : streamP (l.map (·.1)) = dataL (l.map (·.1)) := if_pos hz
          have hdl := dataL_length (l.map (·.1))
          have hch1 : 1 ≤ ch := by omega
          have hch2 : ch ≤ 65536 := by omega
          have CI := Lib.hid (fun p pok b0 b1 B R' kR' w hF => chunks_it A c l (by omega) (by omega) f3 p pok b0 b1 B R' kR' w hF)
          rw [hst] at CI
          have Hpl : Hid (∀ p z, planP (l.map (·.1)) ch 1 p z → p = ⟨ch, 1, ((dataL (l.map (·.1))).length : Int), p.dg⟩ ∧ z = 0 ∧ p.dg.length = 32) := Lib.hid (fun p z hp => by
            obtain ⟨h1, _, _, h4⟩ := hp
            obtain ⟨a, b, c, d⟩ := h4 hz ⟨hch1, hch2, by decide, by decide⟩
            obtain ⟨ch', wi, tot, dg⟩ := p
            simp only at a b c d h1 ⊢
            subst a b c d
            rw [hdl]
            exact ⟨rfl, rfl, h1⟩)
          have hinf : (Tryd.prog.info? 27).map (·.size) = some z35.size := infoPlan
          have hdle := dataL_le hz
          clear h hr hf f3 hw hst hdl hz
          generalize dataL (l.map (·.1)) = dt at *
          have k0 : ((w.alloc (.cells #[.int .i64 ch] 3)).alloc (.cells #[.bool false] 4)).cell? ⟨w.heap.size, 0, none⟩ = some (.int .i64 ch) := o0.cellOf w.heap.size 0
          refine (callsIn_wide (n := 5)).1 (callsIn_of_wp_marks Tryd.func7 rfl trivial (wpIn_wide.2 ?_) rfl)
          simp only [Tryd.ntmps7, List.size_toArray, List.length_cons, List.length_nil, Nat.reduceAdd, Nat.reduceSub, Array.replicate_succ, Array.replicate_zero, List.push_toArray, List.append_toArray, List.nil_append, List.cons_append]
          go_wp2_with fail
          refine (Fe.out).mono ?_
          rintro e wz ⟨rfl, rfl⟩
          go_wp2_with fail
          refine (R1.out _ (Hh.out _ hb) (Hr.out _ hb)).mono ?_
          rintro e w1 ⟨rfl, b⟩
          have o1 := o0.grown hb.size b
          replace hb := hb.trans (b.mono hb.size)
          have k1 : w1.cell? ⟨w.heap.size, 0, none⟩ = some (.int .i64 ch) := o1.cellOf w.heap.size 0
          clear b o0 k0 Fe R1
          go_wp2_with fail
          refine (P.out _ (Hh.out _ hb) (Hr.out _ hb)).mono ?_
          rintro e w2 ⟨p, z, hp, rfl, b⟩
          obtain ⟨hp1, rfl, hp3⟩ := Hpl.out p z hp
          have o2 := o1.grown hb.size b
          replace hb := hb.trans (b.mono hb.size)
          generalize p.dg = D at *
          subst hp1
          clear b o1 k1 hp P Hpl
          have pok : Pn.ok ⟨ch, 1, (dt.length : Int), D⟩ := ⟨hch, ⟨by simp only; decide, by simp only; decide⟩, ⟨by simp only; omega, by simp only; omega⟩, hp3⟩
          have pmay : Pn.mayB ⟨ch, 1, (dt.length : Int), D⟩ = true := by unfold Pn.mayB; simp only [Bool.and_eq_true, decide_eq_true_eq]; omega
          have SG := Lib.hid (fun w => segments_any ⟨ch, 1, (dt.length : Int), D⟩ pok w)
          have SE := Lib.hid (seg_end (b := dt) pmay rfl)
          have SL := Lib.hid (fun k hk => seg_len (b := dt) (p := ⟨ch, 1, (dt.length : Int), D⟩) rfl k hk)
          have CIp := Lib.hid (fun b0 b1 B R' kR' w hF => CI.out ⟨ch, 1, (dt.length : Int), D⟩ pok b0 b1 B R' kR' w hF)
          have CHS := Lib.hid (fun w => chunks_any A l.length c ⟨ch, 1, (dt.length : Int), D⟩ w)
          have hps := pnL_size (p := ⟨ch, 1, (dt.length : Int), D⟩) hp3
          have Hpo := Lib.hid (pnL_one ⟨ch, 1, (dt.length : Int), D⟩)
          have hinf2 : (Tryd.prog.info? 27).map (·.size) = some (pnL ⟨ch, 1, (dt.length : Int), D⟩).toArray.size := by rw [hps]; exact infoPlan
          have Hz : Hid (z35.size = (pnL ⟨ch, 1, (dt.length : Int), D⟩).toArray.size) := Lib.hid (by rw [hps]; rfl)
          have k2 : (pnL ⟨ch, 1, (dt.length : Int), D⟩).toArray[2]? = some (.int .i64 dt.length) := rfl
          have o3 := o2.new hb.size 27 z35
          have hb3 := hb.alloc hb.size (.cells z35 27)
          simp only at SL SE
          obtain ⟨f, hf⟩ : ∃ f : Nat → List UInt8, f = fun k : Nat => chunkP dt ⟨ch, 1, (dt.length : Int), D⟩ k := ⟨_, rfl⟩
          have SLf : Hid (∀ k, k < nsegP dt ⟨ch, 1, (dt.length : Int), D⟩ → ∃ i j : Nat, (k : Int) * ch = (i : Int) ∧ (f k).length = j - i ∧ i < j ∧ (i : Int) ≤ 4194304 ∧ j ≤ dt.length ∧ (min (((k + 1 : Nat) : Int) * ch) (dt.length : Int) = (j : Int)) ∧ (if (k : Int) = segsP ⟨ch, 1, (dt.length : Int), D⟩ - 1 then (dt.length : Int) - (k : Int) * ch else ch) = ((j - i : Nat) : Int) ∧ (min ((k : Int) * ch) (dt.length : Int) = (i : Int))) := Lib.hid (fun k hk => by rw [hf]; exact SL.out k hk)
          rw [← hf] at CIp
          clear SL CI hps hp3 pok pmay hf
          generalize (pnL ⟨ch, 1, (dt.length : Int), D⟩).toArray = PA at *
          generalize nsegP dt ⟨ch, 1, (dt.length : Int), D⟩ = N at *
          generalize segsP ⟨ch, 1, (dt.length : Int), D⟩ = sg at *
          obtain ⟨B4, o4, b4⟩ := o3.setRow hb3.size PA
          have hb4 := hb3.trans b4
          have Hh3 := Lib.hid o3.bk.1
          have hz4 : ((w2.alloc (.cells z35 27)).setRow w2.heap.size PA).heap.size = w2.heap.size + 1 := by simp [World.setRow]
          have o5 := (o4.new B4 3 #[.int .i64 0]).new (by simp; omega) 3 #[.int .i64 0]
          have hb5 := (hb4.alloc B4 (.cells #[.int .i64 0] 3)).alloc (by simp; omega) (.cells #[.int .i64 0] 3)
          simp only [World.size_alloc9, hz4] at o5
          have Hh5 := Lib.hid (o5.blockOf w2.heap.size)
          unfold z35 at o5 hb5 Hh5 hz4
          clear o3 o4 b4 hb3 hb4 hb B4
          go_wp2_with first
            | (refine wpList_plain rfl fun _ hK => wp_store_row 27 (.tmp 5) (.tmp 33) rfl w2.heap.size PA rfl rfl 27 _ Hh3.out hinf2 Hz.out Hpo.out (hK _ _ ?_))
            | (refine wpList_load_row_g rfl 27 (.tmp 5) rfl w2.heap.size rfl 27 PA (0, 0) _ Hh5.out Tryd.underlying27 rfl hinf2 ?_)
          refine (CHS.out _).mono ?_
          rintro e w6 ⟨rfl, hw6⟩
          simp only [World.size_alloc9, hz4] at hw6 ⊢
          generalize hX0 : w.heap.size = X0 at *
          generalize hX5 : w2.heap.size = X5 at *
          obtain ⟨Y0, hY0⟩ : ∃ Y0, Y0 = X5 + 1 + 1 + 1 := ⟨_, rfl⟩
          rw [← hY0]
          have B5 := hb5.size
          rw [hX0] at B5
          have o6 := (o5.new B5 22 #[.slice A l.length c]).new (by simp at B5 ⊢; omega) 27 PA
          have hb6 := (hb5.alloc B5 (.cells #[.slice A l.length c] 22)).alloc (by simp at B5 ⊢; omega) (.cells PA 27)
          simp only [World.size_alloc9, hz4, ← hY0] at o6
          rw [← hw6] at o6 hb6
          clear hw6 o5 hb5 Hh3 Hh5 hz4 hY0 CHS B5 o2 Hpo Hz
          have hS0 := SE.out
          obtain ⟨se1, se2, se3, se4⟩ := hS0
          obtain ⟨PR, hPR⟩ : ∃ PR : HP, PR = Bk X0 3 #[.int .i64 ch] * (Bk X5 27 PA * Bk (X0 + 1) 4 #[.bool false]) := ⟨_, rfl⟩
          have kPR : Loc X0 PR := by rw [hPR]; infer_instance
          have B6 := hb6.size
          rw [hX0] at B6
          have Hb6 := Lib.hid hb6
          have Hse := Lib.hid (And.intro se1 (And.intro se2 (And.intro se3 se4)))
          have hsg0 : 0 ≤ sg := by omega
          go_wp2_with fail
          refine wp_rangeFunc_sep (B := X0) (lb := #[.pointer (some ⟨Y0, 0, none⟩), .pointer (some ⟨Y0 + 1, 0, none⟩)]) rfl (enters_of Tryd.func38 (by kernel_rfl) rfl) (Bk Y0 22 #[.slice A l.length c] * Bk (Y0 + 1) 27 PA) Emp (fun _ => inferInstance) (fun _ => rfl)
            (fun R' kR' => CIp.out Y0 (Y0 + 1) X0 R' kR' w6 (fun W b => ⟨Hh.out _ (hb6.trans b), Hr.out _ (hb6.trans b)⟩))
            (fun pre => Bk (X5 + 1) 3 #[.int .i64 (min ((pre.length : Int) * ch) (dt.length : Int))] * (Bk (X5 + 1 + 1) 3 #[.int .i64 (pre.length : Int)] * PR)) (fun _ _ => Fact False) B6 ?own
            (fun x t => (t.setIfInBounds 9 (.int .i64 (x.k : Int))).setIfInBounds 10 (.slice x.A (f x.k).length x.c)) (fun x => _) (fun x => rfl) ?assign ?body ?done ?stop
          case own =>
            rw [hPR]
            simp only [List.length_nil, Int.ofNat_zero, Int.zero_mul]
            rw [show min (0 : Int) (dt.length : Int) = 0 by omega]
            exact o6.cast (by ac_rfl)
          case assign =>
            intro l x W K hK
            simp only [sgEnc, List.zip_toArray, List.zip_cons_cons, List.zip_nil_right, List.zip_nil_left, List.foldl_toArray', List.foldl_toArray, List.foldl_cons, List.foldl_nil, List.setIfInBounds_toArray, List.set_cons_zero, List.set_cons_succ] at hK ⊢
            gi_wp2
            exact hK
          case body =>
            intro lp pre x W R' _ hBW hbW hO hN
            simp only [sgEnc, List.zip_toArray, List.zip_cons_cons, List.zip_nil_right, List.zip_nil_left, List.foldl_toArray', List.foldl_toArray, List.foldl_cons, List.foldl_nil, List.setIfInBounds_toArray, List.set_cons_zero, List.set_cons_succ] 
            obtain ⟨k, Ax, cx⟩ := x
            obtain ⟨hN1, hN2, hN3⟩ := hN
            simp only at hN2
            subst hN2
            obtain ⟨i, j, hi, hlen, hij, hi1, hj1, hmin, hwant, hmin0⟩ := SLf.out pre.length hN3
            have hO : Own X0 (Bk (X5 + 1) 3 #[.int .i64 (i : Int)] * (Bk (X5 + 1 + 1) 3 #[.int .i64 (pre.length : Int)] * (Bk X0 3 #[.int .i64 ch] * (Bk X5 27 PA * (Bk (X0 + 1) 4 #[.bool false] * R'))))) W := by
              rw [hmin0, hPR] at hO
              exact (Own.right (A := sgGiv f ⟨pre.length, Ax, cx⟩) (hO.cast (by ac_rfl)))
            have Hfin : Hid (∀ W', Own X0 (Bk (X5 + 1) 3 #[.int .i64 (j : Int)] * (Bk (X5 + 1 + 1) 3 #[.int .i64 ((pre.length + 1 : Nat) : Int)] * (Bk X0 3 #[.int .i64 ch] * (Bk X5 27 PA * (Bk (X0 + 1) 4 #[.bool false] * R'))))) W' →
              Own X0 ((Bk (X5 + 1) 3 #[.int .i64 (min (((pre ++ [(⟨pre.length, Ax, cx⟩ : Sg)]).length : Int) * ch) (dt.length : Int))] * (Bk (X5 + 1 + 1) 3 #[.int .i64 ((pre ++ [(⟨pre.length, Ax, cx⟩ : Sg)]).length : Int)] * PR)) * R') W') := Lib.hid (fun W' o => by
              rw [show (pre ++ [(⟨pre.length, Ax, cx⟩ : Sg)]).length = pre.length + 1 by simp, hmin, hPR]
              exact o.cast (by ac_rfl))
            obtain ⟨k, hk⟩ : ∃ k, k = pre.length := ⟨_, rfl⟩
            rw [← hk] at hO Hfin hi hlen hmin hwant hmin0 hN3 ⊢
            have c0 : W.cell? ⟨X0, 0, none⟩ = some (.int .i64 ch) := hO.cellOf X0 0
            have Hh5 := Lib.hid (hO.blockOf X5)
            have Hlen := Lib.hid hlen
            have m1 : ((f k).length : Int) = (j : Int) - (i : Int) := by omega
            clear hk hN1 hN3 hlen hmin hmin0 Hse se1 se2 se3 hPR Hb6 hbW o6 hb6 CIp SLf SE
            generalize (f k).length = m at *
            have hkn : (0 : Int) ≤ (k : Int) := by omega
            gi_wp2_with first
              | (refine wpListIn_load_row rfl 27 (.tmp 5) rfl X5 rfl 27 PA (0, 0) _ Hh5.out Tryd.underlying27 rfl hinf2 ?_)
            refine ⟨trivial, (callsIn_wide.2 (SG.out _)).mono ?_⟩
            rintro e W2 ⟨rfl, b2⟩
            have hO2 := hO.grown hBW b2
            have hBW2 := Nat.le_trans hBW b2.size
            have hb2 := b2.mono hBW
            clear hO Hh5 c0 b2
            have c0 : W2.cell? ⟨X0, 0, none⟩ = some (.int .i64 ch) := hO2.cellOf X0 0
            have c2 : W2.cell? ⟨X5, 2, none⟩ = some (.int .i64 dt.length) := (hO2.cellOf X5 2).trans k2
            have c7 : W2.cell? ⟨X5 + 1, 0, none⟩ = some (.int .i64 (i : Int)) := hO2.cell 0
            have z7 := hO2.unfrozen 0
            have s7 := hO2.set hBW2 0 (.int .i64 (j : Int))
            have t7 := hO2.below_set 0 (.int .i64 (j : Int))
            have s7' := s7.cast (sep_left_comm _ _ _)
            have c8 : (W2.setCell ⟨X5 + 1, 0, none⟩ (.int .i64 (j : Int))).cell? ⟨X5 + 1 + 1, 0, none⟩ = some (.int .i64 (k : Int)) := s7'.cell 0
            have z8 := s7'.unfrozen 0
            have s8 := s7'.set (by simpa [World.setCell] using hBW2) 0 (.int .i64 ((k + 1 : Nat) : Int))
            have t8 := s7'.below_set 0 (.int .i64 ((k + 1 : Nat) : Int))
            have Fin := Lib.hid (And.intro (Hfin.out _ (s8.cast (sep_left_comm _ _ _))) ((hb2.trans t7).trans t8))
            have ij : (i : Int) + (m : Int) = (j : Int) := by omega
            have j9 : (j : Int) ≤ 4194304 := by omega
            have k9 : (k : Int) ≤ 9000000 := by
              have : (k : Int) * 1 ≤ (k : Int) * ch := Int.mul_le_mul_of_nonneg_left (by omega) hkn
              omega
            clear s7 t7 s7' s8 t8 Hfin hO2 hb2
            by_cases hlast : (k : Int) = sg - 1
            · have hl2 : ((k : Int) == sg - 1) = true := by simpa using hlast
              rw [if_pos hlast] at hwant
              have w1 : (dt.length : Int) - (i : Int) = (m : Int) := by omega
              have w2' : (1 : Int) ≤ (m : Int) := by omega
              clear hwant m1 hlast
              gi_wp2
              exact Fin.out
            · have hl2 : ((k : Int) == sg - 1) = false := by simpa using hlast
              rw [if_neg hlast] at hwant
              have w1 : ((m : Int) == ch) = true := by simp; omega
              have w2' : ((m : Int) != ch) = false := by simp; omega
              clear hwant m1 hlast
              gi_wp2
              exact Fin.out
          case done =>
            intro D xs W hS hBW hbW hO
            have hxl : xs.length = N := by have := congrArg List.length hS; simpa using this
            have e1 : min ((N : Int) * ch) (dt.length : Int) = (dt.length : Int) := by rw [se3]; exact se1
            rw [hxl, e1, hPR] at hO
            have hO : Own X0 (Bk (X5 + 1) 3 #[.int .i64 (dt.length : Int)] * (Bk (X5 + 1 + 1) 3 #[.int .i64 (N : Int)] * (Bk X0 3 #[.int .i64 ch] * (Bk X5 27 PA * (Bk (X0 + 1) 4 #[.bool false] * (Dk D * Emp)))))) W :=
              (Own.right (A := Bk Y0 22 #[.slice A l.length c] * Bk (Y0 + 1) 27 PA) (hO.cast (by ac_rfl)))
            subst se3
            have hb := Hb6.out.trans hbW
            clear hS hxl e1 se1 Hse hPR o6 hb6 CIp SLf SE hbW
            by_cases hgt : ch < (dt.length : Int)
            · have hd1 : decide (ch < (dt.length : Int)) = true := decide_eq_true hgt
              go_wp2
              refine wp_region_mix (St X0 _ W) [0, 1, 2, 3, 4, 5, 6, 7, 8, 9, 10, 11, 12, 13, 14, 15, 16, 17, 18, 19, 20, 21, 22, 23, 24] [25, 26, 27] mixed (by kernel_rfl) rfl (St.drew hBW hO) ?_
              simp only [List.filterMap_cons, List.filterMap_nil, List.getElem?_toArray, List.getElem?_cons_succ, List.getElem?_cons_zero]
              repeat (first
                | (refine held_val ?_ rfl (fun w1 hS => ?_) ?_
                   rotate_left
                   · (have c7 := hS.2.1.cellOf (X5 + 1) 0; have c8 := hS.2.1.cellOf (X5 + 1 + 1) 0; have c0 := hS.2.1.cellOf X0 0; have c2 := (hS.2.1.cellOf X5 2).trans k2
                      go_simp
                      try go_bits
                      rfl)
                   simp only [Act.put, List.setIfInBounds_toArray, List.set_cons_zero, List.set_cons_succ])
                | (refine held_off rfl ?_
                   simp only [Act.put, List.setIfInBounds_toArray, List.set_cons_zero, List.set_cons_succ]))
              refine held_val (.agg PA) rfl (fun w1 hS => exec_load_row rfl X5 rfl 27 PA (0, 0) _ (hS.2.1.blockOf X5) Tryd.underlying27 rfl hinf2) ?_
              simp only [Act.put, List.setIfInBounds_toArray, List.set_cons_zero, List.set_cons_succ]
              refine held_call 24 #[.agg PA] (.int .i64 (N : Int)) rfl (fun w1 hS => by go_simp) (fun w1 hS => (SG.out w1).mono ?_) ?_
              · rintro e w2 ⟨rfl, b2⟩
                exact ⟨rfl, hS.grown b2⟩
              simp only [Act.put, List.setIfInBounds_toArray, List.set_cons_zero, List.set_cons_succ]
              repeat (first
                | (refine held_val ?_ rfl (fun w1 hS => ?_) ?_
                   rotate_left
                   · (have c7 := hS.2.1.cellOf (X5 + 1) 0; have c8 := hS.2.1.cellOf (X5 + 1 + 1) 0; have c0 := hS.2.1.cellOf X0 0; have c2 := (hS.2.1.cellOf X5 2).trans k2
                      go_simp
                      try go_bits
                      rfl)
                   simp only [Act.put, List.setIfInBounds_toArray, List.set_cons_zero, List.set_cons_succ])
                | (refine held_off rfl ?_
                   simp only [Act.put, List.setIfInBounds_toArray, List.set_cons_zero, List.set_cons_succ]))
              refine held_nil (fun w9 hS => ?_)
              obtain ⟨B9, o9, b9⟩ := hS
              have hb9 := hb.trans b9
              clear hO hb b9
              go_wp2_with fail
              refine (Aw.out _ (Hh.out _ hb9)).mono ?_
              rintro e wa ⟨rfl, ba⟩
              have oa := (o9.grown B9 ba).foc (Bk (X0 + 1) 4 #[.bool false])
              have Ba := Nat.le_trans B9 ba.size
              have hba := hb9.trans (ba.mono B9)
              have ka := oa.cell 0
              have za := oa.unfrozen 0
              have sa := oa.set Ba 0 (.bool true)
              have ta := oa.below_set 0 (.bool true)
              have Bs : X0 ≤ (wa.setCell ⟨X0 + 1, 0, none⟩ (.bool true)).heap.size := by simpa [World.setCell] using Ba
              have Fin := Lib.hid (And.intro Bs (And.intro sa (hba.trans ta)))
              clear o9 hb9 ba oa hba sa ta Bs
              go_wp2
              refine ret_hp Fin.out.1 rfl (Fin.out.2.1.foc (Dk D)) (fun W' o => results_cell_bool rfl _ _ (X0 + 1) 0 _ rfl (o.cellOf (X0 + 1) 0)) (fun W' o b => ⟨rfl, by rw [hX0]; exact Fin.out.2.2.trans b⟩)
            · have hle1 : (N : Int) ≤ 1 := by rcases se2 with h | h <;> omega
              have hd1 : decide (ch < (dt.length : Int)) = false := decide_eq_false hgt
              have hd2 : decide ((N : Int) ≤ 1) = true := decide_eq_true hle1
              go_wp2
              refine wp_region_mix (St X0 _ W) [0, 1, 2, 3, 4, 5, 6, 7, 8, 9, 10, 11, 12, 13, 14, 15, 16, 17, 18, 19, 20, 21, 22, 23, 24] [25, 26, 27] mixed (by kernel_rfl) rfl (St.drew hBW hO) ?_
              simp only [List.filterMap_cons, List.filterMap_nil, List.getElem?_toArray, List.getElem?_cons_succ, List.getElem?_cons_zero]
              repeat (first
                | (refine held_val ?_ rfl (fun w1 hS => ?_) ?_
                   rotate_left
                   · (have c7 := hS.2.1.cellOf (X5 + 1) 0; have c8 := hS.2.1.cellOf (X5 + 1 + 1) 0; have c0 := hS.2.1.cellOf X0 0; have c2 := (hS.2.1.cellOf X5 2).trans k2
                      go_simp
                      try go_bits
                      rfl)
                   simp only [Act.put, List.setIfInBounds_toArray, List.set_cons_zero, List.set_cons_succ])
                | (refine held_off rfl ?_
                   simp only [Act.put, List.setIfInBounds_toArray, List.set_cons_zero, List.set_cons_succ]))
              refine held_val (.agg PA) rfl (fun w1 hS => exec_load_row rfl X5 rfl 27 PA (0, 0) _ (hS.2.1.blockOf X5) Tryd.underlying27 rfl hinf2) ?_
              simp only [Act.put, List.setIfInBounds_toArray, List.set_cons_zero, List.set_cons_succ]
              refine held_call 24 #[.agg PA] (.int .i64 (N : Int)) rfl (fun w1 hS => by go_simp) (fun w1 hS => (SG.out w1).mono ?_) ?_
              · rintro e w2 ⟨rfl, b2⟩
                exact ⟨rfl, hS.grown b2⟩
              simp only [Act.put, List.setIfInBounds_toArray, List.set_cons_zero, List.set_cons_succ]
              repeat (first
                | (refine held_val ?_ rfl (fun w1 hS => ?_) ?_
                   rotate_left
                   · (have c7 := hS.2.1.cellOf (X5 + 1) 0; have c8 := hS.2.1.cellOf (X5 + 1 + 1) 0; have c0 := hS.2.1.cellOf X0 0; have c2 := (hS.2.1.cellOf X5 2).trans k2
                      go_simp
                      try go_bits
                      rfl)
                   simp only [Act.put, List.setIfInBounds_toArray, List.set_cons_zero, List.set_cons_succ])
                | (refine held_off rfl ?_
                   simp only [Act.put, List.setIfInBounds_toArray, List.set_cons_zero, List.set_cons_succ]))
              refine held_nil (fun w9 hS => ?_)
              obtain ⟨B9, o9, b9⟩ := hS
              have hb9 := hb.trans b9
              clear hO hb b9
              go_wp2_with fail
              refine (Aw.out _ (Hh.out _ hb9)).mono ?_
              rintro e wa ⟨rfl, ba⟩
              have oa := (o9.grown B9 ba).foc (Bk (X0 + 1) 4 #[.bool false])
              have Ba := Nat.le_trans B9 ba.size
              have hba := hb9.trans (ba.mono B9)
              have ka := oa.cell 0
              have za := oa.unfrozen 0
              have sa := oa.set Ba 0 (.bool true)
              have ta := oa.below_set 0 (.bool true)
              have Bs : X0 ≤ (wa.setCell ⟨X0 + 1, 0, none⟩ (.bool true)).heap.size := by simpa [World.setCell] using Ba
              have Fin := Lib.hid (And.intro Bs (And.intro sa (hba.trans ta)))
              clear o9 hb9 ba oa hba sa ta Bs
              go_wp2
              refine ret_hp Fin.out.1 rfl (Fin.out.2.1.foc (Dk D)) (fun W' o => results_cell_bool rfl _ _ (X0 + 1) 0 _ rfl (o.cellOf (X0 + 1) 0)) (fun W' o b => ⟨rfl, by rw [hX0]; exact Fin.out.2.2.trans b⟩)
          case stop =>
            intro D cd pre W hSp hBW hbW hO
            exact hO.fact_out.elim
    · have hz' : (whyE (ents (l.map (·.1))) == 0) = false := by simpa using hz
      rw [hz'] at R1
      clear h hr hf f3 hw
      by_cases hc1 : ch < 1
      · refine (callsIn_wide (n := 5)).1 (callsIn_of_wp_marks Tryd.func7 rfl trivial (wpIn_wide.2 ?_) rfl)
        simp only [Tryd.ntmps7, List.size_toArray, List.length_cons, List.length_nil, Nat.reduceAdd, Nat.reduceSub, Array.replicate_succ, Array.replicate_zero, List.push_toArray, List.append_toArray, List.nil_append, List.cons_append]
        go_wp2_with fail
        refine (Fe.out).mono ?_
        rintro e wz ⟨rfl, rfl⟩
        go_wp2_with fail
        refine (Aw.out _ (Hh.out _ hb)).mono ?_
        rintro e w1 ⟨rfl, b⟩
        have o1 := (o0).grown hb.size b
        have hb1 := hb.trans (b.mono hb.size)
        have k1 := o1.cell 0
        have z1 := o1.unfrozen 0
        have o2 := o1.set hb1.size 0 (.bool true)
        have b2 := o1.below_set 0 (.bool true)
        clear hb b
        go_wp2
        exact ⟨_, results_cell_bool rfl _ _ (w.heap.size + 1) 0 _ rfl (o2.cell 0), rfl, hb1.trans b2⟩
      · by_cases hc2 : 65536 < ch
        · refine (callsIn_wide (n := 5)).1 (callsIn_of_wp_marks Tryd.func7 rfl trivial (wpIn_wide.2 ?_) rfl)
          simp only [Tryd.ntmps7, List.size_toArray, List.length_cons, List.length_nil, Nat.reduceAdd, Nat.reduceSub, Array.replicate_succ, Array.replicate_zero, List.push_toArray, List.append_toArray, List.nil_append, List.cons_append]
          go_wp2_with fail
          refine (Fe.out).mono ?_
          rintro e wz ⟨rfl, rfl⟩
          go_wp2_with fail
          refine (Aw.out _ (Hh.out _ hb)).mono ?_
          rintro e w1 ⟨rfl, b⟩
          have o1 := (o0).grown hb.size b
          have hb1 := hb.trans (b.mono hb.size)
          have k1 := o1.cell 0
          have z1 := o1.unfrozen 0
          have o2 := o1.set hb1.size 0 (.bool true)
          have b2 := o1.below_set 0 (.bool true)
          clear hb b
          go_wp2
          exact ⟨_, results_cell_bool rfl _ _ (w.heap.size + 1) 0 _ rfl (o2.cell 0), rfl, hb1.trans b2⟩
        · have k0 : ((w.alloc (.cells #[.int .i64 ch] 3)).alloc (.cells #[.bool false] 4)).cell? ⟨w.heap.size, 0, none⟩ = some (.int .i64 ch) := o0.cellOf w.heap.size 0
          refine (callsIn_wide (n := 5)).1 (callsIn_of_wp_marks Tryd.func7 rfl trivial (wpIn_wide.2 ?_) rfl)
          simp only [Tryd.ntmps7, List.size_toArray, List.length_cons, List.length_nil, Nat.reduceAdd, Nat.reduceSub, Array.replicate_succ, Array.replicate_zero, List.push_toArray, List.append_toArray, List.nil_append, List.cons_append]
          go_wp2_with fail
          refine (Fe.out).mono ?_
          rintro e wz ⟨rfl, rfl⟩
          go_wp2_with fail
          refine (R1.out _ (Hh.out _ hb) (Hr.out _ hb)).mono ?_
          rintro e w1 ⟨rfl, b⟩
          have o0' := o0.grown hb.size b
          replace hb := hb.trans (b.mono hb.size)
          clear b o0
          go_wp2_with fail
          refine (Aw.out _ (Hh.out _ hb)).mono ?_
          rintro e w1 ⟨rfl, b⟩
          have o1 := (o0').grown hb.size b
          have hb1 := hb.trans (b.mono hb.size)
          have k1 := o1.cell 0
          have z1 := o1.unfrozen 0
          have o2 := o1.set hb1.size 0 (.bool true)
          have b2 := o1.below_set 0 (.bool true)
          clear hb b
          go_wp2
          exact ⟨_, results_cell_bool rfl _ _ (w.heap.size + 1) 0 _ rfl (o2.cell 0), rfl, hb1.trans b2⟩
  · rw [decide_eq_false hf] at Fe
    clear h hr hf hw
    refine (callsIn_wide (n := 5)).1 (callsIn_of_wp_marks Tryd.func7 rfl trivial (wpIn_wide.2 ?_) rfl)
    simp only [Tryd.ntmps7, List.size_toArray, List.length_cons, List.length_nil, Nat.reduceAdd, Nat.reduceSub, Array.replicate_succ, Array.replicate_zero, List.push_toArray, List.append_toArray, List.nil_append, List.cons_append]
    go_wp2_with fail
    refine (Fe.out).mono ?_
    rintro e wz ⟨rfl, rfl⟩
    go_wp2_with fail
    refine (Aw.out _ (Hh.out _ hb)).mono ?_
    rintro e w1 ⟨rfl, b⟩
    have o1 := (o0).grown hb.size b
    have hb1 := hb.trans (b.mono hb.size)
    have k1 := o1.cell 0
    have z1 := o1.unfrozen 0
    have o2 := o1.set hb1.size 0 (.bool true)
    have b2 := o1.below_set 0 (.bool true)
    clear hb b
    go_wp2
    exact ⟨_, results_cell_bool rfl _ _ (w.heap.size + 1) 0 _ rfl (o2.cell 0), rfl, hb1.trans b2⟩
end Go.Proofs.YtmppagiaonbggaaDoor

/- A loop in which ranges over functions stand: the marks that they leave are struck at the end, all. -/
namespace Go.Proofs.YtmppagiaonbggaaDoor
set_option linter.unusedVariables false
set_option linter.unusedSimpArgs false
set_option maxRecDepth 100000
open Go.RowKit

theorem len_cons {l : List Value} {n : Nat} (h : l.length = n + 1) : ∃ a l', l = a :: l' ∧ l'.length = n := by
  cases l with
  | nil => simp at h
  | cons a l => exact ⟨a, l, rfl, by simpa using h⟩
def setAll : List Nat → List Value → Array Value → Array Value
  | i :: is, v :: vs, T => setAll is vs (T.setIfInBounds i v)
  | _, _, T => T
theorem setAll_self : ∀ (is : List Nat) (T : Array Value), setAll is (is.map fun i => T.getD i undef) T = T
  | [], _ => rfl
  | i :: is, T => by
    have h : T.setIfInBounds i (T.getD i undef) = T := by
      by_cases h : i < T.size
      · simp [Array.setIfInBounds, h]
      · simp [Array.setIfInBounds, h]
    rw [List.map_cons, setAll, h, setAll_self is T]
/-- The marks. -/
def colls (ds : List Nat) : List Deferred := ds.map fun D => { target := .collected D, args := #[] }
def DkL : List Nat → HP
  | [] => Emp
  | D :: ds => Dk D * DkL ds
instance Loc.dkl {B : Nat} : ∀ {ds : List Nat}, Loc B (DkL ds)
  | [] => Loc.emp
  | _ :: ds => @Loc.sep _ _ _ Loc.dk (Loc.dkl (ds := ds))

/-- THE RULE: live, the slots that the loop goes on by · junk, what else it writes. -/
theorem wp_loop_d {P : Program} {Q : Exit → Act → World → Prop} {c : Code} {T : Array Value} {w : World} {ds0 : List Nat} (live junk : List Nat) (I : List Value → List Nat → World → Prop) (μ : List Value → Nat)
    (h0 : I (live.map fun i => T.getD i undef) ds0 w)
    (round : ∀ vs js ds w, vs.length = live.length → js.length = junk.length → I vs ds w →
      c.wp P (Exit.then (fun a' w' => ∃ vs' js' ds', vs'.length = live.length ∧ js'.length = junk.length ∧ a' = { tmps := setAll junk js' (setAll live vs' T), defers := colls ds' } ∧ I vs' ds' w' ∧ μ vs' < μ vs) Q) { tmps := setAll junk js (setAll live vs T), defers := colls ds } w) :
    (Code.loop c).wp P Q { tmps := T, defers := colls ds0 } w := by
  have key : ∀ n, ∀ vs js ds w, μ vs < n → vs.length = live.length → js.length = junk.length → I vs ds w →
      Code.rounds P c Q n { tmps := setAll junk js (setAll live vs T), defers := colls ds } w := by
    intro n
    induction n with
    | zero => intro vs js ds w h; omega
    | succ n ih =>
      intro vs js ds w hn hl hj hI
      refine wp_mono (round vs js ds w hl hj hI) ?_
      intro e a' w' hq
      cases e with
      | normal =>
        obtain ⟨vs', js', ds', hl', hj', rfl, hI', hlt⟩ := hq
        exact ih vs' js' ds' w' (by omega) hl' hj' hI'
      | _ => exact hq
  have := wp_loop_rounds _ (key (μ (live.map fun i => T.getD i undef) + 1) _ (junk.map fun i => (setAll live (live.map fun i => T.getD i undef) T).getD i undef) ds0 w (by omega) (by simp) (by simp) h0)
  rwa [setAll_self, setAll_self] at this

/-- The end of a body that has marks: all are struck. -/
theorem ret_hps {n B : Nat} {P : Program} {fn : Func} {R : Ending → World → Prop} {A : HP} [Loc B A] {v : Value} {tmps : Array Value} : ∀ (ds : List Nat) {W : World}, B ≤ W.heap.size → Own B (DkL ds * A) W →
    (∀ W', Own B A W' → (results fn tmps).run P W' = .ok v W') → (∀ W', Own B A W' → Below B W W' → R (.returned v) W') → bodyPostM Fence.wide n P fn R .ret { tmps := tmps, defers := colls ds } W
  | [], W, hB, hO, hres, hR => ⟨_, hres _ hO.right, hR _ hO.right (Below.refl B W)⟩
  | D :: ds, W, hB, hO, hres, hR => by
    have hO : Own B (Dk D * (DkL ds * A)) W := hO.assoc
    have hK : W.heap[D]? = some (.deferred (some [])) := by
      obtain ⟨F, hf, F1, F2, hd, h1, h2, hc, hs⟩ := hO
      exact hc.2
    have hBD : B ≤ D := by
      obtain ⟨F, hf, F1, F2, hd, h1, h2, hc, hs⟩ := hO
      exact (hf D (h1 D hc.1)).1
    have hg := grownBy_putObj' W D (.deferred none)
    have hO' : Own B (DkL ds * A) (W.putObj D (.deferred none)) := (Own.turn (A' := Emp) hB hO hg.size (fun F hF ⟨hFD, _⟩ => ⟨fun _ => False, fun _ h => h.elim, trivial, fun k hk hn => hg.block k hk (fun e => hn (by injection e with e; exact e ▸ hFD))⟩)).right
    have hb : Below B W (W.putObj D (.deferred none)) := (Below.refl B W).grown hg hB (fun k e => by cases e; exact hBD)
    have := ret_hps (n := n) (P := P) (fn := fn) (R := R) (tmps := tmps) ds (Nat.le_trans hB hb.size) hO' hres (fun W' o b => hR W' o (hb.trans b))
    exact ⟨by simp, .inl ⟨_, _, rfl, run_takeDeferred hK, this⟩⟩
end Go.Proofs.YtmppagiaonbggaaDoor

/- Segments, joined, are the stream; rows of segments; appending within a round. -/
namespace Go.Proofs.YtmppagiaonbggaaDoor
set_option linter.unusedVariables false
set_option linter.unusedSimpArgs false
set_option maxRecDepth 100000
open Go.RowKit

theorem wpListIn_append_at {F : Fence} {n : Nat} {P : Program} {ops : Array Oper} {Q : Exit → Act → World → Prop} {rest : List Oper} {o : Oper} {a : Act} {w w' : World} (hgd : o.guard = none) (s x : Operand) (t : TypeId) {v u v' : Value}
    (ho : o.op = .call { callee := .builtin .append, args := #[s, x], argTypes := #[t, t] }) (hs : a.eval s = v) (hx : a.eval x = u) (hr : (Builtin.append_ #[t, t] o.type #[v, u]).run P w = .ok v' w')
    (h : wpListIn F n P ops Q rest (a.put o.dst v') w') : wpListIn F n P ops Q (o :: rest) a w := by
  refine wpListIn_plain hgd fun K hK => ?_
  unfold Oper.wpIn
  refine ⟨by simp [Oper.about, ho, resolve, Target.leads], ?_⟩
  rw [Oper.semAt_plain F _ _ (by rw [ho]; intro c hc'; cases hc')]
  unfold execOp
  simp only [ho, resolve, invoke, builtin, Sem.run_bind, Sem.run_pure, Result.andThen_ok, List.map_toArray, List.map_cons, List.map_nil, hs, hx, hr]
  exact hK _ _ h

theorem join_to {b : List UInt8} {p : Pn} (ht : p.tot = (b.length : Int)) : ∀ m : Nat, m ≤ nsegP b p → ∃ t : Nat, min ((m : Int) * p.ch) (b.length : Int) = (t : Int) ∧ (List.range m).flatMap (fun k : Nat => chunkP b p (k : Int)) = b.take t
  | 0, _ => ⟨0, by omega, rfl⟩
  | m + 1, h => by
    obtain ⟨t, h1, h2⟩ := join_to ht m (by omega)
    obtain ⟨i, m', j, hi, hm, hj, hij, hjb, hc, _⟩ := seg_facts ht m (by omega)
    obtain ⟨i', j', hi', hl, hij', _, hj', hmin, _, hmin0⟩ := seg_len ht m (by omega)
    have e1 : i' = i := by omega
    have e2 : t = i := by omega
    have e3 : j' = j := by
      have : (chunkP b p m).length = j - i := by rw [hc]; exact (bytesU_cut b i j hjb (by omega)).2
      omega
    subst e1 e2 e3
    refine ⟨j', hmin, ?_⟩
    rw [List.range_succ, List.flatMap_append, h2]
    simp only [List.flatMap_cons, List.flatMap_nil, List.append_nil]
    rw [hc]
    unfold cutP
    rw [show j' = t + (j' - t) by omega, List.take_add]
    simp
theorem nseg_le {b : List UInt8} {p : Pn} (ht : p.tot = (b.length : Int)) : nsegP b p ≤ b.length := by
  by_cases h : nsegP b p = 0
  · omega
  · obtain ⟨i, m, j, hi, hm, hj, hij, hjb, hc, _, _, _, _, hp, _⟩ := seg_facts ht (nsegP b p - 1) (by omega)
    have h1 : ((nsegP b p - 1 : Nat) : Int) * 1 ≤ ((nsegP b p - 1 : Nat) : Int) * p.ch := Int.mul_le_mul_of_nonneg_left hp (by omega)
    omega
theorem join_segs {b : List UInt8} {p : Pn} (hm : p.mayB = true) (ht : p.tot = (b.length : Int)) : (List.range (nsegP b p)).flatMap (fun k : Nat => chunkP b p (k : Int)) = b := by
  obtain ⟨t, h1, h2⟩ := join_to ht (nsegP b p) (Nat.le_refl _)
  obtain ⟨e1, _, e3, _⟩ := seg_end hm ht
  rw [e3, e1, ht] at h1
  rw [h2, List.take_of_length_le (by omega)]

def segV (f : Nat → List UInt8) (x : Sg) : Value := .slice x.A (f x.k).length x.c
def SegL (f : Nat → List UInt8) : List Sg → HP
  | [] => Emp
  | x :: xs => sgGiv f x * SegL f xs
instance Loc.segL {B : Nat} {f : Nat → List UInt8} : ∀ {xs : List Sg}, Loc B (SegL f xs)
  | [] => Loc.emp
  | _ :: xs => @Loc.sep _ _ _ inferInstance (Loc.segL (xs := xs))
theorem Own.segL_snoc {B : Nat} {f : Nat → List UInt8} {w : World} {x : Sg} : ∀ {xs : List Sg} {R : HP}, Own B (SegL f xs * (sgGiv f x * R)) w → Own B (SegL f (xs ++ [x]) * R) w
  | [], R, h => h.cast (by show Emp * (sgGiv f x * R) = (sgGiv f x * Emp) * R; ac_rfl)
  | y :: xs, R, h => by
    have h1 : Own B (SegL f xs * (sgGiv f x * (sgGiv f y * R))) w := h.cast (by show (sgGiv f y * SegL f xs) * (sgGiv f x * R) = _; ac_rfl)
    exact (Own.segL_snoc h1).cast (by show _ = (sgGiv f y * SegL f (xs ++ [x])) * R; ac_rfl)
theorem Own.segL_rd {B : Nat} {f : Nat → List UInt8} {w : World} : ∀ {xs : List Sg} {R : HP}, Own B (SegL f xs * R) w → ∀ x ∈ xs, Rd w (segV f x) (bytesU (f x.k))
  | y :: xs, R, h, x, hx => by
    have h0 : Own B (sgGiv f y * (SegL f xs * R)) w := h.cast (by show (sgGiv f y * SegL f xs) * R = _; ac_rfl)
    rcases List.mem_cons.1 hx with rfl | hx
    · exact h0.rd
    · exact Own.segL_rd (h0.cast (show _ = SegL f xs * (sgGiv f y * R) by ac_rfl)) x hx
end Go.Proofs.YtmppagiaonbggaaDoor

/- The walk over the reference's Chunk. -/
namespace Go.Proofs.YtmppagiaonbggaaDoor
set_option linter.unusedVariables false
set_option linter.unusedSimpArgs false
set_option maxRecDepth 100000
open Go.RowKit

def filP (b : List UInt8) (lo n : Nat) (i : Nat) : List UInt8 := ((b.take i).drop lo).take n
theorem filP_in {b : List UInt8} {lo n i : Nat} (hi : i < b.length) (h1 : lo ≤ i) (h2 : i < lo + n) : filP b lo n (i + 1) = filP b lo n i ++ [b[i]] := by
  unfold filP
  rw [List.take_succ_eq_append_getElem hi, List.drop_append_of_le_length (by simp; omega)]
  have e1 : (List.drop lo (List.take i b)).length = i - lo := by simp; omega
  rw [List.take_of_length_le (i := n) (l := List.drop lo (List.take i b) ++ [b[i]]) (by rw [List.length_append, e1]; simp; omega), List.take_of_length_le (i := n) (l := List.drop lo (List.take i b)) (by rw [e1]; omega)]
theorem filP_out {b : List UInt8} {lo n i : Nat} (hi : i < b.length) (h : i < lo ∨ lo + n ≤ i) : filP b lo n (i + 1) = filP b lo n i := by
  unfold filP
  rw [List.take_succ_eq_append_getElem hi]
  rcases h with h | h
  · rw [List.drop_eq_nil_of_le (by simp; omega), List.drop_eq_nil_of_le (by simp; omega)]
  · rw [List.drop_append_of_le_length (by simp; omega), List.take_append_of_le_length (by simp; omega)]
theorem filP_len (b : List UInt8) (lo n i : Nat) : (filP b lo n i).length ≤ b.length := by unfold filP; simp; omega

set_option maxHeartbeats 1600000 in
theorem refchunk_any (A : Option Addr) (c : Nat) (b : List UInt8) (hb : b.length ≤ 1000000000) (ch : Nat) (hch : 1 ≤ ch ∧ ch ≤ 65536) (k : Nat) (hk : k ≤ 4294967296) (w : World) (hr : Rd w (.slice A b.length c) (bytesU b)) :
    Calls Tryd.prog 20 #[.slice A b.length c, .int .i64 (ch : Int), .int .i64 (k : Int)] w (RetB w (filP b (k * ch) ch b.length)) := by
  have Hr := Lib.hid (fun W (h : Below w.heap.size w W) => hr.below h)
  have n1 : (b.length : Int) ≤ 1000000000 := by omega
  have c1 : (1 : Int) ≤ (ch : Int) := by omega
  have c2 : (ch : Int) ≤ 65536 := by omega
  have cne : ((ch : Int) == 0) = false := by simp; omega
  have k1 : (k : Int) ≤ 4294967296 := by omega
  have o0 := (Own.start w.heap.size w).rw_nil 5 1
  have b0 := Below.refl w.heap.size w
  clear hr
  go_enter Tryd.func20, Tryd.ntmps20
  go_wp2
  generalize hX0 : w.heap.size = X0 at *
  go_loopg [7, 8] b.length (fun kk v7 v8 wr => ∃ (i : Nat) (A' : Option Addr) (c' : Nat), kk + i = b.length ∧ v8 = .int .i64 (i : Int) ∧ v7 = .slice A' (filP b (k * ch) ch i).length c' ∧ Own X0 (Rw 5 1 (.slice A' (filP b (k * ch) ch i).length c') (filP b (k * ch) ch i).length (bytesU (filP b (k * ch) ch i)) * Emp) wr ∧ Below X0 w wr)
  case atStart => exact ⟨0, none, 0, rfl, rfl, by simp [filP], by simpa [filP, bytesU] using o0, b0⟩
  case round =>
    clear o0 b0
    obtain ⟨i, A', c', hk', rfl, rfl, ho, hb'⟩ := hrel
    have i0 : (0 : Int) ≤ (i : Int) := by omega
    have Bw : X0 ≤ wr.heap.size := by rw [← hX0]; exact hb'.size
    by_cases hlt : (i : Int) < (b.length : Int)
    · obtain ⟨j, rfl⟩ : ∃ j, gk = j + 1 := ⟨gk - 1, by omega⟩
      have hil : i < b.length := by omega
      have hlen := filP_len b (k * ch) ch i
      obtain ⟨q, hq⟩ : ∃ q : Nat, q = i / ch := ⟨_, rfl⟩
      have hdiv : (i : Int) / (ch : Int) = (q : Int) := by rw [hq]; omega
      have hdv2 : (i : Int).tdiv (ch : Int) = (q : Int) := by rw [Int.tdiv_eq_ediv_of_nonneg i0]; exact hdiv
      have q1 : (q : Int) ≤ 1000000000 := by have := Nat.div_le_self i ch; omega
      have q0 : (0 : Int) ≤ (q : Int) := by omega
      have Hk := Lib.hid hk'
      clear hk'
      by_cases he : q = k
      · have hin : k * ch ≤ i ∧ i < k * ch + ch := by
          have h1 := Nat.div_add_mod i ch
          have h2 := Nat.mod_lt i (show ch > 0 by omega)
          rw [← hq, he, Nat.mul_comm] at h1
          omega
        have Hsn := Lib.hid (filP_in hil hin.1 hin.2)
        obtain ⟨b2, o2, hA, hc⟩ : ∃ bb oo, A = some ⟨bb, oo, none⟩ ∧ wr.cell? ⟨bb, oo + i, none⟩ = some (.int .u8 (b[i].toNat : Int)) := by
          exact (Hr.out wr hb').at' i hil
        subst hA
        obtain ⟨g, cap, w5, hrun, o5, b5⟩ := byte_snoc Bw ho b[i] (b[i].toNat : Int) rfl (by omega)
        have Hrun := Lib.hid hrun
        have heq : ((q : Int) == (k : Int)) = true := by rw [he]; simp
        have hb5 := hb'.trans b5
        clear hrun ho hb' b5 hq hin he
        generalize b[i] = bi at *
        generalize (filP b (k * ch) ch i) = out at *
        go_wp2_with (at_builtin; refine wpList_append_at rfl (.tmp 20) (.tmp 25) 32 rfl rfl rfl Hrun.out ?_)
        go_roundg j
        case measure => omega
        case rel => exact ⟨i + 1, some ⟨g, 0, none⟩, cap, by have := Hk.out; omega, rfl, by rw [Hsn.out]; simp, by rw [Hsn.out]; simpa using o5, hb5⟩
      · have hout : i < k * ch ∨ k * ch + ch ≤ i := by
          have h1 := Nat.div_add_mod i ch
          have h2 := Nat.mod_lt i (show ch > 0 by omega)
          rw [← hq] at h1
          rcases Nat.lt_or_gt_of_ne he with h | h
          · left
            have : ch * (q + 1) ≤ ch * k := Nat.mul_le_mul_left _ h
            rw [Nat.mul_add, Nat.mul_one, Nat.mul_comm ch k] at this
            omega
          · right
            have : ch * (k + 1) ≤ ch * q := Nat.mul_le_mul_left _ h
            rw [Nat.mul_add, Nat.mul_one, Nat.mul_comm ch k] at this
            omega
        have Hsn := Lib.hid (filP_out hil hout)
        have heq : ((q : Int) == (k : Int)) = false := by simp; omega
        clear hq hout he
        generalize (filP b (k * ch) ch i) = out at *
        go_wp2
        go_roundg j
        case measure => omega
        case rel => exact ⟨i + 1, A', c', by have := Hk.out; omega, rfl, by rw [Hsn.out], by rw [Hsn.out]; exact ho, hb'⟩
    · obtain rfl : i = b.length := by omega
      go_wp2
      go_ret
      exact RetB.mk rfl rfl rfl hX0.symm ho (hX0 ▸ hb')
theorem filP_chunk {b : List UInt8} {ch : Nat} {dg : List UInt8} (k : Nat) (hk : k < nsegP b ⟨ch, 1, b.length, dg⟩) : filP b (k * ch) ch b.length = chunkP b ⟨ch, 1, b.length, dg⟩ k := by
  obtain ⟨i, m, j, hi, hm, hj, hij, hjb, hc, _⟩ := seg_facts (p := ⟨ch, 1, b.length, dg⟩) rfl k hk
  simp only at hi hm
  rw [hc]
  have e1 : k * ch = i := by exact_mod_cast hi
  have e2 : m = i + ch := by
    have : ((k : Int) + 1) * (ch : Int) = (k : Int) * ch + ch := by rw [Int.add_mul, Int.one_mul]
    omega
  unfold filP cutP
  rw [List.take_length, e1]
  by_cases h : m ≤ b.length
  · congr 1; omega
  · rw [List.take_of_length_le (by simp; omega), List.take_of_length_le (by simp; omega)]
end Go.Proofs.YtmppagiaonbggaaDoor
