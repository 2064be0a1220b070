/- The walks over the laws EntryFirsts, EntryOf and EntryWithins. -/
import Derived.Test.YtfppancidgamjaaDoorEd
namespace Go.Proofs.YtfppancidgamjaaDoor
set_option linter.unusedVariables false
set_option linter.unusedSimpArgs false
open Go.RowKit

theorem RdA.take {α : Type} {k : Nat} {cs : α → List Value} {w : World} {A : Option Addr} {l : List α} (h : RdA k cs w A l) (n : Nat) : RdA k cs w A (l.take n) := by
  intro i hi
  have h1 : i < l.length := by rw [List.length_take] at hi; omega
  obtain ⟨b, off, ha, hlt, hc⟩ := h i h1
  exact ⟨b, off, ha, hlt, fun j u hu => hc j u (by rw [List.getElem_take] at hu; exact hu)⟩
theorem RdF.take {w : World} {A : Option Addr} {l : List (Fi × Value)} (h : RdF w A l) (n : Nat) : RdF w A (l.take n) := ⟨h.1.take n, fun x hx => h.2 x (List.mem_of_mem_take hx)⟩
theorem entsFrom_take : ∀ (l : List Fi) (a : Int) (n : Nat), entsFrom a (l.take n) = (entsFrom a l).take n
  | [], _, _ => by simp [entsFrom]
  | f :: l, a, 0 => by simp [entsFrom]
  | f :: l, a, n + 1 => by
    simp only [List.take_succ_cons, entsFrom]
    rw [entsFrom_take l]
theorem ents_take (l : List Fi) (n : Nat) : ents (l.take n) = (ents l).take n := entsFrom_take l 0 n
theorem begB_ents : ∀ (l : List Fi) (a : Int), begB a (entsFrom a l) = true
  | [], _ => rfl
  | f :: l, a => by
    unfold entsFrom begB
    rw [Bool.and_eq_true]
    exact ⟨by simp, begB_ents l _⟩
theorem whyE_of {l : List En} (h1 : sortedB (l.map (·.path)) = true) (h2 : l.length ≤ 1024) (h3 : sumC l ≤ 4194304) (h4 : ∀ e ∈ l, plainP e) : whyE l = 0 := by
  have ha : (l.map (·.path)).all okPath = true := by unfold sortedB at h1; exact (Bool.and_eq_true _ _ ▸ h1).1
  have hs : l.all (fun e => decide (e.size ≤ 1048576)) = true := by
    rw [List.all_eq_true]; intro e he; obtain ⟨_, _, _, _, _, h6, _⟩ := h4 e he; exact decide_eq_true h6
  have hp : l.all plainB = true := by rw [List.all_eq_true]; intro e he; exact decide_eq_true (h4 e he)
  rw [whyE_eq, ha, h1, hs, hp, if_neg (by simp), if_neg (by simp), if_neg (by simp; omega), if_neg (by simp)]
theorem sumM_take (l : List En) (n : Nat) : sumM (l.take n) ≤ sumM l := by
  have : sumM l = sumM (l.take n) + sumM (l.drop n) := by
    conv => lhs; rw [← List.take_append_drop n l]
    unfold sumM
    rw [List.map_append, List.sum_append]
  have := sumM_nonneg (l.drop n)
  omega
theorem whyE_take {l : List En} (h : whyE l = 0) (n : Nat) : whyE (l.take n) = 0 := by
  obtain ⟨h1, h2, h3, h4⟩ := whyE_zero h
  refine whyE_of ?_ (by rw [List.length_take]; omega) ?_ (fun e he => h4 e (List.mem_of_mem_take he))
  · rw [sortedB_iff] at h1 ⊢
    exact sorted_sub h1 ((List.take_sublist n l).map _)
  · rw [sumC_min] at h3 ⊢
    have := sumM_take l n
    omega
theorem fineB_ents {l : List Fi} (h : whyE (ents l) = 0) : fineB (ents l) = true := by
  unfold fineB ents
  unfold ents at h
  rw [h, begB_ents]; rfl

set_option maxRecDepth 100000 in
set_option maxHeartbeats 3200000 in
theorem firsts_walk (A : Option Addr) (c : Nat) (l : List (Fi × Value)) (hl : l.length ≤ c) (hc : c ≤ 9223372036854775807) (hw : ∀ x ∈ l, x.1.wide) (n : Int) (hn : okI n) (w : World) (h : Sh w) (hr : RdF w A l) :
    Calls Tryd.prog 3 #[.slice A l.length c, .int .i64 n] w fun e w' => e = .returned (.bool true) ∧ Below w.heap.size w w' := by
  have hb := Below.refl w.heap.size w
  have Hh := Lib.hid (fun w1 (b : Below w.heap.size w w1) => sh_below h b)
  have Aw := Lib.hid (fun w1 h1 => awakeE_any w1 h1)
  have Fe := Lib.hid (few_any A c l (by omega) hw w hr)
  have Hr := Lib.hid (fun w1 (b : Below w.heap.size w w1) => hr.below b)
  obtain ⟨z0, z1⟩ := hn
  by_cases hf : fewP (l.map (·.1))
  · rw [decide_eq_true hf] at Fe
    obtain ⟨f1, f2, f3⟩ := few_ok hw hf
    by_cases hn0 : n < 0
    · clear h hr hf f1 f2 f3
      go_enter Tryd.func3, Tryd.ntmps3
      go_wp2_with fail
      refine (Fe.out).mono ?_
      rintro e wz ⟨rfl, rfl⟩
      go_wp2_with fail
      refine (Aw.out _ (Hh.out _ hb)).mono ?_
      rintro e wz ⟨rfl, b⟩
      replace hb := hb.trans (b.mono hb.size)
      clear b
      go_wp2
      go_ret
      exact ⟨rfl, hb⟩
    obtain ⟨m, rfl⟩ : ∃ m : Nat, n = m := ⟨n.toNat, by omega⟩
    have n1 : (l.length : Int) ≤ 12 := by omega
    have n2 : (l.length : Int) ≤ (c : Int) := by omega
    have n3 : (c : Int) ≤ 9223372036854775807 := by omega
    by_cases hlt : (l.length : Int) < (m : Int)
    · have hltn : l.length < m := by omega
      clear h hr hf f1 f2 f3
      go_enter Tryd.func3, Tryd.ntmps3
      go_wp2_with fail
      refine (Fe.out).mono ?_
      rintro e wz ⟨rfl, rfl⟩
      go_wp2_with fail
      refine (Aw.out _ (Hh.out _ hb)).mono ?_
      rintro e wz ⟨rfl, b⟩
      replace hb := hb.trans (b.mono hb.size)
      clear b
      go_wp2
      go_ret
      exact ⟨rfl, hb⟩
    have hltn : ¬ l.length < m := by omega
    have hm0 : (0 : Int) ≤ (m : Int) := by omega
    have hmd : decide ((m : Int) < 0) = false := decide_eq_false (by omega)
    have hmc : (m : Int) ≤ (c : Int) := by omega
    have hmcn : m ≤ c := by omega
    have hml : (l.take m).length = m := by rw [List.length_take]; omega
    have e1 : (l.take m).map (·.1) = (l.map (·.1)).take m := by rw [List.map_take]
    have hd1 : dataLen ((l.map (·.1)).take m) ≤ 4294967296 := by have := dataLen_take (l.map (·.1)) m; omega
    have O1 := Lib.hid (fun w1 h1 hr => of_any A c l (by omega) (by omega) f3 w1 h1 hr)
    have O2 := Lib.hid (fun w1 h1 hr => of_any A c (l.take m) (by omega) (by rw [e1]; exact hd1) (fun x hx => f3 x (List.mem_of_mem_take hx)) w1 h1 hr)
    rw [hml, e1] at O2
    have hek := ents_ok (l := l.map (·.1)) (by intro f hf; obtain ⟨x, hx, rfl⟩ := List.mem_map.1 hf; exact f3 x hx) (by omega)
    have hel : (ents (l.map (·.1))).length = l.length := by unfold ents; rw [entsFrom_length]; simp
    have hne : (fun W => neqEn default default W) = (fun W => neqEn default default W) := rfl
    have e2 := ents_take (l.map (·.1)) m
    clear hne
    by_cases hz : whyE (ents (l.map (·.1))) = 0
    · have hz2 : whyE (ents ((l.map (·.1)).take m)) = 0 := by rw [e2]; exact whyE_take hz m
      have ho1 : ofE (l.map (·.1)) = ents (l.map (·.1)) := by unfold ofE; rw [if_pos hz]
      have ho2 : ofE ((l.map (·.1)).take m) = (ents (l.map (·.1))).take m := by unfold ofE; rw [if_pos hz2, e2]
      have hfn : fineB ((ents (l.map (·.1))).take m) = true := by rw [← e2]; exact fineB_ents hz2
      rw [hz, ho1] at O1
      rw [hz2, ho2] at O2
      have hlen2 : ((ents (l.map (·.1))).take m).length = m := by rw [List.length_take]; omega
      have F := Lib.hid (fun A c w1 h1 hr => fine_any A c ((ents (l.map (·.1))).take m) (by omega) (fun e he => (hek e (List.mem_of_mem_take he)).1) (fun e he => (hek e (List.mem_of_mem_take he)).2) w1 h1 hr)
      rw [hfn, hlen2] at F
      have hg := guardEn
      clear h hr hf f1 f2 f3 e1 hd1 hek e2 hz hz2 ho1 ho2 hfn
      generalize ents (l.map (·.1)) = es at *
      have Hlen2 := Lib.hid hlen2
      have Hel := Lib.hid hel
      clear hlen2 hel hml
      go_enter Tryd.func3, Tryd.ntmps3
      go_wp2_with fail
      refine (Fe.out).mono ?_
      rintro e wz ⟨rfl, rfl⟩
      go_wp2_with fail
      refine (O1.out _ (Hh.out _ hb) (Hr.out _ hb)).mono ?_
      rintro e w1 ⟨A1, c1, rfl, k1, r1, b1⟩
      have R1 := Lib.hid r1
      replace hb := hb.trans (b1.mono hb.size)
      clear r1 b1
      rw [Hel.out] at k1
      have q1 : (l.length : Int) ≤ (c1 : Int) := by have := k1.1; omega
      have q2 : (c1 : Int) ≤ 9223372036854775807 := by have := k1.2; omega
      have q3 : (m : Int) ≤ (c1 : Int) := by omega
      have q4 : m ≤ c1 := by omega
      rw [Hel.out]
      clear k1
      go_wp2_with fail
      refine (O2.out _ (Hh.out _ hb) ((Hr.out _ hb).take m)).mono ?_
      rintro e wz ⟨A2, c2, rfl, k2, r2, b2⟩
      have R2 := Lib.hid (And.intro (R1.out.below b2) r2)
      replace hb := hb.trans (b2.mono hb.size)
      rw [Hlen2.out]
      clear r2 b2 k2
      go_wp2
      go_loopg [41] m (fun k v wr => ∃ i : Nat, k + i = m ∧ v = .int .i64 i ∧ Below w.heap.size w wr ∧ Below wz.heap.size wz wr)
      case atStart => exact ⟨0, by omega, rfl, hb, Below.refl _ _⟩
      case round =>
        clear hb
        obtain ⟨i, hk, rfl, hb, hbz⟩ := hrel
        by_cases hlt : (i : Int) < (m : Int)
        · obtain ⟨j, rfl⟩ : ∃ j, gk = j + 1 := ⟨gk - 1, by omega⟩
          have hil : i < es.length := by have := Hel.out; omega
          have hil2 : i < (es.take m).length := by have := Hlen2.out; omega
          have i0' : (0 : Int) ≤ (i : Int) := by omega
          have i1' : (i : Int) < (l.length : Int) := by omega
          have Hk := Lib.hid hk
          clear hk
          obtain ⟨p1, o1, rfl, q1, d⟩ := R2.out.1.below hbz i hil
          obtain ⟨p2, o2, rfl, q2, d'⟩ := R2.out.2.below hbz i hil2
          have hge : (es.take m)[i] = es[i] := by rw [List.getElem_take]
          rw [hge] at d'
          clear hge
          generalize es[i] = x at *
          have hneq := fun W => neqEn x x W
          rw [decide_eq_true rfl] at hneq
          obtain ⟨path, kind, mode, time, tgt, beg, size⟩ := x
          obtain ⟨d0, d1, d2, d3, d4, d5, d6⟩ := RdA.cells7 d
          obtain ⟨e0, e1, e2, e3, e4, e5, e6⟩ := RdA.cells7 d'
          simp only [enL] at d0 d1 d2 d3 d4 d5 d6 e0 e1 e2 e3 e4 e5 e6 hneq
          clear d d'
          go_wp2
          go_quiet (fail)
          go_wp2
          go_roundg j
          case measure => omega
          case rel => exact ⟨i + 1, by have := Hk.out; omega, rfl, below_drewN hb _, below_drewN hbz _⟩
        · have hmm : ((m : Int) == (m : Int)) = true := by simp
          have R3 := Lib.hid ((R2.out.1.below hbz).take m)
          clear hk
          go_wp2_with fail
          refine (F.out _ _ _ (Hh.out _ hb) R3.out).mono ?_
          rintro e wz ⟨rfl, b⟩
          replace hb := hb.trans (b.mono hb.size)
          clear b
          go_wp2_with fail
          refine (Aw.out _ (Hh.out _ hb)).mono ?_
          rintro e wz ⟨rfl, b⟩
          replace hb := hb.trans (b.mono hb.size)
          clear b
          go_wp2
          go_ret
          exact ⟨rfl, hb⟩
    · have ho1 : ofE (l.map (·.1)) = [] := by unfold ofE; rw [if_neg hz]
      rw [ho1] at O1
      have Hz := Lib.hid hz
      clear h hr hf f1 f2 f3 e1 hd1 hek hel hz ho1 hml
      generalize whyE (ents (l.map (·.1))) = z at *
      have hz1 := Hz.out
      have hz2 : (z == 0) = false := by simpa using hz1
      rw [e2] at O2
      clear e2
      generalize whyE ((ents (l.map (·.1))).take m) = z' at *
      generalize ofE ((l.map (·.1)).take m) = o2 at *
      go_enter Tryd.func3, Tryd.ntmps3
      go_wp2_with fail
      refine (Fe.out).mono ?_
      rintro e wz ⟨rfl, rfl⟩
      go_wp2_with fail
      refine (O1.out _ (Hh.out _ hb) (Hr.out _ hb)).mono ?_
      rintro e w1 ⟨A1, c1, rfl, k1, r1, b1⟩
      replace hb := hb.trans (b1.mono hb.size)
      clear r1 b1 k1
      go_wp2_with fail
      refine (O2.out _ (Hh.out _ hb) ((Hr.out _ hb).take m)).mono ?_
      rintro e wz ⟨A2, c2, rfl, k2, r2, b2⟩
      replace hb := hb.trans (b2.mono hb.size)
      clear r2 b2 k2
      go_wp2_with fail
      refine (Aw.out _ (Hh.out _ hb)).mono ?_
      rintro e wz ⟨rfl, b⟩
      replace hb := hb.trans (b.mono hb.size)
      clear b
      go_wp2
      go_ret
      exact ⟨rfl, hb⟩
  · rw [decide_eq_false hf] at Fe
    clear h hr hf
    go_enter Tryd.func3, Tryd.ntmps3
    go_wp2_with fail
    refine (Fe.out).mono ?_
    rintro e wz ⟨rfl, rfl⟩
    go_wp2_with fail
    refine (Aw.out _ (Hh.out _ hb)).mono ?_
    rintro e wz ⟨rfl, b⟩
    replace hb := hb.trans (b.mono hb.size)
    clear b
    go_wp2
    go_ret
    exact ⟨rfl, hb⟩
end Go.Proofs.YtfppancidgamjaaDoor
