/- The walk over the law EntryFinds. -/
import Derived.Test.YtfppancidgamjaaDoorEf
import Derived.Test.YtfppancidgamjaaDoorTwl
import Derived.Test.YtfppancidgamjaaDoorTwf
namespace Go.Proofs.YtfppancidgamjaaDoor
set_option linter.unusedVariables false
set_option linter.unusedSimpArgs false
open Go.RowKit

/-- All below B is as it was. -/
def Kept (B : Nat) (w0 : World) : HP := fun w _ => ∀ k, k < B → w.heap[k]? = w0.heap[k]?
instance Loc.kept {B : Nat} {w0 : World} : Loc B (Kept B w0) := ⟨fun _ _ _ _ h2 h k hk => (h2 k hk).trans (h k hk), fun _ _ _ _ h => h⟩
theorem Own.kept {B : Nat} {R : HP} {w0 w : World} (h : Own B R w) (hb : Below B w0 w) (hB : B ≤ w0.heap.size) : Own B (Kept B w0 * R) w := by
  obtain ⟨F, hf, hr⟩ := h
  exact ⟨F, hf, fun _ => False, F, fun _ h => h.elim, fun _ h => h.elim, fun _ h => h, fun k hk => hb.block k hk, hr⟩
theorem Own.kept_out {B : Nat} {R : HP} {w0 w : World} (h : Own B (Kept B w0 * R) w) : ∀ k, k < B → w.heap[k]? = w0.heap[k]? := let ⟨_, _, _, _, _, _, _, hp, _⟩ := h; hp
theorem RdA.kept {α : Type} {k : Nat} {cs : α → List Value} {w w' : World} {A : Option Addr} {l : List α} (h : RdA k cs w A l) (hk : ∀ j, j < w.heap.size → w'.heap[j]? = w.heap[j]?) (hs : w.heap.size ≤ w'.heap.size) : RdA k cs w' A l := fun i hi => by
  obtain ⟨b, off, ha, hlt, hc⟩ := h i hi
  refine ⟨b, off, ha, by omega, fun j u hu => ?_⟩
  rw [World.cell?_of_block (w := w) (w' := w') (a := ⟨b, off + i * k + j, none⟩) (hk b hlt)]
  exact hc j u hu

theorem Own.bk_ne {B : Nat} {R : HP} {w : World} {a b : Nat} {t u : TypeId} {cs ds : Array Value} (h : Own B (Bk a t cs * (Bk b u ds * R)) w) : a ≠ b := by
  obtain ⟨F, _, F1, F2, hd, h1, h2, ⟨ha, _⟩, F3, F4, _, h3, _, ⟨hb, _⟩, _⟩ := h
  intro e
  subst e
  exact hd a ha (h3 a hb)
theorem paths_distinct {l : List En} (h : fineB l = true) {i j : Nat} (hi : i < l.length) (hj : j < i) : l[j].path ≠ l[i].path := by
  have h1 := (sortedB_iff _).1 (whyE_zero (fineB_true h).1).1
  have h2 := (sorted_pairwise.1 h1).1
  have h3 := List.pairwise_iff_getElem.1 h2 j i (by simp; omega) (by simpa using hi) hj
  simp only [List.getElem_map] at h3
  intro e
  rw [e, (cmpL_cmp.zero _ _).2 rfl] at h3
  omega
theorem find_take {l : List En} (h : fineB l = true) {i : Nat} (hi : i < l.length) : findE (l.take i) l[i].path = none := by
  unfold findE
  rw [List.find?_eq_none]
  intro x hx
  obtain ⟨j, hj, rfl⟩ := List.mem_iff_getElem.1 hx
  rw [List.length_take] at hj
  rw [List.getElem_take]
  simpa using paths_distinct h hi (show j < i by omega)
theorem find_self {l : List En} (h : fineB l = true) {i : Nat} (hi : i < l.length) : findE l l[i].path = some l[i] := by
  have e : l = l.take i ++ l[i] :: l.drop (i + 1) := by
    conv => lhs; rw [← List.take_append_drop i l, List.drop_eq_getElem_cons hi]
  have h1 := find_take h hi
  unfold findE at h1 ⊢
  conv => lhs; arg 2; rw [e]
  rw [List.find?_append, h1]
  rw [Option.none_or, List.find?_cons_of_pos (by simp)]

def zeroC : Array Value := #[.string ByteArray.empty, .int .i64 0, .int .i64 0, .int .i64 0, .string ByteArray.empty, .int .i64 0, .int .i64 0]

set_option maxRecDepth 100000 in
set_option maxHeartbeats 6400000 in
theorem finds_walk (A : Option Addr) (c : Nat) (l : List En) (hl : l.length ≤ c) (hc : c ≤ 9223372036854775807) (hw : ∀ x ∈ l, x.ok) (w : World) (h : Sh w) (hr : RdA 7 enL w A l) :
    Calls Tryd.prog 5 #[.slice A l.length c] w fun e w' => e = .returned (.bool true) ∧ Below w.heap.size w w' := by
  have hb := Below.refl w.heap.size w
  have Hh := Lib.hid (fun w1 (b : Below w.heap.size w w1) => sh_below h b)
  have Aw := Lib.hid (fun w1 h1 => awakeE_any w1 h1)
  have Fe := Lib.hid (short_any A c l (by omega) hw w hr)
  have Hr := Lib.hid (fun w1 (b : Below w.heap.size w w1) => hr.below b)
  have Hk0 := Lib.hid hr
  by_cases hf : shortP l
  · rw [decide_eq_true hf] at Fe
    have f1 := hf.1
    have f2 : ∀ e ∈ l, e.path.length ≤ 4294967280 := fun e he => by have := (hf.2 e he).1; omega
    have n1 : (l.length : Int) ≤ 20 := by omega
    have n2 : (l.length : Int) ≤ (c : Int) := by omega
    have n3 : (c : Int) ≤ 9223372036854775807 := by omega
    have F := Lib.hid (fun w1 h1 hr => fine_any A c l (by omega) hw f2 w1 h1 hr)
    cases hff : fineB l with
    | false =>
      rw [hff] at F
      clear h hr hf f2 hff
      go_enter Tryd.func5, Tryd.ntmps5
      go_wp2_with fail
      refine (Fe.out).mono ?_
      rintro e wz ⟨rfl, rfl⟩
      go_wp2_with fail
      refine (F.out _ (Hh.out _ hb) (Hr.out _ hb)).mono ?_
      rintro e wz ⟨rfl, b⟩
      replace hb := hb.trans (b.mono hb.size)
      clear b
      go_wp2_with fail
      refine (Aw.out _ (Hh.out _ hb)).mono ?_
      rintro e wz ⟨rfl, b⟩
      replace hb := hb.trans (b.mono hb.size)
      clear b
      go_wp2
      go_ret
      exact ⟨rfl, hb⟩
    | true =>
      rw [hff] at F
      have Fi := Lib.hid (fun i (hi : i < l.length) (w1 : World) hr => find_any A c l (by omega) (str l[i].path) w1 hr)
      have Ft := Lib.hid (fun i (hi : i < l.length) (w1 : World) hr => find_any A c (l.take i) (by rw [List.length_take]; omega) (str l[i].path) w1 hr)
      have Hs := Lib.hid (fun i hi => find_self hff (i := i) hi)
      have Ht := Lib.hid (fun i hi => find_take hff (i := i) hi)
      have hg := guardEn
      clear h hr hf f2 hff
      go_enter Tryd.func5, Tryd.ntmps5
      go_wp2_with fail
      refine (Fe.out).mono ?_
      rintro e wz ⟨rfl, rfl⟩
      go_wp2_with fail
      refine (F.out _ (Hh.out _ hb) (Hr.out _ hb)).mono ?_
      rintro e wz ⟨rfl, b⟩
      replace hb := hb.trans (b.mono hb.size)
      clear b
      go_wp2
      go_loopg [20] l.length (fun k v wr => ∃ i : Nat, k + i = l.length ∧ v = .int .i64 i ∧ Below w.heap.size w wr)
      case atStart => exact ⟨0, by omega, rfl, hb⟩
      case round =>
        clear hb
        obtain ⟨i, hk, rfl, hb⟩ := hrel
        by_cases hlt : (i : Int) < (l.length : Int)
        · obtain ⟨j, rfl⟩ : ∃ j, gk = j + 1 := ⟨gk - 1, by omega⟩
          have hil : i < l.length := by omega
          have i0' : (0 : Int) ≤ (i : Int) := by omega
          have ic : (i : Int) ≤ (c : Int) := by omega
          have icn : i ≤ c := by omega
          have Hk := Lib.hid hk
          clear hk
          obtain ⟨b, off, rfl, q, d⟩ := Hr.out _ hb i hil
          have F1 := Lib.hid (Fi.out i hil)
          have F2 := Lib.hid (Ft.out i hil)
          have hs := Hs.out i hil
          have ht := Ht.out i hil
          have hlen : (l.take i).length = i := by rw [List.length_take]; omega
          rw [hlen] at F2
          simp only [data_str] at F1 F2
          rw [hs] at F1
          rw [ht] at F2
          have hneq := fun W => neqEn l[i] l[i] W
          rw [decide_eq_true rfl] at hneq
          clear hs ht hlen
          generalize l[i] = x at *
          obtain ⟨path, kind, mode, time, tgt, beg, size⟩ := x
          obtain ⟨d0, d1, d2, d3, d4, d5, d6⟩ := RdA.cells7 d
          simp only [enL] at d0 d1 d2 d3 d4 d5 d6 hneq
          simp only at F1 F2
          clear d
          have o1 := (Own.start w.heap.size wr).new hb.size 30 #[.string (str path), .int .i64 kind, .int .i64 mode, .int .i64 time, .string (str tgt), .int .i64 beg, .int .i64 size]
          have hb1 := hb.alloc hb.size (.cells #[.string (str path), .int .i64 kind, .int .i64 mode, .int .i64 time, .string (str tgt), .int .i64 beg, .int .i64 size] 30)
          go_wp2_with fail
          refine (F1.out _ (Hr.out _ hb1)).mono ?_
          rintro e w2 ⟨rfl, b2⟩
          have o2 := o1.grown hb1.size b2
          have hb2 := hb1.trans (b2.mono hb1.size)
          simp only [Option.getD_some, Option.isSome_some, enL]
          have o3 := o2.new hb2.size 30 #[.string (str path), .int .i64 kind, .int .i64 mode, .int .i64 time, .string (str tgt), .int .i64 beg, .int .i64 size]
          have hb3 := hb2.alloc hb2.size (.cells #[.string (str path), .int .i64 kind, .int .i64 mode, .int .i64 time, .string (str tgt), .int .i64 beg, .int .i64 size] 30)
          clear d0 d1 d2 d3 d4 d5 d6 o1 o2 hb1 hb2 b2 hb
          go_wp2
          generalize w2.alloc (.cells #[.string (str path), .int .i64 kind, .int .i64 mode, .int .i64 time, .string (str tgt), .int .i64 beg, .int .i64 size] 30) = W3 at *
          generalize w2.heap.size = g5 at *
          generalize wr.heap.size = g4 at *
          have o4 := (o3.emp).kept hb3 (Nat.le_refl _)
          clear o3
          refine wp_region_twof (B := w.heap.size) [0, 1, 2, 3] [8] [4, 5, 6, 8, 7] [9] [10, 11] (Kept w.heap.size w * Bk g4 30 #[.string (str path), .int .i64 kind, .int .i64 mode, .int .i64 time, .string (str tgt), .int .i64 beg, .int .i64 size]) Emp _ mixed (by kernel_rfl) rfl (fun _ _ _ _ _ h => h) hb3.size ((o4.cast (show _ = (Kept w.heap.size w * Bk g4 _ _) * (Emp * (Bk g5 _ _ * Emp)) by ac_rfl)).drew hb3.size) ?_
          simp only [List.filterMap_cons, List.filterMap_nil, List.getElem?_toArray, List.getElem?_cons_succ, List.getElem?_cons_zero]
          repeat (
            refine free_val ?_ rfl (fun w1 => ?_) ?_
            rotate_left
            · (go_simp
               try go_bits
               rfl)
            simp only [Act.put, List.setIfInBounds_toArray, List.set_cons_zero, List.set_cons_succ])
          refine free_nil ?_
          refine ⟨fun vs F => vs = [.string (str path), .tuple #[.agg (enL default).toArray, .bool false], .tuple #[.agg (enL default).toArray, .bool false], .bool false, .agg (enL default).toArray] ∧ F = (Kept w.heap.size w * Bk g4 30 #[.string (str path), .int .i64 kind, .int .i64 mode, .int .i64 time, .string (str tgt), .int .i64 beg, .int .i64 size]), fun vs F => ∃ g, vs = [.pointer (some ⟨g, 0, none⟩)] ∧ F = Bk g 30 zeroC, ?_, ?_, ?_⟩
          · refine twf_val rfl (by decide) ?_ rfl (fun R1 _ w1 hS => ?_) ?_
            rotate_left
            · have c0 : w1.cell? ⟨g4, 0, none⟩ = some (.string (str path)) := (hS.cast (show _ = Bk g4 _ _ * (Kept w.heap.size w * R1) by ac_rfl)).cell 0
              go_simp
              rfl
            simp only [Act.put, List.setIfInBounds_toArray, List.set_cons_zero, List.set_cons_succ]
            refine twf_call rfl (by decide) 20 #[.slice (some ⟨b, off, none⟩) i c, .string (str path)] (fun v F => v = .tuple #[.agg (enL default).toArray, .bool false] ∧ F = (Kept w.heap.size w * Bk g4 30 #[.string (str path), .int .i64 kind, .int .i64 mode, .int .i64 time, .string (str tgt), .int .i64 beg, .int .i64 size])) rfl (fun R1 _ w1 hS => by go_simp) (fun R1 _ w1 hB1 hS => (F2.out w1 ((Hk0.out.take i).kept hS.assoc.kept_out hB1)).mono ?_) ?_
            · rintro e w2 ⟨rfl, b2⟩
              exact ⟨_, _, rfl, ⟨inferInstance, rfl, rfl⟩, hS.grown hB1 b2, b2.mono hB1⟩
            rintro v F _ ⟨rfl, rfl⟩
            simp only [Act.put, List.setIfInBounds_toArray, List.set_cons_zero, List.set_cons_succ]
            refine twf_val rfl (by decide) ?_ rfl (fun R1 _ w1 hS => ?_) ?_
            rotate_left
            · go_simp
              rfl
            simp only [Act.put, List.setIfInBounds_toArray, List.set_cons_zero, List.set_cons_succ]
            refine twf_free rfl (by decide) ?_ rfl (fun w1 => ?_) ?_
            rotate_left
            · go_simp
              rfl
            simp only [Act.put, List.setIfInBounds_toArray, List.set_cons_zero, List.set_cons_succ]
            refine twf_val rfl (by decide) ?_ rfl (fun R1 _ w1 hS => ?_) ?_
            rotate_left
            · go_simp
              rfl
            simp only [Act.put, List.setIfInBounds_toArray, List.set_cons_zero, List.set_cons_succ]
            exact twf_nil ⟨rfl, rfl⟩
          · simp only [opsOf, List.filterMap_cons, List.filterMap_nil, List.getElem?_toArray, List.getElem?_cons_succ, List.getElem?_cons_zero]
            refine tw_run (fun v F => ∃ g, v = .pointer (some ⟨g, 0, none⟩) ∧ F = Bk g 30 zeroC) rfl (fun R1 _ w1 hB1 hS => ⟨.pointer (some ⟨w1.heap.size, 0, none⟩), _, w1.alloc (.cells zeroC 30), by unfold zeroC; go_simp; rfl, ⟨inferInstance, _, rfl, rfl⟩, (hS.drop).new hB1 30 zeroC, (Below.refl w.heap.size w1).alloc hB1 _⟩) ?_
            rintro v F _ ⟨g, rfl, rfl⟩
            simp only [Act.put, List.setIfInBounds_toArray, List.set_cons_zero, List.set_cons_succ]
            exact tw_nil ⟨g, rfl, rfl⟩
          · rintro vs1 A1' vs2 A2' w4 ⟨rfl, rfl⟩ ⟨g, rfl, rfl⟩ o5 b5
            simp only [opsOf, putAll, Act.put, List.filterMap_cons, List.filterMap_nil, List.getElem?_toArray, List.getElem?_cons_succ, List.getElem?_cons_zero, List.setIfInBounds_toArray, List.set_cons_zero, List.set_cons_succ]
            have e0 : (enL default).toArray = zeroC := rfl
            rw [e0]
            refine wpAny_mix (· = w4) [] [10, 11] (by kernel_rfl) rfl rfl ?_
            simp only [List.filterMap_cons, List.filterMap_nil, List.getElem?_toArray, List.getElem?_cons_succ, List.getElem?_cons_zero]
            refine held_nil ?_
            rintro w5 rfl
            have hb4 := hb3.trans b5
            have n1 : g ≠ g5 := (o5.cast (show _ = Bk g _ _ * (Bk g5 _ _ * (Kept w.heap.size w * (Bk g4 _ _ * Emp))) by ac_rfl)).bk_ne
            have n2 : g ≠ g4 := (o5.cast (show _ = Bk g _ _ * (Bk g4 _ _ * (Kept w.heap.size w * (Bk g5 _ _ * Emp))) by ac_rfl)).bk_ne
            have n1' := Ne.symm n1
            have n2' := Ne.symm n2
            have k1 := o5.cast (show _ = Bk g5 _ _ * (Kept w.heap.size w * (Bk g4 _ _ * (Bk g _ zeroC * Emp))) by ac_rfl)
            have k2 := o5.cast (show _ = Bk g4 _ _ * (Kept w.heap.size w * (Bk g5 _ _ * (Bk g _ zeroC * Emp))) by ac_rfl)
            have k3 := o5.cast (show _ = Bk g _ zeroC * (Kept w.heap.size w * (Bk g5 _ _ * (Bk g4 _ _ * Emp))) by ac_rfl)
            have f0 := k3.unfrozen 0
            have f1 := k3.unfrozen 1
            have f2 := k3.unfrozen 2
            have f3 := k3.unfrozen 3
            have f4 := k3.unfrozen 4
            have f5 := k3.unfrozen 5
            have f6 := k3.unfrozen 6
            have z0 : w5.cell? ⟨g, 0, none⟩ = some (.string ByteArray.empty) := k3.cell 0
            have z1 : w5.cell? ⟨g, 1, none⟩ = some (.int .i64 0) := k3.cell 1
            have z2 : w5.cell? ⟨g, 2, none⟩ = some (.int .i64 0) := k3.cell 2
            have z3 : w5.cell? ⟨g, 3, none⟩ = some (.int .i64 0) := k3.cell 3
            have z4 : w5.cell? ⟨g, 4, none⟩ = some (.string ByteArray.empty) := k3.cell 4
            have z5 : w5.cell? ⟨g, 5, none⟩ = some (.int .i64 0) := k3.cell 5
            have z6 : w5.cell? ⟨g, 6, none⟩ = some (.int .i64 0) := k3.cell 6
            have x0 : w5.cell? ⟨g5, 0, none⟩ = some (.string (str path)) := k1.cell 0
            have x1 : w5.cell? ⟨g5, 1, none⟩ = some (.int .i64 kind) := k1.cell 1
            have x2 : w5.cell? ⟨g5, 2, none⟩ = some (.int .i64 mode) := k1.cell 2
            have x3 : w5.cell? ⟨g5, 3, none⟩ = some (.int .i64 time) := k1.cell 3
            have x4 : w5.cell? ⟨g5, 4, none⟩ = some (.string (str tgt)) := k1.cell 4
            have x5 : w5.cell? ⟨g5, 5, none⟩ = some (.int .i64 beg) := k1.cell 5
            have x6 : w5.cell? ⟨g5, 6, none⟩ = some (.int .i64 size) := k1.cell 6
            have y0 : w5.cell? ⟨g4, 0, none⟩ = some (.string (str path)) := k2.cell 0
            have y1 : w5.cell? ⟨g4, 1, none⟩ = some (.int .i64 kind) := k2.cell 1
            have y2 : w5.cell? ⟨g4, 2, none⟩ = some (.int .i64 mode) := k2.cell 2
            have y3 : w5.cell? ⟨g4, 3, none⟩ = some (.int .i64 time) := k2.cell 3
            have y4 : w5.cell? ⟨g4, 4, none⟩ = some (.string (str tgt)) := k2.cell 4
            have y5 : w5.cell? ⟨g4, 5, none⟩ = some (.int .i64 beg) := k2.cell 5
            have y6 : w5.cell? ⟨g4, 6, none⟩ = some (.int .i64 size) := k2.cell 6
            have s6 := (k3.set7 hb4.size (.string ByteArray.empty) (.int .i64 0) (.int .i64 0) (.int .i64 0) (.string ByteArray.empty) (.int .i64 0) (.int .i64 0)).2
            have hb5 := hb4.trans s6
            clear s6 k1 k2 k3 o5 o4 hb4 b5 hb3 n1 n2 e0
            unfold zeroC
            go_wp2
            go_roundg j
            case measure => omega
            case rel => exact ⟨i + 1, by have := Hk.out; omega, rfl, hb5⟩
        · clear hk
          go_wp2_with fail
          refine (Aw.out _ (Hh.out _ hb)).mono ?_
          rintro e wz ⟨rfl, b⟩
          replace hb := hb.trans (b.mono hb.size)
          clear b
          go_wp2
          go_ret
          exact ⟨rfl, hb⟩
  · rw [decide_eq_false hf] at Fe
    clear h hr hf
    go_enter Tryd.func5, Tryd.ntmps5
    go_wp2_with fail
    refine (Fe.out).mono ?_
    rintro e wz ⟨rfl, rfl⟩
    go_wp2_with fail
    refine (Aw.out _ (Hh.out _ hb)).mono ?_
    rintro e wz ⟨rfl, b⟩
    replace hb := hb.trans (b.mono hb.size)
    clear b
    go_wp2
    go_ret
    exact ⟨rfl, hb⟩
end Go.Proofs.YtfppancidgamjaaDoor
