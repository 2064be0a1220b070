/- Texts of one proof, merged: XQ5 XQ6 XQ7 XQ9 XQa XQb XQd XQe XQt XQu XE1 XG6 XO2 XO3. -/
import Derived.Test.YtmppagiaonbggaaDoorWc
import Derived.Laws.OwnMore
import Derived.Maps.AppendAt
import Derived.Deep.AppendLies
import Derived.Laws.Cover1
import GoSem.Op.String
import Derived.Deep.QuietTactic
import Derived.WalkSmall
import Derived.Deep.LoopGhost
/- The walk over the reference's Split. -/
namespace Go.Proofs.YtmppagiaonbggaaDoor
set_option linter.unusedVariables false
set_option linter.unusedSimpArgs false
set_option maxRecDepth 100000
open Go.RowKit

theorem psplit_snoc_slash : ∀ l : List UInt8, psplit (l ++ [47]) = psplit l ++ [[]]
  | [] => rfl
  | c :: l => by
    have ih := psplit_snoc_slash l
    by_cases hc : c = 47
    · subst hc
      rw [List.cons_append, psplit_slash, psplit_slash, ih]
      rfl
    · obtain ⟨p, ps, hl⟩ : ∃ p ps, psplit l = p :: ps := by
        cases h : psplit l with
        | nil => exact absurd h (psplit_ne l)
        | cons p ps => exact ⟨p, ps, rfl⟩
      rw [hl] at ih
      rw [List.cons_append, psplit_other hc hl, psplit_other hc ih]
      rfl
theorem psplit_snoc : ∀ (l : List UInt8) (c : UInt8), c ≠ 47 → ∃ ini last, psplit l = ini ++ [last] ∧ psplit (l ++ [c]) = ini ++ [last ++ [c]]
  | [], c, hc => ⟨[], [], rfl, by rw [List.nil_append, psplit_other hc (show psplit [] = [] :: [] from rfl)]; rfl⟩
  | b :: l, c, hc => by
    obtain ⟨ini, last, h1, h2⟩ := psplit_snoc l c hc
    by_cases hb : b = 47
    · subst hb
      exact ⟨[] :: ini, last, by rw [psplit_slash, h1]; rfl, by rw [List.cons_append, psplit_slash, h2]; rfl⟩
    · cases ini with
      | nil => exact ⟨[], b :: last, by rw [psplit_other hb h1]; rfl, by rw [List.cons_append, psplit_other hb h2]; rfl⟩
      | cons p ps => exact ⟨(b :: p) :: ps, last, by rw [psplit_other hb h1]; rfl, by rw [List.cons_append, psplit_other hb h2]; rfl⟩

def strsV (l : List (List UInt8)) : List Value := l.map fun x => Value.string (str x)
theorem infoStr : (Tryd.prog.info? 9).map (fun i => (i.zero, i.size, i.bytes)) = some (some (.string ByteArray.empty), 1, 16) := by kernel_rfl
theorem strs_append {B : Nat} {R : HP} [Loc B R] {w : World} (hB : B ≤ w.heap.size) {v : Value} {l : List (List UInt8)} (h : Own B (Rw 9 1 v l.length (strsV l) * R) w) (x : List UInt8) (hl : l.length + 1 ≤ 4294967298) :
    ∃ g cap w', (Builtin.append_ #[83, 83] 83 #[v, .slice (some ⟨w.heap.size, 0, none⟩) 1 1]).run Tryd.prog (w.alloc (.cells #[.string (str x)] 9)) = .ok (.slice (some ⟨g, 0, none⟩) (l ++ [x]).length cap) w' ∧
      Own B (Rw 9 1 (.slice (some ⟨g, 0, none⟩) (l ++ [x]).length cap) (l ++ [x]).length (strsV (l ++ [x])) * R) w' ∧ Below B w w' := by
  obtain ⟨i0, hi, hz0, hz1, hz2⟩ := info_parts infoStr
  have h1 := h.alloc_keep hB (.cells #[.string (str x)] 9)
  have hB1 : B ≤ (w.alloc (.cells #[.string (str x)] 9)).heap.size := by simp; omega
  obtain ⟨v', w', hr, h2, h3, _, h5⟩ := run_append_own_at (P := Tryd.prog) (w.alloc (.cells #[.string (str x)] 9)) B 83 83 9 i0 _ 1 16 Tryd.underlying83 hi hz0 hz1 hz2 rfl (by omega) v l.length (strsV l) h1.row
    ⟨w.heap.size, 0, none⟩ 1 1 [.string (str x)] rfl (by
      intro j u hj
      match j, hj with
      | 0, hj => simp at hj; subst hj; simp [Addr.add]) (by intro u hu; simp at hu; subst hu; rfl) (by unfold maxLen; omega) (by omega) hB1
  have h6 := Own.appended hB1 h1 h2 h3 h5
  obtain ⟨g, cap, rfl, _⟩ := h2.form (by omega)
  have e : (l ++ [x]).length = l.length + 1 := by simp
  rw [e]
  refine ⟨g, cap, w', hr, ?_, ((Below.refl B w).alloc hB _).trans h6.2⟩
  have := h6.1
  simpa [strsV] using this

set_option maxHeartbeats 1600000 in
theorem refsplit_any (s : ByteArray) (hs : s.size ≤ 4294967296) (w : World) : Calls Tryd.prog 44 #[.string s] w fun e w' => ∃ A c, e = .returned (.slice A (psplit s.data.toList).length c) ∧ RdS w' A (psplit s.data.toList) ∧ Below w.heap.size w w' := by
  have hB : w.heap.size ≤ w.heap.size := Nat.le_refl _
  have hO := Own.start w.heap.size w
  generalize hH : w.heap.size = B at hB hO ⊢
  have hB : B ≤ w.heap.size := by omega
  clear hH
  have hsz : (s.size : Int) ≤ 4294967296 := by omega
  have o1 : Own B (Rw 9 1 (.slice (some ⟨w.heap.size, 0, none⟩) 1 1) 1 (strsV [[]]) * Emp) (w.alloc (.cells #[.string ByteArray.empty] 9)) := (hO.new hB 9 #[.string ByteArray.empty]).rw_of_bk rfl (by unfold maxLen; decide)
  have b1 := (Below.refl B w).alloc hB (.cells #[.string ByteArray.empty] 9)
  go_enter Tryd.func44, Tryd.ntmps44
  go_wp2
  go_loopg [3, 4] s.size (fun k v i wr => k ≤ s.size ∧ i = .int .i64 ((s.size : Int) - (k : Int)) ∧ ∃ (l : List (List UInt8)) (g cap : Nat), l = psplit (s.data.toList.take (s.size - k)) ∧ v = .slice (some ⟨g, 0, none⟩) l.length cap ∧ Own B (Rw 9 1 (.slice (some ⟨g, 0, none⟩) l.length cap) l.length (strsV l) * Emp) wr ∧ Below B w wr)
  case atStart => exact ⟨Nat.le_refl _, congrArg (Value.int .i64) (by omega), [[]], w.heap.size, 1, by rw [Nat.sub_self, List.take_zero]; rfl, rfl, o1, b1⟩
  case round =>
    obtain ⟨hk, rfl, l, g, cap, hl, rfl, ho, hbb⟩ := hrel
    have Bw : B ≤ wr.heap.size := Nat.le_trans hB hbb.size
    by_cases hk0 : gk ≠ 0
    · obtain ⟨j, rfl⟩ : ∃ j, gk = j + 1 := ⟨gk - 1, by omega⟩
      obtain ⟨i, hi⟩ : ∃ i : Nat, i + (j + 1) = s.size := ⟨s.size - (j + 1), by omega⟩
      have hil : i < s.size := by omega
      have e1 : (s.size : Int) - ((j + 1 : Nat) : Int) = (i : Int) := by omega
      have i0 : (0 : Int) ≤ (i : Int) := by omega
      have i1 : (i : Int) < (s.size : Int) := by omega
      rw [e1]
      clear e1
      have hll : l.length ≤ 4294967297 := by
        have := (psplit_len (s.data.toList.take (s.size - (j + 1)))).1
        rw [← hl] at this
        have h2 : (s.data.toList.take (s.size - (j + 1))).length ≤ s.data.toList.length := by rw [List.length_take]; omega
        have h3 : s.data.toList.length = s.size := rfl
        omega
      have htk : s.data.toList.take (s.size - j) = s.data.toList.take (s.size - (j + 1)) ++ [s[i]] := by
        rw [show s.size - j = i + 1 by omega, show s.size - (j + 1) = i by omega]
        rw [List.take_succ_eq_append_getElem (by exact hil)]
        rfl
      have Hll := Lib.hid hll
      have Hi := Lib.hid hi
      clear hll hi
      by_cases hc : s[i] = 47
      · have hc' : s[i].toNat = 47 := by rw [hc]; rfl
        have hl2 : psplit (s.data.toList.take (s.size - j)) = l ++ [[]] := by rw [htk, hc, psplit_snoc_slash, hl]
        have Hl2 := Lib.hid hl2
        obtain ⟨g2, cap2, w2, hrun, o2, b2⟩ := strs_append Bw ho [] (by have := Hll.out; omega)
        have Hrun := Lib.hid hrun
        clear hl hl2 htk hc hrun
        go_wp2_with (at_builtin; refine wpList_append_run rfl (.tmp 16) (.tmp 17) 83 rfl rfl rfl Hrun.out ?_)
        go_roundg j
        case measure => omega
        case rel => exact ⟨by omega, congrArg (Value.int .i64) (by have := Hi.out; omega), l ++ [[]], g2, cap2, Hl2.out.symm, by rw [List.length_append]; rfl, o2, hbb.trans b2⟩
      · obtain ⟨ini, last, p1, p2⟩ := psplit_snoc (s.data.toList.take (s.size - (j + 1))) s[i] hc
        rw [← hl] at p1
        rw [← htk] at p2
        obtain ⟨m, hm⟩ : ∃ m, ini.length = m := ⟨_, rfl⟩
        have hlm : l.length = m + 1 := by rw [p1, List.length_append, hm]; rfl
        have hc' : ¬ s[i].toNat = 47 := fun h => hc (UInt8.toNat_inj.1 h)
        have hcell : (strsV l)[m]? = some (.string (str last)) := by
          rw [p1]
          simp [strsV, ← hm]
        have hset : ∀ x : List UInt8, (strsV l).set m (.string (str x)) = strsV (ini ++ [x]) := fun x => by
          rw [p1]
          simp [strsV, List.set_append, ← hm]
        have hadd : str last ++ s.extract i (i + 1) = str (last ++ [s[i]]) := by
          have e0 : s.extract i (i + 1) = str [s[i]] := by
            refine Go.WideShapes.bytes_inj ?_
            rw [Lib.extract_data]
            have hil' : i < s.data.toList.length := hil
            rw [List.drop_eq_getElem_cons hil', show i + 1 - i = 1 by omega]
            rfl
          rw [e0]
          rfl
        have hz : (str last).size + (s.extract i (i + 1)).size ≤ 9223372036854775807 := by
          have h1 : last ∈ psplit (s.data.toList.take (s.size - (j + 1))) := by rw [← hl, p1]; simp
          have h2 := (psplit_len (s.data.toList.take (s.size - (j + 1)))).2 last h1
          rw [List.length_take] at h2
          have h3 : s.data.toList.length = s.size := rfl
          have h4 : (str last).size = last.length := rfl
          have h5 : (s.extract i (i + 1)).size ≤ i + 1 := by rw [ByteArray.size_extract]; omega
          omega
        have hraw := fun W => run_string_add_sum (P := Tryd.prog) (w := W) (str last) (s.extract i (i + 1)) hz
        rw [hadd] at hraw
        have Hm := Lib.hid hm
        have Hp2 := Lib.hid p2
        have Hset := Lib.hid hset
        have Hcell := Lib.hid hcell
        rw [hlm] at ho ⊢
        have Hlm := Lib.hid hlm
        have hmm : (m : Int) ≤ 4294967296 := by have := Hll.out; omega
        have m0 : (0 : Int) ≤ (m : Int) := by omega
        have m2 : (m : Int) < (m : Int) + 1 := by omega
        have i2 : (i : Int) + 1 ≤ (s.size : Int) := by omega
        have i3 : (0 : Int) ≤ (i : Int) + 1 := by omega
        have i4 : (i : Int) ≤ (i : Int) + 1 := by omega
        clear hl htk hc hm p1 p2 hset hcell hlm
        go_wp2
        refine wp_region_mix (St B _ wr) [0, 1, 2, 3, 4, 5, 6, 7, 8, 9, 10, 11, 12, 13, 14, 15, 16] [17] mixed (by kernel_rfl) rfl (St.drew Bw ho) ?_
        simp only [List.filterMap_cons, List.filterMap_nil, List.getElem?_toArray, List.getElem?_cons_succ, List.getElem?_cons_zero]
        repeat (first
          | (refine held_val ?_ rfl (fun w1 hS => ?_) ?_
             rotate_left
             · (have k0 : w1.cell? ⟨g, m, none⟩ = some (.string (str last)) := (hS.2.1.row.cellAt m (by omega)).trans Hcell.out
                go_simp
                try go_bits
                rfl)
             simp only [Act.put, List.setIfInBounds_toArray, List.set_cons_zero, List.set_cons_succ])
          | (refine held_off rfl ?_
             simp only [Act.put, List.setIfInBounds_toArray, List.set_cons_zero, List.set_cons_succ]))
        refine held_nil (fun w4 hS => ?_)
        obtain ⟨k2, k3, k4⟩ := hS
        have k0 : w4.cell? ⟨g, m, none⟩ = some (.string (str last)) := (k3.row.cellAt m (by omega)).trans Hcell.out
        have z0 := k3.row.frozenAt m
        have s0 := k3.row_set k2 m (.string (str (last ++ [s[i]])))
        rw [Hset.out] at s0
        go_wp2
        go_roundg j
        case measure => omega
        case rel =>
          have hlen : (ini ++ [last ++ [s[i]]]).length = m + 1 := by rw [List.length_append, Hm.out]; rfl
          refine ⟨by omega, congrArg (Value.int .i64) (by have := Hi.out; omega), ini ++ [last ++ [s[i]]], g, cap, Hp2.out.symm, by rw [hlen], ?_, (hbb.trans k4).trans s0.2⟩
          rw [hlen]
          exact s0.1
    · obtain rfl : gk = 0 := by omega
      go_wp2
      go_ret
      rw [Nat.sub_zero, List.take_of_length_le (by show s.data.toList.length ≤ s.size; exact Nat.le_refl _)] at hl
      subst hl
      refine ⟨_, _, rfl, fun i hi => ⟨g, 0, rfl, ?_⟩, hbb⟩
      have := ho.row.cells (g := g) rfl i (.string (str (psplit s.data.toList)[i])) (by simp [strsV, hi])
      rw [Addr.add_lit] at this
      exact this
end Go.Proofs.YtmppagiaonbggaaDoor

/- The walks over the reference's part and Right. -/
namespace Go.Proofs.YtmppagiaonbggaaDoor
set_option linter.unusedVariables false
set_option linter.unusedSimpArgs false
set_option maxRecDepth 100000
open Go.RowKit

set_option maxHeartbeats 1600000 in
theorem refpart_any (s : ByteArray) (hs : s.size ≤ 4294967296) (w : World) : Calls Tryd.prog 45 #[.string s] w fun e w' => e = .returned (.bool (okPart s.data.toList)) ∧ w = w' := by
  have hsz : (s.size : Int) ≤ 4294967296 := by omega
  go_enter Tryd.func45, Tryd.ntmps45
  go_wp2
  go_loopg [3] s.size (fun k i wr => k ≤ s.size ∧ i = .int .i64 ((s.size : Int) - (k : Int)) ∧ wr = w ∧ Hid (∀ j (hj : j < s.size), j < s.size - k → okByte s[j] = true))
  case atStart => exact ⟨Nat.le_refl _, congrArg (Value.int .i64) (by omega), rfl, Lib.hid (fun j hj h => by omega)⟩
  case round =>
    obtain ⟨hk, rfl, rfl, hgood⟩ := hrel
    by_cases hk0 : gk = 0
    · subst hk0
      have hall := all_get (s := s) (fun j hj => hgood.out j hj (by omega))
      have hlen : s.data.toList.length = s.size := rfl
      have hfin : okPart s.data.toList = (decide (1 ≤ s.size) && decide (s.size ≤ 64) && !decide (s.toList = [46]) && !decide (s.toList = [46, 46])) := by
        unfold okPart
        rw [hall, hlen, ByteArray.toList_eq]
        simp only [ne_eq, Bool.true_and, decide_not]
      have Hfin := Lib.hid hfin
      clear hfin hall hlen
      by_cases h1 : 0 < (s.size : Int)
      · by_cases h2 : (s.size : Int) ≤ 64
        · by_cases h3 : s.toList = [46]
          · have Hf : Hid (okPart s.data.toList = false) := Lib.hid (by rw [Hfin.out, decide_eq_true h3]; simp)
            go_wp2
            go_ret
            exact ⟨by rw [Hf.out]; rfl, rfl⟩
          · by_cases h4 : s.toList = [46, 46]
            · have Hf : Hid (okPart s.data.toList = false) := Lib.hid (by rw [Hfin.out, decide_eq_true h4]; simp)
              go_wp2
              go_ret
              exact ⟨by rw [Hf.out]; rfl, rfl⟩
            · have Hf : Hid (okPart s.data.toList = true) := Lib.hid (by rw [Hfin.out, decide_eq_true (show 1 ≤ s.size by omega), decide_eq_true (show s.size ≤ 64 by omega), decide_eq_false h3, decide_eq_false h4]; rfl)
              have h3' : (s.toList == [46]) = false := by simpa using h3
              have h4' : (s.toList == [46, 46]) = false := by simpa using h4
              go_wp2
              go_ret
              refine ⟨?_, rfl⟩
              rw [Hf.out]
              first
                | rfl
                | (show Ending.returned (.bool (!(s.toList == [46]) && !(s.toList == [46, 46]))) = _
                   simp [h3, h4])
        · have Hf : Hid (okPart s.data.toList = false) := Lib.hid (by rw [Hfin.out, decide_eq_false (show ¬ s.size ≤ 64 by omega)]; simp)
          go_wp2
          go_ret
          exact ⟨by rw [Hf.out]; rfl, rfl⟩
      · have Hf : Hid (okPart s.data.toList = false) := Lib.hid (by rw [Hfin.out, decide_eq_false (show ¬ 1 ≤ s.size by omega)]; rfl)
        go_wp2
        go_ret
        exact ⟨by rw [Hf.out]; rfl, rfl⟩
    · obtain ⟨j, rfl⟩ : ∃ j, gk = j + 1 := ⟨gk - 1, by omega⟩
      obtain ⟨i, hi⟩ : ∃ i : Nat, i + (j + 1) = s.size := ⟨s.size - (j + 1), by omega⟩
      have hil : i < s.size := by omega
      have e1 : (s.size : Int) - ((j + 1 : Nat) : Int) = (i : Int) := by omega
      have i0 : (0 : Int) ≤ (i : Int) := by omega
      have i1 : (i : Int) < (s.size : Int) := by omega
      rw [e1]
      clear e1
      have hb256 : s[i].toNat < 256 := UInt8.toNat_lt _
      by_cases hb : okByte s[i] = true
      · have hb' := hb
        simp only [okByte, Bool.and_eq_true, decide_eq_true_eq] at hb'
        have hgood2 : Hid (∀ j' (hj : j' < s.size), j' < s.size - j → okByte s[j'] = true) := Lib.hid (fun j' hj hlt' => by
          by_cases h : j' = i
          · subst h; exact hb
          · exact hgood.out j' hj (by omega))
        have c0 : ¬ (s[i].toNat : Int) < 33 := by omega
        have c1 : ¬ 126 < (s[i].toNat : Int) := by omega
        have c2 : ((s[i].toNat : Int) == 92) = false := by simp; omega
        have Hi := Lib.hid hi
        clear hb hi hb'
        go_wp2
        go_roundg j
        case measure => omega
        case rel => exact ⟨by omega, congrArg (Value.int .i64) (by have := Hi.out; omega), rfl, hgood2⟩
      · have Hbad := Lib.hid (okPart_bad (not_all_get i hil (by simpa using hb)))
        simp only [okByte, Bool.and_eq_true, decide_eq_true_eq] at hb
        have hcase : (s[i].toNat : Int) < 33 ∨ (¬ (s[i].toNat : Int) < 33 ∧ 126 < (s[i].toNat : Int)) ∨ s[i].toNat = 92 := by omega
        clear hb hi
        rcases hcase with h | ⟨h, h'⟩ | h
        · go_wp2
          go_ret
          exact ⟨by rw [Hbad.out]; rfl, rfl⟩
        · go_wp2
          go_ret
          exact ⟨by rw [Hbad.out]; rfl, rfl⟩
        · have h3 : (s[i].toNat : Int) = 92 := by omega
          go_wp2
          go_ret
          exact ⟨by rw [Hbad.out]; rfl, rfl⟩
end Go.Proofs.YtmppagiaonbggaaDoor

/- The walk over the reference's Right. -/
namespace Go.Proofs.YtmppagiaonbggaaDoor
set_option linter.unusedVariables false
set_option linter.unusedSimpArgs false
set_option maxRecDepth 100000
open Go.RowKit

set_option maxHeartbeats 1600000 in
theorem refright_any (s : ByteArray) (hs : s.size ≤ 4294967296) (w : World) : Calls Tryd.prog 28 #[.string s] w fun e w' => e = .returned (.bool (okPath s.data.toList)) ∧ Below w.heap.size w w' := by
  have hsz : (s.size : Int) ≤ 4294967296 := by omega
  have hlen : s.data.toList.length = s.size := rfl
  obtain ⟨hl1, hl2⟩ := psplit_len s.data.toList
  have hpath : ∀ l, l = psplit s.data.toList → okPath s.data.toList = (decide (s.size ≤ 256) && l.all okPart) := by
    rintro l rfl
    rfl
  have Hpath := Lib.hid hpath
  have hsp := Lib.hid (refsplit_any s hs w)
  clear hpath
  obtain ⟨l, hl⟩ : ∃ l, psplit s.data.toList = l := ⟨_, rfl⟩
  rw [hl] at hl1 hl2 hsp
  have Hl2 := Lib.hid hl2
  have hp := Hpath.out l hl.symm
  have Hp := Lib.hid hp
  have hll : (l.length : Int) ≤ 4294967297 := by omega
  clear hl hl1 hl2 hp Hpath
  go_enter Tryd.func28, Tryd.ntmps28
  go_wp2_with fail
  refine hsp.out.mono ?_
  rintro e w1 ⟨A, c, rfl, r1, b1⟩
  have Hr := Lib.hid r1
  clear r1 hsp
  go_wp2
  go_loopg [4] l.length (fun k i wr => k ≤ l.length ∧ i = .int .i64 ((l.length : Int) - (k : Int)) ∧ Below w.heap.size w wr ∧ Hid (RdS wr A l) ∧ Hid (∀ j (h : j < l.length), j < l.length - k → okPart l[j] = true))
  case atStart => exact ⟨Nat.le_refl _, congrArg (Value.int .i64) (by omega), b1, Hr, Lib.hid (fun j h h2 => by omega)⟩
  case round =>
    obtain ⟨hk, rfl, hbb, hrd, hg⟩ := hrel
    by_cases hk0 : gk ≠ 0
    · obtain ⟨j, rfl⟩ : ∃ j, gk = j + 1 := ⟨gk - 1, by omega⟩
      obtain ⟨i, hi⟩ : ∃ i : Nat, i + (j + 1) = l.length := ⟨l.length - (j + 1), by omega⟩
      have hil : i < l.length := by omega
      obtain ⟨b, off, rfl, hcw⟩ := hrd.out i hil
      have hxi := Hl2.out _ (List.getElem_mem hil)
      have hg2 : okPart l[i] = true → Hid (∀ j' (h : j' < l.length), j' < l.length - j → okPart l[j'] = true) := fun h1 => Lib.hid (fun j' h h2 => by
        by_cases e : j' = i
        · subst e; exact h1
        · exact hg.out j' h (by omega))
      have hbad : okPart l[i] = false → Hid (okPath s.data.toList = false) := fun h1 => Lib.hid (by
        rw [Hp.out]
        have : l.all okPart = false := by
          rw [List.all_eq_false]
          exact ⟨_, List.getElem_mem hil, by simp [h1]⟩
        rw [this, Bool.and_false])
      have Hg2 := Lib.hid hg2
      have Hbad := Lib.hid hbad
      clear hg2 hbad
      generalize l[i] = x at hcw hxi Hg2 Hbad
      have e1 : (l.length : Int) - ((j + 1 : Nat) : Int) = (i : Int) := by omega
      have i0 : (0 : Int) ≤ (i : Int) := by omega
      have i1 : (i : Int) < (l.length : Int) := by omega
      rw [e1]
      clear e1
      have Hi := Lib.hid hi
      clear hi
      go_wp2_with fail
      refine (refpart_any (str x) (by show x.length ≤ _; omega) wr).mono ?_
      rintro e w3 ⟨rfl, rfl⟩
      clear hcw
      cases hok : okPart x with
      | true =>
        have hv : okPart (str x).data.toList = true := hok
        rw [hv]
        go_wp2
        go_roundg j
        case measure => omega
        case rel => exact ⟨by omega, congrArg (Value.int .i64) (by have := Hi.out; omega), hbb, hrd, Hg2.out hok⟩
      | false =>
        have hv : okPart (str x).data.toList = false := hok
        rw [hv]
        go_wp2
        go_ret
        exact ⟨by rw [(Hbad.out hok).out]; rfl, hbb⟩
    · obtain rfl : gk = 0 := by omega
      have hall : l.all okPart = true := by
        rw [List.all_eq_true]
        intro x hx
        obtain ⟨i, hi, rfl⟩ := List.mem_iff_getElem.1 hx
        exact hg.out i hi (by omega)
      by_cases hle : (s.size : Int) ≤ 256
      · have Hf : Hid (okPath s.data.toList = true) := Lib.hid (by rw [Hp.out, hall, decide_eq_true (show s.size ≤ 256 by omega)]; rfl)
        clear hall
        go_wp2
        go_ret
        exact ⟨by rw [Hf.out]; rfl, hbb⟩
      · have Hf : Hid (okPath s.data.toList = false) := Lib.hid (by rw [Hp.out, decide_eq_false (show ¬ s.size ≤ 256 by omega)]; rfl)
        clear hall
        go_wp2
        go_ret
        refine ⟨?_, hbb⟩
        rw [Hf.out]
        first
          | rfl
          | (show Ending.returned (.bool (decide ((s.size : Int) ≤ 256))) = _
             rw [decide_eq_false hle])
end Go.Proofs.YtmppagiaonbggaaDoor

/- The walk over cmp.Compare at texts. -/
namespace Go.Proofs.YtmppagiaonbggaaDoor
set_option linter.unusedVariables false
set_option linter.unusedSimpArgs false
set_option maxRecDepth 100000
open Go.RowKit

theorem isNaN_any (s : ByteArray) (w : World) : Calls Tryd.prog 91 #[.string s] w fun e w' => e = .returned (.bool false) ∧ w = w' := by
  go_enter Tryd.func91, Tryd.ntmps91
  go_wp2
  go_ret
  refine ⟨?_, rfl⟩
  first
    | rfl
    | (show Ending.returned (.bool (!(s.toList == s.toList))) = _
       simp)

/-- Which of two texts stands ahead, byte by byte. -/
def cmpT (a b : List UInt8) : Int := if Op.bytesLess a b then -1 else if a = b then 0 else 1
theorem cmp_any (a b : ByteArray) (w : World) : Calls Tryd.prog 86 #[.string a, .string b] w fun e w' => e = .returned (.int .i64 (cmpT a.data.toList b.data.toList)) ∧ w = w' := by
  have ea : a.toList = a.data.toList := ByteArray.toList_eq a
  have eb : b.toList = b.data.toList := ByteArray.toList_eq b
  rw [← ea, ← eb]
  clear ea eb
  cases h1 : Op.bytesLess a.toList b.toList with
  | true =>
    have hv : cmpT a.toList b.toList = -1 := by unfold cmpT; rw [h1]; rfl
    rw [hv]
    clear hv
    go_enter Tryd.func86, Tryd.ntmps86
    go_wp2_with (go_at_call 91; refine (isNaN_any _ _).mono ?_; rintro e w1 ⟨rfl, rfl⟩)
    go_ret
    exact ⟨rfl, rfl⟩
  | false =>
    by_cases h2 : a.toList = b.toList
    · have hv : cmpT a.toList b.toList = 0 := by unfold cmpT; rw [h1, if_pos h2]; rfl
      rw [hv]
      clear hv
      rw [h2] at h1
      go_enter Tryd.func86, Tryd.ntmps86
      go_wp2_with (go_at_call 91; refine (isNaN_any _ _).mono ?_; rintro e w1 ⟨rfl, rfl⟩)
      go_ret
      exact ⟨rfl, rfl⟩
    · have hv : cmpT a.toList b.toList = 1 := by unfold cmpT; rw [h1, if_neg h2]; rfl
      rw [hv]
      clear hv
      have h3 : (a.toList == b.toList) = false := by simpa using h2
      go_enter Tryd.func86, Tryd.ntmps86
      go_wp2_with (go_at_call 91; refine (isNaN_any _ _).mono ?_; rintro e w1 ⟨rfl, rfl⟩)
      go_ret
      exact ⟨rfl, rfl⟩
end Go.Proofs.YtmppagiaonbggaaDoor

/- The walks over slices.Compare at texts, and Compare of package path. -/
namespace Go.Proofs.YtmppagiaonbggaaDoor
set_option linter.unusedVariables false
set_option linter.unusedSimpArgs false
set_option maxRecDepth 100000
open Go.RowKit

/-- Which of two lists of texts stands ahead. -/
def cmpL : List (List UInt8) → List (List UInt8) → Int
  | [], [] => 0
  | [], _ :: _ => -1
  | _ :: _, [] => 1
  | x :: xs, y :: ys => if cmpT x y = 0 then cmpL xs ys else cmpT x y

set_option maxHeartbeats 1600000 in
theorem slicesCompare_any (A1 A2 : Option Addr) (c1 c2 : Nat) (l1 l2 : List (List UInt8)) (hl1 : l1.length ≤ 4294967296) (hl2 : l2.length ≤ 4294967296) (w : World) (h1 : RdS w A1 l1) (h2 : RdS w A2 l2) :
    Calls Tryd.prog 82 #[.slice A1 l1.length c1, .slice A2 l2.length c2] w fun e w' => e = .returned (.int .i64 (cmpL l1 l2)) ∧ w = w' := by
  have H1 := Lib.hid h1
  have H2 := Lib.hid h2
  clear h1 h2
  have n1 : (l1.length : Int) ≤ 4294967296 := by omega
  have n2 : (l2.length : Int) ≤ 4294967296 := by omega
  go_enter Tryd.func82, Tryd.ntmps82
  go_wp2
  go_loopg [11] l1.length (fun k i wr => k ≤ l1.length ∧ i = .int .i64 ((l1.length : Int) - (k : Int)) ∧ wr = w ∧ Hid (l1.length - k ≤ l2.length ∧ cmpL l1 l2 = cmpL (l1.drop (l1.length - k)) (l2.drop (l1.length - k))))
  case atStart => exact ⟨Nat.le_refl _, congrArg (Value.int .i64) (by omega), rfl, Lib.hid ⟨by omega, by rw [Nat.sub_self]; rfl⟩⟩
  case round =>
    obtain ⟨hk, rfl, rfl, hg⟩ := hrel
    by_cases hk0 : gk ≠ 0
    · obtain ⟨j, rfl⟩ : ∃ j, gk = j + 1 := ⟨gk - 1, by omega⟩
      obtain ⟨i, hi⟩ : ∃ i : Nat, i + (j + 1) = l1.length := ⟨l1.length - (j + 1), by omega⟩
      have hil : i < l1.length := by omega
      have hg' := hg.out
      rw [show l1.length - (j + 1) = i by omega] at hg'
      obtain ⟨hle, hcmp⟩ := hg'
      obtain ⟨b, off, rfl, hc1⟩ := H1.out i hil
      have e1 : (l1.length : Int) - ((j + 1 : Nat) : Int) = (i : Int) := by omega
      have i0 : (0 : Int) ≤ (i : Int) := by omega
      have i1 : (i : Int) < (l1.length : Int) := by omega
      rw [e1]
      clear e1
      rw [List.drop_eq_getElem_cons hil] at hcmp
      by_cases hi2 : i < l2.length
      · obtain ⟨b2, off2, rfl, hc2⟩ := H2.out i hi2
        rw [List.drop_eq_getElem_cons hi2] at hcmp
        have i2 : (i : Int) < (l2.length : Int) := by omega
        have i3 : ¬ (l2.length : Int) ≤ (i : Int) := by omega
        have Hi := Lib.hid hi
        have hnext : cmpT l1[i] l2[i] = 0 → Hid (l1.length - j ≤ l2.length ∧ cmpL l1 l2 = cmpL (l1.drop (l1.length - j)) (l2.drop (l1.length - j))) := fun h0 => Lib.hid (by
          rw [show l1.length - j = i + 1 by omega]
          refine ⟨by omega, ?_⟩
          rw [hcmp]
          show (if cmpT l1[i] l2[i] = 0 then _ else _) = _
          rw [if_pos h0])
        have hend : cmpT l1[i] l2[i] ≠ 0 → Hid (cmpL l1 l2 = cmpT l1[i] l2[i]) := fun h0 => Lib.hid (by
          rw [hcmp]
          show (if cmpT l1[i] l2[i] = 0 then _ else _) = _
          rw [if_neg h0])
        have Hnext := Lib.hid hnext
        have Hend := Lib.hid hend
        clear hnext hend hcmp hi hg
        generalize l1[i] = x at hc1 Hnext Hend
        generalize l2[i] = y at hc2 Hnext Hend
        go_wp2_with fail
        refine (cmp_any (str x) (str y) wr).mono ?_
        rintro e w3 ⟨rfl, rfl⟩
        clear hc1 hc2
        obtain ⟨r, hr⟩ : ∃ r, cmpT x y = r := ⟨_, rfl⟩
        have hv : cmpT (str x).data.toList (str y).data.toList = r := hr
        rw [hv]
        rw [hr] at Hnext Hend
        clear hv
        by_cases h0 : r = 0
        · subst h0
          go_wp2
          go_roundg j
          case measure => omega
          case rel => exact ⟨by omega, congrArg (Value.int .i64) (by have := Hi.out; omega), rfl, Hnext.out (by simp)⟩
        · have h0' : (r == 0) = false := by simpa using h0
          go_wp2
          go_ret
          exact ⟨by rw [(Hend.out h0).out]; rfl, rfl⟩
      · have i3 : (l2.length : Int) ≤ (i : Int) := by omega
        rw [List.drop_eq_nil_of_le (show l2.length ≤ i by omega)] at hcmp
        have Hv : Hid (cmpL l1 l2 = 1) := Lib.hid hcmp
        clear hcmp hi hg
        go_wp2
        go_ret
        exact ⟨by rw [Hv.out]; rfl, rfl⟩
    · obtain rfl : gk = 0 := by omega
      have hg' := hg.out
      rw [Nat.sub_zero, List.drop_length] at hg'
      obtain ⟨hle, hcmp⟩ := hg'
      by_cases hlt : (l1.length : Int) < (l2.length : Int)
      · have Hv : Hid (cmpL l1 l2 = -1) := Lib.hid (by
          rw [hcmp, List.drop_eq_getElem_cons (show l1.length < l2.length by omega)]
          rfl)
        clear hcmp hg
        go_wp2
        go_ret
        exact ⟨by rw [Hv.out]; rfl, rfl⟩
      · have Hv : Hid (cmpL l1 l2 = 0) := Lib.hid (by
          rw [hcmp, List.drop_eq_nil_of_le (show l2.length ≤ l1.length by omega)]
          rfl)
        clear hcmp hg
        go_wp2
        go_ret
        exact ⟨by rw [Hv.out]; rfl, rfl⟩
end Go.Proofs.YtmppagiaonbggaaDoor

/- The walk over Compare of package path. -/
namespace Go.Proofs.YtmppagiaonbggaaDoor
set_option linter.unusedVariables false
set_option linter.unusedSimpArgs false
set_option maxRecDepth 100000
open Go.RowKit

theorem compare_any (a b : ByteArray) (ha : a.size ≤ 4294967280) (hb : b.size ≤ 4294967280) (w : World) (h : Sh w) : Calls Tryd.prog 76 #[.string a, .string b] w fun e w' => e = .returned (.int .i64 (cmpL (psplit a.data.toList) (psplit b.data.toList))) ∧ Below w.heap.size w w' := by
  have ha1 := (psplit_len a.data.toList).1
  have hb1 := (psplit_len b.data.toList).1
  have ha2 : a.data.toList.length = a.size := rfl
  have hb2 : b.data.toList.length = b.size := rfl
  have Hs := Lib.hid (fun w1 => split_any a (by omega) w1)
  have Ht := Lib.hid (fun w1 => split_any b (by omega) w1)
  have Hc := Lib.hid (fun A1 A2 c1 c2 (w1 : World) => slicesCompare_any A1 A2 c1 c2 (psplit a.data.toList) (psplit b.data.toList) (by omega) (by omega) w1)
  have Hh := Lib.hid h
  clear ha1 hb1 ha2 hb2 h
  generalize psplit a.data.toList = l1 at Hs Hc ⊢
  generalize psplit b.data.toList = l2 at Ht Hc ⊢
  go_enter Tryd.func76, Tryd.ntmps76
  go_wp2_with fail
  refine (Hs.out w Hh.out).mono ?_
  rintro e w1 ⟨rfl, r1, b1⟩
  go_wp2_with fail
  refine (Ht.out w1 (sh_below Hh.out b1)).mono ?_
  rintro e w2 ⟨rfl, r2, b2⟩
  go_wp2_with fail
  refine (Hc.out _ _ _ _ w2 (r1.below b2) r2).mono ?_
  rintro e w3 ⟨rfl, rfl⟩
  go_wp2
  go_ret
  exact ⟨rfl, b1.trans (b2.mono b1.size)⟩
end Go.Proofs.YtmppagiaonbggaaDoor

/- The walk over Sorted of package path. -/
namespace Go.Proofs.YtmppagiaonbggaaDoor
set_option linter.unusedVariables false
set_option linter.unusedSimpArgs false
set_option maxRecDepth 100000
open Go.RowKit

/-- Each text may be a path, and stands behind the one ahead of it. -/
def SortedP (l : List (List UInt8)) : Prop := ∀ i (h : i < l.length), okPath l[i] = true ∧ (∀ h0 : 0 < i, cmpL (psplit (l[i - 1]'(by omega))) (psplit l[i]) < 0)
theorem cmpL_range : ∀ a b : List (List UInt8), -1 ≤ cmpL a b ∧ cmpL a b ≤ 1
  | [], [] => by decide
  | [], _ :: _ => by show (-1 : Int) ≤ -1 ∧ (-1 : Int) ≤ 1; omega
  | _ :: _, [] => by show (-1 : Int) ≤ 1 ∧ (1 : Int) ≤ 1; omega
  | x :: xs, y :: ys => by
    show -1 ≤ (if cmpT x y = 0 then cmpL xs ys else cmpT x y) ∧ (if cmpT x y = 0 then cmpL xs ys else cmpT x y) ≤ 1
    split
    · exact cmpL_range xs ys
    · unfold cmpT; split
      · decide
      · split <;> decide

set_option maxHeartbeats 1600000 in
theorem sorted_any (A : Option Addr) (c : Nat) (l : List (List UInt8)) (hl : l.length ≤ 4294967296) (hx : ∀ x ∈ l, x.length ≤ 4294967280) (w : World) (h : Sh w) (hr : RdS w A l) :
    Calls Tryd.prog 56 #[.slice A l.length c] w fun e w' => ∃ r : Bool, e = .returned (.bool r) ∧ (r = true ↔ SortedP l) ∧ Below w.heap.size w w' := by
  have Hr := Lib.hid hr
  have Hx := Lib.hid hx
  have Hh := Lib.hid h
  clear hr hx h
  have hl' : (l.length : Int) ≤ 4294967296 := by omega
  go_enter Tryd.func56, Tryd.ntmps56
  go_wp2
  go_loopg [7] l.length (fun k i wr => k ≤ l.length ∧ i = .int .i64 ((l.length : Int) - (k : Int)) ∧ Below w.heap.size w wr ∧ Hid (∀ i (h : i < l.length), i < l.length - k → okPath l[i] = true ∧ (∀ h0 : 0 < i, cmpL (psplit (l[i - 1]'(by omega))) (psplit l[i]) < 0)))
  case atStart => exact ⟨Nat.le_refl _, congrArg (Value.int .i64) (by omega), Below.refl _ _, Lib.hid (fun j h h2 => by omega)⟩
  case round =>
    obtain ⟨hk, rfl, hbb, hg⟩ := hrel
    by_cases hk0 : gk ≠ 0
    · obtain ⟨j, rfl⟩ : ∃ j, gk = j + 1 := ⟨gk - 1, by omega⟩
      obtain ⟨i, hi⟩ : ∃ i : Nat, i + (j + 1) = l.length := ⟨l.length - (j + 1), by omega⟩
      have hil : i < l.length := by omega
      obtain ⟨b, off, rfl, hcell⟩ := Hr.out i hil
      have hcw : wr.cell? ⟨b, off + i, none⟩ = some (.string (str l[i])) := (hbb.cell (World.block_lt_of_cell? w _ hcell)).trans hcell
      have e1 : (l.length : Int) - ((j + 1 : Nat) : Int) = (i : Int) := by omega
      have i0 : (0 : Int) ≤ (i : Int) := by omega
      have i1 : (i : Int) < (l.length : Int) := by omega
      rw [e1]
      clear e1
      have Hi := Lib.hid hi
      clear hi
      have hxi := Hx.out _ (List.getElem_mem hil)
      have Hri := Lib.hid (right_any (str l[i]) (by show l[i].length ≤ _; omega) wr (sh_below Hh.out hbb))
      cases hok : okPath l[i] with
      | false =>
        have Hno : Hid (¬ SortedP l) := Lib.hid (fun hs => by have := (hs i hil).1; rw [hok] at this; cases this)
        have hv : okPath (str l[i]).data.toList = false := hok
        rw [hv] at Hri
        clear hv hok hcell hxi
        generalize l[i] = x at hcw Hri
        go_wp2_with fail
        refine Hri.out.mono ?_
        rintro e w3 ⟨rfl, b3⟩
        go_wp2
        go_ret
        exact ⟨false, rfl, ⟨fun h => (by cases h), fun h => absurd h Hno.out⟩, hbb.trans (b3.mono hbb.size)⟩
      | true =>
        have hv : okPath (str l[i]).data.toList = true := hok
        rw [hv] at Hri
        clear hv
        by_cases hi0 : i = 0
        · have hg2 : Hid (∀ i (h : i < l.length), i < l.length - j → okPath l[i] = true ∧ (∀ h0 : 0 < i, cmpL (psplit (l[i - 1]'(by omega))) (psplit l[i]) < 0)) := Lib.hid (fun i' h h2 => by
            have : i' = i := by have := Hi.out; omega
            subst this
            exact ⟨hok, fun h0 => by omega⟩)
          subst hi0
          clear hok hcell hxi
          generalize l[0] = x at hcw Hri
          rw [Nat.add_zero] at hcw
          go_wp2_with fail
          refine Hri.out.mono ?_
          rintro e w3 ⟨rfl, b3⟩
          go_wp2
          go_roundg j
          case measure => omega
          case rel => exact ⟨by omega, congrArg (Value.int .i64) (by have := Hi.out; omega), hbb.trans (b3.mono hbb.size), hg2⟩
        · have hil1 : i - 1 < l.length := by omega
          obtain ⟨b', off', hA, hcell1⟩ := Hr.out (i - 1) hil1
          injection hA with hA
          injection hA with hb hoff
          subst hb; subst hoff
          have hcw1 : wr.cell? ⟨b, off + (i - 1), none⟩ = some (.string (str l[i - 1])) := (hbb.cell (World.block_lt_of_cell? w _ hcell1)).trans hcell1
          obtain ⟨m, rfl⟩ : ∃ m, i = m + 1 := ⟨i - 1, by omega⟩
          simp only [Nat.add_sub_cancel] at hcw1 hil1
          have hxm := Hx.out _ (List.getElem_mem hil1)
          have hg2 : cmpL (psplit l[m]) (psplit l[m + 1]) < 0 → Hid (∀ i (h : i < l.length), i < l.length - j → okPath l[i] = true ∧ (∀ h0 : 0 < i, cmpL (psplit (l[i - 1]'(by omega))) (psplit l[i]) < 0)) := fun hlt => Lib.hid (fun i' h h2 => by
            by_cases he : i' = m + 1
            · subst he
              exact ⟨hok, fun _ => hlt⟩
            · exact hg.out i' h (by have := Hi.out; omega))
          have hno : ¬ cmpL (psplit l[m]) (psplit l[m + 1]) < 0 → Hid (¬ SortedP l) := fun hlt => Lib.hid (fun hs => hlt ((hs (m + 1) hil).2 (by omega)))
          have Hg2 := Lib.hid hg2
          have Hno := Lib.hid hno
          have hrange := cmpL_range (psplit l[m]) (psplit l[m + 1])
          have Hcmp := Lib.hid (fun w1 h1 => compare_any (str l[m]) (str l[m + 1]) (by show l[m].length ≤ _; omega) (by show l[m + 1].length ≤ _; omega) w1 h1)
          clear hg2 hno hok hcell hcell1 hxi hxm
          generalize l[m + 1] = x at hcw Hri Hg2 Hno Hcmp hrange
          generalize l[m] = y at hcw1 Hg2 Hno Hcmp hrange
          have m0 : (0 : Int) ≤ (m : Int) := by omega
          have m1 : (m : Int) < (l.length : Int) := by omega
          have m2 : ((m + 1 : Nat) : Int) = (m : Int) + 1 := by omega
          rw [m2] at i0 i1 ⊢
          have m3 : (0 : Int) < (m : Int) + 1 := by omega
          go_wp2_with fail
          refine Hri.out.mono ?_
          rintro e w3 ⟨rfl, b3⟩
          have hcw3 := (b3.cell (World.block_lt_of_cell? wr _ hcw1)).trans hcw1
          have hb3 := hbb.trans (b3.mono hbb.size)
          clear hcw hcw1
          go_wp2_with fail
          refine (Hcmp.out w3 (sh_below Hh.out hb3)).mono ?_
          rintro e w4 ⟨rfl, b4⟩
          obtain ⟨r, hr⟩ : ∃ r, cmpL (psplit y) (psplit x) = r := ⟨_, rfl⟩
          have hv : cmpL (psplit (str y).data.toList) (psplit (str x).data.toList) = r := hr
          rw [hv]
          rw [hr] at Hg2 Hno hrange
          clear hv hr hcw3
          by_cases hlt : r < 0
          · have hge : ¬ 0 ≤ r := by omega
            go_wp2
            go_roundg j
            case measure => omega
            case rel => exact ⟨by omega, congrArg (Value.int .i64) (by have := Hi.out; omega), hb3.trans (b4.mono hb3.size), Hg2.out (by omega)⟩
          · have hge : 0 ≤ r := by omega
            go_wp2
            go_ret
            exact ⟨false, rfl, ⟨fun h => (by cases h), fun h => absurd h (Hno.out (by omega)).out⟩, hb3.trans (b4.mono hb3.size)⟩
    · obtain rfl : gk = 0 := by omega
      have Hs : Hid (SortedP l) := Lib.hid (fun i h => hg.out i h (by omega))
      go_wp2
      go_ret
      exact ⟨true, rfl, ⟨fun _ => Hs.out, fun _ => rfl⟩, hbb⟩
end Go.Proofs.YtmppagiaonbggaaDoor

/- Plain laws on the order of lists, and on a text cut at each slash and joined again. -/
namespace Go.Proofs.YtmppagiaonbggaaDoor
set_option linter.unusedVariables false
set_option linter.unusedSimpArgs false
set_option maxRecDepth 100000

/-- The order of two lists, by the order of what they hold. -/
def lexC {α : Type} (c : α → α → Int) : List α → List α → Int
  | [], [] => 0
  | [], _ :: _ => -1
  | _ :: _, [] => 1
  | x :: xs, y :: ys => if c x y = 0 then lexC c xs ys else c x y

structure Cmp {α : Type} (c : α → α → Int) : Prop where
  zero : ∀ x y, c x y = 0 ↔ x = y
  neg : ∀ x y, c y x = - c x y
  trans : ∀ x y z, c x y < 0 → c y z < 0 → c x z < 0

theorem lexC_zero {α : Type} {c : α → α → Int} (h : Cmp c) : ∀ a b, lexC c a b = 0 ↔ a = b
  | [], [] => by simp [lexC]
  | [], _ :: _ => by simp [lexC]
  | _ :: _, [] => by simp [lexC]
  | x :: xs, y :: ys => by
    unfold lexC
    have ih := lexC_zero h xs ys
    by_cases hc : c x y = 0
    · rw [if_pos hc, ih, (h.zero x y).1 hc]; simp
    · rw [if_neg hc]
      have : x ≠ y := fun e => hc ((h.zero x y).2 e)
      simp [hc, this]
theorem lexC_neg {α : Type} {c : α → α → Int} (h : Cmp c) : ∀ a b, lexC c b a = - lexC c a b
  | [], [] => by simp [lexC]
  | [], _ :: _ => by simp [lexC]
  | _ :: _, [] => by simp [lexC]
  | x :: xs, y :: ys => by
    unfold lexC
    have ih := lexC_neg h xs ys
    have hn := h.neg x y
    by_cases hc : c x y = 0
    · rw [if_pos hc, if_pos (by omega), ih]
    · rw [if_neg hc, if_neg (by omega), hn]
theorem lexC_trans {α : Type} {c : α → α → Int} (h : Cmp c) : ∀ a b d, lexC c a b < 0 → lexC c b d < 0 → lexC c a d < 0
  | [], [], _ => by simp [lexC]
  | [], _ :: _, [] => by simp [lexC]
  | [], _ :: _, _ :: _ => by simp [lexC]
  | _ :: _, [], _ => by simp [lexC]
  | _ :: _, _ :: _, [] => by simp [lexC]
  | x :: xs, y :: ys, z :: zs => by
    unfold lexC
    have ih := lexC_trans h xs ys zs
    by_cases h1 : c x y = 0
    · obtain rfl := (h.zero x y).1 h1
      rw [if_pos h1]
      by_cases h2 : c x z = 0
      · rw [if_pos h2, if_pos h2]; exact ih
      · rw [if_neg h2, if_neg h2]; exact fun _ h => h
    · rw [if_neg h1]
      by_cases h2 : c y z = 0
      · obtain rfl := (h.zero y z).1 h2
        rw [if_neg h1]; exact fun h _ => h
      · rw [if_neg h2]
        intro a b
        have := h.trans x y z a b
        rw [if_neg (by omega)]
        exact this
theorem lexC_cmp {α : Type} {c : α → α → Int} (h : Cmp c) : Cmp (lexC c) := ⟨lexC_zero h, lexC_neg h, lexC_trans h⟩
theorem Cmp.le_trans {α : Type} {c : α → α → Int} (h : Cmp c) {x y z : α} (a : c x y ≤ 0) (b : c y z ≤ 0) : c x z ≤ 0 := by
  by_cases h1 : c x y = 0
  · obtain rfl := (h.zero _ _).1 h1; exact b
  · by_cases h2 : c y z = 0
    · obtain rfl := (h.zero _ _).1 h2; exact a
    · have := h.trans x y z (by omega) (by omega); omega
theorem lexC_prefix {α : Type} {c : α → α → Int} (h : Cmp c) : ∀ (p t : List α), lexC c p (p ++ t) ≤ 0 ∧ (t ≠ [] → lexC c p (p ++ t) < 0)
  | [], [] => by simp [lexC]
  | [], _ :: _ => by simp [lexC]
  | x :: xs, t => by
    have ih := lexC_prefix h xs t
    rw [List.cons_append]
    unfold lexC
    rw [if_pos ((h.zero x x).2 rfl)]
    exact ih
theorem lexC_between {α : Type} {c : α → α → Int} (h : Cmp c) : ∀ (p x y z : List α), p <+: x → p <+: z → lexC c x y ≤ 0 → lexC c y z ≤ 0 → p <+: y
  | [], _, _, _, _, _, _, _ => List.nil_prefix
  | a :: p, x, y, z, ⟨t, ht⟩, ⟨s, hs⟩, h1, h2 => by
    subst ht; subst hs
    rw [List.cons_append] at h1 h2
    cases y with
    | nil => simp [lexC] at h1
    | cons b y =>
      unfold lexC at h1 h2
      have hn := h.neg a b
      have h0 : c a b = 0 := by
        by_cases e : c a b = 0
        · exact e
        · rw [if_neg e] at h1
          rw [if_neg (by omega)] at h2
          omega
      rw [if_pos h0] at h1
      rw [if_pos (by omega)] at h2
      obtain rfl := (h.zero _ _).1 h0
      obtain ⟨r, hr⟩ := lexC_between h p (p ++ t) y (p ++ s) ⟨t, rfl⟩ ⟨s, rfl⟩ h1 h2
      exact ⟨r, by rw [← hr]; rfl⟩

def cmpB (x y : UInt8) : Int := (if x < y then -1 else if x = y then 0 else 1)
theorem cmpB_cmp : Cmp cmpB := by
  refine ⟨fun x y => ?_, fun x y => ?_, fun x y z => ?_⟩
  · unfold cmpB
    simp only [UInt8.lt_iff_toNat_lt, ← UInt8.toNat_inj]
    by_cases h : x.toNat < y.toNat <;> by_cases h2 : x.toNat = y.toNat <;> simp [h, h2]
  · unfold cmpB
    simp only [UInt8.lt_iff_toNat_lt, ← UInt8.toNat_inj]
    by_cases h : x.toNat < y.toNat
    · rw [if_neg (by omega), if_neg (by omega), if_pos h]; rfl
    · by_cases h2 : x.toNat = y.toNat
      · rw [if_neg (by omega), if_pos h2.symm, if_neg h, if_pos h2]; rfl
      · rw [if_pos (by omega), if_neg h, if_neg h2]
  · unfold cmpB
    simp only [UInt8.lt_iff_toNat_lt, ← UInt8.toNat_inj]
    intro h1 h2
    have a : x.toNat < y.toNat := by
      by_cases h : x.toNat < y.toNat
      · exact h
      · rw [if_neg h] at h1; split at h1 <;> omega
    have b : y.toNat < z.toNat := by
      by_cases h : y.toNat < z.toNat
      · exact h
      · rw [if_neg h] at h2; split at h2 <;> omega
    rw [if_pos (by omega)]; decide

theorem bytesLess_lex : ∀ a b : List UInt8, lexC cmpB a b = if Op.bytesLess a b then -1 else if a = b then 0 else 1
  | [], [] => by simp [lexC, Op.bytesLess]
  | [], _ :: _ => by simp [lexC, Op.bytesLess]
  | _ :: _, [] => by simp [lexC, Op.bytesLess]
  | x :: xs, y :: ys => by
    have ih := bytesLess_lex xs ys
    unfold lexC
    rw [ih]
    by_cases hc : cmpB x y = 0
    · obtain rfl := (cmpB_cmp.zero _ _).1 hc
      rw [if_pos hc]
      have : Op.bytesLess (x :: xs) (x :: ys) = Op.bytesLess xs ys := by
        show (decide (x < x) || (x == x && Op.bytesLess xs ys)) = _
        have : ¬ x < x := by simp [UInt8.lt_iff_toNat_lt]
        simp [this]
      rw [this]
      simp
    · rw [if_neg hc]
      have hne : x ≠ y := fun e => hc ((cmpB_cmp.zero _ _).2 e)
      have : Op.bytesLess (x :: xs) (y :: ys) = decide (x < y) := by
        show (decide (x < y) || (x == y && Op.bytesLess xs ys)) = _
        simp [hne]
      rw [this]
      have hl : (x :: xs = y :: ys) = False := by simp [hne]
      unfold cmpB
      simp [hne]

/-! a text cut, and joined -/
def pjoin : List (List UInt8) → List UInt8
  | [] => []
  | p :: ps => match ps with
    | [] => p
    | _ :: _ => p ++ 47 :: pjoin ps
theorem pjoin_cons (p : List UInt8) {ps : List (List UInt8)} (h : ps ≠ []) : pjoin (p :: ps) = p ++ 47 :: pjoin ps := by
  cases ps with
  | nil => exact absurd rfl h
  | cons q qs => rfl
theorem pjoin_append : ∀ {a b : List (List UInt8)}, a ≠ [] → b ≠ [] → pjoin (a ++ b) = pjoin a ++ 47 :: pjoin b
  | [], _, h, _ => absurd rfl h
  | [p], b, _, hb => by rw [List.singleton_append, pjoin_cons p hb]; rfl
  | p :: q :: a, b, _, hb => by
    rw [List.cons_append, pjoin_cons p (by simp), pjoin_append (by simp) hb, pjoin_cons p (by simp)]
    simp
theorem pjoin_psplit : ∀ s, pjoin (psplit s) = s
  | [] => rfl
  | c :: l => by
    have ih := pjoin_psplit l
    by_cases hc : c = 47
    · subst hc
      rw [psplit_slash, pjoin_cons _ (psplit_ne l), ih]; rfl
    · obtain ⟨p, ps, hl⟩ : ∃ p ps, psplit l = p :: ps := by
        cases h : psplit l with
        | nil => exact absurd h (psplit_ne l)
        | cons p ps => exact ⟨p, ps, rfl⟩
      rw [psplit_other hc hl]
      rw [hl] at ih
      cases ps with
      | nil => rw [← ih]; rfl
      | cons q qs =>
        rw [pjoin_cons _ (by simp)] at ih ⊢
        rw [← ih]; rfl
theorem psplit_inj {a b : List UInt8} (h : psplit a = psplit b) : a = b := by rw [← pjoin_psplit a, h, pjoin_psplit]
theorem psplit_join (a b : List UInt8) : psplit (a ++ 47 :: b) = psplit a ++ psplit b := by
  induction a with
  | nil => rw [List.nil_append, psplit_slash]; rfl
  | cons c a ih =>
    rw [List.cons_append]
    by_cases hc : c = 47
    · subst hc
      rw [psplit_slash, psplit_slash, ih]; rfl
    · obtain ⟨p, ps, hl⟩ : ∃ p ps, psplit a = p :: ps := by
        cases h : psplit a with
        | nil => exact absurd h (psplit_ne a)
        | cons p ps => exact ⟨p, ps, rfl⟩
      rw [hl] at ih
      rw [psplit_other hc hl, psplit_other hc ih]; rfl
theorem psplit_free : ∀ s : List UInt8, 47 ∉ s → psplit s = [s]
  | [], _ => rfl
  | c :: l, h => by
    have ih := psplit_free l (fun hm => h (List.mem_cons_of_mem _ hm))
    rw [psplit_other (fun e => h (by rw [e]; exact List.mem_cons_self)) ih]
theorem psplit_one {s : List UInt8} (h : (psplit s).length = 1) : psplit s = [s] := by
  obtain ⟨x, hx⟩ := List.length_eq_one_iff.1 h
  have := pjoin_psplit s
  rw [hx] at this
  rw [hx, show x = s from this]
theorem hasPrefix_psplit (s p : List UInt8) : Lib.hasPrefix (s ++ [47]) (p ++ [47]) = true ↔ psplit p <+: psplit s := by
  unfold Lib.hasPrefix
  rw [List.isPrefixOf_iff_prefix]
  constructor
  · rintro ⟨t, ht⟩
    rcases List.eq_nil_or_concat t with rfl | ⟨t', x, rfl⟩
    · rw [List.append_nil] at ht
      rw [List.append_cancel_right ht]
      exact List.prefix_refl _
    · rw [List.concat_eq_append, ← List.append_assoc] at ht
      have h2 := List.append_inj' ht (by simp)
      have e : s = p ++ 47 :: t' := by rw [← h2.1]; simp
      rw [e, psplit_join]
      exact List.prefix_append _ _
  · rintro ⟨t, ht⟩
    by_cases h : t = []
    · subst h
      rw [List.append_nil] at ht
      rw [psplit_inj ht]
      exact List.prefix_refl _
    · have e : s = p ++ 47 :: pjoin t := by rw [← pjoin_psplit s, ← ht, pjoin_append (psplit_ne p) h, pjoin_psplit]
      rw [e]
      exact ⟨pjoin t ++ [47], by simp⟩
/-- All but the last part. -/
def parent (s : List UInt8) : List UInt8 := pjoin (psplit s).dropLast
theorem lastIdx_some {s : List UInt8} {i : Nat} (hi : s[i]? = some 47) (hn : ∀ j, i < j → s[j]? ≠ some 47) : psplit s = psplit (s.take i) ++ [s.drop (i + 1)] ∧ parent s = s.take i ∧ (psplit s).length ≠ 1 := by
  have e : s = s.take i ++ 47 :: s.drop (i + 1) := by
    have hlt : i < s.length := (List.getElem?_eq_some_iff.1 hi).1
    conv => lhs; rw [← List.take_append_drop i s]
    rw [List.drop_eq_getElem_cons hlt, (List.getElem?_eq_some_iff.1 hi).2]
  have hf : 47 ∉ s.drop (i + 1) := fun hm => by
    obtain ⟨j, hj⟩ := List.mem_iff_getElem?.1 hm
    rw [List.getElem?_drop] at hj
    exact hn _ (by omega) hj
  have h1 : psplit s = psplit (s.take i) ++ [s.drop (i + 1)] := by
    conv => lhs; rw [e]
    rw [psplit_join, psplit_free _ hf]
  refine ⟨h1, ?_, ?_⟩
  · unfold parent; rw [h1, List.dropLast_concat, pjoin_psplit]
  · rw [h1, List.length_append]
    have := psplit_ne (s.take i)
    have := List.length_pos_iff.2 this
    simp; omega
theorem lastIdx_none {s : List UInt8} (hn : ∀ j : Nat, s[j]? ≠ some 47) : psplit s = [s] ∧ parent s = [] := by
  have h1 := psplit_free s (fun hm => by obtain ⟨j, hj⟩ := List.mem_iff_getElem?.1 hm; exact hn j hj)
  exact ⟨h1, by unfold parent; rw [h1]; rfl⟩
theorem pjoin_fold (l : List (List UInt8)) (h : l ≠ []) : l.foldl (fun s p => s ++ 47 :: p) [] = 47 :: pjoin l := by
  have g : ∀ (l : List (List UInt8)) (a : List UInt8), l ≠ [] → l.foldl (fun s p => s ++ 47 :: p) a = a ++ 47 :: pjoin l := by
    intro l
    induction l with
    | nil => intro a h; exact absurd rfl h
    | cons p ps ih =>
      intro a _
      rw [List.foldl_cons]
      by_cases hp : ps = []
      · subst hp; rfl
      · rw [ih _ hp, pjoin_cons p hp]; simp
  exact g l [] h
end Go.Proofs.YtmppagiaonbggaaDoor

/- The walk over the reference's text. -/
namespace Go.Proofs.YtmppagiaonbggaaDoor
set_option linter.unusedVariables false
set_option linter.unusedSimpArgs false
set_option maxRecDepth 100000
open Go.RowKit

theorem cmpT_lex (a b : List UInt8) : cmpT a b = lexC cmpB a b := (bytesLess_lex a b).symm
theorem cmpB_lt {x y : UInt8} (h : x.toNat < y.toNat) : cmpB x y = -1 := by unfold cmpB; rw [if_pos (UInt8.lt_iff_toNat_lt.2 h)]
theorem cmpB_gt {x y : UInt8} (h : y.toNat < x.toNat) : cmpB x y = 1 := by have := cmpB_cmp.neg y x; rw [cmpB_lt h] at this; exact this
theorem lexC_ne {α : Type} {c : α → α → Int} {x y : α} {xs ys : List α} (h : c x y ≠ 0) : lexC c (x :: xs) (y :: ys) = c x y := by
  conv => lhs; unfold lexC
  rw [if_neg h]
theorem lexC_eq {α : Type} {c : α → α → Int} {x y : α} {xs ys : List α} (h : c x y = 0) : lexC c (x :: xs) (y :: ys) = lexC c xs ys := by
  conv => lhs; unfold lexC
  rw [if_pos h]
theorem drop_nil (s : ByteArray) (i : Nat) (h : s.size ≤ i) : s.data.toList.drop i = [] := List.drop_eq_nil_of_le (show s.data.toList.length ≤ i from h)
theorem drop_get (s : ByteArray) (i : Nat) (h : i < s.size) : s.data.toList.drop i = s[i] :: s.data.toList.drop (i + 1) := List.drop_eq_getElem_cons (show i < s.data.toList.length from h)

set_option maxHeartbeats 1600000 in
theorem reftext_any (a b : ByteArray) (ha : a.size ≤ 4294967296) (hb : b.size ≤ 4294967296) (w : World) : Calls Tryd.prog 46 #[.string a, .string b] w fun e w' => e = .returned (.int .i64 (cmpT a.data.toList b.data.toList)) ∧ Below w.heap.size w w' := by
  rw [cmpT_lex]
  have ha' : (a.size : Int) ≤ 4294967296 := by omega
  have hb' : (b.size : Int) ≤ 4294967296 := by omega
  go_enter Tryd.func46, Tryd.ntmps46
  go_wp2
  go_loopg [5] a.size (fun k s wr => ∃ i : Nat, k + i = a.size ∧ i ≤ b.size ∧ s = .int .i64 i ∧ Below w.heap.size w wr ∧ Hid (lexC cmpB a.data.toList b.data.toList = lexC cmpB (a.data.toList.drop i) (b.data.toList.drop i)))
  case atStart => exact ⟨0, by omega, by omega, rfl, Below.refl _ _, Lib.hid rfl⟩
  case round =>
    obtain ⟨i, hk, hib, rfl, hbb, he⟩ := hrel
    by_cases h1 : (i : Int) < (a.size : Int)
    · by_cases h2 : (i : Int) < (b.size : Int)
      · obtain ⟨j, rfl⟩ : ∃ j, gk = j + 1 := ⟨gk - 1, by omega⟩
        have hia : i < a.size := by omega
        have hib2 : i < b.size := by omega
        have he2 := he.out
        rw [drop_get a i hia, drop_get b i hib2] at he2
        have i0 : (0 : Int) ≤ (i : Int) := by omega
        have Hk := Lib.hid hk
        clear hk he
        rcases Nat.lt_trichotomy a[i].toNat b[i].toNat with hc | hc | hc
        · rw [lexC_ne (by rw [cmpB_lt hc]; decide), cmpB_lt hc] at he2
          have He := Lib.hid he2
          clear he2
          go_wp2
          go_quiet (fail)
          go_wp2
          go_ret
          exact ⟨by rw [He.out]; rfl, by first | exact below_drewN hbb _ | exact below_drewN (below_drewN hbb _) _⟩
        · rw [UInt8.toNat_inj.1 hc, lexC_eq ((cmpB_cmp.zero _ _).2 rfl)] at he2
          have He := Lib.hid he2
          have hn1 : ¬ a[i].toNat < b[i].toNat := by omega
          have hn2 : ¬ b[i].toNat < a[i].toNat := by omega
          clear he2 hc
          go_wp2
          go_quiet (fail)
          go_wp2
          go_quiet (fail)
          go_wp2
          go_roundg j
          case measure => omega
          case rel => exact ⟨i + 1, by have := Hk.out; omega, by omega, rfl, below_drewN hbb _, He⟩
        · rw [lexC_ne (by rw [cmpB_gt hc]; decide), cmpB_gt hc] at he2
          have He := Lib.hid he2
          have hn1 : ¬ a[i].toNat < b[i].toNat := by omega
          clear he2
          go_wp2
          go_quiet (fail)
          go_wp2
          go_quiet (fail)
          go_wp2
          go_ret
          exact ⟨by rw [He.out]; rfl, by first | exact below_drewN hbb _ | exact below_drewN (below_drewN hbb _) _⟩
      · have hbe : i = b.size := by omega
        have he2 := he.out
        rw [drop_get a i (by omega), drop_nil b i (by omega)] at he2
        have He : Hid (lexC cmpB a.data.toList b.data.toList = 1) := Lib.hid he2
        have hn1 : ¬ (a.size : Int) < (b.size : Int) := by omega
        have hn2 : (b.size : Int) < (a.size : Int) := by omega
        clear he2 he hbe hk
        go_wp2
        go_ret
        exact ⟨by rw [He.out]; rfl, hbb⟩
    · have hae : i = a.size := by omega
      have he2 := he.out
      rw [drop_nil a i (by omega)] at he2
      by_cases h2 : (a.size : Int) < (b.size : Int)
      · rw [drop_get b i (by omega)] at he2
        have He : Hid (lexC cmpB a.data.toList b.data.toList = -1) := Lib.hid he2
        clear he2 he hae hk
        go_wp2
        go_ret
        exact ⟨by rw [He.out]; rfl, hbb⟩
      · rw [drop_nil b i (by omega)] at he2
        have He : Hid (lexC cmpB a.data.toList b.data.toList = 0) := Lib.hid he2
        have hn2 : ¬ (b.size : Int) < (a.size : Int) := by omega
        clear he2 he hae hk
        go_wp2
        go_ret
        exact ⟨by rw [He.out]; rfl, hbb⟩
end Go.Proofs.YtmppagiaonbggaaDoor

/- The walk over the reference's Compare. -/
namespace Go.Proofs.YtmppagiaonbggaaDoor
set_option linter.unusedVariables false
set_option linter.unusedSimpArgs false
set_option maxRecDepth 100000
open Go.RowKit

theorem cmpL_lex : ∀ a b, cmpL a b = lexC cmpT a b
  | [], [] => rfl
  | [], _ :: _ => rfl
  | _ :: _, [] => rfl
  | x :: xs, y :: ys => by
    show (if cmpT x y = 0 then cmpL xs ys else cmpT x y) = (if cmpT x y = 0 then lexC cmpT xs ys else cmpT x y)
    rw [cmpL_lex xs ys]
theorem lexC_congr {α : Type} {c d : α → α → Int} (h : ∀ x y, c x y = d x y) : ∀ a b, lexC c a b = lexC d a b
  | [], [] => rfl
  | [], _ :: _ => rfl
  | _ :: _, [] => rfl
  | x :: xs, y :: ys => by
    unfold lexC
    rw [h x y, lexC_congr h xs ys]
theorem cmpT_cmp : Cmp cmpT := by
  have : cmpT = lexC cmpB := by funext a b; exact cmpT_lex a b
  rw [this]; exact lexC_cmp cmpB_cmp
theorem cmpL_cmp : Cmp cmpL := by
  have : cmpL = lexC cmpT := by funext a b; exact cmpL_lex a b
  rw [this]; exact lexC_cmp cmpT_cmp
theorem RdS.at_ {W : World} {A : Option Addr} {l : List (List UInt8)} (h : RdS W A l) (i : Nat) (hi : i < l.length) : ∃ b off, A = some ⟨b, off, none⟩ ∧ b < W.heap.size ∧ W.cell? ⟨b, off + i, none⟩ = some (.string (str l[i])) := by
  obtain ⟨b, off, ha, hc⟩ := h i hi
  exact ⟨b, off, ha, World.block_lt_of_cell? W _ hc, hc⟩

set_option maxHeartbeats 1600000 in
theorem refcompare_any (a b : ByteArray) (ha : a.size ≤ 4294967280) (hb : b.size ≤ 4294967280) (w : World) : Calls Tryd.prog 29 #[.string a, .string b] w fun e w' => e = .returned (.int .i64 (cmpL (psplit a.data.toList) (psplit b.data.toList))) ∧ Below w.heap.size w w' := by
  obtain ⟨ha1, ha3⟩ := psplit_len a.data.toList
  obtain ⟨hb1, hb3⟩ := psplit_len b.data.toList
  have ha2 : a.data.toList.length = a.size := rfl
  have hb2 : b.data.toList.length = b.size := rfl
  have Hs := Lib.hid (fun w1 => refsplit_any a (by omega) w1)
  have Ht := Lib.hid (fun w1 => refsplit_any b (by omega) w1)
  have X1 : Hid (∀ x ∈ psplit a.data.toList, x.length ≤ 4294967296) := Lib.hid (fun x hx => by have := ha3 x hx; omega)
  have X2 : Hid (∀ x ∈ psplit b.data.toList, x.length ≤ 4294967296) := Lib.hid (fun x hx => by have := hb3 x hx; omega)
  rw [cmpL_lex]
  have n1 : ((psplit a.data.toList).length : Int) ≤ 4294967296 := by omega
  have n2 : ((psplit b.data.toList).length : Int) ≤ 4294967296 := by omega
  clear ha1 ha3 hb1 hb3 ha2 hb2
  generalize psplit a.data.toList = l1 at Hs X1 n1 ⊢
  generalize psplit b.data.toList = l2 at Ht X2 n2 ⊢
  go_enter Tryd.func29, Tryd.ntmps29
  go_wp2_with fail
  refine (Hs.out w).mono ?_
  rintro e w1 ⟨A1, c1, rfl, r1, b1⟩
  go_wp2_with fail
  refine (Ht.out w1).mono ?_
  rintro e w2 ⟨A2, c2, rfl, r2, b2⟩
  have H1 := Lib.hid (And.intro (r1.below b2) r2)
  have hb0 := b1.trans (b2.mono b1.size)
  clear r1 r2 b1 b2
  go_wp2
  go_loopg [7] l1.length (fun k s wr => ∃ i : Nat, k + i = l1.length ∧ i ≤ l2.length ∧ s = .int .i64 i ∧ Below w.heap.size w wr ∧ Hid (RdS wr A1 l1 ∧ RdS wr A2 l2) ∧ Hid (lexC cmpT l1 l2 = lexC cmpT (l1.drop i) (l2.drop i)))
  case atStart => exact ⟨0, by omega, by omega, rfl, hb0, H1, Lib.hid rfl⟩
  case round =>
    clear hb0 H1
    obtain ⟨i, hk, hib, rfl, hbb, hrd, he⟩ := hrel
    by_cases h1 : (i : Int) < (l1.length : Int)
    · by_cases h2 : (i : Int) < (l2.length : Int)
      · obtain ⟨j, rfl⟩ : ∃ j, gk = j + 1 := ⟨gk - 1, by omega⟩
        have hia : i < l1.length := by omega
        have hib2 : i < l2.length := by omega
        have he2 := he.out
        rw [List.drop_eq_getElem_cons hia, List.drop_eq_getElem_cons hib2] at he2
        have i0 : (0 : Int) ≤ (i : Int) := by omega
        obtain ⟨p1, o1, rfl, q1, d1⟩ := hrd.out.1.at_ i hia
        obtain ⟨p2, o2, rfl, q2, d2⟩ := hrd.out.2.at_ i hib2
        have Hk := Lib.hid hk
        have Hc := Lib.hid (fun W => reftext_any (str l1[i]) (str l2[i]) (by have := X1.out _ (List.getElem_mem hia); exact this) (by have := X2.out _ (List.getElem_mem hib2); exact this) W)
        have D1 := Lib.hid d1
        have D2 := Lib.hid d2
        have Hnext : Hid (cmpT l1[i] l2[i] = 0 → lexC cmpT l1 l2 = lexC cmpT (l1.drop (i + 1)) (l2.drop (i + 1))) := Lib.hid (fun h => by rw [he2, lexC_eq h])
        have Hend : Hid (cmpT l1[i] l2[i] ≠ 0 → lexC cmpT l1 l2 = cmpT l1[i] l2[i]) := Lib.hid (fun h => by rw [he2, lexC_ne h])
        clear hk he he2 d1 d2
        generalize l1[i] = x at *
        generalize l2[i] = y at *
        go_wp2
        refine wp_region_mix (Below wr.heap.size wr) [0, 1, 2, 3, 4, 5, 6, 7] [8, 9] mixed (by kernel_rfl) rfl ((Below.refl _ _).drew) ?_
        simp only [List.filterMap_cons, List.filterMap_nil, List.getElem?_toArray, List.getElem?_cons_succ, List.getElem?_cons_zero]
        repeat (first
          | (refine held_val ?_ rfl (fun w1 hS => ?_) ?_
             rotate_left
             · (have k1 := (hS.cell (p := ⟨p1, o1 + i, none⟩) q1).trans D1.out; have k2 := (hS.cell (p := ⟨p2, o2 + i, none⟩) q2).trans D2.out
                go_simp
                try go_bits
                rfl)
             simp only [Act.put, List.setIfInBounds_toArray, List.set_cons_zero, List.set_cons_succ])
          | (refine held_off rfl ?_
             simp only [Act.put, List.setIfInBounds_toArray, List.set_cons_zero, List.set_cons_succ]))
        refine held_nil (fun w4 hS => ?_)
        go_wp2_with fail
        refine (Hc.out w4).mono ?_
        rintro e w5 ⟨rfl, b5⟩
        have b6 := hS.trans (b5.mono hS.size)
        have hv : cmpT (str x).data.toList (str y).data.toList = cmpT x y := rfl
        rw [hv]
        obtain ⟨r, hr⟩ : ∃ r, cmpT x y = r := ⟨_, rfl⟩
        rw [hr] at Hnext Hend ⊢
        clear hv hr hS b5
        have hb7 := hbb.trans (b6.mono hbb.size)
        by_cases h0 : r = 0
        · subst h0
          have He := Lib.hid (Hnext.out rfl)
          have Hrd := Lib.hid (And.intro (hrd.out.1.below b6) (hrd.out.2.below b6))
          clear b6
          go_wp2
          go_roundg j
          case measure => omega
          case rel => exact ⟨i + 1, by have := Hk.out; omega, by omega, rfl, hb7, Hrd, He⟩
        · have He := Lib.hid (Hend.out h0)
          have h0' : (r == 0) = false := by simpa using h0
          go_wp2
          go_ret
          exact ⟨by rw [He.out]; rfl, hb7⟩
      · have he2 := he.out
        rw [List.drop_eq_getElem_cons (show i < l1.length by omega), List.drop_eq_nil_of_le (show l2.length ≤ i by omega)] at he2
        have He : Hid (lexC cmpT l1 l2 = 1) := Lib.hid he2
        have hn1 : ¬ (l1.length : Int) < (l2.length : Int) := by omega
        have hn2 : (l2.length : Int) < (l1.length : Int) := by omega
        clear he2 he hk
        go_wp2
        go_ret
        exact ⟨by rw [He.out]; rfl, hbb⟩
    · have he2 := he.out
      rw [List.drop_eq_nil_of_le (show l1.length ≤ i by omega)] at he2
      by_cases h2 : (l1.length : Int) < (l2.length : Int)
      · rw [List.drop_eq_getElem_cons (show i < l2.length by omega)] at he2
        have He : Hid (lexC cmpT l1 l2 = -1) := Lib.hid he2
        clear he2 he hk
        go_wp2
        go_ret
        exact ⟨by rw [He.out]; rfl, hbb⟩
      · rw [List.drop_eq_nil_of_le (show l2.length ≤ i by omega)] at he2
        have He : Hid (lexC cmpT l1 l2 = 0) := Lib.hid he2
        have hn2 : ¬ (l2.length : Int) < (l1.length : Int) := by omega
        clear he2 he hk
        go_wp2
        go_ret
        exact ⟨by rw [He.out]; rfl, hbb⟩
theorem sorted_pairwise {l : List (List UInt8)} : SortedP l ↔ l.Pairwise (fun a b => cmpL (psplit a) (psplit b) < 0) ∧ ∀ x ∈ l, okPath x = true := by
  constructor
  · intro h
    refine ⟨List.pairwise_iff_getElem.2 ?_, fun x hx => ?_⟩
    · intro i j hi hj hij
      induction j with
      | zero => omega
      | succ j ih =>
        have h1 := (h (j + 1) hj).2 (by omega)
        simp only [Nat.add_sub_cancel] at h1
        by_cases e : i = j
        · subst e; exact h1
        · exact cmpL_cmp.trans _ _ _ (ih (by omega) (by omega)) h1
    · obtain ⟨i, hi, rfl⟩ := List.mem_iff_getElem.1 hx
      exact (h i hi).1
  · rintro ⟨h1, h2⟩ i hi
    exact ⟨h2 _ (List.getElem_mem hi), fun h0 => List.pairwise_iff_getElem.1 h1 (i - 1) i (by omega) hi (by omega)⟩
theorem sorted_sub {l m : List (List UInt8)} (h : SortedP l) (hs : m.Sublist l) : SortedP m := by
  obtain ⟨h1, h2⟩ := sorted_pairwise.1 h
  exact sorted_pairwise.2 ⟨h1.sublist hs, fun x hx => h2 x (hs.mem hx)⟩

end Go.Proofs.YtmppagiaonbggaaDoor

/- Package entry: what entries are, as they lie; the walks over plain, and over what holds of all. -/
namespace Go.Proofs.YtmppagiaonbggaaDoor
set_option linter.unusedVariables false
set_option linter.unusedSimpArgs false
set_option maxRecDepth 100000
open Go.RowKit

/-- A file, but for its data. -/
structure En where
  path : List UInt8
  kind : Int
  mode : Int
  time : Int
  tgt : List UInt8
  beg : Int
  size : Int
deriving DecidableEq
instance : Inhabited En := ⟨⟨[], 0, 0, 0, [], 0, 0⟩⟩
def enL (e : En) : List Value := [.string (str e.path), .int .i64 e.kind, .int .i64 e.mode, .int .i64 e.time, .string (str e.tgt), .int .i64 e.beg, .int .i64 e.size]
theorem enL_len (e : En) : (enL e).length = 7 := rfl
def okI (n : Int) : Prop := -9223372036854775808 ≤ n ∧ n ≤ 9223372036854775807
/-- What every entry of Go is. -/
structure En.ok (e : En) : Prop where
  path : e.path.length ≤ 9223372036854775807
  kind : okI e.kind
  mode : okI e.mode
  time : okI e.time
  tgt : e.tgt.length ≤ 9223372036854775807
  beg : okI e.beg
  size : okI e.size

/-- May an entry be, but for its path, and where it begins? -/
def plainP (e : En) : Prop := 0 ≤ e.mode ∧ e.mode < 4096 ∧ 0 ≤ e.time ∧ e.time ≤ 1099511627775 ∧ 0 ≤ e.size ∧ e.size ≤ 1048576 ∧
  ((e.kind = 1 ∧ e.tgt = []) ∨ (e.kind = 2 ∧ e.tgt = [] ∧ e.size = 0) ∨ (e.kind = 3 ∧ 1 ≤ e.tgt.length ∧ e.tgt.length ≤ 256 ∧ e.size = 0))
instance (e : En) : Decidable (plainP e) := by unfold plainP; infer_instance
def plainB (e : En) : Bool := decide (plainP e)

set_option maxHeartbeats 1600000 in
theorem plain_any (e : En) (ok : e.ok) (w : World) : Calls Tryd.prog 59 #[.agg (enL e).toArray] w fun x w' => x = .returned (.bool (plainB e)) ∧ Below w.heap.size w w' := by
  obtain ⟨path, kind, mode, time, tgt, beg, size⟩ := e
  have hto : (str tgt).size = tgt.length := rfl
  have Yes : Hid (plainP ⟨path, kind, mode, time, tgt, beg, size⟩ → Ending.returned (.bool true) = Ending.returned (.bool (plainB ⟨path, kind, mode, time, tgt, beg, size⟩))) := Lib.hid (fun h => by unfold plainB; rw [decide_eq_true h])
  have No : Hid (¬ plainP ⟨path, kind, mode, time, tgt, beg, size⟩ → Ending.returned (.bool false) = Ending.returned (.bool (plainB ⟨path, kind, mode, time, tgt, beg, size⟩))) := Lib.hid (fun h => by unfold plainB; rw [decide_eq_false h])
  have hb := Lib.hid (fun o => (Below.refl w.heap.size w).alloc (Nat.le_refl _) o)
  have htl : tgt.length ≤ 9223372036854775807 := ok.tgt
  simp only [enL]
  clear ok
  unfold plainP at Yes No
  simp only at Yes No
  by_cases hm : 0 ≤ mode ∧ mode < 4096 ∧ 0 ≤ time ∧ time ≤ 1099511627775 ∧ 0 ≤ size ∧ size ≤ 1048576
  · obtain ⟨m1, m2, m3, m4, m5, m6⟩ := hm
    by_cases he : tgt = []
    · subst he
      have t1 : (str []).toList = [] := by rw [ByteArray.toList_eq]; rfl
      have t2 : (str []).toList.isEmpty = true := by rw [t1]; rfl
      by_cases k1 : kind = 1
      · subst k1
        go_enter Tryd.func59, Tryd.ntmps59
        go_wp2
        go_ret
        exact ⟨Yes.out ⟨m1, m2, m3, m4, m5, m6, by simp⟩, hb.out _⟩
      · have k1' : (kind == 1) = false := by simpa using k1
        by_cases k2 : kind = 2
        · subst k2
          by_cases z : size = 0
          · subst z
            go_enter Tryd.func59, Tryd.ntmps59
            go_wp2
            go_ret
            exact ⟨Yes.out ⟨m1, m2, m3, m4, m5, m6, by simp⟩, hb.out _⟩
          · have z' : (size == 0) = false := by simpa using z
            go_enter Tryd.func59, Tryd.ntmps59
            go_wp2
            go_ret
            exact ⟨No.out (by simp; omega), hb.out _⟩
        · have k2' : (kind == 2) = false := by simpa using k2
          have hl0 : ¬ (1 : Int) ≤ ((str ([] : List UInt8)).size : Int) := by show ¬ (1 : Int) ≤ 0; omega
          by_cases k3 : kind = 3
          · subst k3
            go_enter Tryd.func59, Tryd.ntmps59
            go_wp2
            go_ret
            exact ⟨No.out (by simp), hb.out _⟩
          · have k3' : (kind == 3) = false := by simpa using k3
            go_enter Tryd.func59, Tryd.ntmps59
            go_wp2
            go_ret
            exact ⟨No.out (by simp; omega), hb.out _⟩
    · have t1 : ¬ (str tgt).toList = [] := by rw [ByteArray.toList_eq]; exact he
      have t2 : (str tgt).toList.isEmpty = false := by simpa using t1
      by_cases k1 : kind = 1
      · subst k1
        go_enter Tryd.func59, Tryd.ntmps59
        go_wp2
        go_ret
        exact ⟨No.out (by simp [he]), hb.out _⟩
      · have k1' : (kind == 1) = false := by simpa using k1
        by_cases k2 : kind = 2
        · subst k2
          go_enter Tryd.func59, Tryd.ntmps59
          go_wp2
          go_ret
          exact ⟨No.out (by simp [he]), hb.out _⟩
        · have k2' : (kind == 2) = false := by simpa using k2
          by_cases k3 : kind = 3
          · subst k3
            have hl1 : (1 : Int) ≤ ((str tgt).size : Int) := by have := List.length_pos_iff.2 he; omega
            have hzz : ((str tgt).size : Int) ≤ 9223372036854775807 := by omega
            by_cases hl2 : ((str tgt).size : Int) ≤ 256
            · by_cases z : size = 0
              · subst z
                go_enter Tryd.func59, Tryd.ntmps59
                go_wp2
                go_ret
                exact ⟨Yes.out ⟨m1, m2, m3, m4, m5, m6, by simp; omega⟩, hb.out _⟩
              · have z' : (size == 0) = false := by simpa using z
                go_enter Tryd.func59, Tryd.ntmps59
                go_wp2
                go_ret
                exact ⟨No.out (by simp [z]), hb.out _⟩
            · go_enter Tryd.func59, Tryd.ntmps59
              go_wp2
              go_ret
              exact ⟨No.out (by simp; omega), hb.out _⟩
          · have k3' : (kind == 3) = false := by simpa using k3
            go_enter Tryd.func59, Tryd.ntmps59
            go_wp2
            go_ret
            exact ⟨No.out (by simp [k1, k2, k3]), hb.out _⟩
  · have HN : Hid (Ending.returned (.bool false) = Ending.returned (.bool (plainB ⟨path, kind, mode, time, tgt, beg, size⟩))) := Lib.hid (No.out (fun h => hm ⟨h.1, h.2.1, h.2.2.1, h.2.2.2.1, h.2.2.2.2.1, h.2.2.2.2.2.1⟩))
    have Hm := Lib.hid hm
    clear hm Yes No
    go_enter Tryd.func59, Tryd.ntmps59
    by_cases m1 : 0 ≤ mode
    · by_cases m2 : mode < 4096
      · by_cases m3 : 0 ≤ time
        · by_cases m4 : time ≤ 1099511627775
          · by_cases m5 : 0 ≤ size
            · by_cases m6 : size ≤ 1048576
              · exact absurd ⟨m1, m2, m3, m4, m5, m6⟩ Hm.out
              · go_wp2
                go_ret
                exact ⟨HN.out, hb.out _⟩
            · go_wp2
              go_ret
              exact ⟨HN.out, hb.out _⟩
          · go_wp2
            go_ret
            exact ⟨HN.out, hb.out _⟩
        · go_wp2
          go_ret
          exact ⟨HN.out, hb.out _⟩
      · go_wp2
        go_ret
        exact ⟨HN.out, hb.out _⟩
    · go_wp2
      go_ret
      exact ⟨HN.out, hb.out _⟩

theorem small_any (e : En) (w : World) : Calls Tryd.prog 58 #[.agg (enL e).toArray] w fun x w' => x = .returned (.bool (decide (e.size ≤ 1048576))) ∧ Below w.heap.size w w' := by
  obtain ⟨path, kind, mode, time, tgt, beg, size⟩ := e
  simp only [enL]
  have hb := Lib.hid (fun o => (Below.refl w.heap.size w).alloc (Nat.le_refl _) o)
  go_enter Tryd.func58, Tryd.ntmps58
  go_wp2
  go_ret
  exact ⟨rfl, hb.out _⟩

end Go.Proofs.YtmppagiaonbggaaDoor

/- The walks over within, may and Segments of package record. -/
namespace Go.Proofs.YtmppagiaonbggaaDoor
set_option linter.unusedVariables false
set_option linter.unusedSimpArgs false
set_option maxRecDepth 100000
open Go.RowKit

theorem within_any2 (n lo hi : Int) (b : Bool) (hb : (decide (lo ≤ n) && decide (n ≤ hi)) = b) (w : World) : Calls Tryd.prog 62 #[.int .i64 n, .int .i64 lo, .int .i64 hi] w fun e w' => e = .returned (.bool b) ∧ w' = w := by
  subst hb
  by_cases h1 : lo ≤ n
  · by_cases h2 : n ≤ hi
    · rw [decide_eq_true h1, decide_eq_true h2]
      go_enter Tryd.func62, Tryd.ntmps62
      go_wp2
      go_ret
      exact ⟨rfl, rfl⟩
    · rw [decide_eq_true h1, decide_eq_false h2]
      go_enter Tryd.func62, Tryd.ntmps62
      go_wp2
      go_ret
      exact ⟨rfl, rfl⟩
  · rw [decide_eq_false h1]
    go_enter Tryd.func62, Tryd.ntmps62
    go_wp2
    go_ret
    exact ⟨rfl, rfl⟩

structure Pn where
  ch : Int
  wi : Int
  tot : Int
  dg : List UInt8
deriving DecidableEq
def pnL (p : Pn) : List Value := .int .i64 p.ch :: .int .i64 p.wi :: .int .i64 p.tot :: bytesU p.dg
structure Pn.ok (p : Pn) : Prop where
  ch : okI p.ch
  wi : okI p.wi
  tot : okI p.tot
  dg : p.dg.length = 32
theorem pnL_size {p : Pn} (h : p.dg.length = 32) : (pnL p).toArray.size = 35 := by simp [pnL, bytesU_length, h]
def Pn.mayB (p : Pn) : Bool := (decide (1 ≤ p.ch) && decide (p.ch ≤ 65536)) && (decide (1 ≤ p.wi) && decide (p.wi ≤ 32768)) && (decide (0 ≤ p.tot) && decide (p.tot ≤ 4194304))

theorem may_any (p : Pn) (ok : p.ok) (w : World) : Calls Tryd.prog 40 #[.agg (pnL p).toArray] w fun e w' => e = .returned (.bool p.mayB) ∧ Below w.heap.size w w' := by
  have c0 : (pnL p).toArray[0]? = some (.int .i64 p.ch) := rfl
  have c1 : (pnL p).toArray[1]? = some (.int .i64 p.wi) := rfl
  have c2 : (pnL p).toArray[2]? = some (.int .i64 p.tot) := rfl
  have hsz := pnL_size ok.dg
  obtain ⟨b0, h0⟩ : ∃ b, (decide (1 ≤ p.ch) && decide (p.ch ≤ 65536)) = b := ⟨_, rfl⟩
  obtain ⟨b1, h1⟩ : ∃ b, (decide (1 ≤ p.wi) && decide (p.wi ≤ 32768)) = b := ⟨_, rfl⟩
  obtain ⟨b2, h2⟩ : ∃ b, (decide (0 ≤ p.tot) && decide (p.tot ≤ 4194304)) = b := ⟨_, rfl⟩
  have hm : p.mayB = (b0 && b1 && b2) := by unfold Pn.mayB; rw [h0, h1, h2]
  rw [hm]
  have W0 := Lib.hid (fun w => within_any2 p.ch 1 65536 b0 h0 w)
  have W1 := Lib.hid (fun w => within_any2 p.wi 1 32768 b1 h1 w)
  have W2 := Lib.hid (fun w => within_any2 p.tot 0 4194304 b2 h2 w)
  have hb := (Below.refl w.heap.size w).alloc (Nat.le_refl _) (.cells (pnL p).toArray 27)
  have hh := heap_alloc_new w (.cells (pnL p).toArray 27)
  have k0 : (w.alloc (.cells (pnL p).toArray 27)).cell? ⟨w.heap.size, 0, none⟩ = some (.int .i64 p.ch) := (cell_of_row _ _ _ _ _ _ hh).trans c0
  have k1 : (w.alloc (.cells (pnL p).toArray 27)).cell? ⟨w.heap.size, 1, none⟩ = some (.int .i64 p.wi) := (cell_of_row _ _ _ _ _ _ hh).trans c1
  have k2 : (w.alloc (.cells (pnL p).toArray 27)).cell? ⟨w.heap.size, 2, none⟩ = some (.int .i64 p.tot) := (cell_of_row _ _ _ _ _ _ hh).trans c2
  clear c0 c1 c2 h0 h1 h2 hm hh ok
  generalize (pnL p).toArray = X at *
  obtain ⟨ch, wi, tot, dg⟩ := p
  simp only at W0 W1 W2 k0 k1 k2
  cases b0 with
  | false =>
    go_enter Tryd.func40, Tryd.ntmps40
    go_wp2_with fail
    refine (W0.out _).mono ?_
    rintro e w1 ⟨rfl, rfl⟩
    go_wp2
    go_ret
    exact ⟨rfl, hb⟩
  | true =>
    cases b1 with
    | false =>
      go_enter Tryd.func40, Tryd.ntmps40
      go_wp2_with fail
      refine (W0.out _).mono ?_
      rintro e w1 ⟨rfl, rfl⟩
      go_wp2_with fail
      refine (W1.out _).mono ?_
      rintro e w1 ⟨rfl, rfl⟩
      go_wp2
      go_ret
      exact ⟨rfl, hb⟩
    | true =>
      go_enter Tryd.func40, Tryd.ntmps40
      go_wp2_with fail
      refine (W0.out _).mono ?_
      rintro e w1 ⟨rfl, rfl⟩
      go_wp2_with fail
      refine (W1.out _).mono ?_
      rintro e w1 ⟨rfl, rfl⟩
      go_wp2_with fail
      refine (W2.out _).mono ?_
      rintro e w1 ⟨rfl, rfl⟩
      go_wp2
      go_ret
      exact ⟨rfl, hb⟩

def segsP (p : Pn) : Int := if p.mayB then (p.tot + p.ch - 1) / p.ch else 0
theorem Pn.may_true {p : Pn} (h : p.mayB = true) : 1 ≤ p.ch ∧ p.ch ≤ 65536 ∧ 1 ≤ p.wi ∧ p.wi ≤ 32768 ∧ 0 ≤ p.tot ∧ p.tot ≤ 4194304 := by
  unfold Pn.mayB at h
  simp only [Bool.and_eq_true, decide_eq_true_eq] at h
  omega
theorem infoPlan : (Tryd.prog.info? 27).map (·.size) = some 35 := by kernel_rfl

theorem segments_any (p : Pn) (ok : p.ok) (w : World) : Calls Tryd.prog 24 #[.agg (pnL p).toArray] w fun e w' => e = .returned (.int .i64 (segsP p)) ∧ Below w.heap.size w w' := by
  have hsz := pnL_size ok.dg
  have hb := (Below.refl w.heap.size w).alloc (Nat.le_refl _) (.cells (pnL p).toArray 27)
  have hh := heap_alloc_new w (.cells (pnL p).toArray 27)
  have hinf : (Tryd.prog.info? 27).map (·.size) = some (pnL p).toArray.size := by rw [hsz]; exact infoPlan
  have HM := Lib.hid (fun w => may_any p ok w)
  have K0 := Lib.hid (fun W (h : Below (w.heap.size + 1) (w.alloc (.cells (pnL p).toArray 27)) W) => ((h.cell (p := ⟨w.heap.size, 0, none⟩) (by simp)).trans (cell_of_row _ _ 0 _ _ _ hh)).trans (show _ = some (.int .i64 p.ch) from rfl))
  have K2 := Lib.hid (fun W (h : Below (w.heap.size + 1) (w.alloc (.cells (pnL p).toArray 27)) W) => ((h.cell (p := ⟨w.heap.size, 2, none⟩) (by simp)).trans (cell_of_row _ _ 2 _ _ _ hh)).trans (show _ = some (.int .i64 p.tot) from rfl))
  have Hh := Lib.hid hh
  have Hinf := Lib.hid hinf
  clear hh hinf
  cases hm : p.mayB with
  | false =>
    have hs : segsP p = 0 := by unfold segsP; rw [hm]; rfl
    rw [hs]
    rw [hm] at HM
    clear hs hm K0 K2
    generalize (pnL p).toArray = X at *
    go_enter Tryd.func24, Tryd.ntmps24
    go_wp2_with first
      | (refine wpList_load_row rfl 27 (.tmp 1) rfl w.heap.size rfl 27 X (0, 0) _ Hh.out Tryd.underlying27 rfl Hinf.out ?_)
    refine (HM.out _).mono ?_
    rintro e w1 ⟨rfl, b1⟩
    have hb1 := hb.trans (b1.mono (by simp))
    go_wp2
    go_ret
    exact ⟨rfl, hb1⟩
  | true =>
    obtain ⟨m0, m1, m2, m3, m4, m5⟩ := p.may_true hm
    have hs : segsP p = (p.tot + p.ch - 1) / p.ch := by unfold segsP; rw [hm]; rfl
    rw [hs]
    rw [hm] at HM
    clear hs hm
    obtain ⟨ch, wi, tot, dg⟩ := p
    simp only at K0 K2 m0 m1 m2 m3 m4 m5 ⊢
    generalize (pnL ⟨ch, wi, tot, dg⟩).toArray = X at *
    have hc0 : (ch == 0) = false := by simp; omega
    have hq0 : 0 ≤ (tot + ch - 1) / ch := Int.ediv_nonneg (by omega) (by omega)
    have hq1 : (tot + ch - 1) / ch ≤ tot + ch - 1 := Int.ediv_le_self _ (by omega)
    have hq2 : (tot + ch - 1).tdiv ch = (tot + ch - 1) / ch := Int.tdiv_eq_ediv_of_nonneg (by omega)
    generalize (tot + ch - 1) / ch = q at *
    go_enter Tryd.func24, Tryd.ntmps24
    go_wp2_with first
      | (refine wpList_load_row rfl 27 (.tmp 1) rfl w.heap.size rfl 27 X (0, 0) _ Hh.out Tryd.underlying27 rfl Hinf.out ?_)
    refine (HM.out _).mono ?_
    rintro e w1 ⟨rfl, b1⟩
    have hb1 := hb.trans (b1.mono (by simp))
    have k0 := K0.out w1 (b1.mono (by simp))
    have k2 := K2.out w1 (b1.mono (by simp))
    clear K0 K2 HM
    go_wp2
    go_ret
    exact ⟨rfl, hb1⟩
end Go.Proofs.YtmppagiaonbggaaDoor

/- A reader of package octet as it lies, and the walks over its short methods. -/
namespace Go.Proofs.YtmppagiaonbggaaDoor
set_option linter.unusedVariables false
set_option linter.unusedSimpArgs false
set_option maxRecDepth 100000
open Go.RowKit

/-- A slice value reads as these bytes, out of a block that is owned. -/
def okV (w : World) (F : Nat → Prop) (v : Value) (l : List UInt8) : Prop :=
  ∃ A c, v = .slice A l.length c ∧ l.length ≤ c ∧ c ≤ 9223372036854775807 ∧ (l ≠ [] → ∃ b off, A = some ⟨b, off, none⟩ ∧ F b ∧ ∀ j u, (bytesU l)[j]? = some u → w.cell? ⟨b, off + j, none⟩ = some u)
theorem okV.rd {w : World} {F : Nat → Prop} {v : Value} {l : List UInt8} (h : okV w F v l) : Rd w v (bytesU l) := by
  obtain ⟨A, c, rfl, _, _, h⟩ := h
  refine ⟨A, c, by rw [bytesU_length], fun hne => ?_⟩
  obtain ⟨b, off, rfl, _, hc⟩ := h (by intro e; subst e; exact hne rfl)
  exact ⟨_, rfl, fun j u hu => by rw [Addr.add_lit]; exact hc j u hu⟩
theorem okV.nil (w : World) (F : Nat → Prop) : okV w F (.slice none 0 0) [] := ⟨none, 0, rfl, Nat.le_refl _, by omega, fun h => absurd rfl h⟩
/-- Slices that read out of blocks that are owned, and that nobody writes. -/
def Rss (vs : List (Value × List UInt8)) : HP := fun w F => ∀ x ∈ vs, okV w F x.1 x.2
instance Loc.rss {B : Nat} {vs : List (Value × List UInt8)} : Loc B (Rss vs) where
  keep := fun w w' F h _ hv x hx => by
    obtain ⟨A, c, e, h1, h2, h3⟩ := hv x hx
    refine ⟨A, c, e, h1, h2, fun hne => ?_⟩
    obtain ⟨b, off, ha, hF, hc⟩ := h3 hne
    exact ⟨b, off, ha, hF, fun j u hu => (World.cell?_of_block (a := ⟨b, off + j, none⟩) (h b hF)).trans (hc j u hu)⟩
  up := fun w F F' h hv x hx => by
    obtain ⟨A, c, e, h1, h2, h3⟩ := hv x hx
    refine ⟨A, c, e, h1, h2, fun hne => ?_⟩
    obtain ⟨b, off, ha, hF, hc⟩ := h3 hne
    exact ⟨b, off, ha, h b hF, hc⟩
theorem Own.rss {B : Nat} {vs : List (Value × List UInt8)} {R : HP} {w : World} (h : Own B (Rss vs * R) w) {x : Value × List UInt8} (hx : x ∈ vs) : Rd w x.1 (bytesU x.2) := by
  obtain ⟨F, hf, F1, F2, hd, h1, h2, ha, hr⟩ := h
  exact (ha x hx).rd
theorem Own.rss_less {B : Nat} {vs vs' : List (Value × List UInt8)} {R : HP} {w : World} (h : Own B (Rss vs * R) w) (hs : ∀ x ∈ vs', x ∈ vs) : Own B (Rss vs' * R) w :=
  h.mono fun w F ⟨F1, F2, hd, h1, h2, ha, hr⟩ => ⟨F1, F2, hd, h1, h2, fun x hx => ha x (hs x hx), hr⟩
/-- A row of bytes that is owned, as what is read alone. -/
theorem Own.rss_of {B : Nat} {R : HP} {w : World} {v : Value} {l : List UInt8} (h : Own B (Rw 5 1 v l.length (bytesU l) * R) w) : Own B (Rss [(v, l)] * R) w := by
  refine h.mono fun w F ⟨F1, F2, hd, h1, h2, ha, hr⟩ => ⟨F1, F2, hd, h1, h2, fun x hx => ?_, hr⟩
  obtain rfl := List.mem_singleton.1 hx
  obtain ⟨ho, hb⟩ := ha
  rcases ho.2 with ⟨hn, h0⟩ | ⟨g, cap, cur, rfl, _, hg, h5, h6, h7, h8⟩
  · have e0 : l = [] := List.eq_nil_of_length_eq_zero h0
    subst e0
    subst hn
    exact okV.nil w F1
  · exact ⟨_, cap, rfl, h5, by simpa [maxLen] using h6, fun _ => ⟨g, 0, rfl, hb g (by simp [Value.ownBlock]), fun j u hu => by
      have := ho.cells (g := g) rfl j u hu
      rwa [Addr.add_lit] at this⟩⟩
theorem okV.at_block {w : World} {F : Nat → Prop} {A : Option Addr} {n c : Nat} {l : List UInt8} (h : okV w F (.slice A n c) l) (hne : l ≠ []) : ∀ a, A = some a → F a.block := by
  obtain ⟨A', c', e, _, _, h3⟩ := h
  injection e with e1 _ e3
  subst e1
  obtain ⟨b, off, rfl, hF, _⟩ := h3 hne
  intro a ha
  cases ha
  exact hF
def ofail (s : OS) (z : Int) : OS := if s.err = 0 then ⟨s.rest, z⟩ else s
section
variable (p : Nat) (s : OS) (vs : List (Value × List UInt8)) (B : Nat) (R : HP) (w : World)
end
end Go.Proofs.YtmppagiaonbggaaDoor

/- The walks over New and take of package octet's reader. -/
namespace Go.Proofs.YtmppagiaonbggaaDoor
set_option linter.unusedVariables false
set_option linter.unusedSimpArgs false
set_option maxRecDepth 100000
open Go.RowKit

/-- What is taken of what is left is read, too. -/
theorem okV.taken {w : World} {F : Nat → Prop} {A : Option Addr} {c : Nat} {l : List UInt8} (h : okV w F (.slice A l.length c) l) (n : Nat) (hn : n ≤ l.length) : okV w F (.slice A n n) (l.take n) := by
  obtain ⟨A', c', e, h1, h2, h3⟩ := h
  injection e with e1 _ e3
  subst e1; subst e3
  have hlen : (l.take n).length = n := by rw [List.length_take]; omega
  refine ⟨A, n, by rw [hlen], by omega, by omega, fun hne => ?_⟩
  obtain ⟨b, off, rfl, hF, hc⟩ := h3 (by intro e; subst e; simp at hne)
  refine ⟨b, off, rfl, hF, fun j u hu => hc j u ?_⟩
  unfold bytesU at hu ⊢
  rw [List.map_take, List.getElem?_take] at hu
  split at hu
  · exact hu
  · cases hu
theorem okV.left {w : World} {F : Nat → Prop} {A : Option Addr} {c : Nat} {l : List UInt8} (h : okV w F (.slice A l.length c) l) (n : Nat) (hn : n ≤ l.length) : okV w F (.slice (if c = n then A else A.map (fun x => x.add n)) (l.length - n) (c - n)) (l.drop n) := by
  obtain ⟨A', c', e, h1, h2, h3⟩ := h
  injection e with e1 _ e3
  subst e1; subst e3
  refine ⟨_, c - n, by rw [List.length_drop], by rw [List.length_drop]; omega, by omega, fun hne => ?_⟩
  have hlt : n < l.length := by
    by_cases h : n < l.length
    · exact h
    · exact absurd (List.drop_eq_nil_of_le (by omega)) hne
  obtain ⟨b, off, rfl, hF, hc⟩ := h3 (by intro e; subst e; simp at hlt)
  rw [if_neg (by omega)]
  refine ⟨b, off + n, by simp [Addr.add], hF, fun j u hu => ?_⟩
  unfold bytesU at hu
  rw [List.map_drop, List.getElem?_drop] at hu
  rw [Nat.add_assoc]
  exact hc _ _ hu

end Go.Proofs.YtmppagiaonbggaaDoor
