/- The walk over the reference's Split. -/
import Derived.Test.YtfppancidgamjaaDoorQ4
import Derived.Test.YtfppancidgamjaaDoorSl
import Derived.Test.YtfppancidgamjaaDoorMix
import Derived.Laws.OwnMore
import Derived.Maps.AppendAt
import Derived.Deep.AppendLies
namespace Go.Proofs.YtfppancidgamjaaDoor
set_option linter.unusedVariables false
set_option linter.unusedSimpArgs false
open Go.RowKit

theorem psplit_snoc_slash : ∀ l : List UInt8, psplit (l ++ [47]) = psplit l ++ [[]]
  | [] => rfl
  | c :: l => by
    have ih := psplit_snoc_slash l
    by_cases hc : c = 47
    · subst hc
      rw [List.cons_append, psplit_slash, psplit_slash, ih]
      rfl
    · obtain ⟨p, ps, hl⟩ : ∃ p ps, psplit l = p :: ps := by
        cases h : psplit l with
        | nil => exact absurd h (psplit_ne l)
        | cons p ps => exact ⟨p, ps, rfl⟩
      rw [hl] at ih
      rw [List.cons_append, psplit_other hc hl, psplit_other hc ih]
      rfl
theorem psplit_snoc : ∀ (l : List UInt8) (c : UInt8), c ≠ 47 → ∃ ini last, psplit l = ini ++ [last] ∧ psplit (l ++ [c]) = ini ++ [last ++ [c]]
  | [], c, hc => ⟨[], [], rfl, by rw [List.nil_append, psplit_other hc (show psplit [] = [] :: [] from rfl)]; rfl⟩
  | b :: l, c, hc => by
    obtain ⟨ini, last, h1, h2⟩ := psplit_snoc l c hc
    by_cases hb : b = 47
    · subst hb
      exact ⟨[] :: ini, last, by rw [psplit_slash, h1]; rfl, by rw [List.cons_append, psplit_slash, h2]; rfl⟩
    · cases ini with
      | nil => exact ⟨[], b :: last, by rw [psplit_other hb h1]; rfl, by rw [List.cons_append, psplit_other hb h2]; rfl⟩
      | cons p ps => exact ⟨(b :: p) :: ps, last, by rw [psplit_other hb h1]; rfl, by rw [List.cons_append, psplit_other hb h2]; rfl⟩

def strsV (l : List (List UInt8)) : List Value := l.map fun x => Value.string (str x)
theorem infoStr : (Tryd.prog.info? 9).map (fun i => (i.zero, i.size, i.bytes)) = some (some (.string ByteArray.empty), 1, 16) := by kernel_rfl
theorem mixed : Tryd.prog.follows .mixedOrders = true := by kernel_rfl

theorem Own.row_set {B : Nat} {R : HP} [Loc B R] {w : World} {e : TypeId} {g n cap : Nat} {xs : List Value} (hB : B ≤ w.heap.size) (h : Own B (Rw e 1 (.slice (some ⟨g, 0, none⟩) n cap) n xs * R) w) (j : Nat) (u : Value) :
    Own B (Rw e 1 (.slice (some ⟨g, 0, none⟩) n cap) n (xs.set j u) * R) (w.setCell ⟨g, j, none⟩ u) ∧ Below B w (w.setCell ⟨g, j, none⟩ u) := by
  have hrow := h.row
  have hlt := hrow.lt g (by simp [Value.ownBlock])
  refine ⟨Own.turn hB h (by simp [World.setCell]) fun F _ ⟨ho, hb⟩ => ⟨F, fun k hk => .inl hk, ⟨(World.ownsRow.stored ho j u).1, hb⟩, fun k _ hk => Below.heap_setCell _ _ _ _ (fun e => hk (by rw [show k = g from e]; exact hb g (by simp [Value.ownBlock])))⟩, (Below.refl B w).setCell (p := ⟨g, j, none⟩) hlt.1 u⟩

theorem strs_append {B : Nat} {R : HP} [Loc B R] {w : World} (hB : B ≤ w.heap.size) {v : Value} {l : List (List UInt8)} (h : Own B (Rw 9 1 v l.length (strsV l) * R) w) (x : List UInt8) (hl : l.length + 1 ≤ 4294967298) :
    ∃ g cap w', (Builtin.append_ #[78, 78] 78 #[v, .slice (some ⟨w.heap.size, 0, none⟩) 1 1]).run Tryd.prog (w.alloc (.cells #[.string (str x)] 9)) = .ok (.slice (some ⟨g, 0, none⟩) (l ++ [x]).length cap) w' ∧
      Own B (Rw 9 1 (.slice (some ⟨g, 0, none⟩) (l ++ [x]).length cap) (l ++ [x]).length (strsV (l ++ [x])) * R) w' ∧ Below B w w' := by
  obtain ⟨i0, hi, hz0, hz1, hz2⟩ := info_parts infoStr
  have h1 := h.alloc_keep hB (.cells #[.string (str x)] 9)
  have hB1 : B ≤ (w.alloc (.cells #[.string (str x)] 9)).heap.size := by simp; omega
  obtain ⟨v', w', hr, h2, h3, _, h5⟩ := run_append_own_at (P := Tryd.prog) (w.alloc (.cells #[.string (str x)] 9)) B 78 78 9 i0 _ 1 16 Tryd.underlying78 hi hz0 hz1 hz2 rfl (by omega) v l.length (strsV l) h1.row
    ⟨w.heap.size, 0, none⟩ 1 1 [.string (str x)] rfl (by
      intro j u hj
      match j, hj with
      | 0, hj => simp at hj; subst hj; simp [Addr.add]) (by intro u hu; simp at hu; subst hu; rfl) (by unfold maxLen; omega) (by omega) hB1
  have h6 := Own.appended hB1 h1 h2 h3 h5
  obtain ⟨g, cap, rfl, _⟩ := h2.form (by omega)
  have e : (l ++ [x]).length = l.length + 1 := by simp
  rw [e]
  refine ⟨g, cap, w', hr, ?_, ((Below.refl B w).alloc hB _).trans h6.2⟩
  have := h6.1
  simpa [strsV] using this

theorem wpList_append_run {P : Program} {ops : Array Oper} {Q : Exit → Act → World → Prop} {rest : List Oper} {o : Oper} {a : Act} {w w' : World} (hgd : o.guard = none) (s x : Operand) (t : TypeId) {v u v' : Value}
    (ho : o.op = .call { callee := .builtin .append, args := #[s, x], argTypes := #[t, t] }) (hs : a.eval s = v) (hx : a.eval x = u) (hr : (Builtin.append_ #[t, t] o.type #[v, u]).run P w = .ok v' w')
    (h : wpList P ops Q rest (a.put o.dst v') w') : wpList P ops Q (o :: rest) a w := by
  refine wpList_plain hgd fun K hK => ?_
  unfold Oper.wp execOp
  simp only [ho, resolve, invoke, builtin, Sem.run_bind, Sem.run_pure, Result.andThen_ok, List.map_toArray, List.map_cons, List.map_nil, hs, hx, hr]
  exact hK _ _ h

set_option maxHeartbeats 1600000 in
theorem refsplit_any (s : ByteArray) (hs : s.size ≤ 4294967296) (w : World) : Calls Tryd.prog 52 #[.string s] w fun e w' => ∃ A c, e = .returned (.slice A (psplit s.data.toList).length c) ∧ RdS w' A (psplit s.data.toList) ∧ Below w.heap.size w w' := by
  have hB : w.heap.size ≤ w.heap.size := Nat.le_refl _
  have hO := Own.start w.heap.size w
  generalize hH : w.heap.size = B at hB hO ⊢
  have hB : B ≤ w.heap.size := by omega
  clear hH
  have hsz : (s.size : Int) ≤ 4294967296 := by omega
  have o1 : Own B (Rw 9 1 (.slice (some ⟨w.heap.size, 0, none⟩) 1 1) 1 (strsV [[]]) * Emp) (w.alloc (.cells #[.string ByteArray.empty] 9)) := (hO.new hB 9 #[.string ByteArray.empty]).rw_of_bk rfl (by unfold maxLen; decide)
  have b1 := (Below.refl B w).alloc hB (.cells #[.string ByteArray.empty] 9)
  go_enter Tryd.func52, Tryd.ntmps52
  go_wp2
  go_loopg [3, 4] s.size (fun k v i wr => k ≤ s.size ∧ i = .int .i64 ((s.size : Int) - (k : Int)) ∧ ∃ (l : List (List UInt8)) (g cap : Nat), l = psplit (s.data.toList.take (s.size - k)) ∧ v = .slice (some ⟨g, 0, none⟩) l.length cap ∧ Own B (Rw 9 1 (.slice (some ⟨g, 0, none⟩) l.length cap) l.length (strsV l) * Emp) wr ∧ Below B w wr)
  case atStart => exact ⟨Nat.le_refl _, congrArg (Value.int .i64) (by omega), [[]], w.heap.size, 1, by rw [Nat.sub_self, List.take_zero]; rfl, rfl, o1, b1⟩
  case round =>
    obtain ⟨hk, rfl, l, g, cap, hl, rfl, ho, hbb⟩ := hrel
    have Bw : B ≤ wr.heap.size := Nat.le_trans hB hbb.size
    by_cases hk0 : gk ≠ 0
    · obtain ⟨j, rfl⟩ : ∃ j, gk = j + 1 := ⟨gk - 1, by omega⟩
      obtain ⟨i, hi⟩ : ∃ i : Nat, i + (j + 1) = s.size := ⟨s.size - (j + 1), by omega⟩
      have hil : i < s.size := by omega
      have e1 : (s.size : Int) - ((j + 1 : Nat) : Int) = (i : Int) := by omega
      have i0 : (0 : Int) ≤ (i : Int) := by omega
      have i1 : (i : Int) < (s.size : Int) := by omega
      rw [e1]
      clear e1
      have hll : l.length ≤ 4294967297 := by
        have := (psplit_len (s.data.toList.take (s.size - (j + 1)))).1
        rw [← hl] at this
        have h2 : (s.data.toList.take (s.size - (j + 1))).length ≤ s.data.toList.length := by rw [List.length_take]; omega
        have h3 : s.data.toList.length = s.size := rfl
        omega
      have htk : s.data.toList.take (s.size - j) = s.data.toList.take (s.size - (j + 1)) ++ [s[i]] := by
        rw [show s.size - j = i + 1 by omega, show s.size - (j + 1) = i by omega]
        rw [List.take_succ_eq_append_getElem (by exact hil)]
        rfl
      have Hll := Lib.hid hll
      have Hi := Lib.hid hi
      clear hll hi
      by_cases hc : s[i] = 47
      · have hc' : s[i].toNat = 47 := by rw [hc]; rfl
        have hl2 : psplit (s.data.toList.take (s.size - j)) = l ++ [[]] := by rw [htk, hc, psplit_snoc_slash, hl]
        have Hl2 := Lib.hid hl2
        obtain ⟨g2, cap2, w2, hrun, o2, b2⟩ := strs_append Bw ho [] (by have := Hll.out; omega)
        have Hrun := Lib.hid hrun
        clear hl hl2 htk hc hrun
        go_wp2_with (at_builtin; refine wpList_append_run rfl (.tmp 16) (.tmp 17) 78 rfl rfl rfl Hrun.out ?_)
        go_roundg j
        case measure => omega
        case rel => exact ⟨by omega, congrArg (Value.int .i64) (by have := Hi.out; omega), l ++ [[]], g2, cap2, Hl2.out.symm, by rw [List.length_append]; rfl, o2, hbb.trans b2⟩
      · obtain ⟨ini, last, p1, p2⟩ := psplit_snoc (s.data.toList.take (s.size - (j + 1))) s[i] hc
        rw [← hl] at p1
        rw [← htk] at p2
        obtain ⟨m, hm⟩ : ∃ m, ini.length = m := ⟨_, rfl⟩
        have hlm : l.length = m + 1 := by rw [p1, List.length_append, hm]; rfl
        have hc' : ¬ s[i].toNat = 47 := fun h => hc (UInt8.toNat_inj.1 h)
        have hcell : (strsV l)[m]? = some (.string (str last)) := by
          rw [p1]
          simp [strsV, ← hm]
        have hset : ∀ x : List UInt8, (strsV l).set m (.string (str x)) = strsV (ini ++ [x]) := fun x => by
          rw [p1]
          simp [strsV, List.set_append, ← hm]
        have hadd : str last ++ s.extract i (i + 1) = str (last ++ [s[i]]) := by
          have e0 : s.extract i (i + 1) = str [s[i]] := by
            refine Go.WideShapes.bytes_inj ?_
            rw [Lib.extract_data]
            have hil' : i < s.data.toList.length := hil
            rw [List.drop_eq_getElem_cons hil', show i + 1 - i = 1 by omega]
            rfl
          rw [e0]
          rfl
        have hz : (str last).size + (s.extract i (i + 1)).size ≤ 9223372036854775807 := by
          have h1 : last ∈ psplit (s.data.toList.take (s.size - (j + 1))) := by rw [← hl, p1]; simp
          have h2 := (psplit_len (s.data.toList.take (s.size - (j + 1)))).2 last h1
          rw [List.length_take] at h2
          have h3 : s.data.toList.length = s.size := rfl
          have h4 : (str last).size = last.length := rfl
          have h5 : (s.extract i (i + 1)).size ≤ i + 1 := by rw [ByteArray.size_extract]; omega
          omega
        have hraw := fun W => run_string_add_sum (P := Tryd.prog) (w := W) (str last) (s.extract i (i + 1)) hz
        rw [hadd] at hraw
        have Hm := Lib.hid hm
        have Hp2 := Lib.hid p2
        have Hset := Lib.hid hset
        have Hcell := Lib.hid hcell
        rw [hlm] at ho ⊢
        have Hlm := Lib.hid hlm
        have hmm : (m : Int) ≤ 4294967296 := by have := Hll.out; omega
        have m0 : (0 : Int) ≤ (m : Int) := by omega
        have m2 : (m : Int) < (m : Int) + 1 := by omega
        have i2 : (i : Int) + 1 ≤ (s.size : Int) := by omega
        have i3 : (0 : Int) ≤ (i : Int) + 1 := by omega
        have i4 : (i : Int) ≤ (i : Int) + 1 := by omega
        clear hl htk hc hm p1 p2 hset hcell hlm
        go_wp2
        refine wp_region_mix (St B _ wr) [0, 1, 2, 3, 4, 5, 6, 7, 8, 9, 10, 11, 12, 13, 14, 15, 16] [17] mixed (by kernel_rfl) rfl (St.drew Bw ho) ?_
        simp only [List.filterMap_cons, List.filterMap_nil, List.getElem?_toArray, List.getElem?_cons_succ, List.getElem?_cons_zero]
        repeat (first
          | (refine held_val ?_ rfl (fun w1 hS => ?_) ?_
             rotate_left
             · (have k0 : w1.cell? ⟨g, m, none⟩ = some (.string (str last)) := (hS.2.1.row.cellAt m (by omega)).trans Hcell.out
                go_simp
                try go_bits
                rfl)
             simp only [Act.put, List.setIfInBounds_toArray, List.set_cons_zero, List.set_cons_succ])
          | (refine held_off rfl ?_
             simp only [Act.put, List.setIfInBounds_toArray, List.set_cons_zero, List.set_cons_succ]))
        refine held_nil (fun w4 hS => ?_)
        obtain ⟨k2, k3, k4⟩ := hS
        have k0 : w4.cell? ⟨g, m, none⟩ = some (.string (str last)) := (k3.row.cellAt m (by omega)).trans Hcell.out
        have z0 := k3.row.frozenAt m
        have s0 := k3.row_set k2 m (.string (str (last ++ [s[i]])))
        rw [Hset.out] at s0
        go_wp2
        go_roundg j
        case measure => omega
        case rel =>
          have hlen : (ini ++ [last ++ [s[i]]]).length = m + 1 := by rw [List.length_append, Hm.out]; rfl
          refine ⟨by omega, congrArg (Value.int .i64) (by have := Hi.out; omega), ini ++ [last ++ [s[i]]], g, cap, Hp2.out.symm, by rw [hlen], ?_, (hbb.trans k4).trans s0.2⟩
          rw [hlen]
          exact s0.1
    · obtain rfl : gk = 0 := by omega
      go_wp2
      go_ret
      rw [Nat.sub_zero, List.take_of_length_le (by show s.data.toList.length ≤ s.size; exact Nat.le_refl _)] at hl
      subst hl
      refine ⟨_, _, rfl, fun i hi => ⟨g, 0, rfl, ?_⟩, hbb⟩
      have := ho.row.cells (g := g) rfl i (.string (str (psplit s.data.toList)[i])) (by simp [strsV, hi])
      rw [Addr.add_lit] at this
      exact this
end Go.Proofs.YtfppancidgamjaaDoor
