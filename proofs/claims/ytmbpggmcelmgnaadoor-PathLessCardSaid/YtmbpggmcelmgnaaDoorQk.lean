/- The walks over the laws PathTogether, PathParents. -/
import Derived.Test.YtmbpggmcelmgnaaDoorQj
namespace Go.Proofs.YtmbpggmcelmgnaaDoor
set_option linter.unusedVariables false
set_option linter.unusedSimpArgs false
open Go.RowKit

theorem below_ok {s p : List UInt8} (h : below s p = true) : 0 ≤ cmpL (psplit s) (psplit p) := by
  obtain ⟨_, _, t, ht⟩ := (below_psplit s p).1 h
  have h1 := (lexC_prefix cmpT_cmp (psplit p) t).1
  rw [ht, ← cmpL_lex] at h1
  have := cmpL_cmp.neg (psplit p) (psplit s)
  omega
theorem below_between {a b c p : List UInt8} (h1 : below a p = true) (h2 : below c p = true) (hb : okPath b = true) (h3 : cmpL (psplit a) (psplit b) ≤ 0) (h4 : cmpL (psplit b) (psplit c) ≤ 0) : below b p = true := by
  obtain ⟨_, p2, p3⟩ := (below_psplit a p).1 h1
  obtain ⟨_, _, p4⟩ := (below_psplit c p).1 h2
  rw [cmpL_lex] at h3 h4
  exact (below_psplit b p).2 ⟨hb, p2, lexC_between cmpT_cmp _ _ _ _ p3 p4 h3 h4⟩

set_option maxHeartbeats 1600000 in
theorem together_walk (p a b c : ByteArray) (hp : p.size ≤ 9223372036854775807) (ha : a.size ≤ 9223372036854775807) (hb' : b.size ≤ 9223372036854775807) (hc' : c.size ≤ 9223372036854775807) (w : World) (h : Sh w) : Calls Tryd.prog 6 #[.string p, .string a, .string b, .string c] w fun e w' => e = .returned (.bool true) ∧ Below w.heap.size w w' := by
  have hb := Below.refl w.heap.size w
  have Hh := Lib.hid (fun w1 (b : Below w.heap.size w w1) => sh_below h b)
  have Aw := Lib.hid (fun w1 h1 => awake_any w1 h1)
  have pz : (p.size : Int) ≤ 9223372036854775807 := by omega
  have az : (a.size : Int) ≤ 9223372036854775807 := by omega
  have bz : (b.size : Int) ≤ 9223372036854775807 := by omega
  have cz : (c.size : Int) ≤ 9223372036854775807 := by omega
  clear h
  by_cases hlong : (400 : Int) < (p.size : Int) ∨ (400 : Int) < (a.size : Int) ∨ (400 : Int) < (b.size : Int) ∨ (400 : Int) < (c.size : Int)
  · have h3 : (400 : Int) < (p.size : Int) ∨ ((p.size : Int) ≤ 400 ∧ (400 : Int) < (a.size : Int)) ∨ ((p.size : Int) ≤ 400 ∧ (a.size : Int) ≤ 400 ∧ (400 : Int) < (b.size : Int)) ∨ ((p.size : Int) ≤ 400 ∧ (a.size : Int) ≤ 400 ∧ (b.size : Int) ≤ 400 ∧ (400 : Int) < (c.size : Int)) := by omega
    clear hlong
    rcases h3 with h1 | ⟨h1, h2⟩ | ⟨h1, h2, h3⟩ | ⟨h1, h2, h3, h4⟩
    all_goals
      go_enter Tryd.func6, Tryd.ntmps6
      go_wp2_with fail
      refine (Aw.out _ (Hh.out _ hb)).mono ?_
      rintro e wz ⟨rfl, b⟩
      replace hb := hb.trans (b.mono hb.size)
      clear b
      go_wp2
      go_ret
      exact ⟨rfl, hb⟩
  · have lp : (p.size : Int) ≤ 400 := by omega
    have la : (a.size : Int) ≤ 400 := by omega
    have lb : (b.size : Int) ≤ 400 := by omega
    have lc : (c.size : Int) ≤ 400 := by omega
    clear hlong
    have Ra := Lib.hid (fun w1 => refright_any b (by omega) w1)
    have B1 := Lib.hid (fun w1 h1 => below_any a p (by omega) (by omega) w1 h1)
    have B2 := Lib.hid (fun w1 h1 => below_any c p (by omega) (by omega) w1 h1)
    have B3 := Lib.hid (fun w1 h1 => below_any b p (by omega) (by omega) w1 h1)
    have Cap := Lib.hid (fun w1 h1 => compare_any a p (by omega) (by omega) w1 h1)
    have Ccp := Lib.hid (fun w1 h1 => compare_any c p (by omega) (by omega) w1 h1)
    have Cab := Lib.hid (fun w1 h1 => compare_any a b (by omega) (by omega) w1 h1)
    have Cbc := Lib.hid (fun w1 h1 => compare_any b c (by omega) (by omega) w1 h1)
    have p1 := @below_ok a.data.toList p.data.toList
    have p2 := @below_ok c.data.toList p.data.toList
    have p3 := @below_between a.data.toList b.data.toList c.data.toList p.data.toList
    generalize cmpL (psplit a.data.toList) (psplit p.data.toList) = x1 at *
    generalize cmpL (psplit c.data.toList) (psplit p.data.toList) = x2 at *
    generalize cmpL (psplit a.data.toList) (psplit b.data.toList) = x at *
    generalize cmpL (psplit b.data.toList) (psplit c.data.toList) = y at *
    generalize below a.data.toList p.data.toList = t1 at *
    generalize below c.data.toList p.data.toList = t2 at *
    generalize below b.data.toList p.data.toList = t3 at *
    generalize okPath b.data.toList = ok at *
    cases ok
    · clear p1 p2 p3
      go_enter Tryd.func6, Tryd.ntmps6
      go_wp2_with fail
      refine (Ra.out _).mono ?_
      rintro e wz ⟨rfl, b⟩
      replace hb := hb.trans (b.mono hb.size)
      clear b
      go_wp2_with fail
      refine (Aw.out _ (Hh.out _ hb)).mono ?_
      rintro e wz ⟨rfl, b⟩
      replace hb := hb.trans (b.mono hb.size)
      clear b
      go_wp2
      go_ret
      exact ⟨rfl, hb⟩
    cases t1
    · clear p1 p2 p3
      go_enter Tryd.func6, Tryd.ntmps6
      go_wp2_with fail
      refine (Ra.out _).mono ?_
      rintro e wz ⟨rfl, b⟩
      replace hb := hb.trans (b.mono hb.size)
      clear b
      go_wp2_with fail
      refine (B1.out _ (Hh.out _ hb)).mono ?_
      rintro e wz ⟨rfl, b⟩
      replace hb := hb.trans (b.mono hb.size)
      clear b
      go_wp2_with fail
      refine (Aw.out _ (Hh.out _ hb)).mono ?_
      rintro e wz ⟨rfl, b⟩
      replace hb := hb.trans (b.mono hb.size)
      clear b
      go_wp2
      go_ret
      exact ⟨rfl, hb⟩
    cases t2
    · clear p1 p2 p3
      go_enter Tryd.func6, Tryd.ntmps6
      go_wp2_with fail
      refine (Ra.out _).mono ?_
      rintro e wz ⟨rfl, b⟩
      replace hb := hb.trans (b.mono hb.size)
      clear b
      go_wp2_with fail
      refine (B1.out _ (Hh.out _ hb)).mono ?_
      rintro e wz ⟨rfl, b⟩
      replace hb := hb.trans (b.mono hb.size)
      clear b
      go_wp2_with fail
      refine (B2.out _ (Hh.out _ hb)).mono ?_
      rintro e wz ⟨rfl, b⟩
      replace hb := hb.trans (b.mono hb.size)
      clear b
      go_wp2_with fail
      refine (Aw.out _ (Hh.out _ hb)).mono ?_
      rintro e wz ⟨rfl, b⟩
      replace hb := hb.trans (b.mono hb.size)
      clear b
      go_wp2
      go_ret
      exact ⟨rfl, hb⟩
    replace p1 := p1 rfl
    replace p2 := p2 rfl
    have h3 : 0 < x ∨ (x ≤ 0 ∧ 0 < y) ∨ (x ≤ 0 ∧ y ≤ 0 ∧ t3 = true) := by
      by_cases h1 : 0 < x
      · exact .inl h1
      · by_cases h2 : 0 < y
        · exact .inr (.inl ⟨by omega, h2⟩)
        · exact .inr (.inr ⟨by omega, by omega, p3 rfl rfl rfl (by omega) (by omega)⟩)
    clear p3
    rcases h3 with h1 | ⟨h1, h2⟩ | ⟨h1, h2, rfl⟩
    · go_enter Tryd.func6, Tryd.ntmps6
      go_wp2_with fail
      refine (Ra.out _).mono ?_
      rintro e wz ⟨rfl, b⟩
      replace hb := hb.trans (b.mono hb.size)
      clear b
      go_wp2_with fail
      refine (B1.out _ (Hh.out _ hb)).mono ?_
      rintro e wz ⟨rfl, b⟩
      replace hb := hb.trans (b.mono hb.size)
      clear b
      go_wp2_with fail
      refine (B2.out _ (Hh.out _ hb)).mono ?_
      rintro e wz ⟨rfl, b⟩
      replace hb := hb.trans (b.mono hb.size)
      clear b
      go_wp2_with fail
      refine (Cap.out _ (Hh.out _ hb)).mono ?_
      rintro e wz ⟨rfl, b⟩
      replace hb := hb.trans (b.mono hb.size)
      clear b
      go_wp2_with fail
      refine (Ccp.out _ (Hh.out _ hb)).mono ?_
      rintro e wz ⟨rfl, b⟩
      replace hb := hb.trans (b.mono hb.size)
      clear b
      go_wp2_with fail
      refine (Cab.out _ (Hh.out _ hb)).mono ?_
      rintro e wz ⟨rfl, b⟩
      replace hb := hb.trans (b.mono hb.size)
      clear b
      go_wp2_with fail
      refine (Aw.out _ (Hh.out _ hb)).mono ?_
      rintro e wz ⟨rfl, b⟩
      replace hb := hb.trans (b.mono hb.size)
      clear b
      go_wp2
      go_ret
      exact ⟨rfl, hb⟩
    · go_enter Tryd.func6, Tryd.ntmps6
      go_wp2_with fail
      refine (Ra.out _).mono ?_
      rintro e wz ⟨rfl, b⟩
      replace hb := hb.trans (b.mono hb.size)
      clear b
      go_wp2_with fail
      refine (B1.out _ (Hh.out _ hb)).mono ?_
      rintro e wz ⟨rfl, b⟩
      replace hb := hb.trans (b.mono hb.size)
      clear b
      go_wp2_with fail
      refine (B2.out _ (Hh.out _ hb)).mono ?_
      rintro e wz ⟨rfl, b⟩
      replace hb := hb.trans (b.mono hb.size)
      clear b
      go_wp2_with fail
      refine (Cap.out _ (Hh.out _ hb)).mono ?_
      rintro e wz ⟨rfl, b⟩
      replace hb := hb.trans (b.mono hb.size)
      clear b
      go_wp2_with fail
      refine (Ccp.out _ (Hh.out _ hb)).mono ?_
      rintro e wz ⟨rfl, b⟩
      replace hb := hb.trans (b.mono hb.size)
      clear b
      go_wp2_with fail
      refine (Cab.out _ (Hh.out _ hb)).mono ?_
      rintro e wz ⟨rfl, b⟩
      replace hb := hb.trans (b.mono hb.size)
      clear b
      go_wp2_with fail
      refine (Cbc.out _ (Hh.out _ hb)).mono ?_
      rintro e wz ⟨rfl, b⟩
      replace hb := hb.trans (b.mono hb.size)
      clear b
      go_wp2_with fail
      refine (Aw.out _ (Hh.out _ hb)).mono ?_
      rintro e wz ⟨rfl, b⟩
      replace hb := hb.trans (b.mono hb.size)
      clear b
      go_wp2
      go_ret
      exact ⟨rfl, hb⟩
    · go_enter Tryd.func6, Tryd.ntmps6
      go_wp2_with fail
      refine (Ra.out _).mono ?_
      rintro e wz ⟨rfl, b⟩
      replace hb := hb.trans (b.mono hb.size)
      clear b
      go_wp2_with fail
      refine (B1.out _ (Hh.out _ hb)).mono ?_
      rintro e wz ⟨rfl, b⟩
      replace hb := hb.trans (b.mono hb.size)
      clear b
      go_wp2_with fail
      refine (B2.out _ (Hh.out _ hb)).mono ?_
      rintro e wz ⟨rfl, b⟩
      replace hb := hb.trans (b.mono hb.size)
      clear b
      go_wp2_with fail
      refine (Cap.out _ (Hh.out _ hb)).mono ?_
      rintro e wz ⟨rfl, b⟩
      replace hb := hb.trans (b.mono hb.size)
      clear b
      go_wp2_with fail
      refine (Ccp.out _ (Hh.out _ hb)).mono ?_
      rintro e wz ⟨rfl, b⟩
      replace hb := hb.trans (b.mono hb.size)
      clear b
      go_wp2_with fail
      refine (Cab.out _ (Hh.out _ hb)).mono ?_
      rintro e wz ⟨rfl, b⟩
      replace hb := hb.trans (b.mono hb.size)
      clear b
      go_wp2_with fail
      refine (Cbc.out _ (Hh.out _ hb)).mono ?_
      rintro e wz ⟨rfl, b⟩
      replace hb := hb.trans (b.mono hb.size)
      clear b
      go_wp2_with fail
      refine (B3.out _ (Hh.out _ hb)).mono ?_
      rintro e wz ⟨rfl, b⟩
      replace hb := hb.trans (b.mono hb.size)
      clear b
      go_wp2_with fail
      refine (Aw.out _ (Hh.out _ hb)).mono ?_
      rintro e wz ⟨rfl, b⟩
      replace hb := hb.trans (b.mono hb.size)
      clear b
      go_wp2
      go_ret
      exact ⟨rfl, hb⟩

theorem last_slash : ∀ s : List UInt8, 47 ∉ s ∨ ∃ a b, s = a ++ 47 :: b ∧ 47 ∉ b
  | [] => .inl (by simp)
  | c :: l => by
    rcases last_slash l with h | ⟨a, b, rfl, hb⟩
    · by_cases hc : c = 47
      · subst hc
        exact .inr ⟨[], l, rfl, h⟩
      · exact .inl (by simp [h, Ne.symm hc])
    · exact .inr ⟨c :: a, b, rfl, hb⟩
theorem okPath_parts {s : List UInt8} : okPath s = true ↔ s.length ≤ 256 ∧ ∀ x ∈ psplit s, okPart x = true := by
  unfold okPath
  rw [Bool.and_eq_true, decide_eq_true_eq, List.all_eq_true]
theorem parent_cut {a b : List UInt8} (h : 47 ∉ b) : parent (a ++ 47 :: b) = a ∧ psplit (a ++ 47 :: b) = psplit a ++ [b] := by
  have h1 : psplit (a ++ 47 :: b) = psplit a ++ [b] := by rw [psplit_join, psplit_free _ h]
  exact ⟨by unfold parent; rw [h1, List.dropLast_concat, pjoin_psplit], h1⟩
theorem parents_law (s : List UInt8) (h : okPath s = true) : (parentOf s = [] ∧ (psplit s).length = 1) ∨
    (parentOf s ≠ [] ∧ okPath (parentOf s) = true ∧ below s (parentOf s) = true ∧ below (parentOf s) s = false ∧ (psplit (parentOf s)).length + 1 = (psplit s).length ∧ cmpL (psplit (parentOf s)) (psplit s) < 0) := by
  rw [parentOf_good h]
  rcases last_slash s with h1 | ⟨a, b, rfl, hb⟩
  · have h2 := psplit_free s h1
    exact .inl ⟨by unfold parent; rw [h2]; rfl, by rw [h2]; rfl⟩
  · obtain ⟨h1, h2⟩ := parent_cut (a := a) hb
    rw [h1]
    obtain ⟨k1, k2⟩ := okPath_parts.1 h
    rw [h2] at k2
    have oka : okPath a = true := okPath_parts.2 ⟨by simp at k1; omega, fun x hx => k2 x (List.mem_append_left _ hx)⟩
    refine .inr ⟨?_, oka, (below_psplit _ _).2 ⟨h, oka, ?_⟩, ?_, ?_, ?_⟩
    · rintro rfl
      have := k2 [] (List.mem_append_left _ (by simp [psplit]))
      revert this; decide
    · rw [h2]; exact List.prefix_append _ _
    · cases hx : below a (a ++ 47 :: b) with
      | false => rfl
      | true =>
        have := ((below_psplit _ _).1 hx).2.2.length_le
        rw [h2] at this; rw [List.length_append] at this; simp at this; omega
    · rw [h2]; simp
    · rw [h2, cmpL_lex]
      exact (lexC_prefix cmpT_cmp (psplit a) [b]).2 (by simp)

set_option maxHeartbeats 1600000 in
theorem parents_walk (s : ByteArray) (hs : s.size ≤ 9223372036854775807) (w : World) (h : Sh w) : Calls Tryd.prog 7 #[.string s] w fun e w' => e = .returned (.bool true) ∧ Below w.heap.size w w' := by
  have hb := Below.refl w.heap.size w
  have Hh := Lib.hid (fun w1 (b : Below w.heap.size w w1) => sh_below h b)
  have Aw := Lib.hid (fun w1 h1 => awake_any w1 h1)
  have sz : (s.size : Int) ≤ 9223372036854775807 := by omega
  clear h
  by_cases hl : (400 : Int) < (s.size : Int)
  · go_enter Tryd.func7, Tryd.ntmps7
    go_wp2_with fail
    refine (Aw.out _ (Hh.out _ hb)).mono ?_
    rintro e wz ⟨rfl, b⟩
    replace hb := hb.trans (b.mono hb.size)
    clear b
    go_wp2
    go_ret
    exact ⟨rfl, hb⟩
  · have ls : (s.size : Int) ≤ 400 := by omega
    have R := Lib.hid (fun w1 h1 => right_any s (by omega) w1 h1)
    have hlaw := parents_law s.data.toList
    have n1 := (psplit_len s.data.toList).1
    have n2 : s.data.toList.length = s.size := rfl
    cases hok : okPath s.data.toList with
    | false =>
      rw [hok] at R
      clear hlaw n1 n2 hok
      go_enter Tryd.func7, Tryd.ntmps7
      go_wp2_with fail
      refine (R.out _ (Hh.out _ hb)).mono ?_
      rintro e wz ⟨rfl, b⟩
      replace hb := hb.trans (b.mono hb.size)
      clear b
      go_wp2_with fail
      refine (Aw.out _ (Hh.out _ hb)).mono ?_
      rintro e wz ⟨rfl, b⟩
      replace hb := hb.trans (b.mono hb.size)
      clear b
      go_wp2
      go_ret
      exact ⟨rfl, hb⟩
    | true =>
      have hpl : (parentOf s.data.toList).length ≤ 400 := by
        rw [parentOf_good hok]; unfold parent
        have h1 := pjoin_len (psplit s.data.toList).dropLast
        have h2 := psplit_sum s.data.toList
        rw [List.dropLast_eq_take] at h1 ⊢
        have h3 := sum_take_le ((psplit s.data.toList).map List.length) ((psplit s.data.toList).length - 1)
        rw [← List.map_take] at h3
        have h4 : ((psplit s.data.toList).take ((psplit s.data.toList).length - 1)).length = (psplit s.data.toList).length - 1 := by rw [List.length_take]; omega
        have h5 := List.length_pos_iff.2 (psplit_ne s.data.toList)
        omega
      have hpt : partsOf s.data.toList = psplit s.data.toList := by unfold partsOf; rw [hok]; rfl
      have P0 := Lib.hid (fun w1 h1 => parts_any s (by omega) w1 h1)
      rw [hpt] at P0
      have Pa := Lib.hid (fun w1 h1 => parent_any s (by omega) w1 h1)
      rw [hok] at R
      rcases hlaw hok with ⟨q1, q2⟩ | ⟨q1, q2, q3, q4, q5, q6⟩
      · rw [q1] at Pa
        rw [q2] at P0
        rw [show str [] = (⟨#[]⟩ : ByteArray) from rfl] at Pa
        clear hlaw n1 n2 hok hpl hpt q1 q2
        go_enter Tryd.func7, Tryd.ntmps7
        go_wp2_with fail
        refine (R.out _ (Hh.out _ hb)).mono ?_
        rintro e wz ⟨rfl, b⟩
        replace hb := hb.trans (b.mono hb.size)
        clear b
        go_wp2_with fail
        refine (Pa.out _ (Hh.out _ hb)).mono ?_
        rintro e wz ⟨rfl, b⟩
        replace hb := hb.trans (b.mono hb.size)
        clear b
        go_wp2_with fail
        refine (P0.out _ (Hh.out _ hb)).mono ?_
        rintro e wz ⟨A, c, rfl, _, b⟩
        replace hb := hb.trans (b.mono hb.size)
        clear b
        go_wp2_with fail
        refine (Aw.out _ (Hh.out _ hb)).mono ?_
        rintro e wz ⟨rfl, b⟩
        replace hb := hb.trans (b.mono hb.size)
        clear b
        go_wp2
        go_ret
        exact ⟨rfl, hb⟩
      · have hpt2 : partsOf (parentOf s.data.toList) = psplit (parentOf s.data.toList) := by unfold partsOf; rw [q2]; rfl
        have n3 := (psplit_len (parentOf s.data.toList)).1
        have Rp := Lib.hid (fun w1 h1 => right_any (str (parentOf s.data.toList)) (by show (parentOf s.data.toList).length ≤ _; omega) w1 h1)
        have P1 := Lib.hid (fun w1 h1 => parts_any (str (parentOf s.data.toList)) (by show (parentOf s.data.toList).length ≤ _; omega) w1 h1)
        have B1 := Lib.hid (fun w1 h1 => below_any s (str (parentOf s.data.toList)) (by omega) (by show (parentOf s.data.toList).length ≤ _; omega) w1 h1)
        have B2 := Lib.hid (fun w1 h1 => below_any (str (parentOf s.data.toList)) s (by show (parentOf s.data.toList).length ≤ _; omega) (by omega) w1 h1)
        have C1 := Lib.hid (fun w1 h1 => compare_any (str (parentOf s.data.toList)) s (by show (parentOf s.data.toList).length ≤ _; omega) (by omega) w1 h1)
        rw [data_str, q2] at Rp
        rw [data_str, hpt2] at P1
        rw [data_str] at B1 B2 C1
        rw [q3] at B1
        rw [q4] at B2
        rw [← q5] at P0
        generalize cmpL (psplit (parentOf s.data.toList)) (psplit s.data.toList) = x at *
        generalize hm : (psplit (parentOf s.data.toList)).length = m at *
        have m1 : (m : Int) ≤ 401 := by omega
        have hne : ¬ (str (parentOf s.data.toList)).toList = [] := by rw [ByteArray.toList_eq]; exact q1
        have hne2 : (str (parentOf s.data.toList)).toList.isEmpty = false := by simpa using hne
        generalize parentOf s.data.toList = p at *
        clear hlaw n1 n2 hok hpl hpt q1 q2 q3 q4 q5 hpt2 n3 hm
        go_enter Tryd.func7, Tryd.ntmps7
        go_wp2_with fail
        refine (R.out _ (Hh.out _ hb)).mono ?_
        rintro e wz ⟨rfl, b⟩
        replace hb := hb.trans (b.mono hb.size)
        clear b
        go_wp2_with fail
        refine (Pa.out _ (Hh.out _ hb)).mono ?_
        rintro e wz ⟨rfl, b⟩
        replace hb := hb.trans (b.mono hb.size)
        clear b
        go_wp2_with fail
        refine (Rp.out _ (Hh.out _ hb)).mono ?_
        rintro e wz ⟨rfl, b⟩
        replace hb := hb.trans (b.mono hb.size)
        clear b
        go_wp2_with fail
        refine (B1.out _ (Hh.out _ hb)).mono ?_
        rintro e wz ⟨rfl, b⟩
        replace hb := hb.trans (b.mono hb.size)
        clear b
        go_wp2_with fail
        refine (B2.out _ (Hh.out _ hb)).mono ?_
        rintro e wz ⟨rfl, b⟩
        replace hb := hb.trans (b.mono hb.size)
        clear b
        go_wp2_with fail
        refine (P1.out _ (Hh.out _ hb)).mono ?_
        rintro e wz ⟨A, c, rfl, _, b⟩
        replace hb := hb.trans (b.mono hb.size)
        clear b
        go_wp2_with fail
        refine (P0.out _ (Hh.out _ hb)).mono ?_
        rintro e wz ⟨A', c', rfl, _, b⟩
        replace hb := hb.trans (b.mono hb.size)
        clear b
        go_wp2_with fail
        refine (C1.out _ (Hh.out _ hb)).mono ?_
        rintro e wz ⟨rfl, b⟩
        replace hb := hb.trans (b.mono hb.size)
        clear b
        go_wp2_with fail
        refine (Aw.out _ (Hh.out _ hb)).mono ?_
        rintro e wz ⟨rfl, b⟩
        replace hb := hb.trans (b.mono hb.size)
        clear b
        go_wp2
        go_ret
        exact ⟨rfl, hb⟩
end Go.Proofs.YtmbpggmcelmgnaaDoor
