/- The walks over the laws PathSorted and PathLess. -/
import Derived.Test.YtmbpggmcelmgnaaDoorQl
namespace Go.Proofs.YtmbpggmcelmgnaaDoor
set_option linter.unusedVariables false
set_option linter.unusedSimpArgs false
open Go.RowKit

/-- As far as k each text may be a path, and stands behind the one ahead of it. -/
def SortedK (l : List (List UInt8)) (k : Nat) : Prop := ∀ i (h : i < l.length), i < k → okPath l[i] = true ∧ (∀ h0 : 0 < i, cmpL (psplit (l[i - 1]'(by omega))) (psplit l[i]) < 0)
def IffB (r : Bool) (p : Prop) : Prop := r = true ↔ p
theorem sortedK_all {l : List (List UInt8)} : SortedK l l.length ↔ SortedP l := ⟨fun h i hi => h i hi hi, fun h i hi _ => h i hi⟩
theorem sortedK_succ {l : List (List UInt8)} {k : Nat} (hk : k < l.length) : SortedK l (k + 1) ↔ SortedK l k ∧ okPath l[k] = true ∧ (∀ h0 : 0 < k, cmpL (psplit (l[k - 1]'(by omega))) (psplit l[k]) < 0) := by
  constructor
  · intro h
    exact ⟨fun i hi hlt => h i hi (by omega), h k hk (by omega)⟩
  · rintro ⟨h1, h2⟩ i hi hlt
    by_cases e : i = k
    · subst e; exact h2
    · exact h1 i hi (by omega)
theorem sorted_pairwise {l : List (List UInt8)} : SortedP l ↔ l.Pairwise (fun a b => cmpL (psplit a) (psplit b) < 0) ∧ ∀ x ∈ l, okPath x = true := by
  constructor
  · intro h
    refine ⟨List.pairwise_iff_getElem.2 ?_, fun x hx => ?_⟩
    · intro i j hi hj hij
      induction j with
      | zero => omega
      | succ j ih =>
        have h1 := (h (j + 1) hj).2 (by omega)
        simp only [Nat.add_sub_cancel] at h1
        by_cases e : i = j
        · subst e; exact h1
        · exact cmpL_cmp.trans _ _ _ (ih (by omega) (by omega)) h1
    · obtain ⟨i, hi, rfl⟩ := List.mem_iff_getElem.1 hx
      exact (h i hi).1
  · rintro ⟨h1, h2⟩ i hi
    exact ⟨h2 _ (List.getElem_mem hi), fun h0 => List.pairwise_iff_getElem.1 h1 (i - 1) i (by omega) hi (by omega)⟩
theorem sorted_sub {l m : List (List UInt8)} (h : SortedP l) (hs : m.Sublist l) : SortedP m := by
  obtain ⟨h1, h2⟩ := sorted_pairwise.1 h
  exact sorted_pairwise.2 ⟨h1.sublist hs, fun x hx => h2 x (hs.mem hx)⟩

set_option maxHeartbeats 3200000 in
theorem sortedlaw_walk (A : Option Addr) (c : Nat) (l : List (List UInt8)) (hl : l.length ≤ 9223372036854775807) (hx : ∀ x ∈ l, x.length ≤ 9223372036854775807) (w : World) (h : Sh w) (hr : RdS w A l) :
    Calls Tryd.prog 5 #[.slice A l.length c] w fun e w' => e = .returned (.bool true) ∧ Below w.heap.size w w' := by
  have hb := Below.refl w.heap.size w
  have Hh := Lib.hid (fun w1 (b : Below w.heap.size w w1) => sh_below h b)
  have Hr := Lib.hid (fun w1 (b : Below w.heap.size w w1) => hr.below b)
  have Hx := Lib.hid hx
  have Aw := Lib.hid (fun w1 h1 => awake_any w1 h1)
  have n1 : (l.length : Int) ≤ 9223372036854775807 := by omega
  clear h hr hx
  by_cases hlong : (40 : Int) < (l.length : Int)
  · go_enter Tryd.func5, Tryd.ntmps5
    go_wp2_with fail
    refine (Aw.out _ (Hh.out _ hb)).mono ?_
    rintro e wz ⟨rfl, b⟩
    replace hb := hb.trans (b.mono hb.size)
    clear b
    go_wp2
    go_ret
    exact ⟨rfl, hb⟩
  have n2 : (l.length : Int) ≤ 40 := by omega
  clear hlong
  go_enter Tryd.func5, Tryd.ntmps5
  go_wp2
  go_loopg [3, 12] l.length (fun k v u wr => ∃ (i : Nat) (r : Bool), k + i = l.length ∧ u = .int .i64 i ∧ v = .bool r ∧ Below w.heap.size w wr ∧ Hid (IffB r (SortedK l i)) ∧ Hid (∀ j (h : j < l.length), j < i → l[j].length ≤ 100))
  case atStart => exact ⟨0, true, by omega, rfl, rfl, hb, Lib.hid ⟨fun _ j hj hlt => by omega, fun _ => rfl⟩, Lib.hid (fun j h h2 => by omega)⟩
  case round =>
    clear hb
    obtain ⟨i, r, hk, rfl, rfl, hb, hs, hz⟩ := hrel
    by_cases hlt : (i : Int) < (l.length : Int)
    · obtain ⟨j, rfl⟩ : ∃ j, gk = j + 1 := ⟨gk - 1, by omega⟩
      have hil : i < l.length := by omega
      have i0 : (0 : Int) ≤ (i : Int) := by omega
      obtain ⟨p1, o1, rfl, q1, d1⟩ := (Hr.out _ hb).at_ i hil
      have hxi := Hx.out _ (List.getElem_mem hil)
      have hxz : ((str l[i]).size : Int) ≤ 9223372036854775807 := by show (l[i].length : Int) ≤ _; omega
      have Hk := Lib.hid hk
      clear hk hxi
      by_cases hlong : (100 : Int) < ((str l[i]).size : Int)
      · generalize l[i] = x at d1 hlong hxz
        go_wp2_with fail
        refine (Aw.out _ (Hh.out _ hb)).mono ?_
        rintro e wz ⟨rfl, b⟩
        replace hb := hb.trans (b.mono hb.size)
        clear b
        go_wp2
        go_ret
        exact ⟨rfl, hb⟩
      · have hle : l[i].length ≤ 100 := by have : (str l[i]).size = l[i].length := rfl; omega
        have hle2 : ((str l[i]).size : Int) ≤ 100 := by omega
        have hz2 : Hid (∀ j (h : j < l.length), j < i + 1 → l[j].length ≤ 100) := Lib.hid (fun j h h2 => by
          by_cases e : j = i
          · subst e; exact hle
          · exact hz.out j h (by omega))
        have hss := sortedK_succ hil
        clear hlong
        have Rr := Lib.hid (fun W => refright_any (str l[i]) (by show l[i].length ≤ _; omega) W)
        rw [data_str] at Rr
        cases r with
        | false =>
          have hs2 : Hid (IffB false <| SortedK l (i + 1)) := Lib.hid ⟨fun h => (by cases h), fun h => hs.out.2 (hss.1 h).1⟩
          clear hss hle hs Rr hz
          generalize l[i] = x at *
          go_wp2
          go_roundg j
          case measure => omega
          case rel => exact ⟨i + 1, false, by have := Hk.out; omega, rfl, rfl, hb, hs2, hz2⟩
        | true =>
        cases hok : okPath l[i] with
        | false =>
          have hs2 : Hid (IffB false <| SortedK l (i + 1)) := Lib.hid ⟨fun h => (by cases h), fun h => by have := (hss.1 h).2.1; rw [hok] at this; exact this⟩
          rw [hok] at Rr
          clear hss hle hs hz hok
          generalize l[i] = x at *
          go_wp2_with fail
          refine (Rr.out _).mono ?_
          rintro e wz ⟨rfl, b⟩
          replace hb := hb.trans (b.mono hb.size)
          clear b
          go_wp2
          go_roundg j
          case measure => omega
          case rel => exact ⟨i + 1, false, by have := Hk.out; omega, rfl, rfl, hb, hs2, hz2⟩
        | true =>
        rw [hok] at Rr
        by_cases hi0 : i = 0
        · subst hi0
          have hs2 : Hid (IffB true <| SortedK l (0 + 1)) := Lib.hid ⟨fun h => hss.2 ⟨hs.out.1 rfl, hok, fun h0 => by omega⟩, fun _ => rfl⟩
          clear hss hle hs hz hok
          generalize l[0] = x at *
          rw [Nat.add_zero] at d1
          go_wp2_with fail
          refine (Rr.out _).mono ?_
          rintro e wz ⟨rfl, b⟩
          replace hb := hb.trans (b.mono hb.size)
          clear b
          go_wp2
          go_roundg j
          case measure => omega
          case rel => exact ⟨1, true, by have := Hk.out; omega, rfl, rfl, hb, hs2, hz2⟩
        · obtain ⟨m, rfl⟩ : ∃ m, i = m + 1 := ⟨i - 1, by omega⟩
          have hm : m < l.length := by omega
          obtain ⟨p2, o2, hA, q2, d2⟩ := (Hr.out _ hb).at_ m hm
          injection hA with hA
          injection hA with hA1 hA2
          subst hA1; subst hA2
          have hzm := hz.out m hm (by omega)
          have Cm := Lib.hid (fun W => refcompare_any (str l[m]) (str l[m + 1]) (by show l[m].length ≤ _; omega) (by show l[m + 1].length ≤ _; omega) W)
          have hsy : Hid (cmpL (psplit l[m]) (psplit l[m + 1]) < 0 → IffB true (SortedK l (m + 1 + 1))) := Lib.hid (fun hlt => ⟨fun _ => hss.2 ⟨hs.out.1 rfl, hok, fun _ => hlt⟩, fun _ => rfl⟩)
          have hsn : Hid (¬ cmpL (psplit l[m]) (psplit l[m + 1]) < 0 → IffB false (SortedK l (m + 1 + 1))) := Lib.hid (fun hlt => ⟨fun h => (by cases h), fun h => absurd ((hss.1 h).2.2 (by omega)) hlt⟩)
          rw [data_str, data_str] at Cm
          clear hss hle hs hz hok hzm
          generalize cmpL (psplit l[m]) (psplit l[m + 1]) = r at *
          generalize l[m + 1] = x at *
          generalize l[m] = y at *
          have m0 : (0 : Int) ≤ (m : Int) := by omega
          have m1 : (m : Int) < (l.length : Int) := by omega
          have m2 : ((m + 1 : Nat) : Int) = (m : Int) + 1 := by omega
          rw [m2] at i0 hlt ⊢
          have m3 : (((m : Int) + 1) == 0) = false := by simp; omega
          have m4 : ¬ ((m : Int) + 1) = 0 := by omega
          clear m2
          go_wp2_with fail
          refine (Rr.out _).mono ?_
          rintro e wz ⟨rfl, b⟩
          have d2' := (b.cell (p := ⟨p1, o1 + m, none⟩) q2).trans d2
          replace hb := hb.trans (b.mono hb.size)
          clear b d1 d2
          go_wp2_with fail
          refine (Cm.out _).mono ?_
          rintro e wz ⟨rfl, b⟩
          replace hb := hb.trans (b.mono hb.size)
          clear b d2'
          by_cases hlt2 : r < 0
          · go_wp2
            go_roundg j
            case measure => omega
            case rel => exact ⟨m + 1 + 1, true, by have := Hk.out; omega, rfl, rfl, hb, Lib.hid (hsy.out (by omega)), hz2⟩
          · have hge : 0 ≤ r := by omega
            have hgd : decide (r < 0) = false := by simpa using hge
            go_wp2
            go_roundg j
            case measure => omega
            case rel => exact ⟨m + 1 + 1, false, by have := Hk.out; omega, rfl, rfl, hb, Lib.hid (hsn.out (by omega)), hz2⟩
    · obtain rfl : i = l.length := by omega
      have hsz : ∀ x ∈ l, x.length ≤ 4294967280 := fun x hx => by
        obtain ⟨j, hj, rfl⟩ := List.mem_iff_getElem.1 hx
        have := hz.out j hj hj
        omega
      have So := Lib.hid (fun W h1 hr => sorted_any A c l (by omega) hsz W h1 hr)
      have hs2 := Lib.hid ((show r = true ↔ _ from hs.out).trans sortedK_all)
      clear hs hz hsz hk
      go_wp2_with fail
      refine (So.out _ (Hh.out _ hb) (Hr.out _ hb)).mono ?_
      rintro e wz ⟨r', rfl, hr', b⟩
      obtain rfl : r = r' := by rw [Bool.eq_iff_iff]; exact hs2.out.trans hr'.symm
      replace hb := hb.trans (b.mono hb.size)
      clear b hr' hs2
      have hrr : (r == r) = true := by simp
      go_wp2_with fail
      refine (Aw.out _ (Hh.out _ hb)).mono ?_
      rintro e wz ⟨rfl, b⟩
      replace hb := hb.trans (b.mono hb.size)
      clear b
      go_wp2
      go_ret
      exact ⟨rfl, hb⟩

set_option maxHeartbeats 3200000 in
theorem less_walk (A : Option Addr) (c : Nat) (l : List (List UInt8)) (out : Int) (ho0 : 0 ≤ out) (ho1 : out < 18446744073709551616) (hl : l.length ≤ 9223372036854775807) (hx : ∀ x ∈ l, x.length ≤ 9223372036854775807) (w : World) (h : Sh w) (hr : RdS w A l) :
    Calls Tryd.prog 9 #[.slice A l.length c, .int .u64 out] w fun e w' => e = .returned (.bool true) ∧ Below w.heap.size w w' := by
  have hB : w.heap.size ≤ w.heap.size := Nat.le_refl _
  have hO := (Own.start w.heap.size w).rw_nil 9 1
  have hb := Below.refl w.heap.size w
  have Hh := Lib.hid (fun w1 (b : Below w.heap.size w w1) => sh_below h b)
  have Hr := Lib.hid (fun w1 (b : Below w.heap.size w w1) => hr.below b)
  have Hx := Lib.hid hx
  have Aw := Lib.hid (fun w1 h1 => awake_any w1 h1)
  have n1 : (l.length : Int) ≤ 9223372036854775807 := by omega
  clear h hr hx
  by_cases hlong : (40 : Int) < (l.length : Int)
  · go_enter Tryd.func9, Tryd.ntmps9
    go_wp2_with fail
    refine (Aw.out _ (Hh.out _ hb)).mono ?_
    rintro e wz ⟨rfl, b⟩
    replace hb := hb.trans (b.mono hb.size)
    clear b
    go_wp2
    go_ret
    exact ⟨rfl, hb⟩
  have n2 : (l.length : Int) ≤ 40 := by omega
  clear hlong
  go_enter Tryd.func9, Tryd.ntmps9
  go_wp2
  go_loopg [5, 14] l.length (fun k v u wr => ∃ (i : Nat) (L : List (List UInt8)) (A' : Option Addr) (c' : Nat), k + i = l.length ∧ u = .int .i64 i ∧ v = .slice A' L.length c' ∧ Below w.heap.size w wr ∧ Own w.heap.size (Rw 9 1 (.slice A' L.length c') L.length (strsV L) * Emp) wr ∧ Hid (L.Sublist (l.take i)) ∧ Hid (∀ j (h : j < l.length), j < i → l[j].length ≤ 100))
  case atStart => exact ⟨0, [], none, 0, by omega, rfl, rfl, hb, hO, Lib.hid (by simp), Lib.hid (fun j h h2 => by omega)⟩
  case round =>
    clear hb hO
    obtain ⟨i, L, A', c', hk, rfl, rfl, hb, ho, hs, hz⟩ := hrel
    have Bw : w.heap.size ≤ wr.heap.size := hb.size
    by_cases hlt : (i : Int) < (l.length : Int)
    · obtain ⟨j, rfl⟩ : ∃ j, gk = j + 1 := ⟨gk - 1, by omega⟩
      have hil : i < l.length := by omega
      have i0 : (0 : Int) ≤ (i : Int) := by omega
      obtain ⟨p1, o1, rfl, q1, d1⟩ := (Hr.out _ hb).at_ i hil
      have hxi := Hx.out _ (List.getElem_mem hil)
      have hxz : ((str l[i]).size : Int) ≤ 9223372036854775807 := by show (l[i].length : Int) ≤ _; omega
      have Hk := Lib.hid hk
      clear hk hxi
      by_cases hlong : (100 : Int) < ((str l[i]).size : Int)
      · generalize l[i] = x at d1 hlong hxz
        go_wp2_with fail
        refine (Aw.out _ (Hh.out _ hb)).mono ?_
        rintro e wz ⟨rfl, b⟩
        replace hb := hb.trans (b.mono hb.size)
        clear b
        go_wp2
        go_ret
        exact ⟨rfl, hb⟩
      · have hle : l[i].length ≤ 100 := by have : (str l[i]).size = l[i].length := rfl; omega
        have hle2 : ((str l[i]).size : Int) ≤ 100 := by omega
        have hz2 : Hid (∀ j (h : j < l.length), j < i + 1 → l[j].length ≤ 100) := Lib.hid (fun j h h2 => by
          by_cases e : j = i
          · subst e; exact hle
          · exact hz.out j h (by omega))
        have hs1 : Hid (L.Sublist (l.take (i + 1))) := Lib.hid (hs.out.trans (by rw [List.take_succ_eq_append_getElem hil]; exact List.sublist_append_left _ _))
        have hs2 : Hid ((L ++ [l[i]]).Sublist (l.take (i + 1))) := Lib.hid (by rw [List.take_succ_eq_append_getElem hil]; exact hs.out.append (List.Sublist.refl _))
        have hLl : L.length + 1 ≤ 4294967298 := by have := hs.out.length_le; rw [List.length_take] at this; omega
        obtain ⟨g2, cap2, w2, hrun, o2, b2⟩ := strs_append Bw ho l[i] hLl
        have Hrun := Lib.hid hrun
        clear hrun hlong hle hs hz hLl
        generalize l[i] = x at *
        go_wp2_with (at_builtin; refine wpList_append_run rfl (.tmp 28) (.tmp 30) 23 rfl rfl rfl Hrun.out ?_)
        all_goals
          go_roundg j
          case measure => omega
          first
            | (case rel => exact ⟨i + 1, L ++ [x], some ⟨g2, 0, none⟩, cap2, by have := Hk.out; omega, rfl, congrArg (fun n => Value.slice (some ⟨g2, 0, none⟩) n cap2) (by simp), hb.trans b2, o2, hs2, hz2⟩)
            | (case rel => exact ⟨i + 1, L, A', c', by have := Hk.out; omega, rfl, rfl, hb, ho, hs1, hz2⟩)
    · obtain rfl : i = l.length := by omega
      have hsz : ∀ x ∈ l, x.length ≤ 4294967280 := fun x hx => by
        obtain ⟨j, hj, rfl⟩ := List.mem_iff_getElem.1 hx
        have := hz.out j hj hj
        omega
      have hs' := hs.out
      rw [List.take_length] at hs'
      have So := Lib.hid (fun W h1 hr => sorted_any A c l (by omega) hsz W h1 hr)
      have Sm := Lib.hid (fun W h1 hr => sorted_any A' c' L (by have := hs'.length_le; omega) (fun x hx => hsz x (hs'.mem hx)) W h1 hr)
      have hrd : RdS wr A' L := by
        intro j hj
        obtain ⟨g, cap, hf, _⟩ := ho.row.form (by omega)
        injection hf with h1 h2 h3
        subst h1
        refine ⟨g, 0, rfl, ?_⟩
        have := ho.row.cells (g := g) rfl j (.string (str L[j])) (by simp [strsV, hj])
        rw [Addr.add_lit] at this
        exact this
      have Hrd := Lib.hid (fun w1 (b : Below wr.heap.size wr w1) => hrd.below b)
      have hsub := Lib.hid (fun h => sorted_sub (l := l) h hs')
      have n3 : (L.length : Int) ≤ 40 := by have := hs'.length_le; omega
      clear hs' hs hz hsz hk hrd ho
      go_wp2_with fail
      refine (So.out _ (Hh.out _ hb) (Hr.out _ hb)).mono ?_
      rintro e wz ⟨r, rfl, hr', b⟩
      have hrd := Lib.hid (Hrd.out _ b)
      replace hb := hb.trans (b.mono hb.size)
      clear b Hrd
      cases r with
      | false =>
        clear hr'
        go_wp2_with fail
        refine (Aw.out _ (Hh.out _ hb)).mono ?_
        rintro e wz ⟨rfl, b⟩
        replace hb := hb.trans (b.mono hb.size)
        clear b
        go_wp2
        go_ret
        exact ⟨rfl, hb⟩
      | true =>
        have hsl := hsub.out (hr'.1 rfl)
        have Hs := Lib.hid hsl
        clear hr' hsub hsl
        go_wp2_with fail
        refine (Sm.out _ (Hh.out _ hb) hrd.out).mono ?_
        rintro e wz ⟨r, rfl, hr', b⟩
        obtain rfl : r = true := hr'.2 Hs.out
        replace hb := hb.trans (b.mono hb.size)
        clear b hr'
        go_wp2_with fail
        refine (Aw.out _ (Hh.out _ hb)).mono ?_
        rintro e wz ⟨rfl, b⟩
        replace hb := hb.trans (b.mono hb.size)
        clear b
        go_wp2
        go_ret
        exact ⟨rfl, hb⟩
end Go.Proofs.YtmbpggmcelmgnaaDoor
