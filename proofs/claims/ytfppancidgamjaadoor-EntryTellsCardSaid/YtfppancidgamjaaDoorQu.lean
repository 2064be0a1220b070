/- The walk over the reference's Compare. -/
import Derived.Test.YtfppancidgamjaaDoorQt
namespace Go.Proofs.YtfppancidgamjaaDoor
set_option linter.unusedVariables false
set_option linter.unusedSimpArgs false
open Go.RowKit

theorem cmpL_lex : ∀ a b, cmpL a b = lexC cmpT a b
  | [], [] => rfl
  | [], _ :: _ => rfl
  | _ :: _, [] => rfl
  | x :: xs, y :: ys => by
    show (if cmpT x y = 0 then cmpL xs ys else cmpT x y) = (if cmpT x y = 0 then lexC cmpT xs ys else cmpT x y)
    rw [cmpL_lex xs ys]
theorem lexC_congr {α : Type} {c d : α → α → Int} (h : ∀ x y, c x y = d x y) : ∀ a b, lexC c a b = lexC d a b
  | [], [] => rfl
  | [], _ :: _ => rfl
  | _ :: _, [] => rfl
  | x :: xs, y :: ys => by
    unfold lexC
    rw [h x y, lexC_congr h xs ys]
theorem cmpT_cmp : Cmp cmpT := by
  have : cmpT = lexC cmpB := by funext a b; exact cmpT_lex a b
  rw [this]; exact lexC_cmp cmpB_cmp
theorem cmpL_cmp : Cmp cmpL := by
  have : cmpL = lexC cmpT := by funext a b; exact cmpL_lex a b
  rw [this]; exact lexC_cmp cmpT_cmp
theorem RdS.at_ {W : World} {A : Option Addr} {l : List (List UInt8)} (h : RdS W A l) (i : Nat) (hi : i < l.length) : ∃ b off, A = some ⟨b, off, none⟩ ∧ b < W.heap.size ∧ W.cell? ⟨b, off + i, none⟩ = some (.string (str l[i])) := by
  obtain ⟨b, off, ha, hc⟩ := h i hi
  exact ⟨b, off, ha, World.block_lt_of_cell? W _ hc, hc⟩

set_option maxHeartbeats 1600000 in
theorem refcompare_any (a b : ByteArray) (ha : a.size ≤ 4294967280) (hb : b.size ≤ 4294967280) (w : World) : Calls Tryd.prog 37 #[.string a, .string b] w fun e w' => e = .returned (.int .i64 (cmpL (psplit a.data.toList) (psplit b.data.toList))) ∧ Below w.heap.size w w' := by
  obtain ⟨ha1, ha3⟩ := psplit_len a.data.toList
  obtain ⟨hb1, hb3⟩ := psplit_len b.data.toList
  have ha2 : a.data.toList.length = a.size := rfl
  have hb2 : b.data.toList.length = b.size := rfl
  have Hs := Lib.hid (fun w1 => refsplit_any a (by omega) w1)
  have Ht := Lib.hid (fun w1 => refsplit_any b (by omega) w1)
  have X1 : Hid (∀ x ∈ psplit a.data.toList, x.length ≤ 4294967296) := Lib.hid (fun x hx => by have := ha3 x hx; omega)
  have X2 : Hid (∀ x ∈ psplit b.data.toList, x.length ≤ 4294967296) := Lib.hid (fun x hx => by have := hb3 x hx; omega)
  rw [cmpL_lex]
  have n1 : ((psplit a.data.toList).length : Int) ≤ 4294967296 := by omega
  have n2 : ((psplit b.data.toList).length : Int) ≤ 4294967296 := by omega
  clear ha1 ha3 hb1 hb3 ha2 hb2
  generalize psplit a.data.toList = l1 at Hs X1 n1 ⊢
  generalize psplit b.data.toList = l2 at Ht X2 n2 ⊢
  go_enter Tryd.func37, Tryd.ntmps37
  go_wp2_with fail
  refine (Hs.out w).mono ?_
  rintro e w1 ⟨A1, c1, rfl, r1, b1⟩
  go_wp2_with fail
  refine (Ht.out w1).mono ?_
  rintro e w2 ⟨A2, c2, rfl, r2, b2⟩
  have H1 := Lib.hid (And.intro (r1.below b2) r2)
  have hb0 := b1.trans (b2.mono b1.size)
  clear r1 r2 b1 b2
  go_wp2
  go_loopg [7] l1.length (fun k s wr => ∃ i : Nat, k + i = l1.length ∧ i ≤ l2.length ∧ s = .int .i64 i ∧ Below w.heap.size w wr ∧ Hid (RdS wr A1 l1 ∧ RdS wr A2 l2) ∧ Hid (lexC cmpT l1 l2 = lexC cmpT (l1.drop i) (l2.drop i)))
  case atStart => exact ⟨0, by omega, by omega, rfl, hb0, H1, Lib.hid rfl⟩
  case round =>
    clear hb0 H1
    obtain ⟨i, hk, hib, rfl, hbb, hrd, he⟩ := hrel
    by_cases h1 : (i : Int) < (l1.length : Int)
    · by_cases h2 : (i : Int) < (l2.length : Int)
      · obtain ⟨j, rfl⟩ : ∃ j, gk = j + 1 := ⟨gk - 1, by omega⟩
        have hia : i < l1.length := by omega
        have hib2 : i < l2.length := by omega
        have he2 := he.out
        rw [List.drop_eq_getElem_cons hia, List.drop_eq_getElem_cons hib2] at he2
        have i0 : (0 : Int) ≤ (i : Int) := by omega
        obtain ⟨p1, o1, rfl, q1, d1⟩ := hrd.out.1.at_ i hia
        obtain ⟨p2, o2, rfl, q2, d2⟩ := hrd.out.2.at_ i hib2
        have Hk := Lib.hid hk
        have Hc := Lib.hid (fun W => reftext_any (str l1[i]) (str l2[i]) (by have := X1.out _ (List.getElem_mem hia); exact this) (by have := X2.out _ (List.getElem_mem hib2); exact this) W)
        have D1 := Lib.hid d1
        have D2 := Lib.hid d2
        have Hnext : Hid (cmpT l1[i] l2[i] = 0 → lexC cmpT l1 l2 = lexC cmpT (l1.drop (i + 1)) (l2.drop (i + 1))) := Lib.hid (fun h => by rw [he2, lexC_eq h])
        have Hend : Hid (cmpT l1[i] l2[i] ≠ 0 → lexC cmpT l1 l2 = cmpT l1[i] l2[i]) := Lib.hid (fun h => by rw [he2, lexC_ne h])
        clear hk he he2 d1 d2
        generalize l1[i] = x at *
        generalize l2[i] = y at *
        go_wp2
        refine wp_region_mix (Below wr.heap.size wr) [0, 1, 2, 3, 4, 5, 6, 7] [8, 9] mixed (by kernel_rfl) rfl ((Below.refl _ _).drew) ?_
        simp only [List.filterMap_cons, List.filterMap_nil, List.getElem?_toArray, List.getElem?_cons_succ, List.getElem?_cons_zero]
        repeat (first
          | (refine held_val ?_ rfl (fun w1 hS => ?_) ?_
             rotate_left
             · (have k1 := (hS.cell (p := ⟨p1, o1 + i, none⟩) q1).trans D1.out; have k2 := (hS.cell (p := ⟨p2, o2 + i, none⟩) q2).trans D2.out
                go_simp
                try go_bits
                rfl)
             simp only [Act.put, List.setIfInBounds_toArray, List.set_cons_zero, List.set_cons_succ])
          | (refine held_off rfl ?_
             simp only [Act.put, List.setIfInBounds_toArray, List.set_cons_zero, List.set_cons_succ]))
        refine held_nil (fun w4 hS => ?_)
        go_wp2_with fail
        refine (Hc.out w4).mono ?_
        rintro e w5 ⟨rfl, b5⟩
        have b6 := hS.trans (b5.mono hS.size)
        have hv : cmpT (str x).data.toList (str y).data.toList = cmpT x y := rfl
        rw [hv]
        obtain ⟨r, hr⟩ : ∃ r, cmpT x y = r := ⟨_, rfl⟩
        rw [hr] at Hnext Hend ⊢
        clear hv hr hS b5
        have hb7 := hbb.trans (b6.mono hbb.size)
        by_cases h0 : r = 0
        · subst h0
          have He := Lib.hid (Hnext.out rfl)
          have Hrd := Lib.hid (And.intro (hrd.out.1.below b6) (hrd.out.2.below b6))
          clear b6
          go_wp2
          go_roundg j
          case measure => omega
          case rel => exact ⟨i + 1, by have := Hk.out; omega, by omega, rfl, hb7, Hrd, He⟩
        · have He := Lib.hid (Hend.out h0)
          have h0' : (r == 0) = false := by simpa using h0
          go_wp2
          go_ret
          exact ⟨by rw [He.out]; rfl, hb7⟩
      · have he2 := he.out
        rw [List.drop_eq_getElem_cons (show i < l1.length by omega), List.drop_eq_nil_of_le (show l2.length ≤ i by omega)] at he2
        have He : Hid (lexC cmpT l1 l2 = 1) := Lib.hid he2
        have hn1 : ¬ (l1.length : Int) < (l2.length : Int) := by omega
        have hn2 : (l2.length : Int) < (l1.length : Int) := by omega
        clear he2 he hk
        go_wp2
        go_ret
        exact ⟨by rw [He.out]; rfl, hbb⟩
    · have he2 := he.out
      rw [List.drop_eq_nil_of_le (show l1.length ≤ i by omega)] at he2
      by_cases h2 : (l1.length : Int) < (l2.length : Int)
      · rw [List.drop_eq_getElem_cons (show i < l2.length by omega)] at he2
        have He : Hid (lexC cmpT l1 l2 = -1) := Lib.hid he2
        clear he2 he hk
        go_wp2
        go_ret
        exact ⟨by rw [He.out]; rfl, hbb⟩
      · rw [List.drop_eq_nil_of_le (show l2.length ≤ i by omega)] at he2
        have He : Hid (lexC cmpT l1 l2 = 0) := Lib.hid he2
        have hn2 : ¬ (l2.length : Int) < (l1.length : Int) := by omega
        clear he2 he hk
        go_wp2
        go_ret
        exact ⟨by rw [He.out]; rfl, hbb⟩
theorem sorted_pairwise {l : List (List UInt8)} : SortedP l ↔ l.Pairwise (fun a b => cmpL (psplit a) (psplit b) < 0) ∧ ∀ x ∈ l, okPath x = true := by
  constructor
  · intro h
    refine ⟨List.pairwise_iff_getElem.2 ?_, fun x hx => ?_⟩
    · intro i j hi hj hij
      induction j with
      | zero => omega
      | succ j ih =>
        have h1 := (h (j + 1) hj).2 (by omega)
        simp only [Nat.add_sub_cancel] at h1
        by_cases e : i = j
        · subst e; exact h1
        · exact cmpL_cmp.trans _ _ _ (ih (by omega) (by omega)) h1
    · obtain ⟨i, hi, rfl⟩ := List.mem_iff_getElem.1 hx
      exact (h i hi).1
  · rintro ⟨h1, h2⟩ i hi
    exact ⟨h2 _ (List.getElem_mem hi), fun h0 => List.pairwise_iff_getElem.1 h1 (i - 1) i (by omega) hi (by omega)⟩
theorem sorted_sub {l m : List (List UInt8)} (h : SortedP l) (hs : m.Sublist l) : SortedP m := by
  obtain ⟨h1, h2⟩ := sorted_pairwise.1 h
  exact sorted_pairwise.2 ⟨h1.sublist hs, fun x hx => h2 x (hs.mem hx)⟩

end Go.Proofs.YtfppancidgamjaaDoor
