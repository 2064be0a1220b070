/- The walks over the reference's Compare and Below. -/
import Derived.Test.YtmbpggmcelmgnaaDoorQf
namespace Go.Proofs.YtmbpggmcelmgnaaDoor
set_option linter.unusedVariables false
set_option linter.unusedSimpArgs false
open Go.RowKit

theorem cmpL_lex : ∀ a b, cmpL a b = lexC cmpT a b
  | [], [] => rfl
  | [], _ :: _ => rfl
  | _ :: _, [] => rfl
  | x :: xs, y :: ys => by
    show (if cmpT x y = 0 then cmpL xs ys else cmpT x y) = (if cmpT x y = 0 then lexC cmpT xs ys else cmpT x y)
    rw [cmpL_lex xs ys]
theorem lexC_congr {α : Type} {c d : α → α → Int} (h : ∀ x y, c x y = d x y) : ∀ a b, lexC c a b = lexC d a b
  | [], [] => rfl
  | [], _ :: _ => rfl
  | _ :: _, [] => rfl
  | x :: xs, y :: ys => by
    unfold lexC
    rw [h x y, lexC_congr h xs ys]
theorem cmpT_cmp : Cmp cmpT := by
  have : cmpT = lexC cmpB := by funext a b; exact cmpT_lex a b
  rw [this]; exact lexC_cmp cmpB_cmp
theorem cmpL_cmp : Cmp cmpL := by
  have : cmpL = lexC cmpT := by funext a b; exact cmpL_lex a b
  rw [this]; exact lexC_cmp cmpT_cmp
theorem RdS.at_ {W : World} {A : Option Addr} {l : List (List UInt8)} (h : RdS W A l) (i : Nat) (hi : i < l.length) : ∃ b off, A = some ⟨b, off, none⟩ ∧ b < W.heap.size ∧ W.cell? ⟨b, off + i, none⟩ = some (.string (str l[i])) := by
  obtain ⟨b, off, ha, hc⟩ := h i hi
  exact ⟨b, off, ha, World.block_lt_of_cell? W _ hc, hc⟩

set_option maxHeartbeats 1600000 in
theorem refcompare_any (a b : ByteArray) (ha : a.size ≤ 4294967280) (hb : b.size ≤ 4294967280) (w : World) : Calls Tryd.prog 18 #[.string a, .string b] w fun e w' => e = .returned (.int .i64 (cmpL (psplit a.data.toList) (psplit b.data.toList))) ∧ Below w.heap.size w w' := by
  obtain ⟨ha1, ha3⟩ := psplit_len a.data.toList
  obtain ⟨hb1, hb3⟩ := psplit_len b.data.toList
  have ha2 : a.data.toList.length = a.size := rfl
  have hb2 : b.data.toList.length = b.size := rfl
  have Hs := Lib.hid (fun w1 => refsplit_any a (by omega) w1)
  have Ht := Lib.hid (fun w1 => refsplit_any b (by omega) w1)
  have X1 : Hid (∀ x ∈ psplit a.data.toList, x.length ≤ 4294967296) := Lib.hid (fun x hx => by have := ha3 x hx; omega)
  have X2 : Hid (∀ x ∈ psplit b.data.toList, x.length ≤ 4294967296) := Lib.hid (fun x hx => by have := hb3 x hx; omega)
  rw [cmpL_lex]
  have n1 : ((psplit a.data.toList).length : Int) ≤ 4294967296 := by omega
  have n2 : ((psplit b.data.toList).length : Int) ≤ 4294967296 := by omega
  clear ha1 ha3 hb1 hb3 ha2 hb2
  generalize psplit a.data.toList = l1 at Hs X1 n1 ⊢
  generalize psplit b.data.toList = l2 at Ht X2 n2 ⊢
  go_enter Tryd.func18, Tryd.ntmps18
  go_wp2_with fail
  refine (Hs.out w).mono ?_
  rintro e w1 ⟨A1, c1, rfl, r1, b1⟩
  go_wp2_with fail
  refine (Ht.out w1).mono ?_
  rintro e w2 ⟨A2, c2, rfl, r2, b2⟩
  have H1 := Lib.hid (And.intro (r1.below b2) r2)
  have hb0 := b1.trans (b2.mono b1.size)
  clear r1 r2 b1 b2
  go_wp2
  go_loopg [7] l1.length (fun k s wr => ∃ i : Nat, k + i = l1.length ∧ i ≤ l2.length ∧ s = .int .i64 i ∧ Below w.heap.size w wr ∧ Hid (RdS wr A1 l1 ∧ RdS wr A2 l2) ∧ Hid (lexC cmpT l1 l2 = lexC cmpT (l1.drop i) (l2.drop i)))
  case atStart => exact ⟨0, by omega, by omega, rfl, hb0, H1, Lib.hid rfl⟩
  case round =>
    clear hb0 H1
    obtain ⟨i, hk, hib, rfl, hbb, hrd, he⟩ := hrel
    by_cases h1 : (i : Int) < (l1.length : Int)
    · by_cases h2 : (i : Int) < (l2.length : Int)
      · obtain ⟨j, rfl⟩ : ∃ j, gk = j + 1 := ⟨gk - 1, by omega⟩
        have hia : i < l1.length := by omega
        have hib2 : i < l2.length := by omega
        have he2 := he.out
        rw [List.drop_eq_getElem_cons hia, List.drop_eq_getElem_cons hib2] at he2
        have i0 : (0 : Int) ≤ (i : Int) := by omega
        obtain ⟨p1, o1, rfl, q1, d1⟩ := hrd.out.1.at_ i hia
        obtain ⟨p2, o2, rfl, q2, d2⟩ := hrd.out.2.at_ i hib2
        have Hk := Lib.hid hk
        have Hc := Lib.hid (fun W => reftext_any (str l1[i]) (str l2[i]) (by have := X1.out _ (List.getElem_mem hia); exact this) (by have := X2.out _ (List.getElem_mem hib2); exact this) W)
        have D1 := Lib.hid d1
        have D2 := Lib.hid d2
        have Hnext : Hid (cmpT l1[i] l2[i] = 0 → lexC cmpT l1 l2 = lexC cmpT (l1.drop (i + 1)) (l2.drop (i + 1))) := Lib.hid (fun h => by rw [he2, lexC_eq h])
        have Hend : Hid (cmpT l1[i] l2[i] ≠ 0 → lexC cmpT l1 l2 = cmpT l1[i] l2[i]) := Lib.hid (fun h => by rw [he2, lexC_ne h])
        clear hk he he2 d1 d2
        generalize l1[i] = x at *
        generalize l2[i] = y at *
        go_wp2
        refine wp_region_mix (Below wr.heap.size wr) [0, 1, 2, 3, 4, 5, 6, 7] [8, 9] mixed (by kernel_rfl) rfl ((Below.refl _ _).drew) ?_
        simp only [List.filterMap_cons, List.filterMap_nil, List.getElem?_toArray, List.getElem?_cons_succ, List.getElem?_cons_zero]
        repeat (first
          | (refine held_val ?_ rfl (fun w1 hS => ?_) ?_
             rotate_left
             · (have k1 := (hS.cell (p := ⟨p1, o1 + i, none⟩) q1).trans D1.out; have k2 := (hS.cell (p := ⟨p2, o2 + i, none⟩) q2).trans D2.out
                go_simp
                try go_bits
                rfl)
             simp only [Act.put, List.setIfInBounds_toArray, List.set_cons_zero, List.set_cons_succ])
          | (refine held_off rfl ?_
             simp only [Act.put, List.setIfInBounds_toArray, List.set_cons_zero, List.set_cons_succ]))
        refine held_nil (fun w4 hS => ?_)
        go_wp2_with fail
        refine (Hc.out w4).mono ?_
        rintro e w5 ⟨rfl, b5⟩
        have b6 := hS.trans (b5.mono hS.size)
        have hv : cmpT (str x).data.toList (str y).data.toList = cmpT x y := rfl
        rw [hv]
        obtain ⟨r, hr⟩ : ∃ r, cmpT x y = r := ⟨_, rfl⟩
        rw [hr] at Hnext Hend ⊢
        clear hv hr hS b5
        have hb7 := hbb.trans (b6.mono hbb.size)
        by_cases h0 : r = 0
        · subst h0
          have He := Lib.hid (Hnext.out rfl)
          have Hrd := Lib.hid (And.intro (hrd.out.1.below b6) (hrd.out.2.below b6))
          clear b6
          go_wp2
          go_roundg j
          case measure => omega
          case rel => exact ⟨i + 1, by have := Hk.out; omega, by omega, rfl, hb7, Hrd, He⟩
        · have He := Lib.hid (Hend.out h0)
          have h0' : (r == 0) = false := by simpa using h0
          go_wp2
          go_ret
          exact ⟨by rw [He.out]; rfl, hb7⟩
      · have he2 := he.out
        rw [List.drop_eq_getElem_cons (show i < l1.length by omega), List.drop_eq_nil_of_le (show l2.length ≤ i by omega)] at he2
        have He : Hid (lexC cmpT l1 l2 = 1) := Lib.hid he2
        have hn1 : ¬ (l1.length : Int) < (l2.length : Int) := by omega
        have hn2 : (l2.length : Int) < (l1.length : Int) := by omega
        clear he2 he hk
        go_wp2
        go_ret
        exact ⟨by rw [He.out]; rfl, hbb⟩
    · have he2 := he.out
      rw [List.drop_eq_nil_of_le (show l1.length ≤ i by omega)] at he2
      by_cases h2 : (l1.length : Int) < (l2.length : Int)
      · rw [List.drop_eq_getElem_cons (show i < l2.length by omega)] at he2
        have He : Hid (lexC cmpT l1 l2 = -1) := Lib.hid he2
        clear he2 he hk
        go_wp2
        go_ret
        exact ⟨by rw [He.out]; rfl, hbb⟩
      · rw [List.drop_eq_nil_of_le (show l2.length ≤ i by omega)] at he2
        have He : Hid (lexC cmpT l1 l2 = 0) := Lib.hid he2
        have hn2 : ¬ (l2.length : Int) < (l1.length : Int) := by omega
        clear he2 he hk
        go_wp2
        go_ret
        exact ⟨by rw [He.out]; rfl, hbb⟩

theorem below_psplit (s p : List UInt8) : below s p = true ↔ okPath s = true ∧ okPath p = true ∧ psplit p <+: psplit s := by
  unfold below
  rw [Bool.and_eq_true, Bool.and_eq_true, hasPrefix_psplit, and_assoc]
theorem prefix_iff {α : Type} [DecidableEq α] (p x : List α) : p <+: x ↔ p.length ≤ x.length ∧ ∀ i (h : i < p.length) (h2 : i < x.length), x[i] = p[i] := by
  constructor
  · rintro ⟨t, rfl⟩
    exact ⟨by simp, fun i h h2 => by rw [List.getElem_append_left h]⟩
  · rintro ⟨h1, h2⟩
    refine ⟨x.drop p.length, ?_⟩
    conv => rhs; rw [← List.take_append_drop p.length x]
    congr 1
    refine List.ext_getElem (by simp; omega) fun i a b => ?_
    rw [List.getElem_take, h2 i a (by omega)]

set_option maxHeartbeats 1600000 in
theorem refbelow_any (a b : ByteArray) (ha : a.size ≤ 4294967280) (hb : b.size ≤ 4294967280) (w : World) : Calls Tryd.prog 20 #[.string a, .string b] w fun e w' => e = .returned (.bool (below a.data.toList b.data.toList)) ∧ Below w.heap.size w w' := by
  have ha1 := (psplit_len a.data.toList).1
  have hb1 := (psplit_len b.data.toList).1
  have ha2 : a.data.toList.length = a.size := rfl
  have hb2 : b.data.toList.length = b.size := rfl
  have Hs := Lib.hid (fun w1 => refsplit_any a (by omega) w1)
  have Ht := Lib.hid (fun w1 => refsplit_any b (by omega) w1)
  have Ra := Lib.hid (fun w1 => refright_any a (by omega) w1)
  have Rb := Lib.hid (fun w1 => refright_any b (by omega) w1)
  have n1 : ((psplit a.data.toList).length : Int) ≤ 4294967296 := by omega
  have n2 : ((psplit b.data.toList).length : Int) ≤ 4294967296 := by omega
  have hfin := below_psplit a.data.toList b.data.toList
  rw [prefix_iff] at hfin
  have Hfin := Lib.hid hfin
  clear ha1 hb1 ha2 hb2 hfin
  generalize below a.data.toList b.data.toList = z at Hfin ⊢
  generalize psplit a.data.toList = l1 at Hs n1 Hfin
  generalize psplit b.data.toList = l2 at Ht n2 Hfin
  generalize okPath a.data.toList = y1 at Ra Hfin
  generalize okPath b.data.toList = y2 at Rb Hfin
  have Hno : Hid (¬ (y1 = true ∧ y2 = true ∧ l2.length ≤ l1.length) → z = false) := Lib.hid (fun h => by
    cases z
    · rfl
    · exact absurd (Hfin.out.1 rfl) (fun h' => h ⟨h'.1, h'.2.1, h'.2.2.1⟩))
  by_cases hle : (l1.length : Int) < (l2.length : Int) ∨ y1 = false ∨ y2 = false
  · obtain rfl : z = false := Hno.out (fun h => by
      rcases hle with h' | h' | h'
      · omega
      · rw [h'] at h; cases h.1
      · rw [h'] at h; cases h.2.1)
    clear Hfin Hno
    by_cases hl : (l1.length : Int) < (l2.length : Int)
    · clear hle
      cases y1 <;> cases y2 <;>
      · go_enter Tryd.func20, Tryd.ntmps20
        go_wp2_with fail
        refine (Hs.out w).mono ?_
        rintro e w1 ⟨A1, c1, rfl, r1, b1⟩
        clear r1
        go_wp2_with fail
        refine (Ht.out w1).mono ?_
        rintro e w2 ⟨A2, c2, rfl, r2, b2⟩
        clear r2
        have hb0 := b1.trans (b2.mono b1.size)
        clear b1 b2
        go_wp2_with fail
        refine (Ra.out _).mono ?_
        rintro e w3 ⟨rfl, b3⟩
        have hb1 := hb0.trans (b3.mono hb0.size)
        first
          | (go_wp2_with fail
             refine (Rb.out _).mono ?_
             rintro e w4 ⟨rfl, b4⟩
             go_wp2
             go_ret
             exact ⟨rfl, hb1.trans (b4.mono hb1.size)⟩)
          | (go_wp2
             go_ret
             exact ⟨rfl, hb1⟩)
    · have hyy : y1 = false ∨ y2 = false := hle.resolve_left hl
      clear hle
      have h3 : (y1 = false ∧ y2 = false) ∨ (y1 = false ∧ y2 = true) ∨ (y1 = true ∧ y2 = false) := by revert hyy; cases y1 <;> cases y2 <;> simp
      clear hyy
      rcases h3 with ⟨rfl, rfl⟩ | ⟨rfl, rfl⟩ | ⟨rfl, rfl⟩
      all_goals
        go_enter Tryd.func20, Tryd.ntmps20
        go_wp2_with fail
        refine (Hs.out w).mono ?_
        rintro e w1 ⟨A1, c1, rfl, r1, b1⟩
        clear r1
        go_wp2_with fail
        refine (Ht.out w1).mono ?_
        rintro e w2 ⟨A2, c2, rfl, r2, b2⟩
        clear r2
        have hb0 := b1.trans (b2.mono b1.size)
        clear b1 b2
        go_wp2_with fail
        refine (Ra.out _).mono ?_
        rintro e w3 ⟨rfl, b3⟩
        have hb1 := hb0.trans (b3.mono hb0.size)
        first
          | (go_wp2_with fail
             refine (Rb.out _).mono ?_
             rintro e w4 ⟨rfl, b4⟩
             go_wp2
             go_ret
             exact ⟨rfl, hb1.trans (b4.mono hb1.size)⟩)
          | (go_wp2
             go_ret
             exact ⟨rfl, hb1⟩)
  · obtain ⟨hl, hy1, hy2⟩ : ¬ (l1.length : Int) < (l2.length : Int) ∧ y1 = true ∧ y2 = true := ⟨fun h => hle (.inl h), by cases y1; exact absurd (.inr (.inl rfl)) hle; rfl, by cases y2; exact absurd (.inr (.inr rfl)) hle; rfl⟩
    clear hle
    subst hy1; subst hy2
    have hlD : decide (l1.length < l2.length) = false := by simp; omega
    have Hyes : Hid ((∀ i (h : i < l2.length) (h2 : i < l1.length), l1[i] = l2[i]) → z = true) := Lib.hid (fun h => Hfin.out.2 ⟨rfl, rfl, by omega, h⟩)
    have Hbad : Hid (∀ i (h : i < l2.length) (h2 : i < l1.length), l1[i] ≠ l2[i] → z = false) := Lib.hid (fun i h h2 hne => by
      cases z
      · rfl
      · exact absurd ((Hfin.out.1 rfl).2.2.2 i h h2) hne)
    clear Hfin Hno
    go_enter Tryd.func20, Tryd.ntmps20
    go_wp2_with fail
    refine (Hs.out w).mono ?_
    rintro e w1 ⟨A1, c1, rfl, r1, b1⟩
    have R1 := Lib.hid r1
    clear r1
    go_wp2_with fail
    refine (Ht.out w1).mono ?_
    rintro e w2 ⟨A2, c2, rfl, r2, b2⟩
    have H1 := Lib.hid (And.intro (R1.out.below b2) r2)
    have hb0 := b1.trans (b2.mono b1.size)
    clear r2 b1 b2
    go_wp2_with fail
    refine (Ra.out _).mono ?_
    rintro e w3 ⟨rfl, b3⟩
    have hb1 := hb0.trans (b3.mono hb0.size)
    have H2 := Lib.hid (And.intro (H1.out.1.below b3) (H1.out.2.below b3))
    clear hb0 b3
    go_wp2_with fail
    refine (Rb.out _).mono ?_
    rintro e w4 ⟨rfl, b4⟩
    have hb2 := hb1.trans (b4.mono hb1.size)
    have H3 := Lib.hid (And.intro (H2.out.1.below b4) (H2.out.2.below b4))
    clear hb1 b4
    go_wp2
    go_loopg [7] l2.length (fun k s wr => ∃ i : Nat, k + i = l2.length ∧ s = .int .i64 i ∧ Below w.heap.size w wr ∧ Hid (RdS wr A1 l1 ∧ RdS wr A2 l2) ∧ Hid (∀ m (h : m < l2.length) (h2 : m < l1.length), m < i → l1[m] = l2[m]))
    case atStart => exact ⟨0, by omega, rfl, hb2, H3, Lib.hid (fun m h h2 h3 => by omega)⟩
    case round =>
      clear hb2 H3
      obtain ⟨i, hk, rfl, hbb, hrd, he⟩ := hrel
      by_cases h1 : (i : Int) < (l2.length : Int)
      · obtain ⟨j, rfl⟩ : ∃ j, gk = j + 1 := ⟨gk - 1, by omega⟩
        have hib : i < l2.length := by omega
        have hia : i < l1.length := by omega
        have i0 : (0 : Int) ≤ (i : Int) := by omega
        have i1 : (i : Int) < (l1.length : Int) := by omega
        obtain ⟨p1, o1, rfl, q1, d1⟩ := hrd.out.1.at_ i hia
        obtain ⟨p2, o2, rfl, q2, d2⟩ := hrd.out.2.at_ i hib
        have Hk := Lib.hid hk
        have Hnext : Hid (l1[i] = l2[i] → (∀ m (h : m < l2.length) (h2 : m < l1.length), m < i + 1 → l1[m] = l2[m])) := Lib.hid (fun h m h1 h2 h3 => by
          by_cases hm : m = i
          · subst hm; exact h
          · exact he.out m h1 h2 (by omega))
        have Hend : Hid (l1[i] ≠ l2[i] → z = false) := Lib.hid (fun h => Hbad.out i hib hia h)
        clear hk he
        generalize l1[i] = x at *
        generalize l2[i] = y at *
        by_cases hxy : x = y
        · subst hxy
          have hxx : ((str x).toList == (str x).toList) = true := by simp
          have hx2 : ((str x).toList != (str x).toList) = false := by simp
          go_wp2
          go_quiet (fail)
          go_wp2
          go_roundg j
          case measure => omega
          case rel => exact ⟨i + 1, by have := Hk.out; omega, rfl, below_drewN hbb _, Lib.hid ⟨hrd.out.1, hrd.out.2⟩, Lib.hid (Hnext.out (by trivial))⟩
        · have hxy1 : ¬ (str x).toList = (str y).toList := by
            rw [ByteArray.toList_eq, ByteArray.toList_eq]; simpa [str] using hxy
          have hxy2 : ((str x).toList == (str y).toList) = false := by simpa using hxy1
          have hxy3 : ((str x).toList != (str y).toList) = true := by simpa using hxy1
          go_wp2
          go_quiet (fail)
          go_wp2
          go_ret
          exact ⟨by rw [Hend.out hxy]; rfl, below_drewN hbb _⟩
      · have He := Lib.hid (Hyes.out (fun m h h2 => he.out m h h2 (by omega)))
        go_wp2
        go_ret
        exact ⟨by rw [He.out]; rfl, hbb⟩
end Go.Proofs.YtmbpggmcelmgnaaDoor
