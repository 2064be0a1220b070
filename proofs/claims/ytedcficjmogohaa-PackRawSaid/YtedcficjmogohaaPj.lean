/- Texts of one proof, merged: XNd XOn XNe XNf. -/
import Derived.Test.YtedcficjmogohaaPi
import Derived.Laws.StructEq
import Derived.WalkSmall
/- The walk over the law PackCuts. -/
namespace Go.Proofs.Ytedcficjmogohaa
set_option linter.unusedVariables false
set_option linter.unusedSimpArgs false
set_option maxRecDepth 100000
open Go.RowKit

theorem Rd.takeU {w : World} {A : Option Addr} {c : Nat} {x : List UInt8} (h : Rd w (.slice A x.length c) (bytesU x)) (k : Nat) (hk : k ≤ x.length) :
    Rd w (.slice A (x.take k).length c) (bytesU (x.take k)) := by
  obtain ⟨A', c', e, hr⟩ := h
  injection e with e1 _ e3
  subst e1; subst e3
  refine ⟨A, c, by rw [bytesU_length], fun hne => ?_⟩
  have hx : bytesU x ≠ [] := by intro h; apply hne; unfold bytesU at *; rw [List.map_take, h, List.take_nil]
  obtain ⟨ad, rfl, hc⟩ := hr hx
  refine ⟨ad, rfl, fun j u hu => hc j u ?_⟩
  unfold bytesU at hu ⊢
  rw [List.map_take, List.getElem?_take] at hu
  split at hu
  · exact hu
  · cases hu
set_option maxHeartbeats 3200000 in
theorem packcuts_walk (A : Option Addr) (c : Nat) (b : List UInt8) (hc : b.length ≤ c ∧ c ≤ 9223372036854775807) (win cut : Int) (A' : Option Addr) (c' : Nat) (more : List UInt8) (hc' : more.length ≤ c' ∧ c' ≤ 9223372036854775807) (w : World) (hr : Rd w (.slice A b.length c) (bytesU b)) (hm : Rd w (.slice A' more.length c') (bytesU more)) :
    Calls Try.prog 5 #[.slice A b.length c, .int .i64 win, .int .i64 cut, .slice A' more.length c'] w (fun e w' => e = .returned (.bool true) ∧ Below w.heap.size w w') := by
  have hb0 := Below.refl w.heap.size w
  by_cases hbig : (300 : Int) < (b.length : Int)
  · clear hr hm
    generalize b.length = L at *
    generalize more.length = M at *
    go_enter Try.func5, Try.ntmps5
    go_wp2_with fail
    refine (awake_any _).mono ?_
    rintro e wz ⟨rfl, bz⟩
    go_wp2
    go_ret
    exact ⟨rfl, bz⟩
  by_cases h1 : win < 1
  · clear hr hm
    generalize b.length = L at *
    generalize more.length = M at *
    go_enter Try.func5, Try.ntmps5
    go_wp2_with fail
    refine (awake_any _).mono ?_
    rintro e wz ⟨rfl, bz⟩
    go_wp2
    go_ret
    exact ⟨rfl, bz⟩
  by_cases h2 : 32768 < win
  · clear hr hm
    generalize b.length = L at *
    generalize more.length = M at *
    go_enter Try.func5, Try.ntmps5
    go_wp2_with fail
    refine (awake_any _).mono ?_
    rintro e wz ⟨rfl, bz⟩
    go_wp2
    go_ret
    exact ⟨rfl, bz⟩
  by_cases h3 : (more.length : Int) < 1
  · clear hr hm
    generalize b.length = L at *
    generalize more.length = M at *
    go_enter Try.func5, Try.ntmps5
    go_wp2_with fail
    refine (awake_any _).mono ?_
    rintro e wz ⟨rfl, bz⟩
    go_wp2
    go_ret
    exact ⟨rfl, bz⟩
  by_cases h4 : (20 : Int) < (more.length : Int)
  · clear hr hm
    generalize b.length = L at *
    generalize more.length = M at *
    go_enter Try.func5, Try.ntmps5
    go_wp2_with fail
    refine (awake_any _).mono ?_
    rintro e wz ⟨rfl, bz⟩
    go_wp2
    go_ret
    exact ⟨rfl, bz⟩
  have hp0 : (packN b win).2 = 0 := by unfold packN; rw [if_neg (by omega), if_neg (by omega)]
  have HP1 := Lib.hid (fun w1 (h : Below w.heap.size w w1) => pack_any A c b hc win w1 (hr.below h))
  have HL1 := Lib.hid (show (packN b win).1.length ≤ 1000000 by have := pack_bound b win (by omega) (by omega) (by omega); omega)
  have HM := Lib.hid (unpack_more b win (by omega) (by omega) (by omega) more (by intro e; subst e; simp at h3))
  have HC := Lib.hid (fun k hk => unpack_cut b win (by omega) (by omega) (by omega) k hk)
  generalize packN b win = y1 at *
  obtain ⟨y1, z1⟩ := y1
  simp only at hp0
  subst hp0
  have HL1 : Hid (y1.length ≤ 1000000) := HL1
  have HM : Hid (unpackN (y1 ++ more) = ([], 5)) := HM
  have HC : Hid (∀ k, k < y1.length → (unpackN (y1.take k)).2 ≠ 0) := HC
  have Hm := Lib.hid (fun w1 (h : Below w.heap.size w w1) => hm.below h)
  clear hr hm
  by_cases hc1 : cut < 0
  · clear Hm HC HM
    go_enter Try.func5, Try.ntmps5
    go_wp2_with fail
    refine (HP1.out w hb0).mono ?_
    rintro e w1 ⟨A1, c1, rfl, r1, g1, b1⟩
    clear HP1 r1
    go_wp2_with fail
    refine (awake_any _).mono ?_
    rintro e wz ⟨rfl, bz⟩
    go_wp2
    go_ret
    exact ⟨rfl, b1.trans (bz.mono b1.size)⟩
  by_cases hc2 : (y1.length : Int) ≤ cut
  · clear Hm HC HM
    go_enter Try.func5, Try.ntmps5
    go_wp2_with fail
    refine (HP1.out w hb0).mono ?_
    rintro e w1 ⟨A1, c1, rfl, r1, g1, b1⟩
    clear HP1 r1
    go_wp2_with fail
    refine (awake_any _).mono ?_
    rintro e wz ⟨rfl, bz⟩
    go_wp2
    go_ret
    exact ⟨rfl, b1.trans (bz.mono b1.size)⟩
  obtain ⟨k, rfl⟩ : ∃ k : Nat, cut = (k : Int) := ⟨cut.toNat, by omega⟩
  have hk : k < y1.length := by omega
  have hkl : (y1.take k).length = k := by rw [List.length_take]; omega
  go_enter Try.func5, Try.ntmps5
  go_wp2_with fail
  refine (HP1.out w hb0).mono ?_
  rintro e w1 ⟨A1, c1, rfl, r1, g1, b1⟩
  have g1 : y1.length ≤ c1 ∧ c1 ≤ 9223372036854775807 := g1
  have r1 : Rd w1 (.slice A1 y1.length c1) (bytesU y1) := r1
  have rt := r1.takeU k (by omega)
  have HU := Lib.hid (unpack_any A1 c1 (y1.take k) (by have := HL1.out; omega) ⟨by omega, g1.2⟩ w1 rt)
  have R1 := Lib.hid (fun w2 (b2 : Below w1.heap.size w1 w2) => r1.below b2)
  have HC2 := Lib.hid (unpack_err (HC.out k hk))
  have HC1 := Lib.hid (HC.out k hk)
  rw [hkl] at HU
  generalize unpackN (y1.take k) = u1 at *
  obtain ⟨u1, z1⟩ := u1
  have HC2 : Hid (u1 = []) := HC2
  have HC1 : Hid (z1 ≠ 0) := HC1
  obtain rfl := HC2.out
  have k1 : (k : Int) ≤ (c1 : Int) := by omega
  clear HP1 r1 rt hkl HC2 HC
  go_wp2_with fail
  refine HU.out.mono ?_
  rintro e w2 ⟨A2, c2, rfl, r2, g2, b2⟩
  have hb2 := b1.trans (b2.mono b1.size)
  have B2 := hb2.size
  have r3 := R1.out w2 b2
  have o3 := ((Own.start w.heap.size w2).new B2 5 #[]).rw_of_bk (size := 1) (n := 0) rfl (by unfold maxLen; omega)
  have b3 := hb2.alloc B2 (.cells #[] 5)
  have B3 := b3.size
  have r4 := r3.below ((Below.refl w2.heap.size w2).alloc (Nat.le_refl _) (.cells #[] 5))
  obtain ⟨v4, w4, hrun4, o4, b4⟩ := byte_append (xs := []) B3 o3 r4 (by have := HL1.out; simp; omega)
  have hb4 := b3.trans b4
  have B4 := hb4.size
  obtain ⟨v5, w5, hrun5, o5, b5⟩ := byte_append B4 o4 (Hm.out _ hb4) (by have := HL1.out; simp; omega)
  have hb5 := hb4.trans b5
  obtain ⟨A4, c4, rfl⟩ := o4.row_n
  obtain ⟨A5, c5, rfl⟩ := o5.row_n
  have hcap := o5.cap
  simp only [List.nil_append] at hrun4 hrun5 o5 hcap
  have HV := Lib.hid (unpack_any A5 c5 (y1 ++ more) (by have := HL1.out; rw [List.length_append]; omega) hcap w5 o5.rd)
  rw [HM.out] at HV
  have Hrun4 := Lib.hid hrun4
  have Hrun5 := Lib.hid hrun5
  have hz : (z1 == 0) = false := by simpa using HC1.out
  have hz2 : (z1 != 0) = true := by simpa using HC1.out
  clear HU r2 r3 r4 R1 o3 o4 o5 b3 b4 b5 hrun4 hrun5 b1 b2 hcap hb4 B4 B3 Hm HM
  generalize hLL : (y1 ++ more).length = LL at *
  clear hLL
  go_wp2_with first
    | (at_builtin; refine wpList_append_run rfl (.tmp 64) (.tmp 65) 22 rfl rfl rfl Hrun4.out ?_)
    | (at_builtin; refine wpList_append_run rfl (.tmp 66) (.tmp 67) 22 rfl rfl rfl Hrun5.out ?_)
  refine HV.out.mono ?_
  rintro e w6 ⟨A6, c6, rfl, r6, g6, b6⟩
  have hb6 := hb5.trans (b6.mono hb5.size)
  clear HV r6
  go_wp2_with fail
  refine (awake_any _).mono ?_
  rintro e wz ⟨rfl, bz⟩
  go_wp2
  go_ret
  exact ⟨rfl, hb6.trans (bz.mono hb6.size)⟩
end Go.Proofs.Ytedcficjmogohaa

/- The walk over the reference's Number. -/
namespace Go.Proofs.Ytedcficjmogohaa
set_option linter.unusedVariables false
set_option linter.unusedSimpArgs false
set_option maxRecDepth 100000
open Go.RowKit

set_option maxRecDepth 100000 in
set_option maxHeartbeats 1600000 in
theorem refnum_in : ∀ (m : Nat), m ≤ 1099511627775 → ∀ (w : World), Calls Try.prog 14 #[.int .i64 (m : Int)] w (RetB w (onum m)) := by
  intro m
  induction m using Nat.strongRecOn with
  | _ m ih =>
    intro hm w
    by_cases hs : m < 128
    · have hc8 : (UInt8.ofNat m).toNat = m := u8_toNat _ (by omega)
      have hs' : (m : Int) < 128 := by omega
      have o1 : Own w.heap.size (Rw 5 1 (.slice (some ⟨w.heap.size, 0, none⟩) 1 1) [UInt8.ofNat m].length (bytesU [UInt8.ofNat m]) * Emp) (w.alloc (.cells #[.int .u8 (m : Int)] 5)) := by
        have := ((Own.start w.heap.size w).new (Nat.le_refl _) 5 #[.int .u8 (m : Int)]).rw_of_bk (size := 1) (n := 1) rfl (by unfold maxLen; decide)
        have e : bytesU [UInt8.ofNat m] = [.int .u8 (m : Int)] := by unfold bytesU; rw [List.map_cons, List.map_nil, hc8]
        rw [e]
        exact this
      have b1 := (Below.refl w.heap.size w).alloc (Nat.le_refl _) (.cells #[.int .u8 (m : Int)] 5)
      rw [onum_small hs]
      clear ih hc8 hs
      go_enter Try.func14, Try.ntmps14
      go_wp2
      go_ret
      exact RetB.mk rfl rfl rfl rfl o1 b1
    · have hs' : ¬ (m : Int) < 128 := by omega
      have hc8 : (UInt8.ofNat (m % 128 + 128)).toNat = m % 128 + 128 := u8_toNat _ (by omega)
      have o1 : Own w.heap.size (Rw 5 1 (.slice (some ⟨w.heap.size, 0, none⟩) 1 1) [UInt8.ofNat (m % 128 + 128)].length (bytesU [UInt8.ofNat (m % 128 + 128)]) * Emp) (w.alloc (.cells #[.int .u8 ((m % 128 + 128 : Nat) : Int)] 5)) := by
        have := ((Own.start w.heap.size w).new (Nat.le_refl _) 5 #[.int .u8 ((m % 128 + 128 : Nat) : Int)]).rw_of_bk (size := 1) (n := 1) rfl (by unfold maxLen; decide)
        have e : bytesU [UInt8.ofNat (m % 128 + 128)] = [.int .u8 ((m % 128 + 128 : Nat) : Int)] := by unfold bytesU; rw [List.map_cons, List.map_nil, hc8]
        rw [e]
        exact this
      have b1 := (Below.refl w.heap.size w).alloc (Nat.le_refl _) (.cells #[.int .u8 ((m % 128 + 128 : Nat) : Int)] 5)
      have I := ih (m / 128) (by omega) (by omega)
      rw [onum_big hs]
      have h6 := onum_len6 (n := m / 128) (by omega)
      obtain ⟨d, hd⟩ : ∃ d : Nat, d = m / 128 := ⟨_, rfl⟩
      rw [← hd] at I h6 ⊢
      have hq : (m : Int).tdiv 128 = (d : Int) := by rw [Int.tdiv_eq_ediv_of_nonneg (by omega)]; omega
      have hr : 128 + (m : Int) % 128 = ((m % 128 + 128 : Nat) : Int) := by omega
      have d1 : (d : Int) ≤ 1099511627775 := by omega
      have d0 : (0 : Int) ≤ (d : Int) := by omega
      obtain ⟨q, hqq⟩ : ∃ q : Nat, q = m % 128 + 128 := ⟨_, rfl⟩
      rw [← hqq] at hr o1 b1 ⊢
      have q1 : (q : Int) < 256 := by omega
      have q0 : (0 : Int) ≤ (q : Int) := by omega
      generalize UInt8.ofNat q = cq at *
      clear ih hc8 hs hd hqq
      have I2 := fun w1 => I w1
      go_enter Try.func14, Try.ntmps14
      go_wp2_with fail
      refine (I2 _).mono ?_
      rintro e w2 ⟨v2, rfl, ho2, b2⟩
      have o2 := Own.fresh (by simp) o1 ho2 b2
      have o3 := o2.swap.assoc
      have o4 : Own w.heap.size (Rw 5 1 (.slice (some ⟨w.heap.size, 0, none⟩) 1 1) [cq].length (bytesU [cq]) * (Rw 5 1 v2 (onum d).length (bytesU (onum d)) * Emp)) w2 := o3.cast (by ac_rfl)
      obtain ⟨A2, c2, rfl⟩ := o2.row_n
      obtain ⟨v3, w3, hrun, o5, b3⟩ := byte_append (Nat.le_trans (by simp) b2.size) o4 o2.rd (by simp; omega)
      have Hrun := Lib.hid hrun
      have hb := (b1.trans (b2.mono b1.size)).trans b3
      clear hrun o2 o3 o4 ho2 b1 b2 b3 o1
      go_wp2_with (at_builtin; refine wpList_append_run rfl (.tmp 18) (.tmp 21) 22 rfl rfl rfl Hrun.out ?_)
      go_ret
      exact RetB.mk rfl rfl rfl rfl o5 hb

set_option maxRecDepth 100000 in
theorem refnum_any (n : Int) (w : World) : Calls Try.prog 14 #[.int .i64 n] w (RetB w (onumI n)) := by
  have Z := refnum_in
  by_cases h1 : n < 0
  · have hn : onumI n = [UInt8.ofNat 0] := by unfold onumI; rw [if_pos (.inl h1), onum_small (by omega)]
    rw [hn]
    clear hn Z
    have o1 : Own w.heap.size (Rw 5 1 (.slice (some ⟨w.heap.size, 0, none⟩) 1 1) [UInt8.ofNat 0].length (bytesU [UInt8.ofNat 0]) * Emp) (w.alloc (.cells #[.int .u8 0] 5)) :=
      ((Own.start w.heap.size w).new (Nat.le_refl _) 5 #[.int .u8 0]).rw_of_bk (size := 1) (n := 1) rfl (by unfold maxLen; decide)
    have b1 := (Below.refl w.heap.size w).alloc (Nat.le_refl _) (.cells #[.int .u8 0] 5)
    go_enter Try.func14, Try.ntmps14
    go_wp2
    go_ret
    exact RetB.mk rfl rfl rfl rfl o1 b1
  · by_cases h2 : 1099511627775 < n
    · have hn : onumI n = [UInt8.ofNat 0] := by unfold onumI; rw [if_pos (.inr h2), onum_small (by omega)]
      rw [hn]
      clear hn Z
      have o1 : Own w.heap.size (Rw 5 1 (.slice (some ⟨w.heap.size, 0, none⟩) 1 1) [UInt8.ofNat 0].length (bytesU [UInt8.ofNat 0]) * Emp) (w.alloc (.cells #[.int .u8 0] 5)) :=
        ((Own.start w.heap.size w).new (Nat.le_refl _) 5 #[.int .u8 0]).rw_of_bk (size := 1) (n := 1) rfl (by unfold maxLen; decide)
      have b1 := (Below.refl w.heap.size w).alloc (Nat.le_refl _) (.cells #[.int .u8 0] 5)
      go_enter Try.func14, Try.ntmps14
      go_wp2
      go_ret
      exact RetB.mk rfl rfl rfl rfl o1 b1
    · have hn : onumI n = onum n.toNat := by unfold onumI; rw [if_neg (by omega)]
      obtain ⟨m, rfl⟩ : ∃ m : Nat, n = (m : Int) := ⟨n.toNat, by omega⟩
      rw [hn, Int.toNat_natCast]
      exact Z m (by omega) w
end Go.Proofs.Ytedcficjmogohaa

/- What read reads: plain; and when two tokens are the same. -/
namespace Go.Proofs.Ytedcficjmogohaa
set_option linter.unusedVariables false
set_option linter.unusedSimpArgs false
set_option maxRecDepth 100000
open Go.RowKit

theorem takeM_out (q : RS) (m : MS) : (takeM q m).2.2.out = m.out := by unfold takeM; split <;> rfl
theorem rdN_exp (n : Nat) : ∀ (k : Nat) (q : RS) (m : MS) (acc l : List Tk) (q' : RS) (m' : MS), rdN n k q m acc = some (l, q', m') → expT n acc [] = some m.out → m.out.length ≤ n → expT n l [] = some m'.out ∧ m'.out.length = n
  | 0, q, m, acc, l, q', m', h, _, _ => by cases h
  | k + 1, q, m, acc, l, q', m', h, he, hn => by
    rw [rdN] at h
    by_cases hlt : m.out.length < n
    · rw [if_pos hlt] at h
      by_cases hf : fitsP (takeM q m).2.2.out (takeM q m).1 n
      · rw [if_pos hf] at h
        have ho := takeM_out q m
        refine rdN_exp n k _ _ _ _ _ _ h ?_ ?_
        · rw [expT_append, he]
          show expT n [(takeM q m).1] m.out = _
          rw [expT, ← ho, if_pos hf]
          rfl
        · have h1 := sawT_len (takeM q m).2.2.out _ hf.1
          have h2 := hf.2.2
          show (sawT (takeM q m).2.2.out (takeM q m).1).length ≤ n
          omega
      · rw [if_neg hf] at h; cases h
    · rw [if_neg hlt] at h
      injection h with h
      injection h with h1 h2
      injection h2 with h2 h3
      subst h1; subst h2; subst h3
      exact ⟨he, by omega⟩
theorem read_exp {x : List Int} {n : Int} {l : List Tk} {b : List UInt8} (h : readN x n = (l, b, 0)) : expT b.length l [] = some b ∧ (b.length : Int) = n ∧ b.length ≤ 65536 := by
  unfold readN at h
  by_cases hr : n < 0 ∨ 65536 < n
  · rw [if_pos hr] at h
    injection h with _ h; injection h with _ h; cases h
  rw [if_neg hr] at h
  cases hd : rdN n.toNat (n.toNat + 1) (openS x) ms0 [] with
  | none =>
    rw [hd] at h
    injection h with _ h; injection h with _ h; cases h
  | some r =>
    obtain ⟨l', q', m'⟩ := r
    rw [hd] at h
    simp only at h
    obtain ⟨h1, h2⟩ := rdN_exp _ _ _ _ _ _ _ _ hd rfl (Nat.zero_le _)
    by_cases he : q'.e = 0
    · rw [if_pos he] at h
      by_cases hrem : q'.rem = []
      · rw [if_pos hrem] at h
        injection h with e1 h; injection h with e2 h
        subst e1; subst e2
        exact ⟨by rw [h2]; exact h1, by omega, by omega⟩
      · rw [if_neg hrem] at h
        injection h with _ h; injection h with _ h; cases h
    · rw [if_neg he] at h
      injection h with _ h; injection h with _ h; exact absurd h he
theorem expT_more {n n' : Int} (hn : n ≤ n') : ∀ (l : List Tk) (out b : List UInt8), expT n l out = some b → expT n' l out = some b
  | [], _, _, h => h
  | t :: l, out, b, h => by
    rw [expT] at h ⊢
    by_cases hf : fitsP out t n
    · rw [if_pos hf] at h
      rw [if_pos (fitsP_more hf hn)]
      exact expT_more hn l _ _ h
    · rw [if_neg hf] at h; cases h
theorem unpack_ok {x b : List UInt8} (h : unpackN x = (b, 0)) : ∃ l rest, x = onum b.length ++ rest ∧ readN (ints rest) b.length = (l, b, 0) ∧ b.length ≤ 65536 := by
  unfold unpackN at h
  by_cases he : (readNum ⟨x, 0⟩ 65536).2.err ≠ 0
  · rw [if_pos he] at h
    injection h with _ h
    exact absurd h he
  · rw [if_neg he] at h
    obtain ⟨n, t2, ht⟩ : ∃ n t, readNum ⟨x, 0⟩ 65536 = (n, t) := ⟨_, _, rfl⟩
    rw [ht] at h he
    simp only at h he
    obtain ⟨_, k2, k3, k4, _⟩ := readNum_ok ht (by simpa using he)
    generalize hR : readN (ints t2.rest) n = r at h
    obtain ⟨l, b', z⟩ := r
    simp only at h
    injection h with e1 e2
    subst e1; subst e2
    obtain ⟨r1, r2, r3⟩ := read_exp hR
    refine ⟨l, t2.rest, ?_, ?_, r3⟩
    · rw [show b'.length = n.toNat by omega]; exact k2
    · rw [r2]; exact hR

/-- A token and itself. -/
theorem eqTk (t : Tk) (w : World) : (Op.equalIn 10000 39 (.agg (tkL t).toArray) (.agg (tkL t).toArray)).run Try.prog w = .ok true w := by
  simp only [tkL]
  have u3 := Try.underlying3
  have u9 := Try.underlying5
  have hS : Try.prog.underlying 39 = some (.struct (Try.prog.fieldsOf 39)) := by kernel_rfl
  have hp : Try.prog.stoodInHeld 39 = false := by kernel_rfl
  rw [show (10000 : Nat) = 9999 + 1 from rfl, run_equalIn_agg w 9999 39 _ _ hS hp]
  simp only [Program.fieldsOf, Try.underlying39]
  go_simp
theorem guardTk : Try.prog.eqGuardType Try.prog.depth 39 = false := by kernel_rfl
theorem neqTk (t : Tk) (w : World) : (binOp .neq 39 (.agg (tkL t).toArray) (.agg (tkL t).toArray)).run Try.prog w = .ok (.bool false) w := by
  rw [run_neq_struct, eqTk]; rfl
end Go.Proofs.Ytedcficjmogohaa

/- The walk over the law PackRaw. -/
namespace Go.Proofs.Ytedcficjmogohaa
set_option linter.unusedVariables false
set_option linter.unusedSimpArgs false
set_option maxRecDepth 100000
open Go.RowKit

theorem below_drew1 {B : Nat} {w w1 : World} (h : Below B w w1) (n : Nat) : Below B w (w1.drewN n) := below_drewN h n
set_option maxHeartbeats 3200000 in
theorem packraw_walk (A : Option Addr) (c : Nat) (x : List UInt8) (hc : x.length ≤ c ∧ c ≤ 9223372036854775807) (w : World) (hr : Rd w (.slice A x.length c) (bytesU x)) :
    Calls Try.prog 8 #[.slice A x.length c] w (fun e w' => e = .returned (.bool true) ∧ Below w.heap.size w w') := by
  have hb0 := Below.refl w.heap.size w
  by_cases hbig : (500 : Int) < (x.length : Int)
  · clear hr
    generalize x.length = L at *
    go_enter Try.func8, Try.ntmps8
    go_wp2_with fail
    refine (awake_any _).mono ?_
    rintro e wz ⟨rfl, bz⟩
    go_wp2
    go_ret
    exact ⟨rfl, bz⟩
  have HU := Lib.hid (unpack_any A c x (by omega) hc w hr)
  have Hr := Lib.hid (fun w1 (h : Below w.heap.size w w1) => hr.below h)
  obtain ⟨b, z, hz⟩ : ∃ b z, unpackN x = (b, z) := ⟨_, _, rfl⟩
  rw [hz] at HU
  by_cases h0 : z = 0
  · subst h0
    obtain ⟨l, rest, hx, hR, hbl⟩ := unpack_ok hz
    obtain ⟨r1, r2, r3⟩ := read_exp hR
    have hlen := (expT_len (n := (b.length : Int)) l [] b (by simp) r1).2
    have hll : l.length ≤ b.length := by simpa using hlen
    have hx6 : expT 65536 l [] = some b := expT_more (by omega) l [] b r1
    have hrw := read_write l b hbl r1
    have hiw := writeU_ints l (by omega)
    have HN := Lib.hid (fun w1 => refnum_any (b.length : Int) w1)
    rw [onumI_nat _ (by omega)] at HN
    have hpos := onum_pos b.length
    have hxl : x.length = (onum b.length).length + rest.length := by rw [hx, List.length_append]
    have hdrop : x.drop (onum b.length).length = rest := by rw [hx, List.drop_left]
    have htake : x.take (onum b.length).length = onum b.length := by rw [hx, List.take_left]
    have HE := Lib.hid (fun A1 c1 w1 (h : RdA 3 tkL w1 A1 l) => (expand_tk A1 c1 l (by omega) w1 h).mono (fun e w2 (hE : ExpP w1 l e w2) => And.intro (hE.1 b hx6) hE.2.2))
    have HW : Hid (∀ A1 c1 w1, RdA 3 tkL w1 A1 l → Calls Try.prog 17 #[.slice A1 l.length c1] w1 (RetB w1 (writeU l))) := Lib.hid (fun A1 c1 w1 h => by
      refine (write_any A1 c1 l (by omega) w1 h).mono ?_
      rintro e w2 ⟨v, he, ho, hb⟩
      rw [← hiw, bytesV_ints, ints_length] at ho
      exact ⟨v, he, ho, hb⟩)
    have HR2 := Lib.hid (fun vx w1 (h : Rd w1 vx (bytesU (writeU l))) => rread_any (writeU l) vx (by have := writeN_len l (by omega); rw [← hiw, ints_length] at this; omega) b.length (by omega) (by omega) w1 h)
    rw [hiw, hrw] at HR2
    have HR1 := Lib.hid (fun vx w1 (h : Rd w1 vx (bytesU rest)) => rread_any rest vx (by omega) b.length (by omega) (by omega) w1 h)
    rw [hR] at HR1
    have n1 : (l.length : Int) ≤ 65536 := by omega
    have n2 : (b.length : Int) ≤ 65536 := by omega
    have HX := Lib.hid (fun w1 (h : Below w.heap.size w w1) => And.intro (((Hr.out w1 h).takeU (onum b.length).length (by omega))) ((Hr.out w1 h).dropU hc.1 (onum b.length).length (by omega)))
    rw [htake, hdrop] at HX
    have Hxl := Lib.hid (And.intro hxl hpos)
    have m1 : ((onum b.length).length : Int) ≤ (x.length : Int) := by omega
    have m2 : (x.length : Int) ≤ (c : Int) := by omega
    have m3 : ((onum b.length).length : Int) ≤ (c : Int) := by omega
    have m5 : decide (x.length < (onum b.length).length) = false := decide_eq_false (by omega)
    have m6 : ¬ (x.length : Int) < ((onum b.length).length : Int) := by omega
    have m7 : decide ((x.length : Int) < ((onum b.length).length : Int)) = false := decide_eq_false m6
    have hckL : (c = (onum b.length).length → rest.length = 0) := by omega
    have HckL := Lib.hid hckL
    clear hr hz hx hR r1 r2 r3 hlen hx6 hrw hiw hdrop htake hxl hbl hll hckL hpos
    generalize hon : onum b.length = on at *
    clear hon
    go_enter Try.func8, Try.ntmps8
    go_wp2_with fail
    refine HU.out.mono ?_
    rintro e w1 ⟨A1, c1, rfl, q1, g1, b1⟩
    have Q1 := Lib.hid (fun w2 (h : Below w1.heap.size w1 w2) => q1.below h)
    clear HU q1
    go_wp2_with fail
    refine (HN.out w1).mono ?_
    rintro e w2 ⟨v2, rfl, o2, b2⟩
    have o2 := Own.fresh b1.size (Own.start w.heap.size w1) o2 b2
    have hb2 := b1.trans (b2.mono b1.size)
    have q2 := o2.rd
    obtain ⟨A2, c2, rfl⟩ := o2.row_n
    have Q2 := Lib.hid (fun w3 (h : Below w2.heap.size w2 w3) => q2.below h)
    have s1 := fun k => str_of_u (HX.out (w2.drewN k) (below_drewN hb2 k)).1
    have s2 := fun k => str_of_u (Q2.out (w2.drewN k) (below_drewN (Below.refl _ _) k))
    clear o2
    go_wp2
    go_quiet (fail)
    have hb3 := below_drewN hb2 nq
    have hrest := (HX.out (w2.drewN nq) hb3).2
    have Q3 := Lib.hid (fun w3 (h : Below (w2.drewN nq).heap.size (w2.drewN nq) w3) => Q1.out w3 ((b2.trans (below_drewN (Below.refl _ w2) nq |>.mono b2.size)).trans (h.mono (by have := b2.size; exact this))))
    clear s1 s2 HX Q2 q2 m5 m6 m7
    generalize w2.drewN nq = w3 at *
    obtain ⟨K, hK⟩ : ∃ K, on.length = K := ⟨_, rfl⟩
    have Hxl2 := Hxl.out
    rw [hK] at hrest m1 m3 HckL Hxl2 ⊢
    have hxr : x.length - K = rest.length := by omega
    rw [hxr] at hrest
    by_cases hck : c = K
    · subst hck
      have hrl : rest.length = 0 := HckL.out rfl
      have hxc : x.length = c := by omega
      rw [if_pos rfl, Nat.sub_self, hrl] at hrest
      have HR3 := Lib.hid (HR1.out _ w3 hrest)
      rw [hxc]
      clear HckL hrest hxr m1 m2 m3 Hxl Hxl2 hrl Hr hxc HR1 hc
      go_wp2_with fail
      refine HR3.out.mono ?_
      rintro e w4 ⟨A4, c4, rfl, a4, g4, b4⟩
      have hb4 := hb3.trans (b4.mono hb3.size)
      have q4 := Q3.out w4 b4
      have HE4 := Lib.hid (HE.out A4 c4 w4 a4)
      clear HR3 b4 HE hb3
      go_wp2_with fail
      refine HE4.out.mono ?_
      rintro e w5 ⟨⟨A5, rfl, q5⟩, b5⟩
      have hb5 := hb4.trans (b5.mono hb4.size)
      have a5 := a4.below b5
      have q45 := q4.below b5
      have HW5 := Lib.hid (HW.out A4 c4 w5 a5)
      clear HE4 b5 HW hb4 a4 q4
      go_wp2_with fail
      refine HW5.out.mono ?_
      rintro e w6 ⟨v6, rfl, o6, b6⟩
      have hb6 := hb5.trans (b6.mono hb5.size)
      have r6 := (Own.fresh hb5.size (Own.start w.heap.size w5) o6 b6).rd
      have HR6 := Lib.hid (HR2.out v6 w6 r6)
      have a6 := a5.below b6
      have q46 := q45.below b6
      have q56 := q5.below b6
      clear HW5 b6 o6 hb5 a5 q45 q5 r6 HR2
      go_wp2_with fail
      refine HR6.out.mono ?_
      rintro e w7 ⟨A7, c7, rfl, a7, g7, b7⟩
      have hb7 := hb6.trans (b7.mono hb6.size)
      have a47 := a6.below b7
      have s1 : (convert 22 9 (.slice A1 b.length c1)).run Try.prog w7 = .ok (.string (strU b)) w7 := str_of_u (q46.below b7)
      have s2 : (convert 22 9 (.slice A5 b.length b.length)).run Try.prog w7 = .ok (.string (strU b)) w7 := str_of_u (q56.below b7)
      have heq : ((strU b).toList == (strU b).toList) = true := by simp
      clear HR6 b7 hb6 a6 q46 q56
      go_wp2
      clear s1 s2 heq
      go_loopg [97] l.length (fun k v wr => ∃ i : Nat, k + i = l.length ∧ v = .int .i64 (i : Int) ∧ Below w7.heap.size w7 wr)
      case atStart => exact ⟨0, by omega, rfl, Below.refl _ _⟩
      case round =>
        obtain ⟨i, hk, rfl, hb⟩ := hrel
        by_cases hlt : (i : Int) < (l.length : Int)
        · obtain ⟨j, rfl⟩ : ∃ j, gk = j + 1 := ⟨gk - 1, by omega⟩
          have hil : i < l.length := by omega
          have i0' : (0 : Int) ≤ (i : Int) := by omega
          have i2' : ¬ (l.length : Int) ≤ (i : Int) := by omega
          have i3' : decide ((l.length : Int) ≤ (i : Int)) = false := decide_eq_false i2'
          have i4' : decide (l.length ≤ i) = false := decide_eq_false (by omega)
          obtain ⟨p1, o1, rfl, u1, d⟩ := a47.below hb i hil
          obtain ⟨p2, o2, rfl, u2, d'⟩ := a7.below hb i hil
          have Hk := Lib.hid hk
          clear hk
          have hneq := fun W => neqTk l[i] W
          generalize l[i] = t at *
          obtain ⟨lit, len, back⟩ := t
          obtain ⟨d0, d1, d2⟩ := RdA.cells3 d
          obtain ⟨e0, e1, e2⟩ := RdA.cells3 d'
          simp only [tkL] at d0 d1 d2 e0 e1 e2 hneq
          clear d d'
          go_wp2
          go_quiet (fail)
          go_wp2
          go_roundg j
          case measure => omega
          case rel => exact ⟨i + 1, by have := Hk.out; omega, rfl, below_drewN hb _⟩
        · have hbz := hb7.trans (hb.mono hb7.size)
          go_wp2_with fail
          refine (awake_any _).mono ?_
          rintro e wz ⟨rfl, bz⟩
          go_wp2
          go_ret
          exact ⟨rfl, hbz.trans (bz.mono hbz.size)⟩
    · rw [if_neg hck] at hrest
      have HR3 := Lib.hid (HR1.out _ w3 hrest)
      have hx2 : x.length = K + rest.length := by omega
      rw [hx2] at m1 m2 ⊢
      clear HckL hrest hxr Hxl Hxl2 Hr hx2 HR1
      go_wp2_with fail
      refine HR3.out.mono ?_
      rintro e w4 ⟨A4, c4, rfl, a4, g4, b4⟩
      have hb4 := hb3.trans (b4.mono hb3.size)
      have q4 := Q3.out w4 b4
      have HE4 := Lib.hid (HE.out A4 c4 w4 a4)
      clear HR3 b4 HE hb3
      go_wp2_with fail
      refine HE4.out.mono ?_
      rintro e w5 ⟨⟨A5, rfl, q5⟩, b5⟩
      have hb5 := hb4.trans (b5.mono hb4.size)
      have a5 := a4.below b5
      have q45 := q4.below b5
      have HW5 := Lib.hid (HW.out A4 c4 w5 a5)
      clear HE4 b5 HW hb4 a4 q4
      go_wp2_with fail
      refine HW5.out.mono ?_
      rintro e w6 ⟨v6, rfl, o6, b6⟩
      have hb6 := hb5.trans (b6.mono hb5.size)
      have r6 := (Own.fresh hb5.size (Own.start w.heap.size w5) o6 b6).rd
      have HR6 := Lib.hid (HR2.out v6 w6 r6)
      have a6 := a5.below b6
      have q46 := q45.below b6
      have q56 := q5.below b6
      clear HW5 b6 o6 hb5 a5 q45 q5 r6 HR2
      go_wp2_with fail
      refine HR6.out.mono ?_
      rintro e w7 ⟨A7, c7, rfl, a7, g7, b7⟩
      have hb7 := hb6.trans (b7.mono hb6.size)
      have a47 := a6.below b7
      have s1 : (convert 22 9 (.slice A1 b.length c1)).run Try.prog w7 = .ok (.string (strU b)) w7 := str_of_u (q46.below b7)
      have s2 : (convert 22 9 (.slice A5 b.length b.length)).run Try.prog w7 = .ok (.string (strU b)) w7 := str_of_u (q56.below b7)
      have heq : ((strU b).toList == (strU b).toList) = true := by simp
      clear HR6 b7 hb6 a6 q46 q56
      go_wp2
      clear s1 s2 heq
      go_loopg [97] l.length (fun k v wr => ∃ i : Nat, k + i = l.length ∧ v = .int .i64 (i : Int) ∧ Below w7.heap.size w7 wr)
      case atStart => exact ⟨0, by omega, rfl, Below.refl _ _⟩
      case round =>
        obtain ⟨i, hk, rfl, hb⟩ := hrel
        by_cases hlt : (i : Int) < (l.length : Int)
        · obtain ⟨j, rfl⟩ : ∃ j, gk = j + 1 := ⟨gk - 1, by omega⟩
          have hil : i < l.length := by omega
          have i0' : (0 : Int) ≤ (i : Int) := by omega
          have i2' : ¬ (l.length : Int) ≤ (i : Int) := by omega
          have i3' : decide ((l.length : Int) ≤ (i : Int)) = false := decide_eq_false i2'
          have i4' : decide (l.length ≤ i) = false := decide_eq_false (by omega)
          obtain ⟨p1, o1, rfl, u1, d⟩ := a47.below hb i hil
          obtain ⟨p2, o2, rfl, u2, d'⟩ := a7.below hb i hil
          have Hk := Lib.hid hk
          clear hk
          have hneq := fun W => neqTk l[i] W
          generalize l[i] = t at *
          obtain ⟨lit, len, back⟩ := t
          obtain ⟨d0, d1, d2⟩ := RdA.cells3 d
          obtain ⟨e0, e1, e2⟩ := RdA.cells3 d'
          simp only [tkL] at d0 d1 d2 e0 e1 e2 hneq
          clear d d'
          go_wp2
          go_quiet (fail)
          go_wp2
          go_roundg j
          case measure => omega
          case rel => exact ⟨i + 1, by have := Hk.out; omega, rfl, below_drewN hb _⟩
        · have hbz := hb7.trans (hb.mono hb7.size)
          go_wp2_with fail
          refine (awake_any _).mono ?_
          rintro e wz ⟨rfl, bz⟩
          go_wp2
          go_ret
          exact ⟨rfl, hbz.trans (bz.mono hbz.size)⟩
  · have hbn : b = [] := by
      have := unpack_err (x := x) (by rw [hz]; exact h0)
      rw [hz] at this
      exact this
    subst hbn
    have h0' : (z == 0) = false := by simpa using h0
    have h0'' : (z != 0) = true := by simpa using h0
    clear hz hr Hr
    go_enter Try.func8, Try.ntmps8
    go_wp2_with fail
    refine HU.out.mono ?_
    rintro e w1 ⟨A1, c1, rfl, q1, g1, b1⟩
    clear HU q1
    go_wp2_with fail
    refine (awake_any _).mono ?_
    rintro e wz ⟨rfl, bz⟩
    go_wp2
    go_ret
    exact ⟨rfl, b1.trans (bz.mono b1.size)⟩
end Go.Proofs.Ytedcficjmogohaa
