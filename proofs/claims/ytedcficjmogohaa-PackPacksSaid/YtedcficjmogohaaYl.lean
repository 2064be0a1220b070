/- Texts of one proof, merged: XR5 XR6 XR7 XR8 XR9. -/
import Derived.Test.YtedcficjmogohaaYk
/- The walk over the law PackTokens. -/
namespace Go.Proofs.Ytedcficjmogohaa
set_option linter.unusedVariables false
set_option linter.unusedSimpArgs false
set_option maxRecDepth 100000
open Go.RowKit

theorem info_tok9 : (Try.prog.info? 43).map (fun i => (i.zero, i.size, i.bytes)) = some (some (.agg #[.int .u8 0, .int .i64 0, .int .i64 0]), 3, 24) := by kernel_rfl
theorem tok9_snoc {B : Nat} {R : HP} [Loc B R] {w : World} (hB : B ≤ w.heap.size) {v : Value} {xs : List Tk} (h : Own B (Rw 43 3 v xs.length (flat tkL xs) * R) w) (t : Tk) (hl : xs.length ≤ 1099511627775) :
    ∃ g cap w', (Builtin.append_ #[42, 42] 42 #[v, .slice (some ⟨w.heap.size, 0, none⟩) 1 1]).run Try.prog (w.alloc (.cells (tkL t).toArray 43)) = .ok (.slice (some ⟨g, 0, none⟩) (xs ++ [t]).length cap) w' ∧
      Own B (Rw 43 3 (.slice (some ⟨g, 0, none⟩) (xs ++ [t]).length cap) (xs ++ [t]).length (flat tkL (xs ++ [t])) * R) w' ∧ Below B w w' := by
  obtain ⟨i0, hi, hz0, hz1, hz2⟩ := info_parts info_tok9
  have h1 := h.alloc_keep hB (.cells (tkL t).toArray 43)
  have hB1 : B ≤ (w.alloc (.cells (tkL t).toArray 43)).heap.size := by simp; omega
  obtain ⟨v', w', hr, h2, h3, _, h5⟩ := run_append_own_at (P := Try.prog) (w.alloc (.cells (tkL t).toArray 43)) B 42 42 43 i0 _ 3 24 Try.underlying42 hi hz0 hz1 hz2 rfl (by omega) v xs.length (flat tkL xs) h1.row
    ⟨w.heap.size, 0, none⟩ 1 1 (tkL t) rfl (by
      intro j x hj
      rw [Addr.add_lit, Nat.zero_add]
      match j, hj with
      | 0, hj => simp [tkL] at hj; subst hj; simp [tkL]
      | 1, hj => simp [tkL] at hj; subst hj; simp [tkL]
      | 2, hj => simp [tkL] at hj; subst hj; simp [tkL]) (by intro x hx; simp [tkL] at hx; rcases hx with rfl | rfl | rfl <;> rfl) (by unfold maxLen; omega) (by omega) hB1
  have h6 := Own.appended hB1 h1 h2 h3 h5
  rw [show xs.length + 1 = (xs ++ [t]).length by simp, ← flat_snoc] at h6
  obtain ⟨g, cap, rfl, _⟩ := h6.1.row.form (by simp)
  exact ⟨g, cap, w', hr, h6.1, ((Below.refl B w).alloc hB _).trans h6.2⟩

theorem expT_less : ∀ (l : List Tk) (b : List UInt8), expT 65536 l [] = some b → expT b.length l [] = some b := by
  have h : ∀ (l : List Tk) (out b : List UInt8), expT 65536 l out = some b → expT b.length l out = some b ∧ out.length ≤ b.length := by
    intro l
    induction l with
    | nil => intro out b h; injection h with h; subst h; exact ⟨rfl, Nat.le_refl _⟩
    | cons t l ih =>
      intro out b h
      rw [expT] at h
      by_cases hf : fitsP out t 65536
      · rw [if_pos hf] at h
        obtain ⟨h1, h2⟩ := ih _ _ h
        have hs := sawT_len out t hf.1
        have hm := maxT_ge t
        rw [expT, if_pos ⟨hf.1, hf.2.1, by omega⟩]
        exact ⟨h1, by omega⟩
      · rw [if_neg hf] at h; cases h
  exact fun l b hb => (h l [] b hb).1
set_option maxHeartbeats 3200000 in
theorem packtokens_walk (A : Option Addr) (c : Nat) (l : List Tk) (hl9 : l.length ≤ 9223372036854775807) (w : World) (hr : RdA 3 tkL w A l) :
    Calls Try.prog 9 #[.slice A l.length c] w (fun e w' => e = .returned (.bool true) ∧ Below w.heap.size w w') := by
  have hb0 := Below.refl w.heap.size w
  by_cases hbig : (200 : Int) < (l.length : Int)
  · clear hr
    generalize l.length = L at *
    go_enter Try.func9, Try.ntmps9
    go_wp2_with fail
    refine (awake_any _).mono ?_
    rintro e wz ⟨rfl, bz⟩
    go_wp2
    go_ret
    exact ⟨rfl, bz⟩
  have hll : l.length ≤ 200 := by omega
  have n1 : (l.length : Int) ≤ 200 := by omega
  have HZ := Lib.hid (size_tk A c l (by omega) w hr)
  have Hr := Lib.hid (fun w1 (h : Below w.heap.size w w1) => hr.below h)
  obtain ⟨sz, hsz⟩ : ∃ sz, sizeT l = sz := ⟨_, rfl⟩
  rw [hsz] at HZ
  clear hsz hr
  by_cases hsb : (2000 : Int) < sz
  · go_enter Try.func9, Try.ntmps9
    go_wp2_with fail
    refine HZ.out.mono ?_
    rintro e w1 ⟨rfl, b1⟩
    clear HZ Hr
    go_wp2_with fail
    refine (awake_any _).mono ?_
    rintro e wz ⟨rfl, bz⟩
    go_wp2
    go_ret
    exact ⟨rfl, b1.trans (bz.mono b1.size)⟩
  have HE := Lib.hid (fun w1 (h : RdA 3 tkL w1 A l) => expand_tk A c l (by omega) w1 h)
  cases hx : expT 65536 l [] with
  | none =>
    have HE2 := Lib.hid (fun w1 (h : RdA 3 tkL w1 A l) => (HE.out w1 h).mono (fun e w2 (hE : ExpP w1 l e w2) => And.intro (hE.2.1 hx) hE.2.2))
    clear HE hx
    go_enter Try.func9, Try.ntmps9
    go_wp2_with fail
    refine HZ.out.mono ?_
    rintro e w1 ⟨rfl, b1⟩
    have a1 := Hr.out w1 b1
    clear HZ Hr
    go_wp2_with fail
    refine (HE2.out w1 a1).mono ?_
    rintro e w2 ⟨⟨z, hz, rfl⟩, b2⟩
    have hb2 := b1.trans (b2.mono b1.size)
    have hz' : (z == 0) = false := by simpa using hz
    have hz'' : (z != 0) = true := by simpa using hz
    clear HE2 a1
    go_wp2_with fail
    refine (awake_any _).mono ?_
    rintro e wz ⟨rfl, bz⟩
    go_wp2
    go_ret
    exact ⟨rfl, hb2.trans (bz.mono hb2.size)⟩
  | some b =>
    have hbl : b.length ≤ 65536 := by have := (expT_len (n := (65536 : Int)) l [] b (by simp) hx).1; omega
    have HE2 := Lib.hid (fun w1 (h : RdA 3 tkL w1 A l) => (HE.out w1 h).mono (fun e w2 (hE : ExpP w1 l e w2) => And.intro (hE.1 b hx) hE.2.2))
    have hiw := writeU_ints l (by omega)
    have HW : Hid (∀ A1 c1 w1, RdA 3 tkL w1 A1 l → Calls Try.prog 17 #[.slice A1 l.length c1] w1 (RetB w1 (writeU l))) := Lib.hid (fun A1 c1 w1 h => by
      refine (write_any A1 c1 l (by omega) w1 h).mono ?_
      rintro e w2 ⟨v, he, ho, hb⟩
      rw [← hiw, bytesV_ints, ints_length] at ho
      exact ⟨v, he, ho, hb⟩)
    have HF := Lib.hid (fun A1 c1 w1 (h : RdA 3 tkL w1 A1 l) => refwrite_any A1 c1 l b hx w1 h)
    have HR2 := Lib.hid (fun vx w1 (h : Rd w1 vx (bytesU (writeU l))) => rread_any (writeU l) vx (by have := writeN_len l (by omega); rw [← hiw, ints_length] at this; omega) b.length (by omega) (by omega) w1 h)
    have hxb : expT b.length l [] = some b := expT_less l b hx
    rw [hiw, read_write l b hbl hxb] at HR2
    have n2 : (b.length : Int) ≤ 65536 := by omega
    clear HE hx hiw hbl hxb
    generalize writeU l = u at *
    go_enter Try.func9, Try.ntmps9
    go_wp2_with fail
    refine HZ.out.mono ?_
    rintro e w1 ⟨rfl, b1⟩
    have a1 := Hr.out w1 b1
    clear HZ
    go_wp2_with fail
    refine (HE2.out w1 a1).mono ?_
    rintro e w2 ⟨⟨A2, rfl, q2⟩, b2⟩
    have hb2 := b1.trans (b2.mono b1.size)
    have o2 := (Own.start w.heap.size w2).rw_nil 43 3
    clear HE2 a1 q2 b1
    go_wp2
    go_loopg [5, 31] l.length (fun kk v5 v31 wr => ∃ (i : Nat) (v : Value), kk + i = l.length ∧ v = v5 ∧ v31 = .int .i64 (i : Int) ∧ Own w.heap.size (Rw 43 3 v (l.take i).length (flat tkL (l.take i)) * Emp) wr ∧ Below w.heap.size w wr)
    case atStart => exact ⟨0, _, by omega, rfl, rfl, o2, hb2⟩
    case round =>
      clear o2 hb2
      obtain ⟨i, v, hk, rfl, rfl, ho, hb⟩ := hrel
      have i0 : (0 : Int) ≤ (i : Int) := by omega
      by_cases hlt : (i : Int) < (l.length : Int)
      · obtain ⟨j, rfl⟩ : ∃ j, gk = j + 1 := ⟨gk - 1, by omega⟩
        have hil : i < l.length := by omega
        obtain ⟨p1, o1, rfl, q1, d⟩ := Hr.out _ hb i hil
        have hsn : l.take (i + 1) = l.take i ++ [l[i]] := List.take_succ_eq_append_getElem hil
        have Hk := Lib.hid hk
        have o3 := ho.alloc_keep hb.size (.cells (tkL l[i]).toArray 39)
        have b3 := hb.alloc hb.size (.cells (tkL l[i]).toArray 39)
        obtain ⟨g4, cap4, w4, hrun, o4, b4⟩ := tok9_snoc b3.size o3 l[i] (by rw [List.length_take]; omega)
        have hb4 := b3.trans b4
        rw [← hsn] at hrun o4
        generalize l[i] = t at *
        obtain ⟨lit, len, back⟩ := t
        obtain ⟨d0, d1, d2⟩ := RdA.cells3 d
        simp only [tkL] at d0 d1 d2 hrun
        rw [World.size_alloc'] at hrun
        have Hrun := Lib.hid hrun
        have O4 := Lib.hid o4
        clear d hk hsn o3 b3 o4 b4 hrun ho hb
        obtain ⟨L1, hL1⟩ : ∃ L1, (l.take (i + 1)).length = L1 := ⟨_, rfl⟩
        rw [hL1] at Hrun O4
        have HL1 := Lib.hid hL1
        clear hL1
        go_wp2_with (at_builtin; refine wpList_append_run rfl (.tmp 35) (.tmp 43) 42 rfl rfl rfl Hrun.out ?_)
        go_roundg j
        case measure => omega
        case rel => exact ⟨i + 1, _, by have := Hk.out; omega, rfl, rfl, by rw [HL1.out]; exact O4.out, hb4⟩
      · obtain rfl : i = l.length := by omega
        rw [List.take_length] at ho
        obtain ⟨A3, c3, rfl⟩ := ho.row_n
        have r3 : RdA 3 tkL wr A3 l := Own.rdA tkL_len rfl ho
        have R3 := Lib.hid (fun w2 (b : Below wr.heap.size wr w2) => r3.below b)
        clear ho r3
        go_wp2_with fail
        refine (HW.out A c wr (Hr.out _ hb)).mono ?_
        rintro e w5 ⟨v5, rfl, o5, b5⟩
        have hb5 := hb.trans (b5.mono hb.size)
        have o5 := Own.fresh hb.size (Own.start w.heap.size wr) o5 b5
        have u5 := o5.rd
        obtain ⟨A5, c5, rfl⟩ := o5.row_n
        have U5 := Lib.hid (fun w2 (b : Below w5.heap.size w5 w2) => u5.below b)
        have HR5 := Lib.hid (HR2.out _ w5 u5)
        clear o5 u5 HW HR2
        go_wp2_with fail
        refine HR5.out.mono ?_
        rintro e w6 ⟨A6, c6, rfl, a6, g6, b6⟩
        have hb6 := hb5.trans (b6.mono hb5.size)
        have u6 := U5.out w6 b6
        have r6 := R3.out w6 (b5.trans (b6.mono b5.size))
        clear HR5 b5 b6 U5 R3
        go_wp2
        refine wp_region_two (B := w6.heap.size) [0, 2] [1] [3, 4] [5, 6, 7, 8, 9, 10, 11, 12, 13, 14, 15, 16] (Kept w6.heap.size w6) (Kept w6.heap.size w6) Emp mixed (by kernel_rfl) rfl (fun _ _ _ _ _ h => h) (Nat.le_refl _) (((((Own.start w6.heap.size w6).kept (Below.refl _ _) (Nat.le_refl _)).kept (Below.refl _ _) (Nat.le_refl _))).drew (Nat.le_refl _)) ?_
        simp only [List.filterMap_cons, List.filterMap_nil, List.getElem?_toArray, List.getElem?_cons_succ, List.getElem?_cons_zero]
        repeat (
          refine free_val ?_ rfl (fun w1 => ?_) ?_
          rotate_left
          · (go_simp
             try go_bits
             rfl)
          simp only [Act.put, List.setIfInBounds_toArray, List.set_cons_zero, List.set_cons_succ])
        refine free_nil ?_
        refine ⟨fun vs F => vs = [.string (strU u)] ∧ F = Kept w6.heap.size w6, fun vs F => ∃ v5, vs = [v5, .string (strU u)] ∧ F = Rw 5 1 v5 u.length (bytesU u), ?_, ?_, ?_⟩
        · simp only [opsOf, List.filterMap_cons, List.filterMap_nil, List.getElem?_toArray, List.getElem?_cons_succ, List.getElem?_cons_zero]
          refine tw_val (.string (strU u)) rfl (fun R1 _ w1 hS => ?_) ?_
          · have s1 := str_of_u (u6.kept hS.kept_out)
            go_simp
          · exact tw_nil ⟨rfl, rfl⟩
        · simp only [opsOf, List.filterMap_cons, List.filterMap_nil, List.getElem?_toArray, List.getElem?_cons_succ, List.getElem?_cons_zero]
          refine tw_call 19 #[.slice A3 l.length c3] (fun v F => ∃ A6 c6, v = .slice A6 u.length c6 ∧ F = Rw 5 1 (.slice A6 u.length c6) u.length (bytesU u)) rfl (fun R1 _ w1 hS => by go_simp) (fun R1 _ w1 hB1 hS => (HF.out _ _ w1 (r6.kept hS.kept_out hB1)).mono ?_) ?_
          · rintro e w7 ⟨v6, rfl, ho6, b6⟩
            have o6 := Own.fresh hB1 hS.right ho6 b6
            obtain ⟨A6, c6, rfl⟩ := o6.row_n
            exact ⟨_, _, rfl, ⟨inferInstance, A6, c6, rfl, rfl⟩, o6, b6.mono hB1⟩
          · rintro v6 F6 _ ⟨A6, c6, rfl, rfl⟩
            simp only [Act.put, List.setIfInBounds_toArray, List.set_cons_zero, List.set_cons_succ]
            refine tw_val (.string (strU u)) rfl (fun R1 _ w1 hS => ?_) ?_
            · have s7 := str_of_u hS.rd
              go_simp
            · exact tw_nil ⟨_, rfl, rfl⟩
        · rintro vs1 F1 vs2 F2 w7 ⟨rfl, rfl⟩ ⟨v5, rfl, rfl⟩ o7 b7
          simp only [opsOf, putAll, Act.put, List.filterMap_cons, List.filterMap_nil, List.getElem?_toArray, List.getElem?_cons_succ, List.getElem?_cons_zero, List.setIfInBounds_toArray, List.set_cons_zero, List.set_cons_succ]
          have hb7 := hb6.trans (b7.mono hb6.size)
          have a7 := a6.below b7
          have heq : ((strU u).toList == (strU u).toList) = true := by simp
          clear o7 b7 a6 u6 r6 hb6
          refine wpAny_pre [5, 6, 7, 8, 9, 10] (n := 6) (by kernel_rfl) rfl ?_
          simp only [List.filterMap_cons, List.filterMap_nil, List.getElem?_toArray, List.getElem?_cons_succ, List.getElem?_cons_zero]
          go_wp2
          refine wpAny_mix (St w7.heap.size Emp w7) [11, 12, 13, 14] [15, 16] (by kernel_rfl) rfl ⟨Nat.le_refl _, Own.start _ _, Below.refl _ _⟩ ?_
          simp only [List.filterMap_cons, List.filterMap_nil, List.getElem?_toArray, List.getElem?_cons_succ, List.getElem?_cons_zero]
          repeat (first
            | (refine held_val ?_ rfl (fun w1 hS => ?_) ?_
               rotate_left
               · (skip
                  go_simp
                  try go_bits
                  rfl)
               simp only [Act.put, List.setIfInBounds_toArray, List.set_cons_zero, List.set_cons_succ])
            | (refine held_off rfl ?_
               simp only [Act.put, List.setIfInBounds_toArray, List.set_cons_zero, List.set_cons_succ]))
          refine held_nil (fun w8 hS => ?_)
          obtain ⟨B8, o8, b8⟩ := hS
          have hb8 : Below w.heap.size w w8 := hb7.trans (b8.mono hb7.size)
          have a8 : RdA 3 tkL w8 A6 l := a7.below b8
          clear o8 b8 a7 hb7 heq
          go_wp2
          go_loopg [74] l.length (fun k v wr => ∃ i : Nat, k + i = l.length ∧ v = .int .i64 (i : Int) ∧ Below w8.heap.size w8 wr)
          case atStart => exact ⟨0, by omega, rfl, Below.refl _ _⟩
          case round =>
            obtain ⟨i, hk, rfl, hb⟩ := hrel
            by_cases hlt : (i : Int) < (l.length : Int)
            · obtain ⟨j, rfl⟩ : ∃ j, gk = j + 1 := ⟨gk - 1, by omega⟩
              have hil : i < l.length := by omega
              have i0' : (0 : Int) ≤ (i : Int) := by omega
              have i2' : ¬ (l.length : Int) ≤ (i : Int) := by omega
              have i3' : decide ((l.length : Int) ≤ (i : Int)) = false := decide_eq_false i2'
              have i4' : decide (l.length ≤ i) = false := decide_eq_false (by omega)
              obtain ⟨p1, o1, rfl, u1, d⟩ := (Hr.out _ (hb8.trans (hb.mono hb8.size))) i hil
              obtain ⟨p2, o2, rfl, u2, d'⟩ := a8.below hb i hil
              have Hk := Lib.hid hk
              clear hk
              have hneq := fun W => neqTk l[i] W
              generalize l[i] = t at *
              obtain ⟨lit, len, back⟩ := t
              obtain ⟨d0, d1, d2⟩ := RdA.cells3 d
              obtain ⟨e0, e1, e2⟩ := RdA.cells3 d'
              simp only [tkL] at d0 d1 d2 e0 e1 e2 hneq
              clear d d'
              go_wp2
              go_quiet (fail)
              go_wp2
              go_roundg j
              case measure => omega
              case rel => exact ⟨i + 1, by have := Hk.out; omega, rfl, below_drewN hb _⟩
            · have hbz := hb8.trans (hb.mono hb8.size)
              go_wp2_with fail
              refine (awake_any _).mono ?_
              rintro e wz ⟨rfl, bz⟩
              go_wp2
              go_ret
              exact ⟨rfl, hbz.trans (bz.mono hbz.size)⟩
end Go.Proofs.Ytedcficjmogohaa

/- The tokens that a law of package pack is asked for, as its walk wants them. -/
namespace Go.Proofs.Ytedcficjmogohaa
set_option linter.unusedVariables false
set_option linter.unusedSimpArgs false
set_option maxRecDepth 100000
open Go.RowKit Go.Deep Go.ChangeShapes Go.WideShapes

section
variable {H : Type} {enc : TypeId × Value → H} {P : Program} {w : World} {base : Nat} {spare : Nat → Bool} {held : Bool}
/-- A slice of tokens that came in. -/
theorem rd_toks {t e tu ti : TypeId} {f0 f1 f2 : Field} {v : Value} {d : DataW H} {p : List MemPlace} (ht : P.underlying t = some (.slice e)) (he : P.underlying e = some (.struct #[f0, f1, f2])) (hone : oneCellFields P #[f0, f1, f2] = true) (hC : P.cellsOf e = 3)
    (htu : P.underlying tu = some (.int .u8)) (hti : P.underlying ti = some (.int .i64)) (h0 : f0.type = tu) (h1 : f1.type = ti) (h2 : f2.type = ti)
    (hv : ∃ A n c, v = .slice A n c) (h : DataW.Trod enc P w base spare held t v d p) : ∃ (A : Option Addr) (l : List Tk) (c : Nat), v = .slice A l.length c ∧ RdA 3 tkL w A l ∧ l.length ≤ c ∧ c ≤ maxLen := by
  obtain ⟨A, n, c, rfl⟩ := hv
  obtain ⟨fuel, hf⟩ := h
  rcases open_slice_fields ht he hone hC hf with ⟨hcs, _⟩ | ⟨a, len, cap, m, hcs, hb, hl, hm, hmm, hi⟩
  · simp [Value.cells] at hcs
    obtain ⟨rfl, rfl, rfl⟩ := hcs
    exact ⟨none, [], 0, rfl, RdA.nil, Nat.le_refl _, by unfold maxLen; omega⟩
  · simp [Value.cells] at hcs
    obtain ⟨rfl, rfl, rfl⟩ := hcs
    have hlm : n ≤ m := by rw [hmm]; split <;> omega
    have hel : ∀ i, i < n → ∃ q : Tk, w.cell? (a.add (i * 3 + 0)) = some (.int .u8 (q.lit.toNat : Int)) ∧ w.cell? (a.add (i * 3 + 1)) = some (.int .i64 q.len) ∧ w.cell? (a.add (i * 3 + 2)) = some (.int .i64 q.back) := by
      intro i hin
      obtain ⟨n', hfs⟩ := hi i (by omega)
      have g : ∀ (k : IntKind) (tk : TypeId) (_ : P.underlying tk = some (.int k)) (j : Nat) (f : Field), (#[f0, f1, f2] : Array Field)[j]? = some f → f.type = tk → ∃ z : Int, w.cell? (a.add (i * 3 + j)) = some (.int k z) ∧ (Lit.int k z).wf = true := by
        intro k tk htk j f hj hft
        obtain ⟨u, y, hc, hy⟩ := hfs j f hj
        obtain ⟨z, hz, _, hw⟩ := DataW.trod_int (k := k) (by rw [hft]; exact htk) hy
        simp at hz
        subst hz
        exact ⟨z, hc, hw⟩
      obtain ⟨z0, c0, w0⟩ := g .u8 tu htu 0 f0 rfl h0
      obtain ⟨z1, c1, w1⟩ := g .i64 ti hti 1 f1 rfl h1
      obtain ⟨z2, c2, w2⟩ := g .i64 ti hti 2 f2 rfl h2
      have b0 := bounds_u8 w0
      have e0 : ((UInt8.ofNat z0.toNat).toNat : Int) = z0 := by simp; omega
      exact ⟨⟨UInt8.ofNat z0.toNat, z1, z2⟩, by rw [c0, e0], c1, c2⟩
    by_cases hn : n = 0
    · subst hn
      exact ⟨some a, [], c, rfl, RdA.nil, Nat.zero_le _, hm⟩
    have hsp : a.spot = none := by
      obtain ⟨q, hq, _⟩ := hel 0 (by omega)
      have := World.cell?_spot hq
      simpa [Addr.add] using this
    obtain ⟨b, off, spot⟩ := a
    simp only at hsp
    subst hsp
    obtain ⟨g, hg⟩ := choose_lt (n := n) (α := Tk) (p := fun i q => w.cell? ((⟨b, off, none⟩ : Addr).add (i * 3 + 0)) = some (.int .u8 (q.lit.toNat : Int)) ∧ w.cell? ((⟨b, off, none⟩ : Addr).add (i * 3 + 1)) = some (.int .i64 q.len) ∧ w.cell? ((⟨b, off, none⟩ : Addr).add (i * 3 + 2)) = some (.int .i64 q.back)) hel
    refine ⟨some ⟨b, off, none⟩, (List.range n).map g, c, by simp, fun i hi' => ?_, by simpa using hl, hm⟩
    have hin : i < n := by simpa using hi'
    obtain ⟨q0, q1, q2⟩ := hg i hin
    rw [Addr.add_lit] at q0 q1 q2
    have hgi : ((List.range n).map g)[i] = g i := by simp
    refine ⟨b, off, rfl, World.block_lt_of_cell? w ⟨b, off + (i * 3 + 0), none⟩ q0, fun j u hu => ?_⟩
    rw [hgi] at hu
    rw [Nat.add_assoc]
    match j, hu with
    | 0, hu => simp [tkL] at hu; subst hu; exact q0
    | 1, hu => simp [tkL] at hu; subst hu; exact q1
    | 2, hu => simp [tkL] at hu; subst hu; exact q2
end
end Go.Proofs.Ytedcficjmogohaa

/- The longest match by all places is that by the chain: plain. -/
namespace Go.Proofs.Ytedcficjmogohaa
set_option linter.unusedVariables false
set_option linter.unusedSimpArgs false
set_option maxRecDepth 100000

/-- All places below t, from above, as far as the window goes. -/
def RB (b : List UInt8) (win : Int) (m : Nat) : Nat → Nat × Nat → Nat × Nat
  | 0, r => r
  | t + 1, r => if win < (m : Int) - t then r else RB b win m t (if 2 < alikeN b t m ∧ r.1 < alikeN b t m then (alikeN b t m, m - t) else r)
theorem alike_same {b : List UInt8} {q m : Nat} (hm : m ≤ b.length) (h : 2 < alikeN b q m) : same3 b q m := by
  have h1 := (alk_in b q m 258 0).2.2 hm
  have e0 := alk_eq b q m 258 0 0 (Nat.le_refl _) (by unfold alikeN at h; omega)
  have e1 := alk_eq b q m 258 0 1 (by omega) (by unfold alikeN at h; omega)
  have e2 := alk_eq b q m 258 0 2 (by omega) (by unfold alikeN at h; omega)
  exact ⟨e0, e1, e2, by unfold alikeN at h; omega⟩
theorem lastP_ge (b : List UInt8) (x y z : UInt8) : ∀ (m q : Nat), q < m → at3 b q x y z → ∃ p, lastP b m x y z = some p ∧ (q : Int) ≤ p
  | 0, q, h, _ => by omega
  | m + 1, q, h, ha => by
    rw [lastP]
    by_cases hm : at3 b m x y z
    · rw [if_pos hm]; exact ⟨_, rfl, by omega⟩
    · rw [if_neg hm]
      have : q ≠ m := fun e => hm (e ▸ ha)
      exact lastP_ge b x y z m q (by omega) ha
/-- Between a place and the one ahead of it in the chain there is none that begins alike. -/
theorem gap {b : List UInt8} {c q m : Nat} (hc : c = m ∨ same3 b c m) (hqc : q < c) (h : same3 b q m) : (q : Int) ≤ prevP b c := by
  obtain ⟨h0, h1, h2, h3⟩ := h
  obtain ⟨x, hx⟩ : ∃ x, b[m]? = some x := ⟨_, List.getElem?_eq_getElem (by omega)⟩
  obtain ⟨y, hy⟩ : ∃ y, b[m + 1]? = some y := ⟨_, List.getElem?_eq_getElem (by omega)⟩
  obtain ⟨z, hz⟩ : ∃ z, b[m + 2]? = some z := ⟨_, List.getElem?_eq_getElem (by omega)⟩
  have hcx : b[c]? = some x ∧ b[c + 1]? = some y ∧ b[c + 2]? = some z := by
    rcases hc with rfl | ⟨k0, k1, k2, _⟩
    · exact ⟨hx, hy, hz⟩
    · exact ⟨k0.trans hx, k1.trans hy, k2.trans hz⟩
  obtain ⟨p, hp, hqp⟩ := lastP_ge b x y z c q hqc ⟨h0.trans hx, h1.trans hy, h2.trans hz⟩
  unfold prevP
  rw [hcx.1, hcx.2.1, hcx.2.2]
  simp only [hp, Option.getD_some]
  exact hqp
theorem rb_skip (b : List UInt8) (win : Int) (m : Nat) (hm : m ≤ b.length) (c : Nat) (r : Nat × Nat) : ∀ t, c ≤ t → (∀ q, c ≤ q → q < t → ¬ same3 b q m) → RB b win m t r = RB b win m c r
  | 0, hc, _ => by obtain rfl : c = 0 := by omega
                   rfl
  | t + 1, hc, h => by
    by_cases e : c = t + 1
    · rw [e]
    · have hs := h t (by omega) (by omega)
      have ha : ¬ 2 < alikeN b t m := fun h2 => hs (alike_same hm h2)
      rw [RB, if_neg (show ¬ (2 < alikeN b t m ∧ r.1 < alikeN b t m) from fun h => ha h.1)]
      have ih := rb_skip b win m hm c r t (by omega) (fun q h1 h2 => h q h1 (by omega))
      split
      · rename_i hw
        have : ∀ s, s ≤ t → RB b win m s r = r := by
          intro s hs
          cases s with
          | zero => rfl
          | succ s => rw [RB, if_pos (by omega)]
        exact (this c (by omega)).symm
      · exact ih
theorem rb_258 (b : List UInt8) (win : Int) (m d : Nat) : ∀ t, RB b win m t (258, d) = (258, d)
  | 0 => rfl
  | t + 1 => by
    have := (alk_in b t m 258 0).2.1
    rw [RB, if_neg (show ¬ (2 < alikeN b t m ∧ 258 < alikeN b t m) by unfold alikeN; omega), rb_258 b win m d t]
    split <;> rfl
theorem bst_rb (b : List UInt8) (win : Int) (m : Nat) (hm : m ≤ b.length) : ∀ (k : Nat) (c : Int) (n d : Nat), -1 ≤ c → c < m → c + 1 ≤ k → (0 ≤ c → same3 b c.toNat m) → bst b win m k c n d = RB b win m (c + 1).toNat (n, d)
  | 0, c, n, d, h0, h1, h2, _ => by
    rw [show (c + 1).toNat = 0 by omega]
    rfl
  | k + 1, c, n, d, h0, h1, h2, hs => by
    by_cases hc : 0 ≤ c
    · obtain ⟨q, rfl⟩ : ∃ q : Nat, c = (q : Int) := ⟨c.toNat, by omega⟩
      have hsq := hs hc
      rw [Int.toNat_natCast] at hsq
      have ha := alike_ge3 hsq
      have hpin := prevP_in b q
      have hq1 : ((q : Int) + 1).toNat = q + 1 := by omega
      rw [hq1, RB, bst]
      by_cases hw : (m : Int) - q ≤ win
      · rw [if_pos ⟨hc, hw⟩, if_neg (show ¬ win < (m : Int) - q by omega), Int.toNat_natCast]
        have hskip : ∀ r, RB b win m q r = RB b win m (prevP b q + 1).toNat r := fun r =>
          rb_skip b win m hm (prevP b q + 1).toNat r q (by omega) (fun p h1 h2 h3 => by
            have := gap (.inr hsq) h2 h3
            omega)
        have hps : 0 ≤ prevP b q → same3 b (prevP b q).toNat m := fun h2 => same3_trans (prevP_same b q h2) hsq
        by_cases hn : n < alikeN b q m
        · rw [if_pos hn, if_pos (show 2 < alikeN b q m ∧ n < alikeN b q m from ⟨by omega, hn⟩)]
          by_cases h258 : alikeN b q m = 258
          · rw [if_pos h258, h258, rb_258]
          · rw [if_neg h258, hskip, bst_rb b win m hm k (prevP b q) _ _ hpin.1 (by omega) (by omega) hps]
        · rw [if_neg hn, if_neg (show ¬ (2 < alikeN b q m ∧ n < alikeN b q m) from fun h => hn h.2), hskip, bst_rb b win m hm k (prevP b q) _ _ hpin.1 (by omega) (by omega) hps]
      · rw [if_neg (fun h => hw h.2), if_pos (show win < (m : Int) - q by omega)]
    · rw [show (c + 1).toNat = 0 by omega, bst, if_neg (fun h => hc h.1)]
      rfl
theorem best_rb (b : List UInt8) (win : Int) (m : Nat) (hm : m ≤ b.length) : bestN b win m = RB b win m m (0, 0) := by
  have hpin := prevP_in b m
  unfold bestN
  rw [bst_rb b win m hm (m + 1) (prevP b m) 0 0 hpin.1 hpin.2 (by omega) (prevP_same b m)]
  exact (rb_skip b win m hm (prevP b m + 1).toNat (0, 0) m (by omega) (fun q h1 h2 h3 => by
    have := gap (.inl rfl) h2 h3
    omega)).symm
/-- Behind the last place there is nothing more. -/
theorem rb_end (b : List UInt8) (win : Int) (m bk : Nat) (hb : 1 ≤ bk) (r : Nat × Nat) (h : win < bk ∨ m < bk) : RB b win m (m + 1 - bk) r = r := by
  by_cases hm : m < bk
  · rw [show m + 1 - bk = 0 by omega]; rfl
  · rw [show m + 1 - bk = (m - bk) + 1 by omega, RB, if_pos (by omega)]
theorem rb_step (b : List UInt8) (win : Int) (m bk : Nat) (hb : 1 ≤ bk) (h1 : (bk : Int) ≤ win) (h2 : bk ≤ m) (r : Nat × Nat) :
    RB b win m (m + 1 - bk) r = RB b win m (m + 1 - (bk + 1)) (if 2 < alikeN b (m - bk) m ∧ r.1 < alikeN b (m - bk) m then (alikeN b (m - bk) m, bk) else r) := by
  rw [show m + 1 - bk = (m - bk) + 1 by omega, RB, if_neg (by omega), show m - (m - bk) = bk by omega, show m + 1 - (bk + 1) = m - bk by omega]
end Go.Proofs.Ytedcficjmogohaa

/- The walk over the reference's Parse: all places are looked at. -/
namespace Go.Proofs.Ytedcficjmogohaa
set_option linter.unusedVariables false
set_option linter.unusedSimpArgs false
set_option maxRecDepth 100000
open Go.RowKit

def RetTk9 (w : World) (l : List Tk) (e : Ending) (w' : World) : Prop := ∃ v, e = .returned v ∧ w'.ownsRow w.heap.size 43 3 v l.length (flat tkL l) ∧ Below w.heap.size w w'
theorem RetTk9.mk {w w' : World} {l l' : List Tk} {e : Ending} {v : Value} {B : Nat} {R : HP} (he : e = .returned v) (hl : l' = l) (hB : B = w.heap.size) (ho : Own B (Rw 43 3 v l'.length (flat tkL l') * R) w') (hb : Below w.heap.size w w') : RetTk9 w l e w' := by
  subst hl; subst hB; exact ⟨v, he, ho.row, hb⟩
/-- The best so far, as it lies. -/
def bst9 (bm rn rd : Nat) : Array Value := #[.int .u8 (if rn = 0 then (bm : Int) else 0), .int .i64 (rn : Int), .int .i64 (rd : Int)]

set_option maxHeartbeats 3200000 in
theorem refparse_any (A : Option Addr) (c : Nat) (b : List UInt8) (hbl : b.length ≤ 65536) (win : Int) (hw1 : 1 ≤ win) (hw2 : win ≤ 32768) (w : World) (hr : Rd w (.slice A b.length c) (bytesU b)) :
    Calls Try.prog 22 #[.slice A b.length c, .int .i64 win] w (RetTk9 w (parseN b win)) := by
  have hO := (Own.start w.heap.size w).rw_nil 43 3
  have l1 : (b.length : Int) ≤ 65536 := by omega
  have Hr := Lib.hid (fun w1 (h : Below w.heap.size w w1) => hr.below h)
  have HP : Hid (parseN b win = prs b win b.length 0) := Lib.hid (by unfold parseN; rw [if_pos ⟨hw1, hw2⟩])
  generalize parseN b win = res at *
  have hb0 := Below.refl w.heap.size w
  clear hr
  go_enter Try.func22, Try.ntmps22
  go_wp2
  go_loopg [5, 6] b.length (fun k' v u wr => ∃ (m : Nat) (out : List Tk) (v0 : Value), v0 = v ∧ u = .int .i64 (m : Int) ∧ m ≤ b.length ∧ b.length ≤ k' + m ∧ out.length ≤ m ∧ Hid (out ++ prs b win k' m = res) ∧ Below w.heap.size w wr ∧ Own w.heap.size (Rw 43 3 v0 out.length (flat tkL out) * Emp) wr)
  case atStart => exact ⟨0, [], _, rfl, rfl, by omega, by omega, by simp, Lib.hid HP.out.symm, hb0, hO⟩
  case round =>
    clear hO hb0 HP
    obtain ⟨m, out, v, rfl, rfl, hm1, hm2, ho1, he, hb, ho⟩ := hrel
    by_cases hlt : (m : Int) < (b.length : Int)
    · obtain ⟨j, rfl⟩ : ∃ j, gk = j + 1 := ⟨gk - 1, by omega⟩
      have m0 : (0 : Int) ≤ (m : Int) := by omega
      have hml : m < b.length := by omega
      have he1 := he.out
      rw [prs, if_pos hml] at he1
      have He1 := Lib.hid he1
      have hin := bestN_in b win m (by omega)
      have Hrb := Lib.hid (best_rb b win m hm1)
      have Htk : Hid (tokAt b win m = ⟨if (bestN b win m).1 = 0 then b[m] else 0, (bestN b win m).1, (bestN b win m).2⟩) := Lib.hid (by unfold tokAt; rw [List.getElem?_eq_getElem hml]; rfl)
      obtain ⟨b0, o0, rfl, x0⟩ := (Hr.out _ hb).at' m hml
      obtain ⟨bm, hbm⟩ : ∃ bm, b[m].toNat = bm := ⟨_, rfl⟩
      have hb8 := b[m].toNat_lt
      rw [hbm] at x0 hb8
      have Hbm := Lib.hid hbm
      have bm1 : (bm : Int) < 256 := by omega
      have bm0 : (0 : Int) ≤ (bm : Int) := by omega
      have o3 := ho.new hb.size 43 (bst9 bm 0 0)
      have b3 := hb.alloc hb.size (.cells (bst9 bm 0 0) 43)
      have Hm := Lib.hid (And.intro hm1 (And.intro hm2 ho1))
      simp only [bst9, if_true] at o3 b3
      clear he he1 hbm hb8 hm2 ho1 ho
      go_wp2
      generalize hX : wr.heap.size = X at *
      clear hX x0
      go_loopg [8] (m + 1) (fun kk v8 wr => ∃ (bk rn rd : Nat), v8 = .int .i64 (bk : Int) ∧ 1 ≤ bk ∧ bk ≤ m + 1 ∧ kk + bk = m + 2 ∧ Hid (RB b win m (m + 1 - bk) (rn, rd) = bestN b win m) ∧ rn ≤ 258 ∧ Own w.heap.size (Bk X 43 (bst9 bm rn rd) * (Rw 43 3 v out.length (flat tkL out) * Emp)) wr ∧ Below w.heap.size w wr)
      case atStart => exact ⟨1, 0, 0, rfl, by omega, by omega, by omega, Lib.hid (by rw [Nat.add_sub_cancel]; exact Hrb.out.symm), by omega, o3, b3⟩
      case round =>
        clear o3 b3 hb
        obtain ⟨bk, rn, rd, rfl, hbk1, hbk2, hkk, hbest, hrn258, ho, hb⟩ := hrel
        have bk0 : (1 : Int) ≤ (bk : Int) := by omega
        by_cases hw : (bk : Int) ≤ win
        · by_cases hbm2 : (bk : Int) ≤ (m : Int)
          · obtain ⟨j2, rfl⟩ : ∃ j2, gk = j2 + 1 := ⟨gk - 1, by omega⟩
            obtain ⟨q, hq⟩ : ∃ q, q + bk = m := ⟨m - bk, by omega⟩
            have hqe : m - bk = q := by omega
            have Hst := Lib.hid (rb_step b win m bk hbk1 hw (by omega) (rn, rd))
            rw [hqe] at Hst
            go_wp2
            go_loopg [9] 258 (fun kk v9 wr => ∃ n : Nat, kk + n = 258 ∧ v9 = .int .i64 (n : Int) ∧ Hid (alk b q m kk n = alikeN b q m) ∧ m + n ≤ b.length ∧ Own w.heap.size (Bk X 43 (bst9 bm rn rd) * (Rw 43 3 v out.length (flat tkL out) * Emp)) wr ∧ Below w.heap.size w wr)
            case atStart => exact ⟨0, rfl, rfl, Lib.hid rfl, by omega, ho, hb⟩
            case round =>
              clear ho hb
              obtain ⟨n, hk, rfl, ha, hmn, ho, hb⟩ := hrel
              have n0 : (0 : Int) ≤ (n : Int) := by omega
              by_cases h258 : (n : Int) < 258
              · obtain ⟨j3, rfl⟩ : ∃ j3, gk = j3 + 1 := ⟨gk - 1, by omega⟩
                by_cases hmlt : (m : Int) + (n : Int) < (b.length : Int)
                · have hml2 : m + n < b.length := by omega
                  have hql2 : q + n < b.length := by omega
                  obtain ⟨b1, o1, hA1, x1⟩ := (Hr.out _ hb).at' (q + n) hql2
                  obtain ⟨b2, o2, hA2, x2⟩ := (Hr.out _ hb).at' (m + n) hml2
                  cases hA1
                  cases hA2
                  have ha2 := ha.out
                  unfold alk at ha2
                  have Heq : Hid (b[q + n].toNat = b[m + n].toNat ↔ b[q + n]? = b[m + n]?) := Lib.hid (by
                    rw [List.getElem?_eq_getElem hql2, List.getElem?_eq_getElem hml2]
                    exact ⟨fun h => by rw [UInt8.toNat.inj h], fun h => by rw [Option.some.inj h]⟩)
                  obtain ⟨sq, hsq⟩ : ∃ sq, q + n = sq := ⟨_, rfl⟩
                  obtain ⟨sm, hsm⟩ : ∃ sm, m + n = sm := ⟨_, rfl⟩
                  have i1 : (m : Int) + (n : Int) - (bk : Int) = (sq : Int) := by omega
                  have i3 : (m : Int) + (n : Int) = (sm : Int) := by omega
                  have i1' : (sm : Int) - (bk : Int) = (sq : Int) := by omega
                  have i2 : (sq : Int) < (b.length : Int) := by omega
                  have i4 : (sm : Int) < (b.length : Int) := by omega
                  have i5 : (0 : Int) ≤ (sq : Int) := by omega
                  have i6 : (0 : Int) ≤ (sm : Int) := by omega
                  have z1 := b[q + n].toNat_lt
                  have z2 := b[m + n].toNat_lt
                  generalize b[q + n].toNat = x at *
                  generalize b[m + n].toNat = y at *
                  rw [hsq] at x1
                  rw [hsm] at x2
                  have x1' : (x : Int) < 256 := by omega
                  have x2' : (y : Int) < 256 := by omega
                  by_cases hxy : x = y
                  · have ha3 := Lib.hid ((if_pos (show m + n < b.length ∧ b[q + n]? = b[m + n]? from ⟨hml2, Heq.out.1 hxy⟩)).symm.trans ha2)
                    have Hk := Lib.hid hk
                    subst hxy
                    have Hmn := Lib.hid hml2
                    clear ha2 ha hk hmn hsq hsm hql2 hml2 hmlt z1 z2
                    have hxx : ((x : Int) == (x : Int)) = true := by simp
                    go_wp2
                    go_quiet (fail)
                    go_wp2
                    go_roundg j3
                    case measure => omega
                    case rel => exact ⟨n + 1, by have := Hk.out; omega, rfl, ha3, Hmn.out, ho.drewN hb.size _, below_drewN hb _⟩
                  · have Han : Hid (alikeN b q m = n) := Lib.hid ((if_neg (show ¬ (m + n < b.length ∧ b[q + n]? = b[m + n]?) from fun h => hxy (Heq.out.2 h.2))).symm.trans ha2).symm
                    have hxy' : ((x : Int) == (y : Int)) = false := by rw [beq_eq_false_iff_ne]; omega
                    have hxn : (x == y) = false := by simpa using hxy
                    have hxz : ¬ (x : Int) = (y : Int) := by omega
                    have n258' : n ≤ 258 := by omega
                    clear ha2 ha hk hmn hsq hsm hql2 hml2 hmlt z1 z2
                    go_wp2
                    go_quiet (fail)
                    have ho := ho.drewN hb.size nq
                    have hb := below_drewN hb nq
                    generalize wr.drewN nq = wr at *
                    have k1 : wr.cell? ⟨X, 1, none⟩ = some (.int .i64 (rn : Int)) := ho.cell 1
                    by_cases h2n : (2 : Int) < (n : Int)
                    · by_cases hrn : (rn : Int) < (n : Int)
                      · have k0 : wr.cell? ⟨X, 0, none⟩ = some (.int .u8 (if rn = 0 then (bm : Int) else 0)) := ho.cell 0
                        have k2 : wr.cell? ⟨X, 2, none⟩ = some (.int .i64 (rd : Int)) := ho.cell 2
                        have z0 := ho.unfrozen 0
                        have z1 := ho.unfrozen 1
                        have z2 := ho.unfrozen 2
                        obtain ⟨os, bs⟩ := (show Own w.heap.size (Bk X 43 #[.int .u8 (if rn = 0 then (bm : Int) else 0), .int .i64 (rn : Int), .int .i64 (rd : Int)] * (Rw 43 3 v out.length (flat tkL out) * Emp)) wr from ho).set3 hb.size (.int .u8 0) (.int .i64 (n : Int)) (.int .i64 (bk : Int))
                        have hbs := hb.trans bs
                        have Os : Hid (Own w.heap.size (Bk X 43 (bst9 bm n bk) * (Rw 43 3 v out.length (flat tkL out) * Emp)) _) := Lib.hid (by
                          have e : bst9 bm n bk = #[.int .u8 0, .int .i64 (n : Int), .int .i64 (bk : Int)] := by unfold bst9; rw [if_neg (by omega)]
                          rw [e]; exact os)
                        have Hb2 : Hid (RB b win m (m + 1 - (bk + 1)) (n, bk) = bestN b win m) := Lib.hid (by
                          have h1 := Hst.out
                          rw [Han.out, if_pos ⟨by omega, by omega⟩] at h1
                          rw [← h1]; exact hbest.out)
                        have Hbk2 := Lib.hid (show n ≤ 258 ∧ 1 ≤ bk + 1 ∧ bk + 1 ≤ m + 1 ∧ j2 + (bk + 1) = m + 2 by omega)
                        clear os bs ho hb hbest
                        generalize (if rn = 0 then (bm : Int) else 0) = lit at *
                        go_wp2
                        go_roundg j2
                        case measure => omega
                        case rel => exact ⟨bk + 1, n, bk, rfl, Hbk2.out.2.1, Hbk2.out.2.2.1, Hbk2.out.2.2.2, Hb2, Hbk2.out.1, Os.out, hbs⟩
                      · have hrn' : decide ((rn : Int) < (n : Int)) = false := decide_eq_false hrn
                        have Hb2 : Hid (RB b win m (m + 1 - (bk + 1)) (rn, rd) = bestN b win m) := Lib.hid (by
                          have h1 := Hst.out
                          rw [Han.out, if_neg (by first | omega | (simp only; omega))] at h1
                          rw [← h1]; exact hbest.out)
                        have Hbk2 := Lib.hid (show rn ≤ 258 ∧ 1 ≤ bk + 1 ∧ bk + 1 ≤ m + 1 ∧ j2 + (bk + 1) = m + 2 by omega)
                        clear hbest
                        go_wp2
                        go_roundg j2
                        case measure => omega
                        case rel => exact ⟨bk + 1, rn, rd, rfl, Hbk2.out.2.1, Hbk2.out.2.2.1, Hbk2.out.2.2.2, Hb2, Hbk2.out.1, ho, hb⟩
                    · have h2n' : decide ((2 : Int) < (n : Int)) = false := decide_eq_false h2n
                      have Hb2 : Hid (RB b win m (m + 1 - (bk + 1)) (rn, rd) = bestN b win m) := Lib.hid (by
                        have h1 := Hst.out
                        rw [Han.out, if_neg (by first | omega | (simp only; omega))] at h1
                        rw [← h1]; exact hbest.out)
                      have Hbk2 := Lib.hid (show rn ≤ 258 ∧ 1 ≤ bk + 1 ∧ bk + 1 ≤ m + 1 ∧ j2 + (bk + 1) = m + 2 by omega)
                      clear hbest
                      go_wp2
                      go_roundg j2
                      case measure => omega
                      case rel => exact ⟨bk + 1, rn, rd, rfl, Hbk2.out.2.1, Hbk2.out.2.2.1, Hbk2.out.2.2.2, Hb2, Hbk2.out.1, ho, hb⟩
                · have Han : Hid (alikeN b q m = n) := Lib.hid (by have := ha.out; unfold alk at this; rw [if_neg (by omega)] at this; exact this.symm)
                  have hltd : decide ((m : Int) + (n : Int) < (b.length : Int)) = false := decide_eq_false hmlt
                  have hml2 : (b.length : Int) ≤ (m : Int) + (n : Int) := by omega
                  have n258' : n ≤ 258 := by omega
                  clear ha hk hmn
                  go_wp2
                  go_quiet (fail)
                  have ho := ho.drewN hb.size nq
                  have hb := below_drewN hb nq
                  generalize wr.drewN nq = wr at *
                  have k1 : wr.cell? ⟨X, 1, none⟩ = some (.int .i64 (rn : Int)) := ho.cell 1
                  by_cases h2n : (2 : Int) < (n : Int)
                  · by_cases hrn : (rn : Int) < (n : Int)
                    · have k0 : wr.cell? ⟨X, 0, none⟩ = some (.int .u8 (if rn = 0 then (bm : Int) else 0)) := ho.cell 0
                      have k2 : wr.cell? ⟨X, 2, none⟩ = some (.int .i64 (rd : Int)) := ho.cell 2
                      have z0 := ho.unfrozen 0
                      have z1 := ho.unfrozen 1
                      have z2 := ho.unfrozen 2
                      obtain ⟨os, bs⟩ := (show Own w.heap.size (Bk X 43 #[.int .u8 (if rn = 0 then (bm : Int) else 0), .int .i64 (rn : Int), .int .i64 (rd : Int)] * (Rw 43 3 v out.length (flat tkL out) * Emp)) wr from ho).set3 hb.size (.int .u8 0) (.int .i64 (n : Int)) (.int .i64 (bk : Int))
                      have hbs := hb.trans bs
                      have Os : Hid (Own w.heap.size (Bk X 43 (bst9 bm n bk) * (Rw 43 3 v out.length (flat tkL out) * Emp)) _) := Lib.hid (by
                        have e : bst9 bm n bk = #[.int .u8 0, .int .i64 (n : Int), .int .i64 (bk : Int)] := by unfold bst9; rw [if_neg (by omega)]
                        rw [e]; exact os)
                      have Hb2 : Hid (RB b win m (m + 1 - (bk + 1)) (n, bk) = bestN b win m) := Lib.hid (by
                        have h1 := Hst.out
                        rw [Han.out, if_pos ⟨by omega, by omega⟩] at h1
                        rw [← h1]; exact hbest.out)
                      have Hbk2 := Lib.hid (show n ≤ 258 ∧ 1 ≤ bk + 1 ∧ bk + 1 ≤ m + 1 ∧ j2 + (bk + 1) = m + 2 by omega)
                      clear os bs ho hb hbest
                      generalize (if rn = 0 then (bm : Int) else 0) = lit at *
                      go_wp2
                      go_roundg j2
                      case measure => omega
                      case rel => exact ⟨bk + 1, n, bk, rfl, Hbk2.out.2.1, Hbk2.out.2.2.1, Hbk2.out.2.2.2, Hb2, Hbk2.out.1, Os.out, hbs⟩
                    · have hrn' : decide ((rn : Int) < (n : Int)) = false := decide_eq_false hrn
                      have Hb2 : Hid (RB b win m (m + 1 - (bk + 1)) (rn, rd) = bestN b win m) := Lib.hid (by
                        have h1 := Hst.out
                        rw [Han.out, if_neg (by first | omega | (simp only; omega))] at h1
                        rw [← h1]; exact hbest.out)
                      have Hbk2 := Lib.hid (show rn ≤ 258 ∧ 1 ≤ bk + 1 ∧ bk + 1 ≤ m + 1 ∧ j2 + (bk + 1) = m + 2 by omega)
                      clear hbest
                      go_wp2
                      go_roundg j2
                      case measure => omega
                      case rel => exact ⟨bk + 1, rn, rd, rfl, Hbk2.out.2.1, Hbk2.out.2.2.1, Hbk2.out.2.2.2, Hb2, Hbk2.out.1, ho, hb⟩
                  · have h2n' : decide ((2 : Int) < (n : Int)) = false := decide_eq_false h2n
                    have Hb2 : Hid (RB b win m (m + 1 - (bk + 1)) (rn, rd) = bestN b win m) := Lib.hid (by
                      have h1 := Hst.out
                      rw [Han.out, if_neg (by first | omega | (simp only; omega))] at h1
                      rw [← h1]; exact hbest.out)
                    have Hbk2 := Lib.hid (show rn ≤ 258 ∧ 1 ≤ bk + 1 ∧ bk + 1 ≤ m + 1 ∧ j2 + (bk + 1) = m + 2 by omega)
                    clear hbest
                    go_wp2
                    go_roundg j2
                    case measure => omega
                    case rel => exact ⟨bk + 1, rn, rd, rfl, Hbk2.out.2.1, Hbk2.out.2.2.1, Hbk2.out.2.2.2, Hb2, Hbk2.out.1, ho, hb⟩
              · have Han : Hid (alikeN b q m = n) := Lib.hid (by have := ha.out; rw [show gk = 0 by omega] at this; exact this.symm)
                have h258d : decide ((n : Int) < 258) = false := decide_eq_false h258
                have n258' : n ≤ 258 := by omega
                clear ha hk hmn
                go_wp2
                go_quiet (fail)
                have ho := ho.drewN hb.size nq
                have hb := below_drewN hb nq
                generalize wr.drewN nq = wr at *
                have k1 : wr.cell? ⟨X, 1, none⟩ = some (.int .i64 (rn : Int)) := ho.cell 1
                by_cases h2n : (2 : Int) < (n : Int)
                · by_cases hrn : (rn : Int) < (n : Int)
                  · have k0 : wr.cell? ⟨X, 0, none⟩ = some (.int .u8 (if rn = 0 then (bm : Int) else 0)) := ho.cell 0
                    have k2 : wr.cell? ⟨X, 2, none⟩ = some (.int .i64 (rd : Int)) := ho.cell 2
                    have z0 := ho.unfrozen 0
                    have z1 := ho.unfrozen 1
                    have z2 := ho.unfrozen 2
                    obtain ⟨os, bs⟩ := (show Own w.heap.size (Bk X 43 #[.int .u8 (if rn = 0 then (bm : Int) else 0), .int .i64 (rn : Int), .int .i64 (rd : Int)] * (Rw 43 3 v out.length (flat tkL out) * Emp)) wr from ho).set3 hb.size (.int .u8 0) (.int .i64 (n : Int)) (.int .i64 (bk : Int))
                    have hbs := hb.trans bs
                    have Os : Hid (Own w.heap.size (Bk X 43 (bst9 bm n bk) * (Rw 43 3 v out.length (flat tkL out) * Emp)) _) := Lib.hid (by
                      have e : bst9 bm n bk = #[.int .u8 0, .int .i64 (n : Int), .int .i64 (bk : Int)] := by unfold bst9; rw [if_neg (by omega)]
                      rw [e]; exact os)
                    have Hb2 : Hid (RB b win m (m + 1 - (bk + 1)) (n, bk) = bestN b win m) := Lib.hid (by
                      have h1 := Hst.out
                      rw [Han.out, if_pos ⟨by omega, by omega⟩] at h1
                      rw [← h1]; exact hbest.out)
                    have Hbk2 := Lib.hid (show n ≤ 258 ∧ 1 ≤ bk + 1 ∧ bk + 1 ≤ m + 1 ∧ j2 + (bk + 1) = m + 2 by omega)
                    clear os bs ho hb hbest
                    generalize (if rn = 0 then (bm : Int) else 0) = lit at *
                    go_wp2
                    go_roundg j2
                    case measure => omega
                    case rel => exact ⟨bk + 1, n, bk, rfl, Hbk2.out.2.1, Hbk2.out.2.2.1, Hbk2.out.2.2.2, Hb2, Hbk2.out.1, Os.out, hbs⟩
                  · have hrn' : decide ((rn : Int) < (n : Int)) = false := decide_eq_false hrn
                    have Hb2 : Hid (RB b win m (m + 1 - (bk + 1)) (rn, rd) = bestN b win m) := Lib.hid (by
                      have h1 := Hst.out
                      rw [Han.out, if_neg (by first | omega | (simp only; omega))] at h1
                      rw [← h1]; exact hbest.out)
                    have Hbk2 := Lib.hid (show rn ≤ 258 ∧ 1 ≤ bk + 1 ∧ bk + 1 ≤ m + 1 ∧ j2 + (bk + 1) = m + 2 by omega)
                    clear hbest
                    go_wp2
                    go_roundg j2
                    case measure => omega
                    case rel => exact ⟨bk + 1, rn, rd, rfl, Hbk2.out.2.1, Hbk2.out.2.2.1, Hbk2.out.2.2.2, Hb2, Hbk2.out.1, ho, hb⟩
                · have h2n' : decide ((2 : Int) < (n : Int)) = false := decide_eq_false h2n
                  have Hb2 : Hid (RB b win m (m + 1 - (bk + 1)) (rn, rd) = bestN b win m) := Lib.hid (by
                    have h1 := Hst.out
                    rw [Han.out, if_neg (by first | omega | (simp only; omega))] at h1
                    rw [← h1]; exact hbest.out)
                  have Hbk2 := Lib.hid (show rn ≤ 258 ∧ 1 ≤ bk + 1 ∧ bk + 1 ≤ m + 1 ∧ j2 + (bk + 1) = m + 2 by omega)
                  clear hbest
                  go_wp2
                  go_roundg j2
                  case measure => omega
                  case rel => exact ⟨bk + 1, rn, rd, rfl, Hbk2.out.2.1, Hbk2.out.2.2.1, Hbk2.out.2.2.2, Hb2, Hbk2.out.1, ho, hb⟩
          · have hres : RB b win m (m + 1 - bk) (rn, rd) = (rn, rd) := rb_end b win m bk hbk1 (rn, rd) (.inr (by omega))
            have hbd : decide ((bk : Int) ≤ (m : Int)) = false := decide_eq_false hbm2
            have hbe : bestN b win m = (rn, rd) := hbest.out.symm.trans hres
            rw [hbe] at hin He1 Htk
            have hbm' := Hbm.out
            have htk : tokAt b win m = ⟨if rn = 0 then b[m] else 0, rn, rd⟩ := Htk.out
            obtain ⟨lit, hlit⟩ : ∃ lit : UInt8, (if rn = 0 then b[m] else 0) = lit := ⟨_, rfl⟩
            rw [hlit] at htk
            have hcl : (if rn = 0 then (bm : Int) else 0) = (lit.toNat : Int) := by
              rw [← hlit]
              by_cases h : rn = 0
              · rw [if_pos h, if_pos h, hbm']
              · rw [if_neg h, if_neg h]; rfl
            have ho : Own w.heap.size (Bk X 43 #[.int .u8 (lit.toNat : Int), .int .i64 (rn : Int), .int .i64 (rd : Int)] * (Rw 43 3 v out.length (flat tkL out) * Emp)) wr := by
              unfold bst9 at ho
              rw [hcl] at ho
              exact ho
            have k0 : wr.cell? ⟨X, 0, none⟩ = some (.int .u8 (lit.toNat : Int)) := ho.cell 0
            have k1 : wr.cell? ⟨X, 1, none⟩ = some (.int .i64 (rn : Int)) := ho.cell 1
            have k2 : wr.cell? ⟨X, 2, none⟩ = some (.int .i64 (rd : Int)) := ho.cell 2
            have hm9 := Hm.out
            simp only at hin He1
            obtain ⟨g9, cap9, w9, hrun, o9, b9⟩ := tok9_snoc hb.size (ho.cast (sep_left_comm _ _ _)) ⟨lit, rn, rd⟩ (by omega)
            have hb9 := hb.trans b9
            have c9 : w9.cell? ⟨X, 1, none⟩ = some (.int .i64 (rn : Int)) := o9.cellOf X 1
            have o10 := (o9.cast (sep_left_comm _ _ _)).drop
            simp only [tkL] at hrun
            have hmx : (if (rn : Int) < 1 then (1 : Int) else (rn : Int)) = ((if rn = 0 then 1 else rn : Nat) : Int) := by
              by_cases h : rn = 0
              · subst h; rfl
              · rw [if_neg (by omega), if_neg h]
            have hmx2 : (if (1 : Int) < (rn : Int) then (rn : Int) else (1 : Int)) = ((if rn = 0 then 1 else rn : Nat) : Int) := by
              by_cases h : rn = 0
              · subst h; rfl
              · rw [if_neg h]; split <;> omega
            have Hst9 : Hid ((out ++ [(⟨lit, rn, rd⟩ : Tk)]) ++ prs b win j (m + (if rn = 0 then 1 else rn)) = res) := Lib.hid (by rw [← htk, List.append_assoc]; exact He1.out)
            have hln9 : (out ++ [(⟨lit, rn, rd⟩ : Tk)]).length ≤ m + (if rn = 0 then 1 else rn) := by rw [List.length_append]; have := hm9.2.2; simp; split <;> omega
            obtain ⟨mx, hmxe⟩ : ∃ mx, (if rn = 0 then 1 else rn) = mx := ⟨_, rfl⟩
            rw [hmxe] at hmx hmx2 Hst9 hln9
            have hmb : m + mx ≤ b.length ∧ b.length ≤ j + (m + mx) ∧ 1 ≤ mx ∧ mx ≤ 258 := by
              rw [← hmxe]
              split <;> omega
            have Hfin := Lib.hid (And.intro hmb hln9)
            have Hrun := Lib.hid hrun
            have O9 := Lib.hid o10
            have rn1 : (rn : Int) ≤ 258 := by omega
            have rn0 : (0 : Int) ≤ (rn : Int) := by omega
            have mx1 : (mx : Int) ≤ 258 := by omega
            have mx0 : (1 : Int) ≤ (mx : Int) := by omega
            have mm1 : (m : Int) ≤ 65536 := by omega
            clear hmb hln9 hmxe o9 o10 hrun hm9 hin htk hlit hcl hres hbe hbm' ho hb b9 hbest hbk2 hkk
            generalize out ++ [(⟨lit, rn, rd⟩ : Tk)] = out9 at *
            go_wp2_with (at_builtin; refine wpList_append_run rfl (.tmp 69) (.tmp 71) 42 rfl rfl rfl Hrun.out ?_)
            go_roundg j
            case measure => omega
            case rel => exact ⟨m + mx, out9, _, rfl, rfl, Hfin.out.1.1, Hfin.out.1.2.1, Hfin.out.2, Hst9, hb9, O9.out⟩
        · have hres : RB b win m (m + 1 - bk) (rn, rd) = (rn, rd) := rb_end b win m bk hbk1 (rn, rd) (.inl (by omega))
          have hbd : decide ((bk : Int) ≤ win) = false := decide_eq_false hw
          have hbe : bestN b win m = (rn, rd) := hbest.out.symm.trans hres
          rw [hbe] at hin He1 Htk
          have hbm' := Hbm.out
          have htk : tokAt b win m = ⟨if rn = 0 then b[m] else 0, rn, rd⟩ := Htk.out
          obtain ⟨lit, hlit⟩ : ∃ lit : UInt8, (if rn = 0 then b[m] else 0) = lit := ⟨_, rfl⟩
          rw [hlit] at htk
          have hcl : (if rn = 0 then (bm : Int) else 0) = (lit.toNat : Int) := by
            rw [← hlit]
            by_cases h : rn = 0
            · rw [if_pos h, if_pos h, hbm']
            · rw [if_neg h, if_neg h]; rfl
          have ho : Own w.heap.size (Bk X 43 #[.int .u8 (lit.toNat : Int), .int .i64 (rn : Int), .int .i64 (rd : Int)] * (Rw 43 3 v out.length (flat tkL out) * Emp)) wr := by
            unfold bst9 at ho
            rw [hcl] at ho
            exact ho
          have k0 : wr.cell? ⟨X, 0, none⟩ = some (.int .u8 (lit.toNat : Int)) := ho.cell 0
          have k1 : wr.cell? ⟨X, 1, none⟩ = some (.int .i64 (rn : Int)) := ho.cell 1
          have k2 : wr.cell? ⟨X, 2, none⟩ = some (.int .i64 (rd : Int)) := ho.cell 2
          have hm9 := Hm.out
          simp only at hin He1
          obtain ⟨g9, cap9, w9, hrun, o9, b9⟩ := tok9_snoc hb.size (ho.cast (sep_left_comm _ _ _)) ⟨lit, rn, rd⟩ (by omega)
          have hb9 := hb.trans b9
          have c9 : w9.cell? ⟨X, 1, none⟩ = some (.int .i64 (rn : Int)) := o9.cellOf X 1
          have o10 := (o9.cast (sep_left_comm _ _ _)).drop
          simp only [tkL] at hrun
          have hmx : (if (rn : Int) < 1 then (1 : Int) else (rn : Int)) = ((if rn = 0 then 1 else rn : Nat) : Int) := by
            by_cases h : rn = 0
            · subst h; rfl
            · rw [if_neg (by omega), if_neg h]
          have hmx2 : (if (1 : Int) < (rn : Int) then (rn : Int) else (1 : Int)) = ((if rn = 0 then 1 else rn : Nat) : Int) := by
            by_cases h : rn = 0
            · subst h; rfl
            · rw [if_neg h]; split <;> omega
          have Hst9 : Hid ((out ++ [(⟨lit, rn, rd⟩ : Tk)]) ++ prs b win j (m + (if rn = 0 then 1 else rn)) = res) := Lib.hid (by rw [← htk, List.append_assoc]; exact He1.out)
          have hln9 : (out ++ [(⟨lit, rn, rd⟩ : Tk)]).length ≤ m + (if rn = 0 then 1 else rn) := by rw [List.length_append]; have := hm9.2.2; simp; split <;> omega
          obtain ⟨mx, hmxe⟩ : ∃ mx, (if rn = 0 then 1 else rn) = mx := ⟨_, rfl⟩
          rw [hmxe] at hmx hmx2 Hst9 hln9
          have hmb : m + mx ≤ b.length ∧ b.length ≤ j + (m + mx) ∧ 1 ≤ mx ∧ mx ≤ 258 := by
            rw [← hmxe]
            split <;> omega
          have Hfin := Lib.hid (And.intro hmb hln9)
          have Hrun := Lib.hid hrun
          have O9 := Lib.hid o10
          have rn1 : (rn : Int) ≤ 258 := by omega
          have rn0 : (0 : Int) ≤ (rn : Int) := by omega
          have mx1 : (mx : Int) ≤ 258 := by omega
          have mx0 : (1 : Int) ≤ (mx : Int) := by omega
          have mm1 : (m : Int) ≤ 65536 := by omega
          clear hmb hln9 hmxe o9 o10 hrun hm9 hin htk hlit hcl hres hbe hbm' ho hb b9 hbest hbk2 hkk
          generalize out ++ [(⟨lit, rn, rd⟩ : Tk)] = out9 at *
          go_wp2_with (at_builtin; refine wpList_append_run rfl (.tmp 69) (.tmp 71) 42 rfl rfl rfl Hrun.out ?_)
          go_roundg j
          case measure => omega
          case rel => exact ⟨m + mx, out9, _, rfl, rfl, Hfin.out.1.1, Hfin.out.1.2.1, Hfin.out.2, Hst9, hb9, O9.out⟩
    · obtain rfl : m = b.length := by omega
      have hp0 : ∀ k, prs b win k b.length = [] := by
        intro k
        cases k with
        | zero => rfl
        | succ k => rw [prs, if_neg (by omega)]
      have he2 := he.out
      rw [hp0, List.append_nil] at he2
      have He2 := Lib.hid he2
      have O9 := Lib.hid ho
      clear hp0 he he2 hm2 ho
      go_wp2
      go_ret
      exact RetTk9.mk rfl He2.out rfl O9.out hb
end Go.Proofs.Ytedcficjmogohaa

/- The walks over the reference's Pack, and over the law PackPacks. -/
namespace Go.Proofs.Ytedcficjmogohaa
set_option linter.unusedVariables false
set_option linter.unusedSimpArgs false
set_option maxRecDepth 100000
open Go.RowKit

set_option maxHeartbeats 1600000 in
theorem refpack_any (A : Option Addr) (c : Nat) (b : List UInt8) (hbl : b.length ≤ 65536) (win : Int) (hw1 : 1 ≤ win) (hw2 : win ≤ 32768) (w : World) (hr : Rd w (.slice A b.length c) (bytesU b)) :
    Calls Try.prog 12 #[.slice A b.length c, .int .i64 win] w (RetB w (packN b win).1) := by
  have hres : (packN b win).1 = onumI b.length ++ writeU (parseN b win) := by unfold packN; rw [if_neg (by omega), if_neg (by omega)]
  rw [hres]
  have hpl := parseN_le b win
  have N := Lib.hid (refnum_any (b.length : Int) w)
  have HP := Lib.hid (fun w1 (b1 : Below w.heap.size w w1) => refparse_any A c b hbl win hw1 hw2 w1 (hr.below b1))
  have hol := onumI_len (b.length : Int)
  have HW := Lib.hid (fun A1 c1 w1 (h : RdA 3 tkL w1 A1 (parseN b win)) => refwrite_any A1 c1 (parseN b win) b (parse_exp b win hw1 hw2 65536 (by omega)) w1 h)
  have hwl := writeN_len (parseN b win) (by omega)
  have hwu : (writeU (parseN b win)).length = (writeN (parseN b win)).length := u8L_length _
  have Hb : Hid ((onumI (b.length : Int)).length + (writeU (parseN b win)).length ≤ 140737488355328) := Lib.hid (by omega)
  have n3 : (b.length : Int) ≤ 65536 := by omega
  clear hr hres hwl hwu hol hpl
  generalize writeU (parseN b win) = u at *
  generalize parseN b win = tk at *
  generalize onumI (b.length : Int) = on at *
  go_enter Try.func12, Try.ntmps12
  go_wp2_with fail
  refine N.out.mono ?_
  rintro e w1 ⟨v1, rfl, o1, b1⟩
  have o1 : Own w.heap.size (Rw 5 1 v1 on.length (bytesU on) * Emp) w1 := Own.fresh (Nat.le_refl _) (Own.start _ _) o1 b1
  have B1 := b1.size
  have HP1 := Lib.hid (HP.out w1 b1)
  clear HP N
  go_wp2_with fail
  refine HP1.out.mono ?_
  rintro e w2 ⟨v2, rfl, o2, b2⟩
  have o2 := Own.fresh B1 o1 o2 b2
  have hb2 := b1.trans (b2.mono B1)
  have B2 := hb2.size
  obtain ⟨A2, c2, rfl⟩ := o2.row_n
  have HW2 := Lib.hid (HW.out A2 c2 w2 (Own.rdA tkL_len rfl o2))
  clear HW HP1 b2 o1
  go_wp2_with fail
  refine HW2.out.mono ?_
  rintro e w3 ⟨v3, rfl, o3, b3⟩
  have o3 := Own.fresh B2 o2 o3 b3
  have hb3 := hb2.trans (b3.mono B2)
  have B3 := hb3.size
  obtain ⟨A3, c3, rfl⟩ := o3.row_n
  obtain ⟨v4, w4, hrun, o4, b4⟩ := byte_append B3 ((o3.foc (Rw 5 1 v1 on.length (bytesU on)))) o3.rd Hb.out
  have hb4 := hb3.trans b4
  have Hrun := Lib.hid hrun
  have Fin : Hid (RetB w (on ++ u) (.returned v4) w4) := Lib.hid (RetB.mk rfl rfl rfl rfl o4 hb4)
  obtain ⟨A1, c1, rfl⟩ := (o3.foc (Rw 5 1 v1 on.length (bytesU on))).row_n
  clear hrun o4 b4 o3 b3 o2 HW2 hb4
  go_wp2_with (at_builtin; refine wpList_append_run rfl (.tmp 7) (.tmp 11) 22 rfl rfl rfl Hrun.out ?_)
  go_ret
  exact Fin.out

set_option maxHeartbeats 1600000 in
theorem packpacks_walk (A : Option Addr) (c : Nat) (b : List UInt8) (hc : b.length ≤ c ∧ c ≤ 9223372036854775807) (win : Int) (w : World) (hr : Rd w (.slice A b.length c) (bytesU b)) :
    Calls Try.prog 3 #[.slice A b.length c, .int .i64 win] w (fun e w' => e = .returned (.bool true) ∧ Below w.heap.size w w') := by
  have hb0 := Below.refl w.heap.size w
  obtain ⟨L, hL⟩ : ∃ L, b.length = L := ⟨_, rfl⟩
  by_cases hmid : 300 < L ∧ L ≤ 65536
  · have g1 : (300 : Int) < (L : Int) := by omega
    have g2 : (L : Int) ≤ 65536 := by omega
    rw [hL]
    clear hr
    go_enter Try.func3, Try.ntmps3
    go_wp2_with fail
    refine (awake_any _).mono ?_
    rintro e wz ⟨rfl, bz⟩
    go_wp2
    go_ret
    exact ⟨rfl, bz⟩
  have HP := Lib.hid (pack_any A c b hc win w hr)
  by_cases hw : win < 1 ∨ 32768 < win
  · rw [show packN b win = ([], 1) by unfold packN; rw [if_pos hw]] at HP
    rw [hL] at HP ⊢
    clear hr
    by_cases h300 : (300 : Int) < (L : Int)
    · obtain ⟨LI, hLI⟩ : ∃ LI, (L : Int) = LI := ⟨_, rfl⟩
      have g3 : (65536 : Int) < LI := by omega
      have g4 : decide (LI ≤ 65536) = false := decide_eq_false (by omega)
      have g5 : (300 : Int) < LI := by omega
      have g6 : ¬ LI ≤ 65536 := by omega
      clear h300 hmid
      rcases hw with hw | hw
      · go_enter Try.func3, Try.ntmps3
        go_wp2_with fail
        refine HP.out.mono ?_
        rintro e w1 ⟨A1, c1, rfl, r1, g1, b1⟩
        clear HP r1
        go_wp2_with fail
        refine (awake_any _).mono ?_
        rintro e wz ⟨rfl, bz⟩
        go_wp2
        go_ret
        exact ⟨rfl, b1.trans (bz.mono b1.size)⟩
      · go_enter Try.func3, Try.ntmps3
        go_wp2_with fail
        refine HP.out.mono ?_
        rintro e w1 ⟨A1, c1, rfl, r1, g1, b1⟩
        clear HP r1
        go_wp2_with fail
        refine (awake_any _).mono ?_
        rintro e wz ⟨rfl, bz⟩
        go_wp2
        go_ret
        exact ⟨rfl, b1.trans (bz.mono b1.size)⟩
    · have h300' : decide ((300 : Int) < (L : Int)) = false := decide_eq_false h300
      rcases hw with hw | hw
      · go_enter Try.func3, Try.ntmps3
        go_wp2_with fail
        refine HP.out.mono ?_
        rintro e w1 ⟨A1, c1, rfl, r1, g1, b1⟩
        clear HP r1
        go_wp2_with fail
        refine (awake_any _).mono ?_
        rintro e wz ⟨rfl, bz⟩
        go_wp2
        go_ret
        exact ⟨rfl, b1.trans (bz.mono b1.size)⟩
      · go_enter Try.func3, Try.ntmps3
        go_wp2_with fail
        refine HP.out.mono ?_
        rintro e w1 ⟨A1, c1, rfl, r1, g1, b1⟩
        clear HP r1
        go_wp2_with fail
        refine (awake_any _).mono ?_
        rintro e wz ⟨rfl, bz⟩
        go_wp2
        go_ret
        exact ⟨rfl, b1.trans (bz.mono b1.size)⟩
  have hw1 : 1 ≤ win := by omega
  have hw2 : win ≤ 32768 := by omega
  by_cases hbig : 65536 < L
  · rw [show packN b win = ([], 7) by unfold packN; rw [if_neg hw, if_pos (by omega)]] at HP
    rw [hL] at HP ⊢
    clear hr
    obtain ⟨LI, hLI⟩ : ∃ LI, (L : Int) = LI := ⟨_, rfl⟩
    have g3 : (65536 : Int) < LI := by omega
    have g4 : decide (LI ≤ 65536) = false := decide_eq_false (by omega)
    have g5 : (300 : Int) < LI := by omega
    have g6 : ¬ LI ≤ 65536 := by omega
    clear hmid hbig hw
    go_enter Try.func3, Try.ntmps3
    go_wp2_with fail
    refine HP.out.mono ?_
    rintro e w1 ⟨A1, c1, rfl, r1, g1, b1⟩
    clear HP r1
    go_wp2_with fail
    refine (awake_any _).mono ?_
    rintro e wz ⟨rfl, bz⟩
    go_wp2
    go_ret
    exact ⟨rfl, b1.trans (bz.mono b1.size)⟩
  have h300 : L ≤ 300 := by omega
  have g1' : ¬ (300 : Int) < (L : Int) := by omega
  have g1d : decide ((300 : Int) < (L : Int)) = false := decide_eq_false g1'
  have g2 : (L : Int) ≤ 300 := by omega
  have hp0 : (packN b win).2 = 0 := by unfold packN; rw [if_neg hw, if_neg (by omega)]
  have HR := Lib.hid (fun w1 (h : Rd w1 (.slice A b.length c) (bytesU b)) => refpack_any A c b (by omega) win hw1 hw2 w1 h)
  have Hr := Lib.hid (fun w1 (h : Below w.heap.size w w1) => hr.below h)
  generalize packN b win = y at *
  obtain ⟨y, z⟩ := y
  simp only at hp0
  subst hp0
  rw [hL] at HP HR Hr ⊢
  have HR : Hid (∀ w1, Rd w1 (.slice A L c) (bytesU b) → Calls Try.prog 12 #[.slice A L c, .int .i64 win] w1 (RetB w1 y)) := HR
  clear hr hmid hw hbig
  go_enter Try.func3, Try.ntmps3
  go_wp2_with fail
  refine HP.out.mono ?_
  rintro e w1 ⟨A1, c1, rfl, r1, g1, b1⟩
  have r1 : Rd w1 (.slice A1 y.length c1) (bytesU y) := r1
  have rb := Hr.out w1 b1
  clear HP
  go_wp2
  refine wp_region_pre [0, 1, 2] 12 mixed (by kernel_rfl) rfl ?_
  simp only [List.filterMap_cons, List.filterMap_nil, List.getElem?_toArray, List.getElem?_cons_succ, List.getElem?_cons_zero]
  go_wp2
  have r2 : Rd w1.drew (.slice A1 y.length c1) (bytesU y) := r1.below ((Below.refl w1.heap.size w1).drew)
  have rb2 : Rd w1.drew (.slice A L c) (bytesU b) := rb.below ((Below.refl w1.heap.size w1).drew)
  have hb2 : Below w.heap.size w w1.drew := b1.drew
  clear r1 rb b1
  generalize w1.drew = w2 at *
  refine wpAny_ltwo (B := w2.heap.size) [3, 5, 6] [] [4] [7, 8] [9, 10, 11, 12, 13, 14] (Kept w2.heap.size w2) (Kept w2.heap.size w2) Emp (by kernel_rfl) rfl (fun _ _ _ _ _ h => h) (Nat.le_refl _) (((Own.start w2.heap.size w2).kept (Below.refl _ _) (Nat.le_refl _)).kept (Below.refl _ _) (Nat.le_refl _)) ?_
  simp only [List.filterMap_cons, List.filterMap_nil, List.getElem?_toArray, List.getElem?_cons_succ, List.getElem?_cons_zero]
  repeat (
    refine free_val ?_ rfl (fun w1 => ?_) ?_
    rotate_left
    · (go_simp
       try go_bits
       rfl)
    simp only [Act.put, List.setIfInBounds_toArray, List.set_cons_zero, List.set_cons_succ])
  refine free_nil ?_
  refine late_nil ?_
  refine ⟨fun vs F => vs = [.string (strU y)] ∧ F = Kept w2.heap.size w2, fun vs F => ∃ v5, vs = [v5, .string (strU y)] ∧ F = Rw 5 1 v5 y.length (bytesU y), ?_, ?_, ?_⟩
  · simp only [opsOf, List.filterMap_cons, List.filterMap_nil, List.getElem?_toArray, List.getElem?_cons_succ, List.getElem?_cons_zero]
    refine tw_val (.string (strU y)) rfl (fun R1 _ w1 hS => ?_) ?_
    · have s1 := str_of_u (r2.kept hS.kept_out)
      go_simp
    · exact tw_nil ⟨rfl, rfl⟩
  · simp only [opsOf, List.filterMap_cons, List.filterMap_nil, List.getElem?_toArray, List.getElem?_cons_succ, List.getElem?_cons_zero]
    refine tw_call 12 #[.slice A L c, .int .i64 win] (fun v F => ∃ A6 c6, v = .slice A6 y.length c6 ∧ F = Rw 5 1 (.slice A6 y.length c6) y.length (bytesU y)) rfl (fun R1 _ w1 hS => by go_simp) (fun R1 _ w1 hB1 hS => (HR.out w1 (rb2.kept hS.kept_out)).mono ?_) ?_
    · rintro e w7 ⟨v6, rfl, ho6, b6⟩
      have o6 := Own.fresh hB1 hS.right ho6 b6
      obtain ⟨A6, c6, rfl⟩ := o6.row_n
      exact ⟨_, _, rfl, ⟨inferInstance, A6, c6, rfl, rfl⟩, o6, b6.mono hB1⟩
    · rintro v6 F6 _ ⟨A6, c6, rfl, rfl⟩
      simp only [Act.put, List.setIfInBounds_toArray, List.set_cons_zero, List.set_cons_succ]
      refine tw_val (.string (strU y)) rfl (fun R1 _ w1 hS => ?_) ?_
      · have s7 := str_of_u hS.rd
        go_simp
      · exact tw_nil ⟨_, rfl, rfl⟩
  · rintro vs1 F1 vs2 F2 w7 ⟨rfl, rfl⟩ ⟨v5, rfl, rfl⟩ o7 b7
    simp only [opsOf, putAll, Act.put, List.filterMap_cons, List.filterMap_nil, List.getElem?_toArray, List.getElem?_cons_succ, List.getElem?_cons_zero, List.setIfInBounds_toArray, List.set_cons_zero, List.set_cons_succ]
    have hb7 := hb2.trans (b7.mono hb2.size)
    have heq : ((strU y).toList == (strU y).toList) = true := by simp
    clear o7 b7 r2 rb2 hb2
    go_wp2_with fail
    refine (awake_any _).mono ?_
    rintro e wz ⟨rfl, bz⟩
    go_wp2
    go_ret
    exact ⟨rfl, hb7.trans (bz.mono hb7.size)⟩
end Go.Proofs.Ytedcficjmogohaa
