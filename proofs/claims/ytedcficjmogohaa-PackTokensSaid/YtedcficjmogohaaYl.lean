/- Texts of one proof, merged: XR5 XR6. -/
import Derived.Test.YtedcficjmogohaaYk
/- The walk over the law PackTokens. -/
namespace Go.Proofs.Ytedcficjmogohaa
set_option linter.unusedVariables false
set_option linter.unusedSimpArgs false
set_option maxRecDepth 100000
open Go.RowKit

theorem info_tok9 : (Try.prog.info? 43).map (fun i => (i.zero, i.size, i.bytes)) = some (some (.agg #[.int .u8 0, .int .i64 0, .int .i64 0]), 3, 24) := by kernel_rfl
theorem tok9_snoc {B : Nat} {R : HP} [Loc B R] {w : World} (hB : B ≤ w.heap.size) {v : Value} {xs : List Tk} (h : Own B (Rw 43 3 v xs.length (flat tkL xs) * R) w) (t : Tk) (hl : xs.length ≤ 1099511627775) :
    ∃ g cap w', (Builtin.append_ #[42, 42] 42 #[v, .slice (some ⟨w.heap.size, 0, none⟩) 1 1]).run Try.prog (w.alloc (.cells (tkL t).toArray 43)) = .ok (.slice (some ⟨g, 0, none⟩) (xs ++ [t]).length cap) w' ∧
      Own B (Rw 43 3 (.slice (some ⟨g, 0, none⟩) (xs ++ [t]).length cap) (xs ++ [t]).length (flat tkL (xs ++ [t])) * R) w' ∧ Below B w w' := by
  obtain ⟨i0, hi, hz0, hz1, hz2⟩ := info_parts info_tok9
  have h1 := h.alloc_keep hB (.cells (tkL t).toArray 43)
  have hB1 : B ≤ (w.alloc (.cells (tkL t).toArray 43)).heap.size := by simp; omega
  obtain ⟨v', w', hr, h2, h3, _, h5⟩ := run_append_own_at (P := Try.prog) (w.alloc (.cells (tkL t).toArray 43)) B 42 42 43 i0 _ 3 24 Try.underlying42 hi hz0 hz1 hz2 rfl (by omega) v xs.length (flat tkL xs) h1.row
    ⟨w.heap.size, 0, none⟩ 1 1 (tkL t) rfl (by
      intro j x hj
      rw [Addr.add_lit, Nat.zero_add]
      match j, hj with
      | 0, hj => simp [tkL] at hj; subst hj; simp [tkL]
      | 1, hj => simp [tkL] at hj; subst hj; simp [tkL]
      | 2, hj => simp [tkL] at hj; subst hj; simp [tkL]) (by intro x hx; simp [tkL] at hx; rcases hx with rfl | rfl | rfl <;> rfl) (by unfold maxLen; omega) (by omega) hB1
  have h6 := Own.appended hB1 h1 h2 h3 h5
  rw [show xs.length + 1 = (xs ++ [t]).length by simp, ← flat_snoc] at h6
  obtain ⟨g, cap, rfl, _⟩ := h6.1.row.form (by simp)
  exact ⟨g, cap, w', hr, h6.1, ((Below.refl B w).alloc hB _).trans h6.2⟩

theorem expT_less : ∀ (l : List Tk) (b : List UInt8), expT 65536 l [] = some b → expT b.length l [] = some b := by
  have h : ∀ (l : List Tk) (out b : List UInt8), expT 65536 l out = some b → expT b.length l out = some b ∧ out.length ≤ b.length := by
    intro l
    induction l with
    | nil => intro out b h; injection h with h; subst h; exact ⟨rfl, Nat.le_refl _⟩
    | cons t l ih =>
      intro out b h
      rw [expT] at h
      by_cases hf : fitsP out t 65536
      · rw [if_pos hf] at h
        obtain ⟨h1, h2⟩ := ih _ _ h
        have hs := sawT_len out t hf.1
        have hm := maxT_ge t
        rw [expT, if_pos ⟨hf.1, hf.2.1, by omega⟩]
        exact ⟨h1, by omega⟩
      · rw [if_neg hf] at h; cases h
  exact fun l b hb => (h l [] b hb).1
set_option maxHeartbeats 3200000 in
theorem packtokens_walk (A : Option Addr) (c : Nat) (l : List Tk) (hl9 : l.length ≤ 9223372036854775807) (w : World) (hr : RdA 3 tkL w A l) :
    Calls Try.prog 9 #[.slice A l.length c] w (fun e w' => e = .returned (.bool true) ∧ Below w.heap.size w w') := by
  have hb0 := Below.refl w.heap.size w
  by_cases hbig : (200 : Int) < (l.length : Int)
  · clear hr
    generalize l.length = L at *
    go_enter Try.func9, Try.ntmps9
    go_wp2_with fail
    refine (awake_any _).mono ?_
    rintro e wz ⟨rfl, bz⟩
    go_wp2
    go_ret
    exact ⟨rfl, bz⟩
  have hll : l.length ≤ 200 := by omega
  have n1 : (l.length : Int) ≤ 200 := by omega
  have HZ := Lib.hid (size_tk A c l (by omega) w hr)
  have Hr := Lib.hid (fun w1 (h : Below w.heap.size w w1) => hr.below h)
  obtain ⟨sz, hsz⟩ : ∃ sz, sizeT l = sz := ⟨_, rfl⟩
  rw [hsz] at HZ
  clear hsz hr
  by_cases hsb : (2000 : Int) < sz
  · go_enter Try.func9, Try.ntmps9
    go_wp2_with fail
    refine HZ.out.mono ?_
    rintro e w1 ⟨rfl, b1⟩
    clear HZ Hr
    go_wp2_with fail
    refine (awake_any _).mono ?_
    rintro e wz ⟨rfl, bz⟩
    go_wp2
    go_ret
    exact ⟨rfl, b1.trans (bz.mono b1.size)⟩
  have HE := Lib.hid (fun w1 (h : RdA 3 tkL w1 A l) => expand_tk A c l (by omega) w1 h)
  cases hx : expT 65536 l [] with
  | none =>
    have HE2 := Lib.hid (fun w1 (h : RdA 3 tkL w1 A l) => (HE.out w1 h).mono (fun e w2 (hE : ExpP w1 l e w2) => And.intro (hE.2.1 hx) hE.2.2))
    clear HE hx
    go_enter Try.func9, Try.ntmps9
    go_wp2_with fail
    refine HZ.out.mono ?_
    rintro e w1 ⟨rfl, b1⟩
    have a1 := Hr.out w1 b1
    clear HZ Hr
    go_wp2_with fail
    refine (HE2.out w1 a1).mono ?_
    rintro e w2 ⟨⟨z, hz, rfl⟩, b2⟩
    have hb2 := b1.trans (b2.mono b1.size)
    have hz' : (z == 0) = false := by simpa using hz
    have hz'' : (z != 0) = true := by simpa using hz
    clear HE2 a1
    go_wp2_with fail
    refine (awake_any _).mono ?_
    rintro e wz ⟨rfl, bz⟩
    go_wp2
    go_ret
    exact ⟨rfl, hb2.trans (bz.mono hb2.size)⟩
  | some b =>
    have hbl : b.length ≤ 65536 := by have := (expT_len (n := (65536 : Int)) l [] b (by simp) hx).1; omega
    have HE2 := Lib.hid (fun w1 (h : RdA 3 tkL w1 A l) => (HE.out w1 h).mono (fun e w2 (hE : ExpP w1 l e w2) => And.intro (hE.1 b hx) hE.2.2))
    have hiw := writeU_ints l (by omega)
    have HW : Hid (∀ A1 c1 w1, RdA 3 tkL w1 A1 l → Calls Try.prog 17 #[.slice A1 l.length c1] w1 (RetB w1 (writeU l))) := Lib.hid (fun A1 c1 w1 h => by
      refine (write_any A1 c1 l (by omega) w1 h).mono ?_
      rintro e w2 ⟨v, he, ho, hb⟩
      rw [← hiw, bytesV_ints, ints_length] at ho
      exact ⟨v, he, ho, hb⟩)
    have HF := Lib.hid (fun A1 c1 w1 (h : RdA 3 tkL w1 A1 l) => refwrite_any A1 c1 l b hx w1 h)
    have HR2 := Lib.hid (fun vx w1 (h : Rd w1 vx (bytesU (writeU l))) => rread_any (writeU l) vx (by have := writeN_len l (by omega); rw [← hiw, ints_length] at this; omega) b.length (by omega) (by omega) w1 h)
    have hxb : expT b.length l [] = some b := expT_less l b hx
    rw [hiw, read_write l b hbl hxb] at HR2
    have n2 : (b.length : Int) ≤ 65536 := by omega
    clear HE hx hiw hbl hxb
    generalize writeU l = u at *
    go_enter Try.func9, Try.ntmps9
    go_wp2_with fail
    refine HZ.out.mono ?_
    rintro e w1 ⟨rfl, b1⟩
    have a1 := Hr.out w1 b1
    clear HZ
    go_wp2_with fail
    refine (HE2.out w1 a1).mono ?_
    rintro e w2 ⟨⟨A2, rfl, q2⟩, b2⟩
    have hb2 := b1.trans (b2.mono b1.size)
    have o2 := (Own.start w.heap.size w2).rw_nil 43 3
    clear HE2 a1 q2 b1
    go_wp2
    go_loopg [5, 31] l.length (fun kk v5 v31 wr => ∃ (i : Nat) (v : Value), kk + i = l.length ∧ v = v5 ∧ v31 = .int .i64 (i : Int) ∧ Own w.heap.size (Rw 43 3 v (l.take i).length (flat tkL (l.take i)) * Emp) wr ∧ Below w.heap.size w wr)
    case atStart => exact ⟨0, _, by omega, rfl, rfl, o2, hb2⟩
    case round =>
      clear o2 hb2
      obtain ⟨i, v, hk, rfl, rfl, ho, hb⟩ := hrel
      have i0 : (0 : Int) ≤ (i : Int) := by omega
      by_cases hlt : (i : Int) < (l.length : Int)
      · obtain ⟨j, rfl⟩ : ∃ j, gk = j + 1 := ⟨gk - 1, by omega⟩
        have hil : i < l.length := by omega
        obtain ⟨p1, o1, rfl, q1, d⟩ := Hr.out _ hb i hil
        have hsn : l.take (i + 1) = l.take i ++ [l[i]] := List.take_succ_eq_append_getElem hil
        have Hk := Lib.hid hk
        have o3 := ho.alloc_keep hb.size (.cells (tkL l[i]).toArray 39)
        have b3 := hb.alloc hb.size (.cells (tkL l[i]).toArray 39)
        obtain ⟨g4, cap4, w4, hrun, o4, b4⟩ := tok9_snoc b3.size o3 l[i] (by rw [List.length_take]; omega)
        have hb4 := b3.trans b4
        rw [← hsn] at hrun o4
        generalize l[i] = t at *
        obtain ⟨lit, len, back⟩ := t
        obtain ⟨d0, d1, d2⟩ := RdA.cells3 d
        simp only [tkL] at d0 d1 d2 hrun
        rw [World.size_alloc'] at hrun
        have Hrun := Lib.hid hrun
        have O4 := Lib.hid o4
        clear d hk hsn o3 b3 o4 b4 hrun ho hb
        obtain ⟨L1, hL1⟩ : ∃ L1, (l.take (i + 1)).length = L1 := ⟨_, rfl⟩
        rw [hL1] at Hrun O4
        have HL1 := Lib.hid hL1
        clear hL1
        go_wp2_with (at_builtin; refine wpList_append_run rfl (.tmp 35) (.tmp 43) 42 rfl rfl rfl Hrun.out ?_)
        go_roundg j
        case measure => omega
        case rel => exact ⟨i + 1, _, by have := Hk.out; omega, rfl, rfl, by rw [HL1.out]; exact O4.out, hb4⟩
      · obtain rfl : i = l.length := by omega
        rw [List.take_length] at ho
        obtain ⟨A3, c3, rfl⟩ := ho.row_n
        have r3 : RdA 3 tkL wr A3 l := Own.rdA tkL_len rfl ho
        have R3 := Lib.hid (fun w2 (b : Below wr.heap.size wr w2) => r3.below b)
        clear ho r3
        go_wp2_with fail
        refine (HW.out A c wr (Hr.out _ hb)).mono ?_
        rintro e w5 ⟨v5, rfl, o5, b5⟩
        have hb5 := hb.trans (b5.mono hb.size)
        have o5 := Own.fresh hb.size (Own.start w.heap.size wr) o5 b5
        have u5 := o5.rd
        obtain ⟨A5, c5, rfl⟩ := o5.row_n
        have U5 := Lib.hid (fun w2 (b : Below w5.heap.size w5 w2) => u5.below b)
        have HR5 := Lib.hid (HR2.out _ w5 u5)
        clear o5 u5 HW HR2
        go_wp2_with fail
        refine HR5.out.mono ?_
        rintro e w6 ⟨A6, c6, rfl, a6, g6, b6⟩
        have hb6 := hb5.trans (b6.mono hb5.size)
        have u6 := U5.out w6 b6
        have r6 := R3.out w6 (b5.trans (b6.mono b5.size))
        clear HR5 b5 b6 U5 R3
        go_wp2
        refine wp_region_two (B := w6.heap.size) [0, 2] [1] [3, 4] [5, 6, 7, 8, 9, 10, 11, 12, 13, 14, 15, 16] (Kept w6.heap.size w6) (Kept w6.heap.size w6) Emp mixed (by kernel_rfl) rfl (fun _ _ _ _ _ h => h) (Nat.le_refl _) (((((Own.start w6.heap.size w6).kept (Below.refl _ _) (Nat.le_refl _)).kept (Below.refl _ _) (Nat.le_refl _))).drew (Nat.le_refl _)) ?_
        simp only [List.filterMap_cons, List.filterMap_nil, List.getElem?_toArray, List.getElem?_cons_succ, List.getElem?_cons_zero]
        repeat (
          refine free_val ?_ rfl (fun w1 => ?_) ?_
          rotate_left
          · (go_simp
             try go_bits
             rfl)
          simp only [Act.put, List.setIfInBounds_toArray, List.set_cons_zero, List.set_cons_succ])
        refine free_nil ?_
        refine ⟨fun vs F => vs = [.string (strU u)] ∧ F = Kept w6.heap.size w6, fun vs F => ∃ v5, vs = [v5, .string (strU u)] ∧ F = Rw 5 1 v5 u.length (bytesU u), ?_, ?_, ?_⟩
        · simp only [opsOf, List.filterMap_cons, List.filterMap_nil, List.getElem?_toArray, List.getElem?_cons_succ, List.getElem?_cons_zero]
          refine tw_val (.string (strU u)) rfl (fun R1 _ w1 hS => ?_) ?_
          · have s1 := str_of_u (u6.kept hS.kept_out)
            go_simp
          · exact tw_nil ⟨rfl, rfl⟩
        · simp only [opsOf, List.filterMap_cons, List.filterMap_nil, List.getElem?_toArray, List.getElem?_cons_succ, List.getElem?_cons_zero]
          refine tw_call 19 #[.slice A3 l.length c3] (fun v F => ∃ A6 c6, v = .slice A6 u.length c6 ∧ F = Rw 5 1 (.slice A6 u.length c6) u.length (bytesU u)) rfl (fun R1 _ w1 hS => by go_simp) (fun R1 _ w1 hB1 hS => (HF.out _ _ w1 (r6.kept hS.kept_out hB1)).mono ?_) ?_
          · rintro e w7 ⟨v6, rfl, ho6, b6⟩
            have o6 := Own.fresh hB1 hS.right ho6 b6
            obtain ⟨A6, c6, rfl⟩ := o6.row_n
            exact ⟨_, _, rfl, ⟨inferInstance, A6, c6, rfl, rfl⟩, o6, b6.mono hB1⟩
          · rintro v6 F6 _ ⟨A6, c6, rfl, rfl⟩
            simp only [Act.put, List.setIfInBounds_toArray, List.set_cons_zero, List.set_cons_succ]
            refine tw_val (.string (strU u)) rfl (fun R1 _ w1 hS => ?_) ?_
            · have s7 := str_of_u hS.rd
              go_simp
            · exact tw_nil ⟨_, rfl, rfl⟩
        · rintro vs1 F1 vs2 F2 w7 ⟨rfl, rfl⟩ ⟨v5, rfl, rfl⟩ o7 b7
          simp only [opsOf, putAll, Act.put, List.filterMap_cons, List.filterMap_nil, List.getElem?_toArray, List.getElem?_cons_succ, List.getElem?_cons_zero, List.setIfInBounds_toArray, List.set_cons_zero, List.set_cons_succ]
          have hb7 := hb6.trans (b7.mono hb6.size)
          have a7 := a6.below b7
          have heq : ((strU u).toList == (strU u).toList) = true := by simp
          clear o7 b7 a6 u6 r6 hb6
          refine wpAny_pre [5, 6, 7, 8, 9, 10] (n := 6) (by kernel_rfl) rfl ?_
          simp only [List.filterMap_cons, List.filterMap_nil, List.getElem?_toArray, List.getElem?_cons_succ, List.getElem?_cons_zero]
          go_wp2
          refine wpAny_mix (St w7.heap.size Emp w7) [11, 12, 13, 14] [15, 16] (by kernel_rfl) rfl ⟨Nat.le_refl _, Own.start _ _, Below.refl _ _⟩ ?_
          simp only [List.filterMap_cons, List.filterMap_nil, List.getElem?_toArray, List.getElem?_cons_succ, List.getElem?_cons_zero]
          repeat (first
            | (refine held_val ?_ rfl (fun w1 hS => ?_) ?_
               rotate_left
               · (skip
                  go_simp
                  try go_bits
                  rfl)
               simp only [Act.put, List.setIfInBounds_toArray, List.set_cons_zero, List.set_cons_succ])
            | (refine held_off rfl ?_
               simp only [Act.put, List.setIfInBounds_toArray, List.set_cons_zero, List.set_cons_succ]))
          refine held_nil (fun w8 hS => ?_)
          obtain ⟨B8, o8, b8⟩ := hS
          have hb8 : Below w.heap.size w w8 := hb7.trans (b8.mono hb7.size)
          have a8 : RdA 3 tkL w8 A6 l := a7.below b8
          clear o8 b8 a7 hb7 heq
          go_wp2
          go_loopg [74] l.length (fun k v wr => ∃ i : Nat, k + i = l.length ∧ v = .int .i64 (i : Int) ∧ Below w8.heap.size w8 wr)
          case atStart => exact ⟨0, by omega, rfl, Below.refl _ _⟩
          case round =>
            obtain ⟨i, hk, rfl, hb⟩ := hrel
            by_cases hlt : (i : Int) < (l.length : Int)
            · obtain ⟨j, rfl⟩ : ∃ j, gk = j + 1 := ⟨gk - 1, by omega⟩
              have hil : i < l.length := by omega
              have i0' : (0 : Int) ≤ (i : Int) := by omega
              have i2' : ¬ (l.length : Int) ≤ (i : Int) := by omega
              have i3' : decide ((l.length : Int) ≤ (i : Int)) = false := decide_eq_false i2'
              have i4' : decide (l.length ≤ i) = false := decide_eq_false (by omega)
              obtain ⟨p1, o1, rfl, u1, d⟩ := (Hr.out _ (hb8.trans (hb.mono hb8.size))) i hil
              obtain ⟨p2, o2, rfl, u2, d'⟩ := a8.below hb i hil
              have Hk := Lib.hid hk
              clear hk
              have hneq := fun W => neqTk l[i] W
              generalize l[i] = t at *
              obtain ⟨lit, len, back⟩ := t
              obtain ⟨d0, d1, d2⟩ := RdA.cells3 d
              obtain ⟨e0, e1, e2⟩ := RdA.cells3 d'
              simp only [tkL] at d0 d1 d2 e0 e1 e2 hneq
              clear d d'
              go_wp2
              go_quiet (fail)
              go_wp2
              go_roundg j
              case measure => omega
              case rel => exact ⟨i + 1, by have := Hk.out; omega, rfl, below_drewN hb _⟩
            · have hbz := hb8.trans (hb.mono hb8.size)
              go_wp2_with fail
              refine (awake_any _).mono ?_
              rintro e wz ⟨rfl, bz⟩
              go_wp2
              go_ret
              exact ⟨rfl, hbz.trans (bz.mono hbz.size)⟩
end Go.Proofs.Ytedcficjmogohaa

/- The tokens that a law of package pack is asked for, as its walk wants them. -/
namespace Go.Proofs.Ytedcficjmogohaa
set_option linter.unusedVariables false
set_option linter.unusedSimpArgs false
set_option maxRecDepth 100000
open Go.RowKit Go.Deep Go.ChangeShapes Go.WideShapes

section
variable {H : Type} {enc : TypeId × Value → H} {P : Program} {w : World} {base : Nat} {spare : Nat → Bool} {held : Bool}
/-- A slice of tokens that came in. -/
theorem rd_toks {t e tu ti : TypeId} {f0 f1 f2 : Field} {v : Value} {d : DataW H} {p : List MemPlace} (ht : P.underlying t = some (.slice e)) (he : P.underlying e = some (.struct #[f0, f1, f2])) (hone : oneCellFields P #[f0, f1, f2] = true) (hC : P.cellsOf e = 3)
    (htu : P.underlying tu = some (.int .u8)) (hti : P.underlying ti = some (.int .i64)) (h0 : f0.type = tu) (h1 : f1.type = ti) (h2 : f2.type = ti)
    (hv : ∃ A n c, v = .slice A n c) (h : DataW.Trod enc P w base spare held t v d p) : ∃ (A : Option Addr) (l : List Tk) (c : Nat), v = .slice A l.length c ∧ RdA 3 tkL w A l ∧ l.length ≤ c ∧ c ≤ maxLen := by
  obtain ⟨A, n, c, rfl⟩ := hv
  obtain ⟨fuel, hf⟩ := h
  rcases open_slice_fields ht he hone hC hf with ⟨hcs, _⟩ | ⟨a, len, cap, m, hcs, hb, hl, hm, hmm, hi⟩
  · simp [Value.cells] at hcs
    obtain ⟨rfl, rfl, rfl⟩ := hcs
    exact ⟨none, [], 0, rfl, RdA.nil, Nat.le_refl _, by unfold maxLen; omega⟩
  · simp [Value.cells] at hcs
    obtain ⟨rfl, rfl, rfl⟩ := hcs
    have hlm : n ≤ m := by rw [hmm]; split <;> omega
    have hel : ∀ i, i < n → ∃ q : Tk, w.cell? (a.add (i * 3 + 0)) = some (.int .u8 (q.lit.toNat : Int)) ∧ w.cell? (a.add (i * 3 + 1)) = some (.int .i64 q.len) ∧ w.cell? (a.add (i * 3 + 2)) = some (.int .i64 q.back) := by
      intro i hin
      obtain ⟨n', hfs⟩ := hi i (by omega)
      have g : ∀ (k : IntKind) (tk : TypeId) (_ : P.underlying tk = some (.int k)) (j : Nat) (f : Field), (#[f0, f1, f2] : Array Field)[j]? = some f → f.type = tk → ∃ z : Int, w.cell? (a.add (i * 3 + j)) = some (.int k z) ∧ (Lit.int k z).wf = true := by
        intro k tk htk j f hj hft
        obtain ⟨u, y, hc, hy⟩ := hfs j f hj
        obtain ⟨z, hz, _, hw⟩ := DataW.trod_int (k := k) (by rw [hft]; exact htk) hy
        simp at hz
        subst hz
        exact ⟨z, hc, hw⟩
      obtain ⟨z0, c0, w0⟩ := g .u8 tu htu 0 f0 rfl h0
      obtain ⟨z1, c1, w1⟩ := g .i64 ti hti 1 f1 rfl h1
      obtain ⟨z2, c2, w2⟩ := g .i64 ti hti 2 f2 rfl h2
      have b0 := bounds_u8 w0
      have e0 : ((UInt8.ofNat z0.toNat).toNat : Int) = z0 := by simp; omega
      exact ⟨⟨UInt8.ofNat z0.toNat, z1, z2⟩, by rw [c0, e0], c1, c2⟩
    by_cases hn : n = 0
    · subst hn
      exact ⟨some a, [], c, rfl, RdA.nil, Nat.zero_le _, hm⟩
    have hsp : a.spot = none := by
      obtain ⟨q, hq, _⟩ := hel 0 (by omega)
      have := World.cell?_spot hq
      simpa [Addr.add] using this
    obtain ⟨b, off, spot⟩ := a
    simp only at hsp
    subst hsp
    obtain ⟨g, hg⟩ := choose_lt (n := n) (α := Tk) (p := fun i q => w.cell? ((⟨b, off, none⟩ : Addr).add (i * 3 + 0)) = some (.int .u8 (q.lit.toNat : Int)) ∧ w.cell? ((⟨b, off, none⟩ : Addr).add (i * 3 + 1)) = some (.int .i64 q.len) ∧ w.cell? ((⟨b, off, none⟩ : Addr).add (i * 3 + 2)) = some (.int .i64 q.back)) hel
    refine ⟨some ⟨b, off, none⟩, (List.range n).map g, c, by simp, fun i hi' => ?_, by simpa using hl, hm⟩
    have hin : i < n := by simpa using hi'
    obtain ⟨q0, q1, q2⟩ := hg i hin
    rw [Addr.add_lit] at q0 q1 q2
    have hgi : ((List.range n).map g)[i] = g i := by simp
    refine ⟨b, off, rfl, World.block_lt_of_cell? w ⟨b, off + (i * 3 + 0), none⟩ q0, fun j u hu => ?_⟩
    rw [hgi] at hu
    rw [Nat.add_assoc]
    match j, hu with
    | 0, hu => simp [tkL] at hu; subst hu; exact q0
    | 1, hu => simp [tkL] at hu; subst hu; exact q1
    | 2, hu => simp [tkL] at hu; subst hu; exact q2
end
end Go.Proofs.Ytedcficjmogohaa
