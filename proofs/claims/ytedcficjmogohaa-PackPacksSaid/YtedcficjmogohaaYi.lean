/- Texts of one proof, merged: XO0 XO1 XO2 XO3 XRf XO4 XO5. -/
import Derived.Test.YtedcficjmogohaaYh
import Derived.Below
import Derived.RangeFuncNested
import Derived.RangeFuncBound
import Derived.RangeFuncCalls
import Derived.RangeFuncBox
import Derived.RangeFuncLeaves
import Derived.WalkKit
import Derived.OwnWalkIn
import Derived.TacticsInMore
import Derived.LoopNIn
import Derived.LoopIn
import Derived.Shelf.Abstract
import Derived.Shelf.RegionOpen
/- Numbers and bytes in a row: plain laws of what is written, and of what is read. -/
namespace Go.Proofs.Ytedcficjmogohaa
set_option linter.unusedVariables false
set_option linter.unusedSimpArgs false
set_option maxRecDepth 100000

/-- A number's bytes. -/
def onum (n : Nat) : List UInt8 := if n < 128 then [UInt8.ofNat n] else UInt8.ofNat (n % 128 + 128) :: onum (n / 128)
termination_by n
decreasing_by omega
theorem onum_small {n : Nat} (h : n < 128) : onum n = [UInt8.ofNat n] := by rw [onum, if_pos h]
theorem onum_big {n : Nat} (h : ¬ n < 128) : onum n = UInt8.ofNat (n % 128 + 128) :: onum (n / 128) := by rw [onum, if_neg h]
def onumI (n : Int) : List UInt8 := onum (if n < 0 ∨ 1099511627775 < n then 0 else n.toNat)
theorem onum_pos (n : Nat) : 1 ≤ (onum n).length := by rw [onum]; split <;> simp
theorem onum_len : ∀ (k n : Nat), n < 128 ^ (k + 1) → (onum n).length ≤ k + 1
  | 0, n, h => by rw [onum_small (by simpa using h)]; simp
  | k + 1, n, h => by
    by_cases hn : n < 128
    · rw [onum_small hn]; simp
    · rw [onum_big hn, List.length_cons]
      have := onum_len k (n / 128) (by rw [Nat.div_lt_iff_lt_mul (by omega)]; rw [Nat.pow_succ] at h; exact h)
      omega
theorem onum_len6 {n : Nat} (h : n ≤ 1099511627775) : (onum n).length ≤ 6 := onum_len 5 n (Nat.lt_of_le_of_lt h (by decide))
theorem onumI_len (n : Int) : (onumI n).length ≤ 6 := by
  unfold onumI
  split
  · rw [onum_small (by omega)]; simp
  · exact onum_len6 (by omega)

/-- What bytes stand for, the lowest first. -/
def lebV : List UInt8 → Nat
  | [] => 0
  | c :: l => c.toNat % 128 + 128 * lebV l
theorem lebV_lt : ∀ l : List UInt8, lebV l < 128 ^ l.length
  | [] => by simp [lebV]
  | c :: l => by
    have h := lebV_lt l
    rw [lebV, List.length_cons, Nat.pow_succ]
    omega
theorem u8_toNat (n : Nat) (h : n < 256) : (UInt8.ofNat n).toNat = n := by simp; omega
theorem lebV_onum : ∀ (k n : Nat), n < 128 ^ (k + 1) → lebV (onum n) = n
  | 0, n, h => by rw [onum_small (by simpa using h), lebV, lebV, u8_toNat _ (by omega)]; simp at h; omega
  | k + 1, n, h => by
    by_cases hn : n < 128
    · rw [onum_small hn, lebV, lebV, u8_toNat _ (by omega)]; omega
    · rw [onum_big hn, lebV, lebV_onum k _ (by rw [Nat.div_lt_iff_lt_mul (by omega)]; rw [Nat.pow_succ] at h; exact h), u8_toNat _ (by omega)]
      omega

/-- The end of the first number: the place of the first byte below 128. -/
def endN : List UInt8 → Option Nat
  | [] => none
  | c :: l => if c.toNat < 128 then some 0 else (endN l).map (· + 1)
theorem endN_lt : ∀ {l : List UInt8} {k : Nat}, endN l = some k → k < l.length
  | [], k, h => by simp [endN] at h
  | c :: l, k, h => by
    unfold endN at h
    split at h
    · injection h with h; subst h; simp
    · obtain ⟨j, hj, rfl⟩ := Option.map_eq_some_iff.1 h
      have := endN_lt hj
      simp; omega
theorem endN_onum (r : List UInt8) : ∀ (n : Nat), endN (onum n ++ r) = some ((onum n).length - 1) := by
  intro n
  induction n using Nat.strongRecOn with
  | _ n ih =>
    by_cases hn : n < 128
    · rw [onum_small hn]; simp [endN]; omega
    · rw [onum_big hn, List.cons_append, endN, if_neg (by rw [u8_toNat _ (by omega)]; omega), ih (n / 128) (by omega)]
      have := onum_pos (n / 128)
      simp; omega

/-- A reader: what is left, and its error. -/
structure OS where
  rest : List UInt8
  err : Int

def readNum (s : OS) (most : Int) : Int × OS :=
  if s.err ≠ 0 then (0, s) else
  match endN s.rest with
  | none => if 6 ≤ s.rest.length then (0, ⟨s.rest, 4⟩) else (0, ⟨s.rest, 2⟩)
  | some k =>
    if 6 ≤ k then (0, ⟨s.rest, 4⟩) else
    if 0 < k ∧ s.rest[k]? = some 0 then (0, ⟨s.rest.drop (k + 1), 4⟩) else
    if most < lebV (s.rest.take (k + 1)) ∨ 1099511627775 < lebV (s.rest.take (k + 1)) then (0, ⟨s.rest.drop (k + 1), 3⟩) else
    (lebV (s.rest.take (k + 1)), ⟨s.rest.drop (k + 1), 0⟩)
def otake (s : OS) (n : Nat) : List UInt8 × OS :=
  if s.err ≠ 0 then ([], s) else
  if s.rest.length < n then ([], ⟨s.rest, 2⟩) else (s.rest.take n, ⟨s.rest.drop n, 0⟩)
def readBytes (s : OS) (most : Int) : List UInt8 × OS := otake (readNum s most).2 (readNum s most).1.toNat
def oleft (s : OS) : Nat := if s.err ≠ 0 then 0 else s.rest.length
def oend (s : OS) : Int := if 0 < oleft s then 5 else s.err

theorem readNum_err {s : OS} (h : s.err ≠ 0) (most : Int) : readNum s most = (0, s) := by unfold readNum; rw [if_pos h]
theorem otake_err {s : OS} (h : s.err ≠ 0) (n : Nat) : otake s n = ([], s) := by unfold otake; rw [if_pos h]
theorem readNum_range (s : OS) (most : Int) (hm : 0 ≤ most) : 0 ≤ (readNum s most).1 ∧ (readNum s most).1 ≤ most ∧ (readNum s most).1 ≤ 1099511627775 := by
  unfold readNum
  split
  · exact ⟨Int.le_refl _, hm, by omega⟩
  split
  · split <;> exact ⟨Int.le_refl _, hm, by show (0 : Int) ≤ _; omega⟩
  · split
    · exact ⟨Int.le_refl _, hm, by show (0 : Int) ≤ _; omega⟩
    split
    · exact ⟨Int.le_refl _, hm, by show (0 : Int) ≤ _; omega⟩
    split
    · exact ⟨Int.le_refl _, hm, by show (0 : Int) ≤ _; omega⟩
    · rename_i h
      rw [not_or] at h
      exact ⟨Int.natCast_nonneg _, by simp only; omega, by simp only; omega⟩
theorem readNum_rest (s : OS) (most : Int) : (readNum s most).2.rest.length ≤ s.rest.length := by
  unfold readNum
  split
  · exact Nat.le_refl _
  split
  · split <;> exact Nat.le_refl _
  · split
    · exact Nat.le_refl _
    split
    · simp
    split <;> simp

/-- WHAT WAS WRITTEN IS READ. -/
theorem readNum_onum {n : Nat} (h : n ≤ 1099511627775) (most : Int) (hm : (n : Int) ≤ most) (r : List UInt8) : readNum ⟨onum n ++ r, 0⟩ most = ((n : Int), ⟨r, 0⟩) := by
  have h1 := onum_pos n
  have h6 := onum_len6 h
  have e : (onum n).length - 1 + 1 = (onum n).length := by omega
  have hv : lebV (onum n) = n := lebV_onum 5 n (Nat.lt_of_le_of_lt h (by decide))
  unfold readNum
  rw [if_neg (by simp)]
  simp only [endN_onum]
  rw [if_neg (by omega), e, List.take_left, List.drop_left, hv]
  have hz : ∀ m : Nat, 128 ≤ m → ¬ (onum m)[(onum m).length - 1]? = some 0 := by
    intro m
    induction m using Nat.strongRecOn with
    | _ m ih =>
      intro hm
      rw [onum_big (by omega), List.length_cons]
      have hp := onum_pos (m / 128)
      rw [show (onum (m / 128)).length + 1 - 1 = ((onum (m / 128)).length - 1) + 1 by omega, List.getElem?_cons_succ]
      by_cases hs : 128 ≤ m / 128
      · exact ih _ (by omega) hs
      · rw [onum_small (by omega)]
        simp
        intro e
        have := congrArg UInt8.toNat e
        rw [u8_toNat _ (by omega)] at this
        simp at this
        omega
  rw [if_neg, if_neg (by omega)]
  rintro ⟨hk, h0⟩
  rw [List.getElem?_append_left (by omega)] at h0
  by_cases hs : 128 ≤ n
  · exact hz n hs h0
  · rw [onum_small (by omega)] at hk; simp at hk

theorem onum_lebV : ∀ (l r : List UInt8) (k : Nat), endN l = some k → ¬ (0 < k ∧ l[k]? = some 0) → l = onum (lebV (l.take (k + 1))) ++ l.drop (k + 1)
  | [], _, k, h, _ => by simp [endN] at h
  | c :: l, r, k, h, h0 => by
    unfold endN at h
    split at h
    · injection h with h; subst h
      rename_i hc
      rw [List.take_succ_cons, List.take_zero, lebV, lebV, onum_small (by omega)]
      simp only [List.drop_succ_cons, List.drop_zero, List.singleton_append, Nat.mul_zero, Nat.add_zero, List.cons.injEq, and_true]
      apply UInt8.toNat.inj
      rw [u8_toNat _ (by omega)]; omega
    · rename_i hc
      obtain ⟨j, hj, rfl⟩ := Option.map_eq_some_iff.1 h
      have hjl := endN_lt hj
      rw [List.getElem?_cons_succ] at h0
      have h0' : ¬ l[j]? = some 0 := fun e => h0 ⟨by omega, e⟩
      have ih := onum_lebV l r j hj (fun e => h0' e.2)
      have hc8 : c.toNat < 256 := c.toNat_lt
      have hpos : 1 ≤ lebV (l.take (j + 1)) := by
        have hg : ∀ (m : List UInt8) (j : Nat), endN m = some j → ¬ m[j]? = some 0 → 1 ≤ lebV (m.take (j + 1)) := by
          intro m
          induction m with
          | nil => intro j hj; simp [endN] at hj
          | cons d m ihm =>
            intro j hj h0
            unfold endN at hj
            split at hj
            · injection hj with hj; subst hj
              rename_i hd
              rw [List.take_succ_cons, List.take_zero, lebV, lebV]
              rw [List.getElem?_cons_zero] at h0
              have : d.toNat ≠ 0 := fun e => h0 (by congr 1; apply UInt8.toNat.inj; rw [e]; rfl)
              omega
            · obtain ⟨i, hi, rfl⟩ := Option.map_eq_some_iff.1 hj
              rw [List.getElem?_cons_succ] at h0
              have := ihm i hi h0
              rw [List.take_succ_cons, lebV]; omega
        exact hg l j hj h0'
      rw [List.take_succ_cons, lebV, onum_big (by omega)]
      have e1 : (c.toNat % 128 + 128 * lebV (l.take (j + 1))) % 128 = c.toNat % 128 := by omega
      have e2 : (c.toNat % 128 + 128 * lebV (l.take (j + 1))) / 128 = lebV (l.take (j + 1)) := by omega
      rw [e1, e2, List.cons_append, List.drop_succ_cons, ← ih]
      congr 1
      apply UInt8.toNat.inj
      rw [u8_toNat _ (by omega)]; omega
/-- WHAT IS READ IS WHAT WOULD HAVE BEEN WRITTEN. -/
theorem readNum_ok {s : OS} {most n : Int} {t : OS} (h : readNum s most = (n, t)) (ht : t.err = 0) : s.err = 0 ∧ s.rest = onum n.toNat ++ t.rest ∧ 0 ≤ n ∧ n ≤ most ∧ n ≤ 1099511627775 := by
  unfold readNum at h
  split at h
  · rename_i he
    injection h with h1 h2; subst h2; exact absurd ht he
  rename_i he
  have he : s.err = 0 := by simpa using he
  refine ⟨he, ?_⟩
  split at h
  · split at h <;> (injection h with h1 h2; subst h2; simp at ht)
  · rename_i k hk
    split at h
    · injection h with h1 h2; subst h2; simp at ht
    split at h
    · injection h with h1 h2; subst h2; simp at ht
    split at h
    · injection h with h1 h2; subst h2; simp at ht
    · rename_i h0 hr
      rw [not_or] at hr
      injection h with h1 h2
      subst h1; subst h2
      refine ⟨?_, Int.natCast_nonneg _, by omega, by omega⟩
      rw [Int.toNat_natCast]
      exact onum_lebV s.rest [] k hk h0
theorem otake_ok {s : OS} {n : Nat} {x : List UInt8} {t : OS} (h : otake s n = (x, t)) (ht : t.err = 0) : s.err = 0 ∧ s.rest = x ++ t.rest ∧ x.length = n := by
  unfold otake at h
  split at h
  · rename_i he; injection h with h1 h2; subst h2; exact absurd ht he
  rename_i he
  split at h
  · injection h with h1 h2; subst h2; simp at ht
  · injection h with h1 h2; subst h1; subst h2
    rename_i hl
    exact ⟨by simpa using he, by simp, by rw [List.length_take]; omega⟩
/-- How many bytes, and they. -/
def bytesN (x : List UInt8) : List UInt8 := onum x.length ++ x
theorem readBytes_bytes {x : List UInt8} (most : Int) (hm : (x.length : Int) ≤ most) (h : x.length ≤ 1099511627775) (r : List UInt8) : readBytes ⟨bytesN x ++ r, 0⟩ most = (x, ⟨r, 0⟩) := by
  unfold readBytes bytesN
  rw [List.append_assoc, readNum_onum h most hm]
  simp only [Int.toNat_natCast]
  unfold otake
  rw [if_neg (by simp), if_neg (by simp), List.take_left, List.drop_left]
theorem readBytes_ok {s : OS} {most : Int} {x : List UInt8} {t : OS} (h : readBytes s most = (x, t)) (ht : t.err = 0) : s.err = 0 ∧ s.rest = bytesN x ++ t.rest ∧ (x.length : Int) ≤ most ∧ (x.length : Int) ≤ 1099511627775 := by
  unfold readBytes at h
  obtain ⟨h1, h2, h3⟩ := otake_ok h ht
  generalize hr : readNum s most = q at *
  obtain ⟨n, u⟩ := q
  obtain ⟨h4, h5, h6, h7, h8⟩ := readNum_ok hr h1
  simp only at h2 h3
  refine ⟨h4, ?_, by omega, by omega⟩
  unfold bytesN
  rw [h5, h2, h3, List.append_assoc]
theorem readBytes_err {s : OS} (h : s.err ≠ 0) (most : Int) : readBytes s most = ([], s) := by
  unfold readBytes
  rw [readNum_err h]
  exact otake_err h _
theorem otake_len (s : OS) (n : Nat) : (otake s n).1.length ≤ n ∧ (otake s n).2.rest.length ≤ s.rest.length := by
  unfold otake
  split
  · simp
  split
  · simp
  · simp [List.length_take]; omega
theorem readBytes_len (s : OS) (most : Int) (hm : 0 ≤ most) : ((readBytes s most).1.length : Int) ≤ most ∧ (readBytes s most).2.rest.length ≤ s.rest.length := by
  unfold readBytes
  have h1 := otake_len (readNum s most).2 (readNum s most).1.toNat
  have h2 := readNum_range s most hm
  have h3 := readNum_rest s most
  exact ⟨by omega, by omega⟩
end Go.Proofs.Ytedcficjmogohaa

/- The walks over what package octet writes: Number, Bytes. -/
namespace Go.Proofs.Ytedcficjmogohaa
set_option linter.unusedVariables false
set_option linter.unusedSimpArgs false
set_option maxRecDepth 100000
open Go.RowKit


set_option maxRecDepth 100000 in
set_option maxHeartbeats 1600000 in
theorem number_any (v : Value) (l : List UInt8) (hl : l.length ≤ 140737488300000) (n : Int) (w : World) (hr : Rd w v (bytesU l)) :
    Calls Try.prog 20 #[v, .int .i64 n] w (RetB w (l ++ onumI n)) := by
  obtain ⟨A0, c0, rfl, _⟩ := id hr
  have Hc := Lib.hid (fun w1 (b : Below w.heap.size w w1) => clone_any (.slice A0 (bytesU l).length c0) l w1 (hr.below b) (by omega))
  rw [bytesU_length] at Hc ⊢
  clear hr
  by_cases h1 : n < 0
  · have hn : onumI n = onum 0 := by unfold onumI; rw [if_pos (.inl h1)]
    rw [hn]
    clear hn
    go_enter Try.func20, Try.ntmps20
    go_wp2_with fail
    refine (Hc.out _ (Below.refl _ _)).mono ?_
    rintro e w1 ⟨v1, rfl, ho1, b1⟩
    have o1 : Own w.heap.size (Rw 5 1 v1 l.length (bytesU l) * Emp) w1 := Own.fresh (Nat.le_refl _) (Own.start _ _) ho1 b1
    obtain ⟨A1, c1, rfl⟩ := o1.row_n
    clear ho1
    go_wp2
    go_loopg [1, 5] (onum 0).length (fun k x v wr => ∃ (j : Nat) (out : List UInt8) (A : Option Addr) (c : Nat), k = (onum j).length ∧ x = .int .i64 (j : Int) ∧ v = .slice A out.length c ∧ j ≤ 1099511627775 ∧ Own w.heap.size (Rw 5 1 (.slice A out.length c) out.length (bytesU out) * Emp) wr ∧ Below w.heap.size w wr ∧ Hid (out ++ onum j = l ++ onum 0))
    case atStart => exact ⟨0, l, A1, c1, rfl, rfl, rfl, (by omega), o1, b1, Lib.hid rfl⟩
    case round =>
      clear b1 o1
      obtain ⟨j, out, A, c, rfl, rfl, rfl, hj, ho, hb, he⟩ := hrel
      have hol : out.length ≤ 140737488355327 := by
        have h2 := congrArg List.length he.out
        rw [List.length_append, List.length_append] at h2
        have h3 := onum_len6 (n := 0) (by omega)
        omega
      by_cases h127 : (127 : Int) < (j : Int)
      · have hjn : ¬ j < 128 := by omega
        have e1 := i64_and127 j (by omega)
        have e2 := i64_or128 (j % 128) (by omega)
        have hc8 : (UInt8.ofNat (j % 128 + 128)).toNat = j % 128 + 128 := u8_toNat _ (by omega)
        have h2 := onum_big hjn
        obtain ⟨g, cap, w2, hrun, o2, b2⟩ := byte_snoc hb.size ho (UInt8.ofNat (j % 128 + 128)) ((j % 128 + 128 : Nat) : Int) (by rw [hc8]) hol
        obtain ⟨r, hr⟩ : ∃ r : Nat, r = j % 128 := ⟨_, rfl⟩
        obtain ⟨q, hq⟩ : ∃ q : Nat, q = r + 128 := ⟨_, rfl⟩
        obtain ⟨s, hs⟩ : ∃ s : Nat, s = j / 128 := ⟨_, rfl⟩
        rw [← hr] at e1 e2 hrun
        rw [← hq] at e2 hrun
        have hs2 : (j : Int) / 128 = (s : Int) := by omega
        have q1 : (q : Int) < 256 := by omega
        have q0 : (0 : Int) ≤ (q : Int) := by omega
        have Hq := Lib.hid (And.intro hs h2)
        have Hrun := Lib.hid hrun
        clear hr hq hs h2 hc8 hrun hjn
        go_wp2_with (at_builtin; refine wpList_append_run rfl (.tmp 18) (.tmp 23) 22 rfl rfl rfl Hrun.out ?_)
        go_roundg (onum s).length
        case measure => have := Hq.out; rw [this.2, List.length_cons, ← this.1]; omega
        case rel =>
          obtain ⟨q1, q2⟩ := Hq.out
          exact ⟨s, _, _, _, rfl, rfl, by simp, by omega, o2, hb.trans b2, Lib.hid (by rw [← he.out, q2, q1]; simp)⟩
      · have hjn : j < 128 := by omega
        have hc8 : (UInt8.ofNat j).toNat = j := u8_toNat _ (by omega)
        have h2 := onum_small hjn
        obtain ⟨g, cap, w2, hrun, o2, b2⟩ := byte_snoc hb.size ho (UInt8.ofNat j) (j : Int) (by rw [hc8]) hol
        have j1 : (j : Int) < 128 := by omega
        have Hrun := Lib.hid hrun
        have H2 := Lib.hid h2
        have hb2 := hb.trans b2
        clear h2 hrun hc8
        go_wp2_with (at_builtin; refine wpList_append_run rfl (.tmp 25) (.tmp 28) 22 rfl rfl rfl Hrun.out ?_)
        go_ret
        have he2 : out ++ [UInt8.ofNat j] = l ++ onum 0 := by rw [← he.out, H2.out]
        exact RetB.mk rfl (by simp) he2 rfl o2 hb2
  · by_cases h2 : 1099511627775 < n
    · have hn : onumI n = onum 0 := by unfold onumI; rw [if_pos (.inr h2)]
      rw [hn]
      clear hn
      go_enter Try.func20, Try.ntmps20
      go_wp2_with fail
      refine (Hc.out _ (Below.refl _ _)).mono ?_
      rintro e w1 ⟨v1, rfl, ho1, b1⟩
      have o1 : Own w.heap.size (Rw 5 1 v1 l.length (bytesU l) * Emp) w1 := Own.fresh (Nat.le_refl _) (Own.start _ _) ho1 b1
      obtain ⟨A1, c1, rfl⟩ := o1.row_n
      clear ho1
      go_wp2
      go_loopg [1, 5] (onum 0).length (fun k x v wr => ∃ (j : Nat) (out : List UInt8) (A : Option Addr) (c : Nat), k = (onum j).length ∧ x = .int .i64 (j : Int) ∧ v = .slice A out.length c ∧ j ≤ 1099511627775 ∧ Own w.heap.size (Rw 5 1 (.slice A out.length c) out.length (bytesU out) * Emp) wr ∧ Below w.heap.size w wr ∧ Hid (out ++ onum j = l ++ onum 0))
      case atStart => exact ⟨0, l, A1, c1, rfl, rfl, rfl, (by omega), o1, b1, Lib.hid rfl⟩
      case round =>
        clear b1 o1
        obtain ⟨j, out, A, c, rfl, rfl, rfl, hj, ho, hb, he⟩ := hrel
        have hol : out.length ≤ 140737488355327 := by
          have h2 := congrArg List.length he.out
          rw [List.length_append, List.length_append] at h2
          have h3 := onum_len6 (n := 0) (by omega)
          omega
        by_cases h127 : (127 : Int) < (j : Int)
        · have hjn : ¬ j < 128 := by omega
          have e1 := i64_and127 j (by omega)
          have e2 := i64_or128 (j % 128) (by omega)
          have hc8 : (UInt8.ofNat (j % 128 + 128)).toNat = j % 128 + 128 := u8_toNat _ (by omega)
          have h2 := onum_big hjn
          obtain ⟨g, cap, w2, hrun, o2, b2⟩ := byte_snoc hb.size ho (UInt8.ofNat (j % 128 + 128)) ((j % 128 + 128 : Nat) : Int) (by rw [hc8]) hol
          obtain ⟨r, hr⟩ : ∃ r : Nat, r = j % 128 := ⟨_, rfl⟩
          obtain ⟨q, hq⟩ : ∃ q : Nat, q = r + 128 := ⟨_, rfl⟩
          obtain ⟨s, hs⟩ : ∃ s : Nat, s = j / 128 := ⟨_, rfl⟩
          rw [← hr] at e1 e2 hrun
          rw [← hq] at e2 hrun
          have hs2 : (j : Int) / 128 = (s : Int) := by omega
          have q1 : (q : Int) < 256 := by omega
          have q0 : (0 : Int) ≤ (q : Int) := by omega
          have Hq := Lib.hid (And.intro hs h2)
          have Hrun := Lib.hid hrun
          clear hr hq hs h2 hc8 hrun hjn
          go_wp2_with (at_builtin; refine wpList_append_run rfl (.tmp 18) (.tmp 23) 22 rfl rfl rfl Hrun.out ?_)
          go_roundg (onum s).length
          case measure => have := Hq.out; rw [this.2, List.length_cons, ← this.1]; omega
          case rel =>
            obtain ⟨q1, q2⟩ := Hq.out
            exact ⟨s, _, _, _, rfl, rfl, by simp, by omega, o2, hb.trans b2, Lib.hid (by rw [← he.out, q2, q1]; simp)⟩
        · have hjn : j < 128 := by omega
          have hc8 : (UInt8.ofNat j).toNat = j := u8_toNat _ (by omega)
          have h2 := onum_small hjn
          obtain ⟨g, cap, w2, hrun, o2, b2⟩ := byte_snoc hb.size ho (UInt8.ofNat j) (j : Int) (by rw [hc8]) hol
          have j1 : (j : Int) < 128 := by omega
          have Hrun := Lib.hid hrun
          have H2 := Lib.hid h2
          have hb2 := hb.trans b2
          clear h2 hrun hc8
          go_wp2_with (at_builtin; refine wpList_append_run rfl (.tmp 25) (.tmp 28) 22 rfl rfl rfl Hrun.out ?_)
          go_ret
          have he2 : out ++ [UInt8.ofNat j] = l ++ onum 0 := by rw [← he.out, H2.out]
          exact RetB.mk rfl (by simp) he2 rfl o2 hb2
    · have hn : onumI n = onum n.toNat := by unfold onumI; rw [if_neg (by omega)]
      obtain ⟨m, rfl⟩ : ∃ m : Nat, n = (m : Int) := ⟨n.toNat, by omega⟩
      rw [hn, Int.toNat_natCast]
      clear hn
      go_enter Try.func20, Try.ntmps20
      go_wp2_with fail
      refine (Hc.out _ (Below.refl _ _)).mono ?_
      rintro e w1 ⟨v1, rfl, ho1, b1⟩
      have o1 : Own w.heap.size (Rw 5 1 v1 l.length (bytesU l) * Emp) w1 := Own.fresh (Nat.le_refl _) (Own.start _ _) ho1 b1
      obtain ⟨A1, c1, rfl⟩ := o1.row_n
      clear ho1
      go_wp2
      go_loopg [1, 5] (onum m).length (fun k x v wr => ∃ (j : Nat) (out : List UInt8) (A : Option Addr) (c : Nat), k = (onum j).length ∧ x = .int .i64 (j : Int) ∧ v = .slice A out.length c ∧ j ≤ 1099511627775 ∧ Own w.heap.size (Rw 5 1 (.slice A out.length c) out.length (bytesU out) * Emp) wr ∧ Below w.heap.size w wr ∧ Hid (out ++ onum j = l ++ onum m))
      case atStart => exact ⟨m, l, A1, c1, rfl, rfl, rfl, (by omega), o1, b1, Lib.hid rfl⟩
      case round =>
        clear b1 o1
        obtain ⟨j, out, A, c, rfl, rfl, rfl, hj, ho, hb, he⟩ := hrel
        have hol : out.length ≤ 140737488355327 := by
          have h2 := congrArg List.length he.out
          rw [List.length_append, List.length_append] at h2
          have h3 := onum_len6 (n := m) (by omega)
          omega
        by_cases h127 : (127 : Int) < (j : Int)
        · have hjn : ¬ j < 128 := by omega
          have e1 := i64_and127 j (by omega)
          have e2 := i64_or128 (j % 128) (by omega)
          have hc8 : (UInt8.ofNat (j % 128 + 128)).toNat = j % 128 + 128 := u8_toNat _ (by omega)
          have h2 := onum_big hjn
          obtain ⟨g, cap, w2, hrun, o2, b2⟩ := byte_snoc hb.size ho (UInt8.ofNat (j % 128 + 128)) ((j % 128 + 128 : Nat) : Int) (by rw [hc8]) hol
          obtain ⟨r, hr⟩ : ∃ r : Nat, r = j % 128 := ⟨_, rfl⟩
          obtain ⟨q, hq⟩ : ∃ q : Nat, q = r + 128 := ⟨_, rfl⟩
          obtain ⟨s, hs⟩ : ∃ s : Nat, s = j / 128 := ⟨_, rfl⟩
          rw [← hr] at e1 e2 hrun
          rw [← hq] at e2 hrun
          have hs2 : (j : Int) / 128 = (s : Int) := by omega
          have q1 : (q : Int) < 256 := by omega
          have q0 : (0 : Int) ≤ (q : Int) := by omega
          have Hq := Lib.hid (And.intro hs h2)
          have Hrun := Lib.hid hrun
          clear hr hq hs h2 hc8 hrun hjn
          go_wp2_with (at_builtin; refine wpList_append_run rfl (.tmp 18) (.tmp 23) 22 rfl rfl rfl Hrun.out ?_)
          go_roundg (onum s).length
          case measure => have := Hq.out; rw [this.2, List.length_cons, ← this.1]; omega
          case rel =>
            obtain ⟨q1, q2⟩ := Hq.out
            exact ⟨s, _, _, _, rfl, rfl, by simp, by omega, o2, hb.trans b2, Lib.hid (by rw [← he.out, q2, q1]; simp)⟩
        · have hjn : j < 128 := by omega
          have hc8 : (UInt8.ofNat j).toNat = j := u8_toNat _ (by omega)
          have h2 := onum_small hjn
          obtain ⟨g, cap, w2, hrun, o2, b2⟩ := byte_snoc hb.size ho (UInt8.ofNat j) (j : Int) (by rw [hc8]) hol
          have j1 : (j : Int) < 128 := by omega
          have Hrun := Lib.hid hrun
          have H2 := Lib.hid h2
          have hb2 := hb.trans b2
          clear h2 hrun hc8
          go_wp2_with (at_builtin; refine wpList_append_run rfl (.tmp 25) (.tmp 28) 22 rfl rfl rfl Hrun.out ?_)
          go_ret
          have he2 : out ++ [UInt8.ofNat j] = l ++ onum m := by rw [← he.out, H2.out]
          exact RetB.mk rfl (by simp) he2 rfl o2 hb2

end Go.Proofs.Ytedcficjmogohaa

/- A reader of package octet as it lies, and the walks over its short methods. -/
namespace Go.Proofs.Ytedcficjmogohaa
set_option linter.unusedVariables false
set_option linter.unusedSimpArgs false
set_option maxRecDepth 100000
open Go.RowKit

/-- A slice value reads as these bytes, out of a block that is owned. -/
def okV (w : World) (F : Nat → Prop) (v : Value) (l : List UInt8) : Prop :=
  ∃ A c, v = .slice A l.length c ∧ l.length ≤ c ∧ c ≤ 9223372036854775807 ∧ (l ≠ [] → ∃ b off, A = some ⟨b, off, none⟩ ∧ F b ∧ ∀ j u, (bytesU l)[j]? = some u → w.cell? ⟨b, off + j, none⟩ = some u)
theorem okV.rd {w : World} {F : Nat → Prop} {v : Value} {l : List UInt8} (h : okV w F v l) : Rd w v (bytesU l) := by
  obtain ⟨A, c, rfl, _, _, h⟩ := h
  refine ⟨A, c, by rw [bytesU_length], fun hne => ?_⟩
  obtain ⟨b, off, rfl, _, hc⟩ := h (by intro e; subst e; exact hne rfl)
  exact ⟨_, rfl, fun j u hu => by rw [Addr.add_lit]; exact hc j u hu⟩
theorem okV.nil (w : World) (F : Nat → Prop) : okV w F (.slice none 0 0) [] := ⟨none, 0, rfl, Nat.le_refl _, by omega, fun h => absurd rfl h⟩
/-- Slices that read out of blocks that are owned, and that nobody writes. -/
def Rss (vs : List (Value × List UInt8)) : HP := fun w F => ∀ x ∈ vs, okV w F x.1 x.2
instance Loc.rss {B : Nat} {vs : List (Value × List UInt8)} : Loc B (Rss vs) where
  keep := fun w w' F h _ hv x hx => by
    obtain ⟨A, c, e, h1, h2, h3⟩ := hv x hx
    refine ⟨A, c, e, h1, h2, fun hne => ?_⟩
    obtain ⟨b, off, ha, hF, hc⟩ := h3 hne
    exact ⟨b, off, ha, hF, fun j u hu => (World.cell?_of_block (a := ⟨b, off + j, none⟩) (h b hF)).trans (hc j u hu)⟩
  up := fun w F F' h hv x hx => by
    obtain ⟨A, c, e, h1, h2, h3⟩ := hv x hx
    refine ⟨A, c, e, h1, h2, fun hne => ?_⟩
    obtain ⟨b, off, ha, hF, hc⟩ := h3 hne
    exact ⟨b, off, ha, h b hF, hc⟩
theorem Own.rss {B : Nat} {vs : List (Value × List UInt8)} {R : HP} {w : World} (h : Own B (Rss vs * R) w) {x : Value × List UInt8} (hx : x ∈ vs) : Rd w x.1 (bytesU x.2) := by
  obtain ⟨F, hf, F1, F2, hd, h1, h2, ha, hr⟩ := h
  exact (ha x hx).rd
theorem Own.rss_less {B : Nat} {vs vs' : List (Value × List UInt8)} {R : HP} {w : World} (h : Own B (Rss vs * R) w) (hs : ∀ x ∈ vs', x ∈ vs) : Own B (Rss vs' * R) w :=
  h.mono fun w F ⟨F1, F2, hd, h1, h2, ha, hr⟩ => ⟨F1, F2, hd, h1, h2, fun x hx => ha x (hs x hx), hr⟩
/-- A row of bytes that is owned, as what is read alone. -/
theorem Own.rss_of {B : Nat} {R : HP} {w : World} {v : Value} {l : List UInt8} (h : Own B (Rw 5 1 v l.length (bytesU l) * R) w) : Own B (Rss [(v, l)] * R) w := by
  refine h.mono fun w F ⟨F1, F2, hd, h1, h2, ha, hr⟩ => ⟨F1, F2, hd, h1, h2, fun x hx => ?_, hr⟩
  obtain rfl := List.mem_singleton.1 hx
  obtain ⟨ho, hb⟩ := ha
  rcases ho.2 with ⟨hn, h0⟩ | ⟨g, cap, cur, rfl, _, hg, h5, h6, h7, h8⟩
  · have e0 : l = [] := List.eq_nil_of_length_eq_zero h0
    subst e0
    subst hn
    exact okV.nil w F1
  · exact ⟨_, cap, rfl, h5, by simpa [maxLen] using h6, fun _ => ⟨g, 0, rfl, hb g (by simp [Value.ownBlock]), fun j u hu => by
      have := ho.cells (g := g) rfl j u hu
      rwa [Addr.add_lit] at this⟩⟩
theorem okV.at_block {w : World} {F : Nat → Prop} {A : Option Addr} {n c : Nat} {l : List UInt8} (h : okV w F (.slice A n c) l) (hne : l ≠ []) : ∀ a, A = some a → F a.block := by
  obtain ⟨A', c', e, _, _, h3⟩ := h
  injection e with e1 _ e3
  subst e1
  obtain ⟨b, off, rfl, hF, _⟩ := h3 hne
  intro a ha
  cases ha
  exact hF
/-- A reader: its cells, and what it, and what was taken of it, read. -/
def RdrV (v : Value) (p : Nat) (s : OS) (vs : List (Value × List UInt8)) : HP := Bk p 85 #[v, .int .i64 s.err] * Rss ((v, s.rest) :: vs)
def Rdr (p : Nat) (s : OS) (vs : List (Value × List UInt8)) : HP := Hex fun v => RdrV v p s vs
instance Loc.rdrv {B : Nat} {v : Value} {p : Nat} {s : OS} {vs : List (Value × List UInt8)} : Loc B (RdrV v p s vs) := inferInstanceAs (Loc B (Bk _ _ _ * Rss _))
instance Loc.rdr {B : Nat} {p : Nat} {s : OS} {vs : List (Value × List UInt8)} : Loc B (Rdr p s vs) := inferInstanceAs (Loc B (Hex _))
theorem Own.rdr_less {B : Nat} {p : Nat} {s : OS} {vs vs' : List (Value × List UInt8)} {R : HP} {w : World} (h : Own B (Rdr p s vs * R) w) (hs : ∀ x ∈ vs', x ∈ vs) : Own B (Rdr p s vs' * R) w := by
  obtain ⟨v, hV⟩ := h.hex
  refine Own.to_hex v ?_
  have := hV.mono (C := RdrV v p s vs' * R) fun w F ⟨F1, F2, hd, h1, h2, ⟨G1, G2, gd, g1, g2, hb, ha⟩, hr⟩ => ⟨F1, F2, hd, h1, h2, ⟨G1, G2, gd, g1, g2, hb, fun x hx => ha x (by
    rcases List.mem_cons.1 hx with rfl | hx
    · exact List.mem_cons_self
    · exact List.mem_cons_of_mem _ (hs x hx))⟩, hr⟩
  exact this
/-- The reader is gone; what was taken of it stays. -/
theorem Own.rdr_done {B : Nat} {p : Nat} {s : OS} {vs : List (Value × List UInt8)} {R : HP} {w : World} (h : Own B (Rdr p s vs * R) w) : Own B (Rss vs * R) w := by
  obtain ⟨v, hV⟩ := h.hex
  exact hV.assoc.right.rss_less fun x hx => List.mem_cons_of_mem _ hx
theorem Own.rdr_view {B : Nat} {p : Nat} {s : OS} {vs : List (Value × List UInt8)} {R : HP} {w : World} (h : Own B (Rdr p s vs * R) w) {x : Value × List UInt8} (hx : x ∈ vs) : Rd w x.1 (bytesU x.2) := h.rdr_done.rss hx

def ofail (s : OS) (z : Int) : OS := if s.err = 0 then ⟨s.rest, z⟩ else s
section
variable (p : Nat) (s : OS) (vs : List (Value × List UInt8)) (B : Nat) (R : HP) (w : World)
theorem rerr_any (hO : Own B (Rdr p s vs * R) w) : Calls Try.prog 25 #[.pointer (some ⟨p, 0, none⟩)] w fun e w' => e = .returned (.int .i64 s.err) ∧ w' = w := by
  obtain ⟨v, hV⟩ := hO.hex
  have hV := hV.assoc
  have c1 : w.cell? ⟨p, 1, none⟩ = some (.int .i64 s.err) := hV.cell 1
  clear hV
  go_enter Try.func25, Try.ntmps25
  go_wp2
  go_ret
  exact ⟨rfl, rfl⟩
theorem rfail_any [Loc B R] (hB : B ≤ w.heap.size) (z : Int) (hO : Own B (Rdr p s vs * R) w) : Calls Try.prog 47 #[.pointer (some ⟨p, 0, none⟩), .int .i64 z] w (Ret B w (.tuple #[]) (Rdr p (ofail s z) vs * R)) := by
  obtain ⟨v, hV⟩ := hO.hex
  have hV := hV.assoc
  have c1 : w.cell? ⟨p, 1, none⟩ = some (.int .i64 s.err) := hV.cell 1
  have z1 := hV.unfrozen 1
  have s1 := hV.set hB 1 (.int .i64 z)
  have b1 := hV.below_set 1 (.int .i64 z)
  by_cases he : s.err = 0
  · have o2 : Own B (Rdr p (ofail s z) vs * R) _ := Own.to_hex v (by unfold ofail; rw [if_pos he]; exact s1.assoc')
    rw [he] at c1
    clear hV s1
    go_enter Try.func47, Try.ntmps47
    go_wp2
    go_end0
    exact ⟨rfl, o2, b1⟩
  · have o2 : Own B (Rdr p (ofail s z) vs * R) w := by unfold ofail; rw [if_neg he]; exact hO
    have he' : (s.err == 0) = false := by simpa using he
    clear hV s1 b1
    generalize s.err = q at c1 he he'
    go_enter Try.func47, Try.ntmps47
    go_wp2
    go_end0
    exact ⟨rfl, o2, Below.refl _ _⟩
theorem rleft_any (hO : Own B (Rdr p s vs * R) w) : Calls Try.prog 27 #[.pointer (some ⟨p, 0, none⟩)] w fun e w' => e = .returned (.int .i64 (oleft s : Int)) ∧ w' = w := by
  have E := rerr_any p s vs B R w hO
  obtain ⟨v, hV⟩ := hO.hex
  have hV := hV.assoc
  obtain ⟨A, c, rfl⟩ : ∃ A c, v = .slice A s.rest.length c := by
    obtain ⟨F, hf, F1, F2, hd, h1, h2, ha, F3, F4, hd', h3, h4, hv, _⟩ := hV
    obtain ⟨A, c, e, _⟩ := hv _ List.mem_cons_self
    exact ⟨A, c, e⟩
  have c0 : w.cell? ⟨p, 0, none⟩ = some (.slice A s.rest.length c) := hV.cell 0
  by_cases he : s.err = 0
  · have e2 : oleft s = s.rest.length := by unfold oleft; rw [if_neg (by omega)]
    rw [e2]
    rw [he] at E
    clear hV e2
    go_enter Try.func27, Try.ntmps27
    go_wp2_with fail
    refine E.mono ?_
    rintro e w1 ⟨rfl, rfl⟩
    go_wp2
    go_ret
    exact ⟨rfl, rfl⟩
  · have e2 : oleft s = 0 := by unfold oleft; rw [if_pos he]
    have he' : (s.err == 0) = false := by simpa using he
    rw [e2]
    clear hV e2
    generalize s.err = q at E he he'
    go_enter Try.func27, Try.ntmps27
    go_wp2_with fail
    refine E.mono ?_
    rintro e w1 ⟨rfl, rfl⟩
    go_wp2
    go_ret
    exact ⟨rfl, rfl⟩
end
end Go.Proofs.Ytedcficjmogohaa

/- The walks over New and take of package octet's reader. -/
namespace Go.Proofs.Ytedcficjmogohaa
set_option linter.unusedVariables false
set_option linter.unusedSimpArgs false
set_option maxRecDepth 100000
open Go.RowKit

set_option maxRecDepth 100000 in
theorem rnew_any (v : Value) (l : List UInt8) (hl : l.length ≤ 140737488355328) (B : Nat) (R : HP) [Loc B R] (w : World) (hB : B ≤ w.heap.size) (hO : Own B R w) (hr : Rd w v (bytesU l)) :
    Calls Try.prog 23 #[v] w fun e w' => ∃ p, Ret B w (.pointer (some ⟨p, 0, none⟩)) (Rdr p ⟨l, 0⟩ [] * R) e w' := by
  have C := clone_any v l w hr hl
  obtain ⟨A, c, rfl, _⟩ := id hr
  clear hr
  go_enter Try.func23, Try.ntmps23
  go_wp2_with fail
  refine C.mono ?_
  rintro e w1 ⟨v1, rfl, ho1, b1⟩
  have o1 : Own B (Rw 5 1 v1 l.length (bytesU l) * R) w1 := Own.fresh hB hO ho1 b1
  have o2 := o1.rss_of
  have B1 := Nat.le_trans hB b1.size
  have o3 := o2.new B1 85 #[v1, .int .i64 0]
  have b3 := (b1.mono hB).alloc B1 (.cells #[v1, .int .i64 0] 85)
  obtain ⟨A1, c1, rfl⟩ := o1.row_n
  have o4 : Own B (Rdr w1.heap.size ⟨l, 0⟩ [] * R) _ := Own.to_hex _ (o3.assoc')
  clear ho1 o1 o2 o3 hO
  go_wp2
  go_ret
  exact ⟨_, rfl, o4, b3⟩

/-- What is taken of what is left is read, too. -/
theorem okV.taken {w : World} {F : Nat → Prop} {A : Option Addr} {c : Nat} {l : List UInt8} (h : okV w F (.slice A l.length c) l) (n : Nat) (hn : n ≤ l.length) : okV w F (.slice A n n) (l.take n) := by
  obtain ⟨A', c', e, h1, h2, h3⟩ := h
  injection e with e1 _ e3
  subst e1; subst e3
  have hlen : (l.take n).length = n := by rw [List.length_take]; omega
  refine ⟨A, n, by rw [hlen], by omega, by omega, fun hne => ?_⟩
  obtain ⟨b, off, rfl, hF, hc⟩ := h3 (by intro e; subst e; simp at hne)
  refine ⟨b, off, rfl, hF, fun j u hu => hc j u ?_⟩
  unfold bytesU at hu ⊢
  rw [List.map_take, List.getElem?_take] at hu
  split at hu
  · exact hu
  · cases hu
theorem okV.left {w : World} {F : Nat → Prop} {A : Option Addr} {c : Nat} {l : List UInt8} (h : okV w F (.slice A l.length c) l) (n : Nat) (hn : n ≤ l.length) : okV w F (.slice (if c = n then A else A.map (fun x => x.add n)) (l.length - n) (c - n)) (l.drop n) := by
  obtain ⟨A', c', e, h1, h2, h3⟩ := h
  injection e with e1 _ e3
  subst e1; subst e3
  refine ⟨_, c - n, by rw [List.length_drop], by rw [List.length_drop]; omega, by omega, fun hne => ?_⟩
  have hlt : n < l.length := by
    by_cases h : n < l.length
    · exact h
    · exact absurd (List.drop_eq_nil_of_le (by omega)) hne
  obtain ⟨b, off, rfl, hF, hc⟩ := h3 (by intro e; subst e; simp at hlt)
  rw [if_neg (by omega)]
  refine ⟨b, off + n, by simp [Addr.add], hF, fun j u hu => ?_⟩
  unfold bytesU at hu
  rw [List.map_drop, List.getElem?_drop] at hu
  rw [Nat.add_assoc]
  exact hc _ _ hu

set_option maxRecDepth 100000 in
set_option maxHeartbeats 1600000 in
theorem rtake_any (p : Nat) (s : OS) (vs : List (Value × List UInt8)) (n : Nat) (B : Nat) (R : HP) [Loc B R] (w : World) (hB : B ≤ w.heap.size) (hn : n ≤ 9223372036854775807) (hO : Own B (Rdr p s vs * R) w) :
    Calls Try.prog 48 #[.pointer (some ⟨p, 0, none⟩), .int .i64 (n : Int)] w fun e w' => ∃ x, Ret B w x (Rdr p (otake s n).2 ((x, (otake s n).1) :: vs) * R) e w' := by
  have E := rerr_any p s vs B R w hO
  obtain ⟨v, hV⟩ := hO.hex
  have hV := hV.assoc
  have hnil : ∀ {q : Value} {s' : OS} {w' : World}, Own B (RdrV q p s' vs * R) w' → Own B (Rdr p s' ((.slice none 0 0, []) :: vs) * R) w' := fun {q s' w'} h => Own.to_hex q (h.mono (C := RdrV q p s' ((.slice none 0 0, []) :: vs) * R) fun w F ⟨F1, F2, hd, h1, h2, ⟨G1, G2, gd, g1, g2, hb, ha⟩, hr⟩ => ⟨F1, F2, hd, h1, h2, ⟨G1, G2, gd, g1, g2, hb, fun x hx => by
    rcases List.mem_cons.1 hx with rfl | hx
    · exact ha _ List.mem_cons_self
    rcases List.mem_cons.1 hx with rfl | hx
    · exact okV.nil _ _
    · exact ha _ (List.mem_cons_of_mem _ hx)⟩, hr⟩)
  by_cases he : s.err = 0
  · obtain ⟨A, c, rfl, hlc, hcm⟩ : ∃ A c, v = .slice A s.rest.length c ∧ s.rest.length ≤ c ∧ c ≤ 9223372036854775807 := by
      obtain ⟨F, hf, F1, F2, hd, h1, h2, ha, F3, F4, hd', h3, h4, hv, _⟩ := hV
      obtain ⟨A, c, e, q1, q2, _⟩ := hv _ List.mem_cons_self
      exact ⟨A, c, e, q1, q2⟩
    have c0 : w.cell? ⟨p, 0, none⟩ = some (.slice A s.rest.length c) := hV.cell 0
    by_cases hlt : s.rest.length < n
    · have e2 : otake s n = ([], ofail s 2) := by unfold otake ofail; rw [if_neg (by omega), if_pos hlt, if_pos he]
      have Fl := fun w1 (b : Own B (Rdr p s vs * R) w1) hB => rfail_any p s vs B R w1 hB 2 b
      have hlt' : (s.rest.length : Int) < (n : Int) := by omega
      have HO := Lib.hid hO
      rw [e2]
      rw [he] at E
      clear hV hO e2
      generalize s.rest.length = L at *
      go_enter Try.func48, Try.ntmps48
      go_wp2_with fail
      refine E.mono ?_
      rintro e w1 ⟨rfl, rfl⟩
      go_wp2_with fail
      refine (Fl _ HO.out hB).mono ?_
      rintro e w2 ⟨rfl, o2, b2⟩
      obtain ⟨q, o2⟩ := o2.hex
      have o3 := hnil o2
      clear o2
      go_wp2
      go_ret
      exact ⟨_, rfl, o3, b2⟩
    · have hle : n ≤ s.rest.length := by omega
      have e2 : otake s n = (s.rest.take n, ⟨s.rest.drop n, 0⟩) := by unfold otake; rw [if_neg (by omega), if_neg hlt]
      have z0 := hV.unfrozen 0
      have s0 := hV.set hB 0 (.slice (if c = n then A else A.map (fun x => x.add n)) (s.rest.length - n) (c - n))
      have b0 := hV.below_set 0 (.slice (if c = n then A else A.map (fun x => x.add n)) (s.rest.length - n) (c - n))
      rw [e2]
      rw [he] at E s0
      have o3 : Own B (Rdr p ⟨s.rest.drop n, 0⟩ ((.slice A n n, s.rest.take n) :: vs) * R) (w.setCell ⟨p, 0, none⟩ (.slice (if c = n then A else A.map (fun x => x.add n)) (s.rest.length - n) (c - n))) :=
        Own.to_hex (.slice (if c = n then A else A.map (fun x => x.add n)) (s.rest.length - n) (c - n)) ((s0.assoc').mono (C := RdrV _ p ⟨s.rest.drop n, 0⟩ ((.slice A n n, s.rest.take n) :: vs) * R) fun w F ⟨F1, F2, hd, h1, h2, ⟨G1, G2, gd, g1, g2, hb, ha⟩, hr⟩ => ⟨F1, F2, hd, h1, h2, ⟨G1, G2, gd, g1, g2, hb, fun x hx => by
          have h0 := ha _ List.mem_cons_self
          rcases List.mem_cons.1 hx with rfl | hx
          · exact h0.left n hle
          rcases List.mem_cons.1 hx with rfl | hx
          · exact h0.taken n hle
          · exact ha _ (List.mem_cons_of_mem _ hx)⟩, hr⟩)
      have hle' : ¬ (s.rest.length : Int) < (n : Int) := by omega
      have m1 : (n : Int) ≤ (s.rest.length : Int) := by omega
      have m2 : (s.rest.length : Int) ≤ (c : Int) := by omega
      have m3 : (n : Int) ≤ (c : Int) := by omega
      have m4 : (0 : Int) ≤ (n : Int) := by omega
      clear hV hO e2 s0
      generalize s.rest.length = L at *
      obtain ⟨A2, hA2⟩ : ∃ A2, (if c = n then A else A.map (fun x => x.add n)) = A2 := ⟨_, rfl⟩
      rw [hA2] at o3 b0
      go_enter Try.func48, Try.ntmps48
      go_wp2_with fail
      refine E.mono ?_
      rintro e w1 ⟨rfl, rfl⟩
      go_wp2
      go_ret
      exact ⟨_, rfl, o3, b0⟩
  · have e2 : otake s n = ([], s) := otake_err he n
    have he' : (s.err == 0) = false := by simpa using he
    have o3 := hnil hV.assoc'
    rw [e2]
    clear hV hO e2
    generalize s.err = q at E he he'
    go_enter Try.func48, Try.ntmps48
    go_wp2_with fail
    refine E.mono ?_
    rintro e w1 ⟨rfl, rfl⟩
    go_wp2
    go_ret
    exact ⟨_, rfl, o3, Below.refl _ _⟩
end Go.Proofs.Ytedcficjmogohaa

/- A range over a function, told by what is owned: the loop's own blocks are no cells, so what is owned abides them. -/
namespace Go.Proofs.Ytedcficjmogohaa
set_option linter.unusedVariables false
set_option linter.unusedSimpArgs false
set_option maxRecDepth 100000
open Go.RowKit

def CelB (n : Nat) (w : World) (k : Nat) : Prop := k < n ∨ ∃ o : Obj, w.heap[k]? = some o ∧ o.isCells = true
/-- What it says hangs, from block n on, on blocks of cells alone. -/
class Cel (n : Nat) (A : HP) : Prop where
  cut : ∀ (w : World) (F : Nat → Prop), A w F → A w (fun k => F k ∧ CelB n w k)
instance Cel.emp {n : Nat} : Cel n Emp := ⟨fun _ _ h => h⟩
instance Cel.fact {n : Nat} {p : Prop} : Cel n (Fact p) := ⟨fun _ _ h => h⟩
instance Cel.hex {n : Nat} {α : Type} {A : α → HP} [h : ∀ x, Cel n (A x)] : Cel n (Hex A) := ⟨fun w F ⟨x, hx⟩ => ⟨x, (h x).cut w F hx⟩⟩
instance Cel.bk {n g : Nat} {t : TypeId} {cs : Array Value} : Cel n (Bk g t cs) := ⟨fun _ _ ⟨hF, hg⟩ => ⟨⟨hF, .inr ⟨_, hg, rfl⟩⟩, hg⟩⟩
instance Cel.rw {m : Nat} {e : TypeId} {size : Nat} {v : Value} {n : Nat} {xs : List Value} : Cel m (Rw e size v n xs) := ⟨fun w F ⟨ho, hF⟩ => ⟨ho, fun k hk => ⟨hF k hk, by
  rcases ho.2 with ⟨rfl, _⟩ | ⟨g, cap, cur, rfl, _, hg, _⟩
  · simp [Value.ownBlock] at hk
  · simp [Value.ownBlock] at hk
    subst hk
    exact .inr ⟨_, hg, rfl⟩⟩⟩⟩
instance Cel.sep {n : Nat} {A C : HP} [a : Cel n A] [c : Cel n C] : Cel n (A * C) := ⟨fun w F ⟨F1, F2, hd, h1, h2, ha, hc⟩ =>
  ⟨fun k => F1 k ∧ CelB n w k, fun k => F2 k ∧ CelB n w k, fun k hk hk' => hd k hk.1 hk'.1, fun k hk => ⟨h1 k hk.1, hk.2⟩, fun k hk => ⟨h2 k hk.1, hk.2⟩, a.cut w F1 ha, c.cut w F2 hc⟩⟩

/-- These blocks are as they were. -/
def Same (s : Nat → Prop) (W : World) : HP := fun w F => ∀ k, s k → F k ∧ w.heap[k]? = W.heap[k]?
instance Loc.same {B : Nat} {s : Nat → Prop} {W : World} : Loc B (Same s W) where
  keep := fun w w' F h _ hs k hk => ⟨(hs k hk).1, (h k (hs k hk).1).trans (hs k hk).2⟩
  up := fun w F F' h hs k hk => ⟨h k (hs k hk).1, (hs k hk).2⟩
theorem Cel.same {n : Nat} {s : Nat → Prop} {W : World} (hs : ∀ k, s k → k < n) : Cel n (Same s W) := ⟨fun w F h k hk => ⟨⟨(h k hk).1, .inl (hs k hk)⟩, (h k hk).2⟩⟩
/-- All that is no cells, from n on, as it was. -/
def Non (n : Nat) (W : World) : HP := fun w F => ∀ k o, n ≤ k → W.heap[k]? = some o → o.isCells = false → F k ∧ w.heap[k]? = some o
instance Loc.non {B n : Nat} {W : World} : Loc B (Non n W) where
  keep := fun w w' F h _ hs k o hn ho hc => ⟨(hs k o hn ho hc).1, (h k (hs k o hn ho hc).1).trans (hs k o hn ho hc).2⟩
  up := fun w F F' h hs k o hn ho hc => ⟨h k (hs k o hn ho hc).1, (hs k o hn ho hc).2⟩
theorem Own.non {B n : Nat} {A : HP} [c : Cel n A] {W : World} (h : Own B A W) (hn : B ≤ n) : Own B (A * Non n W) W := by
  obtain ⟨F, hf, ha⟩ := h
  refine ⟨fun k => (F k ∧ CelB n W k) ∨ (n ≤ k ∧ ∃ o, W.heap[k]? = some o ∧ o.isCells = false), fun k hk => ?_, fun k => F k ∧ CelB n W k, fun k => n ≤ k ∧ ∃ o, W.heap[k]? = some o ∧ o.isCells = false, fun k hk hk' => ?_, fun k hk => .inl hk, fun k hk => .inr hk, c.cut W F ha, fun k o h1 h2 h3 => ⟨⟨h1, o, h2, h3⟩, h2⟩⟩
  · rcases hk with hk | ⟨h1, o, h2, _⟩
    · exact hf k hk.1
    · exact ⟨by omega, (Array.getElem?_eq_some_iff.1 h2).1⟩
  · obtain ⟨hn', o', h3, h4⟩ := hk'
    rcases hk.2 with h | ⟨o, h1, h2⟩
    · omega
    rw [h1] at h3
    cases h3
    rw [h2] at h4
    cases h4
/-- The deferred calls' block of a range over a function. -/
def Dk (D : Nat) : HP := fun w F => F D ∧ w.heap[D]? = some (.deferred (some []))
instance Loc.dk {B D : Nat} : Loc B (Dk D) where
  keep := fun _ _ _ h _ ⟨hf, hg⟩ => ⟨hf, (h D hf).trans hg⟩
  up := fun _ _ _ h ⟨hf, hg⟩ => ⟨h D hf, hg⟩
theorem Own.dk {B D n : Nat} {A : HP} [c : Cel n A] {W : World} (h : Own B A W) (hB : B ≤ D) (hn : n ≤ D) (hD : W.heap[D]? = some (.deferred (some []))) : Own B (A * Dk D) W := by
  obtain ⟨F, hf, ha⟩ := h
  refine ⟨fun k => (F k ∧ CelB n W k) ∨ k = D, fun k hk => ?_, fun k => F k ∧ CelB n W k, fun k => k = D, fun k hk hk' => ?_, fun k hk => .inl hk, fun k hk => .inr hk, c.cut W F ha, rfl, hD⟩
  · rcases hk with hk | rfl
    · exact hf k hk.1
    · exact ⟨hB, (Array.getElem?_eq_some_iff.1 hD).1⟩
  · subst hk'
    rcases hk.2 with h | ⟨o, h1, h2⟩
    · omega
    rw [hD] at h1
    cases h1
    cases h2
/-- A step that turns one block that is no cells. -/
theorem Own.abide {B n : Nat} {A : HP} [c : Cel n A] [Loc B A] {W W' : World} {row : Option Nat} (hB : B ≤ W.heap.size) (hn : B ≤ n) (h : Own B A W) (hg : W.grownBy W' row) (hr : ∀ r, row = some r → n ≤ r ∧ ∃ o : Obj, W.heap[r]? = some o ∧ o.isCells = false) : Own B A W' := by
  obtain ⟨F, hf, ha⟩ := h
  refine ⟨fun k => F k ∧ CelB n W k, fun k hk => ⟨(hf k hk.1).1, Nat.lt_of_lt_of_le (hf k hk.1).2 hg.size⟩, Loc.keep (B := B) W W' _ (fun k hk => hg.block k (hf k hk.1).2 (fun e => ?_)) (fun k hk => hg.block k (by omega) (fun e => ?_)) (c.cut W F ha)⟩
  · obtain ⟨hn', o, h1, h2⟩ := hr k e.symm
    rcases hk.2 with h | ⟨o', h3, h4⟩
    · omega
    rw [h1] at h3
    cases h3
    rw [h2] at h4
    cases h4
  · have := (hr k e.symm).1
    omega

/-- What a round must keep of the memory that the iterator reads: these blocks. -/
def KpS (s : Nat → Prop) (W W' : World) : Prop := ∀ k, s k → W'.heap[k]? = W.heap[k]?
theorem KpS.t {s : Nat → Prop} {A B C : World} (h : KpS s A B) (k : KpS s B C) : KpS s A C := fun i hi => (k i hi).trans (h i hi)
theorem KpS.b {s : Nat → Prop} {w : World} (hs : ∀ k, s k → k < w.heap.size) (W : World) (l : Nat) (o o' : Obj) (hl : w.heap.size ≤ l) (h : W.heap[l]? = some o) (_ : o.isCells = false) (_ : o.isWalk = false) : KpS s W (W.putObj l o') := fun k hk => by
  have := hs k hk
  exact (grownBy_putObj' W l o').block k (by have := (Array.getElem?_eq_some_iff.1 h).1; omega) (by simp; omega)

/-- What a loop leaves alone, set aside: its blocks are kept, and behind the loop it is there again. -/
theorem Own.fix {B : Nat} {A C : HP} [Loc B A] {w : World} (h : Own B (A * C) w) : ∃ s : Nat → Prop, (∀ k, s k → k < w.heap.size) ∧ A w s ∧ Own B (C * Same s w) w ∧
    ∀ (W : World) (C' D : HP), Below B w W → Own B (C' * (Same s w * D)) W → Own B (C' * (A * D)) W := by
  obtain ⟨F, hf, F1, F2, hd, h1, h2, ha, hc⟩ := h
  refine ⟨F1, fun k hk => (hf k (h1 k hk)).2, ha, ⟨F, hf, F2, F1, fun k hk hk' => hd k hk' hk, h2, h1, hc, fun k hk => ⟨hk, rfl⟩⟩, fun W C' D hb hO => ?_⟩
  obtain ⟨G, hg, G1, G2, gd, g1, g2, hC', H1, H2, hd2, k1, k2, hS, hD⟩ := hO
  exact ⟨G, hg, G1, G2, gd, g1, g2, hC', H1, H2, hd2, k1, k2, Loc.up (B := B) W _ H1 (fun k hk => (hS k hk).1) (Loc.keep (B := B) w W _ (fun k hk => (hS k hk).2) (fun k hk => hb.block k hk) ha), hD⟩
/-- How a round may be left. -/
def hpPost {α : Type} (B : Nat) (A : List α → HP) (Ax : Code → List α → HP) (R : HP) (W : World) (xs : List α) : Exit → Act → World → Prop
  | .normal, _, W' => Own B (A xs * R) W' ∧ Below B W W'
  | .ret, _, W' => Own B (Ax .ret xs * R) W' ∧ Below B W W'
  | .exit id, _, W' => Own B (Ax (.exit id) xs * R) W' ∧ Below B W W'
  | .goto t, _, W' => Own B (Ax (.goto t) xs * R) W' ∧ Below B W W'
  | .panic _, _, _ => False
  | .outgrown, _, _ => False

theorem keeps_of {B n : Nat} {s : Nat → Prop} {C : HP} {W W' w0 : World} (hB : B ≤ W.heap.size) (hsz : W.heap.size ≤ W'.heap.size) (h : Own B (C * (Same s w0 * Non n W)) W') : KeepsFrom n W W' := by
  obtain ⟨F, hf, F1, F2, hd, h1, h2, hc, F3, F4, hd', h3, h4, hs, hn⟩ := h
  exact ⟨hsz, fun k o hk ho hc => (hn k o hk ho hc).2⟩

/-- THE RULE: a range over a function, in a call that goes on alone. -/
theorem wp_rangeFunc_hp {α : Type} {P : Program} {g : Operand} {ps : Array Tmp} {assign body : Code} {Q : Exit → Act → World → Prop} {a : Act} {w : World}
    {gf : Nat} {lb : Array Value} (hg : a.eval g = .func (.func gf) #[] lb) (eg : ∀ args w, (callFunc gf args).run P w = .ok (.enter gf args) w)
    {encs : α → Array Value} {S Sp : List α → Prop} {N : Nat} (s : Nat → Prop) (hs : ∀ k, s k → k < w.heap.size) (hseq : SeqStopsK Fence.wide 4 P gf lb encs (KpS s) S Sp N w) (hps : ∀ x, (encs x).size = ps.size)
    (B : Nat) (A : List α → HP) (Ax : Code → List α → HP) [∀ xs, Loc B (A xs)] [∀ xs, Cel w.heap.size (A xs)] [∀ c xs, Loc B (Ax c xs)] [∀ c xs, Cel w.heap.size (Ax c xs)] (hB : B ≤ w.heap.size) (h0 : Own B (A [] * Same s w) w) (fin : α → Array Value → Array Value) (a₁ : α → Act) (ha₁ : ∀ x, a₁ x = { tmps := fin x ((ps.zip (encs x)).foldl (fun t (p, v) => t.setIfInBounds p v) a.tmps), defers := [] })
    (hassign : ∀ (l : Nat) (x : α) (W : World) (K : Act → World → Prop), K (a₁ x) W →
      assign.wpIn (Fence.wide.inRound l) 3 P (Exit.then K (fun _ _ _ => False)) { tmps := (ps.zip (encs x)).foldl (fun t (p, v) => t.setIfInBounds p v) a.tmps, defers := [] } W)
    (hbody : ∀ (l : Nat) (pre : List α) (x : α) (W : World) (R : HP) [Loc B R], B ≤ W.heap.size → Below B w W → Own B (A pre * R) W → pre.length < N → body.wpIn (Fence.wide.inRound l) 3 P (hpPost B A Ax R W (pre ++ [x])) (a₁ x) W)
    (hdone : ∀ (D : Nat) (xs : List α) (W : World), S xs → B ≤ W.heap.size → Below B w W → Own B (A xs * (Same s w * Dk D)) W → Q .normal { a with defers := { target := .collected D, args := #[] } :: a.defers } W)
    (hstop : ∀ (D : Nat) (c : Code) (pre : List α) (W : World), Sp pre → B ≤ W.heap.size → Below B w W → Own B (Ax c pre * (Same s w * Dk D)) W → c.wp P Q { a with defers := { target := .collected D, args := #[] } :: a.defers } W) :
    (Code.rangeFunc g ps assign body).wp P Q a w := by
  have cs : Cel w.heap.size (Same s w) := Cel.same hs
  refine (wpIn_wide (n := 5)).1 ?_
  refine wpIn_rangeFunc_ownG (F := Fence.wide) (n := 5) rfl (by omega) hg trivial eg hseq KpS.t (KpS.b hs) (Below.refl _ _) hps
    (fun pre W => (Own B (A pre * Same s w) W ∧ B ≤ W.heap.size) ∧ Below B w W) (fun c pre W => (Own B (Ax c pre * Same s w) W ∧ B ≤ W.heap.size) ∧ Below B w W)
    (OwnFrom.and (fun _ _ _ _ hs hg hr => ⟨hs.1.abide hs.2 hB hg hr, Nat.le_trans hs.2 hg.size⟩) (ownFrom_below hB hB))
    (fun c => OwnFrom.and (fun _ _ _ _ hs hg hr => ⟨hs.1.abide hs.2 hB hg hr, Nat.le_trans hs.2 hg.size⟩) (ownFrom_below hB hB))
    ⟨⟨h0, hB⟩, Below.refl _ _⟩ a₁ hassign ?_ ?_ ?_
  · intro l pre x W ⟨⟨hO, hBW⟩, hb⟩ hN
    have hO2 : Own B (A pre * (Same s w * Non w.heap.size W)) W := (hO.non (n := w.heap.size) hB).assoc
    have hsame : ∀ k, s k → W.heap[k]? = w.heap[k]? := by
      obtain ⟨F, hf, F1, F2, hd, h1, h2, hc, hs⟩ := hO
      exact fun k hk => (hs k hk).2
    refine Code.wpIn_mono (fun e a' W' h => ?_) (hbody l pre x W (Same s w * Non w.heap.size W) hBW hb hO2 hN)
    have fin : ∀ (C : HP), Own B (C * (Same s w * Non w.heap.size W)) W' → Below B W W' → KeepsFrom w.heap.size W W' ∧ KpS s W W' ∧ (Own B (C * Same s w) W' ∧ B ≤ W'.heap.size) ∧ Below B w W' := by
      intro C h hb'
      refine ⟨keeps_of hBW hb'.size h, ?_, ⟨h.assoc'.left, Nat.le_trans hBW hb'.size⟩, hb.trans hb'⟩
      obtain ⟨F, hf, F1, F2, hd, h1, h2, hc, F3, F4, hd', h3, h4, hs', hn⟩ := h
      exact fun k hk => (hs' k hk).2.trans (hsame k hk).symm
    cases e with
    | normal => obtain ⟨k1, k2, k3, k4⟩ := fin _ h.1 h.2; exact ⟨k1, k2, k3, k4⟩
    | ret => obtain ⟨k1, k2, k3, k4⟩ := fin _ h.1 h.2; exact ⟨k1, k3, k4⟩
    | exit id => obtain ⟨k1, k2, k3, k4⟩ := fin _ h.1 h.2; exact ⟨k1, k3, k4⟩
    | goto t => obtain ⟨k1, k2, k3, k4⟩ := fin _ h.1 h.2; exact ⟨k1, k3, k4⟩
    | panic c => exact h
    | outgrown => exact h
  · intro D xs W hD hS ⟨⟨hO, hBW⟩, hb⟩ hK
    exact hdone D xs W hS hBW hb ((hO.dk (n := w.heap.size) (Nat.le_trans hB hD) hD hK).assoc)
  · intro D c pre W hD hS ⟨⟨hO, hBW⟩, hb⟩ hK
    exact wpIn_wide.2 (hstop D c pre W hS hBW hb ((hO.dk (n := w.heap.size) (Nat.le_trans hB hD) hD hK).assoc))

/-- The call's end behind one loop: the deferred calls' block is struck. -/
theorem ret_hp {n D B : Nat} {P : Program} {fn : Func} {R : Ending → World → Prop} {a : Act} {W : World} {A : HP} [Loc B A] {v : Value} (hB : B ≤ W.heap.size) (hd : a.defers = [{ target := .collected D, args := #[] }]) (hO : Own B (Dk D * A) W)
    (hres : ∀ W', Own B A W' → (results fn a.tmps).run P W' = .ok v W') (hR : ∀ W', Own B A W' → Below B W W' → R (.returned v) W') : bodyPostM Fence.wide n P fn R .ret a W := by
  have hK : W.heap[D]? = some (.deferred (some [])) := by
    obtain ⟨F, hf, F1, F2, hd, h1, h2, hc, hs⟩ := hO
    exact hc.2
  have hBD : B ≤ D := by
    obtain ⟨F, hf, F1, F2, hd, h1, h2, hc, hs⟩ := hO
    exact (hf D (h1 D hc.1)).1
  have hg := grownBy_putObj' W D (.deferred none)
  have hO' : Own B A (W.putObj D (.deferred none)) := (Own.turn (A' := Emp) hB hO hg.size (fun F hF ⟨hFD, _⟩ => ⟨fun _ => False, fun _ h => h.elim, trivial, fun k hk hn => hg.block k hk (fun e => hn (by injection e with e; exact e ▸ hFD))⟩)).right
  have hb : Below B W (W.putObj D (.deferred none)) := (Below.refl B W).grown hg hB (fun k e => by cases e; exact hBD)
  unfold bodyPostM
  simp only [hd]
  exact ⟨by simp, .inl ⟨_, _, rfl, run_takeDeferred hK, _, hres _ hO', hR _ hO' hb⟩⟩
end Go.Proofs.Ytedcficjmogohaa

/- The walks over the search for a number's end, and over slices.Backward of bytes. -/
namespace Go.Proofs.Ytedcficjmogohaa
set_option linter.unusedVariables false
set_option linter.unusedSimpArgs false
set_option maxRecDepth 100000
open Go.RowKit Go.Shelf

attribute [local go_sem] Oper.semAt_some

def endI (l : List UInt8) : Int := match endN l with | none => -1 | some k => (k : Int)
theorem endN_none : ∀ {l : List UInt8}, (∀ j (h : j < l.length), ¬ l[j].toNat < 128) → endN l = none
  | [], _ => rfl
  | c :: l, h => by
    unfold endN
    rw [if_neg (show ¬ c.toNat < 128 from h 0 (by simp)), endN_none (fun j hj => h (j + 1) (by simpa using hj))]
    rfl
theorem endN_some : ∀ {l : List UInt8} {i : Nat} (hi : i < l.length), (∀ j (h : j < l.length), j < i → ¬ l[j].toNat < 128) → l[i].toNat < 128 → endN l = some i
  | [], i, hi, _, _ => absurd hi (by simp)
  | c :: l, 0, _, _, h1 => by unfold endN; rw [if_pos (show c.toNat < 128 from h1)]
  | c :: l, i + 1, hi, h, h1 => by
    unfold endN
    rw [if_neg (show ¬ c.toNat < 128 from h 0 (by simp) (by omega)), endN_some (l := l) (i := i) (by simpa using hi) (fun j hj hlt => h (j + 1) (by simpa using hj) (by omega)) h1]
    rfl

theorem small_u8 (c : UInt8) (w : World) : Calls Try.prog 46 #[.int .u8 (c.toNat : Int)] w fun e w' => e = .returned (.bool (decide (c.toNat < 128))) ∧ w' = w := by
  by_cases h : c.toNat < 128
  · have h1 : (c.toNat : Int) < 128 := by omega
    rw [decide_eq_true h]
    clear h
    generalize (c.toNat : Int) = z at *
    go_enter Try.func46, Try.ntmps46
    go_wp2
    go_ret
    exact ⟨rfl, rfl⟩
  · have h1 : ¬ (c.toNat : Int) < 128 := by omega
    rw [decide_eq_false h]
    clear h
    generalize (c.toNat : Int) = z at *
    go_enter Try.func46, Try.ntmps46
    go_wp2
    go_ret
    exact ⟨rfl, rfl⟩
set_option maxRecDepth 100000 in
set_option maxHeartbeats 1600000 in
theorem ixbyte_any (A : Option Addr) (c : Nat) (l : List UInt8) (hl : l.length ≤ 9223372036854775807) (w : World) (hr : Rd w (.slice A l.length c) (bytesU l)) :
    Calls Try.prog 45 #[.slice A l.length c, .func (.func 46) #[] #[]] w fun e w' => e = .returned (.int .i64 (endI l)) ∧ w' = w := by
  have Hr := Lib.hid (fun i hi => hr.at i hi)
  have Hend : Hid ((∀ j (h : j < l.length), ¬ l[j].toNat < 128) → endI l = -1) := Lib.hid (fun h => by unfold endI; rw [endN_none h])
  have Hsome : Hid (∀ i (hi : i < l.length), (∀ j (h : j < l.length), j < i → ¬ l[j].toNat < 128) → l[i].toNat < 128 → endI l = (i : Int)) := Lib.hid (fun i hi h h1 => by unfold endI; rw [endN_some hi h h1])
  have n1 : (l.length : Int) ≤ 9223372036854775807 := by omega
  clear hr hl
  go_enter Try.func45, Try.ntmps45
  go_wp2
  go_loopg [8] l.length (fun k v wr => ∃ i : Nat, k + i = l.length ∧ v = .int .i64 (i : Int) ∧ wr = w ∧ Hid (∀ j (h : j < l.length), j < i → ¬ l[j].toNat < 128))
  case atStart => exact ⟨0, by omega, rfl, rfl, Lib.hid (fun j h h2 => absurd h2 (Nat.not_lt_zero _))⟩
  case round =>
    obtain ⟨i, hk, rfl, rfl, hq⟩ := hrel
    have i0' : (0 : Int) ≤ (i : Int) := by omega
    by_cases hlt : (i : Int) < (l.length : Int)
    · obtain ⟨j, rfl⟩ : ∃ j, gk = j + 1 := ⟨gk - 1, by omega⟩
      have hil : i < l.length := by omega
      obtain ⟨ad, rfl, hc⟩ := Hr.out i hil
      have Hk := Lib.hid hk
      have Hfound := Lib.hid (fun h1 => Hsome.out i hil hq.out h1)
      have Hnext : Hid (¬ l[i].toNat < 128 → ∀ j (h : j < l.length), j < i + 1 → ¬ l[j].toNat < 128) := Lib.hid (fun h1 j h h2 => by
        by_cases e : j = i
        · subst e; exact h1
        · exact hq.out j h (by omega))
      have S := small_u8 l[i] wr
      have hx := l[i].toNat_lt
      clear hk hq
      generalize l[i].toNat = x at *
      go_wp2_with fail
      refine S.mono ?_
      rintro e w1 ⟨rfl, rfl⟩
      by_cases h128 : x < 128
      · rw [decide_eq_true h128]
        go_wp2
        go_ret
        exact ⟨by rw [Hfound.out h128]; rfl, rfl⟩
      · rw [decide_eq_false h128]
        go_wp2
        go_roundg j
        case measure => omega
        case rel => exact ⟨i + 1, by have := Hk.out; omega, rfl, rfl, Lib.hid (Hnext.out h128)⟩
    · have He := Lib.hid (Hend.out (fun j h => hq.out j h (by omega)))
      go_wp2
      go_ret
      exact ⟨by rw [He.out]; rfl, rfl⟩

def upto {α : Type} (f : Nat → α) (k : Nat) : List α := (List.range k).map f
theorem upto_succ {α : Type} (f : Nat → α) (k : Nat) : upto f (k + 1) = upto f k ++ [f k] := by simp [upto, List.range_succ]
theorem upto_length {α : Type} (f : Nat → α) (k : Nat) : (upto f k).length = k := by simp [upto]
def bwdF (l : List UInt8) (k : Nat) : Nat × UInt8 := (l.length - 1 - k, (l[l.length - 1 - k]?).getD 0)
def encNB (x : Nat × UInt8) : Array Value := #[.int .i64 (x.1 : Int), .int .u8 (x.2.toNat : Int)]

set_option maxRecDepth 100000 in
set_option maxHeartbeats 2000000 in
theorem bwd1_in (F : Fence) (n : Nat) (hF : F.fn 65) (hro : F.round = none) (hn : 1 ≤ n) (lp Bs cap : Nat) (A : Option Addr) (l : List UInt8) (hl : l.length ≤ 9223372036854775807) (s : Nat → Prop) (hsB : s Bs) (hsA : ∀ a, A = some a → s a.block) (J Jx : List (Nat × UInt8) → World → Prop)
    (hY : ∀ pre x W, J pre W → pre.length < l.length → YieldAt F (n - 1) Try.prog lp (encNB x) W fun e W' =>
      (e = .returned (.bool true) ∧ J (pre ++ [x]) W' ∧ KpS s W W') ∨ (e = .returned (.bool false) ∧ Jx (pre ++ [x]) W'))
    (W : World) (hBs : W.cell? ⟨Bs, 0, none⟩ = some (.slice A l.length cap)) (hc : Rd W (.slice A l.length cap) (bytesU l)) (h0 : J [] W) :
    CallsIn F n Try.prog 65 #[.func (.yield lp) #[] #[], .pointer (some ⟨Bs, 0, none⟩)] W fun e W' => (∃ v, e = .returned v) ∧
      ((∃ ys, ys = upto (bwdF l) l.length ∧ J ys W') ∨ (∃ pre, (∃ k, k ≤ l.length ∧ pre = upto (bwdF l) k) ∧ Jx pre W')) := by
  have n1 : (l.length : Int) ≤ 9223372036854775807 := by omega
  refine callsIn_of_wp Try.func65 rfl hF ?_ hro
  simp only [Try.ntmps65, List.size_toArray, List.length_cons, List.length_nil, Nat.reduceAdd, Nat.reduceSub, Array.replicate_succ, Array.replicate_zero, List.push_toArray, List.append_toArray, List.nil_append, List.cons_append]
  gi_wp2
  gi_loopw [3] (fun i wr => ∃ k : Nat, k ≤ l.length ∧ i = .int .i64 ((l.length : Int) - 1 - (k : Int)) ∧ J (upto (bwdF l) k) wr ∧ KpS s W wr)
    (fun i _ => (intOf i + 1).toNat)
  case atStart => exact ⟨0, Nat.zero_le _, congrArg (Value.int .i64) (by simp), h0, fun _ _ => rfl⟩
  case round =>
    obtain ⟨k, hk, rfl, hJs, hnx⟩ := hrel
    have hBx : wr.cell? ⟨Bs, 0, none⟩ = some (.slice A l.length cap) := (World.cell?_of_block (a := ⟨Bs, 0, none⟩) (hnx Bs hsB)).trans hBs
    by_cases hlt : k < l.length
    · obtain ⟨fn, tmps, assign, body, hy, hR⟩ := hY _ (bwdF l k) wr hJs (by rw [upto_length]; exact hlt)
      obtain ⟨i, hi⟩ : ∃ i : Nat, i = l.length - 1 - k := ⟨_, rfl⟩
      have hil : i < l.length := by omega
      have e1 : (l.length : Int) - 1 - (k : Int) = (i : Int) := by omega
      have i0 : (0 : Int) ≤ (i : Int) := by omega
      have i1 : (i : Int) < (l.length : Int) := by omega
      have hbf : bwdF l k = (i, l[i]) := by unfold bwdF; rw [← hi]; simp [hil]
      obtain ⟨ad, hA, hca⟩ := hc.at i hil
      subst hA
      have hcx : wr.cell? (ad.add i) = some (.int .u8 (l[i].toNat : Int)) := (World.cell?_of_block (by rw [add_block]; exact hnx _ (hsA _ rfl))).trans hca
      rw [hbf] at hy
      unfold encNB at hy
      dsimp only at hy
      rw [e1]
      have Hi := Lib.hid hi
      have He1 := Lib.hid e1
      clear hca hc hi e1 hbf
      gi_wp2
      refine hR.mono ?_
      rintro e W3 (⟨rfl, hJ3, hk3⟩ | ⟨rfl, hJx3⟩)
      · gi_wp2
        go_roundw
        case rel => exact ⟨k + 1, by omega, congrArg (Value.int .i64) (by have := He1.out; omega), by rw [upto_succ]; exact hJ3, hnx.t hk3⟩
        case measure => simp [intOf] <;> omega
      · gi_wp2
        refine bodyPost_ret (results_none rfl _ _ _) rfl ?_
        exact ⟨⟨_, rfl⟩, .inr ⟨_, ⟨k + 1, by omega, (upto_succ _ _).symm⟩, hJx3⟩⟩
    · obtain rfl : k = l.length := by omega
      have e1 : (l.length : Int) - 1 - (l.length : Int) = -1 := by omega
      rw [e1]
      gi_wp2
      go_end0
      exact ⟨⟨_, rfl⟩, .inl ⟨_, rfl, hJs⟩⟩

theorem bwd_any (A : Option Addr) (n cap : Nat) (w : World) : Calls Try.prog 49 #[.slice A n cap] w fun e w' => e = .returned (.func (.func 65) #[] #[.pointer (some ⟨w.heap.size, 0, none⟩)]) ∧ w' = w.alloc (.cells #[.slice A n cap] 22) := by
  go_enter Try.func49, Try.ntmps49
  go_wp2
  go_ret
  exact ⟨rfl, rfl⟩

theorem bwd_stops (F : Fence) (n : Nat) (hF : F.fn 65) (hro : F.round = none) (hn : 1 ≤ n) (Bs cap : Nat) (A : Option Addr) (l : List UInt8) (hl : l.length ≤ 9223372036854775807) (s : Nat → Prop) (hsB : s Bs) (hsA : ∀ a, A = some a → s a.block) (w : World) (hlt : ∀ k, s k → k < w.heap.size)
    (hBs : w.cell? ⟨Bs, 0, none⟩ = some (.slice A l.length cap)) (hc : Rd w (.slice A l.length cap) (bytesU l)) :
    SeqStopsK F n Try.prog 65 #[.pointer (some ⟨Bs, 0, none⟩)] encNB (KpS s) (fun ys => ys = upto (bwdF l) l.length) (fun pre => ∃ k, k ≤ l.length ∧ pre = upto (bwdF l) k) l.length w := fun lp J Jx W hW _ _ hY h0 =>
  bwd1_in F n hF hro hn lp Bs cap A l hl s hsB hsA J Jx hY W ((hW.cell (hlt _ hsB)).trans hBs) (hc.below hW) h0
end Go.Proofs.Ytedcficjmogohaa

/- The walks over Number and Bytes of package octet's reader. -/
namespace Go.Proofs.Ytedcficjmogohaa
set_option linter.unusedVariables false
set_option linter.unusedSimpArgs false
set_option maxRecDepth 100000
open Go.RowKit Go.Shelf

attribute [local go_sem] Oper.semAt_some

def valB (xs : List (Nat × UInt8)) : Nat := xs.foldl (fun n x => 128 * n + x.2.toNat % 128) 0
theorem valB_snoc (xs : List (Nat × UInt8)) (x : Nat × UInt8) : valB (xs ++ [x]) = 128 * valB xs + x.2.toNat % 128 := by unfold valB; rw [List.foldl_append]; rfl
theorem valB_lt (xs : List (Nat × UInt8)) : valB xs < 128 ^ xs.length := by
  have : ∀ ys : List (Nat × UInt8), valB ys.reverse < 128 ^ ys.length := by
    intro ys
    induction ys with
    | nil => decide
    | cons y ys ih => rw [List.reverse_cons, valB_snoc, List.length_cons, Nat.pow_succ]; omega
  have h := this xs.reverse
  rwa [List.reverse_reverse, List.length_reverse] at h
theorem valB_bwd (l : List UInt8) : ∀ k, k ≤ l.length → valB (upto (bwdF l) k) = lebV (l.drop (l.length - k))
  | 0, _ => by rw [Nat.sub_zero, List.drop_length]; rfl
  | k + 1, hk => by
    rw [upto_succ, valB_snoc, valB_bwd l k (by omega)]
    have hi : l.length - (k + 1) < l.length := by omega
    rw [List.drop_eq_getElem_cons hi, lebV, show l.length - (k + 1) + 1 = l.length - k by omega]
    have : (bwdF l k).2 = l[l.length - (k + 1)] := by unfold bwdF; rw [show l.length - 1 - k = l.length - (k + 1) by omega]; simp [hi]
    rw [this]; omega


set_option maxRecDepth 100000 in
set_option maxHeartbeats 3200000 in
theorem rnum_any (p : Nat) (s : OS) (vs : List (Value × List UInt8)) (hl : s.rest.length ≤ 9223372036854775807) (most : Int) (B : Nat) (R : HP) [Loc B R] (w : World) (hB : B ≤ w.heap.size) (hO : Own B (Rdr p s vs * R) w) :
    Calls Try.prog 24 #[.pointer (some ⟨p, 0, none⟩), .int .i64 most] w (Ret B w (.int .i64 (readNum s most).1) (Rdr p (readNum s most).2 vs * R)) := by
  have E := rerr_any p s vs B R w hO
  by_cases he : s.err = 0
  · obtain ⟨v, hV⟩ := hO.hex
    have hV := hV.assoc
    obtain ⟨A, c, rfl, hrd⟩ : ∃ A c, v = .slice A s.rest.length c ∧ Rd w v (bytesU s.rest) := by
      obtain ⟨F, hf, F1, F2, hd, h1, h2, ha, F3, F4, hd', h3, h4, hv, _⟩ := hV
      have := hv _ List.mem_cons_self
      have h2 := this.rd
      obtain ⟨A, c, e, _⟩ := this
      exact ⟨A, c, e, h2⟩
    have c0 : w.cell? ⟨p, 0, none⟩ = some (.slice A s.rest.length c) := hV.cell 0
    have X := ixbyte_any A c s.rest hl w hrd
    have Fl := Lib.hid (fun z => rfail_any p s vs B R w hB z hO)
    have Hok : ofail s = fun z => ⟨s.rest, z⟩ := by funext z; unfold ofail; rw [if_pos he]
    have n1 : (s.rest.length : Int) ≤ 9223372036854775807 := by omega
    rw [he] at E
    cases hen : endN s.rest with
    | none =>
      have hix : endI s.rest = -1 := by unfold endI; rw [hen]
      rw [hix] at X
      by_cases h6 : (6 : Int) ≤ (s.rest.length : Int)
      · have e2 : readNum s most = (0, ofail s 4) := by unfold readNum; rw [if_neg (by omega), hen]; simp only; rw [if_pos (by omega), Hok]
        rw [e2]
        clear hV hO e2 hix Hok hrd
        generalize s.rest.length = L at *
        refine (callsIn_wide (n := 5)).1 (callsIn_of_wp_marks Try.func24 rfl trivial (wpIn_wide.2 ?_) rfl)
        simp only [Try.ntmps24, List.size_toArray, List.length_cons, List.length_nil, Nat.reduceAdd, Nat.reduceSub, Array.replicate_succ, Array.replicate_zero, List.push_toArray, List.append_toArray, List.nil_append, List.cons_append]
        go_wp2_with fail
        refine E.mono ?_
        rintro e w1 ⟨rfl, rfl⟩
        go_wp2_with fail
        refine X.mono ?_
        rintro e w1 ⟨rfl, rfl⟩
        go_wp2_with fail
        refine (Fl.out 4).mono ?_
        rintro e w2 ⟨rfl, o2, b2⟩
        go_wp2
        exact ⟨_, results_tmp rfl _ _ _, rfl, o2, b2⟩
      · have e2 : readNum s most = (0, ofail s 2) := by unfold readNum; rw [if_neg (by omega), hen]; simp only; rw [if_neg (by omega), Hok]
        rw [e2]
        clear hV hO e2 hix Hok hrd
        generalize s.rest.length = L at *
        refine (callsIn_wide (n := 5)).1 (callsIn_of_wp_marks Try.func24 rfl trivial (wpIn_wide.2 ?_) rfl)
        simp only [Try.ntmps24, List.size_toArray, List.length_cons, List.length_nil, Nat.reduceAdd, Nat.reduceSub, Array.replicate_succ, Array.replicate_zero, List.push_toArray, List.append_toArray, List.nil_append, List.cons_append]
        go_wp2_with fail
        refine E.mono ?_
        rintro e w1 ⟨rfl, rfl⟩
        go_wp2_with fail
        refine X.mono ?_
        rintro e w1 ⟨rfl, rfl⟩
        go_wp2_with fail
        refine (Fl.out 2).mono ?_
        rintro e w2 ⟨rfl, o2, b2⟩
        go_wp2
        exact ⟨_, results_tmp rfl _ _ _, rfl, o2, b2⟩
    | some k =>
      have hix : endI s.rest = (k : Int) := by unfold endI; rw [hen]
      have hkl := endN_lt hen
      rw [hix] at X
      by_cases h6 : (6 : Int) ≤ (k : Int)
      · have e2 : readNum s most = (0, ofail s 4) := by unfold readNum; rw [if_neg (by omega), hen]; simp only; rw [if_pos (by omega), Hok]
        rw [e2]
        clear hV hO e2 hix Hok hrd
        generalize s.rest.length = L at *
        refine (callsIn_wide (n := 5)).1 (callsIn_of_wp_marks Try.func24 rfl trivial (wpIn_wide.2 ?_) rfl)
        simp only [Try.ntmps24, List.size_toArray, List.length_cons, List.length_nil, Nat.reduceAdd, Nat.reduceSub, Array.replicate_succ, Array.replicate_zero, List.push_toArray, List.append_toArray, List.nil_append, List.cons_append]
        go_wp2_with fail
        refine E.mono ?_
        rintro e w1 ⟨rfl, rfl⟩
        go_wp2_with fail
        refine X.mono ?_
        rintro e w1 ⟨rfl, rfl⟩
        go_wp2_with fail
        refine (Fl.out 4).mono ?_
        rintro e w2 ⟨rfl, o2, b2⟩
        go_wp2
        exact ⟨_, results_tmp rfl _ _ _, rfl, o2, b2⟩
      · have hk0 : (0 : Int) ≤ (k : Int) := by omega
        have hkl' : (k : Int) < (s.rest.length : Int) := by omega
        have e1 : (k : Int) + 1 = ((k + 1 : Nat) : Int) := by omega
        have hk1 : k + 1 ≤ s.rest.length := by omega
        have ht : otake s (k + 1) = (s.rest.take (k + 1), ⟨s.rest.drop (k + 1), 0⟩) := by unfold otake; rw [if_neg (by omega), if_neg (by omega)]
        have hlk : (s.rest.take (k + 1)).length = k + 1 := by rw [List.length_take]; omega
        have hgk : (s.rest.take (k + 1))[k]? = s.rest[k]? := by rw [List.getElem?_take, if_pos (by omega)]
        have hrn : readNum s most = if 0 < k ∧ s.rest[k]? = some 0 then (0, ⟨s.rest.drop (k + 1), 4⟩) else if most < lebV (s.rest.take (k + 1)) ∨ 1099511627775 < lebV (s.rest.take (k + 1)) then (0, ⟨s.rest.drop (k + 1), 3⟩) else ((lebV (s.rest.take (k + 1)) : Int), ⟨s.rest.drop (k + 1), 0⟩) := by
          unfold readNum; rw [if_neg (by omega), hen]; simp only; rw [if_neg (by omega)]
        rw [hrn, ← hgk]
        have o1 := hO.new hB 3 #[.int .i64 0]
        have b1 := (Below.refl B w).alloc hB (.cells #[.int .i64 0] 3)
        have T := rtake_any p s vs (k + 1) B (Bk w.heap.size 3 #[.int .i64 0] * R) (w.alloc (.cells #[.int .i64 0] 3)) (Nat.le_trans hB b1.size) (by omega) (o1.cast (sep_left_comm _ _ _))
        rw [ht, show (((k + 1 : Nat)) : Int) = (k : Int) + 1 from rfl] at T
        have Hk := Lib.hid (And.intro hlk hgk)
        clear hV hO hix Hok hrd o1 hlk hgk ht hrn hk1 e1
        generalize s.rest.take (k + 1) = l5 at *
        generalize s.rest.drop (k + 1) = r5 at *
        obtain ⟨res, hres⟩ : ∃ res : Int × OS, res = (if 0 < k ∧ l5[k]? = some 0 then (0, ⟨r5, 4⟩) else if most < lebV l5 ∨ 1099511627775 < lebV l5 then (0, ⟨r5, 3⟩) else ((lebV l5 : Int), ⟨r5, 0⟩)) := ⟨_, rfl⟩
        rw [← hres]
        have Hres := Lib.hid hres
        clear hres
        refine (callsIn_wide (n := 5)).1 (callsIn_of_wp_marks Try.func24 rfl trivial (wpIn_wide.2 ?_) rfl)
        simp only [Try.ntmps24, List.size_toArray, List.length_cons, List.length_nil, Nat.reduceAdd, Nat.reduceSub, Array.replicate_succ, Array.replicate_zero, List.push_toArray, List.append_toArray, List.nil_append, List.cons_append]
        go_wp2_with fail
        refine E.mono ?_
        rintro e w1 ⟨rfl, rfl⟩
        go_wp2_with fail
        refine X.mono ?_
        rintro e w1 ⟨rfl, rfl⟩
        go_wp2_with fail
        refine T.mono ?_
        rintro e w3 ⟨x, rfl, o3, b3⟩
        have hb3 := b1.trans b3
        have B3 : B ≤ w3.heap.size := Nat.le_trans hB hb3.size
        have hX0 : w1.heap.size < w3.heap.size := Nat.lt_of_lt_of_le (by simp) b3.size
        generalize w1.heap.size = X0 at *
        obtain ⟨q, o3⟩ := o3.hex
        have hrd := (o3.assoc.right).rss (x := (x, l5)) (List.mem_cons_of_mem _ List.mem_cons_self)
        obtain ⟨Ax, cx, rfl⟩ : ∃ A c, x = .slice A l5.length c := by obtain ⟨A, c, h, _⟩ := hrd; exact ⟨A, c, by rw [← bytesU_length]; exact h⟩
        go_wp2_with fail
        refine (bwd_any Ax l5.length cx w3).mono ?_
        rintro e w4 ⟨rfl, hw4⟩
        have o4 : Own B ((Bk w3.heap.size 22 #[.slice Ax l5.length cx] * (RdrV q p ⟨r5, 0⟩ ((.slice Ax l5.length cx, l5) :: vs) * R)) * Bk X0 3 #[.int .i64 (valB [] : Int)]) w4 := by rw [hw4]; exact (o3.new B3 _ _).cast (by show (_ : HP) = _; ac_rfl)
        have hb4 : Below B w1 w4 := by rw [hw4]; exact hb3.alloc B3 _
        have hc4 : w4.cell? ⟨w3.heap.size, 0, none⟩ = some (.slice Ax l5.length cx) := o4.assoc.cell 0
        have hrd4 : Rd w4 (.slice Ax l5.length cx) (bytesU l5) := by rw [hw4]; exact hrd.below ((Below.refl _ _).alloc (Nat.le_refl _) _)
        have B4 : B ≤ w4.heap.size := by rw [hw4]; simp; omega
        generalize w3.heap.size = Y0 at *
        obtain ⟨sb, hsb, hAs, o5, hback⟩ := o4.fix
        have hsB : sb Y0 := by obtain ⟨F1, F2, _, h1, _, h, _⟩ := hAs; exact h1 _ h.1
        have hsA : ∀ a, Ax = some a → sb a.block := by
          obtain ⟨F1, F2, _, _, h2, _, G1, G2, _, g1, _, ⟨F3, F4, _, _, h4, _, h⟩, _⟩ := hAs
          intro a ha
          exact h2 _ (g1 _ (h4 _ ((h _ (List.mem_cons_of_mem _ List.mem_cons_self)).at_block (by intro e; simp only at e; have := Hk.out.1; rw [e] at this; simp at this) a ha)))
        clear o3 hw4 hrd o4 b3 hb3 b1 hAs
        go_wp2_with fail
        refine wp_rangeFunc_hp (lb := #[.pointer (some ⟨Y0, 0, none⟩)]) rfl (enters_of Try.func65 (by kernel_rfl) rfl) sb hsb
          (bwd_stops Fence.wide 4 trivial rfl (by omega) Y0 cx Ax l5 (by have := Hk.out.1; omega) sb hsB hsA w4 hsb hc4 hrd4) (fun _ => rfl) B (fun pre => Bk X0 3 #[.int .i64 (valB pre : Int)]) (fun _ _ => Fact False) B4 o5
          (fun x t => t.setIfInBounds 9 (.int .u8 (x.2.toNat : Int))) (fun x => _) (fun x => rfl) ?assign ?body ?done ?stop
        case assign =>
          intro l x W K hK
          simp only [encNB, List.zip_toArray, List.zip_cons_cons, List.zip_nil_right, List.zip_nil_left, List.foldl_toArray', List.foldl_toArray, List.foldl_cons, List.foldl_nil, List.setIfInBounds_toArray, List.set_cons_zero, List.set_cons_succ] at hK ⊢
          gi_wp2
          exact hK
        case body =>
          intro l pre x W R' _ hBW hbW hO hN
          simp only [encNB, List.zip_toArray, List.zip_cons_cons, List.zip_nil_right, List.zip_nil_left, List.foldl_toArray', List.foldl_toArray, List.foldl_cons, List.foldl_nil, List.setIfInBounds_toArray, List.set_cons_zero, List.set_cons_succ] 
          have cX : W.cell? ⟨X0, 0, none⟩ = some (.int .i64 (valB pre : Int)) := hO.cell 0
          have zX := hO.unfrozen 0
          have hv : valB pre < 36028797018963968 := Nat.lt_of_lt_of_le (valB_lt pre) (Nat.le_trans (Nat.pow_le_pow_right (by omega) (show pre.length ≤ 5 by have := Hk.out.1; omega)) (by decide))
          have e1 := u8_and127 x.2
          have e2 := i64_or_shl7 (valB pre) (x.2.toNat % 128) hv (by omega)
          have sX := hO.set hBW 0 (.int .i64 (valB (pre ++ [x]) : Int))
          have bX := hO.below_set 0 (.int .i64 (valB (pre ++ [x]) : Int))
          rw [valB_snoc] at sX bX
          have hx := x.2.toNat_lt
          have Hsn := Lib.hid (valB_snoc pre x)
          clear hO
          obtain ⟨r, hr⟩ : ∃ r : Nat, r = x.2.toNat % 128 := ⟨_, rfl⟩
          obtain ⟨z, hz⟩ : ∃ z : Nat, z = 128 * valB pre + r := ⟨_, rfl⟩
          rw [← hr] at e1 e2 sX bX
          rw [← hz] at e2 sX bX
          have r1 : (r : Int) < 256 := by omega
          have Hz := Lib.hid (And.intro hr hz)
          clear hr hz
          generalize valB pre = m at *
          generalize x.2.toNat = xc at *
          have m1 : (m : Int) < 36028797018963968 := by omega
          have m0 : (0 : Int) ≤ (m : Int) := by omega
          gi_wp2
          refine ⟨?_, bX⟩
          show Own B (Bk X0 _ #[.int .i64 (valB (pre ++ [x]) : Int)] * R') _
          rw [Hsn.out, ← Hz.out.1, ← Hz.out.2]
          exact sX
        case done =>
          intro D xs W hS hBW hbW hO
          subst hS
          have hO2 := hback W _ (Dk D) hbW hO
          have hv : valB (upto (bwdF l5) l5.length) = lebV l5 := by rw [valB_bwd l5 _ (Nat.le_refl _), Nat.sub_self]; rfl
          simp only [hv] at hO2
          have cX : W.cell? ⟨X0, 0, none⟩ = some (.int .i64 (lebV l5 : Int)) := hO2.cell 0
          have oR : Own B (Rdr p ⟨r5, 0⟩ ((.slice Ax l5.length cx, l5) :: vs) * (Dk D * R)) W := Own.to_hex q (Own.right (A := Bk Y0 22 #[.slice Ax l5.length cx]) (hO2.right.cast (by ac_rfl)))
          have hrdW := oR.rdr_view (x := (.slice Ax l5.length cx, l5)) List.mem_cons_self
          have hb5 : Below B w1 W := hb4.trans hbW
          have oD : Own B (Dk D * (Rdr p ⟨r5, 0⟩ vs * R)) W := (oR.rdr_less (fun x hx => List.mem_cons_of_mem _ hx)).cast (sep_left_comm _ _ _)
          have Fw := Lib.hid (fun z => rfail_any p ⟨r5, 0⟩ vs B (Dk D * R) W hBW z (oD.cast (sep_left_comm _ _ _)))
          have Hdone := Lib.hid (And.intro hb5 oD)
          have hkl5 : k < l5.length := by have := Hk.out.1; omega
          clear hO2 oR hO hv hback hsA hsB hb5 oD hbW o5 hb4 hrd4 hc4 hsb T X E Fl c0
          by_cases hk1 : 0 < k
          · obtain ⟨ad, rfl, hc⟩ := hrdW.at k hkl5
            have hk1' : (0 : Int) < (k : Int) := by omega
            have hkl6 : (k : Int) < (l5.length : Int) := by omega
            by_cases hz : l5[k]? = some 0
            · have hr := Lib.hid (show res = (0, ⟨r5, 4⟩) by rw [Hres.out, if_pos ⟨hk1, hz⟩])
              clear Hres Hk
              have hz2 : l5[k].toNat = 0 := by rw [List.getElem?_eq_getElem hkl5] at hz; rw [Option.some.inj hz]; rfl
              simp only [hz2] at hc
              clear hz hz2
              generalize l5.length = L at *
              generalize lebV l5 = nv at *
              go_wp2_with fail
              refine (Fw.out 4).mono ?_
              rintro e w5 ⟨rfl, o6, b6⟩
              go_wp2
              refine ret_hp (Nat.le_trans hBW b6.size) rfl (o6.cast (sep_left_comm _ _ _)) (fun W' _ => results_tmp rfl _ _ _) (fun W' o7 b7 => ⟨by rw [hr.out]; rfl, by rw [hr.out]; exact o7, (Hdone.out.1.trans b6).trans b7⟩)
            · have Hres := Lib.hid (Hres.out.trans (if_neg (fun h => hz h.2)))
              clear Hk
              have hz2 : ¬ l5[k].toNat = 0 := by
                intro e
                apply hz
                rw [List.getElem?_eq_getElem hkl5]
                congr 1
                apply UInt8.toNat.inj
                rw [e]; rfl
              have hz3 : ((l5[k].toNat : Int) == 0) = false := by
                rw [beq_eq_false_iff_ne]
                omega
              clear hz
              generalize l5[k].toNat = bv at *
              have hz4 : ¬ (bv : Int) = 0 := by omega
              generalize lebV l5 = nv at *
              generalize l5.length = L at *
              by_cases hm : most < (nv : Int)
              · have hr := Lib.hid (show res = (0, ⟨r5, 3⟩) by rw [Hres.out, if_pos (.inl hm)])
                go_wp2_with fail
                refine (Fw.out 3).mono ?_
                rintro e w5 ⟨rfl, o6, b6⟩
                go_wp2
                refine ret_hp (Nat.le_trans hBW b6.size) rfl (o6.cast (sep_left_comm _ _ _)) (fun W' _ => results_tmp rfl _ _ _) (fun W' o7 b7 => ⟨by rw [hr.out]; rfl, by rw [hr.out]; exact o7, (Hdone.out.1.trans b6).trans b7⟩)
              · by_cases hm2 : (1099511627775 : Int) < (nv : Int)
                · have hr := Lib.hid (show res = (0, ⟨r5, 3⟩) by rw [Hres.out, if_pos (.inr (by omega))])
                  go_wp2_with fail
                  refine (Fw.out 3).mono ?_
                  rintro e w5 ⟨rfl, o6, b6⟩
                  go_wp2
                  refine ret_hp (Nat.le_trans hBW b6.size) rfl (o6.cast (sep_left_comm _ _ _)) (fun W' _ => results_tmp rfl _ _ _) (fun W' o7 b7 => ⟨by rw [hr.out]; rfl, by rw [hr.out]; exact o7, (Hdone.out.1.trans b6).trans b7⟩)
                · have hr := Lib.hid (show res = ((nv : Int), ⟨r5, 0⟩) by rw [Hres.out, if_neg (by omega)])
                  go_wp2
                  refine ret_hp hBW rfl Hdone.out.2 (fun W' _ => results_tmp rfl _ _ _) (fun W' o7 b7 => ⟨by rw [hr.out]; rfl, by rw [hr.out]; exact o7, Hdone.out.1.trans b7⟩)
          · obtain rfl : k = 0 := by omega
            have Hres := Lib.hid (Hres.out.trans (if_neg (fun h => hk1 h.1)))
            clear Hk
            generalize lebV l5 = nv at *
            generalize l5.length = L at *
            by_cases hm : most < (nv : Int)
            · have hr := Lib.hid (show res = (0, ⟨r5, 3⟩) by rw [Hres.out, if_pos (.inl hm)])
              go_wp2_with fail
              refine (Fw.out 3).mono ?_
              rintro e w5 ⟨rfl, o6, b6⟩
              go_wp2
              refine ret_hp (Nat.le_trans hBW b6.size) rfl (o6.cast (sep_left_comm _ _ _)) (fun W' _ => results_tmp rfl _ _ _) (fun W' o7 b7 => ⟨by rw [hr.out]; rfl, by rw [hr.out]; exact o7, (Hdone.out.1.trans b6).trans b7⟩)
            · by_cases hm2 : (1099511627775 : Int) < (nv : Int)
              · have hr := Lib.hid (show res = (0, ⟨r5, 3⟩) by rw [Hres.out, if_pos (.inr (by omega))])
                go_wp2_with fail
                refine (Fw.out 3).mono ?_
                rintro e w5 ⟨rfl, o6, b6⟩
                go_wp2
                refine ret_hp (Nat.le_trans hBW b6.size) rfl (o6.cast (sep_left_comm _ _ _)) (fun W' _ => results_tmp rfl _ _ _) (fun W' o7 b7 => ⟨by rw [hr.out]; rfl, by rw [hr.out]; exact o7, (Hdone.out.1.trans b6).trans b7⟩)
              · have hr := Lib.hid (show res = ((nv : Int), ⟨r5, 0⟩) by rw [Hres.out, if_neg (by omega)])
                go_wp2
                refine ret_hp hBW rfl Hdone.out.2 (fun W' _ => results_tmp rfl _ _ _) (fun W' o7 b7 => ⟨by rw [hr.out]; rfl, by rw [hr.out]; exact o7, Hdone.out.1.trans b7⟩)
        case stop =>
          intro D c pre W _ _ _ hO
          exact hO.fact_out.elim
  · have e2 := readNum_err he most
    have he' : (s.err == 0) = false := by simpa using he
    rw [e2]
    clear e2
    generalize s.err = q at E he he'
    refine (callsIn_wide (n := 5)).1 (callsIn_of_wp_marks Try.func24 rfl trivial (wpIn_wide.2 ?_) rfl)
    simp only [Try.ntmps24, List.size_toArray, List.length_cons, List.length_nil, Nat.reduceAdd, Nat.reduceSub, Array.replicate_succ, Array.replicate_zero, List.push_toArray, List.append_toArray, List.nil_append, List.cons_append]
    go_wp2_with fail
    refine E.mono ?_
    rintro e w1 ⟨rfl, rfl⟩
    go_wp2
    exact ⟨_, results_tmp rfl _ _ _, rfl, hO, Below.refl _ _⟩
end Go.Proofs.Ytedcficjmogohaa
