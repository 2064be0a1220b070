/- Texts of one proof, merged: XBit XK1 XK2 XK3 XK4 XR0 XK5 XK6. -/
import Derived.Test.YtedcficjmogohaaYd
import Derived.Laws.Bits64b
import Derived.Laws.BitsLemmas
import Derived.Maps.Own
import Derived.Maps.Views
import Derived.DeepKeys3
import Derived.Laws.Cover3
import Derived.Laws.Cells
/- Bits of whole numbers: and, or, of signed words. -/
namespace Go.Proofs.Ytedcficjmogohaa
set_option linter.unusedVariables false
set_option linter.unusedSimpArgs false
set_option maxRecDepth 100000
open Go

theorem i64_or_nat (a b : Nat) (ha : a < 9223372036854775808) (hb : b < 9223372036854775808) : bits .or .i64 (a : Int) (b : Int) = ((a ||| b : Nat) : Int) := by
  have hx : a ||| b < 2 ^ 63 := Nat.or_lt_two_pow (by omega) (by omega)
  show IntKind.i64.wrap ((BitVec.ofInt 64 (a : Int) ||| BitVec.ofInt 64 (b : Int)).toNat : Int) = _
  rw [BitVec.toNat_or, BitVec.toNat_ofInt, BitVec.toNat_ofInt, IntKind.wrap_i64, show ((((a : Nat) : Int) % ((2 ^ 64 : Nat) : Int)).toNat) = a by omega, show (((b : Int) % ((2 ^ 64 : Nat) : Int)).toNat) = b by omega]
  omega
theorem i64_and_nat (a b : Nat) (ha : a < 9223372036854775808) (hb : b < 9223372036854775808) : bits .and .i64 (a : Int) (b : Int) = ((a &&& b : Nat) : Int) := by
  have hx : a &&& b < 2 ^ 63 := Nat.and_lt_two_pow _ (by omega)
  show IntKind.i64.wrap ((BitVec.ofInt 64 (a : Int) &&& BitVec.ofInt 64 (b : Int)).toNat : Int) = _
  rw [BitVec.toNat_and, BitVec.toNat_ofInt, BitVec.toNat_ofInt, IntKind.wrap_i64, show ((((a : Nat) : Int) % ((2 ^ 64 : Nat) : Int)).toNat) = a by omega, show (((b : Int) % ((2 ^ 64 : Nat) : Int)).toNat) = b by omega]
  omega
theorem or_low (a b k : Nat) (hb : b < 2 ^ k) : (2 ^ k * a) ||| b = 2 ^ k * a + b := (Nat.two_pow_add_eq_or_of_lt hb a).symm
theorem i64_and127 (a : Nat) (ha : a < 9223372036854775808) : bits .and .i64 (a : Int) 127 = ((a % 128 : Nat) : Int) := by
  have := i64_and_nat a 127 ha (by omega)
  rw [show ((127 : Nat) : Int) = 127 from rfl] at this
  rw [this, show (127 : Nat) = 2 ^ 7 - 1 from rfl, Nat.and_two_pow_sub_one_eq_mod]
theorem i64_or128 (a : Nat) (ha : a < 128) : bits .or .i64 (a : Int) 128 = ((a + 128 : Nat) : Int) := by
  have := i64_or_nat a 128 (by omega) (by omega)
  rw [show ((128 : Nat) : Int) = 128 from rfl] at this
  rw [this, Nat.or_comm, show (128 : Nat) = 2 ^ 7 * 1 from rfl, or_low 1 a 7 (by omega), Nat.add_comm]
theorem i64_or_shl7 (a b : Nat) (ha : a < 36028797018963968) (hb : b < 128) : bits .or .i64 ((a : Int) * 128) (b : Int) = ((128 * a + b : Nat) : Int) := by
  have := i64_or_nat (2 ^ 7 * a) b (by omega) (by omega)
  rw [or_low a b 7 (by omega)] at this
  rw [show ((a : Int) * 128) = ((2 ^ 7 * a : Nat) : Int) by omega, this]
theorem i64_or_shl8 (a b : Nat) (ha : a < 36028797018963968) (hb : b < 256) : bits .or .i64 ((a : Int) * 256) (b : Int) = ((256 * a + b : Nat) : Int) := by
  have := i64_or_nat (2 ^ 8 * a) b (by omega) (by omega)
  rw [or_low a b 8 (by omega)] at this
  rw [show ((a : Int) * 256) = ((2 ^ 8 * a : Nat) : Int) by omega, this]
theorem u8_and127 (c : UInt8) : bits .and .u8 (c.toNat : Int) 127 = ((c.toNat % 128 : Nat) : Int) := by
  have hc := c.toNat_lt
  show IntKind.u8.wrap ((BitVec.ofInt 8 (c.toNat : Int) &&& BitVec.ofInt 8 127).toNat : Int) = _
  rw [BitVec.toNat_and, BitVec.toNat_ofInt, show (BitVec.ofInt 8 127).toNat = 2 ^ 7 - 1 from rfl, Nat.and_two_pow_sub_one_eq_mod, show (((c.toNat : Int) % ((2 ^ 8 : Nat) : Int)).toNat) = c.toNat by omega]
  have : c.toNat % 2 ^ 7 < 256 := by omega
  simp [IntKind.wrap, IntKind.bits, IntKind.signed]
  omega
end Go.Proofs.Ytedcficjmogohaa

/- The walks over Right, Size, Expand of package match, and over slices.Clip of bytes. -/
namespace Go.Proofs.Ytedcficjmogohaa
set_option linter.unusedVariables false
set_option linter.unusedSimpArgs false
set_option maxRecDepth 100000
open Go.RowKit

theorem RdA.cells3 {w : World} {b off : Nat} {i : Nat} {t : Tk} (d : ∀ j u, (tkL t)[j]? = some u → w.cell? ⟨b, off + i * 3 + j, none⟩ = some u) :
    w.cell? ⟨b, off + i * 3, none⟩ = some (.int .u8 (t.lit.toNat : Int)) ∧ w.cell? ⟨b, off + i * 3 + 1, none⟩ = some (.int .i64 t.len) ∧ w.cell? ⟨b, off + i * 3 + 2, none⟩ = some (.int .i64 t.back) :=
  ⟨d 0 _ rfl, d 1 _ rfl, d 2 _ rfl⟩

set_option maxHeartbeats 1600000 in
theorem right_tk (t : Tk) (w : World) : Calls Try.prog 28 #[.agg (tkL t).toArray] w fun e w' => e = .returned (.bool (rightT t)) ∧ Below w.heap.size w w' := by
  obtain ⟨lit, len, back⟩ := t
  have Yes : Hid (rightP ⟨lit, len, back⟩ → Ending.returned (.bool true) = Ending.returned (.bool (rightT ⟨lit, len, back⟩))) := Lib.hid (fun h => by unfold rightT; rw [decide_eq_true h])
  have No : Hid (¬ rightP ⟨lit, len, back⟩ → Ending.returned (.bool false) = Ending.returned (.bool (rightT ⟨lit, len, back⟩))) := Lib.hid (fun h => by unfold rightT; rw [decide_eq_false h])
  have hb := Lib.hid (fun o => (Below.refl w.heap.size w).alloc (Nat.le_refl _) o)
  have hl : (lit = 0) ↔ (lit.toNat : Int) = 0 := ⟨fun h => by rw [h]; rfl, fun h => by apply UInt8.toNat.inj; show lit.toNat = 0; omega⟩
  have Hl := Lib.hid hl
  clear hl
  simp only [tkL]
  go_enter Try.func28, Try.ntmps28
  by_cases h0 : len = 0
  · subst h0
    by_cases hbk : back = 0
    · subst hbk
      go_wp2
      go_ret
      exact ⟨Yes.out (.inl ⟨rfl, rfl⟩), hb.out _⟩
    · have hbk' : (back == 0) = false := by simpa using hbk
      go_wp2
      go_ret
      exact ⟨No.out (by rintro (⟨_, h⟩ | ⟨h, _⟩); exact hbk h; simp only at h; omega), hb.out _⟩
  · have h0' : (len == 0) = false := by simpa using h0
    by_cases h3 : 3 ≤ len
    · by_cases h258 : len ≤ 258
      · by_cases hb1 : 1 ≤ back
        · by_cases hb2 : back ≤ 32768
          · by_cases hz : (lit.toNat : Int) = 0
            · rw [hz]
              go_wp2
              go_ret
              exact ⟨Yes.out (.inr ⟨h3, h258, hb1, hb2, Hl.out.2 hz⟩), hb.out _⟩
            · have hz' : ((lit.toNat : Int) == 0) = false := by rw [beq_eq_false_iff_ne]; exact hz
              have hno := Lib.hid (No.out (by rintro (⟨h, _⟩ | ⟨_, _, _, _, h⟩); exact h0 h; exact hz (Hl.out.1 h)))
              clear Yes No Hl
              generalize hg : (lit.toNat : Int) = z at *
              go_wp2
              go_ret
              exact ⟨hno.out, hb.out _⟩
          · go_wp2
            go_ret
            exact ⟨No.out (by rintro (⟨h, _⟩ | ⟨_, _, _, h, _⟩); exact h0 h; simp only at h; omega), hb.out _⟩
        · go_wp2
          go_ret
          exact ⟨No.out (by rintro (⟨h, _⟩ | ⟨_, _, h, _⟩); exact h0 h; simp only at h; omega), hb.out _⟩
      · go_wp2
        go_ret
        exact ⟨No.out (by rintro (⟨h, _⟩ | ⟨_, h, _⟩); exact h0 h; simp only at h; omega), hb.out _⟩
    · go_wp2
      go_ret
      exact ⟨No.out (by rintro (⟨h, _⟩ | ⟨h, _⟩); exact h0 h; simp only at h; omega), hb.out _⟩

theorem clip_any (A : Option Addr) (n c : Nat) (hc : n ≤ c ∧ c ≤ 9223372036854775807) (w : World) : Calls Try.prog 29 #[.slice A n c] w fun e w' => e = .returned (.slice A n n) ∧ w' = w := by
  have m1 : (n : Int) ≤ (c : Int) := by omega
  have m0 : (0 : Int) ≤ (n : Int) := by omega
  go_enter Try.func29, Try.ntmps29
  go_wp2
  go_ret
  exact ⟨rfl, rfl⟩

theorem sizeT_snoc (l : List Tk) (t : Tk) : sizeT (l ++ [t]) = sizeT l + (if rightT t then maxT t else 0) := by
  unfold sizeT
  rw [List.filter_append, List.map_append]
  have : ∀ a b : List Int, (a ++ b).sum = a.sum + b.sum := fun a b => by simp
  rw [this]
  congr 1
  by_cases h : rightT t <;> simp [h]
theorem maxT_in {t : Tk} (h : rightT t = true) : 1 ≤ maxT t ∧ maxT t ≤ 258 := by
  have h := of_decide_eq_true h
  unfold maxT
  rcases h with ⟨h, _⟩ | ⟨h1, h2, _⟩ <;> split <;> omega
theorem sizeT_in : ∀ l : List Tk, 0 ≤ sizeT l ∧ sizeT l ≤ 258 * l.length
  | [] => by simp [sizeT]
  | t :: l => by
    have ih := sizeT_in l
    have e : sizeT (t :: l) = (if rightT t then maxT t else 0) + sizeT l := by
      unfold sizeT
      by_cases h : rightT t <;> simp [h]
    rw [e, List.length_cons]
    split
    · rename_i h; have := maxT_in h; omega
    · omega

set_option maxHeartbeats 3200000 in
theorem size_tk (A : Option Addr) (c : Nat) (l : List Tk) (hl : l.length ≤ 4294967296) (w : World) (hr : RdA 3 tkL w A l) :
    Calls Try.prog 18 #[.slice A l.length c] w fun e w' => e = .returned (.int .i64 (sizeT l)) ∧ Below w.heap.size w w' := by
  have Hr := Lib.hid (fun w1 (b : Below w.heap.size w w1) => hr.below b)
  have hb := Below.refl w.heap.size w
  have n1 : (l.length : Int) ≤ 4294967296 := by omega
  clear hr
  go_enter Try.func18, Try.ntmps18
  go_wp2
  go_loopg [3, 8] l.length (fun k v u wr => ∃ i : Nat, k + i = l.length ∧ u = .int .i64 (i : Int) ∧ v = .int .i64 (sizeT (l.take i)) ∧ Below w.heap.size w wr)
  case atStart => exact ⟨0, by omega, rfl, rfl, hb⟩
  case round =>
    clear hb
    obtain ⟨i, hk, rfl, rfl, hb⟩ := hrel
    have i0' : (0 : Int) ≤ (i : Int) := by omega
    by_cases hlt : (i : Int) < (l.length : Int)
    · obtain ⟨j, rfl⟩ : ∃ j, gk = j + 1 := ⟨gk - 1, by omega⟩
      have hil : i < l.length := by omega
      obtain ⟨b, off, rfl, q, d⟩ := Hr.out _ hb i hil
      have hs := sizeT_in (l.take i)
      have hlt2 : (l.take i).length ≤ 4294967296 := by rw [List.length_take]; omega
      have Hsn : Hid (sizeT (l.take (i + 1)) = sizeT (l.take i) + (if rightT l[i] then maxT l[i] else 0)) := Lib.hid (by rw [List.take_succ_eq_append_getElem hil, sizeT_snoc])
      have Hk := Lib.hid hk
      have s0 := hs.1
      have s1 : sizeT (l.take i) ≤ 1108101562368 := by omega
      clear hk hs hlt2
      generalize sizeT (l.take i) = S at *
      generalize l[i] = x at *
      have Hmx := Lib.hid (fun h => maxT_in (t := x) h)
      have Hm : Hid (maxT x = if x.len < 1 then 1 else x.len) := Lib.hid rfl
      have R := Lib.hid (fun w1 => right_tk x w1)
      obtain ⟨lit, len, back⟩ := x
      obtain ⟨d0, d1, d2⟩ := RdA.cells3 d
      simp only [tkL] at d0 d1 d2 R Hm
      clear d
      have hb1 := hb.alloc hb.size (.cells #[.int .u8 (lit.toNat : Int), .int .i64 len, .int .i64 back] 39)
      generalize (lit.toNat : Int) = lz at *
      go_wp2_with fail
      refine (R.out _).mono ?_
      rintro e w3 ⟨rfl, b3⟩
      have o1 := ((Own.start wr.heap.size wr).new (Nat.le_refl _) 39 #[.int .u8 lz, .int .i64 len, .int .i64 back]).grown (by simp) b3
      have c1 : w3.cell? ⟨wr.heap.size, 1, none⟩ = some (.int .i64 len) := o1.cell 1
      have hb3 := hb1.trans (b3.mono hb1.size)
      clear hb hb1 b3 o1 d0 d1 d2
      cases hrt : rightT ⟨lit, len, back⟩ with
      | true =>
        have hmx := Hmx.out hrt
        have hm : (if len < 1 then 1 else len) = maxT ⟨lit, len, back⟩ := Hm.out.symm
        rw [hrt] at Hsn
        generalize maxT ⟨lit, len, back⟩ = m at *
        have Hsn2 := Lib.hid (show sizeT (l.take (i + 1)) = S + m by have := Hsn.out; simpa using this)
        obtain ⟨m1, m2⟩ := hmx
        clear hrt Hsn
        go_wp2
        go_roundg j
        case measure => omega
        case rel => exact ⟨i + 1, by have := Hk.out; omega, rfl, congrArg (Value.int .i64) Hsn2.out.symm, hb3⟩
      | false =>
        rw [hrt] at Hsn
        have Hsn2 := Lib.hid (show sizeT (l.take (i + 1)) = S by have := Hsn.out; simpa using this)
        clear hrt Hsn Hmx Hm
        go_wp2
        go_roundg j
        case measure => omega
        case rel => exact ⟨i + 1, by have := Hk.out; omega, rfl, congrArg (Value.int .i64) Hsn2.out.symm, hb3⟩
    · obtain rfl : i = l.length := by omega
      rw [List.take_length]
      go_wp2
      go_ret
      exact ⟨rfl, hb⟩
end Go.Proofs.Ytedcficjmogohaa

/- The walk over Expand of package match. -/
namespace Go.Proofs.Ytedcficjmogohaa
set_option linter.unusedVariables false
set_option linter.unusedSimpArgs false
set_option maxRecDepth 100000
open Go.RowKit

def ExpP (w : World) (l : List Tk) (e : Ending) (w' : World) : Prop :=
  (∀ r, expT 65536 l [] = some r → ∃ A, e = .returned (.tuple #[.slice A r.length r.length, .int .i64 0]) ∧ Rd w' (.slice A r.length r.length) (bytesU r)) ∧
  (expT 65536 l [] = none → ∃ z : Int, z ≠ 0 ∧ e = .returned (.tuple #[.slice none 0 0, .int .i64 z])) ∧ Below w.heap.size w w'
theorem ExpP.bad {w w' : World} {l : List Tk} {e : Ending} {z : Int} (h : expT 65536 l [] = none) (hz : z ≠ 0) (he : e = .returned (.tuple #[.slice none 0 0, .int .i64 z])) (hb : Below w.heap.size w w') : ExpP w l e w' :=
  ⟨fun r hr => (by rw [h] at hr; cases hr), fun _ => ⟨z, hz, he⟩, hb⟩
theorem ExpP.good {w w' : World} {l : List Tk} {r : List UInt8} {e : Ending} {A : Option Addr} (h : expT 65536 l [] = some r) (he : e = .returned (.tuple #[.slice A r.length r.length, .int .i64 0])) (hr : Rd w' (.slice A r.length r.length) (bytesU r)) (hb : Below w.heap.size w w') : ExpP w l e w' :=
  ⟨fun r' hr' => (by rw [h] at hr'; cases hr'; exact ⟨A, he, hr⟩), fun hn => (by rw [h] at hn; cases hn), hb⟩
theorem Rd.recap {w : World} {A : Option Addr} {n c : Nat} {xs : List Value} (h : Rd w (.slice A n c) xs) (c' : Nat) : Rd w (.slice A n c') xs := by
  obtain ⟨A', c1, hv, hrd⟩ := h
  injection hv with e1 e2 e3
  subst e1; subst e2
  exact ⟨A, c', rfl, hrd⟩

set_option maxHeartbeats 6400000 in
theorem expand_tk (A : Option Addr) (c : Nat) (l : List Tk) (hl : l.length ≤ 4294967296) (w : World) (hr : RdA 3 tkL w A l) :
    Calls Try.prog 16 #[.slice A l.length c] w (ExpP w l) := by
  have Hr := Lib.hid (fun w1 (b : Below w.heap.size w w1) => hr.below b)
  have hb := Below.refl w.heap.size w
  have n1 : (l.length : Int) ≤ 4294967296 := by omega
  have hO := (Own.start w.heap.size w).rw_nil 5 1
  clear hr
  go_enter Try.func16, Try.ntmps16
  go_wp2
  go_loopg [4, 9] l.length (fun k v u wr => ∃ (i : Nat) (out : List UInt8) (A' : Option Addr) (c' : Nat), k + i = l.length ∧ u = .int .i64 (i : Int) ∧ v = .slice A' out.length c' ∧ Own w.heap.size (Rw 5 1 (.slice A' out.length c') out.length (bytesU out) * Emp) wr ∧ Below w.heap.size w wr ∧ out.length ≤ 65536 ∧ Hid (expT 65536 (l.take i) [] = some out))
  case atStart => exact ⟨0, [], none, 0, by omega, rfl, rfl, hO, hb, by simp, Lib.hid (by simp [expT])⟩
  case round =>
    clear hb hO
    obtain ⟨i, out, A', c', hk, rfl, rfl, ho, hb, hol, he⟩ := hrel
    have i0' : (0 : Int) ≤ (i : Int) := by omega
    by_cases hlt : (i : Int) < (l.length : Int)
    · obtain ⟨j, rfl⟩ : ∃ j, gk = j + 1 := ⟨gk - 1, by omega⟩
      have hil : i < l.length := by omega
      obtain ⟨b, off, rfl, q, d⟩ := Hr.out _ hb i hil
      have Hk := Lib.hid hk
      have Hfit : Hid (fitsP out l[i] 65536 → expT 65536 (l.take (i + 1)) [] = some (sawT out l[i])) := Lib.hid (fun hf => by rw [List.take_succ_eq_append_getElem hil, expT_snoc, he.out]; simp [hf])
      have Hbad : Hid (¬ fitsP out l[i] 65536 → expT 65536 l [] = none) := Lib.hid (fun hf => by
        have : l = l.take i ++ l.drop i := (List.take_append_drop i l).symm
        rw [this, expT_append, he.out, List.drop_eq_getElem_cons hil]
        simp [expT, hf])
      have o3 := (ho.new hb.size 39 (tkL l[i]).toArray).foc (Rw 5 1 (.slice A' out.length c') out.length (bytesU out))
      have hb2 := hb.alloc hb.size (.cells (tkL l[i]).toArray 39)
      clear hk ho hb he
      generalize l[i] = x at *
      have R := Lib.hid (fun w1 => right_tk x w1)
      have Hrt : Hid (∀ b, rightT x = b → (b = true ↔ rightP x)) := Lib.hid (fun b h => by unfold rightT at h; rw [← h]; simp)
      obtain ⟨lit, len, back⟩ := x
      obtain ⟨d0, d1, d2⟩ := RdA.cells3 d
      simp only [tkL] at d0 d1 d2 R o3 hb2
      clear d
      generalize hX0 : wr.heap.size = X0 at *
      go_wp2_with fail
      refine (R.out _).mono ?_
      rintro e w3 ⟨rfl, b3⟩
      have o4 := o3.grown hb2.size b3
      have hb4 := hb2.trans (b3.mono hb2.size)
      have c1 : w3.cell? ⟨X0, 1, none⟩ = some (.int .i64 len) := o4.cellOf X0 1
      have c2 : w3.cell? ⟨X0, 2, none⟩ = some (.int .i64 back) := o4.cellOf X0 2
      have c0 : w3.cell? ⟨X0, 0, none⟩ = some (.int .u8 (lit.toNat : Int)) := o4.cellOf X0 0
      clear o3 hb2 b3 d0 d1 d2 R
      cases hrt : rightT ⟨lit, len, back⟩ with
      | false =>
        have hno := Lib.hid (Hbad.out (fun hf => by have := (Hrt.out _ hrt).2 hf.1; cases this))
        go_wp2
        go_ret2
        exact ExpP.bad hno.out (by decide) rfl hb4
      | true =>
        have hrp := (Hrt.out _ hrt).1 rfl
        by_cases hbk : (out.length : Int) < back
        · have hno := Lib.hid (Hbad.out (fun hf => by have := hf.2.1; simp only at this; omega))
          clear hrt hrp
          go_wp2
          go_ret2
          exact ExpP.bad hno.out (by decide) rfl hb4
        · obtain ⟨m, hm⟩ : ∃ m : Int, (if len < 1 then 1 else len) = m := ⟨_, rfl⟩
          have hm2 : maxT ⟨lit, len, back⟩ = m := hm
          have hmr : 1 ≤ m ∧ m ≤ 258 := by rw [← hm2]; exact maxT_in hrt
          obtain ⟨m1, m2⟩ := hmr
          have Hm := Lib.hid hm2
          clear hm2
          have ol : (out.length : Int) ≤ 65536 := by omega
          by_cases hlong : 65536 < (out.length : Int) + m
          · have hno := Lib.hid (Hbad.out (fun hf => by have := hf.2.2; rw [Hm.out] at this; omega))
            clear hrt hrp
            go_wp2
            go_ret2
            exact ExpP.bad hno.out (by decide) rfl hb4
          · have hfit : fitsP out ⟨lit, len, back⟩ 65536 := ⟨hrp, by show back ≤ _; omega, by rw [Hm.out]; omega⟩
            have Hfit := Lib.hid (Hfit.out hfit)
            have Hrp := Lib.hid hrp
            have hsl := sawT_len out _ hrp
            rw [Hm.out] at hsl
            have Hsl := Lib.hid hsl
            clear hfit hrt hrp hsl Hbad Hrt
            by_cases h0 : len = 0
            · subst h0
              obtain rfl : m = 1 := hm.symm
              clear hm m1 m2
              have hlong2 : (out.length : Int) + 1 ≤ 65536 := by omega
              clear hlong ol
              obtain ⟨g, cap, w5, hrun, o5, b5⟩ := byte_snoc hb4.size o4 lit (lit.toNat : Int) rfl (by omega)
              have Hrun := Lib.hid hrun
              have hb5 := hb4.trans b5
              have c15 : w5.cell? ⟨X0, 1, none⟩ = some (.int .i64 0) := o5.cellOf X0 1
              have o6 := (o5.cast (show _ = Bk X0 _ _ * (Rw _ _ _ _ _ * Emp) by ac_rfl)).right
              have Hs : Hid (sawT out ⟨lit, 0, back⟩ = out ++ [lit]) := Lib.hid rfl
              have hlo : (out ++ [lit]).length ≤ 65536 := by rw [List.length_append]; simp; omega
              clear hrun o4 o5 hb4 b5
              generalize out ++ [lit] = out2 at *
              generalize (lit.toNat : Int) = lz at *
              have Hlo := Lib.hid hlo
              clear hlo
              obtain rfl : back = 0 := by
                rcases Hrp.out with ⟨_, h⟩ | ⟨h, _⟩
                · exact h
                · simp only at h; omega
              obtain ⟨X, hX⟩ : ∃ X : Int, (out.length : Int) = X := ⟨_, rfl⟩
              have x1 : X + 1 ≤ 65536 := by omega
              have x0 : 0 ≤ X := by omega
              clear hbk hlong2 hol
              go_wp2_with (at_builtin; refine wpList_append_run rfl (.tmp 36) (.tmp 39) 22 rfl rfl rfl Hrun.out ?_)
              go_loopg [4, 43] 0 (fun k v u wr => v = .slice (some ⟨g, 0, none⟩) out2.length cap ∧ u = .int .i64 0 ∧ wr = w5)
              case atStart => exact ⟨rfl, rfl, rfl⟩
              case round =>
                obtain ⟨rfl, rfl, rfl⟩ := hrel
                go_wp2
                go_roundg j
                case measure => omega
                case rel => exact ⟨i + 1, out2, some ⟨g, 0, none⟩, cap, by have := Hk.out; omega, rfl, rfl, o6, hb5, Hlo.out, Lib.hid (by rw [Hfit.out, Hs.out])⟩
            · have h0' : (len == 0) = false := by simpa using h0
              obtain ⟨r3, r258, rb1, rb2, _⟩ : 3 ≤ len ∧ len ≤ 258 ∧ 1 ≤ back ∧ back ≤ 32768 ∧ lit = 0 := by
                rcases Hrp.out with ⟨h, _⟩ | h
                · exact absurd h h0
                · exact h
              obtain ⟨n, rfl⟩ : ∃ n : Nat, len = (n : Int) := ⟨len.toNat, by omega⟩
              obtain ⟨bk, rfl⟩ : ∃ n : Nat, back = (n : Int) := ⟨back.toNat, by omega⟩
              have hdb : decide (out.length < bk) = false := by simp; omega
              have Hs : Hid (sawT out ⟨lit, (n : Int), (bk : Int)⟩ = copyN bk n out) := Lib.hid (by unfold sawT; rw [if_neg h0]; rfl)
              go_wp2
              go_loopg [4, 43] n (fun k v u wr2 => ∃ (t : Nat) (out2 : List UInt8) (A2 : Option Addr) (c2 : Nat), k + t = n ∧ u = .int .i64 (t : Int) ∧ v = .slice A2 out2.length c2 ∧ Own w.heap.size (Rw 5 1 (.slice A2 out2.length c2) out2.length (bytesU out2) * (Bk X0 39 #[.int .u8 (lit.toNat : Int), .int .i64 (n : Int), .int .i64 (bk : Int)] * Emp)) wr2 ∧ Below w.heap.size w wr2 ∧ out2.length = out.length + t ∧ Hid (out2 = copyN bk t out))
              case atStart => exact ⟨0, out, A', c', by omega, rfl, rfl, o4, hb4, rfl, Lib.hid rfl⟩
              case round =>
                clear o4 hb4 c0 c1 c2
                obtain ⟨t, out2, A2, c2, hkt, rfl, rfl, ho, hb, hl2, he2⟩ := hrel
                have t0' : (0 : Int) ≤ (t : Int) := by omega
                by_cases hlt2 : (t : Int) < (n : Int)
                · obtain ⟨jt, rfl⟩ : ∃ j, gk = j + 1 := ⟨gk - 1, by omega⟩
                  have c2' : wr.cell? ⟨X0, 2, none⟩ = some (.int .i64 (bk : Int)) := ho.cellOf X0 2
                  obtain ⟨ix, hix⟩ : ∃ ix : Nat, ix + bk = out2.length := ⟨out2.length - bk, by omega⟩
                  have hix2 : ix < out2.length := by omega
                  obtain ⟨ad, rfl, hc⟩ := ho.rd.at ix hix2
                  obtain ⟨g, cap, w5, hrun, o5, b5⟩ := byte_snoc hb.size ho out2[ix] (out2[ix].toNat : Int) rfl (by omega)
                  have Hnx : Hid (out2 ++ [out2[ix]] = copyN bk (t + 1) out) := Lib.hid (by
                    rw [copyN_succ, ← he2.out, show out2.length - bk = ix by omega, List.getElem?_eq_getElem hix2]; rfl)
                  have hl3 : (out2 ++ [out2[ix]]).length = out.length + (t + 1) := by rw [List.length_append, hl2]; rfl
                  have e1 : (out2.length : Int) - (bk : Int) = (ix : Int) := by omega
                  have e2 : (ix : Int) < (out2.length : Int) := by omega
                  have e3 : (0 : Int) ≤ (ix : Int) := by omega
                  have e4 : (out2.length : Int) ≤ 1000000 := by omega
                  have Hrun := Lib.hid hrun
                  have Hkt := Lib.hid (And.intro hkt (And.intro hix (And.intro hl2 hl3)))
                  have hb5 := hb.trans b5
                  clear hrun ho hb b5 hkt hix hl2 he2 hl3
                  generalize out2 ++ [out2[ix]] = out3 at *
                  generalize (out2[ix].toNat : Int) = zb at *
                  clear hix2
                  generalize out2.length = L2 at *
                  go_wp2_with (at_builtin; refine wpList_append_run rfl (.tmp 45) (.tmp 54) 22 rfl rfl rfl Hrun.out ?_)
                  go_roundg jt
                  case measure => omega
                  case rel => exact ⟨t + 1, out3, some ⟨g, 0, none⟩, cap, by have := Hkt.out.1; omega, rfl, rfl, o5, hb5, Hkt.out.2.2.2, Hnx⟩
                · obtain rfl : t = n := by omega
                  have o6 := (ho.cast (show _ = Bk X0 _ _ * (Rw _ _ _ _ _ * Emp) by ac_rfl)).right
                  have hlo : out2.length ≤ 65536 := by have := Hsl.out; rw [Hs.out, ← he2.out] at this; omega
                  clear ho hl2
                  go_wp2
                  go_roundg j
                  case measure => omega
                  case rel => exact ⟨i + 1, out2, A2, c2, by have := Hk.out; omega, rfl, rfl, o6, hb, hlo, Lib.hid (by rw [Hfit.out, Hs.out, he2.out])⟩
    · obtain rfl : i = l.length := by omega
      rw [List.take_length] at he
      have hcap := ho.cap
      have K := Lib.hid (fun w1 => clip_any A' out.length c' hcap w1)
      go_wp2_with fail
      refine (K.out _).mono ?_
      rintro e w3 ⟨rfl, rfl⟩
      go_wp2
      go_ret2
      exact ExpP.good he.out rfl (ho.rd.recap _) hb
end Go.Proofs.Ytedcficjmogohaa

/- A map from three bytes to places, as a part of what is owned; the finder of package match; the walk over its put. -/
namespace Go.Proofs.Ytedcficjmogohaa
set_option linter.unusedVariables false
set_option linter.unusedSimpArgs false
set_option maxRecDepth 100000
open Go.RowKit

theorem keyed3 : Go.Maps.Keyed Try.prog 113 := Go.Maps.Keyed.of_law (deep_law (m := 5) (by decide) (by kernel_rfl) (by kernel_rfl) (by kernel_rfl))
def v3 (a b c : UInt8) : Value := .agg #[.int .u8 (a.toNat : Int), .int .u8 (b.toNat : Int), .int .u8 (c.toNat : Int)]
theorem v3_inj {a b c a' b' c' : UInt8} (h : v3 a b c = v3 a' b' c') : a = a' ∧ b = b' ∧ c = c' := by
  unfold v3 at h
  simp at h
  obtain ⟨h1, h2, h3⟩ := h
  exact ⟨UInt8.toNat.inj (by omega), UInt8.toNat.inj (by omega), UInt8.toNat.inj (by omega)⟩
theorem key3 (a b c : UInt8) : ∃ kl, keyOf Try.prog 113 (v3 a b c) = some kl := by
  have h0 : Try.prog.keyType 113 = true := by kernel_rfl
  have h1 : Try.prog.cellsOf 113 = 3 := by kernel_rfl
  have h2 : Try.prog.cellsOf 5 = 1 := by kernel_rfl
  have wf : ∀ x : UInt8, (Lit.int .u8 (x.toNat : Int)).wf = true := fun x => by
    have := x.toNat_lt
    simp [Lit.wf, IntKind.min, IntKind.max, IntKind.signed, IntKind.bits]
    omega
  obtain ⟨n, hn⟩ : ∃ n, Try.prog.types.size + 1 = n + 2 := ⟨Try.prog.types.size - 1, by have h3 : 1 ≤ Try.prog.types.size := (of_decide_eq_true (by kernel_rfl)); omega⟩
  unfold keyOf
  rw [Try.underlying113]
  simp only [h0, Bool.true_and]
  have hf : (v3 a b c).formed Try.prog 113 = true := by
    unfold v3 Value.formed
    simp only [Try.underlying113, h1]
    rfl
  rw [if_pos hf, hn]
  have hL : Try.prog.keyLits (n + 2) 113 (v3 a b c).cells.toList = some [.int .u8 (a.toNat : Int), .int .u8 (b.toNat : Int), .int .u8 (c.toNat : Int)] := by
    have k1 : ∀ x : UInt8, Try.prog.keyLits (n + 1) 5 [.int .u8 (x.toNat : Int)] = some [.int .u8 (x.toNat : Int)] := fun x => by
      unfold Program.keyLits
      rw [Try.underlying5]
      simp only [wf x, and_self, if_true]
    unfold Program.keyLits
    rw [Try.underlying113]
    simp [v3, Value.cells, h1, h2, List.range_succ, List.mapM_cons, k1]
  rw [hL]
  exact ⟨_, rfl⟩

abbrev F3 := UInt8 → UInt8 → UInt8 → Option Int
def upd3 (f : F3) (a b c : UInt8) (p : Int) : F3 := fun x y z => if x = a ∧ y = b ∧ z = c then some p else f x y z
def MoD (D : DataW Unit) (f : F3) : Prop := Go.Maps.IsMap D ∧ ∀ a b c kl, keyOf Try.prog 113 (v3 a b c) = some kl → (Go.Maps.has D kl = (f a b c).isSome ∧ ∀ p, f a b c = some p → ∀ z, D.atKey kl z = .lit (.int .i64 p))
/-- A map from three bytes to numbers. -/
def Mo (g n : Nat) (f : F3) : HP := fun w F => F g ∧ ∃ D : DataW Unit, w.ownsMap Try.prog 113 (Go.plainElem Try.prog 3) g n D ∧ MoD D f
instance Loc.mo {B g n : Nat} {f : F3} : Loc B (Mo g n f) where
  keep := fun _ _ _ h _ ⟨hF, D, ⟨es, clock, hb, r⟩, hd⟩ => ⟨hF, D, ⟨es, clock, (h g hF).trans hb, r⟩, hd⟩
  up := fun _ _ _ h ⟨hF, r⟩ => ⟨h g hF, r⟩
theorem zeroInt : ∀ w : World, (zeroValue 3).run Try.prog w = .ok (.int .i64 0) w := fun w => by
  have h1 : (Try.prog.info? 3).map (fun i => i.zero) = some (some (.int .i64 0)) := by kernel_rfl
  obtain ⟨i0, hi, hz⟩ := Option.map_eq_some_iff.1 h1
  simp [zeroValue, typeInfo, hi, hz]
theorem Own.mo_look {B g n : Nat} {f : F3} {R : HP} {w : World} (h : Own B (Mo g n f * R) w) (a b c : UInt8) :
    (Instr.lookup 78 (.map (some g)) (v3 a b c) true).run Try.prog w = .ok (.tuple #[.int .i64 ((f a b c).getD 0), .bool (f a b c).isSome]) w := by
  obtain ⟨F, hf, F1, F2, hd, h1, h2, ⟨hF, D, ⟨es, clock, hb, Ft, hs, hD⟩, hm, hD2⟩, hr⟩ := h
  obtain ⟨kl, hk⟩ := key3 a b c
  obtain ⟨k1, k2⟩ := hD2 a b c kl hk
  rcases Go.Maps.fit_look true keyed3 Try.underlying78 (zeroInt w) hb Ft hk with ⟨hrun, _, hat⟩ | ⟨e0, y, _, _, hrun, hRv, hat, _⟩
  · have : Go.Maps.has D kl = false := Go.Maps.has_false_of_atKey (by rw [hD]; exact hat)
    rw [this] at k1
    have hn : f a b c = none := by simpa using k1.symm
    rw [hrun, hn]
    rfl
  · have hh : Go.Maps.has D kl = true := Go.Maps.has_true_of_atKey (y := y.1) (by rw [hD]; exact hat)
    rw [hh] at k1
    obtain ⟨p, hp⟩ := Option.isSome_iff_exists.1 k1.symm
    have h3 := k2 p hp
    obtain ⟨z, hz, hy, _⟩ := Go.plainElem_int_inv Try.underlying3 hRv
    have h4 := hat .nil
    rw [← hD, h3 .nil, hy] at h4
    simp at h4
    rw [hrun, hz, hp, h4]
    rfl
theorem Own.mo_put {B g n : Nat} {f : F3} {R : HP} [Loc B R] {w : World} (hB : B ≤ w.heap.size) (h : Own B (Mo g n f * R) w) (hn : n < maxLen) (a b c : UInt8) (p : Int) (hp : (Lit.int .i64 p).wf = true) :
    ∃ w', (Instr.mapUpdate 78 (.map (some g)) (v3 a b c) (.int .i64 p)).run Try.prog w = .ok () w' ∧ Own B (Mo g (n + 1) (upd3 f a b c p) * R) w' ∧ Below B w w' := by
  have h' := h
  obtain ⟨F, hf, F1, F2, hd, h1, h2, ⟨hF, D, ho, hm, hD2⟩, hr⟩ := h
  obtain ⟨kl, hk⟩ := key3 a b c
  obtain ⟨w', hrun, ho', hg⟩ := ho.update keyed3 Try.underlying78 hn hk (Go.plainElem_int Try.underlying3 hp)
  have hBg := (hf g (h1 g hF)).1
  refine ⟨w', hrun, ?_, (Below.refl B w).grown hg hB (fun k e => by cases e; exact hBg)⟩
  refine Own.turn hB h' hg.size fun G hG ⟨hGg, _⟩ => ⟨G, fun k hk => .inl hk, ⟨hGg, _, ho', hm.put _ _, fun x y z kl' hk' => ?_⟩, fun k hk hn => hg.block k hk (fun e => hn (by injection e with e; exact e ▸ hGg))⟩
  unfold upd3
  by_cases he : x = a ∧ y = b ∧ z = c
  · obtain ⟨rfl, rfl, rfl⟩ := he
    rw [hk] at hk'
    obtain rfl := Option.some.inj hk'
    rw [if_pos ⟨rfl, rfl, rfl⟩]
    exact ⟨Go.Maps.has_put_same hm (keyed3.key hk) _, fun q hq z' => by cases hq; exact Go.Maps.atKey_put_same hm (keyed3.key hk) _ _⟩
  · rw [if_neg he]
    have hne : kl' ≠ kl := fun e => by
      subst e
      exact he (v3_inj (keyed3.inj hk' hk))
    obtain ⟨k1, k2⟩ := hD2 x y z kl' hk'
    exact ⟨(Go.Maps.has_put_other hne _).trans k1, fun q hq z' => (Go.Maps.atKey_put_other hne _ _).trans (k2 q hq z')⟩
theorem Own.mo_new {B : Nat} {R : HP} [Loc B R] {w : World} (hB : B ≤ w.heap.size) (h : Own B R w) : Own B (Mo w.heap.size 0 (fun _ _ _ => none) * R) (w.alloc (.map #[] 0)) := by
  refine Own.turn hB h.emp (by simp) fun F _ _ => ⟨fun k => k = w.heap.size, fun k hk => .inr (by simp; omega), ⟨rfl, _, World.ownsMap_made w _ _ _, Go.Maps.isMap_empty, fun a b c kl _ => ⟨rfl, fun p hp => by cases hp⟩⟩, fun k hk _ => Below.heap_alloc w _ k hk⟩

/-! the finder -/
def at3 (b : List UInt8) (q : Nat) (x y z : UInt8) : Prop := b[q]? = some x ∧ b[q + 1]? = some y ∧ b[q + 2]? = some z
instance {b : List UInt8} {q : Nat} {x y z : UInt8} : Decidable (at3 b q x y z) := by unfold at3; infer_instance
/-- The last place ahead of m at which these three bytes stand. -/
def lastP (b : List UInt8) : Nat → F3
  | 0, _, _, _ => none
  | m + 1, x, y, z => if at3 b m x y z then some (m : Int) else lastP b m x y z
def prevP (b : List UInt8) (q : Nat) : Int := match b[q]?, b[q + 1]?, b[q + 2]? with
  | some x, some y, some z => (lastP b q x y z).getD (-1)
  | _, _, _ => -1
def backsAt (b : List UInt8) (m : Nat) : List Int := (List.range b.length).map fun q => if q < m then prevP b q else 0
theorem backsAt_len (b : List UInt8) (m : Nat) : (backsAt b m).length = b.length := by simp [backsAt]
theorem backsAt_succ (b : List UInt8) (m : Nat) : backsAt b (m + 1) = (backsAt b m).set m (prevP b m) := by
  apply List.ext_getElem
  · simp [backsAt]
  · intro i h1 h2
    simp only [backsAt, List.getElem_map, List.getElem_range, List.getElem_set]
    by_cases h : m = i
    · subst h; simp
    · by_cases h3 : i < m
      · rw [if_pos (by omega), if_neg h, if_pos h3]
      · rw [if_neg (by omega), if_neg h, if_neg h3]
theorem lastP_in (b : List UInt8) : ∀ (m : Nat) (x y z : UInt8) (p : Int), lastP b m x y z = some p → 0 ≤ p ∧ p < m
  | 0, x, y, z, p, h => by cases h
  | m + 1, x, y, z, p, h => by
    unfold lastP at h
    split at h
    · injection h with h; subst h; omega
    · have := lastP_in b m x y z p h; omega
theorem prevP_in (b : List UInt8) (q : Nat) : -1 ≤ prevP b q ∧ prevP b q < q := by
  unfold prevP
  split
  · cases h : lastP b q _ _ _ with
    | none => simp; omega
    | some p => have := lastP_in b q _ _ _ p h; simp; omega
  · omega
def intsV (l : List Int) : Array Value := (l.map (Value.int .i64)).toArray
def Fd (p : Nat) (v : Value) (gm gb k : Nat) (b : List UInt8) (m : Nat) : HP :=
  Bk p 81 #[v, .map (some gm), .slice (some ⟨gb, 0, none⟩) b.length b.length] * (Mo gm k (lastP b m) * Bk gb 3 (intsV (backsAt b m)))
instance Loc.fd {B p : Nat} {v : Value} {gm gb k : Nat} {b : List UInt8} {m : Nat} : Loc B (Fd p v gm gb k b m) := inferInstanceAs (Loc B (Bk _ _ _ * (Mo _ _ _ * Bk _ _ _)))
theorem intsV_get (l : List Int) (i : Nat) (h : i < l.length) : (intsV l)[i]? = some (.int .i64 l[i]) := by simp [intsV, h]
theorem intsV_set (l : List Int) (i : Nat) (z : Int) : (intsV l).setIfInBounds i (.int .i64 z) = intsV (l.set i z) := by simp [intsV, List.map_set]
end Go.Proofs.Ytedcficjmogohaa

/- The walk over put of package match's finder. -/
namespace Go.Proofs.Ytedcficjmogohaa
set_option linter.unusedVariables false
set_option linter.unusedSimpArgs false
set_option maxRecDepth 100000
open Go.RowKit

theorem Rd.at' {w : World} {A : Option Addr} {n c : Nat} {l : List UInt8} (h : Rd w (.slice A n c) (bytesU l)) (i : Nat) (hi : i < l.length) : ∃ b0 o0, A = some ⟨b0, o0, none⟩ ∧ w.cell? ⟨b0, o0 + i, none⟩ = some (.int .u8 (l[i].toNat : Int)) := by
  obtain ⟨⟨b0, o0, sp⟩, h1, hc⟩ := h.at i hi
  obtain ⟨ad', h2, hc'⟩ := h.at 0 (by omega)
  rw [h1] at h2
  cases h2
  have hs := World.cell?_spot hc'
  have hsp : sp = none := by simpa [Addr.add] using hs
  subst hsp
  rw [Addr.add_lit] at hc
  exact ⟨b0, o0, h1, hc⟩
theorem Rd.three {w : World} {A : Option Addr} {n c : Nat} {b : List UInt8} (h : Rd w (.slice A n c) (bytesU b)) (m : Nat) (hm : m + 3 ≤ b.length) :
    ∃ b0 o0, A = some ⟨b0, o0, none⟩ ∧ w.cell? ⟨b0, o0 + m, none⟩ = some (.int .u8 (b[m].toNat : Int)) ∧ w.cell? ⟨b0, o0 + m + 1, none⟩ = some (.int .u8 (b[m + 1].toNat : Int)) ∧ w.cell? ⟨b0, o0 + m + 2, none⟩ = some (.int .u8 (b[m + 2].toNat : Int)) := by
  obtain ⟨b0, o0, h1, c0⟩ := h.at' m (by omega)
  obtain ⟨b1, o1, h2, c1⟩ := h.at' (m + 1) (by omega)
  obtain ⟨b2, o2, h3, c2⟩ := h.at' (m + 2) (by omega)
  rw [h1] at h2 h3
  cases h2; cases h3
  exact ⟨b0, o0, h1, c0, by rw [Nat.add_assoc]; exact c1, by rw [Nat.add_assoc]; exact c2⟩
theorem fd_eq {p : Nat} {v : Value} {gm gb k : Nat} {b : List UInt8} {m : Nat} {R : HP} : Fd p v gm gb k b m * R = Bk p 81 #[v, .map (some gm), .slice (some ⟨gb, 0, none⟩) b.length b.length] * (Mo gm k (lastP b m) * (Bk gb 3 (intsV (backsAt b m)) * R)) := by
  show (_ * (_ * _)) * R = _
  rw [sep_assoc, sep_assoc]
theorem Own.mo_more {B g n n' : Nat} {f : F3} {R : HP} {w : World} (h : Own B (Mo g n f * R) w) (hn : n ≤ n') : Own B (Mo g n' f * R) w :=
  h.mono fun _ _ ⟨F1, F2, hd, h1, h2, ⟨hF, D, ho, hm⟩, hr⟩ => ⟨F1, F2, hd, h1, h2, ⟨hF, D, ho.mono hn, hm⟩, hr⟩
theorem wpList_mapUpdate_run {P : Program} {ops : Array Oper} {Q : Exit → Act → World → Prop} {rest : List Oper} {o : Oper} {a : Act} {w w' : World} (hgd : o.guard = none) (m x v : Operand) (t : TypeId) {mv xv vv : Value}
    (ho : o.op = .mapUpdate t m x v) (hm : a.eval m = mv) (hx : a.eval x = xv) (hv : a.eval v = vv) (hr : (Instr.mapUpdate t mv xv vv).run P w = .ok () w') (h : wpList P ops Q rest (a.put o.dst undef) w') : wpList P ops Q (o :: rest) a w := by
  refine wpList_plain hgd fun K' hK' => ?_
  unfold Oper.wp
  simp [execOp, ho, hm, hx, hv, hr, Result.andThen]
  exact hK' _ _ h
set_option maxHeartbeats 6400000 in
theorem fput_any (p gm gb k : Nat) (A : Option Addr) (c : Nat) (b : List UInt8) (hbl : b.length ≤ 65536) (hc : b.length ≤ c ∧ c ≤ 9223372036854775807) (m : Nat) (hm : m < b.length) (hk : k ≤ 1000000) (B : Nat) (R : HP) [Loc B R] (w : World) (hB : B ≤ w.heap.size)
    (hr : ∀ w1, Below B w w1 → Rd w1 (.slice A b.length c) (bytesU b)) (hO : Own B (Fd p (.slice A b.length c) gm gb k b m * R) w) :
    Calls Try.prog 43 #[.pointer (some ⟨p, 0, none⟩), .int .i64 (m : Int)] w (Ret B w (.tuple #[]) (Fd p (.slice A b.length c) gm gb (k + 1) b (m + 1) * R)) := by
  have hO : Own B (Bk p 81 #[.slice A b.length c, .map (some gm), .slice (some ⟨gb, 0, none⟩) b.length b.length] * (Mo gm k (lastP b m) * (Bk gb 3 (intsV (backsAt b m)) * R))) w := by rw [← fd_eq]; exact hO
  have c0 : w.cell? ⟨p, 0, none⟩ = some (.slice A b.length c) := hO.cellOf p 0
  have c2 : w.cell? ⟨p, 2, none⟩ = some (.slice (some ⟨gb, 0, none⟩) b.length b.length) := hO.cellOf p 2
  have oM := hO.cast (show _ = Bk gb 3 (intsV (backsAt b m)) * (Bk p 81 #[.slice A b.length c, .map (some gm), .slice (some ⟨gb, 0, none⟩) b.length b.length] * (Mo gm k (lastP b m) * R)) by ac_rfl)
  have cg : w.cell? ⟨gb, m, none⟩ = some (.int .i64 ((backsAt b m)[m]'(by rw [backsAt_len]; exact hm))) := (oM.cell m).trans (intsV_get _ _ _)
  have zg := oM.unfrozen m
  have hm' : (m : Int) < (b.length : Int) := by omega
  have m0 : (0 : Int) ≤ (m : Int) := by omega
  obtain ⟨B1, o1, b1⟩ := Own.step hB oM m (.int .i64 (-1))
  rw [intsV_set] at o1
  generalize hz0 : (backsAt b m)[m]'(by rw [backsAt_len]; exact hm) = z0 at cg
  have d0 : (w.setCell ⟨gb, m, none⟩ (.int .i64 (-1))).cell? ⟨p, 0, none⟩ = some (.slice A b.length c) := o1.cellOf p 0
  have d1 : (w.setCell ⟨gb, m, none⟩ (.int .i64 (-1))).cell? ⟨p, 1, none⟩ = some (.map (some gm)) := o1.cellOf p 1
  have d2 : (w.setCell ⟨gb, m, none⟩ (.int .i64 (-1))).cell? ⟨p, 2, none⟩ = some (.slice (some ⟨gb, 0, none⟩) b.length b.length) := o1.cellOf p 2
  clear hz0 oM hO
  by_cases hlong : (b.length : Int) < (m : Int) + 3
  · have hp : prevP b m = -1 := by
      unfold prevP
      have : b[m + 2]? = none := List.getElem?_eq_none (by omega)
      rw [this]
      split
      · rename_i h; cases h
      · rfl
    have hl : lastP b (m + 1) = lastP b m := by
      funext x y z
      rw [lastP, if_neg]
      rintro ⟨_, _, h⟩
      rw [List.getElem?_eq_none (by omega)] at h
      cases h
    have oF : Own B (Fd p (.slice A b.length c) gm gb (k + 1) b (m + 1) * R) (w.setCell ⟨gb, m, none⟩ (.int .i64 (-1))) := by
      have o2 := (o1.cast (show _ = Mo gm k (lastP b m) * (Bk p 81 #[.slice A b.length c, .map (some gm), .slice (some ⟨gb, 0, none⟩) b.length b.length] * (Bk gb 3 (intsV ((backsAt b m).set m (-1))) * R)) by ac_rfl)).mo_more (n' := k + 1) (by omega)
      rw [show (backsAt b m).set m (-1) = backsAt b (m + 1) by rw [backsAt_succ, hp], ← hl] at o2
      rw [fd_eq]
      exact o2.cast (by ac_rfl)
    clear o1 hp hl hr hO
    generalize b.length = L at *
    go_enter Try.func43, Try.ntmps43
    go_wp2
    go_end0
    exact ⟨rfl, oF, b1⟩
  · have h3 : m + 3 ≤ b.length := by omega
    have Hr := Lib.hid hr
    obtain ⟨b0, o0, rfl, x0, x1, x2⟩ := (hr _ b1).three m h3
    have hp : prevP b m = (lastP b m b[m] b[m + 1] b[m + 2]).getD (-1) := by
      unfold prevP
      rw [List.getElem?_eq_getElem (by omega), List.getElem?_eq_getElem (by omega), List.getElem?_eq_getElem (by omega)]
    have hl : lastP b (m + 1) = upd3 (lastP b m) b[m] b[m + 1] b[m + 2] (m : Int) := by
      funext x y z
      unfold upd3
      rw [lastP]
      have : at3 b m x y z ↔ (x = b[m] ∧ y = b[m + 1] ∧ z = b[m + 2]) := by
        unfold at3
        rw [List.getElem?_eq_getElem (by omega), List.getElem?_eq_getElem (by omega), List.getElem?_eq_getElem (by omega)]
        constructor
        · rintro ⟨h1, h2, h3⟩; exact ⟨(Option.some.inj h1).symm, (Option.some.inj h2).symm, (Option.some.inj h3).symm⟩
        · rintro ⟨rfl, rfl, rfl⟩; exact ⟨rfl, rfl, rfl⟩
      simp only [this]
    have hcm : ¬ c = m := by omega
    have hL3 : 3 ≤ b.length - m := by omega
    have harr := fun W : World => run_arrayAt (P := Try.prog) (w := W) 113 5 3 (some ⟨b0, o0 + m, none⟩) (b.length - m) (c - m) Try.underlying113 hL3
    have hLm : (m : Int) ≤ (b.length : Int) := by omega
    have hLc : (b.length : Int) ≤ (c : Int) := by omega
    have Hp := Lib.hid hp
    have Hl := Lib.hid hl
    clear hr hp hl
    generalize b[m] = ba at *
    generalize b[m + 1] = bb at *
    generalize b[m + 2] = bc at *
    go_enter Try.func43, Try.ntmps43
    have o2 := o1.new B1 113 #[.int .u8 (ba.toNat : Int), .int .u8 (bb.toNat : Int), .int .u8 (bc.toNat : Int)]
    have b2 := b1.alloc B1 (.cells #[.int .u8 (ba.toNat : Int), .int .u8 (bb.toNat : Int), .int .u8 (bc.toNat : Int)] 113)
    go_wp2
    rw [show (w.setCell ⟨gb, m, none⟩ (.int .i64 (-1))).heap.size = w.heap.size by simp [World.setCell]] at o2
    clear o1 b1 x0 x1 x2 c0 d0 d1 d2 cg zg harr hL3 hcm hO
    generalize (w.setCell ⟨gb, m, none⟩ (.int .i64 (-1))).alloc (.cells #[.int .u8 (ba.toNat : Int), .int .u8 (bb.toNat : Int), .int .u8 (bc.toNat : Int)] 113) = W2 at *
    generalize w.heap.size = X0 at *
    have B2 : B ≤ W2.heap.size := Nat.le_trans o2.bk.2.1 (Nat.le_of_lt o2.bk.2.2)
    refine wp_region_mix (St B _ W2) [0, 1, 2, 3, 4, 5, 6, 7, 9, 8, 10] [] mixed (by kernel_rfl) rfl (St.drew B2 o2) ?_
    simp only [List.filterMap_cons, List.filterMap_nil, List.getElem?_toArray, List.getElem?_cons_succ, List.getElem?_cons_zero]
    repeat (first
      | (refine held_val ?_ rfl (fun w1 hS => ?_) ?_
         rotate_left
         · (have k1 : w1.cell? ⟨p, 1, none⟩ = some (.map (some gm)) := hS.2.1.cellOf p 1; have y0 : w1.cell? ⟨X0, 0, none⟩ = some (.int .u8 (ba.toNat : Int)) := hS.2.1.cell 0; have y1 : w1.cell? ⟨X0, 1, none⟩ = some (.int .u8 (bb.toNat : Int)) := hS.2.1.cell 1; have y2 : w1.cell? ⟨X0, 2, none⟩ = some (.int .u8 (bc.toNat : Int)) := hS.2.1.cell 2; have hlk := (hS.2.1.foc (Mo gm k (lastP b m))).mo_look ba bb bc; unfold v3 at hlk
            go_simp
            try go_bits
            rfl)
         simp only [Act.put, List.setIfInBounds_toArray, List.set_cons_zero, List.set_cons_succ])
      | (refine held_off rfl ?_
         simp only [Act.put, List.setIfInBounds_toArray, List.set_cons_zero, List.set_cons_succ]))
    refine held_nil (fun w3 hS => ?_)
    obtain ⟨B3, o3, b3⟩ := hS
    have hb3 := b2.trans b3
    clear o2 b2 b3 B2
    cases hlp : lastP b m ba bb bc with
    | none =>
      have e : (backsAt b m).set m (-1) = backsAt b (m + 1) := by rw [backsAt_succ, Hp.out, hlp]; rfl
      rw [e] at o3
      have He := Lib.hid hlp
      clear e hlp
      go_wp2
      refine wp_region_mix (St B _ w3) [0, 1, 2, 3, 4, 5] [6] mixed (by kernel_rfl) rfl (St.drew B3 o3) ?_
      simp only [List.filterMap_cons, List.filterMap_nil, List.getElem?_toArray, List.getElem?_cons_succ, List.getElem?_cons_zero]
      repeat (first
        | (refine held_val ?_ rfl (fun w1 hS => ?_) ?_
           rotate_left
           · (have k1 : w1.cell? ⟨p, 1, none⟩ = some (.map (some gm)) := hS.2.1.cellOf p 1; have y0 : w1.cell? ⟨X0, 0, none⟩ = some (.int .u8 (ba.toNat : Int)) := hS.2.1.cell 0; have y1 : w1.cell? ⟨X0, 1, none⟩ = some (.int .u8 (bb.toNat : Int)) := hS.2.1.cell 1; have y2 : w1.cell? ⟨X0, 2, none⟩ = some (.int .u8 (bc.toNat : Int)) := hS.2.1.cell 2
              go_simp
              try go_bits
              rfl)
           simp only [Act.put, List.setIfInBounds_toArray, List.set_cons_zero, List.set_cons_succ])
        | (refine held_off rfl ?_
           simp only [Act.put, List.setIfInBounds_toArray, List.set_cons_zero, List.set_cons_succ]))
      refine held_nil (fun w5 hS => ?_)
      obtain ⟨B5, o5, b5⟩ := hS
      obtain ⟨w6, hrun, o6, b6⟩ := (o5.foc (Mo gm k (lastP b m))).mo_put B5 (by unfold maxLen; omega) ba bb bc (m : Int) (by simp [Lit.wf, IntKind.min, IntKind.max, IntKind.signed, IntKind.bits]; omega)
      have hb6 := (hb3.trans b5).trans b6
      unfold v3 at hrun
      rw [← Hl.out] at o6
      have Hrun := Lib.hid hrun
      have o7 : Own B (Fd p (.slice (some ⟨b0, o0, none⟩) b.length c) gm gb (k + 1) b (m + 1) * R) w6 := by
        rw [fd_eq]
        exact (o6.cast (show _ = Bk X0 _ _ * (Bk p _ _ * (Mo gm (k + 1) (lastP b (m + 1)) * (Bk gb _ _ * R))) by ac_rfl)).right
      clear hrun o5 b5 o6 b6
      refine wpList_mapUpdate_run rfl (.tmp 49) (.tmp 50) (.tmp 51) 78 rfl rfl rfl rfl Hrun.out ?_
      simp only [Act.put, List.setIfInBounds_toArray, List.set_cons_zero, List.set_cons_succ]
      go_wp2
      go_end0
      exact ⟨rfl, o7, hb6⟩
    | some q =>
      have e : ((backsAt b m).set m (-1)).set m q = backsAt b (m + 1) := by rw [backsAt_succ, Hp.out, hlp, List.set_set]; rfl
      have He := Lib.hid hlp
      have c2 : w3.cell? ⟨p, 2, none⟩ = some (.slice (some ⟨gb, 0, none⟩) b.length b.length) := o3.cellOf p 2
      have cg : w3.cell? ⟨gb, m, none⟩ = some (.int .i64 (-1)) := (o3.cellOf gb m).trans (by rw [intsV_get _ _ (by simp [backsAt_len, hm])]; simp)
      have zg := o3.freeOf gb m
      obtain ⟨o4, b4⟩ := o3.setOf B3 gb m (.int .i64 q)
      rw [intsV_set, e] at o4
      have hb4 := hb3.trans b4
      have B4 := Nat.le_trans B3 b4.size
      clear e hlp o3 hb3 b4
      go_wp2
      clear c2 cg zg
      generalize w3.setCell ⟨gb, m, none⟩ (.int .i64 q) = w4 at *
      refine wp_region_mix (St B _ w4) [0, 1, 2, 3, 4, 5] [6] mixed (by kernel_rfl) rfl (St.drew B4 o4) ?_
      simp only [List.filterMap_cons, List.filterMap_nil, List.getElem?_toArray, List.getElem?_cons_succ, List.getElem?_cons_zero]
      repeat (first
        | (refine held_val ?_ rfl (fun w1 hS => ?_) ?_
           rotate_left
           · (have k1 : w1.cell? ⟨p, 1, none⟩ = some (.map (some gm)) := hS.2.1.cellOf p 1; have y0 : w1.cell? ⟨X0, 0, none⟩ = some (.int .u8 (ba.toNat : Int)) := hS.2.1.cell 0; have y1 : w1.cell? ⟨X0, 1, none⟩ = some (.int .u8 (bb.toNat : Int)) := hS.2.1.cell 1; have y2 : w1.cell? ⟨X0, 2, none⟩ = some (.int .u8 (bc.toNat : Int)) := hS.2.1.cell 2
              go_simp
              try go_bits
              rfl)
           simp only [Act.put, List.setIfInBounds_toArray, List.set_cons_zero, List.set_cons_succ])
        | (refine held_off rfl ?_
           simp only [Act.put, List.setIfInBounds_toArray, List.set_cons_zero, List.set_cons_succ]))
      refine held_nil (fun w5 hS => ?_)
      obtain ⟨B5, o5, b5⟩ := hS
      obtain ⟨w6, hrun, o6, b6⟩ := (o5.foc (Mo gm k (lastP b m))).mo_put B5 (by unfold maxLen; omega) ba bb bc (m : Int) (by simp [Lit.wf, IntKind.min, IntKind.max, IntKind.signed, IntKind.bits]; omega)
      have hb6 := (hb4.trans b5).trans b6
      unfold v3 at hrun
      rw [← Hl.out] at o6
      have Hrun := Lib.hid hrun
      have o7 : Own B (Fd p (.slice (some ⟨b0, o0, none⟩) b.length c) gm gb (k + 1) b (m + 1) * R) w6 := by
        rw [fd_eq]
        exact (o6.cast (show _ = Bk X0 _ _ * (Bk p _ _ * (Mo gm (k + 1) (lastP b (m + 1)) * (Bk gb _ _ * R))) by ac_rfl)).right
      clear hrun o5 b5 o6 b6
      refine wpList_mapUpdate_run rfl (.tmp 49) (.tmp 50) (.tmp 51) 78 rfl rfl rfl rfl Hrun.out ?_
      simp only [Act.put, List.setIfInBounds_toArray, List.set_cons_zero, List.set_cons_succ]
      go_wp2
      go_end0
      exact ⟨rfl, o7, hb6⟩
end Go.Proofs.Ytedcficjmogohaa

/- A map from numbers to numbers as a part of what is owned; the reference's bits of a number. -/
namespace Go.Proofs.Ytedcficjmogohaa
set_option linter.unusedVariables false
set_option linter.unusedSimpArgs false
set_option maxRecDepth 100000
open Go.RowKit

theorem keyedI : Go.Maps.Keyed Try.prog 3 := Go.Maps.int_keyed Try.underlying3
def okL (a : Int) : Prop := (Lit.int .i64 a).wf = true
theorem okL_of {a : Int} (h : -9223372036854775808 ≤ a ∧ a ≤ 9223372036854775807) : okL a := by
  simp [okL, Lit.wf, IntKind.min, IntKind.max, IntKind.signed, IntKind.bits]; omega
theorem keyI {a : Int} (h : okL a) : keyOf Try.prog 3 (.int .i64 a) = some (.int .i64 a) := Go.Maps.keyOf_int_mk Try.underlying3 h
def updI (f : Int → Option Int) (a p : Int) : Int → Option Int := fun x => if x = a then some p else f x
def MiD (D : DataW Unit) (f : Int → Option Int) : Prop := Go.Maps.IsMap D ∧ ∀ a, okL a → (Go.Maps.has D (.int .i64 a) = (f a).isSome ∧ ∀ p, f a = some p → ∀ z, D.atKey (.int .i64 a) z = .lit (.int .i64 p))
def Mi (g n : Nat) (f : Int → Option Int) : HP := fun w F => F g ∧ ∃ D : DataW Unit, w.ownsMap Try.prog 3 (Go.plainElem Try.prog 3) g n D ∧ MiD D f
instance Loc.mi {B g n : Nat} {f : Int → Option Int} : Loc B (Mi g n f) where
  keep := fun _ _ _ h _ ⟨hF, D, ⟨es, clock, hb, r⟩, hd⟩ => ⟨hF, D, ⟨es, clock, (h g hF).trans hb, r⟩, hd⟩
  up := fun _ _ _ h ⟨hF, r⟩ => ⟨h g hF, r⟩
theorem Own.mi_look {B g n : Nat} {f : Int → Option Int} {R : HP} {w : World} (h : Own B (Mi g n f * R) w) (a : Int) (ha : okL a) :
    (Instr.lookup 68 (.map (some g)) (.int .i64 a) true).run Try.prog w = .ok (.tuple #[.int .i64 ((f a).getD 0), .bool (f a).isSome]) w := by
  obtain ⟨F, hf, F1, F2, hd, h1, h2, ⟨hF, D, ⟨es, clock, hb, Ft, hs, hD⟩, hm, hD2⟩, hr⟩ := h
  obtain ⟨k1, k2⟩ := hD2 a ha
  rcases Go.Maps.fit_look true keyedI Try.underlying68 (zeroInt w) hb Ft (keyI ha) with ⟨hrun, _, hat⟩ | ⟨e0, y, _, _, hrun, hRv, hat, _⟩
  · have : Go.Maps.has D (.int .i64 a) = false := Go.Maps.has_false_of_atKey (by rw [hD]; exact hat)
    rw [this] at k1
    have hn : f a = none := by simpa using k1.symm
    rw [hrun, hn]
    rfl
  · have hh : Go.Maps.has D (.int .i64 a) = true := Go.Maps.has_true_of_atKey (y := y.1) (by rw [hD]; exact hat)
    rw [hh] at k1
    obtain ⟨p, hp⟩ := Option.isSome_iff_exists.1 k1.symm
    have h3 := k2 p hp
    obtain ⟨z, hz, hy, _⟩ := Go.plainElem_int_inv Try.underlying3 hRv
    have h4 := hat .nil
    rw [← hD, h3 .nil, hy] at h4
    simp at h4
    rw [hrun, hz, hp, h4]
    rfl
theorem Own.mi_put {B g n : Nat} {f : Int → Option Int} {R : HP} [Loc B R] {w : World} (hB : B ≤ w.heap.size) (h : Own B (Mi g n f * R) w) (hn : n < maxLen) (a : Int) (ha : okL a) (p : Int) (hp : okL p) :
    ∃ w', (Instr.mapUpdate 68 (.map (some g)) (.int .i64 a) (.int .i64 p)).run Try.prog w = .ok () w' ∧ Own B (Mi g (n + 1) (updI f a p) * R) w' ∧ Below B w w' := by
  have h' := h
  obtain ⟨F, hf, F1, F2, hd, h1, h2, ⟨hF, D, ho, hm, hD2⟩, hr⟩ := h
  obtain ⟨w', hrun, ho', hg⟩ := ho.update keyedI Try.underlying68 hn (keyI ha) (Go.plainElem_int Try.underlying3 hp)
  have hBg := (hf g (h1 g hF)).1
  refine ⟨w', hrun, ?_, (Below.refl B w).grown hg hB (fun k e => by cases e; exact hBg)⟩
  refine Own.turn hB h' hg.size fun G hG ⟨hGg, _⟩ => ⟨G, fun k hk => .inl hk, ⟨hGg, _, ho', hm.put _ _, fun x hx => ?_⟩, fun k hk hn => hg.block k hk (fun e => hn (by injection e with e; exact e ▸ hGg))⟩
  unfold updI
  by_cases he : x = a
  · subst he
    rw [if_pos rfl]
    exact ⟨Go.Maps.has_put_same hm (keyedI.key (keyI ha)) _, fun q hq z' => by cases hq; exact Go.Maps.atKey_put_same hm (keyedI.key (keyI ha)) _ _⟩
  · rw [if_neg he]
    have hne : (Lit.int .i64 x) ≠ .int .i64 a := fun e => he (by injection e)
    obtain ⟨k1, k2⟩ := hD2 x hx
    exact ⟨(Go.Maps.has_put_other hne _).trans k1, fun q hq z' => (Go.Maps.atKey_put_other hne _ _).trans (k2 q hq z')⟩
theorem Own.mi_new {B : Nat} {R : HP} [Loc B R] {w : World} (hB : B ≤ w.heap.size) (h : Own B R w) : Own B (Mi w.heap.size 0 (fun _ => none) * R) (w.alloc (.map #[] 0)) := by
  refine Own.turn hB h.emp (by simp) fun F _ _ => ⟨fun k => k = w.heap.size, fun k hk => .inr (by simp; omega), ⟨rfl, _, World.ownsMap_made w _ _ _, Go.Maps.isMap_empty, fun a _ => ⟨rfl, fun p hp => by cases hp⟩⟩, fun k hk _ => Below.heap_alloc w _ k hk⟩
theorem Own.mi_more {B g n n' : Nat} {f : Int → Option Int} {R : HP} {w : World} (h : Own B (Mi g n f * R) w) (hn : n ≤ n') : Own B (Mi g n' f * R) w :=
  h.mono fun _ _ ⟨F1, F2, hd, h1, h2, ⟨hF, D, ho, hm⟩, hr⟩ => ⟨F1, F2, hd, h1, h2, ⟨hF, D, ho.mono hn, hm⟩, hr⟩

/-- The reference's bit of a number. -/
theorem bitat_any (n k : Nat) (hn : n ≤ 1000000) (hk : k ≤ 1000000) (w : World) :
    Calls Try.prog 40 #[.int .i64 (n : Int), .int .i64 (k : Int)] w fun e w' => e = .returned (.int .i64 (bitOf (n : Int) k)) ∧ w' = w := by
  have n1 : (n : Int) ≤ 1000000 := by omega
  have k1 : (k : Int) ≤ 1000000 := by omega
  obtain ⟨res, hres⟩ : ∃ res, bitOf (n : Int) k = res := ⟨_, rfl⟩
  rw [hres]
  have Hres := Lib.hid hres
  clear hres
  go_enter Try.func40, Try.ntmps40
  go_wp2
  go_loopg [0, 5] k (fun kk v0 v5 wr => ∃ (i m : Nat), kk + i = k ∧ v5 = .int .i64 (i : Int) ∧ v0 = .int .i64 (m : Int) ∧ m ≤ 1000000 ∧ Hid (n / 2 ^ i = m) ∧ wr = w)
  case atStart => exact ⟨0, n, by omega, rfl, rfl, hn, Lib.hid (by simp), rfl⟩
  case round =>
    obtain ⟨i, m, hkk, rfl, rfl, hm, he, rfl⟩ := hrel
    by_cases hlt : (i : Int) < (k : Int)
    · obtain ⟨j, rfl⟩ : ∃ j, gk = j + 1 := ⟨gk - 1, by omega⟩
      have hq : (m : Int).tdiv 2 = ((m / 2 : Nat) : Int) := by rw [Int.tdiv_eq_ediv_of_nonneg (by omega)]; omega
      obtain ⟨d, hd⟩ : ∃ d, m / 2 = d := ⟨_, rfl⟩
      rw [hd] at hq
      have d1 : (d : Int) ≤ 1000000 := by omega
      have m0 : (0 : Int) ≤ (m : Int) := by omega
      have m1 : (m : Int) ≤ 1000000 := by omega
      have Hd := Lib.hid hd
      have Hm := Lib.hid hm
      clear hd hm
      go_wp2
      go_roundg j
      case measure => omega
      case rel => exact ⟨i + 1, d, by omega, rfl, rfl, by omega, Lib.hid (by rw [Nat.pow_succ, ← Nat.div_div_eq_div_mul, he.out, Hd.out]), rfl⟩
    · obtain rfl : i = k := by omega
      have m0 : (0 : Int) ≤ (m : Int) := by omega
      have m1 : (m : Int) ≤ 1000000 := by omega
      have hr : (m : Int) % 2 = res := by
        rw [← Hres.out]
        unfold bitOf
        have : ((n : Int) / 2 ^ i) = ((n / 2 ^ i : Nat) : Int) := by simp
        rw [this, he.out]
      clear hm
      go_wp2
      go_ret
      exact ⟨rfl, rfl⟩
end Go.Proofs.Ytedcficjmogohaa

/- The walks over alike and best of package match's finder. -/
namespace Go.Proofs.Ytedcficjmogohaa
set_option linter.unusedVariables false
set_option linter.unusedSimpArgs false
set_option maxRecDepth 100000
open Go.RowKit

def alk (b : List UInt8) (p m : Nat) : Nat → Nat → Nat
  | 0, n => n
  | k + 1, n => if m + n < b.length ∧ b[p + n]? = b[m + n]? then alk b p m k (n + 1) else n
def alikeN (b : List UInt8) (p m : Nat) : Nat := alk b p m 258 0
theorem alk_in (b : List UInt8) (p m : Nat) : ∀ (k n : Nat), n ≤ alk b p m k n ∧ alk b p m k n ≤ n + k ∧ (m + n ≤ b.length → m + alk b p m k n ≤ b.length)
  | 0, n => ⟨Nat.le_refl _, Nat.le_refl _, fun h => h⟩
  | k + 1, n => by
    unfold alk
    split
    · rename_i h
      have ih := alk_in b p m k (n + 1)
      exact ⟨by omega, by omega, fun _ => ih.2.2 (by omega)⟩
    · exact ⟨Nat.le_refl _, by omega, fun h => h⟩
theorem alk_eq (b : List UInt8) (p m : Nat) : ∀ (k n i : Nat), n ≤ i → i < alk b p m k n → b[p + i]? = b[m + i]?
  | 0, n, i, h1, h2 => by unfold alk at h2; omega
  | k + 1, n, i, h1, h2 => by
    unfold alk at h2
    split at h2
    · rename_i h
      by_cases e : i = n
      · subst e; exact h.2
      · exact alk_eq b p m k (n + 1) i (by omega) h2
    · omega

set_option maxHeartbeats 6400000 in
theorem alike_any (p gm gb k : Nat) (A : Option Addr) (c : Nat) (b : List UInt8) (hbl : b.length ≤ 65536) (mm : Nat) (q m : Nat) (hq : q < m) (hm : m < b.length) (B : Nat) (R : HP) [Loc B R] (w : World) (hB : B ≤ w.heap.size)
    (hr : ∀ w1, Below B w w1 → Rd w1 (.slice A b.length c) (bytesU b)) (hO : Own B (Fd p (.slice A b.length c) gm gb k b mm * R) w) :
    Calls Try.prog 64 #[.pointer (some ⟨p, 0, none⟩), .int .i64 (q : Int), .int .i64 (m : Int)] w (Ret B w (.int .i64 (alikeN b q m : Int)) (Fd p (.slice A b.length c) gm gb k b mm * R)) := by
  have hO1 : Own B (Bk p 81 #[.slice A b.length c, .map (some gm), .slice (some ⟨gb, 0, none⟩) b.length b.length] * (Mo gm k (lastP b mm) * (Bk gb 3 (intsV (backsAt b mm)) * R))) w := by rw [← fd_eq]; exact hO
  rw [fd_eq]
  have m0 : (0 : Int) ≤ (m : Int) := by omega
  have q0 : (0 : Int) ≤ (q : Int) := by omega
  have qm : (q : Int) < (m : Int) := by omega
  have ml : (m : Int) < (b.length : Int) := by omega
  have l1 : (b.length : Int) ≤ 65536 := by omega
  have Hr := Lib.hid hr
  have Ha : Hid (alikeN b q m = alk b q m 258 0) := Lib.hid rfl
  generalize alikeN b q m = res at *
  clear hr hO
  go_enter Try.func64, Try.ntmps64
  go_wp2
  go_loopg [7] 258 (fun k' v wr => ∃ n : Nat, k' + n = 258 ∧ v = .int .i64 (n : Int) ∧ Own B (Bk p 81 #[.slice A b.length c, .map (some gm), .slice (some ⟨gb, 0, none⟩) b.length b.length] * (Mo gm k (lastP b mm) * (Bk gb 3 (intsV (backsAt b mm)) * R))) wr ∧ Below B w wr ∧ Hid (alk b q m k' n = res) ∧ m + n ≤ b.length)
  case atStart => exact ⟨0, rfl, rfl, hO1, Below.refl _ _, Lib.hid Ha.out.symm, by omega⟩
  case round =>
    clear hO1
    obtain ⟨n, hk, rfl, ho, hb, ha, hn⟩ := hrel
    have Bw := Nat.le_trans hB hb.size
    have n0 : (0 : Int) ≤ (n : Int) := by omega
    have Hr2 := Lib.hid (fun w1 (h : St B (Bk p 81 #[.slice A b.length c, .map (some gm), .slice (some ⟨gb, 0, none⟩) b.length b.length] * (Mo gm k (lastP b mm) * (Bk gb 3 (intsV (backsAt b mm)) * R))) wr w1) => Hr.out w1 (hb.trans h.2.2))
    by_cases h258 : (n : Int) < 258
    · obtain ⟨j, rfl⟩ : ∃ j, gk = j + 1 := ⟨gk - 1, by omega⟩
      by_cases hlt : (m : Int) + (n : Int) < (b.length : Int)
      · have hml : m + n < b.length := by omega
        have hql : q + n < b.length := by omega
        have Hrd := Lib.hid (fun w1 h => (Hr2.out w1 h).at' (q + n) hql)
        have Hrd2 := Lib.hid (fun w1 h => (Hr2.out w1 h).at' (m + n) hml)
        obtain ⟨b0, o0, rfl, _⟩ := Hrd.out _ (St.drew Bw ho)
        have ha2 := ha.out
        unfold alk at ha2
        have Heq : Hid (b[q + n].toNat = b[m + n].toNat ↔ b[q + n]? = b[m + n]?) := Lib.hid (by
          rw [List.getElem?_eq_getElem hql, List.getElem?_eq_getElem hml]
          exact ⟨fun h => by rw [UInt8.toNat.inj h], fun h => by rw [Option.some.inj h]⟩)
        have i1 : (q : Int) + (n : Int) < (b.length : Int) := by omega
        have i0 : (0 : Int) ≤ (q : Int) + (n : Int) := by omega
        have j0 : (0 : Int) ≤ (m : Int) + (n : Int) := by omega
        have z1 := b[q + n].toNat_lt
        have z2 := b[m + n].toNat_lt
        generalize b[q + n].toNat = x at *
        generalize b[m + n].toNat = y at *
        have C1 : Hid (∀ w1, St B (Bk p 81 #[.slice (some ⟨b0, o0, none⟩) b.length c, .map (some gm), .slice (some ⟨gb, 0, none⟩) b.length b.length] * (Mo gm k (lastP b mm) * (Bk gb 3 (intsV (backsAt b mm)) * R))) wr w1 → w1.cell? ⟨b0, o0 + (q + n), none⟩ = some (.int .u8 (x : Int))) := Lib.hid (fun w1 h => by
          obtain ⟨b1, o1, e, hc⟩ := Hrd.out w1 h
          cases e
          exact hc)
        have C2 : Hid (∀ w1, St B (Bk p 81 #[.slice (some ⟨b0, o0, none⟩) b.length c, .map (some gm), .slice (some ⟨gb, 0, none⟩) b.length b.length] * (Mo gm k (lastP b mm) * (Bk gb 3 (intsV (backsAt b mm)) * R))) wr w1 → w1.cell? ⟨b0, o0 + (m + n), none⟩ = some (.int .u8 (y : Int))) := Lib.hid (fun w1 h => by
          obtain ⟨b1, o1, e, hc⟩ := Hrd2.out w1 h
          cases e
          exact hc)
        clear Hrd Hrd2
        by_cases hxy : x = y
        · have ha3 := Lib.hid ((if_pos (show m + n < b.length ∧ b[q + n]? = b[m + n]? from ⟨hml, Heq.out.1 hxy⟩)).symm.trans ha2)
          have Hk := Lib.hid hk
          subst hxy
          clear ha2 ha hk
          have hxx : ((x : Int) == (x : Int)) = true := by simp
          go_wp2
          refine wp_region_mix (St B _ wr) [0, 1, 2, 3, 4, 5, 6, 7, 8, 9, 10, 11, 12, 13, 14, 15, 16, 17, 18, 19, 20, 21, 22, 23, 24, 25, 26, 27, 28, 29, 30, 31, 32, 33] [] mixed (by kernel_rfl) rfl (St.drew Bw ho) ?_
          simp only [List.filterMap_cons, List.filterMap_nil, List.getElem?_toArray, List.getElem?_cons_succ, List.getElem?_cons_zero]
          repeat (first
            | (refine held_val ?_ rfl (fun w1 hS => ?_) ?_
               rotate_left
               · (have c0 : w1.cell? ⟨p, 0, none⟩ = some (.slice (some ⟨b0, o0, none⟩) b.length c) := hS.2.1.cell 0; have x1 := C1.out w1 hS; have x2 := C2.out w1 hS
                  go_simp
                  try go_bits
                  rfl)
               simp only [Act.put, List.setIfInBounds_toArray, List.set_cons_zero, List.set_cons_succ])
            | (refine held_off rfl ?_
               simp only [Act.put, List.setIfInBounds_toArray, List.set_cons_zero, List.set_cons_succ]))
          refine held_nil (fun w3 hS => ?_)
          obtain ⟨B3, o3, b3⟩ := hS
          go_wp2
          go_roundg j
          case measure => omega
          case rel => exact ⟨n + 1, by have := Hk.out; omega, rfl, o3, hb.trans b3, ha3, by omega⟩
        · have ha3 := Lib.hid ((if_neg (show ¬ (m + n < b.length ∧ b[q + n]? = b[m + n]?) from fun h => hxy (Heq.out.2 h.2))).symm.trans ha2)
          have hxy' : ((x : Int) == (y : Int)) = false := by rw [beq_eq_false_iff_ne]; omega
          have hxn : (x == y) = false := by simpa using hxy
          have hxz : ¬ (x : Int) = (y : Int) := by omega
          clear ha2 ha
          go_wp2
          refine wp_region_mix (St B _ wr) [0, 1, 2, 3, 4, 5, 6, 7, 8, 9, 10, 11, 12, 13, 14, 15, 16, 17, 18, 19, 20, 21, 22, 23, 24, 25, 26, 27, 28, 29, 30, 31, 32, 33] [] mixed (by kernel_rfl) rfl (St.drew Bw ho) ?_
          simp only [List.filterMap_cons, List.filterMap_nil, List.getElem?_toArray, List.getElem?_cons_succ, List.getElem?_cons_zero]
          repeat (first
            | (refine held_val ?_ rfl (fun w1 hS => ?_) ?_
               rotate_left
               · (have c0 : w1.cell? ⟨p, 0, none⟩ = some (.slice (some ⟨b0, o0, none⟩) b.length c) := hS.2.1.cell 0; have x1 := C1.out w1 hS; have x2 := C2.out w1 hS
                  go_simp
                  try go_bits
                  rfl)
               simp only [Act.put, List.setIfInBounds_toArray, List.set_cons_zero, List.set_cons_succ])
            | (refine held_off rfl ?_
               simp only [Act.put, List.setIfInBounds_toArray, List.set_cons_zero, List.set_cons_succ]))
          refine held_nil ?_
          intro w3 hS
          obtain ⟨B3, o3, b3⟩ := hS
          go_wp2
          go_ret
          rw [← ha3.out]
          exact ⟨rfl, o3, hb.trans b3⟩
      · have ha3 : Hid (res = n) := Lib.hid (by have := ha.out; unfold alk at this; rw [if_neg (by omega)] at this; exact this.symm)
        have hltd : decide ((m : Int) + (n : Int) < (b.length : Int)) = false := decide_eq_false hlt
        have hml2 : (b.length : Int) ≤ (m : Int) + (n : Int) := by omega
        clear ha
        go_wp2
        refine wp_region_mix (St B _ wr) [0, 1, 2, 3, 4, 5, 6, 7, 8, 9, 10, 11, 12, 13, 14, 15, 16, 17, 18, 19, 20, 21, 22, 23, 24, 25, 26, 27, 28, 29, 30, 31, 32, 33] [] mixed (by kernel_rfl) rfl (St.drew Bw ho) ?_
        simp only [List.filterMap_cons, List.filterMap_nil, List.getElem?_toArray, List.getElem?_cons_succ, List.getElem?_cons_zero]
        repeat (first
          | (refine held_val ?_ rfl (fun w1 hS => ?_) ?_
             rotate_left
             · (have c0 : w1.cell? ⟨p, 0, none⟩ = some (.slice A b.length c) := hS.2.1.cell 0
                go_simp
                try go_bits
                rfl)
             simp only [Act.put, List.setIfInBounds_toArray, List.set_cons_zero, List.set_cons_succ])
          | (refine held_off rfl ?_
             simp only [Act.put, List.setIfInBounds_toArray, List.set_cons_zero, List.set_cons_succ]))
        refine held_nil (fun w3 hS => ?_)
        obtain ⟨B3, o3, b3⟩ := hS
        go_wp2
        go_ret
        rw [ha3.out]
        exact ⟨rfl, o3, hb.trans b3⟩
    · obtain rfl : n = 258 := by omega
      obtain rfl : gk = 0 := by omega
      have ha3 : Hid (res = 258) := Lib.hid ha.out.symm
      go_wp2
      refine wp_region_mix (St B _ wr) [0, 1, 2, 3, 4, 5, 6, 7, 8, 9, 10, 11, 12, 13, 14, 15, 16, 17, 18, 19, 20, 21, 22, 23, 24, 25, 26, 27, 28, 29, 30, 31, 32, 33] [] mixed (by kernel_rfl) rfl (St.drew Bw ho) ?_
      simp only [List.filterMap_cons, List.filterMap_nil, List.getElem?_toArray, List.getElem?_cons_succ, List.getElem?_cons_zero]
      repeat (first
        | (refine held_val ?_ rfl (fun w1 hS => ?_) ?_
           rotate_left
           · (skip
              go_simp
              try go_bits
              rfl)
           simp only [Act.put, List.setIfInBounds_toArray, List.set_cons_zero, List.set_cons_succ])
        | (refine held_off rfl ?_
           simp only [Act.put, List.setIfInBounds_toArray, List.set_cons_zero, List.set_cons_succ]))
      refine held_nil (fun w3 hS => ?_)
      obtain ⟨B3, o3, b3⟩ := hS
      go_wp2
      go_ret
      rw [ha3.out]
      exact ⟨rfl, o3, hb.trans b3⟩
end Go.Proofs.Ytedcficjmogohaa

/- The walk over best of package match's finder. -/
namespace Go.Proofs.Ytedcficjmogohaa
set_option linter.unusedVariables false
set_option linter.unusedSimpArgs false
set_option maxRecDepth 100000
open Go.RowKit

def bst (b : List UInt8) (win : Int) (m : Nat) : Nat → Int → Nat → Nat → Nat × Nat
  | 0, _, n, d => (n, d)
  | k + 1, c, n, d =>
    if 0 ≤ c ∧ (m : Int) - c ≤ win then
      if n < alikeN b c.toNat m then
        if alikeN b c.toNat m = 258 then (258, m - c.toNat) else bst b win m k (prevP b c.toNat) (alikeN b c.toNat m) (m - c.toNat)
      else bst b win m k (prevP b c.toNat) n d
    else (n, d)
def bestN (b : List UInt8) (win : Int) (m : Nat) : Nat × Nat := bst b win m (m + 1) (prevP b m) 0 0
theorem backsAt_get (b : List UInt8) (m q : Nat) (hq : q < m) (hb : q < b.length) : (backsAt b m)[q]'(by rw [backsAt_len]; exact hb) = prevP b q := by
  simp [backsAt, hq]

theorem Own.set3 {B X : Nat} {T : TypeId} {R : HP} [Loc B R] {x y z : Value} {w : World} (hB : B ≤ w.heap.size) (h : Own B (Bk X T #[x, y, z] * R) w) (x' y' z' : Value) :
    Own B (Bk X T #[x', y', z'] * R) (((w.setCell ⟨X, 0, none⟩ x').setCell ⟨X, 1, none⟩ y').setCell ⟨X, 2, none⟩ z') ∧ Below B w (((w.setCell ⟨X, 0, none⟩ x').setCell ⟨X, 1, none⟩ y').setCell ⟨X, 2, none⟩ z') := by
  have s0 := h.set hB 0 x'
  have s1 := s0.set (by simpa [World.setCell] using hB) 1 y'
  have s2 := s1.set (by simpa [World.setCell] using hB) 2 z'
  exact ⟨s2, ((h.below_set 0 x').trans (s0.below_set 1 y')).trans (s1.below_set 2 z')⟩

set_option maxHeartbeats 6400000 in
theorem fbest_any (p gm gb k : Nat) (A : Option Addr) (c : Nat) (b : List UInt8) (hbl : b.length ≤ 65536) (win : Int) (hw1 : 1 ≤ win) (hw2 : win ≤ 32768) (m : Nat) (hm : m < b.length) (B : Nat) (R : HP) [Loc B R] (w : World) (hB : B ≤ w.heap.size)
    (hr : ∀ w1, Below B w w1 → Rd w1 (.slice A b.length c) (bytesU b)) (hO : Own B (Fd p (.slice A b.length c) gm gb k b (m + 1) * R) w) :
    Calls Try.prog 44 #[.pointer (some ⟨p, 0, none⟩), .int .i64 (m : Int), .int .i64 win] w (Ret B w (.agg #[.int .u8 0, .int .i64 ((bestN b win m).1 : Int), .int .i64 ((bestN b win m).2 : Int)]) (Fd p (.slice A b.length c) gm gb k b (m + 1) * R)) := by
  have m0 : (0 : Int) ≤ (m : Int) := by omega
  have ml : (m : Int) < (b.length : Int) := by omega
  have l1 : (b.length : Int) ≤ 65536 := by omega
  have hpm := prevP_in b m
  have Hr := Lib.hid hr
  have HE : Hid (bestN b win m = bst b win m (m + 1) (prevP b m) 0 0) := Lib.hid rfl
  generalize bestN b win m = res at *
  obtain ⟨rn, rd⟩ := res
  clear hr
  have o1 := hO.new hB 39 #[.int .u8 0, .int .i64 0, .int .i64 0]
  have b1 := (Below.refl B w).alloc hB (.cells #[.int .u8 0, .int .i64 0, .int .i64 0] 39)
  have B1 := Nat.le_trans hB b1.size
  have o2 := o1.new B1 39 #[.int .u8 0, .int .i64 0, .int .i64 0]
  have b2 := b1.alloc B1 (.cells #[.int .u8 0, .int .i64 0, .int .i64 0] 39)
  rw [show (w.alloc (.cells #[.int .u8 0, .int .i64 0, .int .i64 0] 39)).heap.size = w.heap.size + 1 by simp, fd_eq] at o2
  clear hO o1 b1
  have c2 := o2.cellOf p 2
  have cg := (o2.cellOf gb m).trans ((intsV_get _ _ (by rw [backsAt_len]; exact hm)).trans (by rw [backsAt_get b _ _ (by omega) hm]))
  rw [← fd_eq] at o2
  generalize hpme : prevP b m = pm at *
  clear hpme
  go_enter Try.func44, Try.ntmps44
  go_wp2
  go_loopg [8] (m + 1) (fun k' v wr => ∃ (cc : Int) (n d : Nat), v = .int .i64 cc ∧ -1 ≤ cc ∧ cc < m ∧ cc < k' ∧ n ≤ 258 ∧ Hid (bst b win m k' cc n d = (rn, rd)) ∧ Below B w wr ∧ Own B (Bk (w.heap.size + 1) 39 #[.int .u8 0, .int .i64 (n : Int), .int .i64 (d : Int)] * (Bk w.heap.size 39 #[.int .u8 0, .int .i64 0, .int .i64 0] * (Fd p (.slice A b.length c) gm gb k b (m + 1) * R))) wr)
  case atStart => exact ⟨pm, 0, 0, rfl, hpm.1, hpm.2, by omega, by omega, Lib.hid HE.out.symm, b2, o2⟩
  case round =>
    clear o2 c2 cg b2 B1 HE
    obtain ⟨cc, n, d, rfl, hc1, hc2, hc3, hn, he, hb, ho⟩ := hrel
    have Bw := Nat.le_trans hB hb.size
    generalize hX0 : w.heap.size = X0 at *
    by_cases hc0 : 0 ≤ cc
    · by_cases hwin : (m : Int) - cc ≤ win
      · obtain ⟨j, rfl⟩ : ∃ j, gk = j + 1 := ⟨gk - 1, by omega⟩
        obtain ⟨q, rfl⟩ : ∃ q : Nat, cc = (q : Int) := ⟨cc.toNat, by omega⟩
        have he1 := he.out
        rw [bst, if_pos ⟨hc0, hwin⟩, Int.toNat_natCast] at he1
        have Ha := Lib.hid (fun w1 (hb1 : Below B w w1) (R' : HP) (_ : Loc B R') (B1 : B ≤ w1.heap.size) (ho1 : Own B (Fd p (.slice A b.length c) gm gb k b (m + 1) * R') w1) =>
          alike_any p gm gb k A c b hbl (m + 1) q m (by omega) hm B R' w1 B1 (fun w2 h2 => Hr.out w2 (hb1.trans h2)) ho1)
        have hal : alikeN b q m ≤ 258 := by have := alk_in b q m 258 0; unfold alikeN; omega
        have hnx := prevP_in b q
        have He1 := Lib.hid he1
        clear he1 he
        generalize alikeN b q m = z at *
        go_wp2_with fail
        refine (Ha.out _ hb _ inferInstance Bw (ho.foc (Fd p (.slice A b.length c) gm gb k b (m + 1)))).mono ?_
        rintro e w4 ⟨rfl, o4, b4⟩
        have B4 := Nat.le_trans Bw b4.size
        have hb4 := hb.trans b4
        have o5 := o4.foc (Bk (X0 + 1) 39 #[.int .u8 0, .int .i64 (n : Int), .int .i64 (d : Int)])
        rw [fd_eq] at o5
        have q0 : w4.cell? ⟨X0 + 1, 0, none⟩ = some (.int .u8 0) := o5.cellOf (X0 + 1) 0
        have q1 : w4.cell? ⟨X0 + 1, 1, none⟩ = some (.int .i64 (n : Int)) := o5.cellOf (X0 + 1) 1
        have q2 : w4.cell? ⟨X0 + 1, 2, none⟩ = some (.int .i64 (d : Int)) := o5.cellOf (X0 + 1) 2
        have hqm : q < m := by omega
        have mqi : (m : Int) - (q : Int) ≤ 65536 := by omega
        have mq0 : 0 ≤ (m : Int) - (q : Int) := by omega
        have hql : (q : Int) < (b.length : Int) := by omega
        have hnl := (backsAt_get b (m + 1) q (by omega) (by omega))
        have c2 : w4.cell? ⟨p, 2, none⟩ = some (.slice (some ⟨gb, 0, none⟩) b.length b.length) := o5.cellOf p 2
        have cg : w4.cell? ⟨gb, q, none⟩ = some (.int .i64 (prevP b q)) := (o5.cellOf gb q).trans ((intsV_get _ _ (by rw [backsAt_len]; omega)).trans (by rw [hnl]))
        by_cases hnz : (n : Int) < (z : Int)
        · have y0 := o5.freeOf (X0 + 1) 0
          have y1 := o5.freeOf (X0 + 1) 1
          have y2 := o5.freeOf (X0 + 1) 2
          by_cases hz : (z : Int) = 258
          · have he2 := He1.out
            rw [if_pos (show n < z by omega), if_pos (by omega)] at he2
            obtain ⟨e1, e2⟩ := Prod.mk.inj he2
            have En : Hid ((258 : Int) = (rn : Int)) := Lib.hid (by omega)
            have Ed : Hid ((m : Int) - (q : Int) = (rd : Int)) := Lib.hid (by omega)
            obtain ⟨o6, b6⟩ := o5.set3 B4 (.int .u8 0) (.int .i64 258) (.int .i64 ((m : Int) - (q : Int)))
            have B6 := Nat.le_trans B4 b6.size
            have hb6 := hb4.trans b6
            rw [← fd_eq] at o6
            clear he2 e1 e2 He1 Ha c2 cg hnl hnx
            have q0 : (((w4.setCell ⟨X0 + 1, 0, none⟩ (.int .u8 0)).setCell ⟨X0 + 1, 1, none⟩ (.int .i64 258)).setCell ⟨X0 + 1, 2, none⟩ (.int .i64 ((m : Int) - (q : Int)))).cell? ⟨X0 + 1, 0, none⟩ = some (.int .u8 0) := o6.cellOf (X0 + 1) 0
            have q1 : (((w4.setCell ⟨X0 + 1, 0, none⟩ (.int .u8 0)).setCell ⟨X0 + 1, 1, none⟩ (.int .i64 258)).setCell ⟨X0 + 1, 2, none⟩ (.int .i64 ((m : Int) - (q : Int)))).cell? ⟨X0 + 1, 1, none⟩ = some (.int .i64 258) := o6.cellOf (X0 + 1) 1
            have q2 : (((w4.setCell ⟨X0 + 1, 0, none⟩ (.int .u8 0)).setCell ⟨X0 + 1, 1, none⟩ (.int .i64 258)).setCell ⟨X0 + 1, 2, none⟩ (.int .i64 ((m : Int) - (q : Int)))).cell? ⟨X0 + 1, 2, none⟩ = some (.int .i64 ((m : Int) - (q : Int))) := o6.cellOf (X0 + 1) 2
            have p0 : (((w4.setCell ⟨X0 + 1, 0, none⟩ (.int .u8 0)).setCell ⟨X0 + 1, 1, none⟩ (.int .i64 258)).setCell ⟨X0 + 1, 2, none⟩ (.int .i64 ((m : Int) - (q : Int)))).cell? ⟨X0, 0, none⟩ = some (.int .u8 0) := o6.cellOf X0 0
            have p1 : (((w4.setCell ⟨X0 + 1, 0, none⟩ (.int .u8 0)).setCell ⟨X0 + 1, 1, none⟩ (.int .i64 258)).setCell ⟨X0 + 1, 2, none⟩ (.int .i64 ((m : Int) - (q : Int)))).cell? ⟨X0, 1, none⟩ = some (.int .i64 0) := o6.cellOf X0 1
            have p2 : (((w4.setCell ⟨X0 + 1, 0, none⟩ (.int .u8 0)).setCell ⟨X0 + 1, 1, none⟩ (.int .i64 258)).setCell ⟨X0 + 1, 2, none⟩ (.int .i64 ((m : Int) - (q : Int)))).cell? ⟨X0, 2, none⟩ = some (.int .i64 0) := o6.cellOf X0 2
            have v0 := o6.freeOf X0 0
            have v1 := o6.freeOf X0 1
            have v2 := o6.freeOf X0 2
            obtain ⟨os, bs⟩ := (o6.foc (Bk X0 39 #[.int .u8 0, .int .i64 0, .int .i64 0])).set3 B6 (.int .u8 0) (.int .i64 258) (.int .i64 ((m : Int) - (q : Int)))
            go_wp2
            refine bodyPost_ret (results_cell_row rfl _ _ X0 39 #[.int .u8 0, .int .i64 258, .int .i64 ((m : Int) - (q : Int))] (0, 0) _ rfl os.bk.1 Try.underlying39 rfl (by kernel_rfl)) rfl ?_
            exact ⟨by rw [← En.out, ← Ed.out], os.right.right, (hb6).trans bs⟩
          · have hzb : ((z : Int) == 258) = false := by rw [beq_eq_false_iff_ne]; omega
            have He2 := Lib.hid (He1.out)
            rw [if_pos (show n < z by omega), if_neg (by omega)] at He2
            obtain ⟨o6, b6⟩ := o5.set3 B4 (.int .u8 0) (.int .i64 (z : Int)) (.int .i64 ((m : Int) - (q : Int)))
            have B6 := Nat.le_trans B4 b6.size
            have hb6 := hb4.trans b6
            have c3 : (((w4.setCell ⟨X0 + 1, 0, none⟩ (.int .u8 0)).setCell ⟨X0 + 1, 1, none⟩ (.int .i64 (z : Int))).setCell ⟨X0 + 1, 2, none⟩ (.int .i64 ((m : Int) - (q : Int)))).cell? ⟨p, 2, none⟩ = some (.slice (some ⟨gb, 0, none⟩) b.length b.length) := o6.cellOf p 2
            have cg3 : (((w4.setCell ⟨X0 + 1, 0, none⟩ (.int .u8 0)).setCell ⟨X0 + 1, 1, none⟩ (.int .i64 (z : Int))).setCell ⟨X0 + 1, 2, none⟩ (.int .i64 ((m : Int) - (q : Int)))).cell? ⟨gb, q, none⟩ = some (.int .i64 (prevP b q)) := (o6.cellOf gb q).trans ((intsV_get _ _ (by rw [backsAt_len]; omega)).trans (by rw [hnl]))
            rw [← fd_eq] at o6
            have eqd : ((m - q : Nat) : Int) = (m : Int) - (q : Int) := by omega
            have O6 : Hid (Own B (Bk (X0 + 1) 39 #[.int .u8 0, .int .i64 (z : Int), .int .i64 ((m - q : Nat) : Int)] * (Bk X0 39 #[.int .u8 0, .int .i64 0, .int .i64 0] * (Fd p (.slice A b.length c) gm gb k b (m + 1) * R))) (((w4.setCell ⟨X0 + 1, 0, none⟩ (.int .u8 0)).setCell ⟨X0 + 1, 1, none⟩ (.int .i64 (z : Int))).setCell ⟨X0 + 1, 2, none⟩ (.int .i64 ((m : Int) - (q : Int))))) := Lib.hid (by
              rw [eqd]
              exact o6.cast (by ac_rfl))
            have He3 := Lib.hid He2
            clear He1 He2 Ha c2 cg hnl o6 eqd
            generalize prevP b q = nx at *
            go_wp2
            go_roundg j
            case measure => omega
            case rel => exact ⟨nx, z, m - q, rfl, by omega, by omega, by omega, hal, He3.out, hb6, O6.out⟩
        · have hnz2 : ¬ n < z := by omega
          have He2 := Lib.hid (He1.out)
          rw [if_neg hnz2] at He2
          rw [← fd_eq] at o5
          clear He1 Ha hnl
          generalize prevP b q = nx at *
          go_wp2
          go_roundg j
          case measure => omega
          case rel => exact ⟨nx, n, d, rfl, by omega, by omega, by omega, hn, He2, hb4, o5.cast (by ac_rfl)⟩
      · have he1 := he.out
        have he2 : (n, d) = (rn, rd) := by
          cases gk with
          | zero => exact he1
          | succ j => rw [bst, if_neg (by omega)] at he1; exact he1
        obtain ⟨e1, e2⟩ := Prod.mk.inj he2
        have En : Hid ((n : Int) = (rn : Int)) := Lib.hid (by omega)
        have Ed : Hid ((d : Int) = (rd : Int)) := Lib.hid (by omega)
        have hwd : decide ((m : Int) - cc ≤ win) = false := decide_eq_false hwin
        clear he1 he2 e1 e2 he
        have q0 : wr.cell? ⟨X0 + 1, 0, none⟩ = some (.int .u8 0) := ho.cellOf (X0 + 1) 0
        have q1 : wr.cell? ⟨X0 + 1, 1, none⟩ = some (.int .i64 (n : Int)) := ho.cellOf (X0 + 1) 1
        have q2 : wr.cell? ⟨X0 + 1, 2, none⟩ = some (.int .i64 (d : Int)) := ho.cellOf (X0 + 1) 2
        have p0 : wr.cell? ⟨X0, 0, none⟩ = some (.int .u8 0) := ho.cellOf X0 0
        have p1 : wr.cell? ⟨X0, 1, none⟩ = some (.int .i64 0) := ho.cellOf X0 1
        have p2 : wr.cell? ⟨X0, 2, none⟩ = some (.int .i64 0) := ho.cellOf X0 2
        have v0 := ho.freeOf X0 0
        have v1 := ho.freeOf X0 1
        have v2 := ho.freeOf X0 2
        obtain ⟨os, bs⟩ := (ho.foc (Bk X0 39 #[.int .u8 0, .int .i64 0, .int .i64 0])).set3 Bw (.int .u8 0) (.int .i64 (n : Int)) (.int .i64 (d : Int))
        go_wp2
        refine bodyPost_ret (results_cell_row rfl _ _ X0 39 #[.int .u8 0, .int .i64 (n : Int), .int .i64 (d : Int)] (0, 0) _ rfl os.bk.1 Try.underlying39 rfl (by kernel_rfl)) rfl ?_
        exact ⟨by rw [← En.out, ← Ed.out], os.right.right, (hb).trans bs⟩
    · have he1 := he.out
      have he2 : (n, d) = (rn, rd) := by
        cases gk with
        | zero => exact he1
        | succ j => rw [bst, if_neg (by omega)] at he1; exact he1
      obtain ⟨e1, e2⟩ := Prod.mk.inj he2
      have En : Hid ((n : Int) = (rn : Int)) := Lib.hid (by omega)
      have Ed : Hid ((d : Int) = (rd : Int)) := Lib.hid (by omega)
      have hwd : decide (0 ≤ cc) = false := decide_eq_false hc0
      clear he1 he2 e1 e2 he
      have q0 : wr.cell? ⟨X0 + 1, 0, none⟩ = some (.int .u8 0) := ho.cellOf (X0 + 1) 0
      have q1 : wr.cell? ⟨X0 + 1, 1, none⟩ = some (.int .i64 (n : Int)) := ho.cellOf (X0 + 1) 1
      have q2 : wr.cell? ⟨X0 + 1, 2, none⟩ = some (.int .i64 (d : Int)) := ho.cellOf (X0 + 1) 2
      have p0 : wr.cell? ⟨X0, 0, none⟩ = some (.int .u8 0) := ho.cellOf X0 0
      have p1 : wr.cell? ⟨X0, 1, none⟩ = some (.int .i64 0) := ho.cellOf X0 1
      have p2 : wr.cell? ⟨X0, 2, none⟩ = some (.int .i64 0) := ho.cellOf X0 2
      have v0 := ho.freeOf X0 0
      have v1 := ho.freeOf X0 1
      have v2 := ho.freeOf X0 2
      obtain ⟨os, bs⟩ := (ho.foc (Bk X0 39 #[.int .u8 0, .int .i64 0, .int .i64 0])).set3 Bw (.int .u8 0) (.int .i64 (n : Int)) (.int .i64 (d : Int))
      go_wp2
      refine bodyPost_ret (results_cell_row rfl _ _ X0 39 #[.int .u8 0, .int .i64 (n : Int), .int .i64 (d : Int)] (0, 0) _ rfl os.bk.1 Try.underlying39 rfl (by kernel_rfl)) rfl ?_
      exact ⟨by rw [← En.out, ← Ed.out], os.right.right, (hb).trans bs⟩
end Go.Proofs.Ytedcficjmogohaa
