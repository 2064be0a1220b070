/- The walk over Tree of package coder's writer. -/
import Derived.Test.YtnoofgcjhoiboaaCw5
namespace Go.Proofs.Ytnoofgcjhoiboaa
set_option linter.unusedVariables false
set_option linter.unusedSimpArgs false
open Go.RowKit

/-- Chances, as what is kept of each (how likely 0 is, less half). -/
def chV (cl : List Int) : Array Value := (cl.map (Value.int .i64)).toArray
def chOk (cl : List Int) : Prop := ∀ n ∈ cl, -993 ≤ n ∧ n ≤ 993
theorem chV_get (cl : List Int) (i : Nat) (h : i < cl.length) : (chV cl)[i]? = some (.int .i64 (cl.getD i 0)) := by
  simp [chV, h]
theorem chV_set (cl : List Int) (i : Nat) (x : Int) : (chV cl).setIfInBounds i (.int .i64 x) = chV (cl.set i x) := by
  simp [chV, List.map_set]
theorem chV_size (cl : List Int) : (chV cl).size = cl.length := by simp [chV]
theorem sawN_ok (n bit : Int) (h : -993 ≤ n ∧ n ≤ 993) : -993 ≤ sawN n bit ∧ sawN n bit ≤ 993 := by
  unfold sawN; split <;> omega
theorem chOk_get {cl : List Int} (h : chOk cl) (i : Nat) : -993 ≤ cl.getD i 0 ∧ cl.getD i 0 ≤ 993 := by
  rw [List.getD_eq_getElem?_getD]
  cases hi : cl[i]? with
  | none => simp
  | some x => exact h x (List.mem_of_getElem? hi)
theorem chOk_set {cl : List Int} (h : chOk cl) (i : Nat) (x : Int) (hx : -993 ≤ x ∧ x ≤ 993) : chOk (cl.set i x) := fun n hn => by
  rcases List.mem_or_eq_of_mem_set hn with h1 | h1
  · exact h n h1
  · rw [h1]; exact hx

def bitBound (s : WS) (n : Int) : Int := s.width / 2048 * (n + 1024)
theorem bitBound_in {s : WS} {n : Int} {r : Int} (h : s.live r) (hn : -993 ≤ n ∧ n ≤ 993) : 65536 ≤ bitBound s n ∧ bitBound s n + 65536 ≤ s.width := by
  have hw := h.wide
  have hw1 := h.ok.width1
  have q0 : 8192 ≤ s.width / 2048 := by omega
  have q1 : s.width / 2048 < 2097152 := by omega
  unfold bitBound
  constructor
  · have := Int.mul_le_mul q0 (show 31 ≤ n + 1024 by omega) (by omega) (by omega); omega
  · have : s.width / 2048 * (n + 1024) ≤ s.width / 2048 * 2017 := Int.mul_le_mul_of_nonneg_left (by omega) (by omega)
    omega
theorem bit_any (p g off : Nat) (s : WS) (cl : List Int) (bit : Int) {r : Int} (hr : 0 ≤ r) (B : Nat) (R : HP) [Loc B R] (w : World) (hB : B ≤ w.heap.size) (hl : s.live (r + 1)) (hc : chOk cl) (hoff : off < cl.length)
    (hO : Own B (Wr p s * (Bk g 27 (chV cl) * R)) w) :
    Calls Try.prog 13 #[.pointer (some ⟨p, 0, none⟩), .pointer (some ⟨g, off, none⟩), .int .i64 bit] w
      (Ret B w (.tuple #[]) (Wr p (putS s (bitBound s (cl.getD off 0)) bit) * (Bk g 27 (chV (cl.set off (sawN (cl.getD off 0) bit))) * R))) := by
  have h := bit_live p g off s (chV cl) (cl.getD off 0) bit B R w hB hl.ok hl.dn hO (chV_get cl off hoff) (chOk_get hc off).1 (chOk_get hc off).2 hl.wide hl.sum (by have := hl.room; omega)
  rw [chV_set] at h
  exact h

/-- Bits put, each of the chance at a place by what was ahead. -/
def treeS (s : WS) (cl : List Int) (at_ : Nat) : List Int → WS × List Int
  | [] => (s, cl)
  | b :: l => treeS (putS s (bitBound s (cl.getD at_ 0)) b) (cl.set at_ (sawN (cl.getD at_ 0) b)) (2 * at_ + b.toNat) l

theorem bitOf_01 (n : Int) (k : Nat) : bitOf n k = 0 ∨ bitOf n k = 1 := by unfold bitOf; generalize n / 2 ^ k = x; omega
theorem i64_or_bit (a : Nat) (b : Int) (ha : a < 1000000) (hb : b = 0 ∨ b = 1) : bits .or .i64 ((a : Int) * 2) b = ((2 * a + b.toNat : Nat) : Int) := by
  have e : (a : Int) * 2 = ((2 * a : Nat) : Int) := by omega
  have h : ∀ c : Nat, c < 2 → bits .or .i64 ((2 * a : Nat) : Int) (c : Int) = ((2 * a + c : Nat) : Int) := by
    intro c hc
    show IntKind.i64.wrap ((BitVec.ofInt 64 ((2 * a : Nat) : Int) ||| BitVec.ofInt 64 (c : Int)).toNat : Int) = _
    rw [BitVec.toNat_or, BitVec.toNat_ofInt, BitVec.toNat_ofInt, IntKind.wrap_i64, show ((((2 * a : Nat) : Int) % ((2 ^ 64 : Nat) : Int)).toNat) = 2 * a by omega, show (((c : Int) % ((2 ^ 64 : Nat) : Int)).toNat) = c by omega,
      show (2 * a) ||| c = 2 * a + c by
        have h2 := Nat.two_pow_add_eq_or_of_lt (i := 1) (b := c) (by omega) a
        rw [Nat.pow_one] at h2
        exact h2.symm]
    omega
  rw [e]
  rcases hb with rfl | rfl
  · exact h 0 (by omega)
  · exact h 1 (by omega)

set_option maxHeartbeats 1600000 in
theorem tree_live (p g : Nat) (s : WS) (cl : List Int) (n : Int) (m : Nat) (hm : m ≤ 16) (hlen : 2 ^ m ≤ cl.length) (hlm : cl.length ≤ 131072) (n0 : -9223372036854775808 ≤ n) (n1 : n ≤ 9223372036854775807) (r : Int) (hr : 0 ≤ r) (B : Nat) (R : HP) [Loc B R] (w : World) (hB : B ≤ w.heap.size)
    (hl : s.live (r + m)) (hc : chOk cl) (hO : Own B (Wr p s * (Bk g 27 (chV cl) * R)) w) (cap : Nat) :
    Calls Try.prog 21 #[.pointer (some ⟨p, 0, none⟩), .slice (some ⟨g, 0, none⟩) cl.length cap, .int .i64 n, .int .i64 (m : Int)] w
      (Ret B w (.tuple #[]) (Wr p (treeS s cl 1 (bitsOf n m)).1 * (Bk g 27 (chV (treeS s cl 1 (bitsOf n m)).2) * R))) := by
  have Hc := Lib.hid hc
  have Hl0 := Lib.hid hl
  have hpow : (2 : Int) ^ m ≤ (cl.length : Int) := by exact_mod_cast hlen
  have hpow1 : (1 : Int) ≤ 2 ^ m := by have := Nat.one_le_two_pow (n := m); exact_mod_cast this
  have hlm' : (cl.length : Int) ≤ 131072 := by omega
  clear hc hl hlen
  go_enter Try.func21, Try.ntmps21
  go_wp2
  go_loopg [8, 9] m (fun k a i wr => ∃ (s' : WS) (cl' : List Int) (at_ : Nat), a = .int .i64 (at_ : Int) ∧ i = .int .i64 ((k : Int) - 1) ∧ k ≤ m ∧ at_ < 2 ^ (m - k + 1) ∧ cl'.length = cl.length ∧ Own B (Wr p s' * (Bk g 27 (chV cl') * R)) wr ∧ Below B w wr ∧ s'.live (r + k) ∧ chOk cl' ∧
    Hid (treeS s cl 1 (bitsOf n m) = treeS s' cl' at_ (bitsOf n k)))
  case atStart => exact ⟨s, cl, 1, rfl, rfl, Nat.le_refl _, by rw [Nat.sub_self]; decide, rfl, hO, Below.refl _ _, Hl0.out, Hc.out, rfl⟩
  case round =>
    obtain ⟨s', cl', at_, rfl, rfl, hk, ha, hcl, ho, hbb, hl', hc', he⟩ := hrel
    have Bw : B ≤ wr.heap.size := Nat.le_trans hB hbb.size
    by_cases hk0 : gk = 0
    · subst hk0
      go_wp2
      go_end0
      rw [he.out]
      exact ⟨rfl, ho, hbb⟩
    · obtain ⟨j, rfl⟩ : ∃ j, gk = j + 1 := ⟨gk - 1, by omega⟩
      have hat : at_ < cl.length := by
        have : 2 ^ (m - (j + 1) + 1) ≤ 2 ^ m := Nat.pow_le_pow_right (by omega) (by omega)
        have : 2 ^ m ≤ cl.length := by exact_mod_cast hpow
        omega
      have Hl := Lib.hid hl'
      have Hc2 := Lib.hid hc'
      have Ha := Lib.hid ha
      have Hcl := Lib.hid hcl
      clear hl' hc' ha hcl
      have j0 : (0 : Int) ≤ (j : Int) := by omega
      have j1 : (j : Int) ≤ 15 := by omega
      have a0 : (0 : Int) ≤ (at_ : Int) := by omega
      have a1 : (at_ : Int) < (cl.length : Int) := by omega
      have hbit : bits .and .i64 (n / 2 ^ j) 1 = bitOf n j := i64_and_one _
      have hor : bits .or .i64 ((at_ : Int) * 2) (bitOf n j) = ((2 * at_ + (bitOf n j).toNat : Nat) : Int) := i64_or_bit at_ _ (by omega) (bitOf_01 n j)
      have e1 : ((j + 1 : Nat) : Int) - 1 = (j : Int) := by omega
      rw [e1]
      clear e1
      go_wp2_with (go_at_call 13; refine (bit_any p g at_ s' cl' (bitOf n j) (r := r + j) (by omega) B R wr Bw (Hl.out.less (by omega)) Hc2.out (by rw [Hcl.out]; exact hat) ho).mono ?_; rintro e w4 ⟨rfl, o4, b4⟩)
      go_roundg j
      case measure => omega
      case rel =>
        refine ⟨_, _, 2 * at_ + (bitOf n j).toNat, congrArg (Value.int .i64) (by omega), rfl, by omega, ?_, by rw [List.length_set]; exact Hcl.out, o4, hbb.trans b4, putS_live _ (by omega) (Hl.out.less (by omega)) (bitBound_in Hl.out (chOk_get Hc2.out at_)).1 (bitBound_in Hl.out (chOk_get Hc2.out at_)).2, chOk_set Hc2.out _ _ (sawN_ok _ _ (chOk_get Hc2.out at_)), by rw [he.out, bitsOf_succ]; rfl⟩
        have h1 := Ha.out
        have h2 := bitOf_01 n j
        rw [show m - j + 1 = (m - (j + 1) + 1) + 1 by omega, Nat.pow_succ]
        omega

theorem tree_nil (A : Option Addr) (len cap : Nat) (n bits : Int) (w : World) :
    Calls Try.prog 21 #[.pointer none, .slice A len cap, .int .i64 n, .int .i64 bits] w fun e w' => e = .returned (.tuple #[]) ∧ w = w' := by
  go_enter Try.func21, Try.ntmps21
  go_wp2
  refine bodyPost_ret (results_none rfl _ _ _) rfl ?_
  exact ⟨rfl, rfl⟩
theorem tree_short (p : Nat) (A : Option Addr) (len cap m : Nat) (n : Int) (hm : m ≤ 16) (hlen : len < 2 ^ m) (w : World) :
    Calls Try.prog 21 #[.pointer (some ⟨p, 0, none⟩), .slice A len cap, .int .i64 n, .int .i64 (m : Int)] w fun e w' => e = .returned (.tuple #[]) ∧ w = w' := by
  have hpow : (len : Int) < (2 : Int) ^ m := by exact_mod_cast hlen
  have hpow1 : (1 : Int) ≤ 2 ^ m := by have := Nat.one_le_two_pow (n := m); exact_mod_cast this
  have e2 : ((2 ^ m : Nat) : Int) = (2 : Int) ^ m := by simp
  have h2 : 2 ^ m ≤ 65536 := Nat.le_trans (Nat.pow_le_pow_right (by omega) hm) (by decide)
  have hpow2 : (2 : Int) ^ m ≤ 65536 := by rw [← e2]; omega
  clear e2 h2
  go_enter Try.func21, Try.ntmps21
  go_wp2
  refine bodyPost_ret (results_none rfl _ _ _) rfl ?_
  exact ⟨rfl, rfl⟩
end Go.Proofs.Ytnoofgcjhoiboaa
