/- The walks over Even and Tree of package coder's reader. -/
import Derived.Test.YtnoofgcjhoiboaaCr3
namespace Go.Proofs.Ytnoofgcjhoiboaa
set_option linter.unusedVariables false
set_option linter.unusedSimpArgs false
open Go.RowKit

theorem takeBit_01 (s : RS) (b : Int) : takeBit s b = 0 ∨ takeBit s b = 1 := by unfold takeBit; split <;> simp
theorem i64_or_bit2 (a : Nat) (b : Int) (ha : a < 1099511627776) (hb : b = 0 ∨ b = 1) : bits .or .i64 ((a : Int) * 2) b = ((2 * a + b.toNat : Nat) : Int) := by
  have e : (a : Int) * 2 = ((2 * a : Nat) : Int) := by omega
  have h : ∀ c : Nat, c < 2 → bits .or .i64 ((2 * a : Nat) : Int) (c : Int) = ((2 * a + c : Nat) : Int) := by
    intro c hc
    show IntKind.i64.wrap ((BitVec.ofInt 64 ((2 * a : Nat) : Int) ||| BitVec.ofInt 64 (c : Int)).toNat : Int) = _
    rw [BitVec.toNat_or, BitVec.toNat_ofInt, BitVec.toNat_ofInt, IntKind.wrap_i64, show ((((2 * a : Nat) : Int) % ((2 ^ 64 : Nat) : Int)).toNat) = 2 * a by omega, show (((c : Int) % ((2 ^ 64 : Nat) : Int)).toNat) = c by omega,
      show (2 * a) ||| c = 2 * a + c by
        have h2 := Nat.two_pow_add_eq_or_of_lt (i := 1) (b := c) (by omega) a
        rw [Nat.pow_one] at h2
        exact h2.symm]
    omega
  rw [e]
  rcases hb with rfl | rfl
  · exact h 0 (by omega)
  · exact h 1 (by omega)

def rEven : Nat → RS → Nat → Nat × RS
  | 0, s, a => (a, s)
  | k + 1, s, a => rEven k (takeS s (s.width / 2)) (2 * a + (takeBit s (s.width / 2)).toNat)
def rTree : Nat → RS → List Int → Nat → Nat × RS × List Int
  | 0, s, cl, a => (a, s, cl)
  | k + 1, s, cl, a => rTree k (takeS s (rBound s (cl.getD a 0))) (cl.set a (sawN (cl.getD a 0) (takeBit s (rBound s (cl.getD a 0))))) (2 * a + (takeBit s (rBound s (cl.getD a 0))).toNat)

def evenRes (m : Nat) (s : RS) : Int := ((rEven m s 0).1 : Int)
def treeRes (m : Nat) (s : RS) (cl : List Int) : Int := ((rTree m s cl 1).1 : Int) - 2 ^ m

set_option maxHeartbeats 800000 in
set_option maxRecDepth 100000 in
theorem reven_any (p : Nat) (s : RS) (m : Nat) (hm : m ≤ 32) (B : Nat) (R : HP) [Loc B R] (w : World) (hB : B ≤ w.heap.size) (hl : s.live) (hO : Own B (Re p s * R) w) :
    Calls Try.prog 26 #[.pointer (some ⟨p, 0, none⟩), .int .i64 (m : Int)] w (Ret B w (.int .i64 (evenRes m s)) (Re p (rEven m s 0).2 * R)) := by
  have Hl := Lib.hid hl
  clear hl
  have h0 : ¬ (m : Int) < 0 := by omega
  go_enter Try.func26, Try.ntmps26
  go_wp2
  go_loopg [5, 14] m (fun k a i wr => ∃ (s' : RS) (x : Nat), a = .int .i64 (x : Int) ∧ k ≤ m ∧ i = .int .i64 ((m : Int) - (k : Int)) ∧ x < 2 ^ (m - k) ∧ Own B (Re p s' * R) wr ∧ Below B w wr ∧ s'.live ∧ Hid (rEven m s 0 = rEven k s' x))
  case atStart => exact ⟨s, 0, rfl, Nat.le_refl _, congrArg (Value.int .i64) (by omega), by rw [Nat.sub_self]; decide, hO, Below.refl _ _, Hl.out, rfl⟩
  case round =>
    obtain ⟨s', x, rfl, hk, rfl, hx, ho, hbb, hl', he⟩ := hrel
    have Bw : B ≤ wr.heap.size := Nat.le_trans hB hbb.size
    have Hl2 := Lib.hid hl'
    have Hx := Lib.hid hx
    clear hx hl'
    by_cases hk0 : gk = 0
    · subst hk0
      go_wp2
      go_ret
      rw [evenRes, he.out]
      exact ⟨rfl, ho, hbb⟩
    · obtain ⟨j, rfl⟩ : ∃ j, gk = j + 1 := ⟨gk - 1, by omega⟩
      have x0 : (x : Int) < 4294967296 := by
        have h1 := Hx.out
        have h2 : 2 ^ (m - (j + 1)) ≤ 4294967296 := Nat.le_trans (Nat.pow_le_pow_right (by omega) (show m - (j + 1) ≤ 32 by omega)) (by decide)
        omega
      have Hz : Hid (65536 ≤ s'.width / 2 ∧ s'.width / 2 + 65536 ≤ s'.width) := by have := Hl2.out.wide; exact ⟨by omega, by omega⟩
      have hrb := take_any p s' (s'.width / 2) B R wr Bw Hl2.out.ok ho Hz.out.1 Hz.out.2
      obtain ⟨tb, htb⟩ : ∃ tb, tb = takeBit s' (s'.width / 2) := ⟨_, rfl⟩
      rw [← htb] at hrb
      have htb1 : tb = 0 ∨ tb = 1 := by rw [htb]; exact takeBit_01 _ _
      have hor := i64_or_bit2 x tb (by omega) htb1
      obtain ⟨X, hX⟩ : ∃ X : Int, X = (x : Int) := ⟨_, rfl⟩
      have hor2 : bits .or .i64 (X * 2) tb = 2 * X + tb := by rw [hX, hor]; omega
      have x1 : 0 ≤ X := by omega
      rw [← hX] at x0 ⊢
      have HX := Lib.hid hX
      clear hor hX
      have Htb := Lib.hid htb
      have Htb1 := Lib.hid htb1
      clear htb htb1
      obtain ⟨v, hV⟩ := ho.hex
      have hV := hV.assoc
      have c2 : wr.cell? ⟨p, 2, none⟩ = some (.int .u64 s'.width) := hV.cell 2
      have w0 : 0 ≤ s'.width := Hl2.out.ok.width0
      have w1 : s'.width < 4294967296 := Hl2.out.ok.width1
      go_wp2_with (go_at_call 36; refine hrb.mono ?_; rintro e w4 ⟨rfl, o4, b4⟩)
      go_roundg j
      case measure => omega
      case rel =>
        have h2 := Htb1.out
        have hX := HX.out
        refine ⟨_, 2 * x + tb.toNat, congrArg (Value.int .i64) (by omega), by omega, congrArg (Value.int .i64) (by omega), ?_, o4, hbb.trans b4, takeS_live Hl2.out Hz.out.1 Hz.out.2, by rw [he.out, Htb.out]; rfl⟩
        have h1 := Hx.out
        rw [show m - j = (m - (j + 1)) + 1 by omega, Nat.pow_succ]
        omega

theorem reven_nil (bits : Int) (w : World) : Calls Try.prog 26 #[.pointer none, .int .i64 bits] w fun e w' => e = .returned (.int .i64 0) ∧ w = w' := by
  go_enter Try.func26, Try.ntmps26
  go_wp2
  go_ret
  exact ⟨rfl, rfl⟩
theorem rtree_nil (A : Option Addr) (len cap : Nat) (bits : Int) (w : World) : Calls Try.prog 25 #[.pointer none, .slice A len cap, .int .i64 bits] w fun e w' => e = .returned (.int .i64 0) ∧ w = w' := by
  go_enter Try.func25, Try.ntmps25
  go_wp2
  go_ret
  exact ⟨rfl, rfl⟩

theorem rTree_ge : ∀ (k : Nat) (s : RS) (cl : List Int) (a : Nat), a * 2 ^ k ≤ (rTree k s cl a).1 ∧ (rTree k s cl a).1 < (a + 1) * 2 ^ k
  | 0, s, cl, a => by simp [rTree]
  | k + 1, s, cl, a => by
    have ih := rTree_ge k (takeS s (rBound s (cl.getD a 0))) (cl.set a (sawN (cl.getD a 0) (takeBit s (rBound s (cl.getD a 0))))) (2 * a + (takeBit s (rBound s (cl.getD a 0))).toNat)
    have h1 := takeBit_01 s (rBound s (cl.getD a 0))
    have h2 : (takeBit s (rBound s (cl.getD a 0))).toNat ≤ 1 := by omega
    have e1 : a * 2 ^ (k + 1) = (2 * a) * 2 ^ k := by rw [Nat.pow_succ, Nat.mul_comm 2 a, Nat.mul_assoc, Nat.mul_comm 2 (2 ^ k)]
    have e2 : (a + 1) * 2 ^ (k + 1) = (2 * a + 2) * 2 ^ k := by rw [Nat.pow_succ, show 2 * a + 2 = (a + 1) * 2 by omega, Nat.mul_assoc, Nat.mul_comm 2 (2 ^ k)]
    show a * 2 ^ (k + 1) ≤ (rTree k _ _ _).1 ∧ (rTree k _ _ _).1 < (a + 1) * 2 ^ (k + 1)
    rw [e1, e2]
    exact ⟨Nat.le_trans (Nat.mul_le_mul_right _ (by omega)) ih.1, Nat.lt_of_lt_of_le ih.2 (Nat.mul_le_mul_right _ (by omega))⟩

set_option maxHeartbeats 1600000 in
set_option maxRecDepth 100000 in
theorem rtree_any (p g : Nat) (s : RS) (cl : List Int) (m : Nat) (hm : m ≤ 16) (hlen : 2 ^ m ≤ cl.length) (hlm : cl.length ≤ 131072) (B : Nat) (R : HP) [Loc B R] (w : World) (hB : B ≤ w.heap.size) (hl : s.live) (hc : chOk cl) (hO : Own B (Re p s * (Bk g 27 (chV cl) * R)) w) (cap : Nat) :
    Calls Try.prog 25 #[.pointer (some ⟨p, 0, none⟩), .slice (some ⟨g, 0, none⟩) cl.length cap, .int .i64 (m : Int)] w
      (Ret B w (.int .i64 (treeRes m s cl)) (Re p (rTree m s cl 1).2.1 * (Bk g 27 (chV (rTree m s cl 1).2.2) * R))) := by
  have Hl := Lib.hid hl
  have Hc := Lib.hid hc
  have hpow : (2 : Int) ^ m ≤ (cl.length : Int) := by exact_mod_cast hlen
  have hpow1 : (1 : Int) ≤ 2 ^ m := by have := Nat.one_le_two_pow (n := m); exact_mod_cast this
  have hlm' : (cl.length : Int) ≤ 131072 := by omega
  have h0 : ¬ (m : Int) < 0 := by omega
  clear hl hc hlen
  go_enter Try.func25, Try.ntmps25
  go_wp2
  go_loopg [7, 26] m (fun k a i wr => ∃ (s' : RS) (cl' : List Int) (x : Nat), a = .int .i64 (x : Int) ∧ k ≤ m ∧ i = .int .i64 ((m : Int) - (k : Int)) ∧ x < 2 ^ (m - k + 1) ∧ cl'.length = cl.length ∧ Own B (Re p s' * (Bk g 27 (chV cl') * R)) wr ∧ Below B w wr ∧ s'.live ∧ chOk cl' ∧ Hid (rTree m s cl 1 = rTree k s' cl' x))
  case atStart => exact ⟨s, cl, 1, rfl, Nat.le_refl _, congrArg (Value.int .i64) (by omega), by rw [Nat.sub_self]; decide, rfl, hO, Below.refl _ _, Hl.out, Hc.out, rfl⟩
  case round =>
    obtain ⟨s', cl', x, rfl, hk, rfl, hx, hcl, ho, hbb, hl', hc', he⟩ := hrel
    have Bw : B ≤ wr.heap.size := Nat.le_trans hB hbb.size
    have Hl2 := Lib.hid hl'
    have Hc2 := Lib.hid hc'
    have Hx := Lib.hid hx
    have Hcl := Lib.hid hcl
    clear hx hl' hc' hcl
    by_cases hk0 : gk = 0
    · subst hk0
      have x1 : (x : Int) < 262144 := by
        have h1 := Hx.out
        rw [Nat.sub_zero, Nat.pow_succ] at h1
        have : 2 ^ m ≤ cl.length := by exact_mod_cast hpow
        omega
      go_wp2
      go_ret
      rw [treeRes, he.out]
      exact ⟨rfl, ho, hbb⟩
    · obtain ⟨j, rfl⟩ : ∃ j, gk = j + 1 := ⟨gk - 1, by omega⟩
      have hat : x < cl.length := by
        have h1 := Hx.out
        have : 2 ^ (m - (j + 1) + 1) ≤ 2 ^ m := Nat.pow_le_pow_right (by omega) (by omega)
        have : 2 ^ m ≤ cl.length := by exact_mod_cast hpow
        omega
      have a0 : (0 : Int) ≤ (x : Int) := by omega
      have a1 : (x : Int) < (cl.length : Int) := by omega
      have hrb := rbit_any p g x s' cl' B R wr Bw Hl2.out Hc2.out (by rw [Hcl.out]; exact hat) ho
      obtain ⟨tb, htb⟩ : ∃ tb, tb = takeBit s' (rBound s' (cl'.getD x 0)) := ⟨_, rfl⟩
      rw [← htb] at hrb
      have htb1 : tb = 0 ∨ tb = 1 := by rw [htb]; exact takeBit_01 _ _
      have hor := i64_or_bit2 x tb (by omega) htb1
      have Htb := Lib.hid htb
      have Htb1 := Lib.hid htb1
      clear htb htb1
      go_wp2_with (go_at_call 24; refine hrb.mono ?_; rintro e w4 ⟨rfl, o4, b4⟩)
      go_roundg j
      case measure => omega
      case rel =>
        have h2 := Htb1.out
        refine ⟨_, _, 2 * x + tb.toNat, congrArg (Value.int .i64) (by omega), by omega, congrArg (Value.int .i64) (by omega), ?_, by rw [List.length_set]; exact Hcl.out, o4, hbb.trans b4, takeS_live Hl2.out (rBound_in Hl2.out (chOk_get Hc2.out x)).1 (rBound_in Hl2.out (chOk_get Hc2.out x)).2, chOk_set Hc2.out _ _ (sawN_ok _ _ (chOk_get Hc2.out x)), by rw [he.out, Htb.out]; rfl⟩
        have h1 := Hx.out
        rw [show m - j + 1 = (m - (j + 1) + 1) + 1 by omega, Nat.pow_succ]
        omega
end Go.Proofs.Ytnoofgcjhoiboaa
