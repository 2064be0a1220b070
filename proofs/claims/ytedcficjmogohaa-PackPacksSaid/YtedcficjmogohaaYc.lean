/- Texts of one proof, merged: XCr4 XCa XCz XLe XLp XTwo XTwl XTwd. -/
import Derived.Test.YtedcficjmogohaaYb
import Derived.Laws.BytesArg
import Derived.Laws.OwnMore
/- The walks over Even and Tree of package coder's reader. -/
namespace Go.Proofs.Ytedcficjmogohaa
set_option linter.unusedVariables false
set_option linter.unusedSimpArgs false
set_option maxRecDepth 100000
open Go.RowKit

theorem takeBit_01 (s : RS) (b : Int) : takeBit s b = 0 ∨ takeBit s b = 1 := by unfold takeBit; split <;> simp
theorem i64_or_bit2 (a : Nat) (b : Int) (ha : a < 1099511627776) (hb : b = 0 ∨ b = 1) : bits .or .i64 ((a : Int) * 2) b = ((2 * a + b.toNat : Nat) : Int) := by
  have e : (a : Int) * 2 = ((2 * a : Nat) : Int) := by omega
  have h : ∀ c : Nat, c < 2 → bits .or .i64 ((2 * a : Nat) : Int) (c : Int) = ((2 * a + c : Nat) : Int) := by
    intro c hc
    show IntKind.i64.wrap ((BitVec.ofInt 64 ((2 * a : Nat) : Int) ||| BitVec.ofInt 64 (c : Int)).toNat : Int) = _
    rw [BitVec.toNat_or, BitVec.toNat_ofInt, BitVec.toNat_ofInt, IntKind.wrap_i64, show ((((2 * a : Nat) : Int) % ((2 ^ 64 : Nat) : Int)).toNat) = 2 * a by omega, show (((c : Int) % ((2 ^ 64 : Nat) : Int)).toNat) = c by omega,
      show (2 * a) ||| c = 2 * a + c by
        have h2 := Nat.two_pow_add_eq_or_of_lt (i := 1) (b := c) (by omega) a
        rw [Nat.pow_one] at h2
        exact h2.symm]
    omega
  rw [e]
  rcases hb with rfl | rfl
  · exact h 0 (by omega)
  · exact h 1 (by omega)

def rEven : Nat → RS → Nat → Nat × RS
  | 0, s, a => (a, s)
  | k + 1, s, a => rEven k (takeS s (s.width / 2)) (2 * a + (takeBit s (s.width / 2)).toNat)
def rTree : Nat → RS → List Int → Nat → Nat × RS × List Int
  | 0, s, cl, a => (a, s, cl)
  | k + 1, s, cl, a => rTree k (takeS s (rBound s (cl.getD a 0))) (cl.set a (sawN (cl.getD a 0) (takeBit s (rBound s (cl.getD a 0))))) (2 * a + (takeBit s (rBound s (cl.getD a 0))).toNat)

def evenRes (m : Nat) (s : RS) : Int := ((rEven m s 0).1 : Int)
def treeRes (m : Nat) (s : RS) (cl : List Int) : Int := ((rTree m s cl 1).1 : Int) - 2 ^ m

set_option maxHeartbeats 800000 in
set_option maxRecDepth 100000 in
theorem reven_any (p : Nat) (s : RS) (m : Nat) (hm : m ≤ 32) (B : Nat) (R : HP) [Loc B R] (w : World) (hB : B ≤ w.heap.size) (hl : s.live) (hO : Own B (Re p s * R) w) :
    Calls Try.prog 69 #[.pointer (some ⟨p, 0, none⟩), .int .i64 (m : Int)] w (Ret B w (.int .i64 (evenRes m s)) (Re p (rEven m s 0).2 * R)) := by
  have Hl := Lib.hid hl
  clear hl
  have h0 : ¬ (m : Int) < 0 := by omega
  go_enter Try.func69, Try.ntmps69
  go_wp2
  go_loopg [5, 14] m (fun k a i wr => ∃ (s' : RS) (x : Nat), a = .int .i64 (x : Int) ∧ k ≤ m ∧ i = .int .i64 ((m : Int) - (k : Int)) ∧ x < 2 ^ (m - k) ∧ Own B (Re p s' * R) wr ∧ Below B w wr ∧ s'.live ∧ Hid (rEven m s 0 = rEven k s' x))
  case atStart => exact ⟨s, 0, rfl, Nat.le_refl _, congrArg (Value.int .i64) (by omega), by rw [Nat.sub_self]; decide, hO, Below.refl _ _, Hl.out, rfl⟩
  case round =>
    obtain ⟨s', x, rfl, hk, rfl, hx, ho, hbb, hl', he⟩ := hrel
    have Bw : B ≤ wr.heap.size := Nat.le_trans hB hbb.size
    have Hl2 := Lib.hid hl'
    have Hx := Lib.hid hx
    clear hx hl'
    by_cases hk0 : gk = 0
    · subst hk0
      go_wp2
      go_ret
      rw [evenRes, he.out]
      exact ⟨rfl, ho, hbb⟩
    · obtain ⟨j, rfl⟩ : ∃ j, gk = j + 1 := ⟨gk - 1, by omega⟩
      have x0 : (x : Int) < 4294967296 := by
        have h1 := Hx.out
        have h2 : 2 ^ (m - (j + 1)) ≤ 4294967296 := Nat.le_trans (Nat.pow_le_pow_right (by omega) (show m - (j + 1) ≤ 32 by omega)) (by decide)
        omega
      have Hz : Hid (65536 ≤ s'.width / 2 ∧ s'.width / 2 + 65536 ≤ s'.width) := by have := Hl2.out.wide; exact ⟨by omega, by omega⟩
      have hrb := take_any p s' (s'.width / 2) B R wr Bw Hl2.out.ok ho Hz.out.1 Hz.out.2
      obtain ⟨tb, htb⟩ : ∃ tb, tb = takeBit s' (s'.width / 2) := ⟨_, rfl⟩
      rw [← htb] at hrb
      have htb1 : tb = 0 ∨ tb = 1 := by rw [htb]; exact takeBit_01 _ _
      have hor := i64_or_bit2 x tb (by omega) htb1
      obtain ⟨X, hX⟩ : ∃ X : Int, X = (x : Int) := ⟨_, rfl⟩
      have hor2 : bits .or .i64 (X * 2) tb = 2 * X + tb := by rw [hX, hor]; omega
      have x1 : 0 ≤ X := by omega
      rw [← hX] at x0 ⊢
      have HX := Lib.hid hX
      clear hor hX
      have Htb := Lib.hid htb
      have Htb1 := Lib.hid htb1
      clear htb htb1
      obtain ⟨v, hV⟩ := ho.hex
      have hV := hV.assoc
      have c2 : wr.cell? ⟨p, 2, none⟩ = some (.int .u64 s'.width) := hV.cell 2
      have w0 : 0 ≤ s'.width := Hl2.out.ok.width0
      have w1 : s'.width < 4294967296 := Hl2.out.ok.width1
      go_wp2_with (go_at_call 76; refine hrb.mono ?_; rintro e w4 ⟨rfl, o4, b4⟩)
      go_roundg j
      case measure => omega
      case rel =>
        have h2 := Htb1.out
        have hX := HX.out
        refine ⟨_, 2 * x + tb.toNat, congrArg (Value.int .i64) (by omega), by omega, congrArg (Value.int .i64) (by omega), ?_, o4, hbb.trans b4, takeS_live Hl2.out Hz.out.1 Hz.out.2, by rw [he.out, Htb.out]; rfl⟩
        have h1 := Hx.out
        rw [show m - j = (m - (j + 1)) + 1 by omega, Nat.pow_succ]
        omega

theorem reven_nil (bits : Int) (w : World) : Calls Try.prog 69 #[.pointer none, .int .i64 bits] w fun e w' => e = .returned (.int .i64 0) ∧ w = w' := by
  go_enter Try.func69, Try.ntmps69
  go_wp2
  go_ret
  exact ⟨rfl, rfl⟩
theorem rtree_nil (A : Option Addr) (len cap : Nat) (bits : Int) (w : World) : Calls Try.prog 68 #[.pointer none, .slice A len cap, .int .i64 bits] w fun e w' => e = .returned (.int .i64 0) ∧ w = w' := by
  go_enter Try.func68, Try.ntmps68
  go_wp2
  go_ret
  exact ⟨rfl, rfl⟩

theorem rTree_ge : ∀ (k : Nat) (s : RS) (cl : List Int) (a : Nat), a * 2 ^ k ≤ (rTree k s cl a).1 ∧ (rTree k s cl a).1 < (a + 1) * 2 ^ k
  | 0, s, cl, a => by simp [rTree]
  | k + 1, s, cl, a => by
    have ih := rTree_ge k (takeS s (rBound s (cl.getD a 0))) (cl.set a (sawN (cl.getD a 0) (takeBit s (rBound s (cl.getD a 0))))) (2 * a + (takeBit s (rBound s (cl.getD a 0))).toNat)
    have h1 := takeBit_01 s (rBound s (cl.getD a 0))
    have h2 : (takeBit s (rBound s (cl.getD a 0))).toNat ≤ 1 := by omega
    have e1 : a * 2 ^ (k + 1) = (2 * a) * 2 ^ k := by rw [Nat.pow_succ, Nat.mul_comm 2 a, Nat.mul_assoc, Nat.mul_comm 2 (2 ^ k)]
    have e2 : (a + 1) * 2 ^ (k + 1) = (2 * a + 2) * 2 ^ k := by rw [Nat.pow_succ, show 2 * a + 2 = (a + 1) * 2 by omega, Nat.mul_assoc, Nat.mul_comm 2 (2 ^ k)]
    show a * 2 ^ (k + 1) ≤ (rTree k _ _ _).1 ∧ (rTree k _ _ _).1 < (a + 1) * 2 ^ (k + 1)
    rw [e1, e2]
    exact ⟨Nat.le_trans (Nat.mul_le_mul_right _ (by omega)) ih.1, Nat.lt_of_lt_of_le ih.2 (Nat.mul_le_mul_right _ (by omega))⟩

set_option maxHeartbeats 1600000 in
set_option maxRecDepth 100000 in
theorem rtree_any (p g : Nat) (s : RS) (cl : List Int) (m : Nat) (hm : m ≤ 16) (hlen : 2 ^ m ≤ cl.length) (hlm : cl.length ≤ 131072) (B : Nat) (R : HP) [Loc B R] (w : World) (hB : B ≤ w.heap.size) (hl : s.live) (hc : chOk cl) (hO : Own B (Re p s * (Bk g 106 (chV cl) * R)) w) (cap : Nat) :
    Calls Try.prog 68 #[.pointer (some ⟨p, 0, none⟩), .slice (some ⟨g, 0, none⟩) cl.length cap, .int .i64 (m : Int)] w
      (Ret B w (.int .i64 (treeRes m s cl)) (Re p (rTree m s cl 1).2.1 * (Bk g 106 (chV (rTree m s cl 1).2.2) * R))) := by
  have Hl := Lib.hid hl
  have Hc := Lib.hid hc
  have hpow : (2 : Int) ^ m ≤ (cl.length : Int) := by exact_mod_cast hlen
  have hpow1 : (1 : Int) ≤ 2 ^ m := by have := Nat.one_le_two_pow (n := m); exact_mod_cast this
  have hlm' : (cl.length : Int) ≤ 131072 := by omega
  have h0 : ¬ (m : Int) < 0 := by omega
  clear hl hc hlen
  go_enter Try.func68, Try.ntmps68
  go_wp2
  go_loopg [7, 26] m (fun k a i wr => ∃ (s' : RS) (cl' : List Int) (x : Nat), a = .int .i64 (x : Int) ∧ k ≤ m ∧ i = .int .i64 ((m : Int) - (k : Int)) ∧ x < 2 ^ (m - k + 1) ∧ cl'.length = cl.length ∧ Own B (Re p s' * (Bk g 106 (chV cl') * R)) wr ∧ Below B w wr ∧ s'.live ∧ chOk cl' ∧ Hid (rTree m s cl 1 = rTree k s' cl' x))
  case atStart => exact ⟨s, cl, 1, rfl, Nat.le_refl _, congrArg (Value.int .i64) (by omega), by rw [Nat.sub_self]; decide, rfl, hO, Below.refl _ _, Hl.out, Hc.out, rfl⟩
  case round =>
    obtain ⟨s', cl', x, rfl, hk, rfl, hx, hcl, ho, hbb, hl', hc', he⟩ := hrel
    have Bw : B ≤ wr.heap.size := Nat.le_trans hB hbb.size
    have Hl2 := Lib.hid hl'
    have Hc2 := Lib.hid hc'
    have Hx := Lib.hid hx
    have Hcl := Lib.hid hcl
    clear hx hl' hc' hcl
    by_cases hk0 : gk = 0
    · subst hk0
      have x1 : (x : Int) < 262144 := by
        have h1 := Hx.out
        rw [Nat.sub_zero, Nat.pow_succ] at h1
        have : 2 ^ m ≤ cl.length := by exact_mod_cast hpow
        omega
      go_wp2
      go_ret
      rw [treeRes, he.out]
      exact ⟨rfl, ho, hbb⟩
    · obtain ⟨j, rfl⟩ : ∃ j, gk = j + 1 := ⟨gk - 1, by omega⟩
      have hat : x < cl.length := by
        have h1 := Hx.out
        have : 2 ^ (m - (j + 1) + 1) ≤ 2 ^ m := Nat.pow_le_pow_right (by omega) (by omega)
        have : 2 ^ m ≤ cl.length := by exact_mod_cast hpow
        omega
      have a0 : (0 : Int) ≤ (x : Int) := by omega
      have a1 : (x : Int) < (cl.length : Int) := by omega
      have hrb := rbit_any p g x s' cl' B R wr Bw Hl2.out Hc2.out (by rw [Hcl.out]; exact hat) ho
      obtain ⟨tb, htb⟩ : ∃ tb, tb = takeBit s' (rBound s' (cl'.getD x 0)) := ⟨_, rfl⟩
      rw [← htb] at hrb
      have htb1 : tb = 0 ∨ tb = 1 := by rw [htb]; exact takeBit_01 _ _
      have hor := i64_or_bit2 x tb (by omega) htb1
      have Htb := Lib.hid htb
      have Htb1 := Lib.hid htb1
      clear htb htb1
      go_wp2_with (go_at_call 67; refine hrb.mono ?_; rintro e w4 ⟨rfl, o4, b4⟩)
      go_roundg j
      case measure => omega
      case rel =>
        have h2 := Htb1.out
        refine ⟨_, _, 2 * x + tb.toNat, congrArg (Value.int .i64) (by omega), by omega, congrArg (Value.int .i64) (by omega), ?_, by rw [List.length_set]; exact Hcl.out, o4, hbb.trans b4, takeS_live Hl2.out (rBound_in Hl2.out (chOk_get Hc2.out x)).1 (rBound_in Hl2.out (chOk_get Hc2.out x)).2, chOk_set Hc2.out _ _ (sawN_ok _ _ (chOk_get Hc2.out x)), by rw [he.out, Htb.out]; rfl⟩
        have h1 := Hx.out
        rw [show m - j + 1 = (m - (j + 1) + 1) + 1 by omega, Nat.pow_succ]
        omega
end Go.Proofs.Ytedcficjmogohaa

/- The walks over the ends of a writer that is done, or is not there; and over awake: what the document fixes of no bits, and of one. -/
namespace Go.Proofs.Ytedcficjmogohaa
set_option linter.unusedVariables false
set_option linter.unusedSimpArgs false
set_option maxRecDepth 100000
open Go.RowKit

/-- End, told again. -/
theorem end_done (p : Nat) (s : WS) (B : Nat) (R : HP) [Loc B R] (w : World) (hB : B ≤ w.heap.size) (hdn : s.dn = true) (hl : s.out.length ≤ 1099511627776) (hO : Own B (Wr p s * R) w) :
    Calls Try.prog 35 #[.pointer (some ⟨p, 0, none⟩)] w fun e w' => ∃ v, Ret B w v (Rw 5 1 v s.out.length (bytesV s.out) * (Wr p s * R)) e w' := by
  obtain ⟨v, hV⟩ := hO.hex
  have hV := hV.assoc
  have c6 : w.cell? ⟨p, 6, none⟩ = some (.bool true) := by rw [hV.cell 6, ← hdn]; rfl
  have c0 : w.cell? ⟨p, 0, none⟩ = some v := hV.cell 0
  have hrd := (hV.cast (sep_left_comm _ _ _)).rd
  go_enter Try.func35, Try.ntmps35
  go_wp2_with (go_at_call 42; refine (clone_bytes v s.out w hrd (by omega)).mono ?_; rintro e w4 ⟨v4, rfl, o4, b4⟩)
  go_ret
  exact ⟨v4, rfl, Own.fresh hB hO o4 b4, b4.mono hB⟩
theorem end_nil (w : World) : Calls Try.prog 35 #[.pointer none] w fun e w' => e = .returned (.slice none 0 0) ∧ w = w' := by
  go_enter Try.func35, Try.ntmps35
  go_wp2
  go_ret
  exact ⟨rfl, rfl⟩

/-- string(b) of an owned row of bytes. -/
theorem str_of_row {B : Nat} {R : HP} {w : World} {v : Value} {l : List Int} (h : Own B (Rw 5 1 v l.length (bytesV l) * R) w) : (convert 22 9 v).run Try.prog w = .ok (.string (strOfNums l)) w := by
  have hr := h.row
  rcases hr.2 with ⟨rfl, hn⟩ | ⟨g, cap, cur, rfl, _⟩
  · obtain rfl : l = [] := List.eq_nil_of_length_eq_zero hn
    exact run_convert_bytes_nil w 22 5 Try.underlying22 Try.underlying5 0 0 9 Try.underlying9
  · refine run_convert_bytes_arg w 22 5 Try.underlying22 Try.underlying5 g 0 l.length cap l rfl (fun i hi => ?_) 9 Try.underlying9
    have := hr.cells (g := g) rfl i (.int .u8 (l.getD i 0)) (by simp [bytesV, hi])
    rwa [Addr.add_lit] at this

def aw1 : WS := putS begin0 (bitBound begin0 0) 1
def aw2 : RS := openS (endS aw1).out
theorem aw_a : (endS begin0).out = [0, 0, 0, 0] := by decide
theorem aw_b : (endS aw1).out.length = 4 ∧ bytesOk (endS aw1).out := by
  have h : (endS aw1).out = [127, 255, 252, 0] := by decide
  rw [h]; exact ⟨rfl, by intro c hc; simp at hc; omega⟩
theorem aw_c : aw2.live := ⟨⟨by decide, by decide, by decide, by decide, by decide⟩, by decide⟩
theorem aw_d : takeBit aw2 (rBound aw2 0) = 1 := by decide
theorem aw_e : (takeS aw2 (rBound aw2 0)).e = 0 ∧ (takeS aw2 (rBound aw2 0)).rem = [] := by decide
theorem aw_f : strOfNums [0, 0, 0, 0] = ⟨#[0, 0, 0, 0]⟩ := rfl
theorem aw_g : aw1.okr 6 ∧ aw1.dn = false := by
  have h := putS_live (s := begin0) (bound := bitBound begin0 0) 1 (r := 6) (by omega) (begin0_live 7 (by omega) (by omega)) (by decide) (by decide)
  exact ⟨⟨h.ok, h.room⟩, h.dn⟩
end Go.Proofs.Ytedcficjmogohaa

/- The walk over awake: what the document fixes of no bits, and of one. -/
namespace Go.Proofs.Ytedcficjmogohaa
set_option linter.unusedVariables false
set_option linter.unusedSimpArgs false
set_option maxRecDepth 100000
open Go.RowKit

end Go.Proofs.Ytedcficjmogohaa

/- How many bytes a writer's steps make: plain laws of its states. -/
namespace Go.Proofs.Ytedcficjmogohaa
set_option linter.unusedVariables false
set_option linter.unusedSimpArgs false
set_option maxRecDepth 100000
open Go.RowKit

/-- The bytes that there will be, but for the last four. -/
def WS.tot (s : WS) : Int := (s.out.length : Int) + s.full + (if s.sm then 1 else 0)

theorem shiftS_tot (s : WS) (h : 0 ≤ s.full) : (shiftS s).tot = s.tot + 1 ∧ 0 ≤ (shiftS s).full := by
  obtain ⟨out, low, width, wait, full, sm, dn⟩ := s
  simp only at h
  unfold shiftS
  split
  · constructor
    · simp only [WS.tot, List.length_append, List.length_replicate]
      cases sm <;> simp <;> omega
    · exact Int.le_refl 0
  · constructor
    · simp only [WS.tot]; omega
    · show 0 ≤ full + 1; omega
theorem shiftN_tot : ∀ (k : Nat) (s : WS), 0 ≤ s.full → (shiftN k s).tot = s.tot + k ∧ 0 ≤ (shiftN k s).full
  | 0, s, h => by simp [shiftN]; exact h
  | k + 1, s, h => by
    obtain ⟨h1, h2⟩ := shiftS_tot s h
    obtain ⟨h3, h4⟩ := shiftN_tot k _ h2
    exact ⟨by rw [shiftN, h3, h1]; omega, h4⟩

/-- At the end there are four bytes more. -/
theorem endS_len (s : WS) (h : 0 ≤ s.full) : ((endS s).out.length : Int) = s.tot + 4 := by
  obtain ⟨h1, h2⟩ := shiftN_tot 4 { s with dn := true } h
  have h3 : (shiftN 4 { s with dn := true }).tot = s.tot + 4 := h1
  rw [← h3]
  unfold endS
  generalize shiftN 4 { s with dn := true } = u at h2
  obtain ⟨out, low, width, wait, full, sm, dn⟩ := u
  simp only at h2
  unfold shiftS
  rw [if_pos (Or.inl (show (0 : Int) < 4278190080 by omega))]
  simp only [WS.tot, List.length_append, List.length_replicate]
  cases sm <;> simp <;> omega
theorem endS_dn (s : WS) : (endS s).dn = true := by
  unfold endS
  rw [shiftS_dn]
  have h : ∀ (k : Nat) (u : WS), (shiftN k u).dn = u.dn := by
    intro k
    induction k with
    | zero => intro u; rfl
    | succ k ih => intro u; rw [shiftN, ih, shiftS_dn]
  exact h 4 _
theorem WS.tot_nonneg {s : WS} (h : 0 ≤ s.full) : 0 ≤ s.tot := by unfold WS.tot; split <;> omega

theorem put1_parts (s : WS) (bound bit : Int) : (put1 s bound bit).tot = s.tot ∧ (put1 s bound bit).full = s.full := by unfold put1; split <;> exact ⟨rfl, rfl⟩
theorem renorm_tot (s : WS) (h : 0 ≤ s.full) : (renorm s).tot ≤ s.tot + 1 ∧ 0 ≤ (renorm s).full := by
  unfold renorm
  split
  · obtain ⟨h1, h2⟩ := shiftS_tot { s with width := s.width * 256 } h
    exact ⟨by rw [h1]; show s.tot + 1 ≤ _; omega, h2⟩
  · exact ⟨by omega, h⟩
theorem putS_tot (s : WS) (bound bit : Int) (h : 0 ≤ s.full) : (putS s bound bit).tot ≤ s.tot + 1 ∧ 0 ≤ (putS s bound bit).full := by
  obtain ⟨h1, h2⟩ := put1_parts s bound bit
  have := renorm_tot (put1 s bound bit) (by rw [h2]; exact h)
  rw [h1] at this
  exact this

/-- After c bits of no chance: a byte for eight of them. -/
def WS.eights (s : WS) (c : Nat) : Prop := 0 ≤ s.full ∧ ∃ j : Nat, j ≤ 7 ∧ 8 * s.tot + j ≤ c ∧ 2147483648 ≤ s.width * 2 ^ j
theorem even1_eights {s : WS} {c : Nat} {r : Int} (bit : Int) (hl : s.live r) (h : s.eights c) : (putS s (s.width / 2) bit).eights (c + 1) := by
  obtain ⟨hf, j, hj, hc, hw⟩ := h
  obtain ⟨h1, h2⟩ := put1_parts s (s.width / 2) bit
  have h3 : s.width / 2 ≤ (put1 s (s.width / 2) bit).width := by
    unfold put1; split
    · exact Int.le_refl _
    · show _ ≤ s.width - s.width / 2; omega
  have hwd := hl.wide
  unfold putS renorm
  split
  · rename_i hlt
    obtain ⟨h5, h6⟩ := shiftS_tot { put1 s (s.width / 2) bit with width := (put1 s (s.width / 2) bit).width * 256 } (by show 0 ≤ (put1 s (s.width / 2) bit).full; rw [h2]; exact hf)
    have h7 : (shiftS { put1 s (s.width / 2) bit with width := (put1 s (s.width / 2) bit).width * 256 }).tot = s.tot + 1 := by rw [h5]; show (put1 s (s.width / 2) bit).tot + 1 = _; rw [h1]
    refine ⟨h6, 0, by omega, ?_, ?_⟩
    · rw [h7]
      have : j = 7 := by
        match j, hj with
        | 0, _ => simp at hw; omega
        | 1, _ => simp at hw; omega
        | 2, _ => simp at hw; omega
        | 3, _ => simp at hw; omega
        | 4, _ => simp at hw; omega
        | 5, _ => simp at hw; omega
        | 6, _ => simp at hw; omega
        | 7, _ => rfl
      omega
    · rw [shiftS_width]; show _ ≤ (put1 s (s.width / 2) bit).width * 256 * 2 ^ 0; omega
  · rename_i hge
    refine ⟨by rw [h2]; exact hf, ?_⟩
    match j, hj with
    | 0, _ => exact ⟨1, by omega, by rw [h1]; omega, by simp at hw ⊢; omega⟩
    | 1, _ => exact ⟨2, by omega, by rw [h1]; omega, by simp at hw ⊢; omega⟩
    | 2, _ => exact ⟨3, by omega, by rw [h1]; omega, by simp at hw ⊢; omega⟩
    | 3, _ => exact ⟨4, by omega, by rw [h1]; omega, by simp at hw ⊢; omega⟩
    | 4, _ => exact ⟨5, by omega, by rw [h1]; omega, by simp at hw ⊢; omega⟩
    | 5, _ => exact ⟨6, by omega, by rw [h1]; omega, by simp at hw ⊢; omega⟩
    | 6, _ => exact ⟨7, by omega, by rw [h1]; omega, by simp at hw ⊢; omega⟩
    | 7, _ => exact ⟨7, by omega, by rw [h1]; omega, by simp at hw ⊢; omega⟩
theorem evenS_live : ∀ (l : List Int) (s : WS) (r : Int), 0 ≤ r → s.live (r + l.length) → (evenS s l).live r
  | [], s, r, _, h => by simpa [evenS] using h
  | b :: l, s, r, hr, h => by
    have hw := h.wide
    have e : r + ((b :: l).length : Int) = (r + l.length) + 1 := by simp; omega
    rw [e] at h
    exact evenS_live l _ r hr (putS_live b (by omega) h (by omega) (by omega))
theorem evenS_eights : ∀ (l : List Int) (s : WS) (c : Nat) (r : Int), 0 ≤ r → s.live (r + l.length) → s.eights c → (evenS s l).eights (c + l.length)
  | [], s, c, r, _, _, h => h
  | b :: l, s, c, r, hr, h, h8 => by
    have hw := h.wide
    have e : r + ((b :: l).length : Int) = (r + l.length) + 1 := by simp; omega
    rw [e] at h
    have h1 := even1_eights b h h8
    have h2 := putS_live (bound := s.width / 2) b (by omega) h (by omega) (by omega)
    have := evenS_eights l _ (c + 1) r hr h2 h1
    rw [show c + (b :: l).length = c + 1 + l.length by simp; omega]
    exact this
theorem bitsOf_len (n : Int) (m : Nat) : (bitsOf n m).length = m := by simp [bitsOf]
theorem bitsOf_one (n : Int) (k : Nat) : bitsOf (n / 2 ^ k) 1 = [bitOf n k] := by
  simp [bitsOf, bitOf, List.range_succ]
theorem begin0_eights : begin0.eights 0 := ⟨by decide, 0, by omega, by decide, by decide⟩
theorem eights_len {s : WS} {c : Nat} (h : s.eights c) : 4 ≤ (endS s).out.length ∧ 8 * (endS s).out.length ≤ c + 32 := by
  obtain ⟨hf, j, hj, hc, _⟩ := h
  have h1 := endS_len s hf
  have h2 := WS.tot_nonneg hf
  omega
end Go.Proofs.Ytedcficjmogohaa

/- The writer that lets a carry wait, and the writer that carries at once, tell the same bytes: plain laws of their states. -/
namespace Go.Proofs.Ytedcficjmogohaa
set_option linter.unusedVariables false
set_option linter.unusedSimpArgs false
set_option maxRecDepth 100000
open Go.RowKit

/-- The state of the writer that carries at once. -/
structure RW where
  out : List Int
  low : Int
  width : Int

def carryR : List Int → List Int
  | [] => []
  | c :: l => if c = 255 then 0 :: carryR l else (c + 1) :: l
def carryL (l : List Int) : List Int := (carryR l.reverse).reverse
theorem carryR_full (c : Int) (l : List Int) (hc : c ≠ 255) : ∀ m : Nat, carryR (List.replicate m 255 ++ c :: l) = List.replicate m 0 ++ (c + 1) :: l
  | 0 => by simp [carryR, hc]
  | m + 1 => by
    show (if (255 : Int) = 255 then 0 :: carryR (List.replicate m 255 ++ c :: l) else _) = _
    rw [if_pos rfl, carryR_full c l hc m]
    rfl
theorem carryR_all : ∀ m : Nat, carryR (List.replicate m 255) = List.replicate m 0
  | 0 => rfl
  | m + 1 => by
    show (if (255 : Int) = 255 then 0 :: carryR (List.replicate m 255) else _) = _
    rw [if_pos rfl, carryR_all m]
    rfl
theorem carryL_end (l : List Int) (c : Int) (hc : c ≠ 255) (m : Nat) : carryL (l ++ [c] ++ List.replicate m 255) = l ++ [c + 1] ++ List.replicate m 0 := by
  unfold carryL
  rw [List.reverse_append, List.reverse_append, List.reverse_replicate]
  show (carryR (List.replicate m 255 ++ c :: l.reverse)).reverse = _
  rw [carryR_full c _ hc m, List.reverse_append, List.reverse_replicate]
  simp
theorem carryL_all (m : Nat) : carryL (List.replicate m 255) = List.replicate m 0 := by
  unfold carryL
  rw [List.reverse_replicate, carryR_all, List.reverse_replicate]

def rput1 (s : RW) (bound bit : Int) : RW := if bit = 0 then { s with width := bound } else { s with low := s.low + bound, width := s.width - bound }
def rcarry (s : RW) : RW := if 4294967296 ≤ s.low then { s with low := s.low - 4294967296, out := carryL s.out } else s
def rnorm (s : RW) : RW := if s.width < 16777216 then { out := s.out ++ [s.low / 16777216], low := s.low % 16777216 * 256, width := s.width * 256 } else s
def rput (s : RW) (bound bit : Int) : RW := rnorm (rcarry (rput1 s bound bit))
def rend (s : RW) : List Int := s.out ++ [s.low / 16777216, s.low / 65536 % 256, s.low / 256 % 256, s.low % 256]

/-- The bytes that a writer has, those that wait among them. -/
def WS.base (s : WS) : List Int := (if s.sm then s.out ++ [s.wait] else s.out) ++ List.replicate s.full.toNat 255
def WS.told (s : WS) : List Int := if 4294967296 ≤ s.low then carryL s.base else s.base
/-- No carry comes to a byte that cannot bear it. -/
def WS.calm (s : WS) : Prop := (s.sm = false ∨ s.wait = 255) → s.low + s.width ≤ 4294967296
structure Rel (s : WS) (r : RW) : Prop where
  out : r.out = s.told
  low : r.low = s.low % 4294967296
  width : r.width = s.width

theorem shift_told (s : WS) (width : Int) (dn : Bool) (ok : s.ok) (hc : 4294967296 ≤ s.low → s.sm = true ∧ s.wait ≠ 255) :
    (shiftS { s with width := width, dn := dn }).told = s.told ++ [s.low % 4294967296 / 16777216] ∧ (shiftS { s with width := width, dn := dn }).low = s.low % 4294967296 % 16777216 * 256 ∧ (shiftS { s with width := width, dn := dn }).low < 4294967296 ∧ 0 ≤ (shiftS { s with width := width, dn := dn }).low := by
  obtain ⟨out, low, wid0, wait, full, sm, dn0⟩ := s
  obtain ⟨l0, l1, w0, w1, t0, t1, f0, sz⟩ := ok
  simp only at l0 l1 t0 t1 f0 hc
  have hlow : (shiftS ⟨out, low, width, wait, full, sm, dn⟩).low = low * 256 % 4294967296 := shiftS_low _
  refine ⟨?_, by rw [hlow]; show low * 256 % 4294967296 = low % 4294967296 % 16777216 * 256; omega, by rw [hlow]; omega, by rw [hlow]; omega⟩
  have hnc : ¬ 4294967296 ≤ (shiftS ⟨out, low, width, wait, full, sm, dn⟩).low := by rw [hlow]; omega
  unfold WS.told
  rw [if_neg hnc]
  by_cases hbig : 4294967296 ≤ low
  · obtain ⟨rfl, hw⟩ := hc hbig
    have hcar : low / 4294967296 = 1 := by omega
    unfold shiftS
    rw [if_pos (Or.inr (show 4294967295 < low by omega)), if_pos hbig]
    unfold WS.base
    simp only [if_true, carryOf, hcar]
    rw [carryL_end _ _ hw]
    rw [show (wait + 1) % 256 = wait + 1 by omega, show ((255 : Int) + 1) % 256 = 0 by decide, show low / 16777216 % 256 = low % 4294967296 / 16777216 by omega]
    simp
  · rw [if_neg hbig]
    by_cases hlo : low < 4278190080
    · have hcar : low / 4294967296 = 0 := by omega
      unfold shiftS
      rw [if_pos (Or.inl hlo)]
      unfold WS.base
      simp only [if_true, carryOf, hcar]
      rw [show (wait + 0) % 256 = wait by omega, show ((255 : Int) + 0) % 256 = 255 by decide, show low / 16777216 % 256 = low % 4294967296 / 16777216 by omega]
      simp
    · unfold shiftS
      rw [if_neg (show ¬ (low < 4278190080 ∨ 4294967295 < low) by omega)]
      unfold WS.base
      simp only
      rw [show low % 4294967296 / 16777216 = 255 by omega, show (full + 1).toNat = full.toNat + 1 by omega, List.replicate_succ', ← List.append_assoc]

theorem shift_calm (s : WS) (ok : s.ok) (hs : s.low + s.width * 1 ≤ 8589934592) (hcalm : s.calm) (hw : 0 < s.width) : ∀ W : Int, W = s.width * 256 → ((shiftS s).sm = false ∨ (shiftS s).wait = 255) → (shiftS s).low + W ≤ 4294967296 := by
  obtain ⟨out, low, width, wait, full, sm, dn⟩ := s
  obtain ⟨l0, l1, w0, w1, t0, t1, f0, sz⟩ := ok
  simp only at l0 l1 t0 t1 f0 hs hw
  unfold WS.calm at hcalm
  simp only at hcalm
  rintro W rfl
  unfold shiftS
  split
  · rename_i h
    simp only at h ⊢
    intro hh
    rcases hh with hh | hh
    · cases hh
    · omega
  · rename_i h
    simp only at h ⊢
    intro hh
    have := hcalm hh
    omega

theorem put_rel {s : WS} {r : RW} {bound : Int} (bit : Int) {rm : Int} (hl : s.live (rm + 1)) (hcalm : s.calm) (hr : Rel s r) (b0 : 65536 ≤ bound) (b1 : bound + 65536 ≤ s.width) :
    Rel (putS s bound bit) (rput r bound bit) ∧ (putS s bound bit).calm := by
  obtain ⟨k0, k1, k2, k3, k4, k5, k6⟩ := put1_ok bit hl b0 b1
  have hsum := hl.sum
  have hl0 := hl.ok.low0
  have hww : (put1 s bound bit).low + (put1 s bound bit).width ≤ s.low + s.width := by unfold put1; split <;> simp <;> omega
  have hll : s.low ≤ (put1 s bound bit).low := by unfold put1; split <;> simp <;> omega
  have hsame : (put1 s bound bit).sm = s.sm ∧ (put1 s bound bit).wait = s.wait ∧ (put1 s bound bit).base = s.base := by unfold put1; split <;> exact ⟨rfl, rfl, rfl⟩
  have hcalm1 : (put1 s bound bit).calm := by
    unfold WS.calm
    rw [hsame.1, hsame.2.1]
    intro h
    have := hcalm h
    omega
  have hcar1 : 4294967296 ≤ (put1 s bound bit).low → (put1 s bound bit).sm = true ∧ (put1 s bound bit).wait ≠ 255 := by
    intro h
    constructor
    · cases hsm : (put1 s bound bit).sm with
      | true => rfl
      | false => have := hcalm1 (.inl hsm); omega
    · intro hw
      have := hcalm1 (.inr hw)
      omega
  have hrel1 : Rel (put1 s bound bit) (rcarry (rput1 r bound bit)) := by
    obtain ⟨h1, h2, h3⟩ := hr
    have e1 : (rput1 r bound bit).out = r.out ∧ (rput1 r bound bit).low = r.low + ((put1 s bound bit).low - s.low) ∧ (rput1 r bound bit).width = (put1 s bound bit).width := by
      unfold rput1 put1
      split
      · exact ⟨rfl, by simp, rfl⟩
      · exact ⟨rfl, by simp; omega, by simp [h3]⟩
    have hlow1 := k0.low1
    unfold rcarry
    by_cases hb : 4294967296 ≤ s.low
    · rw [if_neg (by rw [e1.2.1]; omega)]
      refine ⟨?_, by rw [e1.2.1]; omega, e1.2.2⟩
      rw [e1.1, h1, WS.told, WS.told, if_pos hb, if_pos (by omega), hsame.2.2]
    · by_cases hb1 : 4294967296 ≤ (put1 s bound bit).low
      · rw [if_pos (by rw [e1.2.1]; omega)]
        refine ⟨?_, by show (rput1 r bound bit).low - 4294967296 = _; rw [e1.2.1]; omega, e1.2.2⟩
        show carryL (rput1 r bound bit).out = _
        rw [e1.1, h1, WS.told, WS.told, if_neg hb, if_pos hb1, hsame.2.2]
      · rw [if_neg (by rw [e1.2.1]; omega)]
        refine ⟨?_, by rw [e1.2.1]; omega, e1.2.2⟩
        rw [e1.1, h1, WS.told, WS.told, if_neg hb, if_neg hb1, hsame.2.2]
  unfold rput putS renorm rnorm
  rw [hrel1.width]
  split
  · rename_i hlt
    have ok2 : WS.ok { put1 s bound bit with width := (put1 s bound bit).width * 256 } := ⟨k0.low0, k0.low1, by show 0 ≤ _ * 256; omega, by show _ * 256 < _; omega, k0.wait0, k0.wait1, k0.full0, k0.size⟩
    obtain ⟨t1, t2, t3, t4⟩ := shift_told (put1 s bound bit) ((put1 s bound bit).width * 256) (put1 s bound bit).dn k0 hcar1
    constructor
    · refine ⟨?_, ?_, ?_⟩
      · rw [t1]
        show (rcarry (rput1 r bound bit)).out ++ [(rcarry (rput1 r bound bit)).low / 16777216] = (put1 s bound bit).told ++ [(put1 s bound bit).low % 4294967296 / 16777216]
        rw [hrel1.out, hrel1.low]
      · show (rcarry (rput1 r bound bit)).low % 16777216 * 256 = _
        rw [hrel1.low]
        rw [Int.emod_eq_of_lt t4 t3]
        exact t2.symm
      · rw [shiftS_width]
    · intro h
      rw [shiftS_width]
      have hsh := shift_calm (put1 s bound bit) k0 (by omega) hcalm1 (by omega) _ rfl
      have e : ∀ W : Int, (shiftS { put1 s bound bit with width := W }).sm = (shiftS (put1 s bound bit)).sm ∧ (shiftS { put1 s bound bit with width := W }).wait = (shiftS (put1 s bound bit)).wait ∧ (shiftS { put1 s bound bit with width := W }).low = (shiftS (put1 s bound bit)).low := by
        intro W
        unfold shiftS
        simp only
        split <;> exact ⟨rfl, rfl, rfl⟩
      obtain ⟨e1, e2, e3⟩ := e ((put1 s bound bit).width * 256)
      rw [e1, e2] at h
      rw [e3]
      exact hsh h
  · exact ⟨hrel1, hcalm1⟩

theorem begin_rel : Rel begin0 ⟨[], 0, 4294967295⟩ ∧ begin0.calm := ⟨⟨rfl, rfl, rfl⟩, fun _ => by decide⟩

theorem shift_end (s : WS) (hw0 : 0 ≤ s.wait) (hw1 : s.wait ≤ 255) (hf : 0 ≤ s.full) (hn : s.low < 4294967296) : (shiftS { s with low := 0 }).out = s.told := by
  obtain ⟨out, low, width, wait, full, sm, dn⟩ := s
  simp only at hf hn hw0 hw1
  unfold WS.told
  rw [if_neg (by show ¬ 4294967296 ≤ low; omega)]
  unfold shiftS
  rw [if_pos (Or.inl (show (0 : Int) < 4278190080 by omega))]
  unfold WS.base
  cases sm
  · simp [carryOf]
  · simp [carryOf]
    omega

/-- The ends are the same. -/
theorem end_rel {s : WS} {r : RW} {rm : Int} (hl : s.live rm) (h6 : 6 ≤ rm) (hcalm : s.calm) (hr : Rel s r) : (endS s).out = rend r := by
  have hw := hl.wide
  have hcar : 4294967296 ≤ s.low → s.sm = true ∧ s.wait ≠ 255 := fun h => by
    constructor
    · cases hsm : s.sm with
      | true => rfl
      | false => have := hcalm (.inl hsm); omega
    · intro hw'; have := hcalm (.inr hw'); omega
  have o0 : WS.okr s 6 := ⟨hl.ok, by have := hl.room; omega⟩
  have hr0 : 0 ≤ r.low := by rw [hr.low]; omega
  have hr1 : r.low < 4294967296 := by rw [hr.low]; omega
  obtain ⟨a1, a2, a3, a4⟩ := shift_told s s.width true o0.ok hcar
  have o1 : (shiftS { s with width := s.width, dn := true }).okr 5 := shiftS_okr (r := 5) (by omega) ⟨⟨hl.ok.low0, hl.ok.low1, hl.ok.width0, hl.ok.width1, hl.ok.wait0, hl.ok.wait1, hl.ok.full0, hl.ok.size⟩, o0.room⟩
  rw [← hr.out, ← hr.low] at a1
  rw [← hr.low] at a2
  have he : endS s = shiftS { shiftS (shiftS (shiftS (shiftS { s with width := s.width, dn := true }))) with low := 0 } := rfl
  rw [he]
  clear he
  generalize shiftS { s with width := s.width, dn := true } = s1 at a1 a2 a3 a4 o1 ⊢
  obtain ⟨b1, b2, b3, b4⟩ := shift_told s1 s1.width s1.dn o1.ok (fun h => by omega)
  have o2 := shiftS_okr (r := 4) (by omega) o1
  change (shiftS s1).told = _ at b1
  change (shiftS s1).low = _ at b2
  change (shiftS s1).low < _ at b3
  change 0 ≤ (shiftS s1).low at b4
  generalize shiftS s1 = s2 at b1 b2 b3 b4 o2 ⊢
  obtain ⟨c1, c2, c3, c4⟩ := shift_told s2 s2.width s2.dn o2.ok (fun h => by omega)
  have o3 := shiftS_okr (r := 3) (by omega) o2
  change (shiftS s2).told = _ at c1
  change (shiftS s2).low = _ at c2
  change (shiftS s2).low < _ at c3
  change 0 ≤ (shiftS s2).low at c4
  generalize shiftS s2 = s3 at c1 c2 c3 c4 o3 ⊢
  obtain ⟨d1, d2, d3, d4⟩ := shift_told s3 s3.width s3.dn o3.ok (fun h => by omega)
  have o4 := shiftS_okr (r := 2) (by omega) o3
  change (shiftS s3).told = _ at d1
  change (shiftS s3).low = _ at d2
  change (shiftS s3).low < _ at d3
  change 0 ≤ (shiftS s3).low at d4
  generalize shiftS s3 = s4 at d1 d2 d3 d4 o4 ⊢
  rw [shift_end s4 o4.ok.wait0 o4.ok.wait1 o4.ok.full0 d3, d1, c1, b1, a1]
  have e1 : s1.low % 4294967296 / 16777216 = r.low / 65536 % 256 := by omega
  have e2 : s2.low % 4294967296 / 16777216 = r.low / 256 % 256 := by omega
  have e3 : s3.low % 4294967296 / 16777216 = r.low % 256 := by omega
  rw [e1, e2, e3]
  simp [rend]
end Go.Proofs.Ytedcficjmogohaa

/- A statement whose order Go leaves open, of two threads, each with what it owns: in whatever order their steps come, both end as each ends alone; then comes the rest. -/
namespace Go.Proofs.Ytedcficjmogohaa
set_option linter.unusedVariables false
set_option linter.unusedSimpArgs false
set_option maxRecDepth 100000
open Go.RowKit

section
variable {P : Program} {ops : Array Oper} {md : Region.Mode} {Q : Exit → Act → World → Prop} {B : Nat}

/-- From every world in which A is owned (beside whatever) the operation ends in some value and some owning that Ψ tells. -/
def StepR (P : Program) (B : Nat) (o : Oper) (a : Act) (A : HP) (Ψ : Value → HP → Prop) : Prop :=
  ∀ (R : HP) [Loc B R] (w : World), B ≤ w.heap.size → Own B (A * R) w → match (execOp a.eval o).run P w with
    | .ok (.value u) w' => ∃ A', Ψ u A' ∧ Own B (A' * R) w' ∧ Below B w w'
    | .ok .skip w' => ∃ A', Ψ undef A' ∧ Own B (A' * R) w' ∧ Below B w w'
    | .ok (.enter f args) w' => Calls P f args w' fun e w'' => ∃ u A', e = .returned u ∧ Ψ u A' ∧ Own B (A' * R) w'' ∧ Below B w w''
    | _ => False

/-- A thread: its operations in their order, each from what the one ahead has left; at the end Φ tells of the values and of what is owned. -/
def TW (P : Program) (ops : Array Oper) (B : Nat) : List Oper → (List Value → HP → Prop) → Act → HP → Prop
  | [], Φ, _, A => Φ [] A
  | o :: l, Φ, a, A => Loc B A ∧ ((Region.wanted o (yielded ops a.tmps) = true ∧ StepR P B o a A (fun v A' => Loc B A' ∧ TW P ops B l (fun vs => Φ (v :: vs)) (a.put o.dst v) A')) ∨
      (Region.wanted o (yielded ops a.tmps) = false ∧ TW P ops B l (fun vs => Φ (undef :: vs)) (a.put o.dst undef) A))

def putAll : List Oper → List Value → Act → Act
  | o :: l, v :: vs, a => putAll l vs (a.put o.dst v)
  | _, _, a => a

theorem StepR.imp {o : Oper} {a : Act} {A : HP} {Ψ Ψ' : Value → HP → Prop} (h : StepR P B o a A Ψ) (hi : ∀ v A', Ψ v A' → Ψ' v A') : StepR P B o a A Ψ' := by
  intro R _ w hB hO
  have h1 := h R w hB hO
  generalize (execOp a.eval o).run P w = r at h1 ⊢
  cases r with
  | ok n w' =>
    cases n <;> simp only at h1 ⊢
    case value u => obtain ⟨A', h2, h3⟩ := h1; exact ⟨A', hi _ _ h2, h3⟩
    case skip => obtain ⟨A', h2, h3⟩ := h1; exact ⟨A', hi _ _ h2, h3⟩
    case enter f args => exact h1.mono fun e w'' ⟨u, A', he, h2, h3⟩ => ⟨u, A', he, hi _ _ h2, h3⟩
  | halt x w' => cases x <;> exact h1.elim

theorem TW.put (hsel : Region.noSelect ops = true) {oi : Oper} {v : Value} : ∀ (l : List Oper) (Φ : List Value → HP → Prop) (a : Act) (A : HP), (∀ o ∈ l, (∃ j : Nat, ops[j]? = some o) ∧ o.apart ops oi = true) → TW P ops B l Φ a A → TW P ops B l Φ (a.put oi.dst v) A
  | [], _, _, _, _, h => h
  | o :: l, Φ, a, A, hap, h => by
    obtain ⟨⟨j, hj⟩, hoa⟩ := hap o List.mem_cons_self
    obtain ⟨h1, h2, h3⟩ := Oper.apart_spec hoa
    have sj := Region.noSelect_spec hsel j o
    have he := execOp_put o (fun cs b => sj cs b hj) a oi.dst v h3
    have hw := wanted_put o a oi.dst v h3
    have hl : ∀ o' ∈ l, (∃ j : Nat, ops[j]? = some o') ∧ o'.apart ops oi = true := fun o' ho' => hap o' (List.mem_cons_of_mem _ ho')
    obtain ⟨hloc, h⟩ := h
    refine ⟨hloc, ?_⟩
    rcases h with ⟨hwa, hst⟩ | ⟨hwa, hr⟩
    · left
      refine ⟨by rw [hw]; exact hwa, ?_⟩
      have hst' : StepR P B o (a.put oi.dst v) A (fun v' A' => Loc B A' ∧ TW P ops B l (fun vs => Φ (v' :: vs)) (a.put o.dst v') A') := by
        unfold StepR at hst ⊢
        rw [he]
        exact hst
      refine hst'.imp fun v' A' ⟨hl', ht⟩ => ⟨hl', ?_⟩
      rw [← Act.put_comm a v' v h2]
      exact TW.put hsel l _ _ _ hl ht
    · right
      refine ⟨by rw [hw]; exact hwa, ?_⟩
      rw [← Act.put_comm a undef v h2]
      exact TW.put hsel l _ _ _ hl hr

theorem putAll_put : ∀ (l : List Oper) (vs : List Value) (a : Act) (oi : Oper) (v : Value), (∀ o ∈ l, o.apart ops oi = true) → putAll l vs (a.put oi.dst v) = (putAll l vs a).put oi.dst v
  | [], _, _, _, _, _ => by simp [putAll]
  | o :: l, [], _, _, _, _ => by simp [putAll]
  | o :: l, u :: vs, a, oi, v, h => by
    obtain ⟨h1, h2, h3⟩ := Oper.apart_spec (h o List.mem_cons_self)
    show putAll l vs ((a.put oi.dst v).put o.dst u) = (putAll l vs (a.put o.dst u)).put oi.dst v
    rw [← Act.put_comm a u v h2]
    exact putAll_put l vs _ oi v (fun o' ho' => h o' (List.mem_cons_of_mem _ ho'))

theorem StepR.wp {o : Oper} {a : Act} {A R : HP} [Loc B R] {Ψ : Value → HP → Prop} {w : World} (h : StepR P B o a A Ψ) (hB : B ≤ w.heap.size) (hO : Own B (A * R) w) {K : Act → World → Prop}
    (hK : ∀ v A' w', Ψ v A' → Own B (A' * R) w' → Below B w w' → K (a.put o.dst v) w') : o.wp P a w K Q := by
  have h1 := h R w hB hO
  unfold Oper.wp
  generalize (execOp a.eval o).run P w = r at h1
  cases r with
  | ok n w' =>
    cases n <;> simp only [Oper.upon] at h1 ⊢
    case value u => obtain ⟨A', h2, h3, h4⟩ := h1; exact hK _ _ _ h2 h3 h4
    case skip => obtain ⟨A', h2, h3, h4⟩ := h1; exact hK _ _ _ h2 h3 h4
    case enter f args => exact h1.mono fun e w'' ⟨u, A', he, h2, h3, h4⟩ => by subst he; exact hK _ _ _ h2 h3 h4
  | halt x w' => cases x <;> exact h1.elim

/-! the static look -/
def apartAll (ops : Array Oper) (l1 l2 : List Nat) : Bool := l1.all fun i => l2.all fun j => match ops[i]?, ops[j]? with | some oi, some oj => oi.apart ops oj && oj.apart ops oi | _, _ => false
def lastOf : List Nat → Option Nat
  | [] => none
  | [i] => some i
  | _ :: l => lastOf l
def behind (md : Region.Mode) (ops : Array Oper) (l : List Nat) (t : Nat) : Bool := match lastOf l with | none => true | some i => Region.waitsFor md ops t i
def twoB (md : Region.Mode) (ops : Array Oper) (listed : Array Bool) (l1 l2 ts : List Nat) : Bool :=
  Region.noSelect ops && decide (listed.size = ops.size) &&
  ((List.range ops.size).all fun j => listed.getD j true || l1.contains j || l2.contains j || ts.contains j) &&
  ((l1 ++ l2 ++ ts).all fun j => decide (j < ops.size) && !listed.getD j true) &&
  decide (l1 ++ l2).Nodup && lexOk md ops l1 listed && lexOk md ops l2 listed && chained md ops l1 && chained md ops l2 &&
  (ts.all fun t => !(l1 ++ l2).contains t && ((ts.any fun s => Region.waitsFor md ops t s) || (behind md ops l1 t && behind md ops l2 t))) && apartAll ops l1 l2

structure TwoOk (md : Region.Mode) (ops : Array Oper) (listed : Array Bool) (l1 l2 ts : List Nat) : Prop where
  size : listed.size = ops.size
  cover : ∀ j, j < ops.size → listed.getD j true = false → j ∈ l1 ∨ j ∈ l2 ∨ j ∈ ts
  un : ∀ j, j ∈ l1 ∨ j ∈ l2 ∨ j ∈ ts → j < ops.size ∧ listed.getD j true = false
  nd1 : l1.Nodup
  nd2 : l2.Nodup
  dis : ∀ i ∈ l1, i ∉ l2
  ndt : ∀ t ∈ ts, t ∉ l1 ∧ t ∉ l2
  lex1 : lexOk md ops l1 listed = true
  lex2 : lexOk md ops l2 listed = true
  ch1 : chained md ops l1 = true
  ch2 : chained md ops l2 = true
  root : ∀ t ∈ ts, (∃ s ∈ ts, Region.waitsFor md ops t s = true) ∨ (behind md ops l1 t = true ∧ behind md ops l2 t = true)
  apart : ∀ i ∈ l1, ∀ j ∈ l2, ∀ oi oj, ops[i]? = some oi → ops[j]? = some oj → oi.apart ops oj = true ∧ oj.apart ops oi = true

theorem twoB_ok {listed : Array Bool} {l1 l2 ts : List Nat} (h : twoB md ops listed l1 l2 ts = true) : Region.noSelect ops = true ∧ TwoOk md ops listed l1 l2 ts := by
  simp only [twoB, Bool.and_eq_true, decide_eq_true_eq] at h
  obtain ⟨⟨⟨⟨⟨⟨⟨⟨⟨⟨h1, h2⟩, h3⟩, h4⟩, h5⟩, h6⟩, h7⟩, h8⟩, h9⟩, h10⟩, h11⟩ := h
  have hnd := List.nodup_append.1 h5
  refine ⟨h1, h2, fun j hj hl => ?_, fun j hj => ?_, hnd.1, hnd.2.1, fun i hi hi2 => hnd.2.2 i hi i hi2 rfl, fun t ht => ?_, h6, h7, h8, h9, fun t ht => ?_, fun i hi j hj oi oj hoi hoj => ?_⟩
  · have := List.all_eq_true.1 h3 j (List.mem_range.2 hj)
    rw [hl] at this
    simpa [or_assoc] using this
  · have := List.all_eq_true.1 h4 j (by simp; exact hj)
    simp only [Bool.and_eq_true, decide_eq_true_eq, Bool.not_eq_true'] at this
    exact this
  · have := List.all_eq_true.1 h10 t ht
    simp only [Bool.and_eq_true, Bool.not_eq_true'] at this
    have h := this.1
    simp at h
    exact h
  · have := List.all_eq_true.1 h10 t ht
    simp only [Bool.and_eq_true, Bool.or_eq_true, List.any_eq_true] at this
    exact this.2
  · have := List.all_eq_true.1 (List.all_eq_true.1 h11 i hi) j hj
    rw [hoi, hoj] at this
    simpa [Bool.and_eq_true] using this

theorem lastOf_mem : ∀ (l : List Nat) (i : Nat), lastOf l = some i → i ∈ l
  | [x], i, h => by injection h with h; subst h; exact List.mem_cons_self
  | x :: y :: l, i, h => List.mem_cons_of_mem _ (lastOf_mem (y :: l) i h)
theorem lastOf_some : ∀ (x : Nat) (l : List Nat), ∃ i, lastOf (x :: l) = some i
  | x, [] => ⟨x, rfl⟩
  | _, y :: l => lastOf_some y l

theorem TwoOk.only {listed : Array Bool} {l1 l2 ts : List Nat} (ok : TwoOk md ops listed l1 l2 ts) (hne : l1 ≠ [] ∨ l2 ≠ []) {i : Nat} (hi : i ∈ Region.ready md ops listed) : (∃ l, l1 = i :: l) ∨ (∃ l, l2 = i :: l) := by
  obtain ⟨hlt, hun, hed⟩ := mem_ready'.1 hi
  have bad : ∀ s, s ∈ l1 ∨ s ∈ l2 ∨ s ∈ ts → Region.waitsFor md ops i s = true → False := fun s hs' hw => by
    have h1 := edgesIn_waits hed hw
    rw [getD_both (ok.un s hs').2] at h1
    cases h1
  rcases ok.cover i hlt hun with h | h | h
  · rcases chained_prev l1 i ok.ch1 h with h2 | ⟨s, hs, hw⟩
    · exact .inl h2
    · exact (bad s (.inl hs) hw).elim
  · rcases chained_prev l2 i ok.ch2 h with h2 | ⟨s, hs, hw⟩
    · exact .inr h2
    · exact (bad s (.inr (.inl hs)) hw).elim
  · exfalso
    rcases ok.root i h with ⟨s, hs, hw⟩ | ⟨hb1, hb2⟩
    · exact bad s (.inr (.inr hs)) hw
    · rcases hne with hne | hne
      · obtain ⟨x, l, rfl⟩ : ∃ x l, l1 = x :: l := by cases l1 with | nil => exact absurd rfl hne | cons x l => exact ⟨x, l, rfl⟩
        obtain ⟨j, hj⟩ := lastOf_some x l
        rw [behind, hj] at hb1
        exact bad j (.inl (lastOf_mem _ _ hj)) hb1
      · obtain ⟨x, l, rfl⟩ : ∃ x l, l2 = x :: l := by cases l2 with | nil => exact absurd rfl hne | cons x l => exact ⟨x, l, rfl⟩
        obtain ⟨j, hj⟩ := lastOf_some x l
        rw [behind, hj] at hb2
        exact bad j (.inr (.inl (lastOf_mem _ _ hj))) hb2

theorem behind_tail {i : Nat} {l : List Nat} {t : Nat} (h : behind md ops (i :: l) t = true) : behind md ops l t = true := by
  cases l with
  | nil => rfl
  | cons y l => exact h
theorem chained_tail {i : Nat} {l : List Nat} (h : chained md ops (i :: l) = true) : chained md ops l = true := by
  simp only [chained, Bool.and_eq_true] at h
  exact h.2

theorem TwoOk.swap {listed : Array Bool} {l1 l2 ts : List Nat} (ok : TwoOk md ops listed l1 l2 ts) : TwoOk md ops listed l2 l1 ts :=
  ⟨ok.size, fun j hj hl => (by rcases ok.cover j hj hl with h | h | h <;> simp [h]), fun j hj => ok.un j (by rcases hj with h | h | h <;> simp [h]), ok.nd2, ok.nd1, fun i hi h => ok.dis i h hi, fun t ht => (ok.ndt t ht).symm, ok.lex2, ok.lex1, ok.ch2, ok.ch1,
   fun t ht => (ok.root t ht).imp id And.symm, fun i hi j hj oi oj hoi hoj => (ok.apart j hj i hi oj oi hoj hoi).symm⟩

theorem TwoOk.strike {listed : Array Bool} {i : Nat} {l1 l2 ts : List Nat} (ok : TwoOk md ops listed (i :: l1) l2 ts) : TwoOk md ops (listed.setIfInBounds i true) l1 l2 ts := by
  obtain ⟨hlt, hui⟩ := ok.un i (.inl List.mem_cons_self)
  have hn := List.nodup_cons.1 ok.nd1
  have hi2 := ok.dis i List.mem_cons_self
  have hne : ∀ j, j ∈ l1 ∨ j ∈ l2 ∨ j ∈ ts → i ≠ j := by
    rintro j hj rfl
    rcases hj with h | h | h
    · exact hn.1 h
    · exact hi2 h
    · exact (ok.ndt i h).1 List.mem_cons_self
  have hlex := ok.lex1
  simp only [lexOk, Bool.and_eq_true] at hlex
  refine ⟨by simp [ok.size], fun j hj hl => ?_, fun j hj => ?_, hn.2, ok.nd2, fun j hj => ok.dis j (List.mem_cons_of_mem _ hj), fun t ht => ⟨fun h => (ok.ndt t ht).1 (List.mem_cons_of_mem _ h), (ok.ndt t ht).2⟩, hlex.2, lexOk_set _ _ ok.lex2, chained_tail ok.ch1, ok.ch2,
    fun t ht => (ok.root t ht).imp id (fun h => ⟨behind_tail h.1, h.2⟩), fun a ha b hb => ok.apart a (List.mem_cons_of_mem _ ha) b hb⟩
  · by_cases hij : i = j
    · subst hij
      rw [show (listed.setIfInBounds i true).getD i true = true by simp [ok.size, hlt]] at hl
      cases hl
    · rw [getD_set_ne true hij] at hl
      rcases ok.cover j hj hl with h | h | h
      · rcases List.mem_cons.1 h with h | h
        · exact absurd h.symm hij
        · exact .inl h
      · exact .inr (.inl h)
      · exact .inr (.inr h)
  · have := ok.un j (by rcases hj with h | h | h <;> simp [h])
    exact ⟨this.1, by rw [getD_set_ne true (hne j hj)]; exact this.2⟩

theorem markAll_set : ∀ (l : List Nat) (i : Nat) (listed : Array Bool), markAll l (listed.setIfInBounds i true) = (markAll l listed).setIfInBounds i true
  | [], _, _ => rfl
  | j :: l, i, listed => by
    show markAll l ((listed.setIfInBounds i true).setIfInBounds j true) = (markAll l (listed.setIfInBounds j true)).setIfInBounds i true
    rw [← markAll_set l i]
    by_cases h : i = j
    · subst h; rfl
    · rw [Array.setIfInBounds_comm _ _ h]

def opsOf (ops : Array Oper) (l : List Nat) : List Oper := l.filterMap fun i => ops[i]?
theorem opsOf_cons {i : Nat} {l : List Nat} {o : Oper} (h : ops[i]? = some o) : opsOf ops (i :: l) = o :: opsOf ops l := by simp [opsOf, h]
theorem mem_opsOf {l : List Nat} {o : Oper} (h : o ∈ opsOf ops l) : ∃ i ∈ l, ops[i]? = some o := by
  simpa [opsOf] using h

theorem wpAny_two (hsel : Region.noSelect ops = true) {ts : List Nat} {R : HP} [Loc B R] {fuel : Nat} : ∀ (n : Nat) (l1 l2 : List Nat) (listed : Array Bool) (a : Act) (w : World) (Φ1 Φ2 : List Value → HP → Prop) (A1 A2 : HP), l1.length + l2.length = n → Loc B A1 → Loc B A2 →
    TwoOk md ops listed l1 l2 ts → TW P ops B (opsOf ops l1) Φ1 a A1 → TW P ops B (opsOf ops l2) Φ2 a A2 → B ≤ w.heap.size → Own B (A1 * (A2 * R)) w →
    (∀ vs1 A1' vs2 A2' w', Φ1 vs1 A1' → Φ2 vs2 A2' → Own B (A1' * (A2' * R)) w' → Below B w w' → wpAny P md ops Q fuel (markAll l2 (markAll l1 listed)) (putAll (opsOf ops l2) vs2 (putAll (opsOf ops l1) vs1 a)) w') →
    wpAny P md ops Q (n + fuel) listed a w
  | 0, l1, l2, listed, a, w, Φ1, Φ2, A1, A2, hn, _, _, ok, h1, h2, hB, hO, hK => by
    obtain rfl : l1 = [] := List.eq_nil_of_length_eq_zero (by omega)
    obtain rfl : l2 = [] := List.eq_nil_of_length_eq_zero (by omega)
    rw [Nat.zero_add]
    exact hK [] A1 [] A2 w h1 h2 hO (Below.refl B w)
  | n + 1, l1, l2, listed, a, w, Φ1, Φ2, A1, A2, hn, k1, k2, ok, h1, h2, hB, hO, hK => by
    rw [show n + 1 + fuel = (n + fuel) + 1 by omega]
    have hne : l1 ≠ [] ∨ l2 ≠ [] := by
      cases l1 with
      | nil => right; intro e; subst e; simp at hn
      | cons x l => left; simp
    have hrdy : Region.ready md ops listed ≠ [] := by
      intro h0
      rcases hne with hne | hne
      · obtain ⟨x, l, rfl⟩ : ∃ x l, l1 = x :: l := by cases l1 with | nil => exact absurd rfl hne | cons x l => exact ⟨x, l, rfl⟩
        have hlex := ok.lex1
        simp only [lexOk, Bool.and_eq_true] at hlex
        have hun := ok.un x (by simp)
        have : x ∈ Region.ready md ops listed := mem_ready'.2 ⟨hun.1, hun.2, hlex.1⟩
        rw [h0] at this; cases this
      · obtain ⟨x, l, rfl⟩ : ∃ x l, l2 = x :: l := by cases l2 with | nil => exact absurd rfl hne | cons x l => exact ⟨x, l, rfl⟩
        have hlex := ok.lex2
        simp only [lexOk, Bool.and_eq_true] at hlex
        have hun := ok.un x (by simp)
        have : x ∈ Region.ready md ops listed := mem_ready'.2 ⟨hun.1, hun.2, hlex.1⟩
        rw [h0] at this; cases this
    refine ⟨fun h0 => absurd h0 hrdy, fun i hi => ?_⟩
    have hlt := (mem_ready'.1 hi).1
    obtain ⟨o, ho⟩ : ∃ o, ops[i]? = some o := ⟨_, Array.getElem?_eq_getElem hlt⟩
    unfold wpOp
    simp only [ho]
    rcases ok.only hne hi with ⟨l, rfl⟩ | ⟨l, rfl⟩
    · rw [opsOf_cons ho] at h1
      have hap : ∀ o' ∈ opsOf ops l2, (∃ j : Nat, ops[j]? = some o') ∧ o'.apart ops o = true := fun o' h' => by
        obtain ⟨j, hj, hoj⟩ := mem_opsOf h'
        exact ⟨⟨j, hoj⟩, (ok.apart i List.mem_cons_self j hj o o' ho hoj).2⟩
      have hlen : l.length + l2.length = n := by simp at hn; omega
      obtain ⟨_, h1 | h1⟩ := h1
      · rw [if_pos h1.1]
        left
        refine h1.2.wp hB hO fun v A' w' ⟨kl, ht⟩ hO' hb => ?_
        refine wpAny_two hsel n l l2 _ _ w' (fun vs => Φ1 (v :: vs)) Φ2 A' A2 hlen kl k2 ok.strike ht (h2.put hsel _ _ _ _ hap) (Nat.le_trans hB hb.size) hO' fun vs1 A1' vs2 A2' w'' p1 p2 hO'' hb' => ?_
        have := hK (v :: vs1) A1' vs2 A2' w'' p1 p2 hO'' (hb.trans hb')
        rw [opsOf_cons ho] at this
        exact this
      · rw [if_neg (by rw [h1.1]; exact Bool.false_ne_true)]
        refine wpAny_two hsel n l l2 _ _ w (fun vs => Φ1 (undef :: vs)) Φ2 A1 A2 hlen k1 k2 ok.strike h1.2 (h2.put hsel _ _ _ _ hap) hB hO fun vs1 A1' vs2 A2' w'' p1 p2 hO'' hb' => ?_
        have := hK (undef :: vs1) A1' vs2 A2' w'' p1 p2 hO'' hb'
        rw [opsOf_cons ho] at this
        exact this
    · rw [opsOf_cons ho] at h2
      have hap : ∀ o' ∈ opsOf ops l1, (∃ j : Nat, ops[j]? = some o') ∧ o'.apart ops o = true := fun o' h' => by
        obtain ⟨j, hj, hoj⟩ := mem_opsOf h'
        exact ⟨⟨j, hoj⟩, (ok.apart j hj i List.mem_cons_self o' o hoj ho).1⟩
      have hlen : l1.length + l.length = n := by simp at hn; omega
      obtain ⟨_, h2 | h2⟩ := h2
      · rw [if_pos h2.1]
        left
        refine h2.2.wp hB (hO.cast (sep_left_comm _ _ _)) fun v A' w' ⟨kl, ht⟩ hO' hb => ?_
        refine wpAny_two hsel n l1 l _ _ w' Φ1 (fun vs => Φ2 (v :: vs)) A1 A' hlen k1 kl ok.swap.strike.swap (h1.put hsel _ _ _ _ hap) ht (Nat.le_trans hB hb.size) (hO'.cast (sep_left_comm _ _ _)) fun vs1 A1' vs2 A2' w'' p1 p2 hO'' hb' => ?_
        have := hK vs1 A1' (v :: vs2) A2' w'' p1 p2 hO'' (hb.trans hb')
        rw [opsOf_cons ho] at this
        rw [putAll_put _ _ _ _ _ (fun o' h' => (hap o' h').2), markAll_set]
        exact this
      · rw [if_neg (by rw [h2.1]; exact Bool.false_ne_true)]
        refine wpAny_two hsel n l1 l _ _ w Φ1 (fun vs => Φ2 (undef :: vs)) A1 A2 hlen k1 k2 ok.swap.strike.swap (h1.put hsel _ _ _ _ hap) h2.2 hB hO fun vs1 A1' vs2 A2' w'' p1 p2 hO'' hb' => ?_
        have := hK vs1 A1' (undef :: vs2) A2' w'' p1 p2 hO'' hb'
        rw [opsOf_cons ho] at this
        rw [putAll_put _ _ _ _ _ (fun o' h' => (hap o' h').2), markAll_set]
        exact this

/-- THE RULE: us free, at whatever time · l1 and l2 two threads · ts behind both. -/
theorem wp_region_two {id : Nat} {a : Act} {w : World} (us l1 l2 ts : List Nat) (A1 A2 R : HP) [k1 : Loc B A1] [k2 : Loc B A2] [Loc B R] (hm : P.follows .mixedOrders = true)
    (hB : (freeB .any ops us (Array.replicate ops.size false) && twoB .any ops (markAll us (Array.replicate ops.size false)) l1 l2 ts) = true) (hf : ops.size = us.length + ((l1.length + l2.length) + ts.length))
    (hQ : ∀ c a d v w, Q (.panic c) (a.put (some d) v) w → Q (.panic c) a w) (hsz : B ≤ w.heap.size) (hO : Own B (A1 * (A2 * R)) w.drew)
    (h : wpFree P ops (fun a1 => ∃ Φ1 Φ2 : List Value → HP → Prop, TW P ops B (opsOf ops l1) Φ1 a1 A1 ∧ TW P ops B (opsOf ops l2) Φ2 a1 A2 ∧
      ∀ vs1 A1' vs2 A2' w', Φ1 vs1 A1' → Φ2 vs2 A2' → Own B (A1' * (A2' * R)) w' → Below B w w' → wpAny P .any ops Q ts.length (markAll l2 (markAll l1 (markAll us (Array.replicate ops.size false)))) (putAll (opsOf ops l2) vs2 (putAll (opsOf ops l1) vs1 a1)) w')
      (us.filterMap fun i => ops[i]?) a) : (Code.region id ops true).wp P Q a w := by
  rw [Bool.and_eq_true] at hB
  refine wp_region_any hm ?_
  obtain ⟨hsel, ok⟩ := twoB_ok hB.2
  have hgo : wpAny P .any ops Q (us.length + ((l1.length + l2.length) + ts.length)) (Array.replicate ops.size false) a w.drew := by
    refine wpAny_free hQ hsel us _ a hB.1 (fun a' ⟨Φ1, Φ2, t1, t2, hK⟩ => ?_) h
    exact wpAny_two hsel (l1.length + l2.length) l1 l2 _ a' _ Φ1 Φ2 A1 A2 rfl k1 k2 ok t1 t2 hsz hO fun vs1 A1' vs2 A2' w' p1 p2 ho hb => hK vs1 A1' vs2 A2' w' p1 p2 ho ((Below.refl B w).drew.trans hb)
  rw [← hf] at hgo
  exact hgo

/-! the steps -/
theorem tw_nil {Φ : List Value → HP → Prop} {a : Act} {A : HP} (h : Φ [] A) : TW P ops B [] Φ a A := h
theorem tw_val {o : Oper} {l : List Oper} {Φ : List Value → HP → Prop} {a : Act} {A : HP} [k : Loc B A] (v : Value) (hw : Region.wanted o (yielded ops a.tmps) = true)
    (hv : ∀ (R : HP) [Loc B R] (w : World), Own B (A * R) w → (execOp a.eval o).run P w = .ok (.value v) w) (h : TW P ops B l (fun vs => Φ (v :: vs)) (a.put o.dst v) A) : TW P ops B (o :: l) Φ a A :=
  ⟨k, .inl ⟨hw, fun R _ w hB hO => by rw [hv R w hO]; exact ⟨A, ⟨k, h⟩, hO, Below.refl B w⟩⟩⟩
theorem tw_call {o : Oper} {l : List Oper} {Φ : List Value → HP → Prop} {a : Act} {A : HP} [k : Loc B A] (f : FuncId) (args : Array Value) (Ψ : Value → HP → Prop) (hw : Region.wanted o (yielded ops a.tmps) = true)
    (hr : ∀ (R : HP) [Loc B R] (w : World), Own B (A * R) w → (execOp a.eval o).run P w = .ok (.enter f args) w)
    (hc : ∀ (R : HP) [Loc B R] (w : World), B ≤ w.heap.size → Own B (A * R) w → Calls P f args w fun e w' => ∃ v A', e = .returned v ∧ (Loc B A' ∧ Ψ v A') ∧ Own B (A' * R) w' ∧ Below B w w')
    (h : ∀ v A', Loc B A' → Ψ v A' → TW P ops B l (fun vs => Φ (v :: vs)) (a.put o.dst v) A') : TW P ops B (o :: l) Φ a A :=
  ⟨k, .inl ⟨hw, fun R _ w hB hO => by rw [hr R w hO]; exact (hc R w hB hO).mono fun e w' ⟨v, A', he, ⟨kl, hp⟩, ho, hb⟩ => ⟨v, A', he, ⟨kl, h v A' kl hp⟩, ho, hb⟩⟩⟩
theorem Own.row_n {B : Nat} {R : HP} {w : World} {e : TypeId} {size : Nat} {v : Value} {n : Nat} {xs : List Value} (h : Own B (Rw e size v n xs * R) w) : ∃ A c, v = .slice A n c := by
  rcases h.row.2 with ⟨rfl, rfl⟩ | ⟨g, cap, cur, rfl, _⟩
  · exact ⟨_, _, rfl⟩
  · exact ⟨_, _, rfl⟩
end
end Go.Proofs.Ytedcficjmogohaa

/- The rule of two threads once more: with reads that what both leave alone decides, in whatever order; and steps that append. -/
namespace Go.Proofs.Ytedcficjmogohaa
set_option linter.unusedVariables false
set_option linter.unusedSimpArgs false
set_option maxRecDepth 100000
open Go.RowKit

section
variable {P : Program} {ops : Array Oper} {md : Region.Mode} {Q : Exit → Act → World → Prop} {B : Nat}

theorem wpL_two (hsel : Region.noSelect ops = true) {ts : List Nat} {R : HP} [Loc B R] {T : Act → World → Prop} : ∀ (n : Nat) (l1 l2 : List Nat) (listed : Array Bool) (a : Act) (w : World) (Φ1 Φ2 : List Value → HP → Prop) (A1 A2 : HP), l1.length + l2.length = n → Loc B A1 → Loc B A2 →
    TwoOk md ops listed l1 l2 ts → TW P ops B (opsOf ops l1) Φ1 a A1 → TW P ops B (opsOf ops l2) Φ2 a A2 → B ≤ w.heap.size → Own B (A1 * (A2 * R)) w →
    (∀ vs1 A1' vs2 A2' w', Φ1 vs1 A1' → Φ2 vs2 A2' → Own B (A1' * (A2' * R)) w' → Below B w w' → T (putAll (opsOf ops l2) vs2 (putAll (opsOf ops l1) vs1 a)) w') →
    wpL P md ops Q (fun w => Own B R w) T n listed a w
  | 0, l1, l2, listed, a, w, Φ1, Φ2, A1, A2, hn, _, _, ok, h1, h2, hB, hO, hK => by
    obtain rfl : l1 = [] := List.eq_nil_of_length_eq_zero (by omega)
    obtain rfl : l2 = [] := List.eq_nil_of_length_eq_zero (by omega)
    exact hK [] A1 [] A2 w h1 h2 hO (Below.refl B w)
  | n + 1, l1, l2, listed, a, w, Φ1, Φ2, A1, A2, hn, k1, k2, ok, h1, h2, hB, hO, hK => by
    have hne : l1 ≠ [] ∨ l2 ≠ [] := by
      cases l1 with
      | nil => right; intro e; subst e; simp at hn
      | cons x l => left; simp
    have hrdy : Region.ready md ops listed ≠ [] := by
      intro h0
      rcases hne with hne | hne
      · obtain ⟨x, l, rfl⟩ : ∃ x l, l1 = x :: l := by cases l1 with | nil => exact absurd rfl hne | cons x l => exact ⟨x, l, rfl⟩
        have hlex := ok.lex1
        simp only [lexOk, Bool.and_eq_true] at hlex
        have hun := ok.un x (by simp)
        have : x ∈ Region.ready md ops listed := mem_ready'.2 ⟨hun.1, hun.2, hlex.1⟩
        rw [h0] at this; cases this
      · obtain ⟨x, l, rfl⟩ : ∃ x l, l2 = x :: l := by cases l2 with | nil => exact absurd rfl hne | cons x l => exact ⟨x, l, rfl⟩
        have hlex := ok.lex2
        simp only [lexOk, Bool.and_eq_true] at hlex
        have hun := ok.un x (by simp)
        have : x ∈ Region.ready md ops listed := mem_ready'.2 ⟨hun.1, hun.2, hlex.1⟩
        rw [h0] at this; cases this
    have hd : ∀ {A1' A2' : HP} {w' : World}, Loc B A1' → Loc B A2' → Own B (A1' * (A2' * R)) w' → Own B R w' := fun _ _ h => h.right.right
    refine ⟨hrdy, fun i hi => ?_⟩
    have hlt := (mem_ready'.1 hi).1
    obtain ⟨o, ho⟩ : ∃ o, ops[i]? = some o := ⟨_, Array.getElem?_eq_getElem hlt⟩
    unfold wpOp
    simp only [ho]
    rcases ok.only hne hi with ⟨l, rfl⟩ | ⟨l, rfl⟩
    · rw [opsOf_cons ho] at h1
      have hap : ∀ o' ∈ opsOf ops l2, (∃ j : Nat, ops[j]? = some o') ∧ o'.apart ops o = true := fun o' h' => by
        obtain ⟨j, hj, hoj⟩ := mem_opsOf h'
        exact ⟨⟨j, hoj⟩, (ok.apart i List.mem_cons_self j hj o o' ho hoj).2⟩
      have hlen : l.length + l2.length = n := by simp at hn; omega
      obtain ⟨_, h1 | h1⟩ := h1
      · rw [if_pos h1.1]
        left
        refine h1.2.wp hB hO fun v A' w' ⟨kl, ht⟩ hO' hb => ⟨hd kl k2 hO', ?_⟩
        refine wpL_two hsel n l l2 _ _ w' (fun vs => Φ1 (v :: vs)) Φ2 A' A2 hlen kl k2 ok.strike ht (h2.put hsel _ _ _ _ hap) (Nat.le_trans hB hb.size) hO' fun vs1 A1' vs2 A2' w'' p1 p2 hO'' hb' => ?_
        have := hK (v :: vs1) A1' vs2 A2' w'' p1 p2 hO'' (hb.trans hb')
        rw [opsOf_cons ho] at this
        exact this
      · rw [if_neg (by rw [h1.1]; exact Bool.false_ne_true)]
        refine ⟨hd k1 k2 hO, wpL_two hsel n l l2 _ _ w (fun vs => Φ1 (undef :: vs)) Φ2 A1 A2 hlen k1 k2 ok.strike h1.2 (h2.put hsel _ _ _ _ hap) hB hO fun vs1 A1' vs2 A2' w'' p1 p2 hO'' hb' => ?_⟩
        have := hK (undef :: vs1) A1' vs2 A2' w'' p1 p2 hO'' hb'
        rw [opsOf_cons ho] at this
        exact this
    · rw [opsOf_cons ho] at h2
      have hap : ∀ o' ∈ opsOf ops l1, (∃ j : Nat, ops[j]? = some o') ∧ o'.apart ops o = true := fun o' h' => by
        obtain ⟨j, hj, hoj⟩ := mem_opsOf h'
        exact ⟨⟨j, hoj⟩, (ok.apart j hj i List.mem_cons_self o' o hoj ho).1⟩
      have hlen : l1.length + l.length = n := by simp at hn; omega
      obtain ⟨_, h2 | h2⟩ := h2
      · rw [if_pos h2.1]
        left
        refine h2.2.wp hB (hO.cast (sep_left_comm _ _ _)) fun v A' w' ⟨kl, ht⟩ hO' hb => ⟨hd kl k1 hO', ?_⟩
        refine wpL_two hsel n l1 l _ _ w' Φ1 (fun vs => Φ2 (v :: vs)) A1 A' hlen k1 kl ok.swap.strike.swap (h1.put hsel _ _ _ _ hap) ht (Nat.le_trans hB hb.size) (hO'.cast (sep_left_comm _ _ _)) fun vs1 A1' vs2 A2' w'' p1 p2 hO'' hb' => ?_
        have := hK vs1 A1' (v :: vs2) A2' w'' p1 p2 hO'' (hb.trans hb')
        rw [opsOf_cons ho] at this
        rw [putAll_put _ _ _ _ _ (fun o' h' => (hap o' h').2)]
        exact this
      · rw [if_neg (by rw [h2.1]; exact Bool.false_ne_true)]
        refine ⟨hd k1 k2 hO, wpL_two hsel n l1 l _ _ w Φ1 (fun vs => Φ2 (undef :: vs)) A1 A2 hlen k1 k2 ok.swap.strike.swap (h1.put hsel _ _ _ _ hap) h2.2 hB hO fun vs1 A1' vs2 A2' w'' p1 p2 hO'' hb' => ?_⟩
        have := hK vs1 A1' (undef :: vs2) A2' w'' p1 p2 hO'' hb'
        rw [opsOf_cons ho] at this
        rw [putAll_put _ _ _ _ _ (fun o' h' => (hap o' h').2)]
        exact this

/-- THE RULE: us free · ls: reads that R decides, ahead of ts · l1 and l2 two threads · ts the rest, in their order. -/
theorem wp_region_ltwo {id : Nat} {a : Act} {w : World} (us ls l1 l2 ts : List Nat) (A1 A2 R : HP) [k1 : Loc B A1] [k2 : Loc B A2] [Loc B R] (hm : P.follows .mixedOrders = true)
    (hB : (freeB .any ops us (Array.replicate ops.size false) && mixB .any ops (markAll us (Array.replicate ops.size false)) (ls ++ (l1 ++ l2)) ts && twoB .any ops (markAll ls (markAll us (Array.replicate ops.size false))) l1 l2 ts) = true)
    (hf : ops.size = us.length + ((ls.length + (l1.length + l2.length)) + ts.length))
    (hQ : ∀ c a d v w, Q (.panic c) (a.put (some d) v) w → Q (.panic c) a w) (hsz : B ≤ w.heap.size) (hO : Own B (A1 * (A2 * R)) w.drew)
    (h : wpFree P ops (fun a1 => wpLate P ops (fun w => Own B R w) (fun a2 => ∃ Φ1 Φ2 : List Value → HP → Prop, TW P ops B (opsOf ops l1) Φ1 a2 A1 ∧ TW P ops B (opsOf ops l2) Φ2 a2 A2 ∧
      ∀ vs1 A1' vs2 A2' w', Φ1 vs1 A1' → Φ2 vs2 A2' → Own B (A1' * (A2' * R)) w' → Below B w w' → wpList P ops Q (ts.filterMap fun i => ops[i]?) (putAll (opsOf ops l2) vs2 (putAll (opsOf ops l1) vs1 a2)) w')
      (ls.filterMap fun i => ops[i]?) a1) (us.filterMap fun i => ops[i]?) a) : (Code.region id ops true).wp P Q a w := by
  simp only [Bool.and_eq_true] at hB
  obtain ⟨⟨hB1, hB2⟩, hB3⟩ := hB
  obtain ⟨hsel, ok1⟩ := mixB_ok hB2
  obtain ⟨_, ok2⟩ := twoB_ok hB3
  have hts : ∀ i ∈ ts, i < ops.size := fun i hi => (ok1.un i (by simp [hi])).1
  refine wp_region_any hm ?_
  have hR : Own B R w.drew := hO.right.right
  have hgo : wpAny P .any ops Q (us.length + ((ls.length + (l1.length + l2.length)) + ts.length)) (Array.replicate ops.size false) a w.drew := by
    refine wpAny_free hQ hsel us _ a hB1 (fun a1 h1 => ?_) h
    refine wpL_any (S := fun w => Own B R w) (T := fun a4 w4 => wpOps P ops Q ts a4 w4) (fun _ _ h => h) _ (ls ++ (l1 ++ l2)) _ a1 _ (by simp) ok1 ?_
    have := wpL_lates (P := P) (S := fun w => Own B R w) (T := fun a4 w4 => wpOps P ops Q ts a4 w4) (w := w.drew) hsel hQ hR ls (l1 ++ l2) _ a1 ok1 (fun a2 ⟨Φ1, Φ2, t1, t2, hK⟩ _ => ?_) h1
    · rw [List.length_append]
      exact wpL_two hsel (l1.length + l2.length) l1 l2 _ a2 _ Φ1 Φ2 A1 A2 rfl k1 k2 ok2 t1 t2 hsz hO fun vs1 A1' vs2 A2' w' p1 p2 ho hb => wpOps_list ts _ w' hts (hK vs1 A1' vs2 A2' w' p1 p2 ho ((Below.refl B w).drew.trans hb))
    · rw [List.length_append] at this
      exact this
  rw [← hf] at hgo
  exact hgo

/-- A step that makes memory, or turns what the thread owns. -/
theorem tw_run {o : Oper} {l : List Oper} {Φ : List Value → HP → Prop} {a : Act} {A : HP} [k : Loc B A] (Ψ : Value → HP → Prop) (hw : Region.wanted o (yielded ops a.tmps) = true)
    (hr : ∀ (R : HP) [Loc B R] (w : World), B ≤ w.heap.size → Own B (A * R) w → ∃ v A' w', (execOp a.eval o).run P w = .ok (.value v) w' ∧ (Loc B A' ∧ Ψ v A') ∧ Own B (A' * R) w' ∧ Below B w w')
    (h : ∀ v A', Loc B A' → Ψ v A' → TW P ops B l (fun vs => Φ (v :: vs)) (a.put o.dst v) A') : TW P ops B (o :: l) Φ a A :=
  ⟨k, .inl ⟨hw, fun R _ w hB hO => by
    obtain ⟨v, A', w', he, ⟨kl, hp⟩, ho, hb⟩ := hr R w hB hO
    rw [he]
    exact ⟨A', ⟨kl, h v A' kl hp⟩, ho, hb⟩⟩⟩

theorem exec_append {o : Oper} {a : Act} {w w' : World} (s x : Operand) (t : TypeId) {v u v' : Value} (ho : o.op = .call { callee := .builtin .append, args := #[s, x], argTypes := #[t, t] }) (hs : a.eval s = v) (hx : a.eval x = u)
    (hr : (Builtin.append_ #[t, t] o.type #[v, u]).run P w = .ok v' w') : (execOp a.eval o).run P w = .ok (.value v') w' := by
  unfold execOp
  simp only [ho, resolve, invoke, builtin, Sem.run_bind, Sem.run_pure, Result.andThen_ok, List.map_toArray, List.map_cons, List.map_nil, hs, hx, hr]
end
end Go.Proofs.Ytedcficjmogohaa

/- Appending one owned row of bytes to another one. -/
namespace Go.Proofs.Ytedcficjmogohaa
set_option linter.unusedVariables false
set_option linter.unusedSimpArgs false
set_option maxRecDepth 100000
open Go.RowKit
/-- A cell of an owned row is written. -/
theorem append_two {B : Nat} {R : HP} [Loc B R] {w : World} (hB : B ≤ w.heap.size) {v u : Value} {l l2 : List Int} (h : Own B (Rw 5 1 v l.length (bytesV l) * (Rw 5 1 u l2.length (bytesV l2) * R)) w) (hl : l.length + l2.length ≤ 140737488355328) :
    ∃ v' w', (Builtin.append_ #[22, 22] 22 #[v, u]).run Try.prog w = .ok v' w' ∧ Own B (Rw 5 1 v' (l ++ l2).length (bytesV (l ++ l2)) * (Rw 5 1 u l2.length (bytesV l2) * R)) w' ∧ Below B w w' := by
  obtain ⟨i0, hi, hz0, hz1, hz2⟩ := info_parts info5
  have hsrc := (h.cast (sep_left_comm _ _ _)).row
  rcases hsrc.2 with ⟨rfl, hn⟩ | ⟨g, cap, cur, rfl, _⟩
  · obtain rfl : l2 = [] := List.eq_nil_of_length_eq_zero hn
    refine ⟨v, w, run_append_owned_none (P := Try.prog) w B 22 22 5 i0 1 Try.underlying22 hi v l.length (bytesV l) h.row, by simpa using h, Below.refl B w⟩
  · have hlen : (bytesV l2).length = l2.length := by simp [bytesV]
    obtain ⟨v', w', hr, h2, h3, _, h5⟩ := run_append_own_at (P := Try.prog) w B 22 22 5 i0 _ 1 1 Try.underlying22 hi hz0 hz1 hz2 rfl (by omega) v l.length (bytesV l) h.row
      ⟨g, 0, none⟩ l2.length cap (bytesV l2) (by rw [hlen]; omega) (by
        intro j x hj
        have := hsrc.cells (g := g) rfl j x hj
        simpa [Addr.add] using this) (by intro x hx; obtain ⟨y, _, rfl⟩ := List.mem_map.1 hx; rfl) (by unfold maxLen; omega) (by omega) hB
    have h6 := Own.appended hB h h2 h3 h5
    refine ⟨v', w', hr, ?_, h6.2⟩
    have := h6.1
    simpa [bytesV] using this
end Go.Proofs.Ytedcficjmogohaa
