/- What was put is taken: plain laws of the writer's and the reader's states. -/
import Derived.Test.YtnoofgcjhoiboaaP1
import Derived.Test.YtnoofgcjhoiboaaLr
namespace Go.Proofs.Ytnoofgcjhoiboaa
set_option linter.unusedVariables false
set_option linter.unusedSimpArgs false
open Go.RowKit

/-! bytes as a number -/
def numR : List Int → Int
  | [] => 0
  | c :: l => c + 256 * numR l
def num (l : List Int) : Int := numR l.reverse
theorem numR_append : ∀ a b : List Int, numR (a ++ b) = numR a + 256 ^ a.length * numR b
  | [], b => by simp [numR]
  | c :: a, b => by
    show c + 256 * numR (a ++ b) = c + 256 * numR a + 256 ^ (a.length + 1) * numR b
    rw [numR_append a b, Int.pow_succ, Int.mul_add, Int.mul_comm (256 ^ a.length) 256, Int.mul_assoc]
    omega
theorem num_append (a b : List Int) : num (a ++ b) = num a * 256 ^ b.length + num b := by
  unfold num
  rw [List.reverse_append, numR_append, List.length_reverse, Int.mul_comm]
  omega
theorem num_snoc (a : List Int) (c : Int) : num (a ++ [c]) = num a * 256 + c := by
  rw [num_append, show num [c] = c by show c + 256 * 0 = c; omega, show (256 : Int) ^ [c].length = 256 from rfl]
theorem p256 : ∀ n : Nat, (1 : Int) ≤ 256 ^ n
  | 0 => by rw [Int.pow_zero]; omega
  | n + 1 => by rw [Int.pow_succ]; have := p256 n; omega
theorem numR_range : ∀ l : List Int, bytesOk l → 0 ≤ numR l ∧ numR l < 256 ^ l.length
  | [], _ => by simp [numR]
  | c :: l, h => by
    have hc := h c List.mem_cons_self
    have ih := numR_range l (fun x hx => h x (List.mem_cons_of_mem _ hx))
    show 0 ≤ c + 256 * numR l ∧ c + 256 * numR l < 256 ^ (l.length + 1)
    rw [Int.pow_succ]
    generalize (256 : Int) ^ l.length = P at ih
    omega
theorem bytesOk_rev {l : List Int} (h : bytesOk l) : bytesOk l.reverse := fun x hx => h x (List.mem_reverse.1 hx)
theorem num_range {l : List Int} (h : bytesOk l) : 0 ≤ num l ∧ num l < 256 ^ l.length := by
  have := numR_range l.reverse (bytesOk_rev h)
  rwa [List.length_reverse] at this
theorem numR_carry : ∀ l : List Int, bytesOk l → numR (carryR l) = numR l + 1 ∨ numR l + 1 = 256 ^ l.length
  | [], _ => by right; simp [numR]
  | c :: l, h => by
    have ih := numR_carry l (fun x hx => h x (List.mem_cons_of_mem _ hx))
    unfold carryR
    split
    · rename_i hc
      subst hc
      show (0 + 256 * numR (carryR l) = 255 + 256 * numR l + 1) ∨ (255 + 256 * numR l + 1 = 256 ^ (l.length + 1))
      rw [Int.pow_succ]
      generalize (256 : Int) ^ l.length = P at ih
      omega
    · left
      show c + 1 + 256 * numR l = c + 256 * numR l + 1
      omega
theorem num_carry {l : List Int} (h : bytesOk l) (hn : num l + 1 < 256 ^ l.length) : num (carryL l) = num l + 1 := by
  unfold num carryL
  rw [List.reverse_reverse]
  rcases numR_carry l.reverse (bytesOk_rev h) with h1 | h1
  · exact h1
  · rw [List.length_reverse] at h1
    unfold num at hn
    omega

/-! the place of a state among all numbers -/
def Lr (r : RW) : Int := num r.out * 4294967296 + r.low
structure RW.good (r : RW) (room : Int) : Prop where
  ok : r.ok room
  fit : Lr r + r.width ≤ 256 ^ (r.out.length + 4)
theorem p256_4 (n : Nat) : (256 : Int) ^ (n + 4) = 256 ^ n * 4294967296 := by
  rw [Int.pow_succ, Int.pow_succ, Int.pow_succ, Int.pow_succ, Int.mul_assoc, Int.mul_assoc, Int.mul_assoc]
  rfl

/-- The end's number lies where the state says. -/
def Pt (r rT : RW) : Prop := ∃ d : Nat, rT.out.length = r.out.length + d ∧ Lr r * 256 ^ d ≤ Lr rT ∧ Lr rT < (Lr r + r.width) * 256 ^ d
theorem Pt.self {r : RW} (h : 0 < r.width) : Pt r r := ⟨0, rfl, by simp, by simp; omega⟩

theorem mid_parts {r : RW} {b : Int} (bit : Int) {room : Int} (g : r.good (room + 1)) (b0 : 65536 ≤ b) (b1 : b + 65536 ≤ r.width) :
    Lr (rcarry (rput1 r b bit)) = (if bit = 0 then Lr r else Lr r + b) ∧ (rcarry (rput1 r b bit)).width = (if bit = 0 then b else r.width - b) ∧ (rcarry (rput1 r b bit)).out.length = r.out.length := by
  obtain ⟨⟨ob, ol, l0, l1, w0, w1, sm⟩, fit⟩ := g
  obtain ⟨out, low, width⟩ := r
  simp only [Lr] at *
  rw [p256_4] at fit
  by_cases hbit : bit = 0
  · rw [if_pos hbit, if_pos hbit]
    have e : rcarry (rput1 ⟨out, low, width⟩ b bit) = ⟨out, low, b⟩ := by unfold rcarry rput1; rw [if_pos hbit, if_neg (by show ¬ 4294967296 ≤ low; omega)]
    rw [e]
    exact ⟨rfl, rfl, rfl⟩
  · rw [if_neg hbit, if_neg hbit]
    by_cases hcar : 4294967296 ≤ low + b
    · have e : rcarry (rput1 ⟨out, low, width⟩ b bit) = ⟨carryL out, low + b - 4294967296, width - b⟩ := by unfold rcarry rput1; rw [if_neg hbit, if_pos (by show 4294967296 ≤ low + b; omega)]
      rw [e]
      have hc := num_carry ob (by generalize (256 : Int) ^ out.length = P at fit ⊢; omega)
      refine ⟨?_, rfl, carryL_len out⟩
      show num (carryL out) * 4294967296 + (low + b - 4294967296) = _
      rw [hc]
      omega
    · have e : rcarry (rput1 ⟨out, low, width⟩ b bit) = ⟨out, low + b, width - b⟩ := by unfold rcarry rput1; rw [if_neg hbit, if_neg (by show ¬ 4294967296 ≤ low + b; omega)]
      rw [e]
      refine ⟨?_, rfl, rfl⟩
      show num out * 4294967296 + (low + b) = _
      omega

theorem norm_parts {r : RW} (h0 : 0 ≤ r.low) : (r.width < 16777216 → Lr (rnorm r) = Lr r * 256 ∧ (rnorm r).width = r.width * 256 ∧ (rnorm r).out.length = r.out.length + 1) ∧ (¬ r.width < 16777216 → rnorm r = r) := by
  constructor
  · intro h
    unfold rnorm
    rw [if_pos h]
    refine ⟨?_, rfl, by simp⟩
    show num (r.out ++ [r.low / 16777216]) * 4294967296 + r.low % 16777216 * 256 = (num r.out * 4294967296 + r.low) * 256
    rw [num_snoc]
    omega
  · intro h
    unfold rnorm
    rw [if_neg h]

theorem put_good {r : RW} {b : Int} (bit : Int) {room : Int} (g : r.good (room + 1)) (b0 : 65536 ≤ b) (b1 : b + 65536 ≤ r.width) : (rput r b bit).good room := by
  refine ⟨(rput_ok bit g.ok b0 b1).1, ?_⟩
  obtain ⟨m1, m2, m3⟩ := mid_parts bit g b0 b1
  have hf := (rput1_facts bit g.ok b0 b1).1.low0
  have fit := g.fit
  have hle : Lr (rcarry (rput1 r b bit)) + (rcarry (rput1 r b bit)).width ≤ 256 ^ (r.out.length + 4) := by
    rw [m1, m2]
    split <;> omega
  obtain ⟨n1, n2⟩ := norm_parts hf
  unfold rput
  by_cases hw : (rcarry (rput1 r b bit)).width < 16777216
  · obtain ⟨e1, e2, e3⟩ := n1 hw
    rw [e1, e2, e3, m3, show r.out.length + 1 + 4 = (r.out.length + 4) + 1 by omega, Int.pow_succ]
    generalize (256 : Int) ^ (r.out.length + 4) = P at hle
    omega
  · rw [n2 hw, m3]
    exact hle

/-- Behind a bit: where the end's number lies ahead of it, and on which side. -/
theorem pt_mid {r rT : RW} {b : Int} (bit : Int) {room : Int} (g : r.good (room + 1)) (b0 : 65536 ≤ b) (b1 : b + 65536 ≤ r.width) (h : Pt (rput r b bit) rT) :
    ∃ d : Nat, rT.out.length = r.out.length + d ∧ Lr (rcarry (rput1 r b bit)) * 256 ^ d ≤ Lr rT ∧ Lr rT < (Lr (rcarry (rput1 r b bit)) + (rcarry (rput1 r b bit)).width) * 256 ^ d ∧ ((rcarry (rput1 r b bit)).width < 16777216 → 0 < d) := by
  obtain ⟨m1, m2, m3⟩ := mid_parts bit g b0 b1
  have hf := (rput1_facts bit g.ok b0 b1).1.low0
  obtain ⟨n1, n2⟩ := norm_parts hf
  obtain ⟨d, hd, h1, h2⟩ := h
  unfold rput at hd h1 h2
  by_cases hw : (rcarry (rput1 r b bit)).width < 16777216
  · obtain ⟨e1, e2, e3⟩ := n1 hw
    rw [e3, m3] at hd
    rw [e1] at h1
    rw [e1, e2, ← Int.add_mul] at h2
    refine ⟨d + 1, by omega, ?_, ?_, fun _ => by omega⟩
    · rw [Int.pow_succ, Int.mul_comm (256 ^ d) 256, ← Int.mul_assoc]; exact h1
    · rw [Int.pow_succ, Int.mul_comm (256 ^ d) 256, ← Int.mul_assoc]; exact h2
  · rw [n2 hw] at hd h1 h2
    rw [m3] at hd
    exact ⟨d, hd, h1, h2, fun h => absurd h hw⟩
theorem pt_back {r rT : RW} {b : Int} (bit : Int) {room : Int} (g : r.good (room + 1)) (b0 : 65536 ≤ b) (b1 : b + 65536 ≤ r.width) (h : Pt (rput r b bit) rT) : Pt r rT := by
  obtain ⟨d, hd, h1, h2, _⟩ := pt_mid bit g b0 b1 h
  obtain ⟨m1, m2, m3⟩ := mid_parts bit g b0 b1
  have hp := p256 d
  refine ⟨d, hd, ?_, ?_⟩
  · refine Int.le_trans (Int.mul_le_mul_of_nonneg_right ?_ (by omega)) h1
    rw [m1]; split <;> omega
  · refine Int.lt_of_lt_of_le h2 (Int.mul_le_mul_of_nonneg_right ?_ (by omega))
    rw [m1, m2]; split <;> omega

/-- A reader stands where the writer stood. -/
structure Dec (r : RW) (q : RS) (fb : List Int) : Prop where
  pre : ∃ pre, fb = pre ++ q.rem ∧ pre.length = r.out.length + 4 ∧ num pre = Lr r + q.n
  width : q.width = r.width
  e : q.e = 0
  live : q.live

theorem num_rend {rT : RW} (h0 : 0 ≤ rT.low) (h1 : rT.low < 4294967296) : num (rend rT) = Lr rT := by
  unfold rend Lr
  rw [num_append]
  have : num [rT.low / 16777216, rT.low / 65536 % 256, rT.low / 256 % 256, rT.low % 256] = rT.low := by
    show rT.low % 256 + 256 * (rT.low / 256 % 256 + 256 * (rT.low / 65536 % 256 + 256 * (rT.low / 16777216 + 256 * 0))) = rT.low
    omega
  rw [this]
  show num rT.out * (256 : Int) ^ 4 + rT.low = _
  rw [show (256 : Int) ^ 4 = 4294967296 by decide]

theorem dec_step {r rT : RW} {q : RS} {b bit : Int} {room roomT : Int} (g : r.good (room + 1)) (gT : rT.ok roomT) (b0 : 65536 ≤ b) (b1 : b + 65536 ≤ r.width) (hbit : bit = 0 ∨ bit = 1) (hp : Pt (rput r b bit) rT) (hd : Dec r q (rend rT)) :
    takeBit q b = bit ∧ Dec (rput r b bit) (takeS q b) (rend rT) := by
  obtain ⟨d, hdl, p1, p2, p3⟩ := pt_mid bit g b0 b1 hp
  obtain ⟨m1, m2, m3⟩ := mid_parts bit g b0 b1
  have hf := (rput1_facts bit g.ok b0 b1).1.low0
  obtain ⟨n1, n2⟩ := norm_parts hf
  obtain ⟨⟨pre, e1, e2, e3⟩, hw, he, hl⟩ := hd
  have hnum := num_rend gT.low0 gT.low1
  have hlen : (rend rT).length = rT.out.length + 4 := by simp [rend]
  have hrem : q.rem.length = d := by
    rw [e1, List.length_append] at hlen
    omega
  have hrb := num_range (l := q.rem) hl.ok.bytes
  rw [e1, num_append, hrem] at hnum
  rw [hrem] at hrb
  have hq := p256 d
  generalize hQ : (256 : Int) ^ d = Q at *
  have hlow : ∀ x : Int, x * Q ≤ Lr rT → x ≤ num pre := fun x hx => by
    by_cases h : x ≤ num pre
    · exact h
    · have := Int.mul_le_mul_of_nonneg_right (show num pre + 1 ≤ x by omega) (show 0 ≤ Q by omega)
      rw [Int.add_mul] at this
      omega
  have hupp : ∀ x : Int, Lr rT < x * Q → num pre < x := fun x hx => by
    by_cases h : num pre < x
    · exact h
    · have := Int.mul_le_mul_of_nonneg_right (show x ≤ num pre by omega) (show 0 ≤ Q by omega)
      omega
  have k1 := hlow _ p1
  have k2 := hupp _ p2
  have hbitq : takeBit q b = bit := by
    unfold takeBit
    rw [m1, m2] at k2
    rw [m1] at k1
    rcases hbit with rfl | rfl
    · simp only [if_true] at k2
      rw [if_pos (by omega)]
    · rw [if_neg (by decide)] at k1
      rw [if_neg (by omega)]
  refine ⟨hbitq, ?_⟩
  have hlive : (takeS q b).live := takeS_live hl b0 (by rw [hw]; exact b1)
  have t1 : (takeT q b).width = (rcarry (rput1 r b bit)).width ∧ num pre = Lr (rcarry (rput1 r b bit)) + (takeT q b).n ∧ (takeT q b).rem = q.rem ∧ (takeT q b).e = q.e := by
    unfold takeBit at hbitq
    unfold takeT
    rw [m1, m2]
    rcases hbit with rfl | rfl
    · split at hbitq
      · rename_i h
        rw [if_pos h, if_pos rfl, if_pos rfl]
        exact ⟨rfl, e3, rfl, rfl⟩
      · cases hbitq
    · split at hbitq
      · cases hbitq
      · rename_i h
        rw [if_neg h, if_neg (by decide), if_neg (by decide)]
        exact ⟨by show q.width - b = _; rw [hw], by show num pre = Lr r + b + (q.n - b); omega, rfl, rfl⟩
  obtain ⟨t1, t2, t3, t4⟩ := t1
  unfold takeS at hlive ⊢
  unfold rput
  by_cases hsm : (rcarry (rput1 r b bit)).width < 16777216
  · obtain ⟨x1, x2, x3⟩ := n1 hsm
    rw [if_pos (by rw [t1]; exact hsm)] at hlive ⊢
    have hd0 := p3 hsm
    obtain ⟨c, rem', hc⟩ : ∃ c rem', q.rem = c :: rem' := by
      cases hr : q.rem with
      | nil => rw [hr] at hrem; simp at hrem; omega
      | cons c l => exact ⟨c, l, rfl⟩
    have hn0 : 0 ≤ (takeT q b).n := by omega
    have htk : tkN q b = { takeT q b with width := (takeT q b).width * 256, rem := rem', n := (takeT q b).n * 256 % 18446744073709551616 + c } := by
      unfold tkN nextS
      show (match (takeT q b).rem with | [] => _ | c :: l => _) = _
      rw [t3, hc]
    rw [htk] at hlive ⊢
    refine ⟨⟨pre ++ [c], by rw [e1, hc]; simp, by rw [List.length_append, x3, m3, e2]; show r.out.length + 4 + 1 = _; omega, ?_⟩, by rw [x2, ← t1], by show (takeT q b).e = 0; rw [t4]; exact he, hlive⟩
    rw [num_snoc, x1]
    show num pre * 256 + c = _ + ((takeT q b).n * 256 % 18446744073709551616 + c)
    rw [Int.emod_eq_of_lt (by omega) (by omega)]
    omega
  · rw [n2 hsm]
    rw [if_neg (by rw [t1]; exact hsm)] at hlive ⊢
    exact ⟨⟨pre, by rw [t3]; exact e1, by rw [m3]; exact e2, t2⟩, t1, by rw [t4]; exact he, hlive⟩
end Go.Proofs.Ytnoofgcjhoiboaa
