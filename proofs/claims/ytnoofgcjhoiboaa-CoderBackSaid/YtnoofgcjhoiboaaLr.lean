/- What a reader keeps, whatever is taken: plain laws of its states. -/
import Derived.Test.YtnoofgcjhoiboaaCz
namespace Go.Proofs.Ytnoofgcjhoiboaa
set_option linter.unusedVariables false
set_option linter.unusedSimpArgs false
open Go.RowKit

/-- What is read of L bytes: no more is left than may be; what is missing is told. -/
structure RS.raw (L : Nat) (s : RS) : Prop where
  live : s.live
  left : s.rem.length ≤ L - 4
  err : s.e = 0 ∨ s.e = 2 ∧ s.rem = []
  short : L < 4 → s.e = 2

theorem nextS_raw {L : Nat} {s : RS} (h0 : s.rem.length ≤ L - 4) (h1 : s.e = 0 ∨ s.e = 2 ∧ s.rem = []) (h2 : L < 4 → s.e = 2) :
    (nextS s).rem.length ≤ L - 4 ∧ ((nextS s).e = 0 ∨ (nextS s).e = 2 ∧ (nextS s).rem = []) ∧ (L < 4 → (nextS s).e = 2) := by
  obtain ⟨rem, n, width, e⟩ := s
  cases rem with
  | nil => exact ⟨by simp [nextS], Or.inr ⟨rfl, rfl⟩, fun _ => rfl⟩
  | cons c l =>
    simp at h0 h1 h2
    refine ⟨by show l.length ≤ _; omega, Or.inl h1, h2⟩

theorem takeS_raw {L : Nat} {s : RS} {bound : Int} (h : s.raw L) (b0 : 65536 ≤ bound) (b1 : bound + 65536 ≤ s.width) : (takeS s bound).raw L := by
  have hl := takeS_live h.live b0 b1
  have e1 : (takeT s bound).rem = s.rem := by unfold takeT; split <;> rfl
  have e2 : (takeT s bound).e = s.e := by unfold takeT; split <;> rfl
  unfold takeS at hl ⊢
  split at hl <;> rename_i hw
  · obtain ⟨a, b, c⟩ := nextS_raw (L := L) (s := { takeT s bound with width := (takeT s bound).width * 256 }) (by show (takeT s bound).rem.length ≤ _; rw [e1]; exact h.left) (by show (takeT s bound).e = 0 ∨ (takeT s bound).e = 2 ∧ (takeT s bound).rem = []; rw [e1, e2]; exact h.err) (by show L < 4 → (takeT s bound).e = 2; rw [e2]; exact h.short)
    rw [if_pos hw]
    exact ⟨hl, a, b, c⟩
  · rw [if_neg hw]
    exact ⟨hl, by rw [e1]; exact h.left, by rw [e1, e2]; exact h.err, by rw [e2]; exact h.short⟩

theorem evenBound_in {s : RS} (h : s.live) : 65536 ≤ s.width / 2 ∧ s.width / 2 + 65536 ≤ s.width := by
  have := h.wide
  omega

theorem rEven_raw {L : Nat} : ∀ (k : Nat) (s : RS) (a : Nat), s.raw L → (rEven k s a).2.raw L
  | 0, _, _, h => h
  | k + 1, s, a, h => rEven_raw k _ _ (takeS_raw h (evenBound_in h.live).1 (evenBound_in h.live).2)
theorem rEven_lt : ∀ (k : Nat) (s : RS) (a : Nat), (rEven k s a).1 < (a + 1) * 2 ^ k
  | 0, s, a => by simp [rEven]
  | k + 1, s, a => by
    have ih := rEven_lt k (takeS s (s.width / 2)) (2 * a + (takeBit s (s.width / 2)).toNat)
    have h1 := takeBit_01 s (s.width / 2)
    have h2 : (takeBit s (s.width / 2)).toNat ≤ 1 := by omega
    have e2 : (a + 1) * 2 ^ (k + 1) = (2 * a + 2) * 2 ^ k := by rw [Nat.pow_succ, show 2 * a + 2 = (a + 1) * 2 by omega, Nat.mul_assoc, Nat.mul_comm 2 (2 ^ k)]
    rw [e2]
    exact Nat.lt_of_lt_of_le ih (Nat.mul_le_mul_right _ (by omega))
theorem rTree_raw {L : Nat} : ∀ (k : Nat) (s : RS) (cl : List Int) (a : Nat), s.raw L → chOk cl → (rTree k s cl a).2.1.raw L ∧ chOk (rTree k s cl a).2.2 ∧ (rTree k s cl a).2.2.length = cl.length
  | 0, _, _, _, h, hc => ⟨h, hc, rfl⟩
  | k + 1, s, cl, a, h, hc => by
    have hb := rBound_in h.live (chOk_get hc a)
    have h1 := takeS_raw h hb.1 hb.2
    have h2 : chOk (cl.set a (sawN (cl.getD a 0) (takeBit s (rBound s (cl.getD a 0))))) := chOk_set hc _ _ (sawN_ok _ _ (chOk_get hc a))
    obtain ⟨x, y, z⟩ := rTree_raw (L := L) k _ _ (2 * a + (takeBit s (rBound s (cl.getD a 0))).toNat) h1 h2
    exact ⟨x, y, by rw [show rTree (k + 1) s cl a = rTree k _ _ _ from rfl, z]; simp⟩

theorem openS_width (l : List Int) : (openS l).width = 4294967295 := by
  show (nextS (nextS (nextS (nextS (open0 l))))).width = _
  simp only [nextS_width]
  rfl
theorem openS_live {l : List Int} (hb : bytesOk l) : (openS l).live := by
  refine ⟨nextN_ok 4 _ ⟨hb, by show (0 : Int) ≤ 0; omega, by show (0 : Int) < 18446744073709551616; omega, by show (0 : Int) ≤ 4294967295; omega, by show (4294967295 : Int) < 4294967296; omega⟩, ?_⟩
  rw [openS_width]; decide
theorem openS_raw {l : List Int} (hb : bytesOk l) : (openS l).raw l.length := by
  refine ⟨openS_live hb, ?_, ?_, ?_⟩ <;>
  · match l with
    | [] => simp [openS, nextN, nextS, open0]
    | [a] => simp [openS, nextN, nextS, open0]
    | [a, b] => simp [openS, nextN, nextS, open0]
    | [a, b, c] => simp [openS, nextN, nextS, open0]
    | a :: b :: c :: d :: t => simp [openS, nextN, nextS, open0]
end Go.Proofs.Ytnoofgcjhoiboaa
